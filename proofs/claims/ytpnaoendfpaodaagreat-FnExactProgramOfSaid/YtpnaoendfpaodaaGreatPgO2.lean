/- The program's ProgramOf returns what the reference's returns, for all arguments. No condition. -/
import Derived.Test.YtpnaoendfpaodaaGreatPgO1
section
namespace Go.Proofs.YtpnaoendfpaodaaGreat
open Go Go.Proofs.YtpnaoendfpaodaaGreat.Ab
set_option linter.unusedVariables false
set_option linter.unusedSimpArgs false
set_option maxHeartbeats 4000000
abbrev P_c_sSizC (c : Core) : Ct := ⟨159, [], [coreA c], [], .sv (li (sizeC c))⟩
def lc_sSizC_sLa (c : Core) : Lp Nat := .mk 19 0 (fun x => [(3, hs x 1), (7, ll (List.map coreC c.kids)), (8, li (↑(List.map coreC c.kids).length : Int)), (9, hs x 0)]) (fun x =>
 []) (fun k => [.s (li (↑k : Int)), .s (li (↑(1 + sumBy sizeC (List.take k c.kids)) : Int))]) (fun k => k ≤ c.kids.length ∧ c.kids.length ≤ 9223372036854775807) (fun k =>
 c.kids.length - k) [.mk True (.exit 0) (fun x => [(3, hs x 0)]) (fun x => []) [.s (li (↑(1 + sumBy sizeC c.kids) : Int))]]
theorem Sc_sSizC_sLa (c : Core) (h : sizeC c ≤ 2147483647) (ih : ∀ (z : Core), z ∈ c.kids → sizeC z ≤ 2147483647 → OK (P_c_sSizC z)) : Lp.Sem Tryz.prog (loopAt Tryz.f159 0)
 (lc_sSizC_sLa c) := lpOK (fun k => .i ((↑k : Int) < (↑(List.map coreC c.kids).length : Int)) (.x (↑k : Int) (List.map coreC c.kids) (coreF (c.kids.getD k default)) (.d [.rd]
 (P_c_sSizC (c.kids.getD k default)) (.r ((↑(1 + sumBy sizeC (List.take k c.kids)) : Int) + (↑(sizeC (c.kids.getD k default)) : Int)) (.r ((↑k : Int) + 1) (.g [] (k + 1) [.s (li
 ((↑k : Int) + 1)), .s (li ((↑(1 + sumBy sizeC (List.take k c.kids)) : Int) + (↑(sizeC (c.kids.getD k default)) : Int)))]))))) (.o 0 [] [.s (li (↑(1 + sumBy sizeC (List.take k
 c.kids)) : Int))])) (by
  intro k h; try dsimp only [teasy, nthW, lc_sSizC_sLa] at h ⊢
  have g1 := sizeC_eq c
  have g2 := sumBy_takeLe sizeC c.kids (k + 1)
  have g3 := @sumBy_step _ _ sizeC c.kids k
  have g4 := @sumBy_mem _ sizeC c.kids (c.kids.getD k default)
  with_reducible repeat' (first | apply And.intro | exact zR | exact ih | (intro; skip) | apply mIc | apply mOc | apply mSc | apply mLc | apply ih)
  all_goals (try simp only [std, inj] at *)
  all_goals with_reducible repeat' apply And.intro
  all_goals (try (first | with_reducible apply ih | (simp only [← List.map_append]; first | with_reducible apply ih)))
  all_goals (try (first | exact z | exact zM | grind [getD_mem', snocI, snocS, rowSnoc])))
theorem c_sSizC_s (c : Core) (h : sizeC c ≤ 2147483647) (ih : ∀ z ∈ c.kids, ∀ (h : sizeC z ≤ 2147483647), P_c_sSizC z)  : P_c_sSizC c := fnOK Tryz.call159 Tryz.func159 (.z coreC
 c.kids (.l (lc_sSizC_sLa c) (Sc_sSizC_sLa c h ih) [] [.s (li 0), .s (li 1)] 0 (.t (.s (li (↑(1 + sumBy sizeC c.kids) : Int))) .q))) (by
  dsimp only [teasy, P_c_sSizC, nthW, lc_sSizC_sLa]
  have g1 := sizeC_eq c
  have g2 : sumBy sizeC (c.kids.take 0) = 0 := rfl
  with_reducible repeat' (first | apply And.intro | exact zR | exact ih | (intro; skip) | apply mIc | apply mOc | apply mSc | apply mLc)
  all_goals (try simp only [std, inj] at *)
  all_goals with_reducible repeat' apply And.intro
  all_goals (try (first | with_reducible apply ih | (simp only [← List.map_append]; first | with_reducible apply ih)))
  all_goals (try (first | exact z | exact zM | grind [snocI, snocS, rowSnoc])))
theorem c_sSizC (c : Core) : ∀ (h : sizeC c ≤ 2147483647), P_c_sSizC c := Core.ind (P := fun c => ∀ (h : sizeC c ≤ 2147483647), P_c_sSizC c) (fun c ih h => c_sSizC_s c h ih) c
abbrev P_c_iSizC (c : Core) : Ct := ⟨172, [], [coreA c], [], .sv (li (sizeC c))⟩
def lc_iSizC_sLa (c : Core) : Lp Nat := .mk 19 0 (fun x => [(3, hs x 1), (7, ll (List.map coreC c.kids)), (8, li (↑(List.map coreC c.kids).length : Int)), (9, hs x 0)]) (fun x =>
 []) (fun k => [.s (li (↑k : Int)), .s (li (↑(1 + sumBy sizeC (List.take k c.kids)) : Int))]) (fun k => k ≤ c.kids.length ∧ c.kids.length ≤ 9223372036854775807) (fun k =>
 c.kids.length - k) [.mk True (.exit 0) (fun x => [(3, hs x 0)]) (fun x => []) [.s (li (↑(1 + sumBy sizeC c.kids) : Int))]]
theorem Sc_iSizC_sLa (c : Core) (h : sizeC c ≤ 2147483647) (ih : ∀ (z : Core), z ∈ c.kids → sizeC z ≤ 2147483647 → OK (P_c_iSizC z)) : Lp.Sem Tryz.prog (loopAt Tryz.f172 0)
 (lc_iSizC_sLa c) := lpOK (fun k => .i ((↑k : Int) < (↑(List.map coreC c.kids).length : Int)) (.x (↑k : Int) (List.map coreC c.kids) (coreF (c.kids.getD k default)) (.d [.rd]
 (P_c_iSizC (c.kids.getD k default)) (.r ((↑(1 + sumBy sizeC (List.take k c.kids)) : Int) + (↑(sizeC (c.kids.getD k default)) : Int)) (.r ((↑k : Int) + 1) (.g [] (k + 1) [.s (li
 ((↑k : Int) + 1)), .s (li ((↑(1 + sumBy sizeC (List.take k c.kids)) : Int) + (↑(sizeC (c.kids.getD k default)) : Int)))]))))) (.o 0 [] [.s (li (↑(1 + sumBy sizeC (List.take k
 c.kids)) : Int))])) (by
  intro k h; try dsimp only [teasy, nthW, lc_iSizC_sLa] at h ⊢
  have g1 := sizeC_eq c
  have g2 := sumBy_takeLe sizeC c.kids (k + 1)
  have g3 := @sumBy_step _ _ sizeC c.kids k
  have g4 := @sumBy_mem _ sizeC c.kids (c.kids.getD k default)
  with_reducible repeat' (first | apply And.intro | exact zR | exact ih | (intro; skip) | apply mIc | apply mOc | apply mSc | apply mLc | apply ih)
  all_goals (try simp only [std, inj] at *)
  all_goals with_reducible repeat' apply And.intro
  all_goals (try (first | with_reducible apply ih | (simp only [← List.map_append]; first | with_reducible apply ih)))
  all_goals (try (first | exact z | exact zM | grind [getD_mem', snocI, snocS, rowSnoc])))
theorem c_iSizC_s (c : Core) (h : sizeC c ≤ 2147483647) (ih : ∀ z ∈ c.kids, ∀ (h : sizeC z ≤ 2147483647), P_c_iSizC z)  : P_c_iSizC c := fnOK Tryz.call172 Tryz.func172 (.z coreC
 c.kids (.l (lc_iSizC_sLa c) (Sc_iSizC_sLa c h ih) [] [.s (li 0), .s (li 1)] 0 (.t (.s (li (↑(1 + sumBy sizeC c.kids) : Int))) .q))) (by
  dsimp only [teasy, P_c_iSizC, nthW, lc_iSizC_sLa]
  have g1 := sizeC_eq c
  have g2 : sumBy sizeC (c.kids.take 0) = 0 := rfl
  with_reducible repeat' (first | apply And.intro | exact zR | exact ih | (intro; skip) | apply mIc | apply mOc | apply mSc | apply mLc)
  all_goals (try simp only [std, inj] at *)
  all_goals with_reducible repeat' apply And.intro
  all_goals (try (first | with_reducible apply ih | (simp only [← List.map_append]; first | with_reducible apply ih)))
  all_goals (try (first | exact z | exact zM | grind [snocI, snocS, rowSnoc])))
theorem c_iSizC (c : Core) : ∀ (h : sizeC c ≤ 2147483647), P_c_iSizC c := Core.ind (P := fun c => ∀ (h : sizeC c ≤ 2147483647), P_c_iSizC c) (fun c ih h => c_iSizC_s c h ih) c
abbrev P_c_iDepC (c : Core) : Ct := ⟨170, [], [coreA c], [], .sv (li (depC c))⟩
def lc_iDepC_sLa (c : Core) : Lp Nat := .mk 20 0 (fun x => [(3, hs x 1), (7, ll (List.map coreC c.kids)), (8, li (↑(List.map coreC c.kids).length : Int)), (9, hs x 0)]) (fun x =>
 []) (fun k => [.s (li (↑k : Int)), .s (li (↑(maxBy depC (List.take k c.kids)) : Int))]) (fun k => k ≤ c.kids.length ∧ c.kids.length ≤ 9223372036854775807) (fun k => c.kids.length
 - k) [.mk True (.exit 0) (fun x => [(3, hs x 0)]) (fun x => []) [.s (li (↑(maxBy depC c.kids) : Int))]]
theorem Sc_iDepC_sLa (c : Core) (h : sizeC c ≤ 2147483647) (ih : ∀ (z : Core), z ∈ c.kids → sizeC z ≤ 2147483647 → OK (P_c_iDepC z)) : Lp.Sem Tryz.prog (loopAt Tryz.f170 0)
 (lc_iDepC_sLa c) := lpOK (fun k => .i ((↑k : Int) < (↑(List.map coreC c.kids).length : Int)) (.x (↑k : Int) (List.map coreC c.kids) (coreF (c.kids.getD k default)) (.d [.rd]
 (P_c_iDepC (c.kids.getD k default)) (.r ((↑k : Int) + 1) (.g [] (k + 1) [.s (li ((↑k : Int) + 1)), .s (li (max (↑(maxBy depC (List.take k c.kids)) : Int) (↑(depC (c.kids.getD k
 default)) : Int)))])))) (.o 0 [] [.s (li (↑(maxBy depC (List.take k c.kids)) : Int))])) (by
  intro k h; try dsimp only [teasy, nthW, lc_iDepC_sLa] at h ⊢
  have g1 := sizeC_eq c
  have g2 := @sumBy_mem _ sizeC c.kids (c.kids.getD k default)
  with_reducible repeat' (first | apply And.intro | exact zR | exact ih | (intro; skip) | apply mIc | apply mOc | apply mSc | apply mLc | apply ih)
  all_goals (try simp only [std, inj] at *)
  all_goals with_reducible repeat' apply And.intro
  all_goals (try (first | with_reducible apply ih | (simp only [← List.map_append]; first | with_reducible apply ih)))
  all_goals (try (first | exact z | exact zM | grind [maxBy_step, getD_mem', snocI, snocS, rowSnoc])))
theorem c_iDepC_s (c : Core) (h : sizeC c ≤ 2147483647) (ih : ∀ z ∈ c.kids, ∀ (h : sizeC z ≤ 2147483647), P_c_iDepC z)  : P_c_iDepC c := fnOK Tryz.call170 Tryz.func170 (.z coreC
 c.kids (.l (lc_iDepC_sLa c) (Sc_iDepC_sLa c h ih) [] [.s (li 0), .s (li 0)] 0 (.t (.r ((↑(maxBy depC c.kids) : Int) + 1) (.s (li ((↑(maxBy depC c.kids) : Int) + 1)))) .q))) (by
  dsimp only [teasy, P_c_iDepC, nthW, lc_iDepC_sLa]
  have h1 := depC_le c
  have g2 : maxBy depC (c.kids.take 0) = 0 := rfl
  with_reducible repeat' (first | apply And.intro | exact zR | exact ih | (intro; skip) | apply mIc | apply mOc | apply mSc | apply mLc)
  all_goals (try simp only [std, inj] at *)
  all_goals with_reducible repeat' apply And.intro
  all_goals (try (first | with_reducible apply ih | (simp only [← List.map_append]; first | with_reducible apply ih)))
  all_goals (try (first | exact z | exact zM | grind [depC_eq, snocI, snocS, rowSnoc])))
theorem c_iDepC (c : Core) : ∀ (h : sizeC c ≤ 2147483647), P_c_iDepC c := Core.ind (P := fun c => ∀ (h : sizeC c ≤ 2147483647), P_c_iDepC c) (fun c ih h => c_iDepC_s c h ih) c
abbrev P_c_sApart (L : List Unit) : Ct := ⟨160, [], [ll (L.map unitC)], [], .sv (lb (okU (apart L)))⟩
def lc_sApartLa (L : List Unit) : Lp Nat := .mk 24 0 (fun x => [(3, SV.one (AC.ref 0)), (7, ll (List.map unitC L)), (8, li (↑(List.map unitC L).length : Int)), (9, hs x 0)]) (fun x
 => [ho x 1]) (fun k => [.s (li (↑k : Int)), .o (Ob.arr true 1 (List.map intC (apart (List.take k L))))]) (fun k => k ≤ L.length ∧ L.length ≤ 9223372036854775807) (fun k =>
 L.length - k) [.mk True (.exit 0) (fun x => [(3, SV.one (AC.ref 0))]) (fun x => [ho x 0]) [.o (Ob.arr true 1 (List.map intC (apart L)))]]
theorem Sc_sApartLa (L : List Unit) (h : sumBy wU L ≤ 1048576 ∧ L.length ≤ 1048576) : Lp.Sem Tryz.prog (loopAt Tryz.f160 0) (lc_sApartLa L) := lpOK (fun k => .i ((↑k : Int) <
 (↑(List.map unitC L).length : Int)) (.x (↑k : Int) (List.map unitC L) (unitF (L.getD k default)) (.w (.draw [(3, [0]), (7, [2, 5])]) (.p (∀ (e : List Cell), e ∈ List.map intC
 (L.getD k default).globals → ∀ (c : Cell), c ∈ e → ∃ v, c = Cell.lit v) (.p (∀ (e : List Cell), e ∈ List.map intC (L.getD k default).globals → e.length = 1) (.p (((List.map intC
 (apart (List.take k L))).length + (List.map intC (L.getD k default).globals).length) * 8 ≤ 140737488355328) (.d [.rd, .own true 1] (P_c_sBound (L.getD k default).body []) (.p
 (((List.map intC (apart (List.take k L)) ++ List.map intC (L.getD k default).globals).length + (List.map intC (bnd (L.getD k default).body)).length) * 8 ≤ 140737488355328) (.r
 ((↑k : Int) + 1) (.g [12] (k + 1) [.s (li ((↑k : Int) + 1)), .o (Ob.arr true 1 (List.map intC (apart (List.take k L)) ++ List.map intC (L.getD k default).globals ++ List.map intC
 (bnd (L.getD k default).body)))]))))))))) (.o 0 [0] [.o (Ob.arr true 1 (List.map intC (apart (List.take k L))))])) (by
  intro k h; try dsimp only [teasy, nthW, lc_sApartLa] at h ⊢
  have g0 := flat_takeLe (fun u : Unit => u.globals ++ bnd u.body) L (k + 1)
  have g1 := apart_wU L
  have g2 := @apart_step L k
  have g3 := @unit_w L k
  have g4 := bnd_le (L.getD k default).body
  with_reducible repeat' (first | apply And.intro | exact zR | (intro; skip) | apply mIc | apply mOc | apply mSc | apply mLc | apply c_sBound)
  all_goals (try simp only [std, inj] at *)
  all_goals with_reducible repeat' apply And.intro
  all_goals (try (first | with_reducible apply c_sBound | (simp only [← List.map_append]; first | with_reducible apply c_sBound)))
  all_goals (try (first | exact z | exact zM | grind [apart, snocI, snocS, rowSnoc, getD_mem'])))
theorem c_sApart (L : List Unit) (h : sumBy wU L ≤ 1048576 ∧ L.length ≤ 1048576)  : P_c_sApart L := fnOK Tryz.call160 Tryz.func160 (.w (.bool false) (.z unitC L (.l (lc_sApartLa L)
 (Sc_sApartLa L h) [0] [.s (li 0), .o (Ob.arr true 1 [])] 0 (.t (.c [.rd] (c_sUniq (apart L)) (.s (lb (okU (apart L))))) .q)))) (by
  dsimp only [teasy, P_c_sApart, nthW, lc_sApartLa]
  have g5 : apart (L.take 0) = [] := rfl
  with_reducible repeat' (first | apply And.intro | exact zR | (intro; skip) | apply mIc | apply mOc | apply mSc | apply mLc | apply c_sBound)
  all_goals (try simp only [std, inj] at *)
  all_goals with_reducible repeat' apply And.intro
  all_goals (try (first | with_reducible apply c_sBound | (simp only [← List.map_append]; first | with_reducible apply c_sBound)))
  all_goals (try (first | exact z | exact zM | grind [apart, snocI, snocS, rowSnoc])))
abbrev P_c_sUnits (L : List Unit) : Ct := ⟨84, [], [ll (L.map unitC)], [], .sv (lb (areU L))⟩
def lc_sUnitsLb (L : List Unit) (k : Nat) : Lp Nat := .mk 103 0 (fun x => [(0, ll (List.map unitC L)), (3, SV.one (AC.ref 0)), (4, SV.one (AC.ref 1)), (5, li (↑(sumBy szU
 (List.take k L)) : Int)), (6, li ((↑(sumBy prt (List.take k L)) : Int) - (↑k : Int))), (8, SV.one (AC.ptr 2 0)), (13, ll (List.map unitC L)), (14, li (↑(List.map unitC L).length :
 Int)), (15, li (↑k : Int)), (43, SV.one (AC.ref 3)), (44, li (↑(List.map intC (bnd (L.getD k default).body)).length : Int)), (45, hs x 0)]) (fun x => [Ob.arr true 1 (List.map intC
 (globals (List.take k L))), Ob.arr true 1 (List.map strC (namesU (List.take k L))), Ob.box (vals (unitF (L.getD k default))), Ob.arr true 1 (List.map intC (bnd (L.getD k
 default).body))]) (fun k1 => [.s (li (↑k1 : Int))]) (fun k1 => k1 ≤ (bnd (L.getD k default).body).length ∧ (bnd (L.getD k default).body).length ≤ 9223372036854775807 ∧ uOK L k =
 true ∧ k < L.length) (fun k1 => (bnd (L.getD k default).body).length - k1) [.mk True (.exit 2) (fun x => [(0, ll (List.map unitC L)), (3, SV.one (AC.ref 0)), (4, SV.one (AC.ref
 1)), (5, li (↑(sumBy szU (List.take k L)) : Int)), (6, li ((↑(sumBy prt (List.take k L)) : Int) - (↑k : Int))), (8, SV.one (AC.ptr 2 0)), (13, ll (List.map unitC L)), (14, li
 (↑(List.map unitC L).length : Int)), (15, li (↑k : Int))]) (fun x => [Ob.arr true 1 (List.map intC (globals (List.take k L))), Ob.arr true 1 (List.map strC (namesU (List.take k
 L))), Ob.box (vals (unitF (L.getD k default)))]) [], .mk (areU L = false) .ret (fun x => [(2, hs x 0)]) (fun x => []) [.s (lb false)]]
def lc_sUnitsLa (L : List Unit) : Lp Nat := .mk 103 0 (fun x => [(0, ll (List.map unitC L)), (3, SV.one (AC.ref 0)), (4, SV.one (AC.ref 1)), (5, hs x 1), (6, hs x 2), (13, ll
 (List.map unitC L)), (14, li (↑(List.map unitC L).length : Int)), (15, hs x 0)]) (fun x => [ho x 3, ho x 4]) (fun k => [.s (li (↑k : Int)), .s (li (↑(sumBy szU (List.take k L)) :
 Int)), .s (li ((↑(sumBy prt (List.take k L)) : Int) - (↑k : Int))), .o (Ob.arr true 1 (List.map intC (globals (List.take k L)))), .o (Ob.arr true 1 (List.map strC (namesU
 (List.take k L))))]) (fun k => k ≤ L.length ∧ L.length ≤ 9223372036854775807 ∧ okT L k = true) (fun k => L.length - k) [.mk (okT L L.length = true) (.exit 0) (fun x => [(0, ll
 (List.map unitC L)), (3, SV.one (AC.ref 0)), (5, hs x 0), (6, hs x 1)]) (fun x => [ho x 2]) [.s (li (↑(sumBy szU L) : Int)), .s (li ((↑(sumBy prt L) : Int) - (↑L.length : Int))),
 .o (Ob.arr true 1 (List.map intC (globals L)))], .mk (areU L = false) .ret (fun x => [(2, hs x 0)]) (fun x => []) [.s (lb false)]]
theorem Sc_sUnitsLb (L : List Unit) (h : sumBy wU L ≤ 1048576 ∧ L.length ≤ 1048576) (k : Nat) : Lp.Sem Tryz.prog (loopAt Tryz.f84 1) (lc_sUnitsLb L k) := lpOK (fun k1 => .i ((↑k1 :
 Int) < (↑(List.map intC (bnd (L.getD k default).body)).length : Int)) (.p (0 ≤ (↑k1 : Int) ∧ (↑k1 : Int).toNat < (List.map intC (bnd (L.getD k default).body)).length) (.w (.cells
 (intC ((bnd (L.getD k default).body).getD (↑k1 : Int).toNat default))) (.p ((List.map intC (bnd (L.getD k default).body))[(↑k1 : Int).toNat]? = some [cI ((bnd (L.getD k
 default).body).getD (↑k1 : Int).toNat 0)]) (.c [.rd, .rd] (c_sHas (globals (List.take k L)) ((bnd (L.getD k default).body).getD (↑k1 : Int).toNat 0)) (.i ((bnd (L.getD k
 default).body).getD (↑k1 : Int).toNat 0 ∈ globals (List.take k L)) (.o 1 [] [.s (lb false)]) (.r ((↑k1 : Int) + 1) (.g [0, 1, 2, 3] (k1 + 1) [.s (li ((↑k1 : Int) + 1))]))))))) (.o
 0 [0, 1, 2] [])) (by
  intro k1 h; try dsimp only [teasy, nthW, lc_sUnitsLb] at h ⊢
  have g1 := @uOK_bnd L k k1
  with_reducible repeat' (first | apply And.intro | exact zR | (intro; skip) | apply mIc | apply mOc | apply mSc | apply mLc | apply c_sDepC | apply c_sUnitFits | apply c_sBound | apply c_sSizC | apply c_sApart)
  all_goals (try simp only [std, inj] at *)
  all_goals with_reducible repeat' apply And.intro
  all_goals (try (first | with_reducible apply c_sDepC | with_reducible apply c_sUnitFits | with_reducible apply c_sBound | with_reducible apply c_sSizC | with_reducible apply c_sApart | (simp only [← List.map_append]; first | with_reducible apply c_sDepC | with_reducible apply c_sUnitFits | with_reducible apply c_sBound | with_reducible apply c_sSizC | with_reducible apply c_sApart)))
  all_goals (try (first | exact z | exact zM | grind [snocI, snocS, rowSnoc])))
theorem Sc_sUnitsLa (L : List Unit) (h : sumBy wU L ≤ 1048576 ∧ L.length ≤ 1048576) : Lp.Sem Tryz.prog (loopAt Tryz.f84 0) (lc_sUnitsLa L) := lpOK (fun k => .i ((↑k : Int) <
 (↑(List.map unitC L).length : Int)) (.x (↑k : Int) (List.map unitC L) (unitF (L.getD k default)) (.c [.rd, .rd] (c_sHasS (namesU (List.take k L)) (L.getD k default).name) (.b (inS
 (namesU (List.take k L)) (L.getD k default).name) (.y true (.y true (.y true (.o 1 [] [.s (lb false)])))) (.c [.rd] (c_sSmall (L.getD k default).body) (.b (!decide (sizeC (L.getD
 k default).body ≤ 3000)) (.y true (.y true (.o 1 [] [.s (lb false)]))) (.d [.rd] (P_c_sDepC (L.getD k default).body) (.i (150 ≤ (↑(depC (L.getD k default).body) : Int)) (.y true
 (.o 1 [] [.s (lb false)])) (.d [.rd, .rd] (P_c_sUnitFits (L.getD k default) (globals (List.take k L))) (.b (!fitU (L.getD k default) (globals (List.take k L))) (.o 1 [] [.s (lb
 false)]) (.d [.rd, .own true 1] (P_c_sBound (L.getD k default).body []) (.z intC (bnd (L.getD k default).body) (.l (lc_sUnitsLb L k) (Sc_sUnitsLb L h k) [0, 1, 2, 4] [.s (li 0)] 0
 (.t (.p (∀ (e : List Cell), e ∈ List.map intC (L.getD k default).globals → ∀ (c : Cell), c ∈ e → ∃ v, c = Cell.lit v) (.p (∀ (e : List Cell), e ∈ List.map intC (L.getD k
 default).globals → e.length = 1) (.p (((List.map intC (globals (List.take k L))).length + (List.map intC (L.getD k default).globals).length) * 8 ≤ 140737488355328) (.p (((List.map
 strC (namesU (List.take k L))).length + 1) * 16 ≤ 140737488355328) (.d [.rd] (P_c_sSizC (L.getD k default).body) (.r ((↑(sumBy szU (List.take k L)) : Int) + (↑(sizeC (L.getD k
 default).body) : Int)) (.i ((L.getD k default).body.kind = 8) (.z coreC (L.getD k default).body.kids (.r ((↑(sumBy prt (List.take k L)) : Int) - (↑k : Int) + (↑(List.map coreC
 (L.getD k default).body.kids).length : Int)) (.r ((↑(sumBy prt (List.take k L)) : Int) - (↑k : Int) + (↑(List.map coreC (L.getD k default).body.kids).length : Int) - 1) (.r ((↑k :
 Int) + 1) (.g [3, 5] (k + 1) [.s (li ((↑k : Int) + 1)), .s (li ((↑(sumBy szU (List.take k L)) : Int) + (↑(sizeC (L.getD k default).body) : Int))), .s (li ((↑(sumBy prt (List.take
 k L)) : Int) - (↑k : Int) + (↑(List.map coreC (L.getD k default).body.kids).length : Int) - 1)), .o (Ob.arr true 1 (List.map intC (globals (List.take k L)) ++ List.map intC
 (L.getD k default).globals)), .o (Ob.arr true 1 (List.map strC (namesU (List.take k L)) ++ [[cS (L.getD k default).name]]))]))))) (.r ((↑k : Int) + 1) (.g [3, 5] (k + 1) [.s (li
 ((↑k : Int) + 1)), .s (li ((↑(sumBy szU (List.take k L)) : Int) + (↑(sizeC (L.getD k default).body) : Int))), .s (li ((↑(sumBy prt (List.take k L)) : Int) - (↑k : Int))), .o
 (Ob.arr true 1 (List.map intC (globals (List.take k L)) ++ List.map intC (L.getD k default).globals)), .o (Ob.arr true 1 (List.map strC (namesU (List.take k L)) ++ [[cS (L.getD k
 default).name]]))]))))))))) (.t (.o 1 [] [.s (lb false)]) .q)))))))))))))) (.o 0 [0] [.s (li (↑(sumBy szU (List.take k L)) : Int)), .s (li ((↑(sumBy prt (List.take k L)) : Int) -
 (↑k : Int))), .o (Ob.arr true 1 (List.map intC (globals (List.take k L))))])) (by
  intro k h; try dsimp only [teasy, nthW, lc_sUnitsLa, lc_sUnitsLb] at h ⊢
  have g1 := @okT_step L k
  have g2 := uOK_eq L k
  have g3 := @okT_stop L k
  have g4 := @unit_w L k
  have g5 := bnd_le (L.getD k default).body
  have g6 := sz_le L (k + 1)
  have g7 := @sumBy_step _ _ szU L k
  have g8 := @sumBy_step _ _ prt L k
  have g9 := @globals_step L k
  have g10 := @names_step L k
  have g11 := globals_wU (L.take k)
  have g12 := sumBy_takeLe wU L k
  have g13 : szU (L.getD k default) = sizeC (L.getD k default).body := rfl
  have g14 : prt (L.getD k default) = if (L.getD k default).body.kind = 8 then (L.getD k default).body.kids.length else 1 := rfl
  have g15 := depC_le (L.getD k default).body
  have g16 := @uOK_small L k
  have g17 := names_len L k
  with_reducible repeat' (first | apply And.intro | exact zR | (intro; skip) | apply mIc | apply mOc | apply mSc | apply mLc | apply c_sDepC | apply c_sUnitFits | apply c_sBound | apply c_sSizC | apply c_sApart)
  all_goals (try simp only [std, inj] at *)
  all_goals with_reducible repeat' apply And.intro
  all_goals (try (first | with_reducible apply c_sDepC | with_reducible apply c_sUnitFits | with_reducible apply c_sBound | with_reducible apply c_sSizC | with_reducible apply c_sApart | (simp only [← List.map_append]; first | with_reducible apply c_sDepC | with_reducible apply c_sUnitFits | with_reducible apply c_sBound | with_reducible apply c_sSizC | with_reducible apply c_sApart)))
  all_goals (try (first | exact z | exact zM | grind [snocI, snocS, rowSnoc])))
theorem c_sUnits (L : List Unit) (h : sumBy wU L ≤ 1048576 ∧ L.length ≤ 1048576)  : P_c_sUnits L := fnOK Tryz.call84 Tryz.func84 (.w (.bool false) (.w (.bool false) (.z unitC L (.l
 (lc_sUnitsLa L) (Sc_sUnitsLa L h) [0, 1] [.s (li 0), .s (li 0), .s (li 0), .o (Ob.arr true 1 []), .o (Ob.arr true 1 [])] 0 (.t (.z unitC L (.i ((↑(List.map unitC L).length : Int)
 ≤ 12) (.z intC (globals L) (.i ((↑(List.map intC (globals L)).length : Int) ≤ 60) (.r ((↑(sumBy szU L) : Int) + 1) (.i ((↑(sumBy szU L) : Int) + (1 : Int) ≤ 3000) (.z unitC L (.r
 ((↑(sumBy prt L) : Int) - (↑L.length : Int) + (↑(List.map unitC L).length : Int)) (.i ((↑(sumBy prt L) : Int) - (↑L.length : Int) + (↑(List.map unitC L).length : Int) ≤ 60) (.d
 [.rd] (P_c_sApart L) (.s (lb (okU (apart L))))) (.s (lb false))))) (.y false (.s (lb false))))) (.y false (.y false (.s (lb false)))))) (.y false (.y false (.y false (.s (lb
 false))))))) (.t (.s (lb false)) .q)))))) (by
  dsimp only [teasy, P_c_sUnits, nthW, lc_sUnitsLa]
  have g2 := prg0 L
  have g1 := sz_all L
  with_reducible repeat' (first | apply And.intro | exact zR | (intro; skip) | apply c_sApart)
  all_goals (try simp only [std, inj] at *)
  all_goals with_reducible repeat' apply And.intro
  all_goals (try with_reducible apply c_sApart)
  all_goals (try omega)
  all_goals (try grind [areU, okT_zero, snocI, snocS, rowSnoc]))
abbrev P_c_iParted (c : Core) : Ct := ⟨173, [], [coreA c], [], .sv (li (if c.kind = 8 then c.kids.length else 1 : Nat))⟩
theorem c_iParted (c : Core)  : P_c_iParted c := fnOK Tryz.call173 Tryz.func173 (.i (c.kind = 8) (.z coreC c.kids (.s (li (↑(List.map coreC c.kids).length : Int)))) (.s (li 1))) (by
  dsimp only [teasy, P_c_iParted]
  with_reducible repeat' (first | apply And.intro | exact zR | (intro; skip) | apply mIc | apply mOc | apply mSc | apply mLc)
  all_goals (try simp only [std, inj] at *)
  all_goals with_reducible repeat' apply And.intro
  all_goals (try (first | exact z | exact zM | grind [snocI, snocS, rowSnoc])))
abbrev P_c_iUnits (L : List Unit) : Ct := ⟨88, [], [ll (L.map unitC)], [], .sv (lb (areU L))⟩
def lc_iUnitsLa (L : List Unit) : Lp Nat := .mk 79 0 (fun x => [(3, SV.one (AC.mref 0)), (4, SV.one (AC.ref 1)), (5, SV.one (AC.ref 2)), (6, hs x 1), (7, hs x 2), (14, ll (List.map
 unitC L)), (15, li (↑(List.map unitC L).length : Int)), (16, hs x 0)]) (fun x => [ho x 3, ho x 4, ho x 5]) (fun k => [.s (li (↑k : Int)), .s (li (↑(1 + sumBy szU (List.take k L))
 : Int)), .s (li (↑(sumBy prt (List.take k L)) : Int)), .o (Ob.map false kS (mS (memS (namesU (List.take k L))))), .o (Ob.arr true 1 (List.map intC (globals (List.take k L)))), .o
 (Ob.arr true 1 (List.map intC (apart (List.take k L))))]) (fun k => k ≤ L.length ∧ L.length ≤ 9223372036854775807 ∧ L.length ≤ 12 ∧ okT L k = true) (fun k => L.length - k) [.mk
 (okT L L.length = true) (.exit 0) (fun x => [(4, SV.one (AC.ref 0)), (5, SV.one (AC.ref 1)), (6, hs x 0), (7, hs x 1)]) (fun x => [ho x 2, ho x 3]) [.s (li (↑(1 + sumBy szU L) :
 Int)), .s (li (↑(sumBy prt L) : Int)), .o (Ob.arr true 1 (List.map intC (globals L))), .o (Ob.arr true 1 (List.map intC (apart L)))], .mk (areU L = false) .ret (fun x => [(2, hs x
 0)]) (fun x => []) [.s (lb false)]]
theorem Sc_iUnitsLa (L : List Unit) (h : sumBy wU L ≤ 1048576 ∧ L.length ≤ 1048576) : Lp.Sem Tryz.prog (loopAt Tryz.f88 0) (lc_iUnitsLa L) := lpOK (fun k => .i ((↑k : Int) <
 (↑(List.map unitC L).length : Int)) (.x (↑k : Int) (List.map unitC L) (unitF (L.getD k default)) (.w (.cells [cI (memS (namesU (List.take k L)) (L.getD k default).name)]) (.p
 (LookAt (Value.int IntKind.i64 0) (mS (memS (namesU (List.take k L)))) (Value.string (L.getD k default).name) (cI (memS (namesU (List.take k L)) (L.getD k default).name))) (.i
 (memS (namesU (List.take k L)) (L.getD k default).name = 1) (.y true (.y true (.o 1 [] [.s (lb false)]))) (.d [.rd, .rd] (P_c_iUnitFits (L.getD k default) (globals (List.take k
 L))) (.b (!fitU (L.getD k default) (globals (List.take k L))) (.y true (.o 1 [] [.s (lb false)])) (.d [.rd] (P_c_iDepC (L.getD k default).body) (.i (150 ≤ (↑(depC (L.getD k
 default).body) : Int)) (.o 1 [] [.s (lb false)]) (.w (.upd (mS (upd1 (memS (namesU (List.take k L))) (L.getD k default).name 1))) (.p (false = false) (.p (UpdF kS.d (mS (memS
 (namesU (List.take k L)))) (mS (upd1 (memS (namesU (List.take k L))) (L.getD k default).name 1)) (Value.string (L.getD k default).name) (some (cI 1))) (.p (∀ (e : List Cell), e ∈
 List.map intC (L.getD k default).globals → ∀ (c : Cell), c ∈ e → ∃ v, c = Cell.lit v) (.p (∀ (e : List Cell), e ∈ List.map intC (L.getD k default).globals → e.length = 1) (.p
 (((List.map intC (globals (List.take k L))).length + (List.map intC (L.getD k default).globals).length) * 8 ≤ 140737488355328) (.w (.draw [(3, [2]), (7, [5, 7])]) (.p (∀ (e : List
 Cell), e ∈ List.map intC (L.getD k default).globals → ∀ (c : Cell), c ∈ e → ∃ v, c = Cell.lit v) (.p (∀ (e : List Cell), e ∈ List.map intC (L.getD k default).globals → e.length =
 1) (.p (((List.map intC (apart (List.take k L))).length + (List.map intC (L.getD k default).globals).length) * 8 ≤ 140737488355328) (.d [.rd] (P_c_iBoundVariables (L.getD k
 default).body) (.p (((List.map intC (apart (List.take k L)) ++ List.map intC (L.getD k default).globals).length + (List.map intC (bnd (L.getD k default).body)).length) * 8 ≤
 140737488355328) (.d [.rd] (P_c_iSizC (L.getD k default).body) (.r ((↑(1 + sumBy szU (List.take k L)) : Int) + (↑(sizeC (L.getD k default).body) : Int)) (.c [.rd] (c_iParted
 (L.getD k default).body) (.r ((↑(sumBy prt (List.take k L)) : Int) + (↑(if (L.getD k default).body.kind = 8 then (L.getD k default).body.kids.length else 1) : Int)) (.r ((↑k :
 Int) + 1) (.g [0, 4, 15] (k + 1) [.s (li ((↑k : Int) + 1)), .s (li ((↑(1 + sumBy szU (List.take k L)) : Int) + (↑(sizeC (L.getD k default).body) : Int))), .s (li ((↑(sumBy prt
 (List.take k L)) : Int) + (↑(if (L.getD k default).body.kind = 8 then (L.getD k default).body.kids.length else 1) : Int))), .o (Ob.map false kS (mS (upd1 (memS (namesU (List.take
 k L))) (L.getD k default).name 1))), .o (Ob.arr true 1 (List.map intC (globals (List.take k L)) ++ List.map intC (L.getD k default).globals)), .o (Ob.arr true 1 (List.map intC
 (apart (List.take k L)) ++ List.map intC (L.getD k default).globals ++ List.map intC (bnd (L.getD k default).body)))])))))))))))))))))))))))))) (.o 0 [1, 2] [.s (li (↑(1 + sumBy
 szU (List.take k L)) : Int)), .s (li (↑(sumBy prt (List.take k L)) : Int)), .o (Ob.arr true 1 (List.map intC (globals (List.take k L)))), .o (Ob.arr true 1 (List.map intC (apart
 (List.take k L))))])) (by
  intro k h; try dsimp only [teasy, nthW, lc_iUnitsLa] at h ⊢
  have g1 := @okT_step L k
  have g2 := uOK_eq L k
  have g3 := @okT_stop L k
  have g4 := @unit_w L k
  have g5 := bnd_le (L.getD k default).body
  have g6 := sz_le L (k + 1)
  have g7 := @sumBy_step _ _ szU L k
  have g8 := @sumBy_step _ _ prt L k
  have g9 := @globals_step L k
  have g10 := @names_step L k
  have g11 := globals_wU (L.take k)
  have g12 := sumBy_takeLe wU L k
  have g13 : szU (L.getD k default) = sizeC (L.getD k default).body := rfl
  have g14 : prt (L.getD k default) = if (L.getD k default).body.kind = 8 then (L.getD k default).body.kids.length else 1 := rfl
  have g15 := depC_le (L.getD k default).body
  have g16 := @uOK_small L k
  have g17 := @apart_step L k
  have g18 := apart_wU (L.take k)
  have g19 := names_len L k
  with_reducible repeat' (first | apply And.intro | exact zR | (intro; skip) | apply mIc | apply mOc | apply mSc | apply mLc | apply c_iUnitFits | apply c_iDepC | apply c_iBoundVariables | apply c_iSizC)
  all_goals (try simp only [std, inj] at *)
  all_goals with_reducible repeat' apply And.intro
  all_goals (try (first | with_reducible apply c_iUnitFits | with_reducible apply c_iDepC | with_reducible apply c_iBoundVariables | with_reducible apply c_iSizC | (simp only [← List.map_append]; first | with_reducible apply c_iUnitFits | with_reducible apply c_iDepC | with_reducible apply c_iBoundVariables | with_reducible apply c_iSizC)))
  all_goals (try (first | exact z | exact zM | grind [memS_one, memS_snoc, inS, snocI, snocS, rowSnoc])))
theorem c_iUnits (L : List Unit) (h : sumBy wU L ≤ 1048576 ∧ L.length ≤ 1048576)  : P_c_iUnits L := fnOK Tryz.call88 Tryz.func88 (.z unitC L (.i (12 < (↑(List.map unitC L).length :
 Int)) (.s (lb false)) (.w (.mkmap kS) (.z unitC L (.w (.ghost (.nilreg 4 true 1)) (.w (.ghost (.nilreg 5 true 1)) (.l (lc_iUnitsLa L) (Sc_iUnitsLa L h) [0, 1, 2] [.s (li 0), .s
 (li 1), .s (li 0), .o (Ob.map false kS (mS zS)), .o (Ob.arr true 1 []), .o (Ob.arr true 1 [])] 0 (.t (.c [.rd] (c_iDiff [apart L]) (.b (okU [apart L].flatten) (.z intC (globals L)
 (.i ((↑(List.map intC (globals L)).length : Int) ≤ 60) (.i ((↑(1 + sumBy szU L) : Int) ≤ 3000) (.s (lb (decide ((↑(sumBy prt L) : Int) ≤ 60)))) (.s (lb false))) (.y false (.s (lb
 false))))) (.y false (.y false (.s (lb false)))))) (.t (.s (lb false)) .q))))))))) (by
  dsimp only [teasy, P_c_iUnits, nthW, lc_iUnitsLa]
  have g2 := prg0 L
  have g1 := sz_all L
  with_reducible repeat' (first | apply And.intro | exact zR | (intro; skip) | apply mIc | apply mOc | apply mSc | apply mLc | apply c_iUnitFits | apply c_iDepC | apply c_iBoundVariables | apply c_iSizC)
  all_goals (try simp only [std, inj] at *)
  all_goals with_reducible repeat' apply And.intro
  all_goals (try (first | with_reducible apply c_iUnitFits | with_reducible apply c_iDepC | with_reducible apply c_iBoundVariables | with_reducible apply c_iSizC | (simp only [← List.map_append]; first | with_reducible apply c_iUnitFits | with_reducible apply c_iDepC | with_reducible apply c_iBoundVariables | with_reducible apply c_iSizC)))
  all_goals (try (first | exact z | exact zM | grind [areU, okT_zero, memS_nil, snocI, snocS, rowSnoc])))
abbrev P_c_sFlat (K : List Core) : Ct := ⟨167, [.arr true 8 (K.map coreC)], [.one (.ref 0)], .dead :: coreO (flat1 K), .sv (coreR (flat1 K) 1)⟩
def lc_sFlatLa (K : List Core) : Lp Nat := .mk 33 1 (fun x => [(2, SV.one (AC.ptr 1 0)), (3, SV.one (AC.ref 2)), (7, SV.one (AC.ref 3)), (8, li (↑(List.map coreC K).length : Int)),
 (9, hs x 0)]) (fun x => [Ob.dead, Ob.box [vI 0, vI 0, AC.val (Cell.lit (Value.slice none 0 0)), vI 0, vI 0, vS (ByteArray.mk #[]), AC.val (Cell.lit (Value.slice none 0 0)), AC.val
 (Cell.lit (Value.slice none 0 0))], ho x 2, ho x 1]) (fun k => [.s (li (↑k : Int)), .o (Ob.arr true 8 (List.map coreX (List.take k K) ++ List.map coreC (List.drop k K))), .o
 (Ob.arr true 8 (List.map coreC (flatC (List.take k K))))]) (fun k => k ≤ K.length ∧ K.length ≤ 9223372036854775807) (fun k => K.length - k) [.mk True (.exit 0) (fun x => [(2,
 SV.one (AC.ptr 1 0)), (3, SV.one (AC.ref 2))]) (fun x => [Ob.dead, Ob.box [vI 0, vI 0, AC.val (Cell.lit (Value.slice none 0 0)), vI 0, vI 0, vS (ByteArray.mk #[]), AC.val
 (Cell.lit (Value.slice none 0 0)), AC.val (Cell.lit (Value.slice none 0 0))], ho x 0]) [.o (Ob.arr true 8 (List.map coreC (flatC K)))]]
theorem Sc_sFlatLa (K : List Core) (h : (flatC K).length ≤ 2147483647 ∧ K.length ≤ 2147483647) : Lp.Sem Tryz.prog (loopAt Tryz.f167 0) (lc_sFlatLa K) := lpOK (fun k => .i ((↑k :
 Int) < (↑(List.map coreC K).length : Int)) (.p (0 ≤ (↑k : Int) ∧ (↑k : Int).toNat < (List.map coreX (List.take k K) ++ List.map coreC (List.drop k K)).length) (.w (.subs (coreF
 (K.getD k default))) (.p ((List.map coreX (List.take k K) ++ List.map coreC (List.drop k K))[(↑k : Int).toNat]? = some (coreF (K.getD k default))) (.w (.ghost (.pull 4 (coreF
 (K.getD k default)) [(2, 1), (6, 4), (7, 8)])) (.p ((List.map coreX (List.take k K) ++ List.map coreC (List.drop k K))[(↑k : Int).toNat]? = some (coreF (K.getD k default))) (.p
 ((↑k : Int).toNat = (↑k : Int).toNat) (.p (∀ (x : List Cell), x ∈ List.map intC (K.getD k default).params → x.length = 1) (.p ((↑k : Int).toNat = (↑k : Int).toNat) (.p (∀ (x :
 List Cell), x ∈ List.map datumC (K.getD k default).datum.items → x.length = 4) (.p ((↑k : Int).toNat = (↑k : Int).toNat) (.p (∀ (x : List Cell), x ∈ List.map coreC (K.getD k
 default).kids → x.length = 8) (.i ((K.getD k default).kind = 8) (.p (((List.map coreC (flatC (List.take k K))).length + (List.map coreC (K.getD k default).kids).length) * 120 ≤
 140737488355328) (.r ((↑k : Int) + 1) (.g [0, 1, 8, 3] (k + 1) [.s (li ((↑k : Int) + 1)), .o (Ob.arr true 8 ((List.map coreX (List.take k K) ++ List.map coreC (List.drop k K)).set
 (↑k : Int).toNat [cI (K.getD k default).kind, cI (K.getD k default).number, Cell.any, cI (K.getD k default).datum.kind, cI (K.getD k default).datum.number, cS (K.getD k
 default).datum.text, Cell.any, Cell.any])), .o (Ob.arr true 8 (List.map coreC (flatC (List.take k K)) ++ List.map coreC (K.getD k default).kids))]))) (.p (((List.map coreC (flatC
 (List.take k K))).length + 1) * 120 ≤ 140737488355328) (.r ((↑k : Int) + 1) (.g [0, 1, 9, 3] (k + 1) [.s (li ((↑k : Int) + 1)), .o (Ob.arr true 8 ((List.map coreX (List.take k K)
 ++ List.map coreC (List.drop k K)).set (↑k : Int).toNat [cI (K.getD k default).kind, cI (K.getD k default).number, Cell.any, cI (K.getD k default).datum.kind, cI (K.getD k
 default).datum.number, cS (K.getD k default).datum.text, Cell.any, Cell.any])), .o (Ob.arr true 8 (List.map coreC (flatC (List.take k K)) ++ [coreF (K.getD k
 default)]))]))))))))))))))) (.o 0 [0, 1, 2] [.o (Ob.arr true 8 (List.map coreC (flatC (List.take k K))))])) (by
  intro k h; try dsimp only [teasy, nthW, lc_sFlatLa] at h ⊢
  have g1 := @outC_step K k
  have g2 := @outC_getF K k
  have g3 := outC_len K k
  have g4 := @flatC_step K k
  have g5 := flatC_takeLe K (k + 1)
  have g6 : partC (K.getD k default) = if (K.getD k default).kind = 8 then (K.getD k default).kids else [K.getD k default] := rfl
  with_reducible repeat' (first | apply And.intro | exact zR | (intro; skip) | apply mIc | apply mOc | apply mSc | apply mLc)
  all_goals (try simp only [std, inj] at *)
  all_goals with_reducible repeat' apply And.intro
  all_goals (try (first | exact z | exact zM | grind [snocI, snocS, rowSnoc])))
theorem c_sFlat (K : List Core) (h : (flatC K).length ≤ 2147483647 ∧ K.length ≤ 2147483647)  : P_c_sFlat K := fnOK Tryz.call167 Tryz.func167 (.w (.bool false) (.z coreC K (.w (.ghost
 (.move 0)) (.l (lc_sFlatLa K) (Sc_sFlatLa K h) [0, 1, 2, 3] [.s (li 0), .o (Ob.arr true 8 (List.map coreC K)), .o (Ob.arr true 8 [])] 0 (.t (.z coreC (flatC K) (.i ((↑(List.map
 coreC (flatC K)).length : Int) = 1) (.p ((0 : Int) ≤ 0 ∧ 0 < (List.map coreC (flatC K)).length) (.w (.subs (coreF ((flatC K).getD 0 default))) (.p ((List.map coreC (flatC K))[0]?
 = some (coreF ((flatC K).getD 0 default))) (.w (.ghost (.pull 1 (coreF ((flatC K).getD 0 default)) [(2, 1), (6, 4), (7, 8)])) (.p ((List.map coreC (flatC K))[0]? = some (coreF
 ((flatC K).getD 0 default))) (.p (0 = 0) (.p (∀ (x : List Cell), x ∈ List.map intC ((flatC K).getD 0 default).params → x.length = 1) (.p (0 = 0) (.p (∀ (x : List Cell), x ∈
 List.map datumC ((flatC K).getD 0 default).datum.items → x.length = 4) (.p (0 = 0) (.p (∀ (x : List Cell), x ∈ List.map coreC ((flatC K).getD 0 default).kids → x.length = 8) (.f
 [3, 4, 5] [Ob.dead, Ob.arr true 1 (List.map intC ((flatC K).getD 0 default).params), Ob.arr true 4 (List.map datumC ((flatC K).getD 0 default).datum.items), Ob.arr true 8
 (List.map coreC ((flatC K).getD 0 default).kids)] (AV.sv (SV.agg [vI ((flatC K).getD 0 default).kind, vI ((flatC K).getD 0 default).number, AC.ref 1, vI ((flatC K).getD 0
 default).datum.kind, vI ((flatC K).getD 0 default).datum.number, vS ((flatC K).getD 0 default).datum.text, AC.ref 2, AC.ref 3])))))))))))))) (.w (.ghost (.nilbox 1 2 true 1)) (.w
 (.ghost (.nilbox 1 6 true 4)) (.f [3, 4, 2] [Ob.dead, Ob.arr true 1 [], Ob.arr true 4 [], Ob.arr true 8 (List.map coreC (flatC K))] (AV.sv (SV.agg [vI 8, vI 0, AC.ref 1, vI 0, vI
 0, vS (ByteArray.mk #[]), AC.ref 2, AC.ref 3]))))))) .q))))) (by
  dsimp only [teasy, P_c_sFlat, nthW, lc_sFlatLa]
  have g1 := outC_zero K
  have g2 := flat0 K
  with_reducible repeat' (first | apply And.intro | exact zR | (intro; skip) | apply mIc | apply mOc | apply mSc | apply mLc)
  all_goals (try simp only [std, inj] at *)
  all_goals with_reducible repeat' apply And.intro
  all_goals (try (first | exact z | exact zM | grind [flat1, snocI, snocS, rowSnoc])))
abbrev P_c_iSeq (K : List Core) : Ct := ⟨91, [.arr true 8 (K.map coreC)], [.one (.ref 0)], .dead :: coreO (flat1 K), .tup [coreR (flat1 K) 1, li 0]⟩
def lc_iSeqLa (K : List Core) : Lp Nat := .mk 39 1 (fun x => [(2, SV.one (AC.ptr 1 0)), (4, SV.one (AC.ref 2)), (7, SV.one (AC.ref 3)), (8, li (↑(List.map coreC K).length : Int)),
 (9, hs x 0)]) (fun x => [Ob.dead, Ob.box [vI 0, vI 0, AC.val (Cell.lit (Value.slice none 0 0)), vI 0, vI 0, vS (ByteArray.mk #[]), AC.val (Cell.lit (Value.slice none 0 0)), AC.val
 (Cell.lit (Value.slice none 0 0))], ho x 2, ho x 1]) (fun k => [.s (li (↑k : Int)), .o (Ob.arr true 8 (List.map coreX (List.take k K) ++ List.map coreC (List.drop k K))), .o
 (Ob.arr true 8 (List.map coreC (flatC (List.take k K))))]) (fun k => k ≤ K.length ∧ K.length ≤ 9223372036854775807) (fun k => K.length - k) [.mk True (.exit 0) (fun x => [(2,
 SV.one (AC.ptr 1 0)), (4, SV.one (AC.ref 2))]) (fun x => [Ob.dead, Ob.box [vI 0, vI 0, AC.val (Cell.lit (Value.slice none 0 0)), vI 0, vI 0, vS (ByteArray.mk #[]), AC.val
 (Cell.lit (Value.slice none 0 0)), AC.val (Cell.lit (Value.slice none 0 0))], ho x 0]) [.o (Ob.arr true 8 (List.map coreC (flatC K)))]]
theorem Sc_iSeqLa (K : List Core) (h : (flatC K).length ≤ 60 ∧ K.length ≤ 2147483647) : Lp.Sem Tryz.prog (loopAt Tryz.f91 0) (lc_iSeqLa K) := lpOK (fun k => .i ((↑k : Int) <
 (↑(List.map coreC K).length : Int)) (.p (0 ≤ (↑k : Int) ∧ (↑k : Int).toNat < (List.map coreX (List.take k K) ++ List.map coreC (List.drop k K)).length) (.w (.subs (coreF (K.getD k
 default))) (.p ((List.map coreX (List.take k K) ++ List.map coreC (List.drop k K))[(↑k : Int).toNat]? = some (coreF (K.getD k default))) (.w (.ghost (.pull 4 (coreF (K.getD k
 default)) [(2, 1), (6, 4), (7, 8)])) (.p ((List.map coreX (List.take k K) ++ List.map coreC (List.drop k K))[(↑k : Int).toNat]? = some (coreF (K.getD k default))) (.p ((↑k :
 Int).toNat = (↑k : Int).toNat) (.p (∀ (x : List Cell), x ∈ List.map intC (K.getD k default).params → x.length = 1) (.p ((↑k : Int).toNat = (↑k : Int).toNat) (.p (∀ (x : List
 Cell), x ∈ List.map datumC (K.getD k default).datum.items → x.length = 4) (.p ((↑k : Int).toNat = (↑k : Int).toNat) (.p (∀ (x : List Cell), x ∈ List.map coreC (K.getD k
 default).kids → x.length = 8) (.i ((K.getD k default).kind = 8) (.p (((List.map coreC (flatC (List.take k K))).length + (List.map coreC (K.getD k default).kids).length) * 120 ≤
 140737488355328) (.r ((↑k : Int) + 1) (.g [0, 1, 8, 3] (k + 1) [.s (li ((↑k : Int) + 1)), .o (Ob.arr true 8 ((List.map coreX (List.take k K) ++ List.map coreC (List.drop k K)).set
 (↑k : Int).toNat [cI (K.getD k default).kind, cI (K.getD k default).number, Cell.any, cI (K.getD k default).datum.kind, cI (K.getD k default).datum.number, cS (K.getD k
 default).datum.text, Cell.any, Cell.any])), .o (Ob.arr true 8 (List.map coreC (flatC (List.take k K)) ++ List.map coreC (K.getD k default).kids))]))) (.p (((List.map coreC (flatC
 (List.take k K))).length + 1) * 120 ≤ 140737488355328) (.r ((↑k : Int) + 1) (.g [0, 1, 9, 3] (k + 1) [.s (li ((↑k : Int) + 1)), .o (Ob.arr true 8 ((List.map coreX (List.take k K)
 ++ List.map coreC (List.drop k K)).set (↑k : Int).toNat [cI (K.getD k default).kind, cI (K.getD k default).number, Cell.any, cI (K.getD k default).datum.kind, cI (K.getD k
 default).datum.number, cS (K.getD k default).datum.text, Cell.any, Cell.any])), .o (Ob.arr true 8 (List.map coreC (flatC (List.take k K)) ++ [coreF (K.getD k
 default)]))]))))))))))))))) (.o 0 [0, 1, 2] [.o (Ob.arr true 8 (List.map coreC (flatC (List.take k K))))])) (by
  intro k h; try dsimp only [teasy, nthW, lc_iSeqLa] at h ⊢
  have g1 := @outC_step K k
  have g2 := @outC_getF K k
  have g3 := outC_len K k
  have g4 := @flatC_step K k
  have g5 := flatC_takeLe K (k + 1)
  have g6 : partC (K.getD k default) = if (K.getD k default).kind = 8 then (K.getD k default).kids else [K.getD k default] := rfl
  with_reducible repeat' (first | apply And.intro | exact zR | (intro; skip) | apply mIc | apply mOc | apply mSc | apply mLc)
  all_goals (try simp only [std, inj] at *)
  all_goals with_reducible repeat' apply And.intro
  all_goals (try (first | exact z | exact zM | grind [snocI, snocS, rowSnoc])))
theorem c_iSeq (K : List Core) (h : (flatC K).length ≤ 60 ∧ K.length ≤ 2147483647)  : P_c_iSeq K := fnOK Tryz.call91 Tryz.func91 (.z coreC K (.w (.ghost (.move 0)) (.w (.ghost
 (.nilreg 4 true 8)) (.l (lc_iSeqLa K) (Sc_iSeqLa K h) [0, 1, 3, 2] [.s (li 0), .o (Ob.arr true 8 (List.map coreC K)), .o (Ob.arr true 8 [])] 0 (.t (.z coreC (flatC K) (.i
 ((↑(List.map coreC (flatC K)).length : Int) = 1) (.p ((0 : Int) ≤ 0 ∧ 0 < (List.map coreC (flatC K)).length) (.w (.subs (coreF ((flatC K).getD 0 default))) (.p ((List.map coreC
 (flatC K))[0]? = some (coreF ((flatC K).getD 0 default))) (.w (.ghost (.pull 1 (coreF ((flatC K).getD 0 default)) [(2, 1), (6, 4), (7, 8)])) (.p ((List.map coreC (flatC K))[0]? =
 some (coreF ((flatC K).getD 0 default))) (.p (0 = 0) (.p (∀ (x : List Cell), x ∈ List.map intC ((flatC K).getD 0 default).params → x.length = 1) (.p (0 = 0) (.p (∀ (x : List
 Cell), x ∈ List.map datumC ((flatC K).getD 0 default).datum.items → x.length = 4) (.p (0 = 0) (.p (∀ (x : List Cell), x ∈ List.map coreC ((flatC K).getD 0 default).kids → x.length
 = 8) (.f [3, 4, 5] [Ob.dead, Ob.arr true 1 (List.map intC ((flatC K).getD 0 default).params), Ob.arr true 4 (List.map datumC ((flatC K).getD 0 default).datum.items), Ob.arr true 8
 (List.map coreC ((flatC K).getD 0 default).kids)] (AV.tup [SV.agg [vI ((flatC K).getD 0 default).kind, vI ((flatC K).getD 0 default).number, AC.ref 1, vI ((flatC K).getD 0
 default).datum.kind, vI ((flatC K).getD 0 default).datum.number, vS ((flatC K).getD 0 default).datum.text, AC.ref 2, AC.ref 3], li 0]))))))))))))) (.z coreC (flatC K) (.i (60 <
 (↑(List.map coreC (flatC K)).length : Int)) (.w (.ghost (.nilbox 1 2 true 1)) (.w (.ghost (.nilbox 1 6 true 4)) (.w (.ghost (.nilbox 1 7 true 8)) (.f [3, 4, 5] [Ob.dead, Ob.arr
 true 1 [], Ob.arr true 4 [], Ob.arr true 8 []] (AV.tup [SV.agg [vI 0, vI 0, AC.ref 1, vI 0, vI 0, vS (ByteArray.mk #[]), AC.ref 2, AC.ref 3], li 8]))))) (.w (.ghost (.nilbox 1 2
 true 1)) (.w (.ghost (.nilbox 1 6 true 4)) (.f [3, 4, 2] [Ob.dead, Ob.arr true 1 [], Ob.arr true 4 [], Ob.arr true 8 (List.map coreC (flatC K))] (AV.tup [SV.agg [vI 8, vI 0,
 AC.ref 1, vI 0, vI 0, vS (ByteArray.mk #[]), AC.ref 2, AC.ref 3], li 0])))))))) .q))))) (by
  dsimp only [teasy, P_c_iSeq, nthW, lc_iSeqLa]
  have g1 := outC_zero K
  have g2 := flat0 K
  with_reducible repeat' (first | apply And.intro | exact zR | (intro; skip) | apply mIc | apply mOc | apply mSc | apply mLc)
  all_goals (try simp only [std, inj] at *)
  all_goals with_reducible repeat' apply And.intro
  all_goals (try (first | exact z | exact zM | grind [flat1, snocI, snocS, rowSnoc])))
abbrev P_c_sProg (L : List Unit) : Ct := ⟨86, [], [ll (L.map unitC)], coreO (prgC L), .sv (coreR (prgC L) 0)⟩
def lc_sProgLa (L : List Unit) : Lp Nat := .mk 31 0 (fun x => [(0, ll (List.map unitC L)), (2, SV.one (AC.ptr 0 0)), (3, SV.one (AC.ref 1)), (8, ll (List.map unitC L)), (9, li
 (↑(List.map unitC L).length : Int)), (10, hs x 0)]) (fun x => [Ob.box [vI 0, vI 0, AC.val (Cell.lit (Value.slice none 0 0)), vI 0, vI 0, vS (ByteArray.mk #[]), AC.val (Cell.lit
 (Value.slice none 0 0)), AC.val (Cell.lit (Value.slice none 0 0))], ho x 1]) (fun k => [.s (li (↑k : Int)), .o (Ob.arr true 8 (List.map coreC (bodies (List.take k L))))]) (fun k
 => k ≤ L.length ∧ L.length ≤ 9223372036854775807) (fun k => L.length - k) [.mk True (.exit 0) (fun x => [(0, ll (List.map unitC L)), (2, SV.one (AC.ptr 0 0)), (3, SV.one (AC.ref
 1))]) (fun x => [Ob.box [vI 0, vI 0, AC.val (Cell.lit (Value.slice none 0 0)), vI 0, vI 0, vS (ByteArray.mk #[]), AC.val (Cell.lit (Value.slice none 0 0)), AC.val (Cell.lit
 (Value.slice none 0 0))], ho x 0]) [.o (Ob.arr true 8 (List.map coreC (bodies L)))]]
theorem Sc_sProgLa (L : List Unit) (h : sumBy wU L ≤ 1048576 ∧ L.length ≤ 1048576) : Lp.Sem Tryz.prog (loopAt Tryz.f86 0) (lc_sProgLa L) := lpOK (fun k => .i ((↑k : Int) <
 (↑(List.map unitC L).length : Int)) (.x (↑k : Int) (List.map unitC L) (unitF (L.getD k default)) (.d [.rd] (P_c_sCopyC (L.getD k default).body) (.p (((List.map coreC (bodies
 (List.take k L))).length + 1) * 120 ≤ 140737488355328) (.r ((↑k : Int) + 1) (.g [0, 7] (k + 1) [.s (li ((↑k : Int) + 1)), .o (Ob.arr true 8 (List.map coreC (bodies (List.take k
 L)) ++ [coreF (L.getD k default).body]))]))))) (.o 0 [0, 1] [.o (Ob.arr true 8 (List.map coreC (bodies (List.take k L))))])) (by
  intro k h; try dsimp only [teasy, nthW, lc_sProgLa] at h ⊢
  have g1 := @bodies_step L k
  have g2 := @unit_w L k
  have g3 := bodies_len L k
  with_reducible repeat' (first | apply And.intro | exact zR | (intro; skip) | apply mIc | apply mOc | apply mSc | apply mLc | apply c_sCopyC | apply c_l7Globals | apply c_sFlat)
  all_goals (try simp only [std, inj] at *)
  all_goals with_reducible repeat' apply And.intro
  all_goals (try (first | with_reducible apply c_sCopyC | with_reducible apply c_l7Globals | with_reducible apply c_sFlat | (simp only [← List.map_append]; first | with_reducible apply c_sCopyC | with_reducible apply c_l7Globals | with_reducible apply c_sFlat)))
  all_goals (try (first | exact z | exact zM | grind [snocI, snocS, rowSnoc, getD_mem'])))
theorem c_sProg (L : List Unit) (h : sumBy wU L ≤ 1048576 ∧ L.length ≤ 1048576)  : P_c_sProg L := fnOK Tryz.call86 Tryz.func86 (.w (.bool false) (.z unitC L (.l (lc_sProgLa L)
 (Sc_sProgLa L h) [0, 1] [.s (li 0), .o (Ob.arr true 8 [])] 0 (.t (.d [.rd] (P_c_l7Globals L) (.z intC (globals L) (.i ((↑(List.map intC (globals L)).length : Int) = 0) (.d [.own
 true 8] (P_c_sFlat (bodies L)) (.f [4, 5, 6] [Ob.arr true 1 (List.map intC (flat1 (bodies L)).params), Ob.arr true 4 (List.map datumC (flat1 (bodies L)).datum.items), Ob.arr true
 8 (List.map coreC (flat1 (bodies L)).kids)] (AV.sv (SV.agg [vI (flat1 (bodies L)).kind, vI (flat1 (bodies L)).number, AC.ref 0, vI (flat1 (bodies L)).datum.kind, vI (flat1 (bodies
 L)).datum.number, vS (flat1 (bodies L)).datum.text, AC.ref 1, AC.ref 2])))) (.w (.ghost (.nilbox 0 6 true 4)) (.f [2, 3, 1] [Ob.arr true 1 (List.map intC (globals L)), Ob.arr true
 4 [], Ob.arr true 8 (List.map coreC (bodies L))] (AV.sv (SV.agg [vI 9, vI 0, AC.ref 0, vI 0, vI 0, vS (ByteArray.mk #[]), AC.ref 1, AC.ref 2]))))))) .q)))) (by
  dsimp only [teasy, P_c_sProg, nthW, lc_sProgLa]
  have g9 := prg0 L
  have g1 := globals_wU L
  have g2 := flat_w (bodies L)
  have g3 := bodies_w L
  with_reducible repeat' (first | apply And.intro | exact zR | (intro; skip) | apply mIc | apply mOc | apply mSc | apply mLc | apply c_sCopyC | apply c_l7Globals | apply c_sFlat)
  all_goals (try simp only [std, inj] at *)
  all_goals with_reducible repeat' apply And.intro
  all_goals (try (first | with_reducible apply c_sCopyC | with_reducible apply c_l7Globals | with_reducible apply c_sFlat | (simp only [← List.map_append]; first | with_reducible apply c_sCopyC | with_reducible apply c_l7Globals | with_reducible apply c_sFlat)))
  all_goals (try (first | exact z | exact zM | grind [prgC, snocI, snocS, rowSnoc])))
abbrev P_c_sPrgOf (L : List Unit) : Ct := ⟨27, [], [ll (L.map unitC)], coreO (prgO L), .tup [coreR (prgO L) 0, lb (prgB L)]⟩
theorem c_sPrgOf (L : List Unit) (h : sumBy wU L ≤ 1048576 ∧ L.length ≤ 1048576)  : P_c_sPrgOf L := fnOK Tryz.call27 Tryz.func27 (.z unitC L (.i ((↑(List.map unitC L).length : Int) =
 0) (.y true (.y true (.w (.ghost (.nilbox 0 2 true 1)) (.w (.ghost (.nilbox 0 6 true 4)) (.w (.ghost (.nilbox 0 7 true 8)) (.f [1, 2, 3] [Ob.arr true 1 [], Ob.arr true 4 [],
 Ob.arr true 8 []] (AV.tup [SV.agg [vI 0, vI 0, AC.ref 0, vI 0, vI 0, vS (ByteArray.mk #[]), AC.ref 1, AC.ref 2], lb false]))))))) (.d [.rd] (P_c_sUnits L) (.b (!areU L) (.y true
 (.w (.ghost (.nilbox 0 2 true 1)) (.w (.ghost (.nilbox 0 6 true 4)) (.w (.ghost (.nilbox 0 7 true 8)) (.f [1, 2, 3] [Ob.arr true 1 [], Ob.arr true 4 [], Ob.arr true 8 []] (AV.tup
 [SV.agg [vI 0, vI 0, AC.ref 0, vI 0, vI 0, vS (ByteArray.mk #[]), AC.ref 1, AC.ref 2], lb false])))))) (.d [.rd] (P_c_sProg L) (.d [.rd, .rd] (P_c_sIsCore (prgC L) []) (.b (!isCor
 (prgC L) []) (.w (.ghost (.nilbox 0 2 true 1)) (.w (.ghost (.nilbox 0 6 true 4)) (.w (.ghost (.nilbox 0 7 true 8)) (.f [4, 5, 6] [Ob.arr true 1 [], Ob.arr true 4 [], Ob.arr true 8
 []] (AV.tup [SV.agg [vI 0, vI 0, AC.ref 0, vI 0, vI 0, vS (ByteArray.mk #[]), AC.ref 1, AC.ref 2], lb false]))))) (.d [.rd] (P_c_sProg L) (.f [4, 5, 6] [Ob.arr true 1 (List.map
 intC (prgC L).params), Ob.arr true 4 (List.map datumC (prgC L).datum.items), Ob.arr true 8 (List.map coreC (prgC L).kids)] (AV.tup [SV.agg [vI (prgC L).kind, vI (prgC L).number,
 AC.ref 0, vI (prgC L).datum.kind, vI (prgC L).datum.number, vS (prgC L).datum.text, AC.ref 1, AC.ref 2], lb true])))))))))) (by
  dsimp only [teasy, P_c_sPrgOf]
  have g1 := prg_and L
  have g2 := prgC_w L
  have g3 : prgB L = true → prgO L = prgC L := fun h => if_pos h
  have g4 : prgB L = false → prgO L = ⟨0, 0, [], d0, []⟩ := fun h => by unfold prgO; rw [h]; rfl
  with_reducible repeat' (first | apply And.intro | exact zR | (intro; skip) | apply mIc | apply mOc | apply mSc | apply mLc | apply c_sUnits | apply c_sProg | apply c_sIsCore)
  all_goals (try simp only [std, inj] at *)
  all_goals with_reducible repeat' apply And.intro
  all_goals (try (first | with_reducible apply c_sUnits | with_reducible apply c_sProg | with_reducible apply c_sIsCore | (simp only [← List.map_append]; first | with_reducible apply c_sUnits | with_reducible apply c_sProg | with_reducible apply c_sIsCore)))
  all_goals (try (first | exact z | exact zM | grind [snocI, snocS, rowSnoc])))
abbrev P_c_iPrgOf (L : List Unit) : Ct := ⟨29, [], [ll (L.map unitC)], coreO (prgO L), .tup [coreR (prgO L) 0, lb (prgB L)]⟩
def lc_iPrgOfLa (L : List Unit) : Lp Nat := .mk 48 0 (fun x => [(0, ll (List.map unitC L)), (2, SV.one (AC.ptr 0 0)), (4, SV.one (AC.ref 1)), (19, ll (List.map unitC L)), (20, li
 (↑(List.map unitC L).length : Int)), (21, hs x 0)]) (fun x => [Ob.box [vI 0, vI 0, AC.val (Cell.lit (Value.slice none 0 0)), vI 0, vI 0, vS (ByteArray.mk #[]), AC.val (Cell.lit
 (Value.slice none 0 0)), AC.val (Cell.lit (Value.slice none 0 0))], ho x 1]) (fun k => [.s (li (↑k : Int)), .o (Ob.arr true 8 (List.map coreC (bodies (List.take k L))))]) (fun k
 => k ≤ L.length ∧ L.length ≤ 9223372036854775807) (fun k => L.length - k) [.mk True (.exit 0) (fun x => [(0, ll (List.map unitC L)), (2, SV.one (AC.ptr 0 0)), (4, SV.one (AC.ref
 1))]) (fun x => [Ob.box [vI 0, vI 0, AC.val (Cell.lit (Value.slice none 0 0)), vI 0, vI 0, vS (ByteArray.mk #[]), AC.val (Cell.lit (Value.slice none 0 0)), AC.val (Cell.lit
 (Value.slice none 0 0))], ho x 0]) [.o (Ob.arr true 8 (List.map coreC (bodies L)))]]
theorem Sc_iPrgOfLa (L : List Unit) (h : sumBy wU L ≤ 1048576 ∧ L.length ≤ 1048576) : Lp.Sem Tryz.prog (loopAt Tryz.f29 0) (lc_iPrgOfLa L) := lpOK (fun k => .i ((↑k : Int) <
 (↑(List.map unitC L).length : Int)) (.x (↑k : Int) (List.map unitC L) (unitF (L.getD k default)) (.d [.rd] (P_c_iCopyC (L.getD k default).body) (.p (((List.map coreC (bodies
 (List.take k L))).length + 1) * 120 ≤ 140737488355328) (.r ((↑k : Int) + 1) (.g [0, 7] (k + 1) [.s (li ((↑k : Int) + 1)), .o (Ob.arr true 8 (List.map coreC (bodies (List.take k
 L)) ++ [coreF (L.getD k default).body]))]))))) (.o 0 [0, 1] [.o (Ob.arr true 8 (List.map coreC (bodies (List.take k L))))])) (by
  intro k h; try dsimp only [teasy, nthW, lc_iPrgOfLa] at h ⊢
  have g1 := @bodies_step L k
  have g2 := @unit_w L k
  have g3 := bodies_len L k
  with_reducible repeat' (first | apply And.intro | exact zR | (intro; skip) | apply mIc | apply mOc | apply mSc | apply mLc | apply c_iUnits | apply c_iCopyC | apply c_iGlobalsOf | apply c_iSeq)
  all_goals (try simp only [std, inj] at *)
  all_goals with_reducible repeat' apply And.intro
  all_goals (try (first | with_reducible apply c_iUnits | with_reducible apply c_iCopyC | with_reducible apply c_iGlobalsOf | with_reducible apply c_iSeq | (simp only [← List.map_append]; first | with_reducible apply c_iUnits | with_reducible apply c_iCopyC | with_reducible apply c_iGlobalsOf | with_reducible apply c_iSeq)))
  all_goals (try (first | exact z | exact zM | grind [snocI, snocS, rowSnoc, getD_mem'])))
theorem c_iPrgOf (L : List Unit) (h : sumBy wU L ≤ 1048576 ∧ L.length ≤ 1048576)  : P_c_iPrgOf L := fnOK Tryz.call29 Tryz.func29 (.z unitC L (.i ((↑(List.map unitC L).length : Int) =
 0) (.y true (.w (.ghost (.nilbox 0 2 true 1)) (.w (.ghost (.nilbox 0 6 true 4)) (.w (.ghost (.nilbox 0 7 true 8)) (.f [1, 2, 3] [Ob.arr true 1 [], Ob.arr true 4 [], Ob.arr true 8
 []] (AV.tup [SV.agg [vI 0, vI 0, AC.ref 0, vI 0, vI 0, vS (ByteArray.mk #[]), AC.ref 1, AC.ref 2], lb false])))))) (.d [.rd] (P_c_iUnits L) (.b (!areU L) (.w (.ghost (.nilbox 0 2
 true 1)) (.w (.ghost (.nilbox 0 6 true 4)) (.w (.ghost (.nilbox 0 7 true 8)) (.f [1, 2, 3] [Ob.arr true 1 [], Ob.arr true 4 [], Ob.arr true 8 []] (AV.tup [SV.agg [vI 0, vI 0,
 AC.ref 0, vI 0, vI 0, vS (ByteArray.mk #[]), AC.ref 1, AC.ref 2], lb false]))))) (.z unitC L (.w (.ghost (.nilreg 4 true 8)) (.l (lc_iPrgOfLa L) (Sc_iPrgOfLa L h) [0, 1] [.s (li
 0), .o (Ob.arr true 8 [])] 0 (.t (.d [.rd] (P_c_iGlobalsOf L) (.z intC (globals L) (.i (0 < (↑(List.map intC (globals L)).length : Int)) (.w (.ghost (.nilbox 0 6 true 4)) (.f [2,
 3, 1] [Ob.arr true 1 (List.map intC (globals L)), Ob.arr true 4 [], Ob.arr true 8 (List.map coreC (bodies L))] (AV.tup [SV.agg [vI 9, vI 0, AC.ref 0, vI 0, vI 0, vS (ByteArray.mk
 #[]), AC.ref 1, AC.ref 2], lb true]))) (.d [.own true 8] (P_c_iSeq (bodies L)) (.f [4, 5, 6] [Ob.arr true 1 (List.map intC (flat1 (bodies L)).params), Ob.arr true 4 (List.map
 datumC (flat1 (bodies L)).datum.items), Ob.arr true 8 (List.map coreC (flat1 (bodies L)).kids)] (AV.tup [SV.agg [vI (flat1 (bodies L)).kind, vI (flat1 (bodies L)).number, AC.ref
 0, vI (flat1 (bodies L)).datum.kind, vI (flat1 (bodies L)).datum.number, vS (flat1 (bodies L)).datum.text, AC.ref 1, AC.ref 2], lb true])))))) .q)))))))) (by
  dsimp only [teasy, P_c_iPrgOf, nthW, lc_iPrgOfLa]
  have g9 := prg0 L
  have g0 : prgB L = (decide (¬ L.length = 0) && areU L) := rfl
  have g1 := globals_wU L
  have g2 := flat_w (bodies L)
  have g3 : prgB L = true → prgO L = prgC L := fun h => if_pos h
  have g4 : prgB L = false → prgO L = ⟨0, 0, [], d0, []⟩ := fun h => by unfold prgO; rw [h]; rfl
  have g5 := bodies_w L
  have g6 := @areU_kids L
  with_reducible repeat' (first | apply And.intro | exact zR | (intro; skip) | apply mIc | apply mOc | apply mSc | apply mLc | apply c_iUnits | apply c_iCopyC | apply c_iGlobalsOf | apply c_iSeq)
  all_goals (try simp only [std, inj] at *)
  all_goals with_reducible repeat' apply And.intro
  all_goals (try (first | with_reducible apply c_iUnits | with_reducible apply c_iCopyC | with_reducible apply c_iGlobalsOf | with_reducible apply c_iSeq | (simp only [← List.map_append]; first | with_reducible apply c_iUnits | with_reducible apply c_iCopyC | with_reducible apply c_iGlobalsOf | with_reducible apply c_iSeq)))
  all_goals (try (first | exact z | exact zM | grind [prgC, snocI, snocS, rowSnoc])))
end Go.Proofs.YtpnaoendfpaodaaGreat
end
section
namespace Go.Proofs.YtpnaoendfpaodaaGreat
open Go Go.Proofs.YtpnaoendfpaodaaGreat.Ab
set_option linter.unusedVariables false
set_option linter.unusedSimpArgs false
set_option maxHeartbeats 4000000
abbrev P_c_markIntS (L : List Int) (n : Int) : Ct := ⟨80, [.arr true 1 (L.map intC)], [.one (.ref 0), li n], [.arr true 1 ((seqM mkI cOne L n).map intC)], .sv (li (n + L.length))⟩
def lc_markIntSLa (L : List Int) (n : Int) : Lp Nat := .mk 19 1 (fun x => [(0, SV.one (AC.ref 0)), (1, hs x 1), (5, hs x 0)]) (fun x => [ho x 2]) (fun k => [.s (li (↑k : Int)), .s
 (li (n + (↑k : Int))), .o (Ob.arr true 1 (List.map intC (mkTo mkI cOne L n k)))]) (fun k => k ≤ L.length ∧ L.length ≤ 9223372036854775807) (fun k => L.length - k) [.mk True (.exit
 0) (fun x => [(1, hs x 0)]) (fun x => [ho x 1]) [.s (li (n + (↑L.length : Int))), .o (Ob.arr true 1 (List.map intC (seqM mkI cOne L n)))]]
theorem Sc_markIntSLa (L : List Int) (n : Int) (h0 : 0 ≤ n) (h : n + (↑L.length : Int) ≤ 2147483647) : Lp.Sem Tryz.prog (loopAt Tryz.f80 0) (lc_markIntSLa L n) := lpOK (fun k => .z
 intC (mkTo mkI cOne L n k) (.i ((↑k : Int) < (↑(List.map intC (mkTo mkI cOne L n k)).length : Int)) (.p (0 ≤ (↑k : Int) ∧ (↑k : Int).toNat < (List.map intC (mkTo mkI cOne L n
 k)).length) (.w (.cells (intC (L.getD (↑k : Int).toNat default))) (.p ((List.map intC (mkTo mkI cOne L n k))[(↑k : Int).toNat]? = some [cI (L.getD (↑k : Int).toNat 0)]) (.r (n +
 (↑k : Int) + 1) (.r ((↑k : Int) + 1) (.g [0] (k + 1) [.s (li ((↑k : Int) + 1)), .s (li (n + (↑k : Int) + 1)), .o (Ob.arr true 1 ((List.map intC (mkTo mkI cOne L n k)).set (↑k :
 Int).toNat [cI (n + (↑k : Int))]))])))))) (.o 0 [0] [.s (li (n + (↑k : Int))), .o (Ob.arr true 1 (List.map intC (mkTo mkI cOne L n k)))]))) (by
  intro k h; try dsimp only [teasy, nthW, lc_markIntSLa] at h ⊢
  with_reducible repeat' (first | apply And.intro | exact zR | (intro; skip))
  all_goals (try simp only [std, stdM, inj] at *)
  all_goals with_reducible repeat' apply And.intro
  all_goals (try (first | exact z | ((first | refine rowGet ?_ | refine getC ?_ rfl); (first | omega | (simp only [std, stdM]; omega) | grind)) | (refine set_row ?_; (simp only [List.length_map, List.length_set, mkTo_len]; omega)) | (refine mkToRow ?_; (first | omega | (simp only [std, stdM]; omega) | grind)) | (refine mkTo_row ?_ rfl; (first | omega | (simp only [std, stdM]; omega) | grind)) | (refine mkTo_step ?_ ?_; (first | omega | (simp only [std, stdM]; omega) | grind); (first | grind [mkTo_all, mkI, cOne_take, intC, mkTo_get, snocI, snocS, rowSnoc])) | grind [mkTo_all, mkI, cOne_take, intC, mkTo_get, snocI, snocS, rowSnoc])))
theorem c_markIntS (L : List Int) (n : Int) (h0 : 0 ≤ n) (h : n + L.length ≤ 2147483647)  : P_c_markIntS L n := fnOK Tryz.call80 Tryz.func80 (.l (lc_markIntSLa L n) (Sc_markIntSLa L
 n h0 h) [0] [.s (li 0), .s (li n), .o (Ob.arr true 1 (List.map intC L))] 0 (.t (.f [] [Ob.arr true 1 (List.map intC (seqM mkI cOne L n))] (AV.sv (li (n + (↑L.length : Int)))))
 .q)) (by
  dsimp only [teasy, P_c_markIntS, nthW, lc_markIntSLa]
  with_reducible repeat' (first | apply And.intro | exact zR | (intro; skip))
  all_goals (try simp only [std, stdM, inj] at *)
  all_goals with_reducible repeat' apply And.intro
  all_goals (try (first | exact z | ((first | refine rowGet ?_ | refine getC ?_ rfl); (first | omega | (simp only [std, stdM]; omega) | grind)) | (refine set_row ?_; (simp only [List.length_map, List.length_set, mkTo_len]; omega)) | (refine mkToRow ?_; (first | omega | (simp only [std, stdM]; omega) | grind)) | (refine mkTo_row ?_ rfl; (first | omega | (simp only [std, stdM]; omega) | grind)) | (refine mkTo_step ?_ ?_; (first | omega | (simp only [std, stdM]; omega) | grind); (first | grind [mkTo_zero, snocI, snocS, rowSnoc])) | grind [mkTo_zero, snocI, snocS, rowSnoc])))
abbrev P_c_markText (n : Int) : Ct := ⟨95, [], [li n], [], .sv (ls (mText n))⟩
def lc_markTextLa (n : Int) : Lp (Int × List UInt8) := .mk 20 0 (fun x => [(0, hs x 0), (3, hs x 1)]) (fun x => []) (fun k => [.s (li k.fst), .s (ls (mkS k.snd))]) (fun k => 0 ≤
 k.fst ∧ k.fst ≤ n ∧ digs k.fst.toNat ++ k.snd = digs n.toNat) (fun k => k.fst.toNat) [.mk True (.exit 0) (fun x => [(3, hs x 0)]) (fun x => []) [.s (ls (mkS (digs n.toNat)))]]
theorem Sc_markTextLa (n : Int) (h0 : 0 ≤ n) (h : n ≤ 2147483647) : Lp.Sem Tryz.prog (loopAt Tryz.f95 0) (lc_markTextLa n) := lpOK (fun k => .i (0 < k.fst) (.p ((10 : Int) ≠ 0) (.r
 (48 + k.fst.tmod 10) (.p (rng IntKind.u8 (48 + k.fst.tmod 10)) (.w (.bytes [UInt8.ofNat (48 + k.fst.tmod 10).toNat]) (.p ([[Cell.lit (Value.int IntKind.u8 (48 + k.fst.tmod 10))]]
 = [[Cell.lit (Value.int IntKind.u8 (↑(UInt8.ofNat (48 + k.fst.tmod 10).toNat).toNat : Int))]]) (.p (1 + k.snd.length ≤ 9223372036854775807) (.p ((10 : Int) ≠ 0) (.r (k.fst.tdiv
 10) (.g [] (k.fst.tdiv 10, [UInt8.ofNat (48 + k.fst.tmod 10).toNat] ++ k.snd) [.s (li (k.fst.tdiv 10)), .s (ls (ByteArray.mk ([UInt8.ofNat (48 + k.fst.tmod 10).toNat] ++
 k.snd).toArray))]))))))))) (.o 0 [] [.s (ls (mkS k.snd))])) (by
  intro k h; try dsimp only [teasy, nthW, lc_markTextLa] at h ⊢
  obtain ⟨i, l⟩ := k
  simp only at *
  obtain ⟨g1, g2, g3⟩ := h
  have g4 : l.length ≤ 2147483647 := by
    have := congrArg List.length g3
    have := digs_len n.toNat
    simp only [List.length_append] at *
    omega
  simp only [Int.tmod_eq_emod_of_nonneg g1, Int.tdiv_eq_ediv_of_nonneg g1]
  refine ⟨fun g => ?_, fun g => ?_⟩
  · refine ⟨by decide, by rw [rng64]; omega, by rw [rngu8]; omega, by rw [u8_int (by omega) (by omega)], by omega, by decide, by rw [rng64]; omega, by omega, rfl, ?_⟩
    exact ⟨by show 0 ≤ i / 10; omega, by show i / 10 ≤ n; omega, by show digs (i / 10).toNat ++ ([_] ++ l) = _; rw [← g3, digs_int g, List.append_assoc]⟩
  · refine ⟨trivial, ?_⟩
    have e : i = 0 := by omega
    subst e
    rw [show digs (0 : Int).toNat = [] from digs_zero] at g3
    rw [← g3]; rfl)
theorem c_markText (n : Int) (h0 : 0 ≤ n) (h : n ≤ 2147483647)  : P_c_markText n := fnOK Tryz.call95 Tryz.func95 (.i (n ≤ 0) (.s (ls (ByteArray.mk #[(109 : UInt8), (48 : UInt8)])))
 (.l (lc_markTextLa n) (Sc_markTextLa n h0 h) [] [.s (li n), .s (ls (ByteArray.mk #[]))] (n, []) (.t (.p (1 + (digs n.toNat).length ≤ 9223372036854775807) (.s (ls (ByteArray.mk
 ([(109 : UInt8)] ++ digs n.toNat).toArray)))) .q))) (by
  dsimp only [teasy, P_c_markText, nthW, lc_markTextLa]
  have g := digs_len n.toNat
  simp only [mText]
  with_reducible repeat' (first | apply And.intro | exact zR | (intro; skip))
  all_goals (try simp only [std, stdM, inj] at *)
  all_goals with_reducible repeat' apply And.intro
  all_goals (try (first | exact z | ((first | refine rowGet ?_ | refine getC ?_ rfl); (first | omega | (simp only [std, stdM]; omega) | grind)) | (refine set_row ?_; (simp only [List.length_map, List.length_set, mkTo_len]; omega)) | (refine mkToRow ?_; (first | omega | (simp only [std, stdM]; omega) | grind)) | (refine mkTo_row ?_ rfl; (first | omega | (simp only [std, stdM]; omega) | grind)) | (refine mkTo_step ?_ ?_; (first | omega | (simp only [std, stdM]; omega) | grind); (first | grind [mkS, snocI, snocS, rowSnoc])) | grind [mkS, snocI, snocS, rowSnoc])))
abbrev P_c_markDatumS (x : Datum) (n : Int) : Ct := ⟨96, [.arr true 4 (x.items.map datumC)], [.one (.ref 0), li n], [.arr true 4 ((seqM mkD cD x.items n).map datumC)], .sv (li (n + sumBy cD x.items))⟩
def lc_markDatumS_sLa (x : Datum) (n : Int) : Lp Nat := .mk 42 1 (fun x => [(0, SV.one (AC.ref 0)), (1, hs x 1), (5, hs x 0)]) (fun x => [ho x 2]) (fun k => [.s (li (↑k : Int)), .s
 (li (n + (↑(sumBy cD (List.take k x.items)) : Int))), .o (Ob.arr true 4 (List.map datumC (mkTo mkD cD x.items n k)))]) (fun k => k ≤ x.items.length ∧ x.items.length ≤
 9223372036854775807) (fun k => x.items.length - k) [.mk True (.exit 0) (fun x => [(1, hs x 0)]) (fun x => [ho x 1]) [.s (li (n + (↑(sumBy cD x.items) : Int))), .o (Ob.arr true 4
 (List.map datumC (seqM mkD cD x.items n)))]]
theorem Sc_markDatumS_sLa (x : Datum) (n : Int) (h0 : 0 ≤ n) (h : n + (↑(sumBy cD x.items) : Int) ≤ 2147483647) (ih : ∀ (z : Datum), z ∈ x.items → ∀ (n : Int), 0 ≤ n → n + (↑(sumBy
 cD z.items) : Int) ≤ 2147483647 → OK (P_c_markDatumS z n)) : Lp.Sem Tryz.prog (loopAt Tryz.f96 0) (lc_markDatumS_sLa x n) := lpOK (fun k => let v1 := (↑(sumBy cD (List.take k
 x.items)) : Int); let v2 := (x.items.getD (↑k : Int).toNat default); let v3 := (List.map datumC (mkTo mkD cD x.items n k)); let v10 := (n + v1 + 1 + 1); let v8 := (List.map datumC
 v2.items); let v4 := [cI (n + v1), cI (n + v1 + 1), cS (mText v10), Cell.list v8]; let v5 := [cI (n + v1), cI (n + v1 + 1), cS v2.text, Cell.list v8]; let v6 := [cI (n + v1), cI
 v2.number, cS v2.text, Cell.list v8]; let v7 := (n + v1 + 1 + 1 + 1); let v9 := (v3.set (↑k : Int).toNat v4); .z datumC (mkTo mkD cD x.items n k) (.i ((↑k : Int) < (↑(List.map
 datumC (mkTo mkD cD x.items n k)).length : Int)) (.p (0 ≤ (↑k : Int) ∧ (↑k : Int).toNat < v3.length) (.w (.cells (datumF v2)) (.p (v3[(↑k : Int).toNat]? = some (datumF v2)) (.r (n
 + v1 + 1) (.p (0 ≤ (↑k : Int) ∧ (↑k : Int).toNat < (v3.set (↑k : Int).toNat v6).length) (.w (.take v6 (v3.set (↑k : Int).toNat v5) 0) (.p ((v3.set (↑k : Int).toNat v6)[(↑k :
 Int).toNat]? = some v6) (.p ((v3.set (↑k : Int).toNat v6).set (↑k : Int).toNat v5 = v3.set (↑k : Int).toNat v5) (.r v10 (.d [.rd] (P_c_markText v10) (.p (0 ≤ (↑k : Int) ∧ (↑k :
 Int).toNat < (v3.set (↑k : Int).toNat v5).length) (.w (.take v5 v9 0) (.p ((v3.set (↑k : Int).toNat v5)[(↑k : Int).toNat]? = some v5) (.p ((v3.set (↑k : Int).toNat v5).set (↑k :
 Int).toNat v4 = v3.set (↑k : Int).toNat v4) (.r v7 (.p (0 ≤ (↑k : Int) ∧ (↑k : Int).toNat < v9.length) (.w .sub (.p ((↑k : Int).toNat < v9.length) (.w (.subcall v4 v8 4) (.u [.own
 true 4, .rd] (P_c_markDatumS v2 v7) (.p (v9[(↑k : Int).toNat]? = some v4) (.p (some (Cell.list v8) = some (Cell.list v8)) (.p (∀ (x_1 : List Cell), x_1 ∈ List.map datumC v2.items
 → x_1.length = 4) (.p (OK (P_c_markDatumS v2 v7)) (.r ((↑k : Int) + 1) (.g [0] (k + 1) [.s (li ((↑k : Int) + 1)), .s (li (n + v1 + 1 + 1 + 1 + (↑(sumBy cD v2.items) : Int))), .o
 (Ob.arr true 4 (v9.set (↑k : Int).toNat [cI (n + v1), cI (n + v1 + 1), cS (mText v10), Cell.list (List.map datumC (seqM mkD cD v2.items v7))]))])))))))))))))))))))))))))) (.o 0
 [0] [.s (li (n + v1)), .o (Ob.arr true 4 v3)]))) (by
  intro k h; try dsimp only [teasy, nthW, lc_markDatumS_sLa] at h ⊢
  have g0 := sumBy_takeLe cD x.items (k + 1)
  with_reducible repeat' (first | apply And.intro | exact zR | exact ih | (intro; skip) | apply c_markText | apply ih)
  all_goals (try simp only [std, stdM, inj] at *)
  all_goals with_reducible repeat' apply And.intro
  all_goals (try (first | with_reducible apply c_markText | with_reducible apply ih | (simp only [← List.map_append]; first | with_reducible apply c_markText | with_reducible apply ih)))
  all_goals (try (first | exact z | ((first | refine rowGet ?_ | refine getC ?_ rfl); (first | omega | (simp only [std, stdM]; omega) | grind)) | (refine set_row ?_; (simp only [List.length_map, List.length_set, mkTo_len]; omega)) | (refine mkToRow ?_; (first | omega | (simp only [std, stdM]; omega) | grind)) | (refine mkTo_row ?_ rfl; (first | omega | (simp only [std, stdM]; omega) | grind)) | (refine mkTo_step ?_ ?_; (first | omega | (simp only [std, stdM]; omega) | grind); (first | exact mkD_C _ _ | grind [sumBy_step, getD_mem', cD_eq, mkD_C, mkTo_all, snocI, snocS, rowSnoc])) | grind [sumBy_step, getD_mem', cD_eq, mkD_C, mkTo_all, snocI, snocS, rowSnoc])))
theorem c_markDatumS_s (x : Datum) (n : Int) (h0 : 0 ≤ n) (h : n + sumBy cD x.items ≤ 2147483647) (ih : ∀ z ∈ x.items, ∀ (n : Int) (h0 : 0 ≤ n) (h : n + sumBy cD z.items ≤
 2147483647), P_c_markDatumS z n)  : P_c_markDatumS x n := fnOK Tryz.call96 Tryz.func96 (.l (lc_markDatumS_sLa x n) (Sc_markDatumS_sLa x n h0 h ih) [0] [.s (li 0), .s (li n), .o
 (Ob.arr true 4 (List.map datumC x.items))] 0 (.t (.f [] [Ob.arr true 4 (List.map datumC (seqM mkD cD x.items n))] (AV.sv (li (n + (↑(sumBy cD x.items) : Int))))) .q)) (by
  dsimp only [teasy, P_c_markDatumS, nthW, lc_markDatumS_sLa]
  have gl := cD_len x.items
  with_reducible repeat' (first | apply And.intro | exact zR | exact ih | (intro; skip) | apply c_markText)
  all_goals (try simp only [std, stdM, inj] at *)
  all_goals with_reducible repeat' apply And.intro
  all_goals (try (first | with_reducible apply c_markText | with_reducible apply ih | (simp only [← List.map_append]; first | with_reducible apply c_markText | with_reducible apply ih)))
  all_goals (try (first | exact z | ((first | refine rowGet ?_ | refine getC ?_ rfl); (first | omega | (simp only [std, stdM]; omega) | grind)) | (refine set_row ?_; (simp only [List.length_map, List.length_set, mkTo_len]; omega)) | (refine mkToRow ?_; (first | omega | (simp only [std, stdM]; omega) | grind)) | (refine mkTo_row ?_ rfl; (first | omega | (simp only [std, stdM]; omega) | grind)) | (refine mkTo_step ?_ ?_; (first | omega | (simp only [std, stdM]; omega) | grind); (first | grind [mkTo_all, snocI, snocS, rowSnoc])) | grind [mkTo_all, snocI, snocS, rowSnoc])))
theorem c_markDatumS (x : Datum) : ∀ (n : Int) (h0 : 0 ≤ n) (h : n + sumBy cD x.items ≤ 2147483647), P_c_markDatumS x n := Datum.ind (P := fun x => ∀ (n : Int) (h0 : 0 ≤ n) (h : n + sumBy cD x.items ≤ 2147483647), P_c_markDatumS x n) (fun x ih n h0 h => c_markDatumS_s x n h0 h ih) x
theorem c_markDatumSL (L : List Datum) (n : Int) (h0 : 0 ≤ n) (h : n + sumBy cD L ≤ 2147483647) : P_c_markDatumS { (default : Datum) with items := L } n := c_markDatumS { (default : Datum) with items := L } n h0 h
abbrev P_c_markDatum (x : Datum) (n : Int) : Ct := ⟨98, [.arr true 4 (x.items.map datumC)], [.agg [vI x.kind, vI x.number, vS x.text, .ref 0], li n], [.arr true 4 ((seqM mkD cD x.items (n)).map datumC)], .sv (li (n + sumBy cD x.items))⟩
theorem c_markDatum (x : Datum) (n : Int) (h0 : 0 ≤ n) (h : n + (sumBy cD x.items : Nat) ≤ 2147483647)  : P_c_markDatum x n := fnOK Tryz.call98 Tryz.func98 (.d [.own true 4, .rd]
 (P_c_markDatumS x n) (.f [] [Ob.arr true 4 (List.map datumC (seqM mkD cD x.items n))] (AV.sv (li (n + (↑(sumBy cD x.items) : Int)))))) (by
  dsimp only [teasy, P_c_markDatum]
  with_reducible repeat' (first | apply And.intro | exact zR | (intro; skip) | apply c_markDatumS | apply c_markDatumSL)
  all_goals (try simp only [std, stdM, inj] at *)
  all_goals with_reducible repeat' apply And.intro
  all_goals (try (first | with_reducible apply c_markDatumS | with_reducible apply c_markDatumSL | (simp only [← List.map_append]; first | with_reducible apply c_markDatumS | with_reducible apply c_markDatumSL)))
  all_goals (try (first | exact z | ((first | refine rowGet ?_ | refine getC ?_ rfl); (first | omega | (simp only [std, stdM]; omega) | grind)) | (refine set_row ?_; (simp only [List.length_map, List.length_set, mkTo_len]; omega)) | (refine mkToRow ?_; (first | omega | (simp only [std, stdM]; omega) | grind)) | (refine mkTo_row ?_ rfl; (first | omega | (simp only [std, stdM]; omega) | grind)) | (refine mkTo_step ?_ ?_; (first | omega | (simp only [std, stdM]; omega) | grind); (first | grind [snocI, snocS, rowSnoc])) | grind [snocI, snocS, rowSnoc])))
abbrev P_c_markCoreS (x : Core) (n : Int) : Ct := ⟨97, [.arr true 8 (x.kids.map coreC)], [.one (.ref 0), li n], [.arr true 8 ((seqM mkC cC x.kids n).map coreC)], .sv (li (n + sumBy cC x.kids))⟩
def lc_markCoreS_sLa (x : Core) (n : Int) : Lp Nat := .mk 74 1 (fun x => [(0, SV.one (AC.ref 0)), (1, hs x 1), (5, hs x 0)]) (fun x => [ho x 2]) (fun k => [.s (li (↑k : Int)), .s
 (li (n + (↑(sumBy cC (List.take k x.kids)) : Int))), .o (Ob.arr true 8 (List.map coreC (mkTo mkC cC x.kids n k)))]) (fun k => k ≤ x.kids.length ∧ x.kids.length ≤
 9223372036854775807) (fun k => x.kids.length - k) [.mk True (.exit 0) (fun x => [(1, hs x 0)]) (fun x => [ho x 1]) [.s (li (n + (↑(sumBy cC x.kids) : Int))), .o (Ob.arr true 8
 (List.map coreC (seqM mkC cC x.kids n)))]]
theorem Sc_markCoreS_sLa (x : Core) (n : Int) (h0 : 0 ≤ n) (h : n + (↑(sumBy cC x.kids) : Int) ≤ 2147483647) (ih : ∀ (z : Core), z ∈ x.kids → ∀ (n : Int), 0 ≤ n → n + (↑(sumBy cC
 z.kids) : Int) ≤ 2147483647 → OK (P_c_markCoreS z n)) : Lp.Sem Tryz.prog (loopAt Tryz.f97 0) (lc_markCoreS_sLa x n) := lpOK (fun k => let v8 := (↑(sumBy cC (List.take k x.kids)) :
 Int); let v15 := (n + v8 + 1); let v7 := (x.kids.getD (↑k : Int).toNat default); let v24 := (List.map intC v7.params); let v18 := (List.map datumC v7.datum.items); let v21 :=
 (List.map coreC v7.kids); let v1 := [cI (n + v8), cI v15, Cell.list v24, cI v7.datum.kind, cI v7.datum.number, cS v7.datum.text, Cell.list v18, Cell.list v21]; let v23 := (n + v8
 + 1 + 1); let v12 := (List.map intC (seqM mkI cOne v7.params v23)); let v10 := (↑(x.kids.getD (↑k : Int).toNat default).params.length : Int); let v22 := (n + v8 + 1 + 1 + v10);
 let v20 := (n + v8 + 1 + 1 + v10 + 1); let v17 := (n + v8 + 1 + 1 + v10 + 1 + 1); let v2 := [cI (n + v8), cI v15, Cell.list v12, cI v22, cI v20, cS (mText v17), Cell.list v18,
 Cell.list v21]; let v3 := [cI (n + v8), cI v15, Cell.list v12, cI v22, cI v20, cS v7.datum.text, Cell.list v18, Cell.list v21]; let v16 := (n + v8 + 1 + 1 + v10 + 1 + 1 + 1); let
 v4 := [cI (n + v8), cI v15, Cell.list v12, cI v22, cI v20, cS (mText v17), Cell.list (List.map datumC (seqM mkD cD v7.datum.items v16)), Cell.list v21]; let v5 := [cI (n + v8), cI
 v15, Cell.list v12, cI v22, cI v7.datum.number, cS v7.datum.text, Cell.list v18, Cell.list v21]; let v6 := [cI (n + v8), cI v15, Cell.list v12, cI v7.datum.kind, cI
 v7.datum.number, cS v7.datum.text, Cell.list v18, Cell.list v21]; let v13 := (List.map coreC (mkTo mkC cC x.kids n k)); let v9 := (v13.set (↑k : Int).toNat v1); let v11 := [cI (n
 + v8), cI v7.number, Cell.list v24, cI v7.datum.kind, cI v7.datum.number, cS v7.datum.text, Cell.list v18, Cell.list v21]; let v14 := (v9.set (↑k : Int).toNat v2); let v19 := (n +
 v8 + 1 + 1 + v10 + 1 + 1 + 1 + (↑(sumBy cD v7.datum.items) : Int)); .z coreC (mkTo mkC cC x.kids n k) (.i ((↑k : Int) < (↑(List.map coreC (mkTo mkC cC x.kids n k)).length : Int))
 (.p (0 ≤ (↑k : Int) ∧ (↑k : Int).toNat < v13.length) (.w (.cells (coreF v7)) (.p (v13[(↑k : Int).toNat]? = some (coreF v7)) (.r v15 (.p (0 ≤ (↑k : Int) ∧ (↑k : Int).toNat <
 (v13.set (↑k : Int).toNat v11).length) (.w (.take v11 v9 0) (.p ((v13.set (↑k : Int).toNat v11)[(↑k : Int).toNat]? = some v11) (.p ((v13.set (↑k : Int).toNat v11).set (↑k :
 Int).toNat v1 = v13.set (↑k : Int).toNat v1) (.r v23 (.p (0 ≤ (↑k : Int) ∧ (↑k : Int).toNat < v9.length) (.w .sub (.p ((↑k : Int).toNat < v9.length) (.w (.subcall v1 v24 1) (.u
 [.own true 1, .rd] (P_c_markIntS v7.params v23) (.p (v9[(↑k : Int).toNat]? = some v1) (.p (some (Cell.list v24) = some (Cell.list v24)) (.p (∀ (x_1 : List Cell), x_1 ∈ List.map
 intC v7.params → x_1.length = 1) (.p (OK (P_c_markIntS v7.params v23)) (.p (0 ≤ (↑k : Int) ∧ (↑k : Int).toNat < (v9.set (↑k : Int).toNat v6).length) (.w (.take v6 (v9.set (↑k :
 Int).toNat v5) 0) (.p ((v9.set (↑k : Int).toNat v6)[(↑k : Int).toNat]? = some v6) (.p ((v9.set (↑k : Int).toNat v6).set (↑k : Int).toNat v5 = v9.set (↑k : Int).toNat v5) (.r v20
 (.p (0 ≤ (↑k : Int) ∧ (↑k : Int).toNat < (v9.set (↑k : Int).toNat v5).length) (.w (.take v5 (v9.set (↑k : Int).toNat v3) 0) (.p ((v9.set (↑k : Int).toNat v5)[(↑k : Int).toNat]? =
 some v5) (.p ((v9.set (↑k : Int).toNat v5).set (↑k : Int).toNat v3 = v9.set (↑k : Int).toNat v3) (.r v17 (.d [.rd] (P_c_markText v17) (.p (0 ≤ (↑k : Int) ∧ (↑k : Int).toNat <
 (v9.set (↑k : Int).toNat v3).length) (.w (.take v3 v14 0) (.p ((v9.set (↑k : Int).toNat v3)[(↑k : Int).toNat]? = some v3) (.p ((v9.set (↑k : Int).toNat v3).set (↑k : Int).toNat v2
 = v9.set (↑k : Int).toNat v2) (.r v16 (.p (0 ≤ (↑k : Int) ∧ (↑k : Int).toNat < v14.length) (.w .sub (.p ((↑k : Int).toNat < v14.length) (.w (.subcall v2 v18 4) (.u [.own true 4,
 .rd] (P_c_markDatumS v7.datum v16) (.p (v14[(↑k : Int).toNat]? = some v2) (.p (some (Cell.list v18) = some (Cell.list v18)) (.p (∀ (x_1 : List Cell), x_1 ∈ List.map datumC
 v7.datum.items → x_1.length = 4) (.p (OK (P_c_markDatumS v7.datum v16)) (.p (0 ≤ (↑k : Int) ∧ (↑k : Int).toNat < (v14.set (↑k : Int).toNat v4).length) (.w .sub (.p ((↑k :
 Int).toNat < (v14.set (↑k : Int).toNat v4).length) (.w (.subcall v4 v21 8) (.u [.own true 8, .rd] (P_c_markCoreS v7 v19) (.p ((v14.set (↑k : Int).toNat v4)[(↑k : Int).toNat]? =
 some v4) (.p (some (Cell.list v21) = some (Cell.list v21)) (.p (∀ (x_1 : List Cell), x_1 ∈ List.map coreC v7.kids → x_1.length = 8) (.p (OK (P_c_markCoreS v7 v19)) (.r ((↑k : Int)
 + 1) (.g [0] (k + 1) [.s (li ((↑k : Int) + 1)), .s (li (n + v8 + 1 + 1 + v10 + 1 + 1 + 1 + (↑(sumBy cD v7.datum.items) : Int) + (↑(sumBy cC v7.kids) : Int))), .o (Ob.arr true 8
 ((v14.set (↑k : Int).toNat v4).set (↑k : Int).toNat [cI (n + v8), cI v15, Cell.list v12, cI v22, cI v20, cS (mText v17), Cell.list (List.map datumC (seqM mkD cD v7.datum.items
 v16)), Cell.list (List.map coreC (seqM mkC cC v7.kids v19))]))])))))))))))))))))))))))))))))))))))))))))))))))))))))) (.o 0 [0] [.s (li (n + v8)), .o (Ob.arr true 8 v13)]))) (by
  intro k h; try dsimp only [teasy, nthW, lc_markCoreS_sLa] at h ⊢
  have g0 := sumBy_takeLe cC x.kids (k + 1)
  with_reducible repeat' (first | apply And.intro | exact zR | exact ih | (intro; skip) | apply c_markIntS | apply c_markText | apply c_markDatumS | apply c_markDatumSL | apply ih)
  all_goals (try simp only [std, stdM, inj] at *)
  all_goals with_reducible repeat' apply And.intro
  all_goals (try (first | with_reducible apply c_markIntS | with_reducible apply c_markText | with_reducible apply c_markDatumS | with_reducible apply c_markDatumSL | with_reducible apply ih | (simp only [← List.map_append]; first | with_reducible apply c_markIntS | with_reducible apply c_markText | with_reducible apply c_markDatumS | with_reducible apply c_markDatumSL | with_reducible apply ih)))
  all_goals (try (first | exact z | ((first | refine rowGet ?_ | refine getC ?_ rfl); (first | omega | (simp only [std, stdM]; omega) | grind)) | (refine set_row ?_; (simp only [List.length_map, List.length_set, mkTo_len]; omega)) | (refine mkToRow ?_; (first | omega | (simp only [std, stdM]; omega) | grind)) | (refine mkTo_row ?_ rfl; (first | omega | (simp only [std, stdM]; omega) | grind)) | (refine mkTo_step ?_ ?_; (first | omega | (simp only [std, stdM]; omega) | grind); (first | exact mkC_C _ _ | grind [sumBy_step, getD_mem', cC_eq, mkC_C, mkTo_all, snocI, snocS, rowSnoc])) | grind [sumBy_step, getD_mem', cC_eq, mkC_C, mkTo_all, snocI, snocS, rowSnoc])))
theorem c_markCoreS_s (x : Core) (n : Int) (h0 : 0 ≤ n) (h : n + sumBy cC x.kids ≤ 2147483647) (ih : ∀ z ∈ x.kids, ∀ (n : Int) (h0 : 0 ≤ n) (h : n + sumBy cC z.kids ≤ 2147483647),
 P_c_markCoreS z n)  : P_c_markCoreS x n := fnOK Tryz.call97 Tryz.func97 (.l (lc_markCoreS_sLa x n) (Sc_markCoreS_sLa x n h0 h ih) [0] [.s (li 0), .s (li n), .o (Ob.arr true 8
 (List.map coreC x.kids))] 0 (.t (.f [] [Ob.arr true 8 (List.map coreC (seqM mkC cC x.kids n))] (AV.sv (li (n + (↑(sumBy cC x.kids) : Int))))) .q)) (by
  dsimp only [teasy, P_c_markCoreS, nthW, lc_markCoreS_sLa]
  have gl := cC_len x.kids
  with_reducible repeat' (first | apply And.intro | exact zR | exact ih | (intro; skip) | apply c_markIntS | apply c_markText | apply c_markDatumS | apply c_markDatumSL)
  all_goals (try simp only [std, stdM, inj] at *)
  all_goals with_reducible repeat' apply And.intro
  all_goals (try (first | with_reducible apply c_markIntS | with_reducible apply c_markText | with_reducible apply c_markDatumS | with_reducible apply c_markDatumSL | with_reducible apply ih | (simp only [← List.map_append]; first | with_reducible apply c_markIntS | with_reducible apply c_markText | with_reducible apply c_markDatumS | with_reducible apply c_markDatumSL | with_reducible apply ih)))
  all_goals (try (first | exact z | ((first | refine rowGet ?_ | refine getC ?_ rfl); (first | omega | (simp only [std, stdM]; omega) | grind)) | (refine set_row ?_; (simp only [List.length_map, List.length_set, mkTo_len]; omega)) | (refine mkToRow ?_; (first | omega | (simp only [std, stdM]; omega) | grind)) | (refine mkTo_row ?_ rfl; (first | omega | (simp only [std, stdM]; omega) | grind)) | (refine mkTo_step ?_ ?_; (first | omega | (simp only [std, stdM]; omega) | grind); (first | grind [mkTo_all, snocI, snocS, rowSnoc])) | grind [mkTo_all, snocI, snocS, rowSnoc])))
theorem c_markCoreS (x : Core) : ∀ (n : Int) (h0 : 0 ≤ n) (h : n + sumBy cC x.kids ≤ 2147483647), P_c_markCoreS x n := Core.ind (P := fun x => ∀ (n : Int) (h0 : 0 ≤ n) (h : n + sumBy cC x.kids ≤ 2147483647), P_c_markCoreS x n) (fun x ih n h0 h => c_markCoreS_s x n h0 h ih) x
theorem c_markCoreSL (L : List Core) (n : Int) (h0 : 0 ≤ n) (h : n + sumBy cC L ≤ 2147483647) : P_c_markCoreS { (default : Core) with kids := L } n := c_markCoreS { (default : Core) with kids := L } n h0 h
abbrev P_c_markCore (x : Core) (n : Int) : Ct := ⟨33, [.arr true 1 (x.params.map intC), .arr true 4 (x.datum.items.map datumC), .arr true 8 (x.kids.map coreC)], [.agg [vI x.kind, vI x.number, .ref 0, vI x.datum.kind, vI x.datum.number, vS x.datum.text, .ref 1, .ref 2], li n], [.arr true 1 ((seqM mkI cOne x.params (n)).map intC), .arr true 4 ((seqM mkD cD x.datum.items (n + x.params.length)).map datumC), .arr true 8 ((seqM mkC cC x.kids (n + x.params.length + sumBy cD x.datum.items)).map coreC)], .sv (li (n + x.params.length + sumBy cD x.datum.items + sumBy cC x.kids))⟩
theorem c_markCore (x : Core) (n : Int) (h0 : 0 ≤ n) (h : n + (x.params.length + sumBy cD x.datum.items + sumBy cC x.kids : Nat) ≤ 2147483647)  : P_c_markCore x n := fnOK
 Tryz.call33 Tryz.func33 (.d [.own true 1, .rd] (P_c_markIntS x.params n) (.d [.agg [none, none, none, some (true, 4)], .rd] (P_c_markDatum x.datum (n + (↑x.params.length : Int)))
 (.d [.own true 8, .rd] (P_c_markCoreS x (n + (↑x.params.length : Int) + (↑(sumBy cD x.datum.items) : Int))) (.f [] [Ob.arr true 1 (List.map intC (seqM mkI cOne x.params n)),
 Ob.arr true 4 (List.map datumC (seqM mkD cD x.datum.items (n + (↑x.params.length : Int)))), Ob.arr true 8 (List.map coreC (seqM mkC cC x.kids (n + (↑x.params.length : Int) +
 (↑(sumBy cD x.datum.items) : Int))))] (AV.sv (li (n + (↑x.params.length : Int) + (↑(sumBy cD x.datum.items) : Int) + (↑(sumBy cC x.kids) : Int)))))))) (by
  dsimp only [teasy, P_c_markCore]
  with_reducible repeat' (first | apply And.intro | exact zR | (intro; skip) | apply c_markIntS | apply c_markDatum | apply c_markCoreS | apply c_markCoreSL)
  all_goals (try simp only [std, stdM, inj] at *)
  all_goals with_reducible repeat' apply And.intro
  all_goals (try (first | with_reducible apply c_markIntS | with_reducible apply c_markDatum | with_reducible apply c_markCoreS | with_reducible apply c_markCoreSL | (simp only [← List.map_append]; first | with_reducible apply c_markIntS | with_reducible apply c_markDatum | with_reducible apply c_markCoreS | with_reducible apply c_markCoreSL)))
  all_goals (try (first | exact z | ((first | refine rowGet ?_ | refine getC ?_ rfl); (first | omega | (simp only [std, stdM]; omega) | grind)) | (refine set_row ?_; (simp only [List.length_map, List.length_set, mkTo_len]; omega)) | (refine mkToRow ?_; (first | omega | (simp only [std, stdM]; omega) | grind)) | (refine mkTo_row ?_ rfl; (first | omega | (simp only [std, stdM]; omega) | grind)) | (refine mkTo_step ?_ ?_; (first | omega | (simp only [std, stdM]; omega) | grind); (first | grind [snocI, snocS, rowSnoc])) | grind [snocI, snocS, rowSnoc])))
abbrev P_c_markUnitS (L : List Unit) (n : Int) : Ct := ⟨32, [.arr true 10 (L.map unitC)], [.one (.ref 0), li n], [.arr true 10 ((seqM mkU cU L n).map unitC)], .sv (li (n + sumBy cU L))⟩
def lc_markUnitSLa (L : List Unit) (n : Int) : Lp Nat := .mk 97 1 (fun x => [(0, SV.one (AC.ref 0)), (1, hs x 1), (5, hs x 0)]) (fun x => [ho x 2]) (fun k => [.s (li (↑k : Int)),
 .s (li (n + (↑(sumBy cU (List.take k L)) : Int))), .o (Ob.arr true 10 (List.map unitC (mkTo mkU cU L n k)))]) (fun k => k ≤ L.length ∧ L.length ≤ 9223372036854775807) (fun k =>
 L.length - k) [.mk True (.exit 0) (fun x => [(1, hs x 0)]) (fun x => [ho x 1]) [.s (li (n + (↑(sumBy cU L) : Int))), .o (Ob.arr true 10 (List.map unitC (seqM mkU cU L n)))]]
theorem Sc_markUnitSLa (L : List Unit) (n : Int) (h0 : 0 ≤ n) (h : n + (↑(sumBy cU L) : Int) ≤ 2147483647) : Lp.Sem Tryz.prog (loopAt Tryz.f32 0) (lc_markUnitSLa L n) := lpOK (fun
 k => let v9 := (List.map unitC (mkTo mkU cU L n k)); let v8 := (↑(sumBy cU (List.take k L)) : Int); let v30 := (mText (n + v8)); let v7 := (L.getD (↑k : Int).toNat default); let
 v28 := (cS v30 :: Cell.list (List.map intC v7.globals) :: coreF v7.body); let v13 := (v9.set (↑k : Int).toNat v28); let v14 := (List.map intC (seqM mkI cOne v7.globals (n + v8 +
 1))); let v11 := (↑(L.getD (↑k : Int).toNat default).globals.length : Int); let v27 := (n + v8 + 1 + v11); let v24 := (n + v8 + 1 + v11 + 1); let v31 := (List.map intC
 v7.body.params); let v15 := (List.map datumC v7.body.datum.items); let v16 := (List.map coreC v7.body.kids); let v18 := [cS v30, Cell.list v14, cI v27, cI v24, Cell.list v31, cI
 v7.body.datum.kind, cI v7.body.datum.number, cS v7.body.datum.text, Cell.list v15, Cell.list v16]; let v1 := (v13.set (↑k : Int).toNat v18); let v29 := (n + v8 + 1 + v11 + 1 + 1);
 let v23 := (List.map intC (seqM mkI cOne v7.body.params v29)); let v12 := (↑(L.getD (↑k : Int).toNat default).body.params.length : Int); let v25 := (n + v8 + 1 + v11 + 1 + 1 +
 v12); let v22 := (n + v8 + 1 + v11 + 1 + 1 + v12 + 1); let v20 := (n + v8 + 1 + v11 + 1 + 1 + v12 + 1 + 1); let v2 := [cS v30, Cell.list v14, cI v27, cI v24, Cell.list v23, cI
 v25, cI v22, cS (mText v20), Cell.list v15, Cell.list v16]; let v3 := [cS v30, Cell.list v14, cI v27, cI v24, Cell.list v23, cI v25, cI v22, cS v7.body.datum.text, Cell.list v15,
 Cell.list v16]; let v19 := (n + v8 + 1 + v11 + 1 + 1 + v12 + 1 + 1 + 1); let v4 := [cS v30, Cell.list v14, cI v27, cI v24, Cell.list v23, cI v25, cI v22, cS (mText v20), Cell.list
 (List.map datumC (seqM mkD cD v7.body.datum.items v19)), Cell.list v16]; let v5 := [cS v30, Cell.list v14, cI v27, cI v24, Cell.list v23, cI v25, cI v7.body.datum.number, cS
 v7.body.datum.text, Cell.list v15, Cell.list v16]; let v6 := [cS v30, Cell.list v14, cI v27, cI v7.body.number, Cell.list v31, cI v7.body.datum.kind, cI v7.body.datum.number, cS
 v7.body.datum.text, Cell.list v15, Cell.list v16]; let v10 := (v1.set (↑k : Int).toNat v2); let v17 := [cS v30, Cell.list v14, cI v27, cI v24, Cell.list v23, cI
 v7.body.datum.kind, cI v7.body.datum.number, cS v7.body.datum.text, Cell.list v15, Cell.list v16]; let v21 := (n + v8 + 1 + v11 + 1 + 1 + v12 + 1 + 1 + 1 + (↑(sumBy cD
 v7.body.datum.items) : Int)); let v26 := (cS v30 :: Cell.list v14 :: coreF v7.body); .z unitC (mkTo mkU cU L n k) (.i ((↑k : Int) < (↑(List.map unitC (mkTo mkU cU L n k)).length :
 Int)) (.d [.rd] (P_c_markText (n + v8)) (.p (0 ≤ (↑k : Int) ∧ (↑k : Int).toNat < v9.length) (.w (.cells (unitF v7)) (.p (v9[(↑k : Int).toNat]? = some (unitF v7)) (.r (n + v8 + 1)
 (.p (0 ≤ (↑k : Int) ∧ (↑k : Int).toNat < v13.length) (.w .sub (.p ((↑k : Int).toNat < v13.length) (.w (.subcall v28 (List.map intC v7.globals) 1) (.u [.own true 1, .rd]
 (P_c_markIntS v7.globals (n + v8 + 1)) (.p (v13[(↑k : Int).toNat]? = some v28) (.p (some (Cell.list (List.map intC v7.globals)) = some (Cell.list (List.map intC v7.globals))) (.p
 (∀ (x : List Cell), x ∈ List.map intC v7.globals → x.length = 1) (.p (OK (P_c_markIntS v7.globals (n + v8 + 1))) (.p (0 ≤ (↑k : Int) ∧ (↑k : Int).toNat < (v13.set (↑k : Int).toNat
 v26).length) (.w (.take v26 (v13.set (↑k : Int).toNat v6) 0) (.p ((v13.set (↑k : Int).toNat v26)[(↑k : Int).toNat]? = some v26) (.p ((v13.set (↑k : Int).toNat v26).set (↑k :
 Int).toNat v6 = v13.set (↑k : Int).toNat v6) (.r v24 (.p (0 ≤ (↑k : Int) ∧ (↑k : Int).toNat < (v13.set (↑k : Int).toNat v6).length) (.w (.take v6 v1 0) (.p ((v13.set (↑k :
 Int).toNat v6)[(↑k : Int).toNat]? = some v6) (.p ((v13.set (↑k : Int).toNat v6).set (↑k : Int).toNat v18 = v13.set (↑k : Int).toNat v18) (.r v29 (.p (0 ≤ (↑k : Int) ∧ (↑k :
 Int).toNat < v1.length) (.w .sub (.p ((↑k : Int).toNat < v1.length) (.w (.subcall v18 v31 1) (.u [.own true 1, .rd] (P_c_markIntS v7.body.params v29) (.p (v1[(↑k : Int).toNat]? =
 some v18) (.p (some (Cell.list v31) = some (Cell.list v31)) (.p (∀ (x : List Cell), x ∈ List.map intC v7.body.params → x.length = 1) (.p (OK (P_c_markIntS v7.body.params v29)) (.p
 (0 ≤ (↑k : Int) ∧ (↑k : Int).toNat < (v1.set (↑k : Int).toNat v17).length) (.w (.take v17 (v1.set (↑k : Int).toNat v5) 0) (.p ((v1.set (↑k : Int).toNat v17)[(↑k : Int).toNat]? =
 some v17) (.p ((v1.set (↑k : Int).toNat v17).set (↑k : Int).toNat v5 = v1.set (↑k : Int).toNat v5) (.r v22 (.p (0 ≤ (↑k : Int) ∧ (↑k : Int).toNat < (v1.set (↑k : Int).toNat
 v5).length) (.w (.take v5 (v1.set (↑k : Int).toNat v3) 0) (.p ((v1.set (↑k : Int).toNat v5)[(↑k : Int).toNat]? = some v5) (.p ((v1.set (↑k : Int).toNat v5).set (↑k : Int).toNat v3
 = v1.set (↑k : Int).toNat v3) (.r v20 (.d [.rd] (P_c_markText v20) (.p (0 ≤ (↑k : Int) ∧ (↑k : Int).toNat < (v1.set (↑k : Int).toNat v3).length) (.w (.take v3 v10 0) (.p ((v1.set
 (↑k : Int).toNat v3)[(↑k : Int).toNat]? = some v3) (.p ((v1.set (↑k : Int).toNat v3).set (↑k : Int).toNat v2 = v1.set (↑k : Int).toNat v2) (.r v19 (.p (0 ≤ (↑k : Int) ∧ (↑k :
 Int).toNat < v10.length) (.w .sub (.p ((↑k : Int).toNat < v10.length) (.w (.subcall v2 v15 4) (.u [.own true 4, .rd] (P_c_markDatumS v7.body.datum v19) (.p (v10[(↑k : Int).toNat]?
 = some v2) (.p (some (Cell.list v15) = some (Cell.list v15)) (.p (∀ (x : List Cell), x ∈ List.map datumC v7.body.datum.items → x.length = 4) (.p (OK (P_c_markDatumS v7.body.datum
 v19)) (.p (0 ≤ (↑k : Int) ∧ (↑k : Int).toNat < (v10.set (↑k : Int).toNat v4).length) (.w .sub (.p ((↑k : Int).toNat < (v10.set (↑k : Int).toNat v4).length) (.w (.subcall v4 v16 8)
 (.u [.own true 8, .rd] (P_c_markCoreS v7.body v21) (.p ((v10.set (↑k : Int).toNat v4)[(↑k : Int).toNat]? = some v4) (.p (some (Cell.list v16) = some (Cell.list v16)) (.p (∀ (x :
 List Cell), x ∈ List.map coreC v7.body.kids → x.length = 8) (.p (OK (P_c_markCoreS v7.body v21)) (.r ((↑k : Int) + 1) (.g [0] (k + 1) [.s (li ((↑k : Int) + 1)), .s (li (n + v8 + 1
 + v11 + 1 + 1 + v12 + 1 + 1 + 1 + (↑(sumBy cD v7.body.datum.items) : Int) + (↑(sumBy cC v7.body.kids) : Int))), .o (Ob.arr true 10 ((v10.set (↑k : Int).toNat v4).set (↑k :
 Int).toNat [cS v30, Cell.list v14, cI v27, cI v24, Cell.list v23, cI v25, cI v22, cS (mText v20), Cell.list (List.map datumC (seqM mkD cD v7.body.datum.items v19)), Cell.list
 (List.map coreC (seqM mkC cC v7.body.kids v21))]))]))))))))))))))))))))))))))))))))))))))))))))))))))))))))))))))))))))) (.o 0 [0] [.s (li (n + v8)), .o (Ob.arr true 10 v9)])))
 (by
  intro k h; try dsimp only [teasy, nthW, lc_markUnitSLa] at h ⊢
  have g0 := sumBy_takeLe cU L (k + 1)
  with_reducible repeat' (first | apply And.intro | exact zR | (intro; skip) | apply c_markText | apply c_markIntS | apply c_markDatumS | apply c_markDatumSL | apply c_markCoreS | apply c_markCoreSL)
  all_goals (try simp only [std, stdM, inj] at *)
  all_goals with_reducible repeat' apply And.intro
  all_goals (try (first | with_reducible apply c_markText | with_reducible apply c_markIntS | with_reducible apply c_markDatumS | with_reducible apply c_markDatumSL | with_reducible apply c_markCoreS | with_reducible apply c_markCoreSL | (simp only [← List.map_append]; first | with_reducible apply c_markText | with_reducible apply c_markIntS | with_reducible apply c_markDatumS | with_reducible apply c_markDatumSL | with_reducible apply c_markCoreS | with_reducible apply c_markCoreSL)))
  all_goals (try (first | exact z | ((first | refine rowGet ?_ | refine getC ?_ rfl); (first | omega | (simp only [std, stdM]; omega) | grind)) | (refine set_row ?_; (simp only [List.length_map, List.length_set, mkTo_len]; omega)) | (refine mkToRow ?_; (first | omega | (simp only [std, stdM]; omega) | grind)) | (refine mkTo_row ?_ rfl; (first | omega | (simp only [std, stdM]; omega) | grind)) | (refine mkTo_step ?_ ?_; (first | omega | (simp only [std, stdM]; omega) | grind); (first | exact mkU_C _ _ | grind [sumBy_step, getD_mem', cU_eq, mkU_C, mkTo_all, snocI, snocS, rowSnoc])) | grind [sumBy_step, getD_mem', cU_eq, mkU_C, mkTo_all, snocI, snocS, rowSnoc])))
theorem c_markUnitS (L : List Unit) (n : Int) (h0 : 0 ≤ n) (h : n + sumBy cU L ≤ 2147483647)  : P_c_markUnitS L n := fnOK Tryz.call32 Tryz.func32 (.l (lc_markUnitSLa L n)
 (Sc_markUnitSLa L n h0 h) [0] [.s (li 0), .s (li n), .o (Ob.arr true 10 (List.map unitC L))] 0 (.t (.f [] [Ob.arr true 10 (List.map unitC (seqM mkU cU L n))] (AV.sv (li (n +
 (↑(sumBy cU L) : Int))))) .q)) (by
  dsimp only [teasy, P_c_markUnitS, nthW, lc_markUnitSLa]
  have gl := cU_len L
  with_reducible repeat' (first | apply And.intro | exact zR | (intro; skip) | apply c_markText | apply c_markIntS | apply c_markDatumS | apply c_markDatumSL | apply c_markCoreS | apply c_markCoreSL)
  all_goals (try simp only [std, stdM, inj] at *)
  all_goals with_reducible repeat' apply And.intro
  all_goals (try (first | with_reducible apply c_markText | with_reducible apply c_markIntS | with_reducible apply c_markDatumS | with_reducible apply c_markDatumSL | with_reducible apply c_markCoreS | with_reducible apply c_markCoreSL | (simp only [← List.map_append]; first | with_reducible apply c_markText | with_reducible apply c_markIntS | with_reducible apply c_markDatumS | with_reducible apply c_markDatumSL | with_reducible apply c_markCoreS | with_reducible apply c_markCoreSL)))
  all_goals (try (first | exact z | ((first | refine rowGet ?_ | refine getC ?_ rfl); (first | omega | (simp only [std, stdM]; omega) | grind)) | (refine set_row ?_; (simp only [List.length_map, List.length_set, mkTo_len]; omega)) | (refine mkToRow ?_; (first | omega | (simp only [std, stdM]; omega) | grind)) | (refine mkTo_row ?_ rfl; (first | omega | (simp only [std, stdM]; omega) | grind)) | (refine mkTo_step ?_ ?_; (first | omega | (simp only [std, stdM]; omega) | grind); (first | grind [mkTo_all, snocI, snocS, rowSnoc])) | grind [mkTo_all, snocI, snocS, rowSnoc])))
end Go.Proofs.YtpnaoendfpaodaaGreat
end
section
namespace Go.Proofs.YtpnaoendfpaodaaGreat
open Go Go.Proofs.YtpnaoendfpaodaaGreat.Ab
set_option linter.unusedVariables false
set_option linter.unusedSimpArgs false
set_option maxHeartbeats 4000000
abbrev P_c_heldIntS (L : List Int) (n : Int) : Ct := ⟨99, [], [ll (L.map intC), li n], [], .sv (li (n + L.length))⟩
def lc_heldIntSLa (L : List Int) (n : Int) : Lp Nat := .mk 21 0 (fun x => [(0, ll (List.map intC L)), (1, hs x 1), (5, hs x 0)]) (fun x => []) (fun k => [.s (li (↑k : Int)), .s (li
 (n + (↑k : Int)))]) (fun k => k ≤ L.length ∧ L.length ≤ 9223372036854775807) (fun k => L.length - k) [.mk True (.exit 0) (fun x => [(1, hs x 0)]) (fun x => []) [.s (li (n +
 (↑L.length : Int)))], .mk False .ret (fun x => [(4, hs x 0)]) (fun x => []) [.s (li (-1 : Int))]]
theorem Sc_heldIntSLa (L : List Int) (n : Int) (h0 : 0 ≤ n) (h : n + (↑L.length : Int) ≤ 2147483647) (hm : seqM mkI cOne L n = L) : Lp.Sem Tryz.prog (loopAt Tryz.f99 0)
 (lc_heldIntSLa L n) := lpOK (fun k => .z intC L (.i ((↑k : Int) < (↑(List.map intC L).length : Int)) (.x (↑k : Int) (List.map intC L) [cI (L.getD k 0)] (.i (L.getD k (0 : Int) ≠ n
 + (↑k : Int)) (.o 1 [] [.s (li (-1 : Int))]) (.r (n + (↑k : Int) + 1) (.r ((↑k : Int) + 1) (.g [] (k + 1) [.s (li ((↑k : Int) + 1)), .s (li (n + (↑k : Int) + 1))]))))) (.o 0 []
 [.s (li (n + (↑k : Int)))]))) (by
  intro k h; try dsimp only [teasy, nthW, lc_heldIntSLa] at h ⊢
  with_reducible repeat' (first | apply And.intro | exact zR | (intro; skip))
  all_goals (try simp only [std, stdM, inj] at *)
  all_goals with_reducible repeat' apply And.intro
  all_goals (try (first | exact z | ((first | refine rowGet ?_ | refine getC ?_ rfl); (first | omega | (simp only [std, stdM]; omega) | grind)) | (refine set_row ?_; (simp only [List.length_map, List.length_set, mkTo_len]; omega)) | (refine mkToRow ?_; (first | omega | (simp only [std, stdM]; omega) | grind)) | (refine mkTo_row ?_ rfl; (first | omega | (simp only [std, stdM]; omega) | grind)) | (refine mkTo_step ?_ ?_; (first | omega | (simp only [std, stdM]; omega) | grind); (first | grind [seqI_get hm, snocI, snocS, rowSnoc])) | grind [seqI_get hm, snocI, snocS, rowSnoc])))
theorem c_heldIntS (L : List Int) (n : Int) (h0 : 0 ≤ n) (h : n + L.length ≤ 2147483647) (hm : seqM mkI cOne L n = L)  : P_c_heldIntS L n := fnOK Tryz.call99 Tryz.func99 (.l
 (lc_heldIntSLa L n) (Sc_heldIntSLa L n h0 h hm) [] [.s (li 0), .s (li n)] 0 (.t (.s (li (n + (↑L.length : Int)))) (.t (.s (li (-1 : Int))) .q))) (by
  dsimp only [teasy, P_c_heldIntS, nthW, lc_heldIntSLa]
  with_reducible repeat' (first | apply And.intro | exact zR | (intro; skip))
  all_goals (try simp only [std, stdM, inj] at *)
  all_goals with_reducible repeat' apply And.intro
  all_goals (try (first | exact z | ((first | refine rowGet ?_ | refine getC ?_ rfl); (first | omega | (simp only [std, stdM]; omega) | grind)) | (refine set_row ?_; (simp only [List.length_map, List.length_set, mkTo_len]; omega)) | (refine mkToRow ?_; (first | omega | (simp only [std, stdM]; omega) | grind)) | (refine mkTo_row ?_ rfl; (first | omega | (simp only [std, stdM]; omega) | grind)) | (refine mkTo_step ?_ ?_; (first | omega | (simp only [std, stdM]; omega) | grind); (first | grind [snocI, snocS, rowSnoc])) | grind [snocI, snocS, rowSnoc])))
abbrev P_c_heldDatumS (x : Datum) (n : Int) : Ct := ⟨177, [], [ll (x.items.map datumC), li n], [], .sv (li (n + sumBy cD x.items))⟩
def lc_heldDatumS_sLa (x : Datum) (n : Int) : Lp Nat := .mk 50 0 (fun x_1 => [(0, ll (List.map datumC x.items)), (1, hs x_1 1), (5, hs x_1 0)]) (fun x => []) (fun k => [.s (li (↑k
 : Int)), .s (li (n + (↑(sumBy cD (List.take k x.items)) : Int)))]) (fun k => k ≤ x.items.length ∧ x.items.length ≤ 9223372036854775807) (fun k => x.items.length - k) [.mk True
 (.exit 0) (fun x => [(1, hs x 0)]) (fun x => []) [.s (li (n + (↑(sumBy cD x.items) : Int)))], .mk False .ret (fun x => [(4, hs x 0)]) (fun x => []) [.s (li (-1 : Int))]]
theorem Sc_heldDatumS_sLa (x : Datum) (n : Int) (h0 : 0 ≤ n) (h : n + (↑(sumBy cD x.items) : Int) ≤ 2147483647) (hm : seqM mkD cD x.items n = x.items) (ih : ∀ (z : Datum), z ∈
 x.items → ∀ (n : Int), 0 ≤ n → n + (↑(sumBy cD z.items) : Int) ≤ 2147483647 → seqM mkD cD z.items n = z.items → OK (P_c_heldDatumS z n)) : Lp.Sem Tryz.prog (loopAt Tryz.f177 0)
 (lc_heldDatumS_sLa x n) := lpOK (fun k => .z datumC x.items (.i ((↑k : Int) < (↑(List.map datumC x.items).length : Int)) (.x (↑k : Int) (List.map datumC x.items) (datumF
 (x.items.getD k default)) (.i ((x.items.getD k default).kind ≠ n + (↑(sumBy cD (List.take k x.items)) : Int)) (.o 1 [] [.s (li (-1 : Int))]) (.r (n + (↑(sumBy cD (List.take k
 x.items)) : Int) + 1) (.x (↑k : Int) (List.map datumC x.items) (datumF (x.items.getD k default)) (.i ((x.items.getD k default).number ≠ n + (↑(sumBy cD (List.take k x.items)) :
 Int) + 1) (.o 1 [] [.s (li (-1 : Int))]) (.r (n + (↑(sumBy cD (List.take k x.items)) : Int) + 1 + 1) (.w (.draw []) (.x (↑k : Int) (List.map datumC x.items) (datumF (x.items.getD
 k default)) (.d [.rd] (P_c_markText (n + (↑(sumBy cD (List.take k x.items)) : Int) + 1 + 1)) (.i ((x.items.getD k default).text.data.toList ≠ (mText (n + (↑(sumBy cD (List.take k
 x.items)) : Int) + 1 + 1)).data.toList) (.o 1 [] [.s (li (-1 : Int))]) (.r (n + (↑(sumBy cD (List.take k x.items)) : Int) + 1 + 1 + 1) (.x (↑k : Int) (List.map datumC x.items)
 (datumF (x.items.getD k default)) (.d [.rd, .rd] (P_c_heldDatumS (x.items.getD k default) (n + (↑(sumBy cD (List.take k x.items)) : Int) + 1 + 1 + 1)) (.i (n + (↑(sumBy cD
 (List.take k x.items)) : Int) + 1 + 1 + 1 + (↑(sumBy cD (x.items.getD k default).items) : Int) < 0) (.o 1 [] [.s (li (-1 : Int))]) (.r ((↑k : Int) + 1) (.g [] (k + 1) [.s (li ((↑k
 : Int) + 1)), .s (li (n + (↑(sumBy cD (List.take k x.items)) : Int) + 1 + 1 + 1 + (↑(sumBy cD (x.items.getD k default).items) : Int)))])))))))))))))))) (.o 0 [] [.s (li (n +
 (↑(sumBy cD (List.take k x.items)) : Int)))]))) (by
  intro k h; try dsimp only [teasy, nthW, lc_heldDatumS_sLa] at h ⊢
  have g0 := sumBy_takeLe cD x.items (k + 1)
  have g1 := fun hk : k < x.items.length => mkD_fix (seqM_get hm hk)
  with_reducible repeat' (first | apply And.intro | exact zR | exact ih | (intro; skip) | apply c_markText | apply ih)
  all_goals (try simp only [std, stdM, inj] at *)
  all_goals with_reducible repeat' apply And.intro
  all_goals (try (first | with_reducible apply c_markText | with_reducible apply ih | (simp only [← List.map_append]; first | with_reducible apply c_markText | with_reducible apply ih)))
  all_goals (try (first | exact z | ((first | refine rowGet ?_ | refine getC ?_ rfl); (first | omega | (simp only [std, stdM]; omega) | grind)) | (refine set_row ?_; (simp only [List.length_map, List.length_set, mkTo_len]; omega)) | (refine mkToRow ?_; (first | omega | (simp only [std, stdM]; omega) | grind)) | (refine mkTo_row ?_ rfl; (first | omega | (simp only [std, stdM]; omega) | grind)) | (refine mkTo_step ?_ ?_; (first | omega | (simp only [std, stdM]; omega) | grind); (first | grind [sumBy_step, getD_mem', cD_eq, snocI, snocS, rowSnoc])) | grind [sumBy_step, getD_mem', cD_eq, snocI, snocS, rowSnoc])))
theorem c_heldDatumS_s (x : Datum) (n : Int) (h0 : 0 ≤ n) (h : n + sumBy cD x.items ≤ 2147483647) (hm : seqM mkD cD x.items n = x.items) (ih : ∀ z ∈ x.items, ∀ (n : Int) (h0 : 0 ≤
 n) (h : n + sumBy cD z.items ≤ 2147483647) (hm : seqM mkD cD z.items n = z.items), P_c_heldDatumS z n)  : P_c_heldDatumS x n := fnOK Tryz.call177 Tryz.func177 (.l (lc_heldDatumS_sLa
 x n) (Sc_heldDatumS_sLa x n h0 h hm ih) [] [.s (li 0), .s (li n)] 0 (.t (.s (li (n + (↑(sumBy cD x.items) : Int)))) (.t (.s (li (-1 : Int))) .q))) (by
  dsimp only [teasy, P_c_heldDatumS, nthW, lc_heldDatumS_sLa]
  have gl := cD_len x.items
  with_reducible repeat' (first | apply And.intro | exact zR | exact ih | (intro; skip) | apply c_markText)
  all_goals (try simp only [std, stdM, inj] at *)
  all_goals with_reducible repeat' apply And.intro
  all_goals (try (first | with_reducible apply c_markText | with_reducible apply ih | (simp only [← List.map_append]; first | with_reducible apply c_markText | with_reducible apply ih)))
  all_goals (try (first | exact z | ((first | refine rowGet ?_ | refine getC ?_ rfl); (first | omega | (simp only [std, stdM]; omega) | grind)) | (refine set_row ?_; (simp only [List.length_map, List.length_set, mkTo_len]; omega)) | (refine mkToRow ?_; (first | omega | (simp only [std, stdM]; omega) | grind)) | (refine mkTo_row ?_ rfl; (first | omega | (simp only [std, stdM]; omega) | grind)) | (refine mkTo_step ?_ ?_; (first | omega | (simp only [std, stdM]; omega) | grind); (first | grind [mkTo_all, snocI, snocS, rowSnoc])) | grind [mkTo_all, snocI, snocS, rowSnoc])))
theorem c_heldDatumS (x : Datum) : ∀ (n : Int) (h0 : 0 ≤ n) (h : n + sumBy cD x.items ≤ 2147483647) (hm : seqM mkD cD x.items n = x.items), P_c_heldDatumS x n := Datum.ind (P := fun x => ∀ (n : Int) (h0 : 0 ≤ n) (h : n + sumBy cD x.items ≤ 2147483647) (hm : seqM mkD cD x.items n = x.items), P_c_heldDatumS x n) (fun x ih n h0 h hm => c_heldDatumS_s x n h0 h hm ih) x
theorem c_heldDatumSL (L : List Datum) (n : Int) (h0 : 0 ≤ n) (h : n + sumBy cD L ≤ 2147483647) (hm : seqM mkD cD L n = L) : P_c_heldDatumS { (default : Datum) with items := L } n := c_heldDatumS { (default : Datum) with items := L } n h0 h hm
abbrev P_c_heldDatum (x : Datum) (n : Int) : Ct := ⟨100, [], [.agg [vI x.kind, vI x.number, vS x.text, vL (x.items.map datumC)], li n], [], .sv (li (n + sumBy cD x.items))⟩
theorem c_heldDatum (x : Datum) (n : Int) (h0 : 0 ≤ n) (h : n + (sumBy cD x.items : Nat) ≤ 2147483647) (hm0 : seqM mkD cD x.items (n) = x.items)  : P_c_heldDatum x n := fnOK
 Tryz.call100 Tryz.func100 (.d [.rd, .rd] (P_c_heldDatumS x n) (.i (n + (↑(sumBy cD x.items) : Int) < 0) (.s (li (-1 : Int))) (.s (li (n + (↑(sumBy cD x.items) : Int)))))) (by
  dsimp only [teasy, P_c_heldDatum]
  with_reducible repeat' (first | apply And.intro | exact zR | (intro; skip) | apply c_heldDatumS | apply c_heldDatumSL)
  all_goals (try simp only [std, stdM, inj] at *)
  all_goals with_reducible repeat' apply And.intro
  all_goals (try (first | with_reducible apply c_heldDatumS | with_reducible apply c_heldDatumSL | (simp only [← List.map_append]; first | with_reducible apply c_heldDatumS | with_reducible apply c_heldDatumSL)))
  all_goals (try (first | exact z | ((first | refine rowGet ?_ | refine getC ?_ rfl); (first | omega | (simp only [std, stdM]; omega) | grind)) | (refine set_row ?_; (simp only [List.length_map, List.length_set, mkTo_len]; omega)) | (refine mkToRow ?_; (first | omega | (simp only [std, stdM]; omega) | grind)) | (refine mkTo_row ?_ rfl; (first | omega | (simp only [std, stdM]; omega) | grind)) | (refine mkTo_step ?_ ?_; (first | omega | (simp only [std, stdM]; omega) | grind); (first | grind [snocI, snocS, rowSnoc])) | grind [snocI, snocS, rowSnoc])))
abbrev P_c_heldCoreS (x : Core) (n : Int) : Ct := ⟨101, [], [ll (x.kids.map coreC), li n], [], .sv (li (n + sumBy cC x.kids))⟩
def lc_heldCoreS_sLa (x : Core) (n : Int) : Lp Nat := .mk 90 0 (fun x_1 => [(0, ll (List.map coreC x.kids)), (1, hs x_1 1), (5, hs x_1 0)]) (fun x => []) (fun k => [.s (li (↑k :
 Int)), .s (li (n + (↑(sumBy cC (List.take k x.kids)) : Int)))]) (fun k => k ≤ x.kids.length ∧ x.kids.length ≤ 9223372036854775807) (fun k => x.kids.length - k) [.mk True (.exit 0)
 (fun x => [(1, hs x 0)]) (fun x => []) [.s (li (n + (↑(sumBy cC x.kids) : Int)))], .mk False .ret (fun x => [(4, hs x 0)]) (fun x => []) [.s (li (-1 : Int))]]
theorem Sc_heldCoreS_sLa (x : Core) (n : Int) (h0 : 0 ≤ n) (h : n + (↑(sumBy cC x.kids) : Int) ≤ 2147483647) (hm : seqM mkC cC x.kids n = x.kids) (ih : ∀ (z : Core), z ∈ x.kids → ∀
 (n : Int), 0 ≤ n → n + (↑(sumBy cC z.kids) : Int) ≤ 2147483647 → seqM mkC cC z.kids n = z.kids → OK (P_c_heldCoreS z n)) : Lp.Sem Tryz.prog (loopAt Tryz.f101 0) (lc_heldCoreS_sLa
 x n) := lpOK (fun k => .z coreC x.kids (.i ((↑k : Int) < (↑(List.map coreC x.kids).length : Int)) (.x (↑k : Int) (List.map coreC x.kids) (coreF (x.kids.getD k default)) (.i
 ((x.kids.getD k default).kind ≠ n + (↑(sumBy cC (List.take k x.kids)) : Int)) (.o 1 [] [.s (li (-1 : Int))]) (.r (n + (↑(sumBy cC (List.take k x.kids)) : Int) + 1) (.x (↑k : Int)
 (List.map coreC x.kids) (coreF (x.kids.getD k default)) (.i ((x.kids.getD k default).number ≠ n + (↑(sumBy cC (List.take k x.kids)) : Int) + 1) (.o 1 [] [.s (li (-1 : Int))]) (.r
 (n + (↑(sumBy cC (List.take k x.kids)) : Int) + 1 + 1) (.x (↑k : Int) (List.map coreC x.kids) (coreF (x.kids.getD k default)) (.d [.rd, .rd] (P_c_heldIntS (x.kids.getD k
 default).params (n + (↑(sumBy cC (List.take k x.kids)) : Int) + 1 + 1)) (.i (n + (↑(sumBy cC (List.take k x.kids)) : Int) + 1 + 1 + (↑(x.kids.getD k default).params.length : Int)
 < 0) (.o 1 [] [.s (li (-1 : Int))]) (.x (↑k : Int) (List.map coreC x.kids) (coreF (x.kids.getD k default)) (.i ((x.kids.getD k default).datum.kind ≠ n + (↑(sumBy cC (List.take k
 x.kids)) : Int) + 1 + 1 + (↑(x.kids.getD k default).params.length : Int)) (.o 1 [] [.s (li (-1 : Int))]) (.r (n + (↑(sumBy cC (List.take k x.kids)) : Int) + 1 + 1 + (↑(x.kids.getD
 k default).params.length : Int) + 1) (.x (↑k : Int) (List.map coreC x.kids) (coreF (x.kids.getD k default)) (.i ((x.kids.getD k default).datum.number ≠ n + (↑(sumBy cC (List.take
 k x.kids)) : Int) + 1 + 1 + (↑(x.kids.getD k default).params.length : Int) + 1) (.o 1 [] [.s (li (-1 : Int))]) (.r (n + (↑(sumBy cC (List.take k x.kids)) : Int) + 1 + 1 +
 (↑(x.kids.getD k default).params.length : Int) + 1 + 1) (.w (.draw []) (.x (↑k : Int) (List.map coreC x.kids) (coreF (x.kids.getD k default)) (.d [.rd] (P_c_markText (n + (↑(sumBy
 cC (List.take k x.kids)) : Int) + 1 + 1 + (↑(x.kids.getD k default).params.length : Int) + 1 + 1)) (.i ((x.kids.getD k default).datum.text.data.toList ≠ (mText (n + (↑(sumBy cC
 (List.take k x.kids)) : Int) + 1 + 1 + (↑(x.kids.getD k default).params.length : Int) + 1 + 1)).data.toList) (.o 1 [] [.s (li (-1 : Int))]) (.r (n + (↑(sumBy cC (List.take k
 x.kids)) : Int) + 1 + 1 + (↑(x.kids.getD k default).params.length : Int) + 1 + 1 + 1) (.x (↑k : Int) (List.map coreC x.kids) (coreF (x.kids.getD k default)) (.d [.rd, .rd]
 (P_c_heldDatumS (x.kids.getD k default).datum (n + (↑(sumBy cC (List.take k x.kids)) : Int) + 1 + 1 + (↑(x.kids.getD k default).params.length : Int) + 1 + 1 + 1)) (.i (n +
 (↑(sumBy cC (List.take k x.kids)) : Int) + 1 + 1 + (↑(x.kids.getD k default).params.length : Int) + 1 + 1 + 1 + (↑(sumBy cD (x.kids.getD k default).datum.items) : Int) < 0) (.o 1
 [] [.s (li (-1 : Int))]) (.x (↑k : Int) (List.map coreC x.kids) (coreF (x.kids.getD k default)) (.d [.rd, .rd] (P_c_heldCoreS (x.kids.getD k default) (n + (↑(sumBy cC (List.take k
 x.kids)) : Int) + 1 + 1 + (↑(x.kids.getD k default).params.length : Int) + 1 + 1 + 1 + (↑(sumBy cD (x.kids.getD k default).datum.items) : Int))) (.i (n + (↑(sumBy cC (List.take k
 x.kids)) : Int) + 1 + 1 + (↑(x.kids.getD k default).params.length : Int) + 1 + 1 + 1 + (↑(sumBy cD (x.kids.getD k default).datum.items) : Int) + (↑(sumBy cC (x.kids.getD k
 default).kids) : Int) < 0) (.o 1 [] [.s (li (-1 : Int))]) (.r ((↑k : Int) + 1) (.g [] (k + 1) [.s (li ((↑k : Int) + 1)), .s (li (n + (↑(sumBy cC (List.take k x.kids)) : Int) + 1 +
 1 + (↑(x.kids.getD k default).params.length : Int) + 1 + 1 + 1 + (↑(sumBy cD (x.kids.getD k default).datum.items) : Int) + (↑(sumBy cC (x.kids.getD k default).kids) :
 Int)))])))))))))))))))))))))))))))) (.o 0 [] [.s (li (n + (↑(sumBy cC (List.take k x.kids)) : Int)))]))) (by
  intro k h; try dsimp only [teasy, nthW, lc_heldCoreS_sLa] at h ⊢
  have g0 := sumBy_takeLe cC x.kids (k + 1)
  have g1 := fun hk : k < x.kids.length => mkC_fix (seqM_get hm hk)
  with_reducible repeat' (first | apply And.intro | exact zR | exact ih | (intro; skip) | apply c_heldIntS | apply c_markText | apply c_heldDatumS | apply c_heldDatumSL | apply ih)
  all_goals (try simp only [std, stdM, inj] at *)
  all_goals with_reducible repeat' apply And.intro
  all_goals (try (first | with_reducible apply c_heldIntS | with_reducible apply c_markText | with_reducible apply c_heldDatumS | with_reducible apply c_heldDatumSL | with_reducible apply ih | (simp only [← List.map_append]; first | with_reducible apply c_heldIntS | with_reducible apply c_markText | with_reducible apply c_heldDatumS | with_reducible apply c_heldDatumSL | with_reducible apply ih)))
  all_goals (try (first | exact z | ((first | refine rowGet ?_ | refine getC ?_ rfl); (first | omega | (simp only [std, stdM]; omega) | grind)) | (refine set_row ?_; (simp only [List.length_map, List.length_set, mkTo_len]; omega)) | (refine mkToRow ?_; (first | omega | (simp only [std, stdM]; omega) | grind)) | (refine mkTo_row ?_ rfl; (first | omega | (simp only [std, stdM]; omega) | grind)) | (refine mkTo_step ?_ ?_; (first | omega | (simp only [std, stdM]; omega) | grind); (first | grind [sumBy_step, getD_mem', cC_eq, snocI, snocS, rowSnoc])) | grind [sumBy_step, getD_mem', cC_eq, snocI, snocS, rowSnoc])))
theorem c_heldCoreS_s (x : Core) (n : Int) (h0 : 0 ≤ n) (h : n + sumBy cC x.kids ≤ 2147483647) (hm : seqM mkC cC x.kids n = x.kids) (ih : ∀ z ∈ x.kids, ∀ (n : Int) (h0 : 0 ≤ n) (h
 : n + sumBy cC z.kids ≤ 2147483647) (hm : seqM mkC cC z.kids n = z.kids), P_c_heldCoreS z n)  : P_c_heldCoreS x n := fnOK Tryz.call101 Tryz.func101 (.l (lc_heldCoreS_sLa x n)
 (Sc_heldCoreS_sLa x n h0 h hm ih) [] [.s (li 0), .s (li n)] 0 (.t (.s (li (n + (↑(sumBy cC x.kids) : Int)))) (.t (.s (li (-1 : Int))) .q))) (by
  dsimp only [teasy, P_c_heldCoreS, nthW, lc_heldCoreS_sLa]
  have gl := cC_len x.kids
  with_reducible repeat' (first | apply And.intro | exact zR | exact ih | (intro; skip) | apply c_heldIntS | apply c_markText | apply c_heldDatumS | apply c_heldDatumSL)
  all_goals (try simp only [std, stdM, inj] at *)
  all_goals with_reducible repeat' apply And.intro
  all_goals (try (first | with_reducible apply c_heldIntS | with_reducible apply c_markText | with_reducible apply c_heldDatumS | with_reducible apply c_heldDatumSL | with_reducible apply ih | (simp only [← List.map_append]; first | with_reducible apply c_heldIntS | with_reducible apply c_markText | with_reducible apply c_heldDatumS | with_reducible apply c_heldDatumSL | with_reducible apply ih)))
  all_goals (try (first | exact z | ((first | refine rowGet ?_ | refine getC ?_ rfl); (first | omega | (simp only [std, stdM]; omega) | grind)) | (refine set_row ?_; (simp only [List.length_map, List.length_set, mkTo_len]; omega)) | (refine mkToRow ?_; (first | omega | (simp only [std, stdM]; omega) | grind)) | (refine mkTo_row ?_ rfl; (first | omega | (simp only [std, stdM]; omega) | grind)) | (refine mkTo_step ?_ ?_; (first | omega | (simp only [std, stdM]; omega) | grind); (first | grind [mkTo_all, snocI, snocS, rowSnoc])) | grind [mkTo_all, snocI, snocS, rowSnoc])))
theorem c_heldCoreS (x : Core) : ∀ (n : Int) (h0 : 0 ≤ n) (h : n + sumBy cC x.kids ≤ 2147483647) (hm : seqM mkC cC x.kids n = x.kids), P_c_heldCoreS x n := Core.ind (P := fun x => ∀ (n : Int) (h0 : 0 ≤ n) (h : n + sumBy cC x.kids ≤ 2147483647) (hm : seqM mkC cC x.kids n = x.kids), P_c_heldCoreS x n) (fun x ih n h0 h hm => c_heldCoreS_s x n h0 h hm ih) x
theorem c_heldCoreSL (L : List Core) (n : Int) (h0 : 0 ≤ n) (h : n + sumBy cC L ≤ 2147483647) (hm : seqM mkC cC L n = L) : P_c_heldCoreS { (default : Core) with kids := L } n := c_heldCoreS { (default : Core) with kids := L } n h0 h hm
abbrev P_c_heldCore (x : Core) (n : Int) : Ct := ⟨34, [], [.agg [vI x.kind, vI x.number, vL (x.params.map intC), vI x.datum.kind, vI x.datum.number, vS x.datum.text, vL (x.datum.items.map datumC), vL (x.kids.map coreC)], li n], [], .sv (li (n + x.params.length + sumBy cD x.datum.items + sumBy cC x.kids))⟩
theorem c_heldCore (x : Core) (n : Int) (h0 : 0 ≤ n) (h : n + (x.params.length + sumBy cD x.datum.items + sumBy cC x.kids : Nat) ≤ 2147483647) (hm0 : seqM mkI cOne x.params (n) =
 x.params) (hm1 : seqM mkD cD x.datum.items (n + x.params.length) = x.datum.items) (hm2 : seqM mkC cC x.kids (n + x.params.length + sumBy cD x.datum.items) = x.kids)  :
 P_c_heldCore x n := fnOK Tryz.call34 Tryz.func34 (.d [.rd, .rd] (P_c_heldIntS x.params n) (.i (n + (↑x.params.length : Int) < 0) (.s (li (-1 : Int))) (.d [.rd, .rd] (P_c_heldDatum
 x.datum (n + (↑x.params.length : Int))) (.i (n + (↑x.params.length : Int) + (↑(sumBy cD x.datum.items) : Int) < 0) (.s (li (-1 : Int))) (.d [.rd, .rd] (P_c_heldCoreS x (n +
 (↑x.params.length : Int) + (↑(sumBy cD x.datum.items) : Int))) (.i (n + (↑x.params.length : Int) + (↑(sumBy cD x.datum.items) : Int) + (↑(sumBy cC x.kids) : Int) < 0) (.s (li (-1
 : Int))) (.s (li (n + (↑x.params.length : Int) + (↑(sumBy cD x.datum.items) : Int) + (↑(sumBy cC x.kids) : Int)))))))))) (by
  dsimp only [teasy, P_c_heldCore]
  with_reducible repeat' (first | apply And.intro | exact zR | (intro; skip) | apply c_heldIntS | apply c_heldDatum | apply c_heldCoreS | apply c_heldCoreSL)
  all_goals (try simp only [std, stdM, inj] at *)
  all_goals with_reducible repeat' apply And.intro
  all_goals (try (first | with_reducible apply c_heldIntS | with_reducible apply c_heldDatum | with_reducible apply c_heldCoreS | with_reducible apply c_heldCoreSL | (simp only [← List.map_append]; first | with_reducible apply c_heldIntS | with_reducible apply c_heldDatum | with_reducible apply c_heldCoreS | with_reducible apply c_heldCoreSL)))
  all_goals (try (first | exact z | ((first | refine rowGet ?_ | refine getC ?_ rfl); (first | omega | (simp only [std, stdM]; omega) | grind)) | (refine set_row ?_; (simp only [List.length_map, List.length_set, mkTo_len]; omega)) | (refine mkToRow ?_; (first | omega | (simp only [std, stdM]; omega) | grind)) | (refine mkTo_row ?_ rfl; (first | omega | (simp only [std, stdM]; omega) | grind)) | (refine mkTo_step ?_ ?_; (first | omega | (simp only [std, stdM]; omega) | grind); (first | grind [snocI, snocS, rowSnoc])) | grind [snocI, snocS, rowSnoc])))
end Go.Proofs.YtpnaoendfpaodaaGreat
end
section
namespace Go.Proofs.YtpnaoendfpaodaaGreat
open Go Go.Proofs.YtpnaoendfpaodaaGreat.Ab
set_option linter.unusedVariables false
set_option linter.unusedSimpArgs false
set_option maxHeartbeats 4000000
abbrev P_c_szIntS (L : List Int) (left : Int) : Ct := ⟨61, [], [ll (L.map intC), li left], [], .sv (li (sz L.length left))⟩
theorem c_szIntS (L : List Int) (left : Int) (h0 : 0 ≤ left) (h : left ≤ 2147483647)  : P_c_szIntS L left := fnOK Tryz.call61 Tryz.func61 (.z intC L (.r (left - (↑(List.map intC
 L).length : Int)) (.i (left - (↑(List.map intC L).length : Int) < 0) (.s (li (-1 : Int))) (.s (li (left - (↑(List.map intC L).length : Int))))))) (by
  dsimp only [teasy, P_c_szIntS]
  with_reducible repeat' (first | apply And.intro | exact zR | (intro; skip))
  all_goals (try simp only [std, inj] at *)
  all_goals with_reducible repeat' apply And.intro
  all_goals (try (first | exact z | grind [sz, snocI, snocS, rowSnoc])))
abbrev P_c_szDatumS (L : List Datum) (left : Int) : Ct := ⟨290, [], [ll (L.map datumC), li left], [], .sv (li (sz (L.length + sumBy wD L) left))⟩
abbrev P_c_szDatum (x : Datum) (left : Int) : Ct := ⟨231, [], [datumA x, li left], [], .sv (li (sz (wD x) left))⟩
def lc_szDatumSLa (L : List Datum) (left : Int) : Lp (Nat × Int) := .mk 27 0 (fun x => [(0, ll (List.map datumC L)), (1, hs x 1), (5, hs x 0)]) (fun x => []) (fun k => [.s (li
 (↑k.fst : Int)), .s (li k.snd)]) (fun k => k.fst ≤ L.length ∧ L.length ≤ 9223372036854775807 ∧ 0 ≤ k.snd ∧ k.snd ≤ left ∧ sz (sumBy wD (List.drop k.fst L)) k.snd = sz (L.length +
 sumBy wD L) left) (fun k => L.length - k.fst) [.mk (0 ≤ sz (L.length + sumBy wD L) left) (.exit 0) (fun x => [(1, hs x 0)]) (fun x => []) [.s (li (sz (L.length + sumBy wD L)
 left))], .mk (sz (L.length + sumBy wD L) left = (-1 : Int)) .ret (fun x => [(4, hs x 0)]) (fun x => []) [.s (li (-1 : Int))]]
theorem Sc_szDatumSLa (L : List Datum) (left : Int) (h0 : 0 ≤ left) (h : left ≤ 2147483647) (ih : ∀ (x : Datum), x ∈ L → ∀ (left : Int), 0 ≤ left → left ≤ 2147483647 → OK
 (P_c_szDatum x left)) : Lp.Sem Tryz.prog (loopAt Tryz.f290 0) (lc_szDatumSLa L left) := lpOK (fun k => .z datumC L (.i ((↑k.fst : Int) < (↑(List.map datumC L).length : Int)) (.x
 (↑k.fst : Int) (List.map datumC L) (datumF (L.getD k.fst default)) (.d [.rd, .rd] (P_c_szDatum (L.getD k.fst default) k.snd) (.i (sz (wD (L.getD k.fst default)) k.snd < 0) (.o 1
 [] [.s (li (-1 : Int))]) (.r ((↑k.fst : Int) + 1) (.g [] (k.fst + 1, sz (wD (L.getD k.fst default)) k.snd) [.s (li ((↑k.fst : Int) + 1)), .s (li (sz (wD (L.getD k.fst default))
 k.snd))]))))) (.o 0 [] [.s (li k.snd)]))) (by
  intro k h; try dsimp only [teasy, nthW, lc_szDatumSLa] at h ⊢
  obtain ⟨i, n⟩ := k
  simp only at *
  with_reducible repeat' (first | apply And.intro | exact zR | exact ih | (intro; skip) | apply ih)
  all_goals (try simp only [std, inj] at *)
  all_goals with_reducible repeat' apply And.intro
  all_goals (try (first | with_reducible apply ih | (simp only [← List.map_append]; first | with_reducible apply ih)))
  all_goals (try (first | exact z | grind [drop_get, sumBy, sz, getD_mem', snocI, snocS, rowSnoc])))
theorem c_szDatumS (L : List Datum) (left : Int) (h0 : 0 ≤ left) (h : left ≤ 2147483647) (ih : ∀ x ∈ L, ∀ (left : Int) (h0 : 0 ≤ left) (h : left ≤ 2147483647), P_c_szDatum x left) 
 : P_c_szDatumS L left := fnOK Tryz.call290 Tryz.func290 (.z datumC L (.r (left - (↑(List.map datumC L).length : Int)) (.i (left - (↑(List.map datumC L).length : Int) < 0) (.s (li
 (-1 : Int))) (.l (lc_szDatumSLa L left) (Sc_szDatumSLa L left h0 h ih) [] [.s (li 0), .s (li (left - (↑(List.map datumC L).length : Int)))] (0, left - (↑L.length : Int)) (.t (.s
 (li (sz (L.length + sumBy wD L) left))) (.t (.s (li (-1 : Int))) .q)))))) (by
  dsimp only [teasy, P_c_szDatumS, nthW, lc_szDatumSLa]
  with_reducible repeat' (first | apply And.intro | exact zR | exact ih | (intro; skip))
  all_goals (try simp only [std, inj] at *)
  all_goals with_reducible repeat' apply And.intro
  all_goals (try (first | with_reducible apply ih | (simp only [← List.map_append]; first | with_reducible apply ih)))
  all_goals (try (first | exact z | grind [sz, snocI, snocS, rowSnoc])))
theorem c_szDatum_s (x : Datum) (left : Int) (h0 : 0 ≤ left) (h : left ≤ 2147483647) (ih : ∀ z ∈ x.items, ∀ (left : Int) (h0 : 0 ≤ left) (h : left ≤ 2147483647), P_c_szDatum z
 left)  : P_c_szDatum x left := fnOK Tryz.call231 Tryz.func231 (.h (x.text.data.toList.length ≤ 9223372036854775807) (.r (left - (↑x.text.data.toList.length : Int)) (.i (left -
 (↑x.text.data.toList.length : Int) < 0) (.s (li (-1 : Int))) (.d [.rd, .rd] (P_c_szDatumS x.items (left - (↑x.text.data.toList.length : Int))) (.i (sz (x.items.length + sumBy wD
 x.items) (left - (↑x.text.data.toList.length : Int)) < 0) (.s (li (-1 : Int))) (.s (li (sz (x.items.length + sumBy wD x.items) (left - (↑x.text.data.toList.length : Int))))))))))
 (by
  dsimp only [teasy, P_c_szDatum]
  with_reducible repeat' (first | apply And.intro | exact zR | exact ih | (intro; skip) | apply c_szDatumS | apply ih)
  all_goals (try simp only [std, inj] at *)
  all_goals with_reducible repeat' apply And.intro
  all_goals (try (first | with_reducible apply c_szDatumS | with_reducible apply ih | (simp only [← List.map_append]; first | with_reducible apply c_szDatumS | with_reducible apply ih)))
  all_goals (try (first | exact z | grind [wD_eq, sz, wS, snocI, snocS, rowSnoc])))
theorem c_szDatum (x : Datum) : ∀ (left : Int) (h0 : 0 ≤ left) (h : left ≤ 2147483647), P_c_szDatum x left := Datum.ind (P := fun x => ∀ (left : Int) (h0 : 0 ≤ left) (h : left ≤ 2147483647), P_c_szDatum x left) (fun x ih left h0 h => c_szDatum_s x left h0 h ih) x
abbrev P_c_szCoreS (L : List Core) (left : Int) : Ct := ⟨232, [], [ll (L.map coreC), li left], [], .sv (li (sz (L.length + sumBy wC L) left))⟩
abbrev P_c_szCore (x : Core) (left : Int) : Ct := ⟨152, [], [coreA x, li left], [], .sv (li (sz (wC x) left))⟩
def lc_szCoreSLa (L : List Core) (left : Int) : Lp (Nat × Int) := .mk 27 0 (fun x => [(0, ll (List.map coreC L)), (1, hs x 1), (5, hs x 0)]) (fun x => []) (fun k => [.s (li (↑k.fst
 : Int)), .s (li k.snd)]) (fun k => k.fst ≤ L.length ∧ L.length ≤ 9223372036854775807 ∧ 0 ≤ k.snd ∧ k.snd ≤ left ∧ sz (sumBy wC (List.drop k.fst L)) k.snd = sz (L.length + sumBy wC
 L) left) (fun k => L.length - k.fst) [.mk (0 ≤ sz (L.length + sumBy wC L) left) (.exit 0) (fun x => [(1, hs x 0)]) (fun x => []) [.s (li (sz (L.length + sumBy wC L) left))], .mk
 (sz (L.length + sumBy wC L) left = (-1 : Int)) .ret (fun x => [(4, hs x 0)]) (fun x => []) [.s (li (-1 : Int))]]
theorem Sc_szCoreSLa (L : List Core) (left : Int) (h0 : 0 ≤ left) (h : left ≤ 2147483647) (ih : ∀ (x : Core), x ∈ L → ∀ (left : Int), 0 ≤ left → left ≤ 2147483647 → OK (P_c_szCore
 x left)) : Lp.Sem Tryz.prog (loopAt Tryz.f232 0) (lc_szCoreSLa L left) := lpOK (fun k => .z coreC L (.i ((↑k.fst : Int) < (↑(List.map coreC L).length : Int)) (.x (↑k.fst : Int)
 (List.map coreC L) (coreF (L.getD k.fst default)) (.d [.rd, .rd] (P_c_szCore (L.getD k.fst default) k.snd) (.i (sz (wC (L.getD k.fst default)) k.snd < 0) (.o 1 [] [.s (li (-1 :
 Int))]) (.r ((↑k.fst : Int) + 1) (.g [] (k.fst + 1, sz (wC (L.getD k.fst default)) k.snd) [.s (li ((↑k.fst : Int) + 1)), .s (li (sz (wC (L.getD k.fst default)) k.snd))]))))) (.o 0
 [] [.s (li k.snd)]))) (by
  intro k h; try dsimp only [teasy, nthW, lc_szCoreSLa] at h ⊢
  obtain ⟨i, n⟩ := k
  simp only at *
  with_reducible repeat' (first | apply And.intro | exact zR | exact ih | (intro; skip) | apply ih)
  all_goals (try simp only [std, inj] at *)
  all_goals with_reducible repeat' apply And.intro
  all_goals (try (first | with_reducible apply ih | (simp only [← List.map_append]; first | with_reducible apply ih)))
  all_goals (try (first | exact z | grind [drop_get, sumBy, sz, getD_mem', snocI, snocS, rowSnoc])))
theorem c_szCoreS (L : List Core) (left : Int) (h0 : 0 ≤ left) (h : left ≤ 2147483647) (ih : ∀ x ∈ L, ∀ (left : Int) (h0 : 0 ≤ left) (h : left ≤ 2147483647), P_c_szCore x left)  :
 P_c_szCoreS L left := fnOK Tryz.call232 Tryz.func232 (.z coreC L (.r (left - (↑(List.map coreC L).length : Int)) (.i (left - (↑(List.map coreC L).length : Int) < 0) (.s (li (-1 :
 Int))) (.l (lc_szCoreSLa L left) (Sc_szCoreSLa L left h0 h ih) [] [.s (li 0), .s (li (left - (↑(List.map coreC L).length : Int)))] (0, left - (↑L.length : Int)) (.t (.s (li (sz
 (L.length + sumBy wC L) left))) (.t (.s (li (-1 : Int))) .q)))))) (by
  dsimp only [teasy, P_c_szCoreS, nthW, lc_szCoreSLa]
  with_reducible repeat' (first | apply And.intro | exact zR | exact ih | (intro; skip))
  all_goals (try simp only [std, inj] at *)
  all_goals with_reducible repeat' apply And.intro
  all_goals (try (first | with_reducible apply ih | (simp only [← List.map_append]; first | with_reducible apply ih)))
  all_goals (try (first | exact z | grind [sz, snocI, snocS, rowSnoc])))
theorem c_szCore_s (x : Core) (left : Int) (h0 : 0 ≤ left) (h : left ≤ 2147483647) (ih : ∀ z ∈ x.kids, ∀ (left : Int) (h0 : 0 ≤ left) (h : left ≤ 2147483647), P_c_szCore z left)  :
 P_c_szCore x left := fnOK Tryz.call152 Tryz.func152 (.d [.rd, .rd] (P_c_szIntS x.params left) (.i (sz x.params.length left < 0) (.s (li (-1 : Int))) (.d [.rd, .rd] (P_c_szDatum
 x.datum (sz x.params.length left)) (.i (sz (wD x.datum) (sz x.params.length left) < 0) (.s (li (-1 : Int))) (.d [.rd, .rd] (P_c_szCoreS x.kids (sz (wD x.datum) (sz x.params.length
 left))) (.i (sz (x.kids.length + sumBy wC x.kids) (sz (wD x.datum) (sz x.params.length left)) < 0) (.s (li (-1 : Int))) (.s (li (sz (x.kids.length + sumBy wC x.kids) (sz (wD
 x.datum) (sz x.params.length left))))))))))) (by
  dsimp only [teasy, P_c_szCore]
  with_reducible repeat' (first | apply And.intro | exact zR | exact ih | (intro; skip) | apply c_szIntS | apply c_szDatum | apply c_szCoreS | apply ih)
  all_goals (try simp only [std, inj] at *)
  all_goals with_reducible repeat' apply And.intro
  all_goals (try (first | with_reducible apply c_szIntS | with_reducible apply c_szDatum | with_reducible apply c_szCoreS | with_reducible apply ih | (simp only [← List.map_append]; first | with_reducible apply c_szIntS | with_reducible apply c_szDatum | with_reducible apply c_szCoreS | with_reducible apply ih)))
  all_goals (try (first | exact z | grind [wC_eq, sz, wS, snocI, snocS, rowSnoc])))
theorem c_szCore (x : Core) : ∀ (left : Int) (h0 : 0 ≤ left) (h : left ≤ 2147483647), P_c_szCore x left := Core.ind (P := fun x => ∀ (left : Int) (h0 : 0 ≤ left) (h : left ≤ 2147483647), P_c_szCore x left) (fun x ih left h0 h => c_szCore_s x left h0 h ih) x
abbrev P_c_szUnit (x : Unit) (left : Int) : Ct := ⟨83, [], [unitA x, li left], [], .sv (li (sz (wU x) left))⟩
theorem c_szUnit (x : Unit) (left : Int) (h0 : 0 ≤ left) (h : left ≤ 2147483647)  : P_c_szUnit x left := fnOK Tryz.call83 Tryz.func83 (.h (x.name.data.toList.length ≤
 9223372036854775807) (.r (left - (↑x.name.data.toList.length : Int)) (.i (left - (↑x.name.data.toList.length : Int) < 0) (.s (li (-1 : Int))) (.d [.rd, .rd] (P_c_szIntS x.globals
 (left - (↑x.name.data.toList.length : Int))) (.i (sz x.globals.length (left - (↑x.name.data.toList.length : Int)) < 0) (.s (li (-1 : Int))) (.d [.rd, .rd] (P_c_szCore x.body (sz
 x.globals.length (left - (↑x.name.data.toList.length : Int)))) (.i (sz (wC x.body) (sz x.globals.length (left - (↑x.name.data.toList.length : Int))) < 0) (.s (li (-1 : Int))) (.s
 (li (sz (wC x.body) (sz x.globals.length (left - (↑x.name.data.toList.length : Int))))))))))))) (by
  dsimp only [teasy, P_c_szUnit]
  with_reducible repeat' (first | apply And.intro | exact zR | (intro; skip) | apply c_szIntS | apply c_szCore)
  all_goals (try simp only [std, inj] at *)
  all_goals with_reducible repeat' apply And.intro
  all_goals (try (first | with_reducible apply c_szIntS | with_reducible apply c_szCore | (simp only [← List.map_append]; first | with_reducible apply c_szIntS | with_reducible apply c_szCore)))
  all_goals (try (first | exact z | grind [wU_eq, sz, wS, snocI, snocS, rowSnoc])))
abbrev P_c_szUnitS (L : List Unit) (left : Int) : Ct := ⟨26, [], [ll (L.map unitC), li left], [], .sv (li (sz (L.length + sumBy wU L) left))⟩
def lc_szUnitSLa (L : List Unit) (left : Int) : Lp (Nat × Int) := .mk 27 0 (fun x => [(0, ll (List.map unitC L)), (1, hs x 1), (5, hs x 0)]) (fun x => []) (fun k => [.s (li (↑k.fst
 : Int)), .s (li k.snd)]) (fun k => k.fst ≤ L.length ∧ L.length ≤ 9223372036854775807 ∧ 0 ≤ k.snd ∧ k.snd ≤ left ∧ sz (sumBy wU (List.drop k.fst L)) k.snd = sz (L.length + sumBy wU
 L) left) (fun k => L.length - k.fst) [.mk (0 ≤ sz (L.length + sumBy wU L) left) (.exit 0) (fun x => [(1, hs x 0)]) (fun x => []) [.s (li (sz (L.length + sumBy wU L) left))], .mk
 (sz (L.length + sumBy wU L) left = (-1 : Int)) .ret (fun x => [(4, hs x 0)]) (fun x => []) [.s (li (-1 : Int))]]
theorem Sc_szUnitSLa (L : List Unit) (left : Int) (h0 : 0 ≤ left) (h : left ≤ 2147483647) : Lp.Sem Tryz.prog (loopAt Tryz.f26 0) (lc_szUnitSLa L left) := lpOK (fun k => .z unitC L
 (.i ((↑k.fst : Int) < (↑(List.map unitC L).length : Int)) (.x (↑k.fst : Int) (List.map unitC L) (unitF (L.getD k.fst default)) (.d [.rd, .rd] (P_c_szUnit (L.getD k.fst default)
 k.snd) (.i (sz (wU (L.getD k.fst default)) k.snd < 0) (.o 1 [] [.s (li (-1 : Int))]) (.r ((↑k.fst : Int) + 1) (.g [] (k.fst + 1, sz (wU (L.getD k.fst default)) k.snd) [.s (li
 ((↑k.fst : Int) + 1)), .s (li (sz (wU (L.getD k.fst default)) k.snd))]))))) (.o 0 [] [.s (li k.snd)]))) (by
  intro k h; try dsimp only [teasy, nthW, lc_szUnitSLa] at h ⊢
  obtain ⟨i, n⟩ := k
  simp only at *
  with_reducible repeat' (first | apply And.intro | exact zR | (intro; skip) | apply c_szUnit)
  all_goals (try simp only [std, inj] at *)
  all_goals with_reducible repeat' apply And.intro
  all_goals (try (first | with_reducible apply c_szUnit | (simp only [← List.map_append]; first | with_reducible apply c_szUnit)))
  all_goals (try (first | exact z | grind [drop_get, sumBy, sz, getD_mem', snocI, snocS, rowSnoc])))
theorem c_szUnitS (L : List Unit) (left : Int) (h0 : 0 ≤ left) (h : left ≤ 2147483647)  : P_c_szUnitS L left := fnOK Tryz.call26 Tryz.func26 (.z unitC L (.r (left - (↑(List.map unitC
 L).length : Int)) (.i (left - (↑(List.map unitC L).length : Int) < 0) (.s (li (-1 : Int))) (.l (lc_szUnitSLa L left) (Sc_szUnitSLa L left h0 h) [] [.s (li 0), .s (li (left -
 (↑(List.map unitC L).length : Int)))] (0, left - (↑L.length : Int)) (.t (.s (li (sz (L.length + sumBy wU L) left))) (.t (.s (li (-1 : Int))) .q)))))) (by
  dsimp only [teasy, P_c_szUnitS, nthW, lc_szUnitSLa]
  with_reducible repeat' (first | apply And.intro | exact zR | (intro; skip) | apply c_szUnit)
  all_goals (try simp only [std, inj] at *)
  all_goals with_reducible repeat' apply And.intro
  all_goals (try (first | with_reducible apply c_szUnit | (simp only [← List.map_append]; first | with_reducible apply c_szUnit)))
  all_goals (try (first | exact z | grind [sz, snocI, snocS, rowSnoc])))
end Go.Proofs.YtpnaoendfpaodaaGreat
end
section
namespace Go.Proofs.YtpnaoendfpaodaaGreat
open Go Go.Proofs.YtpnaoendfpaodaaGreat.Ab
set_option linter.unusedVariables false
set_option linter.unusedSimpArgs false
set_option maxHeartbeats 4000000
abbrev P_c_toIntS (L : List Int) : Ct := ⟨69, [], [ll (L.map intC)], [.arr true 1 (L.map intC)], .sv (.one (.ref 0))⟩
def lc_toIntSLa (L : List Int) : Lp Nat := .mk 22 0 (fun x => [(0, ll (List.map intC L)), (3, SV.one (AC.ref 0)), (4, hs x 0)]) (fun x => [ho x 1]) (fun k => [.s (li (↑k : Int)),
 .o (Ob.arr true 1 (List.map intC (fillTo L k)))]) (fun k => k ≤ L.length ∧ L.length ≤ 9223372036854775807) (fun k => L.length - k) [.mk True (.exit 0) (fun x => [(3, SV.one
 (AC.ref 0))]) (fun x => [ho x 0]) [.o (Ob.arr true 1 (List.map intC L))]]
theorem Sc_toIntSLa (L : List Int) (h : L.length ≤ 1048576) : Lp.Sem Tryz.prog (loopAt Tryz.f69 0) (lc_toIntSLa L) := lpOK (fun k => .z intC L (.i ((↑k : Int) < (↑(List.map intC
 L).length : Int)) (.x (↑k : Int) (List.map intC L) [cI (L.getD k 0)] (.p (0 ≤ (↑k : Int) ∧ (↑k : Int).toNat < (List.map intC (fillTo L k)).length) (.w (.cells (intC ((fillTo L
 k).getD (↑k : Int).toNat default))) (.p ((List.map intC (fillTo L k))[(↑k : Int).toNat]? = some [cI ((fillTo L k).getD (↑k : Int).toNat 0)]) (.r ((↑k : Int) + 1) (.g [0] (k + 1)
 [.s (li ((↑k : Int) + 1)), .o (Ob.arr true 1 ((List.map intC (fillTo L k)).set (↑k : Int).toNat [cI (L.getD k 0)]))])))))) (.o 0 [0] [.o (Ob.arr true 1 (List.map intC (fillTo L
 k)))]))) (by
  intro k h; try dsimp only [teasy, nthW, lc_toIntSLa] at h ⊢
  with_reducible repeat' (first | apply And.intro | exact zR | (intro; skip))
  all_goals (try simp only [std, inj] at *)
  all_goals with_reducible repeat' apply And.intro
  all_goals (try (first | exact z | exact zF | grind [fillTo_all, snocI, snocS, rowSnoc])))
theorem c_toIntS (L : List Int) (h : L.length ≤ 1048576)  : P_c_toIntS L := fnOK Tryz.call69 Tryz.func69 (.z intC L (.p (0 ≤ (↑(List.map intC L).length : Int) ∧ 8 * (↑(List.map intC
 L).length : Int).toNat ≤ 281474976710656) (.l (lc_toIntSLa L) (Sc_toIntSLa L h) [0] [.s (li 0), .o (Ob.arr true 1 (List.replicate (↑(List.map intC L).length : Int).toNat [cI 0]))]
 0 (.t (.f [0] [Ob.arr true 1 (List.map intC L)] (AV.sv (SV.one (AC.ref 0)))) .q)))) (by
  dsimp only [teasy, P_c_toIntS, nthW, lc_toIntSLa]
  with_reducible repeat' (first | apply And.intro | exact zR | (intro; skip))
  all_goals (try simp only [std, inj] at *)
  all_goals with_reducible repeat' apply And.intro
  all_goals (try (first | exact z | exact zF | grind [snocI, snocS, rowSnoc])))
abbrev P_c_toDatumS (L : List Datum) : Ct := ⟨293, [], [ll (L.map datumC)], [.arr true 4 (L.map datumC)], .sv (.one (.ref 0))⟩
abbrev P_c_toDatum (x : Datum) : Ct := ⟨238, [], [datumA x], datumO x, .sv (datumR x 0)⟩
def lc_toDatumSLa (L : List Datum) : Lp Nat := .mk 23 0 (fun x => [(0, ll (List.map datumC L)), (3, SV.one (AC.ref 0)), (4, hs x 0)]) (fun x => [ho x 1]) (fun k => [.s (li (↑k :
 Int)), .o (Ob.arr true 4 (List.map datumC (fillTo L k)))]) (fun k => k ≤ L.length ∧ L.length ≤ 9223372036854775807) (fun k => L.length - k) [.mk True (.exit 0) (fun x => [(3,
 SV.one (AC.ref 0))]) (fun x => [ho x 0]) [.o (Ob.arr true 4 (List.map datumC L))]]
theorem Sc_toDatumSLa (L : List Datum) (h : L.length + sumBy wD L ≤ 1048576) (ih : ∀ (x : Datum), x ∈ L → wD x ≤ 1048576 → OK (P_c_toDatum x)) : Lp.Sem Tryz.prog (loopAt Tryz.f293
 0) (lc_toDatumSLa L) := lpOK (fun k => .z datumC L (.i ((↑k : Int) < (↑(List.map datumC L).length : Int)) (.x (↑k : Int) (List.map datumC L) (datumF (L.getD k default)) (.d [.rd]
 (P_c_toDatum (L.getD k default)) (.p (0 ≤ (↑k : Int) ∧ (↑k : Int).toNat < (List.map datumC (fillTo L k)).length) (.w (.cells (datumF ((fillTo L k).getD (↑k : Int).toNat default)))
 (.p ((List.map datumC (fillTo L k))[(↑k : Int).toNat]? = some (datumF ((fillTo L k).getD (↑k : Int).toNat default))) (.r ((↑k : Int) + 1) (.g [0] (k + 1) [.s (li ((↑k : Int) +
 1)), .o (Ob.arr true 4 ((List.map datumC (fillTo L k)).set (↑k : Int).toNat (datumF (L.getD k default))))]))))))) (.o 0 [0] [.o (Ob.arr true 4 (List.map datumC (fillTo L k)))])))
 (by
  intro k h; try dsimp only [teasy, nthW, lc_toDatumSLa] at h ⊢
  with_reducible repeat' (first | apply And.intro | exact zR | exact ih | (intro; skip) | apply ih)
  all_goals (try simp only [std, inj] at *)
  all_goals with_reducible repeat' apply And.intro
  all_goals (try (first | with_reducible apply ih | (simp only [← List.map_append]; first | with_reducible apply ih)))
  all_goals (try (first | exact z | exact zF | grind [fillTo_all, getD_mem', sumBy_mem, snocI, snocS, rowSnoc])))
theorem c_toDatumS (L : List Datum) (h : L.length + sumBy wD L ≤ 1048576) (ih : ∀ x ∈ L, ∀ (h : wD x ≤ 1048576), P_c_toDatum x)  : P_c_toDatumS L := fnOK Tryz.call293 Tryz.func293
 (.z datumC L (.p (0 ≤ (↑(List.map datumC L).length : Int) ∧ 56 * (↑(List.map datumC L).length : Int).toNat ≤ 281474976710656) (.l (lc_toDatumSLa L) (Sc_toDatumSLa L h ih) [0] [.s
 (li 0), .o (Ob.arr true 4 (List.replicate (↑(List.map datumC L).length : Int).toNat [cI 0, cI 0, cS (ByteArray.mk #[]), Cell.list []]))] 0 (.t (.f [0] [Ob.arr true 4 (List.map
 datumC L)] (AV.sv (SV.one (AC.ref 0)))) .q)))) (by
  dsimp only [teasy, P_c_toDatumS, nthW, lc_toDatumSLa]
  with_reducible repeat' (first | apply And.intro | exact zR | exact ih | (intro; skip))
  all_goals (try simp only [std, inj] at *)
  all_goals with_reducible repeat' apply And.intro
  all_goals (try (first | with_reducible apply ih | (simp only [← List.map_append]; first | with_reducible apply ih)))
  all_goals (try (first | exact z | exact zF | grind [snocI, snocS, rowSnoc])))
theorem c_toDatum_s (x : Datum) (h : wD x ≤ 1048576) (ih : ∀ z ∈ x.items, ∀ (h : wD z ≤ 1048576), P_c_toDatum z)  : P_c_toDatum x := fnOK Tryz.call238 Tryz.func238 (.d [.rd]
 (P_c_toDatumS x.items) (.f [3] [Ob.arr true 4 (List.map datumC x.items)] (AV.sv (SV.agg [vI x.kind, vI x.number, vS x.text, AC.ref 0])))) (by
  dsimp only [teasy, P_c_toDatum]
  with_reducible repeat' (first | apply And.intro | exact zR | exact ih | (intro; skip) | apply c_toDatumS | apply ih)
  all_goals (try simp only [std, inj] at *)
  all_goals with_reducible repeat' apply And.intro
  all_goals (try (first | with_reducible apply c_toDatumS | with_reducible apply ih | (simp only [← List.map_append]; first | with_reducible apply c_toDatumS | with_reducible apply ih)))
  all_goals (try (first | exact z | exact zF | grind [wD_eq, wS, snocI, snocS, rowSnoc])))
theorem c_toDatum (x : Datum) : ∀ (h : wD x ≤ 1048576), P_c_toDatum x := Datum.ind (P := fun x => ∀ (h : wD x ≤ 1048576), P_c_toDatum x) (fun x ih h => c_toDatum_s x h ih) x
abbrev P_c_toCoreS (L : List Core) : Ct := ⟨239, [], [ll (L.map coreC)], [.arr true 8 (L.map coreC)], .sv (.one (.ref 0))⟩
abbrev P_c_toCore (x : Core) : Ct := ⟨168, [], [coreA x], coreO x, .sv (coreR x 0)⟩
def lc_toCoreSLa (L : List Core) : Lp Nat := .mk 23 0 (fun x => [(0, ll (List.map coreC L)), (3, SV.one (AC.ref 0)), (4, hs x 0)]) (fun x => [ho x 1]) (fun k => [.s (li (↑k :
 Int)), .o (Ob.arr true 8 (List.map coreC (fillTo L k)))]) (fun k => k ≤ L.length ∧ L.length ≤ 9223372036854775807) (fun k => L.length - k) [.mk True (.exit 0) (fun x => [(3,
 SV.one (AC.ref 0))]) (fun x => [ho x 0]) [.o (Ob.arr true 8 (List.map coreC L))]]
theorem Sc_toCoreSLa (L : List Core) (h : L.length + sumBy wC L ≤ 1048576) (ih : ∀ (x : Core), x ∈ L → wC x ≤ 1048576 → OK (P_c_toCore x)) : Lp.Sem Tryz.prog (loopAt Tryz.f239 0)
 (lc_toCoreSLa L) := lpOK (fun k => .z coreC L (.i ((↑k : Int) < (↑(List.map coreC L).length : Int)) (.x (↑k : Int) (List.map coreC L) (coreF (L.getD k default)) (.d [.rd]
 (P_c_toCore (L.getD k default)) (.p (0 ≤ (↑k : Int) ∧ (↑k : Int).toNat < (List.map coreC (fillTo L k)).length) (.w (.cells (coreF ((fillTo L k).getD (↑k : Int).toNat default)))
 (.p ((List.map coreC (fillTo L k))[(↑k : Int).toNat]? = some (coreF ((fillTo L k).getD (↑k : Int).toNat default))) (.r ((↑k : Int) + 1) (.g [0] (k + 1) [.s (li ((↑k : Int) + 1)),
 .o (Ob.arr true 8 ((List.map coreC (fillTo L k)).set (↑k : Int).toNat (coreF (L.getD k default))))]))))))) (.o 0 [0] [.o (Ob.arr true 8 (List.map coreC (fillTo L k)))]))) (by
  intro k h; try dsimp only [teasy, nthW, lc_toCoreSLa] at h ⊢
  with_reducible repeat' (first | apply And.intro | exact zR | exact ih | (intro; skip) | apply ih)
  all_goals (try simp only [std, inj] at *)
  all_goals with_reducible repeat' apply And.intro
  all_goals (try (first | with_reducible apply ih | (simp only [← List.map_append]; first | with_reducible apply ih)))
  all_goals (try (first | exact z | exact zF | grind [fillTo_all, getD_mem', sumBy_mem, snocI, snocS, rowSnoc])))
theorem c_toCoreS (L : List Core) (h : L.length + sumBy wC L ≤ 1048576) (ih : ∀ x ∈ L, ∀ (h : wC x ≤ 1048576), P_c_toCore x)  : P_c_toCoreS L := fnOK Tryz.call239 Tryz.func239 (.z
 coreC L (.p (0 ≤ (↑(List.map coreC L).length : Int) ∧ 120 * (↑(List.map coreC L).length : Int).toNat ≤ 281474976710656) (.l (lc_toCoreSLa L) (Sc_toCoreSLa L h ih) [0] [.s (li 0),
 .o (Ob.arr true 8 (List.replicate (↑(List.map coreC L).length : Int).toNat [cI 0, cI 0, Cell.list [], cI 0, cI 0, cS (ByteArray.mk #[]), Cell.list [], Cell.list []]))] 0 (.t (.f
 [0] [Ob.arr true 8 (List.map coreC L)] (AV.sv (SV.one (AC.ref 0)))) .q)))) (by
  dsimp only [teasy, P_c_toCoreS, nthW, lc_toCoreSLa]
  with_reducible repeat' (first | apply And.intro | exact zR | exact ih | (intro; skip))
  all_goals (try simp only [std, inj] at *)
  all_goals with_reducible repeat' apply And.intro
  all_goals (try (first | with_reducible apply ih | (simp only [← List.map_append]; first | with_reducible apply ih)))
  all_goals (try (first | exact z | exact zF | grind [snocI, snocS, rowSnoc])))
theorem c_toCore_s (x : Core) (h : wC x ≤ 1048576) (ih : ∀ z ∈ x.kids, ∀ (h : wC z ≤ 1048576), P_c_toCore z)  : P_c_toCore x := fnOK Tryz.call168 Tryz.func168 (.d [.rd] (P_c_toIntS
 x.params) (.d [.rd] (P_c_toDatum x.datum) (.d [.rd] (P_c_toCoreS x.kids) (.f [3, 4, 5] [Ob.arr true 1 (List.map intC x.params), Ob.arr true 4 (List.map datumC x.datum.items),
 Ob.arr true 8 (List.map coreC x.kids)] (AV.sv (SV.agg [vI x.kind, vI x.number, AC.ref 0, vI x.datum.kind, vI x.datum.number, vS x.datum.text, AC.ref 1, AC.ref 2])))))) (by
  dsimp only [teasy, P_c_toCore]
  with_reducible repeat' (first | apply And.intro | exact zR | exact ih | (intro; skip) | apply c_toIntS | apply c_toDatum | apply c_toCoreS | apply ih)
  all_goals (try simp only [std, inj] at *)
  all_goals with_reducible repeat' apply And.intro
  all_goals (try (first | with_reducible apply c_toIntS | with_reducible apply c_toDatum | with_reducible apply c_toCoreS | with_reducible apply ih | (simp only [← List.map_append]; first | with_reducible apply c_toIntS | with_reducible apply c_toDatum | with_reducible apply c_toCoreS | with_reducible apply ih)))
  all_goals (try (first | exact z | exact zF | grind [wC_eq, wS, snocI, snocS, rowSnoc])))
theorem c_toCore (x : Core) : ∀ (h : wC x ≤ 1048576), P_c_toCore x := Core.ind (P := fun x => ∀ (h : wC x ≤ 1048576), P_c_toCore x) (fun x ih h => c_toCore_s x h ih) x
abbrev P_c_toUnit (x : Unit) : Ct := ⟨87, [], [unitA x], unitO x, .sv (unitR x 0)⟩
theorem c_toUnit (x : Unit) (h : wU x ≤ 1048576)  : P_c_toUnit x := fnOK Tryz.call87 Tryz.func87 (.d [.rd] (P_c_toIntS x.globals) (.d [.rd] (P_c_toCore x.body) (.f [3, 4, 5, 6]
 [Ob.arr true 1 (List.map intC x.globals), Ob.arr true 1 (List.map intC x.body.params), Ob.arr true 4 (List.map datumC x.body.datum.items), Ob.arr true 8 (List.map coreC
 x.body.kids)] (AV.sv (SV.agg [vS x.name, AC.ref 0, vI x.body.kind, vI x.body.number, AC.ref 1, vI x.body.datum.kind, vI x.body.datum.number, vS x.body.datum.text, AC.ref 2, AC.ref
 3]))))) (by
  dsimp only [teasy, P_c_toUnit]
  with_reducible repeat' (first | apply And.intro | exact zR | (intro; skip) | apply c_toIntS | apply c_toCore)
  all_goals (try simp only [std, inj] at *)
  all_goals with_reducible repeat' apply And.intro
  all_goals (try (first | with_reducible apply c_toIntS | with_reducible apply c_toCore | (simp only [← List.map_append]; first | with_reducible apply c_toIntS | with_reducible apply c_toCore)))
  all_goals (try (first | exact z | exact zF | grind [wU_eq, wS, snocI, snocS, rowSnoc])))
abbrev P_c_toUnitS (L : List Unit) : Ct := ⟨28, [], [ll (L.map unitC)], [.arr true 10 (L.map unitC)], .sv (.one (.ref 0))⟩
def lc_toUnitSLa (L : List Unit) : Lp Nat := .mk 23 0 (fun x => [(0, ll (List.map unitC L)), (3, SV.one (AC.ref 0)), (4, hs x 0)]) (fun x => [ho x 1]) (fun k => [.s (li (↑k :
 Int)), .o (Ob.arr true 10 (List.map unitC (fillTo L k)))]) (fun k => k ≤ L.length ∧ L.length ≤ 9223372036854775807) (fun k => L.length - k) [.mk True (.exit 0) (fun x => [(3,
 SV.one (AC.ref 0))]) (fun x => [ho x 0]) [.o (Ob.arr true 10 (List.map unitC L))]]
theorem Sc_toUnitSLa (L : List Unit) (h : L.length + sumBy wU L ≤ 1048576) : Lp.Sem Tryz.prog (loopAt Tryz.f28 0) (lc_toUnitSLa L) := lpOK (fun k => .z unitC L (.i ((↑k : Int) <
 (↑(List.map unitC L).length : Int)) (.x (↑k : Int) (List.map unitC L) (unitF (L.getD k default)) (.d [.rd] (P_c_toUnit (L.getD k default)) (.p (0 ≤ (↑k : Int) ∧ (↑k : Int).toNat <
 (List.map unitC (fillTo L k)).length) (.w (.cells (unitF ((fillTo L k).getD (↑k : Int).toNat default))) (.p ((List.map unitC (fillTo L k))[(↑k : Int).toNat]? = some (unitF
 ((fillTo L k).getD (↑k : Int).toNat default))) (.r ((↑k : Int) + 1) (.g [0] (k + 1) [.s (li ((↑k : Int) + 1)), .o (Ob.arr true 10 ((List.map unitC (fillTo L k)).set (↑k :
 Int).toNat (unitF (L.getD k default))))]))))))) (.o 0 [0] [.o (Ob.arr true 10 (List.map unitC (fillTo L k)))]))) (by
  intro k h; try dsimp only [teasy, nthW, lc_toUnitSLa] at h ⊢
  with_reducible repeat' (first | apply And.intro | exact zR | (intro; skip) | apply c_toUnit)
  all_goals (try simp only [std, inj] at *)
  all_goals with_reducible repeat' apply And.intro
  all_goals (try (first | with_reducible apply c_toUnit | (simp only [← List.map_append]; first | with_reducible apply c_toUnit)))
  all_goals (try (first | exact z | exact zF | grind [fillTo_all, getD_mem', sumBy_mem, snocI, snocS, rowSnoc])))
theorem c_toUnitS (L : List Unit) (h : L.length + sumBy wU L ≤ 1048576)  : P_c_toUnitS L := fnOK Tryz.call28 Tryz.func28 (.z unitC L (.p (0 ≤ (↑(List.map unitC L).length : Int) ∧ 160
 * (↑(List.map unitC L).length : Int).toNat ≤ 281474976710656) (.l (lc_toUnitSLa L) (Sc_toUnitSLa L h) [0] [.s (li 0), .o (Ob.arr true 10 (List.replicate (↑(List.map unitC
 L).length : Int).toNat [cS (ByteArray.mk #[]), Cell.list [], cI 0, cI 0, Cell.list [], cI 0, cI 0, cS (ByteArray.mk #[]), Cell.list [], Cell.list []]))] 0 (.t (.f [0] [Ob.arr true
 10 (List.map unitC L)] (AV.sv (SV.one (AC.ref 0)))) .q)))) (by
  dsimp only [teasy, P_c_toUnitS, nthW, lc_toUnitSLa]
  with_reducible repeat' (first | apply And.intro | exact zR | (intro; skip) | apply c_toUnit)
  all_goals (try simp only [std, inj] at *)
  all_goals with_reducible repeat' apply And.intro
  all_goals (try (first | with_reducible apply c_toUnit | (simp only [← List.map_append]; first | with_reducible apply c_toUnit)))
  all_goals (try (first | exact z | exact zF | grind [snocI, snocS, rowSnoc])))
end Go.Proofs.YtpnaoendfpaodaaGreat
end
section
namespace Go.Proofs.YtpnaoendfpaodaaGreat
open Go Go.Proofs.YtpnaoendfpaodaaGreat.Ab
set_option linter.unusedVariables false
set_option linter.unusedSimpArgs false
set_option maxHeartbeats 4000000
abbrev P_c_eqIntS (A : List Int) (B : List Int) : Ct := ⟨78, [], [ll (A.map intC), ll (B.map intC)], [], .sv (lb (decide (A = B)))⟩
def lc_eqIntSLa (A : List Int) (B : List Int) : Lp Nat := .mk 26 0 (fun x => [(0, ll (List.map intC A)), (1, ll (List.map intC B)), (5, hs x 0)]) (fun x => []) (fun k => [.s (li
 (↑k : Int))]) (fun k => k ≤ A.length ∧ A.length ≤ 9223372036854775807 ∧ A.length = B.length ∧ List.take k A = List.take k B) (fun k => A.length - k) [.mk (A = B) (.exit 0) (fun x
 => []) (fun x => []) [], .mk (A ≠ B) .ret (fun x => [(4, hs x 0)]) (fun x => []) [.s (lb false)]]
theorem Sc_eqIntSLa (A : List Int) (B : List Int) : Lp.Sem Tryz.prog (loopAt Tryz.f78 0) (lc_eqIntSLa A B) := lpOK (fun k => .z intC A (.i ((↑k : Int) < (↑(List.map intC A).length
 : Int)) (.w (.draw []) (.x (↑k : Int) (List.map intC A) [cI (A.getD k 0)] (.x (↑k : Int) (List.map intC B) [cI (B.getD k 0)] (.i (A.getD k (0 : Int) ≠ B.getD k 0) (.o 1 [] [.s (lb
 false)]) (.r ((↑k : Int) + 1) (.g [] (k + 1) [.s (li ((↑k : Int) + 1))])))))) (.o 0 [] []))) (by
  intro k h; try dsimp only [teasy, nthW, lc_eqIntSLa] at h ⊢
  with_reducible repeat' (first | apply And.intro | exact zR | (intro; skip))
  all_goals (try simp only [std, inj] at *)
  all_goals with_reducible repeat' apply And.intro
  all_goals (try (first | exact z | grind [take_eq, snocI, snocS, rowSnoc])))
theorem c_eqIntS (A B : List Int)  : P_c_eqIntS A B := fnOK Tryz.call78 Tryz.func78 (.z intC A (.z intC B (.i ((↑(List.map intC A).length : Int) ≠ (↑(List.map intC B).length : Int))
 (.s (lb false)) (.l (lc_eqIntSLa A B) (Sc_eqIntSLa A B) [] [.s (li 0)] 0 (.t (.s (lb true)) (.t (.s (lb false)) .q)))))) (by
  dsimp only [teasy, P_c_eqIntS, nthW, lc_eqIntSLa]
  with_reducible repeat' (first | apply And.intro | exact zR | (intro; skip))
  all_goals (try simp only [std, inj] at *)
  all_goals with_reducible repeat' apply And.intro
  all_goals (try (first | exact z | grind [snocI, snocS, rowSnoc])))
abbrev P_c_eqDatumS (A : List Datum) (B : List Datum) : Ct := ⟨176, [], [ll (A.map datumC), ll (B.map datumC)], [], .sv (lb (decide (A = B)))⟩
abbrev P_c_eqDatum (x : Datum) (y : Datum) : Ct := ⟨92, [], [datumA x, datumA y], [], .sv (lb (decide (x = y)))⟩
def lc_eqDatumSLa (A : List Datum) (B : List Datum) : Lp Nat := .mk 27 0 (fun x => [(0, ll (List.map datumC A)), (1, ll (List.map datumC B)), (5, hs x 0)]) (fun x => []) (fun k =>
 [.s (li (↑k : Int))]) (fun k => k ≤ A.length ∧ A.length ≤ 9223372036854775807 ∧ A.length = B.length ∧ List.take k A = List.take k B) (fun k => A.length - k) [.mk (A = B) (.exit 0)
 (fun x => []) (fun x => []) [], .mk (A ≠ B) .ret (fun x => [(4, hs x 0)]) (fun x => []) [.s (lb false)]]
theorem Sc_eqDatumSLa (A : List Datum) (B : List Datum) (ih : ∀ (x : Datum), x ∈ A → ∀ (y : Datum), OK (P_c_eqDatum x y)) : Lp.Sem Tryz.prog (loopAt Tryz.f176 0) (lc_eqDatumSLa A
 B) := lpOK (fun k => .z datumC A (.i ((↑k : Int) < (↑(List.map datumC A).length : Int)) (.w (.draw []) (.x (↑k : Int) (List.map datumC A) (datumF (A.getD k default)) (.x (↑k :
 Int) (List.map datumC B) (datumF (B.getD k default)) (.d [.rd, .rd] (P_c_eqDatum (A.getD k default) (B.getD k default)) (.b (!decide (A.getD k default = B.getD k default)) (.o 1
 [] [.s (lb false)]) (.r ((↑k : Int) + 1) (.g [] (k + 1) [.s (li ((↑k : Int) + 1))]))))))) (.o 0 [] []))) (by
  intro k h; try dsimp only [teasy, nthW, lc_eqDatumSLa] at h ⊢
  with_reducible repeat' (first | apply And.intro | exact zR | exact ih | (intro; skip) | apply ih)
  all_goals (try simp only [std, inj] at *)
  all_goals with_reducible repeat' apply And.intro
  all_goals (try (first | with_reducible apply ih | (simp only [← List.map_append]; first | with_reducible apply ih)))
  all_goals (try (first | exact z | grind [take_eq, getD_mem', snocI, snocS, rowSnoc])))
theorem c_eqDatumS (A B : List Datum) (ih : ∀ x ∈ A, ∀ (y : Datum), P_c_eqDatum x y)  : P_c_eqDatumS A B := fnOK Tryz.call176 Tryz.func176 (.z datumC A (.z datumC B (.i ((↑(List.map
 datumC A).length : Int) ≠ (↑(List.map datumC B).length : Int)) (.s (lb false)) (.l (lc_eqDatumSLa A B) (Sc_eqDatumSLa A B ih) [] [.s (li 0)] 0 (.t (.s (lb true)) (.t (.s (lb
 false)) .q)))))) (by
  dsimp only [teasy, P_c_eqDatumS, nthW, lc_eqDatumSLa]
  with_reducible repeat' (first | apply And.intro | exact zR | exact ih | (intro; skip))
  all_goals (try simp only [std, inj] at *)
  all_goals with_reducible repeat' apply And.intro
  all_goals (try (first | with_reducible apply ih | (simp only [← List.map_append]; first | with_reducible apply ih)))
  all_goals (try (first | exact z | grind [snocI, snocS, rowSnoc])))
theorem c_eqDatum_s (x y : Datum) (ih : ∀ z ∈ x.items, ∀ (y : Datum), P_c_eqDatum z y)  : P_c_eqDatum x y := fnOK Tryz.call92 Tryz.func92 (.i (x.kind ≠ y.kind) (.s (lb false)) (.i
 (x.number ≠ y.number) (.s (lb false)) (.i (x.text.data.toList ≠ y.text.data.toList) (.s (lb false)) (.d [.rd, .rd] (P_c_eqDatumS x.items y.items) (.b (!decide (x.items = y.items))
 (.s (lb false)) (.s (lb true))))))) (by
  dsimp only [teasy, P_c_eqDatum]
  simp only [datumExt]
  with_reducible repeat' (first | apply And.intro | exact zR | exact ih | (intro; skip) | apply c_eqDatumS | apply ih)
  all_goals (try simp only [std, inj] at *)
  all_goals with_reducible repeat' apply And.intro
  all_goals (try (first | with_reducible apply c_eqDatumS | with_reducible apply ih | (simp only [← List.map_append]; first | with_reducible apply c_eqDatumS | with_reducible apply ih)))
  all_goals (try (first | exact z | grind [bytes_ext, snocI, snocS, rowSnoc])))
theorem c_eqDatum (x : Datum) : ∀ (y : Datum), P_c_eqDatum x y := Datum.ind (P := fun x => ∀ (y : Datum), P_c_eqDatum x y) (fun x ih y => c_eqDatum_s x y ih) x
abbrev P_c_eqCoreS (A : List Core) (B : List Core) : Ct := ⟨93, [], [ll (A.map coreC), ll (B.map coreC)], [], .sv (lb (decide (A = B)))⟩
abbrev P_c_eqCore (x : Core) (y : Core) : Ct := ⟨30, [], [coreA x, coreA y], [], .sv (lb (decide (x = y)))⟩
def lc_eqCoreSLa (A : List Core) (B : List Core) : Lp Nat := .mk 27 0 (fun x => [(0, ll (List.map coreC A)), (1, ll (List.map coreC B)), (5, hs x 0)]) (fun x => []) (fun k => [.s
 (li (↑k : Int))]) (fun k => k ≤ A.length ∧ A.length ≤ 9223372036854775807 ∧ A.length = B.length ∧ List.take k A = List.take k B) (fun k => A.length - k) [.mk (A = B) (.exit 0)
 (fun x => []) (fun x => []) [], .mk (A ≠ B) .ret (fun x => [(4, hs x 0)]) (fun x => []) [.s (lb false)]]
theorem Sc_eqCoreSLa (A : List Core) (B : List Core) (ih : ∀ (x : Core), x ∈ A → ∀ (y : Core), OK (P_c_eqCore x y)) : Lp.Sem Tryz.prog (loopAt Tryz.f93 0) (lc_eqCoreSLa A B) :=
 lpOK (fun k => .z coreC A (.i ((↑k : Int) < (↑(List.map coreC A).length : Int)) (.w (.draw []) (.x (↑k : Int) (List.map coreC A) (coreF (A.getD k default)) (.x (↑k : Int)
 (List.map coreC B) (coreF (B.getD k default)) (.d [.rd, .rd] (P_c_eqCore (A.getD k default) (B.getD k default)) (.b (!decide (A.getD k default = B.getD k default)) (.o 1 [] [.s
 (lb false)]) (.r ((↑k : Int) + 1) (.g [] (k + 1) [.s (li ((↑k : Int) + 1))]))))))) (.o 0 [] []))) (by
  intro k h; try dsimp only [teasy, nthW, lc_eqCoreSLa] at h ⊢
  with_reducible repeat' (first | apply And.intro | exact zR | exact ih | (intro; skip) | apply ih)
  all_goals (try simp only [std, inj] at *)
  all_goals with_reducible repeat' apply And.intro
  all_goals (try (first | with_reducible apply ih | (simp only [← List.map_append]; first | with_reducible apply ih)))
  all_goals (try (first | exact z | grind [take_eq, getD_mem', snocI, snocS, rowSnoc])))
theorem c_eqCoreS (A B : List Core) (ih : ∀ x ∈ A, ∀ (y : Core), P_c_eqCore x y)  : P_c_eqCoreS A B := fnOK Tryz.call93 Tryz.func93 (.z coreC A (.z coreC B (.i ((↑(List.map coreC
 A).length : Int) ≠ (↑(List.map coreC B).length : Int)) (.s (lb false)) (.l (lc_eqCoreSLa A B) (Sc_eqCoreSLa A B ih) [] [.s (li 0)] 0 (.t (.s (lb true)) (.t (.s (lb false))
 .q)))))) (by
  dsimp only [teasy, P_c_eqCoreS, nthW, lc_eqCoreSLa]
  with_reducible repeat' (first | apply And.intro | exact zR | exact ih | (intro; skip))
  all_goals (try simp only [std, inj] at *)
  all_goals with_reducible repeat' apply And.intro
  all_goals (try (first | with_reducible apply ih | (simp only [← List.map_append]; first | with_reducible apply ih)))
  all_goals (try (first | exact z | grind [snocI, snocS, rowSnoc])))
theorem c_eqCore_s (x y : Core) (ih : ∀ z ∈ x.kids, ∀ (y : Core), P_c_eqCore z y)  : P_c_eqCore x y := fnOK Tryz.call30 Tryz.func30 (.i (x.kind ≠ y.kind) (.s (lb false)) (.i
 (x.number ≠ y.number) (.s (lb false)) (.c [.rd, .rd] (c_eqIntS x.params y.params) (.b (!decide (x.params = y.params)) (.s (lb false)) (.c [.rd, .rd] (c_eqDatum x.datum y.datum)
 (.b (!decide (x.datum = y.datum)) (.s (lb false)) (.d [.rd, .rd] (P_c_eqCoreS x.kids y.kids) (.b (!decide (x.kids = y.kids)) (.s (lb false)) (.s (lb true)))))))))) (by
  dsimp only [teasy, P_c_eqCore]
  simp only [coreExt]
  with_reducible repeat' (first | apply And.intro | exact zR | exact ih | (intro; skip) | apply c_eqIntS | apply c_eqDatum | apply c_eqCoreS | apply ih)
  all_goals (try simp only [std, inj] at *)
  all_goals with_reducible repeat' apply And.intro
  all_goals (try (first | with_reducible apply c_eqIntS | with_reducible apply c_eqDatum | with_reducible apply c_eqCoreS | with_reducible apply ih | (simp only [← List.map_append]; first | with_reducible apply c_eqIntS | with_reducible apply c_eqDatum | with_reducible apply c_eqCoreS | with_reducible apply ih)))
  all_goals (try (first | exact z | grind [bytes_ext, snocI, snocS, rowSnoc])))
theorem c_eqCore (x : Core) : ∀ (y : Core), P_c_eqCore x y := Core.ind (P := fun x => ∀ (y : Core), P_c_eqCore x y) (fun x ih y => c_eqCore_s x y ih) x
abbrev P_c_eqUnit (x : Unit) (y : Unit) : Ct := ⟨94, [], [unitA x, unitA y], [], .sv (lb (decide (x = y)))⟩
theorem c_eqUnit (x y : Unit)  : P_c_eqUnit x y := fnOK Tryz.call94 Tryz.func94 (.i (x.name.data.toList ≠ y.name.data.toList) (.s (lb false)) (.c [.rd, .rd] (c_eqIntS x.globals
 y.globals) (.b (!decide (x.globals = y.globals)) (.s (lb false)) (.c [.rd, .rd] (c_eqCore x.body y.body) (.b (!decide (x.body = y.body)) (.s (lb false)) (.s (lb true))))))) (by
  dsimp only [teasy, P_c_eqUnit]
  simp only [unitExt]
  with_reducible repeat' (first | apply And.intro | exact zR | (intro; skip))
  all_goals (try simp only [std, inj] at *)
  all_goals with_reducible repeat' apply And.intro
  all_goals (try (first | exact z | grind [bytes_ext, snocI, snocS, rowSnoc])))
abbrev P_c_eqUnitS (A : List Unit) (B : List Unit) : Ct := ⟨31, [], [ll (A.map unitC), ll (B.map unitC)], [], .sv (lb (decide (A = B)))⟩
def lc_eqUnitSLa (A : List Unit) (B : List Unit) : Lp Nat := .mk 27 0 (fun x => [(0, ll (List.map unitC A)), (1, ll (List.map unitC B)), (5, hs x 0)]) (fun x => []) (fun k => [.s
 (li (↑k : Int))]) (fun k => k ≤ A.length ∧ A.length ≤ 9223372036854775807 ∧ A.length = B.length ∧ List.take k A = List.take k B) (fun k => A.length - k) [.mk (A = B) (.exit 0)
 (fun x => []) (fun x => []) [], .mk (A ≠ B) .ret (fun x => [(4, hs x 0)]) (fun x => []) [.s (lb false)]]
theorem Sc_eqUnitSLa (A : List Unit) (B : List Unit) : Lp.Sem Tryz.prog (loopAt Tryz.f31 0) (lc_eqUnitSLa A B) := lpOK (fun k => .z unitC A (.i ((↑k : Int) < (↑(List.map unitC
 A).length : Int)) (.w (.draw []) (.x (↑k : Int) (List.map unitC A) (unitF (A.getD k default)) (.x (↑k : Int) (List.map unitC B) (unitF (B.getD k default)) (.c [.rd, .rd] (c_eqUnit
 (A.getD k default) (B.getD k default)) (.b (!decide (A.getD k default = B.getD k default)) (.o 1 [] [.s (lb false)]) (.r ((↑k : Int) + 1) (.g [] (k + 1) [.s (li ((↑k : Int) +
 1))]))))))) (.o 0 [] []))) (by
  intro k h; try dsimp only [teasy, nthW, lc_eqUnitSLa] at h ⊢
  with_reducible repeat' (first | apply And.intro | exact zR | (intro; skip))
  all_goals (try simp only [std, inj] at *)
  all_goals with_reducible repeat' apply And.intro
  all_goals (try (first | exact z | grind [take_eq, getD_mem', snocI, snocS, rowSnoc])))
theorem c_eqUnitS (A B : List Unit)  : P_c_eqUnitS A B := fnOK Tryz.call31 Tryz.func31 (.z unitC A (.z unitC B (.i ((↑(List.map unitC A).length : Int) ≠ (↑(List.map unitC B).length :
 Int)) (.s (lb false)) (.l (lc_eqUnitSLa A B) (Sc_eqUnitSLa A B) [] [.s (li 0)] 0 (.t (.s (lb true)) (.t (.s (lb false)) .q)))))) (by
  dsimp only [teasy, P_c_eqUnitS, nthW, lc_eqUnitSLa]
  with_reducible repeat' (first | apply And.intro | exact zR | (intro; skip))
  all_goals (try simp only [std, inj] at *)
  all_goals with_reducible repeat' apply And.intro
  all_goals (try (first | exact z | grind [snocI, snocS, rowSnoc])))
end Go.Proofs.YtpnaoendfpaodaaGreat
end
section
namespace Go.Proofs.YtpnaoendfpaodaaGreat
open Go Go.Proofs.YtpnaoendfpaodaaGreat.Ab
set_option linter.unusedVariables false
set_option linter.unusedSimpArgs false
set_option maxHeartbeats 4000000
theorem prgO_w (L : List Unit) : wC (prgO L) ≤ 2 * sumBy wU L + L.length + 10 := by
  have h := prgC_w L
  unfold prgO; split
  · exact h
  · have : wC ⟨0, 0, [], d0, []⟩ = 0 := rfl
    omega
abbrev P_c_LPrg (L : List Unit) : Ct := ⟨4, [], [ll (L.map unitC)], [], .sv (lb true)⟩
theorem c_LPrg (L : List Unit)  : P_c_LPrg L := fnOK Tryz.call4 Tryz.func4 (.d [.rd, .rd] (P_c_szUnitS L 1048576) (.i (sz (L.length + sumBy wU L) (1048576 : Int) < 0) (.s (lb true))
 (.d [.rd] (P_c_toUnitS L) (.d [.rd] (P_c_sPrgOf L) (.d [.rd] (P_c_toUnitS L) (.d [.rd] (P_c_iPrgOf L) (.c [.rd, .rd] (c_eqCore (prgO L) (prgO L)) (.b (!decide (prgO L = prgO L))
 (.y true (.s (lb false))) (.i (prgB L ≠ prgB L) (.s (lb false)) (.d [.rd] (P_c_toUnitS L) (.c [.rd, .rd] (c_eqUnitS L L) (.b (!decide (L = L)) (.s (lb false)) (.d [.own true 10,
 .rd] (P_c_markUnitS L 1) (.y false (.c [.rd, .rd] (c_eqCore (prgO L) (prgO L)) (.b (!decide (prgO L = prgO L)) (.y true (.s (lb false))) (.i (prgB L ≠ prgB L) (.s (lb false)) (.d
 [.agg [none, none, some (true, 1), none, none, none, some (true, 4), some (true, 8)], .rd] (P_c_markCore (prgO L) 1) (.d [.rd, .rd] (P_c_heldCore (Core.mk (prgO L).kind (prgO
 L).number (seqM mkI cOne (prgO L).params 1) (Datum.mk (prgO L).datum.kind (prgO L).datum.number (prgO L).datum.text (seqM mkD cD (prgO L).datum.items (1 + (↑(prgO L).params.length
 : Int)))) (seqM mkC cC (prgO L).kids (1 + (↑(prgO L).params.length : Int) + (↑(sumBy cD (prgO L).datum.items) : Int)))) 1) (.y false (.i (1 + (↑(seqM mkI cOne (prgO L).params
 1).length : Int) + (↑(sumBy cD (seqM mkD cD (prgO L).datum.items (1 + (↑(prgO L).params.length : Int)))) : Int) + (↑(sumBy cC (seqM mkC cC (prgO L).kids (1 + (↑(prgO
 L).params.length : Int) + (↑(sumBy cD (prgO L).datum.items) : Int)))) : Int) ≠ 1 + (↑(prgO L).params.length : Int) + (↑(sumBy cD (prgO L).datum.items) : Int) + (↑(sumBy cC (prgO
 L).kids) : Int)) (.s (lb false)) (.d [.rd] (P_c_toUnitS L) (.d [.rd] (P_c_iPrgOf L) (.c [.rd, .rd] (c_eqCore (prgO L) (prgO L)) (.b (!decide (prgO L = prgO L)) (.y true (.s (lb
 false))) (.i (prgB L ≠ prgB L) (.s (lb false)) (.d [.rd, .rd] (P_c_heldCore (Core.mk (prgO L).kind (prgO L).number (seqM mkI cOne (prgO L).params 1) (Datum.mk (prgO L).datum.kind
 (prgO L).datum.number (prgO L).datum.text (seqM mkD cD (prgO L).datum.items (1 + (↑(prgO L).params.length : Int)))) (seqM mkC cC (prgO L).kids (1 + (↑(prgO L).params.length : Int)
 + (↑(sumBy cD (prgO L).datum.items) : Int)))) 1) (.y false (.i (1 + (↑(seqM mkI cOne (prgO L).params 1).length : Int) + (↑(sumBy cD (seqM mkD cD (prgO L).datum.items (1 + (↑(prgO
 L).params.length : Int)))) : Int) + (↑(sumBy cC (seqM mkC cC (prgO L).kids (1 + (↑(prgO L).params.length : Int) + (↑(sumBy cD (prgO L).datum.items) : Int)))) : Int) ≠ 1 + (↑(prgO
 L).params.length : Int) + (↑(sumBy cD (prgO L).datum.items) : Int) + (↑(sumBy cC (prgO L).kids) : Int)) (.s (lb false)) (.s (lb true))))))))))))))))))))))))))))))) (by
  dsimp only [teasy, P_c_LPrg]
  have h2 := sumBy_le16 L fun x _ => cU_le x
  have h3 := cC_le (prgO L)
  have h4 := cC_eq (prgO L)
  have h5 := prgO_w L
  with_reducible repeat' (first | apply And.intro | exact zR | (intro; skip) | apply c_szUnitS | apply c_toUnitS | apply c_eqUnitS | apply c_sPrgOf | apply c_iPrgOf | apply c_eqCore | apply c_markUnitS | apply c_markCore | apply c_heldCore)
  all_goals (try simp only [std, stdM, inj] at *)
  all_goals with_reducible repeat' apply And.intro
  all_goals (try (first | with_reducible apply c_szUnitS | with_reducible apply c_toUnitS | with_reducible apply c_eqUnitS | with_reducible apply c_sPrgOf | with_reducible apply c_iPrgOf | with_reducible apply c_eqCore | with_reducible apply c_markUnitS | with_reducible apply c_markCore | with_reducible apply c_heldCore | (simp only [← List.map_append]; first | with_reducible apply c_szUnitS | with_reducible apply c_toUnitS | with_reducible apply c_eqUnitS | with_reducible apply c_sPrgOf | with_reducible apply c_iPrgOf | with_reducible apply c_eqCore | with_reducible apply c_markUnitS | with_reducible apply c_markCore | with_reducible apply c_heldCore)))
  all_goals (try (first | exact z | ((first | refine rowGet ?_ | refine getC ?_ rfl); (first | omega | (simp only [std, stdM]; omega) | grind)) | (refine set_row ?_; (simp only [List.length_map, List.length_set, mkTo_len]; omega)) | (refine mkToRow ?_; (first | omega | (simp only [std, stdM]; omega) | grind)) | (refine mkTo_row ?_ rfl; (first | omega | (simp only [std, stdM]; omega) | grind)) | (refine mkTo_step ?_ ?_; (first | omega | (simp only [std, stdM]; omega) | grind); (first | grind [sz, seqM_idem, seqM_len, sum_seqM, snocI, snocS, rowSnoc])) | grind [sz, seqM_idem, seqM_len, sum_seqM, snocI, snocS, rowSnoc])))
end Go.Proofs.YtpnaoendfpaodaaGreat
end
section
namespace Go.Proofs.YtpnaoendfpaodaaGreat.fnExactProgramOf
open Go Go.ChangeShapes Go.WideShapes Go.ChangeAt Go.RowKit Go.Proofs.YtpnaoendfpaodaaGreat.Ab
set_option linter.unusedVariables false
theorem own : ownKnob Tryz.prog.godebug = none := by kernel_rfl
theorem laid : laidOutB Tryz.prog = true := by kernel_rfl
theorem rowed : mapsRowed Tryz.prog = true := by kernel_rfl
theorem sized : ((List.range Tryz.prog.types.size).all fun t => match Tryz.prog.underlying t with | some (.slice e) => decide (0 < Tryz.prog.cellsOf e) | _ => true) = true := by kernel_rfl
set_option maxRecDepth 100000 in
theorem lifted (os : Os) (started : os.Started) (H : Type) (enc : TypeId × Value → H) :
    ReturnsInHanded {} Tryz.checked os 4 .any (Rows.fnExactProgramOfSpec.pre6 enc Tryz.prog Tryz.f4 Rows.fnExactProgramOfRow.domain false) (Rows.fnExactProgramOfSpec.post enc Tryz.prog Tryz.f4 false true false false) := by
  refine returnsInHanded_of_change (C := Tryz.checked) own started (by kernel_rfl) Tryz.func4
    (ChangeSpec.witness6 (enc := enc) (C := Tryz.checked) false ⟨#[], #[.slice none 0 0], []⟩ 12 (by kernel_rfl) (by kernel_rfl) (by kernel_rfl) (by kernel_rfl)) ?_
  intro W base args ds gs before hval0 hW hcnd _
  have hval : ∀ (j : Nat) t v, Tryz.f4.params[j]? = some t → args[j]? = some v → Value.okWide Tryz.prog W .any base t v := hval0
  have hW' := hW
  obtain ⟨p, q, hA0, hV, rfl, hfz, hnd⟩ := hW
  obtain ⟨rfl, rfl⟩ := trodVars_none hV
  have hA : DataW.TrodAll enc Tryz.prog W 0 (fun _ => true) true Tryz.f4.params.toList args.toList ds p := hA0
  rw [Tryz.params4] at hA hval
  have hA2 := hA
  clear hA0 hval0
  obtain ⟨v0, vs0, d0, ds0, p0, q0, hargs0, rfl, rfl, h0, r0⟩ := trodAll_cons hA
  obtain ⟨rfl, rfl, rfl⟩ := trodAll_nil r0
  obtain rfl : args = #[v0] := by cases args; simp_all
  obtain ⟨a0, c0⟩ := (let ⟨fuel, hf⟩ := h0; rd_slice (C := unitC) Tryz.underlying56 (by rw [show Tryz.prog.cellsOf 128 = 10 from by kernel_rfl]; decide) (fun a => by rw [unitC_eq]; kernel_rfl) (fun m hm cs x h => by obtain ⟨a, ha⟩ := rd_unit m cs x h; exact ⟨a, by rw [unitC_eq]; exact ha⟩) hf)
  have s0 : SVRel W (allI W) (obOf []) (ll (a0.map unitC)) v0 := one_rel (by obtain ⟨_, _, _, rfl⟩ := okWide_slice Tryz.underlying56 (hval 0 56 v0 rfl rfl); rfl) c0
  refine (CallOK.kept (w := W) (vals := #[v0]) (c_LPrg a0) ⟨s0, trivial⟩).mono fun e W' ⟨he, hg, _⟩ => ?_
  subst he
  exact ⟨_, rfl, post_of_kept (pv := []) hW' (fun _ _ _ => (trodAll_cons_mk (shut_bool Tryz.underlying4 _) trodAll_mk0))
    (fun sp hsp => trodAll_kept laid rowed sized hg (by decide +kernel) hA2 fun y hy => hsp y (by simpa using hy)) (fun _ _ => rfl) rfl
    hg (ok_one (by kernel_rfl) rfl (okWide_bool_mk Tryz.underlying4 _))⟩
set_option maxRecDepth 100000 in
set_option maxHeartbeats 0 in
theorem facts : joinedFacts Tryz.pinned.checked.prog 4 Tryz.f4 Rows.fnExactProgramOfSpec Rows.fnExactProgramOfRow = true := by
  delta joinedFacts
  with_reducible repeat' apply and_i
  all_goals (first | with_reducible exact enters | (rw [makes]; kernel_rfl) | (rw [lifts]; kernel_rfl) | decide +kernel)
theorem over : Rows.fnExactProgramOfRow.holds Tryz.pinned (OpenSpec.ofChange Rows.fnExactProgramOfSpec) :=
  OpenClaim.holds_of_wide 4 Tryz.f4 rfl rfl rfl rfl rfl rfl rfl ⟨rfl, rfl, rfl, rfl, rfl⟩ rfl rfl rfl rfl rfl (by kernel_rfl) Tryz.func4 facts
    (of_decide_eq_true (by kernel_rfl)) (by unfold Func.isWrapper; first | (rw [if_pos (by decide +kernel)]; kernel_rfl) | (rw [if_neg (by decide +kernel)]; exact ⟨rfl, rfl⟩))
    (fun os started H enc _ => lifted os started H enc)
theorem proved : Rows.FnExactProgramOfSaid :=
  over
end Go.Proofs.YtpnaoendfpaodaaGreat.fnExactProgramOf
end
