/- The program's UnparseCore returns what the reference's returns, for all arguments. No condition. No condition. -/
import Derived.Test.YtpflccjienojfaaDoorUnC1
import Derived.Test.YtpflccjienojfaaDoorCards
import Derived.Test.YtpflccjienojfaaDoorTie
import Derived.Deep.DeepHandedRow
import Derived.Lib.LaidTab
import Derived.Stop.LaidErr
section
namespace Go.Proofs.YtpflccjienojfaaDoor
open Go Go.Proofs.YtpflccjienojfaaDoor.Ab
set_option linter.unusedVariables false
set_option linter.unusedSimpArgs false
set_option maxHeartbeats 4000000
abbrev P_c_markIntS (L : List Int) (n : Int) : Ct := ⟨52, [.arr true 1 (L.map intC)], [.one (.ref 0), li n], [.arr true 1 ((seqM mkI cOne L n).map intC)], .sv (li (n + L.length))⟩
def lc_markIntSLa (L : List Int) (n : Int) : Lp Nat := .mk 19 1 (fun x => [(0, SV.one (AC.ref 0)), (1, hs x 1), (5, hs x 0)]) (fun x => [ho x 2]) (fun k => [.s (li (↑k : Int)), .s
 (li (n + (↑k : Int))), .o (Ob.arr true 1 (List.map intC (mkTo mkI cOne L n k)))]) (fun k => k ≤ L.length ∧ L.length ≤ 9223372036854775807) (fun k => L.length - k) [.mk True (.exit
 0) (fun x => [(1, hs x 0)]) (fun x => [ho x 1]) [.s (li (n + (↑L.length : Int))), .o (Ob.arr true 1 (List.map intC (seqM mkI cOne L n)))]]
theorem Sc_markIntSLa (L : List Int) (n : Int) (h0 : 0 ≤ n) (h : n + (↑L.length : Int) ≤ 100000000000000) : Lp.Sem Tryd.prog (loopAt Tryd.f52 0) (lc_markIntSLa L n) := lpOK (fun k
 => .z intC (mkTo mkI cOne L n k) (.i ((↑k : Int) < (↑(List.map intC (mkTo mkI cOne L n k)).length : Int)) (.p (0 ≤ (↑k : Int) ∧ (↑k : Int).toNat < (List.map intC (mkTo mkI cOne L
 n k)).length) (.w (.cells (intC (L.getD (↑k : Int).toNat default))) (.p ((List.map intC (mkTo mkI cOne L n k))[(↑k : Int).toNat]? = some [cI (L.getD (↑k : Int).toNat 0)]) (.r (n +
 (↑k : Int) + 1) (.r ((↑k : Int) + 1) (.g [0] (k + 1) [.s (li ((↑k : Int) + 1)), .s (li (n + (↑k : Int) + 1)), .o (Ob.arr true 1 ((List.map intC (mkTo mkI cOne L n k)).set (↑k :
 Int).toNat [cI (n + (↑k : Int))]))])))))) (.o 0 [0] [.s (li (n + (↑k : Int))), .o (Ob.arr true 1 (List.map intC (mkTo mkI cOne L n k)))]))) (by
  intro k h; try dsimp only [teasy, nthW, lc_markIntSLa] at h ⊢
  with_reducible repeat' (first | apply And.intro | exact zR | (intro; skip))
  all_goals (try simp only [std, stdM, inj] at *)
  all_goals with_reducible repeat' apply And.intro
  all_goals (try (first | exact z | ((first | refine rowGet ?_ | refine getC ?_ rfl); (first | omega | (simp only [std, stdM]; omega) | grind)) | (refine set_row ?_; (simp only [List.length_map, List.length_set, mkTo_len]; omega)) | (refine mkToRow ?_; (first | omega | (simp only [std, stdM]; omega) | grind)) | (refine mkTo_row ?_ rfl; (first | omega | (simp only [std, stdM]; omega) | grind)) | (refine mkTo_step ?_ ?_; (first | omega | (simp only [std, stdM]; omega) | grind); (first | grind [mkTo_all, mkI, cOne_take, intC, mkTo_get, snocI, snocS, rowSnoc])) | grind [mkTo_all, mkI, cOne_take, intC, mkTo_get, snocI, snocS, rowSnoc])))
theorem c_markIntS (L : List Int) (n : Int) (h0 : 0 ≤ n) (h : n + L.length ≤ 100000000000000)  : P_c_markIntS L n := fnOK Tryd.call52 Tryd.func52 (.l (lc_markIntSLa L n)
 (Sc_markIntSLa L n h0 h) [0] [.s (li 0), .s (li n), .o (Ob.arr true 1 (List.map intC L))] 0 (.t (.f [] [Ob.arr true 1 (List.map intC (seqM mkI cOne L n))] (AV.sv (li (n +
 (↑L.length : Int))))) .q)) (by
  dsimp only [teasy, P_c_markIntS, nthW, lc_markIntSLa]
  with_reducible repeat' (first | apply And.intro | exact zR | (intro; skip))
  all_goals (try simp only [std, stdM, inj] at *)
  all_goals with_reducible repeat' apply And.intro
  all_goals (try (first | exact z | ((first | refine rowGet ?_ | refine getC ?_ rfl); (first | omega | (simp only [std, stdM]; omega) | grind)) | (refine set_row ?_; (simp only [List.length_map, List.length_set, mkTo_len]; omega)) | (refine mkToRow ?_; (first | omega | (simp only [std, stdM]; omega) | grind)) | (refine mkTo_row ?_ rfl; (first | omega | (simp only [std, stdM]; omega) | grind)) | (refine mkTo_step ?_ ?_; (first | omega | (simp only [std, stdM]; omega) | grind); (first | grind [mkTo_zero, snocI, snocS, rowSnoc])) | grind [mkTo_zero, snocI, snocS, rowSnoc])))
abbrev P_c_markText (n : Int) : Ct := ⟨93, [], [li n], [], .sv (ls (mText n))⟩
def lc_markTextLa (n : Int) : Lp (Int × List UInt8) := .mk 20 0 (fun x => [(0, hs x 0), (3, hs x 1)]) (fun x => []) (fun k => [.s (li k.fst), .s (ls (mkS k.snd))]) (fun k => 0 ≤
 k.fst ∧ k.fst ≤ n ∧ digs k.fst.toNat ++ k.snd = digs n.toNat) (fun k => k.fst.toNat) [.mk True (.exit 0) (fun x => [(3, hs x 0)]) (fun x => []) [.s (ls (mkS (digs n.toNat)))]]
theorem Sc_markTextLa (n : Int) (h0 : 0 ≤ n) (h : n ≤ 100000000000000) : Lp.Sem Tryd.prog (loopAt Tryd.f93 0) (lc_markTextLa n) := lpOK (fun k => .i (0 < k.fst) (.p ((10 : Int) ≠
 0) (.r (48 + k.fst.tmod 10) (.p (rng IntKind.u8 (48 + k.fst.tmod 10)) (.w (.bytes [UInt8.ofNat (48 + k.fst.tmod 10).toNat]) (.p ([[Cell.lit (Value.int IntKind.u8 (48 + k.fst.tmod
 10))]] = [[Cell.lit (Value.int IntKind.u8 (↑(UInt8.ofNat (48 + k.fst.tmod 10).toNat).toNat : Int))]]) (.p (1 + k.snd.length ≤ 9223372036854775807) (.p ((10 : Int) ≠ 0) (.r
 (k.fst.tdiv 10) (.g [] (k.fst.tdiv 10, [UInt8.ofNat (48 + k.fst.tmod 10).toNat] ++ k.snd) [.s (li (k.fst.tdiv 10)), .s (ls (ByteArray.mk ([UInt8.ofNat (48 + k.fst.tmod 10).toNat]
 ++ k.snd).toArray))]))))))))) (.o 0 [] [.s (ls (mkS k.snd))])) (by
  intro k h; try dsimp only [teasy, nthW, lc_markTextLa] at h ⊢
  obtain ⟨i, l⟩ := k
  simp only at *
  obtain ⟨g1, g2, g3⟩ := h
  have g4 : l.length ≤ 100000000000000 := by
    have := congrArg List.length g3
    have := digs_len n.toNat
    simp only [List.length_append] at *
    omega
  simp only [Int.tmod_eq_emod_of_nonneg g1, Int.tdiv_eq_ediv_of_nonneg g1]
  refine ⟨fun g => ?_, fun g => ?_⟩
  · refine ⟨by decide, by rw [rng64]; omega, by rw [rngu8]; omega, by rw [u8_int (by omega) (by omega)], by omega, by decide, by rw [rng64]; omega, by omega, rfl, ?_⟩
    exact ⟨by show 0 ≤ i / 10; omega, by show i / 10 ≤ n; omega, by show digs (i / 10).toNat ++ ([_] ++ l) = _; rw [← g3, digs_int g, List.append_assoc]⟩
  · refine ⟨trivial, ?_⟩
    have e : i = 0 := by omega
    subst e
    rw [show digs (0 : Int).toNat = [] from digs_zero] at g3
    rw [← g3]; rfl)
theorem c_markText (n : Int) (h0 : 0 ≤ n) (h : n ≤ 100000000000000)  : P_c_markText n := fnOK Tryd.call93 Tryd.func93 (.i (n ≤ 0) (.s (ls (ByteArray.mk #[(109 : UInt8), (48 :
 UInt8)]))) (.l (lc_markTextLa n) (Sc_markTextLa n h0 h) [] [.s (li n), .s (ls (ByteArray.mk #[]))] (n, []) (.t (.p (1 + (digs n.toNat).length ≤ 9223372036854775807) (.s (ls
 (ByteArray.mk ([(109 : UInt8)] ++ digs n.toNat).toArray)))) .q))) (by
  dsimp only [teasy, P_c_markText, nthW, lc_markTextLa]
  have g := digs_len n.toNat
  simp only [mText]
  with_reducible repeat' (first | apply And.intro | exact zR | (intro; skip))
  all_goals (try simp only [std, stdM, inj] at *)
  all_goals with_reducible repeat' apply And.intro
  all_goals (try (first | exact z | ((first | refine rowGet ?_ | refine getC ?_ rfl); (first | omega | (simp only [std, stdM]; omega) | grind)) | (refine set_row ?_; (simp only [List.length_map, List.length_set, mkTo_len]; omega)) | (refine mkToRow ?_; (first | omega | (simp only [std, stdM]; omega) | grind)) | (refine mkTo_row ?_ rfl; (first | omega | (simp only [std, stdM]; omega) | grind)) | (refine mkTo_step ?_ ?_; (first | omega | (simp only [std, stdM]; omega) | grind); (first | grind [mkS, snocI, snocS, rowSnoc])) | grind [mkS, snocI, snocS, rowSnoc])))
abbrev P_c_markDatumS (x : Datum) (n : Int) : Ct := ⟨54, [.arr true 4 (x.items.map datumC)], [.one (.ref 0), li n], [.arr true 4 ((seqM mkD cD x.items n).map datumC)], .sv (li (n + sumBy cD x.items))⟩
def lc_markDatumS_sLa (x : Datum) (n : Int) : Lp Nat := .mk 42 1 (fun x => [(0, SV.one (AC.ref 0)), (1, hs x 1), (5, hs x 0)]) (fun x => [ho x 2]) (fun k => [.s (li (↑k : Int)), .s
 (li (n + (↑(sumBy cD (List.take k x.items)) : Int))), .o (Ob.arr true 4 (List.map datumC (mkTo mkD cD x.items n k)))]) (fun k => k ≤ x.items.length ∧ x.items.length ≤
 9223372036854775807) (fun k => x.items.length - k) [.mk True (.exit 0) (fun x => [(1, hs x 0)]) (fun x => [ho x 1]) [.s (li (n + (↑(sumBy cD x.items) : Int))), .o (Ob.arr true 4
 (List.map datumC (seqM mkD cD x.items n)))]]
theorem Sc_markDatumS_sLa (x : Datum) (n : Int) (h0 : 0 ≤ n) (h : n + (↑(sumBy cD x.items) : Int) ≤ 100000000000000) (ih : ∀ (z : Datum), z ∈ x.items → ∀ (n : Int), 0 ≤ n → n +
 (↑(sumBy cD z.items) : Int) ≤ 100000000000000 → OK (P_c_markDatumS z n)) : Lp.Sem Tryd.prog (loopAt Tryd.f54 0) (lc_markDatumS_sLa x n) := lpOK (fun k => let v1 := (↑(sumBy cD
 (List.take k x.items)) : Int); let v2 := (x.items.getD (↑k : Int).toNat default); let v3 := (List.map datumC (mkTo mkD cD x.items n k)); let v10 := (n + v1 + 1 + 1); let v8 :=
 (List.map datumC v2.items); let v4 := [cI (n + v1), cI (n + v1 + 1), cS (mText v10), Cell.list v8]; let v5 := [cI (n + v1), cI (n + v1 + 1), cS v2.text, Cell.list v8]; let v6 :=
 [cI (n + v1), cI v2.number, cS v2.text, Cell.list v8]; let v7 := (n + v1 + 1 + 1 + 1); let v9 := (v3.set (↑k : Int).toNat v4); .z datumC (mkTo mkD cD x.items n k) (.i ((↑k : Int)
 < (↑(List.map datumC (mkTo mkD cD x.items n k)).length : Int)) (.p (0 ≤ (↑k : Int) ∧ (↑k : Int).toNat < v3.length) (.w (.cells (datumF v2)) (.p (v3[(↑k : Int).toNat]? = some
 (datumF v2)) (.r (n + v1 + 1) (.p (0 ≤ (↑k : Int) ∧ (↑k : Int).toNat < (v3.set (↑k : Int).toNat v6).length) (.w (.take v6 (v3.set (↑k : Int).toNat v5) 0) (.p ((v3.set (↑k :
 Int).toNat v6)[(↑k : Int).toNat]? = some v6) (.p ((v3.set (↑k : Int).toNat v6).set (↑k : Int).toNat v5 = v3.set (↑k : Int).toNat v5) (.r v10 (.d [.rd] (P_c_markText v10) (.p (0 ≤
 (↑k : Int) ∧ (↑k : Int).toNat < (v3.set (↑k : Int).toNat v5).length) (.w (.take v5 v9 0) (.p ((v3.set (↑k : Int).toNat v5)[(↑k : Int).toNat]? = some v5) (.p ((v3.set (↑k :
 Int).toNat v5).set (↑k : Int).toNat v4 = v3.set (↑k : Int).toNat v4) (.r v7 (.p (0 ≤ (↑k : Int) ∧ (↑k : Int).toNat < v9.length) (.w .sub (.p ((↑k : Int).toNat < v9.length) (.w
 (.subcall v4 v8 4) (.u [.own true 4, .rd] (P_c_markDatumS v2 v7) (.p (v9[(↑k : Int).toNat]? = some v4) (.p (some (Cell.list v8) = some (Cell.list v8)) (.p (∀ (x_1 : List Cell),
 x_1 ∈ List.map datumC v2.items → x_1.length = 4) (.p (OK (P_c_markDatumS v2 v7)) (.r ((↑k : Int) + 1) (.g [0] (k + 1) [.s (li ((↑k : Int) + 1)), .s (li (n + v1 + 1 + 1 + 1 +
 (↑(sumBy cD v2.items) : Int))), .o (Ob.arr true 4 (v9.set (↑k : Int).toNat [cI (n + v1), cI (n + v1 + 1), cS (mText v10), Cell.list (List.map datumC (seqM mkD cD v2.items
 v7))]))])))))))))))))))))))))))))) (.o 0 [0] [.s (li (n + v1)), .o (Ob.arr true 4 v3)]))) (by
  intro k h; try dsimp only [teasy, nthW, lc_markDatumS_sLa] at h ⊢
  have g0 := sumBy_takeLe cD x.items (k + 1)
  with_reducible repeat' (first | apply And.intro | exact zR | exact ih | (intro; skip) | apply c_markText | apply ih)
  all_goals (try simp only [std, stdM, inj] at *)
  all_goals with_reducible repeat' apply And.intro
  all_goals (try (first | with_reducible apply c_markText | with_reducible apply ih | (simp only [← List.map_append]; first | with_reducible apply c_markText | with_reducible apply ih)))
  all_goals (try (first | exact z | ((first | refine rowGet ?_ | refine getC ?_ rfl); (first | omega | (simp only [std, stdM]; omega) | grind)) | (refine set_row ?_; (simp only [List.length_map, List.length_set, mkTo_len]; omega)) | (refine mkToRow ?_; (first | omega | (simp only [std, stdM]; omega) | grind)) | (refine mkTo_row ?_ rfl; (first | omega | (simp only [std, stdM]; omega) | grind)) | (refine mkTo_step ?_ ?_; (first | omega | (simp only [std, stdM]; omega) | grind); (first | exact mkD_C _ _ | grind [sumBy_step, getD_mem', cD_eq, mkD_C, mkTo_all, snocI, snocS, rowSnoc])) | grind [sumBy_step, getD_mem', cD_eq, mkD_C, mkTo_all, snocI, snocS, rowSnoc])))
theorem c_markDatumS_s (x : Datum) (n : Int) (h0 : 0 ≤ n) (h : n + sumBy cD x.items ≤ 100000000000000) (ih : ∀ z ∈ x.items, ∀ (n : Int) (h0 : 0 ≤ n) (h : n + sumBy cD z.items ≤
 100000000000000), P_c_markDatumS z n)  : P_c_markDatumS x n := fnOK Tryd.call54 Tryd.func54 (.l (lc_markDatumS_sLa x n) (Sc_markDatumS_sLa x n h0 h ih) [0] [.s (li 0), .s (li n), .o
 (Ob.arr true 4 (List.map datumC x.items))] 0 (.t (.f [] [Ob.arr true 4 (List.map datumC (seqM mkD cD x.items n))] (AV.sv (li (n + (↑(sumBy cD x.items) : Int))))) .q)) (by
  dsimp only [teasy, P_c_markDatumS, nthW, lc_markDatumS_sLa]
  have gl := cD_len x.items
  with_reducible repeat' (first | apply And.intro | exact zR | exact ih | (intro; skip) | apply c_markText)
  all_goals (try simp only [std, stdM, inj] at *)
  all_goals with_reducible repeat' apply And.intro
  all_goals (try (first | with_reducible apply c_markText | with_reducible apply ih | (simp only [← List.map_append]; first | with_reducible apply c_markText | with_reducible apply ih)))
  all_goals (try (first | exact z | ((first | refine rowGet ?_ | refine getC ?_ rfl); (first | omega | (simp only [std, stdM]; omega) | grind)) | (refine set_row ?_; (simp only [List.length_map, List.length_set, mkTo_len]; omega)) | (refine mkToRow ?_; (first | omega | (simp only [std, stdM]; omega) | grind)) | (refine mkTo_row ?_ rfl; (first | omega | (simp only [std, stdM]; omega) | grind)) | (refine mkTo_step ?_ ?_; (first | omega | (simp only [std, stdM]; omega) | grind); (first | grind [mkTo_all, snocI, snocS, rowSnoc])) | grind [mkTo_all, snocI, snocS, rowSnoc])))
theorem c_markDatumS (x : Datum) : ∀ (n : Int) (h0 : 0 ≤ n) (h : n + sumBy cD x.items ≤ 100000000000000), P_c_markDatumS x n := Datum.ind (P := fun x => ∀ (n : Int) (h0 : 0 ≤ n) (h : n + sumBy cD x.items ≤ 100000000000000), P_c_markDatumS x n) (fun x ih n h0 h => c_markDatumS_s x n h0 h ih) x
theorem c_markDatumSL (L : List Datum) (n : Int) (h0 : 0 ≤ n) (h : n + sumBy cD L ≤ 100000000000000) : P_c_markDatumS { (default : Datum) with items := L } n := c_markDatumS { (default : Datum) with items := L } n h0 h
abbrev P_c_markDatum (x : Datum) (n : Int) : Ct := ⟨21, [.arr true 4 (x.items.map datumC)], [.agg [vI x.kind, vI x.number, vS x.text, .ref 0], li n], [.arr true 4 ((seqM mkD cD x.items (n)).map datumC)], .sv (li (n + sumBy cD x.items))⟩
theorem c_markDatum (x : Datum) (n : Int) (h0 : 0 ≤ n) (h : n + (sumBy cD x.items : Nat) ≤ 100000000000000)  : P_c_markDatum x n := fnOK Tryd.call21 Tryd.func21 (.d [.own true 4,
 .rd] (P_c_markDatumS x n) (.f [] [Ob.arr true 4 (List.map datumC (seqM mkD cD x.items n))] (AV.sv (li (n + (↑(sumBy cD x.items) : Int)))))) (by
  dsimp only [teasy, P_c_markDatum]
  with_reducible repeat' (first | apply And.intro | exact zR | (intro; skip) | apply c_markDatumS | apply c_markDatumSL)
  all_goals (try simp only [std, stdM, inj] at *)
  all_goals with_reducible repeat' apply And.intro
  all_goals (try (first | with_reducible apply c_markDatumS | with_reducible apply c_markDatumSL | (simp only [← List.map_append]; first | with_reducible apply c_markDatumS | with_reducible apply c_markDatumSL)))
  all_goals (try (first | exact z | ((first | refine rowGet ?_ | refine getC ?_ rfl); (first | omega | (simp only [std, stdM]; omega) | grind)) | (refine set_row ?_; (simp only [List.length_map, List.length_set, mkTo_len]; omega)) | (refine mkToRow ?_; (first | omega | (simp only [std, stdM]; omega) | grind)) | (refine mkTo_row ?_ rfl; (first | omega | (simp only [std, stdM]; omega) | grind)) | (refine mkTo_step ?_ ?_; (first | omega | (simp only [std, stdM]; omega) | grind); (first | grind [snocI, snocS, rowSnoc])) | grind [snocI, snocS, rowSnoc])))
abbrev P_c_markCoreS (x : Core) (n : Int) : Ct := ⟨53, [.arr true 8 (x.kids.map coreC)], [.one (.ref 0), li n], [.arr true 8 ((seqM mkC cC x.kids n).map coreC)], .sv (li (n + sumBy cC x.kids))⟩
def lc_markCoreS_sLa (x : Core) (n : Int) : Lp Nat := .mk 74 1 (fun x => [(0, SV.one (AC.ref 0)), (1, hs x 1), (5, hs x 0)]) (fun x => [ho x 2]) (fun k => [.s (li (↑k : Int)), .s
 (li (n + (↑(sumBy cC (List.take k x.kids)) : Int))), .o (Ob.arr true 8 (List.map coreC (mkTo mkC cC x.kids n k)))]) (fun k => k ≤ x.kids.length ∧ x.kids.length ≤
 9223372036854775807) (fun k => x.kids.length - k) [.mk True (.exit 0) (fun x => [(1, hs x 0)]) (fun x => [ho x 1]) [.s (li (n + (↑(sumBy cC x.kids) : Int))), .o (Ob.arr true 8
 (List.map coreC (seqM mkC cC x.kids n)))]]
theorem Sc_markCoreS_sLa (x : Core) (n : Int) (h0 : 0 ≤ n) (h : n + (↑(sumBy cC x.kids) : Int) ≤ 100000000000000) (ih : ∀ (z : Core), z ∈ x.kids → ∀ (n : Int), 0 ≤ n → n + (↑(sumBy
 cC z.kids) : Int) ≤ 100000000000000 → OK (P_c_markCoreS z n)) : Lp.Sem Tryd.prog (loopAt Tryd.f53 0) (lc_markCoreS_sLa x n) := lpOK (fun k => let v8 := (↑(sumBy cC (List.take k
 x.kids)) : Int); let v15 := (n + v8 + 1); let v7 := (x.kids.getD (↑k : Int).toNat default); let v24 := (List.map intC v7.params); let v18 := (List.map datumC v7.datum.items); let
 v21 := (List.map coreC v7.kids); let v1 := [cI (n + v8), cI v15, Cell.list v24, cI v7.datum.kind, cI v7.datum.number, cS v7.datum.text, Cell.list v18, Cell.list v21]; let v23 :=
 (n + v8 + 1 + 1); let v12 := (List.map intC (seqM mkI cOne v7.params v23)); let v10 := (↑(x.kids.getD (↑k : Int).toNat default).params.length : Int); let v22 := (n + v8 + 1 + 1 +
 v10); let v20 := (n + v8 + 1 + 1 + v10 + 1); let v17 := (n + v8 + 1 + 1 + v10 + 1 + 1); let v2 := [cI (n + v8), cI v15, Cell.list v12, cI v22, cI v20, cS (mText v17), Cell.list
 v18, Cell.list v21]; let v3 := [cI (n + v8), cI v15, Cell.list v12, cI v22, cI v20, cS v7.datum.text, Cell.list v18, Cell.list v21]; let v16 := (n + v8 + 1 + 1 + v10 + 1 + 1 + 1);
 let v4 := [cI (n + v8), cI v15, Cell.list v12, cI v22, cI v20, cS (mText v17), Cell.list (List.map datumC (seqM mkD cD v7.datum.items v16)), Cell.list v21]; let v5 := [cI (n +
 v8), cI v15, Cell.list v12, cI v22, cI v7.datum.number, cS v7.datum.text, Cell.list v18, Cell.list v21]; let v6 := [cI (n + v8), cI v15, Cell.list v12, cI v7.datum.kind, cI
 v7.datum.number, cS v7.datum.text, Cell.list v18, Cell.list v21]; let v13 := (List.map coreC (mkTo mkC cC x.kids n k)); let v9 := (v13.set (↑k : Int).toNat v1); let v11 := [cI (n
 + v8), cI v7.number, Cell.list v24, cI v7.datum.kind, cI v7.datum.number, cS v7.datum.text, Cell.list v18, Cell.list v21]; let v14 := (v9.set (↑k : Int).toNat v2); let v19 := (n +
 v8 + 1 + 1 + v10 + 1 + 1 + 1 + (↑(sumBy cD v7.datum.items) : Int)); .z coreC (mkTo mkC cC x.kids n k) (.i ((↑k : Int) < (↑(List.map coreC (mkTo mkC cC x.kids n k)).length : Int))
 (.p (0 ≤ (↑k : Int) ∧ (↑k : Int).toNat < v13.length) (.w (.cells (coreF v7)) (.p (v13[(↑k : Int).toNat]? = some (coreF v7)) (.r v15 (.p (0 ≤ (↑k : Int) ∧ (↑k : Int).toNat <
 (v13.set (↑k : Int).toNat v11).length) (.w (.take v11 v9 0) (.p ((v13.set (↑k : Int).toNat v11)[(↑k : Int).toNat]? = some v11) (.p ((v13.set (↑k : Int).toNat v11).set (↑k :
 Int).toNat v1 = v13.set (↑k : Int).toNat v1) (.r v23 (.p (0 ≤ (↑k : Int) ∧ (↑k : Int).toNat < v9.length) (.w .sub (.p ((↑k : Int).toNat < v9.length) (.w (.subcall v1 v24 1) (.u
 [.own true 1, .rd] (P_c_markIntS v7.params v23) (.p (v9[(↑k : Int).toNat]? = some v1) (.p (some (Cell.list v24) = some (Cell.list v24)) (.p (∀ (x_1 : List Cell), x_1 ∈ List.map
 intC v7.params → x_1.length = 1) (.p (OK (P_c_markIntS v7.params v23)) (.p (0 ≤ (↑k : Int) ∧ (↑k : Int).toNat < (v9.set (↑k : Int).toNat v6).length) (.w (.take v6 (v9.set (↑k :
 Int).toNat v5) 0) (.p ((v9.set (↑k : Int).toNat v6)[(↑k : Int).toNat]? = some v6) (.p ((v9.set (↑k : Int).toNat v6).set (↑k : Int).toNat v5 = v9.set (↑k : Int).toNat v5) (.r v20
 (.p (0 ≤ (↑k : Int) ∧ (↑k : Int).toNat < (v9.set (↑k : Int).toNat v5).length) (.w (.take v5 (v9.set (↑k : Int).toNat v3) 0) (.p ((v9.set (↑k : Int).toNat v5)[(↑k : Int).toNat]? =
 some v5) (.p ((v9.set (↑k : Int).toNat v5).set (↑k : Int).toNat v3 = v9.set (↑k : Int).toNat v3) (.r v17 (.d [.rd] (P_c_markText v17) (.p (0 ≤ (↑k : Int) ∧ (↑k : Int).toNat <
 (v9.set (↑k : Int).toNat v3).length) (.w (.take v3 v14 0) (.p ((v9.set (↑k : Int).toNat v3)[(↑k : Int).toNat]? = some v3) (.p ((v9.set (↑k : Int).toNat v3).set (↑k : Int).toNat v2
 = v9.set (↑k : Int).toNat v2) (.r v16 (.p (0 ≤ (↑k : Int) ∧ (↑k : Int).toNat < v14.length) (.w .sub (.p ((↑k : Int).toNat < v14.length) (.w (.subcall v2 v18 4) (.u [.own true 4,
 .rd] (P_c_markDatumS v7.datum v16) (.p (v14[(↑k : Int).toNat]? = some v2) (.p (some (Cell.list v18) = some (Cell.list v18)) (.p (∀ (x_1 : List Cell), x_1 ∈ List.map datumC
 v7.datum.items → x_1.length = 4) (.p (OK (P_c_markDatumS v7.datum v16)) (.p (0 ≤ (↑k : Int) ∧ (↑k : Int).toNat < (v14.set (↑k : Int).toNat v4).length) (.w .sub (.p ((↑k :
 Int).toNat < (v14.set (↑k : Int).toNat v4).length) (.w (.subcall v4 v21 8) (.u [.own true 8, .rd] (P_c_markCoreS v7 v19) (.p ((v14.set (↑k : Int).toNat v4)[(↑k : Int).toNat]? =
 some v4) (.p (some (Cell.list v21) = some (Cell.list v21)) (.p (∀ (x_1 : List Cell), x_1 ∈ List.map coreC v7.kids → x_1.length = 8) (.p (OK (P_c_markCoreS v7 v19)) (.r ((↑k : Int)
 + 1) (.g [0] (k + 1) [.s (li ((↑k : Int) + 1)), .s (li (n + v8 + 1 + 1 + v10 + 1 + 1 + 1 + (↑(sumBy cD v7.datum.items) : Int) + (↑(sumBy cC v7.kids) : Int))), .o (Ob.arr true 8
 ((v14.set (↑k : Int).toNat v4).set (↑k : Int).toNat [cI (n + v8), cI v15, Cell.list v12, cI v22, cI v20, cS (mText v17), Cell.list (List.map datumC (seqM mkD cD v7.datum.items
 v16)), Cell.list (List.map coreC (seqM mkC cC v7.kids v19))]))])))))))))))))))))))))))))))))))))))))))))))))))))))))) (.o 0 [0] [.s (li (n + v8)), .o (Ob.arr true 8 v13)]))) (by
  intro k h; try dsimp only [teasy, nthW, lc_markCoreS_sLa] at h ⊢
  have g0 := sumBy_takeLe cC x.kids (k + 1)
  with_reducible repeat' (first | apply And.intro | exact zR | exact ih | (intro; skip) | apply c_markIntS | apply c_markText | apply c_markDatumS | apply c_markDatumSL | apply ih)
  all_goals (try simp only [std, stdM, inj] at *)
  all_goals with_reducible repeat' apply And.intro
  all_goals (try (first | with_reducible apply c_markIntS | with_reducible apply c_markText | with_reducible apply c_markDatumS | with_reducible apply c_markDatumSL | with_reducible apply ih | (simp only [← List.map_append]; first | with_reducible apply c_markIntS | with_reducible apply c_markText | with_reducible apply c_markDatumS | with_reducible apply c_markDatumSL | with_reducible apply ih)))
  all_goals (try (first | exact z | ((first | refine rowGet ?_ | refine getC ?_ rfl); (first | omega | (simp only [std, stdM]; omega) | grind)) | (refine set_row ?_; (simp only [List.length_map, List.length_set, mkTo_len]; omega)) | (refine mkToRow ?_; (first | omega | (simp only [std, stdM]; omega) | grind)) | (refine mkTo_row ?_ rfl; (first | omega | (simp only [std, stdM]; omega) | grind)) | (refine mkTo_step ?_ ?_; (first | omega | (simp only [std, stdM]; omega) | grind); (first | exact mkC_C _ _ | grind [sumBy_step, getD_mem', cC_eq, mkC_C, mkTo_all, snocI, snocS, rowSnoc])) | grind [sumBy_step, getD_mem', cC_eq, mkC_C, mkTo_all, snocI, snocS, rowSnoc])))
theorem c_markCoreS_s (x : Core) (n : Int) (h0 : 0 ≤ n) (h : n + sumBy cC x.kids ≤ 100000000000000) (ih : ∀ z ∈ x.kids, ∀ (n : Int) (h0 : 0 ≤ n) (h : n + sumBy cC z.kids ≤
 100000000000000), P_c_markCoreS z n)  : P_c_markCoreS x n := fnOK Tryd.call53 Tryd.func53 (.l (lc_markCoreS_sLa x n) (Sc_markCoreS_sLa x n h0 h ih) [0] [.s (li 0), .s (li n), .o
 (Ob.arr true 8 (List.map coreC x.kids))] 0 (.t (.f [] [Ob.arr true 8 (List.map coreC (seqM mkC cC x.kids n))] (AV.sv (li (n + (↑(sumBy cC x.kids) : Int))))) .q)) (by
  dsimp only [teasy, P_c_markCoreS, nthW, lc_markCoreS_sLa]
  have gl := cC_len x.kids
  with_reducible repeat' (first | apply And.intro | exact zR | exact ih | (intro; skip) | apply c_markIntS | apply c_markText | apply c_markDatumS | apply c_markDatumSL)
  all_goals (try simp only [std, stdM, inj] at *)
  all_goals with_reducible repeat' apply And.intro
  all_goals (try (first | with_reducible apply c_markIntS | with_reducible apply c_markText | with_reducible apply c_markDatumS | with_reducible apply c_markDatumSL | with_reducible apply ih | (simp only [← List.map_append]; first | with_reducible apply c_markIntS | with_reducible apply c_markText | with_reducible apply c_markDatumS | with_reducible apply c_markDatumSL | with_reducible apply ih)))
  all_goals (try (first | exact z | ((first | refine rowGet ?_ | refine getC ?_ rfl); (first | omega | (simp only [std, stdM]; omega) | grind)) | (refine set_row ?_; (simp only [List.length_map, List.length_set, mkTo_len]; omega)) | (refine mkToRow ?_; (first | omega | (simp only [std, stdM]; omega) | grind)) | (refine mkTo_row ?_ rfl; (first | omega | (simp only [std, stdM]; omega) | grind)) | (refine mkTo_step ?_ ?_; (first | omega | (simp only [std, stdM]; omega) | grind); (first | grind [mkTo_all, snocI, snocS, rowSnoc])) | grind [mkTo_all, snocI, snocS, rowSnoc])))
theorem c_markCoreS (x : Core) : ∀ (n : Int) (h0 : 0 ≤ n) (h : n + sumBy cC x.kids ≤ 100000000000000), P_c_markCoreS x n := Core.ind (P := fun x => ∀ (n : Int) (h0 : 0 ≤ n) (h : n + sumBy cC x.kids ≤ 100000000000000), P_c_markCoreS x n) (fun x ih n h0 h => c_markCoreS_s x n h0 h ih) x
theorem c_markCoreSL (L : List Core) (n : Int) (h0 : 0 ≤ n) (h : n + sumBy cC L ≤ 100000000000000) : P_c_markCoreS { (default : Core) with kids := L } n := c_markCoreS { (default : Core) with kids := L } n h0 h
abbrev P_c_markCore (x : Core) (n : Int) : Ct := ⟨20, [.arr true 1 (x.params.map intC), .arr true 4 (x.datum.items.map datumC), .arr true 8 (x.kids.map coreC)], [.agg [vI x.kind, vI x.number, .ref 0, vI x.datum.kind, vI x.datum.number, vS x.datum.text, .ref 1, .ref 2], li n], [.arr true 1 ((seqM mkI cOne x.params (n)).map intC), .arr true 4 ((seqM mkD cD x.datum.items (n + x.params.length)).map datumC), .arr true 8 ((seqM mkC cC x.kids (n + x.params.length + sumBy cD x.datum.items)).map coreC)], .sv (li (n + x.params.length + sumBy cD x.datum.items + sumBy cC x.kids))⟩
theorem c_markCore (x : Core) (n : Int) (h0 : 0 ≤ n) (h : n + (x.params.length + sumBy cD x.datum.items + sumBy cC x.kids : Nat) ≤ 100000000000000)  : P_c_markCore x n := fnOK
 Tryd.call20 Tryd.func20 (.d [.own true 1, .rd] (P_c_markIntS x.params n) (.d [.agg [none, none, none, some (true, 4)], .rd] (P_c_markDatum x.datum (n + (↑x.params.length : Int)))
 (.d [.own true 8, .rd] (P_c_markCoreS x (n + (↑x.params.length : Int) + (↑(sumBy cD x.datum.items) : Int))) (.f [] [Ob.arr true 1 (List.map intC (seqM mkI cOne x.params n)),
 Ob.arr true 4 (List.map datumC (seqM mkD cD x.datum.items (n + (↑x.params.length : Int)))), Ob.arr true 8 (List.map coreC (seqM mkC cC x.kids (n + (↑x.params.length : Int) +
 (↑(sumBy cD x.datum.items) : Int))))] (AV.sv (li (n + (↑x.params.length : Int) + (↑(sumBy cD x.datum.items) : Int) + (↑(sumBy cC x.kids) : Int)))))))) (by
  dsimp only [teasy, P_c_markCore]
  with_reducible repeat' (first | apply And.intro | exact zR | (intro; skip) | apply c_markIntS | apply c_markDatum | apply c_markCoreS | apply c_markCoreSL)
  all_goals (try simp only [std, stdM, inj] at *)
  all_goals with_reducible repeat' apply And.intro
  all_goals (try (first | with_reducible apply c_markIntS | with_reducible apply c_markDatum | with_reducible apply c_markCoreS | with_reducible apply c_markCoreSL | (simp only [← List.map_append]; first | with_reducible apply c_markIntS | with_reducible apply c_markDatum | with_reducible apply c_markCoreS | with_reducible apply c_markCoreSL)))
  all_goals (try (first | exact z | ((first | refine rowGet ?_ | refine getC ?_ rfl); (first | omega | (simp only [std, stdM]; omega) | grind)) | (refine set_row ?_; (simp only [List.length_map, List.length_set, mkTo_len]; omega)) | (refine mkToRow ?_; (first | omega | (simp only [std, stdM]; omega) | grind)) | (refine mkTo_row ?_ rfl; (first | omega | (simp only [std, stdM]; omega) | grind)) | (refine mkTo_step ?_ ?_; (first | omega | (simp only [std, stdM]; omega) | grind); (first | grind [snocI, snocS, rowSnoc])) | grind [snocI, snocS, rowSnoc])))
end Go.Proofs.YtpflccjienojfaaDoor
end
section
namespace Go.Proofs.YtpflccjienojfaaDoor
open Go Go.Proofs.YtpflccjienojfaaDoor.Ab
set_option linter.unusedVariables false
set_option linter.unusedSimpArgs false
set_option maxHeartbeats 4000000
abbrev P_c_heldDatumS (x : Datum) (n : Int) : Ct := ⟨55, [], [ll (x.items.map datumC), li n], [], .sv (li (n + sumBy cD x.items))⟩
def lc_heldDatumS_sLa (x : Datum) (n : Int) : Lp Nat := .mk 50 0 (fun x_1 => [(0, ll (List.map datumC x.items)), (1, hs x_1 1), (5, hs x_1 0)]) (fun x => []) (fun k => [.s (li (↑k
 : Int)), .s (li (n + (↑(sumBy cD (List.take k x.items)) : Int)))]) (fun k => k ≤ x.items.length ∧ x.items.length ≤ 9223372036854775807) (fun k => x.items.length - k) [.mk True
 (.exit 0) (fun x => [(1, hs x 0)]) (fun x => []) [.s (li (n + (↑(sumBy cD x.items) : Int)))], .mk False .ret (fun x => [(4, hs x 0)]) (fun x => []) [.s (li (-1 : Int))]]
theorem Sc_heldDatumS_sLa (x : Datum) (n : Int) (h0 : 0 ≤ n) (h : n + (↑(sumBy cD x.items) : Int) ≤ 100000000000000) (hm : seqM mkD cD x.items n = x.items) (ih : ∀ (z : Datum), z ∈
 x.items → ∀ (n : Int), 0 ≤ n → n + (↑(sumBy cD z.items) : Int) ≤ 100000000000000 → seqM mkD cD z.items n = z.items → OK (P_c_heldDatumS z n)) : Lp.Sem Tryd.prog (loopAt Tryd.f55
 0) (lc_heldDatumS_sLa x n) := lpOK (fun k => .z datumC x.items (.i ((↑k : Int) < (↑(List.map datumC x.items).length : Int)) (.x (↑k : Int) (List.map datumC x.items) (datumF
 (x.items.getD k default)) (.i ((x.items.getD k default).kind ≠ n + (↑(sumBy cD (List.take k x.items)) : Int)) (.o 1 [] [.s (li (-1 : Int))]) (.r (n + (↑(sumBy cD (List.take k
 x.items)) : Int) + 1) (.x (↑k : Int) (List.map datumC x.items) (datumF (x.items.getD k default)) (.i ((x.items.getD k default).number ≠ n + (↑(sumBy cD (List.take k x.items)) :
 Int) + 1) (.o 1 [] [.s (li (-1 : Int))]) (.r (n + (↑(sumBy cD (List.take k x.items)) : Int) + 1 + 1) (.w (.draw []) (.x (↑k : Int) (List.map datumC x.items) (datumF (x.items.getD
 k default)) (.d [.rd] (P_c_markText (n + (↑(sumBy cD (List.take k x.items)) : Int) + 1 + 1)) (.i ((x.items.getD k default).text.data.toList ≠ (mText (n + (↑(sumBy cD (List.take k
 x.items)) : Int) + 1 + 1)).data.toList) (.o 1 [] [.s (li (-1 : Int))]) (.r (n + (↑(sumBy cD (List.take k x.items)) : Int) + 1 + 1 + 1) (.x (↑k : Int) (List.map datumC x.items)
 (datumF (x.items.getD k default)) (.d [.rd, .rd] (P_c_heldDatumS (x.items.getD k default) (n + (↑(sumBy cD (List.take k x.items)) : Int) + 1 + 1 + 1)) (.i (n + (↑(sumBy cD
 (List.take k x.items)) : Int) + 1 + 1 + 1 + (↑(sumBy cD (x.items.getD k default).items) : Int) < 0) (.o 1 [] [.s (li (-1 : Int))]) (.r ((↑k : Int) + 1) (.g [] (k + 1) [.s (li ((↑k
 : Int) + 1)), .s (li (n + (↑(sumBy cD (List.take k x.items)) : Int) + 1 + 1 + 1 + (↑(sumBy cD (x.items.getD k default).items) : Int)))])))))))))))))))) (.o 0 [] [.s (li (n +
 (↑(sumBy cD (List.take k x.items)) : Int)))]))) (by
  intro k h; try dsimp only [teasy, nthW, lc_heldDatumS_sLa] at h ⊢
  have g0 := sumBy_takeLe cD x.items (k + 1)
  have g1 := fun hk : k < x.items.length => mkD_fix (seqM_get hm hk)
  with_reducible repeat' (first | apply And.intro | exact zR | exact ih | (intro; skip) | apply c_markText | apply ih)
  all_goals (try simp only [std, stdM, inj] at *)
  all_goals with_reducible repeat' apply And.intro
  all_goals (try (first | with_reducible apply c_markText | with_reducible apply ih | (simp only [← List.map_append]; first | with_reducible apply c_markText | with_reducible apply ih)))
  all_goals (try (first | exact z | ((first | refine rowGet ?_ | refine getC ?_ rfl); (first | omega | (simp only [std, stdM]; omega) | grind)) | (refine set_row ?_; (simp only [List.length_map, List.length_set, mkTo_len]; omega)) | (refine mkToRow ?_; (first | omega | (simp only [std, stdM]; omega) | grind)) | (refine mkTo_row ?_ rfl; (first | omega | (simp only [std, stdM]; omega) | grind)) | (refine mkTo_step ?_ ?_; (first | omega | (simp only [std, stdM]; omega) | grind); (first | grind [sumBy_step, getD_mem', cD_eq, snocI, snocS, rowSnoc])) | grind [sumBy_step, getD_mem', cD_eq, snocI, snocS, rowSnoc])))
theorem c_heldDatumS_s (x : Datum) (n : Int) (h0 : 0 ≤ n) (h : n + sumBy cD x.items ≤ 100000000000000) (hm : seqM mkD cD x.items n = x.items) (ih : ∀ z ∈ x.items, ∀ (n : Int) (h0 :
 0 ≤ n) (h : n + sumBy cD z.items ≤ 100000000000000) (hm : seqM mkD cD z.items n = z.items), P_c_heldDatumS z n)  : P_c_heldDatumS x n := fnOK Tryd.call55 Tryd.func55 (.l
 (lc_heldDatumS_sLa x n) (Sc_heldDatumS_sLa x n h0 h hm ih) [] [.s (li 0), .s (li n)] 0 (.t (.s (li (n + (↑(sumBy cD x.items) : Int)))) (.t (.s (li (-1 : Int))) .q))) (by
  dsimp only [teasy, P_c_heldDatumS, nthW, lc_heldDatumS_sLa]
  have gl := cD_len x.items
  with_reducible repeat' (first | apply And.intro | exact zR | exact ih | (intro; skip) | apply c_markText)
  all_goals (try simp only [std, stdM, inj] at *)
  all_goals with_reducible repeat' apply And.intro
  all_goals (try (first | with_reducible apply c_markText | with_reducible apply ih | (simp only [← List.map_append]; first | with_reducible apply c_markText | with_reducible apply ih)))
  all_goals (try (first | exact z | ((first | refine rowGet ?_ | refine getC ?_ rfl); (first | omega | (simp only [std, stdM]; omega) | grind)) | (refine set_row ?_; (simp only [List.length_map, List.length_set, mkTo_len]; omega)) | (refine mkToRow ?_; (first | omega | (simp only [std, stdM]; omega) | grind)) | (refine mkTo_row ?_ rfl; (first | omega | (simp only [std, stdM]; omega) | grind)) | (refine mkTo_step ?_ ?_; (first | omega | (simp only [std, stdM]; omega) | grind); (first | grind [mkTo_all, snocI, snocS, rowSnoc])) | grind [mkTo_all, snocI, snocS, rowSnoc])))
theorem c_heldDatumS (x : Datum) : ∀ (n : Int) (h0 : 0 ≤ n) (h : n + sumBy cD x.items ≤ 100000000000000) (hm : seqM mkD cD x.items n = x.items), P_c_heldDatumS x n := Datum.ind (P := fun x => ∀ (n : Int) (h0 : 0 ≤ n) (h : n + sumBy cD x.items ≤ 100000000000000) (hm : seqM mkD cD x.items n = x.items), P_c_heldDatumS x n) (fun x ih n h0 h hm => c_heldDatumS_s x n h0 h hm ih) x
theorem c_heldDatumSL (L : List Datum) (n : Int) (h0 : 0 ≤ n) (h : n + sumBy cD L ≤ 100000000000000) (hm : seqM mkD cD L n = L) : P_c_heldDatumS { (default : Datum) with items := L } n := c_heldDatumS { (default : Datum) with items := L } n h0 h hm
abbrev P_c_heldDatum (x : Datum) (n : Int) : Ct := ⟨22, [], [.agg [vI x.kind, vI x.number, vS x.text, vL (x.items.map datumC)], li n], [], .sv (li (n + sumBy cD x.items))⟩
theorem c_heldDatum (x : Datum) (n : Int) (h0 : 0 ≤ n) (h : n + (sumBy cD x.items : Nat) ≤ 100000000000000) (hm0 : seqM mkD cD x.items (n) = x.items)  : P_c_heldDatum x n := fnOK
 Tryd.call22 Tryd.func22 (.d [.rd, .rd] (P_c_heldDatumS x n) (.i (n + (↑(sumBy cD x.items) : Int) < 0) (.s (li (-1 : Int))) (.s (li (n + (↑(sumBy cD x.items) : Int)))))) (by
  dsimp only [teasy, P_c_heldDatum]
  with_reducible repeat' (first | apply And.intro | exact zR | (intro; skip) | apply c_heldDatumS | apply c_heldDatumSL)
  all_goals (try simp only [std, stdM, inj] at *)
  all_goals with_reducible repeat' apply And.intro
  all_goals (try (first | with_reducible apply c_heldDatumS | with_reducible apply c_heldDatumSL | (simp only [← List.map_append]; first | with_reducible apply c_heldDatumS | with_reducible apply c_heldDatumSL)))
  all_goals (try (first | exact z | ((first | refine rowGet ?_ | refine getC ?_ rfl); (first | omega | (simp only [std, stdM]; omega) | grind)) | (refine set_row ?_; (simp only [List.length_map, List.length_set, mkTo_len]; omega)) | (refine mkToRow ?_; (first | omega | (simp only [std, stdM]; omega) | grind)) | (refine mkTo_row ?_ rfl; (first | omega | (simp only [std, stdM]; omega) | grind)) | (refine mkTo_step ?_ ?_; (first | omega | (simp only [std, stdM]; omega) | grind); (first | grind [snocI, snocS, rowSnoc])) | grind [snocI, snocS, rowSnoc])))
end Go.Proofs.YtpflccjienojfaaDoor
end
section
namespace Go.Proofs.YtpflccjienojfaaDoor
open Go Go.Proofs.YtpflccjienojfaaDoor.Ab
set_option linter.unusedVariables false
set_option linter.unusedSimpArgs false
set_option maxHeartbeats 4000000
abbrev P_c_szIntS (L : List Int) (left : Int) : Ct := ⟨39, [], [ll (L.map intC), li left], [], .sv (li (sz L.length left))⟩
theorem c_szIntS (L : List Int) (left : Int) (h0 : 0 ≤ left) (h : left ≤ 2147483647)  : P_c_szIntS L left := fnOK Tryd.call39 Tryd.func39 (.z intC L (.r (left - (↑(List.map intC
 L).length : Int)) (.i (left - (↑(List.map intC L).length : Int) < 0) (.s (li (-1 : Int))) (.s (li (left - (↑(List.map intC L).length : Int))))))) (by
  dsimp only [teasy, P_c_szIntS]
  with_reducible repeat' (first | apply And.intro | exact zR | (intro; skip))
  all_goals (try simp only [std, inj] at *)
  all_goals with_reducible repeat' apply And.intro
  all_goals (try (first | exact z | grind [sz, snocI, snocS, rowSnoc])))
abbrev P_c_szDatumS (L : List Datum) (left : Int) : Ct := ⟨29, [], [ll (L.map datumC), li left], [], .sv (li (sz (L.length + sumBy wD L) left))⟩
abbrev P_c_szDatum (x : Datum) (left : Int) : Ct := ⟨40, [], [datumA x, li left], [], .sv (li (sz (wD x) left))⟩
def lc_szDatumSLa (L : List Datum) (left : Int) : Lp (Nat × Int) := .mk 27 0 (fun x => [(0, ll (List.map datumC L)), (1, hs x 1), (5, hs x 0)]) (fun x => []) (fun k => [.s (li
 (↑k.fst : Int)), .s (li k.snd)]) (fun k => k.fst ≤ L.length ∧ L.length ≤ 9223372036854775807 ∧ 0 ≤ k.snd ∧ k.snd ≤ left ∧ sz (sumBy wD (List.drop k.fst L)) k.snd = sz (L.length +
 sumBy wD L) left) (fun k => L.length - k.fst) [.mk (0 ≤ sz (L.length + sumBy wD L) left) (.exit 0) (fun x => [(1, hs x 0)]) (fun x => []) [.s (li (sz (L.length + sumBy wD L)
 left))], .mk (sz (L.length + sumBy wD L) left = (-1 : Int)) .ret (fun x => [(4, hs x 0)]) (fun x => []) [.s (li (-1 : Int))]]
theorem Sc_szDatumSLa (L : List Datum) (left : Int) (h0 : 0 ≤ left) (h : left ≤ 2147483647) (ih : ∀ (x : Datum), x ∈ L → ∀ (left : Int), 0 ≤ left → left ≤ 2147483647 → OK
 (P_c_szDatum x left)) : Lp.Sem Tryd.prog (loopAt Tryd.f29 0) (lc_szDatumSLa L left) := lpOK (fun k => .z datumC L (.i ((↑k.fst : Int) < (↑(List.map datumC L).length : Int)) (.x
 (↑k.fst : Int) (List.map datumC L) (datumF (L.getD k.fst default)) (.d [.rd, .rd] (P_c_szDatum (L.getD k.fst default) k.snd) (.i (sz (wD (L.getD k.fst default)) k.snd < 0) (.o 1
 [] [.s (li (-1 : Int))]) (.r ((↑k.fst : Int) + 1) (.g [] (k.fst + 1, sz (wD (L.getD k.fst default)) k.snd) [.s (li ((↑k.fst : Int) + 1)), .s (li (sz (wD (L.getD k.fst default))
 k.snd))]))))) (.o 0 [] [.s (li k.snd)]))) (by
  intro k h; try dsimp only [teasy, nthW, lc_szDatumSLa] at h ⊢
  obtain ⟨i, n⟩ := k
  simp only at *
  with_reducible repeat' (first | apply And.intro | exact zR | exact ih | (intro; skip) | apply ih)
  all_goals (try simp only [std, inj] at *)
  all_goals with_reducible repeat' apply And.intro
  all_goals (try (first | with_reducible apply ih | (simp only [← List.map_append]; first | with_reducible apply ih)))
  all_goals (try (first | exact z | grind [drop_get, sumBy, sz, getD_mem', snocI, snocS, rowSnoc])))
theorem c_szDatumS (L : List Datum) (left : Int) (h0 : 0 ≤ left) (h : left ≤ 2147483647) (ih : ∀ x ∈ L, ∀ (left : Int) (h0 : 0 ≤ left) (h : left ≤ 2147483647), P_c_szDatum x left) 
 : P_c_szDatumS L left := fnOK Tryd.call29 Tryd.func29 (.z datumC L (.r (left - (↑(List.map datumC L).length : Int)) (.i (left - (↑(List.map datumC L).length : Int) < 0) (.s (li (-1
 : Int))) (.l (lc_szDatumSLa L left) (Sc_szDatumSLa L left h0 h ih) [] [.s (li 0), .s (li (left - (↑(List.map datumC L).length : Int)))] (0, left - (↑L.length : Int)) (.t (.s (li
 (sz (L.length + sumBy wD L) left))) (.t (.s (li (-1 : Int))) .q)))))) (by
  dsimp only [teasy, P_c_szDatumS, nthW, lc_szDatumSLa]
  with_reducible repeat' (first | apply And.intro | exact zR | exact ih | (intro; skip))
  all_goals (try simp only [std, inj] at *)
  all_goals with_reducible repeat' apply And.intro
  all_goals (try (first | with_reducible apply ih | (simp only [← List.map_append]; first | with_reducible apply ih)))
  all_goals (try (first | exact z | grind [sz, snocI, snocS, rowSnoc])))
theorem c_szDatum_s (x : Datum) (left : Int) (h0 : 0 ≤ left) (h : left ≤ 2147483647) (ih : ∀ z ∈ x.items, ∀ (left : Int) (h0 : 0 ≤ left) (h : left ≤ 2147483647), P_c_szDatum z
 left)  : P_c_szDatum x left := fnOK Tryd.call40 Tryd.func40 (.h (x.text.data.toList.length ≤ 9223372036854775807) (.r (left - (↑x.text.data.toList.length : Int)) (.i (left -
 (↑x.text.data.toList.length : Int) < 0) (.s (li (-1 : Int))) (.d [.rd, .rd] (P_c_szDatumS x.items (left - (↑x.text.data.toList.length : Int))) (.i (sz (x.items.length + sumBy wD
 x.items) (left - (↑x.text.data.toList.length : Int)) < 0) (.s (li (-1 : Int))) (.s (li (sz (x.items.length + sumBy wD x.items) (left - (↑x.text.data.toList.length : Int))))))))))
 (by
  dsimp only [teasy, P_c_szDatum]
  with_reducible repeat' (first | apply And.intro | exact zR | exact ih | (intro; skip) | apply c_szDatumS | apply ih)
  all_goals (try simp only [std, inj] at *)
  all_goals with_reducible repeat' apply And.intro
  all_goals (try (first | with_reducible apply c_szDatumS | with_reducible apply ih | (simp only [← List.map_append]; first | with_reducible apply c_szDatumS | with_reducible apply ih)))
  all_goals (try (first | exact z | grind [wD_eq, sz, wS, snocI, snocS, rowSnoc])))
theorem c_szDatum (x : Datum) : ∀ (left : Int) (h0 : 0 ≤ left) (h : left ≤ 2147483647), P_c_szDatum x left := Datum.ind (P := fun x => ∀ (left : Int) (h0 : 0 ≤ left) (h : left ≤ 2147483647), P_c_szDatum x left) (fun x ih left h0 h => c_szDatum_s x left h0 h ih) x
abbrev P_c_szCoreS (L : List Core) (left : Int) : Ct := ⟨41, [], [ll (L.map coreC), li left], [], .sv (li (sz (L.length + sumBy wC L) left))⟩
abbrev P_c_szCore (x : Core) (left : Int) : Ct := ⟨12, [], [coreA x, li left], [], .sv (li (sz (wC x) left))⟩
def lc_szCoreSLa (L : List Core) (left : Int) : Lp (Nat × Int) := .mk 27 0 (fun x => [(0, ll (List.map coreC L)), (1, hs x 1), (5, hs x 0)]) (fun x => []) (fun k => [.s (li (↑k.fst
 : Int)), .s (li k.snd)]) (fun k => k.fst ≤ L.length ∧ L.length ≤ 9223372036854775807 ∧ 0 ≤ k.snd ∧ k.snd ≤ left ∧ sz (sumBy wC (List.drop k.fst L)) k.snd = sz (L.length + sumBy wC
 L) left) (fun k => L.length - k.fst) [.mk (0 ≤ sz (L.length + sumBy wC L) left) (.exit 0) (fun x => [(1, hs x 0)]) (fun x => []) [.s (li (sz (L.length + sumBy wC L) left))], .mk
 (sz (L.length + sumBy wC L) left = (-1 : Int)) .ret (fun x => [(4, hs x 0)]) (fun x => []) [.s (li (-1 : Int))]]
theorem Sc_szCoreSLa (L : List Core) (left : Int) (h0 : 0 ≤ left) (h : left ≤ 2147483647) (ih : ∀ (x : Core), x ∈ L → ∀ (left : Int), 0 ≤ left → left ≤ 2147483647 → OK (P_c_szCore
 x left)) : Lp.Sem Tryd.prog (loopAt Tryd.f41 0) (lc_szCoreSLa L left) := lpOK (fun k => .z coreC L (.i ((↑k.fst : Int) < (↑(List.map coreC L).length : Int)) (.x (↑k.fst : Int)
 (List.map coreC L) (coreF (L.getD k.fst default)) (.d [.rd, .rd] (P_c_szCore (L.getD k.fst default) k.snd) (.i (sz (wC (L.getD k.fst default)) k.snd < 0) (.o 1 [] [.s (li (-1 :
 Int))]) (.r ((↑k.fst : Int) + 1) (.g [] (k.fst + 1, sz (wC (L.getD k.fst default)) k.snd) [.s (li ((↑k.fst : Int) + 1)), .s (li (sz (wC (L.getD k.fst default)) k.snd))]))))) (.o 0
 [] [.s (li k.snd)]))) (by
  intro k h; try dsimp only [teasy, nthW, lc_szCoreSLa] at h ⊢
  obtain ⟨i, n⟩ := k
  simp only at *
  with_reducible repeat' (first | apply And.intro | exact zR | exact ih | (intro; skip) | apply ih)
  all_goals (try simp only [std, inj] at *)
  all_goals with_reducible repeat' apply And.intro
  all_goals (try (first | with_reducible apply ih | (simp only [← List.map_append]; first | with_reducible apply ih)))
  all_goals (try (first | exact z | grind [drop_get, sumBy, sz, getD_mem', snocI, snocS, rowSnoc])))
theorem c_szCoreS (L : List Core) (left : Int) (h0 : 0 ≤ left) (h : left ≤ 2147483647) (ih : ∀ x ∈ L, ∀ (left : Int) (h0 : 0 ≤ left) (h : left ≤ 2147483647), P_c_szCore x left)  :
 P_c_szCoreS L left := fnOK Tryd.call41 Tryd.func41 (.z coreC L (.r (left - (↑(List.map coreC L).length : Int)) (.i (left - (↑(List.map coreC L).length : Int) < 0) (.s (li (-1 :
 Int))) (.l (lc_szCoreSLa L left) (Sc_szCoreSLa L left h0 h ih) [] [.s (li 0), .s (li (left - (↑(List.map coreC L).length : Int)))] (0, left - (↑L.length : Int)) (.t (.s (li (sz
 (L.length + sumBy wC L) left))) (.t (.s (li (-1 : Int))) .q)))))) (by
  dsimp only [teasy, P_c_szCoreS, nthW, lc_szCoreSLa]
  with_reducible repeat' (first | apply And.intro | exact zR | exact ih | (intro; skip))
  all_goals (try simp only [std, inj] at *)
  all_goals with_reducible repeat' apply And.intro
  all_goals (try (first | with_reducible apply ih | (simp only [← List.map_append]; first | with_reducible apply ih)))
  all_goals (try (first | exact z | grind [sz, snocI, snocS, rowSnoc])))
theorem c_szCore_s (x : Core) (left : Int) (h0 : 0 ≤ left) (h : left ≤ 2147483647) (ih : ∀ z ∈ x.kids, ∀ (left : Int) (h0 : 0 ≤ left) (h : left ≤ 2147483647), P_c_szCore z left)  :
 P_c_szCore x left := fnOK Tryd.call12 Tryd.func12 (.d [.rd, .rd] (P_c_szIntS x.params left) (.i (sz x.params.length left < 0) (.s (li (-1 : Int))) (.d [.rd, .rd] (P_c_szDatum
 x.datum (sz x.params.length left)) (.i (sz (wD x.datum) (sz x.params.length left) < 0) (.s (li (-1 : Int))) (.d [.rd, .rd] (P_c_szCoreS x.kids (sz (wD x.datum) (sz x.params.length
 left))) (.i (sz (x.kids.length + sumBy wC x.kids) (sz (wD x.datum) (sz x.params.length left)) < 0) (.s (li (-1 : Int))) (.s (li (sz (x.kids.length + sumBy wC x.kids) (sz (wD
 x.datum) (sz x.params.length left))))))))))) (by
  dsimp only [teasy, P_c_szCore]
  with_reducible repeat' (first | apply And.intro | exact zR | exact ih | (intro; skip) | apply c_szIntS | apply c_szDatum | apply c_szCoreS | apply ih)
  all_goals (try simp only [std, inj] at *)
  all_goals with_reducible repeat' apply And.intro
  all_goals (try (first | with_reducible apply c_szIntS | with_reducible apply c_szDatum | with_reducible apply c_szCoreS | with_reducible apply ih | (simp only [← List.map_append]; first | with_reducible apply c_szIntS | with_reducible apply c_szDatum | with_reducible apply c_szCoreS | with_reducible apply ih)))
  all_goals (try (first | exact z | grind [wC_eq, sz, wS, snocI, snocS, rowSnoc])))
theorem c_szCore (x : Core) : ∀ (left : Int) (h0 : 0 ≤ left) (h : left ≤ 2147483647), P_c_szCore x left := Core.ind (P := fun x => ∀ (left : Int) (h0 : 0 ≤ left) (h : left ≤ 2147483647), P_c_szCore x left) (fun x ih left h0 h => c_szCore_s x left h0 h ih) x
end Go.Proofs.YtpflccjienojfaaDoor
end
section
namespace Go.Proofs.YtpflccjienojfaaDoor
open Go Go.Proofs.YtpflccjienojfaaDoor.Ab
set_option linter.unusedVariables false
set_option linter.unusedSimpArgs false
set_option maxHeartbeats 4000000
abbrev P_c_toIntS (L : List Int) : Ct := ⟨44, [], [ll (L.map intC)], [.arr true 1 (L.map intC)], .sv (.one (.ref 0))⟩
def lc_toIntSLa (L : List Int) : Lp Nat := .mk 22 0 (fun x => [(0, ll (List.map intC L)), (3, SV.one (AC.ref 0)), (4, hs x 0)]) (fun x => [ho x 1]) (fun k => [.s (li (↑k : Int)),
 .o (Ob.arr true 1 (List.map intC (fillTo L k)))]) (fun k => k ≤ L.length ∧ L.length ≤ 9223372036854775807) (fun k => L.length - k) [.mk True (.exit 0) (fun x => [(3, SV.one
 (AC.ref 0))]) (fun x => [ho x 0]) [.o (Ob.arr true 1 (List.map intC L))]]
theorem Sc_toIntSLa (L : List Int) (h : L.length ≤ 1048576) : Lp.Sem Tryd.prog (loopAt Tryd.f44 0) (lc_toIntSLa L) := lpOK (fun k => .z intC L (.i ((↑k : Int) < (↑(List.map intC
 L).length : Int)) (.x (↑k : Int) (List.map intC L) [cI (L.getD k 0)] (.p (0 ≤ (↑k : Int) ∧ (↑k : Int).toNat < (List.map intC (fillTo L k)).length) (.w (.cells (intC ((fillTo L
 k).getD (↑k : Int).toNat default))) (.p ((List.map intC (fillTo L k))[(↑k : Int).toNat]? = some [cI ((fillTo L k).getD (↑k : Int).toNat 0)]) (.r ((↑k : Int) + 1) (.g [0] (k + 1)
 [.s (li ((↑k : Int) + 1)), .o (Ob.arr true 1 ((List.map intC (fillTo L k)).set (↑k : Int).toNat [cI (L.getD k 0)]))])))))) (.o 0 [0] [.o (Ob.arr true 1 (List.map intC (fillTo L
 k)))]))) (by
  intro k h; try dsimp only [teasy, nthW, lc_toIntSLa] at h ⊢
  with_reducible repeat' (first | apply And.intro | exact zR | (intro; skip))
  all_goals (try simp only [std, inj] at *)
  all_goals with_reducible repeat' apply And.intro
  all_goals (try (first | exact z | exact zF | grind [fillTo_all, snocI, snocS, rowSnoc])))
theorem c_toIntS (L : List Int) (h : L.length ≤ 1048576)  : P_c_toIntS L := fnOK Tryd.call44 Tryd.func44 (.z intC L (.p (0 ≤ (↑(List.map intC L).length : Int) ∧ 8 * (↑(List.map intC
 L).length : Int).toNat ≤ 281474976710656) (.l (lc_toIntSLa L) (Sc_toIntSLa L h) [0] [.s (li 0), .o (Ob.arr true 1 (List.replicate (↑(List.map intC L).length : Int).toNat [cI 0]))]
 0 (.t (.f [0] [Ob.arr true 1 (List.map intC L)] (AV.sv (SV.one (AC.ref 0)))) .q)))) (by
  dsimp only [teasy, P_c_toIntS, nthW, lc_toIntSLa]
  with_reducible repeat' (first | apply And.intro | exact zR | (intro; skip))
  all_goals (try simp only [std, inj] at *)
  all_goals with_reducible repeat' apply And.intro
  all_goals (try (first | exact z | exact zF | grind [snocI, snocS, rowSnoc])))
abbrev P_c_toDatumS (L : List Datum) : Ct := ⟨33, [], [ll (L.map datumC)], [.arr true 4 (L.map datumC)], .sv (.one (.ref 0))⟩
abbrev P_c_toDatum (x : Datum) : Ct := ⟨45, [], [datumA x], datumO x, .sv (datumR x 0)⟩
def lc_toDatumSLa (L : List Datum) : Lp Nat := .mk 23 0 (fun x => [(0, ll (List.map datumC L)), (3, SV.one (AC.ref 0)), (4, hs x 0)]) (fun x => [ho x 1]) (fun k => [.s (li (↑k :
 Int)), .o (Ob.arr true 4 (List.map datumC (fillTo L k)))]) (fun k => k ≤ L.length ∧ L.length ≤ 9223372036854775807) (fun k => L.length - k) [.mk True (.exit 0) (fun x => [(3,
 SV.one (AC.ref 0))]) (fun x => [ho x 0]) [.o (Ob.arr true 4 (List.map datumC L))]]
theorem Sc_toDatumSLa (L : List Datum) (h : L.length + sumBy wD L ≤ 1048576) (ih : ∀ (x : Datum), x ∈ L → wD x ≤ 1048576 → OK (P_c_toDatum x)) : Lp.Sem Tryd.prog (loopAt Tryd.f33
 0) (lc_toDatumSLa L) := lpOK (fun k => .z datumC L (.i ((↑k : Int) < (↑(List.map datumC L).length : Int)) (.x (↑k : Int) (List.map datumC L) (datumF (L.getD k default)) (.d [.rd]
 (P_c_toDatum (L.getD k default)) (.p (0 ≤ (↑k : Int) ∧ (↑k : Int).toNat < (List.map datumC (fillTo L k)).length) (.w (.cells (datumF ((fillTo L k).getD (↑k : Int).toNat default)))
 (.p ((List.map datumC (fillTo L k))[(↑k : Int).toNat]? = some (datumF ((fillTo L k).getD (↑k : Int).toNat default))) (.r ((↑k : Int) + 1) (.g [0] (k + 1) [.s (li ((↑k : Int) +
 1)), .o (Ob.arr true 4 ((List.map datumC (fillTo L k)).set (↑k : Int).toNat (datumF (L.getD k default))))]))))))) (.o 0 [0] [.o (Ob.arr true 4 (List.map datumC (fillTo L k)))])))
 (by
  intro k h; try dsimp only [teasy, nthW, lc_toDatumSLa] at h ⊢
  with_reducible repeat' (first | apply And.intro | exact zR | exact ih | (intro; skip) | apply ih)
  all_goals (try simp only [std, inj] at *)
  all_goals with_reducible repeat' apply And.intro
  all_goals (try (first | with_reducible apply ih | (simp only [← List.map_append]; first | with_reducible apply ih)))
  all_goals (try (first | exact z | exact zF | grind [fillTo_all, getD_mem', sumBy_mem, snocI, snocS, rowSnoc])))
theorem c_toDatumS (L : List Datum) (h : L.length + sumBy wD L ≤ 1048576) (ih : ∀ x ∈ L, ∀ (h : wD x ≤ 1048576), P_c_toDatum x)  : P_c_toDatumS L := fnOK Tryd.call33 Tryd.func33 (.z
 datumC L (.p (0 ≤ (↑(List.map datumC L).length : Int) ∧ 56 * (↑(List.map datumC L).length : Int).toNat ≤ 281474976710656) (.l (lc_toDatumSLa L) (Sc_toDatumSLa L h ih) [0] [.s (li
 0), .o (Ob.arr true 4 (List.replicate (↑(List.map datumC L).length : Int).toNat [cI 0, cI 0, cS (ByteArray.mk #[]), Cell.list []]))] 0 (.t (.f [0] [Ob.arr true 4 (List.map datumC
 L)] (AV.sv (SV.one (AC.ref 0)))) .q)))) (by
  dsimp only [teasy, P_c_toDatumS, nthW, lc_toDatumSLa]
  with_reducible repeat' (first | apply And.intro | exact zR | exact ih | (intro; skip))
  all_goals (try simp only [std, inj] at *)
  all_goals with_reducible repeat' apply And.intro
  all_goals (try (first | with_reducible apply ih | (simp only [← List.map_append]; first | with_reducible apply ih)))
  all_goals (try (first | exact z | exact zF | grind [snocI, snocS, rowSnoc])))
theorem c_toDatum_s (x : Datum) (h : wD x ≤ 1048576) (ih : ∀ z ∈ x.items, ∀ (h : wD z ≤ 1048576), P_c_toDatum z)  : P_c_toDatum x := fnOK Tryd.call45 Tryd.func45 (.d [.rd]
 (P_c_toDatumS x.items) (.f [3] [Ob.arr true 4 (List.map datumC x.items)] (AV.sv (SV.agg [vI x.kind, vI x.number, vS x.text, AC.ref 0])))) (by
  dsimp only [teasy, P_c_toDatum]
  with_reducible repeat' (first | apply And.intro | exact zR | exact ih | (intro; skip) | apply c_toDatumS | apply ih)
  all_goals (try simp only [std, inj] at *)
  all_goals with_reducible repeat' apply And.intro
  all_goals (try (first | with_reducible apply c_toDatumS | with_reducible apply ih | (simp only [← List.map_append]; first | with_reducible apply c_toDatumS | with_reducible apply ih)))
  all_goals (try (first | exact z | exact zF | grind [wD_eq, wS, snocI, snocS, rowSnoc])))
theorem c_toDatum (x : Datum) : ∀ (h : wD x ≤ 1048576), P_c_toDatum x := Datum.ind (P := fun x => ∀ (h : wD x ≤ 1048576), P_c_toDatum x) (fun x ih h => c_toDatum_s x h ih) x
abbrev P_c_toCoreS (L : List Core) : Ct := ⟨46, [], [ll (L.map coreC)], [.arr true 8 (L.map coreC)], .sv (.one (.ref 0))⟩
abbrev P_c_toCore (x : Core) : Ct := ⟨14, [], [coreA x], coreO x, .sv (coreR x 0)⟩
def lc_toCoreSLa (L : List Core) : Lp Nat := .mk 23 0 (fun x => [(0, ll (List.map coreC L)), (3, SV.one (AC.ref 0)), (4, hs x 0)]) (fun x => [ho x 1]) (fun k => [.s (li (↑k :
 Int)), .o (Ob.arr true 8 (List.map coreC (fillTo L k)))]) (fun k => k ≤ L.length ∧ L.length ≤ 9223372036854775807) (fun k => L.length - k) [.mk True (.exit 0) (fun x => [(3,
 SV.one (AC.ref 0))]) (fun x => [ho x 0]) [.o (Ob.arr true 8 (List.map coreC L))]]
theorem Sc_toCoreSLa (L : List Core) (h : L.length + sumBy wC L ≤ 1048576) (ih : ∀ (x : Core), x ∈ L → wC x ≤ 1048576 → OK (P_c_toCore x)) : Lp.Sem Tryd.prog (loopAt Tryd.f46 0)
 (lc_toCoreSLa L) := lpOK (fun k => .z coreC L (.i ((↑k : Int) < (↑(List.map coreC L).length : Int)) (.x (↑k : Int) (List.map coreC L) (coreF (L.getD k default)) (.d [.rd]
 (P_c_toCore (L.getD k default)) (.p (0 ≤ (↑k : Int) ∧ (↑k : Int).toNat < (List.map coreC (fillTo L k)).length) (.w (.cells (coreF ((fillTo L k).getD (↑k : Int).toNat default)))
 (.p ((List.map coreC (fillTo L k))[(↑k : Int).toNat]? = some (coreF ((fillTo L k).getD (↑k : Int).toNat default))) (.r ((↑k : Int) + 1) (.g [0] (k + 1) [.s (li ((↑k : Int) + 1)),
 .o (Ob.arr true 8 ((List.map coreC (fillTo L k)).set (↑k : Int).toNat (coreF (L.getD k default))))]))))))) (.o 0 [0] [.o (Ob.arr true 8 (List.map coreC (fillTo L k)))]))) (by
  intro k h; try dsimp only [teasy, nthW, lc_toCoreSLa] at h ⊢
  with_reducible repeat' (first | apply And.intro | exact zR | exact ih | (intro; skip) | apply ih)
  all_goals (try simp only [std, inj] at *)
  all_goals with_reducible repeat' apply And.intro
  all_goals (try (first | with_reducible apply ih | (simp only [← List.map_append]; first | with_reducible apply ih)))
  all_goals (try (first | exact z | exact zF | grind [fillTo_all, getD_mem', sumBy_mem, snocI, snocS, rowSnoc])))
theorem c_toCoreS (L : List Core) (h : L.length + sumBy wC L ≤ 1048576) (ih : ∀ x ∈ L, ∀ (h : wC x ≤ 1048576), P_c_toCore x)  : P_c_toCoreS L := fnOK Tryd.call46 Tryd.func46 (.z
 coreC L (.p (0 ≤ (↑(List.map coreC L).length : Int) ∧ 120 * (↑(List.map coreC L).length : Int).toNat ≤ 281474976710656) (.l (lc_toCoreSLa L) (Sc_toCoreSLa L h ih) [0] [.s (li 0),
 .o (Ob.arr true 8 (List.replicate (↑(List.map coreC L).length : Int).toNat [cI 0, cI 0, Cell.list [], cI 0, cI 0, cS (ByteArray.mk #[]), Cell.list [], Cell.list []]))] 0 (.t (.f
 [0] [Ob.arr true 8 (List.map coreC L)] (AV.sv (SV.one (AC.ref 0)))) .q)))) (by
  dsimp only [teasy, P_c_toCoreS, nthW, lc_toCoreSLa]
  with_reducible repeat' (first | apply And.intro | exact zR | exact ih | (intro; skip))
  all_goals (try simp only [std, inj] at *)
  all_goals with_reducible repeat' apply And.intro
  all_goals (try (first | with_reducible apply ih | (simp only [← List.map_append]; first | with_reducible apply ih)))
  all_goals (try (first | exact z | exact zF | grind [snocI, snocS, rowSnoc])))
theorem c_toCore_s (x : Core) (h : wC x ≤ 1048576) (ih : ∀ z ∈ x.kids, ∀ (h : wC z ≤ 1048576), P_c_toCore z)  : P_c_toCore x := fnOK Tryd.call14 Tryd.func14 (.d [.rd] (P_c_toIntS
 x.params) (.d [.rd] (P_c_toDatum x.datum) (.d [.rd] (P_c_toCoreS x.kids) (.f [3, 4, 5] [Ob.arr true 1 (List.map intC x.params), Ob.arr true 4 (List.map datumC x.datum.items),
 Ob.arr true 8 (List.map coreC x.kids)] (AV.sv (SV.agg [vI x.kind, vI x.number, AC.ref 0, vI x.datum.kind, vI x.datum.number, vS x.datum.text, AC.ref 1, AC.ref 2])))))) (by
  dsimp only [teasy, P_c_toCore]
  with_reducible repeat' (first | apply And.intro | exact zR | exact ih | (intro; skip) | apply c_toIntS | apply c_toDatum | apply c_toCoreS | apply ih)
  all_goals (try simp only [std, inj] at *)
  all_goals with_reducible repeat' apply And.intro
  all_goals (try (first | with_reducible apply c_toIntS | with_reducible apply c_toDatum | with_reducible apply c_toCoreS | with_reducible apply ih | (simp only [← List.map_append]; first | with_reducible apply c_toIntS | with_reducible apply c_toDatum | with_reducible apply c_toCoreS | with_reducible apply ih)))
  all_goals (try (first | exact z | exact zF | grind [wC_eq, wS, snocI, snocS, rowSnoc])))
theorem c_toCore (x : Core) : ∀ (h : wC x ≤ 1048576), P_c_toCore x := Core.ind (P := fun x => ∀ (h : wC x ≤ 1048576), P_c_toCore x) (fun x ih h => c_toCore_s x h ih) x
end Go.Proofs.YtpflccjienojfaaDoor
end
section
namespace Go.Proofs.YtpflccjienojfaaDoor
open Go Go.Proofs.YtpflccjienojfaaDoor.Ab
set_option linter.unusedVariables false
set_option linter.unusedSimpArgs false
set_option maxHeartbeats 4000000
abbrev P_c_eqIntS (A : List Int) (B : List Int) : Ct := ⟨50, [], [ll (A.map intC), ll (B.map intC)], [], .sv (lb (decide (A = B)))⟩
def lc_eqIntSLa (A : List Int) (B : List Int) : Lp Nat := .mk 26 0 (fun x => [(0, ll (List.map intC A)), (1, ll (List.map intC B)), (5, hs x 0)]) (fun x => []) (fun k => [.s (li
 (↑k : Int))]) (fun k => k ≤ A.length ∧ A.length ≤ 9223372036854775807 ∧ A.length = B.length ∧ List.take k A = List.take k B) (fun k => A.length - k) [.mk (A = B) (.exit 0) (fun x
 => []) (fun x => []) [], .mk (A ≠ B) .ret (fun x => [(4, hs x 0)]) (fun x => []) [.s (lb false)]]
theorem Sc_eqIntSLa (A : List Int) (B : List Int) : Lp.Sem Tryd.prog (loopAt Tryd.f50 0) (lc_eqIntSLa A B) := lpOK (fun k => .z intC A (.i ((↑k : Int) < (↑(List.map intC A).length
 : Int)) (.w (.draw []) (.x (↑k : Int) (List.map intC A) [cI (A.getD k 0)] (.x (↑k : Int) (List.map intC B) [cI (B.getD k 0)] (.i (A.getD k (0 : Int) ≠ B.getD k 0) (.o 1 [] [.s (lb
 false)]) (.r ((↑k : Int) + 1) (.g [] (k + 1) [.s (li ((↑k : Int) + 1))])))))) (.o 0 [] []))) (by
  intro k h; try dsimp only [teasy, nthW, lc_eqIntSLa] at h ⊢
  with_reducible repeat' (first | apply And.intro | exact zR | (intro; skip))
  all_goals (try simp only [std, inj] at *)
  all_goals with_reducible repeat' apply And.intro
  all_goals (try (first | exact z | grind [take_eq, snocI, snocS, rowSnoc])))
theorem c_eqIntS (A B : List Int)  : P_c_eqIntS A B := fnOK Tryd.call50 Tryd.func50 (.z intC A (.z intC B (.i ((↑(List.map intC A).length : Int) ≠ (↑(List.map intC B).length : Int))
 (.s (lb false)) (.l (lc_eqIntSLa A B) (Sc_eqIntSLa A B) [] [.s (li 0)] 0 (.t (.s (lb true)) (.t (.s (lb false)) .q)))))) (by
  dsimp only [teasy, P_c_eqIntS, nthW, lc_eqIntSLa]
  with_reducible repeat' (first | apply And.intro | exact zR | (intro; skip))
  all_goals (try simp only [std, inj] at *)
  all_goals with_reducible repeat' apply And.intro
  all_goals (try (first | exact z | grind [snocI, snocS, rowSnoc])))
abbrev P_c_eqDatumS (A : List Datum) (B : List Datum) : Ct := ⟨38, [], [ll (A.map datumC), ll (B.map datumC)], [], .sv (lb (decide (A = B)))⟩
abbrev P_c_eqDatum (x : Datum) (y : Datum) : Ct := ⟨19, [], [datumA x, datumA y], [], .sv (lb (decide (x = y)))⟩
def lc_eqDatumSLa (A : List Datum) (B : List Datum) : Lp Nat := .mk 27 0 (fun x => [(0, ll (List.map datumC A)), (1, ll (List.map datumC B)), (5, hs x 0)]) (fun x => []) (fun k =>
 [.s (li (↑k : Int))]) (fun k => k ≤ A.length ∧ A.length ≤ 9223372036854775807 ∧ A.length = B.length ∧ List.take k A = List.take k B) (fun k => A.length - k) [.mk (A = B) (.exit 0)
 (fun x => []) (fun x => []) [], .mk (A ≠ B) .ret (fun x => [(4, hs x 0)]) (fun x => []) [.s (lb false)]]
theorem Sc_eqDatumSLa (A : List Datum) (B : List Datum) (ih : ∀ (x : Datum), x ∈ A → ∀ (y : Datum), OK (P_c_eqDatum x y)) : Lp.Sem Tryd.prog (loopAt Tryd.f38 0) (lc_eqDatumSLa A B)
 := lpOK (fun k => .z datumC A (.i ((↑k : Int) < (↑(List.map datumC A).length : Int)) (.w (.draw []) (.x (↑k : Int) (List.map datumC A) (datumF (A.getD k default)) (.x (↑k : Int)
 (List.map datumC B) (datumF (B.getD k default)) (.d [.rd, .rd] (P_c_eqDatum (A.getD k default) (B.getD k default)) (.b (!decide (A.getD k default = B.getD k default)) (.o 1 [] [.s
 (lb false)]) (.r ((↑k : Int) + 1) (.g [] (k + 1) [.s (li ((↑k : Int) + 1))]))))))) (.o 0 [] []))) (by
  intro k h; try dsimp only [teasy, nthW, lc_eqDatumSLa] at h ⊢
  with_reducible repeat' (first | apply And.intro | exact zR | exact ih | (intro; skip) | apply ih)
  all_goals (try simp only [std, inj] at *)
  all_goals with_reducible repeat' apply And.intro
  all_goals (try (first | with_reducible apply ih | (simp only [← List.map_append]; first | with_reducible apply ih)))
  all_goals (try (first | exact z | grind [take_eq, getD_mem', snocI, snocS, rowSnoc])))
theorem c_eqDatumS (A B : List Datum) (ih : ∀ x ∈ A, ∀ (y : Datum), P_c_eqDatum x y)  : P_c_eqDatumS A B := fnOK Tryd.call38 Tryd.func38 (.z datumC A (.z datumC B (.i ((↑(List.map
 datumC A).length : Int) ≠ (↑(List.map datumC B).length : Int)) (.s (lb false)) (.l (lc_eqDatumSLa A B) (Sc_eqDatumSLa A B ih) [] [.s (li 0)] 0 (.t (.s (lb true)) (.t (.s (lb
 false)) .q)))))) (by
  dsimp only [teasy, P_c_eqDatumS, nthW, lc_eqDatumSLa]
  with_reducible repeat' (first | apply And.intro | exact zR | exact ih | (intro; skip))
  all_goals (try simp only [std, inj] at *)
  all_goals with_reducible repeat' apply And.intro
  all_goals (try (first | with_reducible apply ih | (simp only [← List.map_append]; first | with_reducible apply ih)))
  all_goals (try (first | exact z | grind [snocI, snocS, rowSnoc])))
theorem c_eqDatum_s (x y : Datum) (ih : ∀ z ∈ x.items, ∀ (y : Datum), P_c_eqDatum z y)  : P_c_eqDatum x y := fnOK Tryd.call19 Tryd.func19 (.i (x.kind ≠ y.kind) (.s (lb false)) (.i
 (x.number ≠ y.number) (.s (lb false)) (.i (x.text.data.toList ≠ y.text.data.toList) (.s (lb false)) (.d [.rd, .rd] (P_c_eqDatumS x.items y.items) (.b (!decide (x.items = y.items))
 (.s (lb false)) (.s (lb true))))))) (by
  dsimp only [teasy, P_c_eqDatum]
  simp only [datumExt]
  with_reducible repeat' (first | apply And.intro | exact zR | exact ih | (intro; skip) | apply c_eqDatumS | apply ih)
  all_goals (try simp only [std, inj] at *)
  all_goals with_reducible repeat' apply And.intro
  all_goals (try (first | with_reducible apply c_eqDatumS | with_reducible apply ih | (simp only [← List.map_append]; first | with_reducible apply c_eqDatumS | with_reducible apply ih)))
  all_goals (try (first | exact z | grind [bytes_ext, snocI, snocS, rowSnoc])))
theorem c_eqDatum (x : Datum) : ∀ (y : Datum), P_c_eqDatum x y := Datum.ind (P := fun x => ∀ (y : Datum), P_c_eqDatum x y) (fun x ih y => c_eqDatum_s x y ih) x
abbrev P_c_eqCoreS (A : List Core) (B : List Core) : Ct := ⟨51, [], [ll (A.map coreC), ll (B.map coreC)], [], .sv (lb (decide (A = B)))⟩
abbrev P_c_eqCore (x : Core) (y : Core) : Ct := ⟨16, [], [coreA x, coreA y], [], .sv (lb (decide (x = y)))⟩
def lc_eqCoreSLa (A : List Core) (B : List Core) : Lp Nat := .mk 27 0 (fun x => [(0, ll (List.map coreC A)), (1, ll (List.map coreC B)), (5, hs x 0)]) (fun x => []) (fun k => [.s
 (li (↑k : Int))]) (fun k => k ≤ A.length ∧ A.length ≤ 9223372036854775807 ∧ A.length = B.length ∧ List.take k A = List.take k B) (fun k => A.length - k) [.mk (A = B) (.exit 0)
 (fun x => []) (fun x => []) [], .mk (A ≠ B) .ret (fun x => [(4, hs x 0)]) (fun x => []) [.s (lb false)]]
theorem Sc_eqCoreSLa (A : List Core) (B : List Core) (ih : ∀ (x : Core), x ∈ A → ∀ (y : Core), OK (P_c_eqCore x y)) : Lp.Sem Tryd.prog (loopAt Tryd.f51 0) (lc_eqCoreSLa A B) :=
 lpOK (fun k => .z coreC A (.i ((↑k : Int) < (↑(List.map coreC A).length : Int)) (.w (.draw []) (.x (↑k : Int) (List.map coreC A) (coreF (A.getD k default)) (.x (↑k : Int)
 (List.map coreC B) (coreF (B.getD k default)) (.d [.rd, .rd] (P_c_eqCore (A.getD k default) (B.getD k default)) (.b (!decide (A.getD k default = B.getD k default)) (.o 1 [] [.s
 (lb false)]) (.r ((↑k : Int) + 1) (.g [] (k + 1) [.s (li ((↑k : Int) + 1))]))))))) (.o 0 [] []))) (by
  intro k h; try dsimp only [teasy, nthW, lc_eqCoreSLa] at h ⊢
  with_reducible repeat' (first | apply And.intro | exact zR | exact ih | (intro; skip) | apply ih)
  all_goals (try simp only [std, inj] at *)
  all_goals with_reducible repeat' apply And.intro
  all_goals (try (first | with_reducible apply ih | (simp only [← List.map_append]; first | with_reducible apply ih)))
  all_goals (try (first | exact z | grind [take_eq, getD_mem', snocI, snocS, rowSnoc])))
theorem c_eqCoreS (A B : List Core) (ih : ∀ x ∈ A, ∀ (y : Core), P_c_eqCore x y)  : P_c_eqCoreS A B := fnOK Tryd.call51 Tryd.func51 (.z coreC A (.z coreC B (.i ((↑(List.map coreC
 A).length : Int) ≠ (↑(List.map coreC B).length : Int)) (.s (lb false)) (.l (lc_eqCoreSLa A B) (Sc_eqCoreSLa A B ih) [] [.s (li 0)] 0 (.t (.s (lb true)) (.t (.s (lb false))
 .q)))))) (by
  dsimp only [teasy, P_c_eqCoreS, nthW, lc_eqCoreSLa]
  with_reducible repeat' (first | apply And.intro | exact zR | exact ih | (intro; skip))
  all_goals (try simp only [std, inj] at *)
  all_goals with_reducible repeat' apply And.intro
  all_goals (try (first | with_reducible apply ih | (simp only [← List.map_append]; first | with_reducible apply ih)))
  all_goals (try (first | exact z | grind [snocI, snocS, rowSnoc])))
theorem c_eqCore_s (x y : Core) (ih : ∀ z ∈ x.kids, ∀ (y : Core), P_c_eqCore z y)  : P_c_eqCore x y := fnOK Tryd.call16 Tryd.func16 (.i (x.kind ≠ y.kind) (.s (lb false)) (.i
 (x.number ≠ y.number) (.s (lb false)) (.c [.rd, .rd] (c_eqIntS x.params y.params) (.b (!decide (x.params = y.params)) (.s (lb false)) (.c [.rd, .rd] (c_eqDatum x.datum y.datum)
 (.b (!decide (x.datum = y.datum)) (.s (lb false)) (.d [.rd, .rd] (P_c_eqCoreS x.kids y.kids) (.b (!decide (x.kids = y.kids)) (.s (lb false)) (.s (lb true)))))))))) (by
  dsimp only [teasy, P_c_eqCore]
  simp only [coreExt]
  with_reducible repeat' (first | apply And.intro | exact zR | exact ih | (intro; skip) | apply c_eqIntS | apply c_eqDatum | apply c_eqCoreS | apply ih)
  all_goals (try simp only [std, inj] at *)
  all_goals with_reducible repeat' apply And.intro
  all_goals (try (first | with_reducible apply c_eqIntS | with_reducible apply c_eqDatum | with_reducible apply c_eqCoreS | with_reducible apply ih | (simp only [← List.map_append]; first | with_reducible apply c_eqIntS | with_reducible apply c_eqDatum | with_reducible apply c_eqCoreS | with_reducible apply ih)))
  all_goals (try (first | exact z | grind [bytes_ext, snocI, snocS, rowSnoc])))
theorem c_eqCore (x : Core) : ∀ (y : Core), P_c_eqCore x y := Core.ind (P := fun x => ∀ (y : Core), P_c_eqCore x y) (fun x ih y => c_eqCore_s x y ih) x
end Go.Proofs.YtpflccjienojfaaDoor
end
section
namespace Go.Proofs.YtpflccjienojfaaDoor
open Go Go.Proofs.YtpflccjienojfaaDoor.Ab
set_option linter.unusedVariables false
set_option linter.unusedSimpArgs false
set_option maxHeartbeats 4000000
theorem upX_w (c : Core) : wD (upX c) ≤ 100000000 := by
  unfold upX; split
  · rename_i h
    have h1 := val_unp h
    have := okD_w _ h1.1; omega
  · decide
abbrev P_c_LUnp (c : Core) : Ct := ⟨5, [], [coreA c], [], .sv (lb true)⟩
theorem c_LUnp (c : Core)  : P_c_LUnp c := fnOK Tryd.call5 Tryd.func5 (.d [.rd, .rd] (P_c_szCore c 1048576) (.i (sz (wC c) (1048576 : Int) < 0) (.s (lb true)) (.d [.rd] (P_c_toCore
 c) (.d [.rd] (P_c_sUnpC c) (.d [.rd] (P_c_toCore c) (.d [.rd] (P_c_iUnpC c) (.c [.rd, .rd] (c_eqDatum (upX c) (upX c)) (.b (!decide (upX c = upX c)) (.s (lb false)) (.w (.draw [])
 (.d [.rd] (P_c_toCore c) (.c [.rd, .rd] (c_eqCore c c) (.b (!decide (c = c)) (.s (lb false)) (.d [.agg [none, none, some (true, 1), none, none, none, some (true, 4), some (true,
 8)], .rd] (P_c_markCore c 1) (.y false (.c [.rd, .rd] (c_eqDatum (upX c) (upX c)) (.b (!decide (upX c = upX c)) (.s (lb false)) (.d [.agg [none, none, none, some (true, 4)], .rd]
 (P_c_markDatum (upX c) 1) (.d [.rd, .rd] (P_c_heldDatum (Datum.mk (upX c).kind (upX c).number (upX c).text (seqM mkD cD (upX c).items 1)) 1) (.y false (.i (1 + (↑(sumBy cD (seqM
 mkD cD (upX c).items 1)) : Int) ≠ 1 + (↑(sumBy cD (upX c).items) : Int)) (.s (lb false)) (.d [.rd] (P_c_toCore c) (.d [.rd] (P_c_iUnpC c) (.c [.rd, .rd] (c_eqDatum (upX c) (upX
 c)) (.b (!decide (upX c = upX c)) (.s (lb false)) (.d [.rd, .rd] (P_c_heldDatum (Datum.mk (upX c).kind (upX c).number (upX c).text (seqM mkD cD (upX c).items 1)) 1) (.y false (.i
 (1 + (↑(sumBy cD (seqM mkD cD (upX c).items 1)) : Int) ≠ 1 + (↑(sumBy cD (upX c).items) : Int)) (.s (lb false)) (.s (lb true))))))))))))))))))))))))))))) (by
  dsimp only [teasy, P_c_LUnp]
  have h1 := cC_le c
  have h2 := cC_eq c
  have h3 := cD_le (upX c)
  have h4 := cD_eq (upX c)
  have h5 := upX_w c
  with_reducible repeat' (first | apply And.intro | exact zR | (intro; skip) | apply c_szCore | apply c_toCore | apply c_eqCore | apply c_eqDatum | apply c_sUnpC | apply c_iUnpC | apply c_markCore | apply c_markDatum | apply c_heldDatum)
  all_goals (try simp only [std, stdM, inj] at *)
  all_goals with_reducible repeat' apply And.intro
  all_goals (try (first | with_reducible apply c_szCore | with_reducible apply c_toCore | with_reducible apply c_eqCore | with_reducible apply c_eqDatum | with_reducible apply c_sUnpC | with_reducible apply c_iUnpC | with_reducible apply c_markCore | with_reducible apply c_markDatum | with_reducible apply c_heldDatum | (simp only [← List.map_append]; first | with_reducible apply c_szCore | with_reducible apply c_toCore | with_reducible apply c_eqCore | with_reducible apply c_eqDatum | with_reducible apply c_sUnpC | with_reducible apply c_iUnpC | with_reducible apply c_markCore | with_reducible apply c_markDatum | with_reducible apply c_heldDatum)))
  all_goals (try (first | exact z | ((first | refine rowGet ?_ | refine getC ?_ rfl); (first | omega | (simp only [std, stdM]; omega) | grind)) | (refine set_row ?_; (simp only [List.length_map, List.length_set, mkTo_len]; omega)) | (refine mkToRow ?_; (first | omega | (simp only [std, stdM]; omega) | grind)) | (refine mkTo_row ?_ rfl; (first | omega | (simp only [std, stdM]; omega) | grind)) | (refine mkTo_step ?_ ?_; (first | omega | (simp only [std, stdM]; omega) | grind); (first | grind [sz, seqM_idem, seqM_len, sum_seqM, snocI, snocS, rowSnoc])) | grind [sz, seqM_idem, seqM_len, sum_seqM, snocI, snocS, rowSnoc])))
end Go.Proofs.YtpflccjienojfaaDoor
end
section
namespace Go.Proofs.YtpflccjienojfaaDoor.fnExactUnparseCore
open Go Go.ChangeShapes Go.WideShapes Go.ChangeAt Go.RowKit Go.Proofs.YtpflccjienojfaaDoor.Ab
set_option linter.unusedVariables false
theorem own : ownKnob Tryd.prog.godebug = none := by kernel_rfl
theorem laidO : laidOutB Tryd.prog = true := by kernel_rfl
theorem rowed : mapsRowed Tryd.prog = true := by kernel_rfl
theorem sized : ((List.range Tryd.prog.types.size).all fun t => match Tryd.prog.underlying t with | some (.slice e) => decide (0 < Tryd.prog.cellsOf e) | _ => true) = true := by kernel_rfl
theorem gTab : Tryd.prog.globalNamed pow10N = some 0 := by kernel_rfl
theorem gTabType : (Tryd.prog.globals[0]?).map (·.type) = some 168 := by kernel_rfl
theorem cellsE : Tryd.prog.cellsOf 155 = 1 := by kernel_rfl
theorem cellsT : Tryd.prog.cellsOf 168 = 20 := by kernel_rfl
theorem rowTab : Rows.fnExactUnparseCoreRow.laid.drop 2 = (pow10N, Lib.tabData .u64 Lib.pow10Tab) :: Rows.fnExactUnparseCoreRow.laid.drop 3 := by kernel_rfl
theorem laid_drop {W : Go.World} : ∀ (k : Nat) (l : List (String × DataW PUnit.{1})), laidMet Tryd.prog l W → laidMet Tryd.prog (l.drop k) W
  | 0, _, h => h
  | k + 1, [], h => h
  | k + 1, _ :: r, h => laid_drop k r (laidMet.tail h)
theorem tab {W : Go.World} (h : laidMetH Tryd.prog Rows.fnExactUnparseCoreRow.laid W) : Lib.TabIs Tryd.prog W pow10N .u64 Lib.pow10Tab := by
  have h1 : laidMet Tryd.prog Rows.fnExactUnparseCoreRow.laid W := h
  have h2 := laid_drop 2 _ h1
  rw [rowTab] at h2
  exact Lib.tabIs_of_head gTab gTabType Tryd.underlying168 Tryd.underlying155 cellsE cellsT h2
theorem known {W : Go.World} (h : laidMetH Tryd.prog Rows.fnExactUnparseCoreRow.laid W) : Kn Tryd.prog W (allI W) := by
  have lt : ∀ {n : String} {g : Nat} {cs : Array Value}, Tryd.prog.globalNamed n = some g → W.var? Tryd.prog n = some cs → g < W.heap.size := fun {n g cs} hg hv => by
    rcases Nat.lt_or_ge g W.heap.size with e | e
    · exact e
    · unfold World.var? at hv; rw [hg, Option.bind_some, Array.getElem?_eq_none e] at hv; cases hv
  exact ⟨fun g hg => ⟨lt hg (tab h), fun _ hb => hb, _, tab h, rfl⟩, fun e => absurd e (by decide)⟩
set_option maxRecDepth 100000 in
theorem contract (H : Type) (enc : TypeId × Value → H) (W : Go.World) (base : Nat) (args : Array Value) (ds gs : List (DataW H)) (before : List MemPlace)
    (hval0 : ∀ (j : Nat) t v, Tryd.f5.params[j]? = some t → args[j]? = some v → Value.okWide Tryd.prog W .any base t v)
    (hW : DataW.Whole enc Tryd.prog Tryd.f5.params.toList Rows.fnExactUnparseCoreSpec.vars false W args.toList ds gs before) (hL : laidMetH Tryd.prog Rows.fnExactUnparseCoreRow.laid W) :
    Calls Tryd.prog 5 args W fun e W' => ∃ v, e = .returned v ∧ Rows.fnExactUnparseCoreSpec.post enc Tryd.prog Tryd.f5 false true false false W args v W' := by
  have hval : ∀ (j : Nat) t v, Tryd.f5.params[j]? = some t → args[j]? = some v → Value.okWide Tryd.prog W .any base t v := hval0
  have hW' := hW
  obtain ⟨p, q, hA0, hV, rfl, hfz, hnd⟩ := hW
  obtain ⟨rfl, rfl⟩ := trodVars_none hV
  have hA : DataW.TrodAll enc Tryd.prog W 0 (fun _ => true) true Tryd.f5.params.toList args.toList ds p := hA0
  rw [Tryd.params5] at hA hval
  have hA2 := hA
  clear hA0 hval0
  obtain ⟨v0, vs0, d0, ds0, p0, q0, hargs0, rfl, rfl, h0, r0⟩ := trodAll_cons hA
  obtain ⟨rfl, rfl, rfl⟩ := trodAll_nil r0
  obtain rfl : args = #[v0] := by cases args; simp_all
  obtain ⟨a0, c0⟩ := (let ⟨fuel, hf⟩ := h0; rd_core fuel _ _ hf)
  have s0 : SVRel W (allI W) (obOf []) (coreA a0) v0 := agg_rel (let ⟨cs, h, _⟩ := okWide_struct Tryd.underlying39 (hval 0 39 v0 rfl rfl); ⟨cs, h⟩) c0
  refine (CallOK.kept (w := W) (vals := #[v0]) (c_LUnp a0) (known hL) ⟨s0, trivial⟩).mono fun e W' ⟨he, hg, _⟩ => ?_
  subst he
  exact ⟨_, rfl, post_of_kept (pv := []) hW' (fun _ _ _ => (trodAll_cons_mk (shut_bool Tryd.underlying4 _) trodAll_mk0))
    (fun sp hsp => trodAll_kept laidO rowed sized hg (by decide +kernel) hA2 fun y hy => hsp y (by simpa using hy)) (fun _ _ => rfl) rfl
    hg (ok_one (by kernel_rfl) rfl (okWide_bool_mk Tryd.underlying4 _))⟩
def litsV : DataW PUnit.{1} → Array Value
  | .agg l => (l.map fun x => match x with | .lit (.int k n) => Value.int k n | _ => .bool false).toArray
  | _ => #[]
noncomputable def laidWorld (os : Os) : Go.World :=
  { World.holding Tryd.prog os ⟨#[], #[], []⟩ with heap := ((((World.holding Tryd.prog os ⟨#[], #[], []⟩).heap.modify 3 fun | .cells _ t z => .cells (litsV Rows.laid_math_bits_deBruijn32tab) t z | o => o).modify 4 fun | .cells _ t z => .cells (litsV Rows.laid_math_bits_deBruijn64tab) t z | o => o).modify 0 fun | .cells _ t z => .cells (litsV Rows.laid_internal_strconv_uint64pow10) t z | o => o) }
abbrev arg0 : Array Value := #[.agg #[.int .i64 0, .int .i64 0, .slice none 0 0, .int .i64 0, .int .i64 0, .string ⟨#[]⟩, .slice none 0 0, .slice none 0 0]]
theorem laid_met (os : Os) : laidMet Tryd.prog Rows.fnExactUnparseCoreRow.laid ((laidWorld os).forCall (fun _ _ => 0) ⟨#[], arg0, []⟩).memory :=
  laidMet_of_run' 8 (by kernel_rfl) (by kernel_rfl)
theorem reads (os : Os) {H : Type} (enc : TypeId × Value → H) : ∃ places, DataW.whole enc Tryd.prog ((laidWorld os).forCall (fun _ _ => 0) ⟨#[], arg0, []⟩).memory Tryd.f5.params.toList Rows.fnExactUnparseCoreSpec.vars false arg0.toList 12 = some ([.agg [.lit (.int .i64 0), .lit (.int .i64 0), .nil, .agg [.lit (.int .i64 0), .lit (.int .i64 0), .lit (.string []), .nil], .nil]], [], places) :=
  ⟨[], by kernel_rfl⟩
set_option maxRecDepth 100000 in
theorem lifted (os : Os) (started : os.Started) (H : Type) (enc : TypeId × Value → H) (F : Stop.Interp) :
    ReturnsInHanded {} Tryd.checked os 5 .any ((OpenSpec.ofChange Rows.fnExactUnparseCoreSpec).preRow enc Tryd.prog Tryd.f5 Rows.fnExactUnparseCoreRow.domain false Rows.fnExactUnparseCoreRow.laid) (((OpenSpec.ofChange Rows.fnExactUnparseCoreSpec).at F).post enc Tryd.prog Tryd.f5 false true false false) := by
  obtain ⟨places, hx⟩ := reads os enc
  refine returnsInHanded_of_row (C := Tryd.checked) (s := OpenSpec.ofChange Rows.fnExactUnparseCoreSpec) own started (by kernel_rfl) Tryd.func5
    (witness_row_at (enc := enc) (C := Tryd.checked) false (laidWorld os) arg0 rfl (by kernel_rfl) (by kernel_rfl) (by kernel_rfl)
      (OpenSpec.preRow_of_cond 12 hx (by kernel_rfl) (fun k hk => by cases hk) (by kernel_rfl) (laid_met os))) ?_
  intro W base args ds gs before hval hW _ _ _ hL _ _
  exact contract H enc W base args ds gs before hval hW hL
set_option maxRecDepth 100000 in
set_option maxHeartbeats 0 in
theorem facts : joinedFacts Tryd.pinned.checked.prog 5 Tryd.f5 Rows.fnExactUnparseCoreSpec Rows.fnExactUnparseCoreRow = true := by
  delta joinedFacts
  with_reducible repeat' apply and_i
  all_goals (first | with_reducible exact enters | (rw [makes]; kernel_rfl) | (rw [lifts]; kernel_rfl) | decide +kernel | kernel_rfl)
theorem said : Rows.FnExactUnparseCoreSaid :=
  OpenClaim.holds_of_cond 5 Tryd.f5 rfl rfl rfl rfl rfl rfl rfl ⟨rfl, rfl, rfl, rfl, rfl⟩ rfl rfl rfl rfl rfl (by kernel_rfl) Tryd.func5 facts
    (of_decide_eq_true (by kernel_rfl)) (by unfold Func.isWrapper; first | (rw [if_pos (by decide +kernel)]; kernel_rfl) | (rw [if_neg (by decide +kernel)]; exact ⟨rfl, rfl⟩))
    (fun os started H enc _ F => by rw [OpenClaim.pre_eq_preRow]; exact lifted os started H enc F)
theorem plain (k : FuncId) (fn : Func) (hf : Tryd.pinned.checked.prog.funcNamed Rows.fnExactUnparseCoreRow.func = some k) (hfn : Tryd.pinned.checked.prog.funcs[k]? = some fn) :
    true = Tryd.pinned.checked.prog.looks [] ∧ ∀ (j : Nat) t, fn.params[j]? = some t → Tryd.pinned.checked.prog.wantsStandIn t = false := by
  obtain rfl : k = 5 := Option.some.inj ((show Tryd.prog.funcNamed Rows.fnExactUnparseCoreRow.func = some 5 by kernel_rfl).symm.trans hf) |>.symm
  obtain rfl : fn = Tryd.f5 := (Option.some.inj (Tryd.func5.symm.trans hfn)).symm
  refine ⟨by kernel_rfl, fun j t ht => ?_⟩
  rw [Tryd.params5] at ht
  have hm := Array.mem_of_getElem? ht
  have hall : ([39].all fun u => !Tryd.prog.wantsStandIn u) = true := by kernel_rfl
  exact (show Tryd.prog.wantsStandIn t = false by simpa using List.all_eq_true.1 hall t (by simpa using hm))
theorem proved : Rows.FnExactUnparseCoreCardSaid :=
  Claim7.holds_tied_plain_at .later [] _ _ _ _ said (fun _ h => by cases h) (by kernel_rfl) (fun _ h => by cases h) fnExactUnparseCore_row_tie rfl ⟨rfl, rfl⟩ (by kernel_rfl) rfl plain (by kernel_rfl)
end Go.Proofs.YtpflccjienojfaaDoor.fnExactUnparseCore
end
