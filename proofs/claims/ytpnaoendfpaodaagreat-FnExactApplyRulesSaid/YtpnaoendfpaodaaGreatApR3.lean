/- Part 3 of the proof: The program's ApplyRules returns what the reference's returns, for all arguments. No condition. -/
import Derived.Test.YtpnaoendfpaodaaGreatApR2
section
namespace Go.Proofs.YtpnaoendfpaodaaGreat
open Go Go.Proofs.YtpnaoendfpaodaaGreat.Ab
set_option linter.unusedVariables false
set_option linter.unusedSimpArgs false
set_option maxHeartbeats 4000000
abbrev P_c_iAll (B : List Binding) (Ls : List Syntax) (ps : List Syntax) (fs : List Syntax) (o : List Capture) : Ct := ⟨194, [.arr true 12 (o.map captureC)], [.agg [vL (B.map bindingC), vL (Ls.map syntaxC)], ll (ps.map syntaxC), ll (fs.map syntaxC), .one (.ref 0)], [.dead, .arr true 12 ((alO o (alM (gI B Ls) ps fs)).map captureC)], .tup [.one (.ref 1), lb (alM (gI B Ls) ps fs).isSome]⟩
abbrev P_c_iMat (B : List Binding) (Ls : List Syntax) (p : Syntax) (f : Syntax) (o : List Capture) : Ct := ⟨111, [.arr true 12 (o.map captureC)], [.agg [vL (B.map bindingC), vL (Ls.map syntaxC)], syntaxA p, syntaxA f, .one (.ref 0)], [.dead, .arr true 12 ((smO p o (gI B Ls p f)).map captureC)], .tup [.one (.ref 1), lb (gI B Ls p f).isSome]⟩
def lc_iAllLa (B : List Binding) (Ls : List Syntax) (ps : List Syntax) (fs : List Syntax) (o : List Capture) : Lp Nat := .mk 37 1 (fun x => [(1, ll (List.map syntaxC ps)), (2, ll
 (List.map syntaxC fs)), (3, SV.one (AC.ref 1)), (4, SV.one (AC.ptr 2 0)), (14, li (↑(List.map syntaxC ps).length : Int)), (15, hs x 0)]) (fun x => [Ob.dead, ho x 1, Ob.box [vL
 (List.map bindingC B), vL (List.map syntaxC Ls)]]) (fun k => [.s (li (↑k : Int)), .o (Ob.arr true 12 (List.map captureC (alO o (alM (gI B Ls) (List.take k ps) fs))))]) (fun k => k
 ≤ ps.length ∧ ps.length ≤ 9223372036854775807 ∧ (alM (gI B Ls) (List.take k ps) fs).isSome = true) (fun k => ps.length - k) [.mk ((alM (gI B Ls) ps fs).isSome = true) (.exit 0)
 (fun x => [(3, SV.one (AC.ref 1))]) (fun x => [Ob.dead, ho x 0]) [.o (Ob.arr true 12 (List.map captureC (alO o (alM (gI B Ls) ps fs))))], .mk ((alM (gI B Ls) ps fs).isSome =
 false) .ret (fun x => [(8, hs x 0), (9, hs x 1)]) (fun x => [Ob.dead]) [.s (SV.one (AC.val (Cell.lit (Value.slice none 0 0)))), .s (lb false)]]
theorem Sc_iAllLa (B : List Binding) (Ls : List Syntax) (ps : List Syntax) (fs : List Syntax) (o : List Capture) (h : B.length ≤ 1048577 ∧ sumBy wB B ≤ 1048577 ∧ sumBy wY ps ≤
 1048576 ∧ sumBy wY fs ≤ 1000000000 ∧ o.length + sumBy sizeY ps ≤ 2147483647 ∧ ps.length ≤ fs.length ∧ ps.length ≤ 1048576) (hd : ∀ (z : Syntax), z ∈ ps → good Ls z ∧ depY z ≤ 40)
 (hl : Ls.all litP = true) (ih : ∀ (z : Syntax), z ∈ ps → ∀ (B : List Binding) (Ls : List Syntax) (f : Syntax) (o : List Capture), B.length ≤ 1048577 ∧ sumBy wB B ≤ 1048577 ∧ wY z
 ≤ 1048576 ∧ wY f ≤ 1000000000 ∧ o.length + sizeY z ≤ 2147483647 ∧ depY z ≤ 40 → Ls.all litP = true → good Ls z → OK (P_c_iMat B Ls z f o)) : Lp.Sem Tryz.prog (loopAt Tryz.f194 0)
 (lc_iAllLa B Ls ps fs o) := lpOK (fun k => .i ((↑k : Int) < (↑(List.map syntaxC ps).length : Int)) (.w (.draw [(10, [1])]) (.x (↑k : Int) (List.map syntaxC ps) (syntaxF (ps.getD k
 default)) (.x (↑k : Int) (List.map syntaxC fs) (syntaxF (fs.getD k default)) (.d [.rd, .rd, .rd, .own true 12] (P_c_iMat B Ls (ps.getD k default) (fs.getD k default) (alO o (alM
 (gI B Ls) (List.take k ps) fs))) (.b (!(gI B Ls (ps.getD k default) (fs.getD k default)).isSome) (.o 1 [0] [.s (SV.one (AC.val (Cell.lit (Value.slice none 0 0)))), .s (lb false)])
 (.r ((↑k : Int) + 1) (.g [0, 4, 2] (k + 1) [.s (li ((↑k : Int) + 1)), .o (Ob.arr true 12 (List.map captureC (smO (ps.getD k default) (alO o (alM (gI B Ls) (List.take k ps) fs))
 (gI B Ls (ps.getD k default) (fs.getD k default)))))]))))))) (.o 0 [0, 1] [.o (Ob.arr true 12 (List.map captureC (alO o (alM (gI B Ls) (List.take k ps) fs))))])) (by
  intro k h; try dsimp only [teasy, nthW, lc_iAllLa] at h ⊢
  have g1 := @al_go (gI B Ls) ps fs o k
  have g2 := @al_stop (gI B Ls) ps fs (k + 1)
  have g3 := @al_all (gI B Ls) ps fs k
  have g4 := @alO_len B Ls o (ps.take k) fs
  have g5 := hd (ps.getD k default)
  have g6 := @sumBy_mem _ wY ps (ps.getD k default)
  have g7 := @sumBy_mem _ wY fs (fs.getD k default)
  have g8 := @sumBy_step _ _ sizeY ps k
  have g9 := sumBy_takeLe sizeY ps (k + 1)
  with_reducible repeat' (first | apply And.intro | exact zR | exact ih | (intro; skip) | apply ih)
  all_goals (try simp only [std, inj] at *)
  all_goals with_reducible repeat' apply And.intro
  all_goals (try (first | with_reducible apply ih | (simp only [← List.map_append]; first | with_reducible apply ih)))
  all_goals (try (first | exact z | grind [getD_mem', snocI, snocS, rowSnoc])))
theorem c_iAll (B : List Binding) (Ls : List Syntax) (ps fs : List Syntax) (o : List Capture) (h : B.length ≤ 1048577 ∧ sumBy wB B ≤ 1048577 ∧ sumBy wY ps ≤ 1048576 ∧ sumBy wY fs ≤
 1000000000 ∧ o.length + sumBy sizeY ps ≤ 2147483647 ∧ ps.length ≤ fs.length ∧ ps.length ≤ 1048576) (hd : ∀ z ∈ ps, good Ls z ∧ depY z ≤ 40) (hl : Ls.all litP = true) (ih : ∀ z ∈
 ps, ∀ (B : List Binding) (Ls : List Syntax) (f : Syntax) (o : List Capture) (h : B.length ≤ 1048577 ∧ sumBy wB B ≤ 1048577 ∧ wY z ≤ 1048576 ∧ wY f ≤ 1000000000 ∧ o.length + sizeY
 z ≤ 2147483647 ∧ depY z ≤ 40) (hl : Ls.all litP = true) (hg : good Ls z), P_c_iMat B Ls z f o)  : P_c_iAll B Ls ps fs o := fnOK Tryz.call194 Tryz.func194 (.z syntaxC ps (.w (.ghost
 (.move 0)) (.l (lc_iAllLa B Ls ps fs o) (Sc_iAllLa B Ls ps fs o h hd hl ih) [0, 2, 1] [.s (li 0), .o (Ob.arr true 12 (List.map captureC o))] 0 (.t (.f [1] [Ob.dead, Ob.arr true 12
 (List.map captureC (alO o (alM (gI B Ls) ps fs)))] (AV.tup [SV.one (AC.ref 1), lb true])) (.t (.w (.ghost (.nilreg 8 true 12)) (.f [1] [Ob.dead, Ob.arr true 12 []] (AV.tup [SV.one
 (AC.ref 1), lb false]))) .q))))) (by
  dsimp only [teasy, P_c_iAll, nthW, lc_iAllLa]
  have g1 := @al_zero (gI B Ls) ps fs o
  have g2 : (alM (gI B Ls) ps fs).isSome = false → alO o (alM (gI B Ls) ps fs) = [] := fun h => by cases e : alM (gI B Ls) ps fs <;> simp_all [alO]
  with_reducible repeat' (first | apply And.intro | exact zR | exact ih | (intro; skip))
  all_goals (try simp only [std, inj] at *)
  all_goals with_reducible repeat' apply And.intro
  all_goals (try (first | with_reducible apply ih | (simp only [← List.map_append]; first | with_reducible apply ih)))
  all_goals (try (first | exact z | grind [snocI, snocS, rowSnoc])))
def lc_iMat_sLb (B : List Binding) (Ls : List Syntax) (p : Syntax) (f : Syntax) (o : List Capture) (k : Nat) : Lp Nat := .mk 217 1 (fun x => [(3, SV.one (AC.ref 1)), (4, SV.one
 (AC.ptr 2 0)), (5, SV.one (AC.ptr 3 0)), (6, SV.one (AC.ptr 4 0)), (10, li (atI p.items)), (11, ll (List.take ((atI p.items - 1).toNat - 0) (List.drop 0 (List.map syntaxC
 p.items)))), (12, ll (List.take ((List.map syntaxC p.items).length - (atI p.items + 1).toNat) (List.drop (atI p.items + 1).toNat (List.map syntaxC p.items)))), (13, li
 ((↑(List.map syntaxC f.items).length : Int) - (↑(List.take ((atI p.items - 1).toNat - 0) (List.drop 0 (List.map syntaxC p.items))).length : Int) - (↑(List.take ((List.map syntaxC
 p.items).length - (atI p.items + 1).toNat) (List.drop (atI p.items + 1).toNat (List.map syntaxC p.items))).length : Int))), (15, SV.one (AC.ref 5)), (17, li (↑k : Int)), (18,
 SV.one (AC.ref 6)), (181, li (↑(List.map captureC (rp (nI Ls (xI p)) (rI B Ls p f k))).length : Int)), (182, hs x 0)]) (fun x => [Ob.dead, Ob.arr true 12 (List.map captureC (alO o
 (alM (gI B Ls) (List.take ((atI p.items - 1).toNat - 0) (List.drop 0 p.items)) (List.take ((↑(List.take ((atI p.items - 1).toNat - 0) (List.drop 0 (List.map syntaxC
 p.items))).length : Int).toNat - 0) (List.drop 0 f.items))))), Ob.box [vL (List.map bindingC B), vL (List.map syntaxC Ls)], Ob.box (vals (syntaxF p)), Ob.box (vals (syntaxF f)),
 ho x 1, ho x 2]) (fun k1 => [.s (li (↑k1 : Int)), .o (Ob.arr true 12 (List.map captureC (rpTo (nI Ls (xI p)) (rI B Ls p f k) (oneI B Ls p f k) k1))), .o (Ob.arr true 12 (List.map
 capX (List.take k1 (oneI B Ls p f k)) ++ List.map captureC (List.drop k1 (oneI B Ls p f k))))]) (fun k1 => k1 ≤ (nI Ls (xI p)).length ∧ (nI Ls (xI p)).length ≤ 9223372036854775807
 ∧ k < mI2 p f ∧ fI p f = true ∧ qI B Ls p f k = true ∧ (gI B Ls (xI p) (f.items.getD (aT p + k) default)).isSome = true ∧ (rI B Ls p f k).length ≤ 1000000000) (fun k1 => (nI Ls
 (xI p)).length - k1) [.mk True (.exit 3) (fun x => [(3, SV.one (AC.ref 1)), (4, SV.one (AC.ptr 2 0)), (5, SV.one (AC.ptr 3 0)), (6, SV.one (AC.ptr 4 0)), (10, li (atI p.items)),
 (11, ll (List.take ((atI p.items - 1).toNat - 0) (List.drop 0 (List.map syntaxC p.items)))), (12, ll (List.take ((List.map syntaxC p.items).length - (atI p.items + 1).toNat)
 (List.drop (atI p.items + 1).toNat (List.map syntaxC p.items)))), (13, li ((↑(List.map syntaxC f.items).length : Int) - (↑(List.take ((atI p.items - 1).toNat - 0) (List.drop 0
 (List.map syntaxC p.items))).length : Int) - (↑(List.take ((List.map syntaxC p.items).length - (atI p.items + 1).toNat) (List.drop (atI p.items + 1).toNat (List.map syntaxC
 p.items))).length : Int))), (15, SV.one (AC.ref 5)), (17, li (↑k : Int))]) (fun x => [Ob.dead, Ob.arr true 12 (List.map captureC (alO o (alM (gI B Ls) (List.take ((atI p.items -
 1).toNat - 0) (List.drop 0 p.items)) (List.take ((↑(List.take ((atI p.items - 1).toNat - 0) (List.drop 0 (List.map syntaxC p.items))).length : Int).toNat - 0) (List.drop 0
 f.items))))), Ob.box [vL (List.map bindingC B), vL (List.map syntaxC Ls)], Ob.box (vals (syntaxF p)), Ob.box (vals (syntaxF f)), ho x 0]) [.o (Ob.arr true 12 (List.map captureC
 (rp (nI Ls (xI p)) (rI B Ls p f (k + 1)))))]]
def lc_iMat_sLa (B : List Binding) (Ls : List Syntax) (p : Syntax) (f : Syntax) (o : List Capture) : Lp Nat := .mk 217 1 (fun x => [(3, SV.one (AC.ref 1)), (4, SV.one (AC.ptr 2
 0)), (5, SV.one (AC.ptr 3 0)), (6, SV.one (AC.ptr 4 0)), (10, li (atI p.items)), (11, ll (List.take ((atI p.items - 1).toNat - 0) (List.drop 0 (List.map syntaxC p.items)))), (12,
 ll (List.take ((List.map syntaxC p.items).length - (atI p.items + 1).toNat) (List.drop (atI p.items + 1).toNat (List.map syntaxC p.items)))), (13, li ((↑(List.map syntaxC
 f.items).length : Int) - (↑(List.take ((atI p.items - 1).toNat - 0) (List.drop 0 (List.map syntaxC p.items))).length : Int) - (↑(List.take ((List.map syntaxC p.items).length -
 (atI p.items + 1).toNat) (List.drop (atI p.items + 1).toNat (List.map syntaxC p.items))).length : Int))), (15, SV.one (AC.ref 5)), (17, hs x 0)]) (fun x => [Ob.dead, Ob.arr true
 12 (List.map captureC (alO o (alM (gI B Ls) (List.take ((atI p.items - 1).toNat - 0) (List.drop 0 p.items)) (List.take ((↑(List.take ((atI p.items - 1).toNat - 0) (List.drop 0
 (List.map syntaxC p.items))).length : Int).toNat - 0) (List.drop 0 f.items))))), Ob.box [vL (List.map bindingC B), vL (List.map syntaxC Ls)], Ob.box (vals (syntaxF p)), Ob.box
 (vals (syntaxF f)), ho x 1]) (fun k => [.s (li (↑k : Int)), .o (Ob.arr true 12 (List.map captureC (rp (nI Ls (xI p)) (rI B Ls p f k))))]) (fun k => k ≤ mI2 p f ∧ fI p f = true ∧
 qI B Ls p f k = true) (fun k => mI2 p f - k) [.mk (qI B Ls p f (mI2 p f) = true) (.exit 1) (fun x => [(3, SV.one (AC.ref 1)), (4, SV.one (AC.ptr 2 0)), (6, SV.one (AC.ptr 3 0)),
 (11, ll (List.take ((atI p.items - 1).toNat - 0) (List.drop 0 (List.map syntaxC p.items)))), (12, ll (List.take ((List.map syntaxC p.items).length - (atI p.items + 1).toNat)
 (List.drop (atI p.items + 1).toNat (List.map syntaxC p.items)))), (13, li ((↑(List.map syntaxC f.items).length : Int) - (↑(List.take ((atI p.items - 1).toNat - 0) (List.drop 0
 (List.map syntaxC p.items))).length : Int) - (↑(List.take ((List.map syntaxC p.items).length - (atI p.items + 1).toNat) (List.drop (atI p.items + 1).toNat (List.map syntaxC
 p.items))).length : Int))), (15, SV.one (AC.ref 4))]) (fun x => [Ob.dead, Ob.arr true 12 (List.map captureC (alO o (alM (gI B Ls) (List.take ((atI p.items - 1).toNat - 0)
 (List.drop 0 p.items)) (List.take ((↑(List.take ((atI p.items - 1).toNat - 0) (List.drop 0 (List.map syntaxC p.items))).length : Int).toNat - 0) (List.drop 0 f.items))))), Ob.box
 [vL (List.map bindingC B), vL (List.map syntaxC Ls)], Ob.box (vals (syntaxF f)), ho x 0]) [.o (Ob.arr true 12 (List.map captureC (rp (nI Ls (xI p)) (rI B Ls p f (mI2 p f)))))],
 .mk ((gI B Ls p f).isSome = false) .ret (fun x => [(8, hs x 0), (9, hs x 1)]) (fun x => [Ob.dead]) [.s (SV.one (AC.val (Cell.lit (Value.slice none 0 0)))), .s (lb false)]]
theorem Sc_iMat_sLb (B : List Binding) (Ls : List Syntax) (p : Syntax) (f : Syntax) (o : List Capture) (h : B.length ≤ 1048577 ∧ sumBy wB B ≤ 1048577 ∧ wY p ≤ 1048576 ∧ wY f ≤
 1000000000 ∧ o.length + sizeY p ≤ 2147483647 ∧ depY p ≤ 40) (hl : Ls.all litP = true) (hg : good Ls p) (ih : ∀ (z : Syntax), z ∈ p.items → ∀ (B : List Binding) (Ls : List Syntax)
 (f : Syntax) (o : List Capture), B.length ≤ 1048577 ∧ sumBy wB B ≤ 1048577 ∧ wY z ≤ 1048576 ∧ wY f ≤ 1000000000 ∧ o.length + sizeY z ≤ 2147483647 ∧ depY z ≤ 40 → Ls.all litP =
 true → good Ls z → OK (P_c_iMat B Ls z f o)) (k : Nat) : Lp.Sem Tryz.prog (loopAt Tryz.f111 1) (lc_iMat_sLb B Ls p f o k) := lpOK (fun k1 => let v1 := ((rpTo (nI Ls (xI p)) (rI B
 Ls p f k) (oneI B Ls p f k) k1).getD (↑k1 : Int).toNat default); let v2 := [cI 0, cI 0, cS (ByteArray.mk #[]), Cell.list [], Cell.list [], cI 0, cI 0, cI 0, cS (ByteArray.mk #[]),
 Cell.list [], Cell.list [], Cell.list []]; let v3 := (List.map captureC (rpTo (nI Ls (xI p)) (rI B Ls p f k) (oneI B Ls p f k) k1)); let v4 := ((oneI B Ls p f k).getD k1 default);
 let v5 := (List.map capX (List.take k1 (oneI B Ls p f k)) ++ List.map captureC (List.drop k1 (oneI B Ls p f k))); let v6 := [(↑k1 : Int).toNat, (↑k1 : Int).toNat, (↑k1 :
 Int).toNat, (↑k1 : Int).toNat, (↑k1 : Int).toNat]; let v7 := [cI v1.name.kind, cI v1.name.number, cS v1.name.text, Cell.list (List.map intC v1.name.scopes), Cell.list (List.map
 syntaxC v1.name.items), cI v1.depth, cI v1.form.kind, cI v1.form.number, cS v1.form.text, Cell.list (List.map intC v1.form.scopes), Cell.list (List.map syntaxC v1.form.items),
 Cell.any]; let v10 := (List.map captureC v1.each ++ [v2]); let v9 := (↑(List.map captureC v1.each).length : Int); let v8 := [cI v1.name.kind, cI v1.name.number, cS v1.name.text,
 Cell.list (List.map intC v1.name.scopes), Cell.list (List.map syntaxC v1.name.items), cI v1.depth, cI v1.form.kind, cI v1.form.number, cS v1.form.text, Cell.list (List.map intC
 v1.form.scopes), Cell.list (List.map syntaxC v1.form.items), Cell.list (v10.set v9.toNat (captureF v4))]; .i ((↑k1 : Int) < (↑(List.map captureC (rp (nI Ls (xI p)) (rI B Ls p f
 k))).length : Int)) (.w (.drawT 13 16 12 [(11, [5, 7]), (13, [6, 9]), (16, [9, 5])]) (.p (0 ≤ (↑k1 : Int) ∧ (↑k1 : Int).toNat < v3.length) (.w .sub (.p ((↑k1 : Int).toNat <
 v3.length) (.p (0 ≤ (↑k1 : Int) ∧ (↑k1 : Int).toNat < v5.length) (.w (.subs (captureF v4)) (.p (v5[(↑k1 : Int).toNat]? = some (captureF v4)) (.w (.cells (captureF v1)) (.p
 (v3[(↑k1 : Int).toNat]? = some (captureF v1)) (.w (.subcall (captureF v1) (List.map captureC v1.each) 12) (.p (v3[(↑k1 : Int).toNat]? = some (captureF v1)) (.p (some (Cell.list
 (List.map captureC v1.each)) = some (Cell.list (List.map captureC v1.each))) (.p (∀ (x : List Cell), x ∈ List.map captureC v1.each → x.length = 12) (.p (((List.map captureC
 v1.each).length + 1) * 192 ≤ 140737488355328) (.p (0 ≤ v9 ∧ v9.toNat < v10.length) (.w (.subs (captureF v4)) (.w (.cells v2) (.p (v6 = v6) (.p (v5[(↑k1 : Int).toNat]? = some
 (captureF v4)) (.p (v10[v9.toNat]? = some v2) (.p (0 ≤ (↑k1 : Int) ∧ (↑k1 : Int).toNat < (v3.set (↑k1 : Int).toNat v7).length) (.w (.take v7 (v3.set (↑k1 : Int).toNat v8) 0) (.p
 ((v3.set (↑k1 : Int).toNat v7)[(↑k1 : Int).toNat]? = some v7) (.p ((v3.set (↑k1 : Int).toNat v7).set (↑k1 : Int).toNat v8 = v3.set (↑k1 : Int).toNat v8) (.p (v9.toNat <
 v10.length) (.p ((↑k1 : Int).toNat < (v3.set (↑k1 : Int).toNat v7).length) (.z captureC v1.each (.r ((↑k1 : Int) + 1) (.g [0, 1, 2, 3, 4, 5, 6] (k1 + 1) [.s (li ((↑k1 : Int) +
 1)), .o (Ob.arr true 12 (v3.set (↑k1 : Int).toNat v8)), .o (Ob.arr true 12 (v5.set (↑k1 : Int).toNat [cI v4.name.kind, cI v4.name.number, cS v4.name.text, Cell.any, Cell.any, cI
 v4.depth, cI v4.form.kind, cI v4.form.number, cS v4.form.text, Cell.any, Cell.any, Cell.any]))]))))))))))))))))))))))))))))) (.o 0 [0, 1, 2, 3, 4, 5] [.o (Ob.arr true 12 v3)]))
 (by
  intro k1 h; try dsimp only [teasy, nthW, lc_iMat_sLb] at h ⊢
  have gl := rp_len (nI Ls (xI p)) (rI B Ls p f k)
  have g3 := rpTo_len (nI Ls (xI p)) (rI B Ls p f k) (oneI B Ls p f k) k1
  have gc := @oneI_len B Ls p f k
  have ge := @eachI_len B Ls p f k k1
  have gz := @eachI_end B Ls p f k k1
  with_reducible repeat' (first | apply And.intro | exact zR | (intro; skip))
  all_goals (try simp only [std, inj] at *)
  all_goals with_reducible repeat' apply And.intro
  all_goals (try (first | exact zw | exact List.set_set .. | exact one_getF (by grind) | exact one_step (by grind) | exact one_len (by grind) | exact each_step _ (by omega) | exact gz h.2.2.2.2.1 h.2.2.2.2.2.1 (by omega) | grind)))
theorem Sc_iMat_sLa (B : List Binding) (Ls : List Syntax) (p : Syntax) (f : Syntax) (o : List Capture) (h : B.length ≤ 1048577 ∧ sumBy wB B ≤ 1048577 ∧ wY p ≤ 1048576 ∧ wY f ≤
 1000000000 ∧ o.length + sizeY p ≤ 2147483647 ∧ depY p ≤ 40) (hl : Ls.all litP = true) (hg : good Ls p) (ih : ∀ (z : Syntax), z ∈ p.items → ∀ (B : List Binding) (Ls : List Syntax)
 (f : Syntax) (o : List Capture), B.length ≤ 1048577 ∧ sumBy wB B ≤ 1048577 ∧ wY z ≤ 1048576 ∧ wY f ≤ 1000000000 ∧ o.length + sizeY z ≤ 2147483647 ∧ depY z ≤ 40 → Ls.all litP =
 true → good Ls z → OK (P_c_iMat B Ls z f o)) : Lp.Sem Tryz.prog (loopAt Tryz.f111 0) (lc_iMat_sLa B Ls p f o) := lpOK (fun k => .i ((↑k : Int) < (↑(List.map syntaxC
 f.items).length : Int) - (↑(List.take ((atI p.items - 1).toNat - 0) (List.drop 0 (List.map syntaxC p.items))).length : Int) - (↑(List.take ((List.map syntaxC p.items).length -
 (atI p.items + 1).toNat) (List.drop (atI p.items + 1).toNat (List.map syntaxC p.items))).length : Int)) (.w (.draw []) (.r (atI p.items - 1) (.x (atI p.items - 1) (List.map
 syntaxC p.items) (syntaxF (p.items.getD (atI p.items - 1).toNat default)) (.r ((↑(List.take ((atI p.items - 1).toNat - 0) (List.drop 0 (List.map syntaxC p.items))).length : Int) +
 (↑k : Int)) (.x ((↑(List.take ((atI p.items - 1).toNat - 0) (List.drop 0 (List.map syntaxC p.items))).length : Int) + (↑k : Int)) (List.map syntaxC f.items) (syntaxF (f.items.getD
 ((List.take ((atI p.items - 1).toNat - 0) (List.drop 0 (List.map syntaxC p.items))).length + k) default)) (.d [.rd, .rd, .rd, .own true 12] (P_c_iMat B Ls (p.items.getD (atI
 p.items - 1).toNat default) (f.items.getD ((List.take ((atI p.items - 1).toNat - 0) (List.drop 0 (List.map syntaxC p.items))).length + k) default) []) (.h ((List.take ((atI
 p.items - 1).toNat - 0) (List.drop 0 (List.map syntaxC p.items))).length ≤ 9223372036854775807) (.b (!(gI B Ls (p.items.getD (atI p.items - 1).toNat default) (f.items.getD
 ((List.take ((atI p.items - 1).toNat - 0) (List.drop 0 (List.map syntaxC p.items))).length + k) default)).isSome) (.o 1 [0] [.s (SV.one (AC.val (Cell.lit (Value.slice none 0
 0)))), .s (lb false)]) (.z captureC (rp (nI Ls (xI p)) (rI B Ls p f k)) (.l (lc_iMat_sLb B Ls p f o k) (Sc_iMat_sLb B Ls p f o h hl hg ih k) [0, 1, 2, 3, 4, 5, 7] [.s (li 0), .o
 (Ob.arr true 12 (List.map captureC (rp (nI Ls (xI p)) (rI B Ls p f k)))), .o (Ob.arr true 12 (List.map captureC (smO (p.items.getD (atI p.items - 1).toNat default) [] (gI B Ls
 (p.items.getD (atI p.items - 1).toNat default) (f.items.getD ((List.take ((atI p.items - 1).toNat - 0) (List.drop 0 (List.map syntaxC p.items))).length + k) default)))))] 0 (.t
 (.r ((↑k : Int) + 1) (.g [0, 1, 2, 3, 4, 5] (k + 1) [.s (li ((↑k : Int) + 1)), .o (Ob.arr true 12 (List.map captureC (rp (nI Ls (xI p)) (rI B Ls p f (k + 1)))))])) .q)))))))))))
 (.o 0 [0, 1, 2, 4, 5] [.o (Ob.arr true 12 (List.map captureC (rp (nI Ls (xI p)) (rI B Ls p f k))))])) (by
  intro k h; try dsimp only [teasy, nthW, lc_iMat_sLa, lc_iMat_sLb] at h ⊢
  rename_i hh
  have gn := fI_nums h.2.1
  have gx := fI_x h.2.1 hg
  have e1 := pre_len h.2.1
  have e2 := post_len h.2.1
  have e3 := rI_len h.2.2
  have gl := len_w f
  have gs := nI_size (Ls := Ls) (xI p)
  have gt := sizeY_le (xI p)
  have g10 := rpTo_zero (nI Ls (xI p)) (rI B Ls p f k) (oneI B Ls p f k)
  have g12 := rp_len (nI Ls (xI p)) (rI B Ls p f k)
  have gw := @item_ok (aT p + k) f
  with_reducible repeat' (first | apply And.intro | exact zR | exact ih | (intro; skip))
  all_goals (try simp only [std, inj, e1, xI_def] at *)
  all_goals with_reducible repeat' apply And.intro
  all_goals (try (first | with_reducible apply ih))
  all_goals (try (first | exact zw | (have q := gw (by omega); omega) | exact round_none h.2.1 (by omega) h.2.2 (not_t ‹_›) | exact oneI_zero | exact not_f ‹_› | exact (rI_next h.2.2 (not_f ‹_›)).2 | exact qI_end (by omega) h.2.2 | exact rI_end (by omega) | grind)))
theorem c_iMat_s (B : List Binding) (Ls : List Syntax) (p f : Syntax) (o : List Capture) (h : B.length ≤ 1048577 ∧ sumBy wB B ≤ 1048577 ∧ wY p ≤ 1048576 ∧ wY f ≤ 1000000000 ∧
 o.length + sizeY p ≤ 2147483647 ∧ depY p ≤ 40) (hl : Ls.all litP = true) (hg : good Ls p) (ih : ∀ z ∈ p.items, ∀ (B : List Binding) (Ls : List Syntax) (f : Syntax) (o : List
 Capture) (h : B.length ≤ 1048577 ∧ sumBy wB B ≤ 1048577 ∧ wY z ≤ 1048576 ∧ wY f ≤ 1000000000 ∧ o.length + sizeY z ≤ 2147483647 ∧ depY z ≤ 40) (hl : Ls.all litP = true) (hg : good
 Ls z), P_c_iMat B Ls z f o)  : P_c_iMat B Ls p f o := fnOK Tryz.call111 Tryz.func111 (let v15 := (atI p.items - 1); let v14 := (List.map syntaxC p.items); let v7 := (↑(List.take
 (v15.toNat - 0) (List.drop 0 v14)).length : Int); let v11 := (↑(List.map syntaxC f.items).length : Int); let v17 := (atI p.items + 1); let v9 := (↑(List.take (v14.length -
 v17.toNat) (List.drop v17.toNat v14)).length : Int); let v1 := (v7 + (v11 - v7 - v9)); let v12 := (List.take (v15.toNat - 0) (List.drop 0 p.items)); let v18 := (List.take
 (v7.toNat - 0) (List.drop 0 f.items)); let v2 := (alM (gI B Ls) v12 v18); let v3 := (List.take (v14.length - v17.toNat) (List.drop v17.toNat p.items)); let v4 := ((List.take
 (v15.toNat - 0) (List.drop 0 v14)).length ≤ 9223372036854775807); let v26 := (AC.ref 1); let v5 := (AV.tup [SV.one v26, lb false]); let v6 := (0 ≤ v7 + (v11 - v7 - v9)); let v27
 := (List.take (v14.length - v17.toNat) (List.drop v17.toNat v14)); let v25 := (List.map syntaxC f.items); let v28 := (alO o v2 ++ rp (nI Ls (xI p)) (rI B Ls p f (mI2 p f))); let
 v13 := (List.take (v25.length - v1.toNat) (List.drop v1.toNat f.items)); let v21 := [Ob.dead, Ob.arr true 12 (List.map captureC (alO v28 (alM (gI B Ls) v3 v13)))]; let v24 :=
 (AV.tup [SV.one v26, lb (alM (gI B Ls) v3 v13).isSome]); let v8 := (CallOK Tryz.prog 194 [Ob.arr true 12 (List.map captureC (alO o v2) ++ List.map captureC (rp (nI Ls (xI p)) (rI
 B Ls p f (mI2 p f))))] [SV.agg [vL (List.map bindingC B), vL (List.map syntaxC Ls)], ll v27, ll (List.take (v25.length - v1.toNat) (List.drop v1.toNat v25)), SV.one (AC.ref 0)]
 v21 v24); let v10 := [Ob.dead, Ob.arr true 12 (List.map captureC o)]; let v16 := [Ob.dead, Ob.arr true 12 []]; let v19 := (CallOK Tryz.prog 194 [Ob.arr true 12 (List.map captureC
 o)] [SV.agg [vL (List.map bindingC B), vL (List.map syntaxC Ls)], ll (List.take (v15.toNat - 0) (List.drop 0 v14)), ll (List.take (v7.toNat - 0) (List.drop 0 v25)), SV.one (AC.ref
 0)] [Ob.dead, Ob.arr true 12 (List.map captureC (alO o v2))] (AV.tup [SV.one v26, lb v2.isSome])); let v20 := [Ob.dead, Ob.arr true 12 (List.map captureC o ++ [[cI p.kind, cI
 p.number, cS p.text, Cell.list (List.map intC p.scopes), Cell.list v14, cI 0, cI f.kind, cI f.number, cS f.text, Cell.list (List.map intC f.scopes), Cell.list v25, Cell.list
 []]])]; let v22 := (((List.map captureC (alO o v2)).length + (List.map captureC (rp (nI Ls (xI p)) (rI B Ls p f (mI2 p f)))).length) * 192 ≤ 140737488355328); let v23 :=
 (p.items.getD v15.toNat default); let v29 := [(6, [4, 5, 12, 13]), (7, [0, 20])]; let v30 := [Ob.dead, Ob.arr true 12 (List.map captureC (alO o (alM (gI B Ls) p.items f.items)))];
 let v31 := (((List.map captureC o).length + 1) * 192 ≤ 140737488355328); let v32 := (Ob.arr true 12 (List.map captureC ((vrI Ls v23 1 []).getD []))); .c [.rd] (c_iWild p) (.b
 (decide (p.kind = 1) && isUnd p) (.w (.ghost (.move 0)) (.f [4] v10 (AV.tup [SV.one v26, lb true]))) (.i (p.kind = 1) (.c [.rd, .rd] (c_iHasJ Ls p) (.b (hasJ Ls p) (.i (f.kind =
 1) (.d [.rd, .rd, .rd] (P_c_iMean B p f) (.w (.ghost (.move 0)) (.f [4] v10 (AV.tup [SV.one v26, lb (mng B p f)])))) (.w (.ghost (.move 0)) (.f [4] v10 v5))) (.i (p.kind = 1) (.w
 (.draw v29) (.d [.rd] (P_c_iCopyY p) (.d [.rd] (P_c_iCopyY f) (.p v31 (.f [21] v20 (AV.tup [SV.one v26, lb true])))))) (.i (p.kind ≠ 0) (.w (.draw []) (.i (f.kind = p.kind) (.i
 (f.number = p.number) (.w (.ghost (.move 0)) (.f [4] v10 (AV.tup [SV.one v26, lb (decide (f.text.data.toList = p.text.data.toList))]))) (.w (.ghost (.move 0)) (.f [4] v10 v5)))
 (.y false (.w (.ghost (.move 0)) (.f [4] v10 v5))))) (.i (f.kind ≠ 0) (.w (.ghost (.nilreg 8 true 12)) (.w (.ghost (.move 0)) (.f [4] v16 v5))) (.c [.rd] (c_iAt p.items) (.i (atI
 p.items < 0) (.z syntaxC p.items (.z syntaxC f.items (.i ((↑(List.map syntaxC p.items).length : Int) ≠ v11) (.w (.ghost (.nilreg 8 true 12)) (.w (.ghost (.move 0)) (.f [4] v16
 v5))) (.d [.rd, .rd, .rd, .own true 12] (P_c_iAll B Ls p.items f.items o) (.f [5] v30 (AV.tup [SV.one v26, lb (alM (gI B Ls) p.items f.items).isSome])))))) (.r v15 (.p (0 ≤ atI
 p.items - 1) (.p (0 ≤ v15.toNat ∧ v15.toNat ≤ v14.length ∧ ∀ (e : List Cell), e ∈ List.map syntaxC p.items → e.length = 5) (.r v17 (.p (0 ≤ atI p.items + 1) (.p (v17.toNat ≤
 v14.length ∧ v14.length ≤ v14.length ∧ ∀ (e : List Cell), e ∈ List.map syntaxC p.items → e.length = 5) (.z syntaxC f.items (.h v4 (.r (v11 - v7) (.h (v27.length ≤
 9223372036854775807) (.r (v11 - v7 - v9) (.i (v11 - v7 - v9 < 0) (.w (.ghost (.nilreg 8 true 12)) (.w (.ghost (.move 0)) (.f [4] v16 v5))) (.w (.draw [(8, [0])]) (.p (0 ≤ v7) (.p
 (0 ≤ v7.toNat ∧ v7.toNat ≤ v25.length ∧ ∀ (e : List Cell), e ∈ List.map syntaxC f.items → e.length = 5) (.u [.rd, .rd, .rd, .own true 12] (P_c_iAll B Ls v12 v18 o) (.p v19 (.h v4
 (.b (!(alM (gI B Ls) v12 v18).isSome) (.w (.ghost (.nilreg 8 true 12)) (.f [6] v16 v5)) (.w (.draw []) (.r v15 (.x v15 v14 (syntaxF v23) (.d [.rd, .rd, .rd, .own true 12]
 (P_c_iVars Ls v23 1 []) (.l (lc_iMat_sLa B Ls p f o) (Sc_iMat_sLa B Ls p f o h hl hg ih) [0, 5, 1, 2, 3, 7] [.s (li 0), .o v32] 0 (.t (.p v22 (.w (.draw [(10, [5])]) (.r v1 (.p v6
 (.p (v1.toNat ≤ v25.length ∧ v25.length ≤ v25.length ∧ ∀ (e : List Cell), e ∈ List.map syntaxC f.items → e.length = 5) (.u [.rd, .rd, .rd, .own true 12] (P_c_iAll B Ls v3 v13 v28)
 (.p v8 (.h v4 (.f [7] v21 v24))))))))) (.t (.w (.ghost (.nilreg 8 true 12)) (.f [1] v16 v5)) .q))))))))))))))))))))))))))))))))) (.y false (.i (p.kind = 1) (.w (.draw v29) (.d
 [.rd] (P_c_iCopyY p) (.d [.rd] (P_c_iCopyY f) (.p v31 (.f [21] v20 (AV.tup [SV.one v26, lb true])))))) (.i (p.kind ≠ 0) (.w (.draw []) (.i (f.kind = p.kind) (.i (f.number =
 p.number) (.w (.ghost (.move 0)) (.f [4] v10 (AV.tup [SV.one v26, lb (decide (f.text.data.toList = p.text.data.toList))]))) (.w (.ghost (.move 0)) (.f [4] v10 v5))) (.y false (.w
 (.ghost (.move 0)) (.f [4] v10 v5))))) (.i (f.kind ≠ 0) (.w (.ghost (.nilreg 8 true 12)) (.w (.ghost (.move 0)) (.f [4] v16 v5))) (.c [.rd] (c_iAt p.items) (.i (atI p.items < 0)
 (.z syntaxC p.items (.z syntaxC f.items (.i ((↑(List.map syntaxC p.items).length : Int) ≠ v11) (.w (.ghost (.nilreg 8 true 12)) (.w (.ghost (.move 0)) (.f [4] v16 v5))) (.d [.rd,
 .rd, .rd, .own true 12] (P_c_iAll B Ls p.items f.items o) (.f [5] v30 (AV.tup [SV.one v26, lb (alM (gI B Ls) p.items f.items).isSome])))))) (.r v15 (.p (0 ≤ atI p.items - 1) (.p
 (0 ≤ v15.toNat ∧ v15.toNat ≤ v14.length ∧ ∀ (e : List Cell), e ∈ List.map syntaxC p.items → e.length = 5) (.r v17 (.p (0 ≤ atI p.items + 1) (.p (v17.toNat ≤ v14.length ∧
 v14.length ≤ v14.length ∧ ∀ (e : List Cell), e ∈ List.map syntaxC p.items → e.length = 5) (.z syntaxC f.items (.h v4 (.r (v11 - v7) (.h (v27.length ≤ 9223372036854775807) (.r (v11
 - v7 - v9) (.i (v11 - v7 - v9 < 0) (.w (.ghost (.nilreg 8 true 12)) (.w (.ghost (.move 0)) (.f [4] v16 v5))) (.w (.draw [(8, [0])]) (.p (0 ≤ v7) (.p (0 ≤ v7.toNat ∧ v7.toNat ≤
 v25.length ∧ ∀ (e : List Cell), e ∈ List.map syntaxC f.items → e.length = 5) (.u [.rd, .rd, .rd, .own true 12] (P_c_iAll B Ls v12 v18 o) (.p v19 (.h v4 (.b (!(alM (gI B Ls) v12
 v18).isSome) (.w (.ghost (.nilreg 8 true 12)) (.f [6] v16 v5)) (.w (.draw []) (.r v15 (.x v15 v14 (syntaxF v23) (.d [.rd, .rd, .rd, .own true 12] (P_c_iVars Ls v23 1 []) (.l
 (lc_iMat_sLa B Ls p f o) (Sc_iMat_sLa B Ls p f o h hl hg ih) [0, 5, 1, 2, 3, 7] [.s (li 0), .o v32] 0 (.t (.p v22 (.w (.draw [(10, [5])]) (.r v1 (.p v6 (.p (v1.toNat ≤ v25.length
 ∧ v25.length ≤ v25.length ∧ ∀ (e : List Cell), e ∈ List.map syntaxC f.items → e.length = 5) (.u [.rd, .rd, .rd, .own true 12] (P_c_iAll B Ls v3 v13 v28) (.p v8 (.h v4 (.f [7] v21
 v24))))))))) (.t (.w (.ghost (.nilreg 8 true 12)) (.f [1] v16 v5)) .q))))))))))))))))))))))))))))))))))) (by
  dsimp only [teasy, P_c_iMat, nthW, lc_iMat_sLa]
  have g1 := @gI_wild B Ls p f o
  have g2 := @gI_lit B Ls p f o
  have g3 := @gI_sym B Ls p f o
  have g4 := @gI_other B Ls p f o
  have g6 := @gI_flat2 B Ls p f o
  have g14 := @good_flat Ls p hg
  have g19 := wY_eq f
  have g20 := wY_eq p
  have g21 := sizeY_eq p
  have g22 := capF_snoc o p f
  with_reducible repeat' (first | apply And.intro | exact zR | (intro; skip) | apply c_iWild | apply c_iHasJ | apply c_iMean | apply c_iCopyY | apply c_iAt | apply c_iAll | apply c_iVars)
  all_goals (try simp only [std, inj] at *)
  all_goals with_reducible repeat' apply And.intro
  all_goals (try (first | with_reducible apply c_iMean | with_reducible apply c_iCopyY | with_reducible apply c_iAll | with_reducible apply c_iVars | (simp only [← List.map_append]; with_reducible apply c_iAll)))
  all_goals (try (
    have hf := fI_mk hg ‹_› ‹_› ‹_› ‹_›
    have e1 := pre_len' hf
    have e2 := post_nat hf
    have e3 := cnt_eq hf
    simp only [aT_def, e1, e2, e3, take_drop_len, xI_def, xI_def2, add_nat] at *
    have gn := fI_nums hf
    have gx := fI_x hf hg
    have pl := parts_le (fI_at hf).2.2.1 (fI_at hf).2.2.2.1
    have s1 := sumf f (aT p)
    have s2 := sumf f (aT p + mI2 p f)
    have s3 := @alO_len B Ls o (List.take (aT p) p.items) (List.take (aT p) f.items)
    have s4 := nI_size (Ls := Ls) (xI p)
    have s5 := rp_len (nI Ls (xI p)) (rI B Ls p f (mI2 p f))))
  all_goals with_reducible repeat' apply And.intro
  all_goals (try (first | exact zw | (have q := atI_of hg (Decidable.not_not.1 ‹¬¬p.kind = 0›); omega) | exact (kind_of ‹_› ‹_›).1 | exact (kind_of (o := o) ‹_› ‹_›).2 | exact (flat_no ‹_› ‹_› ‹_› ‹_›).1 | exact (flat_no (o := o) ‹_› ‹_› ‹_› ‹_›).2 | exact (few_of hg ‹_› ‹_› ‹_› ‹_›).1 | exact (few_of (o := o) hg ‹_› ‹_› ‹_› ‹_›).2 | exact iI_o1 ‹_› ‹_› ‹_› ‹_› | exact (pre_no hf ‹_›).1 | exact (pre_no (o := o) hf ‹_›).2 | exact (some_no ‹_› ‹_›).1 | exact (some_no (o := o) ‹_› ‹_›).2 | exact (all_do hf ‹_› ‹_›).1 | exact (all_do (o := o) hf ‹_› ‹_›).2 | exact vr_start hl hg hf | exact good_pre hg (fI_at hf).1 (fI_at hf).2.2.1 (fI_at hf).2.2.2.1 (by omega) | exact good_post hg (fI_at hf).1 (fI_at hf).2.2.1 (fI_at hf).2.2.2.1 (by omega) | (simp only [List.length_append, List.length_take, List.length_drop, List.length_nil] at *; omega) | rfl | grind)))
theorem c_iMat (p : Syntax) : ∀ (B : List Binding) (Ls : List Syntax) (f : Syntax) (o : List Capture) (h : B.length ≤ 1048577 ∧ sumBy wB B ≤ 1048577 ∧ wY p ≤ 1048576 ∧ wY f ≤ 1000000000 ∧ o.length + sizeY p ≤ 2147483647 ∧ depY p ≤ 40) (hl : Ls.all litP = true) (hg : good Ls p), P_c_iMat B Ls p f o := Syntax.ind (P := fun p => ∀ (B : List Binding) (Ls : List Syntax) (f : Syntax) (o : List Capture) (h : B.length ≤ 1048577 ∧ sumBy wB B ≤ 1048577 ∧ wY p ≤ 1048576 ∧ wY f ≤ 1000000000 ∧ o.length + sizeY p ≤ 2147483647 ∧ depY p ≤ 40) (hl : Ls.all litP = true) (hg : good Ls p), P_c_iMat B Ls p f o) (fun p ih B Ls f o h hl hg => c_iMat_s B Ls p f o h hl hg ih) p
end Go.Proofs.YtpnaoendfpaodaaGreat
end
section
namespace Go.Proofs.YtpnaoendfpaodaaGreat
open Go Go.Proofs.YtpnaoendfpaodaaGreat.Ab
set_option linter.unusedVariables false
set_option linter.unusedSimpArgs false
set_option maxHeartbeats 4000000
mutual
/-- the names of a form, each once -/
def idsY : Syntax → List Syntax → List Syntax
  | ⟨k, n, t, s, l⟩, o => idsYs l (if k = 1 ∧ hasI o ⟨k, n, t, s, l⟩ = false then o ++ [⟨k, n, t, s, l⟩] else o)
def idsYs : List Syntax → List Syntax → List Syntax
  | [], o => o
  | x :: r, o => idsYs r (idsY x o)
end
theorem idsYs_eq : ∀ (l : List Syntax) (o : List Syntax), idsYs l o = l.foldl (fun o x => idsY x o) o
  | [], _ => by rw [idsYs]; rfl
  | x :: r, o => by rw [idsYs, idsYs_eq r]; rfl
def ids0 (s : Syntax) (o : List Syntax) : List Syntax := if s.kind = 1 ∧ hasI o s = false then o ++ [s] else o
theorem idsY_eq (s : Syntax) (o : List Syntax) : idsY s o = s.items.foldl (fun o x => idsY x o) (ids0 s o) := by cases s; simp only [idsY, idsYs_eq, ids0]
theorem ids0_len (s : Syntax) (o : List Syntax) : (ids0 s o).length ≤ o.length + 1 := by unfold ids0; split <;> simp
theorem idsF_len : ∀ (L : List Syntax), (∀ x ∈ L, ∀ o, (idsY x o).length ≤ o.length + sizeY x) → ∀ o, (L.foldl (fun o x => idsY x o) o).length ≤ o.length + sumBy sizeY L
  | [], _, o => by simp [sumBy]
  | x :: r, h, o => by
    have h1 := h x List.mem_cons_self o
    have h2 := idsF_len r (fun y hy => h y (List.mem_cons_of_mem _ hy)) (idsY x o)
    simp only [List.foldl_cons, sumBy]; omega
theorem idsY_len : ∀ (s : Syntax) (o : List Syntax), (idsY s o).length ≤ o.length + sizeY s := by
  refine Syntax.ind fun s ih o => ?_
  have h1 := idsF_len s.items ih (ids0 s o)
  have h2 := ids0_len s o
  rw [idsY_eq, sizeY_eq]; omega
abbrev P_c_sIds (s : Syntax) (o : List Syntax) : Ct := ⟨319, [.arr true 5 (o.map syntaxC)], [syntaxA s, .one (.ref 0)], [.dead, .arr true 5 ((idsY s o).map syntaxC)], .sv (.one (.ref 1))⟩
def lc_sIds_sLa (s : Syntax) (o : List Syntax) : Lp Nat := .mk 33 1 (fun x => [(1, SV.one (AC.ref 1)), (22, ll (List.map syntaxC s.items)), (23, li (↑(List.map syntaxC
 s.items).length : Int)), (24, hs x 0)]) (fun x => [Ob.dead, ho x 1]) (fun k => [.s (li (↑k : Int)), .o (Ob.arr true 5 (List.map syntaxC (List.foldl (fun o x => idsY x o) (ids0 s
 o) (List.take k s.items))))]) (fun k => k ≤ s.items.length ∧ s.items.length ≤ 9223372036854775807) (fun k => s.items.length - k) [.mk True (.exit 0) (fun x => [(1, SV.one (AC.ref
 1))]) (fun x => [Ob.dead, ho x 0]) [.o (Ob.arr true 5 (List.map syntaxC (idsY s o)))]]
theorem Sc_sIds_sLa (s : Syntax) (o : List Syntax) (h : o.length + sizeY s ≤ 2147483647 ∧ wY s ≤ 1000000000) (ih : ∀ (z : Syntax), z ∈ s.items → ∀ (o : List Syntax), o.length +
 sizeY z ≤ 2147483647 ∧ wY z ≤ 1000000000 → OK (P_c_sIds z o)) : Lp.Sem Tryz.prog (loopAt Tryz.f319 0) (lc_sIds_sLa s o) := lpOK (fun k => .i ((↑k : Int) < (↑(List.map syntaxC
 s.items).length : Int)) (.x (↑k : Int) (List.map syntaxC s.items) (syntaxF (s.items.getD k default)) (.d [.rd, .own true 5] (P_c_sIds (s.items.getD k default) (List.foldl (fun o x
 => idsY x o) (ids0 s o) (List.take k s.items))) (.r ((↑k : Int) + 1) (.g [0, 4] (k + 1) [.s (li ((↑k : Int) + 1)), .o (Ob.arr true 5 (List.map syntaxC (idsY (s.items.getD k
 default) (List.foldl (fun o x => idsY x o) (ids0 s o) (List.take k s.items)))))])))) (.o 0 [0, 1] [.o (Ob.arr true 5 (List.map syntaxC (List.foldl (fun o x => idsY x o) (ids0 s o)
 (List.take k s.items))))])) (by
  intro k h; try dsimp only [teasy, nthW, lc_sIds_sLa] at h ⊢
  have g1 := idsF_len (s.items.take k) (fun x _ o => idsY_len x o) (ids0 s o)
  have g2 := ids0_len s o
  have g3 := @size_item s k
  have g4 := sizeY_eq s
  with_reducible repeat' (first | apply And.intro | exact zR | exact ih | (intro; skip) | apply c_sCopyY | apply ih)
  all_goals (try simp only [std, inj] at *)
  all_goals with_reducible repeat' apply And.intro
  all_goals (try (first | with_reducible apply c_sCopyY | with_reducible apply ih | (simp only [← List.map_append]; first | with_reducible apply c_sCopyY | with_reducible apply ih)))
  all_goals (try (first | exact z | grind [idsY_eq, foldl_step, getD_mem', snocI, snocS, rowSnoc])))
theorem c_sIds_s (s : Syntax) (o : List Syntax) (h : o.length + sizeY s ≤ 2147483647 ∧ wY s ≤ 1000000000) (ih : ∀ z ∈ s.items, ∀ (o : List Syntax) (h : o.length + sizeY z ≤
 2147483647 ∧ wY z ≤ 1000000000), P_c_sIds z o)  : P_c_sIds s o := fnOK Tryz.call319 Tryz.func319 (.i (s.kind = 1) (.c [.rd, .rd] (c_sHasI o s) (.b (!hasI o s) (.d [.rd] (P_c_sCopyY
 s) (.p (((List.map syntaxC o).length + 1) * 80 ≤ 140737488355328) (.z syntaxC s.items (.l (lc_sIds_sLa s o) (Sc_sIds_sLa s o h ih) [0, 5] [.s (li 0), .o (Ob.arr true 5 (List.map
 syntaxC o ++ [syntaxF s]))] 0 (.t (.f [1] [Ob.dead, Ob.arr true 5 (List.map syntaxC (idsY s o))] (AV.sv (SV.one (AC.ref 1)))) .q))))) (.z syntaxC s.items (.w (.ghost (.move 0))
 (.l (lc_sIds_sLa s o) (Sc_sIds_sLa s o h ih) [0, 2] [.s (li 0), .o (Ob.arr true 5 (List.map syntaxC o))] 0 (.t (.f [1] [Ob.dead, Ob.arr true 5 (List.map syntaxC (idsY s o))]
 (AV.sv (SV.one (AC.ref 1)))) .q)))))) (.y false (.z syntaxC s.items (.w (.ghost (.move 0)) (.l (lc_sIds_sLa s o) (Sc_sIds_sLa s o h ih) [0, 2] [.s (li 0), .o (Ob.arr true 5
 (List.map syntaxC o))] 0 (.t (.f [1] [Ob.dead, Ob.arr true 5 (List.map syntaxC (idsY s o))] (AV.sv (SV.one (AC.ref 1)))) .q)))))) (by
  dsimp only [teasy, P_c_sIds, nthW, lc_sIds_sLa]
  have g4 := sizeY_eq s
  with_reducible repeat' (first | apply And.intro | exact zR | exact ih | (intro; skip) | apply c_sCopyY)
  all_goals (try simp only [std, inj] at *)
  all_goals with_reducible repeat' apply And.intro
  all_goals (try (first | with_reducible apply c_sCopyY | with_reducible apply ih | (simp only [← List.map_append]; first | with_reducible apply c_sCopyY | with_reducible apply ih)))
  all_goals (try (first | exact z | grind [ids0, snocI, snocS, rowSnoc])))
theorem c_sIds (s : Syntax) : ∀ (o : List Syntax) (h : o.length + sizeY s ≤ 2147483647 ∧ wY s ≤ 1000000000), P_c_sIds s o := Syntax.ind (P := fun s => ∀ (o : List Syntax) (h : o.length + sizeY s ≤ 2147483647 ∧ wY s ≤ 1000000000), P_c_sIds s o) (fun s ih o h => c_sIds_s s o h ih) s
def stpL (C : List Capture) (a : Nat) : List Syntax → List Capture
  | [] => C
  | x :: r => let O := stpL C a r; if 0 ≤ fnd C x ∧ 0 < (C.getD (fnd C x).toNat default).depth then O.set (fnd C x).toNat ((C.getD (fnd C x).toNat default).each.getD a default) else O
def stpTo (C : List Capture) (a : Nat) (I : List Syntax) (k : Nat) : List Capture := stpL C a (I.take k).reverse
theorem stpL_len (C : List Capture) (a : Nat) : ∀ I, (stpL C a I).length = C.length
  | [] => rfl
  | x :: r => by simp only [stpL]; split <;> simp [stpL_len C a r]
theorem stpTo_step {C : List Capture} {a : Nat} {I : List Syntax} {k : Nat} (h : k < I.length) : stpTo C a I (k + 1) = if 0 ≤ fnd C (I.getD k default) ∧ 0 < (C.getD (fnd C (I.getD k default)).toNat default).depth then (stpTo C a I k).set (fnd C (I.getD k default)).toNat ((C.getD (fnd C (I.getD k default)).toNat default).each.getD a default) else stpTo C a I k := by
  unfold stpTo; rw [take_get h, List.reverse_append]; rfl
theorem setP {L : List Capture} {k : Nat} {x : Capture} : (L.map captureC).set k (captureF x) = (L.set k x).map captureC := by rw [List.map_set, captureC_eq]
theorem sizeY_le' (s : Syntax) : sizeY s ≤ wY s + 1 := by
  refine Syntax.ind (P := fun s => sizeY s ≤ wY s + 1) (fun s ih => ?_) s
  have : ∀ L : List Syntax, (∀ x ∈ L, sizeY x ≤ wY x + 1) → sumBy sizeY L ≤ L.length + sumBy wY L := by
    intro L
    induction L with
    | nil => intro _; simp [sumBy]
    | cons x r ihr =>
      intro h
      have h1 := h x List.mem_cons_self
      have h2 := ihr fun y hy => h y (List.mem_cons_of_mem _ hy)
      simp only [sumBy, List.length_cons]; omega
  have h1 := this s.items ih
  have h2 := wY_eq s
  rw [sizeY_eq]; omega
abbrev P_c_sStep (C : List Capture) (t : Syntax) (a : Nat) : Ct := ⟨304, [], [ll (C.map captureC), syntaxA t, li a], [], .sv (ll ((stpTo C a (idsY t []) (idsY t []).length).map captureC))⟩
def lc_sStepLa (C : List Capture) (t : Syntax) (a : Nat) : Lp Nat := .mk 48 0 (fun x => [(0, ll (List.map captureC C)), (2, li (↑a : Int)), (7, SV.one (AC.ref 0)), (16, SV.one
 (AC.ref 1)), (17, li (↑(List.map syntaxC (idsY t [])).length : Int)), (18, hs x 0)]) (fun x => [ho x 1, Ob.arr true 5 (List.map syntaxC (idsY t []))]) (fun k => [.s (li (↑k :
 Int)), .o (Ob.arr false 12 (List.map captureC (stpTo C a (idsY t []) k)))]) (fun k => k ≤ (idsY t []).length ∧ (idsY t []).length ≤ 9223372036854775807) (fun k => (idsY t
 []).length - k) [.mk True (.exit 0) (fun x => [(7, SV.one (AC.ref 0))]) (fun x => [ho x 0]) [.o (Ob.arr false 12 (List.map captureC (stpTo C a (idsY t []) (idsY t []).length)))]]
theorem Sc_sStepLa (C : List Capture) (t : Syntax) (a : Nat) (h : C.length ≤ 1000000000 ∧ wY t ≤ 1000000000 ∧ a ≤ 1000000000) (hb : ∀ (x : Syntax), x ∈ idsY t [] → 0 ≤ fnd C x → 0
 < (C.getD (fnd C x).toNat default).depth → a < (C.getD (fnd C x).toNat default).each.length) : Lp.Sem Tryz.prog (loopAt Tryz.f304 0) (lc_sStepLa C t a) := lpOK (fun k => .i ((↑k :
 Int) < (↑(List.map syntaxC (idsY t [])).length : Int)) (.p (0 ≤ (↑k : Int) ∧ (↑k : Int).toNat < (List.map syntaxC (idsY t [])).length) (.w (.cells (syntaxF ((idsY t []).getD (↑k :
 Int).toNat default))) (.p ((List.map syntaxC (idsY t []))[(↑k : Int).toNat]? = some (syntaxF ((idsY t []).getD (↑k : Int).toNat default))) (.c [.rd, .rd] (c_sFind C ((idsY t
 []).getD (↑k : Int).toNat default)) (.i (0 ≤ fnd C ((idsY t []).getD (↑k : Int).toNat default)) (.x (fnd C ((idsY t []).getD (↑k : Int).toNat default)) (List.map captureC C)
 (captureF (C.getD (fnd C ((idsY t []).getD (↑k : Int).toNat default)).toNat default)) (.i (0 < (C.getD (fnd C ((idsY t []).getD (↑k : Int).toNat default)).toNat default).depth)
 (.x (fnd C ((idsY t []).getD (↑k : Int).toNat default)) (List.map captureC C) (captureF (C.getD (fnd C ((idsY t []).getD (↑k : Int).toNat default)).toNat default)) (.x (↑a : Int)
 (List.map captureC (C.getD (fnd C ((idsY t []).getD (↑k : Int).toNat default)).toNat default).each) (captureF ((C.getD (fnd C ((idsY t []).getD (↑k : Int).toNat default)).toNat
 default).each.getD a default)) (.p (0 ≤ fnd C ((idsY t []).getD (↑k : Int).toNat default) ∧ (fnd C ((idsY t []).getD (↑k : Int).toNat default)).toNat < (List.map captureC (stpTo C
 a (idsY t []) k)).length) (.w (.cells (captureF ((stpTo C a (idsY t []) k).getD (fnd C ((idsY t []).getD (↑k : Int).toNat default)).toNat default))) (.p ((List.map captureC (stpTo
 C a (idsY t []) k))[(fnd C ((idsY t []).getD (↑k : Int).toNat default)).toNat]? = some (captureF ((stpTo C a (idsY t []) k).getD (fnd C ((idsY t []).getD (↑k : Int).toNat
 default)).toNat default))) (.r ((↑k : Int) + 1) (.g [0, 1] (k + 1) [.s (li ((↑k : Int) + 1)), .o (Ob.arr false 12 ((List.map captureC (stpTo C a (idsY t []) k)).set (fnd C ((idsY
 t []).getD (↑k : Int).toNat default)).toNat (captureF ((C.getD (fnd C ((idsY t []).getD (↑k : Int).toNat default)).toNat default).each.getD a default))))]))))))) (.r ((↑k : Int) +
 1) (.g [0, 1] (k + 1) [.s (li ((↑k : Int) + 1)), .o (Ob.arr false 12 (List.map captureC (stpTo C a (idsY t []) k)))])))) (.y false (.r ((↑k : Int) + 1) (.g [0, 1] (k + 1) [.s (li
 ((↑k : Int) + 1)), .o (Ob.arr false 12 (List.map captureC (stpTo C a (idsY t []) k)))])))))))) (.o 0 [0] [.o (Ob.arr false 12 (List.map captureC (stpTo C a (idsY t []) k)))])) (by
  intro k h; try dsimp only [teasy, nthW, lc_sStepLa] at h ⊢
  have g1 := fnd_lt C ((idsY t []).getD k default)
  have g2 := @stpTo_step C a (idsY t []) k
  have g3 : (stpTo C a (idsY t []) k).length = C.length := stpL_len C a ((idsY t []).take k).reverse
  have g4 := hb ((idsY t []).getD k default)
  with_reducible repeat' (first | apply And.intro | exact zR | (intro; skip) | apply c_sIds)
  all_goals (try simp only [std, inj] at *)
  all_goals with_reducible repeat' apply And.intro
  all_goals (try (first | with_reducible apply c_sIds | (simp only [← List.map_append]; first | with_reducible apply c_sIds)))
  all_goals (try (first | exact z | grind [getD_mem', setP, snocI, snocS, rowSnoc])))
theorem c_sStep (C : List Capture) (t : Syntax) (a : Nat) (h : C.length ≤ 1000000000 ∧ wY t ≤ 1000000000 ∧ a ≤ 1000000000) (hb : ∀ x ∈ idsY t [], 0 ≤ fnd C x → 0 < (C.getD (fnd C
 x).toNat default).depth → a < (C.getD (fnd C x).toNat default).each.length)  : P_c_sStep C t a := fnOK Tryz.call304 Tryz.func304 (.w (.bool true) (.p (∀ (e : List Cell), e ∈
 List.map captureC C → e.length = 12) (.p ((0 + (List.map captureC C).length) * 192 ≤ 140737488355328) (.w (.bool false) (.d [.rd, .own true 5] (P_c_sIds t []) (.z syntaxC (idsY t
 []) (.l (lc_sStepLa C t a) (Sc_sStepLa C t a h hb) [2, 5] [.s (li 0), .o (Ob.arr false 12 (List.map captureC C))] 0 (.t (.w (.ghost (.lock 0)) (.s (ll (List.map captureC (stpTo C
 a (idsY t []) (idsY t []).length))))) .q)))))))) (by
  dsimp only [teasy, P_c_sStep, nthW, lc_sStepLa]
  have g1 := idsY_len t []
  have g2 := sizeY_le' t
  have g5 : stpTo C a (idsY t []) 0 = C := rfl
  with_reducible repeat' (first | apply And.intro | exact zR | (intro; skip) | apply c_sIds)
  all_goals (try simp only [std, inj] at *)
  all_goals with_reducible repeat' apply And.intro
  all_goals (try (first | with_reducible apply c_sIds | (simp only [← List.map_append]; first | with_reducible apply c_sIds)))
  all_goals (try (first | exact z | grind [snocI, snocS, rowSnoc])))
abbrev P_c_sPlaced (t : Syntax) : Ct := ⟨257, [], [syntaxA t], [], .sv (lb (dotf t))⟩
def lc_sPlaced_sLa (t : Syntax) : Lp Nat := .mk 42 0 (fun x => [(1, SV.one (AC.ptr 0 0)), (6, ll (List.map syntaxC t.items)), (7, li (↑(List.map syntaxC t.items).length : Int)),
 (8, hs x 0)]) (fun x => [Ob.box (vals (syntaxF t))]) (fun k => [.s (li (↑k : Int))]) (fun k => k ≤ t.items.length ∧ t.items.length ≤ 9223372036854775807 ∧ dotfs true t.items =
 dotfs (barred t.items k) (List.drop k t.items)) (fun k => t.items.length - k) [.mk (dotfs true t.items = true) (.exit 0) (fun x => [(1, SV.one (AC.ptr 0 0))]) (fun x => [Ob.box
 (vals (syntaxF t))]) [], .mk (dotfs true t.items = false) .ret (fun x => [(2, hs x 0)]) (fun x => []) [.s (lb false)]]
theorem Sc_sPlaced_sLa (t : Syntax) (ih : ∀ (z : Syntax), z ∈ t.items → OK (P_c_sPlaced z)) : Lp.Sem Tryz.prog (loopAt Tryz.f257 0) (lc_sPlaced_sLa t) := lpOK (fun k => .i ((↑k :
 Int) < (↑(List.map syntaxC t.items).length : Int)) (.x (↑k : Int) (List.map syntaxC t.items) (syntaxF (t.items.getD k default)) (.c [.rd] (c_sDots (t.items.getD k default)) (.b
 (isDots (t.items.getD k default)) (.i ((↑k : Int) = 0) (.y true (.y true (.o 1 [] [.s (lb false)]))) (.r ((↑k : Int) - 1) (.x ((↑k : Int) - 1) (List.map syntaxC t.items) (syntaxF
 (t.items.getD ((↑k : Int) - 1).toNat default)) (.c [.rd] (c_sDots (t.items.getD ((↑k : Int) - 1).toNat default)) (.b (isDots (t.items.getD ((↑k : Int) - 1).toNat default)) (.y
 true (.o 1 [] [.s (lb false)])) (.c [.rd] (c_sDots (t.items.getD k default)) (.b (!isDots (t.items.getD k default)) (.d [.rd] (P_c_sPlaced (t.items.getD k default)) (.b (!dotf
 (t.items.getD k default)) (.o 1 [] [.s (lb false)]) (.r ((↑k : Int) + 1) (.g [0] (k + 1) [.s (li ((↑k : Int) + 1))])))) (.y false (.r ((↑k : Int) + 1) (.g [0] (k + 1) [.s (li ((↑k
 : Int) + 1))])))))))))) (.y false (.c [.rd] (c_sDots (t.items.getD k default)) (.b (!isDots (t.items.getD k default)) (.d [.rd] (P_c_sPlaced (t.items.getD k default)) (.b (!dotf
 (t.items.getD k default)) (.o 1 [] [.s (lb false)]) (.r ((↑k : Int) + 1) (.g [0] (k + 1) [.s (li ((↑k : Int) + 1))])))) (.y false (.r ((↑k : Int) + 1) (.g [0] (k + 1) [.s (li ((↑k
 : Int) + 1))]))))))))) (.o 0 [0] [])) (by
  intro k h; try dsimp only [teasy, nthW, lc_sPlaced_sLa] at h ⊢
  have g1 := @dotfs_step t.items (barred t.items k) k
  have g2 := @dotfs_end t.items (barred t.items k) k
  have e : ((k : Int) - 1).toNat = k - 1 := by omega
  have g3 : barred t.items k = (decide (k = 0) || isDots (t.items.getD (k - 1) default)) := rfl
  have g4 : barred t.items (k + 1) = isDots (t.items.getD k default) := by simp [barred]
  with_reducible repeat' (first | apply And.intro | exact zR | exact ih | (intro; skip) | apply ih)
  all_goals (try simp only [std, inj] at *)
  all_goals with_reducible repeat' apply And.intro
  all_goals (try (first | with_reducible apply ih | (simp only [← List.map_append]; first | with_reducible apply ih)))
  all_goals (try (first | exact z | grind [getD_mem', snocI, snocS, rowSnoc])))
theorem c_sPlaced_s (t : Syntax) (ih : ∀ z ∈ t.items, P_c_sPlaced z)  : P_c_sPlaced t := fnOK Tryz.call257 Tryz.func257 (.z syntaxC t.items (.l (lc_sPlaced_sLa t) (Sc_sPlaced_sLa t
 ih) [0] [.s (li 0)] 0 (.t (.c [.rd] (c_sDots t) (.s (lb !isDots t))) (.t (.s (lb false)) .q)))) (by
  dsimp only [teasy, P_c_sPlaced, nthW, lc_sPlaced_sLa]
  have g1 := dotf_eq t
  have g2 : barred t.items 0 = true := rfl
  have g3 : t.items.drop 0 = t.items := rfl
  with_reducible repeat' (first | apply And.intro | exact zR | exact ih | (intro; skip))
  all_goals (try simp only [std, inj] at *)
  all_goals with_reducible repeat' apply And.intro
  all_goals (try (first | with_reducible apply ih | (simp only [← List.map_append]; first | with_reducible apply ih)))
  all_goals (try (first | exact z | grind [snocI, snocS, rowSnoc])))
theorem c_sPlaced (t : Syntax) : P_c_sPlaced t := Syntax.ind (P := fun t => P_c_sPlaced t) (fun t ih => c_sPlaced_s t ih) t
def capOf (C : List Capture) (x : Syntax) : Capture := C.getD (fnd C x).toNat default
def rep (C : List Capture) (x : Syntax) : Bool := decide (0 ≤ fnd C x) && decide (0 < (capOf C x).depth)
def cnN (C : List Capture) (I : List Syntax) : Nat → Int
  | 0 => -1
  | k + 1 => if rep C (I.getD k default) = true then ((capOf C (I.getD k default)).each.length : Int) else cnN C I k
def cnOK (C : List Capture) (I : List Syntax) : Nat → Bool
  | 0 => true
  | k + 1 => cnOK C I k && (!rep C (I.getD k default) || decide (cnN C I k < 0) || decide (cnN C I k = ((capOf C (I.getD k default)).each.length : Int)))
theorem cnOK_le (C : List Capture) (I : List Syntax) : ∀ (m k : Nat), k ≤ m → cnOK C I m = true → cnOK C I k = true
  | 0, k, h, _ => by
    obtain rfl : k = 0 := by omega
    rfl
  | m + 1, k, h, ht => by
    by_cases e : k = m + 1
    · rw [e]; exact ht
    · refine cnOK_le C I m k (by omega) ?_
      simp only [cnOK, Bool.and_eq_true] at ht; exact ht.1
abbrev P_c_sCountC (C : List Capture) (t : Syntax) : Ct := ⟨303, [], [ll (C.map captureC), syntaxA t], [], .tup [li (if cnOK C (idsY t []) (idsY t []).length = true then cnN C (idsY t []) (idsY t []).length else 0), lb (cnOK C (idsY t []) (idsY t []).length && decide (0 ≤ cnN C (idsY t []) (idsY t []).length))]⟩
def lc_sCountCLa (C : List Capture) (t : Syntax) : Lp Nat := .mk 53 0 (fun x => [(0, ll (List.map captureC C)), (6, hs x 1), (12, SV.one (AC.ref 0)), (13, li (↑(List.map syntaxC
 (idsY t [])).length : Int)), (14, hs x 0)]) (fun x => [Ob.arr true 5 (List.map syntaxC (idsY t []))]) (fun k => [.s (li (↑k : Int)), .s (li (cnN C (idsY t []) k))]) (fun k => k ≤
 (idsY t []).length ∧ (idsY t []).length ≤ 9223372036854775807 ∧ cnOK C (idsY t []) k = true) (fun k => (idsY t []).length - k) [.mk (cnOK C (idsY t []) (idsY t []).length = true)
 (.exit 0) (fun x => [(6, hs x 0)]) (fun x => []) [.s (li (cnN C (idsY t []) (idsY t []).length))], .mk (cnOK C (idsY t []) (idsY t []).length = false) .ret (fun x => [(4, hs x 0),
 (5, hs x 1)]) (fun x => []) [.s (li 0), .s (lb false)]]
theorem Sc_sCountCLa (C : List Capture) (t : Syntax) (h : wY t ≤ 1000000000) : Lp.Sem Tryz.prog (loopAt Tryz.f303 0) (lc_sCountCLa C t) := lpOK (fun k => .i ((↑k : Int) <
 (↑(List.map syntaxC (idsY t [])).length : Int)) (.p (0 ≤ (↑k : Int) ∧ (↑k : Int).toNat < (List.map syntaxC (idsY t [])).length) (.w (.cells (syntaxF ((idsY t []).getD (↑k :
 Int).toNat default))) (.p ((List.map syntaxC (idsY t []))[(↑k : Int).toNat]? = some (syntaxF ((idsY t []).getD (↑k : Int).toNat default))) (.c [.rd, .rd] (c_sFind C ((idsY t
 []).getD (↑k : Int).toNat default)) (.i (fnd C ((idsY t []).getD (↑k : Int).toNat default) < 0) (.y true (.r ((↑k : Int) + 1) (.g [0] (k + 1) [.s (li ((↑k : Int) + 1)), .s (li
 (cnN C (idsY t []) k))]))) (.x (fnd C ((idsY t []).getD (↑k : Int).toNat default)) (List.map captureC C) (captureF (C.getD (fnd C ((idsY t []).getD (↑k : Int).toNat
 default)).toNat default)) (.i ((C.getD (fnd C ((idsY t []).getD (↑k : Int).toNat default)).toNat default).depth ≤ 0) (.r ((↑k : Int) + 1) (.g [0] (k + 1) [.s (li ((↑k : Int) +
 1)), .s (li (cnN C (idsY t []) k))])) (.i (0 ≤ cnN C (idsY t []) k) (.x (fnd C ((idsY t []).getD (↑k : Int).toNat default)) (List.map captureC C) (captureF (C.getD (fnd C ((idsY t
 []).getD (↑k : Int).toNat default)).toNat default)) (.z captureC (C.getD (fnd C ((idsY t []).getD (↑k : Int).toNat default)).toNat default).each (.i (cnN C (idsY t []) k ≠
 (↑(List.map captureC (C.getD (fnd C ((idsY t []).getD (↑k : Int).toNat default)).toNat default).each).length : Int)) (.o 1 [] [.s (li 0), .s (lb false)]) (.x (fnd C ((idsY t
 []).getD (↑k : Int).toNat default)) (List.map captureC C) (captureF (C.getD (fnd C ((idsY t []).getD (↑k : Int).toNat default)).toNat default)) (.z captureC (C.getD (fnd C ((idsY
 t []).getD (↑k : Int).toNat default)).toNat default).each (.r ((↑k : Int) + 1) (.g [0] (k + 1) [.s (li ((↑k : Int) + 1)), .s (li (↑(List.map captureC (C.getD (fnd C ((idsY t
 []).getD (↑k : Int).toNat default)).toNat default).each).length : Int))]))))))) (.y false (.x (fnd C ((idsY t []).getD (↑k : Int).toNat default)) (List.map captureC C) (captureF
 (C.getD (fnd C ((idsY t []).getD (↑k : Int).toNat default)).toNat default)) (.z captureC (C.getD (fnd C ((idsY t []).getD (↑k : Int).toNat default)).toNat default).each (.r ((↑k :
 Int) + 1) (.g [0] (k + 1) [.s (li ((↑k : Int) + 1)), .s (li (↑(List.map captureC (C.getD (fnd C ((idsY t []).getD (↑k : Int).toNat default)).toNat default).each).length :
 Int))]))))))))))))) (.o 0 [] [.s (li (cnN C (idsY t []) k))])) (by
  intro k h; try dsimp only [teasy, nthW, lc_sCountCLa] at h ⊢
  have g1 := cnOK_le C (idsY t []) (idsY t []).length (k + 1)
  have g2 : cnOK C (idsY t []) (k + 1) = (cnOK C (idsY t []) k && (!rep C ((idsY t []).getD k default) || decide (cnN C (idsY t []) k < 0) || decide (cnN C (idsY t []) k = ((capOf C ((idsY t []).getD k default)).each.length : Int)))) := rfl
  have g3 : cnN C (idsY t []) (k + 1) = if rep C ((idsY t []).getD k default) = true then ((capOf C ((idsY t []).getD k default)).each.length : Int) else cnN C (idsY t []) k := rfl
  have g4 := fnd_lt C ((idsY t []).getD k default)
  have g5 : capOf C ((idsY t []).getD k default) = C.getD (fnd C ((idsY t []).getD k default)).toNat default := rfl
  have g6 : rep C ((idsY t []).getD k default) = (decide (0 ≤ fnd C ((idsY t []).getD k default)) && decide (0 < (capOf C ((idsY t []).getD k default)).depth)) := rfl
  with_reducible repeat' (first | apply And.intro | exact zR | (intro; skip) | apply c_sIds)
  all_goals (try simp only [std, inj] at *)
  all_goals with_reducible repeat' apply And.intro
  all_goals (try (first | with_reducible apply c_sIds | (simp only [← List.map_append]; first | with_reducible apply c_sIds)))
  all_goals (try (first | exact z | grind [getD_mem', snocI, snocS, rowSnoc])))
theorem c_sCountC (C : List Capture) (t : Syntax) (h : wY t ≤ 1000000000)  : P_c_sCountC C t := fnOK Tryz.call303 Tryz.func303 (.w (.bool false) (.d [.rd, .own true 5] (P_c_sIds t
 []) (.z syntaxC (idsY t []) (.l (lc_sCountCLa C t) (Sc_sCountCLa C t h) [3] [.s (li 0), .s (li (-1 : Int))] 0 (.t (.f [] [] (AV.tup [li (cnN C (idsY t []) (idsY t []).length), lb
 (decide (0 ≤ cnN C (idsY t []) (idsY t []).length))])) (.t (.f [] [] (AV.tup [li 0, lb false])) .q)))))) (by
  dsimp only [teasy, P_c_sCountC, nthW, lc_sCountCLa]
  have g1 := idsY_len t []
  have g2 := sizeY_le' t
  with_reducible repeat' (first | apply And.intro | exact zR | (intro; skip) | apply c_sIds)
  all_goals (try simp only [std, inj] at *)
  all_goals with_reducible repeat' apply And.intro
  all_goals (try (first | with_reducible apply c_sIds | (simp only [← List.map_append]; first | with_reducible apply c_sIds)))
  all_goals (try (first | exact z | grind [cnN, cnOK, snocI, snocS, rowSnoc])))
abbrev P_c_iHasN (L : List Int) (n : Int) : Ct := ⟨306, [], [ll (L.map intC), li n], [], .sv (lb (decide (n ∈ L)))⟩
def lc_iHasNLa (L : List Int) (n : Int) : Lp Nat := .mk 17 0 (fun x => [(1, li n), (7, ll (List.map intC L)), (8, li (↑(List.map intC L).length : Int)), (9, hs x 0)]) (fun x => [])
 (fun k => [.s (li (↑k : Int))]) (fun k => k ≤ L.length ∧ L.length ≤ 9223372036854775807 ∧ decide (n ∈ List.take k L) = false) (fun k => L.length - k) [.mk (decide (n ∈ L) = false)
 (.exit 0) (fun x => []) (fun x => []) [], .mk (decide (n ∈ L) = true) .ret (fun x => [(4, hs x 0)]) (fun x => []) [.s (lb true)]]
theorem Sc_iHasNLa (L : List Int) (n : Int) : Lp.Sem Tryz.prog (loopAt Tryz.f306 0) (lc_iHasNLa L n) := lpOK (fun k => .i ((↑k : Int) < (↑(List.map intC L).length : Int)) (.x (↑k :
 Int) (List.map intC L) [cI (L.getD k 0)] (.i (L.getD k 0 = n) (.o 1 [] [.s (lb true)]) (.r ((↑k : Int) + 1) (.g [] (k + 1) [.s (li ((↑k : Int) + 1))])))) (.o 0 [] [])) (by
  intro k h; try dsimp only [teasy, nthW, lc_iHasNLa] at h ⊢
  with_reducible repeat' (first | apply And.intro | exact zR | (intro; skip))
  all_goals (try simp only [std, inj] at *)
  all_goals with_reducible repeat' apply And.intro
  all_goals (try (first | exact z | grind [take_get, getD_mem', snocI, snocS, rowSnoc])))
theorem c_iHasN (L : List Int) (n : Int)  : P_c_iHasN L n := fnOK Tryz.call306 Tryz.func306 (.z intC L (.l (lc_iHasNLa L n) (Sc_iHasNLa L n) [] [.s (li 0)] 0 (.t (.s (lb false)) (.t
 (.s (lb true)) .q)))) (by
  dsimp only [teasy, P_c_iHasN, nthW, lc_iHasNLa]
  with_reducible repeat' (first | apply And.intro | exact zR | (intro; skip))
  all_goals (try simp only [std, inj] at *)
  all_goals with_reducible repeat' apply And.intro
  all_goals (try (first | exact z | grind [snocI, snocS, rowSnoc])))
mutual
/-- the places of the captures of more than one form that a template names, each once -/
def rpi (C : List Capture) : Syntax → List Int → List Int
  | ⟨k, n, t, s, l⟩, o => rpis C l (if k = 1 ∧ rep C ⟨k, n, t, s, l⟩ = true ∧ fnd C ⟨k, n, t, s, l⟩ ∉ o then o ++ [fnd C ⟨k, n, t, s, l⟩] else o)
def rpis (C : List Capture) : List Syntax → List Int → List Int
  | [], o => o
  | x :: r, o => rpis C r (rpi C x o)
end
theorem rpis_eq (C : List Capture) : ∀ (l : List Syntax) (o : List Int), rpis C l o = l.foldl (fun o x => rpi C x o) o
  | [], _ => by rw [rpis]; rfl
  | x :: r, o => by rw [rpis, rpis_eq C r]; rfl
def rpi0 (C : List Capture) (t : Syntax) (o : List Int) : List Int := if t.kind = 1 ∧ rep C t = true ∧ fnd C t ∉ o then o ++ [fnd C t] else o
theorem rpi_eq (C : List Capture) (t : Syntax) (o : List Int) : rpi C t o = t.items.foldl (fun o x => rpi C x o) (rpi0 C t o) := by cases t; simp only [rpi, rpis_eq, rpi0]
theorem rpi0_len (C : List Capture) (t : Syntax) (o : List Int) : (rpi0 C t o).length ≤ o.length + 1 := by unfold rpi0; split <;> simp
theorem rpF_len (C : List Capture) : ∀ (L : List Syntax), (∀ x ∈ L, ∀ o, (rpi C x o).length ≤ o.length + sizeY x) → ∀ o, (L.foldl (fun o x => rpi C x o) o).length ≤ o.length + sumBy sizeY L
  | [], _, o => by simp [sumBy]
  | x :: r, h, o => by
    have h1 := h x List.mem_cons_self o
    have h2 := rpF_len C r (fun y hy => h y (List.mem_cons_of_mem _ hy)) (rpi C x o)
    simp only [List.foldl_cons, sumBy]; omega
theorem rpi_len (C : List Capture) : ∀ (t : Syntax) (o : List Int), (rpi C t o).length ≤ o.length + sizeY t := by
  refine Syntax.ind fun t ih o => ?_
  have h1 := rpF_len C t.items ih (rpi0 C t o)
  have h2 := rpi0_len C t o
  rw [rpi_eq, sizeY_eq]; omega
abbrev P_c_iRep (t : Syntax) (C : List Capture) (o : List Int) : Ct := ⟨305, [.arr true 1 (o.map intC)], [syntaxA t, ll (C.map captureC), .one (.ref 0)], [.dead, .arr true 1 ((rpi C t o).map intC)], .sv (.one (.ref 1))⟩
def lc_iRep_sLa (t : Syntax) (C : List Capture) (o : List Int) : Lp Nat := .mk 46 1 (fun x => [(1, ll (List.map captureC C)), (2, SV.one (AC.ref 1)), (34, ll (List.map syntaxC
 t.items)), (35, li (↑(List.map syntaxC t.items).length : Int)), (36, hs x 0)]) (fun x => [Ob.dead, ho x 1]) (fun k => [.s (li (↑k : Int)), .o (Ob.arr true 1 (List.map intC
 (List.foldl (fun o x => rpi C x o) (rpi0 C t o) (List.take k t.items))))]) (fun k => k ≤ t.items.length ∧ t.items.length ≤ 9223372036854775807) (fun k => t.items.length - k) [.mk
 True (.exit 0) (fun x => [(2, SV.one (AC.ref 1))]) (fun x => [Ob.dead, ho x 0]) [.o (Ob.arr true 1 (List.map intC (rpi C t o)))]]
theorem Sc_iRep_sLa (t : Syntax) (C : List Capture) (o : List Int) (h : o.length + sizeY t ≤ 2147483647) (ih : ∀ (z : Syntax), z ∈ t.items → ∀ (C : List Capture) (o : List Int),
 o.length + sizeY z ≤ 2147483647 → OK (P_c_iRep z C o)) : Lp.Sem Tryz.prog (loopAt Tryz.f305 0) (lc_iRep_sLa t C o) := lpOK (fun k => .i ((↑k : Int) < (↑(List.map syntaxC
 t.items).length : Int)) (.x (↑k : Int) (List.map syntaxC t.items) (syntaxF (t.items.getD k default)) (.d [.rd, .rd, .own true 1] (P_c_iRep (t.items.getD k default) C (List.foldl
 (fun o x => rpi C x o) (rpi0 C t o) (List.take k t.items))) (.r ((↑k : Int) + 1) (.g [0, 4] (k + 1) [.s (li ((↑k : Int) + 1)), .o (Ob.arr true 1 (List.map intC (rpi C
 (t.items.getD k default) (List.foldl (fun o x => rpi C x o) (rpi0 C t o) (List.take k t.items)))))])))) (.o 0 [0, 1] [.o (Ob.arr true 1 (List.map intC (List.foldl (fun o x => rpi
 C x o) (rpi0 C t o) (List.take k t.items))))])) (by
  intro k h; try dsimp only [teasy, nthW, lc_iRep_sLa] at h ⊢
  have g1 := rpF_len C (t.items.take k) (fun x _ o => rpi_len C x o) (rpi0 C t o)
  have g2 := rpi0_len C t o
  have g3 := @size_item t k
  with_reducible repeat' (first | apply And.intro | exact zR | exact ih | (intro; skip) | apply ih)
  all_goals (try simp only [std, inj] at *)
  all_goals with_reducible repeat' apply And.intro
  all_goals (try (first | with_reducible apply ih | (simp only [← List.map_append]; first | with_reducible apply ih)))
  all_goals (try (first | exact z | grind [rpi_eq, foldl_step, getD_mem', snocI, snocS, rowSnoc])))
theorem c_iRep_s (t : Syntax) (C : List Capture) (o : List Int) (h : o.length + sizeY t ≤ 2147483647) (ih : ∀ z ∈ t.items, ∀ (C : List Capture) (o : List Int) (h : o.length + sizeY
 z ≤ 2147483647), P_c_iRep z C o)  : P_c_iRep t C o := fnOK Tryz.call305 Tryz.func305 (.c [.rd, .rd] (c_iFind C t) (.i (0 ≤ if t.kind = 1 then fnd C t else (-1 : Int)) (.x (if t.kind
 = 1 then fnd C t else (-1 : Int)) (List.map captureC C) (captureF (C.getD (if t.kind = 1 then fnd C t else (-1 : Int)).toNat default)) (.i (0 < (C.getD (if t.kind = 1 then fnd C t
 else (-1 : Int)).toNat default).depth) (.c [.rd, .rd] (c_iHasN o (if t.kind = 1 then fnd C t else (-1 : Int))) (.b (!decide ((if t.kind = 1 then fnd C t else (-1 : Int)) ∈ o)) (.p
 (((List.map intC o).length + 1) * 8 ≤ 140737488355328) (.z syntaxC t.items (.l (lc_iRep_sLa t C o) (Sc_iRep_sLa t C o h ih) [0, 3] [.s (li 0), .o (Ob.arr true 1 (List.map intC o
 ++ [[cI (if t.kind = 1 then fnd C t else (-1 : Int))]]))] 0 (.t (.f [1] [Ob.dead, Ob.arr true 1 (List.map intC (rpi C t o))] (AV.sv (SV.one (AC.ref 1)))) .q)))) (.z syntaxC
 t.items (.w (.ghost (.move 0)) (.l (lc_iRep_sLa t C o) (Sc_iRep_sLa t C o h ih) [0, 2] [.s (li 0), .o (Ob.arr true 1 (List.map intC o))] 0 (.t (.f [1] [Ob.dead, Ob.arr true 1
 (List.map intC (rpi C t o))] (AV.sv (SV.one (AC.ref 1)))) .q)))))) (.y false (.z syntaxC t.items (.w (.ghost (.move 0)) (.l (lc_iRep_sLa t C o) (Sc_iRep_sLa t C o h ih) [0, 2] [.s
 (li 0), .o (Ob.arr true 1 (List.map intC o))] 0 (.t (.f [1] [Ob.dead, Ob.arr true 1 (List.map intC (rpi C t o))] (AV.sv (SV.one (AC.ref 1)))) .q))))))) (.y false (.y false (.z
 syntaxC t.items (.w (.ghost (.move 0)) (.l (lc_iRep_sLa t C o) (Sc_iRep_sLa t C o h ih) [0, 2] [.s (li 0), .o (Ob.arr true 1 (List.map intC o))] 0 (.t (.f [1] [Ob.dead, Ob.arr
 true 1 (List.map intC (rpi C t o))] (AV.sv (SV.one (AC.ref 1)))) .q)))))))) (by
  dsimp only [teasy, P_c_iRep, nthW, lc_iRep_sLa]
  have g1 := fnd_lt C t
  have g2 := sizeY_eq t
  have g3 : rep C t = (decide (0 ≤ fnd C t) && decide (0 < (capOf C t).depth)) := rfl
  have g4 : capOf C t = C.getD (fnd C t).toNat default := rfl
  with_reducible repeat' (first | apply And.intro | exact zR | exact ih | (intro; skip))
  all_goals (try simp only [std, inj] at *)
  all_goals with_reducible repeat' apply And.intro
  all_goals (try (first | with_reducible apply ih | (simp only [← List.map_append]; first | with_reducible apply ih)))
  all_goals (try (first | exact z | grind [rpi0, snocI, snocS, rowSnoc])))
theorem c_iRep (t : Syntax) : ∀ (C : List Capture) (o : List Int) (h : o.length + sizeY t ≤ 2147483647), P_c_iRep t C o := Syntax.ind (P := fun t => ∀ (C : List Capture) (o : List Int) (h : o.length + sizeY t ≤ 2147483647), P_c_iRep t C o) (fun t ih C o h => c_iRep_s t C o h ih) t
def itr (f : Nat → Int → Syntax × Bool × Int) : Nat → Int → List Syntax → List Syntax × Bool × Int
  | 0, m, O => (O, true, m)
  | k + 1, m, O => let p := itr f k m O; if p.2.1 = true then (p.1 ++ [(f k p.2.2).1], (f k p.2.2).2.1, (f k p.2.2).2.2) else p
def zY : Syntax := ⟨0, 0, mkS [], [], []⟩
mutual
/-- what the reference builds of a template: the form, whether all went well, the nodes that are left -/
def bld : Syntax → List Capture → Int → Syntax × Bool × Int
  | ⟨k, n, x, s, l⟩, C, m => if m - 1 < 0 then (zY, false, m - 1) else if k = 1 then
      (if isDots ⟨k, n, x, s, l⟩ = true ∨ fnd C ⟨k, n, x, s, l⟩ < 0 then (⟨k, n, x, s, l⟩, !isDots ⟨k, n, x, s, l⟩, m - 1)
       else if (capOf C ⟨k, n, x, s, l⟩).depth ≠ 0 then (zY, false, m)
       else if (sizeY (capOf C ⟨k, n, x, s, l⟩).form : Int) ≤ m then ((capOf C ⟨k, n, x, s, l⟩).form, true, max (m - sizeY (capOf C ⟨k, n, x, s, l⟩).form) (-1))
       else (zY, false, max (m - sizeY (capOf C ⟨k, n, x, s, l⟩).form) (-1)))
    else if (blds l C (m - 1) []).2.1 = true then (⟨k, n, x, [], (blds l C (m - 1) []).1⟩, true, (blds l C (m - 1) []).2.2) else (zY, false, (blds l C (m - 1) []).2.2)
def blds : List Syntax → List Capture → Int → List Syntax → List Syntax × Bool × Int
  | [], _, m, O => (O, true, m)
  | [x], C, m, O => if (bld x C m).2.1 = true then (O ++ [(bld x C m).1], true, (bld x C m).2.2) else (O, false, (bld x C m).2.2)
  | x :: y :: r, C, m, O => if isDots y = true then
      (if (cnOK C (idsY x []) (idsY x []).length && decide (0 ≤ cnN C (idsY x []) (idsY x []).length)) = true then
        (if (itr (fun j m => bld x (stpTo C j (idsY x []) (idsY x []).length) m) (cnN C (idsY x []) (idsY x []).length).toNat m O).2.1 = true then
          blds r C (itr (fun j m => bld x (stpTo C j (idsY x []) (idsY x []).length) m) (cnN C (idsY x []) (idsY x []).length).toNat m O).2.2 (itr (fun j m => bld x (stpTo C j (idsY x []) (idsY x []).length) m) (cnN C (idsY x []) (idsY x []).length).toNat m O).1
         else itr (fun j m => bld x (stpTo C j (idsY x []) (idsY x []).length) m) (cnN C (idsY x []) (idsY x []).length).toNat m O)
       else (O, false, m))
    else if (bld x C m).2.1 = true then blds (y :: r) C (bld x C m).2.2 (O ++ [(bld x C m).1]) else (O, false, (bld x C m).2.2)
end
end Go.Proofs.YtpnaoendfpaodaaGreat
end
section
namespace Go.Proofs.YtpnaoendfpaodaaGreat
open Go Go.Proofs.YtpnaoendfpaodaaGreat.Ab
set_option linter.unusedVariables false
set_option linter.unusedSimpArgs false
mutual
/-- the greatest form or number of rounds in a capture -/
def mxP : Capture → Nat
  | ⟨_, _, f, e⟩ => max (wY f) (max e.length (mxPs e))
def mxPs : List Capture → Nat
  | [] => 0
  | x :: r => max (mxP x) (mxPs r)
end
theorem mxP_eq (x : Capture) : mxP x = max (wY x.form) (max x.each.length (mxPs x.each)) := by cases x; simp only [mxP]
theorem mxPs_mem : ∀ {l : List Capture} {x : Capture}, x ∈ l → mxP x ≤ mxPs l
  | y :: r, x, h => by
    rw [mxPs]
    rcases List.mem_cons.1 h with rfl | h
    · omega
    · have := mxPs_mem h; omega
theorem mxPs_le {m : Nat} : ∀ {l : List Capture}, (∀ x ∈ l, mxP x ≤ m) → mxPs l ≤ m
  | [], _ => by simp [mxPs]
  | x :: r, h => by
    have h1 := h x List.mem_cons_self
    have h2 := mxPs_le fun y hy => h y (List.mem_cons_of_mem _ hy)
    rw [mxPs]; omega
def cnB (C : List Capture) (x : Syntax) : Bool := cnOK C (idsY x []) (idsY x []).length && decide (0 ≤ cnN C (idsY x []) (idsY x []).length)
abbrev bN (C : List Capture) (x : Syntax) : Nat := (cnN C (idsY x []) (idsY x []).length).toNat
abbrev stpX (C : List Capture) (x : Syntax) (j : Nat) : List Capture := stpTo C j (idsY x []) (idsY x []).length
def bI (C : List Capture) (x : Syntax) (j : Nat) (q : Int) (O : List Syntax) : List Syntax × Bool × Int := itr (fun j q => bld x (stpX C x j) q) j q O
def bJ (C : List Capture) (x : Syntax) (j : Nat) (q : Int) (O : List Syntax) : List Syntax × Bool × Int := if cnB C x = true then bI C x j q O else (O, false, q)
def bR (C : List Capture) (x : Syntax) (q : Int) (O : List Syntax) : List Syntax × Bool × Int := bJ C x (bN C x) q O
theorem bld_eq (t : Syntax) (C : List Capture) (q : Int) : bld t C q = if q - 1 < 0 then (zY, false, q - 1) else if t.kind = 1 then
      (if isDots t = true ∨ fnd C t < 0 then (t, !isDots t, q - 1)
       else if (capOf C t).depth ≠ 0 then (zY, false, q)
       else if (sizeY (capOf C t).form : Int) ≤ q then ((capOf C t).form, true, max (q - sizeY (capOf C t).form) (-1))
       else (zY, false, max (q - sizeY (capOf C t).form) (-1)))
    else if (blds t.items C (q - 1) []).2.1 = true then (⟨t.kind, t.number, t.text, [], (blds t.items C (q - 1) []).1⟩, true, (blds t.items C (q - 1) []).2.2) else (zY, false, (blds t.items C (q - 1) []).2.2) := by
  cases t; rw [bld]
theorem blds_nil (C : List Capture) (q : Int) (O : List Syntax) : blds [] C q O = (O, true, q) := by rw [blds]
theorem blds_one (x : Syntax) (C : List Capture) (q : Int) (O : List Syntax) : blds [x] C q O = if (bld x C q).2.1 = true then blds [] C (bld x C q).2.2 (O ++ [(bld x C q).1]) else (O, false, (bld x C q).2.2) := by
  rw [blds_nil, blds]
theorem blds_more (x y : Syntax) (r : List Syntax) (C : List Capture) (q : Int) (O : List Syntax) : blds (x :: y :: r) C q O = if isDots y = true then (if (bR C x q O).2.1 = true then blds r C (bR C x q O).2.2 (bR C x q O).1 else bR C x q O)
    else if (bld x C q).2.1 = true then blds (y :: r) C (bld x C q).2.2 (O ++ [(bld x C q).1]) else (O, false, (bld x C q).2.2) := by
  rw [blds]
  split
  · unfold bR bJ cnB
    split
    · rfl
    · rfl
  · rfl
theorem blds_end {l : List Syntax} {k : Nat} {C : List Capture} {q : Int} {O : List Syntax} (h : l.length ≤ k) : blds (l.drop k) C q O = (O, true, q) := by
  rw [List.drop_eq_nil_of_le h, blds_nil]
theorem blds_plain {l : List Syntax} {k : Nat} {C : List Capture} {q : Int} {O : List Syntax} (h : k < l.length) (hd : l.length ≤ k + 1 ∨ isDots (l.getD (k + 1) default) = false) :
    blds (l.drop k) C q O = if (bld (l.getD k default) C q).2.1 = true then blds (l.drop (k + 1)) C (bld (l.getD k default) C q).2.2 (O ++ [(bld (l.getD k default) C q).1]) else (O, false, (bld (l.getD k default) C q).2.2) := by
  rw [drop_get h]
  rcases Nat.lt_or_ge (k + 1) l.length with h1 | h1
  · rw [drop_get h1, blds_more, if_neg (by rcases hd with h2 | h2 <;> first | (exfalso; omega) | (rw [h2]; decide))]
  · rw [List.drop_eq_nil_of_le h1, blds_one]
theorem blds_dots {l : List Syntax} {k : Nat} {C : List Capture} {q : Int} {O : List Syntax} (h : k + 1 < l.length) (hd : isDots (l.getD (k + 1) default) = true) :
    blds (l.drop k) C q O = if (bR C (l.getD k default) q O).2.1 = true then blds (l.drop (k + 1 + 1)) C (bR C (l.getD k default) q O).2.2 (bR C (l.getD k default) q O).1 else bR C (l.getD k default) q O := by
  rw [drop_get (by omega : k < l.length), drop_get h, blds_more, if_pos hd]
theorem itr_bd {f : Nat → Int → Syntax × Bool × Int} (hf : ∀ j q, 0 ≤ q → (f j q).2.1 = true → 0 ≤ (f j q).2.2 ∧ (f j q).2.2 + 1 ≤ q) : ∀ (j : Nat) (q : Int) (O : List Syntax), 0 ≤ q → (itr f j q O).2.1 = true → 0 ≤ (itr f j q O).2.2 ∧ ((itr f j q O).1.length : Int) + (itr f j q O).2.2 ≤ O.length + q
  | 0, q, O, h0, _ => by simp only [itr]; omega
  | j + 1, q, O, h0, h => by
    have ih := itr_bd hf j q O h0
    simp only [itr] at h ⊢
    by_cases e : (itr f j q O).2.1 = true
    · rw [if_pos e] at h ⊢
      have h1 := ih e
      have h2 := hf j _ h1.1 h
      simp only [List.length_append, List.length_singleton]; omega
    · rw [if_neg e] at h; exact absurd h e
theorem itr_step (f : Nat → Int → Syntax × Bool × Int) (j : Nat) (q : Int) (O : List Syntax) (h : (itr f j q O).2.1 = true) : itr f (j + 1) q O = ((itr f j q O).1 ++ [(f j (itr f j q O).2.2).1], (f j (itr f j q O).2.2).2.1, (f j (itr f j q O).2.2).2.2) := by
  rw [itr, if_pos h]
theorem itr_stop (f : Nat → Int → Syntax × Bool × Int) (j : Nat) (q : Int) (O : List Syntax) (h : (itr f j q O).2.1 = false) : ∀ n, j ≤ n → itr f n q O = itr f j q O
  | 0, hn => by obtain rfl : j = 0 := by omega
                rfl
  | n + 1, hn => by
    by_cases e : j = n + 1
    · rw [e]
    · have := itr_stop f j q O h n (by omega)
      rw [itr, this, h]; rfl
theorem blds_bd : ∀ (l : List Syntax), (∀ x ∈ l, ∀ C q, 0 ≤ q → (bld x C q).2.1 = true → 0 ≤ (bld x C q).2.2 ∧ (bld x C q).2.2 + 1 ≤ q) → ∀ C q O, 0 ≤ q → (blds l C q O).2.1 = true → 0 ≤ (blds l C q O).2.2 ∧ ((blds l C q O).1.length : Int) + (blds l C q O).2.2 ≤ O.length + q
  | [], _, C, q, O, h0, _ => by rw [blds_nil]; simp only; omega
  | [x], hx, C, q, O, h0, h => by
    rw [blds_one] at h ⊢
    by_cases e : (bld x C q).2.1 = true
    · rw [if_pos e] at h ⊢
      have h1 := hx x List.mem_cons_self C q h0 e
      have h2 := blds_bd [] (fun _ h => by cases h) C _ (O ++ [(bld x C q).1]) h1.1 h
      simp only [List.length_append, List.length_singleton] at h2; omega
    · rw [if_neg e] at h; cases h
  | x :: y :: r, hx, C, q, O, h0, h => by
    rw [blds_more] at h ⊢
    by_cases d : isDots y = true
    · rw [if_pos d] at h ⊢
      by_cases e : (bR C x q O).2.1 = true
      · rw [if_pos e] at h ⊢
        have h1 : 0 ≤ (bR C x q O).2.2 ∧ ((bR C x q O).1.length : Int) + (bR C x q O).2.2 ≤ O.length + q := by
          unfold bR bJ at e ⊢
          by_cases c : cnB C x = true
          · rw [if_pos c] at e ⊢
            exact itr_bd (fun j q => hx x List.mem_cons_self _ q) _ q O h0 e
          · rw [if_neg c] at e; cases e
        have h2 := blds_bd r (fun z hz => hx z (List.mem_cons_of_mem _ (List.mem_cons_of_mem _ hz))) C _ (bR C x q O).1 h1.1 h
        omega
      · rw [if_neg e] at h; exact absurd h e
    · rw [if_neg d] at h ⊢
      by_cases e : (bld x C q).2.1 = true
      · rw [if_pos e] at h ⊢
        have h1 := hx x List.mem_cons_self C q h0 e
        have h2 := blds_bd (y :: r) (fun z hz => hx z (List.mem_cons_of_mem _ hz)) C _ (O ++ [(bld x C q).1]) h1.1 h
        simp only [List.length_append, List.length_singleton] at h2; omega
      · rw [if_neg e] at h; cases h
theorem bld_bd : ∀ (t : Syntax) (C : List Capture) (q : Int), 0 ≤ q → (bld t C q).2.1 = true → 0 ≤ (bld t C q).2.2 ∧ (bld t C q).2.2 + 1 ≤ q := by
  refine Syntax.ind fun t ih C q h0 h => ?_
  have h3 := sizeY_eq (capOf C t).form
  rw [bld_eq] at h ⊢
  by_cases c1 : q - 1 < 0
  · rw [if_pos c1] at h; cases h
  rw [if_neg c1] at h ⊢
  by_cases c2 : t.kind = 1
  · rw [if_pos c2] at h ⊢
    by_cases c3 : isDots t = true ∨ fnd C t < 0
    · rw [if_pos c3]; simp only; omega
    · rw [if_neg c3] at h ⊢
      by_cases c4 : (capOf C t).depth ≠ 0
      · rw [if_pos c4] at h; cases h
      · rw [if_neg c4] at h ⊢
        by_cases c5 : (sizeY (capOf C t).form : Int) ≤ q
        · rw [if_pos c5]; simp only; omega
        · rw [if_neg c5] at h; cases h
  · rw [if_neg c2] at h ⊢
    by_cases c6 : (blds t.items C (q - 1) []).2.1 = true
    · rw [if_pos c6]
      have := blds_bd t.items ih C (q - 1) [] (by omega) c6
      simp only [List.length_nil] at this ⊢; omega
    · rw [if_neg c6] at h; cases h
theorem bI_bd (C : List Capture) (x : Syntax) (j : Nat) (q : Int) (O : List Syntax) (h0 : 0 ≤ q) (h : (bI C x j q O).2.1 = true) : 0 ≤ (bI C x j q O).2.2 ∧ ((bI C x j q O).1.length : Int) + (bI C x j q O).2.2 ≤ O.length + q :=
  itr_bd (fun j q => bld_bd x _ q) j q O h0 h
theorem bJ_bd (C : List Capture) (x : Syntax) (j : Nat) (q : Int) (O : List Syntax) (h0 : 0 ≤ q) (h : (bJ C x j q O).2.1 = true) : 0 ≤ (bJ C x j q O).2.2 ∧ ((bJ C x j q O).1.length : Int) + (bJ C x j q O).2.2 ≤ O.length + q ∧ cnB C x = true := by
  unfold bJ at h ⊢
  by_cases c : cnB C x = true
  · rw [if_pos c] at h ⊢; exact ⟨(bI_bd C x j q O h0 h).1, (bI_bd C x j q O h0 h).2, c⟩
  · rw [if_neg c] at h; cases h
theorem bJ_zero (C : List Capture) (x : Syntax) (q : Int) (O : List Syntax) : bJ C x 0 q O = (O, cnB C x, q) := by
  unfold bJ bI itr
  cases h : cnB C x <;> simp
theorem bJ_step (C : List Capture) (x : Syntax) (j : Nat) (q : Int) (O : List Syntax) (h : (bJ C x j q O).2.1 = true) : bJ C x (j + 1) q O = ((bJ C x j q O).1 ++ [(bld x (stpX C x j) (bJ C x j q O).2.2).1], (bld x (stpX C x j) (bJ C x j q O).2.2).2.1, (bld x (stpX C x j) (bJ C x j q O).2.2).2.2) := by
  unfold bJ at h ⊢
  by_cases c : cnB C x = true
  · simp only [if_pos c] at h ⊢; exact itr_step _ j q O h
  · rw [if_neg c] at h; cases h
theorem bJ_stop (C : List Capture) (x : Syntax) (j : Nat) (q : Int) (O : List Syntax) (h : (bJ C x j q O).2.1 = false) (hn : j ≤ bN C x) : bR C x q O = bJ C x j q O := by
  unfold bR bJ at *
  by_cases c : cnB C x = true
  · simp only [if_pos c] at h ⊢; exact itr_stop _ j q O h _ hn
  · rw [if_neg c, if_neg c]
theorem bJ_end (C : List Capture) (x : Syntax) (j : Nat) (q : Int) (O : List Syntax) (hn : j = bN C x) : bR C x q O = bJ C x j q O := by rw [hn]; rfl
theorem cn_all {C : List Capture} {I : List Syntax} : ∀ (m j : Nat), j < m → cnOK C I m = true → rep C (I.getD j default) = true → ((capOf C (I.getD j default)).each.length : Int) = cnN C I m
  | 0, j, h, _, _ => by omega
  | m + 1, j, h, ht, hr => by
    simp only [cnOK, Bool.and_eq_true, Bool.or_eq_true, Bool.not_eq_true', decide_eq_true_eq] at ht
    simp only [cnN]
    by_cases e : j = m
    · subst e; rw [if_pos hr]
    · have ih := cn_all m j (by omega) ht.1 hr
      split
      · rename_i h2
        rcases ht.2 with (h3 | h3) | h3
        · rw [h2] at h3; cases h3
        · omega
        · omega
      · exact ih
theorem cnB_each {C : List Capture} {x : Syntax} (h : cnB C x = true) {y : Syntax} (hy : y ∈ idsY x []) (h1 : 0 ≤ fnd C y) (h2 : 0 < (C.getD (fnd C y).toNat default).depth) : (C.getD (fnd C y).toNat default).each.length = bN C x := by
  simp only [cnB, Bool.and_eq_true, decide_eq_true_eq] at h
  obtain ⟨j, hj, rfl⟩ := List.getElem_of_mem hy
  have e : (idsY x [])[j] = (idsY x []).getD j default := by simp [hj]
  rw [e] at h1 h2 ⊢
  have := cn_all (idsY x []).length j hj h.1 (by simp only [rep, capOf, Bool.and_eq_true]; exact ⟨by first | exact h1 | exact decide_eq_true h1, by first | exact h2 | exact decide_eq_true h2⟩)
  simp only [capOf] at this
  simp only [bN]; omega
theorem each_w {C : List Capture} (hC : ∀ z ∈ C, mxP z ≤ 1000000000) (i a : Nat) : mxP ((C.getD i default).each.getD a default) ≤ 1000000000 := by
  have h0 : mxP (default : Capture) = 0 := rfl
  rcases Nat.lt_or_ge a (C.getD i default).each.length with h1 | h1
  · have h2 := mxPs_mem (getD_mem' h1)
    have h3 := mxP_eq (C.getD i default)
    rcases Nat.lt_or_ge i C.length with h4 | h4
    · have := hC _ (getD_mem' h4); omega
    · have e : C.getD i default = default := by simp [h4]
      have e2 : (default : Capture).each.length = 0 := rfl
      rw [e, e2] at h1; omega
  · have e : (C.getD i default).each.getD a default = default := by rw [List.getD_eq_getElem?_getD, List.getElem?_eq_none h1]; rfl
    rw [e, h0]; omega
theorem stpL_w {C : List Capture} (hC : ∀ z ∈ C, mxP z ≤ 1000000000) (a : Nat) : ∀ I, ∀ z ∈ stpL C a I, mxP z ≤ 1000000000
  | [], z, h => hC z h
  | x :: r, z, h => by
    simp only [stpL] at h
    split at h
    · rcases List.mem_or_eq_of_mem_set h with h | h
      · exact stpL_w hC a r z h
      · rw [h]; exact each_w hC _ _
    · exact stpL_w hC a r z h
theorem stpX_w {C : List Capture} (hC : ∀ z ∈ C, mxP z ≤ 1000000000) (x : Syntax) (j : Nat) : ∀ z ∈ stpX C x j, mxP z ≤ 1000000000 := stpL_w hC j _
theorem stpX_len (C : List Capture) (x : Syntax) (j : Nat) : (stpX C x j).length = C.length := stpL_len C j _
theorem capOf_w {C : List Capture} (hC : ∀ z ∈ C, mxP z ≤ 1000000000) {t : Syntax} (h : 0 ≤ fnd C t) : wY (capOf C t).form ≤ 1000000000 := by
  have h1 := fnd_lt C t
  have h2 := hC (capOf C t) (getD_mem' (by omega))
  have h3 := mxP_eq (capOf C t)
  omega
def lnI (C : List Capture) (i : Int) : Int := ((C.getD i.toNat default).each.length : Int)
abbrev rpX (C : List Capture) (x : Syntax) : List Int := rpi C x []
def rqA (C : List Capture) (I : List Int) (n : Int) : Bool := I.all fun i => decide (lnI C i = n)
def rqB (C : List Capture) (x : Syntax) : Bool := !decide ((rpX C x).length = 0) && rqA C (rpX C x) (lnI C ((rpX C x).getD 0 default))
abbrev rqN (C : List Capture) (x : Syntax) : Nat := (C.getD ((rpX C x).getD 0 default).toNat default).each.length
def stqT (C : List Capture) (a : Nat) (I : List Int) : List Capture := I.foldl (fun O i => O.set i.toNat ((C.getD i.toNat default).each.getD a default)) C
abbrev stq (C : List Capture) (x : Syntax) (a : Nat) : List Capture := stqT C a (rpX C x)
theorem stqT_len (C : List Capture) (a : Nat) (I : List Int) : (stqT C a I).length = C.length := by
  have : ∀ (I : List Int) (O : List Capture), (I.foldl (fun O i => O.set i.toNat ((C.getD i.toNat default).each.getD a default)) O).length = O.length := by
    intro I
    induction I with
    | nil => intro O; rfl
    | cons x r ih => intro O; rw [List.foldl_cons, ih, List.length_set]
  exact this I C
theorem stqT_step {C : List Capture} {a : Nat} {I : List Int} {k : Nat} (h : k < I.length) : stqT C a (I.take (k + 1)) = (stqT C a (I.take k)).set (I.getD k default).toNat ((C.getD (I.getD k default).toNat default).each.getD a default) := by
  unfold stqT; rw [foldl_step _ _ h]
mutual
/-- what the program builds of a template: the form, whether all went well, the nodes that are left -/
def bli : Syntax → List Capture → Int → Syntax × Bool × Int
  | ⟨k, n, x, s, l⟩, C, m => if k = 1 ∧ 0 ≤ fnd C ⟨k, n, x, s, l⟩ then
      (if (capOf C ⟨k, n, x, s, l⟩).depth ≠ 0 then (zY, false, m)
       else if isSyn (capOf C ⟨k, n, x, s, l⟩).form = true then ((capOf C ⟨k, n, x, s, l⟩).form, decide (0 ≤ m - sizeY (capOf C ⟨k, n, x, s, l⟩).form), m - sizeY (capOf C ⟨k, n, x, s, l⟩).form)
       else (zY, false, m))
    else if m - 1 < 0 then (zY, false, m - 1)
    else if (blis l C (m - 1) []).2.1 = true then (⟨k, n, x, s, (blis l C (m - 1) []).1⟩, true, (blis l C (m - 1) []).2.2) else (zY, false, (blis l C (m - 1) []).2.2)
def blis : List Syntax → List Capture → Int → List Syntax → List Syntax × Bool × Int
  | [], _, m, O => (O, true, m)
  | [x], C, m, O => if (bli x C m).2.1 = true then (O ++ [(bli x C m).1], true, (bli x C m).2.2) else (O, false, (bli x C m).2.2)
  | x :: y :: r, C, m, O => if isDots y = true then
      (if rqB C x = true then
        (if (itr (fun j m => bli x (stq C x j) m) (rqN C x) m O).2.1 = true then
          blis r C (itr (fun j m => bli x (stq C x j) m) (rqN C x) m O).2.2 (itr (fun j m => bli x (stq C x j) m) (rqN C x) m O).1
         else itr (fun j m => bli x (stq C x j) m) (rqN C x) m O)
       else (O, false, m))
    else if (bli x C m).2.1 = true then blis (y :: r) C (bli x C m).2.2 (O ++ [(bli x C m).1]) else (O, false, (bli x C m).2.2)
end
def iI (C : List Capture) (x : Syntax) (j : Nat) (q : Int) (O : List Syntax) : List Syntax × Bool × Int := itr (fun j q => bli x (stq C x j) q) j q O
def iR (C : List Capture) (x : Syntax) (q : Int) (O : List Syntax) : List Syntax × Bool × Int := if rqB C x = true then iI C x (rqN C x) q O else (O, false, q)
theorem bli_eq (t : Syntax) (C : List Capture) (m : Int) : bli t C m = if t.kind = 1 ∧ 0 ≤ fnd C t then
      (if (capOf C t).depth ≠ 0 then (zY, false, m)
       else if isSyn (capOf C t).form = true then ((capOf C t).form, decide (0 ≤ m - sizeY (capOf C t).form), m - sizeY (capOf C t).form)
       else (zY, false, m))
    else if m - 1 < 0 then (zY, false, m - 1)
    else if (blis t.items C (m - 1) []).2.1 = true then (⟨t.kind, t.number, t.text, t.scopes, (blis t.items C (m - 1) []).1⟩, true, (blis t.items C (m - 1) []).2.2) else (zY, false, (blis t.items C (m - 1) []).2.2) := by
  cases t; rw [bli]
theorem blis_nil (C : List Capture) (q : Int) (O : List Syntax) : blis [] C q O = (O, true, q) := by rw [blis]
theorem blis_one (x : Syntax) (C : List Capture) (q : Int) (O : List Syntax) : blis [x] C q O = if (bli x C q).2.1 = true then blis [] C (bli x C q).2.2 (O ++ [(bli x C q).1]) else (O, false, (bli x C q).2.2) := by
  rw [blis_nil, blis]
theorem blis_more (x y : Syntax) (r : List Syntax) (C : List Capture) (q : Int) (O : List Syntax) : blis (x :: y :: r) C q O = if isDots y = true then (if (iR C x q O).2.1 = true then blis r C (iR C x q O).2.2 (iR C x q O).1 else iR C x q O)
    else if (bli x C q).2.1 = true then blis (y :: r) C (bli x C q).2.2 (O ++ [(bli x C q).1]) else (O, false, (bli x C q).2.2) := by
  rw [blis]
  split
  · unfold iR
    split
    · rfl
    · rfl
  · rfl
theorem blis_end {l : List Syntax} {k : Nat} {C : List Capture} {q : Int} {O : List Syntax} (h : l.length ≤ k) : blis (l.drop k) C q O = (O, true, q) := by
  rw [List.drop_eq_nil_of_le h, blis_nil]
theorem blis_plain {l : List Syntax} {k : Nat} {C : List Capture} {q : Int} {O : List Syntax} (h : k < l.length) (hd : l.length ≤ k + 1 ∨ isDots (l.getD (k + 1) default) = false) :
    blis (l.drop k) C q O = if (bli (l.getD k default) C q).2.1 = true then blis (l.drop (k + 1)) C (bli (l.getD k default) C q).2.2 (O ++ [(bli (l.getD k default) C q).1]) else (O, false, (bli (l.getD k default) C q).2.2) := by
  rw [drop_get h]
  rcases Nat.lt_or_ge (k + 1) l.length with h1 | h1
  · rw [drop_get h1, blis_more, if_neg (by rcases hd with h2 | h2 <;> first | (exfalso; omega) | (rw [h2]; decide))]
  · rw [List.drop_eq_nil_of_le h1, blis_one]
theorem blis_dots {l : List Syntax} {k : Nat} {C : List Capture} {q : Int} {O : List Syntax} (h : k + 1 < l.length) (hd : isDots (l.getD (k + 1) default) = true) :
    blis (l.drop k) C q O = if (iR C (l.getD k default) q O).2.1 = true then blis (l.drop (k + 1 + 1)) C (iR C (l.getD k default) q O).2.2 (iR C (l.getD k default) q O).1 else iR C (l.getD k default) q O := by
  rw [drop_get (by omega : k < l.length), drop_get h, blis_more, if_pos hd]
theorem blis_bd : ∀ (l : List Syntax), (∀ x ∈ l, ∀ C q, 0 ≤ q → (bli x C q).2.1 = true → 0 ≤ (bli x C q).2.2 ∧ (bli x C q).2.2 + 1 ≤ q) → ∀ C q O, 0 ≤ q → (blis l C q O).2.1 = true → 0 ≤ (blis l C q O).2.2 ∧ ((blis l C q O).1.length : Int) + (blis l C q O).2.2 ≤ O.length + q
  | [], _, C, q, O, h0, _ => by rw [blis_nil]; simp only; omega
  | [x], hx, C, q, O, h0, h => by
    rw [blis_one] at h ⊢
    by_cases e : (bli x C q).2.1 = true
    · rw [if_pos e] at h ⊢
      have h1 := hx x List.mem_cons_self C q h0 e
      have h2 := blis_bd [] (fun _ h => by cases h) C _ (O ++ [(bli x C q).1]) h1.1 h
      simp only [List.length_append, List.length_singleton] at h2; omega
    · rw [if_neg e] at h; cases h
  | x :: y :: r, hx, C, q, O, h0, h => by
    rw [blis_more] at h ⊢
    by_cases d : isDots y = true
    · rw [if_pos d] at h ⊢
      by_cases e : (iR C x q O).2.1 = true
      · rw [if_pos e] at h ⊢
        have h1 : 0 ≤ (iR C x q O).2.2 ∧ ((iR C x q O).1.length : Int) + (iR C x q O).2.2 ≤ O.length + q := by
          unfold iR at e ⊢
          by_cases c : rqB C x = true
          · rw [if_pos c] at e ⊢
            exact itr_bd (fun j q => hx x List.mem_cons_self _ q) _ q O h0 e
          · rw [if_neg c] at e; cases e
        have h2 := blis_bd r (fun z hz => hx z (List.mem_cons_of_mem _ (List.mem_cons_of_mem _ hz))) C _ (iR C x q O).1 h1.1 h
        omega
      · rw [if_neg e] at h; exact absurd h e
    · rw [if_neg d] at h ⊢
      by_cases e : (bli x C q).2.1 = true
      · rw [if_pos e] at h ⊢
        have h1 := hx x List.mem_cons_self C q h0 e
        have h2 := blis_bd (y :: r) (fun z hz => hx z (List.mem_cons_of_mem _ hz)) C _ (O ++ [(bli x C q).1]) h1.1 h
        simp only [List.length_append, List.length_singleton] at h2; omega
      · rw [if_neg e] at h; cases h
theorem bli_bd : ∀ (t : Syntax) (C : List Capture) (q : Int), 0 ≤ q → (bli t C q).2.1 = true → 0 ≤ (bli t C q).2.2 ∧ (bli t C q).2.2 + 1 ≤ q := by
  refine Syntax.ind fun t ih C q h0 h => ?_
  have h3 := sizeY_eq (capOf C t).form
  rw [bli_eq] at h ⊢
  by_cases c2 : t.kind = 1 ∧ 0 ≤ fnd C t
  · rw [if_pos c2] at h ⊢
    by_cases c4 : (capOf C t).depth ≠ 0
    · rw [if_pos c4] at h; cases h
    · rw [if_neg c4] at h ⊢
      by_cases c5 : isSyn (capOf C t).form = true
      · rw [if_pos c5] at h ⊢
        simp only [decide_eq_true_eq] at h ⊢
        omega
      · rw [if_neg c5] at h; cases h
  · rw [if_neg c2] at h ⊢
    by_cases c1 : q - 1 < 0
    · rw [if_pos c1] at h; cases h
    rw [if_neg c1] at h ⊢
    by_cases c6 : (blis t.items C (q - 1) []).2.1 = true
    · rw [if_pos c6]
      have := blis_bd t.items ih C (q - 1) [] (by omega) c6
      simp only [List.length_nil] at this ⊢; omega
    · rw [if_neg c6] at h; cases h
theorem iI_bd (C : List Capture) (x : Syntax) (j : Nat) (q : Int) (O : List Syntax) (h0 : 0 ≤ q) (h : (iI C x j q O).2.1 = true) : 0 ≤ (iI C x j q O).2.2 ∧ ((iI C x j q O).1.length : Int) + (iI C x j q O).2.2 ≤ O.length + q :=
  itr_bd (fun j q => bli_bd x _ q) j q O h0 h
theorem iI_step (C : List Capture) (x : Syntax) (j : Nat) (q : Int) (O : List Syntax) (h : (iI C x j q O).2.1 = true) : iI C x (j + 1) q O = ((iI C x j q O).1 ++ [(bli x (stq C x j) (iI C x j q O).2.2).1], (bli x (stq C x j) (iI C x j q O).2.2).2.1, (bli x (stq C x j) (iI C x j q O).2.2).2.2) := itr_step _ j q O h
theorem iI_stop (C : List Capture) (x : Syntax) (j n : Nat) (q : Int) (O : List Syntax) (h : (iI C x j q O).2.1 = false) (hn : j ≤ n) : iI C x n q O = iI C x j q O := itr_stop _ j q O h n hn
theorem stqT_w {C : List Capture} (hC : ∀ z ∈ C, mxP z ≤ 1000000000) (a : Nat) (I : List Int) : ∀ z ∈ stqT C a I, mxP z ≤ 1000000000 := by
  have : ∀ (I : List Int) (O : List Capture), (∀ z ∈ O, mxP z ≤ 1000000000) → ∀ z ∈ I.foldl (fun O i => O.set i.toNat ((C.getD i.toNat default).each.getD a default)) O, mxP z ≤ 1000000000 := by
    intro I
    induction I with
    | nil => intro O h; exact h
    | cons x r ih =>
      intro O h
      rw [List.foldl_cons]
      refine ih _ fun z hz => ?_
      rcases List.mem_or_eq_of_mem_set hz with h2 | h2
      · exact h z h2
      · rw [h2]; exact each_w hC _ _
  exact this I C hC
mutual
def nmZ : Syntax → List Syntax
  | ⟨k, n, t, s, l⟩ => (if k = 1 then [⟨k, n, t, s, l⟩] else []) ++ nmss l
def nmss : List Syntax → List Syntax
  | [] => []
  | x :: r => nmZ x ++ nmss r
end
theorem nmss_eq : ∀ l, nmss l = l.flatMap nmZ
  | [] => by simp [nmss]
  | x :: r => by rw [nmss, nmss_eq r]; simp
theorem nms_eq (x : Syntax) : nmZ x = (if x.kind = 1 then [x] else []) ++ x.items.flatMap nmZ := by cases x; simp only [nmZ, nmss_eq]
def addId (o : List Syntax) (y : Syntax) : List Syntax := if hasI o y = false then o ++ [y] else o
def addRp (C : List Capture) (o : List Int) (y : Syntax) : List Int := if rep C y = true ∧ fnd C y ∉ o then o ++ [fnd C y] else o
theorem foldl_flat {α β γ : Type} (f : γ → α → γ) (g : γ → β → γ) (h : β → List α) : ∀ (l : List β), (∀ x ∈ l, ∀ o, g o x = (h x).foldl f o) → ∀ o, l.foldl g o = (l.flatMap h).foldl f o
  | [], _, o => rfl
  | x :: r, hx, o => by
    rw [List.foldl_cons, List.flatMap_cons, List.foldl_append, hx x List.mem_cons_self, foldl_flat f g h r fun y hy => hx y (List.mem_cons_of_mem _ hy)]
theorem idsY_nms : ∀ (x : Syntax) (o : List Syntax), idsY x o = (nmZ x).foldl addId o := by
  refine Syntax.ind fun x ih o => ?_
  rw [idsY_eq, nms_eq, List.foldl_append, foldl_flat addId _ nmZ x.items ih]
  congr 1
  unfold ids0
  by_cases h : x.kind = 1
  · rw [if_pos h]; simp [addId, h]
  · rw [if_neg h]; simp [h]
theorem rpi_nms (C : List Capture) : ∀ (x : Syntax) (o : List Int), rpi C x o = (nmZ x).foldl (addRp C) o := by
  refine Syntax.ind fun x ih o => ?_
  rw [rpi_eq, nms_eq, List.foldl_append, foldl_flat (addRp C) _ nmZ x.items ih]
  congr 1
  unfold rpi0
  by_cases h : x.kind = 1
  · rw [if_pos h]; simp [addRp, h]
  · rw [if_neg h]; simp [h]
theorem nms_kind : ∀ (x : Syntax), ∀ y ∈ nmZ x, y.kind = 1 := by
  refine Syntax.ind fun x ih y hy => ?_
  rw [nms_eq, List.mem_append, List.mem_flatMap] at hy
  rcases hy with hy | ⟨z, hz, hy⟩
  · split at hy
    · rename_i h; rw [List.mem_singleton] at hy; subst hy; exact h
    · cases hy
  · exact ih z hz y hy
theorem fnd_same {C : List Capture} {a b : Syntax} (h1 : a.text = b.text) (h2 : a.scopes = b.scopes) (ha : a.kind = 1) (hb : b.kind = 1) : fnd C a = fnd C b := by
  have e : capFor a = capFor b := by funext x; simp only [capFor, h1, h2]
  simp only [fnd, fndN, isDots, e, h1, ha, hb]
theorem hasI_mem {o : List Syntax} {y : Syntax} : hasI o y = true ↔ ∃ z ∈ o, z.text = y.text ∧ z.scopes = y.scopes := by
  simp only [hasI, List.any_eq_true, Bool.and_eq_true, decide_eq_true_eq]
theorem addId_mem (L : List Syntax) : ∀ (o : List Syntax), (∀ z ∈ L.foldl addId o, z ∈ o ∨ z ∈ L) ∧ (∀ y, y ∈ o ∨ y ∈ L → ∃ z ∈ L.foldl addId o, z.text = y.text ∧ z.scopes = y.scopes) := by
  induction L with
  | nil => intro o; exact ⟨fun z hz => .inl hz, fun y hy => ⟨y, by simpa using hy, rfl, rfl⟩⟩
  | cons x r ih =>
    intro o
    rw [List.foldl_cons]
    obtain ⟨h1, h2⟩ := ih (addId o x)
    constructor
    · intro z hz
      rcases h1 z hz with h | h
      · unfold addId at h
        split at h
        · rcases List.mem_append.1 h with h | h
          · exact .inl h
          · rw [List.mem_singleton.1 h]; exact .inr List.mem_cons_self
        · exact .inl h
      · exact .inr (List.mem_cons_of_mem _ h)
    · intro y hy
      have h3 : ∃ z ∈ addId o x, z.text = x.text ∧ z.scopes = x.scopes := by
        unfold addId
        by_cases e : hasI o x = false
        · rw [if_pos e]; exact ⟨x, by simp, rfl, rfl⟩
        · rw [if_neg e]; exact hasI_mem.1 (by simpa using e)
      have h4 : ∀ z ∈ o, z ∈ addId o x := fun z hz => by unfold addId; split <;> simp [hz]
      rcases hy with hy | hy
      · exact h2 y (.inl (h4 y hy))
      · rcases List.mem_cons.1 hy with rfl | hy
        · obtain ⟨z, hz, e1, e2⟩ := h3
          obtain ⟨w, hw, e3, e4⟩ := h2 z (.inl hz)
          exact ⟨w, hw, e3.trans e1, e4.trans e2⟩
        · exact h2 y (.inr hy)
theorem addRp_mem (C : List Capture) (L : List Syntax) : ∀ (o : List Int) (i : Int), i ∈ L.foldl (addRp C) o ↔ (i ∈ o ∨ ∃ y ∈ L, rep C y = true ∧ fnd C y = i) := by
  induction L with
  | nil => intro o i; simp
  | cons x r ih =>
    intro o i
    rw [List.foldl_cons, ih]
    have e : i ∈ addRp C o x ↔ (i ∈ o ∨ (rep C x = true ∧ fnd C x = i)) := by
      unfold addRp
      by_cases h : rep C x = true ∧ fnd C x ∉ o
      · rw [if_pos h, List.mem_append, List.mem_singleton]
        constructor
        · rintro (a | rfl)
          · exact .inl a
          · exact .inr ⟨h.1, rfl⟩
        · rintro (a | ⟨_, rfl⟩)
          · exact .inl a
          · exact .inr rfl
      · rw [if_neg h]
        constructor
        · exact .inl
        · rintro (a | ⟨a, rfl⟩)
          · exact a
          · exact Decidable.byContradiction fun n => h ⟨a, n⟩
    rw [e]
    simp only [List.mem_cons, exists_eq_or_imp, or_assoc]
theorem rpX_mem {C : List Capture} {x : Syntax} {i : Int} : i ∈ rpX C x ↔ ∃ y ∈ idsY x [], rep C y = true ∧ fnd C y = i := by
  unfold rpX
  rw [rpi_nms, addRp_mem, idsY_nms]
  have h := addId_mem (nmZ x) []
  constructor
  · rintro (a | ⟨y, hy, h1, h2⟩)
    · cases a
    · obtain ⟨z, hz, e1, e2⟩ := h.2 y (.inr hy)
      have hz' : z ∈ nmZ x := by rcases h.1 z hz with a | a; cases a; exact a
      have e := @fnd_same C z y e1 e2 (nms_kind x z hz') (nms_kind x y hy)
      exact ⟨z, hz, by simpa [rep, capOf, e] using h1, e.trans h2⟩
  · rintro ⟨y, hy, h1, h2⟩
    refine .inr ⟨y, ?_, h1, h2⟩
    rcases h.1 y hy with a | a
    · cases a
    · exact a
theorem rep_len {C : List Capture} {y : Syntax} (h : rep C y = true) : lnI C (fnd C y) = ((capOf C y).each.length : Int) ∧ 0 ≤ fnd C y := by
  simp only [rep, Bool.and_eq_true, decide_eq_true_eq] at h
  exact ⟨rfl, h.1⟩
theorem cn_of {C : List Capture} {I : List Syntax} {n : Int} (h0 : 0 ≤ n) : ∀ m, (∀ j, j < m → rep C (I.getD j default) = true → ((capOf C (I.getD j default)).each.length : Int) = n) → cnOK C I m = true ∧ (cnN C I m = n ∨ cnN C I m = -1)
  | 0, _ => ⟨rfl, .inr rfl⟩
  | m + 1, h => by
    obtain ⟨h1, h2⟩ := cn_of h0 m fun j hj => h j (by omega)
    have h3 := h m (by omega)
    simp only [cnOK, cnN, Bool.and_eq_true, Bool.or_eq_true, Bool.not_eq_true', decide_eq_true_eq]
    by_cases e : rep C (I.getD m default) = true
    · rw [if_pos e]
      have := h3 e
      refine ⟨⟨h1, ?_⟩, .inl this⟩
      rcases h2 with h2 | h2
      · exact .inr (by omega)
      · exact .inl (.inr (by omega))
    · rw [if_neg e]
      exact ⟨⟨h1, .inl (.inl (by simpa using e))⟩, h2⟩
theorem cnN_rep {C : List Capture} {I : List Syntax} : ∀ m, m ≤ I.length → 0 ≤ cnN C I m → ∃ y ∈ I, rep C y = true
  | 0, _, h => by simp only [cnN] at h; omega
  | m + 1, hm, h => by
    simp only [cnN] at h
    split at h
    · rename_i e; exact ⟨_, getD_mem' (by omega), e⟩
    · exact cnN_rep m (by omega) h
theorem rq_cn (C : List Capture) (x : Syntax) : rqB C x = cnB C x ∧ (cnB C x = true → rqN C x = bN C x) := by
  have hall : cnB C x = true → ∀ i ∈ rpX C x, lnI C i = cnN C (idsY x []) (idsY x []).length := by
    intro h i hi
    simp only [cnB, Bool.and_eq_true, decide_eq_true_eq] at h
    obtain ⟨y, hy, h1, rfl⟩ := rpX_mem.1 hi
    rw [(rep_len h1).1]
    obtain ⟨j, hj, rfl⟩ := List.getElem_of_mem hy
    have e : (idsY x [])[j] = (idsY x []).getD j default := by simp [hj]
    rw [e] at h1 ⊢
    exact cn_all _ j hj h.1 h1
  have hne : cnB C x = true → 0 < (rpX C x).length := by
    intro h
    simp only [cnB, Bool.and_eq_true, decide_eq_true_eq] at h
    obtain ⟨y, hy, h1⟩ := cnN_rep _ (Nat.le_refl _) h.2
    exact List.length_pos_of_mem (rpX_mem.2 ⟨y, hy, h1, rfl⟩)
  refine ⟨?_, fun h => ?_⟩
  · rw [Bool.eq_iff_iff]
    constructor
    · intro h
      simp only [rqB, rqA, Bool.and_eq_true, Bool.not_eq_true', decide_eq_false_iff_not, List.all_eq_true, decide_eq_true_eq] at h
      have hl : 0 < (rpX C x).length := by omega
      have h0 : 0 ≤ lnI C ((rpX C x).getD 0 default) := by simp only [lnI]; omega
      have h1 := @cn_of C (idsY x []) _ h0 (idsY x []).length fun j hj hr => by
        rw [← (rep_len hr).1]
        exact h.2 _ (rpX_mem.2 ⟨_, getD_mem' hj, hr, rfl⟩)
      obtain ⟨y, hy, hr, _⟩ := rpX_mem.1 (getD_mem' hl)
      obtain ⟨j, hj, rfl⟩ := List.getElem_of_mem hy
      have e : (idsY x [])[j] = (idsY x []).getD j default := by simp [hj]
      rw [e] at hr
      have := cn_all _ j hj h1.1 hr
      simp only [cnB, Bool.and_eq_true, decide_eq_true_eq]
      exact ⟨h1.1, by omega⟩
    · intro h
      have h1 := hall h
      have h2 := hne h
      simp only [rqB, rqA, Bool.and_eq_true, Bool.not_eq_true', decide_eq_false_iff_not, List.all_eq_true, decide_eq_true_eq]
      exact ⟨by omega, fun i hi => by rw [h1 i hi, h1 _ (getD_mem' h2)]⟩
  · have h1 := hall h _ (getD_mem' (hne h))
    simp only [lnI] at h1
    simp only [rqN, bN]; omega
theorem stpL_at (C : List Capture) (a p : Nat) : ∀ L, (stpL C a L)[p]? = if (∃ y ∈ L, rep C y = true ∧ (fnd C y).toNat = p) ∧ p < C.length then some ((C.getD p default).each.getD a default) else C[p]?
  | [] => by simp [stpL]
  | x :: r => by
    have ih := stpL_at C a p r
    have hl := stpL_len C a r
    have er : (0 ≤ fnd C x ∧ 0 < (C.getD (fnd C x).toNat default).depth) ↔ rep C x = true := by
      unfold rep; rw [Bool.and_eq_true, decide_eq_true_eq, decide_eq_true_eq]; exact Iff.rfl
    simp only [stpL]
    by_cases e : rep C x = true
    · rw [if_pos (er.2 e), List.getElem?_set, hl]
      by_cases e2 : (fnd C x).toNat = p
      · rw [if_pos e2]
        by_cases e3 : p < C.length
        · rw [if_pos (by omega), if_pos ⟨⟨x, List.mem_cons_self, e, e2⟩, e3⟩, e2]
        · rw [if_neg (by omega), if_neg (fun h => e3 h.2)]
          rw [List.getElem?_eq_none (by omega)]
      · rw [if_neg e2, ih]
        congr 1
        apply propext
        constructor
        · rintro ⟨⟨y, hy, h⟩, h2⟩; exact ⟨⟨y, List.mem_cons_of_mem _ hy, h⟩, h2⟩
        · rintro ⟨⟨y, hy, h⟩, h2⟩
          rcases List.mem_cons.1 hy with rfl | hy
          · exact absurd h.2 e2
          · exact ⟨⟨y, hy, h⟩, h2⟩
    · rw [if_neg (fun h => e (er.1 h)), ih]
      congr 1
      apply propext
      constructor
      · rintro ⟨⟨y, hy, h⟩, h2⟩; exact ⟨⟨y, List.mem_cons_of_mem _ hy, h⟩, h2⟩
      · rintro ⟨⟨y, hy, h⟩, h2⟩
        rcases List.mem_cons.1 hy with rfl | hy
        · exact absurd h.1 e
        · exact ⟨⟨y, hy, h⟩, h2⟩
theorem stqT_at (C : List Capture) (a p : Nat) (I : List Int) : (stqT C a I)[p]? = if (∃ i ∈ I, i.toNat = p) ∧ p < C.length then some ((C.getD p default).each.getD a default) else C[p]? := by
  have : ∀ (I : List Int) (O : List Capture), O.length = C.length → (I.foldl (fun O i => O.set i.toNat ((C.getD i.toNat default).each.getD a default)) O)[p]? = if (∃ i ∈ I, i.toNat = p) ∧ p < C.length then some ((C.getD p default).each.getD a default) else O[p]? := by
    intro I
    induction I with
    | nil => intro O _; simp
    | cons x r ih =>
      intro O hO
      rw [List.foldl_cons, ih _ (by rw [List.length_set]; exact hO), List.getElem?_set, hO]
      by_cases e3 : p < C.length
      · by_cases e : ∃ i ∈ r, i.toNat = p
        · obtain ⟨i, hi, h⟩ := e
          rw [if_pos ⟨⟨i, hi, h⟩, e3⟩, if_pos ⟨⟨i, List.mem_cons_of_mem _ hi, h⟩, e3⟩]
        · rw [if_neg (fun h => e h.1)]
          by_cases e2 : x.toNat = p
          · rw [if_pos e2, if_pos (by omega), if_pos ⟨⟨x, List.mem_cons_self, e2⟩, e3⟩, e2]
          · rw [if_neg e2, if_neg]
            rintro ⟨⟨i, hi, h⟩, _⟩
            rcases List.mem_cons.1 hi with rfl | hi
            · exact e2 h
            · exact e ⟨i, hi, h⟩
      · have n1 : ¬ ((∃ i ∈ r, i.toNat = p) ∧ p < C.length) := fun h => e3 h.2
        have n2 : ¬ ((∃ i ∈ x :: r, i.toNat = p) ∧ p < C.length) := fun h => e3 h.2
        rw [if_neg n1, if_neg n2]
        split
        · rename_i h; rw [if_neg (by omega), List.getElem?_eq_none (by omega)]
        · rfl
  exact this I C rfl
theorem stq_eq (C : List Capture) (x : Syntax) (a : Nat) : stq C x a = stpX C x a := by
  apply List.ext_getElem?
  intro p
  unfold stq stpX stpTo
  rw [stqT_at, stpL_at, List.take_length]
  congr 1
  apply propext
  constructor
  · rintro ⟨⟨i, hi, h⟩, h2⟩
    obtain ⟨y, hy, h3, rfl⟩ := rpX_mem.1 hi
    exact ⟨⟨y, List.mem_reverse.2 hy, h3, h⟩, h2⟩
  · rintro ⟨⟨y, hy, h3, h⟩, h2⟩
    exact ⟨⟨_, rpX_mem.2 ⟨y, List.mem_reverse.1 hy, h3, rfl⟩, h⟩, h2⟩
def goodY (s : Syntax) : Prop := okY s = true ∧ depY s ≤ 40
theorem itr_keep {f : Nat → Int → Syntax × Bool × Int} {z : Syntax} {q : Int} {O : List Syntax} (h : z ∈ O) : ∀ j, z ∈ (itr f j q O).1
  | 0 => h
  | j + 1 => by
    have := itr_keep (f := f) (q := q) h j
    simp only [itr]; split
    · exact List.mem_append_left _ this
    · exact this
theorem itr_ok {f : Nat → Int → Syntax × Bool × Int} {q : Int} {O : List Syntax} {j : Nat} (h : (itr f (j + 1) q O).2.1 = true) : (itr f j q O).2.1 = true := by
  simp only [itr] at h; split at h
  · assumption
  · exact h
theorem itr_rel {f g : Nat → Int → Syntax × Bool × Int} (hg : ∀ j q, 0 ≤ q → (g j q).2.1 = true → 0 ≤ (g j q).2.2 ∧ (g j q).2.2 + 1 ≤ q)
    (h : ∀ j q, 0 ≤ q → q ≤ 2000 → ((g j q).2.1 = true → f j q = g j q) ∧ ((f j q).2.1 = true → goodY (f j q).1 → (g j q).2.1 = true)) {q : Int} (h0 : 0 ≤ q) (h1 : q ≤ 2000) (O : List Syntax) :
    ∀ j, ((itr g j q O).2.1 = true → itr f j q O = itr g j q O ∧ 0 ≤ (itr g j q O).2.2 ∧ (itr g j q O).2.2 ≤ q) ∧ ((itr f j q O).2.1 = true → (∀ z ∈ (itr f j q O).1, goodY z) → (itr g j q O).2.1 = true)
  | 0 => ⟨fun _ => ⟨rfl, h0, Int.le_refl _⟩, fun _ _ => rfl⟩
  | j + 1 => by
    obtain ⟨ih1, ih2⟩ := itr_rel hg h h0 h1 O j
    constructor
    · intro ht
      have hj := itr_ok ht
      obtain ⟨e, b1, b2⟩ := ih1 hj
      rw [itr_step g j q O hj] at ht ⊢
      rw [itr_step f j q O (by rw [e]; exact hj), e]
      have h3 := (h j _ b1 (by omega)).1 ht
      have h4 := hg j _ b1 ht
      rw [h3]
      exact ⟨rfl, h4.1, by simp only; omega⟩
    · intro ht hz
      have hj := itr_ok ht
      rw [itr_step f j q O hj] at ht hz
      have hgj := ih2 hj fun z hz' => hz z (List.mem_append_left _ hz')
      obtain ⟨e, b1, b2⟩ := ih1 hgj
      rw [itr_step g j q O hgj]
      have h3 := (h j (itr f j q O).2.2 (by rw [e]; exact b1) (by rw [e]; omega)).2 ht (hz _ (List.mem_append_right _ (List.mem_singleton.2 rfl)))
      rw [e] at h3
      exact h3
theorem bR_keep {C : List Capture} {x z : Syntax} {q : Int} {O : List Syntax} (h : z ∈ O) : z ∈ (bR C x q O).1 := by
  unfold bR bJ bI; split
  · exact itr_keep h _
  · exact h
theorem blds_keep : ∀ (l : List Syntax) (C : List Capture) (q : Int) (O : List Syntax) (z : Syntax), z ∈ O → z ∈ (blds l C q O).1
  | [], C, q, O, z, h => by rw [blds_nil]; exact h
  | [x], C, q, O, z, h => by
    rw [blds_one]; split
    · exact blds_keep [] C _ _ z (List.mem_append_left _ h)
    · exact h
  | x :: y :: r, C, q, O, z, h => by
    rw [blds_more]; split
    · split
      · exact blds_keep r C _ _ z (bR_keep h)
      · exact bR_keep h
    · split
      · exact blds_keep (y :: r) C _ _ z (List.mem_append_left _ h)
      · exact h
def relY (x : Syntax) : Prop := ∀ C q, 0 ≤ q → q ≤ 2000 → ((bli x C q).2.1 = true → bld x C q = bli x C q) ∧ ((bld x C q).2.1 = true → goodY (bld x C q).1 → (bli x C q).2.1 = true)
theorem bR_rel {x : Syntax} (hx : relY x) (C : List Capture) {q : Int} (h0 : 0 ≤ q) (h1 : q ≤ 2000) (O : List Syntax) :
    ((iR C x q O).2.1 = true → bR C x q O = iR C x q O ∧ 0 ≤ (iR C x q O).2.2 ∧ (iR C x q O).2.2 ≤ q) ∧ ((bR C x q O).2.1 = true → (∀ z ∈ (bR C x q O).1, goodY z) → (iR C x q O).2.1 = true) := by
  obtain ⟨e1, e2⟩ := rq_cn C x
  unfold iR bR bJ
  rw [e1]
  by_cases c : cnB C x = true
  · rw [if_pos c, if_pos c, e2 c]
    have e3 : iI C x (bN C x) q O = itr (fun j q => bli x (stpX C x j) q) (bN C x) q O := by unfold iI; congr 1; funext j m; rw [stq_eq]
    rw [e3]
    exact itr_rel (fun j q => bli_bd x _ q) (fun j q a b => hx _ q a b) h0 h1 O (bN C x)
  · rw [if_neg c, if_neg c]
    exact ⟨fun h => (by cases h), fun h => (by cases h)⟩
theorem blds_rel : ∀ (l : List Syntax) (b : Bool), (∀ x ∈ l, dotf x = true → relY x) → (∀ x, l.head? = some x → isDots x = false) → dotfs b l = true → ∀ C q O, 0 ≤ q → q ≤ 2000 →
    ((blis l C q O).2.1 = true → blds l C q O = blis l C q O) ∧ ((blds l C q O).2.1 = true → (∀ z ∈ (blds l C q O).1, goodY z) → (blis l C q O).2.1 = true)
  | [], b, _, _, _, C, q, O, h0, h1 => by rw [blds_nil, blis_nil]; exact ⟨fun _ => rfl, fun _ _ => rfl⟩
  | [x], b, hx, hh, hd, C, q, O, h0, h1 => by
    have hn : isDots x = false := hh x rfl
    simp only [dotfs, hn, Bool.and_true] at hd
    have h := hx x List.mem_cons_self (by simpa using hd) C q h0 h1
    rw [blds_one, blis_one, blds_nil, blis_nil]
    constructor
    · intro ht
      by_cases e : (bli x C q).2.1 = true
      · rw [if_pos e, h.1 e, if_pos e]
      · rw [if_neg e] at ht; cases ht
    · intro ht hz
      by_cases e : (bld x C q).2.1 = true
      · rw [if_pos e] at hz
        have := h.2 e (hz _ (List.mem_append_right _ (List.mem_singleton.2 rfl)))
        rw [if_pos this]
      · rw [if_neg e] at ht; cases ht
  | x :: y :: r, b, hx, hh, hd, C, q, O, h0, h1 => by
    have hn : isDots x = false := hh x rfl
    have hd2 : dotf x = true ∧ dotfs false (y :: r) = true := by
      rw [dotfs, hn] at hd
      simpa using hd
    have hxr := hx x List.mem_cons_self hd2.1
    rw [blds_more, blis_more]
    by_cases d : isDots y = true
    · rw [if_pos d, if_pos d]
      have hr : dotfs true r = true := by
        have := hd2.2
        rw [dotfs, d] at this
        simpa using this
      have hrh : ∀ z, r.head? = some z → isDots z = false := by
        intro z hz
        cases r with
        | nil => cases hz
        | cons w r =>
          simp only [List.head?_cons, Option.some.injEq] at hz
          subst hz
          cases e : isDots w with
          | false => rfl
          | true => rw [dotfs, e] at hr; simp at hr
      have h := bR_rel hxr C h0 h1 O
      constructor
      · intro ht
        by_cases e : (iR C x q O).2.1 = true
        · obtain ⟨e1, b1, b2⟩ := h.1 e
          rw [if_pos e] at ht ⊢
          rw [e1, if_pos e]
          exact (blds_rel r true (fun z hz => hx z (List.mem_cons_of_mem _ (List.mem_cons_of_mem _ hz))) hrh hr C _ _ b1 (by omega)).1 ht
        · rw [if_neg e] at ht; exact absurd ht e
      · intro ht hz
        by_cases e : (bR C x q O).2.1 = true
        · rw [if_pos e] at ht hz
          have hi := h.2 e fun z hz' => hz z (blds_keep r C _ _ z hz')
          obtain ⟨e1, b1, b2⟩ := h.1 hi
          rw [if_pos hi]
          rw [e1] at ht hz
          exact (blds_rel r true (fun z hz => hx z (List.mem_cons_of_mem _ (List.mem_cons_of_mem _ hz))) hrh hr C _ _ b1 (by omega)).2 ht hz
        · rw [if_neg e] at ht; exact absurd ht e
    · rw [if_neg d, if_neg d]
      have h := hxr C q h0 h1
      have hyh : ∀ z, (y :: r).head? = some z → isDots z = false := by
        intro z hz
        simp only [List.head?_cons, Option.some.injEq] at hz
        subst hz; simpa using d
      constructor
      · intro ht
        by_cases e : (bli x C q).2.1 = true
        · have hb := bli_bd x C q h0 e
          rw [if_pos e] at ht ⊢
          rw [h.1 e, if_pos e]
          exact (blds_rel (y :: r) false (fun z hz => hx z (List.mem_cons_of_mem _ hz)) hyh hd2.2 C _ _ hb.1 (by omega)).1 ht
        · rw [if_neg e] at ht; cases ht
      · intro ht hz
        by_cases e : (bld x C q).2.1 = true
        · rw [if_pos e] at ht hz
          have hi := h.2 e (hz _ (blds_keep (y :: r) C _ _ _ (List.mem_append_right _ (List.mem_singleton.2 rfl))))
          have hb := bli_bd x C q h0 hi
          rw [if_pos hi]
          rw [h.1 hi] at ht hz
          exact (blds_rel (y :: r) false (fun z hz => hx z (List.mem_cons_of_mem _ hz)) hyh hd2.2 C _ _ hb.1 (by omega)).2 ht hz
        · rw [if_neg e] at ht; cases ht
theorem dotfs_head {l : List Syntax} (h : dotfs true l = true) : ∀ x, l.head? = some x → isDots x = false := by
  intro x hx
  cases l with
  | nil => cases hx
  | cons y r =>
    simp only [List.head?_cons, Option.some.injEq] at hx
    subst hx
    cases e : isDots y with
    | false => rfl
    | true => rw [dotfs, e] at h; simp at h
theorem okY_node {t : Syntax} (h : okY t = true) : (t.kind = 1 → t.items = []) ∧ (t.kind ≠ 1 → t.scopes = []) := by
  rw [okY_eq] at h
  simp only [nodY0, nodD, Bool.and_eq_true, Bool.or_eq_true, decide_eq_true_eq] at h
  constructor
  · intro hk
    have : (t.items.length : Int) = 0 := by omega
    exact List.length_eq_zero_iff.1 (by omega)
  · intro hk
    have : (t.scopes.length : Int) = 0 := by omega
    exact List.length_eq_zero_iff.1 (by omega)
theorem etaY (t : Syntax) : t = ⟨t.kind, t.number, t.text, t.scopes, t.items⟩ := by cases t; rfl
theorem bld_rel : ∀ t, okY t = true → dotf t = true → relY t := by
  refine Syntax.ind fun t ih hok hdot C q h0 h1 => ?_
  have hn := okY_node hok
  have hd := dotf_eq t
  rw [hdot] at hd
  have hd1 : isDots t = false ∧ dotfs true t.items = true := by
    have := hd.symm
    simpa using this
  have hsz := sizeY_eq (capOf C t).form
  by_cases hc : t.kind = 1 ∧ 0 ≤ fnd C t
  · rw [bli_eq, if_pos hc, bld_eq, if_pos hc.1, if_neg (by rw [hd1.1]; simp; omega : ¬ (isDots t = true ∨ fnd C t < 0))]
    by_cases c4 : (capOf C t).depth ≠ 0
    · rw [if_pos c4, if_pos c4]
      exact ⟨fun h => (by cases h), fun h => (by split at h <;> cases h)⟩
    · rw [if_neg c4, if_neg c4]
      constructor
      · intro h
        by_cases c5 : isSyn (capOf C t).form = true
        · rw [if_pos c5] at h ⊢
          simp only [decide_eq_true_eq] at h
          rw [if_neg (by omega), if_pos (by omega)]
          have e : max (q - (sizeY (capOf C t).form : Int)) (-1) = q - sizeY (capOf C t).form := by omega
          rw [e, decide_eq_true h]
        · rw [if_neg c5] at h; cases h
      · intro h hg
        by_cases c1 : q - 1 < 0
        · rw [if_pos c1] at h; cases h
        · rw [if_neg c1] at h hg
          by_cases c6 : (sizeY (capOf C t).form : Int) ≤ q
          · rw [if_pos c6] at hg
            have c5 : isSyn (capOf C t).form = true := by
              simp only [isSyn, Bool.and_eq_true, decide_eq_true_eq]
              exact ⟨⟨by omega, hg.2⟩, hg.1⟩
            rw [if_pos c5]
            simp only [decide_eq_true_eq]; omega
          · rw [if_neg c6] at h; cases h
  · rw [bli_eq, if_neg hc, bld_eq]
    by_cases c1 : q - 1 < 0
    · rw [if_pos c1, if_pos c1]
      exact ⟨fun h => (by cases h), fun h => (by cases h)⟩
    · rw [if_neg c1, if_neg c1]
      by_cases hk : t.kind = 1
      · have hi := hn.1 hk
        rw [if_pos hk, if_pos (Or.inr (by omega) : isDots t = true ∨ fnd C t < 0), hi, blis_nil, hd1.1]
        refine ⟨fun _ => ?_, fun _ _ => rfl⟩
        have e : t = ⟨t.kind, t.number, t.text, t.scopes, []⟩ := Eq.trans (etaY t) (by rw [hi])
        show (t, true, q - 1) = ((⟨t.kind, t.number, t.text, t.scopes, []⟩ : Syntax), true, q - 1)
        rw [← e]
      · rw [if_neg hk]
        have hs := hn.2 hk
        have hall : ∀ x ∈ t.items, okY x = true := by
          rw [okY_eq, Bool.and_eq_true, List.all_eq_true] at hok; exact hok.1
        have h := blds_rel t.items true (fun x hx => ih x hx (hall x hx)) (dotfs_head hd1.2) hd1.2 C (q - 1) [] (by omega) (by omega)
        constructor
        · intro ht
          by_cases e : (blis t.items C (q - 1) []).2.1 = true
          · rw [if_pos e, h.1 e, if_pos e, hs]
          · rw [if_neg e] at ht; cases ht
        · intro ht hg
          by_cases e : (blds t.items C (q - 1) []).2.1 = true
          · rw [if_pos e] at hg
            have hz : ∀ z ∈ (blds t.items C (q - 1) []).1, goodY z := by
              intro z hz
              obtain ⟨g1, g2⟩ := hg
              rw [okY_eq, Bool.and_eq_true, List.all_eq_true] at g1
              rw [depY_eq] at g2
              have := maxBy_mem depY hz
              exact ⟨g1.1 z hz, by simp only at g2; omega⟩
            rw [if_pos (h.2 e hz)]
          · rw [if_neg e] at ht; cases ht
def insB (t : Syntax) (C : List Capture) : Bool := isSyn t && dotf t && (bld t C 2000).2.1 && isSyn (bld t C 2000).1
def insY (t : Syntax) (C : List Capture) : Syntax := if insB t C = true then (bld t C 2000).1 else zY
theorem ins_same {t : Syntax} (C : List Capture) (h1 : isSyn t = true) (h2 : dotf t = true) : insB t C = ((bli t C 2000).2.1 && isSyn (bli t C 2000).1) ∧ ((bli t C 2000).2.1 = true → (bld t C 2000).1 = (bli t C 2000).1) := by
  have hok : okY t = true := by simp only [isSyn, Bool.and_eq_true] at h1; exact h1.2
  have h := bld_rel t hok h2 C 2000 (by decide) (by decide)
  refine ⟨?_, fun e => by rw [h.1 e]⟩
  unfold insB
  rw [h1, h2, Bool.eq_iff_iff]
  simp only [Bool.true_and, Bool.and_eq_true]
  constructor
  · rintro ⟨a, b⟩
    have hg : goodY (bld t C 2000).1 := by simp only [isSyn, Bool.and_eq_true, decide_eq_true_eq] at b; exact ⟨b.2, b.1.2⟩
    have := h.2 a hg
    exact ⟨this, by rw [← h.1 this]; exact b⟩
  · rintro ⟨a, b⟩
    rw [h.1 a]; exact ⟨a, b⟩
section
variable {t : Syntax} {C : List Capture} {q : Int}
theorem bld_b1 (h : q - 1 < 0) : bld t C q = (zY, false, q - 1) := by rw [bld_eq, if_pos h]
theorem bld_b2 (h : ¬ q - 1 < 0) (h1 : t.kind = 1) (h2 : isDots t = true ∨ fnd C t < 0) : bld t C q = (t, !isDots t, q - 1) := by rw [bld_eq, if_neg h, if_pos h1, if_pos h2]
theorem bld_b3 (h : ¬ q - 1 < 0) (h1 : t.kind = 1) (h2 : isDots t = false) (h3 : ¬ fnd C t < 0) (h4 : ¬ (C.getD (fnd C t).toNat default).depth = 0) : bld t C q = (zY, false, q) := by
  rw [bld_eq, if_neg h, if_pos h1, if_neg (by rw [h2]; rintro (a | a); cases a; exact h3 a), if_pos (show (capOf C t).depth ≠ 0 from h4)]
theorem bld_b4 (h : ¬ q - 1 < 0) (h1 : t.kind = 1) (h2 : isDots t = false) (h3 : ¬ fnd C t < 0) (h4 : (C.getD (fnd C t).toNat default).depth = 0) (h5 : ¬ (sizeY (C.getD (fnd C t).toNat default).form : Int) ≤ q) : bld t C q = (zY, false, max (q - sizeY (C.getD (fnd C t).toNat default).form) (-1)) := by
  rw [bld_eq, if_neg h, if_pos h1, if_neg (by rw [h2]; rintro (a | a); cases a; exact h3 a), if_neg (by intro e; exact e h4), if_neg (show ¬ (sizeY (capOf C t).form : Int) ≤ q from h5)]; rfl
theorem bld_b5 (h : ¬ q - 1 < 0) (h1 : t.kind = 1) (h2 : isDots t = false) (h3 : ¬ fnd C t < 0) (h4 : (C.getD (fnd C t).toNat default).depth = 0) (h5 : (sizeY (C.getD (fnd C t).toNat default).form : Int) ≤ q) : bld t C q = ((C.getD (fnd C t).toNat default).form, true, max (q - sizeY (C.getD (fnd C t).toNat default).form) (-1)) := by
  rw [bld_eq, if_neg h, if_pos h1, if_neg (by rw [h2]; rintro (a | a); cases a; exact h3 a), if_neg (by intro e; exact e h4), if_pos (show (sizeY (capOf C t).form : Int) ≤ q from h5)]; rfl
theorem bld_b6 (h : ¬ q - 1 < 0) (h1 : ¬ t.kind = 1) (h2 : (blds t.items C (q - 1) []).2.1 = true) : bld t C q = (⟨t.kind, t.number, t.text, [], (blds t.items C (q - 1) []).1⟩, true, (blds t.items C (q - 1) []).2.2) := by
  rw [bld_eq, if_neg h, if_neg h1, if_pos h2]
theorem bld_b7 (h : ¬ q - 1 < 0) (h1 : ¬ t.kind = 1) (h2 : (blds t.items C (q - 1) []).2.1 = false) : bld t C q = (zY, false, (blds t.items C (q - 1) []).2.2) := by
  rw [bld_eq, if_neg h, if_neg h1, if_neg (by rw [h2]; decide)]
theorem bli_b1 (h1 : t.kind = 1) (h3 : 0 ≤ fnd C t) (h4 : ¬ (C.getD (fnd C t).toNat default).depth = 0) : bli t C q = (zY, false, q) := by
  rw [bli_eq, if_pos ⟨h1, h3⟩, if_pos (show (capOf C t).depth ≠ 0 from h4)]
theorem bli_b2 (h1 : t.kind = 1) (h3 : 0 ≤ fnd C t) (h4 : (C.getD (fnd C t).toNat default).depth = 0) (h5 : (meaY (C.getD (fnd C t).toNat default).form 1 0).1 = false) : bli t C q = (zY, false, q) := by
  rw [meaY_isSyn] at h5
  rw [bli_eq, if_pos ⟨h1, h3⟩, if_neg (by intro e; exact e h4), if_neg (by show ¬ isSyn (C.getD (fnd C t).toNat default).form = true; rw [h5]; decide)]
theorem bli_b3 (h1 : t.kind = 1) (h3 : 0 ≤ fnd C t) (h4 : (C.getD (fnd C t).toNat default).depth = 0) (h5 : (meaY (C.getD (fnd C t).toNat default).form 1 0).1 = true) : bli t C q = ((C.getD (fnd C t).toNat default).form, decide (0 ≤ q - (meaY (C.getD (fnd C t).toNat default).form 1 0).2), q - (meaY (C.getD (fnd C t).toNat default).form 1 0).2) := by
  have e := (meaY_of (C.getD (fnd C t).toNat default).form 1 0 (by decide)).2 h5
  rw [meaY_isSyn] at h5
  rw [bli_eq, if_pos ⟨h1, h3⟩, if_neg (by intro e; exact e h4), if_pos (show isSyn (capOf C t).form = true from h5), e, Int.zero_add]; rfl
theorem bli_b4 (h1 : ¬ (t.kind = 1 ∧ 0 ≤ fnd C t)) (h : q - 1 < 0) : bli t C q = (zY, false, q - 1) := by rw [bli_eq, if_neg h1, if_pos h]
theorem bli_b5 (h1 : ¬ (t.kind = 1 ∧ 0 ≤ fnd C t)) (h : ¬ q - 1 < 0) (h2 : (blis t.items C (q - 1) []).2.1 = true) : bli t C q = (⟨t.kind, t.number, t.text, t.scopes, (blis t.items C (q - 1) []).1⟩, true, (blis t.items C (q - 1) []).2.2) := by rw [bli_eq, if_neg h1, if_neg h, if_pos h2]
theorem bli_b6 (h1 : ¬ (t.kind = 1 ∧ 0 ≤ fnd C t)) (h : ¬ q - 1 < 0) (h2 : (blis t.items C (q - 1) []).2.1 = false) : bli t C q = (zY, false, (blis t.items C (q - 1) []).2.2) := by rw [bli_eq, if_neg h1, if_neg h, if_neg (by rw [h2]; decide)]
theorem bN_le (hC : ∀ z ∈ C, mxP z ≤ 1000000000) {x : Syntax} (h : cnB C x = true) : bN C x ≤ 1000000000 := by
  have h' := h
  simp only [cnB, Bool.and_eq_true, decide_eq_true_eq] at h'
  obtain ⟨y, hy, hr⟩ := cnN_rep _ (Nat.le_refl _) h'.2
  have hr' := hr
  unfold rep at hr'
  rw [Bool.and_eq_true, decide_eq_true_eq, decide_eq_true_eq] at hr'
  have e := cnB_each h hy hr'.1 hr'.2
  have h1 := fnd_lt C y
  have h2 := hC (C.getD (fnd C y).toNat default) (getD_mem' (by omega))
  have h3 := mxP_eq (C.getD (fnd C y).toNat default)
  omega
theorem cnB_lt {x : Syntax} {k : Nat} (h : cnB C x = true) (hk : (k : Int) < if cnOK C (idsY x []) (idsY x []).length = true then cnN C (idsY x []) (idsY x []).length else 0) : k < bN C x := by
  simp only [cnB, Bool.and_eq_true, decide_eq_true_eq] at h
  rw [if_pos h.1] at hk; simp only [bN]; omega
theorem cnB_ge {x : Syntax} {k : Nat} (h : cnB C x = true) (hk : ¬ (k : Int) < if cnOK C (idsY x []) (idsY x []).length = true then cnN C (idsY x []) (idsY x []).length else 0) : bN C x ≤ k := by
  simp only [cnB, Bool.and_eq_true, decide_eq_true_eq] at h
  rw [if_pos h.1] at hk; simp only [bN]; omega
end
theorem bR_stop {C : List Capture} {x : Syntax} {j : Nat} {q : Int} {O : List Syntax} (hj : j ≤ bN C x ∨ cnB C x = false) (h : (bJ C x j q O).2.1 = false) : bR C x q O = bJ C x j q O := by
  rcases hj with hj | hj
  · exact bJ_stop C x j q O h hj
  · unfold bR bJ; rw [if_neg (by rw [hj]; decide), if_neg (by rw [hj]; decide)]
theorem bR_done {C : List Capture} {x : Syntax} {j : Nat} {q : Int} {O : List Syntax} (hj : j ≤ bN C x ∨ cnB C x = false) (h0 : 0 ≤ q) (h : (bJ C x j q O).2.1 = true) (hk : ¬ (j : Int) < if cnOK C (idsY x []) (idsY x []).length = true then cnN C (idsY x []) (idsY x []).length else 0) : bR C x q O = bJ C x j q O := by
  have h1 := (bJ_bd C x j q O h0 h).2.2
  have h2 := cnB_ge h1 hk
  rcases hj with hj | hj
  · exact bJ_end C x j q O (by omega)
  · rw [h1] at hj; cases hj
theorem iR_bd (C : List Capture) (x : Syntax) (q : Int) (O : List Syntax) (h0 : 0 ≤ q) (h : (iR C x q O).2.1 = true) : 0 ≤ (iR C x q O).2.2 ∧ ((iR C x q O).1.length : Int) + (iR C x q O).2.2 ≤ O.length + q := by
  unfold iR at h ⊢
  by_cases c : rqB C x = true
  · rw [if_pos c] at h ⊢; exact iI_bd C x _ q O h0 h
  · rw [if_neg c] at h; cases h
theorem rpX_at {C : List Capture} {x : Syntax} {j : Nat} (h : j < (rpX C x).length) : 0 ≤ (rpX C x).getD j 0 ∧ (rpX C x).getD j 0 < C.length ∧ ((rpX C x).getD j 0).toNat < C.length := by
  have h1 : (rpX C x).getD j 0 ∈ rpX C x := getD_mem' h
  obtain ⟨y, _, hr, e⟩ := rpX_mem.1 h1
  have h2 := (rep_len hr).2
  have h3 := fnd_lt C y
  rw [e] at h2 h3
  omega
theorem rqA_step {C : List Capture} {I : List Int} {n : Int} {j : Nat} (h : j < I.length) (h0 : rqA C (I.take j) n = true) (e : ((C.getD (I.getD j 0).toNat default).each.length : Int) = n) : rqA C (I.take (j + 1)) n = true := by
  have e2 : I.getD j default = I.getD j 0 := rfl
  unfold rqA at *; rw [take_get h, List.all_append, h0, e2]
  simp only [List.all_cons, List.all_nil, Bool.and_true, Bool.true_and]; exact decide_eq_true (show lnI C (I.getD j 0) = n from e)
theorem rqA_stop {C : List Capture} {I : List Int} {n : Int} {j : Nat} (h : j < I.length) (e : ¬ ((C.getD (I.getD j 0).toNat default).each.length : Int) = n) : rqA C I n = false := by
  unfold rqA; rw [List.all_eq_false]; exact ⟨I.getD j 0, getD_mem' h, by rw [show decide (lnI C (I.getD j 0) = n) = false from decide_eq_false e]; decide⟩
theorem rqB_of {C : List Capture} {x : Syntax} {j : Nat} (h0 : 0 < (rpX C x).length) (h : (rpX C x).length ≤ j) (e : rqA C ((rpX C x).take j) (lnI C ((rpX C x).getD 0 0)) = true) : rqB C x = true := by
  rw [List.take_of_length_le h] at e
  have e2 : (rpX C x).getD 0 default = (rpX C x).getD 0 0 := rfl
  unfold rqB; rw [e2, e, decide_eq_false (by omega)]; rfl
theorem rqB_no {C : List Capture} {x : Syntax} {j : Nat} (h : j < (rpX C x).length) (e : ¬ ((C.getD ((rpX C x).getD j 0).toNat default).each.length : Int) = ((C.getD ((rpX C x).getD 0 0).toNat default).each.length : Int)) (q : Int) (O : List Syntax) : iR C x q O = (O, false, q) := by
  have e2 : (rpX C x).getD 0 default = (rpX C x).getD 0 0 := rfl
  have h1 := rqA_stop h e
  unfold iR rqB; rw [e2, show lnI C ((rpX C x).getD 0 0) = ((C.getD ((rpX C x).getD 0 0).toNat default).each.length : Int) from rfl, h1]; simp
theorem rqB_each {C : List Capture} {x : Syntax} (h : rqB C x = true) {j : Nat} (hj : j < (rpX C x).length) : (C.getD ((rpX C x).getD j 0).toNat default).each.length = rqN C x := by
  simp only [rqB, rqA, Bool.and_eq_true, List.all_eq_true, decide_eq_true_eq] at h
  have := h.2 _ (getD_mem' hj)
  simp only [lnI] at this
  exact Int.ofNat.inj this
theorem rqN_le {C : List Capture} (hC : ∀ z ∈ C, mxP z ≤ 1000000000) {x : Syntax} (h0 : 0 < (rpX C x).length) : rqN C x ≤ 1000000000 := by
  have h1 := rpX_at h0
  have h2 := hC _ (getD_mem' h1.2.2)
  have h3 := mxP_eq (C.getD ((rpX C x).getD 0 0).toNat default)
  have e2 : (rpX C x).getD 0 default = (rpX C x).getD 0 0 := rfl
  simp only [rqN, e2]; omega
theorem stq_end {C : List Capture} {x : Syntax} {a k : Nat} (h : (rpX C x).length ≤ k) : stqT C a ((rpX C x).take k) = stq C x a := by rw [List.take_of_length_le h]
theorem iR_eq {C : List Capture} {x : Syntax} {j : Nat} {q : Int} {O : List Syntax} (h : rqB C x = true) (hj : j ≤ rqN C x) (hn : rqN C x ≤ j) : iR C x q O = iI C x j q O := by
  unfold iR; rw [if_pos h, show rqN C x = j by omega]
theorem iR_bad {C : List Capture} {x : Syntax} {j : Nat} {q : Int} {O : List Syntax} (h : rqB C x = true) (hj : j < rqN C x) (h1 : (iI C x j q O).2.1 = true) (h2 : (bli x (stq C x j) (iI C x j q O).2.2).2.1 = false) : (iR C x q O).2.1 = false ∧ (iR C x q O).2.2 = (bli x (stq C x j) (iI C x j q O).2.2).2.2 := by
  have e := iI_step C x j q O h1
  have e2 := iI_stop C x (j + 1) (rqN C x) q O (by rw [e]; exact h2) (by omega)
  unfold iR; rw [if_pos h, e2, e]; exact ⟨h2, rfl⟩
theorem cap_set {C : List Capture} {k : Nat} {x : Capture} : (C.map captureC).set k (captureF x) = (C.set k x).map captureC := by rw [List.map_set, captureC_eq]
theorem dfI : (default : Int) = 0 := rfl
theorem rqA_step' {C : List Capture} {I : List Int} {j : Nat} (h : j < I.length) (h0 : rqA C (I.take j) (lnI C (I.getD 0 0)) = true) (e : ((C.getD (I.getD j 0).toNat default).each.length : Int) = ((C.getD (I.getD 0 0).toNat default).each.length : Int)) : rqA C (I.take (j + 1)) (lnI C (I.getD 0 0)) = true := rqA_step h h0 e
theorem ite_fnd {k : Prop} [Decidable k] {x : Int} (h : 0 ≤ if k then x else -1) : k ∧ 0 ≤ x := by
  split at h
  · exact ⟨‹_›, h⟩
  · omega
theorem meaY_bd (s : Syntax) (h : (meaY s 1 0).1 = true) : 0 ≤ (meaY s 1 0).2 ∧ (meaY s 1 0).2 ≤ 2000 := by
  have h1 := ((meaY_of s 1 0 (by decide)).1).1 h
  have h2 := (meaY_of s 1 0 (by decide)).2 h
  omega
end Go.Proofs.YtpnaoendfpaodaaGreat
end
section
namespace Go.Proofs.YtpnaoendfpaodaaGreat
open Go Go.Proofs.YtpnaoendfpaodaaGreat.Ab
set_option linter.unusedVariables false
set_option linter.unusedSimpArgs false
set_option maxHeartbeats 4000000
abbrev P_c_sBuild (t : Syntax) (C : List Capture) (q : Int) : Ct := ⟨258, [.box [vI q]], [syntaxA t, ll (C.map captureC), .one (.ptr 0 0)], .box [vI (bld t C q).2.2] :: syntaxO (bld t C q).1, .tup [syntaxR (bld t C q).1 1, lb (bld t C q).2.1]⟩
def lc_sBuild_sLb (t : Syntax) (C : List Capture) (q : Int) (k : Nat × Int × List Syntax) : Lp Nat := .mk 163 1 (fun x => [(1, ll (List.map captureC C)), (2, SV.one (AC.ptr 0 0)),
 (3, SV.one (AC.ptr 1 0)), (6, SV.one (AC.ptr 2 0)), (9, SV.one (AC.ptr 3 0)), (10, li ((↑k.fst : Int) + 1)), (11, SV.one (AC.ptr 4 0)), (14, li (if cnOK C (idsY (t.items.getD
 k.fst default) []) (idsY (t.items.getD k.fst default) []).length = true then cnN C (idsY (t.items.getD k.fst default) []) (idsY (t.items.getD k.fst default) []).length else 0)),
 (15, hs x 1), (16, hs x 0)]) (fun x => [Ob.box [ha x 2], Ob.box (vals (syntaxF t)), Ob.box [vI 0, vI 0, vS (ByteArray.mk #[]), AC.val (Cell.lit (Value.slice none 0 0)), AC.val
 (Cell.lit (Value.slice none 0 0))], Ob.box [vI t.kind, vI t.number, vS t.text, AC.val (Cell.lit (Value.slice none 0 0)), AC.ref 5], Ob.box (vals (syntaxF (t.items.getD k.fst
 default))), ho x 3]) (fun k1 => [.s (li (↑k1 : Int)), .s (lb (bJ C (t.items.getD k.fst default) k1 k.snd.fst k.snd.snd).snd.fst), .a (vI (bJ C (t.items.getD k.fst default) k1
 k.snd.fst k.snd.snd).snd.snd), .o (Ob.arr true 5 (List.map syntaxC (bJ C (t.items.getD k.fst default) k1 k.snd.fst k.snd.snd).fst))]) (fun k1 => (k1 ≤ bN C (t.items.getD k.fst
 default) ∨ cnB C (t.items.getD k.fst default) = false) ∧ k.fst + 1 < t.items.length ∧ 0 ≤ k.snd.fst ∧ (↑k.snd.snd.length : Int) + k.snd.fst ≤ 2000) (fun k1 => bN C (t.items.getD
 k.fst default) - k1) [.mk True (.exit 2) (fun x => [(1, ll (List.map captureC C)), (2, SV.one (AC.ptr 0 0)), (3, SV.one (AC.ptr 1 0)), (6, SV.one (AC.ptr 2 0)), (9, SV.one (AC.ptr
 3 0)), (10, li ((↑k.fst : Int) + 1)), (15, hs x 0)]) (fun x => [Ob.box [ha x 1], Ob.box (vals (syntaxF t)), Ob.box [vI 0, vI 0, vS (ByteArray.mk #[]), AC.val (Cell.lit
 (Value.slice none 0 0)), AC.val (Cell.lit (Value.slice none 0 0))], Ob.box [vI t.kind, vI t.number, vS t.text, AC.val (Cell.lit (Value.slice none 0 0)), AC.ref 4], ho x 2]) [.s
 (lb (bR C (t.items.getD k.fst default) k.snd.fst k.snd.snd).snd.fst), .a (vI (bR C (t.items.getD k.fst default) k.snd.fst k.snd.snd).snd.snd), .o (Ob.arr true 5 (List.map syntaxC
 (bR C (t.items.getD k.fst default) k.snd.fst k.snd.snd).fst))]]
def lc_sBuild_sLa (t : Syntax) (C : List Capture) (q : Int) : Lp (Nat × Int × List Syntax) := .mk 163 1 (fun x => [(1, ll (List.map captureC C)), (2, SV.one (AC.ptr 0 0)), (3,
 SV.one (AC.ptr 1 0)), (6, SV.one (AC.ptr 2 0)), (9, SV.one (AC.ptr 3 0)), (10, hs x 0)]) (fun x => [Ob.box [ha x 1], Ob.box (vals (syntaxF t)), Ob.box [vI 0, vI 0, vS
 (ByteArray.mk #[]), AC.val (Cell.lit (Value.slice none 0 0)), AC.val (Cell.lit (Value.slice none 0 0))], Ob.box [vI t.kind, vI t.number, vS t.text, AC.val (Cell.lit (Value.slice
 none 0 0)), AC.ref 4], ho x 2]) (fun k => [.s (li (↑k.fst : Int)), .a (vI k.snd.fst), .o (Ob.arr true 5 (List.map syntaxC k.snd.snd))]) (fun k => t.items.length ≥ k.fst ∧
 t.items.length ≤ 1000000000 ∧ blds t.items C (q - 1) [] = blds (List.drop k.fst t.items) C k.snd.fst k.snd.snd ∧ 0 ≤ k.snd.fst ∧ (↑k.snd.snd.length : Int) + k.snd.fst ≤ 2000) (fun
 k => t.items.length - k.fst) [.mk ((blds t.items C (q - 1) []).snd.fst = true) (.exit 0) (fun x => [(6, SV.one (AC.ptr 1 0)), (9, SV.one (AC.ptr 2 0))]) (fun x => [Ob.box [ha x
 0], Ob.box [vI 0, vI 0, vS (ByteArray.mk #[]), AC.val (Cell.lit (Value.slice none 0 0)), AC.val (Cell.lit (Value.slice none 0 0))], Ob.box [vI t.kind, vI t.number, vS t.text,
 AC.val (Cell.lit (Value.slice none 0 0)), AC.ref 3], ho x 1]) [.a (vI (blds t.items C (q - 1) []).snd.snd), .o (Ob.arr true 5 (List.map syntaxC (blds t.items C (q - 1) []).fst))],
 .mk ((blds t.items C (q - 1) []).snd.fst = false) .ret (fun x => [(6, SV.one (AC.ptr 1 0)), (7, hs x 2)]) (fun x => [Ob.box [ha x 0], ho x 1]) [.a (vI (blds t.items C (q - 1)
 []).snd.snd), .o (Ob.box [vI 0, vI 0, vS (mkS []), AC.val (Cell.lit (Value.slice none 0 0)), AC.val (Cell.lit (Value.slice none 0 0))]), .s (lb false)]]
theorem Sc_sBuild_sLb (t : Syntax) (C : List Capture) (q : Int) (h : 0 ≤ q ∧ q ≤ 2000 ∧ wY t ≤ 1000000000 ∧ C.length ≤ 1000000000) (hC : ∀ (z : Capture), z ∈ C → mxP z ≤
 1000000000) (ih : ∀ (z : Syntax), z ∈ t.items → ∀ (C : List Capture) (q : Int), 0 ≤ q ∧ q ≤ 2000 ∧ wY z ≤ 1000000000 ∧ C.length ≤ 1000000000 → (∀ (z : Capture), z ∈ C → mxP z ≤
 1000000000) → OK (P_c_sBuild z C q)) (k : Nat × Int × List Syntax) : Lp.Sem Tryz.prog (loopAt Tryz.f258 1) (lc_sBuild_sLb t C q k) := lpOK (fun k1 => .i ((↑k1 : Int) < if cnOK C
 (idsY (t.items.getD k.fst default) []) (idsY (t.items.getD k.fst default) []).length = true then cnN C (idsY (t.items.getD k.fst default) []) (idsY (t.items.getD k.fst default)
 []).length else 0) (.b (bJ C (t.items.getD k.fst default) k1 k.snd.fst k.snd.snd).snd.fst (.w (.draw [(6, [0]), (10, [6])]) (.d [.rd, .rd, .rd] (P_c_sStep C (t.items.getD k.fst
 default) k1) (.d [.rd, .rd, .ptr] (P_c_sBuild (t.items.getD k.fst default) (stpTo C k1 (idsY (t.items.getD k.fst default) []) (idsY (t.items.getD k.fst default) []).length) (bJ C
 (t.items.getD k.fst default) k1 k.snd.fst k.snd.snd).snd.snd) (.p (((List.map syntaxC (bJ C (t.items.getD k.fst default) k1 k.snd.fst k.snd.snd).fst).length + 1) * 80 ≤
 140737488355328) (.r ((↑k1 : Int) + 1) (.g [0, 1, 2, 3, 4, 19] (k1 + 1) [.s (li ((↑k1 : Int) + 1)), .s (lb (bld (t.items.getD k.fst default) (stpTo C k1 (idsY (t.items.getD k.fst
 default) []) (idsY (t.items.getD k.fst default) []).length) (bJ C (t.items.getD k.fst default) k1 k.snd.fst k.snd.snd).snd.snd).snd.fst), .a (vI (bld (t.items.getD k.fst default)
 (stpTo C k1 (idsY (t.items.getD k.fst default) []) (idsY (t.items.getD k.fst default) []).length) (bJ C (t.items.getD k.fst default) k1 k.snd.fst k.snd.snd).snd.snd).snd.snd), .o
 (Ob.arr true 5 (List.map syntaxC (bJ C (t.items.getD k.fst default) k1 k.snd.fst k.snd.snd).fst ++ [syntaxF (bld (t.items.getD k.fst default) (stpTo C k1 (idsY (t.items.getD k.fst
 default) []) (idsY (t.items.getD k.fst default) []).length) (bJ C (t.items.getD k.fst default) k1 k.snd.fst k.snd.snd).snd.snd).fst]))])))))) (.o 0 [0, 1, 2, 3, 5] [.s (lb (bJ C
 (t.items.getD k.fst default) k1 k.snd.fst k.snd.snd).snd.fst), .a (vI (bJ C (t.items.getD k.fst default) k1 k.snd.fst k.snd.snd).snd.snd), .o (Ob.arr true 5 (List.map syntaxC (bJ
 C (t.items.getD k.fst default) k1 k.snd.fst k.snd.snd).fst))])) (.y false (.o 0 [0, 1, 2, 3, 5] [.s (lb (bJ C (t.items.getD k.fst default) k1 k.snd.fst k.snd.snd).snd.fst), .a (vI
 (bJ C (t.items.getD k.fst default) k1 k.snd.fst k.snd.snd).snd.snd), .o (Ob.arr true 5 (List.map syntaxC (bJ C (t.items.getD k.fst default) k1 k.snd.fst k.snd.snd).fst))]))) (by
  intro k1 h; try dsimp only [teasy, nthW, lc_sBuild_sLb] at h ⊢
  obtain ⟨i, m, O⟩ := k
  simp only at *
  have g1 := bJ_bd C (t.items.getD i default) k1 m O
  have g2 := bJ_step C (t.items.getD i default) k1 m O
  have g3 := @bR_stop C (t.items.getD i default) k1 m O
  have g4 : ¬ ((k1 : Int) < if cnOK C (idsY (t.items.getD i default) []) (idsY (t.items.getD i default) []).length = true then cnN C (idsY (t.items.getD i default) []) (idsY (t.items.getD i default) []).length else 0) → bR C (t.items.getD i default) m O = bJ C (t.items.getD i default) k1 m O := fun b => by
    cases hok : (bJ C (t.items.getD i default) k1 m O).2.1 with
    | false => exact g3 h.1 hok
    | true => exact bR_done h.1 (by omega) hok b
  have g5 := @cnB_each C (t.items.getD i default)
  have g6 : (bJ C (t.items.getD i default) k1 m O).2.1 = true → ((k1 : Int) < if cnOK C (idsY (t.items.getD i default) []) (idsY (t.items.getD i default) []).length = true then cnN C (idsY (t.items.getD i default) []) (idsY (t.items.getD i default) []).length else 0) → k1 < bN C (t.items.getD i default) ∧ bN C (t.items.getD i default) ≤ 1000000000 ∧ cnB C (t.items.getD i default) = true := fun a b => ⟨cnB_lt (g1 (by omega) a).2.2 b, bN_le hC (g1 (by omega) a).2.2, (g1 (by omega) a).2.2⟩
  have g7 := stpX_len C (t.items.getD i default) k1
  have g8 := @size_item t i
  with_reducible repeat' (first | apply And.intro | exact zR | exact ih | (intro; skip) | apply c_sCopyY | apply c_sFewY | apply c_sCountC | apply c_sStep | apply ih)
  all_goals (try simp only [std, inj] at *)
  all_goals with_reducible repeat' apply And.intro
  all_goals (try (first | with_reducible apply c_sCopyY | with_reducible apply c_sFewY | with_reducible apply c_sCountC | with_reducible apply c_sStep | with_reducible apply ih | (simp only [← List.map_append]; first | with_reducible apply c_sCopyY | with_reducible apply c_sFewY | with_reducible apply c_sCountC | with_reducible apply c_sStep | with_reducible apply ih)))
  all_goals (try (first | exact zw))
  all_goals (try first | exact getD_mem' (by omega) | exact stpX_w hC _ _ _ (by assumption) | (rw [g2 (by assumption)]; done) | (rw [g2 (by assumption)]; exact rowSnoc (C := syntaxC) _ _) | (rw [g4 (by assumption)]; done) | (rw [g3 h.1 (by assumption)]; done) | exact Nat.le_trans (Nat.le_of_eq (stpX_len C _ _)) (by omega))
  all_goals (try (have G := g6 (by assumption) (by assumption); have G1 := g1 (by omega) (by assumption); first | omega | (rw [g5 G.2.2 (by assumption) (by assumption) (by assumption)]; exact G.1) | (refine Nat.le_of_eq_of_le g7 ?_; omega))))
theorem Sc_sBuild_sLa (t : Syntax) (C : List Capture) (q : Int) (h : 0 ≤ q ∧ q ≤ 2000 ∧ wY t ≤ 1000000000 ∧ C.length ≤ 1000000000) (hC : ∀ (z : Capture), z ∈ C → mxP z ≤
 1000000000) (ih : ∀ (z : Syntax), z ∈ t.items → ∀ (C : List Capture) (q : Int), 0 ≤ q ∧ q ≤ 2000 ∧ wY z ≤ 1000000000 ∧ C.length ≤ 1000000000 → (∀ (z : Capture), z ∈ C → mxP z ≤
 1000000000) → OK (P_c_sBuild z C q)) : Lp.Sem Tryz.prog (loopAt Tryz.f258 0) (lc_sBuild_sLa t C q) := lpOK (fun k => .z syntaxC t.items (.i ((↑k.fst : Int) < (↑(List.map syntaxC
 t.items).length : Int)) (.x (↑k.fst : Int) (List.map syntaxC t.items) (syntaxF (t.items.getD k.fst default)) (.r ((↑k.fst : Int) + 1) (.z syntaxC t.items (.i ((↑(List.map syntaxC
 t.items).length : Int) ≤ (↑k.fst : Int) + 1) (.y true (.d [.rd, .rd, .ptr] (P_c_sBuild (t.items.getD k.fst default) C k.snd.fst) (.b (!(bld (t.items.getD k.fst default) C
 k.snd.fst).snd.fst) (.o 1 [0, 2] [.a (vI (bld (t.items.getD k.fst default) C k.snd.fst).snd.snd), .o (Ob.box [vI 0, vI 0, vS (ByteArray.mk #[]), AC.val (Cell.lit (Value.slice none
 0 0)), AC.val (Cell.lit (Value.slice none 0 0))]), .s (lb false)]) (.p (((List.map syntaxC k.snd.snd).length + 1) * 80 ≤ 140737488355328) (.r ((↑k.fst : Int) + 1) (.g [0, 1, 2, 3,
 11] (k.fst + 1, (bld (t.items.getD k.fst default) C k.snd.fst).snd.snd, k.snd.snd ++ [(bld (t.items.getD k.fst default) C k.snd.fst).fst]) [.s (li ((↑k.fst : Int) + 1)), .a (vI
 (bld (t.items.getD k.fst default) C k.snd.fst).snd.snd), .o (Ob.arr true 5 (List.map syntaxC k.snd.snd ++ [syntaxF (bld (t.items.getD k.fst default) C k.snd.fst).fst]))])))))) (.r
 ((↑k.fst : Int) + 1) (.x ((↑k.fst : Int) + 1) (List.map syntaxC t.items) (syntaxF (t.items.getD (k.fst + 1) default)) (.c [.rd] (c_sDots (t.items.getD (k.fst + 1) default)) (.b
 (!isDots (t.items.getD (k.fst + 1) default)) (.d [.rd, .rd, .ptr] (P_c_sBuild (t.items.getD k.fst default) C k.snd.fst) (.b (!(bld (t.items.getD k.fst default) C
 k.snd.fst).snd.fst) (.o 1 [0, 2] [.a (vI (bld (t.items.getD k.fst default) C k.snd.fst).snd.snd), .o (Ob.box [vI 0, vI 0, vS (ByteArray.mk #[]), AC.val (Cell.lit (Value.slice none
 0 0)), AC.val (Cell.lit (Value.slice none 0 0))]), .s (lb false)]) (.p (((List.map syntaxC k.snd.snd).length + 1) * 80 ≤ 140737488355328) (.r ((↑k.fst : Int) + 1) (.g [0, 1, 2, 3,
 11] (k.fst + 1, (bld (t.items.getD k.fst default) C k.snd.fst).snd.snd, k.snd.snd ++ [(bld (t.items.getD k.fst default) C k.snd.fst).fst]) [.s (li ((↑k.fst : Int) + 1)), .a (vI
 (bld (t.items.getD k.fst default) C k.snd.fst).snd.snd), .o (Ob.arr true 5 (List.map syntaxC k.snd.snd ++ [syntaxF (bld (t.items.getD k.fst default) C k.snd.fst).fst]))]))))) (.r
 ((↑k.fst : Int) + 1) (.d [.rd, .rd] (P_c_sCountC C (t.items.getD k.fst default)) (.l (lc_sBuild_sLb t C q k) (Sc_sBuild_sLb t C q h hC ih k) [0, 1, 2, 3, 5, 4] [.s (li 0), .s (lb
 (cnOK C (idsY (t.items.getD k.fst default) []) (idsY (t.items.getD k.fst default) []).length && decide (0 ≤ cnN C (idsY (t.items.getD k.fst default) []) (idsY (t.items.getD k.fst
 default) []).length))), .a (vI k.snd.fst), .o (Ob.arr true 5 (List.map syntaxC k.snd.snd))] 0 (.t (.b (!(bR C (t.items.getD k.fst default) k.snd.fst k.snd.snd).snd.fst) (.o 1 [0,
 2] [.a (vI (bR C (t.items.getD k.fst default) k.snd.fst k.snd.snd).snd.snd), .o (Ob.box [vI 0, vI 0, vS (ByteArray.mk #[]), AC.val (Cell.lit (Value.slice none 0 0)), AC.val
 (Cell.lit (Value.slice none 0 0))]), .s (lb false)]) (.r ((↑k.fst : Int) + 1 + 1) (.g [0, 1, 2, 3, 4] (k.fst + 1 + 1, (bR C (t.items.getD k.fst default) k.snd.fst
 k.snd.snd).snd.snd, (bR C (t.items.getD k.fst default) k.snd.fst k.snd.snd).fst) [.s (li ((↑k.fst : Int) + 1 + 1)), .a (vI (bR C (t.items.getD k.fst default) k.snd.fst
 k.snd.snd).snd.snd), .o (Ob.arr true 5 (List.map syntaxC (bR C (t.items.getD k.fst default) k.snd.fst k.snd.snd).fst))]))) .q)))))))))))) (.o 0 [0, 2, 3, 4] [.a (vI k.snd.fst), .o
 (Ob.arr true 5 (List.map syntaxC k.snd.snd))]))) (by
  intro k h; try dsimp only [teasy, nthW, lc_sBuild_sLa, lc_sBuild_sLb] at h ⊢
  obtain ⟨i, m, O⟩ := k
  simp only at *
  have H := h.2.2.1
  have p1 : i < t.items.length → (t.items.length ≤ i + 1 ∨ isDots (t.items.getD (i + 1) default) = false) → (bld (t.items.getD i default) C m).2.1 = true → blds (t.items.drop i) C m O = blds (t.items.drop (i + 1)) C (bld (t.items.getD i default) C m).2.2 (O ++ [(bld (t.items.getD i default) C m).1]) := fun a b c => by rw [blds_plain a b, if_pos c]
  have p2 : i < t.items.length → (t.items.length ≤ i + 1 ∨ isDots (t.items.getD (i + 1) default) = false) → (bld (t.items.getD i default) C m).2.1 = false → blds (t.items.drop i) C m O = (O, false, (bld (t.items.getD i default) C m).2.2) := fun a b c => by rw [blds_plain a b, if_neg (by rw [c]; decide)]
  have d1 : i + 1 < t.items.length → isDots (t.items.getD (i + 1) default) = true → (bR C (t.items.getD i default) m O).2.1 = true → blds (t.items.drop i) C m O = blds (t.items.drop (i + 1 + 1)) C (bR C (t.items.getD i default) m O).2.2 (bR C (t.items.getD i default) m O).1 := fun a b c => by rw [blds_dots a b, if_pos c]
  have d2 : i + 1 < t.items.length → isDots (t.items.getD (i + 1) default) = true → (bR C (t.items.getD i default) m O).2.1 = false → blds (t.items.drop i) C m O = bR C (t.items.getD i default) m O := fun a b c => by rw [blds_dots a b, if_neg (by rw [c]; decide)]
  have e1 : t.items.length ≤ i → blds (t.items.drop i) C m O = (O, true, m) := fun a => blds_end a
  have g4 := bld_bd (t.items.getD i default) C m
  have g6 : 0 ≤ m → (bR C (t.items.getD i default) m O).2.1 = true → 0 ≤ (bR C (t.items.getD i default) m O).2.2 ∧ ((bR C (t.items.getD i default) m O).1.length : Int) + (bR C (t.items.getD i default) m O).2.2 ≤ O.length + m := fun a b => ⟨(bJ_bd C _ _ m O a b).1, (bJ_bd C _ _ m O a b).2.1⟩
  have g8 := @size_item t i
  have g9 : (cnOK C (idsY (t.items.getD i default) []) (idsY (t.items.getD i default) []).length && decide (0 ≤ cnN C (idsY (t.items.getD i default) []) (idsY (t.items.getD i default) []).length)) = (bJ C (t.items.getD i default) 0 m O).2.1 := by rw [bJ_zero]; rfl
  have g10 : m = (bJ C (t.items.getD i default) 0 m O).2.2 := by rw [bJ_zero]
  have g11 : O = (bJ C (t.items.getD i default) 0 m O).1 := by rw [bJ_zero]
  with_reducible repeat' (first | apply And.intro | exact zR | exact ih | (intro; skip) | apply c_sCopyY | apply c_sFewY | apply c_sCountC | apply c_sStep | apply ih)
  all_goals (try simp only [std, inj] at *)
  all_goals with_reducible repeat' apply And.intro
  all_goals (try (first | with_reducible apply c_sCopyY | with_reducible apply c_sFewY | with_reducible apply c_sCountC | with_reducible apply c_sStep | with_reducible apply ih | (simp only [← List.map_append]; first | with_reducible apply c_sCopyY | with_reducible apply c_sFewY | with_reducible apply c_sCountC | with_reducible apply c_sStep | with_reducible apply ih)))
  all_goals (try (first | exact zw))
  all_goals (try simp only [Bool.not_eq_true', Bool.not_eq_false', decide_eq_false_iff_not, decide_eq_true_eq, Decidable.not_not] at *)
  all_goals (try first | exact getD_mem' (by omega) | exact hC _ (by assumption) | exact g9 | exact g10 | exact g11 | (rw [← g11]; done) | exact rowSnoc (C := syntaxC) _ _)
  all_goals (try first | (rw [H, p1 (by omega) (by first | exact Or.inl (by omega) | exact Or.inr (by assumption)) (by assumption)]) | (rw [H, p2 (by omega) (by first | exact Or.inl (by omega) | exact Or.inr (by assumption)) (by assumption)]) | (rw [H, d1 (by omega) (by assumption) (by assumption)]) | (rw [H, d2 (by omega) (by assumption) (by assumption)]; assumption) | (rw [H, d2 (by omega) (by assumption) (by assumption)]) | (rw [H, e1 (by omega)]))
  all_goals (try first | (have := g4 (by omega) (by assumption); first | omega | (simp only [List.length_singleton]; omega)) | (have := g6 (by omega) (by assumption); omega)))
theorem c_sBuild_s (t : Syntax) (C : List Capture) (q : Int) (h : 0 ≤ q ∧ q ≤ 2000 ∧ wY t ≤ 1000000000 ∧ C.length ≤ 1000000000) (hC : ∀ z ∈ C, mxP z ≤ 1000000000) (ih : ∀ z ∈
 t.items, ∀ (C : List Capture) (q : Int) (h : 0 ≤ q ∧ q ≤ 2000 ∧ wY z ≤ 1000000000 ∧ C.length ≤ 1000000000) (hC : ∀ z ∈ C, mxP z ≤ 1000000000), P_c_sBuild z C q)  : P_c_sBuild t C
 q := fnOK Tryz.call258 Tryz.func258 (.r (q - 1) (.i (q - (1 : Int) < 0) (.w (.ghost (.nilbox 2 3 true 1)) (.w (.ghost (.nilbox 2 4 true 5)) (.f [3, 4] [Ob.box [vI (q - 1)], Ob.arr
 true 1 [], Ob.arr true 5 []] (AV.tup [SV.agg [vI 0, vI 0, vS (ByteArray.mk #[]), AC.ref 1, AC.ref 2], lb false])))) (.i (t.kind = 1) (.c [.rd, .rd] (c_sFind C t) (.c [.rd]
 (c_sDots t) (.b (isDots t) (.y true (.w (.draw [(5, [2])]) (.d [.rd] (P_c_sCopyY t) (.c [.rd] (c_sDots t) (.f [3, 4] [Ob.box [vI (q - 1)], Ob.arr true 1 (List.map intC t.scopes),
 Ob.arr true 5 (List.map syntaxC t.items)] (AV.tup [SV.agg [vI t.kind, vI t.number, vS t.text, AC.ref 1, AC.ref 2], lb !isDots t])))))) (.i (fnd C t < 0) (.w (.draw [(5, [2])]) (.d
 [.rd] (P_c_sCopyY t) (.c [.rd] (c_sDots t) (.f [3, 4] [Ob.box [vI (q - 1)], Ob.arr true 1 (List.map intC t.scopes), Ob.arr true 5 (List.map syntaxC t.items)] (AV.tup [SV.agg [vI
 t.kind, vI t.number, vS t.text, AC.ref 1, AC.ref 2], lb !isDots t]))))) (.r (q - 1 + 1) (.x (fnd C t) (List.map captureC C) (captureF (C.getD (fnd C t).toNat default)) (.i
 ((C.getD (fnd C t).toNat default).depth ≠ 0) (.y true (.w (.ghost (.nilbox 2 3 true 1)) (.w (.ghost (.nilbox 2 4 true 5)) (.f [3, 4] [Ob.box [vI (q - 1 + 1)], Ob.arr true 1 [],
 Ob.arr true 5 []] (AV.tup [SV.agg [vI 0, vI 0, vS (ByteArray.mk #[]), AC.ref 1, AC.ref 2], lb false]))))) (.x (fnd C t) (List.map captureC C) (captureF (C.getD (fnd C t).toNat
 default)) (.d [.rd, .ptr] (P_c_sFewY (C.getD (fnd C t).toNat default).form (q - 1 + 1)) (.b (!decide ((↑(sizeY (C.getD (fnd C t).toNat default).form) : Int) ≤ q - 1 + 1)) (.w
 (.ghost (.nilbox 2 3 true 1)) (.w (.ghost (.nilbox 2 4 true 5)) (.f [3, 4] [Ob.box [vI (max (q - 1 + 1 - (↑(sizeY (C.getD (fnd C t).toNat default).form) : Int)) (-1 : Int))],
 Ob.arr true 1 [], Ob.arr true 5 []] (AV.tup [SV.agg [vI 0, vI 0, vS (ByteArray.mk #[]), AC.ref 1, AC.ref 2], lb false])))) (.x (fnd C t) (List.map captureC C) (captureF (C.getD
 (fnd C t).toNat default)) (.d [.rd] (P_c_sCopyY (C.getD (fnd C t).toNat default).form) (.f [3, 4] [Ob.box [vI (max (q - 1 + 1 - (↑(sizeY (C.getD (fnd C t).toNat default).form) :
 Int)) (-1 : Int))], Ob.arr true 1 (List.map intC (C.getD (fnd C t).toNat default).form.scopes), Ob.arr true 5 (List.map syntaxC (C.getD (fnd C t).toNat default).form.items)]
 (AV.tup [SV.agg [vI (C.getD (fnd C t).toNat default).form.kind, vI (C.getD (fnd C t).toNat default).form.number, vS (C.getD (fnd C t).toNat default).form.text, AC.ref 1, AC.ref
 2], lb true])))))))))))))) (.w (.ghost (.nilbox 3 4 true 5)) (.l (lc_sBuild_sLa t C q) (Sc_sBuild_sLa t C q h hC ih) [0, 1, 2, 3, 4] [.s (li 0), .a (vI (q - 1)), .o (Ob.arr true 5
 [])] (0, q - 1, []) (.t (.w (.ghost (.nilbox 1 3 true 1)) (.f [4, 3] [Ob.box [vI (blds t.items C (q - 1) []).snd.snd], Ob.arr true 1 [], Ob.arr true 5 (List.map syntaxC (blds
 t.items C (q - 1) []).fst)] (AV.tup [SV.agg [vI t.kind, vI t.number, vS t.text, AC.ref 1, AC.ref 2], lb true]))) (.t (.w (.ghost (.nilbox 1 3 true 1)) (.w (.ghost (.nilbox 1 4
 true 5)) (.f [2, 3] [Ob.box [vI (blds t.items C (q - 1) []).snd.snd], Ob.arr true 1 [], Ob.arr true 5 []] (AV.tup [SV.agg [vI 0, vI 0, vS (mkS []), AC.ref 1, AC.ref 2], lb
 false])))) .q))))))) (by
  dsimp only [teasy, P_c_sBuild, nthW, lc_sBuild_sLa]
  have g2 := fnd_lt C t
  have g3 := @capOf_w C hC t
  have g4 := wY_eq t
  with_reducible repeat' (first | apply And.intro | exact zR | exact ih | (intro; skip) | apply c_sCopyY | apply c_sFewY | apply c_sCountC | apply c_sStep)
  all_goals (try simp only [std, inj] at *)
  all_goals with_reducible repeat' apply And.intro
  all_goals (try (first | with_reducible apply c_sCopyY | with_reducible apply c_sFewY | with_reducible apply c_sCountC | with_reducible apply c_sStep | with_reducible apply ih | (simp only [← List.map_append]; first | with_reducible apply c_sCopyY | with_reducible apply c_sFewY | with_reducible apply c_sCountC | with_reducible apply c_sStep | with_reducible apply ih)))
  all_goals (try (first | exact zw))
  all_goals (try simp only [Bool.not_eq_true', Bool.not_eq_false', decide_eq_false_iff_not, decide_eq_true_eq, Decidable.not_not] at *)
  all_goals (try first | exact hC _ (by assumption) | exact capOf_w hC (by omega) | (rw [bld_b1 (by omega)]) | (rw [bld_b2 (by omega) (by assumption) (by first | exact Or.inl (by assumption) | exact Or.inr (by omega))]) | (rw [bld_b3 (by omega) (by assumption) (by assumption) (by omega) (by assumption)]) | (rw [bld_b4 (by omega) (by assumption) (by assumption) (by omega) (by assumption) (by omega)]) | (rw [bld_b5 (by omega) (by assumption) (by assumption) (by omega) (by assumption) (by omega)]) | (rw [bld_b6 (by omega) (by assumption) (by assumption)]) | (rw [bld_b7 (by omega) (by assumption) (by assumption)]))
  all_goals (try first | rfl | (dsimp only; omega) | (simp only [List.length_nil]; omega)))
theorem c_sBuild (t : Syntax) : ∀ (C : List Capture) (q : Int) (h : 0 ≤ q ∧ q ≤ 2000 ∧ wY t ≤ 1000000000 ∧ C.length ≤ 1000000000) (hC : ∀ z ∈ C, mxP z ≤ 1000000000), P_c_sBuild t C q := Syntax.ind (P := fun t => ∀ (C : List Capture) (q : Int) (h : 0 ≤ q ∧ q ≤ 2000 ∧ wY t ≤ 1000000000 ∧ C.length ≤ 1000000000) (hC : ∀ z ∈ C, mxP z ≤ 1000000000), P_c_sBuild t C q) (fun t ih C q h hC => c_sBuild_s t C q h hC ih) t
abbrev P_c_iBuild (t : Syntax) (C : List Capture) (q : Int) : Ct := ⟨259, [.box [vI q]], [.one (.ptr 0 0), syntaxA t, ll (C.map captureC)], .box [vI (bli t C q).2.2] :: syntaxO (bli t C q).1, .tup [syntaxR (bli t C q).1 1, lb (bli t C q).2.1]⟩
def lc_iBuild_sLd (t : Syntax) (C : List Capture) (q : Int) (k : Nat × Int × List Syntax) (k1 : Nat) : Lp Nat := .mk 206 1 (fun x => [(0, SV.one (AC.ptr 0 0)), (2, ll (List.map
 captureC C)), (4, SV.one (AC.ptr 1 0)), (6, SV.one (AC.ptr 2 0)), (10, SV.one (AC.ptr 3 0)), (11, li ((↑k.fst : Int) + 1)), (12, SV.one (AC.ptr 4 0)), (15, SV.one (AC.ref 5)),
 (16, li (↑(List.map captureC (C.getD ((rpi C (t.items.getD k.fst default) []).getD 0 0).toNat default).each).length : Int)), (19, li (↑k1 : Int)), (20, SV.one (AC.ref 6)), (171,
 SV.one (AC.ref 5)), (172, li (↑(List.map intC (rpi C (t.items.getD k.fst default) [])).length : Int)), (173, hs x 0)]) (fun x => [Ob.box [vI (iI C (t.items.getD k.fst default) k1
 k.snd.fst k.snd.snd).snd.snd], Ob.box (vals (syntaxF t)), Ob.box [vI 0, vI 0, vS (ByteArray.mk #[]), AC.val (Cell.lit (Value.slice none 0 0)), AC.val (Cell.lit (Value.slice none 0
 0))], Ob.box [vI t.kind, vI t.number, vS t.text, AC.ref 7, AC.ref 8], Ob.box (vals (syntaxF (t.items.getD k.fst default))), Ob.arr true 1 (List.map intC (rpi C (t.items.getD k.fst
 default) [])), ho x 1, Ob.arr true 1 (List.map intC t.scopes), Ob.arr true 5 (List.map syntaxC (iI C (t.items.getD k.fst default) k1 k.snd.fst k.snd.snd).fst)]) (fun k2 => [.s (li
 (↑k2 : Int)), .o (Ob.arr false 12 (List.map captureC (stqT C k1 (List.take k2 (rpX C (t.items.getD k.fst default))))))]) (fun k2 => k2 ≤ (rpX C (t.items.getD k.fst
 default)).length ∧ (rpX C (t.items.getD k.fst default)).length ≤ 1000000001 ∧ k1 < rqN C (t.items.getD k.fst default) ∧ rqB C (t.items.getD k.fst default) = true) (fun k2 => (rpX
 C (t.items.getD k.fst default)).length - k2) [.mk True (.exit 6) (fun x => [(0, SV.one (AC.ptr 0 0)), (2, ll (List.map captureC C)), (4, SV.one (AC.ptr 1 0)), (6, SV.one (AC.ptr 2
 0)), (10, SV.one (AC.ptr 3 0)), (11, li ((↑k.fst : Int) + 1)), (12, SV.one (AC.ptr 4 0)), (15, SV.one (AC.ref 5)), (16, li (↑(List.map captureC (C.getD ((rpi C (t.items.getD k.fst
 default) []).getD 0 0).toNat default).each).length : Int)), (19, li (↑k1 : Int)), (20, SV.one (AC.ref 6))]) (fun x => [Ob.box [vI (iI C (t.items.getD k.fst default) k1 k.snd.fst
 k.snd.snd).snd.snd], Ob.box (vals (syntaxF t)), Ob.box [vI 0, vI 0, vS (ByteArray.mk #[]), AC.val (Cell.lit (Value.slice none 0 0)), AC.val (Cell.lit (Value.slice none 0 0))],
 Ob.box [vI t.kind, vI t.number, vS t.text, AC.ref 7, AC.ref 8], Ob.box (vals (syntaxF (t.items.getD k.fst default))), Ob.arr true 1 (List.map intC (rpi C (t.items.getD k.fst
 default) [])), ho x 0, Ob.arr true 1 (List.map intC t.scopes), Ob.arr true 5 (List.map syntaxC (iI C (t.items.getD k.fst default) k1 k.snd.fst k.snd.snd).fst)]) [.o (Ob.arr false
 12 (List.map captureC (stq C (t.items.getD k.fst default) k1)))]]
def lc_iBuild_sLc (t : Syntax) (C : List Capture) (q : Int) (k : Nat × Int × List Syntax) : Lp Nat := .mk 206 1 (fun x => [(0, SV.one (AC.ptr 0 0)), (2, ll (List.map captureC C)),
 (4, SV.one (AC.ptr 1 0)), (6, SV.one (AC.ptr 2 0)), (10, SV.one (AC.ptr 3 0)), (11, li ((↑k.fst : Int) + 1)), (12, SV.one (AC.ptr 4 0)), (15, SV.one (AC.ref 5)), (16, li
 (↑(List.map captureC (C.getD ((rpi C (t.items.getD k.fst default) []).getD 0 0).toNat default).each).length : Int)), (19, hs x 0)]) (fun x => [Ob.box [ha x 1], Ob.box (vals
 (syntaxF t)), Ob.box [vI 0, vI 0, vS (ByteArray.mk #[]), AC.val (Cell.lit (Value.slice none 0 0)), AC.val (Cell.lit (Value.slice none 0 0))], Ob.box [vI t.kind, vI t.number, vS
 t.text, AC.ref 6, AC.ref 7], Ob.box (vals (syntaxF (t.items.getD k.fst default))), Ob.arr true 1 (List.map intC (rpi C (t.items.getD k.fst default) [])), Ob.arr true 1 (List.map
 intC t.scopes), ho x 2]) (fun k1 => [.s (li (↑k1 : Int)), .a (vI (iI C (t.items.getD k.fst default) k1 k.snd.fst k.snd.snd).snd.snd), .o (Ob.arr true 5 (List.map syntaxC (iI C
 (t.items.getD k.fst default) k1 k.snd.fst k.snd.snd).fst))]) (fun k1 => k1 ≤ rqN C (t.items.getD k.fst default) ∧ rqB C (t.items.getD k.fst default) = true ∧ (iI C (t.items.getD
 k.fst default) k1 k.snd.fst k.snd.snd).snd.fst = true ∧ (rpX C (t.items.getD k.fst default)).length ≤ 1000000001 ∧ k.fst + 1 < t.items.length ∧ t.items.length ≤ 1000000000 ∧
 isDots (t.items.getD (k.fst + 1) default) = true ∧ 0 ≤ k.snd.fst ∧ (↑k.snd.snd.length : Int) + k.snd.fst ≤ 2000 ∧ blis t.items C (q - 1) [] = blis (List.drop k.fst t.items) C
 k.snd.fst k.snd.snd) (fun k1 => rqN C (t.items.getD k.fst default) - k1) [.mk ((iR C (t.items.getD k.fst default) k.snd.fst k.snd.snd).snd.fst = true) (.exit 4) (fun x => [(0,
 SV.one (AC.ptr 0 0)), (2, ll (List.map captureC C)), (4, SV.one (AC.ptr 1 0)), (6, SV.one (AC.ptr 2 0)), (10, SV.one (AC.ptr 3 0)), (11, li ((↑k.fst : Int) + 1))]) (fun x =>
 [Ob.box [ha x 0], Ob.box (vals (syntaxF t)), Ob.box [vI 0, vI 0, vS (ByteArray.mk #[]), AC.val (Cell.lit (Value.slice none 0 0)), AC.val (Cell.lit (Value.slice none 0 0))], Ob.box
 [vI t.kind, vI t.number, vS t.text, AC.ref 4, AC.ref 5], Ob.arr true 1 (List.map intC t.scopes), ho x 1]) [.a (vI (iR C (t.items.getD k.fst default) k.snd.fst k.snd.snd).snd.snd),
 .o (Ob.arr true 5 (List.map syntaxC (iR C (t.items.getD k.fst default) k.snd.fst k.snd.snd).fst))], .mk ((blis t.items C (q - 1) []).snd.fst = false) .ret (fun x => [(6, SV.one
 (AC.ptr 1 0)), (7, hs x 2)]) (fun x => [Ob.box [ha x 0], ho x 1]) [.a (vI (blis t.items C (q - 1) []).snd.snd), .o (Ob.box [vI 0, vI 0, vS (mkS []), AC.val (Cell.lit (Value.slice
 none 0 0)), AC.val (Cell.lit (Value.slice none 0 0))]), .s (lb false)]]
def lc_iBuild_sLb (t : Syntax) (C : List Capture) (q : Int) (k : Nat × Int × List Syntax) : Lp Nat := .mk 206 1 (fun x => [(0, SV.one (AC.ptr 0 0)), (2, ll (List.map captureC C)),
 (4, SV.one (AC.ptr 1 0)), (6, SV.one (AC.ptr 2 0)), (10, SV.one (AC.ptr 3 0)), (11, li ((↑k.fst : Int) + 1)), (12, SV.one (AC.ptr 4 0)), (15, SV.one (AC.ref 5)), (16, li
 (↑(List.map captureC (C.getD ((rpi C (t.items.getD k.fst default) []).getD 0 0).toNat default).each).length : Int)), (148, SV.one (AC.ref 5)), (149, li (↑(List.map intC (rpi C
 (t.items.getD k.fst default) [])).length : Int)), (150, hs x 0)]) (fun x => [Ob.box [vI k.snd.fst], Ob.box (vals (syntaxF t)), Ob.box [vI 0, vI 0, vS (ByteArray.mk #[]), AC.val
 (Cell.lit (Value.slice none 0 0)), AC.val (Cell.lit (Value.slice none 0 0))], Ob.box [vI t.kind, vI t.number, vS t.text, AC.ref 6, AC.ref 7], Ob.box (vals (syntaxF (t.items.getD
 k.fst default))), Ob.arr true 1 (List.map intC (rpi C (t.items.getD k.fst default) [])), Ob.arr true 1 (List.map intC t.scopes), Ob.arr true 5 (List.map syntaxC k.snd.snd)]) (fun
 k1 => [.s (li (↑k1 : Int))]) (fun k1 => k1 ≤ (rpX C (t.items.getD k.fst default)).length ∧ (rpX C (t.items.getD k.fst default)).length ≤ 1000000001 ∧ rqA C (List.take k1 (rpX C
 (t.items.getD k.fst default))) (lnI C ((rpX C (t.items.getD k.fst default)).getD 0 default)) = true ∧ 0 < (rpX C (t.items.getD k.fst default)).length ∧ k.fst + 1 < t.items.length
 ∧ t.items.length ≤ 1000000000 ∧ isDots (t.items.getD (k.fst + 1) default) = true ∧ 0 ≤ k.snd.fst ∧ (↑k.snd.snd.length : Int) + k.snd.fst ≤ 2000 ∧ blis t.items C (q - 1) [] = blis
 (List.drop k.fst t.items) C k.snd.fst k.snd.snd) (fun k1 => (rpX C (t.items.getD k.fst default)).length - k1) [.mk (rqB C (t.items.getD k.fst default) = true) (.exit 2) (fun x =>
 [(0, SV.one (AC.ptr 0 0)), (2, ll (List.map captureC C)), (4, SV.one (AC.ptr 1 0)), (6, SV.one (AC.ptr 2 0)), (10, SV.one (AC.ptr 3 0)), (11, li ((↑k.fst : Int) + 1)), (12, SV.one
 (AC.ptr 4 0)), (15, SV.one (AC.ref 5)), (16, li (↑(List.map captureC (C.getD ((rpi C (t.items.getD k.fst default) []).getD 0 0).toNat default).each).length : Int))]) (fun x =>
 [Ob.box [vI k.snd.fst], Ob.box (vals (syntaxF t)), Ob.box [vI 0, vI 0, vS (ByteArray.mk #[]), AC.val (Cell.lit (Value.slice none 0 0)), AC.val (Cell.lit (Value.slice none 0 0))],
 Ob.box [vI t.kind, vI t.number, vS t.text, AC.ref 6, AC.ref 7], Ob.box (vals (syntaxF (t.items.getD k.fst default))), Ob.arr true 1 (List.map intC (rpi C (t.items.getD k.fst
 default) [])), Ob.arr true 1 (List.map intC t.scopes), Ob.arr true 5 (List.map syntaxC k.snd.snd)]) [], .mk ((blis t.items C (q - 1) []).snd.fst = false) .ret (fun x => [(6,
 SV.one (AC.ptr 1 0)), (7, hs x 2)]) (fun x => [Ob.box [ha x 0], ho x 1]) [.a (vI (blis t.items C (q - 1) []).snd.snd), .o (Ob.box [vI 0, vI 0, vS (mkS []), AC.val (Cell.lit
 (Value.slice none 0 0)), AC.val (Cell.lit (Value.slice none 0 0))]), .s (lb false)]]
def lc_iBuild_sLa (t : Syntax) (C : List Capture) (q : Int) : Lp (Nat × Int × List Syntax) := .mk 206 1 (fun x => [(0, SV.one (AC.ptr 0 0)), (2, ll (List.map captureC C)), (4,
 SV.one (AC.ptr 1 0)), (6, SV.one (AC.ptr 2 0)), (10, SV.one (AC.ptr 3 0)), (11, hs x 0)]) (fun x => [Ob.box [ha x 1], Ob.box (vals (syntaxF t)), Ob.box [vI 0, vI 0, vS
 (ByteArray.mk #[]), AC.val (Cell.lit (Value.slice none 0 0)), AC.val (Cell.lit (Value.slice none 0 0))], Ob.box [vI t.kind, vI t.number, vS t.text, AC.ref 4, AC.ref 5], Ob.arr
 true 1 (List.map intC t.scopes), ho x 2]) (fun k => [.s (li (↑k.fst : Int)), .a (vI k.snd.fst), .o (Ob.arr true 5 (List.map syntaxC k.snd.snd))]) (fun k => t.items.length ≥ k.fst
 ∧ t.items.length ≤ 1000000000 ∧ blis t.items C (q - 1) [] = blis (List.drop k.fst t.items) C k.snd.fst k.snd.snd ∧ 0 ≤ k.snd.fst ∧ (↑k.snd.snd.length : Int) + k.snd.fst ≤ 2000)
 (fun k => t.items.length - k.fst) [.mk ((blis t.items C (q - 1) []).snd.fst = true) (.exit 0) (fun x => [(6, SV.one (AC.ptr 1 0)), (10, SV.one (AC.ptr 2 0))]) (fun x => [Ob.box
 [ha x 0], Ob.box [vI 0, vI 0, vS (ByteArray.mk #[]), AC.val (Cell.lit (Value.slice none 0 0)), AC.val (Cell.lit (Value.slice none 0 0))], Ob.box [vI t.kind, vI t.number, vS
 t.text, AC.ref 3, AC.ref 4], Ob.arr true 1 (List.map intC t.scopes), ho x 1]) [.a (vI (blis t.items C (q - 1) []).snd.snd), .o (Ob.arr true 5 (List.map syntaxC (blis t.items C (q
 - 1) []).fst))], .mk ((blis t.items C (q - 1) []).snd.fst = false) .ret (fun x => [(6, SV.one (AC.ptr 1 0)), (7, hs x 2)]) (fun x => [Ob.box [ha x 0], ho x 1]) [.a (vI (blis
 t.items C (q - 1) []).snd.snd), .o (Ob.box [vI 0, vI 0, vS (mkS []), AC.val (Cell.lit (Value.slice none 0 0)), AC.val (Cell.lit (Value.slice none 0 0))]), .s (lb false)]]
theorem Sc_iBuild_sLd (t : Syntax) (C : List Capture) (q : Int) (h : 0 ≤ q ∧ q ≤ 2000 ∧ wY t ≤ 1000000000 ∧ C.length ≤ 1000000000) (hC : ∀ (z : Capture), z ∈ C → mxP z ≤
 1000000000) (ih : ∀ (z : Syntax), z ∈ t.items → ∀ (C : List Capture) (q : Int), 0 ≤ q ∧ q ≤ 2000 ∧ wY z ≤ 1000000000 ∧ C.length ≤ 1000000000 → (∀ (z : Capture), z ∈ C → mxP z ≤
 1000000000) → OK (P_c_iBuild z C q)) (k : Nat × Int × List Syntax) (k1 : Nat) : Lp.Sem Tryz.prog (loopAt Tryz.f259 3) (lc_iBuild_sLd t C q k k1) := lpOK (fun k2 => .i ((↑k2 : Int)
 < (↑(List.map intC (rpi C (t.items.getD k.fst default) [])).length : Int)) (.p (0 ≤ (↑k2 : Int) ∧ (↑k2 : Int).toNat < (List.map intC (rpi C (t.items.getD k.fst default)
 [])).length) (.w (.cells (intC ((rpi C (t.items.getD k.fst default) []).getD (↑k2 : Int).toNat default))) (.p ((List.map intC (rpi C (t.items.getD k.fst default) []))[(↑k2 :
 Int).toNat]? = some [cI ((rpi C (t.items.getD k.fst default) []).getD (↑k2 : Int).toNat 0)]) (.x ((rpi C (t.items.getD k.fst default) []).getD (↑k2 : Int).toNat 0) (List.map
 captureC C) (captureF (C.getD ((rpi C (t.items.getD k.fst default) []).getD (↑k2 : Int).toNat 0).toNat default)) (.x (↑k1 : Int) (List.map captureC (C.getD ((rpi C (t.items.getD
 k.fst default) []).getD (↑k2 : Int).toNat 0).toNat default).each) (captureF ((C.getD ((rpi C (t.items.getD k.fst default) []).getD (↑k2 : Int).toNat 0).toNat default).each.getD k1
 default)) (.p (0 ≤ (rpi C (t.items.getD k.fst default) []).getD (↑k2 : Int).toNat 0 ∧ ((rpi C (t.items.getD k.fst default) []).getD (↑k2 : Int).toNat 0).toNat < (List.map captureC
 (stqT C k1 (List.take k2 (rpX C (t.items.getD k.fst default))))).length) (.w (.cells (captureF ((stqT C k1 (List.take k2 (rpX C (t.items.getD k.fst default)))).getD ((rpi C
 (t.items.getD k.fst default) []).getD (↑k2 : Int).toNat 0).toNat default))) (.p ((List.map captureC (stqT C k1 (List.take k2 (rpX C (t.items.getD k.fst default)))))[((rpi C
 (t.items.getD k.fst default) []).getD (↑k2 : Int).toNat 0).toNat]? = some (captureF ((stqT C k1 (List.take k2 (rpX C (t.items.getD k.fst default)))).getD ((rpi C (t.items.getD
 k.fst default) []).getD (↑k2 : Int).toNat 0).toNat default))) (.r ((↑k2 : Int) + 1) (.g [0, 1, 2, 3, 4, 5, 6, 7, 8] (k2 + 1) [.s (li ((↑k2 : Int) + 1)), .o (Ob.arr false 12
 ((List.map captureC (stqT C k1 (List.take k2 (rpX C (t.items.getD k.fst default))))).set ((rpi C (t.items.getD k.fst default) []).getD (↑k2 : Int).toNat 0).toNat (captureF
 ((C.getD ((rpi C (t.items.getD k.fst default) []).getD (↑k2 : Int).toNat 0).toNat default).each.getD k1 default))))])))))))))) (.o 0 [0, 1, 2, 3, 4, 5, 6, 7, 8] [.o (Ob.arr false
 12 (List.map captureC (stqT C k1 (List.take k2 (rpX C (t.items.getD k.fst default))))))])) (by
  intro k2 h; try dsimp only [teasy, nthW, lc_iBuild_sLd] at h ⊢
  obtain ⟨i, m, O⟩ := k
  simp only at *
  have hB := h.2.2.2
  have g1 := @rpX_at C (t.items.getD i default) k2
  have g3 : k2 < (rpX C (t.items.getD i default)).length → (C.getD ((rpX C (t.items.getD i default)).getD k2 0).toNat default).each.length = rqN C (t.items.getD i default) := fun a => rqB_each hB a
  have g4 := stqT_len C k1 ((rpX C (t.items.getD i default)).take k2)
  have g5 : k2 < (rpX C (t.items.getD i default)).length → (List.map captureC (stqT C k1 ((rpX C (t.items.getD i default)).take k2))).set ((rpX C (t.items.getD i default)).getD k2 0).toNat (captureF ((C.getD ((rpX C (t.items.getD i default)).getD k2 0).toNat default).each.getD k1 default)) = List.map captureC (stqT C k1 ((rpX C (t.items.getD i default)).take (k2 + 1))) := fun a => by rw [cap_set, stqT_step a]; rfl
  have g6 : (rpX C (t.items.getD i default)).length ≤ k2 → stqT C k1 ((rpX C (t.items.getD i default)).take k2) = stq C (t.items.getD i default) k1 := fun a => stq_end a
  with_reducible repeat' (first | apply And.intro | exact zR | exact ih | (intro; skip) | apply c_iMeaY | apply c_iCopyY | apply c_yIInts | apply c_iDots | apply c_iRep)
  all_goals (try simp only [std, inj] at *)
  all_goals with_reducible repeat' apply And.intro
  all_goals (try (first | with_reducible apply c_iMeaY | with_reducible apply c_iCopyY | with_reducible apply c_yIInts | with_reducible apply c_iDots | with_reducible apply c_iRep | with_reducible apply ih | (simp only [← List.map_append]; first | with_reducible apply c_iMeaY | with_reducible apply c_iCopyY | with_reducible apply c_yIInts | with_reducible apply c_iDots | with_reducible apply c_iRep | with_reducible apply ih)))
  all_goals (try (first | exact zw))
  all_goals (try simp only [Bool.not_eq_true', Bool.not_eq_false', decide_eq_false_iff_not, decide_eq_true_eq, Decidable.not_not] at *)
  all_goals (try simp only [rpX, rqN, dfI] at *)
  all_goals (try first | exact hB | omega | (have := g1 (by omega); omega) | (have := g1 (by omega); exact getC this.2.2 (captureC_eq _)) | exact getC (by have := g3 (by omega); omega) (captureC_eq _) | exact g5 (by omega) | exact g6 (by omega) | (rw [g6 (by omega)]; done)))
theorem Sc_iBuild_sLc (t : Syntax) (C : List Capture) (q : Int) (h : 0 ≤ q ∧ q ≤ 2000 ∧ wY t ≤ 1000000000 ∧ C.length ≤ 1000000000) (hC : ∀ (z : Capture), z ∈ C → mxP z ≤
 1000000000) (ih : ∀ (z : Syntax), z ∈ t.items → ∀ (C : List Capture) (q : Int), 0 ≤ q ∧ q ≤ 2000 ∧ wY z ≤ 1000000000 ∧ C.length ≤ 1000000000 → (∀ (z : Capture), z ∈ C → mxP z ≤
 1000000000) → OK (P_c_iBuild z C q)) (k : Nat × Int × List Syntax) : Lp.Sem Tryz.prog (loopAt Tryz.f259 2) (lc_iBuild_sLc t C q k) := lpOK (fun k1 => .i ((↑k1 : Int) < (↑(List.map
 captureC (C.getD ((rpi C (t.items.getD k.fst default) []).getD 0 0).toNat default).each).length : Int)) (.w (.bool false) (.p (∀ (e : List Cell), e ∈ List.map captureC C →
 e.length = 12) (.p ((0 + (List.map captureC C).length) * 192 ≤ 140737488355328) (.z intC (rpi C (t.items.getD k.fst default) []) (.l (lc_iBuild_sLd t C q k k1) (Sc_iBuild_sLd t C
 q h hC ih k k1) [0, 1, 2, 3, 4, 5, 8, 6, 7] [.s (li 0), .o (Ob.arr false 12 (List.map captureC C))] 0 (.t (.d [.ptr, .rd, .rd] (P_c_iBuild (t.items.getD k.fst default) (stq C
 (t.items.getD k.fst default) k1) (iI C (t.items.getD k.fst default) k1 k.snd.fst k.snd.snd).snd.snd) (.b (!(bli (t.items.getD k.fst default) (stq C (t.items.getD k.fst default)
 k1) (iI C (t.items.getD k.fst default) k1 k.snd.fst k.snd.snd).snd.snd).snd.fst) (.o 1 [0, 2] [.a (vI (bli (t.items.getD k.fst default) (stq C (t.items.getD k.fst default) k1) (iI
 C (t.items.getD k.fst default) k1 k.snd.fst k.snd.snd).snd.snd).snd.snd), .o (Ob.box [vI 0, vI 0, vS (ByteArray.mk #[]), AC.val (Cell.lit (Value.slice none 0 0)), AC.val (Cell.lit
 (Value.slice none 0 0))]), .s (lb false)]) (.p (((List.map syntaxC (iI C (t.items.getD k.fst default) k1 k.snd.fst k.snd.snd).fst).length + 1) * 80 ≤ 140737488355328) (.r ((↑k1 :
 Int) + 1) (.g [0, 1, 2, 3, 4, 5, 7, 14] (k1 + 1) [.s (li ((↑k1 : Int) + 1)), .a (vI (bli (t.items.getD k.fst default) (stq C (t.items.getD k.fst default) k1) (iI C (t.items.getD
 k.fst default) k1 k.snd.fst k.snd.snd).snd.snd).snd.snd), .o (Ob.arr true 5 (List.map syntaxC (iI C (t.items.getD k.fst default) k1 k.snd.fst k.snd.snd).fst ++ [syntaxF (bli
 (t.items.getD k.fst default) (stq C (t.items.getD k.fst default) k1) (iI C (t.items.getD k.fst default) k1 k.snd.fst k.snd.snd).snd.snd).fst]))]))))) .q)))))) (.o 0 [0, 1, 2, 3,
 6, 7] [.a (vI (iI C (t.items.getD k.fst default) k1 k.snd.fst k.snd.snd).snd.snd), .o (Ob.arr true 5 (List.map syntaxC (iI C (t.items.getD k.fst default) k1 k.snd.fst
 k.snd.snd).fst))])) (by
  intro k1 h; try dsimp only [teasy, nthW, lc_iBuild_sLc, lc_iBuild_sLd] at h ⊢
  obtain ⟨i, m, O⟩ := k
  simp only at *
  have hd := h.2.2.2.2.2.2.1
  have H := h.2.2.2.2.2.2.2.2.2
  have hB := h.2.1
  have hI := h.2.2.1
  have hj := h.1
  have hi := h.2.2.2.2.1
  have g1 := iI_step C (t.items.getD i default) k1 m O hI
  have g2 := iI_bd C (t.items.getD i default) k1 m O (by omega) hI
  have g8 := @size_item t i (Nat.lt_of_succ_lt hi)
  have g9 : stqT C k1 ((rpX C (t.items.getD i default)).take 0) = C := rfl
  have g11 : 0 < (rpX C (t.items.getD i default)).length := by
    simp only [rqB, Bool.and_eq_true, Bool.not_eq_true', decide_eq_false_iff_not] at hB
    omega
  have g12 := rqN_le hC g11
  have b0 : k1 < rqN C (t.items.getD i default) → (bli (t.items.getD i default) (stq C (t.items.getD i default) k1) (iI C (t.items.getD i default) k1 m O).2.2).2.1 = false → (blis t.items C (q - 1) []).2.1 = false ∧ (blis t.items C (q - 1) []).2.2 = (bli (t.items.getD i default) (stq C (t.items.getD i default) k1) (iI C (t.items.getD i default) k1 m O).2.2).2.2 := fun a c => by
    have r := iR_bad hB a hI c
    rw [H, blis_dots hi hd, if_neg (by rw [r.1]; decide)]; exact r
  have b1 : rqN C (t.items.getD i default) ≤ k1 → iR C (t.items.getD i default) m O = iI C (t.items.getD i default) k1 m O := fun a => iR_eq hB hj a
  with_reducible repeat' (first | apply And.intro | exact zR | exact ih | (intro; skip) | apply c_iMeaY | apply c_iCopyY | apply c_yIInts | apply c_iDots | apply c_iRep | apply ih)
  all_goals (try simp only [std, inj] at *)
  all_goals with_reducible repeat' apply And.intro
  all_goals (try (first | with_reducible apply c_iMeaY | with_reducible apply c_iCopyY | with_reducible apply c_yIInts | with_reducible apply c_iDots | with_reducible apply c_iRep | with_reducible apply ih | (simp only [← List.map_append]; first | with_reducible apply c_iMeaY | with_reducible apply c_iCopyY | with_reducible apply c_yIInts | with_reducible apply c_iDots | with_reducible apply c_iRep | with_reducible apply ih)))
  all_goals (try (first | exact zw))
  all_goals (try simp only [Bool.not_eq_true', Bool.not_eq_false', decide_eq_false_iff_not, decide_eq_true_eq, Decidable.not_not] at *)
  all_goals (try simp only [rpX, rqN, dfI] at *)
  all_goals (try first | exact hd | exact H | exact hB | exact getD_mem' hi | exact hC _ (by assumption) | exact stqT_w hC _ _ _ (by assumption) | exact g9.symm | (rw [g9]; done) | (rw [stqT_len]; omega) | omega | exact (b0 (by omega) (by assumption)).1 | exact (b0 (by omega) (by assumption)).2.symm | (rw [g1]; done) | (rw [g1]; assumption) | (rw [g1]; exact rowSnoc (C := syntaxC) _ _) | (rw [b1 (by omega)]; done) | (rw [b1 (by omega)]; exact hI))
  all_goals (try exact getD_mem' (Nat.lt_of_succ_lt hi)))
theorem Sc_iBuild_sLb (t : Syntax) (C : List Capture) (q : Int) (h : 0 ≤ q ∧ q ≤ 2000 ∧ wY t ≤ 1000000000 ∧ C.length ≤ 1000000000) (hC : ∀ (z : Capture), z ∈ C → mxP z ≤
 1000000000) (ih : ∀ (z : Syntax), z ∈ t.items → ∀ (C : List Capture) (q : Int), 0 ≤ q ∧ q ≤ 2000 ∧ wY z ≤ 1000000000 ∧ C.length ≤ 1000000000 → (∀ (z : Capture), z ∈ C → mxP z ≤
 1000000000) → OK (P_c_iBuild z C q)) (k : Nat × Int × List Syntax) : Lp.Sem Tryz.prog (loopAt Tryz.f259 1) (lc_iBuild_sLb t C q k) := lpOK (fun k1 => .i ((↑k1 : Int) < (↑(List.map
 intC (rpi C (t.items.getD k.fst default) [])).length : Int)) (.p (0 ≤ (↑k1 : Int) ∧ (↑k1 : Int).toNat < (List.map intC (rpi C (t.items.getD k.fst default) [])).length) (.w (.cells
 (intC ((rpi C (t.items.getD k.fst default) []).getD (↑k1 : Int).toNat default))) (.p ((List.map intC (rpi C (t.items.getD k.fst default) []))[(↑k1 : Int).toNat]? = some [cI ((rpi
 C (t.items.getD k.fst default) []).getD (↑k1 : Int).toNat 0)]) (.x ((rpi C (t.items.getD k.fst default) []).getD (↑k1 : Int).toNat 0) (List.map captureC C) (captureF (C.getD ((rpi
 C (t.items.getD k.fst default) []).getD (↑k1 : Int).toNat 0).toNat default)) (.z captureC (C.getD ((rpi C (t.items.getD k.fst default) []).getD (↑k1 : Int).toNat 0).toNat
 default).each (.i ((↑(List.map captureC (C.getD ((rpi C (t.items.getD k.fst default) []).getD (↑k1 : Int).toNat 0).toNat default).each).length : Int) ≠ (↑(List.map captureC
 (C.getD ((rpi C (t.items.getD k.fst default) []).getD 0 0).toNat default).each).length : Int)) (.o 1 [0, 2] [.a (vI k.snd.fst), .o (Ob.box [vI 0, vI 0, vS (ByteArray.mk #[]),
 AC.val (Cell.lit (Value.slice none 0 0)), AC.val (Cell.lit (Value.slice none 0 0))]), .s (lb false)]) (.r ((↑k1 : Int) + 1) (.g [0, 1, 2, 3, 4, 5, 6, 7] (k1 + 1) [.s (li ((↑k1 :
 Int) + 1))])))))))) (.o 0 [0, 1, 2, 3, 4, 5, 6, 7] [])) (by
  intro k1 h; try dsimp only [teasy, nthW, lc_iBuild_sLb] at h ⊢
  obtain ⟨i, m, O⟩ := k
  simp only at *
  have hd := h.2.2.2.2.2.2.1
  have H := h.2.2.2.2.2.2.2.2.2
  have hA := h.2.2.1
  have h00 := h.2.2.2.1
  have g1 := @rpX_at C (t.items.getD i default) k1
  have g3 : (rpX C (t.items.getD i default)).length ≤ k1 → rqB C (t.items.getD i default) = true := fun a => rqB_of h00 a hA
  have g4 : k1 < (rpX C (t.items.getD i default)).length → ¬ ((C.getD ((rpX C (t.items.getD i default)).getD k1 0).toNat default).each.length : Int) = ((C.getD ((rpX C (t.items.getD i default)).getD 0 0).toNat default).each.length : Int) → blis t.items C (q - 1) [] = (O, false, m) := fun a b => by rw [H, blis_dots h.2.2.2.2.1 hd, rqB_no a b]; rfl
  have g5 : k1 < (rpX C (t.items.getD i default)).length → ((C.getD ((rpX C (t.items.getD i default)).getD k1 0).toNat default).each.length : Int) = ((C.getD ((rpX C (t.items.getD i default)).getD 0 0).toNat default).each.length : Int) → rqA C ((rpX C (t.items.getD i default)).take (k1 + 1)) (lnI C ((rpX C (t.items.getD i default)).getD 0 default)) = true := fun a b => rqA_step' a hA b
  with_reducible repeat' (first | apply And.intro | exact zR | exact ih | (intro; skip) | apply c_iMeaY | apply c_iCopyY | apply c_yIInts | apply c_iDots | apply c_iRep)
  all_goals (try simp only [std, inj] at *)
  all_goals with_reducible repeat' apply And.intro
  all_goals (try (first | with_reducible apply c_iMeaY | with_reducible apply c_iCopyY | with_reducible apply c_yIInts | with_reducible apply c_iDots | with_reducible apply c_iRep | with_reducible apply ih | (simp only [← List.map_append]; first | with_reducible apply c_iMeaY | with_reducible apply c_iCopyY | with_reducible apply c_yIInts | with_reducible apply c_iDots | with_reducible apply c_iRep | with_reducible apply ih)))
  all_goals (try (first | exact zw))
  all_goals (try simp only [Bool.not_eq_true', Bool.not_eq_false', decide_eq_false_iff_not, decide_eq_true_eq, Decidable.not_not] at *)
  all_goals (try simp only [rpX, rqN, dfI] at *)
  all_goals (try first | exact hd | exact H | omega | exact g3 (by omega) | exact g5 (by omega) (by assumption) | (have := g1 (by omega); omega))
  all_goals (try (rw [g4 (by omega) (by assumption)]; first | done | rfl)))
theorem Sc_iBuild_sLa (t : Syntax) (C : List Capture) (q : Int) (h : 0 ≤ q ∧ q ≤ 2000 ∧ wY t ≤ 1000000000 ∧ C.length ≤ 1000000000) (hC : ∀ (z : Capture), z ∈ C → mxP z ≤
 1000000000) (ih : ∀ (z : Syntax), z ∈ t.items → ∀ (C : List Capture) (q : Int), 0 ≤ q ∧ q ≤ 2000 ∧ wY z ≤ 1000000000 ∧ C.length ≤ 1000000000 → (∀ (z : Capture), z ∈ C → mxP z ≤
 1000000000) → OK (P_c_iBuild z C q)) : Lp.Sem Tryz.prog (loopAt Tryz.f259 0) (lc_iBuild_sLa t C q) := lpOK (fun k => .z syntaxC t.items (.i ((↑k.fst : Int) < (↑(List.map syntaxC
 t.items).length : Int)) (.x (↑k.fst : Int) (List.map syntaxC t.items) (syntaxF (t.items.getD k.fst default)) (.r ((↑k.fst : Int) + 1) (.z syntaxC t.items (.i ((↑k.fst : Int) + 1 =
 (↑(List.map syntaxC t.items).length : Int)) (.y true (.d [.ptr, .rd, .rd] (P_c_iBuild (t.items.getD k.fst default) C k.snd.fst) (.b (!(bli (t.items.getD k.fst default) C
 k.snd.fst).snd.fst) (.o 1 [0, 2] [.a (vI (bli (t.items.getD k.fst default) C k.snd.fst).snd.snd), .o (Ob.box [vI 0, vI 0, vS (ByteArray.mk #[]), AC.val (Cell.lit (Value.slice none
 0 0)), AC.val (Cell.lit (Value.slice none 0 0))]), .s (lb false)]) (.p (((List.map syntaxC k.snd.snd).length + 1) * 80 ≤ 140737488355328) (.r ((↑k.fst : Int) + 1) (.g [0, 1, 2, 3,
 4, 12] (k.fst + 1, (bli (t.items.getD k.fst default) C k.snd.fst).snd.snd, k.snd.snd ++ [(bli (t.items.getD k.fst default) C k.snd.fst).fst]) [.s (li ((↑k.fst : Int) + 1)), .a (vI
 (bli (t.items.getD k.fst default) C k.snd.fst).snd.snd), .o (Ob.arr true 5 (List.map syntaxC k.snd.snd ++ [syntaxF (bli (t.items.getD k.fst default) C k.snd.fst).fst]))])))))) (.r
 ((↑k.fst : Int) + 1) (.x ((↑k.fst : Int) + 1) (List.map syntaxC t.items) (syntaxF (t.items.getD (k.fst + 1) default)) (.c [.rd] (c_iDots (t.items.getD (k.fst + 1) default)) (.b
 (!isDots (t.items.getD (k.fst + 1) default)) (.d [.ptr, .rd, .rd] (P_c_iBuild (t.items.getD k.fst default) C k.snd.fst) (.b (!(bli (t.items.getD k.fst default) C
 k.snd.fst).snd.fst) (.o 1 [0, 2] [.a (vI (bli (t.items.getD k.fst default) C k.snd.fst).snd.snd), .o (Ob.box [vI 0, vI 0, vS (ByteArray.mk #[]), AC.val (Cell.lit (Value.slice none
 0 0)), AC.val (Cell.lit (Value.slice none 0 0))]), .s (lb false)]) (.p (((List.map syntaxC k.snd.snd).length + 1) * 80 ≤ 140737488355328) (.r ((↑k.fst : Int) + 1) (.g [0, 1, 2, 3,
 4, 12] (k.fst + 1, (bli (t.items.getD k.fst default) C k.snd.fst).snd.snd, k.snd.snd ++ [(bli (t.items.getD k.fst default) C k.snd.fst).fst]) [.s (li ((↑k.fst : Int) + 1)), .a (vI
 (bli (t.items.getD k.fst default) C k.snd.fst).snd.snd), .o (Ob.arr true 5 (List.map syntaxC k.snd.snd ++ [syntaxF (bli (t.items.getD k.fst default) C k.snd.fst).fst]))]))))) (.r
 ((↑k.fst : Int) + 1) (.d [.rd, .rd, .own true 1] (P_c_iRep (t.items.getD k.fst default) C []) (.z intC (rpi C (t.items.getD k.fst default) []) (.i ((↑(List.map intC (rpi C
 (t.items.getD k.fst default) [])).length : Int) = 0) (.o 1 [0, 2] [.a (vI k.snd.fst), .o (Ob.box [vI 0, vI 0, vS (ByteArray.mk #[]), AC.val (Cell.lit (Value.slice none 0 0)),
 AC.val (Cell.lit (Value.slice none 0 0))]), .s (lb false)]) (.p ((0 : Int) ≤ 0 ∧ 0 < (List.map intC (rpi C (t.items.getD k.fst default) [])).length) (.w (.cells (intC ((rpi C
 (t.items.getD k.fst default) []).getD 0 default))) (.p ((List.map intC (rpi C (t.items.getD k.fst default) []))[0]? = some [cI ((rpi C (t.items.getD k.fst default) []).getD 0 0)])
 (.x ((rpi C (t.items.getD k.fst default) []).getD 0 0) (List.map captureC C) (captureF (C.getD ((rpi C (t.items.getD k.fst default) []).getD 0 0).toNat default)) (.z captureC
 (C.getD ((rpi C (t.items.getD k.fst default) []).getD 0 0).toNat default).each (.z intC (rpi C (t.items.getD k.fst default) []) (.l (lc_iBuild_sLb t C q k) (Sc_iBuild_sLb t C q h
 hC ih k) [0, 1, 2, 3, 6, 8, 4, 5] [.s (li 0)] 0 (.t (.l (lc_iBuild_sLc t C q k) (Sc_iBuild_sLc t C q h hC ih k) [0, 1, 2, 3, 4, 5, 6, 7] [.s (li 0), .a (vI k.snd.fst), .o (Ob.arr
 true 5 (List.map syntaxC k.snd.snd))] 0 (.t (.r ((↑k.fst : Int) + 1 + 1) (.g [0, 1, 2, 3, 4, 5] (k.fst + 1 + 1, (iR C (t.items.getD k.fst default) k.snd.fst k.snd.snd).snd.snd,
 (iR C (t.items.getD k.fst default) k.snd.fst k.snd.snd).fst) [.s (li ((↑k.fst : Int) + 1 + 1)), .a (vI (iR C (t.items.getD k.fst default) k.snd.fst k.snd.snd).snd.snd), .o (Ob.arr
 true 5 (List.map syntaxC (iR C (t.items.getD k.fst default) k.snd.fst k.snd.snd).fst))])) (.t (.o 1 [0, 1] [.a (vI (blis t.items C (q - 1) []).snd.snd), .o (Ob.box [vI 0, vI 0, vS
 (mkS []), AC.val (Cell.lit (Value.slice none 0 0)), AC.val (Cell.lit (Value.slice none 0 0))]), .s (lb false)]) .q))) (.t (.o 1 [0, 1] [.a (vI (blis t.items C (q - 1)
 []).snd.snd), .o (Ob.box [vI 0, vI 0, vS (mkS []), AC.val (Cell.lit (Value.slice none 0 0)), AC.val (Cell.lit (Value.slice none 0 0))]), .s (lb false)]) .q)))))))))))))))))))))
 (.o 0 [0, 2, 3, 4, 5] [.a (vI k.snd.fst), .o (Ob.arr true 5 (List.map syntaxC k.snd.snd))]))) (by
  intro k h; try dsimp only [teasy, nthW, lc_iBuild_sLa, lc_iBuild_sLc, lc_iBuild_sLb] at h ⊢
  obtain ⟨i, m, O⟩ := k
  simp only at *
  have H := h.2.2.1
  have p1 : i < t.items.length → (t.items.length ≤ i + 1 ∨ isDots (t.items.getD (i + 1) default) = false) → (bli (t.items.getD i default) C m).2.1 = true → blis (t.items.drop i) C m O = blis (t.items.drop (i + 1)) C (bli (t.items.getD i default) C m).2.2 (O ++ [(bli (t.items.getD i default) C m).1]) := fun a b c => by rw [blis_plain a b, if_pos c]
  have p2 : i < t.items.length → (t.items.length ≤ i + 1 ∨ isDots (t.items.getD (i + 1) default) = false) → (bli (t.items.getD i default) C m).2.1 = false → blis (t.items.drop i) C m O = (O, false, (bli (t.items.getD i default) C m).2.2) := fun a b c => by rw [blis_plain a b, if_neg (by rw [c]; decide)]
  have d1 : i + 1 < t.items.length → isDots (t.items.getD (i + 1) default) = true → (iR C (t.items.getD i default) m O).2.1 = true → blis (t.items.drop i) C m O = blis (t.items.drop (i + 1 + 1)) C (iR C (t.items.getD i default) m O).2.2 (iR C (t.items.getD i default) m O).1 := fun a b c => by rw [blis_dots a b, if_pos c]
  have d3 : i + 1 < t.items.length → isDots (t.items.getD (i + 1) default) = true → (rpX C (t.items.getD i default)).length = 0 → blis (t.items.drop i) C m O = (O, false, m) := fun a b c => by
    have e : iR C (t.items.getD i default) m O = (O, false, m) := by unfold iR rqB; rw [c]; rfl
    rw [blis_dots a b, e]; rfl
  have e1 : t.items.length ≤ i → blis (t.items.drop i) C m O = (O, true, m) := fun a => blis_end a
  have g4 := bli_bd (t.items.getD i default) C m
  have g6 : 0 ≤ m → (iR C (t.items.getD i default) m O).2.1 = true → 0 ≤ (iR C (t.items.getD i default) m O).2.2 ∧ ((iR C (t.items.getD i default) m O).1.length : Int) + (iR C (t.items.getD i default) m O).2.2 ≤ O.length + m := fun a b => iR_bd C _ m O a b
  have g8 := @size_item t i
  have g9 := rpi_len C (t.items.getD i default) []
  have g10 := sizeY_le' (t.items.getD i default)
  have g11 := fun h : 0 < (rpX C (t.items.getD i default)).length => rpX_at h
  have g12 : iI C (t.items.getD i default) 0 m O = (O, true, m) := rfl
  have g13 := fun h : 0 < (rpX C (t.items.getD i default)).length => rqN_le hC h
  with_reducible repeat' (first | apply And.intro | exact zR | exact ih | (intro; skip) | apply c_iMeaY | apply c_iCopyY | apply c_yIInts | apply c_iDots | apply c_iRep | apply ih)
  all_goals (try simp only [std, inj] at *)
  all_goals with_reducible repeat' apply And.intro
  all_goals (try (first | with_reducible apply c_iMeaY | with_reducible apply c_iCopyY | with_reducible apply c_yIInts | with_reducible apply c_iDots | with_reducible apply c_iRep | with_reducible apply ih | (simp only [← List.map_append]; first | with_reducible apply c_iMeaY | with_reducible apply c_iCopyY | with_reducible apply c_yIInts | with_reducible apply c_iDots | with_reducible apply c_iRep | with_reducible apply ih)))
  all_goals (try (first | exact zw))
  all_goals (try simp only [Bool.not_eq_true', Bool.not_eq_false', decide_eq_false_iff_not, decide_eq_true_eq, Decidable.not_not] at *)
  all_goals (try simp only [rpX, rqN, dfI] at *)
  all_goals (try first | exact getD_mem' (by omega) | exact hC _ (by assumption) | exact rowSnoc (C := syntaxC) _ _ | exact (rpX_at (by show 0 < (rpi C (t.items.getD i default) []).length; omega)).1 | (show rqA C [] _ = true; rfl) | (show (_ : Bool) = true; exact (rfl : (iI C (t.items.getD i default) 0 m O).2.1 = true)) | exact (rfl : m = (iI C (t.items.getD i default) 0 m O).2.2) | exact (rfl : O = (iI C (t.items.getD i default) 0 m O).1) | exact (rfl : List.map syntaxC O = List.map syntaxC (iI C (t.items.getD i default) 0 m O).1) | (have := g8 (by omega); simp only [List.length_nil] at *; omega))
  all_goals (try first | (rw [H, p1 (by omega) (by first | exact Or.inl (by omega) | exact Or.inr (by assumption)) (by assumption)]) | (rw [H, p2 (by omega) (by first | exact Or.inl (by omega) | exact Or.inr (by assumption)) (by assumption)]) | (rw [H, d1 (by omega) (by assumption) (by assumption)]) | (rw [H, d3 (by omega) (by assumption) (by omega)]) | (rw [H, e1 (by omega)]))
  all_goals (try first | (have := g4 (by omega) (by assumption); first | omega | (simp only [List.length_singleton]; omega)) | (have := g6 (by omega) (by assumption); omega)))
theorem c_iBuild_s (t : Syntax) (C : List Capture) (q : Int) (h : 0 ≤ q ∧ q ≤ 2000 ∧ wY t ≤ 1000000000 ∧ C.length ≤ 1000000000) (hC : ∀ z ∈ C, mxP z ≤ 1000000000) (ih : ∀ z ∈
 t.items, ∀ (C : List Capture) (q : Int) (h : 0 ≤ q ∧ q ≤ 2000 ∧ wY z ≤ 1000000000 ∧ C.length ≤ 1000000000) (hC : ∀ z ∈ C, mxP z ≤ 1000000000), P_c_iBuild z C q)  : P_c_iBuild t C
 q := fnOK Tryz.call259 Tryz.func259 (.c [.rd, .rd] (c_iFind C t) (.i (0 ≤ if t.kind = 1 then fnd C t else (-1 : Int)) (.x (if t.kind = 1 then fnd C t else (-1 : Int)) (List.map
 captureC C) (captureF (C.getD (if t.kind = 1 then fnd C t else (-1 : Int)).toNat default)) (.i ((C.getD (if t.kind = 1 then fnd C t else (-1 : Int)).toNat default).depth ≠ 0) (.w
 (.ghost (.nilbox 2 3 true 1)) (.w (.ghost (.nilbox 2 4 true 5)) (.f [3, 4] [Ob.box [vI q], Ob.arr true 1 [], Ob.arr true 5 []] (AV.tup [SV.agg [vI 0, vI 0, vS (ByteArray.mk #[]),
 AC.ref 1, AC.ref 2], lb false])))) (.x (if t.kind = 1 then fnd C t else (-1 : Int)) (List.map captureC C) (captureF (C.getD (if t.kind = 1 then fnd C t else (-1 : Int)).toNat
 default)) (.d [.rd, .rd, .ptr] (P_c_iMeaY (C.getD (if t.kind = 1 then fnd C t else (-1 : Int)).toNat default).form 1 0) (.b (!(meaY (C.getD (if t.kind = 1 then fnd C t else (-1 :
 Int)).toNat default).form 1 0).fst) (.w (.ghost (.nilbox 2 3 true 1)) (.w (.ghost (.nilbox 2 4 true 5)) (.f [4, 5] [Ob.box [vI q], Ob.arr true 1 [], Ob.arr true 5 []] (AV.tup
 [SV.agg [vI 0, vI 0, vS (ByteArray.mk #[]), AC.ref 1, AC.ref 2], lb false])))) (.w (.draw [(8, [0])]) (.r (q - (meaY (C.getD (if t.kind = 1 then fnd C t else (-1 : Int)).toNat
 default).form 1 0).snd) (.w (.draw [(11, [2])]) (.x (if t.kind = 1 then fnd C t else (-1 : Int)) (List.map captureC C) (captureF (C.getD (if t.kind = 1 then fnd C t else (-1 :
 Int)).toNat default)) (.d [.rd] (P_c_iCopyY (C.getD (if t.kind = 1 then fnd C t else (-1 : Int)).toNat default).form) (.f [4, 5] [Ob.box [vI (q - (meaY (C.getD (if t.kind = 1 then
 fnd C t else (-1 : Int)).toNat default).form 1 0).snd)], Ob.arr true 1 (List.map intC (C.getD (if t.kind = 1 then fnd C t else (-1 : Int)).toNat default).form.scopes), Ob.arr true
 5 (List.map syntaxC (C.getD (if t.kind = 1 then fnd C t else (-1 : Int)).toNat default).form.items)] (AV.tup [SV.agg [vI (C.getD (if t.kind = 1 then fnd C t else (-1 : Int)).toNat
 default).form.kind, vI (C.getD (if t.kind = 1 then fnd C t else (-1 : Int)).toNat default).form.number, vS (C.getD (if t.kind = 1 then fnd C t else (-1 : Int)).toNat
 default).form.text, AC.ref 1, AC.ref 2], lb (decide (0 ≤ q - (meaY (C.getD (if t.kind = 1 then fnd C t else (-1 : Int)).toNat default).form 1 0).snd))])))))))))))) (.r (q - 1) (.i
 (q - (1 : Int) < 0) (.w (.ghost (.nilbox 2 3 true 1)) (.w (.ghost (.nilbox 2 4 true 5)) (.f [3, 4] [Ob.box [vI (q - 1)], Ob.arr true 1 [], Ob.arr true 5 []] (AV.tup [SV.agg [vI 0,
 vI 0, vS (ByteArray.mk #[]), AC.ref 1, AC.ref 2], lb false])))) (.w (.draw [(11, [11])]) (.d [.rd] (P_c_yIInts t.scopes) (.w (.ghost (.nilbox 11 4 true 5)) (.l (lc_iBuild_sLa t C
 q) (Sc_iBuild_sLa t C q h hC ih) [0, 1, 2, 11, 3, 12] [.s (li 0), .a (vI (q - 1)), .o (Ob.arr true 5 [])] (0, q - 1, []) (.t (.f [3, 4] [Ob.box [vI (blis t.items C (q - 1)
 []).snd.snd], Ob.arr true 1 (List.map intC t.scopes), Ob.arr true 5 (List.map syntaxC (blis t.items C (q - 1) []).fst)] (AV.tup [SV.agg [vI t.kind, vI t.number, vS t.text, AC.ref
 1, AC.ref 2], lb true])) (.t (.w (.ghost (.nilbox 1 3 true 1)) (.w (.ghost (.nilbox 1 4 true 5)) (.f [2, 3] [Ob.box [vI (blis t.items C (q - 1) []).snd.snd], Ob.arr true 1 [],
 Ob.arr true 5 []] (AV.tup [SV.agg [vI 0, vI 0, vS (mkS []), AC.ref 1, AC.ref 2], lb false])))) .q)))))))))) (by
  dsimp only [teasy, P_c_iBuild, nthW, lc_iBuild_sLa]
  have g2 := fnd_lt C t
  have g4 := wY_eq t
  with_reducible repeat' (first | apply And.intro | exact zR | exact ih | (intro; skip) | apply c_iMeaY | apply c_iCopyY | apply c_yIInts | apply c_iDots | apply c_iRep)
  all_goals (try simp only [std, inj] at *)
  all_goals with_reducible repeat' apply And.intro
  all_goals (try (first | with_reducible apply c_iMeaY | with_reducible apply c_iCopyY | with_reducible apply c_yIInts | with_reducible apply c_iDots | with_reducible apply c_iRep | with_reducible apply ih | (simp only [← List.map_append]; first | with_reducible apply c_iMeaY | with_reducible apply c_iCopyY | with_reducible apply c_yIInts | with_reducible apply c_iDots | with_reducible apply c_iRep | with_reducible apply ih)))
  all_goals (try (first | exact zw))
  all_goals (try simp only [Bool.not_eq_true', Bool.not_eq_false', decide_eq_false_iff_not, decide_eq_true_eq, Decidable.not_not] at *)
  all_goals (try (have hk := ite_fnd (by assumption : 0 ≤ if t.kind = 1 then fnd C t else -1); simp only [if_pos hk.1] at *))
  all_goals (try first | exact hC _ (by assumption) | exact capOf_w hC (by omega) | (have := meaY_bd _ (by assumption : (meaY (C.getD (fnd C t).toNat default).form 1 0).1 = true); omega) | (rw [bli_b1 (by omega) (by omega) (by assumption)]) | (rw [bli_b2 (by omega) (by omega) (by assumption) (by assumption)]) | (rw [bli_b3 (by omega) (by omega) (by assumption) (by assumption)]) | (rw [bli_b4 (by omega) (by omega)]) | (rw [bli_b5 (by omega) (by omega) (by assumption)]) | (rw [bli_b6 (by omega) (by omega) (by assumption)]))
  all_goals (try first | rfl | (dsimp only; omega) | (simp only [List.length_nil]; omega)))
theorem c_iBuild (t : Syntax) : ∀ (C : List Capture) (q : Int) (h : 0 ≤ q ∧ q ≤ 2000 ∧ wY t ≤ 1000000000 ∧ C.length ≤ 1000000000) (hC : ∀ z ∈ C, mxP z ≤ 1000000000), P_c_iBuild t C q := Syntax.ind (P := fun t => ∀ (C : List Capture) (q : Int) (h : 0 ≤ q ∧ q ≤ 2000 ∧ wY t ≤ 1000000000 ∧ C.length ≤ 1000000000) (hC : ∀ z ∈ C, mxP z ≤ 1000000000), P_c_iBuild t C q) (fun t ih C q h hC => c_iBuild_s t C q h hC ih) t
abbrev P_c_sIns (t : Syntax) (C : List Capture) : Ct := ⟨195, [], [syntaxA t, ll (C.map captureC)], syntaxO (insY t C), .tup [syntaxR (insY t C) 0, lb (insB t C)]⟩
theorem c_sIns (t : Syntax) (C : List Capture) (h : wY t ≤ 1000000000 ∧ C.length ≤ 1000000000) (hC : ∀ z ∈ C, mxP z ≤ 1000000000)  : P_c_sIns t C := fnOK Tryz.call195 Tryz.func195
 (.c [.rd] (c_sIsSyntax t) (.b (!isSyn t) (.y true (.w (.ghost (.nilbox 1 3 true 1)) (.w (.ghost (.nilbox 1 4 true 5)) (.f [2, 3] [Ob.arr true 1 [], Ob.arr true 5 []] (AV.tup
 [SV.agg [vI 0, vI 0, vS (ByteArray.mk #[]), AC.ref 0, AC.ref 1], lb false]))))) (.c [.rd] (c_sPlaced t) (.b (!dotf t) (.w (.ghost (.nilbox 1 3 true 1)) (.w (.ghost (.nilbox 1 4
 true 5)) (.f [2, 3] [Ob.arr true 1 [], Ob.arr true 5 []] (AV.tup [SV.agg [vI 0, vI 0, vS (ByteArray.mk #[]), AC.ref 0, AC.ref 1], lb false])))) (.d [.rd, .rd, .ptr] (P_c_sBuild t
 C 2000) (.b (!(bld t C 2000).snd.fst) (.y true (.w (.ghost (.nilbox 1 3 true 1)) (.w (.ghost (.nilbox 1 4 true 5)) (.f [7, 8] [Ob.arr true 1 [], Ob.arr true 5 []] (AV.tup [SV.agg
 [vI 0, vI 0, vS (ByteArray.mk #[]), AC.ref 0, AC.ref 1], lb false]))))) (.c [.rd] (c_sIsSyntax (bld t C 2000).fst) (.b (!isSyn (bld t C 2000).fst) (.w (.ghost (.nilbox 1 3 true
 1)) (.w (.ghost (.nilbox 1 4 true 5)) (.f [7, 8] [Ob.arr true 1 [], Ob.arr true 5 []] (AV.tup [SV.agg [vI 0, vI 0, vS (ByteArray.mk #[]), AC.ref 0, AC.ref 1], lb false])))) (.f
 [4, 5] [Ob.arr true 1 (List.map intC (bld t C 2000).fst.scopes), Ob.arr true 5 (List.map syntaxC (bld t C 2000).fst.items)] (AV.tup [SV.agg [vI (bld t C 2000).fst.kind, vI (bld t
 C 2000).fst.number, vS (bld t C 2000).fst.text, AC.ref 0, AC.ref 1], lb true])))))))))) (by
  dsimp only [teasy, P_c_sIns]
  have g1 : insB t C = (isSyn t && dotf t && (bld t C 2000).2.1 && isSyn (bld t C 2000).1) := rfl
  have g2 : insB t C = true → insY t C = (bld t C 2000).1 := fun h => if_pos h
  have g3 : insB t C = false → insY t C = zY := fun h => by unfold insY; rw [h]; rfl
  have g4 : zY.kind = 0 ∧ zY.number = 0 ∧ zY.text = mkS [] ∧ zY.scopes = [] ∧ zY.items = [] := ⟨rfl, rfl, rfl, rfl, rfl⟩
  with_reducible repeat' (first | apply And.intro | exact zR | (intro; skip) | apply c_sBuild)
  all_goals (try simp only [std, inj] at *)
  all_goals with_reducible repeat' apply And.intro
  all_goals (try (first | with_reducible apply c_sBuild | (simp only [← List.map_append]; first | with_reducible apply c_sBuild)))
  all_goals (try (first | exact zw | grind [snocI, snocS, rowSnoc])))
abbrev P_c_iIns (t : Syntax) (C : List Capture) : Ct := ⟨196, [], [syntaxA t, ll (C.map captureC)], syntaxO (insY t C), .tup [syntaxR (insY t C) 0, lb (insB t C)]⟩
theorem c_iIns (t : Syntax) (C : List Capture) (h : wY t ≤ 1000000000 ∧ C.length ≤ 1000000000) (hC : ∀ z ∈ C, mxP z ≤ 1000000000)  : P_c_iIns t C := fnOK Tryz.call196 Tryz.func196
 (.c [.rd] (c_iIsSyntax t) (.b (!isSyn t) (.y true (.w (.ghost (.nilbox 1 3 true 1)) (.w (.ghost (.nilbox 1 4 true 5)) (.f [2, 3] [Ob.arr true 1 [], Ob.arr true 5 []] (AV.tup
 [SV.agg [vI 0, vI 0, vS (ByteArray.mk #[]), AC.ref 0, AC.ref 1], lb false]))))) (.c [.rd] (c_iDotsFit t) (.b (!dotf t) (.w (.ghost (.nilbox 1 3 true 1)) (.w (.ghost (.nilbox 1 4
 true 5)) (.f [2, 3] [Ob.arr true 1 [], Ob.arr true 5 []] (AV.tup [SV.agg [vI 0, vI 0, vS (ByteArray.mk #[]), AC.ref 0, AC.ref 1], lb false])))) (.d [.ptr, .rd, .rd] (P_c_iBuild t
 C 2000) (.b (!(bli t C 2000).snd.fst) (.y true (.w (.ghost (.nilbox 1 3 true 1)) (.w (.ghost (.nilbox 1 4 true 5)) (.f [7, 8] [Ob.arr true 1 [], Ob.arr true 5 []] (AV.tup [SV.agg
 [vI 0, vI 0, vS (ByteArray.mk #[]), AC.ref 0, AC.ref 1], lb false]))))) (.c [.rd] (c_iIsSyntax (bli t C 2000).fst) (.b (!isSyn (bli t C 2000).fst) (.w (.ghost (.nilbox 1 3 true
 1)) (.w (.ghost (.nilbox 1 4 true 5)) (.f [7, 8] [Ob.arr true 1 [], Ob.arr true 5 []] (AV.tup [SV.agg [vI 0, vI 0, vS (ByteArray.mk #[]), AC.ref 0, AC.ref 1], lb false])))) (.f
 [4, 5] [Ob.arr true 1 (List.map intC (bli t C 2000).fst.scopes), Ob.arr true 5 (List.map syntaxC (bli t C 2000).fst.items)] (AV.tup [SV.agg [vI (bli t C 2000).fst.kind, vI (bli t
 C 2000).fst.number, vS (bli t C 2000).fst.text, AC.ref 0, AC.ref 1], lb true])))))))))) (by
  dsimp only [teasy, P_c_iIns]
  have g1 := @ins_same t C
  have g2 : insB t C = true → insY t C = (bld t C 2000).1 := fun h => if_pos h
  have g3 : insB t C = false → insY t C = zY := fun h => by unfold insY; rw [h]; rfl
  have g4 : zY.kind = 0 ∧ zY.number = 0 ∧ zY.text = mkS [] ∧ zY.scopes = [] ∧ zY.items = [] := ⟨rfl, rfl, rfl, rfl, rfl⟩
  have g5 : insB t C = (isSyn t && dotf t && (bld t C 2000).2.1 && isSyn (bld t C 2000).1) := rfl
  with_reducible repeat' (first | apply And.intro | exact zR | (intro; skip) | apply c_iBuild)
  all_goals (try simp only [std, inj] at *)
  all_goals with_reducible repeat' apply And.intro
  all_goals (try (first | with_reducible apply c_iBuild | (simp only [← List.map_append]; first | with_reducible apply c_iBuild)))
  all_goals (try (first | exact zw | grind [snocI, snocS, rowSnoc])))
end Go.Proofs.YtpnaoendfpaodaaGreat
end
section
namespace Go.Proofs.YtpnaoendfpaodaaGreat
open Go Go.Proofs.YtpnaoendfpaodaaGreat.Ab
set_option linter.unusedVariables false
set_option linter.unusedSimpArgs false
theorem nms_each {H : Syntax → Bool} {A : List Syntax → Int} : ∀ (l : List Syntax), (∀ x ∈ l, ∀ d, ∀ z ∈ nm H A x d, wY z.form = 0 ∧ z.each = []) → ∀ i a d, ∀ z ∈ nms H A l i a d, wY z.form = 0 ∧ z.each = []
  | [], _, i, a, d, z, hz => by simp [nms] at hz
  | x :: r, h, i, a, d, z, hz => by
    simp only [nms, List.mem_append] at hz
    rcases hz with hz | hz
    · split at hz
      · cases hz
      · exact h x List.mem_cons_self _ z hz
    · exact nms_each r (fun y hy => h y (List.mem_cons_of_mem _ hy)) _ _ _ z hz
theorem nm_each {H : Syntax → Bool} {A : List Syntax → Int} : ∀ (p : Syntax) (d : Int), ∀ z ∈ nm H A p d, wY z.form = 0 ∧ z.each = [] := by
  refine Syntax.ind fun p ih d z hz => ?_
  rw [nm_eq] at hz
  split at hz
  · split at hz
    · cases hz
    · simp only [List.mem_singleton] at hz; subst hz; exact ⟨rfl, rfl⟩
  · split at hz
    · exact nms_each p.items ih _ _ _ z hz
    · cases hz
theorem mtr_of {g : Syntax → Option (List Capture)} : ∀ (L : List Syntax) (R : List (List Capture)), mtr g L = some R → R.length = L.length ∧ ∀ c ∈ R, ∃ f ∈ L, g f = some c
  | [], R, e => by simp only [mtr, Option.some.injEq] at e; subst e; simp
  | f :: r, R, e => by
    simp only [mtr] at e
    split at e
    · cases e
    · rename_i c hc
      split at e
      · cases e
      · rename_i R' hR
        simp only [Option.some.injEq] at e; subst e
        have ih := mtr_of r R' hR
        refine ⟨by simp [ih.1], fun d hd => ?_⟩
        rcases List.mem_cons.1 hd with rfl | hd
        · exact ⟨f, List.mem_cons_self, hc⟩
        · obtain ⟨g', h1, h2⟩ := ih.2 d hd
          exact ⟨g', List.mem_cons_of_mem _ h1, h2⟩
theorem mxP_default : mxP (default : Capture) = 0 := rfl
theorem rp_mx {V : List Capture} {R : List (List Capture)} {m : Nat} (hV : ∀ z ∈ V, wY z.form = 0 ∧ z.each = []) (hl : R.length ≤ m) (hR : ∀ c ∈ R, ∀ z ∈ c, mxP z ≤ m) : ∀ z ∈ rp V R, mxP z ≤ m := by
  intro z hz
  simp only [rp, List.mem_map, List.mem_range] at hz
  obtain ⟨i, hi, rfl⟩ := hz
  have h1 := hV _ (getD_mem' hi)
  rw [mxP_eq]
  simp only [h1.1, h1.2, List.nil_append, List.length_map]
  have h2 : mxPs (R.map fun c => c.getD i default) ≤ m := mxPs_le fun y hy => by
    obtain ⟨c, hc, rfl⟩ := List.mem_map.1 hy
    rcases Nat.lt_or_ge i c.length with h3 | h3
    · exact hR c hc _ (getD_mem' h3)
    · have e : c.getD i default = default := by simp [h3]
      rw [e, mxP_default]; omega
  omega
theorem getD_w {m : Nat} {fs : List Syntax} (h : ∀ f ∈ fs, wY f ≤ m) (k : Nat) : wY (fs.getD k default) ≤ m := by
  rcases Nat.lt_or_ge k fs.length with h3 | h3
  · exact h _ (getD_mem' h3)
  · have e : fs.getD k default = default := by simp [h3]
    have e2 : wY (default : Syntax) = 0 := rfl
    rw [e, e2]; omega
theorem mts_mx {M : Syntax → Syntax → Bool} {H : Syntax → Bool} {A : List Syntax → Int} {m : Nat} : ∀ l : List Syntax, (∀ x ∈ l, ∀ f c, mt M H A x f = some c → wY f ≤ m → ∀ z ∈ c, mxP z ≤ m) → ∀ i a k fs c, mts M H A l i a k fs = some c → fs.length ≤ m → (∀ f ∈ fs, wY f ≤ m) → ∀ z ∈ c, mxP z ≤ m
  | [], _, i, a, k, fs, c, e, _, _, z, hz => by simp only [mts, Option.some.injEq] at e; subst e; cases hz
  | x :: r, h, i, a, k, fs, c, e, hl, hf, z, hz => by
    have ih := mts_mx r (fun y hy => h y (List.mem_cons_of_mem _ hy)) (i + 1) a k
    have hd : ∀ n, (fs.drop n).length ≤ m ∧ ∀ f ∈ fs.drop n, wY f ≤ m := fun n => ⟨by rw [List.length_drop]; omega, fun f hm => hf f (List.mem_of_mem_drop hm)⟩
    simp only [mts] at e
    split at e
    · exact ih _ _ e hl hf z hz
    · split at e
      · split at e
        · cases e
        · rename_i R hR
          split at e
          · cases e
          · rename_i c' hc
            simp only [Option.some.injEq] at e; subst e
            obtain ⟨r1, r2⟩ := mtr_of _ _ hR
            rcases List.mem_append.1 hz with hz | hz
            · refine rp_mx (fun z hz => nm_each x 1 z hz) ?_ (fun c hc z hz => ?_) z hz
              · rw [r1, List.length_take]; omega
              · obtain ⟨f', h1, h2⟩ := r2 c hc
                exact h x List.mem_cons_self f' c h2 (hf f' (List.mem_of_mem_take h1)) z hz
            · exact ih _ _ hc (hd k).1 (hd k).2 z hz
      · split at e
        · cases e
        · rename_i c1 h1
          split at e
          · cases e
          · rename_i c' hc
            simp only [Option.some.injEq] at e; subst e
            rcases List.mem_append.1 hz with hz | hz
            · exact h x List.mem_cons_self _ _ h1 (getD_w hf 0) z hz
            · exact ih _ _ hc (hd 1).1 (hd 1).2 z hz
theorem mt_mx {M : Syntax → Syntax → Bool} {H : Syntax → Bool} {A : List Syntax → Int} {m : Nat} : ∀ (p f : Syntax) (c : List Capture), mt M H A p f = some c → wY f ≤ m → ∀ z ∈ c, mxP z ≤ m := by
  refine Syntax.ind fun p ih f c e hm z hz => ?_
  rw [mt_eq] at e
  split at e
  · split at e
    · simp only [Option.some.injEq] at e; subst e; cases hz
    · split at e
      · split at e
        · simp only [Option.some.injEq] at e; subst e; cases hz
        · cases e
      · simp only [Option.some.injEq] at e; subst e
        simp only [List.mem_singleton] at hz; subst hz
        have e2 : mxP (capF p f) = max (wY f) (max 0 0) := rfl
        rw [e2]; omega
  · split at e
    · split at e
      · have h1 := wY_eq f
        exact mts_mx p.items ih _ _ _ _ _ e (by omega) (fun g hg => by have := sumBy_mem wY hg; omega) z hz
      · cases e
    · split at e
      · simp only [Option.some.injEq] at e; subst e; cases hz
      · cases e
def apK (B : List Binding) (r : Rules) (f : Syntax) (k : Nat) : Bool := (gS B r.literals (tlY (r.patterns.getD k default)) (tlY f)).isSome
def apC (B : List Binding) (r : Rules) (f : Syntax) (k : Nat) : List Capture := (gS B r.literals (tlY (r.patterns.getD k default)) (tlY f)).getD []
def apZ (B : List Binding) (r : Rules) (f : Syntax) (k : Nat) : Bool := (List.range k).all fun j => !apK B r f j
def apN (B : List Binding) (r : Rules) (f : Syntax) : Nat := (List.range r.patterns.length).findIdx (apK B r f)
def apG (B : List Binding) (r : Rules) (f : Syntax) : Bool := decide (f.kind = 0) && !decide ((f.items.length : Int) = 0) && decide (apN B r f < r.patterns.length)
def apB (B : List Binding) (r : Rules) (f : Syntax) : Bool := apG B r f && insB (r.templates.getD (apN B r f) default) (apC B r f (apN B r f))
def apY (B : List Binding) (r : Rules) (f : Syntax) : Syntax := if apG B r f = true then insY (r.templates.getD (apN B r f) default) (apC B r f (apN B r f)) else zY
section
variable {B : List Binding} {r : Rules} {f : Syntax} {k : Nat}
theorem apZ_zero : apZ B r f 0 = true := rfl
theorem apZ_step : apZ B r f (k + 1) = (apZ B r f k && !apK B r f k) := by simp [apZ, List.range_succ]
theorem apZ_no (hk : k < r.patterns.length) (h : apK B r f k = true) : apZ B r f r.patterns.length = false := by
  cases e : apZ B r f r.patterns.length with
  | false => rfl
  | true =>
    simp only [apZ, List.all_eq_true, List.mem_range] at e
    have := e k hk
    rw [h] at this; cases this
theorem apN_at (hk : k < r.patterns.length) (h : apZ B r f k = true) (h2 : apK B r f k = true) : apN B r f = k := by
  unfold apN
  have hl : k < (List.range r.patterns.length).length := by simpa using hk
  rw [List.findIdx_eq hl]
  refine ⟨by simpa using h2, fun j hj => ?_⟩
  simp only [apZ, List.all_eq_true, List.mem_range] at h
  have := h j hj
  simpa using this
theorem apN_none (h : apZ B r f r.patterns.length = true) : ¬ apN B r f < r.patterns.length := by
  unfold apN
  intro hl
  have hl' : (List.range r.patterns.length).findIdx (apK B r f) < (List.range r.patterns.length).length := by simpa using hl
  have h3 := List.findIdx_getElem (w := hl')
  simp only [apZ, List.all_eq_true, List.mem_range] at h
  rw [List.getElem_range] at h3
  have := h _ hl
  rw [h3] at this; cases this
theorem ap_kind (h : ¬ f.kind = 0) : apB B r f = false ∧ apY B r f = zY := by
  have e : apG B r f = false := by simp [apG, h]
  unfold apB apY; rw [e]; exact ⟨rfl, rfl⟩
theorem ap_empty (h : f.items.length = 0) : apB B r f = false ∧ apY B r f = zY := by
  have e : apG B r f = false := by simp [apG, h]
  unfold apB apY; rw [e]; exact ⟨rfl, rfl⟩
theorem ap_none (h : apZ B r f r.patterns.length = true) : apB B r f = false ∧ apY B r f = zY := by
  have e : apG B r f = false := by simp [apG, apN_none h]
  unfold apB apY; rw [e]; exact ⟨rfl, rfl⟩
theorem ap_at (h0 : f.kind = 0) (h1 : 0 < f.items.length) (hk : k < r.patterns.length) (h : apZ B r f k = true) (h2 : apK B r f k = true) : apB B r f = insB (r.templates.getD k default) (apC B r f k) ∧ apY B r f = insY (r.templates.getD k default) (apC B r f k) := by
  have e := apN_at hk h h2
  have e2 : apG B r f = true := by unfold apG; rw [e]; simp [h0, hk]; intro h3; rw [h3] at h1; simp at h1
  unfold apB apY; rw [e2, e]; exact ⟨rfl, rfl⟩
theorem isRul_at (hr : isRul r = true) (hk : k < r.patterns.length) : good r.literals (tlY (r.patterns.getD k default)) ∧ depY (tlY (r.patterns.getD k default)) ≤ 40 ∧ sizeY (tlY (r.patterns.getD k default)) ≤ 2000 ∧ k < r.templates.length ∧ r.literals.all litP = true ∧ 1 ≤ (r.patterns.getD k default).items.length := by
  simp only [isRul, Bool.and_eq_true, decide_eq_true_eq] at hr
  obtain ⟨⟨⟨⟨h1, h2⟩, _⟩, h3⟩, _⟩ := hr
  have h4 := clTo_le r _ (k + 1) hk h3
  simp only [clTo, clT, clP, Bool.and_eq_true] at h4
  have h5 := h4.2.1
  have h6 := tlY_syn h5.1.1.1.1.1
  have h7 := h5.1.1.1.2
  have h8 := mt_good h6 h5.2
  simp only [okL, Bool.and_eq_true] at h1
  refine ⟨h8.1, h8.2.2, h8.2.1, by omega, h1.1, ?_⟩
  simp only [Bool.not_eq_true', decide_eq_false_iff_not] at h7
  omega
theorem apC_ok {m : Nat} (hr : isRul r = true) (hk : k < r.patterns.length) (hf : wY (tlY f) ≤ m) : (∀ z ∈ apC B r f k, mxP z ≤ m) ∧ (apC B r f k).length ≤ 2000 := by
  have h1 := isRul_at hr hk
  unfold apC
  cases e : gS B r.literals (tlY (r.patterns.getD k default)) (tlY f) with
  | none => simp
  | some c =>
    simp only [Option.getD_some]
    refine ⟨mt_mx _ _ _ e hf, ?_⟩
    have h2 := gS_len e
    have h3 := nS_size (Ls := r.literals) (tlY (r.patterns.getD k default))
    omega
theorem ap_same (hr : isRul r = true) (hk : k < r.patterns.length) (g : Syntax) : gI B r.literals (tlY (r.patterns.getD k default)) g = gS B r.literals (tlY (r.patterns.getD k default)) g := by
  have h1 := isRul_at hr hk
  exact ((mt_same (M := mng B) (List.all_eq_true.1 h1.2.2.2.2.1) _ h1.1).1 g).symm
end
def aprB (B : List Binding) (r : Rules) (f : Syntax) : Bool := areB B && isRul r && isSyn f && apB B r f
def aprY (B : List Binding) (r : Rules) (f : Syntax) : Syntax := if (areB B && isRul r && isSyn f) = true then apY B r f else zY
end Go.Proofs.YtpnaoendfpaodaaGreat
end
