/- Part 3 of a proof. No condition. -/
import Derived.Test.YtpnaoendfpaodaaGreatExS2
set_option linter.unusedVariables false
set_option linter.unusedSimpArgs false
section
namespace Go.Proofs.YtpnaoendfpaodaaGreat
open Go Ab
set_option maxHeartbeats 4000000
abbrev Z8g (B : List YB) (Ls : List YS) (p : YS) (f : YS) (o : List YC) : Ct := ⟨185, [.arr true 12 (o.map Yhf)], [ll (B.map Yhg), ll (Ls.map Yhd), ll (p.items.map Yhd), Yhz f, .one (.ref 0)], [.dead, .arr true 12 ((smO p o (gS B Ls p f)).map Yhf)], .tup [.one (.ref 1), lb (gS B Ls p f).isSome]⟩
abbrev Zh (B : List YB) (Ls : List YS) (p : YS) (f : YS) (o : List YC) : Ct := ⟨106, [.arr true 12 (o.map Yhf)], [ll (B.map Yhg), ll (Ls.map Yhd), Yhz p, Yhz f, .one (.ref 0)], [.dead, .arr true 12 ((smO p o (gS B Ls p f)).map Yhf)], .tup [.one (.ref 1), lb (gS B Ls p f).isSome]⟩
def Z5t (B : List YB) (Ls : List YS) (p : YS) (f : YS) (o : List YC) (k : Nat) (k1 : Nat) : Lp Nat := .mk 174 1 (fun x => [(0, ll (List.map Yhg
 B)), (1, ll (Ls.map Yhd)), (2, ll (p.items.map Yhd)), (4, .one (.ref 1)), (8, .one (.ptr 2 0)), (12, li (if okS p.items = true then atS p.items else (-1
 : Int))), (14, li (↑(p.items.map Yhd).length : Int)), (15, li (↑(mS p f) : Int)), (16, lb (gS B Ls (p.items.getD k default) (f.items.getD (kS B Ls p f o k + k1)
 default)).isSome), (17, li ((↑(kS B Ls p f o k) : Int) + (k1 : Int) + 1)), (18, li (k : Int)), (19, .one (.ref 3)), (22, li (k1 : Int)), (23, .one (.ref 4)), (24, hs x
 0)]) (fun x => [.dead, .arr true 12 ((oS B Ls p f o k).map Yhf), .box (vals (Yhk f)), ho x 1, ho x 2]) (fun k2 => [.s (li (k2 : Int)), .o (.arr true 12
 ((Yjk (nS Ls (p.items.getD k default)) (rS B Ls p f o k k1) (Yn3 B Ls p f o k k1) k2).map Yhf)), .o (.arr true 12 ((List.take k2 (Yn3 B Ls p f o k
 k1)).map Ypv ++ (List.drop k2 (Yn3 B Ls p f o k k1)).map Yhf))]) (fun k2 => k2 <= (nS Ls (p.items.getD k default)).length /\ (nS Ls (p.items.getD k default)).length <=
 9223372036854775807 /\ ((gS B Ls (p.items.getD k default) (f.items.getD (kS B Ls p f o k + k1) default)).isSome || decide (k2 = 0)) = true /\ qS B Ls p f o k k1 = true /\ (rS B Ls p
 f o k k1).length <= 1000000000) (fun k2 => (nS Ls (p.items.getD k default)).length - k2) [.mk True (.exit 6) (fun x => [(0, ll (B.map Yhg)), (1, ll (List.map Yhd
 Ls)), (2, ll (p.items.map Yhd)), (4, .one (.ref 1)), (8, .one (.ptr 2 0)), (12, li (if okS p.items = true then atS p.items else (-1 : Int))), (14, li (↑(List.map
 Yhd p.items).length : Int)), (15, li (↑(mS p f) : Int)), (16, lb (gS B Ls (p.items.getD k default) (f.items.getD (kS B Ls p f o k + k1) default)).isSome), (17, li ((↑(kS B Ls
 p f o k) : Int) + (k1 : Int) + 1)), (18, li (k : Int)), (19, .one (.ref 3)), (22, li (k1 : Int))]) (fun x => [.dead, .arr true 12 ((oS B Ls p f o k).map Yhf),
 .box (vals (Yhk f)), ho x 0]) [.o (.arr true 12 ((rp (nS Ls (p.items.getD k default)) (rS B Ls p f o k (k1 + 1))).map Yhf))]]
def Z5u (B : List YB) (Ls : List YS) (p : YS) (f : YS) (o : List YC) (k : Nat) : Lp Nat := .mk 174 1 (fun x => [(0, ll (B.map Yhg)), (1, ll
 (Ls.map Yhd)), (2, ll (p.items.map Yhd)), (4, .one (.ref 1)), (8, .one (.ptr 2 0)), (12, li (if okS p.items = true then atS p.items else (-1 : Int))),
 (14, li (↑(p.items.map Yhd).length : Int)), (15, li (↑(mS p f) : Int)), (16, hs x 2), (17, hs x 1), (18, li (k : Int)), (19, .one (.ref 3)), (22, hs x 0)]) (fun x =>
 [.dead, .arr true 12 ((oS B Ls p f o k).map Yhf), .box (vals (Yhk f)), ho x 3]) (fun k1 => [.s (li (k1 : Int)), .s (li ((↑(kS B Ls p f o k) : Int) + (↑k1 :
 Int))), .s (lb (qS B Ls p f o k k1)), .o (.arr true 12 ((rp (nS Ls (p.items.getD k default)) (rS B Ls p f o k k1)).map Yhf))]) (fun k1 => k1 <= mS p f /\ kS B Ls p f o k
 + mS p f <= f.items.length /\ (qS B Ls p f o k k1 || decide (k1 = (rS B Ls p f o k k1).length + 1)) = true /\ atB p k = true /\ wY p <= 1048576 /\ Yho p <= 2147483647 /\ Yi6 p <= 40 /\
 wY f <= 1000000000) (fun k1 => mS p f - k1) [.mk True (.exit 4) (fun x => [(0, ll (B.map Yhg)), (1, ll (Ls.map Yhd)), (2, ll (p.items.map Yhd)), (4,
 .one (.ref 1)), (8, .one (.ptr 2 0)), (12, li (if okS p.items = true then atS p.items else (-1 : Int))), (14, li (↑(p.items.map Yhd).length : Int)), (15, li (↑(mS
 p f) : Int)), (16, hs x 1), (17, hs x 0), (18, li (k : Int)), (19, .one (.ref 3))]) (fun x => [.dead, .arr true 12 ((oS B Ls p f o k).map Yhf), .box (vals
 (Yhk f)), ho x 2]) [.s (li ((↑(kS B Ls p f o k) : Int) + (↑(if qS B Ls p f o k (mS p f) = true then mS p f else (rS B Ls p f o k (mS p f)).length + 1) : Int))), .s (lb (qS B
 Ls p f o k (mS p f))), .o (.arr true 12 ((rp (nS Ls (p.items.getD k default)) (rS B Ls p f o k (mS p f))).map Yhf))]]
def Z5v (B : List YB) (Ls : List YS) (p : YS) (f : YS) (o : List YC) (k : Nat) : Lp Nat := .mk 174 1 (fun x => [(0, ll (B.map Yhg)), (1, ll
 (Ls.map Yhd)), (2, ll (p.items.map Yhd)), (4, .one (.ref 1)), (8, .one (.ptr 2 0)), (12, li (if okS p.items = true then atS p.items else (-1 : Int))),
 (14, li (↑(p.items.map Yhd).length : Int)), (15, li (↑(mS p f) : Int)), (16, lb (bS B Ls p f o k)), (17, li (↑(kS B Ls p f o k) : Int)), (18, li (k : Int)), (19, .one
 (.ref 3)), (102, li (↑(((vrS Ls (p.items.getD k default) 0 []).getD []).map Yhf).length : Int)), (103, hs x 0)]) (fun x => [.dead, .arr true 12 (List.map Yhf
 (oS B Ls p f o k)), .box (vals (Yhk f)), ho x 1]) (fun k1 => [.s (li (k1 : Int)), .o (.arr true 12 ((Yis (eV Ls (p.items.getD k default)) k1).map Yhf))]) (fun
 k1 => k1 <= (eV Ls (p.items.getD k default)).length /\ (eV Ls (p.items.getD k default)).length <= 1000000000 /\ atB p k = true /\ Yi6 p <= 40) (fun k1 => (eV Ls (p.items.getD k
 default)).length - k1) [.mk True (.exit 2) (fun x => [(0, ll (B.map Yhg)), (1, ll (Ls.map Yhd)), (2, ll (p.items.map Yhd)), (4, .one (.ref 1)), (8,
 .one (.ptr 2 0)), (12, li (if okS p.items = true then atS p.items else (-1 : Int))), (14, li (↑(p.items.map Yhd).length : Int)), (15, li (↑(mS p f) : Int)), (16, lb
 (bS B Ls p f o k)), (17, li (↑(kS B Ls p f o k) : Int)), (18, li (k : Int)), (19, .one (.ref 3))]) (fun x => [.dead, .arr true 12 ((oS B Ls p f o k).map Yhf),
 .box (vals (Yhk f)), ho x 0]) [.o (.arr true 12 ((nS Ls (p.items.getD k default)).map Yhf))]]
def Z1t (B : List YB) (Ls : List YS) (p : YS) (f : YS) (o : List YC) : Lp Nat := .mk 174 1 (fun x => [(0, ll (B.map Yhg)), (1, ll (List.map
 Yhd Ls)), (2, ll (p.items.map Yhd)), (4, .one (.ref 1)), (8, .one (.ptr 2 0)), (12, li (if okS p.items = true then atS p.items else (-1 : Int))), (14, li
 (↑(p.items.map Yhd).length : Int)), (15, hs x 1), (16, hs x 3), (17, hs x 2), (18, hs x 0)]) (fun x => [.dead, ho x 4, .box (vals (Yhk f))]) (fun k => [.s (li (↑k
 : Int)), .s (li (↑(mS p f) : Int)), .s (li (↑(kS B Ls p f o k) : Int)), .s (lb (bS B Ls p f o k)), .o (.arr true 12 ((oS B Ls p f o k).map Yhf))]) (fun k => k <=
 p.items.length /\ p.items.length <= 9223372036854775807 /\ fS p f = true) (fun k => p.items.length - k) [.mk True (.exit 0) (fun x => [(4, .one (.ref 1)), (16, hs x 0)]) (fun x
 => [.dead, ho x 1]) [.s (lb (bS B Ls p f o p.items.length)), .o (.arr true 12 ((oS B Ls p f o p.items.length).map Yhf))]]
theorem Zf4 (B : List YB) (Ls : List YS) (p : YS) (f : YS) (o : List YC) (h : B.length <= 1048577 /\ Yhe wB B <= 1048577 /\ wY p <= 1048576 /\ wY f <=
 1000000000 /\ o.length + Yho p <= 2147483647 /\ Yi6 p <= 40) (hg : good Ls p /\ p.kind = 0) (ih : ∀ (z : YS), z ∈ p.items -> ∀ (B : List YB) (Ls : List YS) (f : YS)
 (o : List YC), B.length <= 1048577 /\ Yhe wB B <= 1048577 /\ wY z <= 1048576 /\ wY f <= 1000000000 /\ o.length + Yho z <= 2147483647 /\ Yi6 z <= 40 -> good Ls z -> OK (Zh B Ls
 z f o)) (k : Nat) (k1 : Nat) : Lp.Sem Tryz.prog (Yht Tryz.f185 3) (Z5t B Ls p f o k k1) := Yi3 (fun k2 => let v9 := (Yjk (nS Ls (p.items.getD k default)) (rS B Ls p f
 o k k1) (Yn3 B Ls p f o k k1) k2); let v1 := (v9.getD (k2 : Int).toNat default); let v2 := [cI 0, cI 0, cS (ByteArray.mk #[]), .list [], .list [], cI 0, cI 0, cI 0, cS
 (ByteArray.mk #[]), .list [], .list [], .list []]; let v3 := (v9.map Yhf); let v4 := ((Yn3 B Ls p f o k k1).getD k2 default); let v5 := (List.map Ypv
 (List.take k2 (Yn3 B Ls p f o k k1)) ++ (List.drop k2 (Yn3 B Ls p f o k k1)).map Yhf); let v6 := [(k2 : Int).toNat, (k2 : Int).toNat, (k2 : Int).toNat, (↑k2 :
 Int).toNat, (k2 : Int).toNat]; let v7 := [cI v1.name.kind, cI v1.name.number, cS v1.name.text, .list (v1.name.scopes.map Yhh), .list (List.map Yhd
 v1.name.items), cI v1.depth, cI v1.form.kind, cI v1.form.number, cS v1.form.text, .list (v1.form.scopes.map Yhh), .list (v1.form.items.map Yhd), .any];
 let v11 := (v1.each.map Yhf ++ [v2]); let v10 := (↑(v1.each.map Yhf).length : Int); let v8 := [cI v1.name.kind, cI v1.name.number, cS v1.name.text, .list
 (v1.name.scopes.map Yhh), .list (v1.name.items.map Yhd), cI v1.depth, cI v1.form.kind, cI v1.form.number, cS v1.form.text, .list (List.map Yhh
 v1.form.scopes), .list (v1.form.items.map Yhd), .list (v11.set v10.toNat (Yi1 v4))]; .z Yhf v9 (.i ((k2 : Int) < (↑(v9.map Yhf).length :
 Int)) (.b (gS B Ls (p.items.getD k default) (f.items.getD (kS B Ls p f o k + k1) default)).isSome (.w (.drawT 13 16 12 [(11, [3, 5]), (13, [4, 7]), (16, [7, 3])]) (.p (0 <= (↑k2 :
 Int) /\ (k2 : Int).toNat < v3.length) (.w .sub (.p ((k2 : Int).toNat < v3.length) (.p (0 <= (k2 : Int) /\ (k2 : Int).toNat < v5.length) (.w (.subs (Yi1 v4)) (.p (v5[(↑k2 :
 Int).toNat]? = some (Yi1 v4)) (.w (.cells (Yi1 v1)) (.p (v3[(k2 : Int).toNat]? = some (Yi1 v1)) (.w (.subcall (Yi1 v1) (v1.each.map Yhf) 12) (.p
 (v3[(k2 : Int).toNat]? = some (Yi1 v1)) (.p (some (Cell.list (v1.each.map Yhf)) = some (Cell.list (v1.each.map Yhf))) (.p (∀ (x : List Cell), x ∈
 v1.each.map Yhf -> x.length = 12) (.p (((v1.each.map Yhf).length + 1) * 192 <= 140737488355328) (.p (0 <= v10 /\ v10.toNat < v11.length) (.w (.subs (Yi1 v4))
 (.w (.cells v2) (.p (v6 = v6) (.p (v5[(k2 : Int).toNat]? = some (Yi1 v4)) (.p (v11[v10.toNat]? = some v2) (.p (0 <= (k2 : Int) /\ (k2 : Int).toNat < (v3.set (↑k2 :
 Int).toNat v7).length) (.w (.take v7 (v3.set (k2 : Int).toNat v8) 0) (.p ((v3.set (k2 : Int).toNat v7)[(k2 : Int).toNat]? = some v7) (.p ((v3.set (k2 : Int).toNat v7).set (↑k2
 : Int).toNat v8 = v3.set (k2 : Int).toNat v8) (.p (v10.toNat < v11.length) (.p ((k2 : Int).toNat < (v3.set (k2 : Int).toNat v7).length) (.z Yhf v1.each (.r ((k2 : Int) +
 1) (.g [0, 1, 2, 3, 4] (k2 + 1) [.s (li ((k2 : Int) + 1)), .o (.arr true 12 (v3.set (k2 : Int).toNat v8)), .o (.arr true 12 (v5.set (k2 : Int).toNat [cI v4.name.kind, cI
 v4.name.number, cS v4.name.text, .any, .any, cI v4.depth, cI v4.form.kind, cI v4.form.number, cS v4.form.text, .any, .any,
 .any]))]))))))))))))))))))))))))))))) (.o 0 [0, 1, 2, 3] [.o (.arr true 12 v3)])) (.y false (.o 0 [0, 1, 2, 3] [.o (.arr true 12 v3)])))) (by
 intro k2 h; try dsimp only [Yhj, Yhq, Z5t] at h ⊢
 have g3 := Y144 (nS Ls (p.items.getD k default)) (rS B Ls p f o k k1) (Yn3 B Ls p f o k k1) k2
 have gc := @Y1fm B Ls p f o k k1
 have ge := @Y1cx B Ls p f o k k1 k2
 have gz := @Y1dd B Ls p f o k k1 k2
 with_reducible repeat' (first | apply And.intro | exact zR | (intro))
 all_goals ((try simp only [std, inj] at *); with_reducible and_intros)
 all_goals try first | exact z | exact List.set_set .. | exact Y12n (by grind) | exact Y14j (by grind) | exact Y17y (by grind) | exact Y11w _ (by omega) | exact gz h.2.2.2.1 h.2.2.1 (.inl ‹_›) | exact gz h.2.2.2.1 h.2.2.1 (.inr (by omega)) | grind)
theorem Zf5 (B : List YB) (Ls : List YS) (p : YS) (f : YS) (o : List YC) (h : B.length <= 1048577 /\ Yhe wB B <= 1048577 /\ wY p <= 1048576 /\ wY f <=
 1000000000 /\ o.length + Yho p <= 2147483647 /\ Yi6 p <= 40) (hg : good Ls p /\ p.kind = 0) (ih : ∀ (z : YS), z ∈ p.items -> ∀ (B : List YB) (Ls : List YS) (f : YS)
 (o : List YC), B.length <= 1048577 /\ Yhe wB B <= 1048577 /\ wY z <= 1048576 /\ wY f <= 1000000000 /\ o.length + Yho z <= 2147483647 /\ Yi6 z <= 40 -> good Ls z -> OK (Zh B Ls
 z f o)) (k : Nat) : Lp.Sem Tryz.prog (Yht Tryz.f185 2) (Z5u B Ls p f o k) := Yi3 (fun k1 => .i ((k1 : Int) < (↑(mS p f) : Int)) (.b (qS B Ls p f o k k1) (.w (.bool
 false) (.w (.draw [(12, [4])]) (.x (k : Int) (p.items.map Yhd) (Yhk (p.items.getD k default)) (.x ((↑(kS B Ls p f o k) : Int) + (k1 : Int)) (List.map Yhd
 f.items) (Yhk (f.items.getD (kS B Ls p f o k + k1) default)) (.d [.rd, .rd, .rd, .rd, .own true 12] (Zh B Ls (p.items.getD k default) (f.items.getD (kS B Ls p f o k +
 k1) default) []) (.r ((↑(kS B Ls p f o k) : Int) + (k1 : Int) + 1) (.l (Z5t B Ls p f o k k1) (Zf4 B Ls p f o h hg ih k k1) [0, 1, 2, 3, 6] [.s (li 0), .o (.arr
 true 12 ((rp (nS Ls (p.items.getD k default)) (rS B Ls p f o k k1)).map Yhf)), .o (.arr true 12 ((smO (p.items.getD k default) [] (gS B Ls
 (p.items.getD k default) (f.items.getD (kS B Ls p f o k + k1) default))).map Yhf))] 0 (.t (.r ((k1 : Int) + 1) (.g [0, 1, 2, 3] (k1 + 1) [.s (li ((k1 : Int) + 1)), .s (li ((↑(kS B Ls p
 f o k) : Int) + (k1 : Int) + 1)), .s (lb (gS B Ls (p.items.getD k default) (f.items.getD (kS B Ls p f o k + k1) default)).isSome), .o (.arr true 12 ((rp (nS
 Ls (p.items.getD k default)) (rS B Ls p f o k (k1 + 1))).map Yhf))])) .q)))))))) (.o 0 [0, 1, 2, 3] [.s (li ((↑(kS B Ls p f o k) : Int) + (k1 : Int))), .s (lb (qS B Ls p f o k k1)), .o
 (.arr true 12 ((rp (nS Ls (p.items.getD k default)) (rS B Ls p f o k k1)).map Yhf))])) (.y false (.o 0 [0, 1, 2, 3] [.s (li ((↑(kS B Ls p f o k) : Int) + (↑k1 :
 Int))), .s (lb (qS B Ls p f o k k1)), .o (.arr true 12 ((rp (nS Ls (p.items.getD k default)) (rS B Ls p f o k k1)).map Yhf))]))) (by
 intro k1 h; try dsimp only [Yhj, Yhq, Z5u, Z5t] at h ⊢
 have ga := Ysg h.2.2.2.1
 have gi := Ypa ga.1
 have gl := Y1as f
 have gf := @Ypa (kS B Ls p f o k + k1) f
 have g3 := @Y1db B Ls p f o k k1
 have g4 := @Y1hw B Ls p f o k k1
 have g5 := Y101 (Ls := Ls) (p.items.getD k default)
 have g6 := Yo3 (p.items.getD k default)
 have g7 := @Yv4 (nS Ls (p.items.getD k default)) (rS B Ls p f o k k1) (Yn3 B Ls p f o k k1)
 have gr := @Y1fo Ls p k hg.1 hg.2
 with_reducible repeat' (first | apply And.intro | exact zR | exact ih | (intro))
 all_goals (try simp only [std, inj, Y12f, Yz0] at *)
 all_goals with_reducible and_intros
 all_goals try first | with_reducible apply ih
 all_goals try first | exact zw | exact gi.2.2.2.2 | exact gr h.2.2.2.1 | exact Y1fe | exact Y1k3 ‹_› | exact Y1m2 ‹_› | (have q := gf (by omega); omega) | (have q := g3 ‹_›; omega) | (simp only [List.length_nil]; omega) | grind)
theorem Zf6 (B : List YB) (Ls : List YS) (p : YS) (f : YS) (o : List YC) (h : B.length <= 1048577 /\ Yhe wB B <= 1048577 /\ wY p <= 1048576 /\ wY f <=
 1000000000 /\ o.length + Yho p <= 2147483647 /\ Yi6 p <= 40) (hg : good Ls p /\ p.kind = 0) (ih : ∀ (z : YS), z ∈ p.items -> ∀ (B : List YB) (Ls : List YS) (f : YS)
 (o : List YC), B.length <= 1048577 /\ Yhe wB B <= 1048577 /\ wY z <= 1048576 /\ wY f <= 1000000000 /\ o.length + Yho z <= 2147483647 /\ Yi6 z <= 40 -> good Ls z -> OK (Zh B Ls
 z f o)) (k : Nat) : Lp.Sem Tryz.prog (Yht Tryz.f185 1) (Z5v B Ls p f o k) := Yi3 (fun k1 => .i ((k1 : Int) < (↑(((vrS Ls (p.items.getD k default) 0
 []).getD []).map Yhf).length : Int)) (.p (0 <= (k1 : Int) /\ (k1 : Int).toNat < ((Yis (eV Ls (p.items.getD k default)) k1).map Yhf).length) (.w (.cells (Yi1 ((Yis (eV Ls
 (p.items.getD k default)) k1).getD (k1 : Int).toNat default))) (.p (((Yis (eV Ls (p.items.getD k default)) k1).map Yhf)[(k1 : Int).toNat]? = some (Yi1 ((Yis (eV
 Ls (p.items.getD k default)) k1).getD (k1 : Int).toNat default))) (.r (((Yis (eV Ls (p.items.getD k default)) k1).getD (k1 : Int).toNat default).depth + 1) (.p (0 <= (k1 : Int)
 /\ (k1 : Int).toNat < ((Yis (eV Ls (p.items.getD k default)) k1).map Yhf).length) (.w (.cells (Yi1 ((Yis (eV Ls (p.items.getD k default)) k1).getD (↑k1 :
 Int).toNat default))) (.p (((Yis (eV Ls (p.items.getD k default)) k1).map Yhf)[(k1 : Int).toNat]? = some (Yi1 ((Yis (eV Ls (p.items.getD k default)) k1).getD
 (k1 : Int).toNat default))) (.r ((k1 : Int) + 1) (.g [0, 1, 2, 3] (k1 + 1) [.s (li ((k1 : Int) + 1)), .o (.arr true 12 (((Yis (eV Ls (p.items.getD k
 default)) k1).map Yhf).set (k1 : Int).toNat [cI ((Yis (eV Ls (p.items.getD k default)) k1).getD (k1 : Int).toNat default).name.kind, cI ((Yis (eV Ls (p.items.getD k default)) k1).getD
 (k1 : Int).toNat default).name.number, cS ((Yis (eV Ls (p.items.getD k default)) k1).getD (k1 : Int).toNat default).name.text, .list (((Yis (eV Ls
 (p.items.getD k default)) k1).getD (k1 : Int).toNat default).name.scopes.map Yhh), .list (((Yis (eV Ls (p.items.getD k default)) k1).getD (k1 : Int).toNat
 default).name.items.map Yhd), cI (((Yis (eV Ls (p.items.getD k default)) k1).getD (k1 : Int).toNat default).depth + 1), cI ((Yis (eV Ls (p.items.getD k default)) k1).getD (↑k1 :
 Int).toNat default).form.kind, cI ((Yis (eV Ls (p.items.getD k default)) k1).getD (k1 : Int).toNat default).form.number, cS ((Yis (eV Ls (p.items.getD k default)) k1).getD (↑k1
 : Int).toNat default).form.text, .list (((Yis (eV Ls (p.items.getD k default)) k1).getD (k1 : Int).toNat default).form.scopes.map Yhh), .list (List.map Yhd
 ((Yis (eV Ls (p.items.getD k default)) k1).getD (k1 : Int).toNat default).form.items), .list (((Yis (eV Ls (p.items.getD k default)) k1).getD (↑k1 :
 Int).toNat default).each.map Yhf)]))]))))))))) (.o 0 [0, 1, 2, 3] [.o (.arr true 12 ((Yis (eV Ls (p.items.getD k default)) k1).map Yhf))])) (by
 intro k1 h; try dsimp only [Yhj, Yhq, Z5v] at h ⊢
 have g3 := Y1eo (eV Ls (p.items.getD k default)) k1
 have gd := @Y1f0 Ls p k k1 hg.1 hg.2
 have ge := @Y1k4 Ls p k k1 hg.1 hg.2
 with_reducible repeat' (first | apply And.intro | exact zR | (intro))
 all_goals (try simp only [std, inj, Y12f, Yz0] at *)
 all_goals with_reducible and_intros
 all_goals try first | exact zw | exact Y1i0 (by omega) | (have q := gd h.2.2.1 h.2.2.2 (by omega); omega) | exact ge h.2.2.1 (by omega) | grind)
theorem Z5w (B : List YB) (Ls : List YS) (p : YS) (f : YS) (o : List YC) (h : B.length <= 1048577 /\ Yhe wB B <= 1048577 /\ wY p <= 1048576 /\ wY f <=
 1000000000 /\ o.length + Yho p <= 2147483647 /\ Yi6 p <= 40) (hg : good Ls p /\ p.kind = 0) (ih : ∀ (z : YS), z ∈ p.items -> ∀ (B : List YB) (Ls : List YS) (f : YS)
 (o : List YC), B.length <= 1048577 /\ Yhe wB B <= 1048577 /\ wY z <= 1048576 /\ wY f <= 1000000000 /\ o.length + Yho z <= 2147483647 /\ Yi6 z <= 40 -> good Ls z -> OK (Zh B Ls
 z f o)) : Lp.Sem Tryz.prog (Yht Tryz.f185 0) (Z1t B Ls p f o) := Yi3 (fun k => .i ((k : Int) < (↑(p.items.map Yhd).length : Int)) (.b (bS B Ls p f o k) (.i
 ((k : Int) = if okS p.items = true then atS p.items else (-1 : Int)) (.r ((k : Int) + 1) (.g [0, 1, 2] (k + 1) [.s (li ((k : Int) + 1)), .s (li (↑(mS p f) : Int)), .s (li (↑(kS
 B Ls p f o k) : Int)), .s (lb (bS B Ls p f o k)), .o (.arr true 12 ((oS B Ls p f o k).map Yhf))])) (.r ((k : Int) + 1) (.i ((k : Int) + (1 : Int) ≠ if okS p.items =
 true then atS p.items else (-1 : Int)) (.w (.draw [(12, [1])]) (.x (k : Int) (p.items.map Yhd) (Yhk (p.items.getD k default)) (.x (↑(kS B Ls p f o k) : Int)
 (f.items.map Yhd) (Yhk (f.items.getD (kS B Ls p f o k) default)) (.d [.rd, .rd, .rd, .rd, .own true 12] (Zh B Ls (p.items.getD k default) (f.items.getD (kS B Ls
 p f o k) default) (oS B Ls p f o k)) (.r ((↑(kS B Ls p f o k) : Int) + 1) (.r ((k : Int) + 1) (.g [0, 4, 2] (k + 1) [.s (li ((k : Int) + 1)), .s (li (↑(mS p f) : Int)), .s (li
 ((↑(kS B Ls p f o k) : Int) + 1)), .s (lb (gS B Ls (p.items.getD k default) (f.items.getD (kS B Ls p f o k) default)).isSome), .o (.arr true 12 ((smO
 (p.items.getD k default) (oS B Ls p f o k) (gS B Ls (p.items.getD k default) (f.items.getD (kS B Ls p f o k) default))).map Yhf))]))))))) (.x (k : Int) (p.items.map Yhd)
 (Yhk (p.items.getD k default)) (.w (.bool false) (.d [.rd, .rd, .rd, .own true 12] (Zw Ls (p.items.getD k default) 0 []) (.z Yhf ((vrS Ls (p.items.getD k default)
 0 []).getD []) (.l (Z5v B Ls p f o k) (Zf6 B Ls p f o h hg ih k) [0, 1, 2, 5] [.s (li 0), .o (.arr true 12 (((vrS Ls (p.items.getD k default) 0
 []).getD []).map Yhf))] 0 (.t (.l (Z5u B Ls p f o k) (Zf5 B Ls p f o h hg ih k) [0, 1, 2, 3] [.s (li 0), .s (li (↑(kS B Ls p f o k) : Int)), .s (lb (bS B Ls p f o k)), .o
 (.arr true 12 ((nS Ls (p.items.getD k default)).map Yhf))] 0 (.t (.p ((((oS B Ls p f o k).map Yhf).length + ((rp (nS Ls (p.items.getD k
 default)) (rS B Ls p f o k (mS p f))).map Yhf).length) * 192 <= 140737488355328) (.r ((k : Int) + 1) (.g [0, 4, 2] (k + 1) [.s (li ((k : Int) + 1)), .s (li (↑(mS p f) : Int)), .s (li
 ((↑(kS B Ls p f o k) : Int) + (↑(if qS B Ls p f o k (mS p f) = true then mS p f else (rS B Ls p f o k (mS p f)).length + 1) : Int))), .s (lb (qS B Ls p f o k (mS p f))), .o
 (.arr true 12 ((oS B Ls p f o k).map Yhf ++ (rp (nS Ls (p.items.getD k default)) (rS B Ls p f o k (mS p f))).map Yhf))]))) .q)) .q))))))))) (.o 0 [0, 1] [.s
 (lb (bS B Ls p f o k)), .o (.arr true 12 ((oS B Ls p f o k).map Yhf))])) (.y false (.o 0 [0, 1] [.s (lb (bS B Ls p f o k)), .o (.arr true 12 ((oS B
 Ls p f o k).map Yhf))]))) (by
 intro k h; try dsimp only [Yhj, Yhq, Z1t, Z5u, Z5v] at h ⊢
 rename_i hh
 have gs := @Y1h6 B Ls p f o k
 have g1 := @Y1js B Ls p f o k
 have gr := @Y1jo B Ls p f o k
 have gst := @Y1ie B Ls p f o k p.items.length
 have gat := fun a => @Y1lt B Ls p f o h.2.2 k a
 have gi := @Ypa k p
 have gf := @Ypa (kS B Ls p f o k) f
 have gl := Y1as f
 have gg := @Yoc Ls p hg.1 hg.2 k
 have gn := Y101 (Ls := Ls) (p.items.getD k default)
 have g11 := Y1c4 (nS Ls (p.items.getD k default))
 have g12 := Y1bv (eV Ls (p.items.getD k default))
 have g13 := @Y1ht B Ls p f o k
 have ge := @Y1h2 Ls p k hg.1 hg.2
 have ga := @Y1ir p k
 have gc := Ymj (nS Ls (p.items.getD k default)) (rS B Ls p f o k (mS p f))
 have gz := Yo3 p
 with_reducible repeat' (first | apply And.intro | exact zR | exact ih | (intro) | apply Z78)
 all_goals (try simp only [std, inj, Y12f, Yz0, ne_eq, Decidable.not_not] at *)
 all_goals with_reducible and_intros
 all_goals try first | with_reducible apply ih
 all_goals try first | exact zw | exact (gi (by omega)).2.2.2.2 | (have q := gi (by omega); omega) | (have q := gat (by omega) ‹_›; have q2 := gi (by omega); omega) | (have q := gat (by omega) ‹_›; have q2 := gf (by omega); omega) | grind)
theorem Zau (B : List YB) (Ls : List YS) (p f : YS) (o : List YC) (h : B.length <= 1048577 /\ Yhe wB B <= 1048577 /\ wY p <= 1048576 /\ wY f <= 1000000000 /\
 o.length + Yho p <= 2147483647 /\ Yi6 p <= 40) (hg : good Ls p /\ p.kind = 0) (ih : ∀ z ∈ p.items, ∀ (B : List YB) (Ls : List YS) (f : YS) (o : List YC) (h :
 B.length <= 1048577 /\ Yhe wB B <= 1048577 /\ wY z <= 1048576 /\ wY f <= 1000000000 /\ o.length + Yho z <= 2147483647 /\ Yi6 z <= 40) (hg : good Ls z), Zh B Ls z f o)  : Z8g
 B Ls p f o := Yhv Tryz.call185 Tryz.func185 (.c [.rd] (Zgw p.items) (.z Yhd p.items (.i (0 <= if okS p.items = true then atS p.items else (-1 : Int)) (.z Yhd f.items (.r
 ((↑(p.items.map Yhd).length : Int) - 2) (.r ((↑(f.items.map Yhd).length : Int) - ((↑(p.items.map Yhd).length : Int) - 2)) (.i (f.kind ≠ 0) (.y true (.y
 true (.w (.ghost (.nilreg 10 true 12)) (.w (.ghost (.move 0)) (.f [2] [.dead, .arr true 12 []] (.tup [.one (.ref 1), lb false])))))) (.i ((↑(List.map Yhd
 f.items).length : Int) - ((↑(p.items.map Yhd).length : Int) - 2) < 0) (.y true (.w (.ghost (.nilreg 10 true 12)) (.w (.ghost (.move 0)) (.f [2] [.dead, .arr true 12
 []] (.tup [.one (.ref 1), lb false]))))) (.i ((if okS p.items = true then atS p.items else (-1 : Int)) < 0) (.z Yhd f.items (.i ((↑(f.items.map Yhd).length :
 Int) ≠ (↑(p.items.map Yhd).length : Int)) (.w (.ghost (.nilreg 10 true 12)) (.w (.ghost (.move 0)) (.f [2] [.dead, .arr true 12 []] (.tup [.one (.ref 1), lb
 false])))) (.w (.ghost (.move 0)) (.l (Z1t B Ls p f o) (Z5w B Ls p f o h hg ih) [0, 2, 1] [.s (li 0), .s (li ((↑(f.items.map Yhd).length : Int) -
 ((↑(p.items.map Yhd).length : Int) - 2))), .s (li 0), .s (lb true), .o (.arr true 12 (o.map Yhf))] 0 (.t (.b (!bS B Ls p f o p.items.length) (.w (.ghost
 (.nilreg 10 true 12)) (.f [2] [.dead, .arr true 12 []] (.tup [.one (.ref 1), lb false]))) (.f [1] [.dead, .arr true 12 ((oS B Ls p f o
 p.items.length).map Yhf)] (.tup [.one (.ref 1), lb true]))) .q))))) (.y false (.w (.ghost (.move 0)) (.l (Z1t B Ls p f o) (Z5w B Ls p f o h hg ih) [0, 2, 1] [.s (li
 0), .s (li ((↑(f.items.map Yhd).length : Int) - ((↑(p.items.map Yhd).length : Int) - 2))), .s (li 0), .s (lb true), .o (.arr true 12 (o.map Yhf))] 0
 (.t (.b (!bS B Ls p f o p.items.length) (.w (.ghost (.nilreg 10 true 12)) (.f [2] [.dead, .arr true 12 []] (.tup [.one (.ref 1), lb false]))) (.f [1] [.dead, .arr
 true 12 ((oS B Ls p f o p.items.length).map Yhf)] (.tup [.one (.ref 1), lb true]))) .q)))))))))) (.i (f.kind ≠ 0) (.y true (.y true (.w (.ghost (.nilreg 10 true
 12)) (.w (.ghost (.move 0)) (.f [2] [.dead, .arr true 12 []] (.tup [.one (.ref 1), lb false])))))) (.y false (.i ((if okS p.items = true then atS p.items else (-1 :
 Int)) < 0) (.z Yhd f.items (.i ((↑(f.items.map Yhd).length : Int) ≠ (↑(p.items.map Yhd).length : Int)) (.w (.ghost (.nilreg 10 true 12)) (.w (.ghost (.move
 0)) (.f [2] [.dead, .arr true 12 []] (.tup [.one (.ref 1), lb false])))) (.w (.ghost (.move 0)) (.l (Z1t B Ls p f o) (Z5w B Ls p f o h hg ih) [0, 2, 1] [.s
 (li 0), .s (li 0), .s (li 0), .s (lb true), .o (.arr true 12 (o.map Yhf))] 0 (.t (.b (!bS B Ls p f o p.items.length) (.w (.ghost (.nilreg 10 true 12)) (.f [2]
 [.dead, .arr true 12 []] (.tup [.one (.ref 1), lb false]))) (.f [1] [.dead, .arr true 12 ((oS B Ls p f o p.items.length).map Yhf)] (.tup [.one (.ref
 1), lb true]))) .q))))) (.y false (.w (.ghost (.move 0)) (.l (Z1t B Ls p f o) (Z5w B Ls p f o h hg ih) [0, 2, 1] [.s (li 0), .s (li 0), .s (li 0), .s (lb true), .o
 (.arr true 12 (o.map Yhf))] 0 (.t (.b (!bS B Ls p f o p.items.length) (.w (.ghost (.nilreg 10 true 12)) (.f [2] [.dead, .arr true 12 []] (.tup [.one (.ref
 1), lb false]))) (.f [1] [.dead, .arr true 12 ((oS B Ls p f o p.items.length).map Yhf)] (.tup [.one (.ref 1), lb true]))) .q)))))))))) (by
 dsimp only [Yhj, Z8g, Yhq, Z1t]
 have g1 := @Y1gz B Ls p f o
 have g2 := @Y1km p f
 have g3 := @Y1lb p f
 have g4 := @Y1m1 p f
 have g5 := @Y1mb p f
 have g6 := @Y1l7 B Ls p f o hg.2
 have g7 := @Y1m0 B Ls p f o hg.2
 have g8 := @Y1kv B Ls p f o hg.2
 have g9 := @Y1ko B Ls p f o hg.2
 have g10 := @Y1l4 B Ls p f o hg.2
 have g11 := Yjc f
 with_reducible repeat' (first | apply And.intro | exact zR | (intro))
 all_goals (try simp only [std, inj, Yz0, Decidable.not_not] at *)
 all_goals with_reducible and_intros
 all_goals try first | exact zw | grind)
theorem Zgs (B : List YB) (Ls : List YS) (p f : YS) (o : List YC) (h : B.length <= 1048577 /\ Yhe wB B <= 1048577 /\ wY p <= 1048576 /\ wY f <= 1000000000 /\
 o.length + Yho p <= 2147483647 /\ Yi6 p <= 40) (hg : good Ls p) (ih : ∀ z ∈ p.items, ∀ (B : List YB) (Ls : List YS) (f : YS) (o : List YC) (h : B.length <=
 1048577 /\ Yhe wB B <= 1048577 /\ wY z <= 1048576 /\ wY f <= 1000000000 /\ o.length + Yho z <= 2147483647 /\ Yi6 z <= 40) (hg : good Ls z), Zh B Ls z f o)  : Zh B Ls p f o
 := Yhv Tryz.call106 Tryz.func106 (.i (p.kind = 1) (.i (p.text.data.toList = [(95 : UInt8)]) (.w (.ghost (.move 0)) (.f [3] [.dead, .arr true 12 (o.map Yhf)] (.tup
 [.one (.ref 1), lb true]))) (.c [.rd, .rd] (Z68 Ls p) (.b (Yim Ls p) (.i (f.kind = 1) (.d [.rd, .rd, .rd] (Z8e B p f) (.w (.ghost (.move 0)) (.f [3] [.dead,
 .arr true 12 (o.map Yhf)] (.tup [.one (.ref 1), lb (mng B p f)])))) (.w (.ghost (.move 0)) (.f [3] [.dead, .arr true 12 (o.map Yhf)] (.tup
 [.one (.ref 1), lb false])))) (.w (.draw [(6, [3, 4, 11, 12]), (7, [0, 19])]) (.d [.rd] (Zb p) (.d [.rd] (Zb f) (.p (((o.map Yhf).length + 1) * 192 <=
 140737488355328) (.f [20] [.dead, .arr true 12 (o.map Yhf ++ [[cI p.kind, cI p.number, cS p.text, .list (p.scopes.map Yhh), .list (List.map Yhd
 p.items), cI 0, cI f.kind, cI f.number, cS f.text, .list (f.scopes.map Yhh), .list (f.items.map Yhd), .list []]])] (.tup [.one (.ref 1), lb
 true]))))))))) (.i (p.kind = 0) (.d [.rd, .rd, .rd, .rd, .own true 12] (Z8g B Ls p f o) (.f [4] [.dead, .arr true 12 ((smO p o (gS B Ls p f)).map Yhf)] (.tup
 [.one (.ref 1), lb (gS B Ls p f).isSome]))) (.w (.draw []) (.i (p.kind = f.kind) (.i (p.number = f.number) (.w (.ghost (.move 0)) (.f [3] [.dead, .arr true 12 (List.map
 Yhf o)] (.tup [.one (.ref 1), lb (decide (p.text.data.toList = f.text.data.toList))]))) (.w (.ghost (.move 0)) (.f [3] [.dead, .arr true 12 (o.map Yhf)]
 (.tup [.one (.ref 1), lb false])))) (.y false (.w (.ghost (.move 0)) (.f [3] [.dead, .arr true 12 (o.map Yhf)] (.tup [.one (.ref 1), lb false]))))))))
 (by
 dsimp only [Yhj, Zh]
 have g1 := @Y1br B Ls p f o
 have g2 := @Y1hm B Ls p f o
 have g3 := @Y15h B Ls p f o
 have g4 := @Ytb B Ls p f o
 have g5 := Y11p o p f
 have g6 : Yj1 p = decide (p.text.data.toList = [95]) := rfl
 have g7 : p.kind = 1 -> Yj1 p = true -> (gS B Ls p f).isSome = true := fun a b => by rw [(g2 a b).1]; rfl
 with_reducible repeat' (first | apply And.intro | exact zR | exact ih | (intro) | apply mIc | apply mOc | apply mSc | apply mLc | apply Z68 | apply Zat | apply Z1 | apply Zau)
 all_goals ((try simp only [std, inj] at *); with_reducible and_intros)
 all_goals try first | with_reducible (first | apply Z68 | apply Zat | apply Z1 | apply Zau | apply ih) | (simp only [<- List.map_append]; with_reducible first | apply Z68 | apply Zat | apply Z1 | apply Zau | apply ih)
 all_goals try first | exact zw | exact zM | grind [Yhl, Yhm, Yhi]
 all_goals (first | exact Y1ih ‹_› ‹_› ‹_› ‹_› | exact Y1gn ‹_› ‹_› ‹_› ‹_› | exact Y1io ‹_› ‹_› ‹_› | exact Y1kr ‹_› ‹_› ‹_› ‹_› | exact Y1l9 ‹_› ‹_› ‹_› ‹_› | exact Y1kx ‹_› ‹_› ‹_›))
theorem Za6 (p : YS) : ∀ (B : List YB) (Ls : List YS) (f : YS) (o : List YC) (h : B.length <= 1048577 /\ Yhe wB B <= 1048577 /\ wY p <= 1048576 /\ wY f <= 1000000000 /\ o.length + Yho p <= 2147483647 /\ Yi6 p <= 40) (hg : good Ls p), Zh B Ls p f o := YS.ind (P := fun p => ∀ (B : List YB) (Ls : List YS) (f : YS) (o : List YC) (h : B.length <= 1048577 /\ Yhe wB B <= 1048577 /\ wY p <= 1048576 /\ wY f <= 1000000000 /\ o.length + Yho p <= 2147483647 /\ Yi6 p <= 40) (hg : good Ls p), Zh B Ls p f o) (fun p ih B Ls f o h hg => Zgs B Ls p f o h hg ih) p
set_option maxHeartbeats 4000000
abbrev Z2d (B : List YB) (Ls : List YS) (ps : List YS) (fs : List YS) (o : List YC) : Ct := ⟨194, [.arr true 12 (o.map Yhf)], [.agg [vL (B.map Yhg), vL (Ls.map Yhd)], ll (ps.map Yhd), ll (fs.map Yhd), .one (.ref 0)], [.dead, .arr true 12 ((alO o (alM (gI B Ls) ps fs)).map Yhf)], .tup [.one (.ref 1), lb (alM (gI B Ls) ps fs).isSome]⟩
abbrev Zo (B : List YB) (Ls : List YS) (p : YS) (f : YS) (o : List YC) : Ct := ⟨111, [.arr true 12 (o.map Yhf)], [.agg [vL (B.map Yhg), vL (Ls.map Yhd)], Yhz p, Yhz f, .one (.ref 0)], [.dead, .arr true 12 ((smO p o (gI B Ls p f)).map Yhf)], .tup [.one (.ref 1), lb (gI B Ls p f).isSome]⟩
def Z6u (B : List YB) (Ls : List YS) (ps : List YS) (fs : List YS) (o : List YC) : Lp Nat := .mk 37 1 (fun x => [(1, ll (ps.map Yhd)), (2, ll
 (fs.map Yhd)), (3, .one (.ref 1)), (4, .one (.ptr 2 0)), (14, li (↑(ps.map Yhd).length : Int)), (15, hs x 0)]) (fun x => [.dead, ho x 1, .box [vL
 (B.map Yhg), vL (Ls.map Yhd)]]) (fun k => [.s (li (k : Int)), .o (.arr true 12 ((alO o (alM (gI B Ls) (ps.take k) fs)).map Yhf))]) (fun k => k
 <= ps.length /\ ps.length <= 9223372036854775807 /\ (alM (gI B Ls) (ps.take k) fs).isSome = true) (fun k => ps.length - k) [.mk ((alM (gI B Ls) ps fs).isSome = true) (.exit 0)
 (fun x => [(3, .one (.ref 1))]) (fun x => [.dead, ho x 0]) [.o (.arr true 12 ((alO o (alM (gI B Ls) ps fs)).map Yhf))], .mk ((alM (gI B Ls) ps fs).isSome =
 false) .ret (fun x => [(8, hs x 0), (9, hs x 1)]) (fun x => [.dead]) [.s (.one (.val (.lit (.slice none 0 0)))), .s (lb false)]]
theorem Zg5 (B : List YB) (Ls : List YS) (ps : List YS) (fs : List YS) (o : List YC) (h : B.length <= 1048577 /\ Yhe wB B <= 1048577 /\ Yhe wY ps <=
 1048576 /\ Yhe wY fs <= 1000000000 /\ o.length + Yhe Yho ps <= 2147483647 /\ ps.length <= fs.length /\ ps.length <= 1048576) (hd : ∀ (z : YS), z ∈ ps -> good Ls z /\ Yi6 z <= 40)
 (hl : Ls.all Yke = true) (ih : ∀ (z : YS), z ∈ ps -> ∀ (B : List YB) (Ls : List YS) (f : YS) (o : List YC), B.length <= 1048577 /\ Yhe wB B <= 1048577 /\ wY z
 <= 1048576 /\ wY f <= 1000000000 /\ o.length + Yho z <= 2147483647 /\ Yi6 z <= 40 -> Ls.all Yke = true -> good Ls z -> OK (Zo B Ls z f o)) : Lp.Sem Tryz.prog (Yht Tryz.f194 0)
 (Z6u B Ls ps fs o) := Yi3 (fun k => .i ((k : Int) < (↑(ps.map Yhd).length : Int)) (.w (.draw [(10, [1])]) (.x (k : Int) (ps.map Yhd) (Yhk (ps.getD k
 default)) (.x (k : Int) (fs.map Yhd) (Yhk (fs.getD k default)) (.d [.rd, .rd, .rd, .own true 12] (Zo B Ls (ps.getD k default) (fs.getD k default) (alO o (alM
 (gI B Ls) (ps.take k) fs))) (.b (!(gI B Ls (ps.getD k default) (fs.getD k default)).isSome) (.o 1 [0] [.s (.one (.val (.lit (.slice none 0 0)))), .s (lb false)])
 (.r ((k : Int) + 1) (.g [0, 4, 2] (k + 1) [.s (li ((k : Int) + 1)), .o (.arr true 12 ((smO (ps.getD k default) (alO o (alM (gI B Ls) (ps.take k) fs))
 (gI B Ls (ps.getD k default) (fs.getD k default))).map Yhf))]))))))) (.o 0 [0, 1] [.o (.arr true 12 ((alO o (alM (gI B Ls) (ps.take k) fs)).map Yhf))])) (by
 intro k h; try dsimp only [Yhj, Yhq, Z6u] at h ⊢
 have g1 := @Y1ky (gI B Ls) ps fs o k
 have g2 := @Y1hx (gI B Ls) ps fs (k + 1)
 have g3 := @Y1im (gI B Ls) ps fs k
 have g4 := @Y16w B Ls o (ps.take k) fs
 have g5 := hd (ps.getD k default)
 have g6 := @Yi9 _ wY ps (ps.getD k default)
 have g7 := @Yi9 _ wY fs (fs.getD k default)
 have g8 := @Yj3 _ _ Yho ps k
 have g9 := Yiw Yho ps (k + 1)
 with_reducible repeat' (first | apply And.intro | exact zR | exact ih | (intro) | apply ih)
 all_goals ((try simp only [std, inj] at *); with_reducible and_intros)
 all_goals try with_reducible first | apply ih
 all_goals try first | exact z | grind [Yhn, Yhl, Yhm, Yhi])
theorem Zd6 (B : List YB) (Ls : List YS) (ps fs : List YS) (o : List YC) (h : B.length <= 1048577 /\ Yhe wB B <= 1048577 /\ Yhe wY ps <= 1048576 /\ Yhe wY fs <=
 1000000000 /\ o.length + Yhe Yho ps <= 2147483647 /\ ps.length <= fs.length /\ ps.length <= 1048576) (hd : ∀ z ∈ ps, good Ls z /\ Yi6 z <= 40) (hl : Ls.all Yke = true) (ih : ∀ z ∈
 ps, ∀ (B : List YB) (Ls : List YS) (f : YS) (o : List YC) (h : B.length <= 1048577 /\ Yhe wB B <= 1048577 /\ wY z <= 1048576 /\ wY f <= 1000000000 /\ o.length + Yho
 z <= 2147483647 /\ Yi6 z <= 40) (hl : Ls.all Yke = true) (hg : good Ls z), Zo B Ls z f o)  : Z2d B Ls ps fs o := Yhv Tryz.call194 Tryz.func194 (.z Yhd ps (.w (.ghost
 (.move 0)) (.l (Z6u B Ls ps fs o) (Zg5 B Ls ps fs o h hd hl ih) [0, 2, 1] [.s (li 0), .o (.arr true 12 (o.map Yhf))] 0 (.t (.f [1] [.dead, .arr true 12
 ((alO o (alM (gI B Ls) ps fs)).map Yhf)] (.tup [.one (.ref 1), lb true])) (.t (.w (.ghost (.nilreg 8 true 12)) (.f [1] [.dead, .arr true 12 []] (.tup [.one
 (.ref 1), lb false]))) .q))))) (by
 dsimp only [Yhj, Z2d, Yhq, Z6u]
 have g1 := @Y1hh (gI B Ls) ps fs o
 have g2 : (alM (gI B Ls) ps fs).isSome = false -> alO o (alM (gI B Ls) ps fs) = [] := fun h => by cases e : alM (gI B Ls) ps fs <;> simp_all [alO]
 with_reducible repeat' (first | apply And.intro | exact zR | exact ih | (intro))
 all_goals ((try simp only [std, inj] at *); with_reducible and_intros)
 all_goals try with_reducible first | apply ih
 all_goals (try exact zG))
def Z50 (B : List YB) (Ls : List YS) (p : YS) (f : YS) (o : List YC) (k : Nat) : Lp Nat := .mk 217 1 (fun x => [(3, .one (.ref 1)), (4, .one
 (.ptr 2 0)), (5, .one (.ptr 3 0)), (6, .one (.ptr 4 0)), (10, li (atI p.items)), (11, ll (List.take ((atI p.items - 1).toNat - 0) (List.drop 0 (List.map Yhd
 p.items)))), (12, ll (List.take ((p.items.map Yhd).length - (atI p.items + 1).toNat) (List.drop (atI p.items + 1).toNat (p.items.map Yhd)))), (13, li
 ((↑(f.items.map Yhd).length : Int) - (↑(List.take ((atI p.items - 1).toNat - 0) (List.drop 0 (p.items.map Yhd))).length : Int) - (↑(List.take ((List.map Yhd
 p.items).length - (atI p.items + 1).toNat) (List.drop (atI p.items + 1).toNat (p.items.map Yhd))).length : Int))), (15, .one (.ref 5)), (17, li (k : Int)), (18,
 .one (.ref 6)), (181, li (↑((rp (nI Ls (xI p)) (rI B Ls p f k)).map Yhf).length : Int)), (182, hs x 0)]) (fun x => [.dead, .arr true 12 ((alO o
 (alM (gI B Ls) (List.take ((atI p.items - 1).toNat - 0) (p.items.drop 0)) (List.take ((↑(List.take ((atI p.items - 1).toNat - 0) (List.drop 0 (List.map Yhd
 p.items))).length : Int).toNat - 0) (f.items.drop 0)))).map Yhf), .box [vL (B.map Yhg), vL (Ls.map Yhd)], .box (vals (Yhk p)), .box (vals (Yhk f)),
 ho x 1, ho x 2]) (fun k1 => [.s (li (k1 : Int)), .o (.arr true 12 ((Yjk (nI Ls (xI p)) (rI B Ls p f k) (Ymb B Ls p f k) k1).map Yhf)), .o (.arr true 12 (List.map
 Ypv (List.take k1 (Ymb B Ls p f k)) ++ (List.drop k1 (Ymb B Ls p f k)).map Yhf))]) (fun k1 => k1 <= (nI Ls (xI p)).length /\ (nI Ls (xI p)).length <= 9223372036854775807
 /\ k < mI2 p f /\ fI p f = true /\ qI B Ls p f k = true /\ (gI B Ls (xI p) (f.items.getD (aT p + k) default)).isSome = true /\ (rI B Ls p f k).length <= 1000000000) (fun k1 => (nI Ls
 (xI p)).length - k1) [.mk True (.exit 3) (fun x => [(3, .one (.ref 1)), (4, .one (.ptr 2 0)), (5, .one (.ptr 3 0)), (6, .one (.ptr 4 0)), (10, li (atI p.items)),
 (11, ll (List.take ((atI p.items - 1).toNat - 0) (List.drop 0 (p.items.map Yhd)))), (12, ll (List.take ((p.items.map Yhd).length - (atI p.items + 1).toNat)
 (List.drop (atI p.items + 1).toNat (p.items.map Yhd)))), (13, li ((↑(f.items.map Yhd).length : Int) - (↑(List.take ((atI p.items - 1).toNat - 0) (List.drop 0
 (p.items.map Yhd))).length : Int) - (↑(List.take ((p.items.map Yhd).length - (atI p.items + 1).toNat) (List.drop (atI p.items + 1).toNat (List.map Yhd
 p.items))).length : Int))), (15, .one (.ref 5)), (17, li (k : Int))]) (fun x => [.dead, .arr true 12 ((alO o (alM (gI B Ls) (List.take ((atI p.items -
 1).toNat - 0) (p.items.drop 0)) (List.take ((↑(List.take ((atI p.items - 1).toNat - 0) (List.drop 0 (p.items.map Yhd))).length : Int).toNat - 0) (List.drop 0
 f.items)))).map Yhf), .box [vL (B.map Yhg), vL (Ls.map Yhd)], .box (vals (Yhk p)), .box (vals (Yhk f)), ho x 0]) [.o (.arr true 12 (List.map Yhf
 (rp (nI Ls (xI p)) (rI B Ls p f (k + 1)))))]]
def Z2y (B : List YB) (Ls : List YS) (p : YS) (f : YS) (o : List YC) : Lp Nat := .mk 217 1 (fun x => [(3, .one (.ref 1)), (4, .one (.ptr 2
 0)), (5, .one (.ptr 3 0)), (6, .one (.ptr 4 0)), (10, li (atI p.items)), (11, ll (List.take ((atI p.items - 1).toNat - 0) (List.drop 0 (p.items.map Yhd)))), (12,
 ll (List.take ((p.items.map Yhd).length - (atI p.items + 1).toNat) (List.drop (atI p.items + 1).toNat (p.items.map Yhd)))), (13, li ((↑(List.map Yhd
 f.items).length : Int) - (↑(List.take ((atI p.items - 1).toNat - 0) (List.drop 0 (p.items.map Yhd))).length : Int) - (↑(List.take ((p.items.map Yhd).length -
 (atI p.items + 1).toNat) (List.drop (atI p.items + 1).toNat (p.items.map Yhd))).length : Int))), (15, .one (.ref 5)), (17, hs x 0)]) (fun x => [.dead, .arr true
 12 ((alO o (alM (gI B Ls) (List.take ((atI p.items - 1).toNat - 0) (p.items.drop 0)) (List.take ((↑(List.take ((atI p.items - 1).toNat - 0) (List.drop 0
 (p.items.map Yhd))).length : Int).toNat - 0) (f.items.drop 0)))).map Yhf), .box [vL (B.map Yhg), vL (Ls.map Yhd)], .box (vals (Yhk p)), .box
 (vals (Yhk f)), ho x 1]) (fun k => [.s (li (k : Int)), .o (.arr true 12 ((rp (nI Ls (xI p)) (rI B Ls p f k)).map Yhf))]) (fun k => k <= mI2 p f /\ fI p f = true /\
 qI B Ls p f k = true) (fun k => mI2 p f - k) [.mk (qI B Ls p f (mI2 p f) = true) (.exit 1) (fun x => [(3, .one (.ref 1)), (4, .one (.ptr 2 0)), (6, .one (.ptr 3 0)),
 (11, ll (List.take ((atI p.items - 1).toNat - 0) (List.drop 0 (p.items.map Yhd)))), (12, ll (List.take ((p.items.map Yhd).length - (atI p.items + 1).toNat)
 (List.drop (atI p.items + 1).toNat (p.items.map Yhd)))), (13, li ((↑(f.items.map Yhd).length : Int) - (↑(List.take ((atI p.items - 1).toNat - 0) (List.drop 0
 (p.items.map Yhd))).length : Int) - (↑(List.take ((p.items.map Yhd).length - (atI p.items + 1).toNat) (List.drop (atI p.items + 1).toNat (List.map Yhd
 p.items))).length : Int))), (15, .one (.ref 4))]) (fun x => [.dead, .arr true 12 ((alO o (alM (gI B Ls) (List.take ((atI p.items - 1).toNat - 0)
 (p.items.drop 0)) (List.take ((↑(List.take ((atI p.items - 1).toNat - 0) (List.drop 0 (p.items.map Yhd))).length : Int).toNat - 0) (f.items.drop 0)))).map Yhf), .box
 [vL (B.map Yhg), vL (Ls.map Yhd)], .box (vals (Yhk f)), ho x 0]) [.o (.arr true 12 ((rp (nI Ls (xI p)) (rI B Ls p f (mI2 p f))).map Yhf))],
 .mk ((gI B Ls p f).isSome = false) .ret (fun x => [(8, hs x 0), (9, hs x 1)]) (fun x => [.dead]) [.s (.one (.val (.lit (.slice none 0 0)))), .s (lb false)]]
theorem Zdz (B : List YB) (Ls : List YS) (p : YS) (f : YS) (o : List YC) (h : B.length <= 1048577 /\ Yhe wB B <= 1048577 /\ wY p <= 1048576 /\ wY f <=
 1000000000 /\ o.length + Yho p <= 2147483647 /\ Yi6 p <= 40) (hl : Ls.all Yke = true) (hg : good Ls p) (ih : ∀ (z : YS), z ∈ p.items -> ∀ (B : List YB) (Ls : List YS)
 (f : YS) (o : List YC), B.length <= 1048577 /\ Yhe wB B <= 1048577 /\ wY z <= 1048576 /\ wY f <= 1000000000 /\ o.length + Yho z <= 2147483647 /\ Yi6 z <= 40 -> Ls.all Yke =
 true -> good Ls z -> OK (Zo B Ls z f o)) (k : Nat) : Lp.Sem Tryz.prog (Yht Tryz.f111 1) (Z50 B Ls p f o k) := Yi3 (fun k1 => let v1 := ((Yjk (nI Ls (xI p)) (rI B
 Ls p f k) (Ymb B Ls p f k) k1).getD (k1 : Int).toNat default); let v2 := [cI 0, cI 0, cS (ByteArray.mk #[]), .list [], .list [], cI 0, cI 0, cI 0, cS (ByteArray.mk #[]),
 .list [], .list [], .list []]; let v3 := ((Yjk (nI Ls (xI p)) (rI B Ls p f k) (Ymb B Ls p f k) k1).map Yhf); let v4 := ((Ymb B Ls p f k).getD k1 default);
 let v5 := ((List.take k1 (Ymb B Ls p f k)).map Ypv ++ (List.drop k1 (Ymb B Ls p f k)).map Yhf); let v6 := [(k1 : Int).toNat, (k1 : Int).toNat, (↑k1 :
 Int).toNat, (k1 : Int).toNat, (k1 : Int).toNat]; let v7 := [cI v1.name.kind, cI v1.name.number, cS v1.name.text, .list (v1.name.scopes.map Yhh), .list (List.map
 Yhd v1.name.items), cI v1.depth, cI v1.form.kind, cI v1.form.number, cS v1.form.text, .list (v1.form.scopes.map Yhh), .list (v1.form.items.map Yhd),
 .any]; let v10 := (v1.each.map Yhf ++ [v2]); let v9 := (↑(v1.each.map Yhf).length : Int); let v8 := [cI v1.name.kind, cI v1.name.number, cS v1.name.text,
 .list (v1.name.scopes.map Yhh), .list (v1.name.items.map Yhd), cI v1.depth, cI v1.form.kind, cI v1.form.number, cS v1.form.text, .list (List.map Yhh
 v1.form.scopes), .list (v1.form.items.map Yhd), .list (v10.set v9.toNat (Yi1 v4))]; .i ((k1 : Int) < (↑((rp (nI Ls (xI p)) (rI B Ls p f
 k)).map Yhf).length : Int)) (.w (.drawT 13 16 12 [(11, [5, 7]), (13, [6, 9]), (16, [9, 5])]) (.p (0 <= (k1 : Int) /\ (k1 : Int).toNat < v3.length) (.w .sub (.p ((k1 : Int).toNat <
 v3.length) (.p (0 <= (k1 : Int) /\ (k1 : Int).toNat < v5.length) (.w (.subs (Yi1 v4)) (.p (v5[(k1 : Int).toNat]? = some (Yi1 v4)) (.w (.cells (Yi1 v1)) (.p
 (v3[(k1 : Int).toNat]? = some (Yi1 v1)) (.w (.subcall (Yi1 v1) (v1.each.map Yhf) 12) (.p (v3[(k1 : Int).toNat]? = some (Yi1 v1)) (.p (some (Cell.list
 (v1.each.map Yhf)) = some (Cell.list (v1.each.map Yhf))) (.p (∀ (x : List Cell), x ∈ v1.each.map Yhf -> x.length = 12) (.p (((List.map Yhf
 v1.each).length + 1) * 192 <= 140737488355328) (.p (0 <= v9 /\ v9.toNat < v10.length) (.w (.subs (Yi1 v4)) (.w (.cells v2) (.p (v6 = v6) (.p (v5[(k1 : Int).toNat]? = some
 (Yi1 v4)) (.p (v10[v9.toNat]? = some v2) (.p (0 <= (k1 : Int) /\ (k1 : Int).toNat < (v3.set (k1 : Int).toNat v7).length) (.w (.take v7 (v3.set (k1 : Int).toNat v8) 0) (.p
 ((v3.set (k1 : Int).toNat v7)[(k1 : Int).toNat]? = some v7) (.p ((v3.set (k1 : Int).toNat v7).set (k1 : Int).toNat v8 = v3.set (k1 : Int).toNat v8) (.p (v9.toNat <
 v10.length) (.p ((k1 : Int).toNat < (v3.set (k1 : Int).toNat v7).length) (.z Yhf v1.each (.r ((k1 : Int) + 1) (.g [0, 1, 2, 3, 4, 5, 6] (k1 + 1) [.s (li ((k1 : Int) +
 1)), .o (.arr true 12 (v3.set (k1 : Int).toNat v8)), .o (.arr true 12 (v5.set (k1 : Int).toNat [cI v4.name.kind, cI v4.name.number, cS v4.name.text, .any, .any, cI
 v4.depth, cI v4.form.kind, cI v4.form.number, cS v4.form.text, .any, .any, .any]))]))))))))))))))))))))))))))))) (.o 0 [0, 1, 2, 3, 4, 5] [.o (.arr true 12 v3)]))
 (by
 intro k1 h; try dsimp only [Yhj, Yhq, Z50] at h ⊢
 have gl := Ymj (nI Ls (xI p)) (rI B Ls p f k)
 have g3 := Y144 (nI Ls (xI p)) (rI B Ls p f k) (Ymb B Ls p f k) k1
 have gc := @Y1en B Ls p f k
 have ge := @Y1b6 B Ls p f k k1
 have gz := @Y1c7 B Ls p f k k1
 with_reducible repeat' (first | apply And.intro | exact zR | (intro))
 all_goals ((try simp only [std, inj] at *); with_reducible and_intros)
 all_goals try first | exact zw | exact List.set_set .. | exact Y12n (by grind) | exact Y14j (by grind) | exact Y17y (by grind) | exact Y11w _ (by omega) | exact gz h.2.2.2.2.1 h.2.2.2.2.2.1 (by omega) | grind)
theorem Z9l (B : List YB) (Ls : List YS) (p : YS) (f : YS) (o : List YC) (h : B.length <= 1048577 /\ Yhe wB B <= 1048577 /\ wY p <= 1048576 /\ wY f <=
 1000000000 /\ o.length + Yho p <= 2147483647 /\ Yi6 p <= 40) (hl : Ls.all Yke = true) (hg : good Ls p) (ih : ∀ (z : YS), z ∈ p.items -> ∀ (B : List YB) (Ls : List YS)
 (f : YS) (o : List YC), B.length <= 1048577 /\ Yhe wB B <= 1048577 /\ wY z <= 1048576 /\ wY f <= 1000000000 /\ o.length + Yho z <= 2147483647 /\ Yi6 z <= 40 -> Ls.all Yke =
 true -> good Ls z -> OK (Zo B Ls z f o)) : Lp.Sem Tryz.prog (Yht Tryz.f111 0) (Z2y B Ls p f o) := Yi3 (fun k => .i ((k : Int) < (↑(List.map Yhd
 f.items).length : Int) - (↑(List.take ((atI p.items - 1).toNat - 0) (List.drop 0 (p.items.map Yhd))).length : Int) - (↑(List.take ((p.items.map Yhd).length -
 (atI p.items + 1).toNat) (List.drop (atI p.items + 1).toNat (p.items.map Yhd))).length : Int)) (.w (.draw []) (.r (atI p.items - 1) (.x (atI p.items - 1) (List.map
 Yhd p.items) (Yhk (p.items.getD (atI p.items - 1).toNat default)) (.r ((↑(List.take ((atI p.items - 1).toNat - 0) (List.drop 0 (p.items.map Yhd))).length : Int) +
 (k : Int)) (.x ((↑(List.take ((atI p.items - 1).toNat - 0) (List.drop 0 (p.items.map Yhd))).length : Int) + (k : Int)) (f.items.map Yhd) (Yhk (f.items.getD
 ((List.take ((atI p.items - 1).toNat - 0) (List.drop 0 (p.items.map Yhd))).length + k) default)) (.d [.rd, .rd, .rd, .own true 12] (Zo B Ls (p.items.getD (atI
 p.items - 1).toNat default) (f.items.getD ((List.take ((atI p.items - 1).toNat - 0) (List.drop 0 (p.items.map Yhd))).length + k) default) []) (.h ((List.take ((atI
 p.items - 1).toNat - 0) (List.drop 0 (p.items.map Yhd))).length <= 9223372036854775807) (.b (!(gI B Ls (p.items.getD (atI p.items - 1).toNat default) (f.items.getD
 ((List.take ((atI p.items - 1).toNat - 0) (List.drop 0 (p.items.map Yhd))).length + k) default)).isSome) (.o 1 [0] [.s (.one (.val (.lit (.slice none 0
 0)))), .s (lb false)]) (.z Yhf (rp (nI Ls (xI p)) (rI B Ls p f k)) (.l (Z50 B Ls p f o k) (Zdz B Ls p f o h hl hg ih k) [0, 1, 2, 3, 4, 5, 7] [.s (li 0), .o
 (.arr true 12 ((rp (nI Ls (xI p)) (rI B Ls p f k)).map Yhf)), .o (.arr true 12 ((smO (p.items.getD (atI p.items - 1).toNat default) [] (gI B Ls
 (p.items.getD (atI p.items - 1).toNat default) (f.items.getD ((List.take ((atI p.items - 1).toNat - 0) (List.drop 0 (p.items.map Yhd))).length + k) default))).map Yhf))] 0 (.t
 (.r ((k : Int) + 1) (.g [0, 1, 2, 3, 4, 5] (k + 1) [.s (li ((k : Int) + 1)), .o (.arr true 12 ((rp (nI Ls (xI p)) (rI B Ls p f (k + 1))).map Yhf))])) .q)))))))))))
 (.o 0 [0, 1, 2, 4, 5] [.o (.arr true 12 ((rp (nI Ls (xI p)) (rI B Ls p f k)).map Yhf))])) (by
 intro k h; try dsimp only [Yhj, Yhq, Z2y, Z50] at h ⊢
 rename_i hh
 have gn := Yqg h.2.1
 have gx := Y1ka h.2.1 hg
 have e1 := Y17l h.2.1
 have e2 := Y1fp h.2.1
 have e3 := Y1jn h.2.2
 have gl := Y1as f
 have gs := Yzh (Ls := Ls) (xI p)
 have gt := Yo3 (xI p)
 have g10 := Yv4 (nI Ls (xI p)) (rI B Ls p f k) (Ymb B Ls p f k)
 have g12 := Ymj (nI Ls (xI p)) (rI B Ls p f k)
 have gw := @Ypa (aT p + k) f
 with_reducible repeat' (first | apply And.intro | exact zR | exact ih | (intro))
 all_goals (try simp only [std, inj, e1, Y1c9] at *)
 all_goals with_reducible and_intros
 all_goals try first | with_reducible apply ih
 all_goals try first | exact zw | (have q := gw (by omega); omega) | exact Y191 h.2.1 (by omega) h.2.2 (Y1g3 ‹_›) | exact Y1ce | exact Y19j ‹_› | exact (Y18s h.2.2 (Y19j ‹_›)).2 | exact Y1jp (by omega) h.2.2 | exact Y1it (by omega) | grind)
theorem Zgt (B : List YB) (Ls : List YS) (p f : YS) (o : List YC) (h : B.length <= 1048577 /\ Yhe wB B <= 1048577 /\ wY p <= 1048576 /\ wY f <= 1000000000 /\
 o.length + Yho p <= 2147483647 /\ Yi6 p <= 40) (hl : Ls.all Yke = true) (hg : good Ls p) (ih : ∀ z ∈ p.items, ∀ (B : List YB) (Ls : List YS) (f : YS) (o : List
 YC) (h : B.length <= 1048577 /\ Yhe wB B <= 1048577 /\ wY z <= 1048576 /\ wY f <= 1000000000 /\ o.length + Yho z <= 2147483647 /\ Yi6 z <= 40) (hl : Ls.all Yke = true) (hg : good
 Ls z), Zo B Ls z f o)  : Zo B Ls p f o := Yhv Tryz.call111 Tryz.func111 (let v15 := (atI p.items - 1); let v14 := (p.items.map Yhd); let v7 := (↑(List.take
 (v15.toNat - 0) (v14.drop 0)).length : Int); let v11 := (↑(f.items.map Yhd).length : Int); let v17 := (atI p.items + 1); let v9 := (↑(List.take (v14.length -
 v17.toNat) (List.drop v17.toNat v14)).length : Int); let v1 := (v7 + (v11 - v7 - v9)); let v12 := (List.take (v15.toNat - 0) (p.items.drop 0)); let v18 := (List.take
 (v7.toNat - 0) (f.items.drop 0)); let v2 := (alM (gI B Ls) v12 v18); let v3 := (List.take (v14.length - v17.toNat) (List.drop v17.toNat p.items)); let v4 := ((List.take
 (v15.toNat - 0) (v14.drop 0)).length <= 9223372036854775807); let v26 := (.ref 1); let v5 := (.tup [.one v26, lb false]); let v6 := (0 <= v7 + (v11 - v7 - v9)); let v27
 := (List.take (v14.length - v17.toNat) (List.drop v17.toNat v14)); let v25 := (f.items.map Yhd); let v28 := (alO o v2 ++ rp (nI Ls (xI p)) (rI B Ls p f (mI2 p f))); let
 v13 := (List.take (v25.length - v1.toNat) (List.drop v1.toNat f.items)); let v21 := [.dead, .arr true 12 ((alO v28 (alM (gI B Ls) v3 v13)).map Yhf)]; let v24 :=
 (.tup [.one v26, lb (alM (gI B Ls) v3 v13).isSome]); let v8 := (Yl3 Tryz.prog 194 [.arr true 12 ((alO o v2).map Yhf ++ (rp (nI Ls (xI p)) (rI
 B Ls p f (mI2 p f))).map Yhf)] [.agg [vL (B.map Yhg), vL (Ls.map Yhd)], ll v27, ll (List.take (v25.length - v1.toNat) (List.drop v1.toNat v25)), .one (.ref 0)]
 v21 v24); let v10 := [.dead, .arr true 12 (o.map Yhf)]; let v16 := [.dead, .arr true 12 []]; let v19 := (Yl3 Tryz.prog 194 [.arr true 12 (List.map Yhf
 o)] [.agg [vL (B.map Yhg), vL (Ls.map Yhd)], ll (List.take (v15.toNat - 0) (v14.drop 0)), ll (List.take (v7.toNat - 0) (v25.drop 0)), .one (.ref
 0)] [.dead, .arr true 12 ((alO o v2).map Yhf)] (.tup [.one v26, lb v2.isSome])); let v20 := [.dead, .arr true 12 (o.map Yhf ++ [[cI p.kind, cI
 p.number, cS p.text, .list (p.scopes.map Yhh), .list v14, cI 0, cI f.kind, cI f.number, cS f.text, .list (f.scopes.map Yhh), .list v25, .list
 []]])]; let v22 := ((((alO o v2).map Yhf).length + ((rp (nI Ls (xI p)) (rI B Ls p f (mI2 p f))).map Yhf).length) * 192 <= 140737488355328); let v23 :=
 (p.items.getD v15.toNat default); let v29 := [(6, [4, 5, 12, 13]), (7, [0, 20])]; let v30 := [.dead, .arr true 12 ((alO o (alM (gI B Ls) p.items f.items)).map Yhf)];
 let v31 := (((o.map Yhf).length + 1) * 192 <= 140737488355328); let v32 := (.arr true 12 (((vrI Ls v23 1 []).getD []).map Yhf)); .c [.rd] (Z97 p) (.b
 (decide (p.kind = 1) && Yj1 p) (.w (.ghost (.move 0)) (.f [4] v10 (.tup [.one v26, lb true]))) (.i (p.kind = 1) (.c [.rd, .rd] (Zaq Ls p) (.b (Yki Ls p) (.i (f.kind =
 1) (.d [.rd, .rd, .rd] (Z8f B p f) (.w (.ghost (.move 0)) (.f [4] v10 (.tup [.one v26, lb (mng B p f)])))) (.w (.ghost (.move 0)) (.f [4] v10 v5))) (.i (p.kind = 1) (.w
 (.draw v29) (.d [.rd] (Zr p) (.d [.rd] (Zr f) (.p v31 (.f [21] v20 (.tup [.one v26, lb true])))))) (.i (p.kind ≠ 0) (.w (.draw []) (.i (f.kind = p.kind) (.i
 (f.number = p.number) (.w (.ghost (.move 0)) (.f [4] v10 (.tup [.one v26, lb (decide (f.text.data.toList = p.text.data.toList))]))) (.w (.ghost (.move 0)) (.f [4] v10 v5)))
 (.y false (.w (.ghost (.move 0)) (.f [4] v10 v5))))) (.i (f.kind ≠ 0) (.w (.ghost (.nilreg 8 true 12)) (.w (.ghost (.move 0)) (.f [4] v16 v5))) (.c [.rd] (Zca p.items) (.i (atI
 p.items < 0) (.z Yhd p.items (.z Yhd f.items (.i ((↑(p.items.map Yhd).length : Int) ≠ v11) (.w (.ghost (.nilreg 8 true 12)) (.w (.ghost (.move 0)) (.f [4] v16
 v5))) (.d [.rd, .rd, .rd, .own true 12] (Z2d B Ls p.items f.items o) (.f [5] v30 (.tup [.one v26, lb (alM (gI B Ls) p.items f.items).isSome])))))) (.r v15 (.p (0 <= atI
 p.items - 1) (.p (0 <= v15.toNat /\ v15.toNat <= v14.length /\ ∀ (e : List Cell), e ∈ p.items.map Yhd -> e.length = 5) (.r v17 (.p (0 <= atI p.items + 1) (.p (v17.toNat <=
 v14.length /\ v14.length <= v14.length /\ ∀ (e : List Cell), e ∈ p.items.map Yhd -> e.length = 5) (.z Yhd f.items (.h v4 (.r (v11 - v7) (.h (v27.length <=
 9223372036854775807) (.r (v11 - v7 - v9) (.i (v11 - v7 - v9 < 0) (.w (.ghost (.nilreg 8 true 12)) (.w (.ghost (.move 0)) (.f [4] v16 v5))) (.w (.draw [(8, [0])]) (.p (0 <= v7) (.p
 (0 <= v7.toNat /\ v7.toNat <= v25.length /\ ∀ (e : List Cell), e ∈ f.items.map Yhd -> e.length = 5) (.u [.rd, .rd, .rd, .own true 12] (Z2d B Ls v12 v18 o) (.p v19 (.h v4
 (.b (!(alM (gI B Ls) v12 v18).isSome) (.w (.ghost (.nilreg 8 true 12)) (.f [6] v16 v5)) (.w (.draw []) (.r v15 (.x v15 v14 (Yhk v23) (.d [.rd, .rd, .rd, .own true 12]
 (Zf Ls v23 1 []) (.l (Z2y B Ls p f o) (Z9l B Ls p f o h hl hg ih) [0, 5, 1, 2, 3, 7] [.s (li 0), .o v32] 0 (.t (.p v22 (.w (.draw [(10, [5])]) (.r v1 (.p v6
 (.p (v1.toNat <= v25.length /\ v25.length <= v25.length /\ ∀ (e : List Cell), e ∈ f.items.map Yhd -> e.length = 5) (.u [.rd, .rd, .rd, .own true 12] (Z2d B Ls v3 v13 v28)
 (.p v8 (.h v4 (.f [7] v21 v24))))))))) (.t (.w (.ghost (.nilreg 8 true 12)) (.f [1] v16 v5)) .q))))))))))))))))))))))))))))))))) (.y false (.i (p.kind = 1) (.w (.draw v29) (.d
 [.rd] (Zr p) (.d [.rd] (Zr f) (.p v31 (.f [21] v20 (.tup [.one v26, lb true])))))) (.i (p.kind ≠ 0) (.w (.draw []) (.i (f.kind = p.kind) (.i (f.number =
 p.number) (.w (.ghost (.move 0)) (.f [4] v10 (.tup [.one v26, lb (decide (f.text.data.toList = p.text.data.toList))]))) (.w (.ghost (.move 0)) (.f [4] v10 v5))) (.y false (.w
 (.ghost (.move 0)) (.f [4] v10 v5))))) (.i (f.kind ≠ 0) (.w (.ghost (.nilreg 8 true 12)) (.w (.ghost (.move 0)) (.f [4] v16 v5))) (.c [.rd] (Zca p.items) (.i (atI p.items < 0)
 (.z Yhd p.items (.z Yhd f.items (.i ((↑(p.items.map Yhd).length : Int) ≠ v11) (.w (.ghost (.nilreg 8 true 12)) (.w (.ghost (.move 0)) (.f [4] v16 v5))) (.d [.rd,
 .rd, .rd, .own true 12] (Z2d B Ls p.items f.items o) (.f [5] v30 (.tup [.one v26, lb (alM (gI B Ls) p.items f.items).isSome])))))) (.r v15 (.p (0 <= atI p.items - 1) (.p
 (0 <= v15.toNat /\ v15.toNat <= v14.length /\ ∀ (e : List Cell), e ∈ p.items.map Yhd -> e.length = 5) (.r v17 (.p (0 <= atI p.items + 1) (.p (v17.toNat <= v14.length /\
 v14.length <= v14.length /\ ∀ (e : List Cell), e ∈ p.items.map Yhd -> e.length = 5) (.z Yhd f.items (.h v4 (.r (v11 - v7) (.h (v27.length <= 9223372036854775807) (.r (v11
 - v7 - v9) (.i (v11 - v7 - v9 < 0) (.w (.ghost (.nilreg 8 true 12)) (.w (.ghost (.move 0)) (.f [4] v16 v5))) (.w (.draw [(8, [0])]) (.p (0 <= v7) (.p (0 <= v7.toNat /\ v7.toNat <=
 v25.length /\ ∀ (e : List Cell), e ∈ f.items.map Yhd -> e.length = 5) (.u [.rd, .rd, .rd, .own true 12] (Z2d B Ls v12 v18 o) (.p v19 (.h v4 (.b (!(alM (gI B Ls) v12
 v18).isSome) (.w (.ghost (.nilreg 8 true 12)) (.f [6] v16 v5)) (.w (.draw []) (.r v15 (.x v15 v14 (Yhk v23) (.d [.rd, .rd, .rd, .own true 12] (Zf Ls v23 1 []) (.l
 (Z2y B Ls p f o) (Z9l B Ls p f o h hl hg ih) [0, 5, 1, 2, 3, 7] [.s (li 0), .o v32] 0 (.t (.p v22 (.w (.draw [(10, [5])]) (.r v1 (.p v6 (.p (v1.toNat <= v25.length
 /\ v25.length <= v25.length /\ ∀ (e : List Cell), e ∈ f.items.map Yhd -> e.length = 5) (.u [.rd, .rd, .rd, .own true 12] (Z2d B Ls v3 v13 v28) (.p v8 (.h v4 (.f [7] v21
 v24))))))))) (.t (.w (.ghost (.nilreg 8 true 12)) (.f [1] v16 v5)) .q))))))))))))))))))))))))))))))))))) (by
 dsimp only [Yhj, Zo, Yhq, Z2y]
 have g1 := @Y1hg B Ls p f o
 have g2 := @Y1j3 B Ls p f o
 have g3 := @Y1il B Ls p f o
 have g4 := @Y13f B Ls p f o
 have g6 := @Y1e4 B Ls p f o
 have g14 := @Y1dl Ls p hg
 have g19 := Yjc f
 have g20 := Yjc p
 have g21 := Yid p
 have g22 := Y11p o p f
 with_reducible repeat' (first | apply And.intro | exact zR | (intro) | apply Z97 | apply Zaq | apply Zeb | apply Z3 | apply Zca | apply Zd6 | apply Z98)
 all_goals ((try simp only [std, inj] at *); with_reducible and_intros)
 all_goals try first | with_reducible apply Zeb | with_reducible apply Z3 | with_reducible apply Zd6 | with_reducible apply Z98 | (simp only [<- List.map_append]; with_reducible apply Zd6)
 all_goals (try (
  have hf := Y1ld hg ‹_› ‹_› ‹_› ‹_›
  have e1 := Y1fn hf
  have e2 := Y1ea hf
  have e3 := Y1j2 hf
  simp only [Y1ja, e1, e2, e3, Ypw, Y1c9, Y1h7, Y1gh] at *
  have gn := Yqg hf
  have gx := Y1ka hf hg
  have pl := Y14z (Ymc hf).2.2.1 (Ymc hf).2.2.2.1
  have s1 := Y1j6 f (aT p)
  have s2 := Y1j6 f (aT p + mI2 p f)
  have s3 := @Y16w B Ls o (List.take (aT p) p.items) (List.take (aT p) f.items)
  have s4 := Yzh (Ls := Ls) (xI p)
  have s5 := Ymj (nI Ls (xI p)) (rI B Ls p f (mI2 p f))))
 all_goals with_reducible and_intros
 all_goals try first | exact zw | (have q := Ypp hg (Decidable.not_not.1 ‹¬¬p.kind = 0›); omega) | exact (Y173 ‹_› ‹_›).1 | exact (Y173 (o := o) ‹_› ‹_›).2 | exact (Y17r ‹_› ‹_› ‹_› ‹_›).1 | exact (Y17r (o := o) ‹_› ‹_› ‹_› ‹_›).2 | exact (Y1be hg ‹_› ‹_› ‹_› ‹_›).1 | exact (Y1be (o := o) hg ‹_› ‹_› ‹_› ‹_›).2 | exact Y1lo ‹_› ‹_› ‹_› ‹_› | exact (Y1c0 hf ‹_›).1 | exact (Y1c0 (o := o) hf ‹_›).2 | exact (Y189 ‹_› ‹_›).1 | exact (Y189 (o := o) ‹_› ‹_›).2 | exact (Y1bq hf ‹_› ‹_›).1 | exact (Y1bq (o := o) hf ‹_› ‹_›).2 | exact Y1f3 hl hg hf | exact Y1f6 hg (Ymc hf).1 (Ymc hf).2.2.1 (Ymc hf).2.2.2.1 (by omega) | exact Y1bf hg (Ymc hf).1 (Ymc hf).2.2.1 (Ymc hf).2.2.2.1 (by omega) | (simp only [List.length_append, List.length_take, List.length_drop, List.length_nil] at *; omega) | rfl | grind)
theorem Za7 (p : YS) : ∀ (B : List YB) (Ls : List YS) (f : YS) (o : List YC) (h : B.length <= 1048577 /\ Yhe wB B <= 1048577 /\ wY p <= 1048576 /\ wY f <= 1000000000 /\ o.length + Yho p <= 2147483647 /\ Yi6 p <= 40) (hl : Ls.all Yke = true) (hg : good Ls p), Zo B Ls p f o := YS.ind (P := fun p => ∀ (B : List YB) (Ls : List YS) (f : YS) (o : List YC) (h : B.length <= 1048577 /\ Yhe wB B <= 1048577 /\ wY p <= 1048576 /\ wY f <= 1000000000 /\ o.length + Yho p <= 2147483647 /\ Yi6 p <= 40) (hl : Ls.all Yke = true) (hg : good Ls p), Zo B Ls p f o) (fun p ih B Ls f o h hl hg => Zgt B Ls p f o h hl hg ih) p
set_option maxHeartbeats 4000000
mutual
/-- the names of a form, each once -/
def Yhs : YS -> List YS -> List YS
 | ⟨k, n, t, s, l⟩, o => Yyp l (if k = 1 /\ Yim o ⟨k, n, t, s, l⟩ = false then o ++ [⟨k, n, t, s, l⟩] else o)
def Yyp : List YS -> List YS -> List YS
 | [], o => o
 | x :: r, o => Yyp r (Yhs x o)
end
theorem Y14h : ∀ (l : List YS) (o : List YS), Yyp l o = l.foldl (fun o x => Yhs x o) o
 | [], _ => by rw [Yyp]; rfl
 | x :: r, o => by rw [Yyp, Y14h r]; rfl
def Yq0 (s : YS) (o : List YS) : List YS := if s.kind = 1 /\ Yim o s = false then o ++ [s] else o
theorem Y10g (s : YS) (o : List YS) : Yhs s o = s.items.foldl (fun o x => Yhs x o) (Yq0 s o) := by cases s; simp only [Yhs, Y14h, Yq0]
theorem Y15y (s : YS) (o : List YS) : (Yq0 s o).length <= o.length + 1 := by unfold Yq0; split <;> simp
theorem Yws : ∀ (L : List YS), (∀ x ∈ L, ∀ o, (Yhs x o).length <= o.length + Yho x) -> ∀ o, (L.foldl (fun o x => Yhs x o) o).length <= o.length + Yhe Yho L
 | [], _, o => by simp [Yhe]
 | x :: r, h, o => by
  have h1 := h x List.mem_cons_self o
  have h2 := Yws r (fun y hy => h y (List.mem_cons_of_mem _ hy)) (Yhs x o)
  simp only [List.foldl_cons, Yhe]; omega
theorem Yxc : ∀ (s : YS) (o : List YS), (Yhs s o).length <= o.length + Yho s := by
 refine YS.ind fun s ih o => ?_
 have h1 := Yws s.items ih (Yq0 s o)
 have h2 := Y15y s o
 rw [Y10g, Yid]; omega
abbrev Z1u (s : YS) (o : List YS) : Ct := ⟨319, [.arr true 5 (o.map Yhd)], [Yhz s, .one (.ref 0)], [.dead, .arr true 5 ((Yhs s o).map Yhd)], .sv (.one (.ref 1))⟩
def Z21 (s : YS) (o : List YS) : Lp Nat := .mk 33 1 (fun x => [(1, .one (.ref 1)), (22, ll (s.items.map Yhd)), (23, li (↑(List.map Yhd
 s.items).length : Int)), (24, hs x 0)]) (fun x => [.dead, ho x 1]) (fun k => [.s (li (k : Int)), .o (.arr true 5 ((List.foldl (fun o x => Yhs x o) (Yq0 s
 o) (s.items.take k)).map Yhd))]) (fun k => k <= s.items.length /\ s.items.length <= 9223372036854775807) (fun k => s.items.length - k) [.mk True (.exit 0) (fun x => [(1, .one (.ref
 1))]) (fun x => [.dead, ho x 0]) [.o (.arr true 5 ((Yhs s o).map Yhd))]]
theorem Z74 (s : YS) (o : List YS) (h : o.length + Yho s <= 2147483647 /\ wY s <= 1000000000) (ih : ∀ (z : YS), z ∈ s.items -> ∀ (o : List YS), o.length +
 Yho z <= 2147483647 /\ wY z <= 1000000000 -> OK (Z1u z o)) : Lp.Sem Tryz.prog (Yht Tryz.f319 0) (Z21 s o) := Yi3 (fun k => .i ((k : Int) < (↑(List.map Yhd
 s.items).length : Int)) (.x (k : Int) (s.items.map Yhd) (Yhk (s.items.getD k default)) (.d [.rd, .own true 5] (Z1u (s.items.getD k default) (List.foldl (fun o x
 => Yhs x o) (Yq0 s o) (s.items.take k))) (.r ((k : Int) + 1) (.g [0, 4] (k + 1) [.s (li ((k : Int) + 1)), .o (.arr true 5 ((Yhs (s.items.getD k
 default) (List.foldl (fun o x => Yhs x o) (Yq0 s o) (s.items.take k))).map Yhd))])))) (.o 0 [0, 1] [.o (.arr true 5 ((List.foldl (fun o x => Yhs x o) (Yq0 s o)
 (s.items.take k)).map Yhd))])) (by
 intro k h; try dsimp only [Yhj, Yhq, Z21] at h ⊢
 have g1 := Yws (s.items.take k) (fun x _ o => Yxc x o) (Yq0 s o)
 have g2 := Y15y s o
 have g3 := @Yl6 s k
 have g4 := Yid s
 with_reducible repeat' (first | apply And.intro | exact zR | exact ih | (intro) | apply Z1 | apply ih)
 all_goals ((try simp only [std, inj] at *); with_reducible and_intros)
 all_goals try with_reducible first | apply Z1 | apply ih
 all_goals try first | exact z | grind [Y10g, Ync, Yhn, Yhl, Yhm, Yhi])
theorem Zgu (s : YS) (o : List YS) (h : o.length + Yho s <= 2147483647 /\ wY s <= 1000000000) (ih : ∀ z ∈ s.items, ∀ (o : List YS) (h : o.length + Yho z <=
 2147483647 /\ wY z <= 1000000000), Z1u z o)  : Z1u s o := Yhv Tryz.call319 Tryz.func319 (.i (s.kind = 1) (.c [.rd, .rd] (Z68 o s) (.b (!Yim o s) (.d [.rd] (Zb
 s) (.p (((o.map Yhd).length + 1) * 80 <= 140737488355328) (.z Yhd s.items (.l (Z21 s o) (Z74 s o h ih) [0, 5] [.s (li 0), .o (.arr true 5 (List.map
 Yhd o ++ [Yhk s]))] 0 (.t (.f [1] [.dead, .arr true 5 ((Yhs s o).map Yhd)] (.sv (.one (.ref 1)))) .q))))) (.z Yhd s.items (.w (.ghost (.move 0))
 (.l (Z21 s o) (Z74 s o h ih) [0, 2] [.s (li 0), .o (.arr true 5 (o.map Yhd))] 0 (.t (.f [1] [.dead, .arr true 5 ((Yhs s o).map Yhd)]
 (.sv (.one (.ref 1)))) .q)))))) (.y false (.z Yhd s.items (.w (.ghost (.move 0)) (.l (Z21 s o) (Z74 s o h ih) [0, 2] [.s (li 0), .o (.arr true 5
 (o.map Yhd))] 0 (.t (.f [1] [.dead, .arr true 5 ((Yhs s o).map Yhd)] (.sv (.one (.ref 1)))) .q)))))) (by
 dsimp only [Yhj, Z1u, Yhq, Z21]
 have g4 := Yid s
 with_reducible repeat' (first | apply And.intro | exact zR | exact ih | (intro) | apply Z1)
 all_goals ((try simp only [std, inj] at *); with_reducible and_intros)
 all_goals try first | with_reducible (first | apply Z1 | apply ih) | (simp only [<- List.map_append]; with_reducible first | apply Z1 | apply ih)
 all_goals try first | exact z | grind [Yq0, Yhl, Yhm, Yhi])
theorem Z5c (s : YS) : ∀ (o : List YS) (h : o.length + Yho s <= 2147483647 /\ wY s <= 1000000000), Z1u s o := YS.ind (P := fun s => ∀ (o : List YS) (h : o.length + Yho s <= 2147483647 /\ wY s <= 1000000000), Z1u s o) (fun s ih o h => Zgu s o h ih) s
def Ysv (C : List YC) (a : Nat) : List YS -> List YC
 | [] => C
 | x :: r => let O := Ysv C a r; if 0 <= fnd C x /\ 0 < (C.getD (fnd C x).toNat default).depth then O.set (fnd C x).toNat ((C.getD (fnd C x).toNat default).each.getD a default) else O
def Yk0 (C : List YC) (a : Nat) (I : List YS) (k : Nat) : List YC := Ysv C a (I.take k).reverse
theorem Yt1 (C : List YC) (a : Nat) : ∀ I, (Ysv C a I).length = C.length
 | [] => rfl
 | x :: r => by simp only [Ysv]; split <;> simp [Yt1 C a r]
theorem Y19w {C : List YC} {a : Nat} {I : List YS} {k : Nat} (h : k < I.length) : Yk0 C a I (k + 1) = if 0 <= fnd C (I.getD k default) /\ 0 < (C.getD (fnd C (I.getD k default)).toNat default).depth then (Yk0 C a I k).set (fnd C (I.getD k default)).toNat ((C.getD (fnd C (I.getD k default)).toNat default).each.getD a default) else Yk0 C a I k := by
 unfold Yk0; rw [Yi2 h, List.reverse_append]; rfl
theorem Y1m5 {L : List YC} {k : Nat} {x : YC} : (L.map Yhf).set k (Yi1 x) = (L.set k x).map Yhf := by rw [List.map_set, Ynp]
theorem Yua (s : YS) : Yho s <= wY s + 1 := by
 refine YS.ind (P := fun s => Yho s <= wY s + 1) (fun s ih => ?_) s
 have : ∀ L : List YS, (∀ x ∈ L, Yho x <= wY x + 1) -> Yhe Yho L <= L.length + Yhe wY L := by
  intro L
  induction L with
  | nil => intro _; simp [Yhe]
  | cons x r ihr =>
   intro h
   have h1 := h x List.mem_cons_self
   have h2 := ihr fun y hy => h y (List.mem_cons_of_mem _ hy)
   simp only [Yhe, List.length_cons]; omega
 have h1 := this s.items ih
 have h2 := Yjc s
 rw [Yid]; omega
abbrev Z8h (C : List YC) (t : YS) (a : Nat) : Ct := ⟨304, [], [ll (C.map Yhf), Yhz t, li a], [], .sv (ll ((Yk0 C a (Yhs t []) (Yhs t []).length).map Yhf))⟩
def Z5x (C : List YC) (t : YS) (a : Nat) : Lp Nat := .mk 48 0 (fun x => [(0, ll (C.map Yhf)), (2, li (a : Int)), (7, .one (.ref 0)), (16, .one
 (.ref 1)), (17, li (↑((Yhs t []).map Yhd).length : Int)), (18, hs x 0)]) (fun x => [ho x 1, .arr true 5 ((Yhs t []).map Yhd)]) (fun k => [.s (li (↑k :
 Int)), .o (.arr false 12 ((Yk0 C a (Yhs t []) k).map Yhf))]) (fun k => k <= (Yhs t []).length /\ (Yhs t []).length <= 9223372036854775807) (fun k => (Yhs t
 []).length - k) [.mk True (.exit 0) (fun x => [(7, .one (.ref 0))]) (fun x => [ho x 0]) [.o (.arr false 12 ((Yk0 C a (Yhs t []) (Yhs t []).length).map Yhf))]]
theorem Zf7 (C : List YC) (t : YS) (a : Nat) (h : C.length <= 1000000000 /\ wY t <= 1000000000 /\ a <= 1000000000) (hb : ∀ (x : YS), x ∈ Yhs t [] -> 0 <= fnd C x -> 0
 < (C.getD (fnd C x).toNat default).depth -> a < (C.getD (fnd C x).toNat default).each.length) : Lp.Sem Tryz.prog (Yht Tryz.f304 0) (Z5x C t a) := Yi3 (fun k => .i ((↑k :
 Int) < (↑((Yhs t []).map Yhd).length : Int)) (.p (0 <= (k : Int) /\ (k : Int).toNat < ((Yhs t []).map Yhd).length) (.w (.cells (Yhk ((Yhs t []).getD (↑k :
 Int).toNat default))) (.p (((Yhs t []).map Yhd)[(k : Int).toNat]? = some (Yhk ((Yhs t []).getD (k : Int).toNat default))) (.c [.rd, .rd] (Z67 C ((Yhs t
 []).getD (k : Int).toNat default)) (.i (0 <= fnd C ((Yhs t []).getD (k : Int).toNat default)) (.x (fnd C ((Yhs t []).getD (k : Int).toNat default)) (C.map Yhf)
 (Yi1 (C.getD (fnd C ((Yhs t []).getD (k : Int).toNat default)).toNat default)) (.i (0 < (C.getD (fnd C ((Yhs t []).getD (k : Int).toNat default)).toNat default).depth)
 (.x (fnd C ((Yhs t []).getD (k : Int).toNat default)) (C.map Yhf) (Yi1 (C.getD (fnd C ((Yhs t []).getD (k : Int).toNat default)).toNat default)) (.x (a : Int)
 ((C.getD (fnd C ((Yhs t []).getD (k : Int).toNat default)).toNat default).each.map Yhf) (Yi1 ((C.getD (fnd C ((Yhs t []).getD (k : Int).toNat default)).toNat
 default).each.getD a default)) (.p (0 <= fnd C ((Yhs t []).getD (k : Int).toNat default) /\ (fnd C ((Yhs t []).getD (k : Int).toNat default)).toNat < ((Yk0 C
 a (Yhs t []) k).map Yhf).length) (.w (.cells (Yi1 ((Yk0 C a (Yhs t []) k).getD (fnd C ((Yhs t []).getD (k : Int).toNat default)).toNat default))) (.p (((Yk0
 C a (Yhs t []) k).map Yhf)[(fnd C ((Yhs t []).getD (k : Int).toNat default)).toNat]? = some (Yi1 ((Yk0 C a (Yhs t []) k).getD (fnd C ((Yhs t []).getD (k : Int).toNat
 default)).toNat default))) (.r ((k : Int) + 1) (.g [0, 1] (k + 1) [.s (li ((k : Int) + 1)), .o (.arr false 12 (((Yk0 C a (Yhs t []) k).map Yhf).set (fnd C ((Yhs
 t []).getD (k : Int).toNat default)).toNat (Yi1 ((C.getD (fnd C ((Yhs t []).getD (k : Int).toNat default)).toNat default).each.getD a default))))]))))))) (.r ((k : Int) +
 1) (.g [0, 1] (k + 1) [.s (li ((k : Int) + 1)), .o (.arr false 12 ((Yk0 C a (Yhs t []) k).map Yhf))])))) (.y false (.r ((k : Int) + 1) (.g [0, 1] (k + 1) [.s (li
 ((k : Int) + 1)), .o (.arr false 12 ((Yk0 C a (Yhs t []) k).map Yhf))])))))))) (.o 0 [0] [.o (.arr false 12 ((Yk0 C a (Yhs t []) k).map Yhf))])) (by
 intro k h; try dsimp only [Yhj, Yhq, Z5x] at h ⊢
 have g1 := Ymk C ((Yhs t []).getD k default)
 have g2 := @Y19w C a (Yhs t []) k
 have g3 : (Yk0 C a (Yhs t []) k).length = C.length := Yt1 C a ((Yhs t []).take k).reverse
 have g4 := hb ((Yhs t []).getD k default)
 with_reducible repeat' (first | apply And.intro | exact zR | (intro) | apply Z5c)
 all_goals ((try simp only [std, inj] at *); with_reducible and_intros)
 all_goals try with_reducible first | apply Z5c
 all_goals try first | exact z | grind [Yhn, Y1m5, Yhl, Yhm, Yhi])
theorem Z3s (C : List YC) (t : YS) (a : Nat) (h : C.length <= 1000000000 /\ wY t <= 1000000000 /\ a <= 1000000000) (hb : ∀ x ∈ Yhs t [], 0 <= fnd C x -> 0 < (C.getD (fnd C
 x).toNat default).depth -> a < (C.getD (fnd C x).toNat default).each.length)  : Z8h C t a := Yhv Tryz.call304 Tryz.func304 (.w (.bool true) (.p (∀ (e : List Cell), e ∈
 C.map Yhf -> e.length = 12) (.p ((0 + (C.map Yhf).length) * 192 <= 140737488355328) (.w (.bool false) (.d [.rd, .own true 5] (Z1u t []) (.z Yhd (Yhs t
 []) (.l (Z5x C t a) (Zf7 C t a h hb) [2, 5] [.s (li 0), .o (.arr false 12 (C.map Yhf))] 0 (.t (.w (.ghost (.lock 0)) (.s (ll ((Yk0 C
 a (Yhs t []) (Yhs t []).length).map Yhf)))) .q)))))))) (by
 dsimp only [Yhj, Z8h, Yhq, Z5x]
 have g1 := Yxc t []
 have g2 := Yua t
 have g5 : Yk0 C a (Yhs t []) 0 = C := rfl
 with_reducible repeat' (first | apply And.intro | exact zR | (intro) | apply Z5c)
 all_goals ((try simp only [std, inj] at *); with_reducible and_intros)
 all_goals try with_reducible first | apply Z5c
 all_goals (try exact zG))
abbrev Zx (t : YS) : Ct := ⟨257, [], [Yhz t], [], .sv (lb (Yl4 t))⟩
def Z2o (t : YS) : Lp Nat := .mk 42 0 (fun x => [(1, .one (.ptr 0 0)), (6, ll (t.items.map Yhd)), (7, li (↑(t.items.map Yhd).length : Int)),
 (8, hs x 0)]) (fun x => [.box (vals (Yhk t))]) (fun k => [.s (li (k : Int))]) (fun k => k <= t.items.length /\ t.items.length <= 9223372036854775807 /\ Yio true t.items =
 Yio (Ylp t.items k) (t.items.drop k)) (fun k => t.items.length - k) [.mk (Yio true t.items = true) (.exit 0) (fun x => [(1, .one (.ptr 0 0))]) (fun x => [.box
 (vals (Yhk t))]) [], .mk (Yio true t.items = false) .ret (fun x => [(2, hs x 0)]) (fun x => []) [.s (lb false)]]
theorem Zav (t : YS) (ih : ∀ (z : YS), z ∈ t.items -> OK (Zx z)) : Lp.Sem Tryz.prog (Yht Tryz.f257 0) (Z2o t) := Yi3 (fun k => .i ((↑k :
 Int) < (↑(t.items.map Yhd).length : Int)) (.x (k : Int) (t.items.map Yhd) (Yhk (t.items.getD k default)) (.c [.rd] (Zc (t.items.getD k default)) (.b
 (Yhr (t.items.getD k default)) (.i ((k : Int) = 0) (.y true (.y true (.o 1 [] [.s (lb false)]))) (.r ((k : Int) - 1) (.x ((k : Int) - 1) (t.items.map Yhd) (Yhk
 (t.items.getD ((k : Int) - 1).toNat default)) (.c [.rd] (Zc (t.items.getD ((k : Int) - 1).toNat default)) (.b (Yhr (t.items.getD ((k : Int) - 1).toNat default)) (.y
 true (.o 1 [] [.s (lb false)])) (.c [.rd] (Zc (t.items.getD k default)) (.b (!Yhr (t.items.getD k default)) (.d [.rd] (Zx (t.items.getD k default)) (.b (!Yl4
 (t.items.getD k default)) (.o 1 [] [.s (lb false)]) (.r ((k : Int) + 1) (.g [0] (k + 1) [.s (li ((k : Int) + 1))])))) (.y false (.r ((k : Int) + 1) (.g [0] (k + 1) [.s (li ((↑k
 : Int) + 1))])))))))))) (.y false (.c [.rd] (Zc (t.items.getD k default)) (.b (!Yhr (t.items.getD k default)) (.d [.rd] (Zx (t.items.getD k default)) (.b (!Yl4
 (t.items.getD k default)) (.o 1 [] [.s (lb false)]) (.r ((k : Int) + 1) (.g [0] (k + 1) [.s (li ((k : Int) + 1))])))) (.y false (.r ((k : Int) + 1) (.g [0] (k + 1) [.s (li ((↑k
 : Int) + 1))]))))))))) (.o 0 [0] [])) (by
 intro k h; try dsimp only [Yhj, Yhq, Z2o] at h ⊢
 have g1 := @Yyw t.items (Ylp t.items k) k
 have g2 := @Y11f t.items (Ylp t.items k) k
 have e : ((k : Int) - 1).toNat = k - 1 := by omega
 have g3 : Ylp t.items k = (decide (k = 0) || Yhr (t.items.getD (k - 1) default)) := rfl
 have g4 : Ylp t.items (k + 1) = Yhr (t.items.getD k default) := by simp [Ylp]
 with_reducible repeat' (first | apply And.intro | exact zR | exact ih | (intro) | apply ih)
 all_goals ((try simp only [std, inj] at *); with_reducible and_intros)
 all_goals try with_reducible first | apply ih
 all_goals try first | exact z | grind [Yhn, Yhl, Yhm, Yhi])
theorem Ze0 (t : YS) (ih : ∀ z ∈ t.items, Zx z)  : Zx t := Yhv Tryz.call257 Tryz.func257 (.z Yhd t.items (.l (Z2o t) (Zav t
 ih) [0] [.s (li 0)] 0 (.t (.c [.rd] (Zc t) (.s (lb !Yhr t))) (.t (.s (lb false)) .q)))) (by
 dsimp only [Yhj, Zx, Yhq, Z2o]
 have g1 := Yvm t
 have g2 : Ylp t.items 0 = true := rfl
 have g3 : t.items.drop 0 = t.items := rfl
 with_reducible repeat' (first | apply And.intro | exact zR | exact ih | (intro))
 all_goals ((try simp only [std, inj] at *); with_reducible and_intros)
 all_goals try with_reducible first | apply ih
 all_goals (try exact zG))
theorem Zg6 (t : YS) : Zx t := YS.ind (P := fun t => Zx t) (fun t ih => Ze0 t ih) t
def Yie (C : List YC) (x : YS) : YC := C.getD (fnd C x).toNat default
def rep (C : List YC) (x : YS) : Bool := decide (0 <= fnd C x) && decide (0 < (Yie C x).depth)
def cnN (C : List YC) (I : List YS) : Nat -> Int
 | 0 => -1
 | k + 1 => if rep C (I.getD k default) = true then ((Yie C (I.getD k default)).each.length : Int) else cnN C I k
def Yko (C : List YC) (I : List YS) : Nat -> Bool
 | 0 => true
 | k + 1 => Yko C I k && (!rep C (I.getD k default) || decide (cnN C I k < 0) || decide (cnN C I k = ((Yie C (I.getD k default)).each.length : Int)))
theorem Y18v (C : List YC) (I : List YS) : ∀ (m k : Nat), k <= m -> Yko C I m = true -> Yko C I k = true
 | 0, k, h, _ => by
  obtain rfl : k = 0 := by omega
  rfl
 | m + 1, k, h, ht => by
  by_cases e : k = m + 1
  ·rw [e]; exact ht
  ·refine Y18v C I m k (by omega) ?_
   simp only [Yko, Bool.and_eq_true] at ht; exact ht.1
abbrev Z75 (C : List YC) (t : YS) : Ct := ⟨303, [], [ll (C.map Yhf), Yhz t], [], .tup [li (if Yko C (Yhs t []) (Yhs t []).length = true then cnN C (Yhs t []) (Yhs t []).length else 0), lb (Yko C (Yhs t []) (Yhs t []).length && decide (0 <= cnN C (Yhs t []) (Yhs t []).length))]⟩
def Z46 (C : List YC) (t : YS) : Lp Nat := .mk 53 0 (fun x => [(0, ll (C.map Yhf)), (6, hs x 1), (12, .one (.ref 0)), (13, li (↑(List.map Yhd
 (Yhs t [])).length : Int)), (14, hs x 0)]) (fun x => [.arr true 5 ((Yhs t []).map Yhd)]) (fun k => [.s (li (k : Int)), .s (li (cnN C (Yhs t []) k))]) (fun k => k <=
 (Yhs t []).length /\ (Yhs t []).length <= 9223372036854775807 /\ Yko C (Yhs t []) k = true) (fun k => (Yhs t []).length - k) [.mk (Yko C (Yhs t []) (Yhs t []).length = true)
 (.exit 0) (fun x => [(6, hs x 0)]) (fun x => []) [.s (li (cnN C (Yhs t []) (Yhs t []).length))], .mk (Yko C (Yhs t []) (Yhs t []).length = false) .ret (fun x => [(4, hs x 0),
 (5, hs x 1)]) (fun x => []) [.s (li 0), .s (lb false)]]
theorem Zd7 (C : List YC) (t : YS) (h : wY t <= 1000000000) : Lp.Sem Tryz.prog (Yht Tryz.f303 0) (Z46 C t) := Yi3 (fun k => .i ((k : Int) <
 (↑((Yhs t []).map Yhd).length : Int)) (.p (0 <= (k : Int) /\ (k : Int).toNat < ((Yhs t []).map Yhd).length) (.w (.cells (Yhk ((Yhs t []).getD (↑k :
 Int).toNat default))) (.p (((Yhs t []).map Yhd)[(k : Int).toNat]? = some (Yhk ((Yhs t []).getD (k : Int).toNat default))) (.c [.rd, .rd] (Z67 C ((Yhs t
 []).getD (k : Int).toNat default)) (.i (fnd C ((Yhs t []).getD (k : Int).toNat default) < 0) (.y true (.r ((k : Int) + 1) (.g [0] (k + 1) [.s (li ((k : Int) + 1)), .s (li
 (cnN C (Yhs t []) k))]))) (.x (fnd C ((Yhs t []).getD (k : Int).toNat default)) (C.map Yhf) (Yi1 (C.getD (fnd C ((Yhs t []).getD (k : Int).toNat
 default)).toNat default)) (.i ((C.getD (fnd C ((Yhs t []).getD (k : Int).toNat default)).toNat default).depth <= 0) (.r ((k : Int) + 1) (.g [0] (k + 1) [.s (li ((k : Int) +
 1)), .s (li (cnN C (Yhs t []) k))])) (.i (0 <= cnN C (Yhs t []) k) (.x (fnd C ((Yhs t []).getD (k : Int).toNat default)) (C.map Yhf) (Yi1 (C.getD (fnd C ((Yhs t
 []).getD (k : Int).toNat default)).toNat default)) (.z Yhf (C.getD (fnd C ((Yhs t []).getD (k : Int).toNat default)).toNat default).each (.i (cnN C (Yhs t []) k ≠
 (↑((C.getD (fnd C ((Yhs t []).getD (k : Int).toNat default)).toNat default).each.map Yhf).length : Int)) (.o 1 [] [.s (li 0), .s (lb false)]) (.x (fnd C ((Yhs t
 []).getD (k : Int).toNat default)) (C.map Yhf) (Yi1 (C.getD (fnd C ((Yhs t []).getD (k : Int).toNat default)).toNat default)) (.z Yhf (C.getD (fnd C ((Yhs
 t []).getD (k : Int).toNat default)).toNat default).each (.r ((k : Int) + 1) (.g [0] (k + 1) [.s (li ((k : Int) + 1)), .s (li (↑((C.getD (fnd C ((Yhs t
 []).getD (k : Int).toNat default)).toNat default).each.map Yhf).length : Int))]))))))) (.y false (.x (fnd C ((Yhs t []).getD (k : Int).toNat default)) (C.map Yhf) (Yi1
 (C.getD (fnd C ((Yhs t []).getD (k : Int).toNat default)).toNat default)) (.z Yhf (C.getD (fnd C ((Yhs t []).getD (k : Int).toNat default)).toNat default).each (.r ((↑k :
 Int) + 1) (.g [0] (k + 1) [.s (li ((k : Int) + 1)), .s (li (↑((C.getD (fnd C ((Yhs t []).getD (k : Int).toNat default)).toNat default).each.map Yhf).length :
 Int))]))))))))))))) (.o 0 [] [.s (li (cnN C (Yhs t []) k))])) (by
 intro k h; try dsimp only [Yhj, Yhq, Z46] at h ⊢
 have g1 := Y18v C (Yhs t []) (Yhs t []).length (k + 1)
 have g2 : Yko C (Yhs t []) (k + 1) = (Yko C (Yhs t []) k && (!rep C ((Yhs t []).getD k default) || decide (cnN C (Yhs t []) k < 0) || decide (cnN C (Yhs t []) k = ((Yie C ((Yhs t []).getD k default)).each.length : Int)))) := rfl
 have g3 : cnN C (Yhs t []) (k + 1) = if rep C ((Yhs t []).getD k default) = true then ((Yie C ((Yhs t []).getD k default)).each.length : Int) else cnN C (Yhs t []) k := rfl
 have g4 := Ymk C ((Yhs t []).getD k default)
 have g5 : Yie C ((Yhs t []).getD k default) = C.getD (fnd C ((Yhs t []).getD k default)).toNat default := rfl
 have g6 : rep C ((Yhs t []).getD k default) = (decide (0 <= fnd C ((Yhs t []).getD k default)) && decide (0 < (Yie C ((Yhs t []).getD k default)).depth)) := rfl
 with_reducible repeat' (first | apply And.intro | exact zR | (intro) | apply Z5c)
 all_goals ((try simp only [std, inj] at *); with_reducible and_intros)
 all_goals try with_reducible first | apply Z5c
 all_goals try first | exact z | grind [Yhn, Yhl, Yhm, Yhi])
theorem Z1p (C : List YC) (t : YS) (h : wY t <= 1000000000)  : Z75 C t := Yhv Tryz.call303 Tryz.func303 (.w (.bool false) (.d [.rd, .own true 5] (Z1u t
 []) (.z Yhd (Yhs t []) (.l (Z46 C t) (Zd7 C t h) [3] [.s (li 0), .s (li (-1 : Int))] 0 (.t (.f [] [] (.tup [li (cnN C (Yhs t []) (Yhs t []).length), lb
 (decide (0 <= cnN C (Yhs t []) (Yhs t []).length))])) (.t (.f [] [] (.tup [li 0, lb false])) .q)))))) (by
 dsimp only [Yhj, Z75, Yhq, Z46]
 have g1 := Yxc t []
 have g2 := Yua t
 with_reducible repeat' (first | apply And.intro | exact zR | (intro) | apply Z5c)
 all_goals ((try simp only [std, inj] at *); with_reducible and_intros)
 all_goals try with_reducible first | apply Z5c
 all_goals try first | exact z | grind [cnN, Yko, Yhl, Yhm, Yhi])
abbrev Zbo (L : List Int) (n : Int) : Ct := ⟨306, [], [ll (L.map Yhh), li n], [], .sv (lb (decide (n ∈ L)))⟩
def Z5y (L : List Int) (n : Int) : Lp Nat := .mk 17 0 (fun x => [(1, li n), (7, ll (L.map Yhh)), (8, li (↑(L.map Yhh).length : Int)), (9, hs x 0)]) (fun x => [])
 (fun k => [.s (li (k : Int))]) (fun k => k <= L.length /\ L.length <= 9223372036854775807 /\ decide (n ∈ L.take k) = false) (fun k => L.length - k) [.mk (decide (n ∈ L) = false)
 (.exit 0) (fun x => []) (fun x => []) [], .mk (decide (n ∈ L) = true) .ret (fun x => [(4, hs x 0)]) (fun x => []) [.s (lb true)]]
theorem Zf8 (L : List Int) (n : Int) : Lp.Sem Tryz.prog (Yht Tryz.f306 0) (Z5y L n) := Yi3 (fun k => .i ((k : Int) < (↑(L.map Yhh).length : Int)) (.x (↑k :
 Int) (L.map Yhh) [cI (L.getD k 0)] (.i (L.getD k 0 = n) (.o 1 [] [.s (lb true)]) (.r ((k : Int) + 1) (.g [] (k + 1) [.s (li ((k : Int) + 1))])))) (.o 0 [] [])) (by
 intro k h; try dsimp only [Yhj, Yhq, Z5y] at h ⊢
 with_reducible repeat' (first | apply And.intro | exact zR | (intro))
 all_goals ((try simp only [std, inj] at *); with_reducible and_intros)
 all_goals try first | exact z | grind [Yi2, Yhn, Yhl, Yhm, Yhi])
theorem Zec (L : List Int) (n : Int)  : Zbo L n := Yhv Tryz.call306 Tryz.func306 (.z Yhh L (.l (Z5y L n) (Zf8 L n) [] [.s (li 0)] 0 (.t (.s (lb false)) (.t
 (.s (lb true)) .q)))) (by
 dsimp only [Yhj, Zbo, Yhq, Z5y]
 exact zV)
mutual
/-- the places of the captures of more than one form that a template names, each once -/
def rpi (C : List YC) : YS -> List Int -> List Int
 | ⟨k, n, t, s, l⟩, o => Y12r C l (if k = 1 /\ rep C ⟨k, n, t, s, l⟩ = true /\ fnd C ⟨k, n, t, s, l⟩ ∉ o then o ++ [fnd C ⟨k, n, t, s, l⟩] else o)
def Y12r (C : List YC) : List YS -> List Int -> List Int
 | [], o => o
 | x :: r, o => Y12r C r (rpi C x o)
end
theorem Y186 (C : List YC) : ∀ (l : List YS) (o : List Int), Y12r C l o = l.foldl (fun o x => rpi C x o) o
 | [], _ => by rw [Y12r]; rfl
 | x :: r, o => by rw [Y12r, Y186 C r]; rfl
def Yq1 (C : List YC) (t : YS) (o : List Int) : List Int := if t.kind = 1 /\ rep C t = true /\ fnd C t ∉ o then o ++ [fnd C t] else o
theorem Y12x (C : List YC) (t : YS) (o : List Int) : rpi C t o = t.items.foldl (fun o x => rpi C x o) (Yq1 C t o) := by cases t; simp only [rpi, Y186, Yq1]
theorem Y15m (C : List YC) (t : YS) (o : List Int) : (Yq1 C t o).length <= o.length + 1 := by unfold Yq1; split <;> simp
theorem Yzm (C : List YC) : ∀ (L : List YS), (∀ x ∈ L, ∀ o, (rpi C x o).length <= o.length + Yho x) -> ∀ o, (L.foldl (fun o x => rpi C x o) o).length <= o.length + Yhe Yho L
 | [], _, o => by simp [Yhe]
 | x :: r, h, o => by
  have h1 := h x List.mem_cons_self o
  have h2 := Yzm C r (fun y hy => h y (List.mem_cons_of_mem _ hy)) (rpi C x o)
  simp only [List.foldl_cons, Yhe]; omega
theorem Y175 (C : List YC) : ∀ (t : YS) (o : List Int), (rpi C t o).length <= o.length + Yho t := by
 refine YS.ind fun t ih o => ?_
 have h1 := Yzm C t.items ih (Yq1 C t o)
 have h2 := Y15m C t o
 rw [Y12x, Yid]; omega
abbrev Z2e (t : YS) (C : List YC) (o : List Int) : Ct := ⟨305, [.arr true 1 (o.map Yhh)], [Yhz t, ll (C.map Yhf), .one (.ref 0)], [.dead, .arr true 1 ((rpi C t o).map Yhh)], .sv (.one (.ref 1))⟩
def Z1h (t : YS) (C : List YC) (o : List Int) : Lp Nat := .mk 46 1 (fun x => [(1, ll (C.map Yhf)), (2, .one (.ref 1)), (34, ll (List.map Yhd
 t.items)), (35, li (↑(t.items.map Yhd).length : Int)), (36, hs x 0)]) (fun x => [.dead, ho x 1]) (fun k => [.s (li (k : Int)), .o (.arr true 1 (List.map Yhh
 (List.foldl (fun o x => rpi C x o) (Yq1 C t o) (t.items.take k))))]) (fun k => k <= t.items.length /\ t.items.length <= 9223372036854775807) (fun k => t.items.length - k) [.mk
 True (.exit 0) (fun x => [(2, .one (.ref 1))]) (fun x => [.dead, ho x 0]) [.o (.arr true 1 ((rpi C t o).map Yhh))]]
theorem Z51 (t : YS) (C : List YC) (o : List Int) (h : o.length + Yho t <= 2147483647) (ih : ∀ (z : YS), z ∈ t.items -> ∀ (C : List YC) (o : List Int),
 o.length + Yho z <= 2147483647 -> OK (Z2e z C o)) : Lp.Sem Tryz.prog (Yht Tryz.f305 0) (Z1h t C o) := Yi3 (fun k => .i ((k : Int) < (↑(List.map Yhd
 t.items).length : Int)) (.x (k : Int) (t.items.map Yhd) (Yhk (t.items.getD k default)) (.d [.rd, .rd, .own true 1] (Z2e (t.items.getD k default) C (List.foldl
 (fun o x => rpi C x o) (Yq1 C t o) (t.items.take k))) (.r ((k : Int) + 1) (.g [0, 4] (k + 1) [.s (li ((k : Int) + 1)), .o (.arr true 1 ((rpi C
 (t.items.getD k default) (List.foldl (fun o x => rpi C x o) (Yq1 C t o) (t.items.take k))).map Yhh))])))) (.o 0 [0, 1] [.o (.arr true 1 ((List.foldl (fun o x => rpi
 C x o) (Yq1 C t o) (t.items.take k)).map Yhh))])) (by
 intro k h; try dsimp only [Yhj, Yhq, Z1h] at h ⊢
 have g1 := Yzm C (t.items.take k) (fun x _ o => Y175 C x o) (Yq1 C t o)
 have g2 := Y15m C t o
 have g3 := @Yl6 t k
 with_reducible repeat' (first | apply And.intro | exact zR | exact ih | (intro) | apply ih)
 all_goals ((try simp only [std, inj] at *); with_reducible and_intros)
 all_goals try with_reducible first | apply ih
 all_goals try first | exact z | grind [Y12x, Ync, Yhn, Yhl, Yhm, Yhi])
theorem Zgv (t : YS) (C : List YC) (o : List Int) (h : o.length + Yho t <= 2147483647) (ih : ∀ z ∈ t.items, ∀ (C : List YC) (o : List Int) (h : o.length + Yho
 z <= 2147483647), Z2e z C o)  : Z2e t C o := Yhv Tryz.call305 Tryz.func305 (.c [.rd, .rd] (Z95 C t) (.i (0 <= if t.kind = 1 then fnd C t else (-1 : Int)) (.x (if t.kind
 = 1 then fnd C t else (-1 : Int)) (C.map Yhf) (Yi1 (C.getD (if t.kind = 1 then fnd C t else (-1 : Int)).toNat default)) (.i (0 < (C.getD (if t.kind = 1 then fnd C t
 else (-1 : Int)).toNat default).depth) (.c [.rd, .rd] (Zec o (if t.kind = 1 then fnd C t else (-1 : Int))) (.b (!decide ((if t.kind = 1 then fnd C t else (-1 : Int)) ∈ o)) (.p
 (((o.map Yhh).length + 1) * 8 <= 140737488355328) (.z Yhd t.items (.l (Z1h t C o) (Z51 t C o h ih) [0, 3] [.s (li 0), .o (.arr true 1 (o.map Yhh
 ++ [[cI (if t.kind = 1 then fnd C t else (-1 : Int))]]))] 0 (.t (.f [1] [.dead, .arr true 1 ((rpi C t o).map Yhh)] (.sv (.one (.ref 1)))) .q)))) (.z Yhd
 t.items (.w (.ghost (.move 0)) (.l (Z1h t C o) (Z51 t C o h ih) [0, 2] [.s (li 0), .o (.arr true 1 (o.map Yhh))] 0 (.t (.f [1] [.dead, .arr true 1
 ((rpi C t o).map Yhh)] (.sv (.one (.ref 1)))) .q)))))) (.y false (.z Yhd t.items (.w (.ghost (.move 0)) (.l (Z1h t C o) (Z51 t C o h ih) [0, 2] [.s
 (li 0), .o (.arr true 1 (o.map Yhh))] 0 (.t (.f [1] [.dead, .arr true 1 ((rpi C t o).map Yhh)] (.sv (.one (.ref 1)))) .q))))))) (.y false (.y false (.z
 Yhd t.items (.w (.ghost (.move 0)) (.l (Z1h t C o) (Z51 t C o h ih) [0, 2] [.s (li 0), .o (.arr true 1 (o.map Yhh))] 0 (.t (.f [1] [.dead, .arr
 true 1 ((rpi C t o).map Yhh)] (.sv (.one (.ref 1)))) .q)))))))) (by
 dsimp only [Yhj, Z2e, Yhq, Z1h]
 have g1 := Ymk C t
 have g2 := Yid t
 have g3 : rep C t = (decide (0 <= fnd C t) && decide (0 < (Yie C t).depth)) := rfl
 have g4 : Yie C t = C.getD (fnd C t).toNat default := rfl
 with_reducible repeat' (first | apply And.intro | exact zR | exact ih | (intro))
 all_goals ((try simp only [std, inj] at *); with_reducible and_intros)
 all_goals try first | with_reducible (first | apply ih) | (simp only [<- List.map_append]; with_reducible first | apply ih)
 all_goals try first | exact z | grind [Yq1, Yhl, Yhm, Yhi])
theorem Z1x (t : YS) : ∀ (C : List YC) (o : List Int) (h : o.length + Yho t <= 2147483647), Z2e t C o := YS.ind (P := fun t => ∀ (C : List YC) (o : List Int) (h : o.length + Yho t <= 2147483647), Z2e t C o) (fun t ih C o h => Zgv t C o h ih) t
def itr (f : Nat -> Int -> YS × Bool × Int) : Nat -> Int -> List YS -> List YS × Bool × Int
 | 0, m, O => (O, true, m)
 | k + 1, m, O => let p := itr f k m O; if p.2.1 = true then (p.1 ++ [(f k p.2.2).1], (f k p.2.2).2.1, (f k p.2.2).2.2) else p
def zY : YS := ⟨0, 0, mkS [], [], []⟩
mutual
/-- what the reference builds of a template: the form, whether all went well, the nodes that are left -/
def bld : YS -> List YC -> Int -> YS × Bool × Int
  | ⟨k, n, x, s, l⟩, C, m => if m - 1 < 0 then (zY, false, m - 1) else if k = 1 then
      (if Yhr ⟨k, n, x, s, l⟩ = true ∨ fnd C ⟨k, n, x, s, l⟩ < 0 then (⟨k, n, x, s, l⟩, !Yhr ⟨k, n, x, s, l⟩, m - 1)
       else if (Yie C ⟨k, n, x, s, l⟩).depth ≠ 0 then (zY, false, m)
       else if (Yho (Yie C ⟨k, n, x, s, l⟩).form : Int) <= m then ((Yie C ⟨k, n, x, s, l⟩).form, true, max (m - Yho (Yie C ⟨k, n, x, s, l⟩).form) (-1))
       else (zY, false, max (m - Yho (Yie C ⟨k, n, x, s, l⟩).form) (-1)))
    else if (Yiq l C (m - 1) []).2.1 = true then (⟨k, n, x, [], (Yiq l C (m - 1) []).1⟩, true, (Yiq l C (m - 1) []).2.2) else (zY, false, (Yiq l C (m - 1) []).2.2)
def Yiq : List YS -> List YC -> Int -> List YS -> List YS × Bool × Int
  | [], _, m, O => (O, true, m)
  | [x], C, m, O => if (bld x C m).2.1 = true then (O ++ [(bld x C m).1], true, (bld x C m).2.2) else (O, false, (bld x C m).2.2)
  | x :: y :: r, C, m, O => if Yhr y = true then
      (if (Yko C (Yhs x []) (Yhs x []).length && decide (0 <= cnN C (Yhs x []) (Yhs x []).length)) = true then
        (if (itr (fun j m => bld x (Yk0 C j (Yhs x []) (Yhs x []).length) m) (cnN C (Yhs x []) (Yhs x []).length).toNat m O).2.1 = true then
          Yiq r C (itr (fun j m => bld x (Yk0 C j (Yhs x []) (Yhs x []).length) m) (cnN C (Yhs x []) (Yhs x []).length).toNat m O).2.2 (itr (fun j m => bld x (Yk0 C j (Yhs x []) (Yhs x []).length) m) (cnN C (Yhs x []) (Yhs x []).length).toNat m O).1
         else itr (fun j m => bld x (Yk0 C j (Yhs x []) (Yhs x []).length) m) (cnN C (Yhs x []) (Yhs x []).length).toNat m O)
       else (O, false, m))
    else if (bld x C m).2.1 = true then Yiq (y :: r) C (bld x C m).2.2 (O ++ [(bld x C m).1]) else (O, false, (bld x C m).2.2)
end
mutual
/-- the greatest form or number of rounds in a capture -/
def mxP : YC -> Nat
 | ⟨_, _, f, e⟩ => max (wY f) (max e.length (Ytg e))
def Ytg : List YC -> Nat
 | [] => 0
 | x :: r => max (mxP x) (Ytg r)
end
theorem Yu3 (x : YC) : mxP x = max (wY x.form) (max x.each.length (Ytg x.each)) := by cases x; simp only [mxP]
theorem Y158 : ∀ {l : List YC} {x : YC}, x ∈ l -> mxP x <= Ytg l
 | y :: r, x, h => by
  rw [Ytg]
  rcases List.mem_cons.1 h with rfl | h
  ·omega
  ·have := Y158 h; omega
theorem Y17h {m : Nat} : ∀ {l : List YC}, (∀ x ∈ l, mxP x <= m) -> Ytg l <= m
 | [], _ => by simp [Ytg]
 | x :: r, h => by
  have h1 := h x List.mem_cons_self
  have h2 := Y17h fun y hy => h y (List.mem_cons_of_mem _ hy)
  rw [Ytg]; omega
def cnB (C : List YC) (x : YS) : Bool := Yko C (Yhs x []) (Yhs x []).length && decide (0 <= cnN C (Yhs x []) (Yhs x []).length)
abbrev bN (C : List YC) (x : YS) : Nat := (cnN C (Yhs x []) (Yhs x []).length).toNat
abbrev Ytm (C : List YC) (x : YS) (j : Nat) : List YC := Yk0 C j (Yhs x []) (Yhs x []).length
def bI (C : List YC) (x : YS) (j : Nat) (q : Int) (O : List YS) : List YS × Bool × Int := itr (fun j q => bld x (Ytm C x j) q) j q O
def bJ (C : List YC) (x : YS) (j : Nat) (q : Int) (O : List YS) : List YS × Bool × Int := if cnB C x = true then bI C x j q O else (O, false, q)
def bR (C : List YC) (x : YS) (q : Int) (O : List YS) : List YS × Bool × Int := bJ C x (bN C x) q O
theorem Ynn (t : YS) (C : List YC) (q : Int) : bld t C q = if q - 1 < 0 then (zY, false, q - 1) else if t.kind = 1 then
      (if Yhr t = true ∨ fnd C t < 0 then (t, !Yhr t, q - 1)
       else if (Yie C t).depth ≠ 0 then (zY, false, q)
       else if (Yho (Yie C t).form : Int) <= q then ((Yie C t).form, true, max (q - Yho (Yie C t).form) (-1))
       else (zY, false, max (q - Yho (Yie C t).form) (-1)))
    else if (Yiq t.items C (q - 1) []).2.1 = true then (⟨t.kind, t.number, t.text, [], (Yiq t.items C (q - 1) []).1⟩, true, (Yiq t.items C (q - 1) []).2.2) else (zY, false, (Yiq t.items C (q - 1) []).2.2) := by
  cases t; rw [bld]
theorem Yp8 (C : List YC) (q : Int) (O : List YS) : Yiq [] C q O = (O, true, q) := by rw [Yiq]
theorem Ytu (x : YS) (C : List YC) (q : Int) (O : List YS) : Yiq [x] C q O = if (bld x C q).2.1 = true then Yiq [] C (bld x C q).2.2 (O ++ [(bld x C q).1]) else (O, false, (bld x C q).2.2) := by
 rw [Yp8, Yiq]
theorem Ypo (x y : YS) (r : List YS) (C : List YC) (q : Int) (O : List YS) : Yiq (x :: y :: r) C q O = if Yhr y = true then (if (bR C x q O).2.1 = true then Yiq r C (bR C x q O).2.2 (bR C x q O).1 else bR C x q O)
  else if (bld x C q).2.1 = true then Yiq (y :: r) C (bld x C q).2.2 (O ++ [(bld x C q).1]) else (O, false, (bld x C q).2.2) := by
 rw [Yiq]
 split
 ·unfold bR bJ cnB
  split
  ·rfl
  ·rfl
 ·rfl
theorem Y1ef {l : List YS} {k : Nat} {C : List YC} {q : Int} {O : List YS} (h : l.length <= k) : Yiq (l.drop k) C q O = (O, true, q) := by
 rw [List.drop_eq_nil_of_le h, Yp8]
theorem Yxs {l : List YS} {k : Nat} {C : List YC} {q : Int} {O : List YS} (h : k < l.length) (hd : l.length <= k + 1 ∨ Yhr (l.getD (k + 1) default) = false) :
  Yiq (l.drop k) C q O = if (bld (l.getD k default) C q).2.1 = true then Yiq (l.drop (k + 1)) C (bld (l.getD k default) C q).2.2 (O ++ [(bld (l.getD k default) C q).1]) else (O, false, (bld (l.getD k default) C q).2.2) := by
 rw [Yj4 h]
 rcases Nat.lt_or_ge (k + 1) l.length with h1 | h1
 ·rw [Yj4 h1, Ypo, if_neg (by rcases hd with h2 | h2 <;> first | (exfalso; omega) | (rw [h2]; decide))]
 ·rw [List.drop_eq_nil_of_le h1, Ytu]
theorem Y10z {l : List YS} {k : Nat} {C : List YC} {q : Int} {O : List YS} (h : k + 1 < l.length) (hd : Yhr (l.getD (k + 1) default) = true) :
  Yiq (l.drop k) C q O = if (bR C (l.getD k default) q O).2.1 = true then Yiq (l.drop (k + 1 + 1)) C (bR C (l.getD k default) q O).2.2 (bR C (l.getD k default) q O).1 else bR C (l.getD k default) q O := by
 rw [Yj4 (by omega : k < l.length), Yj4 h, Ypo, if_pos hd]
theorem Yv8 {f : Nat -> Int -> YS × Bool × Int} (hf : ∀ j q, 0 <= q -> (f j q).2.1 = true -> 0 <= (f j q).2.2 /\ (f j q).2.2 + 1 <= q) : ∀ (j : Nat) (q : Int) (O : List YS), 0 <= q -> (itr f j q O).2.1 = true -> 0 <= (itr f j q O).2.2 /\ ((itr f j q O).1.length : Int) + (itr f j q O).2.2 <= O.length + q
 | 0, q, O, h0, _ => by simp only [itr]; omega
 | j + 1, q, O, h0, h => by
  have ih := Yv8 hf j q O h0
  simp only [itr] at h ⊢
  by_cases e : (itr f j q O).2.1 = true
  ·rw [if_pos e] at h ⊢
   have h1 := ih e
   have h2 := hf j _ h1.1 h
   simp only [List.length_append, List.length_singleton]; omega
  ·rw [if_neg e] at h; exact absurd h e
theorem Yox (f : Nat -> Int -> YS × Bool × Int) (j : Nat) (q : Int) (O : List YS) (h : (itr f j q O).2.1 = true) : itr f (j + 1) q O = ((itr f j q O).1 ++ [(f j (itr f j q O).2.2).1], (f j (itr f j q O).2.2).2.1, (f j (itr f j q O).2.2).2.2) := by
 rw [itr, if_pos h]
theorem Yx9 (f : Nat -> Int -> YS × Bool × Int) (j : Nat) (q : Int) (O : List YS) (h : (itr f j q O).2.1 = false) : ∀ n, j <= n -> itr f n q O = itr f j q O
  | 0, hn => by obtain rfl : j = 0 := by omega
                rfl
  | n + 1, hn => by
    by_cases e : j = n + 1
    · rw [e]
    · have := Yx9 f j q O h n (by omega)
      rw [itr, this, h]; rfl
theorem Yvn : ∀ (l : List YS), (∀ x ∈ l, ∀ C q, 0 <= q -> (bld x C q).2.1 = true -> 0 <= (bld x C q).2.2 /\ (bld x C q).2.2 + 1 <= q) -> ∀ C q O, 0 <= q -> (Yiq l C q O).2.1 = true -> 0 <= (Yiq l C q O).2.2 /\ ((Yiq l C q O).1.length : Int) + (Yiq l C q O).2.2 <= O.length + q
 | [], _, C, q, O, h0, _ => by rw [Yp8]; simp only; omega
 | [x], hx, C, q, O, h0, h => by
  rw [Ytu] at h ⊢
  by_cases e : (bld x C q).2.1 = true
  ·rw [if_pos e] at h ⊢
   have h1 := hx x List.mem_cons_self C q h0 e
   have h2 := Yvn [] (fun _ h => by cases h) C _ (O ++ [(bld x C q).1]) h1.1 h
   simp only [List.length_append, List.length_singleton] at h2; omega
  ·rw [if_neg e] at h; cases h
 | x :: y :: r, hx, C, q, O, h0, h => by
  rw [Ypo] at h ⊢
  by_cases d : Yhr y = true
  ·rw [if_pos d] at h ⊢
   by_cases e : (bR C x q O).2.1 = true
   ·rw [if_pos e] at h ⊢
    have h1 : 0 <= (bR C x q O).2.2 /\ ((bR C x q O).1.length : Int) + (bR C x q O).2.2 <= O.length + q := by
     unfold bR bJ at e ⊢
     by_cases c : cnB C x = true
     ·rw [if_pos c] at e ⊢
      exact Yv8 (fun j q => hx x List.mem_cons_self _ q) _ q O h0 e
     ·rw [if_neg c] at e; cases e
    have h2 := Yvn r (fun z hz => hx z (List.mem_cons_of_mem _ (List.mem_cons_of_mem _ hz))) C _ (bR C x q O).1 h1.1 h
    omega
   ·rw [if_neg e] at h; exact absurd h e
  ·rw [if_neg d] at h ⊢
   by_cases e : (bld x C q).2.1 = true
   ·rw [if_pos e] at h ⊢
    have h1 := hx x List.mem_cons_self C q h0 e
    have h2 := Yvn (y :: r) (fun z hz => hx z (List.mem_cons_of_mem _ hz)) C _ (O ++ [(bld x C q).1]) h1.1 h
    simp only [List.length_append, List.length_singleton] at h2; omega
   ·rw [if_neg e] at h; cases h
theorem Y1ax : ∀ (t : YS) (C : List YC) (q : Int), 0 <= q -> (bld t C q).2.1 = true -> 0 <= (bld t C q).2.2 /\ (bld t C q).2.2 + 1 <= q := by
 refine YS.ind fun t ih C q h0 h => ?_
 have h3 := Yid (Yie C t).form
 rw [Ynn] at h ⊢
 by_cases c1 : q - 1 < 0
 ·rw [if_pos c1] at h; cases h
 rw [if_neg c1] at h ⊢
 by_cases c2 : t.kind = 1
 ·rw [if_pos c2] at h ⊢
  by_cases c3 : Yhr t = true ∨ fnd C t < 0
  ·rw [if_pos c3]; simp only; omega
  ·rw [if_neg c3] at h ⊢
   by_cases c4 : (Yie C t).depth ≠ 0
   ·rw [if_pos c4] at h; cases h
   ·rw [if_neg c4] at h ⊢
    by_cases c5 : (Yho (Yie C t).form : Int) <= q
    ·rw [if_pos c5]; simp only; omega
    ·rw [if_neg c5] at h; cases h
 ·rw [if_neg c2] at h ⊢
  by_cases c6 : (Yiq t.items C (q - 1) []).2.1 = true
  ·rw [if_pos c6]
   have := Yvn t.items ih C (q - 1) [] (by omega) c6
   simp only [List.length_nil] at this ⊢; omega
  ·rw [if_neg c6] at h; cases h
theorem Y1fz (C : List YC) (x : YS) (j : Nat) (q : Int) (O : List YS) (h0 : 0 <= q) (h : (bI C x j q O).2.1 = true) : 0 <= (bI C x j q O).2.2 /\ ((bI C x j q O).1.length : Int) + (bI C x j q O).2.2 <= O.length + q :=
 Yv8 (fun j q => Y1ax x _ q) j q O h0 h
theorem Y12d (C : List YC) (x : YS) (j : Nat) (q : Int) (O : List YS) (h0 : 0 <= q) (h : (bJ C x j q O).2.1 = true) : 0 <= (bJ C x j q O).2.2 /\ ((bJ C x j q O).1.length : Int) + (bJ C x j q O).2.2 <= O.length + q /\ cnB C x = true := by
 unfold bJ at h ⊢
 by_cases c : cnB C x = true
 ·rw [if_pos c] at h ⊢; exact ⟨(Y1fz C x j q O h0 h).1, (Y1fz C x j q O h0 h).2, c⟩
 ·rw [if_neg c] at h; cases h
theorem Yzr (C : List YC) (x : YS) (q : Int) (O : List YS) : bJ C x 0 q O = (O, cnB C x, q) := by
 unfold bJ bI itr
 cases h : cnB C x <;> simp
theorem Y1hl (C : List YC) (x : YS) (j : Nat) (q : Int) (O : List YS) (h : (bJ C x j q O).2.1 = true) : bJ C x (j + 1) q O = ((bJ C x j q O).1 ++ [(bld x (Ytm C x j) (bJ C x j q O).2.2).1], (bld x (Ytm C x j) (bJ C x j q O).2.2).2.1, (bld x (Ytm C x j) (bJ C x j q O).2.2).2.2) := by
 unfold bJ at h ⊢
 by_cases c : cnB C x = true
 ·simp only [if_pos c] at h ⊢; exact Yox _ j q O h
 ·rw [if_neg c] at h; cases h
theorem Y1h5 (C : List YC) (x : YS) (j : Nat) (q : Int) (O : List YS) (h : (bJ C x j q O).2.1 = false) (hn : j <= bN C x) : bR C x q O = bJ C x j q O := by
 unfold bR bJ at *
 by_cases c : cnB C x = true
 ·simp only [if_pos c] at h ⊢; exact Yx9 _ j q O h _ hn
 ·rw [if_neg c, if_neg c]
theorem Y1iw (C : List YC) (x : YS) (j : Nat) (q : Int) (O : List YS) (hn : j = bN C x) : bR C x q O = bJ C x j q O := by rw [hn]; rfl
theorem Yxm {C : List YC} {I : List YS} : ∀ (m j : Nat), j < m -> Yko C I m = true -> rep C (I.getD j default) = true -> ((Yie C (I.getD j default)).each.length : Int) = cnN C I m
 | 0, j, h, _, _ => by omega
 | m + 1, j, h, ht, hr => by
  simp only [Yko, Bool.and_eq_true, Bool.or_eq_true, Bool.not_eq_true', decide_eq_true_eq] at ht
  simp only [cnN]
  by_cases e : j = m
  ·subst e; rw [if_pos hr]
  ·have ih := Yxm m j (by omega) ht.1 hr
   split
   ·rename_i h2
    rcases ht.2 with (h3 | h3) | h3
    ·rw [h2] at h3; cases h3
    ·omega
    ·omega
   ·exact ih
theorem Y14p {C : List YC} {x : YS} (h : cnB C x = true) {y : YS} (hy : y ∈ Yhs x []) (h1 : 0 <= fnd C y) (h2 : 0 < (C.getD (fnd C y).toNat default).depth) : (C.getD (fnd C y).toNat default).each.length = bN C x := by
 simp only [cnB, Bool.and_eq_true, decide_eq_true_eq] at h
 obtain ⟨j, hj, rfl⟩ := List.getElem_of_mem hy
 have e : (Yhs x [])[j] = (Yhs x []).getD j default := by simp [hj]
 rw [e] at h1 h2 ⊢
 have := Yxm (Yhs x []).length j hj h.1 (by simp only [rep, Yie, Bool.and_eq_true]; exact ⟨by first | exact h1 | exact decide_eq_true h1, by first | exact h2 | exact decide_eq_true h2⟩)
 simp only [Yie] at this
 simp only [bN]; omega
theorem Y1bx {C : List YC} (hC : ∀ z ∈ C, mxP z <= 1000000000) (i a : Nat) : mxP ((C.getD i default).each.getD a default) <= 1000000000 := by
 have h0 : mxP (default : YC) = 0 := rfl
 rcases Nat.lt_or_ge a (C.getD i default).each.length with h1 | h1
 ·have h2 := Y158 (Yhn h1)
  have h3 := Yu3 (C.getD i default)
  rcases Nat.lt_or_ge i C.length with h4 | h4
  ·have := hC _ (Yhn h4); omega
  ·have e : C.getD i default = default := by simp [h4]
   have e2 : (default : YC).each.length = 0 := rfl
   rw [e, e2] at h1; omega
 ·have e : (C.getD i default).each.getD a default = default := by rw [List.getD_eq_getElem?_getD, List.getElem?_eq_none h1]; rfl
  rw [e, h0]; omega
theorem Y140 {C : List YC} (hC : ∀ z ∈ C, mxP z <= 1000000000) (a : Nat) : ∀ I, ∀ z ∈ Ysv C a I, mxP z <= 1000000000
 | [], z, h => hC z h
 | x :: r, z, h => by
  simp only [Ysv] at h
  split at h
  ·rcases List.mem_or_eq_of_mem_set h with h | h
   ·exact Y140 hC a r z h
   ·rw [h]; exact Y1bx hC _ _
  ·exact Y140 hC a r z h
theorem Y1j0 {C : List YC} (hC : ∀ z ∈ C, mxP z <= 1000000000) (x : YS) (j : Nat) : ∀ z ∈ Ytm C x j, mxP z <= 1000000000 := Y140 hC j _
theorem Y15o (C : List YC) (x : YS) (j : Nat) : (Ytm C x j).length = C.length := Yt1 C j _
theorem Y100 {C : List YC} (hC : ∀ z ∈ C, mxP z <= 1000000000) {t : YS} (h : 0 <= fnd C t) : wY (Yie C t).form <= 1000000000 := by
 have h1 := Ymk C t
 have h2 := hC (Yie C t) (Yhn (by omega))
 have h3 := Yu3 (Yie C t)
 omega
def lnI (C : List YC) (i : Int) : Int := ((C.getD i.toNat default).each.length : Int)
abbrev rpX (C : List YC) (x : YS) : List Int := rpi C x []
def rqA (C : List YC) (I : List Int) (n : Int) : Bool := I.all fun i => decide (lnI C i = n)
def rqB (C : List YC) (x : YS) : Bool := !decide ((rpX C x).length = 0) && rqA C (rpX C x) (lnI C ((rpX C x).getD 0 default))
abbrev rqN (C : List YC) (x : YS) : Nat := (C.getD ((rpX C x).getD 0 default).toNat default).each.length
def Ym9 (C : List YC) (a : Nat) (I : List Int) : List YC := I.foldl (fun O i => O.set i.toNat ((C.getD i.toNat default).each.getD a default)) C
abbrev stq (C : List YC) (x : YS) (a : Nat) : List YC := Ym9 C a (rpX C x)
theorem Y15i (C : List YC) (a : Nat) (I : List Int) : (Ym9 C a I).length = C.length := by
 have : ∀ (I : List Int) (O : List YC), (I.foldl (fun O i => O.set i.toNat ((C.getD i.toNat default).each.getD a default)) O).length = O.length := by
  intro I
  induction I with
  | nil => intro O; rfl
  | cons x r ih => intro O; rw [List.foldl_cons, ih, List.length_set]
 exact this I C
theorem Y1cy {C : List YC} {a : Nat} {I : List Int} {k : Nat} (h : k < I.length) : Ym9 C a (I.take (k + 1)) = (Ym9 C a (I.take k)).set (I.getD k default).toNat ((C.getD (I.getD k default).toNat default).each.getD a default) := by
 unfold Ym9; rw [Ync _ _ h]
mutual
/-- what the program builds of a template: the form, whether all went well, the nodes that are left -/
def bli : YS -> List YC -> Int -> YS × Bool × Int
  | ⟨k, n, x, s, l⟩, C, m => if k = 1 /\ 0 <= fnd C ⟨k, n, x, s, l⟩ then
      (if (Yie C ⟨k, n, x, s, l⟩).depth ≠ 0 then (zY, false, m)
       else if Yi7 (Yie C ⟨k, n, x, s, l⟩).form = true then ((Yie C ⟨k, n, x, s, l⟩).form, decide (0 <= m - Yho (Yie C ⟨k, n, x, s, l⟩).form), m - Yho (Yie C ⟨k, n, x, s, l⟩).form)
       else (zY, false, m))
    else if m - 1 < 0 then (zY, false, m - 1)
    else if (Yig l C (m - 1) []).2.1 = true then (⟨k, n, x, s, (Yig l C (m - 1) []).1⟩, true, (Yig l C (m - 1) []).2.2) else (zY, false, (Yig l C (m - 1) []).2.2)
def Yig : List YS -> List YC -> Int -> List YS -> List YS × Bool × Int
  | [], _, m, O => (O, true, m)
  | [x], C, m, O => if (bli x C m).2.1 = true then (O ++ [(bli x C m).1], true, (bli x C m).2.2) else (O, false, (bli x C m).2.2)
  | x :: y :: r, C, m, O => if Yhr y = true then
      (if rqB C x = true then
        (if (itr (fun j m => bli x (stq C x j) m) (rqN C x) m O).2.1 = true then
          Yig r C (itr (fun j m => bli x (stq C x j) m) (rqN C x) m O).2.2 (itr (fun j m => bli x (stq C x j) m) (rqN C x) m O).1
         else itr (fun j m => bli x (stq C x j) m) (rqN C x) m O)
       else (O, false, m))
    else if (bli x C m).2.1 = true then Yig (y :: r) C (bli x C m).2.2 (O ++ [(bli x C m).1]) else (O, false, (bli x C m).2.2)
end
def iI (C : List YC) (x : YS) (j : Nat) (q : Int) (O : List YS) : List YS × Bool × Int := itr (fun j q => bli x (stq C x j) q) j q O
def iR (C : List YC) (x : YS) (q : Int) (O : List YS) : List YS × Bool × Int := if rqB C x = true then iI C x (rqN C x) q O else (O, false, q)
theorem Yoq (t : YS) (C : List YC) (m : Int) : bli t C m = if t.kind = 1 /\ 0 <= fnd C t then
      (if (Yie C t).depth ≠ 0 then (zY, false, m)
       else if Yi7 (Yie C t).form = true then ((Yie C t).form, decide (0 <= m - Yho (Yie C t).form), m - Yho (Yie C t).form)
       else (zY, false, m))
    else if m - 1 < 0 then (zY, false, m - 1)
    else if (Yig t.items C (m - 1) []).2.1 = true then (⟨t.kind, t.number, t.text, t.scopes, (Yig t.items C (m - 1) []).1⟩, true, (Yig t.items C (m - 1) []).2.2) else (zY, false, (Yig t.items C (m - 1) []).2.2) := by
  cases t; rw [bli]
theorem Yp5 (C : List YC) (q : Int) (O : List YS) : Yig [] C q O = (O, true, q) := by rw [Yig]
theorem Ywq (x : YS) (C : List YC) (q : Int) (O : List YS) : Yig [x] C q O = if (bli x C q).2.1 = true then Yig [] C (bli x C q).2.2 (O ++ [(bli x C q).1]) else (O, false, (bli x C q).2.2) := by
 rw [Yp5, Yig]
theorem Yrd (x y : YS) (r : List YS) (C : List YC) (q : Int) (O : List YS) : Yig (x :: y :: r) C q O = if Yhr y = true then (if (iR C x q O).2.1 = true then Yig r C (iR C x q O).2.2 (iR C x q O).1 else iR C x q O)
  else if (bli x C q).2.1 = true then Yig (y :: r) C (bli x C q).2.2 (O ++ [(bli x C q).1]) else (O, false, (bli x C q).2.2) := by
 rw [Yig]
 split
 ·unfold iR
  split
  ·rfl
  ·rfl
 ·rfl
theorem Y1er {l : List YS} {k : Nat} {C : List YC} {q : Int} {O : List YS} (h : l.length <= k) : Yig (l.drop k) C q O = (O, true, q) := by
 rw [List.drop_eq_nil_of_le h, Yp5]
theorem Yyi {l : List YS} {k : Nat} {C : List YC} {q : Int} {O : List YS} (h : k < l.length) (hd : l.length <= k + 1 ∨ Yhr (l.getD (k + 1) default) = false) :
  Yig (l.drop k) C q O = if (bli (l.getD k default) C q).2.1 = true then Yig (l.drop (k + 1)) C (bli (l.getD k default) C q).2.2 (O ++ [(bli (l.getD k default) C q).1]) else (O, false, (bli (l.getD k default) C q).2.2) := by
 rw [Yj4 h]
 rcases Nat.lt_or_ge (k + 1) l.length with h1 | h1
 ·rw [Yj4 h1, Yrd, if_neg (by rcases hd with h2 | h2 <;> first | (exfalso; omega) | (rw [h2]; decide))]
 ·rw [List.drop_eq_nil_of_le h1, Ywq]
theorem Yrf {l : List YS} {k : Nat} {C : List YC} {q : Int} {O : List YS} (h : k + 1 < l.length) (hd : Yhr (l.getD (k + 1) default) = true) :
  Yig (l.drop k) C q O = if (iR C (l.getD k default) q O).2.1 = true then Yig (l.drop (k + 1 + 1)) C (iR C (l.getD k default) q O).2.2 (iR C (l.getD k default) q O).1 else iR C (l.getD k default) q O := by
 rw [Yj4 (by omega : k < l.length), Yj4 h, Yrd, if_pos hd]
theorem Yvk : ∀ (l : List YS), (∀ x ∈ l, ∀ C q, 0 <= q -> (bli x C q).2.1 = true -> 0 <= (bli x C q).2.2 /\ (bli x C q).2.2 + 1 <= q) -> ∀ C q O, 0 <= q -> (Yig l C q O).2.1 = true -> 0 <= (Yig l C q O).2.2 /\ ((Yig l C q O).1.length : Int) + (Yig l C q O).2.2 <= O.length + q
 | [], _, C, q, O, h0, _ => by rw [Yp5]; simp only; omega
 | [x], hx, C, q, O, h0, h => by
  rw [Ywq] at h ⊢
  by_cases e : (bli x C q).2.1 = true
  ·rw [if_pos e] at h ⊢
   have h1 := hx x List.mem_cons_self C q h0 e
   have h2 := Yvk [] (fun _ h => by cases h) C _ (O ++ [(bli x C q).1]) h1.1 h
   simp only [List.length_append, List.length_singleton] at h2; omega
  ·rw [if_neg e] at h; cases h
 | x :: y :: r, hx, C, q, O, h0, h => by
  rw [Yrd] at h ⊢
  by_cases d : Yhr y = true
  ·rw [if_pos d] at h ⊢
   by_cases e : (iR C x q O).2.1 = true
   ·rw [if_pos e] at h ⊢
    have h1 : 0 <= (iR C x q O).2.2 /\ ((iR C x q O).1.length : Int) + (iR C x q O).2.2 <= O.length + q := by
     unfold iR at e ⊢
     by_cases c : rqB C x = true
     ·rw [if_pos c] at e ⊢
      exact Yv8 (fun j q => hx x List.mem_cons_self _ q) _ q O h0 e
     ·rw [if_neg c] at e; cases e
    have h2 := Yvk r (fun z hz => hx z (List.mem_cons_of_mem _ (List.mem_cons_of_mem _ hz))) C _ (iR C x q O).1 h1.1 h
    omega
   ·rw [if_neg e] at h; exact absurd h e
  ·rw [if_neg d] at h ⊢
   by_cases e : (bli x C q).2.1 = true
   ·rw [if_pos e] at h ⊢
    have h1 := hx x List.mem_cons_self C q h0 e
    have h2 := Yvk (y :: r) (fun z hz => hx z (List.mem_cons_of_mem _ hz)) C _ (O ++ [(bli x C q).1]) h1.1 h
    simp only [List.length_append, List.length_singleton] at h2; omega
   ·rw [if_neg e] at h; cases h
theorem Yun : ∀ (t : YS) (C : List YC) (q : Int), 0 <= q -> (bli t C q).2.1 = true -> 0 <= (bli t C q).2.2 /\ (bli t C q).2.2 + 1 <= q := by
 refine YS.ind fun t ih C q h0 h => ?_
 have h3 := Yid (Yie C t).form
 rw [Yoq] at h ⊢
 by_cases c2 : t.kind = 1 /\ 0 <= fnd C t
 ·rw [if_pos c2] at h ⊢
  by_cases c4 : (Yie C t).depth ≠ 0
  ·rw [if_pos c4] at h; cases h
  ·rw [if_neg c4] at h ⊢
   by_cases c5 : Yi7 (Yie C t).form = true
   ·rw [if_pos c5] at h ⊢
    simp only [decide_eq_true_eq] at h ⊢
    omega
   ·rw [if_neg c5] at h; cases h
 ·rw [if_neg c2] at h ⊢
  by_cases c1 : q - 1 < 0
  ·rw [if_pos c1] at h; cases h
  rw [if_neg c1] at h ⊢
  by_cases c6 : (Yig t.items C (q - 1) []).2.1 = true
  ·rw [if_pos c6]
   have := Yvk t.items ih C (q - 1) [] (by omega) c6
   simp only [List.length_nil] at this ⊢; omega
  ·rw [if_neg c6] at h; cases h
theorem Y1ga (C : List YC) (x : YS) (j : Nat) (q : Int) (O : List YS) (h0 : 0 <= q) (h : (iI C x j q O).2.1 = true) : 0 <= (iI C x j q O).2.2 /\ ((iI C x j q O).1.length : Int) + (iI C x j q O).2.2 <= O.length + q :=
 Yv8 (fun j q => Yun x _ q) j q O h0 h
theorem Y16z (C : List YC) (x : YS) (j : Nat) (q : Int) (O : List YS) (h : (iI C x j q O).2.1 = true) : iI C x (j + 1) q O = ((iI C x j q O).1 ++ [(bli x (stq C x j) (iI C x j q O).2.2).1], (bli x (stq C x j) (iI C x j q O).2.2).2.1, (bli x (stq C x j) (iI C x j q O).2.2).2.2) := Yox _ j q O h
theorem Y1gt (C : List YC) (x : YS) (j n : Nat) (q : Int) (O : List YS) (h : (iI C x j q O).2.1 = false) (hn : j <= n) : iI C x n q O = iI C x j q O := Yx9 _ j q O h n hn
theorem Y1j8 {C : List YC} (hC : ∀ z ∈ C, mxP z <= 1000000000) (a : Nat) (I : List Int) : ∀ z ∈ Ym9 C a I, mxP z <= 1000000000 := by
 have : ∀ (I : List Int) (O : List YC), (∀ z ∈ O, mxP z <= 1000000000) -> ∀ z ∈ I.foldl (fun O i => O.set i.toNat ((C.getD i.toNat default).each.getD a default)) O, mxP z <= 1000000000 := by
  intro I
  induction I with
  | nil => intro O h; exact h
  | cons x r ih =>
   intro O h
   rw [List.foldl_cons]
   refine ih _ fun z hz => ?_
   rcases List.mem_or_eq_of_mem_set hz with h2 | h2
   ·exact h z h2
   ·rw [h2]; exact Y1bx hC _ _
 exact this I C hC
mutual
def nmZ : YS -> List YS
 | ⟨k, n, t, s, l⟩ => (if k = 1 then [⟨k, n, t, s, l⟩] else []) ++ Y13x l
def Y13x : List YS -> List YS
 | [] => []
 | x :: r => nmZ x ++ Y13x r
end
theorem Y17x : ∀ l, Y13x l = l.flatMap nmZ
 | [] => by simp [Y13x]
 | x :: r => by rw [Y13x, Y17x r]; simp
theorem Y15w (x : YS) : nmZ x = (if x.kind = 1 then [x] else []) ++ x.items.flatMap nmZ := by cases x; simp only [nmZ, Y17x]
def Yon (o : List YS) (y : YS) : List YS := if Yim o y = false then o ++ [y] else o
def Yvw (C : List YC) (o : List Int) (y : YS) : List Int := if rep C y = true /\ fnd C y ∉ o then o ++ [fnd C y] else o
theorem Yst {α β γ : Type} (f : γ -> α -> γ) (g : γ -> β -> γ) (h : β -> List α) : ∀ (l : List β), (∀ x ∈ l, ∀ o, g o x = (h x).foldl f o) -> ∀ o, l.foldl g o = (l.flatMap h).foldl f o
 | [], _, o => rfl
 | x :: r, hx, o => by
  rw [List.foldl_cons, List.flatMap_cons, List.foldl_append, hx x List.mem_cons_self, Yst f g h r fun y hy => hx y (List.mem_cons_of_mem _ hy)]
theorem Y1f9 : ∀ (x : YS) (o : List YS), Yhs x o = (nmZ x).foldl Yon o := by
 refine YS.ind fun x ih o => ?_
 rw [Y10g, Y15w, List.foldl_append, Yst Yon _ nmZ x.items ih]
 congr 1
 unfold Yq0
 by_cases h : x.kind = 1
 ·rw [if_pos h]; simp [Yon, h]
 ·rw [if_neg h]; simp [h]
theorem Y1ho (C : List YC) : ∀ (x : YS) (o : List Int), rpi C x o = (nmZ x).foldl (Yvw C) o := by
 refine YS.ind fun x ih o => ?_
 rw [Y12x, Y15w, List.foldl_append, Yst (Yvw C) _ nmZ x.items ih]
 congr 1
 unfold Yq1
 by_cases h : x.kind = 1
 ·rw [if_pos h]; simp [Yvw, h]
 ·rw [if_neg h]; simp [h]
theorem Y15e : ∀ (x : YS), ∀ y ∈ nmZ x, y.kind = 1 := by
 refine YS.ind fun x ih y hy => ?_
 rw [Y15w, List.mem_append, List.mem_flatMap] at hy
 rcases hy with hy | ⟨z, hz, hy⟩
 ·split at hy
  ·rename_i h; rw [List.mem_singleton] at hy; subst hy; exact h
  ·cases hy
 ·exact ih z hz y hy
theorem Y1dv {C : List YC} {a b : YS} (h1 : a.text = b.text) (h2 : a.scopes = b.scopes) (ha : a.kind = 1) (hb : b.kind = 1) : fnd C a = fnd C b := by
 have e : Yl8 a = Yl8 b := by funext x; simp only [Yl8, h1, h2]
 simp only [fnd, Ymd, Yhr, e, h1, ha, hb]
theorem Y1fr {o : List YS} {y : YS} : Yim o y = true ↔ ∃ z ∈ o, z.text = y.text /\ z.scopes = y.scopes := by
 simp only [Yim, List.any_eq_true, Bool.and_eq_true, decide_eq_true_eq]
theorem Y1d0 (L : List YS) : ∀ (o : List YS), (∀ z ∈ L.foldl Yon o, z ∈ o ∨ z ∈ L) /\ (∀ y, y ∈ o ∨ y ∈ L -> ∃ z ∈ L.foldl Yon o, z.text = y.text /\ z.scopes = y.scopes) := by
 induction L with
 | nil => intro o; exact ⟨fun z hz => .inl hz, fun y hy => ⟨y, by simpa using hy, rfl, rfl⟩⟩
 | cons x r ih =>
  intro o
  rw [List.foldl_cons]
  obtain ⟨h1, h2⟩ := ih (Yon o x)
  constructor
  ·intro z hz
   rcases h1 z hz with h | h
   ·unfold Yon at h
    split at h
    ·rcases List.mem_append.1 h with h | h
     ·exact .inl h
     ·rw [List.mem_singleton.1 h]; exact .inr List.mem_cons_self
    ·exact .inl h
   ·exact .inr (List.mem_cons_of_mem _ h)
  ·intro y hy
   have h3 : ∃ z ∈ Yon o x, z.text = x.text /\ z.scopes = x.scopes := by
    unfold Yon
    by_cases e : Yim o x = false
    ·rw [if_pos e]; exact ⟨x, by simp, rfl, rfl⟩
    ·rw [if_neg e]; exact Y1fr.1 (by simpa using e)
   have h4 : ∀ z ∈ o, z ∈ Yon o x := fun z hz => by unfold Yon; split <;> simp [hz]
   rcases hy with hy | hy
   ·exact h2 y (.inl (h4 y hy))
   ·rcases List.mem_cons.1 hy with rfl | hy
    ·obtain ⟨z, hz, e1, e2⟩ := h3
     obtain ⟨w, hw, e3, e4⟩ := h2 z (.inl hz)
     exact ⟨w, hw, e3.trans e1, e4.trans e2⟩
    ·exact h2 y (.inr hy)
theorem Y1cl (C : List YC) (L : List YS) : ∀ (o : List Int) (i : Int), i ∈ L.foldl (Yvw C) o ↔ (i ∈ o ∨ ∃ y ∈ L, rep C y = true /\ fnd C y = i) := by
 induction L with
 | nil => intro o i; simp
 | cons x r ih =>
  intro o i
  rw [List.foldl_cons, ih]
  have e : i ∈ Yvw C o x ↔ (i ∈ o ∨ (rep C x = true /\ fnd C x = i)) := by
   unfold Yvw
   by_cases h : rep C x = true /\ fnd C x ∉ o
   ·rw [if_pos h, List.mem_append, List.mem_singleton]
    constructor
    ·rintro (a | rfl)
     ·exact .inl a
     ·exact .inr ⟨h.1, rfl⟩
    ·rintro (a | ⟨_, rfl⟩)
     ·exact .inl a
     ·exact .inr rfl
   ·rw [if_neg h]
    constructor
    ·exact .inl
    ·rintro (a | ⟨a, rfl⟩)
     ·exact a
     ·exact Decidable.byContradiction fun n => h ⟨a, n⟩
  rw [e]
  simp only [List.mem_cons, exists_eq_or_imp, or_assoc]
theorem Yp9 {C : List YC} {x : YS} {i : Int} : i ∈ rpX C x ↔ ∃ y ∈ Yhs x [], rep C y = true /\ fnd C y = i := by
 unfold rpX
 rw [Y1ho, Y1cl, Y1f9]
 have h := Y1d0 (nmZ x) []
 constructor
 ·rintro (a | ⟨y, hy, h1, h2⟩)
  ·cases a
  ·obtain ⟨z, hz, e1, e2⟩ := h.2 y (.inr hy)
   have hz' : z ∈ nmZ x := by rcases h.1 z hz with a | a; cases a; exact a
   have e := @Y1dv C z y e1 e2 (Y15e x z hz') (Y15e x y hy)
   exact ⟨z, hz, by simpa [rep, Yie, e] using h1, e.trans h2⟩
 ·rintro ⟨y, hy, h1, h2⟩
  refine .inr ⟨y, ?_, h1, h2⟩
  rcases h.1 y hy with a | a
  ·cases a
  ·exact a
theorem Yzc {C : List YC} {y : YS} (h : rep C y = true) : lnI C (fnd C y) = ((Yie C y).each.length : Int) /\ 0 <= fnd C y := by
 simp only [rep, Bool.and_eq_true, decide_eq_true_eq] at h
 exact ⟨rfl, h.1⟩
theorem Y1g9 {C : List YC} {I : List YS} {n : Int} (h0 : 0 <= n) : ∀ m, (∀ j, j < m -> rep C (I.getD j default) = true -> ((Yie C (I.getD j default)).each.length : Int) = n) -> Yko C I m = true /\ (cnN C I m = n ∨ cnN C I m = -1)
 | 0, _ => ⟨rfl, .inr rfl⟩
 | m + 1, h => by
  obtain ⟨h1, h2⟩ := Y1g9 h0 m fun j hj => h j (by omega)
  have h3 := h m (by omega)
  simp only [Yko, cnN, Bool.and_eq_true, Bool.or_eq_true, Bool.not_eq_true', decide_eq_true_eq]
  by_cases e : rep C (I.getD m default) = true
  ·rw [if_pos e]
   have := h3 e
   refine ⟨⟨h1, ?_⟩, .inl this⟩
   rcases h2 with h2 | h2
   ·exact .inr (by omega)
   ·exact .inl (.inr (by omega))
  ·rw [if_neg e]
   exact ⟨⟨h1, .inl (.inl (by simpa using e))⟩, h2⟩
theorem Y10a {C : List YC} {I : List YS} : ∀ m, m <= I.length -> 0 <= cnN C I m -> ∃ y ∈ I, rep C y = true
 | 0, _, h => by simp only [cnN] at h; omega
 | m + 1, hm, h => by
  simp only [cnN] at h
  split at h
  ·rename_i e; exact ⟨_, Yhn (by omega), e⟩
  ·exact Y10a m (by omega) h
theorem Y1l0 (C : List YC) (x : YS) : rqB C x = cnB C x /\ (cnB C x = true -> rqN C x = bN C x) := by
 have hall : cnB C x = true -> ∀ i ∈ rpX C x, lnI C i = cnN C (Yhs x []) (Yhs x []).length := by
  intro h i hi
  simp only [cnB, Bool.and_eq_true, decide_eq_true_eq] at h
  obtain ⟨y, hy, h1, rfl⟩ := Yp9.1 hi
  rw [(Yzc h1).1]
  obtain ⟨j, hj, rfl⟩ := List.getElem_of_mem hy
  have e : (Yhs x [])[j] = (Yhs x []).getD j default := by simp [hj]
  rw [e] at h1 ⊢
  exact Yxm _ j hj h.1 h1
 have hne : cnB C x = true -> 0 < (rpX C x).length := by
  intro h
  simp only [cnB, Bool.and_eq_true, decide_eq_true_eq] at h
  obtain ⟨y, hy, h1⟩ := Y10a _ (Nat.le_refl _) h.2
  exact List.length_pos_of_mem (Yp9.2 ⟨y, hy, h1, rfl⟩)
 refine ⟨?_, fun h => ?_⟩
 ·rw [Bool.eq_iff_iff]
  constructor
  ·intro h
   simp only [rqB, rqA, Bool.and_eq_true, Bool.not_eq_true', decide_eq_false_iff_not, List.all_eq_true, decide_eq_true_eq] at h
   have hl : 0 < (rpX C x).length := by omega
   have h0 : 0 <= lnI C ((rpX C x).getD 0 default) := by simp only [lnI]; omega
   have h1 := @Y1g9 C (Yhs x []) _ h0 (Yhs x []).length fun j hj hr => by
    rw [<- (Yzc hr).1]
    exact h.2 _ (Yp9.2 ⟨_, Yhn hj, hr, rfl⟩)
   obtain ⟨y, hy, hr, _⟩ := Yp9.1 (Yhn hl)
   obtain ⟨j, hj, rfl⟩ := List.getElem_of_mem hy
   have e : (Yhs x [])[j] = (Yhs x []).getD j default := by simp [hj]
   rw [e] at hr
   have := Yxm _ j hj h1.1 hr
   simp only [cnB, Bool.and_eq_true, decide_eq_true_eq]
   exact ⟨h1.1, by omega⟩
  ·intro h
   have h1 := hall h
   have h2 := hne h
   simp only [rqB, rqA, Bool.and_eq_true, Bool.not_eq_true', decide_eq_false_iff_not, List.all_eq_true, decide_eq_true_eq]
   exact ⟨by omega, fun i hi => by rw [h1 i hi, h1 _ (Yhn h2)]⟩
 ·have h1 := hall h _ (Yhn (hne h))
  simp only [lnI] at h1
  simp only [rqN, bN]; omega
theorem Y18f (C : List YC) (a p : Nat) : ∀ L, (Ysv C a L)[p]? = if (∃ y ∈ L, rep C y = true /\ (fnd C y).toNat = p) /\ p < C.length then some ((C.getD p default).each.getD a default) else C[p]?
 | [] => by simp [Ysv]
 | x :: r => by
  have ih := Y18f C a p r
  have hl := Yt1 C a r
  have er : (0 <= fnd C x /\ 0 < (C.getD (fnd C x).toNat default).depth) ↔ rep C x = true := by
   unfold rep; rw [Bool.and_eq_true, decide_eq_true_eq, decide_eq_true_eq]; exact Iff.rfl
  simp only [Ysv]
  by_cases e : rep C x = true
  ·rw [if_pos (er.2 e), List.getElem?_set, hl]
   by_cases e2 : (fnd C x).toNat = p
   ·rw [if_pos e2]
    by_cases e3 : p < C.length
    ·rw [if_pos (by omega), if_pos ⟨⟨x, List.mem_cons_self, e, e2⟩, e3⟩, e2]
    ·rw [if_neg (by omega), if_neg (fun h => e3 h.2)]
     rw [List.getElem?_eq_none (by omega)]
   ·rw [if_neg e2, ih]
    congr 1
    apply propext
    constructor
    ·rintro ⟨⟨y, hy, h⟩, h2⟩; exact ⟨⟨y, List.mem_cons_of_mem _ hy, h⟩, h2⟩
    ·rintro ⟨⟨y, hy, h⟩, h2⟩
     rcases List.mem_cons.1 hy with rfl | hy
     ·exact absurd h.2 e2
     ·exact ⟨⟨y, hy, h⟩, h2⟩
  ·rw [if_neg (fun h => e (er.1 h)), ih]
   congr 1
   apply propext
   constructor
   ·rintro ⟨⟨y, hy, h⟩, h2⟩; exact ⟨⟨y, List.mem_cons_of_mem _ hy, h⟩, h2⟩
   ·rintro ⟨⟨y, hy, h⟩, h2⟩
    rcases List.mem_cons.1 hy with rfl | hy
    ·exact absurd h.1 e
    ·exact ⟨⟨y, hy, h⟩, h2⟩
theorem Y1hy (C : List YC) (a p : Nat) (I : List Int) : (Ym9 C a I)[p]? = if (∃ i ∈ I, i.toNat = p) /\ p < C.length then some ((C.getD p default).each.getD a default) else C[p]? := by
 have : ∀ (I : List Int) (O : List YC), O.length = C.length -> (I.foldl (fun O i => O.set i.toNat ((C.getD i.toNat default).each.getD a default)) O)[p]? = if (∃ i ∈ I, i.toNat = p) /\ p < C.length then some ((C.getD p default).each.getD a default) else O[p]? := by
  intro I
  induction I with
  | nil => intro O _; simp
  | cons x r ih =>
   intro O hO
   rw [List.foldl_cons, ih _ (by rw [List.length_set]; exact hO), List.getElem?_set, hO]
   by_cases e3 : p < C.length
   ·by_cases e : ∃ i ∈ r, i.toNat = p
    ·obtain ⟨i, hi, h⟩ := e
     rw [if_pos ⟨⟨i, hi, h⟩, e3⟩, if_pos ⟨⟨i, List.mem_cons_of_mem _ hi, h⟩, e3⟩]
    ·rw [if_neg (fun h => e h.1)]
     by_cases e2 : x.toNat = p
     ·rw [if_pos e2, if_pos (by omega), if_pos ⟨⟨x, List.mem_cons_self, e2⟩, e3⟩, e2]
     ·rw [if_neg e2, if_neg]
      rintro ⟨⟨i, hi, h⟩, _⟩
      rcases List.mem_cons.1 hi with rfl | hi
      ·exact e2 h
      ·exact e ⟨i, hi, h⟩
   ·have n1 : ¬ ((∃ i ∈ r, i.toNat = p) /\ p < C.length) := fun h => e3 h.2
    have n2 : ¬ ((∃ i ∈ x :: r, i.toNat = p) /\ p < C.length) := fun h => e3 h.2
    rw [if_neg n1, if_neg n2]
    split
    ·rename_i h; rw [if_neg (by omega), List.getElem?_eq_none (by omega)]
    ·rfl
 exact this I C rfl
theorem Y1kf (C : List YC) (x : YS) (a : Nat) : stq C x a = Ytm C x a := by
 apply List.ext_getElem?
 intro p
 unfold stq Ytm Yk0
 rw [Y1hy, Y18f, List.take_length]
 congr 1
 apply propext
 constructor
 ·rintro ⟨⟨i, hi, h⟩, h2⟩
  obtain ⟨y, hy, h3, rfl⟩ := Yp9.1 hi
  exact ⟨⟨y, List.mem_reverse.2 hy, h3, h⟩, h2⟩
 ·rintro ⟨⟨y, hy, h3, h⟩, h2⟩
  exact ⟨⟨_, Yp9.2 ⟨y, List.mem_reverse.1 hy, h3, rfl⟩, h⟩, h2⟩
def Yte (s : YS) : Prop := okY s = true /\ Yi6 s <= 40
theorem Y13w {f : Nat -> Int -> YS × Bool × Int} {z : YS} {q : Int} {O : List YS} (h : z ∈ O) : ∀ j, z ∈ (itr f j q O).1
 | 0 => h
 | j + 1 => by
  have := Y13w (f := f) (q := q) h j
  simp only [itr]; split
  ·exact List.mem_append_left _ this
  ·exact this
theorem Y1dk {f : Nat -> Int -> YS × Bool × Int} {q : Int} {O : List YS} {j : Nat} (h : (itr f (j + 1) q O).2.1 = true) : (itr f j q O).2.1 = true := by
 simp only [itr] at h; split at h
 ·assumption
 ·exact h
theorem Y18d {f g : Nat -> Int -> YS × Bool × Int} (hg : ∀ j q, 0 <= q -> (g j q).2.1 = true -> 0 <= (g j q).2.2 /\ (g j q).2.2 + 1 <= q)
  (h : ∀ j q, 0 <= q -> q <= 2000 -> ((g j q).2.1 = true -> f j q = g j q) /\ ((f j q).2.1 = true -> Yte (f j q).1 -> (g j q).2.1 = true)) {q : Int} (h0 : 0 <= q) (h1 : q <= 2000) (O : List YS) :
  ∀ j, ((itr g j q O).2.1 = true -> itr f j q O = itr g j q O /\ 0 <= (itr g j q O).2.2 /\ (itr g j q O).2.2 <= q) /\ ((itr f j q O).2.1 = true -> (∀ z ∈ (itr f j q O).1, Yte z) -> (itr g j q O).2.1 = true)
 | 0 => ⟨fun _ => ⟨rfl, h0, Int.le_refl _⟩, fun _ _ => rfl⟩
 | j + 1 => by
  obtain ⟨ih1, ih2⟩ := Y18d hg h h0 h1 O j
  constructor
  ·intro ht
   have hj := Y1dk ht
   obtain ⟨e, b1, b2⟩ := ih1 hj
   rw [Yox g j q O hj] at ht ⊢
   rw [Yox f j q O (by rw [e]; exact hj), e]
   have h3 := (h j _ b1 (by omega)).1 ht
   have h4 := hg j _ b1 ht
   rw [h3]
   exact ⟨rfl, h4.1, by simp only; omega⟩
  ·intro ht hz
   have hj := Y1dk ht
   rw [Yox f j q O hj] at ht hz
   have hgj := ih2 hj fun z hz' => hz z (List.mem_append_left _ hz')
   obtain ⟨e, b1, b2⟩ := ih1 hgj
   rw [Yox g j q O hgj]
   have h3 := (h j (itr f j q O).2.2 (by rw [e]; exact b1) (by rw [e]; omega)).2 ht (hz _ (List.mem_append_right _ (List.mem_singleton.2 rfl)))
   rw [e] at h3
   exact h3
theorem Y185 {C : List YC} {x z : YS} {q : Int} {O : List YS} (h : z ∈ O) : z ∈ (bR C x q O).1 := by
 unfold bR bJ bI; split
 ·exact Y13w h _
 ·exact h
theorem Ypu : ∀ (l : List YS) (C : List YC) (q : Int) (O : List YS) (z : YS), z ∈ O -> z ∈ (Yiq l C q O).1
 | [], C, q, O, z, h => by rw [Yp8]; exact h
 | [x], C, q, O, z, h => by
  rw [Ytu]; split
  ·exact Ypu [] C _ _ z (List.mem_append_left _ h)
  ·exact h
 | x :: y :: r, C, q, O, z, h => by
  rw [Ypo]; split
  ·split
   ·exact Ypu r C _ _ z (Y185 h)
   ·exact Y185 h
  ·split
   ·exact Ypu (y :: r) C _ _ z (List.mem_append_left _ h)
   ·exact h
def Y1et (x : YS) : Prop := ∀ C q, 0 <= q -> q <= 2000 -> ((bli x C q).2.1 = true -> bld x C q = bli x C q) /\ ((bld x C q).2.1 = true -> Yte (bld x C q).1 -> (bli x C q).2.1 = true)
theorem Y1jq {x : YS} (hx : Y1et x) (C : List YC) {q : Int} (h0 : 0 <= q) (h1 : q <= 2000) (O : List YS) :
  ((iR C x q O).2.1 = true -> bR C x q O = iR C x q O /\ 0 <= (iR C x q O).2.2 /\ (iR C x q O).2.2 <= q) /\ ((bR C x q O).2.1 = true -> (∀ z ∈ (bR C x q O).1, Yte z) -> (iR C x q O).2.1 = true) := by
 obtain ⟨e1, e2⟩ := Y1l0 C x
 unfold iR bR bJ
 rw [e1]
 by_cases c : cnB C x = true
 ·rw [if_pos c, if_pos c, e2 c]
  have e3 : iI C x (bN C x) q O = itr (fun j q => bli x (Ytm C x j) q) (bN C x) q O := by unfold iI; congr 1; funext j m; rw [Y1kf]
  rw [e3]
  exact Y18d (fun j q => Yun x _ q) (fun j q a b => hx _ q a b) h0 h1 O (bN C x)
 ·rw [if_neg c, if_neg c]
  exact ⟨fun h => (by cases h), fun h => (by cases h)⟩
theorem Yr6 : ∀ (l : List YS) (b : Bool), (∀ x ∈ l, Yl4 x = true -> Y1et x) -> (∀ x, l.head? = some x -> Yhr x = false) -> Yio b l = true -> ∀ C q O, 0 <= q -> q <= 2000 ->
  ((Yig l C q O).2.1 = true -> Yiq l C q O = Yig l C q O) /\ ((Yiq l C q O).2.1 = true -> (∀ z ∈ (Yiq l C q O).1, Yte z) -> (Yig l C q O).2.1 = true)
 | [], b, _, _, _, C, q, O, h0, h1 => by rw [Yp8, Yp5]; exact ⟨fun _ => rfl, fun _ _ => rfl⟩
 | [x], b, hx, hh, hd, C, q, O, h0, h1 => by
  have hn : Yhr x = false := hh x rfl
  simp only [Yio, hn, Bool.and_true] at hd
  have h := hx x List.mem_cons_self (by simpa using hd) C q h0 h1
  rw [Ytu, Ywq, Yp8, Yp5]
  constructor
  ·intro ht
   by_cases e : (bli x C q).2.1 = true
   ·rw [if_pos e, h.1 e, if_pos e]
   ·rw [if_neg e] at ht; cases ht
  ·intro ht hz
   by_cases e : (bld x C q).2.1 = true
   ·rw [if_pos e] at hz
    have := h.2 e (hz _ (List.mem_append_right _ (List.mem_singleton.2 rfl)))
    rw [if_pos this]
   ·rw [if_neg e] at ht; cases ht
 | x :: y :: r, b, hx, hh, hd, C, q, O, h0, h1 => by
  have hn : Yhr x = false := hh x rfl
  have hd2 : Yl4 x = true /\ Yio false (y :: r) = true := by
   rw [Yio, hn] at hd
   simpa using hd
  have hxr := hx x List.mem_cons_self hd2.1
  rw [Ypo, Yrd]
  by_cases d : Yhr y = true
  ·rw [if_pos d, if_pos d]
   have hr : Yio true r = true := by
    have := hd2.2
    rw [Yio, d] at this
    simpa using this
   have hrh : ∀ z, r.head? = some z -> Yhr z = false := by
    intro z hz
    cases r with
    | nil => cases hz
    | cons w r =>
     simp only [List.head?_cons, Option.some.injEq] at hz
     subst hz
     cases e : Yhr w with
     | false => rfl
     | true => rw [Yio, e] at hr; simp at hr
   have h := Y1jq hxr C h0 h1 O
   constructor
   ·intro ht
    by_cases e : (iR C x q O).2.1 = true
    ·obtain ⟨e1, b1, b2⟩ := h.1 e
     rw [if_pos e] at ht ⊢
     rw [e1, if_pos e]
     exact (Yr6 r true (fun z hz => hx z (List.mem_cons_of_mem _ (List.mem_cons_of_mem _ hz))) hrh hr C _ _ b1 (by omega)).1 ht
    ·rw [if_neg e] at ht; exact absurd ht e
   ·intro ht hz
    by_cases e : (bR C x q O).2.1 = true
    ·rw [if_pos e] at ht hz
     have hi := h.2 e fun z hz' => hz z (Ypu r C _ _ z hz')
     obtain ⟨e1, b1, b2⟩ := h.1 hi
     rw [if_pos hi]
     rw [e1] at ht hz
     exact (Yr6 r true (fun z hz => hx z (List.mem_cons_of_mem _ (List.mem_cons_of_mem _ hz))) hrh hr C _ _ b1 (by omega)).2 ht hz
    ·rw [if_neg e] at ht; exact absurd ht e
  ·rw [if_neg d, if_neg d]
   have h := hxr C q h0 h1
   have hyh : ∀ z, (y :: r).head? = some z -> Yhr z = false := by
    intro z hz
    simp only [List.head?_cons, Option.some.injEq] at hz
    subst hz; simpa using d
   constructor
   ·intro ht
    by_cases e : (bli x C q).2.1 = true
    ·have hb := Yun x C q h0 e
     rw [if_pos e] at ht ⊢
     rw [h.1 e, if_pos e]
     exact (Yr6 (y :: r) false (fun z hz => hx z (List.mem_cons_of_mem _ hz)) hyh hd2.2 C _ _ hb.1 (by omega)).1 ht
    ·rw [if_neg e] at ht; cases ht
   ·intro ht hz
    by_cases e : (bld x C q).2.1 = true
    ·rw [if_pos e] at ht hz
     have hi := h.2 e (hz _ (Ypu (y :: r) C _ _ _ (List.mem_append_right _ (List.mem_singleton.2 rfl))))
     have hb := Yun x C q h0 hi
     rw [if_pos hi]
     rw [h.1 hi] at ht hz
     exact (Yr6 (y :: r) false (fun z hz => hx z (List.mem_cons_of_mem _ hz)) hyh hd2.2 C _ _ hb.1 (by omega)).2 ht hz
    ·rw [if_neg e] at ht; cases ht
theorem Y19p {l : List YS} (h : Yio true l = true) : ∀ x, l.head? = some x -> Yhr x = false := by
 intro x hx
 cases l with
 | nil => cases hx
 | cons y r =>
  simp only [List.head?_cons, Option.some.injEq] at hx
  subst hx
  cases e : Yhr y with
  | false => rfl
  | true => rw [Yio, e] at h; simp at h
theorem Y1dx {t : YS} (h : okY t = true) : (t.kind = 1 -> t.items = []) /\ (t.kind ≠ 1 -> t.scopes = []) := by
 rw [Yml] at h
 simp only [Yn1, Yov, Bool.and_eq_true, Bool.or_eq_true, decide_eq_true_eq] at h
 constructor
 ·intro hk
  have : (t.items.length : Int) = 0 := by omega
  exact List.length_eq_zero_iff.1 (by omega)
 ·intro hk
  have : (t.scopes.length : Int) = 0 := by omega
  exact List.length_eq_zero_iff.1 (by omega)
theorem Y1m6 (t : YS) : t = ⟨t.kind, t.number, t.text, t.scopes, t.items⟩ := by cases t; rfl
theorem Y1hr : ∀ t, okY t = true -> Yl4 t = true -> Y1et t := by
 refine YS.ind fun t ih hok hdot C q h0 h1 => ?_
 have hn := Y1dx hok
 have hd := Yvm t
 rw [hdot] at hd
 have hd1 : Yhr t = false /\ Yio true t.items = true := by
  have := hd.symm
  simpa using this
 have hsz := Yid (Yie C t).form
 by_cases hc : t.kind = 1 /\ 0 <= fnd C t
 ·rw [Yoq, if_pos hc, Ynn, if_pos hc.1, if_neg (by rw [hd1.1]; simp; omega : ¬ (Yhr t = true ∨ fnd C t < 0))]
  by_cases c4 : (Yie C t).depth ≠ 0
  ·rw [if_pos c4, if_pos c4]
   exact ⟨fun h => (by cases h), fun h => (by split at h <;> cases h)⟩
  ·rw [if_neg c4, if_neg c4]
   constructor
   ·intro h
    by_cases c5 : Yi7 (Yie C t).form = true
    ·rw [if_pos c5] at h ⊢
     simp only [decide_eq_true_eq] at h
     rw [if_neg (by omega), if_pos (by omega)]
     have e : max (q - (Yho (Yie C t).form : Int)) (-1) = q - Yho (Yie C t).form := by omega
     rw [e, decide_eq_true h]
    ·rw [if_neg c5] at h; cases h
   ·intro h hg
    by_cases c1 : q - 1 < 0
    ·rw [if_pos c1] at h; cases h
    ·rw [if_neg c1] at h hg
     by_cases c6 : (Yho (Yie C t).form : Int) <= q
     ·rw [if_pos c6] at hg
      have c5 : Yi7 (Yie C t).form = true := by
       simp only [Yi7, Bool.and_eq_true, decide_eq_true_eq]
       exact ⟨⟨by omega, hg.2⟩, hg.1⟩
      rw [if_pos c5]
      simp only [decide_eq_true_eq]; omega
     ·rw [if_neg c6] at h; cases h
 ·rw [Yoq, if_neg hc, Ynn]
  by_cases c1 : q - 1 < 0
  ·rw [if_pos c1, if_pos c1]
   exact ⟨fun h => (by cases h), fun h => (by cases h)⟩
  ·rw [if_neg c1, if_neg c1]
   by_cases hk : t.kind = 1
   ·have hi := hn.1 hk
    rw [if_pos hk, if_pos (Or.inr (by omega) : Yhr t = true ∨ fnd C t < 0), hi, Yp5, hd1.1]
    refine ⟨fun _ => ?_, fun _ _ => rfl⟩
    have e : t = ⟨t.kind, t.number, t.text, t.scopes, []⟩ := Eq.trans (Y1m6 t) (by rw [hi])
    show (t, true, q - 1) = ((⟨t.kind, t.number, t.text, t.scopes, []⟩ : YS), true, q - 1)
    rw [<- e]
   ·rw [if_neg hk]
    have hs := hn.2 hk
    have hall : ∀ x ∈ t.items, okY x = true := by
     rw [Yml, Bool.and_eq_true, List.all_eq_true] at hok; exact hok.1
    have h := Yr6 t.items true (fun x hx => ih x hx (hall x hx)) (Y19p hd1.2) hd1.2 C (q - 1) [] (by omega) (by omega)
    constructor
    ·intro ht
     by_cases e : (Yig t.items C (q - 1) []).2.1 = true
     ·rw [if_pos e, h.1 e, if_pos e, hs]
     ·rw [if_neg e] at ht; cases ht
    ·intro ht hg
     by_cases e : (Yiq t.items C (q - 1) []).2.1 = true
     ·rw [if_pos e] at hg
      have hz : ∀ z ∈ (Yiq t.items C (q - 1) []).1, Yte z := by
       intro z hz
       obtain ⟨g1, g2⟩ := hg
       rw [Yml, Bool.and_eq_true, List.all_eq_true] at g1
       rw [Yo6] at g2
       have := Yuv Yi6 hz
       exact ⟨g1.1 z hz, by simp only at g2; omega⟩
      rw [if_pos (h.2 e hz)]
     ·rw [if_neg e] at ht; cases ht
def Ynh (t : YS) (C : List YC) : Bool := Yi7 t && Yl4 t && (bld t C 2000).2.1 && Yi7 (bld t C 2000).1
def Yld (t : YS) (C : List YC) : YS := if Ynh t C = true then (bld t C 2000).1 else zY
theorem Y1e0 {t : YS} (C : List YC) (h1 : Yi7 t = true) (h2 : Yl4 t = true) : Ynh t C = ((bli t C 2000).2.1 && Yi7 (bli t C 2000).1) /\ ((bli t C 2000).2.1 = true -> (bld t C 2000).1 = (bli t C 2000).1) := by
 have hok : okY t = true := by simp only [Yi7, Bool.and_eq_true] at h1; exact h1.2
 have h := Y1hr t hok h2 C 2000 (by decide) (by decide)
 refine ⟨?_, fun e => by rw [h.1 e]⟩
 unfold Ynh
 rw [h1, h2, Bool.eq_iff_iff]
 simp only [Bool.true_and, Bool.and_eq_true]
 constructor
 ·rintro ⟨a, b⟩
  have hg : Yte (bld t C 2000).1 := by simp only [Yi7, Bool.and_eq_true, decide_eq_true_eq] at b; exact ⟨b.2, b.1.2⟩
  have := h.2 a hg
  exact ⟨this, by rw [<- h.1 this]; exact b⟩
 ·rintro ⟨a, b⟩
  rw [h.1 a]; exact ⟨a, b⟩
section
variable {t : YS} {C : List YC} {q : Int}
theorem Y1k1 (h : q - 1 < 0) : bld t C q = (zY, false, q - 1) := by rw [Ynn, if_pos h]
theorem Y1ji (h : ¬ q - 1 < 0) (h1 : t.kind = 1) (h2 : Yhr t = true ∨ fnd C t < 0) : bld t C q = (t, !Yhr t, q - 1) := by rw [Ynn, if_neg h, if_pos h1, if_pos h2]
theorem Y1jm (h : ¬ q - 1 < 0) (h1 : t.kind = 1) (h2 : Yhr t = false) (h3 : ¬ fnd C t < 0) (h4 : ¬ (C.getD (fnd C t).toNat default).depth = 0) : bld t C q = (zY, false, q) := by
 rw [Ynn, if_neg h, if_pos h1, if_neg (by rw [h2]; rintro (a | a); cases a; exact h3 a), if_pos (show (Yie C t).depth ≠ 0 from h4)]
theorem Y1is (h : ¬ q - 1 < 0) (h1 : t.kind = 1) (h2 : Yhr t = false) (h3 : ¬ fnd C t < 0) (h4 : (C.getD (fnd C t).toNat default).depth = 0) (h5 : ¬ (Yho (C.getD (fnd C t).toNat default).form : Int) <= q) : bld t C q = (zY, false, max (q - Yho (C.getD (fnd C t).toNat default).form) (-1)) := by
 rw [Ynn, if_neg h, if_pos h1, if_neg (by rw [h2]; rintro (a | a); cases a; exact h3 a), if_neg (by intro e; exact e h4), if_neg (show ¬ (Yho (Yie C t).form : Int) <= q from h5)]; rfl
theorem Y1k0 (h : ¬ q - 1 < 0) (h1 : t.kind = 1) (h2 : Yhr t = false) (h3 : ¬ fnd C t < 0) (h4 : (C.getD (fnd C t).toNat default).depth = 0) (h5 : (Yho (C.getD (fnd C t).toNat default).form : Int) <= q) : bld t C q = ((C.getD (fnd C t).toNat default).form, true, max (q - Yho (C.getD (fnd C t).toNat default).form) (-1)) := by
 rw [Ynn, if_neg h, if_pos h1, if_neg (by rw [h2]; rintro (a | a); cases a; exact h3 a), if_neg (by intro e; exact e h4), if_pos (show (Yho (Yie C t).form : Int) <= q from h5)]; rfl
theorem Y1jd (h : ¬ q - 1 < 0) (h1 : ¬ t.kind = 1) (h2 : (Yiq t.items C (q - 1) []).2.1 = true) : bld t C q = (⟨t.kind, t.number, t.text, [], (Yiq t.items C (q - 1) []).1⟩, true, (Yiq t.items C (q - 1) []).2.2) := by
 rw [Ynn, if_neg h, if_neg h1, if_pos h2]
theorem Y1jt (h : ¬ q - 1 < 0) (h1 : ¬ t.kind = 1) (h2 : (Yiq t.items C (q - 1) []).2.1 = false) : bld t C q = (zY, false, (Yiq t.items C (q - 1) []).2.2) := by
 rw [Ynn, if_neg h, if_neg h1, if_neg (by rw [h2]; decide)]
theorem Y1ju (h1 : t.kind = 1) (h3 : 0 <= fnd C t) (h4 : ¬ (C.getD (fnd C t).toNat default).depth = 0) : bli t C q = (zY, false, q) := by
 rw [Yoq, if_pos ⟨h1, h3⟩, if_pos (show (Yie C t).depth ≠ 0 from h4)]
theorem Y1jh (h1 : t.kind = 1) (h3 : 0 <= fnd C t) (h4 : (C.getD (fnd C t).toNat default).depth = 0) (h5 : (Yj8 (C.getD (fnd C t).toNat default).form 1 0).1 = false) : bli t C q = (zY, false, q) := by
 rw [Yto] at h5
 rw [Yoq, if_pos ⟨h1, h3⟩, if_neg (by intro e; exact e h4), if_neg (by show ¬ Yi7 (C.getD (fnd C t).toNat default).form = true; rw [h5]; decide)]
theorem Y1jy (h1 : t.kind = 1) (h3 : 0 <= fnd C t) (h4 : (C.getD (fnd C t).toNat default).depth = 0) (h5 : (Yj8 (C.getD (fnd C t).toNat default).form 1 0).1 = true) : bli t C q = ((C.getD (fnd C t).toNat default).form, decide (0 <= q - (Yj8 (C.getD (fnd C t).toNat default).form 1 0).2), q - (Yj8 (C.getD (fnd C t).toNat default).form 1 0).2) := by
 have e := (Yse (C.getD (fnd C t).toNat default).form 1 0 (by decide)).2 h5
 rw [Yto] at h5
 rw [Yoq, if_pos ⟨h1, h3⟩, if_neg (by intro e; exact e h4), if_pos (show Yi7 (Yie C t).form = true from h5), e, Int.zero_add]; rfl
theorem Y1k2 (h1 : ¬ (t.kind = 1 /\ 0 <= fnd C t)) (h : q - 1 < 0) : bli t C q = (zY, false, q - 1) := by rw [Yoq, if_neg h1, if_pos h]
theorem Y1j4 (h1 : ¬ (t.kind = 1 /\ 0 <= fnd C t)) (h : ¬ q - 1 < 0) (h2 : (Yig t.items C (q - 1) []).2.1 = true) : bli t C q = (⟨t.kind, t.number, t.text, t.scopes, (Yig t.items C (q - 1) []).1⟩, true, (Yig t.items C (q - 1) []).2.2) := by rw [Yoq, if_neg h1, if_neg h, if_pos h2]
theorem Y1jz (h1 : ¬ (t.kind = 1 /\ 0 <= fnd C t)) (h : ¬ q - 1 < 0) (h2 : (Yig t.items C (q - 1) []).2.1 = false) : bli t C q = (zY, false, (Yig t.items C (q - 1) []).2.2) := by rw [Yoq, if_neg h1, if_neg h, if_neg (by rw [h2]; decide)]
theorem Y1lq (hC : ∀ z ∈ C, mxP z <= 1000000000) {x : YS} (h : cnB C x = true) : bN C x <= 1000000000 := by
 have h' := h
 simp only [cnB, Bool.and_eq_true, decide_eq_true_eq] at h'
 obtain ⟨y, hy, hr⟩ := Y10a _ (Nat.le_refl _) h'.2
 have hr' := hr
 unfold rep at hr'
 rw [Bool.and_eq_true, decide_eq_true_eq, decide_eq_true_eq] at hr'
 have e := Y14p h hy hr'.1 hr'.2
 have h1 := Ymk C y
 have h2 := hC (C.getD (fnd C y).toNat default) (Yhn (by omega))
 have h3 := Yu3 (C.getD (fnd C y).toNat default)
 omega
theorem Y1je {x : YS} {k : Nat} (h : cnB C x = true) (hk : (k : Int) < if Yko C (Yhs x []) (Yhs x []).length = true then cnN C (Yhs x []) (Yhs x []).length else 0) : k < bN C x := by
 simp only [cnB, Bool.and_eq_true, decide_eq_true_eq] at h
 rw [if_pos h.1] at hk; simp only [bN]; omega
theorem Y1jk {x : YS} {k : Nat} (h : cnB C x = true) (hk : ¬ (k : Int) < if Yko C (Yhs x []) (Yhs x []).length = true then cnN C (Yhs x []) (Yhs x []).length else 0) : bN C x <= k := by
 simp only [cnB, Bool.and_eq_true, decide_eq_true_eq] at h
 rw [if_pos h.1] at hk; simp only [bN]; omega
end
theorem Y1gm {C : List YC} {x : YS} {j : Nat} {q : Int} {O : List YS} (hj : j <= bN C x ∨ cnB C x = false) (h : (bJ C x j q O).2.1 = false) : bR C x q O = bJ C x j q O := by
 rcases hj with hj | hj
 ·exact Y1h5 C x j q O h hj
 ·unfold bR bJ; rw [if_neg (by rw [hj]; decide), if_neg (by rw [hj]; decide)]
theorem Y1gw {C : List YC} {x : YS} {j : Nat} {q : Int} {O : List YS} (hj : j <= bN C x ∨ cnB C x = false) (h0 : 0 <= q) (h : (bJ C x j q O).2.1 = true) (hk : ¬ (j : Int) < if Yko C (Yhs x []) (Yhs x []).length = true then cnN C (Yhs x []) (Yhs x []).length else 0) : bR C x q O = bJ C x j q O := by
 have h1 := (Y12d C x j q O h0 h).2.2
 have h2 := Y1jk h1 hk
 rcases hj with hj | hj
 ·exact Y1iw C x j q O (by omega)
 ·rw [h1] at hj; cases hj
theorem Y1lc (C : List YC) (x : YS) (q : Int) (O : List YS) (h0 : 0 <= q) (h : (iR C x q O).2.1 = true) : 0 <= (iR C x q O).2.2 /\ ((iR C x q O).1.length : Int) + (iR C x q O).2.2 <= O.length + q := by
 unfold iR at h ⊢
 by_cases c : rqB C x = true
 ·rw [if_pos c] at h ⊢; exact Y1ga C x _ q O h0 h
 ·rw [if_neg c] at h; cases h
theorem Yur {C : List YC} {x : YS} {j : Nat} (h : j < (rpX C x).length) : 0 <= (rpX C x).getD j 0 /\ (rpX C x).getD j 0 < C.length /\ ((rpX C x).getD j 0).toNat < C.length := by
 have h1 : (rpX C x).getD j 0 ∈ rpX C x := Yhn h
 obtain ⟨y, _, hr, e⟩ := Yp9.1 h1
 have h2 := (Yzc hr).2
 have h3 := Ymk C y
 rw [e] at h2 h3
 omega
theorem Y1e5 {C : List YC} {I : List Int} {n : Int} {j : Nat} (h : j < I.length) (h0 : rqA C (I.take j) n = true) (e : ((C.getD (I.getD j 0).toNat default).each.length : Int) = n) : rqA C (I.take (j + 1)) n = true := by
 have e2 : I.getD j default = I.getD j 0 := rfl
 unfold rqA at *; rw [Yi2 h, List.all_append, h0, e2]
 simp only [List.all_cons, List.all_nil, Bool.and_true, Bool.true_and]; exact decide_eq_true (show lnI C (I.getD j 0) = n from e)
theorem Y1fq {C : List YC} {I : List Int} {n : Int} {j : Nat} (h : j < I.length) (e : ¬ ((C.getD (I.getD j 0).toNat default).each.length : Int) = n) : rqA C I n = false := by
 unfold rqA; rw [List.all_eq_false]; exact ⟨I.getD j 0, Yhn h, by rw [show decide (lnI C (I.getD j 0) = n) = false from decide_eq_false e]; decide⟩
theorem Y1jc {C : List YC} {x : YS} {j : Nat} (h0 : 0 < (rpX C x).length) (h : (rpX C x).length <= j) (e : rqA C ((rpX C x).take j) (lnI C ((rpX C x).getD 0 0)) = true) : rqB C x = true := by
 rw [List.take_of_length_le h] at e
 have e2 : (rpX C x).getD 0 default = (rpX C x).getD 0 0 := rfl
 unfold rqB; rw [e2, e, decide_eq_false (by omega)]; rfl
theorem Y1iq {C : List YC} {x : YS} {j : Nat} (h : j < (rpX C x).length) (e : ¬ ((C.getD ((rpX C x).getD j 0).toNat default).each.length : Int) = ((C.getD ((rpX C x).getD 0 0).toNat default).each.length : Int)) (q : Int) (O : List YS) : iR C x q O = (O, false, q) := by
 have e2 : (rpX C x).getD 0 default = (rpX C x).getD 0 0 := rfl
 have h1 := Y1fq h e
 unfold iR rqB; rw [e2, show lnI C ((rpX C x).getD 0 0) = ((C.getD ((rpX C x).getD 0 0).toNat default).each.length : Int) from rfl, h1]; simp
theorem Y1ff {C : List YC} {x : YS} (h : rqB C x = true) {j : Nat} (hj : j < (rpX C x).length) : (C.getD ((rpX C x).getD j 0).toNat default).each.length = rqN C x := by
 simp only [rqB, rqA, Bool.and_eq_true, List.all_eq_true, decide_eq_true_eq] at h
 have := h.2 _ (Yhn hj)
 simp only [lnI] at this
 exact Int.ofNat.inj this
theorem Y1d5 {C : List YC} (hC : ∀ z ∈ C, mxP z <= 1000000000) {x : YS} (h0 : 0 < (rpX C x).length) : rqN C x <= 1000000000 := by
 have h1 := Yur h0
 have h2 := hC _ (Yhn h1.2.2)
 have h3 := Yu3 (C.getD ((rpX C x).getD 0 0).toNat default)
 have e2 : (rpX C x).getD 0 default = (rpX C x).getD 0 0 := rfl
 simp only [rqN, e2]; omega
theorem Y1hu {C : List YC} {x : YS} {a k : Nat} (h : (rpX C x).length <= k) : Ym9 C a ((rpX C x).take k) = stq C x a := by rw [List.take_of_length_le h]
theorem Y1kt {C : List YC} {x : YS} {j : Nat} {q : Int} {O : List YS} (h : rqB C x = true) (hj : j <= rqN C x) (hn : rqN C x <= j) : iR C x q O = iI C x j q O := by
 unfold iR; rw [if_pos h, show rqN C x = j by omega]
theorem Y1j1 {C : List YC} {x : YS} {j : Nat} {q : Int} {O : List YS} (h : rqB C x = true) (hj : j < rqN C x) (h1 : (iI C x j q O).2.1 = true) (h2 : (bli x (stq C x j) (iI C x j q O).2.2).2.1 = false) : (iR C x q O).2.1 = false /\ (iR C x q O).2.2 = (bli x (stq C x j) (iI C x j q O).2.2).2.2 := by
 have e := Y16z C x j q O h1
 have e2 := Y1gt C x (j + 1) (rqN C x) q O (by rw [e]; exact h2) (by omega)
 unfold iR; rw [if_pos h, e2, e]; exact ⟨h2, rfl⟩
theorem Y1h4 {C : List YC} {k : Nat} {x : YC} : (C.map Yhf).set k (Yi1 x) = (C.set k x).map Yhf := by rw [List.map_set, Ynp]
theorem dfI : (default : Int) = 0 := rfl
theorem Y1c6 {C : List YC} {I : List Int} {j : Nat} (h : j < I.length) (h0 : rqA C (I.take j) (lnI C (I.getD 0 0)) = true) (e : ((C.getD (I.getD j 0).toNat default).each.length : Int) = ((C.getD (I.getD 0 0).toNat default).each.length : Int)) : rqA C (I.take (j + 1)) (lnI C (I.getD 0 0)) = true := Y1e5 h h0 e
theorem Y1hi {k : Prop} [Decidable k] {x : Int} (h : 0 <= if k then x else -1) : k /\ 0 <= x := by
 split at h
 ·exact ⟨‹_›, h⟩
 ·omega
theorem Y1go (s : YS) (h : (Yj8 s 1 0).1 = true) : 0 <= (Yj8 s 1 0).2 /\ (Yj8 s 1 0).2 <= 2000 := by
 have h1 := ((Yse s 1 0 (by decide)).1).1 h
 have h2 := (Yse s 1 0 (by decide)).2 h
 omega
end Go.Proofs.YtpnaoendfpaodaaGreat
end
section
namespace Go.Proofs.YtpnaoendfpaodaaGreat
open Go Ab
set_option maxHeartbeats 4000000
abbrev Zd (t : YS) (C : List YC) (q : Int) : Ct := ⟨258, [.box [vI q]], [Yhz t, ll (C.map Yhf), .one (.ptr 0 0)], .box [vI (bld t C q).2.2] :: Ykc (bld t C q).1, .tup [Yjv (bld t C q).1 1, lb (bld t C q).2.1]⟩
def Z38 (t : YS) (C : List YC) (q : Int) (k : Nat × Int × List YS) : Lp Nat := .mk 163 1 (fun x => [(1, ll (C.map Yhf)), (2, .one (.ptr 0 0)),
 (3, .one (.ptr 1 0)), (6, .one (.ptr 2 0)), (9, .one (.ptr 3 0)), (10, li ((k.fst : Int) + 1)), (11, .one (.ptr 4 0)), (14, li (if Yko C (Yhs (t.items.getD
 k.fst default) []) (Yhs (t.items.getD k.fst default) []).length = true then cnN C (Yhs (t.items.getD k.fst default) []) (Yhs (t.items.getD k.fst default) []).length else 0)),
 (15, hs x 1), (16, hs x 0)]) (fun x => [.box [ha x 2], .box (vals (Yhk t)), .box [vI 0, vI 0, vS (ByteArray.mk #[]), .val (.lit (.slice none 0 0)), .val
 (.lit (.slice none 0 0))], .box [vI t.kind, vI t.number, vS t.text, .val (.lit (.slice none 0 0)), .ref 5], .box (vals (Yhk (t.items.getD k.fst
 default))), ho x 3]) (fun k1 => [.s (li (k1 : Int)), .s (lb (bJ C (t.items.getD k.fst default) k1 k.snd.fst k.snd.snd).snd.fst), .a (vI (bJ C (t.items.getD k.fst default) k1
 k.snd.fst k.snd.snd).snd.snd), .o (.arr true 5 ((bJ C (t.items.getD k.fst default) k1 k.snd.fst k.snd.snd).fst.map Yhd))]) (fun k1 => (k1 <= bN C (t.items.getD k.fst
 default) ∨ cnB C (t.items.getD k.fst default) = false) /\ k.fst + 1 < t.items.length /\ 0 <= k.snd.fst /\ (k.snd.snd.length : Int) + k.snd.fst <= 2000) (fun k1 => bN C (t.items.getD
 k.fst default) - k1) [.mk True (.exit 2) (fun x => [(1, ll (C.map Yhf)), (2, .one (.ptr 0 0)), (3, .one (.ptr 1 0)), (6, .one (.ptr 2 0)), (9, .one (.ptr
 3 0)), (10, li ((k.fst : Int) + 1)), (15, hs x 0)]) (fun x => [.box [ha x 1], .box (vals (Yhk t)), .box [vI 0, vI 0, vS (ByteArray.mk #[]), .val (.lit
 (.slice none 0 0)), .val (.lit (.slice none 0 0))], .box [vI t.kind, vI t.number, vS t.text, .val (.lit (.slice none 0 0)), .ref 4], ho x 2]) [.s
 (lb (bR C (t.items.getD k.fst default) k.snd.fst k.snd.snd).snd.fst), .a (vI (bR C (t.items.getD k.fst default) k.snd.fst k.snd.snd).snd.snd), .o (.arr true 5 (List.map Yhd
 (bR C (t.items.getD k.fst default) k.snd.fst k.snd.snd).fst))]]
def Z39 (t : YS) (C : List YC) (q : Int) : Lp (Nat × Int × List YS) := .mk 163 1 (fun x => [(1, ll (C.map Yhf)), (2, .one (.ptr 0 0)), (3,
 .one (.ptr 1 0)), (6, .one (.ptr 2 0)), (9, .one (.ptr 3 0)), (10, hs x 0)]) (fun x => [.box [ha x 1], .box (vals (Yhk t)), .box [vI 0, vI 0, vS
 (ByteArray.mk #[]), .val (.lit (.slice none 0 0)), .val (.lit (.slice none 0 0))], .box [vI t.kind, vI t.number, vS t.text, .val (.lit (.slice
 none 0 0)), .ref 4], ho x 2]) (fun k => [.s (li (k.fst : Int)), .a (vI k.snd.fst), .o (.arr true 5 (k.snd.snd.map Yhd))]) (fun k => t.items.length >= k.fst /\
 t.items.length <= 1000000000 /\ Yiq t.items C (q - 1) [] = Yiq (List.drop k.fst t.items) C k.snd.fst k.snd.snd /\ 0 <= k.snd.fst /\ (k.snd.snd.length : Int) + k.snd.fst <= 2000) (fun
 k => t.items.length - k.fst) [.mk ((Yiq t.items C (q - 1) []).snd.fst = true) (.exit 0) (fun x => [(6, .one (.ptr 1 0)), (9, .one (.ptr 2 0))]) (fun x => [.box [ha x
 0], .box [vI 0, vI 0, vS (ByteArray.mk #[]), .val (.lit (.slice none 0 0)), .val (.lit (.slice none 0 0))], .box [vI t.kind, vI t.number, vS t.text,
 .val (.lit (.slice none 0 0)), .ref 3], ho x 1]) [.a (vI (Yiq t.items C (q - 1) []).snd.snd), .o (.arr true 5 ((Yiq t.items C (q - 1) []).fst.map Yhd))],
 .mk ((Yiq t.items C (q - 1) []).snd.fst = false) .ret (fun x => [(6, .one (.ptr 1 0)), (7, hs x 2)]) (fun x => [.box [ha x 0], ho x 1]) [.a (vI (Yiq t.items C (q - 1)
 []).snd.snd), .o (.box [vI 0, vI 0, vS (mkS []), .val (.lit (.slice none 0 0)), .val (.lit (.slice none 0 0))]), .s (lb false)]]
theorem Zby (t : YS) (C : List YC) (q : Int) (h : 0 <= q /\ q <= 2000 /\ wY t <= 1000000000 /\ C.length <= 1000000000) (hC : ∀ (z : YC), z ∈ C -> mxP z <=
 1000000000) (ih : ∀ (z : YS), z ∈ t.items -> ∀ (C : List YC) (q : Int), 0 <= q /\ q <= 2000 /\ wY z <= 1000000000 /\ C.length <= 1000000000 -> (∀ (z : YC), z ∈ C -> mxP z <=
 1000000000) -> OK (Zd z C q)) (k : Nat × Int × List YS) : Lp.Sem Tryz.prog (Yht Tryz.f258 1) (Z38 t C q k) := Yi3 (fun k1 => .i ((k1 : Int) < if Yko C
 (Yhs (t.items.getD k.fst default) []) (Yhs (t.items.getD k.fst default) []).length = true then cnN C (Yhs (t.items.getD k.fst default) []) (Yhs (t.items.getD k.fst default)
 []).length else 0) (.b (bJ C (t.items.getD k.fst default) k1 k.snd.fst k.snd.snd).snd.fst (.w (.draw [(6, [0]), (10, [6])]) (.d [.rd, .rd, .rd] (Z8h C (t.items.getD k.fst
 default) k1) (.d [.rd, .rd, .ptr] (Zd (t.items.getD k.fst default) (Yk0 C k1 (Yhs (t.items.getD k.fst default) []) (Yhs (t.items.getD k.fst default) []).length) (bJ C
 (t.items.getD k.fst default) k1 k.snd.fst k.snd.snd).snd.snd) (.p ((((bJ C (t.items.getD k.fst default) k1 k.snd.fst k.snd.snd).fst.map Yhd).length + 1) * 80 <=
 140737488355328) (.r ((k1 : Int) + 1) (.g [0, 1, 2, 3, 4, 19] (k1 + 1) [.s (li ((k1 : Int) + 1)), .s (lb (bld (t.items.getD k.fst default) (Yk0 C k1 (Yhs (t.items.getD k.fst
 default) []) (Yhs (t.items.getD k.fst default) []).length) (bJ C (t.items.getD k.fst default) k1 k.snd.fst k.snd.snd).snd.snd).snd.fst), .a (vI (bld (t.items.getD k.fst default)
 (Yk0 C k1 (Yhs (t.items.getD k.fst default) []) (Yhs (t.items.getD k.fst default) []).length) (bJ C (t.items.getD k.fst default) k1 k.snd.fst k.snd.snd).snd.snd).snd.snd), .o
 (.arr true 5 ((bJ C (t.items.getD k.fst default) k1 k.snd.fst k.snd.snd).fst.map Yhd ++ [Yhk (bld (t.items.getD k.fst default) (Yk0 C k1 (Yhs (t.items.getD k.fst
 default) []) (Yhs (t.items.getD k.fst default) []).length) (bJ C (t.items.getD k.fst default) k1 k.snd.fst k.snd.snd).snd.snd).fst]))])))))) (.o 0 [0, 1, 2, 3, 5] [.s (lb (bJ C
 (t.items.getD k.fst default) k1 k.snd.fst k.snd.snd).snd.fst), .a (vI (bJ C (t.items.getD k.fst default) k1 k.snd.fst k.snd.snd).snd.snd), .o (.arr true 5 ((bJ
 C (t.items.getD k.fst default) k1 k.snd.fst k.snd.snd).fst.map Yhd))])) (.y false (.o 0 [0, 1, 2, 3, 5] [.s (lb (bJ C (t.items.getD k.fst default) k1 k.snd.fst k.snd.snd).snd.fst), .a (vI
 (bJ C (t.items.getD k.fst default) k1 k.snd.fst k.snd.snd).snd.snd), .o (.arr true 5 ((bJ C (t.items.getD k.fst default) k1 k.snd.fst k.snd.snd).fst.map Yhd))]))) (by
 intro k1 h; try dsimp only [Yhj, Yhq, Z38] at h ⊢
 obtain ⟨i, m, O⟩ := k
 simp only at *
 have g1 := Y12d C (t.items.getD i default) k1 m O
 have g2 := Y1hl C (t.items.getD i default) k1 m O
 have g3 := @Y1gm C (t.items.getD i default) k1 m O
 have g4 : ¬ ((k1 : Int) < if Yko C (Yhs (t.items.getD i default) []) (Yhs (t.items.getD i default) []).length = true then cnN C (Yhs (t.items.getD i default) []) (Yhs (t.items.getD i default) []).length else 0) -> bR C (t.items.getD i default) m O = bJ C (t.items.getD i default) k1 m O := fun b => by
  cases hok : (bJ C (t.items.getD i default) k1 m O).2.1 with
  | false => exact g3 h.1 hok
  | true => exact Y1gw h.1 (by omega) hok b
 have g5 := @Y14p C (t.items.getD i default)
 have g6 : (bJ C (t.items.getD i default) k1 m O).2.1 = true -> ((k1 : Int) < if Yko C (Yhs (t.items.getD i default) []) (Yhs (t.items.getD i default) []).length = true then cnN C (Yhs (t.items.getD i default) []) (Yhs (t.items.getD i default) []).length else 0) -> k1 < bN C (t.items.getD i default) /\ bN C (t.items.getD i default) <= 1000000000 /\ cnB C (t.items.getD i default) = true := fun a b => ⟨Y1je (g1 (by omega) a).2.2 b, Y1lq hC (g1 (by omega) a).2.2, (g1 (by omega) a).2.2⟩
 have g7 := Y15o C (t.items.getD i default) k1
 have g8 := @Yl6 t i
 with_reducible repeat' (first | apply And.intro | exact zR | exact ih | (intro) | apply Z1 | apply Z1z | apply Z1p | apply Z3s | apply ih)
 all_goals ((try simp only [std, inj] at *); with_reducible and_intros)
 all_goals try first | with_reducible (first | apply Z1 | apply Z1z | apply Z1p | apply Z3s | apply ih) | (simp only [<- List.map_append]; with_reducible first | apply Z1 | apply Z1z | apply Z1p | apply Z3s | apply ih)
 all_goals try first | exact zw
 all_goals (try first | exact Yhn (by omega) | exact Y1j0 hC _ _ _ (by assumption) | (rw [g2 (by assumption)]; done) | (rw [g2 (by assumption)]; exact Yhi (C := Yhd) _ _) | (rw [g4 (by assumption)]; done) | (rw [g3 h.1 (by assumption)]; done) | exact Nat.le_trans (Nat.le_of_eq (Y15o C _ _)) (by omega))
 all_goals (try (have G := g6 (by assumption) (by assumption); have G1 := g1 (by omega) (by assumption); first | omega | (rw [g5 G.2.2 (by assumption) (by assumption) (by assumption)]; exact G.1) | (refine Nat.le_of_eq_of_le g7 ?_; omega))))
theorem Zbz (t : YS) (C : List YC) (q : Int) (h : 0 <= q /\ q <= 2000 /\ wY t <= 1000000000 /\ C.length <= 1000000000) (hC : ∀ (z : YC), z ∈ C -> mxP z <=
 1000000000) (ih : ∀ (z : YS), z ∈ t.items -> ∀ (C : List YC) (q : Int), 0 <= q /\ q <= 2000 /\ wY z <= 1000000000 /\ C.length <= 1000000000 -> (∀ (z : YC), z ∈ C -> mxP z <=
 1000000000) -> OK (Zd z C q)) : Lp.Sem Tryz.prog (Yht Tryz.f258 0) (Z39 t C q) := Yi3 (fun k => .z Yhd t.items (.i ((k.fst : Int) < (↑(List.map Yhd
 t.items).length : Int)) (.x (k.fst : Int) (t.items.map Yhd) (Yhk (t.items.getD k.fst default)) (.r ((k.fst : Int) + 1) (.z Yhd t.items (.i ((↑(List.map Yhd
 t.items).length : Int) <= (k.fst : Int) + 1) (.y true (.d [.rd, .rd, .ptr] (Zd (t.items.getD k.fst default) C k.snd.fst) (.b (!(bld (t.items.getD k.fst default) C
 k.snd.fst).snd.fst) (.o 1 [0, 2] [.a (vI (bld (t.items.getD k.fst default) C k.snd.fst).snd.snd), .o (.box [vI 0, vI 0, vS (ByteArray.mk #[]), .val (.lit (.slice none
 0 0)), .val (.lit (.slice none 0 0))]), .s (lb false)]) (.p (((k.snd.snd.map Yhd).length + 1) * 80 <= 140737488355328) (.r ((k.fst : Int) + 1) (.g [0, 1, 2, 3,
 11] (k.fst + 1, (bld (t.items.getD k.fst default) C k.snd.fst).snd.snd, k.snd.snd ++ [(bld (t.items.getD k.fst default) C k.snd.fst).fst]) [.s (li ((k.fst : Int) + 1)), .a (vI
 (bld (t.items.getD k.fst default) C k.snd.fst).snd.snd), .o (.arr true 5 (k.snd.snd.map Yhd ++ [Yhk (bld (t.items.getD k.fst default) C k.snd.fst).fst]))])))))) (.r
 ((k.fst : Int) + 1) (.x ((k.fst : Int) + 1) (t.items.map Yhd) (Yhk (t.items.getD (k.fst + 1) default)) (.c [.rd] (Zc (t.items.getD (k.fst + 1) default)) (.b
 (!Yhr (t.items.getD (k.fst + 1) default)) (.d [.rd, .rd, .ptr] (Zd (t.items.getD k.fst default) C k.snd.fst) (.b (!(bld (t.items.getD k.fst default) C
 k.snd.fst).snd.fst) (.o 1 [0, 2] [.a (vI (bld (t.items.getD k.fst default) C k.snd.fst).snd.snd), .o (.box [vI 0, vI 0, vS (ByteArray.mk #[]), .val (.lit (.slice none
 0 0)), .val (.lit (.slice none 0 0))]), .s (lb false)]) (.p (((k.snd.snd.map Yhd).length + 1) * 80 <= 140737488355328) (.r ((k.fst : Int) + 1) (.g [0, 1, 2, 3,
 11] (k.fst + 1, (bld (t.items.getD k.fst default) C k.snd.fst).snd.snd, k.snd.snd ++ [(bld (t.items.getD k.fst default) C k.snd.fst).fst]) [.s (li ((k.fst : Int) + 1)), .a (vI
 (bld (t.items.getD k.fst default) C k.snd.fst).snd.snd), .o (.arr true 5 (k.snd.snd.map Yhd ++ [Yhk (bld (t.items.getD k.fst default) C k.snd.fst).fst]))]))))) (.r
 ((k.fst : Int) + 1) (.d [.rd, .rd] (Z75 C (t.items.getD k.fst default)) (.l (Z38 t C q k) (Zby t C q h hC ih k) [0, 1, 2, 3, 5, 4] [.s (li 0), .s (lb
 (Yko C (Yhs (t.items.getD k.fst default) []) (Yhs (t.items.getD k.fst default) []).length && decide (0 <= cnN C (Yhs (t.items.getD k.fst default) []) (Yhs (t.items.getD k.fst
 default) []).length))), .a (vI k.snd.fst), .o (.arr true 5 (k.snd.snd.map Yhd))] 0 (.t (.b (!(bR C (t.items.getD k.fst default) k.snd.fst k.snd.snd).snd.fst) (.o 1 [0,
 2] [.a (vI (bR C (t.items.getD k.fst default) k.snd.fst k.snd.snd).snd.snd), .o (.box [vI 0, vI 0, vS (ByteArray.mk #[]), .val (.lit (.slice none 0 0)), .val
 (.lit (.slice none 0 0))]), .s (lb false)]) (.r ((k.fst : Int) + 1 + 1) (.g [0, 1, 2, 3, 4] (k.fst + 1 + 1, (bR C (t.items.getD k.fst default) k.snd.fst
 k.snd.snd).snd.snd, (bR C (t.items.getD k.fst default) k.snd.fst k.snd.snd).fst) [.s (li ((k.fst : Int) + 1 + 1)), .a (vI (bR C (t.items.getD k.fst default) k.snd.fst
 k.snd.snd).snd.snd), .o (.arr true 5 ((bR C (t.items.getD k.fst default) k.snd.fst k.snd.snd).fst.map Yhd))]))) .q)))))))))))) (.o 0 [0, 2, 3, 4] [.a (vI k.snd.fst), .o
 (.arr true 5 (k.snd.snd.map Yhd))]))) (by
 intro k h; try dsimp only [Yhj, Yhq, Z39, Z38] at h ⊢
 obtain ⟨i, m, O⟩ := k
 simp only at *
 have H := h.2.2.1
 have p1 : i < t.items.length -> (t.items.length <= i + 1 ∨ Yhr (t.items.getD (i + 1) default) = false) -> (bld (t.items.getD i default) C m).2.1 = true -> Yiq (t.items.drop i) C m O = Yiq (t.items.drop (i + 1)) C (bld (t.items.getD i default) C m).2.2 (O ++ [(bld (t.items.getD i default) C m).1]) := fun a b c => by rw [Yxs a b, if_pos c]
 have p2 : i < t.items.length -> (t.items.length <= i + 1 ∨ Yhr (t.items.getD (i + 1) default) = false) -> (bld (t.items.getD i default) C m).2.1 = false -> Yiq (t.items.drop i) C m O = (O, false, (bld (t.items.getD i default) C m).2.2) := fun a b c => by rw [Yxs a b, if_neg (by rw [c]; decide)]
 have d1 : i + 1 < t.items.length -> Yhr (t.items.getD (i + 1) default) = true -> (bR C (t.items.getD i default) m O).2.1 = true -> Yiq (t.items.drop i) C m O = Yiq (t.items.drop (i + 1 + 1)) C (bR C (t.items.getD i default) m O).2.2 (bR C (t.items.getD i default) m O).1 := fun a b c => by rw [Y10z a b, if_pos c]
 have d2 : i + 1 < t.items.length -> Yhr (t.items.getD (i + 1) default) = true -> (bR C (t.items.getD i default) m O).2.1 = false -> Yiq (t.items.drop i) C m O = bR C (t.items.getD i default) m O := fun a b c => by rw [Y10z a b, if_neg (by rw [c]; decide)]
 have e1 : t.items.length <= i -> Yiq (t.items.drop i) C m O = (O, true, m) := fun a => Y1ef a
 have g4 := Y1ax (t.items.getD i default) C m
 have g6 : 0 <= m -> (bR C (t.items.getD i default) m O).2.1 = true -> 0 <= (bR C (t.items.getD i default) m O).2.2 /\ ((bR C (t.items.getD i default) m O).1.length : Int) + (bR C (t.items.getD i default) m O).2.2 <= O.length + m := fun a b => ⟨(Y12d C _ _ m O a b).1, (Y12d C _ _ m O a b).2.1⟩
 have g8 := @Yl6 t i
 have g9 : (Yko C (Yhs (t.items.getD i default) []) (Yhs (t.items.getD i default) []).length && decide (0 <= cnN C (Yhs (t.items.getD i default) []) (Yhs (t.items.getD i default) []).length)) = (bJ C (t.items.getD i default) 0 m O).2.1 := by rw [Yzr]; rfl
 have g10 : m = (bJ C (t.items.getD i default) 0 m O).2.2 := by rw [Yzr]
 have g11 : O = (bJ C (t.items.getD i default) 0 m O).1 := by rw [Yzr]
 with_reducible repeat' (first | apply And.intro | exact zR | exact ih | (intro) | apply Z1 | apply Z1z | apply Z1p | apply Z3s | apply ih)
 all_goals ((try simp only [std, inj] at *); with_reducible and_intros)
 all_goals try first | with_reducible (first | apply Z1 | apply Z1z | apply Z1p | apply Z3s | apply ih) | (simp only [<- List.map_append]; with_reducible first | apply Z1 | apply Z1z | apply Z1p | apply Z3s | apply ih)
 all_goals try first | exact zw
 all_goals (try simp only [Bool.not_eq_true', Bool.not_eq_false', decide_eq_false_iff_not, decide_eq_true_eq, Decidable.not_not] at *)
 all_goals (try first | exact Yhn (by omega) | exact hC _ (by assumption) | exact g9 | exact g10 | exact g11 | (rw [<- g11]; done) | exact Yhi (C := Yhd) _ _)
 all_goals (try first | (rw [H, p1 (by omega) (by first | exact Or.inl (by omega) | exact Or.inr (by assumption)) (by assumption)]) | (rw [H, p2 (by omega) (by first | exact Or.inl (by omega) | exact Or.inr (by assumption)) (by assumption)]) | (rw [H, d1 (by omega) (by assumption) (by assumption)]) | (rw [H, d2 (by omega) (by assumption) (by assumption)]; assumption) | (rw [H, d2 (by omega) (by assumption) (by assumption)]) | (rw [H, e1 (by omega)]))
 all_goals (try first | (have := g4 (by omega) (by assumption); first | omega | (simp only [List.length_singleton]; omega)) | (have := g6 (by omega) (by assumption); omega)))
theorem Zf9 (t : YS) (C : List YC) (q : Int) (h : 0 <= q /\ q <= 2000 /\ wY t <= 1000000000 /\ C.length <= 1000000000) (hC : ∀ z ∈ C, mxP z <= 1000000000) (ih : ∀ z ∈
 t.items, ∀ (C : List YC) (q : Int) (h : 0 <= q /\ q <= 2000 /\ wY z <= 1000000000 /\ C.length <= 1000000000) (hC : ∀ z ∈ C, mxP z <= 1000000000), Zd z C q)  : Zd t C
 q := Yhv Tryz.call258 Tryz.func258 (.r (q - 1) (.i (q - (1 : Int) < 0) (.w (.ghost (.nilbox 2 3 true 1)) (.w (.ghost (.nilbox 2 4 true 5)) (.f [3, 4] [.box [vI (q - 1)], .arr
 true 1 [], .arr true 5 []] (.tup [.agg [vI 0, vI 0, vS (ByteArray.mk #[]), .ref 1, .ref 2], lb false])))) (.i (t.kind = 1) (.c [.rd, .rd] (Z67 C t) (.c [.rd]
 (Zc t) (.b (Yhr t) (.y true (.w (.draw [(5, [2])]) (.d [.rd] (Zb t) (.c [.rd] (Zc t) (.f [3, 4] [.box [vI (q - 1)], .arr true 1 (t.scopes.map Yhh),
 .arr true 5 (t.items.map Yhd)] (.tup [.agg [vI t.kind, vI t.number, vS t.text, .ref 1, .ref 2], lb !Yhr t])))))) (.i (fnd C t < 0) (.w (.draw [(5, [2])]) (.d
 [.rd] (Zb t) (.c [.rd] (Zc t) (.f [3, 4] [.box [vI (q - 1)], .arr true 1 (t.scopes.map Yhh), .arr true 5 (t.items.map Yhd)] (.tup [.agg [vI
 t.kind, vI t.number, vS t.text, .ref 1, .ref 2], lb !Yhr t]))))) (.r (q - 1 + 1) (.x (fnd C t) (C.map Yhf) (Yi1 (C.getD (fnd C t).toNat default)) (.i
 ((C.getD (fnd C t).toNat default).depth ≠ 0) (.y true (.w (.ghost (.nilbox 2 3 true 1)) (.w (.ghost (.nilbox 2 4 true 5)) (.f [3, 4] [.box [vI (q - 1 + 1)], .arr true 1 [],
 .arr true 5 []] (.tup [.agg [vI 0, vI 0, vS (ByteArray.mk #[]), .ref 1, .ref 2], lb false]))))) (.x (fnd C t) (C.map Yhf) (Yi1 (C.getD (fnd C t).toNat
 default)) (.d [.rd, .ptr] (Z18 (C.getD (fnd C t).toNat default).form (q - 1 + 1)) (.b (!decide ((↑(Yho (C.getD (fnd C t).toNat default).form) : Int) <= q - 1 + 1)) (.w
 (.ghost (.nilbox 2 3 true 1)) (.w (.ghost (.nilbox 2 4 true 5)) (.f [3, 4] [.box [vI (max (q - 1 + 1 - (↑(Yho (C.getD (fnd C t).toNat default).form) : Int)) (-1 : Int))],
 .arr true 1 [], .arr true 5 []] (.tup [.agg [vI 0, vI 0, vS (ByteArray.mk #[]), .ref 1, .ref 2], lb false])))) (.x (fnd C t) (C.map Yhf) (Yi1 (C.getD
 (fnd C t).toNat default)) (.d [.rd] (Zb (C.getD (fnd C t).toNat default).form) (.f [3, 4] [.box [vI (max (q - 1 + 1 - (↑(Yho (C.getD (fnd C t).toNat default).form) :
 Int)) (-1 : Int))], .arr true 1 ((C.getD (fnd C t).toNat default).form.scopes.map Yhh), .arr true 5 ((C.getD (fnd C t).toNat default).form.items.map Yhd)]
 (.tup [.agg [vI (C.getD (fnd C t).toNat default).form.kind, vI (C.getD (fnd C t).toNat default).form.number, vS (C.getD (fnd C t).toNat default).form.text, .ref 1, .ref
 2], lb true])))))))))))))) (.w (.ghost (.nilbox 3 4 true 5)) (.l (Z39 t C q) (Zbz t C q h hC ih) [0, 1, 2, 3, 4] [.s (li 0), .a (vI (q - 1)), .o (.arr true 5
 [])] (0, q - 1, []) (.t (.w (.ghost (.nilbox 1 3 true 1)) (.f [4, 3] [.box [vI (Yiq t.items C (q - 1) []).snd.snd], .arr true 1 [], .arr true 5 ((Yiq
 t.items C (q - 1) []).fst.map Yhd)] (.tup [.agg [vI t.kind, vI t.number, vS t.text, .ref 1, .ref 2], lb true]))) (.t (.w (.ghost (.nilbox 1 3 true 1)) (.w (.ghost (.nilbox 1 4
 true 5)) (.f [2, 3] [.box [vI (Yiq t.items C (q - 1) []).snd.snd], .arr true 1 [], .arr true 5 []] (.tup [.agg [vI 0, vI 0, vS (mkS []), .ref 1, .ref 2], lb
 false])))) .q))))))) (by
 dsimp only [Yhj, Zd, Yhq, Z39]
 have g2 := Ymk C t
 have g3 := @Y100 C hC t
 have g4 := Yjc t
 with_reducible repeat' (first | apply And.intro | exact zR | exact ih | (intro) | apply Z1 | apply Z1z | apply Z1p | apply Z3s)
 all_goals ((try simp only [std, inj] at *); with_reducible and_intros)
 all_goals try with_reducible first | apply Z1 | apply Z1z | apply Z1p | apply Z3s | apply ih
 all_goals try first | exact zw
 all_goals (try simp only [Bool.not_eq_true', Bool.not_eq_false', decide_eq_false_iff_not, decide_eq_true_eq, Decidable.not_not] at *)
 all_goals (try first | exact hC _ (by assumption) | exact Y100 hC (by omega) | (rw [Y1k1 (by omega)]) | (rw [Y1ji (by omega) (by assumption) (by first | exact Or.inl (by assumption) | exact Or.inr (by omega))]) | (rw [Y1jm (by omega) (by assumption) (by assumption) (by omega) (by assumption)]) | (rw [Y1is (by omega) (by assumption) (by assumption) (by omega) (by assumption) (by omega)]) | (rw [Y1k0 (by omega) (by assumption) (by assumption) (by omega) (by assumption) (by omega)]) | (rw [Y1jd (by omega) (by assumption) (by assumption)]) | (rw [Y1jt (by omega) (by assumption) (by assumption)]))
 all_goals (try first | rfl | (dsimp only; omega) | (simp only [List.length_nil]; omega)))
theorem Zd8 (t : YS) : ∀ (C : List YC) (q : Int) (h : 0 <= q /\ q <= 2000 /\ wY t <= 1000000000 /\ C.length <= 1000000000) (hC : ∀ z ∈ C, mxP z <= 1000000000), Zd t C q := YS.ind (P := fun t => ∀ (C : List YC) (q : Int) (h : 0 <= q /\ q <= 2000 /\ wY t <= 1000000000 /\ C.length <= 1000000000) (hC : ∀ z ∈ C, mxP z <= 1000000000), Zd t C q) (fun t ih C q h hC => Zf9 t C q h hC ih) t
abbrev Za (t : YS) (C : List YC) (q : Int) : Ct := ⟨259, [.box [vI q]], [.one (.ptr 0 0), Yhz t, ll (C.map Yhf)], .box [vI (bli t C q).2.2] :: Ykc (bli t C q).1, .tup [Yjv (bli t C q).1 1, lb (bli t C q).2.1]⟩
def Z3a (t : YS) (C : List YC) (q : Int) (k : Nat × Int × List YS) (k1 : Nat) : Lp Nat := .mk 206 1 (fun x => [(0, .one (.ptr 0 0)), (2, ll (List.map
 Yhf C)), (4, .one (.ptr 1 0)), (6, .one (.ptr 2 0)), (10, .one (.ptr 3 0)), (11, li ((k.fst : Int) + 1)), (12, .one (.ptr 4 0)), (15, .one (.ref 5)),
 (16, li (↑((C.getD ((rpi C (t.items.getD k.fst default) []).getD 0 0).toNat default).each.map Yhf).length : Int)), (19, li (k1 : Int)), (20, .one (.ref 6)), (171,
 .one (.ref 5)), (172, li (↑((rpi C (t.items.getD k.fst default) []).map Yhh).length : Int)), (173, hs x 0)]) (fun x => [.box [vI (iI C (t.items.getD k.fst default) k1
 k.snd.fst k.snd.snd).snd.snd], .box (vals (Yhk t)), .box [vI 0, vI 0, vS (ByteArray.mk #[]), .val (.lit (.slice none 0 0)), .val (.lit (.slice none 0
 0))], .box [vI t.kind, vI t.number, vS t.text, .ref 7, .ref 8], .box (vals (Yhk (t.items.getD k.fst default))), .arr true 1 ((rpi C (t.items.getD k.fst
 default) []).map Yhh), ho x 1, .arr true 1 (t.scopes.map Yhh), .arr true 5 ((iI C (t.items.getD k.fst default) k1 k.snd.fst k.snd.snd).fst.map Yhd)]) (fun k2 => [.s (li
 (k2 : Int)), .o (.arr false 12 ((Ym9 C k1 (List.take k2 (rpX C (t.items.getD k.fst default)))).map Yhf))]) (fun k2 => k2 <= (rpX C (t.items.getD k.fst
 default)).length /\ (rpX C (t.items.getD k.fst default)).length <= 1000000001 /\ k1 < rqN C (t.items.getD k.fst default) /\ rqB C (t.items.getD k.fst default) = true) (fun k2 => (rpX
 C (t.items.getD k.fst default)).length - k2) [.mk True (.exit 6) (fun x => [(0, .one (.ptr 0 0)), (2, ll (C.map Yhf)), (4, .one (.ptr 1 0)), (6, .one (.ptr 2
 0)), (10, .one (.ptr 3 0)), (11, li ((k.fst : Int) + 1)), (12, .one (.ptr 4 0)), (15, .one (.ref 5)), (16, li (↑((C.getD ((rpi C (t.items.getD k.fst
 default) []).getD 0 0).toNat default).each.map Yhf).length : Int)), (19, li (k1 : Int)), (20, .one (.ref 6))]) (fun x => [.box [vI (iI C (t.items.getD k.fst default) k1 k.snd.fst
 k.snd.snd).snd.snd], .box (vals (Yhk t)), .box [vI 0, vI 0, vS (ByteArray.mk #[]), .val (.lit (.slice none 0 0)), .val (.lit (.slice none 0 0))],
 .box [vI t.kind, vI t.number, vS t.text, .ref 7, .ref 8], .box (vals (Yhk (t.items.getD k.fst default))), .arr true 1 ((rpi C (t.items.getD k.fst
 default) []).map Yhh), ho x 0, .arr true 1 (t.scopes.map Yhh), .arr true 5 ((iI C (t.items.getD k.fst default) k1 k.snd.fst k.snd.snd).fst.map Yhd)]) [.o (.arr false
 12 ((stq C (t.items.getD k.fst default) k1).map Yhf))]]
def Z3b (t : YS) (C : List YC) (q : Int) (k : Nat × Int × List YS) : Lp Nat := .mk 206 1 (fun x => [(0, .one (.ptr 0 0)), (2, ll (C.map Yhf)),
 (4, .one (.ptr 1 0)), (6, .one (.ptr 2 0)), (10, .one (.ptr 3 0)), (11, li ((k.fst : Int) + 1)), (12, .one (.ptr 4 0)), (15, .one (.ref 5)), (16, li
 (↑((C.getD ((rpi C (t.items.getD k.fst default) []).getD 0 0).toNat default).each.map Yhf).length : Int)), (19, hs x 0)]) (fun x => [.box [ha x 1], .box (vals
 (Yhk t)), .box [vI 0, vI 0, vS (ByteArray.mk #[]), .val (.lit (.slice none 0 0)), .val (.lit (.slice none 0 0))], .box [vI t.kind, vI t.number, vS
 t.text, .ref 6, .ref 7], .box (vals (Yhk (t.items.getD k.fst default))), .arr true 1 ((rpi C (t.items.getD k.fst default) []).map Yhh), .arr true 1 (List.map
 Yhh t.scopes), ho x 2]) (fun k1 => [.s (li (k1 : Int)), .a (vI (iI C (t.items.getD k.fst default) k1 k.snd.fst k.snd.snd).snd.snd), .o (.arr true 5 ((iI C
 (t.items.getD k.fst default) k1 k.snd.fst k.snd.snd).fst.map Yhd))]) (fun k1 => k1 <= rqN C (t.items.getD k.fst default) /\ rqB C (t.items.getD k.fst default) = true /\ (iI C (t.items.getD
 k.fst default) k1 k.snd.fst k.snd.snd).snd.fst = true /\ (rpX C (t.items.getD k.fst default)).length <= 1000000001 /\ k.fst + 1 < t.items.length /\ t.items.length <= 1000000000 /\
 Yhr (t.items.getD (k.fst + 1) default) = true /\ 0 <= k.snd.fst /\ (k.snd.snd.length : Int) + k.snd.fst <= 2000 /\ Yig t.items C (q - 1) [] = Yig (List.drop k.fst t.items) C
 k.snd.fst k.snd.snd) (fun k1 => rqN C (t.items.getD k.fst default) - k1) [.mk ((iR C (t.items.getD k.fst default) k.snd.fst k.snd.snd).snd.fst = true) (.exit 4) (fun x => [(0,
 .one (.ptr 0 0)), (2, ll (C.map Yhf)), (4, .one (.ptr 1 0)), (6, .one (.ptr 2 0)), (10, .one (.ptr 3 0)), (11, li ((k.fst : Int) + 1))]) (fun x =>
 [.box [ha x 0], .box (vals (Yhk t)), .box [vI 0, vI 0, vS (ByteArray.mk #[]), .val (.lit (.slice none 0 0)), .val (.lit (.slice none 0 0))], .box
 [vI t.kind, vI t.number, vS t.text, .ref 4, .ref 5], .arr true 1 (t.scopes.map Yhh), ho x 1]) [.a (vI (iR C (t.items.getD k.fst default) k.snd.fst k.snd.snd).snd.snd),
 .o (.arr true 5 ((iR C (t.items.getD k.fst default) k.snd.fst k.snd.snd).fst.map Yhd))], .mk ((Yig t.items C (q - 1) []).snd.fst = false) .ret (fun x => [(6, .one
 (.ptr 1 0)), (7, hs x 2)]) (fun x => [.box [ha x 0], ho x 1]) [.a (vI (Yig t.items C (q - 1) []).snd.snd), .o (.box [vI 0, vI 0, vS (mkS []), .val (.lit (.slice
 none 0 0)), .val (.lit (.slice none 0 0))]), .s (lb false)]]
def Z3c (t : YS) (C : List YC) (q : Int) (k : Nat × Int × List YS) : Lp Nat := .mk 206 1 (fun x => [(0, .one (.ptr 0 0)), (2, ll (C.map Yhf)),
 (4, .one (.ptr 1 0)), (6, .one (.ptr 2 0)), (10, .one (.ptr 3 0)), (11, li ((k.fst : Int) + 1)), (12, .one (.ptr 4 0)), (15, .one (.ref 5)), (16, li
 (↑((C.getD ((rpi C (t.items.getD k.fst default) []).getD 0 0).toNat default).each.map Yhf).length : Int)), (148, .one (.ref 5)), (149, li (↑((rpi C
 (t.items.getD k.fst default) []).map Yhh).length : Int)), (150, hs x 0)]) (fun x => [.box [vI k.snd.fst], .box (vals (Yhk t)), .box [vI 0, vI 0, vS (ByteArray.mk #[]), .val
 (.lit (.slice none 0 0)), .val (.lit (.slice none 0 0))], .box [vI t.kind, vI t.number, vS t.text, .ref 6, .ref 7], .box (vals (Yhk (t.items.getD
 k.fst default))), .arr true 1 ((rpi C (t.items.getD k.fst default) []).map Yhh), .arr true 1 (t.scopes.map Yhh), .arr true 5 (k.snd.snd.map Yhd)]) (fun
 k1 => [.s (li (k1 : Int))]) (fun k1 => k1 <= (rpX C (t.items.getD k.fst default)).length /\ (rpX C (t.items.getD k.fst default)).length <= 1000000001 /\ rqA C (List.take k1 (rpX C
 (t.items.getD k.fst default))) (lnI C ((rpX C (t.items.getD k.fst default)).getD 0 default)) = true /\ 0 < (rpX C (t.items.getD k.fst default)).length /\ k.fst + 1 < t.items.length
 /\ t.items.length <= 1000000000 /\ Yhr (t.items.getD (k.fst + 1) default) = true /\ 0 <= k.snd.fst /\ (k.snd.snd.length : Int) + k.snd.fst <= 2000 /\ Yig t.items C (q - 1) [] = Yig
 (List.drop k.fst t.items) C k.snd.fst k.snd.snd) (fun k1 => (rpX C (t.items.getD k.fst default)).length - k1) [.mk (rqB C (t.items.getD k.fst default) = true) (.exit 2) (fun x =>
 [(0, .one (.ptr 0 0)), (2, ll (C.map Yhf)), (4, .one (.ptr 1 0)), (6, .one (.ptr 2 0)), (10, .one (.ptr 3 0)), (11, li ((k.fst : Int) + 1)), (12, .one
 (.ptr 4 0)), (15, .one (.ref 5)), (16, li (↑((C.getD ((rpi C (t.items.getD k.fst default) []).getD 0 0).toNat default).each.map Yhf).length : Int))]) (fun x =>
 [.box [vI k.snd.fst], .box (vals (Yhk t)), .box [vI 0, vI 0, vS (ByteArray.mk #[]), .val (.lit (.slice none 0 0)), .val (.lit (.slice none 0 0))],
 .box [vI t.kind, vI t.number, vS t.text, .ref 6, .ref 7], .box (vals (Yhk (t.items.getD k.fst default))), .arr true 1 ((rpi C (t.items.getD k.fst
 default) []).map Yhh), .arr true 1 (t.scopes.map Yhh), .arr true 5 (k.snd.snd.map Yhd)]) [], .mk ((Yig t.items C (q - 1) []).snd.fst = false) .ret (fun x => [(6,
 .one (.ptr 1 0)), (7, hs x 2)]) (fun x => [.box [ha x 0], ho x 1]) [.a (vI (Yig t.items C (q - 1) []).snd.snd), .o (.box [vI 0, vI 0, vS (mkS []), .val (.lit
 (.slice none 0 0)), .val (.lit (.slice none 0 0))]), .s (lb false)]]
def Z3d (t : YS) (C : List YC) (q : Int) : Lp (Nat × Int × List YS) := .mk 206 1 (fun x => [(0, .one (.ptr 0 0)), (2, ll (C.map Yhf)), (4,
 .one (.ptr 1 0)), (6, .one (.ptr 2 0)), (10, .one (.ptr 3 0)), (11, hs x 0)]) (fun x => [.box [ha x 1], .box (vals (Yhk t)), .box [vI 0, vI 0, vS
 (ByteArray.mk #[]), .val (.lit (.slice none 0 0)), .val (.lit (.slice none 0 0))], .box [vI t.kind, vI t.number, vS t.text, .ref 4, .ref 5], .arr
 true 1 (t.scopes.map Yhh), ho x 2]) (fun k => [.s (li (k.fst : Int)), .a (vI k.snd.fst), .o (.arr true 5 (k.snd.snd.map Yhd))]) (fun k => t.items.length >= k.fst
 /\ t.items.length <= 1000000000 /\ Yig t.items C (q - 1) [] = Yig (List.drop k.fst t.items) C k.snd.fst k.snd.snd /\ 0 <= k.snd.fst /\ (k.snd.snd.length : Int) + k.snd.fst <= 2000)
 (fun k => t.items.length - k.fst) [.mk ((Yig t.items C (q - 1) []).snd.fst = true) (.exit 0) (fun x => [(6, .one (.ptr 1 0)), (10, .one (.ptr 2 0))]) (fun x => [.box
 [ha x 0], .box [vI 0, vI 0, vS (ByteArray.mk #[]), .val (.lit (.slice none 0 0)), .val (.lit (.slice none 0 0))], .box [vI t.kind, vI t.number, vS
 t.text, .ref 3, .ref 4], .arr true 1 (t.scopes.map Yhh), ho x 1]) [.a (vI (Yig t.items C (q - 1) []).snd.snd), .o (.arr true 5 ((Yig t.items C (q
 - 1) []).fst.map Yhd))], .mk ((Yig t.items C (q - 1) []).snd.fst = false) .ret (fun x => [(6, .one (.ptr 1 0)), (7, hs x 2)]) (fun x => [.box [ha x 0], ho x 1]) [.a (vI (Yig
 t.items C (q - 1) []).snd.snd), .o (.box [vI 0, vI 0, vS (mkS []), .val (.lit (.slice none 0 0)), .val (.lit (.slice none 0 0))]), .s (lb false)]]
theorem Zc0 (t : YS) (C : List YC) (q : Int) (h : 0 <= q /\ q <= 2000 /\ wY t <= 1000000000 /\ C.length <= 1000000000) (hC : ∀ (z : YC), z ∈ C -> mxP z <=
 1000000000) (ih : ∀ (z : YS), z ∈ t.items -> ∀ (C : List YC) (q : Int), 0 <= q /\ q <= 2000 /\ wY z <= 1000000000 /\ C.length <= 1000000000 -> (∀ (z : YC), z ∈ C -> mxP z <=
 1000000000) -> OK (Za z C q)) (k : Nat × Int × List YS) (k1 : Nat) : Lp.Sem Tryz.prog (Yht Tryz.f259 3) (Z3a t C q k k1) := Yi3 (fun k2 => .i ((k2 : Int)
 < (↑((rpi C (t.items.getD k.fst default) []).map Yhh).length : Int)) (.p (0 <= (k2 : Int) /\ (k2 : Int).toNat < ((rpi C (t.items.getD k.fst default)
 []).map Yhh).length) (.w (.cells (Yhh ((rpi C (t.items.getD k.fst default) []).getD (k2 : Int).toNat default))) (.p (((rpi C (t.items.getD k.fst default) []).map Yhh)[(↑k2 :
 Int).toNat]? = some [cI ((rpi C (t.items.getD k.fst default) []).getD (k2 : Int).toNat 0)]) (.x ((rpi C (t.items.getD k.fst default) []).getD (k2 : Int).toNat 0) (List.map
 Yhf C) (Yi1 (C.getD ((rpi C (t.items.getD k.fst default) []).getD (k2 : Int).toNat 0).toNat default)) (.x (k1 : Int) ((C.getD ((rpi C (t.items.getD
 k.fst default) []).getD (k2 : Int).toNat 0).toNat default).each.map Yhf) (Yi1 ((C.getD ((rpi C (t.items.getD k.fst default) []).getD (k2 : Int).toNat 0).toNat default).each.getD k1
 default)) (.p (0 <= (rpi C (t.items.getD k.fst default) []).getD (k2 : Int).toNat 0 /\ ((rpi C (t.items.getD k.fst default) []).getD (k2 : Int).toNat 0).toNat < (List.map Yhf
 (Ym9 C k1 (List.take k2 (rpX C (t.items.getD k.fst default))))).length) (.w (.cells (Yi1 ((Ym9 C k1 (List.take k2 (rpX C (t.items.getD k.fst default)))).getD ((rpi C
 (t.items.getD k.fst default) []).getD (k2 : Int).toNat 0).toNat default))) (.p (((Ym9 C k1 (List.take k2 (rpX C (t.items.getD k.fst default)))).map Yhf)[((rpi C
 (t.items.getD k.fst default) []).getD (k2 : Int).toNat 0).toNat]? = some (Yi1 ((Ym9 C k1 (List.take k2 (rpX C (t.items.getD k.fst default)))).getD ((rpi C (t.items.getD
 k.fst default) []).getD (k2 : Int).toNat 0).toNat default))) (.r ((k2 : Int) + 1) (.g [0, 1, 2, 3, 4, 5, 6, 7, 8] (k2 + 1) [.s (li ((k2 : Int) + 1)), .o (.arr false 12
 (((Ym9 C k1 (List.take k2 (rpX C (t.items.getD k.fst default)))).map Yhf).set ((rpi C (t.items.getD k.fst default) []).getD (k2 : Int).toNat 0).toNat (Yi1
 ((C.getD ((rpi C (t.items.getD k.fst default) []).getD (k2 : Int).toNat 0).toNat default).each.getD k1 default))))])))))))))) (.o 0 [0, 1, 2, 3, 4, 5, 6, 7, 8] [.o (.arr false
 12 ((Ym9 C k1 (List.take k2 (rpX C (t.items.getD k.fst default)))).map Yhf))])) (by
 intro k2 h; try dsimp only [Yhj, Yhq, Z3a] at h ⊢
 obtain ⟨i, m, O⟩ := k
 simp only at *
 have hB := h.2.2.2
 have g1 := @Yur C (t.items.getD i default) k2
 have g3 : k2 < (rpX C (t.items.getD i default)).length -> (C.getD ((rpX C (t.items.getD i default)).getD k2 0).toNat default).each.length = rqN C (t.items.getD i default) := fun a => Y1ff hB a
 have g4 := Y15i C k1 ((rpX C (t.items.getD i default)).take k2)
 have g5 : k2 < (rpX C (t.items.getD i default)).length -> (List.map Yhf (Ym9 C k1 ((rpX C (t.items.getD i default)).take k2))).set ((rpX C (t.items.getD i default)).getD k2 0).toNat (Yi1 ((C.getD ((rpX C (t.items.getD i default)).getD k2 0).toNat default).each.getD k1 default)) = List.map Yhf (Ym9 C k1 ((rpX C (t.items.getD i default)).take (k2 + 1))) := fun a => by rw [Y1h4, Y1cy a]; rfl
 have g6 : (rpX C (t.items.getD i default)).length <= k2 -> Ym9 C k1 ((rpX C (t.items.getD i default)).take k2) = stq C (t.items.getD i default) k1 := fun a => Y1hu a
 with_reducible repeat' (first | apply And.intro | exact zR | exact ih | (intro) | apply Zn | apply Z3 | apply Z2 | apply Z0 | apply Z1x)
 all_goals ((try simp only [std, inj] at *); with_reducible and_intros)
 all_goals try with_reducible first | apply Zn | apply Z3 | apply Z2 | apply Z0 | apply Z1x | apply ih
 all_goals try first | exact zw
 all_goals (try simp only [Bool.not_eq_true', Bool.not_eq_false', decide_eq_false_iff_not, decide_eq_true_eq, Decidable.not_not] at *)
 all_goals (try simp only [rpX, rqN, dfI] at *)
 all_goals (try first | exact hB | omega | (have := g1 (by omega); omega) | (have := g1 (by omega); exact Ykm this.2.2 (Ynp _)) | exact Ykm (by have := g3 (by omega); omega) (Ynp _) | exact g5 (by omega) | exact g6 (by omega) | (rw [g6 (by omega)]; done)))
theorem Zc1 (t : YS) (C : List YC) (q : Int) (h : 0 <= q /\ q <= 2000 /\ wY t <= 1000000000 /\ C.length <= 1000000000) (hC : ∀ (z : YC), z ∈ C -> mxP z <=
 1000000000) (ih : ∀ (z : YS), z ∈ t.items -> ∀ (C : List YC) (q : Int), 0 <= q /\ q <= 2000 /\ wY z <= 1000000000 /\ C.length <= 1000000000 -> (∀ (z : YC), z ∈ C -> mxP z <=
 1000000000) -> OK (Za z C q)) (k : Nat × Int × List YS) : Lp.Sem Tryz.prog (Yht Tryz.f259 2) (Z3b t C q k) := Yi3 (fun k1 => .i ((k1 : Int) < (↑(List.map
 Yhf (C.getD ((rpi C (t.items.getD k.fst default) []).getD 0 0).toNat default).each).length : Int)) (.w (.bool false) (.p (∀ (e : List Cell), e ∈ C.map Yhf ->
 e.length = 12) (.p ((0 + (C.map Yhf).length) * 192 <= 140737488355328) (.z Yhh (rpi C (t.items.getD k.fst default) []) (.l (Z3a t C q k k1) (Zc0 t C
 q h hC ih k k1) [0, 1, 2, 3, 4, 5, 8, 6, 7] [.s (li 0), .o (.arr false 12 (C.map Yhf))] 0 (.t (.d [.ptr, .rd, .rd] (Za (t.items.getD k.fst default) (stq C
 (t.items.getD k.fst default) k1) (iI C (t.items.getD k.fst default) k1 k.snd.fst k.snd.snd).snd.snd) (.b (!(bli (t.items.getD k.fst default) (stq C (t.items.getD k.fst default)
 k1) (iI C (t.items.getD k.fst default) k1 k.snd.fst k.snd.snd).snd.snd).snd.fst) (.o 1 [0, 2] [.a (vI (bli (t.items.getD k.fst default) (stq C (t.items.getD k.fst default) k1) (iI
 C (t.items.getD k.fst default) k1 k.snd.fst k.snd.snd).snd.snd).snd.snd), .o (.box [vI 0, vI 0, vS (ByteArray.mk #[]), .val (.lit (.slice none 0 0)), .val (.lit
 (.slice none 0 0))]), .s (lb false)]) (.p ((((iI C (t.items.getD k.fst default) k1 k.snd.fst k.snd.snd).fst.map Yhd).length + 1) * 80 <= 140737488355328) (.r ((↑k1 :
 Int) + 1) (.g [0, 1, 2, 3, 4, 5, 7, 14] (k1 + 1) [.s (li ((k1 : Int) + 1)), .a (vI (bli (t.items.getD k.fst default) (stq C (t.items.getD k.fst default) k1) (iI C (t.items.getD
 k.fst default) k1 k.snd.fst k.snd.snd).snd.snd).snd.snd), .o (.arr true 5 ((iI C (t.items.getD k.fst default) k1 k.snd.fst k.snd.snd).fst.map Yhd ++ [Yhk (bli
 (t.items.getD k.fst default) (stq C (t.items.getD k.fst default) k1) (iI C (t.items.getD k.fst default) k1 k.snd.fst k.snd.snd).snd.snd).fst]))]))))) .q)))))) (.o 0 [0, 1, 2, 3,
 6, 7] [.a (vI (iI C (t.items.getD k.fst default) k1 k.snd.fst k.snd.snd).snd.snd), .o (.arr true 5 ((iI C (t.items.getD k.fst default) k1 k.snd.fst
 k.snd.snd).fst.map Yhd))])) (by
 intro k1 h; try dsimp only [Yhj, Yhq, Z3b, Z3a] at h ⊢
 obtain ⟨i, m, O⟩ := k
 simp only at *
 have hd := h.2.2.2.2.2.2.1
 have H := h.2.2.2.2.2.2.2.2.2
 have hB := h.2.1
 have hI := h.2.2.1
 have hj := h.1
 have hi := h.2.2.2.2.1
 have g1 := Y16z C (t.items.getD i default) k1 m O hI
 have g2 := Y1ga C (t.items.getD i default) k1 m O (by omega) hI
 have g8 := @Yl6 t i (Nat.lt_of_succ_lt hi)
 have g9 : Ym9 C k1 ((rpX C (t.items.getD i default)).take 0) = C := rfl
 have g11 : 0 < (rpX C (t.items.getD i default)).length := by
  simp only [rqB, Bool.and_eq_true, Bool.not_eq_true', decide_eq_false_iff_not] at hB
  omega
 have g12 := Y1d5 hC g11
 have b0 : k1 < rqN C (t.items.getD i default) -> (bli (t.items.getD i default) (stq C (t.items.getD i default) k1) (iI C (t.items.getD i default) k1 m O).2.2).2.1 = false -> (Yig t.items C (q - 1) []).2.1 = false /\ (Yig t.items C (q - 1) []).2.2 = (bli (t.items.getD i default) (stq C (t.items.getD i default) k1) (iI C (t.items.getD i default) k1 m O).2.2).2.2 := fun a c => by
  have r := Y1j1 hB a hI c
  rw [H, Yrf hi hd, if_neg (by rw [r.1]; decide)]; exact r
 have b1 : rqN C (t.items.getD i default) <= k1 -> iR C (t.items.getD i default) m O = iI C (t.items.getD i default) k1 m O := fun a => Y1kt hB hj a
 with_reducible repeat' (first | apply And.intro | exact zR | exact ih | (intro) | apply Zn | apply Z3 | apply Z2 | apply Z0 | apply Z1x | apply ih)
 all_goals ((try simp only [std, inj] at *); with_reducible and_intros)
 all_goals try first | with_reducible (first | apply Zn | apply Z3 | apply Z2 | apply Z0 | apply Z1x | apply ih) | (simp only [<- List.map_append]; with_reducible first | apply Zn | apply Z3 | apply Z2 | apply Z0 | apply Z1x | apply ih)
 all_goals try first | exact zw
 all_goals (try simp only [Bool.not_eq_true', Bool.not_eq_false', decide_eq_false_iff_not, decide_eq_true_eq, Decidable.not_not] at *)
 all_goals (try simp only [rpX, rqN, dfI] at *)
 all_goals (try first | exact hd | exact H | exact hB | exact Yhn hi | exact hC _ (by assumption) | exact Y1j8 hC _ _ _ (by assumption) | exact g9.symm | (rw [g9]; done) | (rw [Y15i]; omega) | omega | exact (b0 (by omega) (by assumption)).1 | exact (b0 (by omega) (by assumption)).2.symm | (rw [g1]; done) | (rw [g1]; assumption) | (rw [g1]; exact Yhi (C := Yhd) _ _) | (rw [b1 (by omega)]; done) | (rw [b1 (by omega)]; exact hI))
 all_goals (try exact Yhn (Nat.lt_of_succ_lt hi)))
theorem Zc2 (t : YS) (C : List YC) (q : Int) (h : 0 <= q /\ q <= 2000 /\ wY t <= 1000000000 /\ C.length <= 1000000000) (hC : ∀ (z : YC), z ∈ C -> mxP z <=
 1000000000) (ih : ∀ (z : YS), z ∈ t.items -> ∀ (C : List YC) (q : Int), 0 <= q /\ q <= 2000 /\ wY z <= 1000000000 /\ C.length <= 1000000000 -> (∀ (z : YC), z ∈ C -> mxP z <=
 1000000000) -> OK (Za z C q)) (k : Nat × Int × List YS) : Lp.Sem Tryz.prog (Yht Tryz.f259 1) (Z3c t C q k) := Yi3 (fun k1 => .i ((k1 : Int) < (↑(List.map
 Yhh (rpi C (t.items.getD k.fst default) [])).length : Int)) (.p (0 <= (k1 : Int) /\ (k1 : Int).toNat < ((rpi C (t.items.getD k.fst default) []).map Yhh).length) (.w (.cells
 (Yhh ((rpi C (t.items.getD k.fst default) []).getD (k1 : Int).toNat default))) (.p (((rpi C (t.items.getD k.fst default) []).map Yhh)[(k1 : Int).toNat]? = some [cI ((rpi
 C (t.items.getD k.fst default) []).getD (k1 : Int).toNat 0)]) (.x ((rpi C (t.items.getD k.fst default) []).getD (k1 : Int).toNat 0) (C.map Yhf) (Yi1 (C.getD ((rpi
 C (t.items.getD k.fst default) []).getD (k1 : Int).toNat 0).toNat default)) (.z Yhf (C.getD ((rpi C (t.items.getD k.fst default) []).getD (k1 : Int).toNat 0).toNat
 default).each (.i ((↑((C.getD ((rpi C (t.items.getD k.fst default) []).getD (k1 : Int).toNat 0).toNat default).each.map Yhf).length : Int) ≠ (↑(List.map Yhf
 (C.getD ((rpi C (t.items.getD k.fst default) []).getD 0 0).toNat default).each).length : Int)) (.o 1 [0, 2] [.a (vI k.snd.fst), .o (.box [vI 0, vI 0, vS (ByteArray.mk #[]),
 .val (.lit (.slice none 0 0)), .val (.lit (.slice none 0 0))]), .s (lb false)]) (.r ((k1 : Int) + 1) (.g [0, 1, 2, 3, 4, 5, 6, 7] (k1 + 1) [.s (li ((↑k1 :
 Int) + 1))])))))))) (.o 0 [0, 1, 2, 3, 4, 5, 6, 7] [])) (by
 intro k1 h; try dsimp only [Yhj, Yhq, Z3c] at h ⊢
 obtain ⟨i, m, O⟩ := k
 simp only at *
 have hd := h.2.2.2.2.2.2.1
 have H := h.2.2.2.2.2.2.2.2.2
 have hA := h.2.2.1
 have h00 := h.2.2.2.1
 have g1 := @Yur C (t.items.getD i default) k1
 have g3 : (rpX C (t.items.getD i default)).length <= k1 -> rqB C (t.items.getD i default) = true := fun a => Y1jc h00 a hA
 have g4 : k1 < (rpX C (t.items.getD i default)).length -> ¬ ((C.getD ((rpX C (t.items.getD i default)).getD k1 0).toNat default).each.length : Int) = ((C.getD ((rpX C (t.items.getD i default)).getD 0 0).toNat default).each.length : Int) -> Yig t.items C (q - 1) [] = (O, false, m) := fun a b => by rw [H, Yrf h.2.2.2.2.1 hd, Y1iq a b]; rfl
 have g5 : k1 < (rpX C (t.items.getD i default)).length -> ((C.getD ((rpX C (t.items.getD i default)).getD k1 0).toNat default).each.length : Int) = ((C.getD ((rpX C (t.items.getD i default)).getD 0 0).toNat default).each.length : Int) -> rqA C ((rpX C (t.items.getD i default)).take (k1 + 1)) (lnI C ((rpX C (t.items.getD i default)).getD 0 default)) = true := fun a b => Y1c6 a hA b
 with_reducible repeat' (first | apply And.intro | exact zR | exact ih | (intro) | apply Zn | apply Z3 | apply Z2 | apply Z0 | apply Z1x)
 all_goals ((try simp only [std, inj] at *); with_reducible and_intros)
 all_goals try with_reducible first | apply Zn | apply Z3 | apply Z2 | apply Z0 | apply Z1x | apply ih
 all_goals try first | exact zw
 all_goals (try simp only [Bool.not_eq_true', Bool.not_eq_false', decide_eq_false_iff_not, decide_eq_true_eq, Decidable.not_not] at *)
 all_goals (try simp only [rpX, rqN, dfI] at *)
 all_goals (try first | exact hd | exact H | omega | exact g3 (by omega) | exact g5 (by omega) (by assumption) | (have := g1 (by omega); omega))
 all_goals (try (rw [g4 (by omega) (by assumption)]; first | done | rfl)))
theorem Zc3 (t : YS) (C : List YC) (q : Int) (h : 0 <= q /\ q <= 2000 /\ wY t <= 1000000000 /\ C.length <= 1000000000) (hC : ∀ (z : YC), z ∈ C -> mxP z <=
 1000000000) (ih : ∀ (z : YS), z ∈ t.items -> ∀ (C : List YC) (q : Int), 0 <= q /\ q <= 2000 /\ wY z <= 1000000000 /\ C.length <= 1000000000 -> (∀ (z : YC), z ∈ C -> mxP z <=
 1000000000) -> OK (Za z C q)) : Lp.Sem Tryz.prog (Yht Tryz.f259 0) (Z3d t C q) := Yi3 (fun k => .z Yhd t.items (.i ((k.fst : Int) < (↑(List.map Yhd
 t.items).length : Int)) (.x (k.fst : Int) (t.items.map Yhd) (Yhk (t.items.getD k.fst default)) (.r ((k.fst : Int) + 1) (.z Yhd t.items (.i ((k.fst : Int) + 1 =
 (↑(t.items.map Yhd).length : Int)) (.y true (.d [.ptr, .rd, .rd] (Za (t.items.getD k.fst default) C k.snd.fst) (.b (!(bli (t.items.getD k.fst default) C
 k.snd.fst).snd.fst) (.o 1 [0, 2] [.a (vI (bli (t.items.getD k.fst default) C k.snd.fst).snd.snd), .o (.box [vI 0, vI 0, vS (ByteArray.mk #[]), .val (.lit (.slice none
 0 0)), .val (.lit (.slice none 0 0))]), .s (lb false)]) (.p (((k.snd.snd.map Yhd).length + 1) * 80 <= 140737488355328) (.r ((k.fst : Int) + 1) (.g [0, 1, 2, 3,
 4, 12] (k.fst + 1, (bli (t.items.getD k.fst default) C k.snd.fst).snd.snd, k.snd.snd ++ [(bli (t.items.getD k.fst default) C k.snd.fst).fst]) [.s (li ((k.fst : Int) + 1)), .a (vI
 (bli (t.items.getD k.fst default) C k.snd.fst).snd.snd), .o (.arr true 5 (k.snd.snd.map Yhd ++ [Yhk (bli (t.items.getD k.fst default) C k.snd.fst).fst]))])))))) (.r
 ((k.fst : Int) + 1) (.x ((k.fst : Int) + 1) (t.items.map Yhd) (Yhk (t.items.getD (k.fst + 1) default)) (.c [.rd] (Z0 (t.items.getD (k.fst + 1) default)) (.b
 (!Yhr (t.items.getD (k.fst + 1) default)) (.d [.ptr, .rd, .rd] (Za (t.items.getD k.fst default) C k.snd.fst) (.b (!(bli (t.items.getD k.fst default) C
 k.snd.fst).snd.fst) (.o 1 [0, 2] [.a (vI (bli (t.items.getD k.fst default) C k.snd.fst).snd.snd), .o (.box [vI 0, vI 0, vS (ByteArray.mk #[]), .val (.lit (.slice none
 0 0)), .val (.lit (.slice none 0 0))]), .s (lb false)]) (.p (((k.snd.snd.map Yhd).length + 1) * 80 <= 140737488355328) (.r ((k.fst : Int) + 1) (.g [0, 1, 2, 3,
 4, 12] (k.fst + 1, (bli (t.items.getD k.fst default) C k.snd.fst).snd.snd, k.snd.snd ++ [(bli (t.items.getD k.fst default) C k.snd.fst).fst]) [.s (li ((k.fst : Int) + 1)), .a (vI
 (bli (t.items.getD k.fst default) C k.snd.fst).snd.snd), .o (.arr true 5 (k.snd.snd.map Yhd ++ [Yhk (bli (t.items.getD k.fst default) C k.snd.fst).fst]))]))))) (.r
 ((k.fst : Int) + 1) (.d [.rd, .rd, .own true 1] (Z2e (t.items.getD k.fst default) C []) (.z Yhh (rpi C (t.items.getD k.fst default) []) (.i ((↑((rpi C
 (t.items.getD k.fst default) []).map Yhh).length : Int) = 0) (.o 1 [0, 2] [.a (vI k.snd.fst), .o (.box [vI 0, vI 0, vS (ByteArray.mk #[]), .val (.lit (.slice none 0 0)),
 .val (.lit (.slice none 0 0))]), .s (lb false)]) (.p ((0 : Int) <= 0 /\ 0 < ((rpi C (t.items.getD k.fst default) []).map Yhh).length) (.w (.cells (Yhh ((rpi C
 (t.items.getD k.fst default) []).getD 0 default))) (.p (((rpi C (t.items.getD k.fst default) []).map Yhh)[0]? = some [cI ((rpi C (t.items.getD k.fst default) []).getD 0 0)])
 (.x ((rpi C (t.items.getD k.fst default) []).getD 0 0) (C.map Yhf) (Yi1 (C.getD ((rpi C (t.items.getD k.fst default) []).getD 0 0).toNat default)) (.z Yhf
 (C.getD ((rpi C (t.items.getD k.fst default) []).getD 0 0).toNat default).each (.z Yhh (rpi C (t.items.getD k.fst default) []) (.l (Z3c t C q k) (Zc2 t C q h
 hC ih k) [0, 1, 2, 3, 6, 8, 4, 5] [.s (li 0)] 0 (.t (.l (Z3b t C q k) (Zc1 t C q h hC ih k) [0, 1, 2, 3, 4, 5, 6, 7] [.s (li 0), .a (vI k.snd.fst), .o (.arr
 true 5 (k.snd.snd.map Yhd))] 0 (.t (.r ((k.fst : Int) + 1 + 1) (.g [0, 1, 2, 3, 4, 5] (k.fst + 1 + 1, (iR C (t.items.getD k.fst default) k.snd.fst k.snd.snd).snd.snd,
 (iR C (t.items.getD k.fst default) k.snd.fst k.snd.snd).fst) [.s (li ((k.fst : Int) + 1 + 1)), .a (vI (iR C (t.items.getD k.fst default) k.snd.fst k.snd.snd).snd.snd), .o (.arr
 true 5 ((iR C (t.items.getD k.fst default) k.snd.fst k.snd.snd).fst.map Yhd))])) (.t (.o 1 [0, 1] [.a (vI (Yig t.items C (q - 1) []).snd.snd), .o (.box [vI 0, vI 0, vS
 (mkS []), .val (.lit (.slice none 0 0)), .val (.lit (.slice none 0 0))]), .s (lb false)]) .q))) (.t (.o 1 [0, 1] [.a (vI (Yig t.items C (q - 1)
 []).snd.snd), .o (.box [vI 0, vI 0, vS (mkS []), .val (.lit (.slice none 0 0)), .val (.lit (.slice none 0 0))]), .s (lb false)]) .q)))))))))))))))))))))
 (.o 0 [0, 2, 3, 4, 5] [.a (vI k.snd.fst), .o (.arr true 5 (k.snd.snd.map Yhd))]))) (by
 intro k h; try dsimp only [Yhj, Yhq, Z3d, Z3b, Z3c] at h ⊢
 obtain ⟨i, m, O⟩ := k
 simp only at *
 have H := h.2.2.1
 have p1 : i < t.items.length -> (t.items.length <= i + 1 ∨ Yhr (t.items.getD (i + 1) default) = false) -> (bli (t.items.getD i default) C m).2.1 = true -> Yig (t.items.drop i) C m O = Yig (t.items.drop (i + 1)) C (bli (t.items.getD i default) C m).2.2 (O ++ [(bli (t.items.getD i default) C m).1]) := fun a b c => by rw [Yyi a b, if_pos c]
 have p2 : i < t.items.length -> (t.items.length <= i + 1 ∨ Yhr (t.items.getD (i + 1) default) = false) -> (bli (t.items.getD i default) C m).2.1 = false -> Yig (t.items.drop i) C m O = (O, false, (bli (t.items.getD i default) C m).2.2) := fun a b c => by rw [Yyi a b, if_neg (by rw [c]; decide)]
 have d1 : i + 1 < t.items.length -> Yhr (t.items.getD (i + 1) default) = true -> (iR C (t.items.getD i default) m O).2.1 = true -> Yig (t.items.drop i) C m O = Yig (t.items.drop (i + 1 + 1)) C (iR C (t.items.getD i default) m O).2.2 (iR C (t.items.getD i default) m O).1 := fun a b c => by rw [Yrf a b, if_pos c]
 have d3 : i + 1 < t.items.length -> Yhr (t.items.getD (i + 1) default) = true -> (rpX C (t.items.getD i default)).length = 0 -> Yig (t.items.drop i) C m O = (O, false, m) := fun a b c => by
  have e : iR C (t.items.getD i default) m O = (O, false, m) := by unfold iR rqB; rw [c]; rfl
  rw [Yrf a b, e]; rfl
 have e1 : t.items.length <= i -> Yig (t.items.drop i) C m O = (O, true, m) := fun a => Y1er a
 have g4 := Yun (t.items.getD i default) C m
 have g6 : 0 <= m -> (iR C (t.items.getD i default) m O).2.1 = true -> 0 <= (iR C (t.items.getD i default) m O).2.2 /\ ((iR C (t.items.getD i default) m O).1.length : Int) + (iR C (t.items.getD i default) m O).2.2 <= O.length + m := fun a b => Y1lc C _ m O a b
 have g8 := @Yl6 t i
 have g9 := Y175 C (t.items.getD i default) []
 have g10 := Yua (t.items.getD i default)
 have g11 := fun h : 0 < (rpX C (t.items.getD i default)).length => Yur h
 have g12 : iI C (t.items.getD i default) 0 m O = (O, true, m) := rfl
 have g13 := fun h : 0 < (rpX C (t.items.getD i default)).length => Y1d5 hC h
 with_reducible repeat' (first | apply And.intro | exact zR | exact ih | (intro) | apply Zn | apply Z3 | apply Z2 | apply Z0 | apply Z1x | apply ih)
 all_goals ((try simp only [std, inj] at *); with_reducible and_intros)
 all_goals try first | with_reducible (first | apply Zn | apply Z3 | apply Z2 | apply Z0 | apply Z1x | apply ih) | (simp only [<- List.map_append]; with_reducible first | apply Zn | apply Z3 | apply Z2 | apply Z0 | apply Z1x | apply ih)
 all_goals try first | exact zw
 all_goals (try simp only [Bool.not_eq_true', Bool.not_eq_false', decide_eq_false_iff_not, decide_eq_true_eq, Decidable.not_not] at *)
 all_goals (try simp only [rpX, rqN, dfI] at *)
 all_goals (try first | exact Yhn (by omega) | exact hC _ (by assumption) | exact Yhi (C := Yhd) _ _ | exact (Yur (by show 0 < (rpi C (t.items.getD i default) []).length; omega)).1 | (show rqA C [] _ = true; rfl) | (show (_ : Bool) = true; exact (rfl : (iI C (t.items.getD i default) 0 m O).2.1 = true)) | exact (rfl : m = (iI C (t.items.getD i default) 0 m O).2.2) | exact (rfl : O = (iI C (t.items.getD i default) 0 m O).1) | exact (rfl : O.map Yhd = List.map Yhd (iI C (t.items.getD i default) 0 m O).1) | (have := g8 (by omega); simp only [List.length_nil] at *; omega))
 all_goals (try first | (rw [H, p1 (by omega) (by first | exact Or.inl (by omega) | exact Or.inr (by assumption)) (by assumption)]) | (rw [H, p2 (by omega) (by first | exact Or.inl (by omega) | exact Or.inr (by assumption)) (by assumption)]) | (rw [H, d1 (by omega) (by assumption) (by assumption)]) | (rw [H, d3 (by omega) (by assumption) (by omega)]) | (rw [H, e1 (by omega)]))
 all_goals (try first | (have := g4 (by omega) (by assumption); first | omega | (simp only [List.length_singleton]; omega)) | (have := g6 (by omega) (by assumption); omega)))
theorem Zfa (t : YS) (C : List YC) (q : Int) (h : 0 <= q /\ q <= 2000 /\ wY t <= 1000000000 /\ C.length <= 1000000000) (hC : ∀ z ∈ C, mxP z <= 1000000000) (ih : ∀ z ∈
 t.items, ∀ (C : List YC) (q : Int) (h : 0 <= q /\ q <= 2000 /\ wY z <= 1000000000 /\ C.length <= 1000000000) (hC : ∀ z ∈ C, mxP z <= 1000000000), Za z C q)  : Za t C
 q := Yhv Tryz.call259 Tryz.func259 (.c [.rd, .rd] (Z95 C t) (.i (0 <= if t.kind = 1 then fnd C t else (-1 : Int)) (.x (if t.kind = 1 then fnd C t else (-1 : Int)) (List.map
 Yhf C) (Yi1 (C.getD (if t.kind = 1 then fnd C t else (-1 : Int)).toNat default)) (.i ((C.getD (if t.kind = 1 then fnd C t else (-1 : Int)).toNat default).depth ≠ 0) (.w
 (.ghost (.nilbox 2 3 true 1)) (.w (.ghost (.nilbox 2 4 true 5)) (.f [3, 4] [.box [vI q], .arr true 1 [], .arr true 5 []] (.tup [.agg [vI 0, vI 0, vS (ByteArray.mk #[]),
 .ref 1, .ref 2], lb false])))) (.x (if t.kind = 1 then fnd C t else (-1 : Int)) (C.map Yhf) (Yi1 (C.getD (if t.kind = 1 then fnd C t else (-1 : Int)).toNat
 default)) (.d [.rd, .rd, .ptr] (Z19 (C.getD (if t.kind = 1 then fnd C t else (-1 : Int)).toNat default).form 1 0) (.b (!(Yj8 (C.getD (if t.kind = 1 then fnd C t else (-1 :
 Int)).toNat default).form 1 0).fst) (.w (.ghost (.nilbox 2 3 true 1)) (.w (.ghost (.nilbox 2 4 true 5)) (.f [4, 5] [.box [vI q], .arr true 1 [], .arr true 5 []] (.tup
 [.agg [vI 0, vI 0, vS (ByteArray.mk #[]), .ref 1, .ref 2], lb false])))) (.w (.draw [(8, [0])]) (.r (q - (Yj8 (C.getD (if t.kind = 1 then fnd C t else (-1 : Int)).toNat
 default).form 1 0).snd) (.w (.draw [(11, [2])]) (.x (if t.kind = 1 then fnd C t else (-1 : Int)) (C.map Yhf) (Yi1 (C.getD (if t.kind = 1 then fnd C t else (-1 :
 Int)).toNat default)) (.d [.rd] (Zr (C.getD (if t.kind = 1 then fnd C t else (-1 : Int)).toNat default).form) (.f [4, 5] [.box [vI (q - (Yj8 (C.getD (if t.kind = 1 then
 fnd C t else (-1 : Int)).toNat default).form 1 0).snd)], .arr true 1 ((C.getD (if t.kind = 1 then fnd C t else (-1 : Int)).toNat default).form.scopes.map Yhh), .arr true
 5 ((C.getD (if t.kind = 1 then fnd C t else (-1 : Int)).toNat default).form.items.map Yhd)] (.tup [.agg [vI (C.getD (if t.kind = 1 then fnd C t else (-1 : Int)).toNat
 default).form.kind, vI (C.getD (if t.kind = 1 then fnd C t else (-1 : Int)).toNat default).form.number, vS (C.getD (if t.kind = 1 then fnd C t else (-1 : Int)).toNat
 default).form.text, .ref 1, .ref 2], lb (decide (0 <= q - (Yj8 (C.getD (if t.kind = 1 then fnd C t else (-1 : Int)).toNat default).form 1 0).snd))])))))))))))) (.r (q - 1) (.i
 (q - (1 : Int) < 0) (.w (.ghost (.nilbox 2 3 true 1)) (.w (.ghost (.nilbox 2 4 true 5)) (.f [3, 4] [.box [vI (q - 1)], .arr true 1 [], .arr true 5 []] (.tup [.agg [vI 0,
 vI 0, vS (ByteArray.mk #[]), .ref 1, .ref 2], lb false])))) (.w (.draw [(11, [11])]) (.d [.rd] (Zi t.scopes) (.w (.ghost (.nilbox 11 4 true 5)) (.l (Z3d t C
 q) (Zc3 t C q h hC ih) [0, 1, 2, 11, 3, 12] [.s (li 0), .a (vI (q - 1)), .o (.arr true 5 [])] (0, q - 1, []) (.t (.f [3, 4] [.box [vI (Yig t.items C (q - 1)
 []).snd.snd], .arr true 1 (t.scopes.map Yhh), .arr true 5 ((Yig t.items C (q - 1) []).fst.map Yhd)] (.tup [.agg [vI t.kind, vI t.number, vS t.text, .ref
 1, .ref 2], lb true])) (.t (.w (.ghost (.nilbox 1 3 true 1)) (.w (.ghost (.nilbox 1 4 true 5)) (.f [2, 3] [.box [vI (Yig t.items C (q - 1) []).snd.snd], .arr true 1 [],
 .arr true 5 []] (.tup [.agg [vI 0, vI 0, vS (mkS []), .ref 1, .ref 2], lb false])))) .q)))))))))) (by
 dsimp only [Yhj, Za, Yhq, Z3d]
 have g2 := Ymk C t
 have g4 := Yjc t
 with_reducible repeat' (first | apply And.intro | exact zR | exact ih | (intro) | apply Zn | apply Z3 | apply Z2 | apply Z0 | apply Z1x)
 all_goals ((try simp only [std, inj] at *); with_reducible and_intros)
 all_goals try with_reducible first | apply Zn | apply Z3 | apply Z2 | apply Z0 | apply Z1x | apply ih
 all_goals try first | exact zw
 all_goals (try simp only [Bool.not_eq_true', Bool.not_eq_false', decide_eq_false_iff_not, decide_eq_true_eq, Decidable.not_not] at *)
 all_goals (try (have hk := Y1hi (by assumption : 0 <= if t.kind = 1 then fnd C t else -1); simp only [if_pos hk.1] at *))
 all_goals (try first | exact hC _ (by assumption) | exact Y100 hC (by omega) | (have := Y1go _ (by assumption : (Yj8 (C.getD (fnd C t).toNat default).form 1 0).1 = true); omega) | (rw [Y1ju (by omega) (by omega) (by assumption)]) | (rw [Y1jh (by omega) (by omega) (by assumption) (by assumption)]) | (rw [Y1jy (by omega) (by omega) (by assumption) (by assumption)]) | (rw [Y1k2 (by omega) (by omega)]) | (rw [Y1j4 (by omega) (by omega) (by assumption)]) | (rw [Y1jz (by omega) (by omega) (by assumption)]))
 all_goals (try first | rfl | (dsimp only; omega) | (simp only [List.length_nil]; omega)))
theorem Zd9 (t : YS) : ∀ (C : List YC) (q : Int) (h : 0 <= q /\ q <= 2000 /\ wY t <= 1000000000 /\ C.length <= 1000000000) (hC : ∀ z ∈ C, mxP z <= 1000000000), Za t C q := YS.ind (P := fun t => ∀ (C : List YC) (q : Int) (h : 0 <= q /\ q <= 2000 /\ wY t <= 1000000000 /\ C.length <= 1000000000) (hC : ∀ z ∈ C, mxP z <= 1000000000), Za t C q) (fun t ih C q h hC => Zfa t C q h hC ih) t
abbrev Z9p (t : YS) (C : List YC) : Ct := ⟨195, [], [Yhz t, ll (C.map Yhf)], Ykc (Yld t C), .tup [Yjv (Yld t C) 0, lb (Ynh t C)]⟩
theorem Za8 (t : YS) (C : List YC) (h : wY t <= 1000000000 /\ C.length <= 1000000000) (hC : ∀ z ∈ C, mxP z <= 1000000000)  : Z9p t C := Yhv Tryz.call195 Tryz.func195
 (.c [.rd] (Z20 t) (.b (!Yi7 t) (.y true (.w (.ghost (.nilbox 1 3 true 1)) (.w (.ghost (.nilbox 1 4 true 5)) (.f [2, 3] [.arr true 1 [], .arr true 5 []] (.tup
 [.agg [vI 0, vI 0, vS (ByteArray.mk #[]), .ref 0, .ref 1], lb false]))))) (.c [.rd] (Zg6 t) (.b (!Yl4 t) (.w (.ghost (.nilbox 1 3 true 1)) (.w (.ghost (.nilbox 1 4
 true 5)) (.f [2, 3] [.arr true 1 [], .arr true 5 []] (.tup [.agg [vI 0, vI 0, vS (ByteArray.mk #[]), .ref 0, .ref 1], lb false])))) (.d [.rd, .rd, .ptr] (Zd t
 C 2000) (.b (!(bld t C 2000).snd.fst) (.y true (.w (.ghost (.nilbox 1 3 true 1)) (.w (.ghost (.nilbox 1 4 true 5)) (.f [7, 8] [.arr true 1 [], .arr true 5 []] (.tup [.agg
 [vI 0, vI 0, vS (ByteArray.mk #[]), .ref 0, .ref 1], lb false]))))) (.c [.rd] (Z20 (bld t C 2000).fst) (.b (!Yi7 (bld t C 2000).fst) (.w (.ghost (.nilbox 1 3 true
 1)) (.w (.ghost (.nilbox 1 4 true 5)) (.f [7, 8] [.arr true 1 [], .arr true 5 []] (.tup [.agg [vI 0, vI 0, vS (ByteArray.mk #[]), .ref 0, .ref 1], lb false])))) (.f
 [4, 5] [.arr true 1 ((bld t C 2000).fst.scopes.map Yhh), .arr true 5 ((bld t C 2000).fst.items.map Yhd)] (.tup [.agg [vI (bld t C 2000).fst.kind, vI (bld t
 C 2000).fst.number, vS (bld t C 2000).fst.text, .ref 0, .ref 1], lb true])))))))))) (by
 dsimp only [Yhj, Z9p]
 have g1 : Ynh t C = (Yi7 t && Yl4 t && (bld t C 2000).2.1 && Yi7 (bld t C 2000).1) := rfl
 have g2 : Ynh t C = true -> Yld t C = (bld t C 2000).1 := fun h => if_pos h
 have g3 : Ynh t C = false -> Yld t C = zY := fun h => by unfold Yld; rw [h]; rfl
 have g4 : zY.kind = 0 /\ zY.number = 0 /\ zY.text = mkS [] /\ zY.scopes = [] /\ zY.items = [] := ⟨rfl, rfl, rfl, rfl, rfl⟩
 with_reducible repeat' (first | apply And.intro | exact zR | (intro) | apply Zd8)
 all_goals ((try simp only [std, inj] at *); with_reducible and_intros)
 all_goals try with_reducible first | apply Zd8
 all_goals try first | exact zw | grind [Yhl, Yhm, Yhi])
abbrev Z9q (t : YS) (C : List YC) : Ct := ⟨196, [], [Yhz t, ll (C.map Yhf)], Ykc (Yld t C), .tup [Yjv (Yld t C) 0, lb (Ynh t C)]⟩
theorem Za9 (t : YS) (C : List YC) (h : wY t <= 1000000000 /\ C.length <= 1000000000) (hC : ∀ z ∈ C, mxP z <= 1000000000)  : Z9q t C := Yhv Tryz.call196 Tryz.func196
 (.c [.rd] (Z1f t) (.b (!Yi7 t) (.y true (.w (.ghost (.nilbox 1 3 true 1)) (.w (.ghost (.nilbox 1 4 true 5)) (.f [2, 3] [.arr true 1 [], .arr true 5 []] (.tup
 [.agg [vI 0, vI 0, vS (ByteArray.mk #[]), .ref 0, .ref 1], lb false]))))) (.c [.rd] (Za1 t) (.b (!Yl4 t) (.w (.ghost (.nilbox 1 3 true 1)) (.w (.ghost (.nilbox 1 4
 true 5)) (.f [2, 3] [.arr true 1 [], .arr true 5 []] (.tup [.agg [vI 0, vI 0, vS (ByteArray.mk #[]), .ref 0, .ref 1], lb false])))) (.d [.ptr, .rd, .rd] (Za t
 C 2000) (.b (!(bli t C 2000).snd.fst) (.y true (.w (.ghost (.nilbox 1 3 true 1)) (.w (.ghost (.nilbox 1 4 true 5)) (.f [7, 8] [.arr true 1 [], .arr true 5 []] (.tup [.agg
 [vI 0, vI 0, vS (ByteArray.mk #[]), .ref 0, .ref 1], lb false]))))) (.c [.rd] (Z1f (bli t C 2000).fst) (.b (!Yi7 (bli t C 2000).fst) (.w (.ghost (.nilbox 1 3 true
 1)) (.w (.ghost (.nilbox 1 4 true 5)) (.f [7, 8] [.arr true 1 [], .arr true 5 []] (.tup [.agg [vI 0, vI 0, vS (ByteArray.mk #[]), .ref 0, .ref 1], lb false])))) (.f
 [4, 5] [.arr true 1 ((bli t C 2000).fst.scopes.map Yhh), .arr true 5 ((bli t C 2000).fst.items.map Yhd)] (.tup [.agg [vI (bli t C 2000).fst.kind, vI (bli t
 C 2000).fst.number, vS (bli t C 2000).fst.text, .ref 0, .ref 1], lb true])))))))))) (by
 dsimp only [Yhj, Z9q]
 have g1 := @Y1e0 t C
 have g2 : Ynh t C = true -> Yld t C = (bld t C 2000).1 := fun h => if_pos h
 have g3 : Ynh t C = false -> Yld t C = zY := fun h => by unfold Yld; rw [h]; rfl
 have g4 : zY.kind = 0 /\ zY.number = 0 /\ zY.text = mkS [] /\ zY.scopes = [] /\ zY.items = [] := ⟨rfl, rfl, rfl, rfl, rfl⟩
 have g5 : Ynh t C = (Yi7 t && Yl4 t && (bld t C 2000).2.1 && Yi7 (bld t C 2000).1) := rfl
 with_reducible repeat' (first | apply And.intro | exact zR | (intro) | apply Zd9)
 all_goals ((try simp only [std, inj] at *); with_reducible and_intros)
 all_goals try with_reducible first | apply Zd9
 all_goals try first | exact zw | grind [Yhl, Yhm, Yhi])
end Go.Proofs.YtpnaoendfpaodaaGreat
end
