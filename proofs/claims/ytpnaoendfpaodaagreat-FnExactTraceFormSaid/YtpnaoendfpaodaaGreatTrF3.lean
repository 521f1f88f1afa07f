/- Part 3 of a proof. No condition. -/
import Derived.Test.YtpnaoendfpaodaaGreatTrF2
set_option linter.unusedVariables false
set_option linter.unusedSimpArgs false
section
namespace Go.Proofs.YtpnaoendfpaodaaGreat
open Go Ab
set_option maxHeartbeats 4000000
abbrev Z8c (B : List YB) (Ls : List YS) (p : YS) (f : YS) (o : List YC) : Ct := ⟨185, [.arr true 12 (o.map Yha)], [ll (B.map Yhc), ll (Ls.map Yh9), ll (p.items.map Yh9), Yhu f, .one (.ref 0)], [.dead, .arr true 12 ((smO p o (gS B Ls p f)).map Yha)], .tup [.one (.ref 1), lb (gS B Ls p f).isSome]⟩
abbrev Zk (B : List YB) (Ls : List YS) (p : YS) (f : YS) (o : List YC) : Ct := ⟨106, [.arr true 12 (o.map Yha)], [ll (B.map Yhc), ll (Ls.map Yh9), Yhu p, Yhu f, .one (.ref 0)], [.dead, .arr true 12 ((smO p o (gS B Ls p f)).map Yha)], .tup [.one (.ref 1), lb (gS B Ls p f).isSome]⟩
def Z5j (B : List YB) (Ls : List YS) (p : YS) (f : YS) (o : List YC) (k : Nat) (k1 : Nat) : Lp Nat := .mk 174 1 (fun x => [(0, ll (List.map Yhc
 B)), (1, ll (Ls.map Yh9)), (2, ll (p.items.map Yh9)), (4, .one (.ref 1)), (8, .one (.ptr 2 0)), (12, li (if okS p.items = true then atS p.items else (-1
 : Int))), (14, li (↑(p.items.map Yh9).length : Int)), (15, li (↑(mS p f) : Int)), (16, lb (gS B Ls (p.items.getD k default) (f.items.getD (kS B Ls p f o k + k1)
 default)).isSome), (17, li ((↑(kS B Ls p f o k) : Int) + (k1 : Int) + 1)), (18, li (k : Int)), (19, .one (.ref 3)), (22, li (k1 : Int)), (23, .one (.ref 4)), (24, hs x
 0)]) (fun x => [.dead, .arr true 12 ((oS B Ls p f o k).map Yha), .box (vals (Yhg f)), ho x 1, ho x 2]) (fun k2 => [.s (li (k2 : Int)), .o (.arr true 12
 ((Yjb (nS Ls (p.items.getD k default)) (rS B Ls p f o k k1) (Ymx B Ls p f o k k1) k2).map Yha)), .o (.arr true 12 ((List.take k2 (Ymx B Ls p f o k
 k1)).map Ypu ++ (List.drop k2 (Ymx B Ls p f o k k1)).map Yha))]) (fun k2 => k2 <= (nS Ls (p.items.getD k default)).length /\ (nS Ls (p.items.getD k default)).length <=
 9223372036854775807 /\ ((gS B Ls (p.items.getD k default) (f.items.getD (kS B Ls p f o k + k1) default)).isSome || decide (k2 = 0)) = true /\ qS B Ls p f o k k1 = true /\ (rS B Ls p
 f o k k1).length <= 1000000000) (fun k2 => (nS Ls (p.items.getD k default)).length - k2) [.mk True (.exit 6) (fun x => [(0, ll (B.map Yhc)), (1, ll (List.map Yh9
 Ls)), (2, ll (p.items.map Yh9)), (4, .one (.ref 1)), (8, .one (.ptr 2 0)), (12, li (if okS p.items = true then atS p.items else (-1 : Int))), (14, li (↑(List.map
 Yh9 p.items).length : Int)), (15, li (↑(mS p f) : Int)), (16, lb (gS B Ls (p.items.getD k default) (f.items.getD (kS B Ls p f o k + k1) default)).isSome), (17, li ((↑(kS B Ls
 p f o k) : Int) + (k1 : Int) + 1)), (18, li (k : Int)), (19, .one (.ref 3)), (22, li (k1 : Int))]) (fun x => [.dead, .arr true 12 ((oS B Ls p f o k).map Yha),
 .box (vals (Yhg f)), ho x 0]) [.o (.arr true 12 ((rp (nS Ls (p.items.getD k default)) (rS B Ls p f o k (k1 + 1))).map Yha))]]
def Z5k (B : List YB) (Ls : List YS) (p : YS) (f : YS) (o : List YC) (k : Nat) : Lp Nat := .mk 174 1 (fun x => [(0, ll (B.map Yhc)), (1, ll
 (Ls.map Yh9)), (2, ll (p.items.map Yh9)), (4, .one (.ref 1)), (8, .one (.ptr 2 0)), (12, li (if okS p.items = true then atS p.items else (-1 : Int))),
 (14, li (↑(p.items.map Yh9).length : Int)), (15, li (↑(mS p f) : Int)), (16, hs x 2), (17, hs x 1), (18, li (k : Int)), (19, .one (.ref 3)), (22, hs x 0)]) (fun x =>
 [.dead, .arr true 12 ((oS B Ls p f o k).map Yha), .box (vals (Yhg f)), ho x 3]) (fun k1 => [.s (li (k1 : Int)), .s (li ((↑(kS B Ls p f o k) : Int) + (↑k1 :
 Int))), .s (lb (qS B Ls p f o k k1)), .o (.arr true 12 ((rp (nS Ls (p.items.getD k default)) (rS B Ls p f o k k1)).map Yha))]) (fun k1 => k1 <= mS p f /\ kS B Ls p f o k
 + mS p f <= f.items.length /\ (qS B Ls p f o k k1 || decide (k1 = (rS B Ls p f o k k1).length + 1)) = true /\ atB p k = true /\ wY p <= 1048576 /\ Yhk p <= 2147483647 /\ Yi1 p <= 40 /\
 wY f <= 1000000000) (fun k1 => mS p f - k1) [.mk True (.exit 4) (fun x => [(0, ll (B.map Yhc)), (1, ll (Ls.map Yh9)), (2, ll (p.items.map Yh9)), (4,
 .one (.ref 1)), (8, .one (.ptr 2 0)), (12, li (if okS p.items = true then atS p.items else (-1 : Int))), (14, li (↑(p.items.map Yh9).length : Int)), (15, li (↑(mS
 p f) : Int)), (16, hs x 1), (17, hs x 0), (18, li (k : Int)), (19, .one (.ref 3))]) (fun x => [.dead, .arr true 12 ((oS B Ls p f o k).map Yha), .box (vals
 (Yhg f)), ho x 2]) [.s (li ((↑(kS B Ls p f o k) : Int) + (↑(if qS B Ls p f o k (mS p f) = true then mS p f else (rS B Ls p f o k (mS p f)).length + 1) : Int))), .s (lb (qS B
 Ls p f o k (mS p f))), .o (.arr true 12 ((rp (nS Ls (p.items.getD k default)) (rS B Ls p f o k (mS p f))).map Yha))]]
def Z5l (B : List YB) (Ls : List YS) (p : YS) (f : YS) (o : List YC) (k : Nat) : Lp Nat := .mk 174 1 (fun x => [(0, ll (B.map Yhc)), (1, ll
 (Ls.map Yh9)), (2, ll (p.items.map Yh9)), (4, .one (.ref 1)), (8, .one (.ptr 2 0)), (12, li (if okS p.items = true then atS p.items else (-1 : Int))),
 (14, li (↑(p.items.map Yh9).length : Int)), (15, li (↑(mS p f) : Int)), (16, lb (bS B Ls p f o k)), (17, li (↑(kS B Ls p f o k) : Int)), (18, li (k : Int)), (19, .one
 (.ref 3)), (102, li (↑(((vrS Ls (p.items.getD k default) 0 []).getD []).map Yha).length : Int)), (103, hs x 0)]) (fun x => [.dead, .arr true 12 (List.map Yha
 (oS B Ls p f o k)), .box (vals (Yhg f)), ho x 1]) (fun k1 => [.s (li (k1 : Int)), .o (.arr true 12 ((Yin (eV Ls (p.items.getD k default)) k1).map Yha))]) (fun
 k1 => k1 <= (eV Ls (p.items.getD k default)).length /\ (eV Ls (p.items.getD k default)).length <= 1000000000 /\ atB p k = true /\ Yi1 p <= 40) (fun k1 => (eV Ls (p.items.getD k
 default)).length - k1) [.mk True (.exit 2) (fun x => [(0, ll (B.map Yhc)), (1, ll (Ls.map Yh9)), (2, ll (p.items.map Yh9)), (4, .one (.ref 1)), (8,
 .one (.ptr 2 0)), (12, li (if okS p.items = true then atS p.items else (-1 : Int))), (14, li (↑(p.items.map Yh9).length : Int)), (15, li (↑(mS p f) : Int)), (16, lb
 (bS B Ls p f o k)), (17, li (↑(kS B Ls p f o k) : Int)), (18, li (k : Int)), (19, .one (.ref 3))]) (fun x => [.dead, .arr true 12 ((oS B Ls p f o k).map Yha),
 .box (vals (Yhg f)), ho x 0]) [.o (.arr true 12 ((nS Ls (p.items.getD k default)).map Yha))]]
def Z1o (B : List YB) (Ls : List YS) (p : YS) (f : YS) (o : List YC) : Lp Nat := .mk 174 1 (fun x => [(0, ll (B.map Yhc)), (1, ll (List.map
 Yh9 Ls)), (2, ll (p.items.map Yh9)), (4, .one (.ref 1)), (8, .one (.ptr 2 0)), (12, li (if okS p.items = true then atS p.items else (-1 : Int))), (14, li
 (↑(p.items.map Yh9).length : Int)), (15, hs x 1), (16, hs x 3), (17, hs x 2), (18, hs x 0)]) (fun x => [.dead, ho x 4, .box (vals (Yhg f))]) (fun k => [.s (li (↑k
 : Int)), .s (li (↑(mS p f) : Int)), .s (li (↑(kS B Ls p f o k) : Int)), .s (lb (bS B Ls p f o k)), .o (.arr true 12 ((oS B Ls p f o k).map Yha))]) (fun k => k <=
 p.items.length /\ p.items.length <= 9223372036854775807 /\ fS p f = true) (fun k => p.items.length - k) [.mk True (.exit 0) (fun x => [(4, .one (.ref 1)), (16, hs x 0)]) (fun x
 => [.dead, ho x 1]) [.s (lb (bS B Ls p f o p.items.length)), .o (.arr true 12 ((oS B Ls p f o p.items.length).map Yha))]]
theorem Zew (B : List YB) (Ls : List YS) (p : YS) (f : YS) (o : List YC) (h : B.length <= 1048577 /\ Yhb wB B <= 1048577 /\ wY p <= 1048576 /\ wY f <=
 1000000000 /\ o.length + Yhk p <= 2147483647 /\ Yi1 p <= 40) (hg : good Ls p /\ p.kind = 0) (ih : ∀ (z : YS), z ∈ p.items -> ∀ (B : List YB) (Ls : List YS) (f : YS)
 (o : List YC), B.length <= 1048577 /\ Yhb wB B <= 1048577 /\ wY z <= 1048576 /\ wY f <= 1000000000 /\ o.length + Yhk z <= 2147483647 /\ Yi1 z <= 40 -> good Ls z -> OK (Zk B Ls
 z f o)) (k : Nat) (k1 : Nat) : Lp.Sem Tryz.prog (Yhp Tryz.f185 3) (Z5j B Ls p f o k k1) := Yhz (fun k2 => let v9 := (Yjb (nS Ls (p.items.getD k default)) (rS B Ls p f
 o k k1) (Ymx B Ls p f o k k1) k2); let v1 := (v9.getD (k2 : Int).toNat default); let v2 := [cI 0, cI 0, cS (ByteArray.mk #[]), .list [], .list [], cI 0, cI 0, cI 0, cS
 (ByteArray.mk #[]), .list [], .list [], .list []]; let v3 := (v9.map Yha); let v4 := ((Ymx B Ls p f o k k1).getD k2 default); let v5 := (List.map Ypu
 (List.take k2 (Ymx B Ls p f o k k1)) ++ (List.drop k2 (Ymx B Ls p f o k k1)).map Yha); let v6 := [(k2 : Int).toNat, (k2 : Int).toNat, (k2 : Int).toNat, (↑k2 :
 Int).toNat, (k2 : Int).toNat]; let v7 := [cI v1.name.kind, cI v1.name.number, cS v1.name.text, .list (v1.name.scopes.map Yhd), .list (List.map Yh9
 v1.name.items), cI v1.depth, cI v1.form.kind, cI v1.form.number, cS v1.form.text, .list (v1.form.scopes.map Yhd), .list (v1.form.items.map Yh9), .any];
 let v11 := (v1.each.map Yha ++ [v2]); let v10 := (↑(v1.each.map Yha).length : Int); let v8 := [cI v1.name.kind, cI v1.name.number, cS v1.name.text, .list
 (v1.name.scopes.map Yhd), .list (v1.name.items.map Yh9), cI v1.depth, cI v1.form.kind, cI v1.form.number, cS v1.form.text, .list (List.map Yhd
 v1.form.scopes), .list (v1.form.items.map Yh9), .list (v11.set v10.toNat (Yhw v4))]; .z Yha v9 (.i ((k2 : Int) < (↑(v9.map Yha).length :
 Int)) (.b (gS B Ls (p.items.getD k default) (f.items.getD (kS B Ls p f o k + k1) default)).isSome (.w (.drawT 13 16 12 [(11, [3, 5]), (13, [4, 7]), (16, [7, 3])]) (.p (0 <= (↑k2 :
 Int) /\ (k2 : Int).toNat < v3.length) (.w .sub (.p ((k2 : Int).toNat < v3.length) (.p (0 <= (k2 : Int) /\ (k2 : Int).toNat < v5.length) (.w (.subs (Yhw v4)) (.p (v5[(↑k2 :
 Int).toNat]? = some (Yhw v4)) (.w (.cells (Yhw v1)) (.p (v3[(k2 : Int).toNat]? = some (Yhw v1)) (.w (.subcall (Yhw v1) (v1.each.map Yha) 12) (.p
 (v3[(k2 : Int).toNat]? = some (Yhw v1)) (.p (some (Cell.list (v1.each.map Yha)) = some (Cell.list (v1.each.map Yha))) (.p (∀ (x : List Cell), x ∈
 v1.each.map Yha -> x.length = 12) (.p (((v1.each.map Yha).length + 1) * 192 <= 140737488355328) (.p (0 <= v10 /\ v10.toNat < v11.length) (.w (.subs (Yhw v4))
 (.w (.cells v2) (.p (v6 = v6) (.p (v5[(k2 : Int).toNat]? = some (Yhw v4)) (.p (v11[v10.toNat]? = some v2) (.p (0 <= (k2 : Int) /\ (k2 : Int).toNat < (v3.set (↑k2 :
 Int).toNat v7).length) (.w (.take v7 (v3.set (k2 : Int).toNat v8) 0) (.p ((v3.set (k2 : Int).toNat v7)[(k2 : Int).toNat]? = some v7) (.p ((v3.set (k2 : Int).toNat v7).set (↑k2
 : Int).toNat v8 = v3.set (k2 : Int).toNat v8) (.p (v10.toNat < v11.length) (.p ((k2 : Int).toNat < (v3.set (k2 : Int).toNat v7).length) (.z Yha v1.each (.r ((k2 : Int) +
 1) (.g [0, 1, 2, 3, 4] (k2 + 1) [.s (li ((k2 : Int) + 1)), .o (.arr true 12 (v3.set (k2 : Int).toNat v8)), .o (.arr true 12 (v5.set (k2 : Int).toNat [cI v4.name.kind, cI
 v4.name.number, cS v4.name.text, .any, .any, cI v4.depth, cI v4.form.kind, cI v4.form.number, cS v4.form.text, .any, .any,
 .any]))]))))))))))))))))))))))))))))) (.o 0 [0, 1, 2, 3] [.o (.arr true 12 v3)])) (.y false (.o 0 [0, 1, 2, 3] [.o (.arr true 12 v3)])))) (by
 intro k2 h; try dsimp only [Yhf, Yhl, Z5j] at h ⊢
 have g3 := Y13q (nS Ls (p.items.getD k default)) (rS B Ls p f o k k1) (Ymx B Ls p f o k k1) k2
 have gc := @Y1fy B Ls p f o k k1
 have ge := @Y1d5 B Ls p f o k k1 k2
 have gz := @Y1bo B Ls p f o k k1 k2
 with_reducible repeat' (first | apply And.intro | exact zR | (intro))
 all_goals ((try simp only [std, inj] at *); with_reducible and_intros)
 all_goals try first | exact z | exact List.set_set .. | exact Y12f (by grind) | exact Y12q (by grind) | exact Y186 (by grind) | exact Y118 _ (by omega) | exact gz h.2.2.2.1 h.2.2.1 (.inl ‹_›) | exact gz h.2.2.2.1 h.2.2.1 (.inr (by omega)) | grind)
theorem Zex (B : List YB) (Ls : List YS) (p : YS) (f : YS) (o : List YC) (h : B.length <= 1048577 /\ Yhb wB B <= 1048577 /\ wY p <= 1048576 /\ wY f <=
 1000000000 /\ o.length + Yhk p <= 2147483647 /\ Yi1 p <= 40) (hg : good Ls p /\ p.kind = 0) (ih : ∀ (z : YS), z ∈ p.items -> ∀ (B : List YB) (Ls : List YS) (f : YS)
 (o : List YC), B.length <= 1048577 /\ Yhb wB B <= 1048577 /\ wY z <= 1048576 /\ wY f <= 1000000000 /\ o.length + Yhk z <= 2147483647 /\ Yi1 z <= 40 -> good Ls z -> OK (Zk B Ls
 z f o)) (k : Nat) : Lp.Sem Tryz.prog (Yhp Tryz.f185 2) (Z5k B Ls p f o k) := Yhz (fun k1 => .i ((k1 : Int) < (↑(mS p f) : Int)) (.b (qS B Ls p f o k k1) (.w (.bool
 false) (.w (.draw [(12, [4])]) (.x (k : Int) (p.items.map Yh9) (Yhg (p.items.getD k default)) (.x ((↑(kS B Ls p f o k) : Int) + (k1 : Int)) (List.map Yh9
 f.items) (Yhg (f.items.getD (kS B Ls p f o k + k1) default)) (.d [.rd, .rd, .rd, .rd, .own true 12] (Zk B Ls (p.items.getD k default) (f.items.getD (kS B Ls p f o k +
 k1) default) []) (.r ((↑(kS B Ls p f o k) : Int) + (k1 : Int) + 1) (.l (Z5j B Ls p f o k k1) (Zew B Ls p f o h hg ih k k1) [0, 1, 2, 3, 6] [.s (li 0), .o (.arr
 true 12 ((rp (nS Ls (p.items.getD k default)) (rS B Ls p f o k k1)).map Yha)), .o (.arr true 12 ((smO (p.items.getD k default) [] (gS B Ls
 (p.items.getD k default) (f.items.getD (kS B Ls p f o k + k1) default))).map Yha))] 0 (.t (.r ((k1 : Int) + 1) (.g [0, 1, 2, 3] (k1 + 1) [.s (li ((k1 : Int) + 1)), .s (li ((↑(kS B Ls p
 f o k) : Int) + (k1 : Int) + 1)), .s (lb (gS B Ls (p.items.getD k default) (f.items.getD (kS B Ls p f o k + k1) default)).isSome), .o (.arr true 12 ((rp (nS
 Ls (p.items.getD k default)) (rS B Ls p f o k (k1 + 1))).map Yha))])) .q)))))))) (.o 0 [0, 1, 2, 3] [.s (li ((↑(kS B Ls p f o k) : Int) + (k1 : Int))), .s (lb (qS B Ls p f o k k1)), .o
 (.arr true 12 ((rp (nS Ls (p.items.getD k default)) (rS B Ls p f o k k1)).map Yha))])) (.y false (.o 0 [0, 1, 2, 3] [.s (li ((↑(kS B Ls p f o k) : Int) + (↑k1 :
 Int))), .s (lb (qS B Ls p f o k k1)), .o (.arr true 12 ((rp (nS Ls (p.items.getD k default)) (rS B Ls p f o k k1)).map Yha))]))) (by
 intro k1 h; try dsimp only [Yhf, Yhl, Z5k, Z5j] at h ⊢
 have ga := Ys7 h.2.2.2.1
 have gi := Yp2 ga.1
 have gl := Y1a7 f
 have gf := @Yp2 (kS B Ls p f o k + k1) f
 have g3 := @Y1bp B Ls p f o k k1
 have g4 := @Y1gs B Ls p f o k k1
 have g5 := Y109 (Ls := Ls) (p.items.getD k default)
 have g6 := Ynx (p.items.getD k default)
 have g7 := @Yv4 (nS Ls (p.items.getD k default)) (rS B Ls p f o k k1) (Ymx B Ls p f o k k1)
 have gr := @Y1f3 Ls p k hg.1 hg.2
 with_reducible repeat' (first | apply And.intro | exact zR | exact ih | (intro))
 all_goals (try simp only [std, inj, Y15t, Yxg] at *)
 all_goals with_reducible and_intros
 all_goals try first | with_reducible apply ih
 all_goals try first | exact zw | exact gi.2.2.2.2 | exact gr h.2.2.2.1 | exact Y1f4 | exact Y1jk ‹_› | exact Y1ma ‹_› | (have q := gf (by omega); omega) | (have q := g3 ‹_›; omega) | (simp only [List.length_nil]; omega) | grind)
theorem Zey (B : List YB) (Ls : List YS) (p : YS) (f : YS) (o : List YC) (h : B.length <= 1048577 /\ Yhb wB B <= 1048577 /\ wY p <= 1048576 /\ wY f <=
 1000000000 /\ o.length + Yhk p <= 2147483647 /\ Yi1 p <= 40) (hg : good Ls p /\ p.kind = 0) (ih : ∀ (z : YS), z ∈ p.items -> ∀ (B : List YB) (Ls : List YS) (f : YS)
 (o : List YC), B.length <= 1048577 /\ Yhb wB B <= 1048577 /\ wY z <= 1048576 /\ wY f <= 1000000000 /\ o.length + Yhk z <= 2147483647 /\ Yi1 z <= 40 -> good Ls z -> OK (Zk B Ls
 z f o)) (k : Nat) : Lp.Sem Tryz.prog (Yhp Tryz.f185 1) (Z5l B Ls p f o k) := Yhz (fun k1 => .i ((k1 : Int) < (↑(((vrS Ls (p.items.getD k default) 0
 []).getD []).map Yha).length : Int)) (.p (0 <= (k1 : Int) /\ (k1 : Int).toNat < ((Yin (eV Ls (p.items.getD k default)) k1).map Yha).length) (.w (.cells (Yhw ((Yin (eV Ls
 (p.items.getD k default)) k1).getD (k1 : Int).toNat default))) (.p (((Yin (eV Ls (p.items.getD k default)) k1).map Yha)[(k1 : Int).toNat]? = some (Yhw ((Yin (eV
 Ls (p.items.getD k default)) k1).getD (k1 : Int).toNat default))) (.r (((Yin (eV Ls (p.items.getD k default)) k1).getD (k1 : Int).toNat default).depth + 1) (.p (0 <= (k1 : Int)
 /\ (k1 : Int).toNat < ((Yin (eV Ls (p.items.getD k default)) k1).map Yha).length) (.w (.cells (Yhw ((Yin (eV Ls (p.items.getD k default)) k1).getD (↑k1 :
 Int).toNat default))) (.p (((Yin (eV Ls (p.items.getD k default)) k1).map Yha)[(k1 : Int).toNat]? = some (Yhw ((Yin (eV Ls (p.items.getD k default)) k1).getD
 (k1 : Int).toNat default))) (.r ((k1 : Int) + 1) (.g [0, 1, 2, 3] (k1 + 1) [.s (li ((k1 : Int) + 1)), .o (.arr true 12 (((Yin (eV Ls (p.items.getD k
 default)) k1).map Yha).set (k1 : Int).toNat [cI ((Yin (eV Ls (p.items.getD k default)) k1).getD (k1 : Int).toNat default).name.kind, cI ((Yin (eV Ls (p.items.getD k default)) k1).getD
 (k1 : Int).toNat default).name.number, cS ((Yin (eV Ls (p.items.getD k default)) k1).getD (k1 : Int).toNat default).name.text, .list (((Yin (eV Ls
 (p.items.getD k default)) k1).getD (k1 : Int).toNat default).name.scopes.map Yhd), .list (((Yin (eV Ls (p.items.getD k default)) k1).getD (k1 : Int).toNat
 default).name.items.map Yh9), cI (((Yin (eV Ls (p.items.getD k default)) k1).getD (k1 : Int).toNat default).depth + 1), cI ((Yin (eV Ls (p.items.getD k default)) k1).getD (↑k1 :
 Int).toNat default).form.kind, cI ((Yin (eV Ls (p.items.getD k default)) k1).getD (k1 : Int).toNat default).form.number, cS ((Yin (eV Ls (p.items.getD k default)) k1).getD (↑k1
 : Int).toNat default).form.text, .list (((Yin (eV Ls (p.items.getD k default)) k1).getD (k1 : Int).toNat default).form.scopes.map Yhd), .list (List.map Yh9
 ((Yin (eV Ls (p.items.getD k default)) k1).getD (k1 : Int).toNat default).form.items), .list (((Yin (eV Ls (p.items.getD k default)) k1).getD (↑k1 :
 Int).toNat default).each.map Yha)]))]))))))))) (.o 0 [0, 1, 2, 3] [.o (.arr true 12 ((Yin (eV Ls (p.items.getD k default)) k1).map Yha))])) (by
 intro k1 h; try dsimp only [Yhf, Yhl, Z5l] at h ⊢
 have g3 := Y1ff (eV Ls (p.items.getD k default)) k1
 have gd := @Y1fk Ls p k k1 hg.1 hg.2
 have ge := @Y1kj Ls p k k1 hg.1 hg.2
 with_reducible repeat' (first | apply And.intro | exact zR | (intro))
 all_goals (try simp only [std, inj, Y15t, Yxg] at *)
 all_goals with_reducible and_intros
 all_goals try first | exact zw | exact Y1gr (by omega) | (have q := gd h.2.2.1 h.2.2.2 (by omega); omega) | exact ge h.2.2.1 (by omega) | grind)
theorem Z5m (B : List YB) (Ls : List YS) (p : YS) (f : YS) (o : List YC) (h : B.length <= 1048577 /\ Yhb wB B <= 1048577 /\ wY p <= 1048576 /\ wY f <=
 1000000000 /\ o.length + Yhk p <= 2147483647 /\ Yi1 p <= 40) (hg : good Ls p /\ p.kind = 0) (ih : ∀ (z : YS), z ∈ p.items -> ∀ (B : List YB) (Ls : List YS) (f : YS)
 (o : List YC), B.length <= 1048577 /\ Yhb wB B <= 1048577 /\ wY z <= 1048576 /\ wY f <= 1000000000 /\ o.length + Yhk z <= 2147483647 /\ Yi1 z <= 40 -> good Ls z -> OK (Zk B Ls
 z f o)) : Lp.Sem Tryz.prog (Yhp Tryz.f185 0) (Z1o B Ls p f o) := Yhz (fun k => .i ((k : Int) < (↑(p.items.map Yh9).length : Int)) (.b (bS B Ls p f o k) (.i
 ((k : Int) = if okS p.items = true then atS p.items else (-1 : Int)) (.r ((k : Int) + 1) (.g [0, 1, 2] (k + 1) [.s (li ((k : Int) + 1)), .s (li (↑(mS p f) : Int)), .s (li (↑(kS
 B Ls p f o k) : Int)), .s (lb (bS B Ls p f o k)), .o (.arr true 12 ((oS B Ls p f o k).map Yha))])) (.r ((k : Int) + 1) (.i ((k : Int) + (1 : Int) ≠ if okS p.items =
 true then atS p.items else (-1 : Int)) (.w (.draw [(12, [1])]) (.x (k : Int) (p.items.map Yh9) (Yhg (p.items.getD k default)) (.x (↑(kS B Ls p f o k) : Int)
 (f.items.map Yh9) (Yhg (f.items.getD (kS B Ls p f o k) default)) (.d [.rd, .rd, .rd, .rd, .own true 12] (Zk B Ls (p.items.getD k default) (f.items.getD (kS B Ls
 p f o k) default) (oS B Ls p f o k)) (.r ((↑(kS B Ls p f o k) : Int) + 1) (.r ((k : Int) + 1) (.g [0, 4, 2] (k + 1) [.s (li ((k : Int) + 1)), .s (li (↑(mS p f) : Int)), .s (li
 ((↑(kS B Ls p f o k) : Int) + 1)), .s (lb (gS B Ls (p.items.getD k default) (f.items.getD (kS B Ls p f o k) default)).isSome), .o (.arr true 12 ((smO
 (p.items.getD k default) (oS B Ls p f o k) (gS B Ls (p.items.getD k default) (f.items.getD (kS B Ls p f o k) default))).map Yha))]))))))) (.x (k : Int) (p.items.map Yh9)
 (Yhg (p.items.getD k default)) (.w (.bool false) (.d [.rd, .rd, .rd, .own true 12] (Zw Ls (p.items.getD k default) 0 []) (.z Yha ((vrS Ls (p.items.getD k default)
 0 []).getD []) (.l (Z5l B Ls p f o k) (Zey B Ls p f o h hg ih k) [0, 1, 2, 5] [.s (li 0), .o (.arr true 12 (((vrS Ls (p.items.getD k default) 0
 []).getD []).map Yha))] 0 (.t (.l (Z5k B Ls p f o k) (Zex B Ls p f o h hg ih k) [0, 1, 2, 3] [.s (li 0), .s (li (↑(kS B Ls p f o k) : Int)), .s (lb (bS B Ls p f o k)), .o
 (.arr true 12 ((nS Ls (p.items.getD k default)).map Yha))] 0 (.t (.p ((((oS B Ls p f o k).map Yha).length + ((rp (nS Ls (p.items.getD k
 default)) (rS B Ls p f o k (mS p f))).map Yha).length) * 192 <= 140737488355328) (.r ((k : Int) + 1) (.g [0, 4, 2] (k + 1) [.s (li ((k : Int) + 1)), .s (li (↑(mS p f) : Int)), .s (li
 ((↑(kS B Ls p f o k) : Int) + (↑(if qS B Ls p f o k (mS p f) = true then mS p f else (rS B Ls p f o k (mS p f)).length + 1) : Int))), .s (lb (qS B Ls p f o k (mS p f))), .o
 (.arr true 12 ((oS B Ls p f o k).map Yha ++ (rp (nS Ls (p.items.getD k default)) (rS B Ls p f o k (mS p f))).map Yha))]))) .q)) .q))))))))) (.o 0 [0, 1] [.s
 (lb (bS B Ls p f o k)), .o (.arr true 12 ((oS B Ls p f o k).map Yha))])) (.y false (.o 0 [0, 1] [.s (lb (bS B Ls p f o k)), .o (.arr true 12 ((oS B
 Ls p f o k).map Yha))]))) (by
 intro k h; try dsimp only [Yhf, Yhl, Z1o, Z5k, Z5l] at h ⊢
 rename_i hh
 have gs := @Y1hj B Ls p f o k
 have g1 := @Y1io B Ls p f o k
 have gr := @Y1jd B Ls p f o k
 have gst := @Y1gt B Ls p f o k p.items.length
 have gat := fun a => @Y1la B Ls p f o h.2.2 k a
 have gi := @Yp2 k p
 have gf := @Yp2 (kS B Ls p f o k) f
 have gl := Y1a7 f
 have gg := @Yo3 Ls p hg.1 hg.2 k
 have gn := Y109 (Ls := Ls) (p.items.getD k default)
 have g11 := Y1b6 (nS Ls (p.items.getD k default))
 have g12 := Y1cz (eV Ls (p.items.getD k default))
 have g13 := @Y1h5 B Ls p f o k
 have ge := @Y1i0 Ls p k hg.1 hg.2
 have ga := @Y1jn p k
 have gc := Ymg (nS Ls (p.items.getD k default)) (rS B Ls p f o k (mS p f))
 have gz := Ynx p
 with_reducible repeat' (first | apply And.intro | exact zR | exact ih | (intro) | apply Z72)
 all_goals (try simp only [std, inj, Y15t, Yxg, ne_eq, Decidable.not_not] at *)
 all_goals with_reducible and_intros
 all_goals try first | with_reducible apply ih
 all_goals try first | exact zw | exact (gi (by omega)).2.2.2.2 | (have q := gi (by omega); omega) | (have q := gat (by omega) ‹_›; have q2 := gi (by omega); omega) | (have q := gat (by omega) ‹_›; have q2 := gf (by omega); omega) | grind)
theorem Zao (B : List YB) (Ls : List YS) (p f : YS) (o : List YC) (h : B.length <= 1048577 /\ Yhb wB B <= 1048577 /\ wY p <= 1048576 /\ wY f <= 1000000000 /\
 o.length + Yhk p <= 2147483647 /\ Yi1 p <= 40) (hg : good Ls p /\ p.kind = 0) (ih : ∀ z ∈ p.items, ∀ (B : List YB) (Ls : List YS) (f : YS) (o : List YC) (h :
 B.length <= 1048577 /\ Yhb wB B <= 1048577 /\ wY z <= 1048576 /\ wY f <= 1000000000 /\ o.length + Yhk z <= 2147483647 /\ Yi1 z <= 40) (hg : good Ls z), Zk B Ls z f o)  : Z8c
 B Ls p f o := Yhq Tryz.call185 Tryz.func185 (.c [.rd] (Zgs p.items) (.z Yh9 p.items (.i (0 <= if okS p.items = true then atS p.items else (-1 : Int)) (.z Yh9 f.items (.r
 ((↑(p.items.map Yh9).length : Int) - 2) (.r ((↑(f.items.map Yh9).length : Int) - ((↑(p.items.map Yh9).length : Int) - 2)) (.i (f.kind ≠ 0) (.y true (.y
 true (.w (.ghost (.nilreg 10 true 12)) (.w (.ghost (.move 0)) (.f [2] [.dead, .arr true 12 []] (.tup [.one (.ref 1), lb false])))))) (.i ((↑(List.map Yh9
 f.items).length : Int) - ((↑(p.items.map Yh9).length : Int) - 2) < 0) (.y true (.w (.ghost (.nilreg 10 true 12)) (.w (.ghost (.move 0)) (.f [2] [.dead, .arr true 12
 []] (.tup [.one (.ref 1), lb false]))))) (.i ((if okS p.items = true then atS p.items else (-1 : Int)) < 0) (.z Yh9 f.items (.i ((↑(f.items.map Yh9).length :
 Int) ≠ (↑(p.items.map Yh9).length : Int)) (.w (.ghost (.nilreg 10 true 12)) (.w (.ghost (.move 0)) (.f [2] [.dead, .arr true 12 []] (.tup [.one (.ref 1), lb
 false])))) (.w (.ghost (.move 0)) (.l (Z1o B Ls p f o) (Z5m B Ls p f o h hg ih) [0, 2, 1] [.s (li 0), .s (li ((↑(f.items.map Yh9).length : Int) -
 ((↑(p.items.map Yh9).length : Int) - 2))), .s (li 0), .s (lb true), .o (.arr true 12 (o.map Yha))] 0 (.t (.b (!bS B Ls p f o p.items.length) (.w (.ghost
 (.nilreg 10 true 12)) (.f [2] [.dead, .arr true 12 []] (.tup [.one (.ref 1), lb false]))) (.f [1] [.dead, .arr true 12 ((oS B Ls p f o
 p.items.length).map Yha)] (.tup [.one (.ref 1), lb true]))) .q))))) (.y false (.w (.ghost (.move 0)) (.l (Z1o B Ls p f o) (Z5m B Ls p f o h hg ih) [0, 2, 1] [.s (li
 0), .s (li ((↑(f.items.map Yh9).length : Int) - ((↑(p.items.map Yh9).length : Int) - 2))), .s (li 0), .s (lb true), .o (.arr true 12 (o.map Yha))] 0
 (.t (.b (!bS B Ls p f o p.items.length) (.w (.ghost (.nilreg 10 true 12)) (.f [2] [.dead, .arr true 12 []] (.tup [.one (.ref 1), lb false]))) (.f [1] [.dead, .arr
 true 12 ((oS B Ls p f o p.items.length).map Yha)] (.tup [.one (.ref 1), lb true]))) .q)))))))))) (.i (f.kind ≠ 0) (.y true (.y true (.w (.ghost (.nilreg 10 true
 12)) (.w (.ghost (.move 0)) (.f [2] [.dead, .arr true 12 []] (.tup [.one (.ref 1), lb false])))))) (.y false (.i ((if okS p.items = true then atS p.items else (-1 :
 Int)) < 0) (.z Yh9 f.items (.i ((↑(f.items.map Yh9).length : Int) ≠ (↑(p.items.map Yh9).length : Int)) (.w (.ghost (.nilreg 10 true 12)) (.w (.ghost (.move
 0)) (.f [2] [.dead, .arr true 12 []] (.tup [.one (.ref 1), lb false])))) (.w (.ghost (.move 0)) (.l (Z1o B Ls p f o) (Z5m B Ls p f o h hg ih) [0, 2, 1] [.s
 (li 0), .s (li 0), .s (li 0), .s (lb true), .o (.arr true 12 (o.map Yha))] 0 (.t (.b (!bS B Ls p f o p.items.length) (.w (.ghost (.nilreg 10 true 12)) (.f [2]
 [.dead, .arr true 12 []] (.tup [.one (.ref 1), lb false]))) (.f [1] [.dead, .arr true 12 ((oS B Ls p f o p.items.length).map Yha)] (.tup [.one (.ref
 1), lb true]))) .q))))) (.y false (.w (.ghost (.move 0)) (.l (Z1o B Ls p f o) (Z5m B Ls p f o h hg ih) [0, 2, 1] [.s (li 0), .s (li 0), .s (li 0), .s (lb true), .o
 (.arr true 12 (o.map Yha))] 0 (.t (.b (!bS B Ls p f o p.items.length) (.w (.ghost (.nilreg 10 true 12)) (.f [2] [.dead, .arr true 12 []] (.tup [.one (.ref
 1), lb false]))) (.f [1] [.dead, .arr true 12 ((oS B Ls p f o p.items.length).map Yha)] (.tup [.one (.ref 1), lb true]))) .q)))))))))) (by
 dsimp only [Yhf, Z8c, Yhl, Z1o]
 have g1 := @Y1gu B Ls p f o
 have g2 := @Y1lu p f
 have g3 := @Y1lp p f
 have g4 := @Y1mb p f
 have g5 := @Y1me p f
 have g6 := @Y1l5 B Ls p f o hg.2
 have g7 := @Y1lx B Ls p f o hg.2
 have g8 := @Y1ky B Ls p f o hg.2
 have g9 := @Y1l0 B Ls p f o hg.2
 have g10 := @Y1lg B Ls p f o hg.2
 have g11 := Yj6 f
 with_reducible repeat' (first | apply And.intro | exact zR | (intro))
 all_goals (try simp only [std, inj, Yxg, Decidable.not_not] at *)
 all_goals with_reducible and_intros
 all_goals try first | exact zw | grind)
theorem Zgo (B : List YB) (Ls : List YS) (p f : YS) (o : List YC) (h : B.length <= 1048577 /\ Yhb wB B <= 1048577 /\ wY p <= 1048576 /\ wY f <= 1000000000 /\
 o.length + Yhk p <= 2147483647 /\ Yi1 p <= 40) (hg : good Ls p) (ih : ∀ z ∈ p.items, ∀ (B : List YB) (Ls : List YS) (f : YS) (o : List YC) (h : B.length <=
 1048577 /\ Yhb wB B <= 1048577 /\ wY z <= 1048576 /\ wY f <= 1000000000 /\ o.length + Yhk z <= 2147483647 /\ Yi1 z <= 40) (hg : good Ls z), Zk B Ls z f o)  : Zk B Ls p f o
 := Yhq Tryz.call106 Tryz.func106 (.i (p.kind = 1) (.i (p.text.data.toList = [(95 : UInt8)]) (.w (.ghost (.move 0)) (.f [3] [.dead, .arr true 12 (o.map Yha)] (.tup
 [.one (.ref 1), lb true]))) (.c [.rd, .rd] (Z5z Ls p) (.b (Yii Ls p) (.i (f.kind = 1) (.d [.rd, .rd, .rd] (Z8a B p f) (.w (.ghost (.move 0)) (.f [3] [.dead,
 .arr true 12 (o.map Yha)] (.tup [.one (.ref 1), lb (mng B p f)])))) (.w (.ghost (.move 0)) (.f [3] [.dead, .arr true 12 (o.map Yha)] (.tup
 [.one (.ref 1), lb false])))) (.w (.draw [(6, [3, 4, 11, 12]), (7, [0, 19])]) (.d [.rd] (Za p) (.d [.rd] (Za f) (.p (((o.map Yha).length + 1) * 192 <=
 140737488355328) (.f [20] [.dead, .arr true 12 (o.map Yha ++ [[cI p.kind, cI p.number, cS p.text, .list (p.scopes.map Yhd), .list (List.map Yh9
 p.items), cI 0, cI f.kind, cI f.number, cS f.text, .list (f.scopes.map Yhd), .list (f.items.map Yh9), .list []]])] (.tup [.one (.ref 1), lb
 true]))))))))) (.i (p.kind = 0) (.d [.rd, .rd, .rd, .rd, .own true 12] (Z8c B Ls p f o) (.f [4] [.dead, .arr true 12 ((smO p o (gS B Ls p f)).map Yha)] (.tup
 [.one (.ref 1), lb (gS B Ls p f).isSome]))) (.w (.draw []) (.i (p.kind = f.kind) (.i (p.number = f.number) (.w (.ghost (.move 0)) (.f [3] [.dead, .arr true 12 (List.map
 Yha o)] (.tup [.one (.ref 1), lb (decide (p.text.data.toList = f.text.data.toList))]))) (.w (.ghost (.move 0)) (.f [3] [.dead, .arr true 12 (o.map Yha)]
 (.tup [.one (.ref 1), lb false])))) (.y false (.w (.ghost (.move 0)) (.f [3] [.dead, .arr true 12 (o.map Yha)] (.tup [.one (.ref 1), lb false]))))))))
 (by
 dsimp only [Yhf, Zk]
 have g1 := @Y1ds B Ls p f o
 have g2 := @Y1ie B Ls p f o
 have g3 := @Y156 B Ls p f o
 have g4 := @Ytd B Ls p f o
 have g5 := Y10h o p f
 have g6 : Yiv p = decide (p.text.data.toList = [95]) := rfl
 have g7 : p.kind = 1 -> Yiv p = true -> (gS B Ls p f).isSome = true := fun a b => by rw [(g2 a b).1]; rfl
 with_reducible repeat' (first | apply And.intro | exact zR | exact ih | (intro) | apply mIc | apply mOc | apply mSc | apply mLc | apply Z5z | apply Zan | apply Z1 | apply Zao)
 all_goals ((try simp only [std, inj] at *); with_reducible and_intros)
 all_goals try first | with_reducible (first | apply Z5z | apply Zan | apply Z1 | apply Zao | apply ih) | (simp only [<- List.map_append]; with_reducible first | apply Z5z | apply Zan | apply Z1 | apply Zao | apply ih)
 all_goals try first | exact zw | exact zM | grind [Yhi, Yhh, Yhe]
 all_goals (first | exact Y1hq ‹_› ‹_› ‹_› ‹_› | exact Y1h8 ‹_› ‹_› ‹_› ‹_› | exact Y1k6 ‹_› ‹_› ‹_› | exact Y1l1 ‹_› ‹_› ‹_› ‹_› | exact Y1kq ‹_› ‹_› ‹_› ‹_› | exact Y1lo ‹_› ‹_› ‹_›))
theorem Za1 (p : YS) : ∀ (B : List YB) (Ls : List YS) (f : YS) (o : List YC) (h : B.length <= 1048577 /\ Yhb wB B <= 1048577 /\ wY p <= 1048576 /\ wY f <= 1000000000 /\ o.length + Yhk p <= 2147483647 /\ Yi1 p <= 40) (hg : good Ls p), Zk B Ls p f o := YS.ind (P := fun p => ∀ (B : List YB) (Ls : List YS) (f : YS) (o : List YC) (h : B.length <= 1048577 /\ Yhb wB B <= 1048577 /\ wY p <= 1048576 /\ wY f <= 1000000000 /\ o.length + Yhk p <= 2147483647 /\ Yi1 p <= 40) (hg : good Ls p), Zk B Ls p f o) (fun p ih B Ls f o h hg => Zgo B Ls p f o h hg ih) p
set_option maxHeartbeats 4000000
abbrev Z26 (B : List YB) (Ls : List YS) (ps : List YS) (fs : List YS) (o : List YC) : Ct := ⟨194, [.arr true 12 (o.map Yha)], [.agg [vL (B.map Yhc), vL (Ls.map Yh9)], ll (ps.map Yh9), ll (fs.map Yh9), .one (.ref 0)], [.dead, .arr true 12 ((alO o (alM (gI B Ls) ps fs)).map Yha)], .tup [.one (.ref 1), lb (alM (gI B Ls) ps fs).isSome]⟩
abbrev Zr (B : List YB) (Ls : List YS) (p : YS) (f : YS) (o : List YC) : Ct := ⟨111, [.arr true 12 (o.map Yha)], [.agg [vL (B.map Yhc), vL (Ls.map Yh9)], Yhu p, Yhu f, .one (.ref 0)], [.dead, .arr true 12 ((smO p o (gI B Ls p f)).map Yha)], .tup [.one (.ref 1), lb (gI B Ls p f).isSome]⟩
def Z6n (B : List YB) (Ls : List YS) (ps : List YS) (fs : List YS) (o : List YC) : Lp Nat := .mk 37 1 (fun x => [(1, ll (ps.map Yh9)), (2, ll
 (fs.map Yh9)), (3, .one (.ref 1)), (4, .one (.ptr 2 0)), (14, li (↑(ps.map Yh9).length : Int)), (15, hs x 0)]) (fun x => [.dead, ho x 1, .box [vL
 (B.map Yhc), vL (Ls.map Yh9)]]) (fun k => [.s (li (k : Int)), .o (.arr true 12 ((alO o (alM (gI B Ls) (ps.take k) fs)).map Yha))]) (fun k => k
 <= ps.length /\ ps.length <= 9223372036854775807 /\ (alM (gI B Ls) (ps.take k) fs).isSome = true) (fun k => ps.length - k) [.mk ((alM (gI B Ls) ps fs).isSome = true) (.exit 0)
 (fun x => [(3, .one (.ref 1))]) (fun x => [.dead, ho x 0]) [.o (.arr true 12 ((alO o (alM (gI B Ls) ps fs)).map Yha))], .mk ((alM (gI B Ls) ps fs).isSome =
 false) .ret (fun x => [(8, hs x 0), (9, hs x 1)]) (fun x => [.dead]) [.s (.one (.val (.lit (.slice none 0 0)))), .s (lb false)]]
theorem Zfx (B : List YB) (Ls : List YS) (ps : List YS) (fs : List YS) (o : List YC) (h : B.length <= 1048577 /\ Yhb wB B <= 1048577 /\ Yhb wY ps <=
 1048576 /\ Yhb wY fs <= 1000000000 /\ o.length + Yhb Yhk ps <= 2147483647 /\ ps.length <= fs.length /\ ps.length <= 1048576) (hd : ∀ (z : YS), z ∈ ps -> good Ls z /\ Yi1 z <= 40)
 (hl : Ls.all Yk9 = true) (ih : ∀ (z : YS), z ∈ ps -> ∀ (B : List YB) (Ls : List YS) (f : YS) (o : List YC), B.length <= 1048577 /\ Yhb wB B <= 1048577 /\ wY z
 <= 1048576 /\ wY f <= 1000000000 /\ o.length + Yhk z <= 2147483647 /\ Yi1 z <= 40 -> Ls.all Yk9 = true -> good Ls z -> OK (Zr B Ls z f o)) : Lp.Sem Tryz.prog (Yhp Tryz.f194 0)
 (Z6n B Ls ps fs o) := Yhz (fun k => .i ((k : Int) < (↑(ps.map Yh9).length : Int)) (.w (.draw [(10, [1])]) (.x (k : Int) (ps.map Yh9) (Yhg (ps.getD k
 default)) (.x (k : Int) (fs.map Yh9) (Yhg (fs.getD k default)) (.d [.rd, .rd, .rd, .own true 12] (Zr B Ls (ps.getD k default) (fs.getD k default) (alO o (alM
 (gI B Ls) (ps.take k) fs))) (.b (!(gI B Ls (ps.getD k default) (fs.getD k default)).isSome) (.o 1 [0] [.s (.one (.val (.lit (.slice none 0 0)))), .s (lb false)])
 (.r ((k : Int) + 1) (.g [0, 4, 2] (k + 1) [.s (li ((k : Int) + 1)), .o (.arr true 12 ((smO (ps.getD k default) (alO o (alM (gI B Ls) (ps.take k) fs))
 (gI B Ls (ps.getD k default) (fs.getD k default))).map Yha))]))))))) (.o 0 [0, 1] [.o (.arr true 12 ((alO o (alM (gI B Ls) (ps.take k) fs)).map Yha))])) (by
 intro k h; try dsimp only [Yhf, Yhl, Z6n] at h ⊢
 have g1 := @Y1l9 (gI B Ls) ps fs o k
 have g2 := @Y1gp (gI B Ls) ps fs (k + 1)
 have g3 := @Y1iw (gI B Ls) ps fs k
 have g4 := @Y178 B Ls o (ps.take k) fs
 have g5 := hd (ps.getD k default)
 have g6 := @Yi4 _ wY ps (ps.getD k default)
 have g7 := @Yi4 _ wY fs (fs.getD k default)
 have g8 := @Yjj _ _ Yhk ps k
 have g9 := Yiz Yhk ps (k + 1)
 with_reducible repeat' (first | apply And.intro | exact zR | exact ih | (intro) | apply ih)
 all_goals ((try simp only [std, inj] at *); with_reducible and_intros)
 all_goals try with_reducible first | apply ih
 all_goals try first | exact z | grind [Yhj, Yhi, Yhh, Yhe])
theorem Zd0 (B : List YB) (Ls : List YS) (ps fs : List YS) (o : List YC) (h : B.length <= 1048577 /\ Yhb wB B <= 1048577 /\ Yhb wY ps <= 1048576 /\ Yhb wY fs <=
 1000000000 /\ o.length + Yhb Yhk ps <= 2147483647 /\ ps.length <= fs.length /\ ps.length <= 1048576) (hd : ∀ z ∈ ps, good Ls z /\ Yi1 z <= 40) (hl : Ls.all Yk9 = true) (ih : ∀ z ∈
 ps, ∀ (B : List YB) (Ls : List YS) (f : YS) (o : List YC) (h : B.length <= 1048577 /\ Yhb wB B <= 1048577 /\ wY z <= 1048576 /\ wY f <= 1000000000 /\ o.length + Yhk
 z <= 2147483647 /\ Yi1 z <= 40) (hl : Ls.all Yk9 = true) (hg : good Ls z), Zr B Ls z f o)  : Z26 B Ls ps fs o := Yhq Tryz.call194 Tryz.func194 (.z Yh9 ps (.w (.ghost
 (.move 0)) (.l (Z6n B Ls ps fs o) (Zfx B Ls ps fs o h hd hl ih) [0, 2, 1] [.s (li 0), .o (.arr true 12 (o.map Yha))] 0 (.t (.f [1] [.dead, .arr true 12
 ((alO o (alM (gI B Ls) ps fs)).map Yha)] (.tup [.one (.ref 1), lb true])) (.t (.w (.ghost (.nilreg 8 true 12)) (.f [1] [.dead, .arr true 12 []] (.tup [.one
 (.ref 1), lb false]))) .q))))) (by
 dsimp only [Yhf, Z26, Yhl, Z6n]
 have g1 := @Y1ib (gI B Ls) ps fs o
 have g2 : (alM (gI B Ls) ps fs).isSome = false -> alO o (alM (gI B Ls) ps fs) = [] := fun h => by cases e : alM (gI B Ls) ps fs <;> simp_all [alO]
 with_reducible repeat' (first | apply And.intro | exact zR | exact ih | (intro))
 all_goals ((try simp only [std, inj] at *); with_reducible and_intros)
 all_goals try with_reducible first | apply ih
 all_goals (try exact zG))
def Z4q (B : List YB) (Ls : List YS) (p : YS) (f : YS) (o : List YC) (k : Nat) : Lp Nat := .mk 217 1 (fun x => [(3, .one (.ref 1)), (4, .one
 (.ptr 2 0)), (5, .one (.ptr 3 0)), (6, .one (.ptr 4 0)), (10, li (atI p.items)), (11, ll (List.take ((atI p.items - 1).toNat - 0) (List.drop 0 (List.map Yh9
 p.items)))), (12, ll (List.take ((p.items.map Yh9).length - (atI p.items + 1).toNat) (List.drop (atI p.items + 1).toNat (p.items.map Yh9)))), (13, li
 ((↑(f.items.map Yh9).length : Int) - (↑(List.take ((atI p.items - 1).toNat - 0) (List.drop 0 (p.items.map Yh9))).length : Int) - (↑(List.take ((List.map Yh9
 p.items).length - (atI p.items + 1).toNat) (List.drop (atI p.items + 1).toNat (p.items.map Yh9))).length : Int))), (15, .one (.ref 5)), (17, li (k : Int)), (18,
 .one (.ref 6)), (181, li (↑((rp (nI Ls (xI p)) (rI B Ls p f k)).map Yha).length : Int)), (182, hs x 0)]) (fun x => [.dead, .arr true 12 ((alO o
 (alM (gI B Ls) (List.take ((atI p.items - 1).toNat - 0) (p.items.drop 0)) (List.take ((↑(List.take ((atI p.items - 1).toNat - 0) (List.drop 0 (List.map Yh9
 p.items))).length : Int).toNat - 0) (f.items.drop 0)))).map Yha), .box [vL (B.map Yhc), vL (Ls.map Yh9)], .box (vals (Yhg p)), .box (vals (Yhg f)),
 ho x 1, ho x 2]) (fun k1 => [.s (li (k1 : Int)), .o (.arr true 12 ((Yjb (nI Ls (xI p)) (rI B Ls p f k) (Ym0 B Ls p f k) k1).map Yha)), .o (.arr true 12 (List.map
 Ypu (List.take k1 (Ym0 B Ls p f k)) ++ (List.drop k1 (Ym0 B Ls p f k)).map Yha))]) (fun k1 => k1 <= (nI Ls (xI p)).length /\ (nI Ls (xI p)).length <= 9223372036854775807
 /\ k < mI2 p f /\ fI p f = true /\ qI B Ls p f k = true /\ (gI B Ls (xI p) (f.items.getD (aT p + k) default)).isSome = true /\ (rI B Ls p f k).length <= 1000000000) (fun k1 => (nI Ls
 (xI p)).length - k1) [.mk True (.exit 3) (fun x => [(3, .one (.ref 1)), (4, .one (.ptr 2 0)), (5, .one (.ptr 3 0)), (6, .one (.ptr 4 0)), (10, li (atI p.items)),
 (11, ll (List.take ((atI p.items - 1).toNat - 0) (List.drop 0 (p.items.map Yh9)))), (12, ll (List.take ((p.items.map Yh9).length - (atI p.items + 1).toNat)
 (List.drop (atI p.items + 1).toNat (p.items.map Yh9)))), (13, li ((↑(f.items.map Yh9).length : Int) - (↑(List.take ((atI p.items - 1).toNat - 0) (List.drop 0
 (p.items.map Yh9))).length : Int) - (↑(List.take ((p.items.map Yh9).length - (atI p.items + 1).toNat) (List.drop (atI p.items + 1).toNat (List.map Yh9
 p.items))).length : Int))), (15, .one (.ref 5)), (17, li (k : Int))]) (fun x => [.dead, .arr true 12 ((alO o (alM (gI B Ls) (List.take ((atI p.items -
 1).toNat - 0) (p.items.drop 0)) (List.take ((↑(List.take ((atI p.items - 1).toNat - 0) (List.drop 0 (p.items.map Yh9))).length : Int).toNat - 0) (List.drop 0
 f.items)))).map Yha), .box [vL (B.map Yhc), vL (Ls.map Yh9)], .box (vals (Yhg p)), .box (vals (Yhg f)), ho x 0]) [.o (.arr true 12 (List.map Yha
 (rp (nI Ls (xI p)) (rI B Ls p f (k + 1)))))]]
def Z2o (B : List YB) (Ls : List YS) (p : YS) (f : YS) (o : List YC) : Lp Nat := .mk 217 1 (fun x => [(3, .one (.ref 1)), (4, .one (.ptr 2
 0)), (5, .one (.ptr 3 0)), (6, .one (.ptr 4 0)), (10, li (atI p.items)), (11, ll (List.take ((atI p.items - 1).toNat - 0) (List.drop 0 (p.items.map Yh9)))), (12,
 ll (List.take ((p.items.map Yh9).length - (atI p.items + 1).toNat) (List.drop (atI p.items + 1).toNat (p.items.map Yh9)))), (13, li ((↑(List.map Yh9
 f.items).length : Int) - (↑(List.take ((atI p.items - 1).toNat - 0) (List.drop 0 (p.items.map Yh9))).length : Int) - (↑(List.take ((p.items.map Yh9).length -
 (atI p.items + 1).toNat) (List.drop (atI p.items + 1).toNat (p.items.map Yh9))).length : Int))), (15, .one (.ref 5)), (17, hs x 0)]) (fun x => [.dead, .arr true
 12 ((alO o (alM (gI B Ls) (List.take ((atI p.items - 1).toNat - 0) (p.items.drop 0)) (List.take ((↑(List.take ((atI p.items - 1).toNat - 0) (List.drop 0
 (p.items.map Yh9))).length : Int).toNat - 0) (f.items.drop 0)))).map Yha), .box [vL (B.map Yhc), vL (Ls.map Yh9)], .box (vals (Yhg p)), .box
 (vals (Yhg f)), ho x 1]) (fun k => [.s (li (k : Int)), .o (.arr true 12 ((rp (nI Ls (xI p)) (rI B Ls p f k)).map Yha))]) (fun k => k <= mI2 p f /\ fI p f = true /\
 qI B Ls p f k = true) (fun k => mI2 p f - k) [.mk (qI B Ls p f (mI2 p f) = true) (.exit 1) (fun x => [(3, .one (.ref 1)), (4, .one (.ptr 2 0)), (6, .one (.ptr 3 0)),
 (11, ll (List.take ((atI p.items - 1).toNat - 0) (List.drop 0 (p.items.map Yh9)))), (12, ll (List.take ((p.items.map Yh9).length - (atI p.items + 1).toNat)
 (List.drop (atI p.items + 1).toNat (p.items.map Yh9)))), (13, li ((↑(f.items.map Yh9).length : Int) - (↑(List.take ((atI p.items - 1).toNat - 0) (List.drop 0
 (p.items.map Yh9))).length : Int) - (↑(List.take ((p.items.map Yh9).length - (atI p.items + 1).toNat) (List.drop (atI p.items + 1).toNat (List.map Yh9
 p.items))).length : Int))), (15, .one (.ref 4))]) (fun x => [.dead, .arr true 12 ((alO o (alM (gI B Ls) (List.take ((atI p.items - 1).toNat - 0)
 (p.items.drop 0)) (List.take ((↑(List.take ((atI p.items - 1).toNat - 0) (List.drop 0 (p.items.map Yh9))).length : Int).toNat - 0) (f.items.drop 0)))).map Yha), .box
 [vL (B.map Yhc), vL (Ls.map Yh9)], .box (vals (Yhg f)), ho x 0]) [.o (.arr true 12 ((rp (nI Ls (xI p)) (rI B Ls p f (mI2 p f))).map Yha))],
 .mk ((gI B Ls p f).isSome = false) .ret (fun x => [(8, hs x 0), (9, hs x 1)]) (fun x => [.dead]) [.s (.one (.val (.lit (.slice none 0 0)))), .s (lb false)]]
theorem Zdt (B : List YB) (Ls : List YS) (p : YS) (f : YS) (o : List YC) (h : B.length <= 1048577 /\ Yhb wB B <= 1048577 /\ wY p <= 1048576 /\ wY f <=
 1000000000 /\ o.length + Yhk p <= 2147483647 /\ Yi1 p <= 40) (hl : Ls.all Yk9 = true) (hg : good Ls p) (ih : ∀ (z : YS), z ∈ p.items -> ∀ (B : List YB) (Ls : List YS)
 (f : YS) (o : List YC), B.length <= 1048577 /\ Yhb wB B <= 1048577 /\ wY z <= 1048576 /\ wY f <= 1000000000 /\ o.length + Yhk z <= 2147483647 /\ Yi1 z <= 40 -> Ls.all Yk9 =
 true -> good Ls z -> OK (Zr B Ls z f o)) (k : Nat) : Lp.Sem Tryz.prog (Yhp Tryz.f111 1) (Z4q B Ls p f o k) := Yhz (fun k1 => let v1 := ((Yjb (nI Ls (xI p)) (rI B
 Ls p f k) (Ym0 B Ls p f k) k1).getD (k1 : Int).toNat default); let v2 := [cI 0, cI 0, cS (ByteArray.mk #[]), .list [], .list [], cI 0, cI 0, cI 0, cS (ByteArray.mk #[]),
 .list [], .list [], .list []]; let v3 := ((Yjb (nI Ls (xI p)) (rI B Ls p f k) (Ym0 B Ls p f k) k1).map Yha); let v4 := ((Ym0 B Ls p f k).getD k1 default);
 let v5 := ((List.take k1 (Ym0 B Ls p f k)).map Ypu ++ (List.drop k1 (Ym0 B Ls p f k)).map Yha); let v6 := [(k1 : Int).toNat, (k1 : Int).toNat, (↑k1 :
 Int).toNat, (k1 : Int).toNat, (k1 : Int).toNat]; let v7 := [cI v1.name.kind, cI v1.name.number, cS v1.name.text, .list (v1.name.scopes.map Yhd), .list (List.map
 Yh9 v1.name.items), cI v1.depth, cI v1.form.kind, cI v1.form.number, cS v1.form.text, .list (v1.form.scopes.map Yhd), .list (v1.form.items.map Yh9),
 .any]; let v10 := (v1.each.map Yha ++ [v2]); let v9 := (↑(v1.each.map Yha).length : Int); let v8 := [cI v1.name.kind, cI v1.name.number, cS v1.name.text,
 .list (v1.name.scopes.map Yhd), .list (v1.name.items.map Yh9), cI v1.depth, cI v1.form.kind, cI v1.form.number, cS v1.form.text, .list (List.map Yhd
 v1.form.scopes), .list (v1.form.items.map Yh9), .list (v10.set v9.toNat (Yhw v4))]; .i ((k1 : Int) < (↑((rp (nI Ls (xI p)) (rI B Ls p f
 k)).map Yha).length : Int)) (.w (.drawT 13 16 12 [(11, [5, 7]), (13, [6, 9]), (16, [9, 5])]) (.p (0 <= (k1 : Int) /\ (k1 : Int).toNat < v3.length) (.w .sub (.p ((k1 : Int).toNat <
 v3.length) (.p (0 <= (k1 : Int) /\ (k1 : Int).toNat < v5.length) (.w (.subs (Yhw v4)) (.p (v5[(k1 : Int).toNat]? = some (Yhw v4)) (.w (.cells (Yhw v1)) (.p
 (v3[(k1 : Int).toNat]? = some (Yhw v1)) (.w (.subcall (Yhw v1) (v1.each.map Yha) 12) (.p (v3[(k1 : Int).toNat]? = some (Yhw v1)) (.p (some (Cell.list
 (v1.each.map Yha)) = some (Cell.list (v1.each.map Yha))) (.p (∀ (x : List Cell), x ∈ v1.each.map Yha -> x.length = 12) (.p (((List.map Yha
 v1.each).length + 1) * 192 <= 140737488355328) (.p (0 <= v9 /\ v9.toNat < v10.length) (.w (.subs (Yhw v4)) (.w (.cells v2) (.p (v6 = v6) (.p (v5[(k1 : Int).toNat]? = some
 (Yhw v4)) (.p (v10[v9.toNat]? = some v2) (.p (0 <= (k1 : Int) /\ (k1 : Int).toNat < (v3.set (k1 : Int).toNat v7).length) (.w (.take v7 (v3.set (k1 : Int).toNat v8) 0) (.p
 ((v3.set (k1 : Int).toNat v7)[(k1 : Int).toNat]? = some v7) (.p ((v3.set (k1 : Int).toNat v7).set (k1 : Int).toNat v8 = v3.set (k1 : Int).toNat v8) (.p (v9.toNat <
 v10.length) (.p ((k1 : Int).toNat < (v3.set (k1 : Int).toNat v7).length) (.z Yha v1.each (.r ((k1 : Int) + 1) (.g [0, 1, 2, 3, 4, 5, 6] (k1 + 1) [.s (li ((k1 : Int) +
 1)), .o (.arr true 12 (v3.set (k1 : Int).toNat v8)), .o (.arr true 12 (v5.set (k1 : Int).toNat [cI v4.name.kind, cI v4.name.number, cS v4.name.text, .any, .any, cI
 v4.depth, cI v4.form.kind, cI v4.form.number, cS v4.form.text, .any, .any, .any]))]))))))))))))))))))))))))))))) (.o 0 [0, 1, 2, 3, 4, 5] [.o (.arr true 12 v3)]))
 (by
 intro k1 h; try dsimp only [Yhf, Yhl, Z4q] at h ⊢
 have gl := Ymg (nI Ls (xI p)) (rI B Ls p f k)
 have g3 := Y13q (nI Ls (xI p)) (rI B Ls p f k) (Ym0 B Ls p f k) k1
 have gc := @Y1f5 B Ls p f k
 have ge := @Y1b5 B Ls p f k k1
 have gz := @Y1bz B Ls p f k k1
 with_reducible repeat' (first | apply And.intro | exact zR | (intro))
 all_goals ((try simp only [std, inj] at *); with_reducible and_intros)
 all_goals try first | exact zw | exact List.set_set .. | exact Y12f (by grind) | exact Y12q (by grind) | exact Y186 (by grind) | exact Y118 _ (by omega) | exact gz h.2.2.2.2.1 h.2.2.2.2.2.1 (by omega) | grind)
theorem Z9f (B : List YB) (Ls : List YS) (p : YS) (f : YS) (o : List YC) (h : B.length <= 1048577 /\ Yhb wB B <= 1048577 /\ wY p <= 1048576 /\ wY f <=
 1000000000 /\ o.length + Yhk p <= 2147483647 /\ Yi1 p <= 40) (hl : Ls.all Yk9 = true) (hg : good Ls p) (ih : ∀ (z : YS), z ∈ p.items -> ∀ (B : List YB) (Ls : List YS)
 (f : YS) (o : List YC), B.length <= 1048577 /\ Yhb wB B <= 1048577 /\ wY z <= 1048576 /\ wY f <= 1000000000 /\ o.length + Yhk z <= 2147483647 /\ Yi1 z <= 40 -> Ls.all Yk9 =
 true -> good Ls z -> OK (Zr B Ls z f o)) : Lp.Sem Tryz.prog (Yhp Tryz.f111 0) (Z2o B Ls p f o) := Yhz (fun k => .i ((k : Int) < (↑(List.map Yh9
 f.items).length : Int) - (↑(List.take ((atI p.items - 1).toNat - 0) (List.drop 0 (p.items.map Yh9))).length : Int) - (↑(List.take ((p.items.map Yh9).length -
 (atI p.items + 1).toNat) (List.drop (atI p.items + 1).toNat (p.items.map Yh9))).length : Int)) (.w (.draw []) (.r (atI p.items - 1) (.x (atI p.items - 1) (List.map
 Yh9 p.items) (Yhg (p.items.getD (atI p.items - 1).toNat default)) (.r ((↑(List.take ((atI p.items - 1).toNat - 0) (List.drop 0 (p.items.map Yh9))).length : Int) +
 (k : Int)) (.x ((↑(List.take ((atI p.items - 1).toNat - 0) (List.drop 0 (p.items.map Yh9))).length : Int) + (k : Int)) (f.items.map Yh9) (Yhg (f.items.getD
 ((List.take ((atI p.items - 1).toNat - 0) (List.drop 0 (p.items.map Yh9))).length + k) default)) (.d [.rd, .rd, .rd, .own true 12] (Zr B Ls (p.items.getD (atI
 p.items - 1).toNat default) (f.items.getD ((List.take ((atI p.items - 1).toNat - 0) (List.drop 0 (p.items.map Yh9))).length + k) default) []) (.h ((List.take ((atI
 p.items - 1).toNat - 0) (List.drop 0 (p.items.map Yh9))).length <= 9223372036854775807) (.b (!(gI B Ls (p.items.getD (atI p.items - 1).toNat default) (f.items.getD
 ((List.take ((atI p.items - 1).toNat - 0) (List.drop 0 (p.items.map Yh9))).length + k) default)).isSome) (.o 1 [0] [.s (.one (.val (.lit (.slice none 0
 0)))), .s (lb false)]) (.z Yha (rp (nI Ls (xI p)) (rI B Ls p f k)) (.l (Z4q B Ls p f o k) (Zdt B Ls p f o h hl hg ih k) [0, 1, 2, 3, 4, 5, 7] [.s (li 0), .o
 (.arr true 12 ((rp (nI Ls (xI p)) (rI B Ls p f k)).map Yha)), .o (.arr true 12 ((smO (p.items.getD (atI p.items - 1).toNat default) [] (gI B Ls
 (p.items.getD (atI p.items - 1).toNat default) (f.items.getD ((List.take ((atI p.items - 1).toNat - 0) (List.drop 0 (p.items.map Yh9))).length + k) default))).map Yha))] 0 (.t
 (.r ((k : Int) + 1) (.g [0, 1, 2, 3, 4, 5] (k + 1) [.s (li ((k : Int) + 1)), .o (.arr true 12 ((rp (nI Ls (xI p)) (rI B Ls p f (k + 1))).map Yha))])) .q)))))))))))
 (.o 0 [0, 1, 2, 4, 5] [.o (.arr true 12 ((rp (nI Ls (xI p)) (rI B Ls p f k)).map Yha))])) (by
 intro k h; try dsimp only [Yhf, Yhl, Z2o, Z4q] at h ⊢
 rename_i hh
 have gn := Yqa h.2.1
 have gx := Y1in h.2.1 hg
 have e1 := Y16v h.2.1
 have e2 := Y1fs h.2.1
 have e3 := Y1kl h.2.2
 have gl := Y1a7 f
 have gs := Yzs (Ls := Ls) (xI p)
 have gt := Ynx (xI p)
 have g10 := Yv4 (nI Ls (xI p)) (rI B Ls p f k) (Ym0 B Ls p f k)
 have g12 := Ymg (nI Ls (xI p)) (rI B Ls p f k)
 have gw := @Yp2 (aT p + k) f
 with_reducible repeat' (first | apply And.intro | exact zR | exact ih | (intro))
 all_goals (try simp only [std, inj, e1, Y1bu] at *)
 all_goals with_reducible and_intros
 all_goals try first | with_reducible apply ih
 all_goals try first | exact zw | (have q := gw (by omega); omega) | exact Y1ap h.2.1 (by omega) h.2.2 (Y1g3 ‹_›) | exact Y1d3 | exact Y19u ‹_› | exact (Y171 h.2.2 (Y19u ‹_›)).2 | exact Y1jw (by omega) h.2.2 | exact Y1kn (by omega) | grind)
theorem Zgp (B : List YB) (Ls : List YS) (p f : YS) (o : List YC) (h : B.length <= 1048577 /\ Yhb wB B <= 1048577 /\ wY p <= 1048576 /\ wY f <= 1000000000 /\
 o.length + Yhk p <= 2147483647 /\ Yi1 p <= 40) (hl : Ls.all Yk9 = true) (hg : good Ls p) (ih : ∀ z ∈ p.items, ∀ (B : List YB) (Ls : List YS) (f : YS) (o : List
 YC) (h : B.length <= 1048577 /\ Yhb wB B <= 1048577 /\ wY z <= 1048576 /\ wY f <= 1000000000 /\ o.length + Yhk z <= 2147483647 /\ Yi1 z <= 40) (hl : Ls.all Yk9 = true) (hg : good
 Ls z), Zr B Ls z f o)  : Zr B Ls p f o := Yhq Tryz.call111 Tryz.func111 (let v15 := (atI p.items - 1); let v14 := (p.items.map Yh9); let v7 := (↑(List.take
 (v15.toNat - 0) (v14.drop 0)).length : Int); let v11 := (↑(f.items.map Yh9).length : Int); let v17 := (atI p.items + 1); let v9 := (↑(List.take (v14.length -
 v17.toNat) (List.drop v17.toNat v14)).length : Int); let v1 := (v7 + (v11 - v7 - v9)); let v12 := (List.take (v15.toNat - 0) (p.items.drop 0)); let v18 := (List.take
 (v7.toNat - 0) (f.items.drop 0)); let v2 := (alM (gI B Ls) v12 v18); let v3 := (List.take (v14.length - v17.toNat) (List.drop v17.toNat p.items)); let v4 := ((List.take
 (v15.toNat - 0) (v14.drop 0)).length <= 9223372036854775807); let v26 := (.ref 1); let v5 := (.tup [.one v26, lb false]); let v6 := (0 <= v7 + (v11 - v7 - v9)); let v27
 := (List.take (v14.length - v17.toNat) (List.drop v17.toNat v14)); let v25 := (f.items.map Yh9); let v28 := (alO o v2 ++ rp (nI Ls (xI p)) (rI B Ls p f (mI2 p f))); let
 v13 := (List.take (v25.length - v1.toNat) (List.drop v1.toNat f.items)); let v21 := [.dead, .arr true 12 ((alO v28 (alM (gI B Ls) v3 v13)).map Yha)]; let v24 :=
 (.tup [.one v26, lb (alM (gI B Ls) v3 v13).isSome]); let v8 := (Yky Tryz.prog 194 [.arr true 12 ((alO o v2).map Yha ++ (rp (nI Ls (xI p)) (rI
 B Ls p f (mI2 p f))).map Yha)] [.agg [vL (B.map Yhc), vL (Ls.map Yh9)], ll v27, ll (List.take (v25.length - v1.toNat) (List.drop v1.toNat v25)), .one (.ref 0)]
 v21 v24); let v10 := [.dead, .arr true 12 (o.map Yha)]; let v16 := [.dead, .arr true 12 []]; let v19 := (Yky Tryz.prog 194 [.arr true 12 (List.map Yha
 o)] [.agg [vL (B.map Yhc), vL (Ls.map Yh9)], ll (List.take (v15.toNat - 0) (v14.drop 0)), ll (List.take (v7.toNat - 0) (v25.drop 0)), .one (.ref
 0)] [.dead, .arr true 12 ((alO o v2).map Yha)] (.tup [.one v26, lb v2.isSome])); let v20 := [.dead, .arr true 12 (o.map Yha ++ [[cI p.kind, cI
 p.number, cS p.text, .list (p.scopes.map Yhd), .list v14, cI 0, cI f.kind, cI f.number, cS f.text, .list (f.scopes.map Yhd), .list v25, .list
 []]])]; let v22 := ((((alO o v2).map Yha).length + ((rp (nI Ls (xI p)) (rI B Ls p f (mI2 p f))).map Yha).length) * 192 <= 140737488355328); let v23 :=
 (p.items.getD v15.toNat default); let v29 := [(6, [4, 5, 12, 13]), (7, [0, 20])]; let v30 := [.dead, .arr true 12 ((alO o (alM (gI B Ls) p.items f.items)).map Yha)];
 let v31 := (((o.map Yha).length + 1) * 192 <= 140737488355328); let v32 := (.arr true 12 (((vrI Ls v23 1 []).getD []).map Yha)); .c [.rd] (Z92 p) (.b
 (decide (p.kind = 1) && Yiv p) (.w (.ghost (.move 0)) (.f [4] v10 (.tup [.one v26, lb true]))) (.i (p.kind = 1) (.c [.rd, .rd] (Zak Ls p) (.b (Ykd Ls p) (.i (f.kind =
 1) (.d [.rd, .rd, .rd] (Z8b B p f) (.w (.ghost (.move 0)) (.f [4] v10 (.tup [.one v26, lb (mng B p f)])))) (.w (.ghost (.move 0)) (.f [4] v10 v5))) (.i (p.kind = 1) (.w
 (.draw v29) (.d [.rd] (Zm p) (.d [.rd] (Zm f) (.p v31 (.f [21] v20 (.tup [.one v26, lb true])))))) (.i (p.kind ≠ 0) (.w (.draw []) (.i (f.kind = p.kind) (.i
 (f.number = p.number) (.w (.ghost (.move 0)) (.f [4] v10 (.tup [.one v26, lb (decide (f.text.data.toList = p.text.data.toList))]))) (.w (.ghost (.move 0)) (.f [4] v10 v5)))
 (.y false (.w (.ghost (.move 0)) (.f [4] v10 v5))))) (.i (f.kind ≠ 0) (.w (.ghost (.nilreg 8 true 12)) (.w (.ghost (.move 0)) (.f [4] v16 v5))) (.c [.rd] (Zc4 p.items) (.i (atI
 p.items < 0) (.z Yh9 p.items (.z Yh9 f.items (.i ((↑(p.items.map Yh9).length : Int) ≠ v11) (.w (.ghost (.nilreg 8 true 12)) (.w (.ghost (.move 0)) (.f [4] v16
 v5))) (.d [.rd, .rd, .rd, .own true 12] (Z26 B Ls p.items f.items o) (.f [5] v30 (.tup [.one v26, lb (alM (gI B Ls) p.items f.items).isSome])))))) (.r v15 (.p (0 <= atI
 p.items - 1) (.p (0 <= v15.toNat /\ v15.toNat <= v14.length /\ ∀ (e : List Cell), e ∈ p.items.map Yh9 -> e.length = 5) (.r v17 (.p (0 <= atI p.items + 1) (.p (v17.toNat <=
 v14.length /\ v14.length <= v14.length /\ ∀ (e : List Cell), e ∈ p.items.map Yh9 -> e.length = 5) (.z Yh9 f.items (.h v4 (.r (v11 - v7) (.h (v27.length <=
 9223372036854775807) (.r (v11 - v7 - v9) (.i (v11 - v7 - v9 < 0) (.w (.ghost (.nilreg 8 true 12)) (.w (.ghost (.move 0)) (.f [4] v16 v5))) (.w (.draw [(8, [0])]) (.p (0 <= v7) (.p
 (0 <= v7.toNat /\ v7.toNat <= v25.length /\ ∀ (e : List Cell), e ∈ f.items.map Yh9 -> e.length = 5) (.u [.rd, .rd, .rd, .own true 12] (Z26 B Ls v12 v18 o) (.p v19 (.h v4
 (.b (!(alM (gI B Ls) v12 v18).isSome) (.w (.ghost (.nilreg 8 true 12)) (.f [6] v16 v5)) (.w (.draw []) (.r v15 (.x v15 v14 (Yhg v23) (.d [.rd, .rd, .rd, .own true 12]
 (Zi Ls v23 1 []) (.l (Z2o B Ls p f o) (Z9f B Ls p f o h hl hg ih) [0, 5, 1, 2, 3, 7] [.s (li 0), .o v32] 0 (.t (.p v22 (.w (.draw [(10, [5])]) (.r v1 (.p v6
 (.p (v1.toNat <= v25.length /\ v25.length <= v25.length /\ ∀ (e : List Cell), e ∈ f.items.map Yh9 -> e.length = 5) (.u [.rd, .rd, .rd, .own true 12] (Z26 B Ls v3 v13 v28)
 (.p v8 (.h v4 (.f [7] v21 v24))))))))) (.t (.w (.ghost (.nilreg 8 true 12)) (.f [1] v16 v5)) .q))))))))))))))))))))))))))))))))) (.y false (.i (p.kind = 1) (.w (.draw v29) (.d
 [.rd] (Zm p) (.d [.rd] (Zm f) (.p v31 (.f [21] v20 (.tup [.one v26, lb true])))))) (.i (p.kind ≠ 0) (.w (.draw []) (.i (f.kind = p.kind) (.i (f.number =
 p.number) (.w (.ghost (.move 0)) (.f [4] v10 (.tup [.one v26, lb (decide (f.text.data.toList = p.text.data.toList))]))) (.w (.ghost (.move 0)) (.f [4] v10 v5))) (.y false (.w
 (.ghost (.move 0)) (.f [4] v10 v5))))) (.i (f.kind ≠ 0) (.w (.ghost (.nilreg 8 true 12)) (.w (.ghost (.move 0)) (.f [4] v16 v5))) (.c [.rd] (Zc4 p.items) (.i (atI p.items < 0)
 (.z Yh9 p.items (.z Yh9 f.items (.i ((↑(p.items.map Yh9).length : Int) ≠ v11) (.w (.ghost (.nilreg 8 true 12)) (.w (.ghost (.move 0)) (.f [4] v16 v5))) (.d [.rd,
 .rd, .rd, .own true 12] (Z26 B Ls p.items f.items o) (.f [5] v30 (.tup [.one v26, lb (alM (gI B Ls) p.items f.items).isSome])))))) (.r v15 (.p (0 <= atI p.items - 1) (.p
 (0 <= v15.toNat /\ v15.toNat <= v14.length /\ ∀ (e : List Cell), e ∈ p.items.map Yh9 -> e.length = 5) (.r v17 (.p (0 <= atI p.items + 1) (.p (v17.toNat <= v14.length /\
 v14.length <= v14.length /\ ∀ (e : List Cell), e ∈ p.items.map Yh9 -> e.length = 5) (.z Yh9 f.items (.h v4 (.r (v11 - v7) (.h (v27.length <= 9223372036854775807) (.r (v11
 - v7 - v9) (.i (v11 - v7 - v9 < 0) (.w (.ghost (.nilreg 8 true 12)) (.w (.ghost (.move 0)) (.f [4] v16 v5))) (.w (.draw [(8, [0])]) (.p (0 <= v7) (.p (0 <= v7.toNat /\ v7.toNat <=
 v25.length /\ ∀ (e : List Cell), e ∈ f.items.map Yh9 -> e.length = 5) (.u [.rd, .rd, .rd, .own true 12] (Z26 B Ls v12 v18 o) (.p v19 (.h v4 (.b (!(alM (gI B Ls) v12
 v18).isSome) (.w (.ghost (.nilreg 8 true 12)) (.f [6] v16 v5)) (.w (.draw []) (.r v15 (.x v15 v14 (Yhg v23) (.d [.rd, .rd, .rd, .own true 12] (Zi Ls v23 1 []) (.l
 (Z2o B Ls p f o) (Z9f B Ls p f o h hl hg ih) [0, 5, 1, 2, 3, 7] [.s (li 0), .o v32] 0 (.t (.p v22 (.w (.draw [(10, [5])]) (.r v1 (.p v6 (.p (v1.toNat <= v25.length
 /\ v25.length <= v25.length /\ ∀ (e : List Cell), e ∈ f.items.map Yh9 -> e.length = 5) (.u [.rd, .rd, .rd, .own true 12] (Z26 B Ls v3 v13 v28) (.p v8 (.h v4 (.f [7] v21
 v24))))))))) (.t (.w (.ghost (.nilreg 8 true 12)) (.f [1] v16 v5)) .q))))))))))))))))))))))))))))))))))) (by
 dsimp only [Yhf, Zr, Yhl, Z2o]
 have g1 := @Y1hp B Ls p f o
 have g2 := @Y1jp B Ls p f o
 have g3 := @Y1ko B Ls p f o
 have g4 := @Y159 B Ls p f o
 have g6 := @Y1fe B Ls p f o
 have g14 := @Y1cv Ls p hg
 have g19 := Yj6 f
 have g20 := Yj6 p
 have g21 := Yi9 p
 have g22 := Y10h o p f
 with_reducible repeat' (first | apply And.intro | exact zR | (intro) | apply Z92 | apply Zak | apply Ze5 | apply Z3 | apply Zc4 | apply Zd0 | apply Z93)
 all_goals ((try simp only [std, inj] at *); with_reducible and_intros)
 all_goals try first | with_reducible apply Ze5 | with_reducible apply Z3 | with_reducible apply Zd0 | with_reducible apply Z93 | (simp only [<- List.map_append]; with_reducible apply Zd0)
 all_goals (try (
  have hf := Y1m0 hg ‹_› ‹_› ‹_› ‹_›
  have e1 := Y1e7 hf
  have e2 := Y1fa hf
  have e3 := Y1k8 hf
  simp only [Y1iu, e1, e2, e3, Ypv, Y1bu, Y1hb, Y1h6] at *
  have gn := Yqa hf
  have gx := Y1in hf hg
  have pl := Y14h (Ymc hf).2.2.1 (Ymc hf).2.2.2.1
  have s1 := Y1iq f (aT p)
  have s2 := Y1iq f (aT p + mI2 p f)
  have s3 := @Y178 B Ls o (List.take (aT p) p.items) (List.take (aT p) f.items)
  have s4 := Yzs (Ls := Ls) (xI p)
  have s5 := Ymg (nI Ls (xI p)) (rI B Ls p f (mI2 p f))))
 all_goals with_reducible and_intros
 all_goals try first | exact zw | (have q := Ypl hg (Decidable.not_not.1 ‹¬¬p.kind = 0›); omega) | exact (Y18i ‹_› ‹_›).1 | exact (Y18i (o := o) ‹_› ‹_›).2 | exact (Y18j ‹_› ‹_› ‹_› ‹_›).1 | exact (Y18j (o := o) ‹_› ‹_› ‹_› ‹_›).2 | exact (Y1co hg ‹_› ‹_› ‹_› ‹_›).1 | exact (Y1co (o := o) hg ‹_› ‹_› ‹_› ‹_›).2 | exact Y1lz ‹_› ‹_› ‹_› ‹_› | exact (Y1c3 hf ‹_›).1 | exact (Y1c3 (o := o) hf ‹_›).2 | exact (Y17q ‹_› ‹_›).1 | exact (Y17q (o := o) ‹_› ‹_›).2 | exact (Y1dw hf ‹_› ‹_›).1 | exact (Y1dw (o := o) hf ‹_› ‹_›).2 | exact Y1er hl hg hf | exact Y1eq hg (Ymc hf).1 (Ymc hf).2.2.1 (Ymc hf).2.2.2.1 (by omega) | exact Y1b0 hg (Ymc hf).1 (Ymc hf).2.2.1 (Ymc hf).2.2.2.1 (by omega) | (simp only [List.length_append, List.length_take, List.length_drop, List.length_nil] at *; omega) | rfl | grind)
theorem Za2 (p : YS) : ∀ (B : List YB) (Ls : List YS) (f : YS) (o : List YC) (h : B.length <= 1048577 /\ Yhb wB B <= 1048577 /\ wY p <= 1048576 /\ wY f <= 1000000000 /\ o.length + Yhk p <= 2147483647 /\ Yi1 p <= 40) (hl : Ls.all Yk9 = true) (hg : good Ls p), Zr B Ls p f o := YS.ind (P := fun p => ∀ (B : List YB) (Ls : List YS) (f : YS) (o : List YC) (h : B.length <= 1048577 /\ Yhb wB B <= 1048577 /\ wY p <= 1048576 /\ wY f <= 1000000000 /\ o.length + Yhk p <= 2147483647 /\ Yi1 p <= 40) (hl : Ls.all Yk9 = true) (hg : good Ls p), Zr B Ls p f o) (fun p ih B Ls f o h hl hg => Zgp B Ls p f o h hl hg ih) p
set_option maxHeartbeats 4000000
mutual
/-- the names of a form, each once -/
def Yho : YS -> List YS -> List YS
 | ⟨k, n, t, s, l⟩, o => Yy0 l (if k = 1 /\ Yii o ⟨k, n, t, s, l⟩ = false then o ++ [⟨k, n, t, s, l⟩] else o)
def Yy0 : List YS -> List YS -> List YS
 | [], o => o
 | x :: r, o => Yy0 r (Yho x o)
end
theorem Y12v : ∀ (l : List YS) (o : List YS), Yy0 l o = l.foldl (fun o x => Yho x o) o
 | [], _ => by rw [Yy0]; rfl
 | x :: r, o => by rw [Yy0, Y12v r]; rfl
def Ypp (s : YS) (o : List YS) : List YS := if s.kind = 1 /\ Yii o s = false then o ++ [s] else o
theorem Yzw (s : YS) (o : List YS) : Yho s o = s.items.foldl (fun o x => Yho x o) (Ypp s o) := by cases s; simp only [Yho, Y12v, Ypp]
theorem Y12w (s : YS) (o : List YS) : (Ypp s o).length <= o.length + 1 := by unfold Ypp; split <;> simp
theorem Ywp : ∀ (L : List YS), (∀ x ∈ L, ∀ o, (Yho x o).length <= o.length + Yhk x) -> ∀ o, (L.foldl (fun o x => Yho x o) o).length <= o.length + Yhb Yhk L
 | [], _, o => by simp [Yhb]
 | x :: r, h, o => by
  have h1 := h x List.mem_cons_self o
  have h2 := Ywp r (fun y hy => h y (List.mem_cons_of_mem _ hy)) (Yho x o)
  simp only [List.foldl_cons, Yhb]; omega
theorem Yx3 : ∀ (s : YS) (o : List YS), (Yho s o).length <= o.length + Yhk s := by
 refine YS.ind fun s ih o => ?_
 have h1 := Ywp s.items ih (Ypp s o)
 have h2 := Y12w s o
 rw [Yzw, Yi9]; omega
abbrev Z1p (s : YS) (o : List YS) : Ct := ⟨319, [.arr true 5 (o.map Yh9)], [Yhu s, .one (.ref 0)], [.dead, .arr true 5 ((Yho s o).map Yh9)], .sv (.one (.ref 1))⟩
def Z1u (s : YS) (o : List YS) : Lp Nat := .mk 33 1 (fun x => [(1, .one (.ref 1)), (22, ll (s.items.map Yh9)), (23, li (↑(List.map Yh9
 s.items).length : Int)), (24, hs x 0)]) (fun x => [.dead, ho x 1]) (fun k => [.s (li (k : Int)), .o (.arr true 5 ((List.foldl (fun o x => Yho x o) (Ypp s
 o) (s.items.take k)).map Yh9))]) (fun k => k <= s.items.length /\ s.items.length <= 9223372036854775807) (fun k => s.items.length - k) [.mk True (.exit 0) (fun x => [(1, .one (.ref
 1))]) (fun x => [.dead, ho x 0]) [.o (.arr true 5 ((Yho s o).map Yh9))]]
theorem Z6y (s : YS) (o : List YS) (h : o.length + Yhk s <= 2147483647 /\ wY s <= 1000000000) (ih : ∀ (z : YS), z ∈ s.items -> ∀ (o : List YS), o.length +
 Yhk z <= 2147483647 /\ wY z <= 1000000000 -> OK (Z1p z o)) : Lp.Sem Tryz.prog (Yhp Tryz.f319 0) (Z1u s o) := Yhz (fun k => .i ((k : Int) < (↑(List.map Yh9
 s.items).length : Int)) (.x (k : Int) (s.items.map Yh9) (Yhg (s.items.getD k default)) (.d [.rd, .own true 5] (Z1p (s.items.getD k default) (List.foldl (fun o x
 => Yho x o) (Ypp s o) (s.items.take k))) (.r ((k : Int) + 1) (.g [0, 4] (k + 1) [.s (li ((k : Int) + 1)), .o (.arr true 5 ((Yho (s.items.getD k
 default) (List.foldl (fun o x => Yho x o) (Ypp s o) (s.items.take k))).map Yh9))])))) (.o 0 [0, 1] [.o (.arr true 5 ((List.foldl (fun o x => Yho x o) (Ypp s o)
 (s.items.take k)).map Yh9))])) (by
 intro k h; try dsimp only [Yhf, Yhl, Z1u] at h ⊢
 have g1 := Ywp (s.items.take k) (fun x _ o => Yx3 x o) (Ypp s o)
 have g2 := Y12w s o
 have g3 := @Yl0 s k
 have g4 := Yi9 s
 with_reducible repeat' (first | apply And.intro | exact zR | exact ih | (intro) | apply Z1 | apply ih)
 all_goals ((try simp only [std, inj] at *); with_reducible and_intros)
 all_goals try with_reducible first | apply Z1 | apply ih
 all_goals try first | exact z | grind [Yzw, Ynb, Yhj, Yhi, Yhh, Yhe])
theorem Zgq (s : YS) (o : List YS) (h : o.length + Yhk s <= 2147483647 /\ wY s <= 1000000000) (ih : ∀ z ∈ s.items, ∀ (o : List YS) (h : o.length + Yhk z <=
 2147483647 /\ wY z <= 1000000000), Z1p z o)  : Z1p s o := Yhq Tryz.call319 Tryz.func319 (.i (s.kind = 1) (.c [.rd, .rd] (Z5z o s) (.b (!Yii o s) (.d [.rd] (Za
 s) (.p (((o.map Yh9).length + 1) * 80 <= 140737488355328) (.z Yh9 s.items (.l (Z1u s o) (Z6y s o h ih) [0, 5] [.s (li 0), .o (.arr true 5 (List.map
 Yh9 o ++ [Yhg s]))] 0 (.t (.f [1] [.dead, .arr true 5 ((Yho s o).map Yh9)] (.sv (.one (.ref 1)))) .q))))) (.z Yh9 s.items (.w (.ghost (.move 0))
 (.l (Z1u s o) (Z6y s o h ih) [0, 2] [.s (li 0), .o (.arr true 5 (o.map Yh9))] 0 (.t (.f [1] [.dead, .arr true 5 ((Yho s o).map Yh9)]
 (.sv (.one (.ref 1)))) .q)))))) (.y false (.z Yh9 s.items (.w (.ghost (.move 0)) (.l (Z1u s o) (Z6y s o h ih) [0, 2] [.s (li 0), .o (.arr true 5
 (o.map Yh9))] 0 (.t (.f [1] [.dead, .arr true 5 ((Yho s o).map Yh9)] (.sv (.one (.ref 1)))) .q)))))) (by
 dsimp only [Yhf, Z1p, Yhl, Z1u]
 have g4 := Yi9 s
 with_reducible repeat' (first | apply And.intro | exact zR | exact ih | (intro) | apply Z1)
 all_goals ((try simp only [std, inj] at *); with_reducible and_intros)
 all_goals try first | with_reducible (first | apply Z1 | apply ih) | (simp only [<- List.map_append]; with_reducible first | apply Z1 | apply ih)
 all_goals try first | exact z | grind [Ypp, Yhi, Yhh, Yhe])
theorem Z51 (s : YS) : ∀ (o : List YS) (h : o.length + Yhk s <= 2147483647 /\ wY s <= 1000000000), Z1p s o := YS.ind (P := fun s => ∀ (o : List YS) (h : o.length + Yhk s <= 2147483647 /\ wY s <= 1000000000), Z1p s o) (fun s ih o h => Zgq s o h ih) s
def Yst (C : List YC) (a : Nat) : List YS -> List YC
 | [] => C
 | x :: r => let O := Yst C a r; if 0 <= fnd C x /\ 0 < (C.getD (fnd C x).toNat default).depth then O.set (fnd C x).toNat ((C.getD (fnd C x).toNat default).each.getD a default) else O
def Yjr (C : List YC) (a : Nat) (I : List YS) (k : Nat) : List YC := Yst C a (I.take k).reverse
theorem Ysy (C : List YC) (a : Nat) : ∀ I, (Yst C a I).length = C.length
 | [] => rfl
 | x :: r => by simp only [Yst]; split <;> simp [Ysy C a r]
theorem Y18x {C : List YC} {a : Nat} {I : List YS} {k : Nat} (h : k < I.length) : Yjr C a I (k + 1) = if 0 <= fnd C (I.getD k default) /\ 0 < (C.getD (fnd C (I.getD k default)).toNat default).depth then (Yjr C a I k).set (fnd C (I.getD k default)).toNat ((C.getD (fnd C (I.getD k default)).toNat default).each.getD a default) else Yjr C a I k := by
 unfold Yjr; rw [Yhy h, List.reverse_append]; rfl
theorem Y1m8 {L : List YC} {k : Nat} {x : YC} : (L.map Yha).set k (Yhw x) = (L.set k x).map Yha := by rw [List.map_set, Ynl]
theorem Yub (s : YS) : Yhk s <= wY s + 1 := by
 refine YS.ind (P := fun s => Yhk s <= wY s + 1) (fun s ih => ?_) s
 have : ∀ L : List YS, (∀ x ∈ L, Yhk x <= wY x + 1) -> Yhb Yhk L <= L.length + Yhb wY L := by
  intro L
  induction L with
  | nil => intro _; simp [Yhb]
  | cons x r ihr =>
   intro h
   have h1 := h x List.mem_cons_self
   have h2 := ihr fun y hy => h y (List.mem_cons_of_mem _ hy)
   simp only [Yhb, List.length_cons]; omega
 have h1 := this s.items ih
 have h2 := Yj6 s
 rw [Yi9]; omega
abbrev Z8d (C : List YC) (t : YS) (a : Nat) : Ct := ⟨304, [], [ll (C.map Yha), Yhu t, li a], [], .sv (ll ((Yjr C a (Yho t []) (Yho t []).length).map Yha))⟩
def Z5n (C : List YC) (t : YS) (a : Nat) : Lp Nat := .mk 48 0 (fun x => [(0, ll (C.map Yha)), (2, li (a : Int)), (7, .one (.ref 0)), (16, .one
 (.ref 1)), (17, li (↑((Yho t []).map Yh9).length : Int)), (18, hs x 0)]) (fun x => [ho x 1, .arr true 5 ((Yho t []).map Yh9)]) (fun k => [.s (li (↑k :
 Int)), .o (.arr false 12 ((Yjr C a (Yho t []) k).map Yha))]) (fun k => k <= (Yho t []).length /\ (Yho t []).length <= 9223372036854775807) (fun k => (Yho t
 []).length - k) [.mk True (.exit 0) (fun x => [(7, .one (.ref 0))]) (fun x => [ho x 0]) [.o (.arr false 12 ((Yjr C a (Yho t []) (Yho t []).length).map Yha))]]
theorem Zez (C : List YC) (t : YS) (a : Nat) (h : C.length <= 1000000000 /\ wY t <= 1000000000 /\ a <= 1000000000) (hb : ∀ (x : YS), x ∈ Yho t [] -> 0 <= fnd C x -> 0
 < (C.getD (fnd C x).toNat default).depth -> a < (C.getD (fnd C x).toNat default).each.length) : Lp.Sem Tryz.prog (Yhp Tryz.f304 0) (Z5n C t a) := Yhz (fun k => .i ((↑k :
 Int) < (↑((Yho t []).map Yh9).length : Int)) (.p (0 <= (k : Int) /\ (k : Int).toNat < ((Yho t []).map Yh9).length) (.w (.cells (Yhg ((Yho t []).getD (↑k :
 Int).toNat default))) (.p (((Yho t []).map Yh9)[(k : Int).toNat]? = some (Yhg ((Yho t []).getD (k : Int).toNat default))) (.c [.rd, .rd] (Z5y C ((Yho t
 []).getD (k : Int).toNat default)) (.i (0 <= fnd C ((Yho t []).getD (k : Int).toNat default)) (.x (fnd C ((Yho t []).getD (k : Int).toNat default)) (C.map Yha)
 (Yhw (C.getD (fnd C ((Yho t []).getD (k : Int).toNat default)).toNat default)) (.i (0 < (C.getD (fnd C ((Yho t []).getD (k : Int).toNat default)).toNat default).depth)
 (.x (fnd C ((Yho t []).getD (k : Int).toNat default)) (C.map Yha) (Yhw (C.getD (fnd C ((Yho t []).getD (k : Int).toNat default)).toNat default)) (.x (a : Int)
 ((C.getD (fnd C ((Yho t []).getD (k : Int).toNat default)).toNat default).each.map Yha) (Yhw ((C.getD (fnd C ((Yho t []).getD (k : Int).toNat default)).toNat
 default).each.getD a default)) (.p (0 <= fnd C ((Yho t []).getD (k : Int).toNat default) /\ (fnd C ((Yho t []).getD (k : Int).toNat default)).toNat < ((Yjr C
 a (Yho t []) k).map Yha).length) (.w (.cells (Yhw ((Yjr C a (Yho t []) k).getD (fnd C ((Yho t []).getD (k : Int).toNat default)).toNat default))) (.p (((Yjr
 C a (Yho t []) k).map Yha)[(fnd C ((Yho t []).getD (k : Int).toNat default)).toNat]? = some (Yhw ((Yjr C a (Yho t []) k).getD (fnd C ((Yho t []).getD (k : Int).toNat
 default)).toNat default))) (.r ((k : Int) + 1) (.g [0, 1] (k + 1) [.s (li ((k : Int) + 1)), .o (.arr false 12 (((Yjr C a (Yho t []) k).map Yha).set (fnd C ((Yho
 t []).getD (k : Int).toNat default)).toNat (Yhw ((C.getD (fnd C ((Yho t []).getD (k : Int).toNat default)).toNat default).each.getD a default))))]))))))) (.r ((k : Int) +
 1) (.g [0, 1] (k + 1) [.s (li ((k : Int) + 1)), .o (.arr false 12 ((Yjr C a (Yho t []) k).map Yha))])))) (.y false (.r ((k : Int) + 1) (.g [0, 1] (k + 1) [.s (li
 ((k : Int) + 1)), .o (.arr false 12 ((Yjr C a (Yho t []) k).map Yha))])))))))) (.o 0 [0] [.o (.arr false 12 ((Yjr C a (Yho t []) k).map Yha))])) (by
 intro k h; try dsimp only [Yhf, Yhl, Z5n] at h ⊢
 have g1 := Yme C ((Yho t []).getD k default)
 have g2 := @Y18x C a (Yho t []) k
 have g3 : (Yjr C a (Yho t []) k).length = C.length := Ysy C a ((Yho t []).take k).reverse
 have g4 := hb ((Yho t []).getD k default)
 with_reducible repeat' (first | apply And.intro | exact zR | (intro) | apply Z51)
 all_goals ((try simp only [std, inj] at *); with_reducible and_intros)
 all_goals try with_reducible first | apply Z51
 all_goals try first | exact z | grind [Yhj, Y1m8, Yhi, Yhh, Yhe])
theorem Z3i (C : List YC) (t : YS) (a : Nat) (h : C.length <= 1000000000 /\ wY t <= 1000000000 /\ a <= 1000000000) (hb : ∀ x ∈ Yho t [], 0 <= fnd C x -> 0 < (C.getD (fnd C
 x).toNat default).depth -> a < (C.getD (fnd C x).toNat default).each.length)  : Z8d C t a := Yhq Tryz.call304 Tryz.func304 (.w (.bool true) (.p (∀ (e : List Cell), e ∈
 C.map Yha -> e.length = 12) (.p ((0 + (C.map Yha).length) * 192 <= 140737488355328) (.w (.bool false) (.d [.rd, .own true 5] (Z1p t []) (.z Yh9 (Yho t
 []) (.l (Z5n C t a) (Zez C t a h hb) [2, 5] [.s (li 0), .o (.arr false 12 (C.map Yha))] 0 (.t (.w (.ghost (.lock 0)) (.s (ll ((Yjr C
 a (Yho t []) (Yho t []).length).map Yha)))) .q)))))))) (by
 dsimp only [Yhf, Z8d, Yhl, Z5n]
 have g1 := Yx3 t []
 have g2 := Yub t
 have g5 : Yjr C a (Yho t []) 0 = C := rfl
 with_reducible repeat' (first | apply And.intro | exact zR | (intro) | apply Z51)
 all_goals ((try simp only [std, inj] at *); with_reducible and_intros)
 all_goals try with_reducible first | apply Z51
 all_goals (try exact zG))
abbrev Zx (t : YS) : Ct := ⟨257, [], [Yhu t], [], .sv (lb (Ykz t))⟩
def Z2h (t : YS) : Lp Nat := .mk 42 0 (fun x => [(1, .one (.ptr 0 0)), (6, ll (t.items.map Yh9)), (7, li (↑(t.items.map Yh9).length : Int)),
 (8, hs x 0)]) (fun x => [.box (vals (Yhg t))]) (fun k => [.s (li (k : Int))]) (fun k => k <= t.items.length /\ t.items.length <= 9223372036854775807 /\ Yik true t.items =
 Yik (Ylh t.items k) (t.items.drop k)) (fun k => t.items.length - k) [.mk (Yik true t.items = true) (.exit 0) (fun x => [(1, .one (.ptr 0 0))]) (fun x => [.box
 (vals (Yhg t))]) [], .mk (Yik true t.items = false) .ret (fun x => [(2, hs x 0)]) (fun x => []) [.s (lb false)]]
theorem Zap (t : YS) (ih : ∀ (z : YS), z ∈ t.items -> OK (Zx z)) : Lp.Sem Tryz.prog (Yhp Tryz.f257 0) (Z2h t) := Yhz (fun k => .i ((↑k :
 Int) < (↑(t.items.map Yh9).length : Int)) (.x (k : Int) (t.items.map Yh9) (Yhg (t.items.getD k default)) (.c [.rd] (Ze (t.items.getD k default)) (.b
 (Yhn (t.items.getD k default)) (.i ((k : Int) = 0) (.y true (.y true (.o 1 [] [.s (lb false)]))) (.r ((k : Int) - 1) (.x ((k : Int) - 1) (t.items.map Yh9) (Yhg
 (t.items.getD ((k : Int) - 1).toNat default)) (.c [.rd] (Ze (t.items.getD ((k : Int) - 1).toNat default)) (.b (Yhn (t.items.getD ((k : Int) - 1).toNat default)) (.y
 true (.o 1 [] [.s (lb false)])) (.c [.rd] (Ze (t.items.getD k default)) (.b (!Yhn (t.items.getD k default)) (.d [.rd] (Zx (t.items.getD k default)) (.b (!Ykz
 (t.items.getD k default)) (.o 1 [] [.s (lb false)]) (.r ((k : Int) + 1) (.g [0] (k + 1) [.s (li ((k : Int) + 1))])))) (.y false (.r ((k : Int) + 1) (.g [0] (k + 1) [.s (li ((↑k
 : Int) + 1))])))))))))) (.y false (.c [.rd] (Ze (t.items.getD k default)) (.b (!Yhn (t.items.getD k default)) (.d [.rd] (Zx (t.items.getD k default)) (.b (!Ykz
 (t.items.getD k default)) (.o 1 [] [.s (lb false)]) (.r ((k : Int) + 1) (.g [0] (k + 1) [.s (li ((k : Int) + 1))])))) (.y false (.r ((k : Int) + 1) (.g [0] (k + 1) [.s (li ((↑k
 : Int) + 1))]))))))))) (.o 0 [0] [])) (by
 intro k h; try dsimp only [Yhf, Yhl, Z2h] at h ⊢
 have g1 := @Yz1 t.items (Ylh t.items k) k
 have g2 := @Y114 t.items (Ylh t.items k) k
 have e : ((k : Int) - 1).toNat = k - 1 := by omega
 have g3 : Ylh t.items k = (decide (k = 0) || Yhn (t.items.getD (k - 1) default)) := rfl
 have g4 : Ylh t.items (k + 1) = Yhn (t.items.getD k default) := by simp [Ylh]
 with_reducible repeat' (first | apply And.intro | exact zR | exact ih | (intro) | apply ih)
 all_goals ((try simp only [std, inj] at *); with_reducible and_intros)
 all_goals try with_reducible first | apply ih
 all_goals try first | exact z | grind [Yhj, Yhi, Yhh, Yhe])
theorem Zdu (t : YS) (ih : ∀ z ∈ t.items, Zx z)  : Zx t := Yhq Tryz.call257 Tryz.func257 (.z Yh9 t.items (.l (Z2h t) (Zap t
 ih) [0] [.s (li 0)] 0 (.t (.c [.rd] (Ze t) (.s (lb !Yhn t))) (.t (.s (lb false)) .q)))) (by
 dsimp only [Yhf, Zx, Yhl, Z2h]
 have g1 := Yvn t
 have g2 : Ylh t.items 0 = true := rfl
 have g3 : t.items.drop 0 = t.items := rfl
 with_reducible repeat' (first | apply And.intro | exact zR | exact ih | (intro))
 all_goals ((try simp only [std, inj] at *); with_reducible and_intros)
 all_goals try with_reducible first | apply ih
 all_goals (try exact zG))
theorem Zfy (t : YS) : Zx t := YS.ind (P := fun t => Zx t) (fun t ih => Zdu t ih) t
def Yia (C : List YC) (x : YS) : YC := C.getD (fnd C x).toNat default
def rep (C : List YC) (x : YS) : Bool := decide (0 <= fnd C x) && decide (0 < (Yia C x).depth)
def cnN (C : List YC) (I : List YS) : Nat -> Int
 | 0 => -1
 | k + 1 => if rep C (I.getD k default) = true then ((Yia C (I.getD k default)).each.length : Int) else cnN C I k
def Ykk (C : List YC) (I : List YS) : Nat -> Bool
 | 0 => true
 | k + 1 => Ykk C I k && (!rep C (I.getD k default) || decide (cnN C I k < 0) || decide (cnN C I k = ((Yia C (I.getD k default)).each.length : Int)))
theorem Y17a (C : List YC) (I : List YS) : ∀ (m k : Nat), k <= m -> Ykk C I m = true -> Ykk C I k = true
 | 0, k, h, _ => by
  obtain rfl : k = 0 := by omega
  rfl
 | m + 1, k, h, ht => by
  by_cases e : k = m + 1
  ·rw [e]; exact ht
  ·refine Y17a C I m k (by omega) ?_
   simp only [Ykk, Bool.and_eq_true] at ht; exact ht.1
abbrev Z6z (C : List YC) (t : YS) : Ct := ⟨303, [], [ll (C.map Yha), Yhu t], [], .tup [li (if Ykk C (Yho t []) (Yho t []).length = true then cnN C (Yho t []) (Yho t []).length else 0), lb (Ykk C (Yho t []) (Yho t []).length && decide (0 <= cnN C (Yho t []) (Yho t []).length))]⟩
def Z3w (C : List YC) (t : YS) : Lp Nat := .mk 53 0 (fun x => [(0, ll (C.map Yha)), (6, hs x 1), (12, .one (.ref 0)), (13, li (↑(List.map Yh9
 (Yho t [])).length : Int)), (14, hs x 0)]) (fun x => [.arr true 5 ((Yho t []).map Yh9)]) (fun k => [.s (li (k : Int)), .s (li (cnN C (Yho t []) k))]) (fun k => k <=
 (Yho t []).length /\ (Yho t []).length <= 9223372036854775807 /\ Ykk C (Yho t []) k = true) (fun k => (Yho t []).length - k) [.mk (Ykk C (Yho t []) (Yho t []).length = true)
 (.exit 0) (fun x => [(6, hs x 0)]) (fun x => []) [.s (li (cnN C (Yho t []) (Yho t []).length))], .mk (Ykk C (Yho t []) (Yho t []).length = false) .ret (fun x => [(4, hs x 0),
 (5, hs x 1)]) (fun x => []) [.s (li 0), .s (lb false)]]
theorem Zd1 (C : List YC) (t : YS) (h : wY t <= 1000000000) : Lp.Sem Tryz.prog (Yhp Tryz.f303 0) (Z3w C t) := Yhz (fun k => .i ((k : Int) <
 (↑((Yho t []).map Yh9).length : Int)) (.p (0 <= (k : Int) /\ (k : Int).toNat < ((Yho t []).map Yh9).length) (.w (.cells (Yhg ((Yho t []).getD (↑k :
 Int).toNat default))) (.p (((Yho t []).map Yh9)[(k : Int).toNat]? = some (Yhg ((Yho t []).getD (k : Int).toNat default))) (.c [.rd, .rd] (Z5y C ((Yho t
 []).getD (k : Int).toNat default)) (.i (fnd C ((Yho t []).getD (k : Int).toNat default) < 0) (.y true (.r ((k : Int) + 1) (.g [0] (k + 1) [.s (li ((k : Int) + 1)), .s (li
 (cnN C (Yho t []) k))]))) (.x (fnd C ((Yho t []).getD (k : Int).toNat default)) (C.map Yha) (Yhw (C.getD (fnd C ((Yho t []).getD (k : Int).toNat
 default)).toNat default)) (.i ((C.getD (fnd C ((Yho t []).getD (k : Int).toNat default)).toNat default).depth <= 0) (.r ((k : Int) + 1) (.g [0] (k + 1) [.s (li ((k : Int) +
 1)), .s (li (cnN C (Yho t []) k))])) (.i (0 <= cnN C (Yho t []) k) (.x (fnd C ((Yho t []).getD (k : Int).toNat default)) (C.map Yha) (Yhw (C.getD (fnd C ((Yho t
 []).getD (k : Int).toNat default)).toNat default)) (.z Yha (C.getD (fnd C ((Yho t []).getD (k : Int).toNat default)).toNat default).each (.i (cnN C (Yho t []) k ≠
 (↑((C.getD (fnd C ((Yho t []).getD (k : Int).toNat default)).toNat default).each.map Yha).length : Int)) (.o 1 [] [.s (li 0), .s (lb false)]) (.x (fnd C ((Yho t
 []).getD (k : Int).toNat default)) (C.map Yha) (Yhw (C.getD (fnd C ((Yho t []).getD (k : Int).toNat default)).toNat default)) (.z Yha (C.getD (fnd C ((Yho
 t []).getD (k : Int).toNat default)).toNat default).each (.r ((k : Int) + 1) (.g [0] (k + 1) [.s (li ((k : Int) + 1)), .s (li (↑((C.getD (fnd C ((Yho t
 []).getD (k : Int).toNat default)).toNat default).each.map Yha).length : Int))]))))))) (.y false (.x (fnd C ((Yho t []).getD (k : Int).toNat default)) (C.map Yha) (Yhw
 (C.getD (fnd C ((Yho t []).getD (k : Int).toNat default)).toNat default)) (.z Yha (C.getD (fnd C ((Yho t []).getD (k : Int).toNat default)).toNat default).each (.r ((↑k :
 Int) + 1) (.g [0] (k + 1) [.s (li ((k : Int) + 1)), .s (li (↑((C.getD (fnd C ((Yho t []).getD (k : Int).toNat default)).toNat default).each.map Yha).length :
 Int))]))))))))))))) (.o 0 [] [.s (li (cnN C (Yho t []) k))])) (by
 intro k h; try dsimp only [Yhf, Yhl, Z3w] at h ⊢
 have g1 := Y17a C (Yho t []) (Yho t []).length (k + 1)
 have g2 : Ykk C (Yho t []) (k + 1) = (Ykk C (Yho t []) k && (!rep C ((Yho t []).getD k default) || decide (cnN C (Yho t []) k < 0) || decide (cnN C (Yho t []) k = ((Yia C ((Yho t []).getD k default)).each.length : Int)))) := rfl
 have g3 : cnN C (Yho t []) (k + 1) = if rep C ((Yho t []).getD k default) = true then ((Yia C ((Yho t []).getD k default)).each.length : Int) else cnN C (Yho t []) k := rfl
 have g4 := Yme C ((Yho t []).getD k default)
 have g5 : Yia C ((Yho t []).getD k default) = C.getD (fnd C ((Yho t []).getD k default)).toNat default := rfl
 have g6 : rep C ((Yho t []).getD k default) = (decide (0 <= fnd C ((Yho t []).getD k default)) && decide (0 < (Yia C ((Yho t []).getD k default)).depth)) := rfl
 with_reducible repeat' (first | apply And.intro | exact zR | (intro) | apply Z51)
 all_goals ((try simp only [std, inj] at *); with_reducible and_intros)
 all_goals try with_reducible first | apply Z51
 all_goals try first | exact z | grind [Yhj, Yhi, Yhh, Yhe])
theorem Z1k (C : List YC) (t : YS) (h : wY t <= 1000000000)  : Z6z C t := Yhq Tryz.call303 Tryz.func303 (.w (.bool false) (.d [.rd, .own true 5] (Z1p t
 []) (.z Yh9 (Yho t []) (.l (Z3w C t) (Zd1 C t h) [3] [.s (li 0), .s (li (-1 : Int))] 0 (.t (.f [] [] (.tup [li (cnN C (Yho t []) (Yho t []).length), lb
 (decide (0 <= cnN C (Yho t []) (Yho t []).length))])) (.t (.f [] [] (.tup [li 0, lb false])) .q)))))) (by
 dsimp only [Yhf, Z6z, Yhl, Z3w]
 have g1 := Yx3 t []
 have g2 := Yub t
 with_reducible repeat' (first | apply And.intro | exact zR | (intro) | apply Z51)
 all_goals ((try simp only [std, inj] at *); with_reducible and_intros)
 all_goals try with_reducible first | apply Z51
 all_goals try first | exact z | grind [cnN, Ykk, Yhi, Yhh, Yhe])
abbrev Zbi (L : List Int) (n : Int) : Ct := ⟨306, [], [ll (L.map Yhd), li n], [], .sv (lb (decide (n ∈ L)))⟩
def Z5o (L : List Int) (n : Int) : Lp Nat := .mk 17 0 (fun x => [(1, li n), (7, ll (L.map Yhd)), (8, li (↑(L.map Yhd).length : Int)), (9, hs x 0)]) (fun x => [])
 (fun k => [.s (li (k : Int))]) (fun k => k <= L.length /\ L.length <= 9223372036854775807 /\ decide (n ∈ L.take k) = false) (fun k => L.length - k) [.mk (decide (n ∈ L) = false)
 (.exit 0) (fun x => []) (fun x => []) [], .mk (decide (n ∈ L) = true) .ret (fun x => [(4, hs x 0)]) (fun x => []) [.s (lb true)]]
theorem Zf0 (L : List Int) (n : Int) : Lp.Sem Tryz.prog (Yhp Tryz.f306 0) (Z5o L n) := Yhz (fun k => .i ((k : Int) < (↑(L.map Yhd).length : Int)) (.x (↑k :
 Int) (L.map Yhd) [cI (L.getD k 0)] (.i (L.getD k 0 = n) (.o 1 [] [.s (lb true)]) (.r ((k : Int) + 1) (.g [] (k + 1) [.s (li ((k : Int) + 1))])))) (.o 0 [] [])) (by
 intro k h; try dsimp only [Yhf, Yhl, Z5o] at h ⊢
 with_reducible repeat' (first | apply And.intro | exact zR | (intro))
 all_goals ((try simp only [std, inj] at *); with_reducible and_intros)
 all_goals try first | exact z | grind [Yhy, Yhj, Yhi, Yhh, Yhe])
theorem Ze6 (L : List Int) (n : Int)  : Zbi L n := Yhq Tryz.call306 Tryz.func306 (.z Yhd L (.l (Z5o L n) (Zf0 L n) [] [.s (li 0)] 0 (.t (.s (lb false)) (.t
 (.s (lb true)) .q)))) (by
 dsimp only [Yhf, Zbi, Yhl, Z5o]
 exact zV)
mutual
/-- the places of the captures of more than one form that a template names, each once -/
def rpi (C : List YC) : YS -> List Int -> List Int
 | ⟨k, n, t, s, l⟩, o => Y12d C l (if k = 1 /\ rep C ⟨k, n, t, s, l⟩ = true /\ fnd C ⟨k, n, t, s, l⟩ ∉ o then o ++ [fnd C ⟨k, n, t, s, l⟩] else o)
def Y12d (C : List YC) : List YS -> List Int -> List Int
 | [], o => o
 | x :: r, o => Y12d C r (rpi C x o)
end
theorem Y17x (C : List YC) : ∀ (l : List YS) (o : List Int), Y12d C l o = l.foldl (fun o x => rpi C x o) o
 | [], _ => by rw [Y12d]; rfl
 | x :: r, o => by rw [Y12d, Y17x C r]; rfl
def Yps (C : List YC) (t : YS) (o : List Int) : List Int := if t.kind = 1 /\ rep C t = true /\ fnd C t ∉ o then o ++ [fnd C t] else o
theorem Y15w (C : List YC) (t : YS) (o : List Int) : rpi C t o = t.items.foldl (fun o x => rpi C x o) (Yps C t o) := by cases t; simp only [rpi, Y17x, Yps]
theorem Y168 (C : List YC) (t : YS) (o : List Int) : (Yps C t o).length <= o.length + 1 := by unfold Yps; split <;> simp
theorem Yzh (C : List YC) : ∀ (L : List YS), (∀ x ∈ L, ∀ o, (rpi C x o).length <= o.length + Yhk x) -> ∀ o, (L.foldl (fun o x => rpi C x o) o).length <= o.length + Yhb Yhk L
 | [], _, o => by simp [Yhb]
 | x :: r, h, o => by
  have h1 := h x List.mem_cons_self o
  have h2 := Yzh C r (fun y hy => h y (List.mem_cons_of_mem _ hy)) (rpi C x o)
  simp only [List.foldl_cons, Yhb]; omega
theorem Y18g (C : List YC) : ∀ (t : YS) (o : List Int), (rpi C t o).length <= o.length + Yhk t := by
 refine YS.ind fun t ih o => ?_
 have h1 := Yzh C t.items ih (Yps C t o)
 have h2 := Y168 C t o
 rw [Y15w, Yi9]; omega
abbrev Z27 (t : YS) (C : List YC) (o : List Int) : Ct := ⟨305, [.arr true 1 (o.map Yhd)], [Yhu t, ll (C.map Yha), .one (.ref 0)], [.dead, .arr true 1 ((rpi C t o).map Yhd)], .sv (.one (.ref 1))⟩
def Z1e (t : YS) (C : List YC) (o : List Int) : Lp Nat := .mk 46 1 (fun x => [(1, ll (C.map Yha)), (2, .one (.ref 1)), (34, ll (List.map Yh9
 t.items)), (35, li (↑(t.items.map Yh9).length : Int)), (36, hs x 0)]) (fun x => [.dead, ho x 1]) (fun k => [.s (li (k : Int)), .o (.arr true 1 (List.map Yhd
 (List.foldl (fun o x => rpi C x o) (Yps C t o) (t.items.take k))))]) (fun k => k <= t.items.length /\ t.items.length <= 9223372036854775807) (fun k => t.items.length - k) [.mk
 True (.exit 0) (fun x => [(2, .one (.ref 1))]) (fun x => [.dead, ho x 0]) [.o (.arr true 1 ((rpi C t o).map Yhd))]]
theorem Z4r (t : YS) (C : List YC) (o : List Int) (h : o.length + Yhk t <= 2147483647) (ih : ∀ (z : YS), z ∈ t.items -> ∀ (C : List YC) (o : List Int),
 o.length + Yhk z <= 2147483647 -> OK (Z27 z C o)) : Lp.Sem Tryz.prog (Yhp Tryz.f305 0) (Z1e t C o) := Yhz (fun k => .i ((k : Int) < (↑(List.map Yh9
 t.items).length : Int)) (.x (k : Int) (t.items.map Yh9) (Yhg (t.items.getD k default)) (.d [.rd, .rd, .own true 1] (Z27 (t.items.getD k default) C (List.foldl
 (fun o x => rpi C x o) (Yps C t o) (t.items.take k))) (.r ((k : Int) + 1) (.g [0, 4] (k + 1) [.s (li ((k : Int) + 1)), .o (.arr true 1 ((rpi C
 (t.items.getD k default) (List.foldl (fun o x => rpi C x o) (Yps C t o) (t.items.take k))).map Yhd))])))) (.o 0 [0, 1] [.o (.arr true 1 ((List.foldl (fun o x => rpi
 C x o) (Yps C t o) (t.items.take k)).map Yhd))])) (by
 intro k h; try dsimp only [Yhf, Yhl, Z1e] at h ⊢
 have g1 := Yzh C (t.items.take k) (fun x _ o => Y18g C x o) (Yps C t o)
 have g2 := Y168 C t o
 have g3 := @Yl0 t k
 with_reducible repeat' (first | apply And.intro | exact zR | exact ih | (intro) | apply ih)
 all_goals ((try simp only [std, inj] at *); with_reducible and_intros)
 all_goals try with_reducible first | apply ih
 all_goals try first | exact z | grind [Y15w, Ynb, Yhj, Yhi, Yhh, Yhe])
theorem Zgr (t : YS) (C : List YC) (o : List Int) (h : o.length + Yhk t <= 2147483647) (ih : ∀ z ∈ t.items, ∀ (C : List YC) (o : List Int) (h : o.length + Yhk
 z <= 2147483647), Z27 z C o)  : Z27 t C o := Yhq Tryz.call305 Tryz.func305 (.c [.rd, .rd] (Z90 C t) (.i (0 <= if t.kind = 1 then fnd C t else (-1 : Int)) (.x (if t.kind
 = 1 then fnd C t else (-1 : Int)) (C.map Yha) (Yhw (C.getD (if t.kind = 1 then fnd C t else (-1 : Int)).toNat default)) (.i (0 < (C.getD (if t.kind = 1 then fnd C t
 else (-1 : Int)).toNat default).depth) (.c [.rd, .rd] (Ze6 o (if t.kind = 1 then fnd C t else (-1 : Int))) (.b (!decide ((if t.kind = 1 then fnd C t else (-1 : Int)) ∈ o)) (.p
 (((o.map Yhd).length + 1) * 8 <= 140737488355328) (.z Yh9 t.items (.l (Z1e t C o) (Z4r t C o h ih) [0, 3] [.s (li 0), .o (.arr true 1 (o.map Yhd
 ++ [[cI (if t.kind = 1 then fnd C t else (-1 : Int))]]))] 0 (.t (.f [1] [.dead, .arr true 1 ((rpi C t o).map Yhd)] (.sv (.one (.ref 1)))) .q)))) (.z Yh9
 t.items (.w (.ghost (.move 0)) (.l (Z1e t C o) (Z4r t C o h ih) [0, 2] [.s (li 0), .o (.arr true 1 (o.map Yhd))] 0 (.t (.f [1] [.dead, .arr true 1
 ((rpi C t o).map Yhd)] (.sv (.one (.ref 1)))) .q)))))) (.y false (.z Yh9 t.items (.w (.ghost (.move 0)) (.l (Z1e t C o) (Z4r t C o h ih) [0, 2] [.s
 (li 0), .o (.arr true 1 (o.map Yhd))] 0 (.t (.f [1] [.dead, .arr true 1 ((rpi C t o).map Yhd)] (.sv (.one (.ref 1)))) .q))))))) (.y false (.y false (.z
 Yh9 t.items (.w (.ghost (.move 0)) (.l (Z1e t C o) (Z4r t C o h ih) [0, 2] [.s (li 0), .o (.arr true 1 (o.map Yhd))] 0 (.t (.f [1] [.dead, .arr
 true 1 ((rpi C t o).map Yhd)] (.sv (.one (.ref 1)))) .q)))))))) (by
 dsimp only [Yhf, Z27, Yhl, Z1e]
 have g1 := Yme C t
 have g2 := Yi9 t
 have g3 : rep C t = (decide (0 <= fnd C t) && decide (0 < (Yia C t).depth)) := rfl
 have g4 : Yia C t = C.getD (fnd C t).toNat default := rfl
 with_reducible repeat' (first | apply And.intro | exact zR | exact ih | (intro))
 all_goals ((try simp only [std, inj] at *); with_reducible and_intros)
 all_goals try first | with_reducible (first | apply ih) | (simp only [<- List.map_append]; with_reducible first | apply ih)
 all_goals try first | exact z | grind [Yps, Yhi, Yhh, Yhe])
theorem Z1q (t : YS) : ∀ (C : List YC) (o : List Int) (h : o.length + Yhk t <= 2147483647), Z27 t C o := YS.ind (P := fun t => ∀ (C : List YC) (o : List Int) (h : o.length + Yhk t <= 2147483647), Z27 t C o) (fun t ih C o h => Zgr t C o h ih) t
def itr (f : Nat -> Int -> YS × Bool × Int) : Nat -> Int -> List YS -> List YS × Bool × Int
 | 0, m, O => (O, true, m)
 | k + 1, m, O => let p := itr f k m O; if p.2.1 = true then (p.1 ++ [(f k p.2.2).1], (f k p.2.2).2.1, (f k p.2.2).2.2) else p
def zY : YS := ⟨0, 0, mkS [], [], []⟩
mutual
/-- what the reference builds of a template: the form, whether all went well, the nodes that are left -/
def bld : YS -> List YC -> Int -> YS × Bool × Int
  | ⟨k, n, x, s, l⟩, C, m => if m - 1 < 0 then (zY, false, m - 1) else if k = 1 then
      (if Yhn ⟨k, n, x, s, l⟩ = true ∨ fnd C ⟨k, n, x, s, l⟩ < 0 then (⟨k, n, x, s, l⟩, !Yhn ⟨k, n, x, s, l⟩, m - 1)
       else if (Yia C ⟨k, n, x, s, l⟩).depth ≠ 0 then (zY, false, m)
       else if (Yhk (Yia C ⟨k, n, x, s, l⟩).form : Int) <= m then ((Yia C ⟨k, n, x, s, l⟩).form, true, max (m - Yhk (Yia C ⟨k, n, x, s, l⟩).form) (-1))
       else (zY, false, max (m - Yhk (Yia C ⟨k, n, x, s, l⟩).form) (-1)))
    else if (Yim l C (m - 1) []).2.1 = true then (⟨k, n, x, [], (Yim l C (m - 1) []).1⟩, true, (Yim l C (m - 1) []).2.2) else (zY, false, (Yim l C (m - 1) []).2.2)
def Yim : List YS -> List YC -> Int -> List YS -> List YS × Bool × Int
  | [], _, m, O => (O, true, m)
  | [x], C, m, O => if (bld x C m).2.1 = true then (O ++ [(bld x C m).1], true, (bld x C m).2.2) else (O, false, (bld x C m).2.2)
  | x :: y :: r, C, m, O => if Yhn y = true then
      (if (Ykk C (Yho x []) (Yho x []).length && decide (0 <= cnN C (Yho x []) (Yho x []).length)) = true then
        (if (itr (fun j m => bld x (Yjr C j (Yho x []) (Yho x []).length) m) (cnN C (Yho x []) (Yho x []).length).toNat m O).2.1 = true then
          Yim r C (itr (fun j m => bld x (Yjr C j (Yho x []) (Yho x []).length) m) (cnN C (Yho x []) (Yho x []).length).toNat m O).2.2 (itr (fun j m => bld x (Yjr C j (Yho x []) (Yho x []).length) m) (cnN C (Yho x []) (Yho x []).length).toNat m O).1
         else itr (fun j m => bld x (Yjr C j (Yho x []) (Yho x []).length) m) (cnN C (Yho x []) (Yho x []).length).toNat m O)
       else (O, false, m))
    else if (bld x C m).2.1 = true then Yim (y :: r) C (bld x C m).2.2 (O ++ [(bld x C m).1]) else (O, false, (bld x C m).2.2)
end
mutual
/-- the greatest form or number of rounds in a capture -/
def mxP : YC -> Nat
 | ⟨_, _, f, e⟩ => max (wY f) (max e.length (Ysu e))
def Ysu : List YC -> Nat
 | [] => 0
 | x :: r => max (mxP x) (Ysu r)
end
theorem Yug (x : YC) : mxP x = max (wY x.form) (max x.each.length (Ysu x.each)) := by cases x; simp only [mxP]
theorem Y12l : ∀ {l : List YC} {x : YC}, x ∈ l -> mxP x <= Ysu l
 | y :: r, x, h => by
  rw [Ysu]
  rcases List.mem_cons.1 h with rfl | h
  ·omega
  ·have := Y12l h; omega
theorem Y174 {m : Nat} : ∀ {l : List YC}, (∀ x ∈ l, mxP x <= m) -> Ysu l <= m
 | [], _ => by simp [Ysu]
 | x :: r, h => by
  have h1 := h x List.mem_cons_self
  have h2 := Y174 fun y hy => h y (List.mem_cons_of_mem _ hy)
  rw [Ysu]; omega
def cnB (C : List YC) (x : YS) : Bool := Ykk C (Yho x []) (Yho x []).length && decide (0 <= cnN C (Yho x []) (Yho x []).length)
abbrev bN (C : List YC) (x : YS) : Nat := (cnN C (Yho x []) (Yho x []).length).toNat
abbrev Ytb (C : List YC) (x : YS) (j : Nat) : List YC := Yjr C j (Yho x []) (Yho x []).length
def bI (C : List YC) (x : YS) (j : Nat) (q : Int) (O : List YS) : List YS × Bool × Int := itr (fun j q => bld x (Ytb C x j) q) j q O
def bJ (C : List YC) (x : YS) (j : Nat) (q : Int) (O : List YS) : List YS × Bool × Int := if cnB C x = true then bI C x j q O else (O, false, q)
def bR (C : List YC) (x : YS) (q : Int) (O : List YS) : List YS × Bool × Int := bJ C x (bN C x) q O
theorem Yng (t : YS) (C : List YC) (q : Int) : bld t C q = if q - 1 < 0 then (zY, false, q - 1) else if t.kind = 1 then
      (if Yhn t = true ∨ fnd C t < 0 then (t, !Yhn t, q - 1)
       else if (Yia C t).depth ≠ 0 then (zY, false, q)
       else if (Yhk (Yia C t).form : Int) <= q then ((Yia C t).form, true, max (q - Yhk (Yia C t).form) (-1))
       else (zY, false, max (q - Yhk (Yia C t).form) (-1)))
    else if (Yim t.items C (q - 1) []).2.1 = true then (⟨t.kind, t.number, t.text, [], (Yim t.items C (q - 1) []).1⟩, true, (Yim t.items C (q - 1) []).2.2) else (zY, false, (Yim t.items C (q - 1) []).2.2) := by
  cases t; rw [bld]
theorem Yp1 (C : List YC) (q : Int) (O : List YS) : Yim [] C q O = (O, true, q) := by rw [Yim]
theorem Ysj (x : YS) (C : List YC) (q : Int) (O : List YS) : Yim [x] C q O = if (bld x C q).2.1 = true then Yim [] C (bld x C q).2.2 (O ++ [(bld x C q).1]) else (O, false, (bld x C q).2.2) := by
 rw [Yp1, Yim]
theorem Ypi (x y : YS) (r : List YS) (C : List YC) (q : Int) (O : List YS) : Yim (x :: y :: r) C q O = if Yhn y = true then (if (bR C x q O).2.1 = true then Yim r C (bR C x q O).2.2 (bR C x q O).1 else bR C x q O)
  else if (bld x C q).2.1 = true then Yim (y :: r) C (bld x C q).2.2 (O ++ [(bld x C q).1]) else (O, false, (bld x C q).2.2) := by
 rw [Yim]
 split
 ·unfold bR bJ cnB
  split
  ·rfl
  ·rfl
 ·rfl
theorem Y1fd {l : List YS} {k : Nat} {C : List YC} {q : Int} {O : List YS} (h : l.length <= k) : Yim (l.drop k) C q O = (O, true, q) := by
 rw [List.drop_eq_nil_of_le h, Yp1]
theorem Yxq {l : List YS} {k : Nat} {C : List YC} {q : Int} {O : List YS} (h : k < l.length) (hd : l.length <= k + 1 ∨ Yhn (l.getD (k + 1) default) = false) :
  Yim (l.drop k) C q O = if (bld (l.getD k default) C q).2.1 = true then Yim (l.drop (k + 1)) C (bld (l.getD k default) C q).2.2 (O ++ [(bld (l.getD k default) C q).1]) else (O, false, (bld (l.getD k default) C q).2.2) := by
 rw [Yiu h]
 rcases Nat.lt_or_ge (k + 1) l.length with h1 | h1
 ·rw [Yiu h1, Ypi, if_neg (by rcases hd with h2 | h2 <;> first | (exfalso; omega) | (rw [h2]; decide))]
 ·rw [List.drop_eq_nil_of_le h1, Ysj]
theorem Y11a {l : List YS} {k : Nat} {C : List YC} {q : Int} {O : List YS} (h : k + 1 < l.length) (hd : Yhn (l.getD (k + 1) default) = true) :
  Yim (l.drop k) C q O = if (bR C (l.getD k default) q O).2.1 = true then Yim (l.drop (k + 1 + 1)) C (bR C (l.getD k default) q O).2.2 (bR C (l.getD k default) q O).1 else bR C (l.getD k default) q O := by
 rw [Yiu (by omega : k < l.length), Yiu h, Ypi, if_pos hd]
theorem Yuv {f : Nat -> Int -> YS × Bool × Int} (hf : ∀ j q, 0 <= q -> (f j q).2.1 = true -> 0 <= (f j q).2.2 /\ (f j q).2.2 + 1 <= q) : ∀ (j : Nat) (q : Int) (O : List YS), 0 <= q -> (itr f j q O).2.1 = true -> 0 <= (itr f j q O).2.2 /\ ((itr f j q O).1.length : Int) + (itr f j q O).2.2 <= O.length + q
 | 0, q, O, h0, _ => by simp only [itr]; omega
 | j + 1, q, O, h0, h => by
  have ih := Yuv hf j q O h0
  simp only [itr] at h ⊢
  by_cases e : (itr f j q O).2.1 = true
  ·rw [if_pos e] at h ⊢
   have h1 := ih e
   have h2 := hf j _ h1.1 h
   simp only [List.length_append, List.length_singleton]; omega
  ·rw [if_neg e] at h; exact absurd h e
theorem Yp7 (f : Nat -> Int -> YS × Bool × Int) (j : Nat) (q : Int) (O : List YS) (h : (itr f j q O).2.1 = true) : itr f (j + 1) q O = ((itr f j q O).1 ++ [(f j (itr f j q O).2.2).1], (f j (itr f j q O).2.2).2.1, (f j (itr f j q O).2.2).2.2) := by
 rw [itr, if_pos h]
theorem Ywr (f : Nat -> Int -> YS × Bool × Int) (j : Nat) (q : Int) (O : List YS) (h : (itr f j q O).2.1 = false) : ∀ n, j <= n -> itr f n q O = itr f j q O
  | 0, hn => by obtain rfl : j = 0 := by omega
                rfl
  | n + 1, hn => by
    by_cases e : j = n + 1
    · rw [e]
    · have := Ywr f j q O h n (by omega)
      rw [itr, this, h]; rfl
theorem Yvh : ∀ (l : List YS), (∀ x ∈ l, ∀ C q, 0 <= q -> (bld x C q).2.1 = true -> 0 <= (bld x C q).2.2 /\ (bld x C q).2.2 + 1 <= q) -> ∀ C q O, 0 <= q -> (Yim l C q O).2.1 = true -> 0 <= (Yim l C q O).2.2 /\ ((Yim l C q O).1.length : Int) + (Yim l C q O).2.2 <= O.length + q
 | [], _, C, q, O, h0, _ => by rw [Yp1]; simp only; omega
 | [x], hx, C, q, O, h0, h => by
  rw [Ysj] at h ⊢
  by_cases e : (bld x C q).2.1 = true
  ·rw [if_pos e] at h ⊢
   have h1 := hx x List.mem_cons_self C q h0 e
   have h2 := Yvh [] (fun _ h => by cases h) C _ (O ++ [(bld x C q).1]) h1.1 h
   simp only [List.length_append, List.length_singleton] at h2; omega
  ·rw [if_neg e] at h; cases h
 | x :: y :: r, hx, C, q, O, h0, h => by
  rw [Ypi] at h ⊢
  by_cases d : Yhn y = true
  ·rw [if_pos d] at h ⊢
   by_cases e : (bR C x q O).2.1 = true
   ·rw [if_pos e] at h ⊢
    have h1 : 0 <= (bR C x q O).2.2 /\ ((bR C x q O).1.length : Int) + (bR C x q O).2.2 <= O.length + q := by
     unfold bR bJ at e ⊢
     by_cases c : cnB C x = true
     ·rw [if_pos c] at e ⊢
      exact Yuv (fun j q => hx x List.mem_cons_self _ q) _ q O h0 e
     ·rw [if_neg c] at e; cases e
    have h2 := Yvh r (fun z hz => hx z (List.mem_cons_of_mem _ (List.mem_cons_of_mem _ hz))) C _ (bR C x q O).1 h1.1 h
    omega
   ·rw [if_neg e] at h; exact absurd h e
  ·rw [if_neg d] at h ⊢
   by_cases e : (bld x C q).2.1 = true
   ·rw [if_pos e] at h ⊢
    have h1 := hx x List.mem_cons_self C q h0 e
    have h2 := Yvh (y :: r) (fun z hz => hx z (List.mem_cons_of_mem _ hz)) C _ (O ++ [(bld x C q).1]) h1.1 h
    simp only [List.length_append, List.length_singleton] at h2; omega
   ·rw [if_neg e] at h; cases h
theorem Y1c9 : ∀ (t : YS) (C : List YC) (q : Int), 0 <= q -> (bld t C q).2.1 = true -> 0 <= (bld t C q).2.2 /\ (bld t C q).2.2 + 1 <= q := by
 refine YS.ind fun t ih C q h0 h => ?_
 have h3 := Yi9 (Yia C t).form
 rw [Yng] at h ⊢
 by_cases c1 : q - 1 < 0
 ·rw [if_pos c1] at h; cases h
 rw [if_neg c1] at h ⊢
 by_cases c2 : t.kind = 1
 ·rw [if_pos c2] at h ⊢
  by_cases c3 : Yhn t = true ∨ fnd C t < 0
  ·rw [if_pos c3]; simp only; omega
  ·rw [if_neg c3] at h ⊢
   by_cases c4 : (Yia C t).depth ≠ 0
   ·rw [if_pos c4] at h; cases h
   ·rw [if_neg c4] at h ⊢
    by_cases c5 : (Yhk (Yia C t).form : Int) <= q
    ·rw [if_pos c5]; simp only; omega
    ·rw [if_neg c5] at h; cases h
 ·rw [if_neg c2] at h ⊢
  by_cases c6 : (Yim t.items C (q - 1) []).2.1 = true
  ·rw [if_pos c6]
   have := Yvh t.items ih C (q - 1) [] (by omega) c6
   simp only [List.length_nil] at this ⊢; omega
  ·rw [if_neg c6] at h; cases h
theorem Y1gf (C : List YC) (x : YS) (j : Nat) (q : Int) (O : List YS) (h0 : 0 <= q) (h : (bI C x j q O).2.1 = true) : 0 <= (bI C x j q O).2.2 /\ ((bI C x j q O).1.length : Int) + (bI C x j q O).2.2 <= O.length + q :=
 Yuv (fun j q => Y1c9 x _ q) j q O h0 h
theorem Y122 (C : List YC) (x : YS) (j : Nat) (q : Int) (O : List YS) (h0 : 0 <= q) (h : (bJ C x j q O).2.1 = true) : 0 <= (bJ C x j q O).2.2 /\ ((bJ C x j q O).1.length : Int) + (bJ C x j q O).2.2 <= O.length + q /\ cnB C x = true := by
 unfold bJ at h ⊢
 by_cases c : cnB C x = true
 ·rw [if_pos c] at h ⊢; exact ⟨(Y1gf C x j q O h0 h).1, (Y1gf C x j q O h0 h).2, c⟩
 ·rw [if_neg c] at h; cases h
theorem Yz6 (C : List YC) (x : YS) (q : Int) (O : List YS) : bJ C x 0 q O = (O, cnB C x, q) := by
 unfold bJ bI itr
 cases h : cnB C x <;> simp
theorem Y1hh (C : List YC) (x : YS) (j : Nat) (q : Int) (O : List YS) (h : (bJ C x j q O).2.1 = true) : bJ C x (j + 1) q O = ((bJ C x j q O).1 ++ [(bld x (Ytb C x j) (bJ C x j q O).2.2).1], (bld x (Ytb C x j) (bJ C x j q O).2.2).2.1, (bld x (Ytb C x j) (bJ C x j q O).2.2).2.2) := by
 unfold bJ at h ⊢
 by_cases c : cnB C x = true
 ·simp only [if_pos c] at h ⊢; exact Yp7 _ j q O h
 ·rw [if_neg c] at h; cases h
theorem Y1hg (C : List YC) (x : YS) (j : Nat) (q : Int) (O : List YS) (h : (bJ C x j q O).2.1 = false) (hn : j <= bN C x) : bR C x q O = bJ C x j q O := by
 unfold bR bJ at *
 by_cases c : cnB C x = true
 ·simp only [if_pos c] at h ⊢; exact Ywr _ j q O h _ hn
 ·rw [if_neg c, if_neg c]
theorem Y1km (C : List YC) (x : YS) (j : Nat) (q : Int) (O : List YS) (hn : j = bN C x) : bR C x q O = bJ C x j q O := by rw [hn]; rfl
theorem Yxy {C : List YC} {I : List YS} : ∀ (m j : Nat), j < m -> Ykk C I m = true -> rep C (I.getD j default) = true -> ((Yia C (I.getD j default)).each.length : Int) = cnN C I m
 | 0, j, h, _, _ => by omega
 | m + 1, j, h, ht, hr => by
  simp only [Ykk, Bool.and_eq_true, Bool.or_eq_true, Bool.not_eq_true', decide_eq_true_eq] at ht
  simp only [cnN]
  by_cases e : j = m
  ·subst e; rw [if_pos hr]
  ·have ih := Yxy m j (by omega) ht.1 hr
   split
   ·rename_i h2
    rcases ht.2 with (h3 | h3) | h3
    ·rw [h2] at h3; cases h3
    ·omega
    ·omega
   ·exact ih
theorem Y15l {C : List YC} {x : YS} (h : cnB C x = true) {y : YS} (hy : y ∈ Yho x []) (h1 : 0 <= fnd C y) (h2 : 0 < (C.getD (fnd C y).toNat default).depth) : (C.getD (fnd C y).toNat default).each.length = bN C x := by
 simp only [cnB, Bool.and_eq_true, decide_eq_true_eq] at h
 obtain ⟨j, hj, rfl⟩ := List.getElem_of_mem hy
 have e : (Yho x [])[j] = (Yho x []).getD j default := by simp [hj]
 rw [e] at h1 h2 ⊢
 have := Yxy (Yho x []).length j hj h.1 (by simp only [rep, Yia, Bool.and_eq_true]; exact ⟨by first | exact h1 | exact decide_eq_true h1, by first | exact h2 | exact decide_eq_true h2⟩)
 simp only [Yia] at this
 simp only [bN]; omega
theorem Y1b4 {C : List YC} (hC : ∀ z ∈ C, mxP z <= 1000000000) (i a : Nat) : mxP ((C.getD i default).each.getD a default) <= 1000000000 := by
 have h0 : mxP (default : YC) = 0 := rfl
 rcases Nat.lt_or_ge a (C.getD i default).each.length with h1 | h1
 ·have h2 := Y12l (Yhj h1)
  have h3 := Yug (C.getD i default)
  rcases Nat.lt_or_ge i C.length with h4 | h4
  ·have := hC _ (Yhj h4); omega
  ·have e : C.getD i default = default := by simp [h4]
   have e2 : (default : YC).each.length = 0 := rfl
   rw [e, e2] at h1; omega
 ·have e : (C.getD i default).each.getD a default = default := by rw [List.getD_eq_getElem?_getD, List.getElem?_eq_none h1]; rfl
  rw [e, h0]; omega
theorem Y145 {C : List YC} (hC : ∀ z ∈ C, mxP z <= 1000000000) (a : Nat) : ∀ I, ∀ z ∈ Yst C a I, mxP z <= 1000000000
 | [], z, h => hC z h
 | x :: r, z, h => by
  simp only [Yst] at h
  split at h
  ·rcases List.mem_or_eq_of_mem_set h with h | h
   ·exact Y145 hC a r z h
   ·rw [h]; exact Y1b4 hC _ _
  ·exact Y145 hC a r z h
theorem Y1is {C : List YC} (hC : ∀ z ∈ C, mxP z <= 1000000000) (x : YS) (j : Nat) : ∀ z ∈ Ytb C x j, mxP z <= 1000000000 := Y145 hC j _
theorem Y137 (C : List YC) (x : YS) (j : Nat) : (Ytb C x j).length = C.length := Ysy C j _
theorem Yzf {C : List YC} (hC : ∀ z ∈ C, mxP z <= 1000000000) {t : YS} (h : 0 <= fnd C t) : wY (Yia C t).form <= 1000000000 := by
 have h1 := Yme C t
 have h2 := hC (Yia C t) (Yhj (by omega))
 have h3 := Yug (Yia C t)
 omega
def lnI (C : List YC) (i : Int) : Int := ((C.getD i.toNat default).each.length : Int)
abbrev rpX (C : List YC) (x : YS) : List Int := rpi C x []
def rqA (C : List YC) (I : List Int) (n : Int) : Bool := I.all fun i => decide (lnI C i = n)
def rqB (C : List YC) (x : YS) : Bool := !decide ((rpX C x).length = 0) && rqA C (rpX C x) (lnI C ((rpX C x).getD 0 default))
abbrev rqN (C : List YC) (x : YS) : Nat := (C.getD ((rpX C x).getD 0 default).toNat default).each.length
def Ylz (C : List YC) (a : Nat) (I : List Int) : List YC := I.foldl (fun O i => O.set i.toNat ((C.getD i.toNat default).each.getD a default)) C
abbrev stq (C : List YC) (x : YS) (a : Nat) : List YC := Ylz C a (rpX C x)
theorem Y14b (C : List YC) (a : Nat) (I : List Int) : (Ylz C a I).length = C.length := by
 have : ∀ (I : List Int) (O : List YC), (I.foldl (fun O i => O.set i.toNat ((C.getD i.toNat default).each.getD a default)) O).length = O.length := by
  intro I
  induction I with
  | nil => intro O; rfl
  | cons x r ih => intro O; rw [List.foldl_cons, ih, List.length_set]
 exact this I C
theorem Y1dp {C : List YC} {a : Nat} {I : List Int} {k : Nat} (h : k < I.length) : Ylz C a (I.take (k + 1)) = (Ylz C a (I.take k)).set (I.getD k default).toNat ((C.getD (I.getD k default).toNat default).each.getD a default) := by
 unfold Ylz; rw [Ynb _ _ h]
mutual
/-- what the program builds of a template: the form, whether all went well, the nodes that are left -/
def bli : YS -> List YC -> Int -> YS × Bool × Int
  | ⟨k, n, x, s, l⟩, C, m => if k = 1 /\ 0 <= fnd C ⟨k, n, x, s, l⟩ then
      (if (Yia C ⟨k, n, x, s, l⟩).depth ≠ 0 then (zY, false, m)
       else if Yi2 (Yia C ⟨k, n, x, s, l⟩).form = true then ((Yia C ⟨k, n, x, s, l⟩).form, decide (0 <= m - Yhk (Yia C ⟨k, n, x, s, l⟩).form), m - Yhk (Yia C ⟨k, n, x, s, l⟩).form)
       else (zY, false, m))
    else if m - 1 < 0 then (zY, false, m - 1)
    else if (Yic l C (m - 1) []).2.1 = true then (⟨k, n, x, s, (Yic l C (m - 1) []).1⟩, true, (Yic l C (m - 1) []).2.2) else (zY, false, (Yic l C (m - 1) []).2.2)
def Yic : List YS -> List YC -> Int -> List YS -> List YS × Bool × Int
  | [], _, m, O => (O, true, m)
  | [x], C, m, O => if (bli x C m).2.1 = true then (O ++ [(bli x C m).1], true, (bli x C m).2.2) else (O, false, (bli x C m).2.2)
  | x :: y :: r, C, m, O => if Yhn y = true then
      (if rqB C x = true then
        (if (itr (fun j m => bli x (stq C x j) m) (rqN C x) m O).2.1 = true then
          Yic r C (itr (fun j m => bli x (stq C x j) m) (rqN C x) m O).2.2 (itr (fun j m => bli x (stq C x j) m) (rqN C x) m O).1
         else itr (fun j m => bli x (stq C x j) m) (rqN C x) m O)
       else (O, false, m))
    else if (bli x C m).2.1 = true then Yic (y :: r) C (bli x C m).2.2 (O ++ [(bli x C m).1]) else (O, false, (bli x C m).2.2)
end
def iI (C : List YC) (x : YS) (j : Nat) (q : Int) (O : List YS) : List YS × Bool × Int := itr (fun j q => bli x (stq C x j) q) j q O
def iR (C : List YC) (x : YS) (q : Int) (O : List YS) : List YS × Bool × Int := if rqB C x = true then iI C x (rqN C x) q O else (O, false, q)
theorem Yok (t : YS) (C : List YC) (m : Int) : bli t C m = if t.kind = 1 /\ 0 <= fnd C t then
      (if (Yia C t).depth ≠ 0 then (zY, false, m)
       else if Yi2 (Yia C t).form = true then ((Yia C t).form, decide (0 <= m - Yhk (Yia C t).form), m - Yhk (Yia C t).form)
       else (zY, false, m))
    else if m - 1 < 0 then (zY, false, m - 1)
    else if (Yic t.items C (m - 1) []).2.1 = true then (⟨t.kind, t.number, t.text, t.scopes, (Yic t.items C (m - 1) []).1⟩, true, (Yic t.items C (m - 1) []).2.2) else (zY, false, (Yic t.items C (m - 1) []).2.2) := by
  cases t; rw [bli]
theorem Yoz (C : List YC) (q : Int) (O : List YS) : Yic [] C q O = (O, true, q) := by rw [Yic]
theorem Ywk (x : YS) (C : List YC) (q : Int) (O : List YS) : Yic [x] C q O = if (bli x C q).2.1 = true then Yic [] C (bli x C q).2.2 (O ++ [(bli x C q).1]) else (O, false, (bli x C q).2.2) := by
 rw [Yoz, Yic]
theorem Yrd (x y : YS) (r : List YS) (C : List YC) (q : Int) (O : List YS) : Yic (x :: y :: r) C q O = if Yhn y = true then (if (iR C x q O).2.1 = true then Yic r C (iR C x q O).2.2 (iR C x q O).1 else iR C x q O)
  else if (bli x C q).2.1 = true then Yic (y :: r) C (bli x C q).2.2 (O ++ [(bli x C q).1]) else (O, false, (bli x C q).2.2) := by
 rw [Yic]
 split
 ·unfold iR
  split
  ·rfl
  ·rfl
 ·rfl
theorem Y1eo {l : List YS} {k : Nat} {C : List YC} {q : Int} {O : List YS} (h : l.length <= k) : Yic (l.drop k) C q O = (O, true, q) := by
 rw [List.drop_eq_nil_of_le h, Yoz]
theorem Yxf {l : List YS} {k : Nat} {C : List YC} {q : Int} {O : List YS} (h : k < l.length) (hd : l.length <= k + 1 ∨ Yhn (l.getD (k + 1) default) = false) :
  Yic (l.drop k) C q O = if (bli (l.getD k default) C q).2.1 = true then Yic (l.drop (k + 1)) C (bli (l.getD k default) C q).2.2 (O ++ [(bli (l.getD k default) C q).1]) else (O, false, (bli (l.getD k default) C q).2.2) := by
 rw [Yiu h]
 rcases Nat.lt_or_ge (k + 1) l.length with h1 | h1
 ·rw [Yiu h1, Yrd, if_neg (by rcases hd with h2 | h2 <;> first | (exfalso; omega) | (rw [h2]; decide))]
 ·rw [List.drop_eq_nil_of_le h1, Ywk]
theorem Yr6 {l : List YS} {k : Nat} {C : List YC} {q : Int} {O : List YS} (h : k + 1 < l.length) (hd : Yhn (l.getD (k + 1) default) = true) :
  Yic (l.drop k) C q O = if (iR C (l.getD k default) q O).2.1 = true then Yic (l.drop (k + 1 + 1)) C (iR C (l.getD k default) q O).2.2 (iR C (l.getD k default) q O).1 else iR C (l.getD k default) q O := by
 rw [Yiu (by omega : k < l.length), Yiu h, Yrd, if_pos hd]
theorem Yva : ∀ (l : List YS), (∀ x ∈ l, ∀ C q, 0 <= q -> (bli x C q).2.1 = true -> 0 <= (bli x C q).2.2 /\ (bli x C q).2.2 + 1 <= q) -> ∀ C q O, 0 <= q -> (Yic l C q O).2.1 = true -> 0 <= (Yic l C q O).2.2 /\ ((Yic l C q O).1.length : Int) + (Yic l C q O).2.2 <= O.length + q
 | [], _, C, q, O, h0, _ => by rw [Yoz]; simp only; omega
 | [x], hx, C, q, O, h0, h => by
  rw [Ywk] at h ⊢
  by_cases e : (bli x C q).2.1 = true
  ·rw [if_pos e] at h ⊢
   have h1 := hx x List.mem_cons_self C q h0 e
   have h2 := Yva [] (fun _ h => by cases h) C _ (O ++ [(bli x C q).1]) h1.1 h
   simp only [List.length_append, List.length_singleton] at h2; omega
  ·rw [if_neg e] at h; cases h
 | x :: y :: r, hx, C, q, O, h0, h => by
  rw [Yrd] at h ⊢
  by_cases d : Yhn y = true
  ·rw [if_pos d] at h ⊢
   by_cases e : (iR C x q O).2.1 = true
   ·rw [if_pos e] at h ⊢
    have h1 : 0 <= (iR C x q O).2.2 /\ ((iR C x q O).1.length : Int) + (iR C x q O).2.2 <= O.length + q := by
     unfold iR at e ⊢
     by_cases c : rqB C x = true
     ·rw [if_pos c] at e ⊢
      exact Yuv (fun j q => hx x List.mem_cons_self _ q) _ q O h0 e
     ·rw [if_neg c] at e; cases e
    have h2 := Yva r (fun z hz => hx z (List.mem_cons_of_mem _ (List.mem_cons_of_mem _ hz))) C _ (iR C x q O).1 h1.1 h
    omega
   ·rw [if_neg e] at h; exact absurd h e
  ·rw [if_neg d] at h ⊢
   by_cases e : (bli x C q).2.1 = true
   ·rw [if_pos e] at h ⊢
    have h1 := hx x List.mem_cons_self C q h0 e
    have h2 := Yva (y :: r) (fun z hz => hx z (List.mem_cons_of_mem _ hz)) C _ (O ++ [(bli x C q).1]) h1.1 h
    simp only [List.length_append, List.length_singleton] at h2; omega
   ·rw [if_neg e] at h; cases h
theorem Yu8 : ∀ (t : YS) (C : List YC) (q : Int), 0 <= q -> (bli t C q).2.1 = true -> 0 <= (bli t C q).2.2 /\ (bli t C q).2.2 + 1 <= q := by
 refine YS.ind fun t ih C q h0 h => ?_
 have h3 := Yi9 (Yia C t).form
 rw [Yok] at h ⊢
 by_cases c2 : t.kind = 1 /\ 0 <= fnd C t
 ·rw [if_pos c2] at h ⊢
  by_cases c4 : (Yia C t).depth ≠ 0
  ·rw [if_pos c4] at h; cases h
  ·rw [if_neg c4] at h ⊢
   by_cases c5 : Yi2 (Yia C t).form = true
   ·rw [if_pos c5] at h ⊢
    simp only [decide_eq_true_eq] at h ⊢
    omega
   ·rw [if_neg c5] at h; cases h
 ·rw [if_neg c2] at h ⊢
  by_cases c1 : q - 1 < 0
  ·rw [if_pos c1] at h; cases h
  rw [if_neg c1] at h ⊢
  by_cases c6 : (Yic t.items C (q - 1) []).2.1 = true
  ·rw [if_pos c6]
   have := Yva t.items ih C (q - 1) [] (by omega) c6
   simp only [List.length_nil] at this ⊢; omega
  ·rw [if_neg c6] at h; cases h
theorem Y1gg (C : List YC) (x : YS) (j : Nat) (q : Int) (O : List YS) (h0 : 0 <= q) (h : (iI C x j q O).2.1 = true) : 0 <= (iI C x j q O).2.2 /\ ((iI C x j q O).1.length : Int) + (iI C x j q O).2.2 <= O.length + q :=
 Yuv (fun j q => Yu8 x _ q) j q O h0 h
theorem Y17d (C : List YC) (x : YS) (j : Nat) (q : Int) (O : List YS) (h : (iI C x j q O).2.1 = true) : iI C x (j + 1) q O = ((iI C x j q O).1 ++ [(bli x (stq C x j) (iI C x j q O).2.2).1], (bli x (stq C x j) (iI C x j q O).2.2).2.1, (bli x (stq C x j) (iI C x j q O).2.2).2.2) := Yp7 _ j q O h
theorem Y1gm (C : List YC) (x : YS) (j n : Nat) (q : Int) (O : List YS) (h : (iI C x j q O).2.1 = false) (hn : j <= n) : iI C x n q O = iI C x j q O := Ywr _ j q O h n hn
theorem Y1jz {C : List YC} (hC : ∀ z ∈ C, mxP z <= 1000000000) (a : Nat) (I : List Int) : ∀ z ∈ Ylz C a I, mxP z <= 1000000000 := by
 have : ∀ (I : List Int) (O : List YC), (∀ z ∈ O, mxP z <= 1000000000) -> ∀ z ∈ I.foldl (fun O i => O.set i.toNat ((C.getD i.toNat default).each.getD a default)) O, mxP z <= 1000000000 := by
  intro I
  induction I with
  | nil => intro O h; exact h
  | cons x r ih =>
   intro O h
   rw [List.foldl_cons]
   refine ih _ fun z hz => ?_
   rcases List.mem_or_eq_of_mem_set hz with h2 | h2
   ·exact h z h2
   ·rw [h2]; exact Y1b4 hC _ _
 exact this I C hC
mutual
def nmZ : YS -> List YS
 | ⟨k, n, t, s, l⟩ => (if k = 1 then [⟨k, n, t, s, l⟩] else []) ++ Y142 l
def Y142 : List YS -> List YS
 | [] => []
 | x :: r => nmZ x ++ Y142 r
end
theorem Y17j : ∀ l, Y142 l = l.flatMap nmZ
 | [] => by simp [Y142]
 | x :: r => by rw [Y142, Y17j r]; simp
theorem Y164 (x : YS) : nmZ x = (if x.kind = 1 then [x] else []) ++ x.items.flatMap nmZ := by cases x; simp only [nmZ, Y17j]
def Yoj (o : List YS) (y : YS) : List YS := if Yii o y = false then o ++ [y] else o
def Yvo (C : List YC) (o : List Int) (y : YS) : List Int := if rep C y = true /\ fnd C y ∉ o then o ++ [fnd C y] else o
theorem Ytc {α β γ : Type} (f : γ -> α -> γ) (g : γ -> β -> γ) (h : β -> List α) : ∀ (l : List β), (∀ x ∈ l, ∀ o, g o x = (h x).foldl f o) -> ∀ o, l.foldl g o = (l.flatMap h).foldl f o
 | [], _, o => rfl
 | x :: r, hx, o => by
  rw [List.foldl_cons, List.flatMap_cons, List.foldl_append, hx x List.mem_cons_self, Ytc f g h r fun y hy => hx y (List.mem_cons_of_mem _ hy)]
theorem Y1fz : ∀ (x : YS) (o : List YS), Yho x o = (nmZ x).foldl Yoj o := by
 refine YS.ind fun x ih o => ?_
 rw [Yzw, Y164, List.foldl_append, Ytc Yoj _ nmZ x.items ih]
 congr 1
 unfold Ypp
 by_cases h : x.kind = 1
 ·rw [if_pos h]; simp [Yoj, h]
 ·rw [if_neg h]; simp [h]
theorem Y1im (C : List YC) : ∀ (x : YS) (o : List Int), rpi C x o = (nmZ x).foldl (Yvo C) o := by
 refine YS.ind fun x ih o => ?_
 rw [Y15w, Y164, List.foldl_append, Ytc (Yvo C) _ nmZ x.items ih]
 congr 1
 unfold Yps
 by_cases h : x.kind = 1
 ·rw [if_pos h]; simp [Yvo, h]
 ·rw [if_neg h]; simp [h]
theorem Y12i : ∀ (x : YS), ∀ y ∈ nmZ x, y.kind = 1 := by
 refine YS.ind fun x ih y hy => ?_
 rw [Y164, List.mem_append, List.mem_flatMap] at hy
 rcases hy with hy | ⟨z, hz, hy⟩
 ·split at hy
  ·rename_i h; rw [List.mem_singleton] at hy; subst hy; exact h
  ·cases hy
 ·exact ih z hz y hy
theorem Y1fv {C : List YC} {a b : YS} (h1 : a.text = b.text) (h2 : a.scopes = b.scopes) (ha : a.kind = 1) (hb : b.kind = 1) : fnd C a = fnd C b := by
 have e : Yl7 a = Yl7 b := by funext x; simp only [Yl7, h1, h2]
 simp only [fnd, Ym4, Yhn, e, h1, ha, hb]
theorem Y1ey {o : List YS} {y : YS} : Yii o y = true ↔ ∃ z ∈ o, z.text = y.text /\ z.scopes = y.scopes := by
 simp only [Yii, List.any_eq_true, Bool.and_eq_true, decide_eq_true_eq]
theorem Y1bl (L : List YS) : ∀ (o : List YS), (∀ z ∈ L.foldl Yoj o, z ∈ o ∨ z ∈ L) /\ (∀ y, y ∈ o ∨ y ∈ L -> ∃ z ∈ L.foldl Yoj o, z.text = y.text /\ z.scopes = y.scopes) := by
 induction L with
 | nil => intro o; exact ⟨fun z hz => .inl hz, fun y hy => ⟨y, by simpa using hy, rfl, rfl⟩⟩
 | cons x r ih =>
  intro o
  rw [List.foldl_cons]
  obtain ⟨h1, h2⟩ := ih (Yoj o x)
  constructor
  ·intro z hz
   rcases h1 z hz with h | h
   ·unfold Yoj at h
    split at h
    ·rcases List.mem_append.1 h with h | h
     ·exact .inl h
     ·rw [List.mem_singleton.1 h]; exact .inr List.mem_cons_self
    ·exact .inl h
   ·exact .inr (List.mem_cons_of_mem _ h)
  ·intro y hy
   have h3 : ∃ z ∈ Yoj o x, z.text = x.text /\ z.scopes = x.scopes := by
    unfold Yoj
    by_cases e : Yii o x = false
    ·rw [if_pos e]; exact ⟨x, by simp, rfl, rfl⟩
    ·rw [if_neg e]; exact Y1ey.1 (by simpa using e)
   have h4 : ∀ z ∈ o, z ∈ Yoj o x := fun z hz => by unfold Yoj; split <;> simp [hz]
   rcases hy with hy | hy
   ·exact h2 y (.inl (h4 y hy))
   ·rcases List.mem_cons.1 hy with rfl | hy
    ·obtain ⟨z, hz, e1, e2⟩ := h3
     obtain ⟨w, hw, e3, e4⟩ := h2 z (.inl hz)
     exact ⟨w, hw, e3.trans e1, e4.trans e2⟩
    ·exact h2 y (.inr hy)
theorem Y1cf (C : List YC) (L : List YS) : ∀ (o : List Int) (i : Int), i ∈ L.foldl (Yvo C) o ↔ (i ∈ o ∨ ∃ y ∈ L, rep C y = true /\ fnd C y = i) := by
 induction L with
 | nil => intro o i; simp
 | cons x r ih =>
  intro o i
  rw [List.foldl_cons, ih]
  have e : i ∈ Yvo C o x ↔ (i ∈ o ∨ (rep C x = true /\ fnd C x = i)) := by
   unfold Yvo
   by_cases h : rep C x = true /\ fnd C x ∉ o
   ·rw [if_pos h, List.mem_append, List.mem_singleton]
    constructor
    ·rintro (a | rfl)
     ·exact .inl a
     ·exact .inr ⟨h.1, rfl⟩
    ·rintro (a | ⟨_, rfl⟩)
     ·exact .inl a
     ·exact .inr rfl
   ·rw [if_neg h]
    constructor
    ·exact .inl
    ·rintro (a | ⟨a, rfl⟩)
     ·exact a
     ·exact Decidable.byContradiction fun n => h ⟨a, n⟩
  rw [e]
  simp only [List.mem_cons, exists_eq_or_imp, or_assoc]
theorem Yp5 {C : List YC} {x : YS} {i : Int} : i ∈ rpX C x ↔ ∃ y ∈ Yho x [], rep C y = true /\ fnd C y = i := by
 unfold rpX
 rw [Y1im, Y1cf, Y1fz]
 have h := Y1bl (nmZ x) []
 constructor
 ·rintro (a | ⟨y, hy, h1, h2⟩)
  ·cases a
  ·obtain ⟨z, hz, e1, e2⟩ := h.2 y (.inr hy)
   have hz' : z ∈ nmZ x := by rcases h.1 z hz with a | a; cases a; exact a
   have e := @Y1fv C z y e1 e2 (Y12i x z hz') (Y12i x y hy)
   exact ⟨z, hz, by simpa [rep, Yia, e] using h1, e.trans h2⟩
 ·rintro ⟨y, hy, h1, h2⟩
  refine .inr ⟨y, ?_, h1, h2⟩
  rcases h.1 y hy with a | a
  ·cases a
  ·exact a
theorem Yzt {C : List YC} {y : YS} (h : rep C y = true) : lnI C (fnd C y) = ((Yia C y).each.length : Int) /\ 0 <= fnd C y := by
 simp only [rep, Bool.and_eq_true, decide_eq_true_eq] at h
 exact ⟨rfl, h.1⟩
theorem Y1gh {C : List YC} {I : List YS} {n : Int} (h0 : 0 <= n) : ∀ m, (∀ j, j < m -> rep C (I.getD j default) = true -> ((Yia C (I.getD j default)).each.length : Int) = n) -> Ykk C I m = true /\ (cnN C I m = n ∨ cnN C I m = -1)
 | 0, _ => ⟨rfl, .inr rfl⟩
 | m + 1, h => by
  obtain ⟨h1, h2⟩ := Y1gh h0 m fun j hj => h j (by omega)
  have h3 := h m (by omega)
  simp only [Ykk, cnN, Bool.and_eq_true, Bool.or_eq_true, Bool.not_eq_true', decide_eq_true_eq]
  by_cases e : rep C (I.getD m default) = true
  ·rw [if_pos e]
   have := h3 e
   refine ⟨⟨h1, ?_⟩, .inl this⟩
   rcases h2 with h2 | h2
   ·exact .inr (by omega)
   ·exact .inl (.inr (by omega))
  ·rw [if_neg e]
   exact ⟨⟨h1, .inl (.inl (by simpa using e))⟩, h2⟩
theorem Y10a {C : List YC} {I : List YS} : ∀ m, m <= I.length -> 0 <= cnN C I m -> ∃ y ∈ I, rep C y = true
 | 0, _, h => by simp only [cnN] at h; omega
 | m + 1, hm, h => by
  simp only [cnN] at h
  split at h
  ·rename_i e; exact ⟨_, Yhj (by omega), e⟩
  ·exact Y10a m (by omega) h
theorem Y1lk (C : List YC) (x : YS) : rqB C x = cnB C x /\ (cnB C x = true -> rqN C x = bN C x) := by
 have hall : cnB C x = true -> ∀ i ∈ rpX C x, lnI C i = cnN C (Yho x []) (Yho x []).length := by
  intro h i hi
  simp only [cnB, Bool.and_eq_true, decide_eq_true_eq] at h
  obtain ⟨y, hy, h1, rfl⟩ := Yp5.1 hi
  rw [(Yzt h1).1]
  obtain ⟨j, hj, rfl⟩ := List.getElem_of_mem hy
  have e : (Yho x [])[j] = (Yho x []).getD j default := by simp [hj]
  rw [e] at h1 ⊢
  exact Yxy _ j hj h.1 h1
 have hne : cnB C x = true -> 0 < (rpX C x).length := by
  intro h
  simp only [cnB, Bool.and_eq_true, decide_eq_true_eq] at h
  obtain ⟨y, hy, h1⟩ := Y10a _ (Nat.le_refl _) h.2
  exact List.length_pos_of_mem (Yp5.2 ⟨y, hy, h1, rfl⟩)
 refine ⟨?_, fun h => ?_⟩
 ·rw [Bool.eq_iff_iff]
  constructor
  ·intro h
   simp only [rqB, rqA, Bool.and_eq_true, Bool.not_eq_true', decide_eq_false_iff_not, List.all_eq_true, decide_eq_true_eq] at h
   have hl : 0 < (rpX C x).length := by omega
   have h0 : 0 <= lnI C ((rpX C x).getD 0 default) := by simp only [lnI]; omega
   have h1 := @Y1gh C (Yho x []) _ h0 (Yho x []).length fun j hj hr => by
    rw [<- (Yzt hr).1]
    exact h.2 _ (Yp5.2 ⟨_, Yhj hj, hr, rfl⟩)
   obtain ⟨y, hy, hr, _⟩ := Yp5.1 (Yhj hl)
   obtain ⟨j, hj, rfl⟩ := List.getElem_of_mem hy
   have e : (Yho x [])[j] = (Yho x []).getD j default := by simp [hj]
   rw [e] at hr
   have := Yxy _ j hj h1.1 hr
   simp only [cnB, Bool.and_eq_true, decide_eq_true_eq]
   exact ⟨h1.1, by omega⟩
  ·intro h
   have h1 := hall h
   have h2 := hne h
   simp only [rqB, rqA, Bool.and_eq_true, Bool.not_eq_true', decide_eq_false_iff_not, List.all_eq_true, decide_eq_true_eq]
   exact ⟨by omega, fun i hi => by rw [h1 i hi, h1 _ (Yhj h2)]⟩
 ·have h1 := hall h _ (Yhj (hne h))
  simp only [lnI] at h1
  simp only [rqN, bN]; omega
theorem Y18e (C : List YC) (a p : Nat) : ∀ L, (Yst C a L)[p]? = if (∃ y ∈ L, rep C y = true /\ (fnd C y).toNat = p) /\ p < C.length then some ((C.getD p default).each.getD a default) else C[p]?
 | [] => by simp [Yst]
 | x :: r => by
  have ih := Y18e C a p r
  have hl := Ysy C a r
  have er : (0 <= fnd C x /\ 0 < (C.getD (fnd C x).toNat default).depth) ↔ rep C x = true := by
   unfold rep; rw [Bool.and_eq_true, decide_eq_true_eq, decide_eq_true_eq]; exact Iff.rfl
  simp only [Yst]
  by_cases e : rep C x = true
  ·rw [if_pos (er.2 e), List.getElem?_set, hl]
   by_cases e2 : (fnd C x).toNat = p
   ·rw [if_pos e2]
    by_cases e3 : p < C.length
    ·rw [if_pos (by omega), if_pos ⟨⟨x, List.mem_cons_self, e, e2⟩, e3⟩, e2]
    ·rw [if_neg (by omega), if_neg (fun h => e3 h.2)]
     rw [List.getElem?_eq_none (by omega)]
   ·rw [if_neg e2, ih]
    congr 1
    apply propext
    constructor
    ·rintro ⟨⟨y, hy, h⟩, h2⟩; exact ⟨⟨y, List.mem_cons_of_mem _ hy, h⟩, h2⟩
    ·rintro ⟨⟨y, hy, h⟩, h2⟩
     rcases List.mem_cons.1 hy with rfl | hy
     ·exact absurd h.2 e2
     ·exact ⟨⟨y, hy, h⟩, h2⟩
  ·rw [if_neg (fun h => e (er.1 h)), ih]
   congr 1
   apply propext
   constructor
   ·rintro ⟨⟨y, hy, h⟩, h2⟩; exact ⟨⟨y, List.mem_cons_of_mem _ hy, h⟩, h2⟩
   ·rintro ⟨⟨y, hy, h⟩, h2⟩
    rcases List.mem_cons.1 hy with rfl | hy
    ·exact absurd h.1 e
    ·exact ⟨⟨y, hy, h⟩, h2⟩
theorem Y1go (C : List YC) (a p : Nat) (I : List Int) : (Ylz C a I)[p]? = if (∃ i ∈ I, i.toNat = p) /\ p < C.length then some ((C.getD p default).each.getD a default) else C[p]? := by
 have : ∀ (I : List Int) (O : List YC), O.length = C.length -> (I.foldl (fun O i => O.set i.toNat ((C.getD i.toNat default).each.getD a default)) O)[p]? = if (∃ i ∈ I, i.toNat = p) /\ p < C.length then some ((C.getD p default).each.getD a default) else O[p]? := by
  intro I
  induction I with
  | nil => intro O _; simp
  | cons x r ih =>
   intro O hO
   rw [List.foldl_cons, ih _ (by rw [List.length_set]; exact hO), List.getElem?_set, hO]
   by_cases e3 : p < C.length
   ·by_cases e : ∃ i ∈ r, i.toNat = p
    ·obtain ⟨i, hi, h⟩ := e
     rw [if_pos ⟨⟨i, hi, h⟩, e3⟩, if_pos ⟨⟨i, List.mem_cons_of_mem _ hi, h⟩, e3⟩]
    ·rw [if_neg (fun h => e h.1)]
     by_cases e2 : x.toNat = p
     ·rw [if_pos e2, if_pos (by omega), if_pos ⟨⟨x, List.mem_cons_self, e2⟩, e3⟩, e2]
     ·rw [if_neg e2, if_neg]
      rintro ⟨⟨i, hi, h⟩, _⟩
      rcases List.mem_cons.1 hi with rfl | hi
      ·exact e2 h
      ·exact e ⟨i, hi, h⟩
   ·have n1 : ¬ ((∃ i ∈ r, i.toNat = p) /\ p < C.length) := fun h => e3 h.2
    have n2 : ¬ ((∃ i ∈ x :: r, i.toNat = p) /\ p < C.length) := fun h => e3 h.2
    rw [if_neg n1, if_neg n2]
    split
    ·rename_i h; rw [if_neg (by omega), List.getElem?_eq_none (by omega)]
    ·rfl
 exact this I C rfl
theorem Y1k1 (C : List YC) (x : YS) (a : Nat) : stq C x a = Ytb C x a := by
 apply List.ext_getElem?
 intro p
 unfold stq Ytb Yjr
 rw [Y1go, Y18e, List.take_length]
 congr 1
 apply propext
 constructor
 ·rintro ⟨⟨i, hi, h⟩, h2⟩
  obtain ⟨y, hy, h3, rfl⟩ := Yp5.1 hi
  exact ⟨⟨y, List.mem_reverse.2 hy, h3, h⟩, h2⟩
 ·rintro ⟨⟨y, hy, h3, h⟩, h2⟩
  exact ⟨⟨_, Yp5.2 ⟨y, List.mem_reverse.1 hy, h3, rfl⟩, h⟩, h2⟩
def Ysf (s : YS) : Prop := okY s = true /\ Yi1 s <= 40
theorem Y155 {f : Nat -> Int -> YS × Bool × Int} {z : YS} {q : Int} {O : List YS} (h : z ∈ O) : ∀ j, z ∈ (itr f j q O).1
 | 0 => h
 | j + 1 => by
  have := Y155 (f := f) (q := q) h j
  simp only [itr]; split
  ·exact List.mem_append_left _ this
  ·exact this
theorem Y1ay {f : Nat -> Int -> YS × Bool × Int} {q : Int} {O : List YS} {j : Nat} (h : (itr f (j + 1) q O).2.1 = true) : (itr f j q O).2.1 = true := by
 simp only [itr] at h; split at h
 ·assumption
 ·exact h
theorem Y17w {f g : Nat -> Int -> YS × Bool × Int} (hg : ∀ j q, 0 <= q -> (g j q).2.1 = true -> 0 <= (g j q).2.2 /\ (g j q).2.2 + 1 <= q)
  (h : ∀ j q, 0 <= q -> q <= 2000 -> ((g j q).2.1 = true -> f j q = g j q) /\ ((f j q).2.1 = true -> Ysf (f j q).1 -> (g j q).2.1 = true)) {q : Int} (h0 : 0 <= q) (h1 : q <= 2000) (O : List YS) :
  ∀ j, ((itr g j q O).2.1 = true -> itr f j q O = itr g j q O /\ 0 <= (itr g j q O).2.2 /\ (itr g j q O).2.2 <= q) /\ ((itr f j q O).2.1 = true -> (∀ z ∈ (itr f j q O).1, Ysf z) -> (itr g j q O).2.1 = true)
 | 0 => ⟨fun _ => ⟨rfl, h0, Int.le_refl _⟩, fun _ _ => rfl⟩
 | j + 1 => by
  obtain ⟨ih1, ih2⟩ := Y17w hg h h0 h1 O j
  constructor
  ·intro ht
   have hj := Y1ay ht
   obtain ⟨e, b1, b2⟩ := ih1 hj
   rw [Yp7 g j q O hj] at ht ⊢
   rw [Yp7 f j q O (by rw [e]; exact hj), e]
   have h3 := (h j _ b1 (by omega)).1 ht
   have h4 := hg j _ b1 ht
   rw [h3]
   exact ⟨rfl, h4.1, by simp only; omega⟩
  ·intro ht hz
   have hj := Y1ay ht
   rw [Yp7 f j q O hj] at ht hz
   have hgj := ih2 hj fun z hz' => hz z (List.mem_append_left _ hz')
   obtain ⟨e, b1, b2⟩ := ih1 hgj
   rw [Yp7 g j q O hgj]
   have h3 := (h j (itr f j q O).2.2 (by rw [e]; exact b1) (by rw [e]; omega)).2 ht (hz _ (List.mem_append_right _ (List.mem_singleton.2 rfl)))
   rw [e] at h3
   exact h3
theorem Y18f {C : List YC} {x z : YS} {q : Int} {O : List YS} (h : z ∈ O) : z ∈ (bR C x q O).1 := by
 unfold bR bJ bI; split
 ·exact Y155 h _
 ·exact h
theorem Ypo : ∀ (l : List YS) (C : List YC) (q : Int) (O : List YS) (z : YS), z ∈ O -> z ∈ (Yim l C q O).1
 | [], C, q, O, z, h => by rw [Yp1]; exact h
 | [x], C, q, O, z, h => by
  rw [Ysj]; split
  ·exact Ypo [] C _ _ z (List.mem_append_left _ h)
  ·exact h
 | x :: y :: r, C, q, O, z, h => by
  rw [Ypi]; split
  ·split
   ·exact Ypo r C _ _ z (Y18f h)
   ·exact Y18f h
  ·split
   ·exact Ypo (y :: r) C _ _ z (List.mem_append_left _ h)
   ·exact h
def Y1fw (x : YS) : Prop := ∀ C q, 0 <= q -> q <= 2000 -> ((bli x C q).2.1 = true -> bld x C q = bli x C q) /\ ((bld x C q).2.1 = true -> Ysf (bld x C q).1 -> (bli x C q).2.1 = true)
theorem Y1jg {x : YS} (hx : Y1fw x) (C : List YC) {q : Int} (h0 : 0 <= q) (h1 : q <= 2000) (O : List YS) :
  ((iR C x q O).2.1 = true -> bR C x q O = iR C x q O /\ 0 <= (iR C x q O).2.2 /\ (iR C x q O).2.2 <= q) /\ ((bR C x q O).2.1 = true -> (∀ z ∈ (bR C x q O).1, Ysf z) -> (iR C x q O).2.1 = true) := by
 obtain ⟨e1, e2⟩ := Y1lk C x
 unfold iR bR bJ
 rw [e1]
 by_cases c : cnB C x = true
 ·rw [if_pos c, if_pos c, e2 c]
  have e3 : iI C x (bN C x) q O = itr (fun j q => bli x (Ytb C x j) q) (bN C x) q O := by unfold iI; congr 1; funext j m; rw [Y1k1]
  rw [e3]
  exact Y17w (fun j q => Yu8 x _ q) (fun j q a b => hx _ q a b) h0 h1 O (bN C x)
 ·rw [if_neg c, if_neg c]
  exact ⟨fun h => (by cases h), fun h => (by cases h)⟩
theorem Yqx : ∀ (l : List YS) (b : Bool), (∀ x ∈ l, Ykz x = true -> Y1fw x) -> (∀ x, l.head? = some x -> Yhn x = false) -> Yik b l = true -> ∀ C q O, 0 <= q -> q <= 2000 ->
  ((Yic l C q O).2.1 = true -> Yim l C q O = Yic l C q O) /\ ((Yim l C q O).2.1 = true -> (∀ z ∈ (Yim l C q O).1, Ysf z) -> (Yic l C q O).2.1 = true)
 | [], b, _, _, _, C, q, O, h0, h1 => by rw [Yp1, Yoz]; exact ⟨fun _ => rfl, fun _ _ => rfl⟩
 | [x], b, hx, hh, hd, C, q, O, h0, h1 => by
  have hn : Yhn x = false := hh x rfl
  simp only [Yik, hn, Bool.and_true] at hd
  have h := hx x List.mem_cons_self (by simpa using hd) C q h0 h1
  rw [Ysj, Ywk, Yp1, Yoz]
  constructor
  ·intro ht
   by_cases e : (bli x C q).2.1 = true
   ·rw [if_pos e, h.1 e, if_pos e]
   ·rw [if_neg e] at ht; cases ht
  ·intro ht hz
   by_cases e : (bld x C q).2.1 = true
   ·rw [if_pos e] at hz
    have := h.2 e (hz _ (List.mem_append_right _ (List.mem_singleton.2 rfl)))
    rw [if_pos this]
   ·rw [if_neg e] at ht; cases ht
 | x :: y :: r, b, hx, hh, hd, C, q, O, h0, h1 => by
  have hn : Yhn x = false := hh x rfl
  have hd2 : Ykz x = true /\ Yik false (y :: r) = true := by
   rw [Yik, hn] at hd
   simpa using hd
  have hxr := hx x List.mem_cons_self hd2.1
  rw [Ypi, Yrd]
  by_cases d : Yhn y = true
  ·rw [if_pos d, if_pos d]
   have hr : Yik true r = true := by
    have := hd2.2
    rw [Yik, d] at this
    simpa using this
   have hrh : ∀ z, r.head? = some z -> Yhn z = false := by
    intro z hz
    cases r with
    | nil => cases hz
    | cons w r =>
     simp only [List.head?_cons, Option.some.injEq] at hz
     subst hz
     cases e : Yhn w with
     | false => rfl
     | true => rw [Yik, e] at hr; simp at hr
   have h := Y1jg hxr C h0 h1 O
   constructor
   ·intro ht
    by_cases e : (iR C x q O).2.1 = true
    ·obtain ⟨e1, b1, b2⟩ := h.1 e
     rw [if_pos e] at ht ⊢
     rw [e1, if_pos e]
     exact (Yqx r true (fun z hz => hx z (List.mem_cons_of_mem _ (List.mem_cons_of_mem _ hz))) hrh hr C _ _ b1 (by omega)).1 ht
    ·rw [if_neg e] at ht; exact absurd ht e
   ·intro ht hz
    by_cases e : (bR C x q O).2.1 = true
    ·rw [if_pos e] at ht hz
     have hi := h.2 e fun z hz' => hz z (Ypo r C _ _ z hz')
     obtain ⟨e1, b1, b2⟩ := h.1 hi
     rw [if_pos hi]
     rw [e1] at ht hz
     exact (Yqx r true (fun z hz => hx z (List.mem_cons_of_mem _ (List.mem_cons_of_mem _ hz))) hrh hr C _ _ b1 (by omega)).2 ht hz
    ·rw [if_neg e] at ht; exact absurd ht e
  ·rw [if_neg d, if_neg d]
   have h := hxr C q h0 h1
   have hyh : ∀ z, (y :: r).head? = some z -> Yhn z = false := by
    intro z hz
    simp only [List.head?_cons, Option.some.injEq] at hz
    subst hz; simpa using d
   constructor
   ·intro ht
    by_cases e : (bli x C q).2.1 = true
    ·have hb := Yu8 x C q h0 e
     rw [if_pos e] at ht ⊢
     rw [h.1 e, if_pos e]
     exact (Yqx (y :: r) false (fun z hz => hx z (List.mem_cons_of_mem _ hz)) hyh hd2.2 C _ _ hb.1 (by omega)).1 ht
    ·rw [if_neg e] at ht; cases ht
   ·intro ht hz
    by_cases e : (bld x C q).2.1 = true
    ·rw [if_pos e] at ht hz
     have hi := h.2 e (hz _ (Ypo (y :: r) C _ _ _ (List.mem_append_right _ (List.mem_singleton.2 rfl))))
     have hb := Yu8 x C q h0 hi
     rw [if_pos hi]
     rw [h.1 hi] at ht hz
     exact (Yqx (y :: r) false (fun z hz => hx z (List.mem_cons_of_mem _ hz)) hyh hd2.2 C _ _ hb.1 (by omega)).2 ht hz
    ·rw [if_neg e] at ht; cases ht
theorem Y1as {l : List YS} (h : Yik true l = true) : ∀ x, l.head? = some x -> Yhn x = false := by
 intro x hx
 cases l with
 | nil => cases hx
 | cons y r =>
  simp only [List.head?_cons, Option.some.injEq] at hx
  subst hx
  cases e : Yhn y with
  | false => rfl
  | true => rw [Yik, e] at h; simp at h
theorem Y1f2 {t : YS} (h : okY t = true) : (t.kind = 1 -> t.items = []) /\ (t.kind ≠ 1 -> t.scopes = []) := by
 rw [Ymh] at h
 simp only [Ymu, Yoy, Bool.and_eq_true, Bool.or_eq_true, decide_eq_true_eq] at h
 constructor
 ·intro hk
  have : (t.items.length : Int) = 0 := by omega
  exact List.length_eq_zero_iff.1 (by omega)
 ·intro hk
  have : (t.scopes.length : Int) = 0 := by omega
  exact List.length_eq_zero_iff.1 (by omega)
theorem Y1m4 (t : YS) : t = ⟨t.kind, t.number, t.text, t.scopes, t.items⟩ := by cases t; rfl
theorem Y1hk : ∀ t, okY t = true -> Ykz t = true -> Y1fw t := by
 refine YS.ind fun t ih hok hdot C q h0 h1 => ?_
 have hn := Y1f2 hok
 have hd := Yvn t
 rw [hdot] at hd
 have hd1 : Yhn t = false /\ Yik true t.items = true := by
  have := hd.symm
  simpa using this
 have hsz := Yi9 (Yia C t).form
 by_cases hc : t.kind = 1 /\ 0 <= fnd C t
 ·rw [Yok, if_pos hc, Yng, if_pos hc.1, if_neg (by rw [hd1.1]; simp; omega : ¬ (Yhn t = true ∨ fnd C t < 0))]
  by_cases c4 : (Yia C t).depth ≠ 0
  ·rw [if_pos c4, if_pos c4]
   exact ⟨fun h => (by cases h), fun h => (by split at h <;> cases h)⟩
  ·rw [if_neg c4, if_neg c4]
   constructor
   ·intro h
    by_cases c5 : Yi2 (Yia C t).form = true
    ·rw [if_pos c5] at h ⊢
     simp only [decide_eq_true_eq] at h
     rw [if_neg (by omega), if_pos (by omega)]
     have e : max (q - (Yhk (Yia C t).form : Int)) (-1) = q - Yhk (Yia C t).form := by omega
     rw [e, decide_eq_true h]
    ·rw [if_neg c5] at h; cases h
   ·intro h hg
    by_cases c1 : q - 1 < 0
    ·rw [if_pos c1] at h; cases h
    ·rw [if_neg c1] at h hg
     by_cases c6 : (Yhk (Yia C t).form : Int) <= q
     ·rw [if_pos c6] at hg
      have c5 : Yi2 (Yia C t).form = true := by
       simp only [Yi2, Bool.and_eq_true, decide_eq_true_eq]
       exact ⟨⟨by omega, hg.2⟩, hg.1⟩
      rw [if_pos c5]
      simp only [decide_eq_true_eq]; omega
     ·rw [if_neg c6] at h; cases h
 ·rw [Yok, if_neg hc, Yng]
  by_cases c1 : q - 1 < 0
  ·rw [if_pos c1, if_pos c1]
   exact ⟨fun h => (by cases h), fun h => (by cases h)⟩
  ·rw [if_neg c1, if_neg c1]
   by_cases hk : t.kind = 1
   ·have hi := hn.1 hk
    rw [if_pos hk, if_pos (Or.inr (by omega) : Yhn t = true ∨ fnd C t < 0), hi, Yoz, hd1.1]
    refine ⟨fun _ => ?_, fun _ _ => rfl⟩
    have e : t = ⟨t.kind, t.number, t.text, t.scopes, []⟩ := Eq.trans (Y1m4 t) (by rw [hi])
    show (t, true, q - 1) = ((⟨t.kind, t.number, t.text, t.scopes, []⟩ : YS), true, q - 1)
    rw [<- e]
   ·rw [if_neg hk]
    have hs := hn.2 hk
    have hall : ∀ x ∈ t.items, okY x = true := by
     rw [Ymh, Bool.and_eq_true, List.all_eq_true] at hok; exact hok.1
    have h := Yqx t.items true (fun x hx => ih x hx (hall x hx)) (Y1as hd1.2) hd1.2 C (q - 1) [] (by omega) (by omega)
    constructor
    ·intro ht
     by_cases e : (Yic t.items C (q - 1) []).2.1 = true
     ·rw [if_pos e, h.1 e, if_pos e, hs]
     ·rw [if_neg e] at ht; cases ht
    ·intro ht hg
     by_cases e : (Yim t.items C (q - 1) []).2.1 = true
     ·rw [if_pos e] at hg
      have hz : ∀ z ∈ (Yim t.items C (q - 1) []).1, Ysf z := by
       intro z hz
       obtain ⟨g1, g2⟩ := hg
       rw [Ymh, Bool.and_eq_true, List.all_eq_true] at g1
       rw [Yo6] at g2
       have := Yv6 Yi1 hz
       exact ⟨g1.1 z hz, by simp only at g2; omega⟩
      rw [if_pos (h.2 e hz)]
     ·rw [if_neg e] at ht; cases ht
def Yne (t : YS) (C : List YC) : Bool := Yi2 t && Ykz t && (bld t C 2000).2.1 && Yi2 (bld t C 2000).1
def Yl4 (t : YS) (C : List YC) : YS := if Yne t C = true then (bld t C 2000).1 else zY
theorem Y1eu {t : YS} (C : List YC) (h1 : Yi2 t = true) (h2 : Ykz t = true) : Yne t C = ((bli t C 2000).2.1 && Yi2 (bli t C 2000).1) /\ ((bli t C 2000).2.1 = true -> (bld t C 2000).1 = (bli t C 2000).1) := by
 have hok : okY t = true := by simp only [Yi2, Bool.and_eq_true] at h1; exact h1.2
 have h := Y1hk t hok h2 C 2000 (by decide) (by decide)
 refine ⟨?_, fun e => by rw [h.1 e]⟩
 unfold Yne
 rw [h1, h2, Bool.eq_iff_iff]
 simp only [Bool.true_and, Bool.and_eq_true]
 constructor
 ·rintro ⟨a, b⟩
  have hg : Ysf (bld t C 2000).1 := by simp only [Yi2, Bool.and_eq_true, decide_eq_true_eq] at b; exact ⟨b.2, b.1.2⟩
  have := h.2 a hg
  exact ⟨this, by rw [<- h.1 this]; exact b⟩
 ·rintro ⟨a, b⟩
  rw [h.1 a]; exact ⟨a, b⟩
section
variable {t : YS} {C : List YC} {q : Int}
theorem Y1ka (h : q - 1 < 0) : bld t C q = (zY, false, q - 1) := by rw [Yng, if_pos h]
theorem Y1ki (h : ¬ q - 1 < 0) (h1 : t.kind = 1) (h2 : Yhn t = true ∨ fnd C t < 0) : bld t C q = (t, !Yhn t, q - 1) := by rw [Yng, if_neg h, if_pos h1, if_pos h2]
theorem Y1jm (h : ¬ q - 1 < 0) (h1 : t.kind = 1) (h2 : Yhn t = false) (h3 : ¬ fnd C t < 0) (h4 : ¬ (C.getD (fnd C t).toNat default).depth = 0) : bld t C q = (zY, false, q) := by
 rw [Yng, if_neg h, if_pos h1, if_neg (by rw [h2]; rintro (a | a); cases a; exact h3 a), if_pos (show (Yia C t).depth ≠ 0 from h4)]
theorem Y1jl (h : ¬ q - 1 < 0) (h1 : t.kind = 1) (h2 : Yhn t = false) (h3 : ¬ fnd C t < 0) (h4 : (C.getD (fnd C t).toNat default).depth = 0) (h5 : ¬ (Yhk (C.getD (fnd C t).toNat default).form : Int) <= q) : bld t C q = (zY, false, max (q - Yhk (C.getD (fnd C t).toNat default).form) (-1)) := by
 rw [Yng, if_neg h, if_pos h1, if_neg (by rw [h2]; rintro (a | a); cases a; exact h3 a), if_neg (by intro e; exact e h4), if_neg (show ¬ (Yhk (Yia C t).form : Int) <= q from h5)]; rfl
theorem Y1j0 (h : ¬ q - 1 < 0) (h1 : t.kind = 1) (h2 : Yhn t = false) (h3 : ¬ fnd C t < 0) (h4 : (C.getD (fnd C t).toNat default).depth = 0) (h5 : (Yhk (C.getD (fnd C t).toNat default).form : Int) <= q) : bld t C q = ((C.getD (fnd C t).toNat default).form, true, max (q - Yhk (C.getD (fnd C t).toNat default).form) (-1)) := by
 rw [Yng, if_neg h, if_pos h1, if_neg (by rw [h2]; rintro (a | a); cases a; exact h3 a), if_neg (by intro e; exact e h4), if_pos (show (Yhk (Yia C t).form : Int) <= q from h5)]; rfl
theorem Y1j2 (h : ¬ q - 1 < 0) (h1 : ¬ t.kind = 1) (h2 : (Yim t.items C (q - 1) []).2.1 = true) : bld t C q = (⟨t.kind, t.number, t.text, [], (Yim t.items C (q - 1) []).1⟩, true, (Yim t.items C (q - 1) []).2.2) := by
 rw [Yng, if_neg h, if_neg h1, if_pos h2]
theorem Y1k0 (h : ¬ q - 1 < 0) (h1 : ¬ t.kind = 1) (h2 : (Yim t.items C (q - 1) []).2.1 = false) : bld t C q = (zY, false, (Yim t.items C (q - 1) []).2.2) := by
 rw [Yng, if_neg h, if_neg h1, if_neg (by rw [h2]; decide)]
theorem Y1k9 (h1 : t.kind = 1) (h3 : 0 <= fnd C t) (h4 : ¬ (C.getD (fnd C t).toNat default).depth = 0) : bli t C q = (zY, false, q) := by
 rw [Yok, if_pos ⟨h1, h3⟩, if_pos (show (Yia C t).depth ≠ 0 from h4)]
theorem Y1kd (h1 : t.kind = 1) (h3 : 0 <= fnd C t) (h4 : (C.getD (fnd C t).toNat default).depth = 0) (h5 : (Yj0 (C.getD (fnd C t).toNat default).form 1 0).1 = false) : bli t C q = (zY, false, q) := by
 rw [Ytf] at h5
 rw [Yok, if_pos ⟨h1, h3⟩, if_neg (by intro e; exact e h4), if_neg (by show ¬ Yi2 (C.getD (fnd C t).toNat default).form = true; rw [h5]; decide)]
theorem Y1jr (h1 : t.kind = 1) (h3 : 0 <= fnd C t) (h4 : (C.getD (fnd C t).toNat default).depth = 0) (h5 : (Yj0 (C.getD (fnd C t).toNat default).form 1 0).1 = true) : bli t C q = ((C.getD (fnd C t).toNat default).form, decide (0 <= q - (Yj0 (C.getD (fnd C t).toNat default).form 1 0).2), q - (Yj0 (C.getD (fnd C t).toNat default).form 1 0).2) := by
 have e := (Ysd (C.getD (fnd C t).toNat default).form 1 0 (by decide)).2 h5
 rw [Ytf] at h5
 rw [Yok, if_pos ⟨h1, h3⟩, if_neg (by intro e; exact e h4), if_pos (show Yi2 (Yia C t).form = true from h5), e, Int.zero_add]; rfl
theorem Y1j3 (h1 : ¬ (t.kind = 1 /\ 0 <= fnd C t)) (h : q - 1 < 0) : bli t C q = (zY, false, q - 1) := by rw [Yok, if_neg h1, if_pos h]
theorem Y1ju (h1 : ¬ (t.kind = 1 /\ 0 <= fnd C t)) (h : ¬ q - 1 < 0) (h2 : (Yic t.items C (q - 1) []).2.1 = true) : bli t C q = (⟨t.kind, t.number, t.text, t.scopes, (Yic t.items C (q - 1) []).1⟩, true, (Yic t.items C (q - 1) []).2.2) := by rw [Yok, if_neg h1, if_neg h, if_pos h2]
theorem Y1iy (h1 : ¬ (t.kind = 1 /\ 0 <= fnd C t)) (h : ¬ q - 1 < 0) (h2 : (Yic t.items C (q - 1) []).2.1 = false) : bli t C q = (zY, false, (Yic t.items C (q - 1) []).2.2) := by rw [Yok, if_neg h1, if_neg h, if_neg (by rw [h2]; decide)]
theorem Y1lm (hC : ∀ z ∈ C, mxP z <= 1000000000) {x : YS} (h : cnB C x = true) : bN C x <= 1000000000 := by
 have h' := h
 simp only [cnB, Bool.and_eq_true, decide_eq_true_eq] at h'
 obtain ⟨y, hy, hr⟩ := Y10a _ (Nat.le_refl _) h'.2
 have hr' := hr
 unfold rep at hr'
 rw [Bool.and_eq_true, decide_eq_true_eq, decide_eq_true_eq] at hr'
 have e := Y15l h hy hr'.1 hr'.2
 have h1 := Yme C y
 have h2 := hC (C.getD (fnd C y).toNat default) (Yhj (by omega))
 have h3 := Yug (C.getD (fnd C y).toNat default)
 omega
theorem Y1jq {x : YS} {k : Nat} (h : cnB C x = true) (hk : (k : Int) < if Ykk C (Yho x []) (Yho x []).length = true then cnN C (Yho x []) (Yho x []).length else 0) : k < bN C x := by
 simp only [cnB, Bool.and_eq_true, decide_eq_true_eq] at h
 rw [if_pos h.1] at hk; simp only [bN]; omega
theorem Y1jv {x : YS} {k : Nat} (h : cnB C x = true) (hk : ¬ (k : Int) < if Ykk C (Yho x []) (Yho x []).length = true then cnN C (Yho x []) (Yho x []).length else 0) : bN C x <= k := by
 simp only [cnB, Bool.and_eq_true, decide_eq_true_eq] at h
 rw [if_pos h.1] at hk; simp only [bN]; omega
end
theorem Y1h9 {C : List YC} {x : YS} {j : Nat} {q : Int} {O : List YS} (hj : j <= bN C x ∨ cnB C x = false) (h : (bJ C x j q O).2.1 = false) : bR C x q O = bJ C x j q O := by
 rcases hj with hj | hj
 ·exact Y1hg C x j q O h hj
 ·unfold bR bJ; rw [if_neg (by rw [hj]; decide), if_neg (by rw [hj]; decide)]
theorem Y1hs {C : List YC} {x : YS} {j : Nat} {q : Int} {O : List YS} (hj : j <= bN C x ∨ cnB C x = false) (h0 : 0 <= q) (h : (bJ C x j q O).2.1 = true) (hk : ¬ (j : Int) < if Ykk C (Yho x []) (Yho x []).length = true then cnN C (Yho x []) (Yho x []).length else 0) : bR C x q O = bJ C x j q O := by
 have h1 := (Y122 C x j q O h0 h).2.2
 have h2 := Y1jv h1 hk
 rcases hj with hj | hj
 ·exact Y1km C x j q O (by omega)
 ·rw [h1] at hj; cases hj
theorem Y1lj (C : List YC) (x : YS) (q : Int) (O : List YS) (h0 : 0 <= q) (h : (iR C x q O).2.1 = true) : 0 <= (iR C x q O).2.2 /\ ((iR C x q O).1.length : Int) + (iR C x q O).2.2 <= O.length + q := by
 unfold iR at h ⊢
 by_cases c : rqB C x = true
 ·rw [if_pos c] at h ⊢; exact Y1gg C x _ q O h0 h
 ·rw [if_neg c] at h; cases h
theorem Yu9 {C : List YC} {x : YS} {j : Nat} (h : j < (rpX C x).length) : 0 <= (rpX C x).getD j 0 /\ (rpX C x).getD j 0 < C.length /\ ((rpX C x).getD j 0).toNat < C.length := by
 have h1 : (rpX C x).getD j 0 ∈ rpX C x := Yhj h
 obtain ⟨y, _, hr, e⟩ := Yp5.1 h1
 have h2 := (Yzt hr).2
 have h3 := Yme C y
 rw [e] at h2 h3
 omega
theorem Y1f9 {C : List YC} {I : List Int} {n : Int} {j : Nat} (h : j < I.length) (h0 : rqA C (I.take j) n = true) (e : ((C.getD (I.getD j 0).toNat default).each.length : Int) = n) : rqA C (I.take (j + 1)) n = true := by
 have e2 : I.getD j default = I.getD j 0 := rfl
 unfold rqA at *; rw [Yhy h, List.all_append, h0, e2]
 simp only [List.all_cons, List.all_nil, Bool.and_true, Bool.true_and]; exact decide_eq_true (show lnI C (I.getD j 0) = n from e)
theorem Y1fr {C : List YC} {I : List Int} {n : Int} {j : Nat} (h : j < I.length) (e : ¬ ((C.getD (I.getD j 0).toNat default).each.length : Int) = n) : rqA C I n = false := by
 unfold rqA; rw [List.all_eq_false]; exact ⟨I.getD j 0, Yhj h, by rw [show decide (lnI C (I.getD j 0) = n) = false from decide_eq_false e]; decide⟩
theorem Y1j1 {C : List YC} {x : YS} {j : Nat} (h0 : 0 < (rpX C x).length) (h : (rpX C x).length <= j) (e : rqA C ((rpX C x).take j) (lnI C ((rpX C x).getD 0 0)) = true) : rqB C x = true := by
 rw [List.take_of_length_le h] at e
 have e2 : (rpX C x).getD 0 default = (rpX C x).getD 0 0 := rfl
 unfold rqB; rw [e2, e, decide_eq_false (by omega)]; rfl
theorem Y1jx {C : List YC} {x : YS} {j : Nat} (h : j < (rpX C x).length) (e : ¬ ((C.getD ((rpX C x).getD j 0).toNat default).each.length : Int) = ((C.getD ((rpX C x).getD 0 0).toNat default).each.length : Int)) (q : Int) (O : List YS) : iR C x q O = (O, false, q) := by
 have e2 : (rpX C x).getD 0 default = (rpX C x).getD 0 0 := rfl
 have h1 := Y1fr h e
 unfold iR rqB; rw [e2, show lnI C ((rpX C x).getD 0 0) = ((C.getD ((rpX C x).getD 0 0).toNat default).each.length : Int) from rfl, h1]; simp
theorem Y1et {C : List YC} {x : YS} (h : rqB C x = true) {j : Nat} (hj : j < (rpX C x).length) : (C.getD ((rpX C x).getD j 0).toNat default).each.length = rqN C x := by
 simp only [rqB, rqA, Bool.and_eq_true, List.all_eq_true, decide_eq_true_eq] at h
 have := h.2 _ (Yhj hj)
 simp only [lnI] at this
 exact Int.ofNat.inj this
theorem Y1d7 {C : List YC} (hC : ∀ z ∈ C, mxP z <= 1000000000) {x : YS} (h0 : 0 < (rpX C x).length) : rqN C x <= 1000000000 := by
 have h1 := Yu9 h0
 have h2 := hC _ (Yhj h1.2.2)
 have h3 := Yug (C.getD ((rpX C x).getD 0 0).toNat default)
 have e2 : (rpX C x).getD 0 default = (rpX C x).getD 0 0 := rfl
 simp only [rqN, e2]; omega
theorem Y1ho {C : List YC} {x : YS} {a k : Nat} (h : (rpX C x).length <= k) : Ylz C a ((rpX C x).take k) = stq C x a := by rw [List.take_of_length_le h]
theorem Y1ld {C : List YC} {x : YS} {j : Nat} {q : Int} {O : List YS} (h : rqB C x = true) (hj : j <= rqN C x) (hn : rqN C x <= j) : iR C x q O = iI C x j q O := by
 unfold iR; rw [if_pos h, show rqN C x = j by omega]
theorem Y1j5 {C : List YC} {x : YS} {j : Nat} {q : Int} {O : List YS} (h : rqB C x = true) (hj : j < rqN C x) (h1 : (iI C x j q O).2.1 = true) (h2 : (bli x (stq C x j) (iI C x j q O).2.2).2.1 = false) : (iR C x q O).2.1 = false /\ (iR C x q O).2.2 = (bli x (stq C x j) (iI C x j q O).2.2).2.2 := by
 have e := Y17d C x j q O h1
 have e2 := Y1gm C x (j + 1) (rqN C x) q O (by rw [e]; exact h2) (by omega)
 unfold iR; rw [if_pos h, e2, e]; exact ⟨h2, rfl⟩
theorem Y1i6 {C : List YC} {k : Nat} {x : YC} : (C.map Yha).set k (Yhw x) = (C.set k x).map Yha := by rw [List.map_set, Ynl]
theorem dfI : (default : Int) = 0 := rfl
theorem Y1ci {C : List YC} {I : List Int} {j : Nat} (h : j < I.length) (h0 : rqA C (I.take j) (lnI C (I.getD 0 0)) = true) (e : ((C.getD (I.getD j 0).toNat default).each.length : Int) = ((C.getD (I.getD 0 0).toNat default).each.length : Int)) : rqA C (I.take (j + 1)) (lnI C (I.getD 0 0)) = true := Y1f9 h h0 e
theorem Y1i2 {k : Prop} [Decidable k] {x : Int} (h : 0 <= if k then x else -1) : k /\ 0 <= x := by
 split at h
 ·exact ⟨‹_›, h⟩
 ·omega
theorem Y1i5 (s : YS) (h : (Yj0 s 1 0).1 = true) : 0 <= (Yj0 s 1 0).2 /\ (Yj0 s 1 0).2 <= 2000 := by
 have h1 := ((Ysd s 1 0 (by decide)).1).1 h
 have h2 := (Ysd s 1 0 (by decide)).2 h
 omega
end Go.Proofs.YtpnaoendfpaodaaGreat
end
section
namespace Go.Proofs.YtpnaoendfpaodaaGreat
open Go Ab
set_option maxHeartbeats 4000000
abbrev Zg (t : YS) (C : List YC) (q : Int) : Ct := ⟨258, [.box [vI q]], [Yhu t, ll (C.map Yha), .one (.ptr 0 0)], .box [vI (bld t C q).2.2] :: Yk5 (bld t C q).1, .tup [Yjx (bld t C q).1 1, lb (bld t C q).2.1]⟩
def Z2y (t : YS) (C : List YC) (q : Int) (k : Nat × Int × List YS) : Lp Nat := .mk 163 1 (fun x => [(1, ll (C.map Yha)), (2, .one (.ptr 0 0)),
 (3, .one (.ptr 1 0)), (6, .one (.ptr 2 0)), (9, .one (.ptr 3 0)), (10, li ((k.fst : Int) + 1)), (11, .one (.ptr 4 0)), (14, li (if Ykk C (Yho (t.items.getD
 k.fst default) []) (Yho (t.items.getD k.fst default) []).length = true then cnN C (Yho (t.items.getD k.fst default) []) (Yho (t.items.getD k.fst default) []).length else 0)),
 (15, hs x 1), (16, hs x 0)]) (fun x => [.box [ha x 2], .box (vals (Yhg t)), .box [vI 0, vI 0, vS (ByteArray.mk #[]), .val (.lit (.slice none 0 0)), .val
 (.lit (.slice none 0 0))], .box [vI t.kind, vI t.number, vS t.text, .val (.lit (.slice none 0 0)), .ref 5], .box (vals (Yhg (t.items.getD k.fst
 default))), ho x 3]) (fun k1 => [.s (li (k1 : Int)), .s (lb (bJ C (t.items.getD k.fst default) k1 k.snd.fst k.snd.snd).snd.fst), .a (vI (bJ C (t.items.getD k.fst default) k1
 k.snd.fst k.snd.snd).snd.snd), .o (.arr true 5 ((bJ C (t.items.getD k.fst default) k1 k.snd.fst k.snd.snd).fst.map Yh9))]) (fun k1 => (k1 <= bN C (t.items.getD k.fst
 default) ∨ cnB C (t.items.getD k.fst default) = false) /\ k.fst + 1 < t.items.length /\ 0 <= k.snd.fst /\ (k.snd.snd.length : Int) + k.snd.fst <= 2000) (fun k1 => bN C (t.items.getD
 k.fst default) - k1) [.mk True (.exit 2) (fun x => [(1, ll (C.map Yha)), (2, .one (.ptr 0 0)), (3, .one (.ptr 1 0)), (6, .one (.ptr 2 0)), (9, .one (.ptr
 3 0)), (10, li ((k.fst : Int) + 1)), (15, hs x 0)]) (fun x => [.box [ha x 1], .box (vals (Yhg t)), .box [vI 0, vI 0, vS (ByteArray.mk #[]), .val (.lit
 (.slice none 0 0)), .val (.lit (.slice none 0 0))], .box [vI t.kind, vI t.number, vS t.text, .val (.lit (.slice none 0 0)), .ref 4], ho x 2]) [.s
 (lb (bR C (t.items.getD k.fst default) k.snd.fst k.snd.snd).snd.fst), .a (vI (bR C (t.items.getD k.fst default) k.snd.fst k.snd.snd).snd.snd), .o (.arr true 5 (List.map Yh9
 (bR C (t.items.getD k.fst default) k.snd.fst k.snd.snd).fst))]]
def Z2z (t : YS) (C : List YC) (q : Int) : Lp (Nat × Int × List YS) := .mk 163 1 (fun x => [(1, ll (C.map Yha)), (2, .one (.ptr 0 0)), (3,
 .one (.ptr 1 0)), (6, .one (.ptr 2 0)), (9, .one (.ptr 3 0)), (10, hs x 0)]) (fun x => [.box [ha x 1], .box (vals (Yhg t)), .box [vI 0, vI 0, vS
 (ByteArray.mk #[]), .val (.lit (.slice none 0 0)), .val (.lit (.slice none 0 0))], .box [vI t.kind, vI t.number, vS t.text, .val (.lit (.slice
 none 0 0)), .ref 4], ho x 2]) (fun k => [.s (li (k.fst : Int)), .a (vI k.snd.fst), .o (.arr true 5 (k.snd.snd.map Yh9))]) (fun k => t.items.length >= k.fst /\
 t.items.length <= 1000000000 /\ Yim t.items C (q - 1) [] = Yim (List.drop k.fst t.items) C k.snd.fst k.snd.snd /\ 0 <= k.snd.fst /\ (k.snd.snd.length : Int) + k.snd.fst <= 2000) (fun
 k => t.items.length - k.fst) [.mk ((Yim t.items C (q - 1) []).snd.fst = true) (.exit 0) (fun x => [(6, .one (.ptr 1 0)), (9, .one (.ptr 2 0))]) (fun x => [.box [ha x
 0], .box [vI 0, vI 0, vS (ByteArray.mk #[]), .val (.lit (.slice none 0 0)), .val (.lit (.slice none 0 0))], .box [vI t.kind, vI t.number, vS t.text,
 .val (.lit (.slice none 0 0)), .ref 3], ho x 1]) [.a (vI (Yim t.items C (q - 1) []).snd.snd), .o (.arr true 5 ((Yim t.items C (q - 1) []).fst.map Yh9))],
 .mk ((Yim t.items C (q - 1) []).snd.fst = false) .ret (fun x => [(6, .one (.ptr 1 0)), (7, hs x 2)]) (fun x => [.box [ha x 0], ho x 1]) [.a (vI (Yim t.items C (q - 1)
 []).snd.snd), .o (.box [vI 0, vI 0, vS (mkS []), .val (.lit (.slice none 0 0)), .val (.lit (.slice none 0 0))]), .s (lb false)]]
theorem Zbs (t : YS) (C : List YC) (q : Int) (h : 0 <= q /\ q <= 2000 /\ wY t <= 1000000000 /\ C.length <= 1000000000) (hC : ∀ (z : YC), z ∈ C -> mxP z <=
 1000000000) (ih : ∀ (z : YS), z ∈ t.items -> ∀ (C : List YC) (q : Int), 0 <= q /\ q <= 2000 /\ wY z <= 1000000000 /\ C.length <= 1000000000 -> (∀ (z : YC), z ∈ C -> mxP z <=
 1000000000) -> OK (Zg z C q)) (k : Nat × Int × List YS) : Lp.Sem Tryz.prog (Yhp Tryz.f258 1) (Z2y t C q k) := Yhz (fun k1 => .i ((k1 : Int) < if Ykk C
 (Yho (t.items.getD k.fst default) []) (Yho (t.items.getD k.fst default) []).length = true then cnN C (Yho (t.items.getD k.fst default) []) (Yho (t.items.getD k.fst default)
 []).length else 0) (.b (bJ C (t.items.getD k.fst default) k1 k.snd.fst k.snd.snd).snd.fst (.w (.draw [(6, [0]), (10, [6])]) (.d [.rd, .rd, .rd] (Z8d C (t.items.getD k.fst
 default) k1) (.d [.rd, .rd, .ptr] (Zg (t.items.getD k.fst default) (Yjr C k1 (Yho (t.items.getD k.fst default) []) (Yho (t.items.getD k.fst default) []).length) (bJ C
 (t.items.getD k.fst default) k1 k.snd.fst k.snd.snd).snd.snd) (.p ((((bJ C (t.items.getD k.fst default) k1 k.snd.fst k.snd.snd).fst.map Yh9).length + 1) * 80 <=
 140737488355328) (.r ((k1 : Int) + 1) (.g [0, 1, 2, 3, 4, 19] (k1 + 1) [.s (li ((k1 : Int) + 1)), .s (lb (bld (t.items.getD k.fst default) (Yjr C k1 (Yho (t.items.getD k.fst
 default) []) (Yho (t.items.getD k.fst default) []).length) (bJ C (t.items.getD k.fst default) k1 k.snd.fst k.snd.snd).snd.snd).snd.fst), .a (vI (bld (t.items.getD k.fst default)
 (Yjr C k1 (Yho (t.items.getD k.fst default) []) (Yho (t.items.getD k.fst default) []).length) (bJ C (t.items.getD k.fst default) k1 k.snd.fst k.snd.snd).snd.snd).snd.snd), .o
 (.arr true 5 ((bJ C (t.items.getD k.fst default) k1 k.snd.fst k.snd.snd).fst.map Yh9 ++ [Yhg (bld (t.items.getD k.fst default) (Yjr C k1 (Yho (t.items.getD k.fst
 default) []) (Yho (t.items.getD k.fst default) []).length) (bJ C (t.items.getD k.fst default) k1 k.snd.fst k.snd.snd).snd.snd).fst]))])))))) (.o 0 [0, 1, 2, 3, 5] [.s (lb (bJ C
 (t.items.getD k.fst default) k1 k.snd.fst k.snd.snd).snd.fst), .a (vI (bJ C (t.items.getD k.fst default) k1 k.snd.fst k.snd.snd).snd.snd), .o (.arr true 5 ((bJ
 C (t.items.getD k.fst default) k1 k.snd.fst k.snd.snd).fst.map Yh9))])) (.y false (.o 0 [0, 1, 2, 3, 5] [.s (lb (bJ C (t.items.getD k.fst default) k1 k.snd.fst k.snd.snd).snd.fst), .a (vI
 (bJ C (t.items.getD k.fst default) k1 k.snd.fst k.snd.snd).snd.snd), .o (.arr true 5 ((bJ C (t.items.getD k.fst default) k1 k.snd.fst k.snd.snd).fst.map Yh9))]))) (by
 intro k1 h; try dsimp only [Yhf, Yhl, Z2y] at h ⊢
 obtain ⟨i, m, O⟩ := k
 simp only at *
 have g1 := Y122 C (t.items.getD i default) k1 m O
 have g2 := Y1hh C (t.items.getD i default) k1 m O
 have g3 := @Y1h9 C (t.items.getD i default) k1 m O
 have g4 : ¬ ((k1 : Int) < if Ykk C (Yho (t.items.getD i default) []) (Yho (t.items.getD i default) []).length = true then cnN C (Yho (t.items.getD i default) []) (Yho (t.items.getD i default) []).length else 0) -> bR C (t.items.getD i default) m O = bJ C (t.items.getD i default) k1 m O := fun b => by
  cases hok : (bJ C (t.items.getD i default) k1 m O).2.1 with
  | false => exact g3 h.1 hok
  | true => exact Y1hs h.1 (by omega) hok b
 have g5 := @Y15l C (t.items.getD i default)
 have g6 : (bJ C (t.items.getD i default) k1 m O).2.1 = true -> ((k1 : Int) < if Ykk C (Yho (t.items.getD i default) []) (Yho (t.items.getD i default) []).length = true then cnN C (Yho (t.items.getD i default) []) (Yho (t.items.getD i default) []).length else 0) -> k1 < bN C (t.items.getD i default) /\ bN C (t.items.getD i default) <= 1000000000 /\ cnB C (t.items.getD i default) = true := fun a b => ⟨Y1jq (g1 (by omega) a).2.2 b, Y1lm hC (g1 (by omega) a).2.2, (g1 (by omega) a).2.2⟩
 have g7 := Y137 C (t.items.getD i default) k1
 have g8 := @Yl0 t i
 with_reducible repeat' (first | apply And.intro | exact zR | exact ih | (intro) | apply Z1 | apply Z1s | apply Z1k | apply Z3i | apply ih)
 all_goals ((try simp only [std, inj] at *); with_reducible and_intros)
 all_goals try first | with_reducible (first | apply Z1 | apply Z1s | apply Z1k | apply Z3i | apply ih) | (simp only [<- List.map_append]; with_reducible first | apply Z1 | apply Z1s | apply Z1k | apply Z3i | apply ih)
 all_goals try first | exact zw
 all_goals (try first | exact Yhj (by omega) | exact Y1is hC _ _ _ (by assumption) | (rw [g2 (by assumption)]; done) | (rw [g2 (by assumption)]; exact Yhe (C := Yh9) _ _) | (rw [g4 (by assumption)]; done) | (rw [g3 h.1 (by assumption)]; done) | exact Nat.le_trans (Nat.le_of_eq (Y137 C _ _)) (by omega))
 all_goals (try (have G := g6 (by assumption) (by assumption); have G1 := g1 (by omega) (by assumption); first | omega | (rw [g5 G.2.2 (by assumption) (by assumption) (by assumption)]; exact G.1) | (refine Nat.le_of_eq_of_le g7 ?_; omega))))
theorem Zbt (t : YS) (C : List YC) (q : Int) (h : 0 <= q /\ q <= 2000 /\ wY t <= 1000000000 /\ C.length <= 1000000000) (hC : ∀ (z : YC), z ∈ C -> mxP z <=
 1000000000) (ih : ∀ (z : YS), z ∈ t.items -> ∀ (C : List YC) (q : Int), 0 <= q /\ q <= 2000 /\ wY z <= 1000000000 /\ C.length <= 1000000000 -> (∀ (z : YC), z ∈ C -> mxP z <=
 1000000000) -> OK (Zg z C q)) : Lp.Sem Tryz.prog (Yhp Tryz.f258 0) (Z2z t C q) := Yhz (fun k => .z Yh9 t.items (.i ((k.fst : Int) < (↑(List.map Yh9
 t.items).length : Int)) (.x (k.fst : Int) (t.items.map Yh9) (Yhg (t.items.getD k.fst default)) (.r ((k.fst : Int) + 1) (.z Yh9 t.items (.i ((↑(List.map Yh9
 t.items).length : Int) <= (k.fst : Int) + 1) (.y true (.d [.rd, .rd, .ptr] (Zg (t.items.getD k.fst default) C k.snd.fst) (.b (!(bld (t.items.getD k.fst default) C
 k.snd.fst).snd.fst) (.o 1 [0, 2] [.a (vI (bld (t.items.getD k.fst default) C k.snd.fst).snd.snd), .o (.box [vI 0, vI 0, vS (ByteArray.mk #[]), .val (.lit (.slice none
 0 0)), .val (.lit (.slice none 0 0))]), .s (lb false)]) (.p (((k.snd.snd.map Yh9).length + 1) * 80 <= 140737488355328) (.r ((k.fst : Int) + 1) (.g [0, 1, 2, 3,
 11] (k.fst + 1, (bld (t.items.getD k.fst default) C k.snd.fst).snd.snd, k.snd.snd ++ [(bld (t.items.getD k.fst default) C k.snd.fst).fst]) [.s (li ((k.fst : Int) + 1)), .a (vI
 (bld (t.items.getD k.fst default) C k.snd.fst).snd.snd), .o (.arr true 5 (k.snd.snd.map Yh9 ++ [Yhg (bld (t.items.getD k.fst default) C k.snd.fst).fst]))])))))) (.r
 ((k.fst : Int) + 1) (.x ((k.fst : Int) + 1) (t.items.map Yh9) (Yhg (t.items.getD (k.fst + 1) default)) (.c [.rd] (Ze (t.items.getD (k.fst + 1) default)) (.b
 (!Yhn (t.items.getD (k.fst + 1) default)) (.d [.rd, .rd, .ptr] (Zg (t.items.getD k.fst default) C k.snd.fst) (.b (!(bld (t.items.getD k.fst default) C
 k.snd.fst).snd.fst) (.o 1 [0, 2] [.a (vI (bld (t.items.getD k.fst default) C k.snd.fst).snd.snd), .o (.box [vI 0, vI 0, vS (ByteArray.mk #[]), .val (.lit (.slice none
 0 0)), .val (.lit (.slice none 0 0))]), .s (lb false)]) (.p (((k.snd.snd.map Yh9).length + 1) * 80 <= 140737488355328) (.r ((k.fst : Int) + 1) (.g [0, 1, 2, 3,
 11] (k.fst + 1, (bld (t.items.getD k.fst default) C k.snd.fst).snd.snd, k.snd.snd ++ [(bld (t.items.getD k.fst default) C k.snd.fst).fst]) [.s (li ((k.fst : Int) + 1)), .a (vI
 (bld (t.items.getD k.fst default) C k.snd.fst).snd.snd), .o (.arr true 5 (k.snd.snd.map Yh9 ++ [Yhg (bld (t.items.getD k.fst default) C k.snd.fst).fst]))]))))) (.r
 ((k.fst : Int) + 1) (.d [.rd, .rd] (Z6z C (t.items.getD k.fst default)) (.l (Z2y t C q k) (Zbs t C q h hC ih k) [0, 1, 2, 3, 5, 4] [.s (li 0), .s (lb
 (Ykk C (Yho (t.items.getD k.fst default) []) (Yho (t.items.getD k.fst default) []).length && decide (0 <= cnN C (Yho (t.items.getD k.fst default) []) (Yho (t.items.getD k.fst
 default) []).length))), .a (vI k.snd.fst), .o (.arr true 5 (k.snd.snd.map Yh9))] 0 (.t (.b (!(bR C (t.items.getD k.fst default) k.snd.fst k.snd.snd).snd.fst) (.o 1 [0,
 2] [.a (vI (bR C (t.items.getD k.fst default) k.snd.fst k.snd.snd).snd.snd), .o (.box [vI 0, vI 0, vS (ByteArray.mk #[]), .val (.lit (.slice none 0 0)), .val
 (.lit (.slice none 0 0))]), .s (lb false)]) (.r ((k.fst : Int) + 1 + 1) (.g [0, 1, 2, 3, 4] (k.fst + 1 + 1, (bR C (t.items.getD k.fst default) k.snd.fst
 k.snd.snd).snd.snd, (bR C (t.items.getD k.fst default) k.snd.fst k.snd.snd).fst) [.s (li ((k.fst : Int) + 1 + 1)), .a (vI (bR C (t.items.getD k.fst default) k.snd.fst
 k.snd.snd).snd.snd), .o (.arr true 5 ((bR C (t.items.getD k.fst default) k.snd.fst k.snd.snd).fst.map Yh9))]))) .q)))))))))))) (.o 0 [0, 2, 3, 4] [.a (vI k.snd.fst), .o
 (.arr true 5 (k.snd.snd.map Yh9))]))) (by
 intro k h; try dsimp only [Yhf, Yhl, Z2z, Z2y] at h ⊢
 obtain ⟨i, m, O⟩ := k
 simp only at *
 have H := h.2.2.1
 have p1 : i < t.items.length -> (t.items.length <= i + 1 ∨ Yhn (t.items.getD (i + 1) default) = false) -> (bld (t.items.getD i default) C m).2.1 = true -> Yim (t.items.drop i) C m O = Yim (t.items.drop (i + 1)) C (bld (t.items.getD i default) C m).2.2 (O ++ [(bld (t.items.getD i default) C m).1]) := fun a b c => by rw [Yxq a b, if_pos c]
 have p2 : i < t.items.length -> (t.items.length <= i + 1 ∨ Yhn (t.items.getD (i + 1) default) = false) -> (bld (t.items.getD i default) C m).2.1 = false -> Yim (t.items.drop i) C m O = (O, false, (bld (t.items.getD i default) C m).2.2) := fun a b c => by rw [Yxq a b, if_neg (by rw [c]; decide)]
 have d1 : i + 1 < t.items.length -> Yhn (t.items.getD (i + 1) default) = true -> (bR C (t.items.getD i default) m O).2.1 = true -> Yim (t.items.drop i) C m O = Yim (t.items.drop (i + 1 + 1)) C (bR C (t.items.getD i default) m O).2.2 (bR C (t.items.getD i default) m O).1 := fun a b c => by rw [Y11a a b, if_pos c]
 have d2 : i + 1 < t.items.length -> Yhn (t.items.getD (i + 1) default) = true -> (bR C (t.items.getD i default) m O).2.1 = false -> Yim (t.items.drop i) C m O = bR C (t.items.getD i default) m O := fun a b c => by rw [Y11a a b, if_neg (by rw [c]; decide)]
 have e1 : t.items.length <= i -> Yim (t.items.drop i) C m O = (O, true, m) := fun a => Y1fd a
 have g4 := Y1c9 (t.items.getD i default) C m
 have g6 : 0 <= m -> (bR C (t.items.getD i default) m O).2.1 = true -> 0 <= (bR C (t.items.getD i default) m O).2.2 /\ ((bR C (t.items.getD i default) m O).1.length : Int) + (bR C (t.items.getD i default) m O).2.2 <= O.length + m := fun a b => ⟨(Y122 C _ _ m O a b).1, (Y122 C _ _ m O a b).2.1⟩
 have g8 := @Yl0 t i
 have g9 : (Ykk C (Yho (t.items.getD i default) []) (Yho (t.items.getD i default) []).length && decide (0 <= cnN C (Yho (t.items.getD i default) []) (Yho (t.items.getD i default) []).length)) = (bJ C (t.items.getD i default) 0 m O).2.1 := by rw [Yz6]; rfl
 have g10 : m = (bJ C (t.items.getD i default) 0 m O).2.2 := by rw [Yz6]
 have g11 : O = (bJ C (t.items.getD i default) 0 m O).1 := by rw [Yz6]
 with_reducible repeat' (first | apply And.intro | exact zR | exact ih | (intro) | apply Z1 | apply Z1s | apply Z1k | apply Z3i | apply ih)
 all_goals ((try simp only [std, inj] at *); with_reducible and_intros)
 all_goals try first | with_reducible (first | apply Z1 | apply Z1s | apply Z1k | apply Z3i | apply ih) | (simp only [<- List.map_append]; with_reducible first | apply Z1 | apply Z1s | apply Z1k | apply Z3i | apply ih)
 all_goals try first | exact zw
 all_goals (try simp only [Bool.not_eq_true', Bool.not_eq_false', decide_eq_false_iff_not, decide_eq_true_eq, Decidable.not_not] at *)
 all_goals (try first | exact Yhj (by omega) | exact hC _ (by assumption) | exact g9 | exact g10 | exact g11 | (rw [<- g11]; done) | exact Yhe (C := Yh9) _ _)
 all_goals (try first | (rw [H, p1 (by omega) (by first | exact Or.inl (by omega) | exact Or.inr (by assumption)) (by assumption)]) | (rw [H, p2 (by omega) (by first | exact Or.inl (by omega) | exact Or.inr (by assumption)) (by assumption)]) | (rw [H, d1 (by omega) (by assumption) (by assumption)]) | (rw [H, d2 (by omega) (by assumption) (by assumption)]; assumption) | (rw [H, d2 (by omega) (by assumption) (by assumption)]) | (rw [H, e1 (by omega)]))
 all_goals (try first | (have := g4 (by omega) (by assumption); first | omega | (simp only [List.length_singleton]; omega)) | (have := g6 (by omega) (by assumption); omega)))
theorem Zf1 (t : YS) (C : List YC) (q : Int) (h : 0 <= q /\ q <= 2000 /\ wY t <= 1000000000 /\ C.length <= 1000000000) (hC : ∀ z ∈ C, mxP z <= 1000000000) (ih : ∀ z ∈
 t.items, ∀ (C : List YC) (q : Int) (h : 0 <= q /\ q <= 2000 /\ wY z <= 1000000000 /\ C.length <= 1000000000) (hC : ∀ z ∈ C, mxP z <= 1000000000), Zg z C q)  : Zg t C
 q := Yhq Tryz.call258 Tryz.func258 (.r (q - 1) (.i (q - (1 : Int) < 0) (.w (.ghost (.nilbox 2 3 true 1)) (.w (.ghost (.nilbox 2 4 true 5)) (.f [3, 4] [.box [vI (q - 1)], .arr
 true 1 [], .arr true 5 []] (.tup [.agg [vI 0, vI 0, vS (ByteArray.mk #[]), .ref 1, .ref 2], lb false])))) (.i (t.kind = 1) (.c [.rd, .rd] (Z5y C t) (.c [.rd]
 (Ze t) (.b (Yhn t) (.y true (.w (.draw [(5, [2])]) (.d [.rd] (Za t) (.c [.rd] (Ze t) (.f [3, 4] [.box [vI (q - 1)], .arr true 1 (t.scopes.map Yhd),
 .arr true 5 (t.items.map Yh9)] (.tup [.agg [vI t.kind, vI t.number, vS t.text, .ref 1, .ref 2], lb !Yhn t])))))) (.i (fnd C t < 0) (.w (.draw [(5, [2])]) (.d
 [.rd] (Za t) (.c [.rd] (Ze t) (.f [3, 4] [.box [vI (q - 1)], .arr true 1 (t.scopes.map Yhd), .arr true 5 (t.items.map Yh9)] (.tup [.agg [vI
 t.kind, vI t.number, vS t.text, .ref 1, .ref 2], lb !Yhn t]))))) (.r (q - 1 + 1) (.x (fnd C t) (C.map Yha) (Yhw (C.getD (fnd C t).toNat default)) (.i
 ((C.getD (fnd C t).toNat default).depth ≠ 0) (.y true (.w (.ghost (.nilbox 2 3 true 1)) (.w (.ghost (.nilbox 2 4 true 5)) (.f [3, 4] [.box [vI (q - 1 + 1)], .arr true 1 [],
 .arr true 5 []] (.tup [.agg [vI 0, vI 0, vS (ByteArray.mk #[]), .ref 1, .ref 2], lb false]))))) (.x (fnd C t) (C.map Yha) (Yhw (C.getD (fnd C t).toNat
 default)) (.d [.rd, .ptr] (Z15 (C.getD (fnd C t).toNat default).form (q - 1 + 1)) (.b (!decide ((↑(Yhk (C.getD (fnd C t).toNat default).form) : Int) <= q - 1 + 1)) (.w
 (.ghost (.nilbox 2 3 true 1)) (.w (.ghost (.nilbox 2 4 true 5)) (.f [3, 4] [.box [vI (max (q - 1 + 1 - (↑(Yhk (C.getD (fnd C t).toNat default).form) : Int)) (-1 : Int))],
 .arr true 1 [], .arr true 5 []] (.tup [.agg [vI 0, vI 0, vS (ByteArray.mk #[]), .ref 1, .ref 2], lb false])))) (.x (fnd C t) (C.map Yha) (Yhw (C.getD
 (fnd C t).toNat default)) (.d [.rd] (Za (C.getD (fnd C t).toNat default).form) (.f [3, 4] [.box [vI (max (q - 1 + 1 - (↑(Yhk (C.getD (fnd C t).toNat default).form) :
 Int)) (-1 : Int))], .arr true 1 ((C.getD (fnd C t).toNat default).form.scopes.map Yhd), .arr true 5 ((C.getD (fnd C t).toNat default).form.items.map Yh9)]
 (.tup [.agg [vI (C.getD (fnd C t).toNat default).form.kind, vI (C.getD (fnd C t).toNat default).form.number, vS (C.getD (fnd C t).toNat default).form.text, .ref 1, .ref
 2], lb true])))))))))))))) (.w (.ghost (.nilbox 3 4 true 5)) (.l (Z2z t C q) (Zbt t C q h hC ih) [0, 1, 2, 3, 4] [.s (li 0), .a (vI (q - 1)), .o (.arr true 5
 [])] (0, q - 1, []) (.t (.w (.ghost (.nilbox 1 3 true 1)) (.f [4, 3] [.box [vI (Yim t.items C (q - 1) []).snd.snd], .arr true 1 [], .arr true 5 ((Yim
 t.items C (q - 1) []).fst.map Yh9)] (.tup [.agg [vI t.kind, vI t.number, vS t.text, .ref 1, .ref 2], lb true]))) (.t (.w (.ghost (.nilbox 1 3 true 1)) (.w (.ghost (.nilbox 1 4
 true 5)) (.f [2, 3] [.box [vI (Yim t.items C (q - 1) []).snd.snd], .arr true 1 [], .arr true 5 []] (.tup [.agg [vI 0, vI 0, vS (mkS []), .ref 1, .ref 2], lb
 false])))) .q))))))) (by
 dsimp only [Yhf, Zg, Yhl, Z2z]
 have g2 := Yme C t
 have g3 := @Yzf C hC t
 have g4 := Yj6 t
 with_reducible repeat' (first | apply And.intro | exact zR | exact ih | (intro) | apply Z1 | apply Z1s | apply Z1k | apply Z3i)
 all_goals ((try simp only [std, inj] at *); with_reducible and_intros)
 all_goals try with_reducible first | apply Z1 | apply Z1s | apply Z1k | apply Z3i | apply ih
 all_goals try first | exact zw
 all_goals (try simp only [Bool.not_eq_true', Bool.not_eq_false', decide_eq_false_iff_not, decide_eq_true_eq, Decidable.not_not] at *)
 all_goals (try first | exact hC _ (by assumption) | exact Yzf hC (by omega) | (rw [Y1ka (by omega)]) | (rw [Y1ki (by omega) (by assumption) (by first | exact Or.inl (by assumption) | exact Or.inr (by omega))]) | (rw [Y1jm (by omega) (by assumption) (by assumption) (by omega) (by assumption)]) | (rw [Y1jl (by omega) (by assumption) (by assumption) (by omega) (by assumption) (by omega)]) | (rw [Y1j0 (by omega) (by assumption) (by assumption) (by omega) (by assumption) (by omega)]) | (rw [Y1j2 (by omega) (by assumption) (by assumption)]) | (rw [Y1k0 (by omega) (by assumption) (by assumption)]))
 all_goals (try first | rfl | (dsimp only; omega) | (simp only [List.length_nil]; omega)))
theorem Zd2 (t : YS) : ∀ (C : List YC) (q : Int) (h : 0 <= q /\ q <= 2000 /\ wY t <= 1000000000 /\ C.length <= 1000000000) (hC : ∀ z ∈ C, mxP z <= 1000000000), Zg t C q := YS.ind (P := fun t => ∀ (C : List YC) (q : Int) (h : 0 <= q /\ q <= 2000 /\ wY t <= 1000000000 /\ C.length <= 1000000000) (hC : ∀ z ∈ C, mxP z <= 1000000000), Zg t C q) (fun t ih C q h hC => Zf1 t C q h hC ih) t
abbrev Z9 (t : YS) (C : List YC) (q : Int) : Ct := ⟨259, [.box [vI q]], [.one (.ptr 0 0), Yhu t, ll (C.map Yha)], .box [vI (bli t C q).2.2] :: Yk5 (bli t C q).1, .tup [Yjx (bli t C q).1 1, lb (bli t C q).2.1]⟩
def Z30 (t : YS) (C : List YC) (q : Int) (k : Nat × Int × List YS) (k1 : Nat) : Lp Nat := .mk 206 1 (fun x => [(0, .one (.ptr 0 0)), (2, ll (List.map
 Yha C)), (4, .one (.ptr 1 0)), (6, .one (.ptr 2 0)), (10, .one (.ptr 3 0)), (11, li ((k.fst : Int) + 1)), (12, .one (.ptr 4 0)), (15, .one (.ref 5)),
 (16, li (↑((C.getD ((rpi C (t.items.getD k.fst default) []).getD 0 0).toNat default).each.map Yha).length : Int)), (19, li (k1 : Int)), (20, .one (.ref 6)), (171,
 .one (.ref 5)), (172, li (↑((rpi C (t.items.getD k.fst default) []).map Yhd).length : Int)), (173, hs x 0)]) (fun x => [.box [vI (iI C (t.items.getD k.fst default) k1
 k.snd.fst k.snd.snd).snd.snd], .box (vals (Yhg t)), .box [vI 0, vI 0, vS (ByteArray.mk #[]), .val (.lit (.slice none 0 0)), .val (.lit (.slice none 0
 0))], .box [vI t.kind, vI t.number, vS t.text, .ref 7, .ref 8], .box (vals (Yhg (t.items.getD k.fst default))), .arr true 1 ((rpi C (t.items.getD k.fst
 default) []).map Yhd), ho x 1, .arr true 1 (t.scopes.map Yhd), .arr true 5 ((iI C (t.items.getD k.fst default) k1 k.snd.fst k.snd.snd).fst.map Yh9)]) (fun k2 => [.s (li
 (k2 : Int)), .o (.arr false 12 ((Ylz C k1 (List.take k2 (rpX C (t.items.getD k.fst default)))).map Yha))]) (fun k2 => k2 <= (rpX C (t.items.getD k.fst
 default)).length /\ (rpX C (t.items.getD k.fst default)).length <= 1000000001 /\ k1 < rqN C (t.items.getD k.fst default) /\ rqB C (t.items.getD k.fst default) = true) (fun k2 => (rpX
 C (t.items.getD k.fst default)).length - k2) [.mk True (.exit 6) (fun x => [(0, .one (.ptr 0 0)), (2, ll (C.map Yha)), (4, .one (.ptr 1 0)), (6, .one (.ptr 2
 0)), (10, .one (.ptr 3 0)), (11, li ((k.fst : Int) + 1)), (12, .one (.ptr 4 0)), (15, .one (.ref 5)), (16, li (↑((C.getD ((rpi C (t.items.getD k.fst
 default) []).getD 0 0).toNat default).each.map Yha).length : Int)), (19, li (k1 : Int)), (20, .one (.ref 6))]) (fun x => [.box [vI (iI C (t.items.getD k.fst default) k1 k.snd.fst
 k.snd.snd).snd.snd], .box (vals (Yhg t)), .box [vI 0, vI 0, vS (ByteArray.mk #[]), .val (.lit (.slice none 0 0)), .val (.lit (.slice none 0 0))],
 .box [vI t.kind, vI t.number, vS t.text, .ref 7, .ref 8], .box (vals (Yhg (t.items.getD k.fst default))), .arr true 1 ((rpi C (t.items.getD k.fst
 default) []).map Yhd), ho x 0, .arr true 1 (t.scopes.map Yhd), .arr true 5 ((iI C (t.items.getD k.fst default) k1 k.snd.fst k.snd.snd).fst.map Yh9)]) [.o (.arr false
 12 ((stq C (t.items.getD k.fst default) k1).map Yha))]]
def Z31 (t : YS) (C : List YC) (q : Int) (k : Nat × Int × List YS) : Lp Nat := .mk 206 1 (fun x => [(0, .one (.ptr 0 0)), (2, ll (C.map Yha)),
 (4, .one (.ptr 1 0)), (6, .one (.ptr 2 0)), (10, .one (.ptr 3 0)), (11, li ((k.fst : Int) + 1)), (12, .one (.ptr 4 0)), (15, .one (.ref 5)), (16, li
 (↑((C.getD ((rpi C (t.items.getD k.fst default) []).getD 0 0).toNat default).each.map Yha).length : Int)), (19, hs x 0)]) (fun x => [.box [ha x 1], .box (vals
 (Yhg t)), .box [vI 0, vI 0, vS (ByteArray.mk #[]), .val (.lit (.slice none 0 0)), .val (.lit (.slice none 0 0))], .box [vI t.kind, vI t.number, vS
 t.text, .ref 6, .ref 7], .box (vals (Yhg (t.items.getD k.fst default))), .arr true 1 ((rpi C (t.items.getD k.fst default) []).map Yhd), .arr true 1 (List.map
 Yhd t.scopes), ho x 2]) (fun k1 => [.s (li (k1 : Int)), .a (vI (iI C (t.items.getD k.fst default) k1 k.snd.fst k.snd.snd).snd.snd), .o (.arr true 5 ((iI C
 (t.items.getD k.fst default) k1 k.snd.fst k.snd.snd).fst.map Yh9))]) (fun k1 => k1 <= rqN C (t.items.getD k.fst default) /\ rqB C (t.items.getD k.fst default) = true /\ (iI C (t.items.getD
 k.fst default) k1 k.snd.fst k.snd.snd).snd.fst = true /\ (rpX C (t.items.getD k.fst default)).length <= 1000000001 /\ k.fst + 1 < t.items.length /\ t.items.length <= 1000000000 /\
 Yhn (t.items.getD (k.fst + 1) default) = true /\ 0 <= k.snd.fst /\ (k.snd.snd.length : Int) + k.snd.fst <= 2000 /\ Yic t.items C (q - 1) [] = Yic (List.drop k.fst t.items) C
 k.snd.fst k.snd.snd) (fun k1 => rqN C (t.items.getD k.fst default) - k1) [.mk ((iR C (t.items.getD k.fst default) k.snd.fst k.snd.snd).snd.fst = true) (.exit 4) (fun x => [(0,
 .one (.ptr 0 0)), (2, ll (C.map Yha)), (4, .one (.ptr 1 0)), (6, .one (.ptr 2 0)), (10, .one (.ptr 3 0)), (11, li ((k.fst : Int) + 1))]) (fun x =>
 [.box [ha x 0], .box (vals (Yhg t)), .box [vI 0, vI 0, vS (ByteArray.mk #[]), .val (.lit (.slice none 0 0)), .val (.lit (.slice none 0 0))], .box
 [vI t.kind, vI t.number, vS t.text, .ref 4, .ref 5], .arr true 1 (t.scopes.map Yhd), ho x 1]) [.a (vI (iR C (t.items.getD k.fst default) k.snd.fst k.snd.snd).snd.snd),
 .o (.arr true 5 ((iR C (t.items.getD k.fst default) k.snd.fst k.snd.snd).fst.map Yh9))], .mk ((Yic t.items C (q - 1) []).snd.fst = false) .ret (fun x => [(6, .one
 (.ptr 1 0)), (7, hs x 2)]) (fun x => [.box [ha x 0], ho x 1]) [.a (vI (Yic t.items C (q - 1) []).snd.snd), .o (.box [vI 0, vI 0, vS (mkS []), .val (.lit (.slice
 none 0 0)), .val (.lit (.slice none 0 0))]), .s (lb false)]]
def Z32 (t : YS) (C : List YC) (q : Int) (k : Nat × Int × List YS) : Lp Nat := .mk 206 1 (fun x => [(0, .one (.ptr 0 0)), (2, ll (C.map Yha)),
 (4, .one (.ptr 1 0)), (6, .one (.ptr 2 0)), (10, .one (.ptr 3 0)), (11, li ((k.fst : Int) + 1)), (12, .one (.ptr 4 0)), (15, .one (.ref 5)), (16, li
 (↑((C.getD ((rpi C (t.items.getD k.fst default) []).getD 0 0).toNat default).each.map Yha).length : Int)), (148, .one (.ref 5)), (149, li (↑((rpi C
 (t.items.getD k.fst default) []).map Yhd).length : Int)), (150, hs x 0)]) (fun x => [.box [vI k.snd.fst], .box (vals (Yhg t)), .box [vI 0, vI 0, vS (ByteArray.mk #[]), .val
 (.lit (.slice none 0 0)), .val (.lit (.slice none 0 0))], .box [vI t.kind, vI t.number, vS t.text, .ref 6, .ref 7], .box (vals (Yhg (t.items.getD
 k.fst default))), .arr true 1 ((rpi C (t.items.getD k.fst default) []).map Yhd), .arr true 1 (t.scopes.map Yhd), .arr true 5 (k.snd.snd.map Yh9)]) (fun
 k1 => [.s (li (k1 : Int))]) (fun k1 => k1 <= (rpX C (t.items.getD k.fst default)).length /\ (rpX C (t.items.getD k.fst default)).length <= 1000000001 /\ rqA C (List.take k1 (rpX C
 (t.items.getD k.fst default))) (lnI C ((rpX C (t.items.getD k.fst default)).getD 0 default)) = true /\ 0 < (rpX C (t.items.getD k.fst default)).length /\ k.fst + 1 < t.items.length
 /\ t.items.length <= 1000000000 /\ Yhn (t.items.getD (k.fst + 1) default) = true /\ 0 <= k.snd.fst /\ (k.snd.snd.length : Int) + k.snd.fst <= 2000 /\ Yic t.items C (q - 1) [] = Yic
 (List.drop k.fst t.items) C k.snd.fst k.snd.snd) (fun k1 => (rpX C (t.items.getD k.fst default)).length - k1) [.mk (rqB C (t.items.getD k.fst default) = true) (.exit 2) (fun x =>
 [(0, .one (.ptr 0 0)), (2, ll (C.map Yha)), (4, .one (.ptr 1 0)), (6, .one (.ptr 2 0)), (10, .one (.ptr 3 0)), (11, li ((k.fst : Int) + 1)), (12, .one
 (.ptr 4 0)), (15, .one (.ref 5)), (16, li (↑((C.getD ((rpi C (t.items.getD k.fst default) []).getD 0 0).toNat default).each.map Yha).length : Int))]) (fun x =>
 [.box [vI k.snd.fst], .box (vals (Yhg t)), .box [vI 0, vI 0, vS (ByteArray.mk #[]), .val (.lit (.slice none 0 0)), .val (.lit (.slice none 0 0))],
 .box [vI t.kind, vI t.number, vS t.text, .ref 6, .ref 7], .box (vals (Yhg (t.items.getD k.fst default))), .arr true 1 ((rpi C (t.items.getD k.fst
 default) []).map Yhd), .arr true 1 (t.scopes.map Yhd), .arr true 5 (k.snd.snd.map Yh9)]) [], .mk ((Yic t.items C (q - 1) []).snd.fst = false) .ret (fun x => [(6,
 .one (.ptr 1 0)), (7, hs x 2)]) (fun x => [.box [ha x 0], ho x 1]) [.a (vI (Yic t.items C (q - 1) []).snd.snd), .o (.box [vI 0, vI 0, vS (mkS []), .val (.lit
 (.slice none 0 0)), .val (.lit (.slice none 0 0))]), .s (lb false)]]
def Z33 (t : YS) (C : List YC) (q : Int) : Lp (Nat × Int × List YS) := .mk 206 1 (fun x => [(0, .one (.ptr 0 0)), (2, ll (C.map Yha)), (4,
 .one (.ptr 1 0)), (6, .one (.ptr 2 0)), (10, .one (.ptr 3 0)), (11, hs x 0)]) (fun x => [.box [ha x 1], .box (vals (Yhg t)), .box [vI 0, vI 0, vS
 (ByteArray.mk #[]), .val (.lit (.slice none 0 0)), .val (.lit (.slice none 0 0))], .box [vI t.kind, vI t.number, vS t.text, .ref 4, .ref 5], .arr
 true 1 (t.scopes.map Yhd), ho x 2]) (fun k => [.s (li (k.fst : Int)), .a (vI k.snd.fst), .o (.arr true 5 (k.snd.snd.map Yh9))]) (fun k => t.items.length >= k.fst
 /\ t.items.length <= 1000000000 /\ Yic t.items C (q - 1) [] = Yic (List.drop k.fst t.items) C k.snd.fst k.snd.snd /\ 0 <= k.snd.fst /\ (k.snd.snd.length : Int) + k.snd.fst <= 2000)
 (fun k => t.items.length - k.fst) [.mk ((Yic t.items C (q - 1) []).snd.fst = true) (.exit 0) (fun x => [(6, .one (.ptr 1 0)), (10, .one (.ptr 2 0))]) (fun x => [.box
 [ha x 0], .box [vI 0, vI 0, vS (ByteArray.mk #[]), .val (.lit (.slice none 0 0)), .val (.lit (.slice none 0 0))], .box [vI t.kind, vI t.number, vS
 t.text, .ref 3, .ref 4], .arr true 1 (t.scopes.map Yhd), ho x 1]) [.a (vI (Yic t.items C (q - 1) []).snd.snd), .o (.arr true 5 ((Yic t.items C (q
 - 1) []).fst.map Yh9))], .mk ((Yic t.items C (q - 1) []).snd.fst = false) .ret (fun x => [(6, .one (.ptr 1 0)), (7, hs x 2)]) (fun x => [.box [ha x 0], ho x 1]) [.a (vI (Yic
 t.items C (q - 1) []).snd.snd), .o (.box [vI 0, vI 0, vS (mkS []), .val (.lit (.slice none 0 0)), .val (.lit (.slice none 0 0))]), .s (lb false)]]
theorem Zbu (t : YS) (C : List YC) (q : Int) (h : 0 <= q /\ q <= 2000 /\ wY t <= 1000000000 /\ C.length <= 1000000000) (hC : ∀ (z : YC), z ∈ C -> mxP z <=
 1000000000) (ih : ∀ (z : YS), z ∈ t.items -> ∀ (C : List YC) (q : Int), 0 <= q /\ q <= 2000 /\ wY z <= 1000000000 /\ C.length <= 1000000000 -> (∀ (z : YC), z ∈ C -> mxP z <=
 1000000000) -> OK (Z9 z C q)) (k : Nat × Int × List YS) (k1 : Nat) : Lp.Sem Tryz.prog (Yhp Tryz.f259 3) (Z30 t C q k k1) := Yhz (fun k2 => .i ((k2 : Int)
 < (↑((rpi C (t.items.getD k.fst default) []).map Yhd).length : Int)) (.p (0 <= (k2 : Int) /\ (k2 : Int).toNat < ((rpi C (t.items.getD k.fst default)
 []).map Yhd).length) (.w (.cells (Yhd ((rpi C (t.items.getD k.fst default) []).getD (k2 : Int).toNat default))) (.p (((rpi C (t.items.getD k.fst default) []).map Yhd)[(↑k2 :
 Int).toNat]? = some [cI ((rpi C (t.items.getD k.fst default) []).getD (k2 : Int).toNat 0)]) (.x ((rpi C (t.items.getD k.fst default) []).getD (k2 : Int).toNat 0) (List.map
 Yha C) (Yhw (C.getD ((rpi C (t.items.getD k.fst default) []).getD (k2 : Int).toNat 0).toNat default)) (.x (k1 : Int) ((C.getD ((rpi C (t.items.getD
 k.fst default) []).getD (k2 : Int).toNat 0).toNat default).each.map Yha) (Yhw ((C.getD ((rpi C (t.items.getD k.fst default) []).getD (k2 : Int).toNat 0).toNat default).each.getD k1
 default)) (.p (0 <= (rpi C (t.items.getD k.fst default) []).getD (k2 : Int).toNat 0 /\ ((rpi C (t.items.getD k.fst default) []).getD (k2 : Int).toNat 0).toNat < (List.map Yha
 (Ylz C k1 (List.take k2 (rpX C (t.items.getD k.fst default))))).length) (.w (.cells (Yhw ((Ylz C k1 (List.take k2 (rpX C (t.items.getD k.fst default)))).getD ((rpi C
 (t.items.getD k.fst default) []).getD (k2 : Int).toNat 0).toNat default))) (.p (((Ylz C k1 (List.take k2 (rpX C (t.items.getD k.fst default)))).map Yha)[((rpi C
 (t.items.getD k.fst default) []).getD (k2 : Int).toNat 0).toNat]? = some (Yhw ((Ylz C k1 (List.take k2 (rpX C (t.items.getD k.fst default)))).getD ((rpi C (t.items.getD
 k.fst default) []).getD (k2 : Int).toNat 0).toNat default))) (.r ((k2 : Int) + 1) (.g [0, 1, 2, 3, 4, 5, 6, 7, 8] (k2 + 1) [.s (li ((k2 : Int) + 1)), .o (.arr false 12
 (((Ylz C k1 (List.take k2 (rpX C (t.items.getD k.fst default)))).map Yha).set ((rpi C (t.items.getD k.fst default) []).getD (k2 : Int).toNat 0).toNat (Yhw
 ((C.getD ((rpi C (t.items.getD k.fst default) []).getD (k2 : Int).toNat 0).toNat default).each.getD k1 default))))])))))))))) (.o 0 [0, 1, 2, 3, 4, 5, 6, 7, 8] [.o (.arr false
 12 ((Ylz C k1 (List.take k2 (rpX C (t.items.getD k.fst default)))).map Yha))])) (by
 intro k2 h; try dsimp only [Yhf, Yhl, Z30] at h ⊢
 obtain ⟨i, m, O⟩ := k
 simp only at *
 have hB := h.2.2.2
 have g1 := @Yu9 C (t.items.getD i default) k2
 have g3 : k2 < (rpX C (t.items.getD i default)).length -> (C.getD ((rpX C (t.items.getD i default)).getD k2 0).toNat default).each.length = rqN C (t.items.getD i default) := fun a => Y1et hB a
 have g4 := Y14b C k1 ((rpX C (t.items.getD i default)).take k2)
 have g5 : k2 < (rpX C (t.items.getD i default)).length -> (List.map Yha (Ylz C k1 ((rpX C (t.items.getD i default)).take k2))).set ((rpX C (t.items.getD i default)).getD k2 0).toNat (Yhw ((C.getD ((rpX C (t.items.getD i default)).getD k2 0).toNat default).each.getD k1 default)) = List.map Yha (Ylz C k1 ((rpX C (t.items.getD i default)).take (k2 + 1))) := fun a => by rw [Y1i6, Y1dp a]; rfl
 have g6 : (rpX C (t.items.getD i default)).length <= k2 -> Ylz C k1 ((rpX C (t.items.getD i default)).take k2) = stq C (t.items.getD i default) k1 := fun a => Y1ho a
 with_reducible repeat' (first | apply And.intro | exact zR | exact ih | (intro) | apply Zq | apply Z3 | apply Z2 | apply Z0 | apply Z1q)
 all_goals ((try simp only [std, inj] at *); with_reducible and_intros)
 all_goals try with_reducible first | apply Zq | apply Z3 | apply Z2 | apply Z0 | apply Z1q | apply ih
 all_goals try first | exact zw
 all_goals (try simp only [Bool.not_eq_true', Bool.not_eq_false', decide_eq_false_iff_not, decide_eq_true_eq, Decidable.not_not] at *)
 all_goals (try simp only [rpX, rqN, dfI] at *)
 all_goals (try first | exact hB | omega | (have := g1 (by omega); omega) | (have := g1 (by omega); exact Ylc this.2.2 (Ynl _)) | exact Ylc (by have := g3 (by omega); omega) (Ynl _) | exact g5 (by omega) | exact g6 (by omega) | (rw [g6 (by omega)]; done)))
theorem Zbv (t : YS) (C : List YC) (q : Int) (h : 0 <= q /\ q <= 2000 /\ wY t <= 1000000000 /\ C.length <= 1000000000) (hC : ∀ (z : YC), z ∈ C -> mxP z <=
 1000000000) (ih : ∀ (z : YS), z ∈ t.items -> ∀ (C : List YC) (q : Int), 0 <= q /\ q <= 2000 /\ wY z <= 1000000000 /\ C.length <= 1000000000 -> (∀ (z : YC), z ∈ C -> mxP z <=
 1000000000) -> OK (Z9 z C q)) (k : Nat × Int × List YS) : Lp.Sem Tryz.prog (Yhp Tryz.f259 2) (Z31 t C q k) := Yhz (fun k1 => .i ((k1 : Int) < (↑(List.map
 Yha (C.getD ((rpi C (t.items.getD k.fst default) []).getD 0 0).toNat default).each).length : Int)) (.w (.bool false) (.p (∀ (e : List Cell), e ∈ C.map Yha ->
 e.length = 12) (.p ((0 + (C.map Yha).length) * 192 <= 140737488355328) (.z Yhd (rpi C (t.items.getD k.fst default) []) (.l (Z30 t C q k k1) (Zbu t C
 q h hC ih k k1) [0, 1, 2, 3, 4, 5, 8, 6, 7] [.s (li 0), .o (.arr false 12 (C.map Yha))] 0 (.t (.d [.ptr, .rd, .rd] (Z9 (t.items.getD k.fst default) (stq C
 (t.items.getD k.fst default) k1) (iI C (t.items.getD k.fst default) k1 k.snd.fst k.snd.snd).snd.snd) (.b (!(bli (t.items.getD k.fst default) (stq C (t.items.getD k.fst default)
 k1) (iI C (t.items.getD k.fst default) k1 k.snd.fst k.snd.snd).snd.snd).snd.fst) (.o 1 [0, 2] [.a (vI (bli (t.items.getD k.fst default) (stq C (t.items.getD k.fst default) k1) (iI
 C (t.items.getD k.fst default) k1 k.snd.fst k.snd.snd).snd.snd).snd.snd), .o (.box [vI 0, vI 0, vS (ByteArray.mk #[]), .val (.lit (.slice none 0 0)), .val (.lit
 (.slice none 0 0))]), .s (lb false)]) (.p ((((iI C (t.items.getD k.fst default) k1 k.snd.fst k.snd.snd).fst.map Yh9).length + 1) * 80 <= 140737488355328) (.r ((↑k1 :
 Int) + 1) (.g [0, 1, 2, 3, 4, 5, 7, 14] (k1 + 1) [.s (li ((k1 : Int) + 1)), .a (vI (bli (t.items.getD k.fst default) (stq C (t.items.getD k.fst default) k1) (iI C (t.items.getD
 k.fst default) k1 k.snd.fst k.snd.snd).snd.snd).snd.snd), .o (.arr true 5 ((iI C (t.items.getD k.fst default) k1 k.snd.fst k.snd.snd).fst.map Yh9 ++ [Yhg (bli
 (t.items.getD k.fst default) (stq C (t.items.getD k.fst default) k1) (iI C (t.items.getD k.fst default) k1 k.snd.fst k.snd.snd).snd.snd).fst]))]))))) .q)))))) (.o 0 [0, 1, 2, 3,
 6, 7] [.a (vI (iI C (t.items.getD k.fst default) k1 k.snd.fst k.snd.snd).snd.snd), .o (.arr true 5 ((iI C (t.items.getD k.fst default) k1 k.snd.fst
 k.snd.snd).fst.map Yh9))])) (by
 intro k1 h; try dsimp only [Yhf, Yhl, Z31, Z30] at h ⊢
 obtain ⟨i, m, O⟩ := k
 simp only at *
 have hd := h.2.2.2.2.2.2.1
 have H := h.2.2.2.2.2.2.2.2.2
 have hB := h.2.1
 have hI := h.2.2.1
 have hj := h.1
 have hi := h.2.2.2.2.1
 have g1 := Y17d C (t.items.getD i default) k1 m O hI
 have g2 := Y1gg C (t.items.getD i default) k1 m O (by omega) hI
 have g8 := @Yl0 t i (Nat.lt_of_succ_lt hi)
 have g9 : Ylz C k1 ((rpX C (t.items.getD i default)).take 0) = C := rfl
 have g11 : 0 < (rpX C (t.items.getD i default)).length := by
  simp only [rqB, Bool.and_eq_true, Bool.not_eq_true', decide_eq_false_iff_not] at hB
  omega
 have g12 := Y1d7 hC g11
 have b0 : k1 < rqN C (t.items.getD i default) -> (bli (t.items.getD i default) (stq C (t.items.getD i default) k1) (iI C (t.items.getD i default) k1 m O).2.2).2.1 = false -> (Yic t.items C (q - 1) []).2.1 = false /\ (Yic t.items C (q - 1) []).2.2 = (bli (t.items.getD i default) (stq C (t.items.getD i default) k1) (iI C (t.items.getD i default) k1 m O).2.2).2.2 := fun a c => by
  have r := Y1j5 hB a hI c
  rw [H, Yr6 hi hd, if_neg (by rw [r.1]; decide)]; exact r
 have b1 : rqN C (t.items.getD i default) <= k1 -> iR C (t.items.getD i default) m O = iI C (t.items.getD i default) k1 m O := fun a => Y1ld hB hj a
 with_reducible repeat' (first | apply And.intro | exact zR | exact ih | (intro) | apply Zq | apply Z3 | apply Z2 | apply Z0 | apply Z1q | apply ih)
 all_goals ((try simp only [std, inj] at *); with_reducible and_intros)
 all_goals try first | with_reducible (first | apply Zq | apply Z3 | apply Z2 | apply Z0 | apply Z1q | apply ih) | (simp only [<- List.map_append]; with_reducible first | apply Zq | apply Z3 | apply Z2 | apply Z0 | apply Z1q | apply ih)
 all_goals try first | exact zw
 all_goals (try simp only [Bool.not_eq_true', Bool.not_eq_false', decide_eq_false_iff_not, decide_eq_true_eq, Decidable.not_not] at *)
 all_goals (try simp only [rpX, rqN, dfI] at *)
 all_goals (try first | exact hd | exact H | exact hB | exact Yhj hi | exact hC _ (by assumption) | exact Y1jz hC _ _ _ (by assumption) | exact g9.symm | (rw [g9]; done) | (rw [Y14b]; omega) | omega | exact (b0 (by omega) (by assumption)).1 | exact (b0 (by omega) (by assumption)).2.symm | (rw [g1]; done) | (rw [g1]; assumption) | (rw [g1]; exact Yhe (C := Yh9) _ _) | (rw [b1 (by omega)]; done) | (rw [b1 (by omega)]; exact hI))
 all_goals (try exact Yhj (Nat.lt_of_succ_lt hi)))
theorem Zbw (t : YS) (C : List YC) (q : Int) (h : 0 <= q /\ q <= 2000 /\ wY t <= 1000000000 /\ C.length <= 1000000000) (hC : ∀ (z : YC), z ∈ C -> mxP z <=
 1000000000) (ih : ∀ (z : YS), z ∈ t.items -> ∀ (C : List YC) (q : Int), 0 <= q /\ q <= 2000 /\ wY z <= 1000000000 /\ C.length <= 1000000000 -> (∀ (z : YC), z ∈ C -> mxP z <=
 1000000000) -> OK (Z9 z C q)) (k : Nat × Int × List YS) : Lp.Sem Tryz.prog (Yhp Tryz.f259 1) (Z32 t C q k) := Yhz (fun k1 => .i ((k1 : Int) < (↑(List.map
 Yhd (rpi C (t.items.getD k.fst default) [])).length : Int)) (.p (0 <= (k1 : Int) /\ (k1 : Int).toNat < ((rpi C (t.items.getD k.fst default) []).map Yhd).length) (.w (.cells
 (Yhd ((rpi C (t.items.getD k.fst default) []).getD (k1 : Int).toNat default))) (.p (((rpi C (t.items.getD k.fst default) []).map Yhd)[(k1 : Int).toNat]? = some [cI ((rpi
 C (t.items.getD k.fst default) []).getD (k1 : Int).toNat 0)]) (.x ((rpi C (t.items.getD k.fst default) []).getD (k1 : Int).toNat 0) (C.map Yha) (Yhw (C.getD ((rpi
 C (t.items.getD k.fst default) []).getD (k1 : Int).toNat 0).toNat default)) (.z Yha (C.getD ((rpi C (t.items.getD k.fst default) []).getD (k1 : Int).toNat 0).toNat
 default).each (.i ((↑((C.getD ((rpi C (t.items.getD k.fst default) []).getD (k1 : Int).toNat 0).toNat default).each.map Yha).length : Int) ≠ (↑(List.map Yha
 (C.getD ((rpi C (t.items.getD k.fst default) []).getD 0 0).toNat default).each).length : Int)) (.o 1 [0, 2] [.a (vI k.snd.fst), .o (.box [vI 0, vI 0, vS (ByteArray.mk #[]),
 .val (.lit (.slice none 0 0)), .val (.lit (.slice none 0 0))]), .s (lb false)]) (.r ((k1 : Int) + 1) (.g [0, 1, 2, 3, 4, 5, 6, 7] (k1 + 1) [.s (li ((↑k1 :
 Int) + 1))])))))))) (.o 0 [0, 1, 2, 3, 4, 5, 6, 7] [])) (by
 intro k1 h; try dsimp only [Yhf, Yhl, Z32] at h ⊢
 obtain ⟨i, m, O⟩ := k
 simp only at *
 have hd := h.2.2.2.2.2.2.1
 have H := h.2.2.2.2.2.2.2.2.2
 have hA := h.2.2.1
 have h00 := h.2.2.2.1
 have g1 := @Yu9 C (t.items.getD i default) k1
 have g3 : (rpX C (t.items.getD i default)).length <= k1 -> rqB C (t.items.getD i default) = true := fun a => Y1j1 h00 a hA
 have g4 : k1 < (rpX C (t.items.getD i default)).length -> ¬ ((C.getD ((rpX C (t.items.getD i default)).getD k1 0).toNat default).each.length : Int) = ((C.getD ((rpX C (t.items.getD i default)).getD 0 0).toNat default).each.length : Int) -> Yic t.items C (q - 1) [] = (O, false, m) := fun a b => by rw [H, Yr6 h.2.2.2.2.1 hd, Y1jx a b]; rfl
 have g5 : k1 < (rpX C (t.items.getD i default)).length -> ((C.getD ((rpX C (t.items.getD i default)).getD k1 0).toNat default).each.length : Int) = ((C.getD ((rpX C (t.items.getD i default)).getD 0 0).toNat default).each.length : Int) -> rqA C ((rpX C (t.items.getD i default)).take (k1 + 1)) (lnI C ((rpX C (t.items.getD i default)).getD 0 default)) = true := fun a b => Y1ci a hA b
 with_reducible repeat' (first | apply And.intro | exact zR | exact ih | (intro) | apply Zq | apply Z3 | apply Z2 | apply Z0 | apply Z1q)
 all_goals ((try simp only [std, inj] at *); with_reducible and_intros)
 all_goals try with_reducible first | apply Zq | apply Z3 | apply Z2 | apply Z0 | apply Z1q | apply ih
 all_goals try first | exact zw
 all_goals (try simp only [Bool.not_eq_true', Bool.not_eq_false', decide_eq_false_iff_not, decide_eq_true_eq, Decidable.not_not] at *)
 all_goals (try simp only [rpX, rqN, dfI] at *)
 all_goals (try first | exact hd | exact H | omega | exact g3 (by omega) | exact g5 (by omega) (by assumption) | (have := g1 (by omega); omega))
 all_goals (try (rw [g4 (by omega) (by assumption)]; first | done | rfl)))
theorem Zbx (t : YS) (C : List YC) (q : Int) (h : 0 <= q /\ q <= 2000 /\ wY t <= 1000000000 /\ C.length <= 1000000000) (hC : ∀ (z : YC), z ∈ C -> mxP z <=
 1000000000) (ih : ∀ (z : YS), z ∈ t.items -> ∀ (C : List YC) (q : Int), 0 <= q /\ q <= 2000 /\ wY z <= 1000000000 /\ C.length <= 1000000000 -> (∀ (z : YC), z ∈ C -> mxP z <=
 1000000000) -> OK (Z9 z C q)) : Lp.Sem Tryz.prog (Yhp Tryz.f259 0) (Z33 t C q) := Yhz (fun k => .z Yh9 t.items (.i ((k.fst : Int) < (↑(List.map Yh9
 t.items).length : Int)) (.x (k.fst : Int) (t.items.map Yh9) (Yhg (t.items.getD k.fst default)) (.r ((k.fst : Int) + 1) (.z Yh9 t.items (.i ((k.fst : Int) + 1 =
 (↑(t.items.map Yh9).length : Int)) (.y true (.d [.ptr, .rd, .rd] (Z9 (t.items.getD k.fst default) C k.snd.fst) (.b (!(bli (t.items.getD k.fst default) C
 k.snd.fst).snd.fst) (.o 1 [0, 2] [.a (vI (bli (t.items.getD k.fst default) C k.snd.fst).snd.snd), .o (.box [vI 0, vI 0, vS (ByteArray.mk #[]), .val (.lit (.slice none
 0 0)), .val (.lit (.slice none 0 0))]), .s (lb false)]) (.p (((k.snd.snd.map Yh9).length + 1) * 80 <= 140737488355328) (.r ((k.fst : Int) + 1) (.g [0, 1, 2, 3,
 4, 12] (k.fst + 1, (bli (t.items.getD k.fst default) C k.snd.fst).snd.snd, k.snd.snd ++ [(bli (t.items.getD k.fst default) C k.snd.fst).fst]) [.s (li ((k.fst : Int) + 1)), .a (vI
 (bli (t.items.getD k.fst default) C k.snd.fst).snd.snd), .o (.arr true 5 (k.snd.snd.map Yh9 ++ [Yhg (bli (t.items.getD k.fst default) C k.snd.fst).fst]))])))))) (.r
 ((k.fst : Int) + 1) (.x ((k.fst : Int) + 1) (t.items.map Yh9) (Yhg (t.items.getD (k.fst + 1) default)) (.c [.rd] (Z0 (t.items.getD (k.fst + 1) default)) (.b
 (!Yhn (t.items.getD (k.fst + 1) default)) (.d [.ptr, .rd, .rd] (Z9 (t.items.getD k.fst default) C k.snd.fst) (.b (!(bli (t.items.getD k.fst default) C
 k.snd.fst).snd.fst) (.o 1 [0, 2] [.a (vI (bli (t.items.getD k.fst default) C k.snd.fst).snd.snd), .o (.box [vI 0, vI 0, vS (ByteArray.mk #[]), .val (.lit (.slice none
 0 0)), .val (.lit (.slice none 0 0))]), .s (lb false)]) (.p (((k.snd.snd.map Yh9).length + 1) * 80 <= 140737488355328) (.r ((k.fst : Int) + 1) (.g [0, 1, 2, 3,
 4, 12] (k.fst + 1, (bli (t.items.getD k.fst default) C k.snd.fst).snd.snd, k.snd.snd ++ [(bli (t.items.getD k.fst default) C k.snd.fst).fst]) [.s (li ((k.fst : Int) + 1)), .a (vI
 (bli (t.items.getD k.fst default) C k.snd.fst).snd.snd), .o (.arr true 5 (k.snd.snd.map Yh9 ++ [Yhg (bli (t.items.getD k.fst default) C k.snd.fst).fst]))]))))) (.r
 ((k.fst : Int) + 1) (.d [.rd, .rd, .own true 1] (Z27 (t.items.getD k.fst default) C []) (.z Yhd (rpi C (t.items.getD k.fst default) []) (.i ((↑((rpi C
 (t.items.getD k.fst default) []).map Yhd).length : Int) = 0) (.o 1 [0, 2] [.a (vI k.snd.fst), .o (.box [vI 0, vI 0, vS (ByteArray.mk #[]), .val (.lit (.slice none 0 0)),
 .val (.lit (.slice none 0 0))]), .s (lb false)]) (.p ((0 : Int) <= 0 /\ 0 < ((rpi C (t.items.getD k.fst default) []).map Yhd).length) (.w (.cells (Yhd ((rpi C
 (t.items.getD k.fst default) []).getD 0 default))) (.p (((rpi C (t.items.getD k.fst default) []).map Yhd)[0]? = some [cI ((rpi C (t.items.getD k.fst default) []).getD 0 0)])
 (.x ((rpi C (t.items.getD k.fst default) []).getD 0 0) (C.map Yha) (Yhw (C.getD ((rpi C (t.items.getD k.fst default) []).getD 0 0).toNat default)) (.z Yha
 (C.getD ((rpi C (t.items.getD k.fst default) []).getD 0 0).toNat default).each (.z Yhd (rpi C (t.items.getD k.fst default) []) (.l (Z32 t C q k) (Zbw t C q h
 hC ih k) [0, 1, 2, 3, 6, 8, 4, 5] [.s (li 0)] 0 (.t (.l (Z31 t C q k) (Zbv t C q h hC ih k) [0, 1, 2, 3, 4, 5, 6, 7] [.s (li 0), .a (vI k.snd.fst), .o (.arr
 true 5 (k.snd.snd.map Yh9))] 0 (.t (.r ((k.fst : Int) + 1 + 1) (.g [0, 1, 2, 3, 4, 5] (k.fst + 1 + 1, (iR C (t.items.getD k.fst default) k.snd.fst k.snd.snd).snd.snd,
 (iR C (t.items.getD k.fst default) k.snd.fst k.snd.snd).fst) [.s (li ((k.fst : Int) + 1 + 1)), .a (vI (iR C (t.items.getD k.fst default) k.snd.fst k.snd.snd).snd.snd), .o (.arr
 true 5 ((iR C (t.items.getD k.fst default) k.snd.fst k.snd.snd).fst.map Yh9))])) (.t (.o 1 [0, 1] [.a (vI (Yic t.items C (q - 1) []).snd.snd), .o (.box [vI 0, vI 0, vS
 (mkS []), .val (.lit (.slice none 0 0)), .val (.lit (.slice none 0 0))]), .s (lb false)]) .q))) (.t (.o 1 [0, 1] [.a (vI (Yic t.items C (q - 1)
 []).snd.snd), .o (.box [vI 0, vI 0, vS (mkS []), .val (.lit (.slice none 0 0)), .val (.lit (.slice none 0 0))]), .s (lb false)]) .q)))))))))))))))))))))
 (.o 0 [0, 2, 3, 4, 5] [.a (vI k.snd.fst), .o (.arr true 5 (k.snd.snd.map Yh9))]))) (by
 intro k h; try dsimp only [Yhf, Yhl, Z33, Z31, Z32] at h ⊢
 obtain ⟨i, m, O⟩ := k
 simp only at *
 have H := h.2.2.1
 have p1 : i < t.items.length -> (t.items.length <= i + 1 ∨ Yhn (t.items.getD (i + 1) default) = false) -> (bli (t.items.getD i default) C m).2.1 = true -> Yic (t.items.drop i) C m O = Yic (t.items.drop (i + 1)) C (bli (t.items.getD i default) C m).2.2 (O ++ [(bli (t.items.getD i default) C m).1]) := fun a b c => by rw [Yxf a b, if_pos c]
 have p2 : i < t.items.length -> (t.items.length <= i + 1 ∨ Yhn (t.items.getD (i + 1) default) = false) -> (bli (t.items.getD i default) C m).2.1 = false -> Yic (t.items.drop i) C m O = (O, false, (bli (t.items.getD i default) C m).2.2) := fun a b c => by rw [Yxf a b, if_neg (by rw [c]; decide)]
 have d1 : i + 1 < t.items.length -> Yhn (t.items.getD (i + 1) default) = true -> (iR C (t.items.getD i default) m O).2.1 = true -> Yic (t.items.drop i) C m O = Yic (t.items.drop (i + 1 + 1)) C (iR C (t.items.getD i default) m O).2.2 (iR C (t.items.getD i default) m O).1 := fun a b c => by rw [Yr6 a b, if_pos c]
 have d3 : i + 1 < t.items.length -> Yhn (t.items.getD (i + 1) default) = true -> (rpX C (t.items.getD i default)).length = 0 -> Yic (t.items.drop i) C m O = (O, false, m) := fun a b c => by
  have e : iR C (t.items.getD i default) m O = (O, false, m) := by unfold iR rqB; rw [c]; rfl
  rw [Yr6 a b, e]; rfl
 have e1 : t.items.length <= i -> Yic (t.items.drop i) C m O = (O, true, m) := fun a => Y1eo a
 have g4 := Yu8 (t.items.getD i default) C m
 have g6 : 0 <= m -> (iR C (t.items.getD i default) m O).2.1 = true -> 0 <= (iR C (t.items.getD i default) m O).2.2 /\ ((iR C (t.items.getD i default) m O).1.length : Int) + (iR C (t.items.getD i default) m O).2.2 <= O.length + m := fun a b => Y1lj C _ m O a b
 have g8 := @Yl0 t i
 have g9 := Y18g C (t.items.getD i default) []
 have g10 := Yub (t.items.getD i default)
 have g11 := fun h : 0 < (rpX C (t.items.getD i default)).length => Yu9 h
 have g12 : iI C (t.items.getD i default) 0 m O = (O, true, m) := rfl
 have g13 := fun h : 0 < (rpX C (t.items.getD i default)).length => Y1d7 hC h
 with_reducible repeat' (first | apply And.intro | exact zR | exact ih | (intro) | apply Zq | apply Z3 | apply Z2 | apply Z0 | apply Z1q | apply ih)
 all_goals ((try simp only [std, inj] at *); with_reducible and_intros)
 all_goals try first | with_reducible (first | apply Zq | apply Z3 | apply Z2 | apply Z0 | apply Z1q | apply ih) | (simp only [<- List.map_append]; with_reducible first | apply Zq | apply Z3 | apply Z2 | apply Z0 | apply Z1q | apply ih)
 all_goals try first | exact zw
 all_goals (try simp only [Bool.not_eq_true', Bool.not_eq_false', decide_eq_false_iff_not, decide_eq_true_eq, Decidable.not_not] at *)
 all_goals (try simp only [rpX, rqN, dfI] at *)
 all_goals (try first | exact Yhj (by omega) | exact hC _ (by assumption) | exact Yhe (C := Yh9) _ _ | exact (Yu9 (by show 0 < (rpi C (t.items.getD i default) []).length; omega)).1 | (show rqA C [] _ = true; rfl) | (show (_ : Bool) = true; exact (rfl : (iI C (t.items.getD i default) 0 m O).2.1 = true)) | exact (rfl : m = (iI C (t.items.getD i default) 0 m O).2.2) | exact (rfl : O = (iI C (t.items.getD i default) 0 m O).1) | exact (rfl : O.map Yh9 = List.map Yh9 (iI C (t.items.getD i default) 0 m O).1) | (have := g8 (by omega); simp only [List.length_nil] at *; omega))
 all_goals (try first | (rw [H, p1 (by omega) (by first | exact Or.inl (by omega) | exact Or.inr (by assumption)) (by assumption)]) | (rw [H, p2 (by omega) (by first | exact Or.inl (by omega) | exact Or.inr (by assumption)) (by assumption)]) | (rw [H, d1 (by omega) (by assumption) (by assumption)]) | (rw [H, d3 (by omega) (by assumption) (by omega)]) | (rw [H, e1 (by omega)]))
 all_goals (try first | (have := g4 (by omega) (by assumption); first | omega | (simp only [List.length_singleton]; omega)) | (have := g6 (by omega) (by assumption); omega)))
theorem Zf2 (t : YS) (C : List YC) (q : Int) (h : 0 <= q /\ q <= 2000 /\ wY t <= 1000000000 /\ C.length <= 1000000000) (hC : ∀ z ∈ C, mxP z <= 1000000000) (ih : ∀ z ∈
 t.items, ∀ (C : List YC) (q : Int) (h : 0 <= q /\ q <= 2000 /\ wY z <= 1000000000 /\ C.length <= 1000000000) (hC : ∀ z ∈ C, mxP z <= 1000000000), Z9 z C q)  : Z9 t C
 q := Yhq Tryz.call259 Tryz.func259 (.c [.rd, .rd] (Z90 C t) (.i (0 <= if t.kind = 1 then fnd C t else (-1 : Int)) (.x (if t.kind = 1 then fnd C t else (-1 : Int)) (List.map
 Yha C) (Yhw (C.getD (if t.kind = 1 then fnd C t else (-1 : Int)).toNat default)) (.i ((C.getD (if t.kind = 1 then fnd C t else (-1 : Int)).toNat default).depth ≠ 0) (.w
 (.ghost (.nilbox 2 3 true 1)) (.w (.ghost (.nilbox 2 4 true 5)) (.f [3, 4] [.box [vI q], .arr true 1 [], .arr true 5 []] (.tup [.agg [vI 0, vI 0, vS (ByteArray.mk #[]),
 .ref 1, .ref 2], lb false])))) (.x (if t.kind = 1 then fnd C t else (-1 : Int)) (C.map Yha) (Yhw (C.getD (if t.kind = 1 then fnd C t else (-1 : Int)).toNat
 default)) (.d [.rd, .rd, .ptr] (Z16 (C.getD (if t.kind = 1 then fnd C t else (-1 : Int)).toNat default).form 1 0) (.b (!(Yj0 (C.getD (if t.kind = 1 then fnd C t else (-1 :
 Int)).toNat default).form 1 0).fst) (.w (.ghost (.nilbox 2 3 true 1)) (.w (.ghost (.nilbox 2 4 true 5)) (.f [4, 5] [.box [vI q], .arr true 1 [], .arr true 5 []] (.tup
 [.agg [vI 0, vI 0, vS (ByteArray.mk #[]), .ref 1, .ref 2], lb false])))) (.w (.draw [(8, [0])]) (.r (q - (Yj0 (C.getD (if t.kind = 1 then fnd C t else (-1 : Int)).toNat
 default).form 1 0).snd) (.w (.draw [(11, [2])]) (.x (if t.kind = 1 then fnd C t else (-1 : Int)) (C.map Yha) (Yhw (C.getD (if t.kind = 1 then fnd C t else (-1 :
 Int)).toNat default)) (.d [.rd] (Zm (C.getD (if t.kind = 1 then fnd C t else (-1 : Int)).toNat default).form) (.f [4, 5] [.box [vI (q - (Yj0 (C.getD (if t.kind = 1 then
 fnd C t else (-1 : Int)).toNat default).form 1 0).snd)], .arr true 1 ((C.getD (if t.kind = 1 then fnd C t else (-1 : Int)).toNat default).form.scopes.map Yhd), .arr true
 5 ((C.getD (if t.kind = 1 then fnd C t else (-1 : Int)).toNat default).form.items.map Yh9)] (.tup [.agg [vI (C.getD (if t.kind = 1 then fnd C t else (-1 : Int)).toNat
 default).form.kind, vI (C.getD (if t.kind = 1 then fnd C t else (-1 : Int)).toNat default).form.number, vS (C.getD (if t.kind = 1 then fnd C t else (-1 : Int)).toNat
 default).form.text, .ref 1, .ref 2], lb (decide (0 <= q - (Yj0 (C.getD (if t.kind = 1 then fnd C t else (-1 : Int)).toNat default).form 1 0).snd))])))))))))))) (.r (q - 1) (.i
 (q - (1 : Int) < 0) (.w (.ghost (.nilbox 2 3 true 1)) (.w (.ghost (.nilbox 2 4 true 5)) (.f [3, 4] [.box [vI (q - 1)], .arr true 1 [], .arr true 5 []] (.tup [.agg [vI 0,
 vI 0, vS (ByteArray.mk #[]), .ref 1, .ref 2], lb false])))) (.w (.draw [(11, [11])]) (.d [.rd] (Zl t.scopes) (.w (.ghost (.nilbox 11 4 true 5)) (.l (Z33 t C
 q) (Zbx t C q h hC ih) [0, 1, 2, 11, 3, 12] [.s (li 0), .a (vI (q - 1)), .o (.arr true 5 [])] (0, q - 1, []) (.t (.f [3, 4] [.box [vI (Yic t.items C (q - 1)
 []).snd.snd], .arr true 1 (t.scopes.map Yhd), .arr true 5 ((Yic t.items C (q - 1) []).fst.map Yh9)] (.tup [.agg [vI t.kind, vI t.number, vS t.text, .ref
 1, .ref 2], lb true])) (.t (.w (.ghost (.nilbox 1 3 true 1)) (.w (.ghost (.nilbox 1 4 true 5)) (.f [2, 3] [.box [vI (Yic t.items C (q - 1) []).snd.snd], .arr true 1 [],
 .arr true 5 []] (.tup [.agg [vI 0, vI 0, vS (mkS []), .ref 1, .ref 2], lb false])))) .q)))))))))) (by
 dsimp only [Yhf, Z9, Yhl, Z33]
 have g2 := Yme C t
 have g4 := Yj6 t
 with_reducible repeat' (first | apply And.intro | exact zR | exact ih | (intro) | apply Zq | apply Z3 | apply Z2 | apply Z0 | apply Z1q)
 all_goals ((try simp only [std, inj] at *); with_reducible and_intros)
 all_goals try with_reducible first | apply Zq | apply Z3 | apply Z2 | apply Z0 | apply Z1q | apply ih
 all_goals try first | exact zw
 all_goals (try simp only [Bool.not_eq_true', Bool.not_eq_false', decide_eq_false_iff_not, decide_eq_true_eq, Decidable.not_not] at *)
 all_goals (try (have hk := Y1i2 (by assumption : 0 <= if t.kind = 1 then fnd C t else -1); simp only [if_pos hk.1] at *))
 all_goals (try first | exact hC _ (by assumption) | exact Yzf hC (by omega) | (have := Y1i5 _ (by assumption : (Yj0 (C.getD (fnd C t).toNat default).form 1 0).1 = true); omega) | (rw [Y1k9 (by omega) (by omega) (by assumption)]) | (rw [Y1kd (by omega) (by omega) (by assumption) (by assumption)]) | (rw [Y1jr (by omega) (by omega) (by assumption) (by assumption)]) | (rw [Y1j3 (by omega) (by omega)]) | (rw [Y1ju (by omega) (by omega) (by assumption)]) | (rw [Y1iy (by omega) (by omega) (by assumption)]))
 all_goals (try first | rfl | (dsimp only; omega) | (simp only [List.length_nil]; omega)))
theorem Zd3 (t : YS) : ∀ (C : List YC) (q : Int) (h : 0 <= q /\ q <= 2000 /\ wY t <= 1000000000 /\ C.length <= 1000000000) (hC : ∀ z ∈ C, mxP z <= 1000000000), Z9 t C q := YS.ind (P := fun t => ∀ (C : List YC) (q : Int) (h : 0 <= q /\ q <= 2000 /\ wY t <= 1000000000 /\ C.length <= 1000000000) (hC : ∀ z ∈ C, mxP z <= 1000000000), Z9 t C q) (fun t ih C q h hC => Zf2 t C q h hC ih) t
abbrev Z9j (t : YS) (C : List YC) : Ct := ⟨195, [], [Yhu t, ll (C.map Yha)], Yk5 (Yl4 t C), .tup [Yjx (Yl4 t C) 0, lb (Yne t C)]⟩
theorem Za3 (t : YS) (C : List YC) (h : wY t <= 1000000000 /\ C.length <= 1000000000) (hC : ∀ z ∈ C, mxP z <= 1000000000)  : Z9j t C := Yhq Tryz.call195 Tryz.func195
 (.c [.rd] (Z1t t) (.b (!Yi2 t) (.y true (.w (.ghost (.nilbox 1 3 true 1)) (.w (.ghost (.nilbox 1 4 true 5)) (.f [2, 3] [.arr true 1 [], .arr true 5 []] (.tup
 [.agg [vI 0, vI 0, vS (ByteArray.mk #[]), .ref 0, .ref 1], lb false]))))) (.c [.rd] (Zfy t) (.b (!Ykz t) (.w (.ghost (.nilbox 1 3 true 1)) (.w (.ghost (.nilbox 1 4
 true 5)) (.f [2, 3] [.arr true 1 [], .arr true 5 []] (.tup [.agg [vI 0, vI 0, vS (ByteArray.mk #[]), .ref 0, .ref 1], lb false])))) (.d [.rd, .rd, .ptr] (Zg t
 C 2000) (.b (!(bld t C 2000).snd.fst) (.y true (.w (.ghost (.nilbox 1 3 true 1)) (.w (.ghost (.nilbox 1 4 true 5)) (.f [7, 8] [.arr true 1 [], .arr true 5 []] (.tup [.agg
 [vI 0, vI 0, vS (ByteArray.mk #[]), .ref 0, .ref 1], lb false]))))) (.c [.rd] (Z1t (bld t C 2000).fst) (.b (!Yi2 (bld t C 2000).fst) (.w (.ghost (.nilbox 1 3 true
 1)) (.w (.ghost (.nilbox 1 4 true 5)) (.f [7, 8] [.arr true 1 [], .arr true 5 []] (.tup [.agg [vI 0, vI 0, vS (ByteArray.mk #[]), .ref 0, .ref 1], lb false])))) (.f
 [4, 5] [.arr true 1 ((bld t C 2000).fst.scopes.map Yhd), .arr true 5 ((bld t C 2000).fst.items.map Yh9)] (.tup [.agg [vI (bld t C 2000).fst.kind, vI (bld t
 C 2000).fst.number, vS (bld t C 2000).fst.text, .ref 0, .ref 1], lb true])))))))))) (by
 dsimp only [Yhf, Z9j]
 have g1 : Yne t C = (Yi2 t && Ykz t && (bld t C 2000).2.1 && Yi2 (bld t C 2000).1) := rfl
 have g2 : Yne t C = true -> Yl4 t C = (bld t C 2000).1 := fun h => if_pos h
 have g3 : Yne t C = false -> Yl4 t C = zY := fun h => by unfold Yl4; rw [h]; rfl
 have g4 : zY.kind = 0 /\ zY.number = 0 /\ zY.text = mkS [] /\ zY.scopes = [] /\ zY.items = [] := ⟨rfl, rfl, rfl, rfl, rfl⟩
 with_reducible repeat' (first | apply And.intro | exact zR | (intro) | apply Zd2)
 all_goals ((try simp only [std, inj] at *); with_reducible and_intros)
 all_goals try with_reducible first | apply Zd2
 all_goals try first | exact zw | grind [Yhi, Yhh, Yhe])
abbrev Z9k (t : YS) (C : List YC) : Ct := ⟨196, [], [Yhu t, ll (C.map Yha)], Yk5 (Yl4 t C), .tup [Yjx (Yl4 t C) 0, lb (Yne t C)]⟩
theorem Za4 (t : YS) (C : List YC) (h : wY t <= 1000000000 /\ C.length <= 1000000000) (hC : ∀ z ∈ C, mxP z <= 1000000000)  : Z9k t C := Yhq Tryz.call196 Tryz.func196
 (.c [.rd] (Z1c t) (.b (!Yi2 t) (.y true (.w (.ghost (.nilbox 1 3 true 1)) (.w (.ghost (.nilbox 1 4 true 5)) (.f [2, 3] [.arr true 1 [], .arr true 5 []] (.tup
 [.agg [vI 0, vI 0, vS (ByteArray.mk #[]), .ref 0, .ref 1], lb false]))))) (.c [.rd] (Z9w t) (.b (!Ykz t) (.w (.ghost (.nilbox 1 3 true 1)) (.w (.ghost (.nilbox 1 4
 true 5)) (.f [2, 3] [.arr true 1 [], .arr true 5 []] (.tup [.agg [vI 0, vI 0, vS (ByteArray.mk #[]), .ref 0, .ref 1], lb false])))) (.d [.ptr, .rd, .rd] (Z9 t
 C 2000) (.b (!(bli t C 2000).snd.fst) (.y true (.w (.ghost (.nilbox 1 3 true 1)) (.w (.ghost (.nilbox 1 4 true 5)) (.f [7, 8] [.arr true 1 [], .arr true 5 []] (.tup [.agg
 [vI 0, vI 0, vS (ByteArray.mk #[]), .ref 0, .ref 1], lb false]))))) (.c [.rd] (Z1c (bli t C 2000).fst) (.b (!Yi2 (bli t C 2000).fst) (.w (.ghost (.nilbox 1 3 true
 1)) (.w (.ghost (.nilbox 1 4 true 5)) (.f [7, 8] [.arr true 1 [], .arr true 5 []] (.tup [.agg [vI 0, vI 0, vS (ByteArray.mk #[]), .ref 0, .ref 1], lb false])))) (.f
 [4, 5] [.arr true 1 ((bli t C 2000).fst.scopes.map Yhd), .arr true 5 ((bli t C 2000).fst.items.map Yh9)] (.tup [.agg [vI (bli t C 2000).fst.kind, vI (bli t
 C 2000).fst.number, vS (bli t C 2000).fst.text, .ref 0, .ref 1], lb true])))))))))) (by
 dsimp only [Yhf, Z9k]
 have g1 := @Y1eu t C
 have g2 : Yne t C = true -> Yl4 t C = (bld t C 2000).1 := fun h => if_pos h
 have g3 : Yne t C = false -> Yl4 t C = zY := fun h => by unfold Yl4; rw [h]; rfl
 have g4 : zY.kind = 0 /\ zY.number = 0 /\ zY.text = mkS [] /\ zY.scopes = [] /\ zY.items = [] := ⟨rfl, rfl, rfl, rfl, rfl⟩
 have g5 : Yne t C = (Yi2 t && Ykz t && (bld t C 2000).2.1 && Yi2 (bld t C 2000).1) := rfl
 with_reducible repeat' (first | apply And.intro | exact zR | (intro) | apply Zd3)
 all_goals ((try simp only [std, inj] at *); with_reducible and_intros)
 all_goals try with_reducible first | apply Zd3
 all_goals try first | exact zw | grind [Yhi, Yhh, Yhe])
end Go.Proofs.YtpnaoendfpaodaaGreat
end
