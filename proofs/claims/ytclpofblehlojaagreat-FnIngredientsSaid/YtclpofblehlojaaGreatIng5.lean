/- each name of what is built stands in the template or in the form No condition. -/
import Derived.Test.YtclpofblehlojaaGreatIng4
set_option linter.unusedVariables false
set_option linter.unusedSimpArgs false
section
namespace Go.Proofs.YtclpofblehlojaaGreat
open Go Ab
set_option maxHeartbeats 4000000
abbrev Zc (t:YS) (C:List YC) (q:Int):Ct:=⟨175,[.box [vI q]],[Ygb t,ll (C.map Yfo),.one (.ptr 0 0)],.box [vI (bld t C q).2.2] :: Yhl (bld t C q).1,.tup [Yhp (bld t C q).1 1,lb (bld t C q).2.1]⟩
def Z2j (t:YS) (C:List YC) (q:Int) (k:Nat × Int × List YS):Lp Nat:=.mk 163 1 (fun x=>[(1,ll (C.map Yfo)),(2,.one (.ptr 0 0)),
 (3,.one (.ptr 1 0)),(6,.one (.ptr 2 0)),(9,.one (.ptr 3 0)),(10,li ((k.fst:Int)+1)),(11,.one (.ptr 4 0)),(14,li (if Yj0 C (Yfv (t.items.getD
 k.fst default) []) (Yfv (t.items.getD k.fst default) []).length=true then cnN C (Yfv (t.items.getD k.fst default) []) (Yfv (t.items.getD k.fst default) []).length else 0)),
 (15,hs x 1),(16,hs x 0)]) (fun x=>[.box [ha x 2],.box (vals (Yfu t)),.box [vI 0,vI 0,vS (ByteArray.mk #[]),.val (.lit (.slice none 0 0)),.val
 (.lit (.slice none 0 0))],.box [vI t.kind,vI t.number,vS t.text,.val (.lit (.slice none 0 0)),.ref 5],.box (vals (Yfu (t.items.getD k.fst
 default))),ho x 3]) (fun k1=>[.s (li (k1:Int)),.s (lb (bJ C (t.items.getD k.fst default) k1 k.snd.fst k.snd.snd).snd.fst),.a (vI (bJ C (t.items.getD k.fst default) k1
 k.snd.fst k.snd.snd).snd.snd),.o (.arr true 5 ((bJ C (t.items.getD k.fst default) k1 k.snd.fst k.snd.snd).fst.map Yfn))]) (fun k1=>(k1<=bN C (t.items.getD k.fst
 default) ∨ cnB C (t.items.getD k.fst default)=false)/\k.fst+1<t.items.length/\0<=k.snd.fst/\(k.snd.snd.length:Int)+k.snd.fst<=2000) (fun k1=>bN C (t.items.getD
 k.fst default) - k1) [.mk True (.exit 2) (fun x=>[(1,ll (C.map Yfo)),(2,.one (.ptr 0 0)),(3,.one (.ptr 1 0)),(6,.one (.ptr 2 0)),(9,.one (.ptr
 3 0)),(10,li ((k.fst:Int)+1)),(15,hs x 0)]) (fun x=>[.box [ha x 1],.box (vals (Yfu t)),.box [vI 0,vI 0,vS (ByteArray.mk #[]),.val (.lit
 (.slice none 0 0)),.val (.lit (.slice none 0 0))],.box [vI t.kind,vI t.number,vS t.text,.val (.lit (.slice none 0 0)),.ref 4],ho x 2]) [.s
 (lb (bR C (t.items.getD k.fst default) k.snd.fst k.snd.snd).snd.fst),.a (vI (bR C (t.items.getD k.fst default) k.snd.fst k.snd.snd).snd.snd),.o (.arr true 5 (List.map Yfn
 (bR C (t.items.getD k.fst default) k.snd.fst k.snd.snd).fst))]]
def Z2k (t:YS) (C:List YC) (q:Int):Lp (Nat × Int × List YS):=.mk 163 1 (fun x=>[(1,ll (C.map Yfo)),(2,.one (.ptr 0 0)),(3,
 .one (.ptr 1 0)),(6,.one (.ptr 2 0)),(9,.one (.ptr 3 0)),(10,hs x 0)]) (fun x=>[.box [ha x 1],.box (vals (Yfu t)),.box [vI 0,vI 0,vS
 (ByteArray.mk #[]),.val (.lit (.slice none 0 0)),.val (.lit (.slice none 0 0))],.box [vI t.kind,vI t.number,vS t.text,.val (.lit (.slice
 none 0 0)),.ref 4],ho x 2]) (fun k=>[.s (li (k.fst:Int)),.a (vI k.snd.fst),.o (.arr true 5 (k.snd.snd.map Yfn))]) (fun k=>t.items.length >= k.fst /\
 t.items.length<=1000000000/\Ygy t.items C (q - 1) []=Ygy (List.drop k.fst t.items) C k.snd.fst k.snd.snd/\0<=k.snd.fst/\(k.snd.snd.length:Int)+k.snd.fst<=2000) (fun
 k=>t.items.length - k.fst) [.mk ((Ygy t.items C (q - 1) []).snd.fst=true) (.exit 0) (fun x=>[(6,.one (.ptr 1 0)),(9,.one (.ptr 2 0))]) (fun x=>[.box [ha x
 0],.box [vI 0,vI 0,vS (ByteArray.mk #[]),.val (.lit (.slice none 0 0)),.val (.lit (.slice none 0 0))],.box [vI t.kind,vI t.number,vS t.text,
 .val (.lit (.slice none 0 0)),.ref 3],ho x 1]) [.a (vI (Ygy t.items C (q - 1) []).snd.snd),.o (.arr true 5 ((Ygy t.items C (q - 1) []).fst.map Yfn))],
 .mk ((Ygy t.items C (q - 1) []).snd.fst=false) .ret (fun x=>[(6,.one (.ptr 1 0)),(7,hs x 2)]) (fun x=>[.box [ha x 0],ho x 1]) [.a (vI (Ygy t.items C (q - 1)
 []).snd.snd),.o (.box [vI 0,vI 0,vS (mkS []),.val (.lit (.slice none 0 0)),.val (.lit (.slice none 0 0))]),.s (lb false)]]
theorem Z9t (t:YS) (C:List YC) (q:Int) (h:0<=q/\q<=2000/\wY t<=1000000000/\C.length<=1000000000) (hC:∀ (z:YC),z∈C->mxP z <=
 1000000000) (ih:∀ (z:YS),z∈t.items->∀ (C:List YC) (q:Int),0<=q/\q<=2000/\wY z<=1000000000/\C.length<=1000000000->(∀ (z:YC),z∈C->mxP z <=
 1000000000)->OK (Zc z C q)) (k:Nat × Int × List YS):Lp.Sem Tryz.prog (Yg6 Tryz.f175 1) (Z2j t C q k):=Ygf (fun k1=>.i ((k1:Int)<if Yj0 C
 (Yfv (t.items.getD k.fst default) []) (Yfv (t.items.getD k.fst default) []).length=true then cnN C (Yfv (t.items.getD k.fst default) []) (Yfv (t.items.getD k.fst default)
 []).length else 0) (.b (bJ C (t.items.getD k.fst default) k1 k.snd.fst k.snd.snd).snd.fst (.w (.draw [(6,[0]),(10,[6])]) (.d [.rd,.rd,.rd] (Z70 C (t.items.getD k.fst
 default) k1) (.d [.rd,.rd,.ptr] (Zc (t.items.getD k.fst default) (Yi3 C k1 (Yfv (t.items.getD k.fst default) []) (Yfv (t.items.getD k.fst default) []).length) (bJ C
 (t.items.getD k.fst default) k1 k.snd.fst k.snd.snd).snd.snd) (.p ((((bJ C (t.items.getD k.fst default) k1 k.snd.fst k.snd.snd).fst.map Yfn).length+1) * 80 <=
 140737488355328) (.r ((k1:Int)+1) (.g [0,1,2,3,4,23] (k1+1) [.s (li ((k1:Int)+1)),.s (lb (bld (t.items.getD k.fst default) (Yi3 C k1 (Yfv (t.items.getD k.fst
 default) []) (Yfv (t.items.getD k.fst default) []).length) (bJ C (t.items.getD k.fst default) k1 k.snd.fst k.snd.snd).snd.snd).snd.fst),.a (vI (bld (t.items.getD k.fst default)
 (Yi3 C k1 (Yfv (t.items.getD k.fst default) []) (Yfv (t.items.getD k.fst default) []).length) (bJ C (t.items.getD k.fst default) k1 k.snd.fst k.snd.snd).snd.snd).snd.snd),.o
 (.arr true 5 ((bJ C (t.items.getD k.fst default) k1 k.snd.fst k.snd.snd).fst.map Yfn++[Yfu (bld (t.items.getD k.fst default) (Yi3 C k1 (Yfv (t.items.getD k.fst
 default) []) (Yfv (t.items.getD k.fst default) []).length) (bJ C (t.items.getD k.fst default) k1 k.snd.fst k.snd.snd).snd.snd).fst]))])))))) (.o 0 [0,1,2,3,5] [.s (lb (bJ C
 (t.items.getD k.fst default) k1 k.snd.fst k.snd.snd).snd.fst),.a (vI (bJ C (t.items.getD k.fst default) k1 k.snd.fst k.snd.snd).snd.snd),.o (.arr true 5 ((bJ
 C (t.items.getD k.fst default) k1 k.snd.fst k.snd.snd).fst.map Yfn))])) (.y false (.o 0 [0,1,2,3,5] [.s (lb (bJ C (t.items.getD k.fst default) k1 k.snd.fst k.snd.snd).snd.fst),.a (vI
 (bJ C (t.items.getD k.fst default) k1 k.snd.fst k.snd.snd).snd.snd),.o (.arr true 5 ((bJ C (t.items.getD k.fst default) k1 k.snd.fst k.snd.snd).fst.map Yfn))]))) (by
 intro k1 h; try dsimp only [Yfp,Yg0,Z2j] at h ⊢
 obtain ⟨i,m,O⟩:=k
 simp only at *
 have g1:=Y12u C (t.items.getD i default) k1 m O
 have g2:=Y1kl C (t.items.getD i default) k1 m O
 have g3:=@Y1jl C (t.items.getD i default) k1 m O
 have g4:¬ ((k1:Int)<if Yj0 C (Yfv (t.items.getD i default) []) (Yfv (t.items.getD i default) []).length=true then cnN C (Yfv (t.items.getD i default) []) (Yfv (t.items.getD i default) []).length else 0)->bR C (t.items.getD i default) m O=bJ C (t.items.getD i default) k1 m O:=fun b=>by
  cases hok:(bJ C (t.items.getD i default) k1 m O).2.1 with
  | false=>exact g3 h.1 hok
  | true=>exact Y1kv h.1 (by omega) hok b
 have g5:=@Y161 C (t.items.getD i default)
 have g6:(bJ C (t.items.getD i default) k1 m O).2.1=true->((k1:Int)<if Yj0 C (Yfv (t.items.getD i default) []) (Yfv (t.items.getD i default) []).length=true then cnN C (Yfv (t.items.getD i default) []) (Yfv (t.items.getD i default) []).length else 0)->k1<bN C (t.items.getD i default)/\bN C (t.items.getD i default)<=1000000000/\cnB C (t.items.getD i default)=true:=fun a b=>⟨Y1of (g1 (by omega) a).2.2 b,Y1q2 hC (g1 (by omega) a).2.2,(g1 (by omega) a).2.2⟩
 have g7:=Y152 C (t.items.getD i default) k1
 have g8:=@Yj5 t i
 with_reducible repeat' (first | apply And.intro | exact zR | exact ih | (intro) | apply Z5 | apply Z1l | apply Z1e | apply Z2y | apply ih)
 all_goals ((try simp only [std,inj] at *); with_reducible and_intros)
 all_goals try first | with_reducible (first | apply Z5 | apply Z1l | apply Z1e | apply Z2y | apply ih) | (simp only [<- List.map_append]; with_reducible first | apply Z5 | apply Z1l | apply Z1e | apply Z2y | apply ih)
 all_goals try first | exact zw
 all_goals (try first | exact Yfx (by omega) | exact Y1mj hC _ _ _ (by assumption) | (rw [g2 (by assumption)]; done) | (rw [g2 (by assumption)]; exact Yfs (C:=Yfn) _ _) | (rw [g4 (by assumption)]; done) | (rw [g3 h.1 (by assumption)]; done) | exact Nat.le_trans (Nat.le_of_eq (Y152 C _ _)) (by omega))
 all_goals (try (have G:=g6 (by assumption) (by assumption); have G1:=g1 (by omega) (by assumption); first | omega | (rw [g5 G.2.2 (by assumption) (by assumption) (by assumption)]; exact G.1) | (refine Nat.le_of_eq_of_le g7 ?_; omega))))
theorem Z9u (t:YS) (C:List YC) (q:Int) (h:0<=q/\q<=2000/\wY t<=1000000000/\C.length<=1000000000) (hC:∀ (z:YC),z∈C->mxP z <=
 1000000000) (ih:∀ (z:YS),z∈t.items->∀ (C:List YC) (q:Int),0<=q/\q<=2000/\wY z<=1000000000/\C.length<=1000000000->(∀ (z:YC),z∈C->mxP z <=
 1000000000)->OK (Zc z C q)):Lp.Sem Tryz.prog (Yg6 Tryz.f175 0) (Z2k t C q):=Ygf (fun k=>.z Yfn t.items (.i ((k.fst:Int)<(↑(List.map Yfn
 t.items).length:Int)) (.x (k.fst:Int) (t.items.map Yfn) (Yfu (t.items.getD k.fst default)) (.r ((k.fst:Int)+1) (.z Yfn t.items (.i ((↑(List.map Yfn
 t.items).length:Int)<=(k.fst:Int)+1) (.y true (.d [.rd,.rd,.ptr] (Zc (t.items.getD k.fst default) C k.snd.fst) (.b (!(bld (t.items.getD k.fst default) C
 k.snd.fst).snd.fst) (.o 1 [0,2] [.a (vI (bld (t.items.getD k.fst default) C k.snd.fst).snd.snd),.o (.box [vI 0,vI 0,vS (ByteArray.mk #[]),.val (.lit (.slice none
 0 0)),.val (.lit (.slice none 0 0))]),.s (lb false)]) (.p (((k.snd.snd.map Yfn).length+1) * 80<=140737488355328) (.r ((k.fst:Int)+1) (.g [0,1,2,3,
 11] (k.fst+1,(bld (t.items.getD k.fst default) C k.snd.fst).snd.snd,k.snd.snd++[(bld (t.items.getD k.fst default) C k.snd.fst).fst]) [.s (li ((k.fst:Int)+1)),.a (vI
 (bld (t.items.getD k.fst default) C k.snd.fst).snd.snd),.o (.arr true 5 (k.snd.snd.map Yfn++[Yfu (bld (t.items.getD k.fst default) C k.snd.fst).fst]))])))))) (.r
 ((k.fst:Int)+1) (.x ((k.fst:Int)+1) (t.items.map Yfn) (Yfu (t.items.getD (k.fst+1) default)) (.c [.rd] (Zb (t.items.getD (k.fst+1) default)) (.b
 (!Yfw (t.items.getD (k.fst+1) default)) (.d [.rd,.rd,.ptr] (Zc (t.items.getD k.fst default) C k.snd.fst) (.b (!(bld (t.items.getD k.fst default) C
 k.snd.fst).snd.fst) (.o 1 [0,2] [.a (vI (bld (t.items.getD k.fst default) C k.snd.fst).snd.snd),.o (.box [vI 0,vI 0,vS (ByteArray.mk #[]),.val (.lit (.slice none
 0 0)),.val (.lit (.slice none 0 0))]),.s (lb false)]) (.p (((k.snd.snd.map Yfn).length+1) * 80<=140737488355328) (.r ((k.fst:Int)+1) (.g [0,1,2,3,
 11] (k.fst+1,(bld (t.items.getD k.fst default) C k.snd.fst).snd.snd,k.snd.snd++[(bld (t.items.getD k.fst default) C k.snd.fst).fst]) [.s (li ((k.fst:Int)+1)),.a (vI
 (bld (t.items.getD k.fst default) C k.snd.fst).snd.snd),.o (.arr true 5 (k.snd.snd.map Yfn++[Yfu (bld (t.items.getD k.fst default) C k.snd.fst).fst]))]))))) (.r
 ((k.fst:Int)+1) (.d [.rd,.rd] (Z5u C (t.items.getD k.fst default)) (.l (Z2j t C q k) (Z9t t C q h hC ih k) [0,1,2,3,5,4] [.s (li 0),.s (lb
 (Yj0 C (Yfv (t.items.getD k.fst default) []) (Yfv (t.items.getD k.fst default) []).length&&decide (0<=cnN C (Yfv (t.items.getD k.fst default) []) (Yfv (t.items.getD k.fst
 default) []).length))),.a (vI k.snd.fst),.o (.arr true 5 (k.snd.snd.map Yfn))] 0 (.t (.b (!(bR C (t.items.getD k.fst default) k.snd.fst k.snd.snd).snd.fst) (.o 1 [0,
 2] [.a (vI (bR C (t.items.getD k.fst default) k.snd.fst k.snd.snd).snd.snd),.o (.box [vI 0,vI 0,vS (ByteArray.mk #[]),.val (.lit (.slice none 0 0)),.val
 (.lit (.slice none 0 0))]),.s (lb false)]) (.r ((k.fst:Int)+1+1) (.g [0,1,2,3,4] (k.fst+1+1,(bR C (t.items.getD k.fst default) k.snd.fst
 k.snd.snd).snd.snd,(bR C (t.items.getD k.fst default) k.snd.fst k.snd.snd).fst) [.s (li ((k.fst:Int)+1+1)),.a (vI (bR C (t.items.getD k.fst default) k.snd.fst
 k.snd.snd).snd.snd),.o (.arr true 5 ((bR C (t.items.getD k.fst default) k.snd.fst k.snd.snd).fst.map Yfn))]))) .q)))))))))))) (.o 0 [0,2,3,4] [.a (vI k.snd.fst),.o
 (.arr true 5 (k.snd.snd.map Yfn))]))) (by
 intro k h; try dsimp only [Yfp,Yg0,Z2k,Z2j] at h ⊢
 obtain ⟨i,m,O⟩:=k
 simp only at *
 have H:=h.2.2.1
 have p1:i<t.items.length->(t.items.length<=i+1 ∨ Yfw (t.items.getD (i+1) default)=false)->(bld (t.items.getD i default) C m).2.1=true->Ygy (t.items.drop i) C m O=Ygy (t.items.drop (i+1)) C (bld (t.items.getD i default) C m).2.2 (O++[(bld (t.items.getD i default) C m).1]):=fun a b c=>by rw [Yyt a b,if_pos c]
 have p2:i<t.items.length->(t.items.length<=i+1 ∨ Yfw (t.items.getD (i+1) default)=false)->(bld (t.items.getD i default) C m).2.1=false->Ygy (t.items.drop i) C m O=(O,false,(bld (t.items.getD i default) C m).2.2):=fun a b c=>by rw [Yyt a b,if_neg (by rw [c]; decide)]
 have d1:i+1<t.items.length->Yfw (t.items.getD (i+1) default)=true->(bR C (t.items.getD i default) m O).2.1=true->Ygy (t.items.drop i) C m O=Ygy (t.items.drop (i+1+1)) C (bR C (t.items.getD i default) m O).2.2 (bR C (t.items.getD i default) m O).1:=fun a b c=>by rw [Y11m a b,if_pos c]
 have d2:i+1<t.items.length->Yfw (t.items.getD (i+1) default)=true->(bR C (t.items.getD i default) m O).2.1=false->Ygy (t.items.drop i) C m O=bR C (t.items.getD i default) m O:=fun a b c=>by rw [Y11m a b,if_neg (by rw [c]; decide)]
 have e1:t.items.length<=i->Ygy (t.items.drop i) C m O=(O,true,m):=fun a=>Y1go a
 have g4:=Y1eq (t.items.getD i default) C m
 have g6:0<=m->(bR C (t.items.getD i default) m O).2.1=true->0<=(bR C (t.items.getD i default) m O).2.2/\((bR C (t.items.getD i default) m O).1.length:Int)+(bR C (t.items.getD i default) m O).2.2<=O.length+m:=fun a b=>⟨(Y12u C _ _ m O a b).1,(Y12u C _ _ m O a b).2.1⟩
 have g8:=@Yj5 t i
 have g9:(Yj0 C (Yfv (t.items.getD i default) []) (Yfv (t.items.getD i default) []).length&&decide (0<=cnN C (Yfv (t.items.getD i default) []) (Yfv (t.items.getD i default) []).length))=(bJ C (t.items.getD i default) 0 m O).2.1:=by rw [Y10g]; rfl
 have g10:m=(bJ C (t.items.getD i default) 0 m O).2.2:=by rw [Y10g]
 have g11:O=(bJ C (t.items.getD i default) 0 m O).1:=by rw [Y10g]
 with_reducible repeat' (first | apply And.intro | exact zR | exact ih | (intro) | apply Z5 | apply Z1l | apply Z1e | apply Z2y | apply ih)
 all_goals ((try simp only [std,inj] at *); with_reducible and_intros)
 all_goals try first | with_reducible (first | apply Z5 | apply Z1l | apply Z1e | apply Z2y | apply ih) | (simp only [<- List.map_append]; with_reducible first | apply Z5 | apply Z1l | apply Z1e | apply Z2y | apply ih)
 all_goals try first | exact zw
 all_goals (try simp only [Bool.not_eq_true',Bool.not_eq_false',decide_eq_false_iff_not,decide_eq_true_eq,Decidable.not_not] at *)
 all_goals (try first | exact Yfx (by omega) | exact hC _ (by assumption) | exact g9 | exact g10 | exact g11 | (rw [<- g11]; done) | exact Yfs (C:=Yfn) _ _)
 all_goals (try first | (rw [H,p1 (by omega) (by first | exact Or.inl (by omega) | exact Or.inr (by assumption)) (by assumption)]) | (rw [H,p2 (by omega) (by first | exact Or.inl (by omega) | exact Or.inr (by assumption)) (by assumption)]) | (rw [H,d1 (by omega) (by assumption) (by assumption)]) | (rw [H,d2 (by omega) (by assumption) (by assumption)]; assumption) | (rw [H,d2 (by omega) (by assumption) (by assumption)]) | (rw [H,e1 (by omega)]))
 all_goals (try first | (have:=g4 (by omega) (by assumption); first | omega | (simp only [List.length_singleton]; omega)) | (have:=g6 (by omega) (by assumption); omega)))
theorem Zcr (t:YS) (C:List YC) (q:Int) (h:0<=q/\q<=2000/\wY t<=1000000000/\C.length<=1000000000) (hC:∀ z∈C,mxP z<=1000000000) (ih:∀ z ∈
 t.items,∀ (C:List YC) (q:Int) (h:0<=q/\q<=2000/\wY z<=1000000000/\C.length<=1000000000) (hC:∀ z∈C,mxP z<=1000000000),Zc z C q)  : Zc t C
 q:=Yg4 Tryz.call175 Tryz.func175 (.r (q - 1) (.i (q - (1:Int)<0) (.w (.ghost (.nilbox 2 3 true 1)) (.w (.ghost (.nilbox 2 4 true 5)) (.f [3,4] [.box [vI (q - 1)],.arr
 true 1 [],.arr true 5 []] (.tup [.agg [vI 0,vI 0,vS (ByteArray.mk #[]),.ref 1,.ref 2],lb false])))) (.i (t.kind=1) (.c [.rd,.rd] (Z4o C t) (.c [.rd]
 (Zb t) (.b (Yfw t) (.y true (.w (.draw [(5,[2])]) (.d [.rd] (Zl t) (.c [.rd] (Zb t) (.f [5,6] [.box [vI (q - 1)],.arr true 1 (t.scopes.map Yfr),
 .arr true 5 (t.items.map Yfn)] (.tup [.agg [vI t.kind,vI t.number,vS t.text,.ref 1,.ref 2],lb !Yfw t])))))) (.i (fnd C t<0) (.w (.draw [(5,[2])]) (.d
 [.rd] (Zl t) (.c [.rd] (Zb t) (.f [5,6] [.box [vI (q - 1)],.arr true 1 (t.scopes.map Yfr),.arr true 5 (t.items.map Yfn)] (.tup [.agg [vI
 t.kind,vI t.number,vS t.text,.ref 1,.ref 2],lb !Yfw t]))))) (.r (q - 1+1) (.x (fnd C t) (C.map Yfo) (Yg7 (C.getD (fnd C t).toNat default)) (.i
 ((C.getD (fnd C t).toNat default).depth≠0) (.y true (.w (.ghost (.nilbox 2 3 true 1)) (.w (.ghost (.nilbox 2 4 true 5)) (.f [3,4] [.box [vI (q - 1+1)],.arr true 1 [],
 .arr true 5 []] (.tup [.agg [vI 0,vI 0,vS (ByteArray.mk #[]),.ref 1,.ref 2],lb false]))))) (.x (fnd C t) (C.map Yfo) (Yg7 (C.getD (fnd C t).toNat
 default)) (.d [.rd,.ptr] (Z10 (C.getD (fnd C t).toNat default).form (q - 1+1)) (.b (!decide ((↑(Yft (C.getD (fnd C t).toNat default).form):Int)<=q - 1+1)) (.w
 (.ghost (.nilbox 2 3 true 1)) (.w (.ghost (.nilbox 2 4 true 5)) (.f [3,4] [.box [vI (max (q - 1+1 - (↑(Yft (C.getD (fnd C t).toNat default).form):Int)) (-1:Int))],
 .arr true 1 [],.arr true 5 []] (.tup [.agg [vI 0,vI 0,vS (ByteArray.mk #[]),.ref 1,.ref 2],lb false])))) (.x (fnd C t) (C.map Yfo) (Yg7 (C.getD
 (fnd C t).toNat default)) (.d [.rd] (Zl (C.getD (fnd C t).toNat default).form) (.f [3,4] [.box [vI (max (q - 1+1 - (↑(Yft (C.getD (fnd C t).toNat default).form) :
 Int)) (-1:Int))],.arr true 1 ((C.getD (fnd C t).toNat default).form.scopes.map Yfr),.arr true 5 ((C.getD (fnd C t).toNat default).form.items.map Yfn)]
 (.tup [.agg [vI (C.getD (fnd C t).toNat default).form.kind,vI (C.getD (fnd C t).toNat default).form.number,vS (C.getD (fnd C t).toNat default).form.text,.ref 1,.ref
 2],lb true])))))))))))))) (.w (.ghost (.nilbox 3 4 true 5)) (.l (Z2k t C q) (Z9u t C q h hC ih) [0,1,2,3,4] [.s (li 0),.a (vI (q - 1)),.o (.arr true 5
 [])] (0,q - 1,[]) (.t (.w (.ghost (.nilbox 1 3 true 1)) (.f [4,3] [.box [vI (Ygy t.items C (q - 1) []).snd.snd],.arr true 1 [],.arr true 5 ((Ygy
 t.items C (q - 1) []).fst.map Yfn)] (.tup [.agg [vI t.kind,vI t.number,vS t.text,.ref 1,.ref 2],lb true]))) (.t (.w (.ghost (.nilbox 1 3 true 1)) (.w (.ghost (.nilbox 1 4
 true 5)) (.f [2,3] [.box [vI (Ygy t.items C (q - 1) []).snd.snd],.arr true 1 [],.arr true 5 []] (.tup [.agg [vI 0,vI 0,vS (mkS []),.ref 1,.ref 2],lb
 false])))) .q))))))) (by
 dsimp only [Yfp,Zc,Yg0,Z2k]
 have g2:=Yl7 C t
 have g3:=@Y108 C hC t
 have g4:=Yhn t
 with_reducible repeat' (first | apply And.intro | exact zR | exact ih | (intro) | apply Z5 | apply Z1l | apply Z1e | apply Z2y)
 all_goals ((try simp only [std,inj] at *); with_reducible and_intros)
 all_goals try with_reducible first | apply Z5 | apply Z1l | apply Z1e | apply Z2y | apply ih
 all_goals try first | exact zw
 all_goals (try simp only [Bool.not_eq_true',Bool.not_eq_false',decide_eq_false_iff_not,decide_eq_true_eq,Decidable.not_not] at *)
 all_goals (try first | exact hC _ (by assumption) | exact Y108 hC (by omega) | (rw [Y1mr (by omega)]) | (rw [Y1nb (by omega) (by assumption) (by first | exact Or.inl (by assumption) | exact Or.inr (by omega))]) | (rw [Y1mx (by omega) (by assumption) (by assumption) (by omega) (by assumption)]) | (rw [Y1p1 (by omega) (by assumption) (by assumption) (by omega) (by assumption) (by omega)]) | (rw [Y1n0 (by omega) (by assumption) (by assumption) (by omega) (by assumption) (by omega)]) | (rw [Y1nd (by omega) (by assumption) (by assumption)]) | (rw [Y1n9 (by omega) (by assumption) (by assumption)]))
 all_goals (try first | rfl | (dsimp only; omega) | (simp only [List.length_nil]; omega)))
theorem Zbg (t:YS):∀ (C:List YC) (q:Int) (h:0<=q/\q<=2000/\wY t<=1000000000/\C.length<=1000000000) (hC:∀ z∈C,mxP z<=1000000000),Zc t C q:=YS.ind (P:=fun t=>∀ (C:List YC) (q:Int) (h:0<=q/\q<=2000/\wY t<=1000000000/\C.length<=1000000000) (hC:∀ z∈C,mxP z<=1000000000),Zc t C q) (fun t ih C q h hC=>Zcr t C q h hC ih) t
abbrev Za (t:YS) (C:List YC) (q:Int):Ct:=⟨45,[.box [vI q]],[.one (.ptr 0 0),Ygb t,ll (C.map Yfo)],.box [vI (bli t C q).2.2] :: Yhl (bli t C q).1,.tup [Yhp (bli t C q).1 1,lb (bli t C q).2.1]⟩
def Z2l (t:YS) (C:List YC) (q:Int) (k:Nat × Int × List YS) (k1:Nat):Lp Nat:=.mk 206 1 (fun x=>[(0,.one (.ptr 0 0)),(2,ll (List.map
 Yfo C)),(4,.one (.ptr 1 0)),(6,.one (.ptr 2 0)),(10,.one (.ptr 3 0)),(11,li ((k.fst:Int)+1)),(12,.one (.ptr 4 0)),(15,.one (.ref 5)),
 (16,li (↑((C.getD ((rpi C (t.items.getD k.fst default) []).getD 0 0).toNat default).each.map Yfo).length:Int)),(19,li (k1:Int)),(20,.one (.ref 6)),(171,
 .one (.ref 5)),(172,li (↑((rpi C (t.items.getD k.fst default) []).map Yfr).length:Int)),(173,hs x 0)]) (fun x=>[.box [vI (iI C (t.items.getD k.fst default) k1
 k.snd.fst k.snd.snd).snd.snd],.box (vals (Yfu t)),.box [vI 0,vI 0,vS (ByteArray.mk #[]),.val (.lit (.slice none 0 0)),.val (.lit (.slice none 0
 0))],.box [vI t.kind,vI t.number,vS t.text,.ref 7,.ref 8],.box (vals (Yfu (t.items.getD k.fst default))),.arr true 1 ((rpi C (t.items.getD k.fst
 default) []).map Yfr),ho x 1,.arr true 1 (t.scopes.map Yfr),.arr true 5 ((iI C (t.items.getD k.fst default) k1 k.snd.fst k.snd.snd).fst.map Yfn)]) (fun k2=>[.s (li
 (k2:Int)),.o (.arr false 12 ((Ykt C k1 (List.take k2 (rpX C (t.items.getD k.fst default)))).map Yfo))]) (fun k2=>k2<=(rpX C (t.items.getD k.fst
 default)).length/\(rpX C (t.items.getD k.fst default)).length<=1000000001/\k1<rqN C (t.items.getD k.fst default)/\rqB C (t.items.getD k.fst default)=true) (fun k2=>(rpX
 C (t.items.getD k.fst default)).length - k2) [.mk True (.exit 6) (fun x=>[(0,.one (.ptr 0 0)),(2,ll (C.map Yfo)),(4,.one (.ptr 1 0)),(6,.one (.ptr 2
 0)),(10,.one (.ptr 3 0)),(11,li ((k.fst:Int)+1)),(12,.one (.ptr 4 0)),(15,.one (.ref 5)),(16,li (↑((C.getD ((rpi C (t.items.getD k.fst
 default) []).getD 0 0).toNat default).each.map Yfo).length:Int)),(19,li (k1:Int)),(20,.one (.ref 6))]) (fun x=>[.box [vI (iI C (t.items.getD k.fst default) k1 k.snd.fst
 k.snd.snd).snd.snd],.box (vals (Yfu t)),.box [vI 0,vI 0,vS (ByteArray.mk #[]),.val (.lit (.slice none 0 0)),.val (.lit (.slice none 0 0))],
 .box [vI t.kind,vI t.number,vS t.text,.ref 7,.ref 8],.box (vals (Yfu (t.items.getD k.fst default))),.arr true 1 ((rpi C (t.items.getD k.fst
 default) []).map Yfr),ho x 0,.arr true 1 (t.scopes.map Yfr),.arr true 5 ((iI C (t.items.getD k.fst default) k1 k.snd.fst k.snd.snd).fst.map Yfn)]) [.o (.arr false
 12 ((stq C (t.items.getD k.fst default) k1).map Yfo))]]
def Z2m (t:YS) (C:List YC) (q:Int) (k:Nat × Int × List YS):Lp Nat:=.mk 206 1 (fun x=>[(0,.one (.ptr 0 0)),(2,ll (C.map Yfo)),
 (4,.one (.ptr 1 0)),(6,.one (.ptr 2 0)),(10,.one (.ptr 3 0)),(11,li ((k.fst:Int)+1)),(12,.one (.ptr 4 0)),(15,.one (.ref 5)),(16,li
 (↑((C.getD ((rpi C (t.items.getD k.fst default) []).getD 0 0).toNat default).each.map Yfo).length:Int)),(19,hs x 0)]) (fun x=>[.box [ha x 1],.box (vals
 (Yfu t)),.box [vI 0,vI 0,vS (ByteArray.mk #[]),.val (.lit (.slice none 0 0)),.val (.lit (.slice none 0 0))],.box [vI t.kind,vI t.number,vS
 t.text,.ref 6,.ref 7],.box (vals (Yfu (t.items.getD k.fst default))),.arr true 1 ((rpi C (t.items.getD k.fst default) []).map Yfr),.arr true 1 (List.map
 Yfr t.scopes),ho x 2]) (fun k1=>[.s (li (k1:Int)),.a (vI (iI C (t.items.getD k.fst default) k1 k.snd.fst k.snd.snd).snd.snd),.o (.arr true 5 ((iI C
 (t.items.getD k.fst default) k1 k.snd.fst k.snd.snd).fst.map Yfn))]) (fun k1=>k1<=rqN C (t.items.getD k.fst default)/\rqB C (t.items.getD k.fst default)=true/\(iI C (t.items.getD
 k.fst default) k1 k.snd.fst k.snd.snd).snd.fst=true/\(rpX C (t.items.getD k.fst default)).length<=1000000001/\k.fst+1<t.items.length/\t.items.length<=1000000000 /\
 Yfw (t.items.getD (k.fst+1) default)=true/\0<=k.snd.fst/\(k.snd.snd.length:Int)+k.snd.fst<=2000/\Ygr t.items C (q - 1) []=Ygr (List.drop k.fst t.items) C
 k.snd.fst k.snd.snd) (fun k1=>rqN C (t.items.getD k.fst default) - k1) [.mk ((iR C (t.items.getD k.fst default) k.snd.fst k.snd.snd).snd.fst=true) (.exit 4) (fun x=>[(0,
 .one (.ptr 0 0)),(2,ll (C.map Yfo)),(4,.one (.ptr 1 0)),(6,.one (.ptr 2 0)),(10,.one (.ptr 3 0)),(11,li ((k.fst:Int)+1))]) (fun x=>
 [.box [ha x 0],.box (vals (Yfu t)),.box [vI 0,vI 0,vS (ByteArray.mk #[]),.val (.lit (.slice none 0 0)),.val (.lit (.slice none 0 0))],.box
 [vI t.kind,vI t.number,vS t.text,.ref 4,.ref 5],.arr true 1 (t.scopes.map Yfr),ho x 1]) [.a (vI (iR C (t.items.getD k.fst default) k.snd.fst k.snd.snd).snd.snd),
 .o (.arr true 5 ((iR C (t.items.getD k.fst default) k.snd.fst k.snd.snd).fst.map Yfn))],.mk ((Ygr t.items C (q - 1) []).snd.fst=false) .ret (fun x=>[(6,.one
 (.ptr 1 0)),(7,hs x 2)]) (fun x=>[.box [ha x 0],ho x 1]) [.a (vI (Ygr t.items C (q - 1) []).snd.snd),.o (.box [vI 0,vI 0,vS (mkS []),.val (.lit (.slice
 none 0 0)),.val (.lit (.slice none 0 0))]),.s (lb false)]]
def Z2n (t:YS) (C:List YC) (q:Int) (k:Nat × Int × List YS):Lp Nat:=.mk 206 1 (fun x=>[(0,.one (.ptr 0 0)),(2,ll (C.map Yfo)),
 (4,.one (.ptr 1 0)),(6,.one (.ptr 2 0)),(10,.one (.ptr 3 0)),(11,li ((k.fst:Int)+1)),(12,.one (.ptr 4 0)),(15,.one (.ref 5)),(16,li
 (↑((C.getD ((rpi C (t.items.getD k.fst default) []).getD 0 0).toNat default).each.map Yfo).length:Int)),(148,.one (.ref 5)),(149,li (↑((rpi C
 (t.items.getD k.fst default) []).map Yfr).length:Int)),(150,hs x 0)]) (fun x=>[.box [vI k.snd.fst],.box (vals (Yfu t)),.box [vI 0,vI 0,vS (ByteArray.mk #[]),.val
 (.lit (.slice none 0 0)),.val (.lit (.slice none 0 0))],.box [vI t.kind,vI t.number,vS t.text,.ref 6,.ref 7],.box (vals (Yfu (t.items.getD
 k.fst default))),.arr true 1 ((rpi C (t.items.getD k.fst default) []).map Yfr),.arr true 1 (t.scopes.map Yfr),.arr true 5 (k.snd.snd.map Yfn)]) (fun
 k1=>[.s (li (k1:Int))]) (fun k1=>k1<=(rpX C (t.items.getD k.fst default)).length/\(rpX C (t.items.getD k.fst default)).length<=1000000001/\rqA C (List.take k1 (rpX C
 (t.items.getD k.fst default))) (lnI C ((rpX C (t.items.getD k.fst default)).getD 0 default))=true/\0<(rpX C (t.items.getD k.fst default)).length/\k.fst+1<t.items.length
 /\ t.items.length<=1000000000/\Yfw (t.items.getD (k.fst+1) default)=true/\0<=k.snd.fst/\(k.snd.snd.length:Int)+k.snd.fst<=2000/\Ygr t.items C (q - 1) []=Ygr
 (List.drop k.fst t.items) C k.snd.fst k.snd.snd) (fun k1=>(rpX C (t.items.getD k.fst default)).length - k1) [.mk (rqB C (t.items.getD k.fst default)=true) (.exit 2) (fun x=>
 [(0,.one (.ptr 0 0)),(2,ll (C.map Yfo)),(4,.one (.ptr 1 0)),(6,.one (.ptr 2 0)),(10,.one (.ptr 3 0)),(11,li ((k.fst:Int)+1)),(12,.one
 (.ptr 4 0)),(15,.one (.ref 5)),(16,li (↑((C.getD ((rpi C (t.items.getD k.fst default) []).getD 0 0).toNat default).each.map Yfo).length:Int))]) (fun x=>
 [.box [vI k.snd.fst],.box (vals (Yfu t)),.box [vI 0,vI 0,vS (ByteArray.mk #[]),.val (.lit (.slice none 0 0)),.val (.lit (.slice none 0 0))],
 .box [vI t.kind,vI t.number,vS t.text,.ref 6,.ref 7],.box (vals (Yfu (t.items.getD k.fst default))),.arr true 1 ((rpi C (t.items.getD k.fst
 default) []).map Yfr),.arr true 1 (t.scopes.map Yfr),.arr true 5 (k.snd.snd.map Yfn)]) [],.mk ((Ygr t.items C (q - 1) []).snd.fst=false) .ret (fun x=>[(6,
 .one (.ptr 1 0)),(7,hs x 2)]) (fun x=>[.box [ha x 0],ho x 1]) [.a (vI (Ygr t.items C (q - 1) []).snd.snd),.o (.box [vI 0,vI 0,vS (mkS []),.val (.lit
 (.slice none 0 0)),.val (.lit (.slice none 0 0))]),.s (lb false)]]
def Z2o (t:YS) (C:List YC) (q:Int):Lp (Nat × Int × List YS):=.mk 206 1 (fun x=>[(0,.one (.ptr 0 0)),(2,ll (C.map Yfo)),(4,
 .one (.ptr 1 0)),(6,.one (.ptr 2 0)),(10,.one (.ptr 3 0)),(11,hs x 0)]) (fun x=>[.box [ha x 1],.box (vals (Yfu t)),.box [vI 0,vI 0,vS
 (ByteArray.mk #[]),.val (.lit (.slice none 0 0)),.val (.lit (.slice none 0 0))],.box [vI t.kind,vI t.number,vS t.text,.ref 4,.ref 5],.arr
 true 1 (t.scopes.map Yfr),ho x 2]) (fun k=>[.s (li (k.fst:Int)),.a (vI k.snd.fst),.o (.arr true 5 (k.snd.snd.map Yfn))]) (fun k=>t.items.length >= k.fst
 /\ t.items.length<=1000000000/\Ygr t.items C (q - 1) []=Ygr (List.drop k.fst t.items) C k.snd.fst k.snd.snd/\0<=k.snd.fst/\(k.snd.snd.length:Int)+k.snd.fst<=2000)
 (fun k=>t.items.length - k.fst) [.mk ((Ygr t.items C (q - 1) []).snd.fst=true) (.exit 0) (fun x=>[(6,.one (.ptr 1 0)),(10,.one (.ptr 2 0))]) (fun x=>[.box
 [ha x 0],.box [vI 0,vI 0,vS (ByteArray.mk #[]),.val (.lit (.slice none 0 0)),.val (.lit (.slice none 0 0))],.box [vI t.kind,vI t.number,vS
 t.text,.ref 3,.ref 4],.arr true 1 (t.scopes.map Yfr),ho x 1]) [.a (vI (Ygr t.items C (q - 1) []).snd.snd),.o (.arr true 5 ((Ygr t.items C (q
 - 1) []).fst.map Yfn))],.mk ((Ygr t.items C (q - 1) []).snd.fst=false) .ret (fun x=>[(6,.one (.ptr 1 0)),(7,hs x 2)]) (fun x=>[.box [ha x 0],ho x 1]) [.a (vI (Ygr
 t.items C (q - 1) []).snd.snd),.o (.box [vI 0,vI 0,vS (mkS []),.val (.lit (.slice none 0 0)),.val (.lit (.slice none 0 0))]),.s (lb false)]]
theorem Z9v (t:YS) (C:List YC) (q:Int) (h:0<=q/\q<=2000/\wY t<=1000000000/\C.length<=1000000000) (hC:∀ (z:YC),z∈C->mxP z <=
 1000000000) (ih:∀ (z:YS),z∈t.items->∀ (C:List YC) (q:Int),0<=q/\q<=2000/\wY z<=1000000000/\C.length<=1000000000->(∀ (z:YC),z∈C->mxP z <=
 1000000000)->OK (Za z C q)) (k:Nat × Int × List YS) (k1:Nat):Lp.Sem Tryz.prog (Yg6 Tryz.f45 3) (Z2l t C q k k1):=Ygf (fun k2=>.i ((k2:Int)
 < (↑((rpi C (t.items.getD k.fst default) []).map Yfr).length:Int)) (.p (0<=(k2:Int)/\(k2:Int).toNat<((rpi C (t.items.getD k.fst default)
 []).map Yfr).length) (.w (.cells (Yfr ((rpi C (t.items.getD k.fst default) []).getD (k2:Int).toNat default))) (.p (((rpi C (t.items.getD k.fst default) []).map Yfr)[(↑k2 :
 Int).toNat]? = some [cI ((rpi C (t.items.getD k.fst default) []).getD (k2:Int).toNat 0)]) (.x ((rpi C (t.items.getD k.fst default) []).getD (k2:Int).toNat 0) (List.map
 Yfo C) (Yg7 (C.getD ((rpi C (t.items.getD k.fst default) []).getD (k2:Int).toNat 0).toNat default)) (.x (k1:Int) ((C.getD ((rpi C (t.items.getD
 k.fst default) []).getD (k2:Int).toNat 0).toNat default).each.map Yfo) (Yg7 ((C.getD ((rpi C (t.items.getD k.fst default) []).getD (k2:Int).toNat 0).toNat default).each.getD k1
 default)) (.p (0<=(rpi C (t.items.getD k.fst default) []).getD (k2:Int).toNat 0/\((rpi C (t.items.getD k.fst default) []).getD (k2:Int).toNat 0).toNat<(List.map Yfo
 (Ykt C k1 (List.take k2 (rpX C (t.items.getD k.fst default))))).length) (.w (.cells (Yg7 ((Ykt C k1 (List.take k2 (rpX C (t.items.getD k.fst default)))).getD ((rpi C
 (t.items.getD k.fst default) []).getD (k2:Int).toNat 0).toNat default))) (.p (((Ykt C k1 (List.take k2 (rpX C (t.items.getD k.fst default)))).map Yfo)[((rpi C
 (t.items.getD k.fst default) []).getD (k2:Int).toNat 0).toNat]? = some (Yg7 ((Ykt C k1 (List.take k2 (rpX C (t.items.getD k.fst default)))).getD ((rpi C (t.items.getD
 k.fst default) []).getD (k2:Int).toNat 0).toNat default))) (.r ((k2:Int)+1) (.g [0,1,2,3,4,5,6,7,8] (k2+1) [.s (li ((k2:Int)+1)),.o (.arr false 12
 (((Ykt C k1 (List.take k2 (rpX C (t.items.getD k.fst default)))).map Yfo).set ((rpi C (t.items.getD k.fst default) []).getD (k2:Int).toNat 0).toNat (Yg7
 ((C.getD ((rpi C (t.items.getD k.fst default) []).getD (k2:Int).toNat 0).toNat default).each.getD k1 default))))])))))))))) (.o 0 [0,1,2,3,4,5,6,7,8] [.o (.arr false
 12 ((Ykt C k1 (List.take k2 (rpX C (t.items.getD k.fst default)))).map Yfo))])) (by
 intro k2 h; try dsimp only [Yfp,Yg0,Z2l] at h ⊢
 obtain ⟨i,m,O⟩:=k
 simp only at *
 have hB:=h.2.2.2
 have g1:=@Yv3 C (t.items.getD i default) k2
 have g3:k2<(rpX C (t.items.getD i default)).length->(C.getD ((rpX C (t.items.getD i default)).getD k2 0).toNat default).each.length=rqN C (t.items.getD i default):=fun a=>Y1ge hB a
 have g4:=Y14c C k1 ((rpX C (t.items.getD i default)).take k2)
 have g5:k2<(rpX C (t.items.getD i default)).length->(List.map Yfo (Ykt C k1 ((rpX C (t.items.getD i default)).take k2))).set ((rpX C (t.items.getD i default)).getD k2 0).toNat (Yg7 ((C.getD ((rpX C (t.items.getD i default)).getD k2 0).toNat default).each.getD k1 default))=List.map Yfo (Ykt C k1 ((rpX C (t.items.getD i default)).take (k2+1))):=fun a=>by rw [Y1jp,Y1f2 a]; rfl
 have g6:(rpX C (t.items.getD i default)).length<=k2->Ykt C k1 ((rpX C (t.items.getD i default)).take k2)=stq C (t.items.getD i default) k1:=fun a=>Y1k9 a
 with_reducible repeat' (first | apply And.intro | exact zR | exact ih | (intro) | apply Zj | apply Z3 | apply Z7 | apply Z1 | apply Z1j)
 all_goals ((try simp only [std,inj] at *); with_reducible and_intros)
 all_goals try with_reducible first | apply Zj | apply Z3 | apply Z7 | apply Z1 | apply Z1j | apply ih
 all_goals try first | exact zw
 all_goals (try simp only [Bool.not_eq_true',Bool.not_eq_false',decide_eq_false_iff_not,decide_eq_true_eq,Decidable.not_not] at *)
 all_goals (try simp only [rpX,rqN,dfI] at *)
 all_goals (try first | exact hB | omega | (have:=g1 (by omega); omega) | (have:=g1 (by omega); exact Yu9 this.2.2 (Ymm _)) | exact Yu9 (by have:=g3 (by omega); omega) (Ymm _) | exact g5 (by omega) | exact g6 (by omega) | (rw [g6 (by omega)]; done)))
theorem Z9w (t:YS) (C:List YC) (q:Int) (h:0<=q/\q<=2000/\wY t<=1000000000/\C.length<=1000000000) (hC:∀ (z:YC),z∈C->mxP z <=
 1000000000) (ih:∀ (z:YS),z∈t.items->∀ (C:List YC) (q:Int),0<=q/\q<=2000/\wY z<=1000000000/\C.length<=1000000000->(∀ (z:YC),z∈C->mxP z <=
 1000000000)->OK (Za z C q)) (k:Nat × Int × List YS):Lp.Sem Tryz.prog (Yg6 Tryz.f45 2) (Z2m t C q k):=Ygf (fun k1=>.i ((k1:Int)<(↑(List.map
 Yfo (C.getD ((rpi C (t.items.getD k.fst default) []).getD 0 0).toNat default).each).length:Int)) (.w (.bool false) (.p (∀ (e:List Cell),e∈C.map Yfo ->
 e.length=12) (.p ((0+(C.map Yfo).length) * 192<=140737488355328) (.z Yfr (rpi C (t.items.getD k.fst default) []) (.l (Z2l t C q k k1) (Z9v t C
 q h hC ih k k1) [0,1,2,3,4,5,8,6,7] [.s (li 0),.o (.arr false 12 (C.map Yfo))] 0 (.t (.d [.ptr,.rd,.rd] (Za (t.items.getD k.fst default) (stq C
 (t.items.getD k.fst default) k1) (iI C (t.items.getD k.fst default) k1 k.snd.fst k.snd.snd).snd.snd) (.b (!(bli (t.items.getD k.fst default) (stq C (t.items.getD k.fst default)
 k1) (iI C (t.items.getD k.fst default) k1 k.snd.fst k.snd.snd).snd.snd).snd.fst) (.o 1 [0,2] [.a (vI (bli (t.items.getD k.fst default) (stq C (t.items.getD k.fst default) k1) (iI
 C (t.items.getD k.fst default) k1 k.snd.fst k.snd.snd).snd.snd).snd.snd),.o (.box [vI 0,vI 0,vS (ByteArray.mk #[]),.val (.lit (.slice none 0 0)),.val (.lit
 (.slice none 0 0))]),.s (lb false)]) (.p ((((iI C (t.items.getD k.fst default) k1 k.snd.fst k.snd.snd).fst.map Yfn).length+1) * 80<=140737488355328) (.r ((↑k1 :
 Int)+1) (.g [0,1,2,3,4,5,7,14] (k1+1) [.s (li ((k1:Int)+1)),.a (vI (bli (t.items.getD k.fst default) (stq C (t.items.getD k.fst default) k1) (iI C (t.items.getD
 k.fst default) k1 k.snd.fst k.snd.snd).snd.snd).snd.snd),.o (.arr true 5 ((iI C (t.items.getD k.fst default) k1 k.snd.fst k.snd.snd).fst.map Yfn++[Yfu (bli
 (t.items.getD k.fst default) (stq C (t.items.getD k.fst default) k1) (iI C (t.items.getD k.fst default) k1 k.snd.fst k.snd.snd).snd.snd).fst]))]))))) .q)))))) (.o 0 [0,1,2,3,
 6,7] [.a (vI (iI C (t.items.getD k.fst default) k1 k.snd.fst k.snd.snd).snd.snd),.o (.arr true 5 ((iI C (t.items.getD k.fst default) k1 k.snd.fst
 k.snd.snd).fst.map Yfn))])) (by
 intro k1 h; try dsimp only [Yfp,Yg0,Z2m,Z2l] at h ⊢
 obtain ⟨i,m,O⟩:=k
 simp only at *
 have hd:=h.2.2.2.2.2.2.1
 have H:=h.2.2.2.2.2.2.2.2.2
 have hB:=h.2.1
 have hI:=h.2.2.1
 have hj:=h.1
 have hi:=h.2.2.2.2.1
 have g1:=Y199 C (t.items.getD i default) k1 m O hI
 have g2:=Y1is C (t.items.getD i default) k1 m O (by omega) hI
 have g8:=@Yj5 t i (Nat.lt_of_succ_lt hi)
 have g9:Ykt C k1 ((rpX C (t.items.getD i default)).take 0)=C:=rfl
 have g11:0<(rpX C (t.items.getD i default)).length:=by
  simp only [rqB,Bool.and_eq_true,Bool.not_eq_true',decide_eq_false_iff_not] at hB
  omega
 have g12:=Y1fk hC g11
 have b0:k1<rqN C (t.items.getD i default)->(bli (t.items.getD i default) (stq C (t.items.getD i default) k1) (iI C (t.items.getD i default) k1 m O).2.2).2.1=false->(Ygr t.items C (q - 1) []).2.1=false/\(Ygr t.items C (q - 1) []).2.2=(bli (t.items.getD i default) (stq C (t.items.getD i default) k1) (iI C (t.items.getD i default) k1 m O).2.2).2.2:=fun a c=>by
  have r:=Y1o2 hB a hI c
  rw [H,Yqu hi hd,if_neg (by rw [r.1]; decide)]; exact r
 have b1:rqN C (t.items.getD i default)<=k1->iR C (t.items.getD i default) m O=iI C (t.items.getD i default) k1 m O:=fun a=>Y1pf hB hj a
 with_reducible repeat' (first | apply And.intro | exact zR | exact ih | (intro) | apply Zj | apply Z3 | apply Z7 | apply Z1 | apply Z1j | apply ih)
 all_goals ((try simp only [std,inj] at *); with_reducible and_intros)
 all_goals try first | with_reducible (first | apply Zj | apply Z3 | apply Z7 | apply Z1 | apply Z1j | apply ih) | (simp only [<- List.map_append]; with_reducible first | apply Zj | apply Z3 | apply Z7 | apply Z1 | apply Z1j | apply ih)
 all_goals try first | exact zw
 all_goals (try simp only [Bool.not_eq_true',Bool.not_eq_false',decide_eq_false_iff_not,decide_eq_true_eq,Decidable.not_not] at *)
 all_goals (try simp only [rpX,rqN,dfI] at *)
 all_goals (try first | exact hd | exact H | exact hB | exact Yfx hi | exact hC _ (by assumption) | exact Y1oq hC _ _ _ (by assumption) | exact g9.symm | (rw [g9]; done) | (rw [Y14c]; omega) | omega | exact (b0 (by omega) (by assumption)).1 | exact (b0 (by omega) (by assumption)).2.symm | (rw [g1]; done) | (rw [g1]; assumption) | (rw [g1]; exact Yfs (C:=Yfn) _ _) | (rw [b1 (by omega)]; done) | (rw [b1 (by omega)]; exact hI))
 all_goals (try exact Yfx (Nat.lt_of_succ_lt hi)))
theorem Z9x (t:YS) (C:List YC) (q:Int) (h:0<=q/\q<=2000/\wY t<=1000000000/\C.length<=1000000000) (hC:∀ (z:YC),z∈C->mxP z <=
 1000000000) (ih:∀ (z:YS),z∈t.items->∀ (C:List YC) (q:Int),0<=q/\q<=2000/\wY z<=1000000000/\C.length<=1000000000->(∀ (z:YC),z∈C->mxP z <=
 1000000000)->OK (Za z C q)) (k:Nat × Int × List YS):Lp.Sem Tryz.prog (Yg6 Tryz.f45 1) (Z2n t C q k):=Ygf (fun k1=>.i ((k1:Int)<(↑(List.map
 Yfr (rpi C (t.items.getD k.fst default) [])).length:Int)) (.p (0<=(k1:Int)/\(k1:Int).toNat<((rpi C (t.items.getD k.fst default) []).map Yfr).length) (.w (.cells
 (Yfr ((rpi C (t.items.getD k.fst default) []).getD (k1:Int).toNat default))) (.p (((rpi C (t.items.getD k.fst default) []).map Yfr)[(k1:Int).toNat]? = some [cI ((rpi
 C (t.items.getD k.fst default) []).getD (k1:Int).toNat 0)]) (.x ((rpi C (t.items.getD k.fst default) []).getD (k1:Int).toNat 0) (C.map Yfo) (Yg7 (C.getD ((rpi
 C (t.items.getD k.fst default) []).getD (k1:Int).toNat 0).toNat default)) (.z Yfo (C.getD ((rpi C (t.items.getD k.fst default) []).getD (k1:Int).toNat 0).toNat
 default).each (.i ((↑((C.getD ((rpi C (t.items.getD k.fst default) []).getD (k1:Int).toNat 0).toNat default).each.map Yfo).length:Int)≠(↑(List.map Yfo
 (C.getD ((rpi C (t.items.getD k.fst default) []).getD 0 0).toNat default).each).length:Int)) (.o 1 [0,2] [.a (vI k.snd.fst),.o (.box [vI 0,vI 0,vS (ByteArray.mk #[]),
 .val (.lit (.slice none 0 0)),.val (.lit (.slice none 0 0))]),.s (lb false)]) (.r ((k1:Int)+1) (.g [0,1,2,3,4,5,6,7] (k1+1) [.s (li ((↑k1 :
 Int)+1))])))))))) (.o 0 [0,1,2,3,4,5,6,7] [])) (by
 intro k1 h; try dsimp only [Yfp,Yg0,Z2n] at h ⊢
 obtain ⟨i,m,O⟩:=k
 simp only at *
 have hd:=h.2.2.2.2.2.2.1
 have H:=h.2.2.2.2.2.2.2.2.2
 have hA:=h.2.2.1
 have h00:=h.2.2.2.1
 have g1:=@Yv3 C (t.items.getD i default) k1
 have g3:(rpX C (t.items.getD i default)).length<=k1->rqB C (t.items.getD i default)=true:=fun a=>Y1mq h00 a hA
 have g4:k1<(rpX C (t.items.getD i default)).length->¬ ((C.getD ((rpX C (t.items.getD i default)).getD k1 0).toNat default).each.length:Int)=((C.getD ((rpX C (t.items.getD i default)).getD 0 0).toNat default).each.length:Int)->Ygr t.items C (q - 1) []=(O,false,m):=fun a b=>by rw [H,Yqu h.2.2.2.2.1 hd,Y1p6 a b]; rfl
 have g5:k1<(rpX C (t.items.getD i default)).length->((C.getD ((rpX C (t.items.getD i default)).getD k1 0).toNat default).each.length:Int)=((C.getD ((rpX C (t.items.getD i default)).getD 0 0).toNat default).each.length:Int)->rqA C ((rpX C (t.items.getD i default)).take (k1+1)) (lnI C ((rpX C (t.items.getD i default)).getD 0 default))=true:=fun a b=>Y1fm a hA b
 with_reducible repeat' (first | apply And.intro | exact zR | exact ih | (intro) | apply Zj | apply Z3 | apply Z7 | apply Z1 | apply Z1j)
 all_goals ((try simp only [std,inj] at *); with_reducible and_intros)
 all_goals try with_reducible first | apply Zj | apply Z3 | apply Z7 | apply Z1 | apply Z1j | apply ih
 all_goals try first | exact zw
 all_goals (try simp only [Bool.not_eq_true',Bool.not_eq_false',decide_eq_false_iff_not,decide_eq_true_eq,Decidable.not_not] at *)
 all_goals (try simp only [rpX,rqN,dfI] at *)
 all_goals (try first | exact hd | exact H | omega | exact g3 (by omega) | exact g5 (by omega) (by assumption) | (have:=g1 (by omega); omega))
 all_goals (try (rw [g4 (by omega) (by assumption)]; first | done | rfl)))
theorem Z9y (t:YS) (C:List YC) (q:Int) (h:0<=q/\q<=2000/\wY t<=1000000000/\C.length<=1000000000) (hC:∀ (z:YC),z∈C->mxP z <=
 1000000000) (ih:∀ (z:YS),z∈t.items->∀ (C:List YC) (q:Int),0<=q/\q<=2000/\wY z<=1000000000/\C.length<=1000000000->(∀ (z:YC),z∈C->mxP z <=
 1000000000)->OK (Za z C q)):Lp.Sem Tryz.prog (Yg6 Tryz.f45 0) (Z2o t C q):=Ygf (fun k=>.z Yfn t.items (.i ((k.fst:Int)<(↑(List.map Yfn
 t.items).length:Int)) (.x (k.fst:Int) (t.items.map Yfn) (Yfu (t.items.getD k.fst default)) (.r ((k.fst:Int)+1) (.z Yfn t.items (.i ((k.fst:Int)+1 =
 (↑(t.items.map Yfn).length:Int)) (.y true (.d [.ptr,.rd,.rd] (Za (t.items.getD k.fst default) C k.snd.fst) (.b (!(bli (t.items.getD k.fst default) C
 k.snd.fst).snd.fst) (.o 1 [0,2] [.a (vI (bli (t.items.getD k.fst default) C k.snd.fst).snd.snd),.o (.box [vI 0,vI 0,vS (ByteArray.mk #[]),.val (.lit (.slice none
 0 0)),.val (.lit (.slice none 0 0))]),.s (lb false)]) (.p (((k.snd.snd.map Yfn).length+1) * 80<=140737488355328) (.r ((k.fst:Int)+1) (.g [0,1,2,3,
 4,12] (k.fst+1,(bli (t.items.getD k.fst default) C k.snd.fst).snd.snd,k.snd.snd++[(bli (t.items.getD k.fst default) C k.snd.fst).fst]) [.s (li ((k.fst:Int)+1)),.a (vI
 (bli (t.items.getD k.fst default) C k.snd.fst).snd.snd),.o (.arr true 5 (k.snd.snd.map Yfn++[Yfu (bli (t.items.getD k.fst default) C k.snd.fst).fst]))])))))) (.r
 ((k.fst:Int)+1) (.x ((k.fst:Int)+1) (t.items.map Yfn) (Yfu (t.items.getD (k.fst+1) default)) (.c [.rd] (Z1 (t.items.getD (k.fst+1) default)) (.b
 (!Yfw (t.items.getD (k.fst+1) default)) (.d [.ptr,.rd,.rd] (Za (t.items.getD k.fst default) C k.snd.fst) (.b (!(bli (t.items.getD k.fst default) C
 k.snd.fst).snd.fst) (.o 1 [0,2] [.a (vI (bli (t.items.getD k.fst default) C k.snd.fst).snd.snd),.o (.box [vI 0,vI 0,vS (ByteArray.mk #[]),.val (.lit (.slice none
 0 0)),.val (.lit (.slice none 0 0))]),.s (lb false)]) (.p (((k.snd.snd.map Yfn).length+1) * 80<=140737488355328) (.r ((k.fst:Int)+1) (.g [0,1,2,3,
 4,12] (k.fst+1,(bli (t.items.getD k.fst default) C k.snd.fst).snd.snd,k.snd.snd++[(bli (t.items.getD k.fst default) C k.snd.fst).fst]) [.s (li ((k.fst:Int)+1)),.a (vI
 (bli (t.items.getD k.fst default) C k.snd.fst).snd.snd),.o (.arr true 5 (k.snd.snd.map Yfn++[Yfu (bli (t.items.getD k.fst default) C k.snd.fst).fst]))]))))) (.r
 ((k.fst:Int)+1) (.d [.rd,.rd,.own true 1] (Z23 (t.items.getD k.fst default) C []) (.z Yfr (rpi C (t.items.getD k.fst default) []) (.i ((↑((rpi C
 (t.items.getD k.fst default) []).map Yfr).length:Int)=0) (.o 1 [0,2] [.a (vI k.snd.fst),.o (.box [vI 0,vI 0,vS (ByteArray.mk #[]),.val (.lit (.slice none 0 0)),
 .val (.lit (.slice none 0 0))]),.s (lb false)]) (.p ((0:Int)<=0/\0<((rpi C (t.items.getD k.fst default) []).map Yfr).length) (.w (.cells (Yfr ((rpi C
 (t.items.getD k.fst default) []).getD 0 default))) (.p (((rpi C (t.items.getD k.fst default) []).map Yfr)[0]? = some [cI ((rpi C (t.items.getD k.fst default) []).getD 0 0)])
 (.x ((rpi C (t.items.getD k.fst default) []).getD 0 0) (C.map Yfo) (Yg7 (C.getD ((rpi C (t.items.getD k.fst default) []).getD 0 0).toNat default)) (.z Yfo
 (C.getD ((rpi C (t.items.getD k.fst default) []).getD 0 0).toNat default).each (.z Yfr (rpi C (t.items.getD k.fst default) []) (.l (Z2n t C q k) (Z9x t C q h
 hC ih k) [0,1,2,3,6,8,4,5] [.s (li 0)] 0 (.t (.l (Z2m t C q k) (Z9w t C q h hC ih k) [0,1,2,3,4,5,6,7] [.s (li 0),.a (vI k.snd.fst),.o (.arr
 true 5 (k.snd.snd.map Yfn))] 0 (.t (.r ((k.fst:Int)+1+1) (.g [0,1,2,3,4,5] (k.fst+1+1,(iR C (t.items.getD k.fst default) k.snd.fst k.snd.snd).snd.snd,
 (iR C (t.items.getD k.fst default) k.snd.fst k.snd.snd).fst) [.s (li ((k.fst:Int)+1+1)),.a (vI (iR C (t.items.getD k.fst default) k.snd.fst k.snd.snd).snd.snd),.o (.arr
 true 5 ((iR C (t.items.getD k.fst default) k.snd.fst k.snd.snd).fst.map Yfn))])) (.t (.o 1 [0,1] [.a (vI (Ygr t.items C (q - 1) []).snd.snd),.o (.box [vI 0,vI 0,vS
 (mkS []),.val (.lit (.slice none 0 0)),.val (.lit (.slice none 0 0))]),.s (lb false)]) .q))) (.t (.o 1 [0,1] [.a (vI (Ygr t.items C (q - 1)
 []).snd.snd),.o (.box [vI 0,vI 0,vS (mkS []),.val (.lit (.slice none 0 0)),.val (.lit (.slice none 0 0))]),.s (lb false)]) .q)))))))))))))))))))))
 (.o 0 [0,2,3,4,5] [.a (vI k.snd.fst),.o (.arr true 5 (k.snd.snd.map Yfn))]))) (by
 intro k h; try dsimp only [Yfp,Yg0,Z2o,Z2m,Z2n] at h ⊢
 obtain ⟨i,m,O⟩:=k
 simp only at *
 have H:=h.2.2.1
 have p1:i<t.items.length->(t.items.length<=i+1 ∨ Yfw (t.items.getD (i+1) default)=false)->(bli (t.items.getD i default) C m).2.1=true->Ygr (t.items.drop i) C m O=Ygr (t.items.drop (i+1)) C (bli (t.items.getD i default) C m).2.2 (O++[(bli (t.items.getD i default) C m).1]):=fun a b c=>by rw [Yy3 a b,if_pos c]
 have p2:i<t.items.length->(t.items.length<=i+1 ∨ Yfw (t.items.getD (i+1) default)=false)->(bli (t.items.getD i default) C m).2.1=false->Ygr (t.items.drop i) C m O=(O,false,(bli (t.items.getD i default) C m).2.2):=fun a b c=>by rw [Yy3 a b,if_neg (by rw [c]; decide)]
 have d1:i+1<t.items.length->Yfw (t.items.getD (i+1) default)=true->(iR C (t.items.getD i default) m O).2.1=true->Ygr (t.items.drop i) C m O=Ygr (t.items.drop (i+1+1)) C (iR C (t.items.getD i default) m O).2.2 (iR C (t.items.getD i default) m O).1:=fun a b c=>by rw [Yqu a b,if_pos c]
 have d3:i+1<t.items.length->Yfw (t.items.getD (i+1) default)=true->(rpX C (t.items.getD i default)).length=0->Ygr (t.items.drop i) C m O=(O,false,m):=fun a b c=>by
  have e:iR C (t.items.getD i default) m O=(O,false,m):=by unfold iR rqB; rw [c]; rfl
  rw [Yqu a b,e]; rfl
 have e1:t.items.length<=i->Ygr (t.items.drop i) C m O=(O,true,m):=fun a=>Y1hf a
 have g4:=Yub (t.items.getD i default) C m
 have g6:0<=m->(iR C (t.items.getD i default) m O).2.1=true->0<=(iR C (t.items.getD i default) m O).2.2/\((iR C (t.items.getD i default) m O).1.length:Int)+(iR C (t.items.getD i default) m O).2.2<=O.length+m:=fun a b=>Y1q7 C _ m O a b
 have g8:=@Yj5 t i
 have g9:=Y181 C (t.items.getD i default) []
 have g10:=Yn5 (t.items.getD i default)
 have g11:=fun h:0<(rpX C (t.items.getD i default)).length=>Yv3 h
 have g12:iI C (t.items.getD i default) 0 m O=(O,true,m):=rfl
 have g13:=fun h:0<(rpX C (t.items.getD i default)).length=>Y1fk hC h
 with_reducible repeat' (first | apply And.intro | exact zR | exact ih | (intro) | apply Zj | apply Z3 | apply Z7 | apply Z1 | apply Z1j | apply ih)
 all_goals ((try simp only [std,inj] at *); with_reducible and_intros)
 all_goals try first | with_reducible (first | apply Zj | apply Z3 | apply Z7 | apply Z1 | apply Z1j | apply ih) | (simp only [<- List.map_append]; with_reducible first | apply Zj | apply Z3 | apply Z7 | apply Z1 | apply Z1j | apply ih)
 all_goals try first | exact zw
 all_goals (try simp only [Bool.not_eq_true',Bool.not_eq_false',decide_eq_false_iff_not,decide_eq_true_eq,Decidable.not_not] at *)
 all_goals (try simp only [rpX,rqN,dfI] at *)
 all_goals (try first | exact Yfx (by omega) | exact hC _ (by assumption) | exact Yfs (C:=Yfn) _ _ | exact (Yv3 (by show 0<(rpi C (t.items.getD i default) []).length; omega)).1 | (show rqA C [] _=true; rfl) | (show (_:Bool)=true; exact (rfl:(iI C (t.items.getD i default) 0 m O).2.1=true)) | exact (rfl:m=(iI C (t.items.getD i default) 0 m O).2.2) | exact (rfl:O=(iI C (t.items.getD i default) 0 m O).1) | exact (rfl:O.map Yfn=List.map Yfn (iI C (t.items.getD i default) 0 m O).1) | (have:=g8 (by omega); simp only [List.length_nil] at *; omega))
 all_goals (try first | (rw [H,p1 (by omega) (by first | exact Or.inl (by omega) | exact Or.inr (by assumption)) (by assumption)]) | (rw [H,p2 (by omega) (by first | exact Or.inl (by omega) | exact Or.inr (by assumption)) (by assumption)]) | (rw [H,d1 (by omega) (by assumption) (by assumption)]) | (rw [H,d3 (by omega) (by assumption) (by omega)]) | (rw [H,e1 (by omega)]))
 all_goals (try first | (have:=g4 (by omega) (by assumption); first | omega | (simp only [List.length_singleton]; omega)) | (have:=g6 (by omega) (by assumption); omega)))
theorem Zcs (t:YS) (C:List YC) (q:Int) (h:0<=q/\q<=2000/\wY t<=1000000000/\C.length<=1000000000) (hC:∀ z∈C,mxP z<=1000000000) (ih:∀ z ∈
 t.items,∀ (C:List YC) (q:Int) (h:0<=q/\q<=2000/\wY z<=1000000000/\C.length<=1000000000) (hC:∀ z∈C,mxP z<=1000000000),Za z C q)  : Za t C
 q:=Yg4 Tryz.call45 Tryz.func45 (.c [.rd,.rd] (Z74 C t) (.i (0<=if t.kind=1 then fnd C t else (-1:Int)) (.x (if t.kind=1 then fnd C t else (-1:Int)) (List.map
 Yfo C) (Yg7 (C.getD (if t.kind=1 then fnd C t else (-1:Int)).toNat default)) (.i ((C.getD (if t.kind=1 then fnd C t else (-1:Int)).toNat default).depth≠0) (.w
 (.ghost (.nilbox 2 3 true 1)) (.w (.ghost (.nilbox 2 4 true 5)) (.f [3,4] [.box [vI q],.arr true 1 [],.arr true 5 []] (.tup [.agg [vI 0,vI 0,vS (ByteArray.mk #[]),
 .ref 1,.ref 2],lb false])))) (.x (if t.kind=1 then fnd C t else (-1:Int)) (C.map Yfo) (Yg7 (C.getD (if t.kind=1 then fnd C t else (-1:Int)).toNat
 default)) (.d [.rd,.rd,.ptr] (Z11 (C.getD (if t.kind=1 then fnd C t else (-1:Int)).toNat default).form 1 0) (.b (!(Yhb (C.getD (if t.kind=1 then fnd C t else (-1 :
 Int)).toNat default).form 1 0).fst) (.w (.ghost (.nilbox 2 3 true 1)) (.w (.ghost (.nilbox 2 4 true 5)) (.f [4,5] [.box [vI q],.arr true 1 [],.arr true 5 []] (.tup
 [.agg [vI 0,vI 0,vS (ByteArray.mk #[]),.ref 1,.ref 2],lb false])))) (.w (.draw [(8,[0])]) (.r (q - (Yhb (C.getD (if t.kind=1 then fnd C t else (-1:Int)).toNat
 default).form 1 0).snd) (.w (.draw [(11,[2])]) (.x (if t.kind=1 then fnd C t else (-1:Int)) (C.map Yfo) (Yg7 (C.getD (if t.kind=1 then fnd C t else (-1 :
 Int)).toNat default)) (.d [.rd] (Zm (C.getD (if t.kind=1 then fnd C t else (-1:Int)).toNat default).form) (.f [6,7] [.box [vI (q - (Yhb (C.getD (if t.kind=1 then
 fnd C t else (-1:Int)).toNat default).form 1 0).snd)],.arr true 1 ((C.getD (if t.kind=1 then fnd C t else (-1:Int)).toNat default).form.scopes.map Yfr),.arr true
 5 ((C.getD (if t.kind=1 then fnd C t else (-1:Int)).toNat default).form.items.map Yfn)] (.tup [.agg [vI (C.getD (if t.kind=1 then fnd C t else (-1:Int)).toNat
 default).form.kind,vI (C.getD (if t.kind=1 then fnd C t else (-1:Int)).toNat default).form.number,vS (C.getD (if t.kind=1 then fnd C t else (-1:Int)).toNat
 default).form.text,.ref 1,.ref 2],lb (decide (0<=q - (Yhb (C.getD (if t.kind=1 then fnd C t else (-1:Int)).toNat default).form 1 0).snd))])))))))))))) (.r (q - 1) (.i
 (q - (1:Int)<0) (.w (.ghost (.nilbox 2 3 true 1)) (.w (.ghost (.nilbox 2 4 true 5)) (.f [3,4] [.box [vI (q - 1)],.arr true 1 [],.arr true 5 []] (.tup [.agg [vI 0,
 vI 0,vS (ByteArray.mk #[]),.ref 1,.ref 2],lb false])))) (.w (.draw [(11,[19])]) (.d [.rd] (Z26 t.scopes) (.w (.ghost (.nilbox 19 4 true 5)) (.l (Z2o t C
 q) (Z9y t C q h hC ih) [0,1,2,19,11,20] [.s (li 0),.a (vI (q - 1)),.o (.arr true 5 [])] (0,q - 1,[]) (.t (.f [3,4] [.box [vI (Ygr t.items C (q - 1)
 []).snd.snd],.arr true 1 (t.scopes.map Yfr),.arr true 5 ((Ygr t.items C (q - 1) []).fst.map Yfn)] (.tup [.agg [vI t.kind,vI t.number,vS t.text,.ref
 1,.ref 2],lb true])) (.t (.w (.ghost (.nilbox 1 3 true 1)) (.w (.ghost (.nilbox 1 4 true 5)) (.f [2,3] [.box [vI (Ygr t.items C (q - 1) []).snd.snd],.arr true 1 [],
 .arr true 5 []] (.tup [.agg [vI 0,vI 0,vS (mkS []),.ref 1,.ref 2],lb false])))) .q)))))))))) (by
 dsimp only [Yfp,Za,Yg0,Z2o]
 have g2:=Yl7 C t
 have g4:=Yhn t
 with_reducible repeat' (first | apply And.intro | exact zR | exact ih | (intro) | apply Zj | apply Z3 | apply Z7 | apply Z1 | apply Z1j)
 all_goals ((try simp only [std,inj] at *); with_reducible and_intros)
 all_goals try with_reducible first | apply Zj | apply Z3 | apply Z7 | apply Z1 | apply Z1j | apply ih
 all_goals try first | exact zw
 all_goals (try simp only [Bool.not_eq_true',Bool.not_eq_false',decide_eq_false_iff_not,decide_eq_true_eq,Decidable.not_not] at *)
 all_goals (try (have hk:=Y1ko (by assumption:0<=if t.kind=1 then fnd C t else -1); simp only [if_pos hk.1] at *))
 all_goals (try first | exact hC _ (by assumption) | exact Y108 hC (by omega) | (have:=Y1l1 _ (by assumption:(Yhb (C.getD (fnd C t).toNat default).form 1 0).1=true); omega) | (rw [Y1o1 (by omega) (by omega) (by assumption)]) | (rw [Y1ny (by omega) (by omega) (by assumption) (by assumption)]) | (rw [Y1nu (by omega) (by omega) (by assumption) (by assumption)]) | (rw [Y1mg (by omega) (by omega)]) | (rw [Y1o8 (by omega) (by omega) (by assumption)]) | (rw [Y1oe (by omega) (by omega) (by assumption)]))
 all_goals (try first | rfl | (dsimp only; omega) | (simp only [List.length_nil]; omega)))
theorem Zbh (t:YS):∀ (C:List YC) (q:Int) (h:0<=q/\q<=2000/\wY t<=1000000000/\C.length<=1000000000) (hC:∀ z∈C,mxP z<=1000000000),Za t C q:=YS.ind (P:=fun t=>∀ (C:List YC) (q:Int) (h:0<=q/\q<=2000/\wY t<=1000000000/\C.length<=1000000000) (hC:∀ z∈C,mxP z<=1000000000),Za t C q) (fun t ih C q h hC=>Zcs t C q h hC ih) t
abbrev Z7x (t:YS) (C:List YC):Ct:=⟨115,[],[Ygb t,ll (C.map Yfo)],Yhl (Yj7 t C),.tup [Yhp (Yj7 t C) 0,lb (Ymj t C)]⟩
theorem Z8m (t:YS) (C:List YC) (h:wY t<=1000000000/\C.length<=1000000000) (hC:∀ z∈C,mxP z<=1000000000)  : Z7x t C:=Yg4 Tryz.call115 Tryz.func115
 (.c [.rd] (Z14 t) (.b (!Ygc t) (.y true (.w (.ghost (.nilbox 1 3 true 1)) (.w (.ghost (.nilbox 1 4 true 5)) (.f [2,3] [.arr true 1 [],.arr true 5 []] (.tup
 [.agg [vI 0,vI 0,vS (ByteArray.mk #[]),.ref 0,.ref 1],lb false]))))) (.c [.rd] (Zdy t) (.b (!Yjh t) (.w (.ghost (.nilbox 1 3 true 1)) (.w (.ghost (.nilbox 1 4
 true 5)) (.f [2,3] [.arr true 1 [],.arr true 5 []] (.tup [.agg [vI 0,vI 0,vS (ByteArray.mk #[]),.ref 0,.ref 1],lb false])))) (.d [.rd,.rd,.ptr] (Zc t
 C 2000) (.b (!(bld t C 2000).snd.fst) (.y true (.w (.ghost (.nilbox 1 3 true 1)) (.w (.ghost (.nilbox 1 4 true 5)) (.f [7,8] [.arr true 1 [],.arr true 5 []] (.tup [.agg
 [vI 0,vI 0,vS (ByteArray.mk #[]),.ref 0,.ref 1],lb false]))))) (.c [.rd] (Z14 (bld t C 2000).fst) (.b (!Ygc (bld t C 2000).fst) (.w (.ghost (.nilbox 1 3 true
 1)) (.w (.ghost (.nilbox 1 4 true 5)) (.f [7,8] [.arr true 1 [],.arr true 5 []] (.tup [.agg [vI 0,vI 0,vS (ByteArray.mk #[]),.ref 0,.ref 1],lb false])))) (.f
 [4,5] [.arr true 1 ((bld t C 2000).fst.scopes.map Yfr),.arr true 5 ((bld t C 2000).fst.items.map Yfn)] (.tup [.agg [vI (bld t C 2000).fst.kind,vI (bld t
 C 2000).fst.number,vS (bld t C 2000).fst.text,.ref 0,.ref 1],lb true])))))))))) (by
 dsimp only [Yfp,Z7x]
 have g1:Ymj t C=(Ygc t&&Yjh t&&(bld t C 2000).2.1&&Ygc (bld t C 2000).1):=rfl
 have g2:Ymj t C=true->Yj7 t C=(bld t C 2000).1:=fun h=>if_pos h
 have g3:Ymj t C=false->Yj7 t C=zY:=fun h=>by unfold Yj7; rw [h]; rfl
 have g4:zY.kind=0/\zY.number=0/\zY.text=mkS []/\zY.scopes=[]/\zY.items=[]:=⟨rfl,rfl,rfl,rfl,rfl⟩
 with_reducible repeat' (first | apply And.intro | exact zR | (intro) | apply Zbg)
 all_goals ((try simp only [std,inj] at *); with_reducible and_intros)
 all_goals try with_reducible first | apply Zbg
 all_goals try first | exact zw | grind [Yfy,Yfz,Yfs])
abbrev Z7y (t:YS) (C:List YC):Ct:=⟨12,[],[Ygb t,ll (C.map Yfo)],Yhl (Yj7 t C),.tup [Yhp (Yj7 t C) 0,lb (Ymj t C)]⟩
theorem Z8n (t:YS) (C:List YC) (h:wY t<=1000000000/\C.length<=1000000000) (hC:∀ z∈C,mxP z<=1000000000)  : Z7y t C:=Yg4 Tryz.call12 Tryz.func12 (.c
 [.rd] (Zi t) (.b (!Ygc t) (.y true (.w (.ghost (.nilbox 1 3 true 1)) (.w (.ghost (.nilbox 1 4 true 5)) (.f [2,3] [.arr true 1 [],.arr true 5 []] (.tup [.agg
 [vI 0,vI 0,vS (ByteArray.mk #[]),.ref 0,.ref 1],lb false]))))) (.c [.rd] (Z86 t) (.b (!Yjh t) (.w (.ghost (.nilbox 1 3 true 1)) (.w (.ghost (.nilbox 1 4 true 5))
 (.f [2,3] [.arr true 1 [],.arr true 5 []] (.tup [.agg [vI 0,vI 0,vS (ByteArray.mk #[]),.ref 0,.ref 1],lb false])))) (.d [.ptr,.rd,.rd] (Za t C 2000)
 (.b (!(bli t C 2000).snd.fst) (.y true (.w (.ghost (.nilbox 1 3 true 1)) (.w (.ghost (.nilbox 1 4 true 5)) (.f [7,8] [.arr true 1 [],.arr true 5 []] (.tup [.agg [vI 0,
 vI 0,vS (ByteArray.mk #[]),.ref 0,.ref 1],lb false]))))) (.c [.rd] (Zi (bli t C 2000).fst) (.b (!Ygc (bli t C 2000).fst) (.w (.ghost (.nilbox 1 3 true 1)) (.w
 (.ghost (.nilbox 1 4 true 5)) (.f [7,8] [.arr true 1 [],.arr true 5 []] (.tup [.agg [vI 0,vI 0,vS (ByteArray.mk #[]),.ref 0,.ref 1],lb false])))) (.f [4,5]
 [.arr true 1 ((bli t C 2000).fst.scopes.map Yfr),.arr true 5 ((bli t C 2000).fst.items.map Yfn)] (.tup [.agg [vI (bli t C 2000).fst.kind,vI (bli t C
 2000).fst.number,vS (bli t C 2000).fst.text,.ref 0,.ref 1],lb true])))))))))) (by
 dsimp only [Yfp,Z7y]
 have g1:=@Y1hu t C
 have g2:Ymj t C=true->Yj7 t C=(bld t C 2000).1:=fun h=>if_pos h
 have g3:Ymj t C=false->Yj7 t C=zY:=fun h=>by unfold Yj7; rw [h]; rfl
 have g4:zY.kind=0/\zY.number=0/\zY.text=mkS []/\zY.scopes=[]/\zY.items=[]:=⟨rfl,rfl,rfl,rfl,rfl⟩
 have g5:Ymj t C=(Ygc t&&Yjh t&&(bld t C 2000).2.1&&Ygc (bld t C 2000).1):=rfl
 with_reducible repeat' (first | apply And.intro | exact zR | (intro) | apply Zbh)
 all_goals ((try simp only [std,inj] at *); with_reducible and_intros)
 all_goals try with_reducible first | apply Zbh
 all_goals try first | exact zw | grind [Yfy,Yfz,Yfs])
theorem Y15g {H:YS->Bool} {A:List YS->Int}:∀ (l:List YS),(∀ x∈l,∀ d,∀ z∈nm H A x d,wY z.form=0/\z.each=[])->∀ i a d,∀ z∈nms H A l i a d,wY z.form=0/\z.each=[]
 | [],_,i,a,d,z,hz=>by simp [nms] at hz
 | x :: r,h,i,a,d,z,hz=>by
  simp only [nms,List.mem_append] at hz
  rcases hz with hz | hz
  ·split at hz
   ·cases hz
   ·exact h x List.mem_cons_self _ z hz
  ·exact Y15g r (fun y hy=>h y (List.mem_cons_of_mem _ hy)) _ _ _ z hz
theorem Y1lt {H:YS->Bool} {A:List YS->Int}:∀ (p:YS) (d:Int),∀ z∈nm H A p d,wY z.form=0/\z.each=[]:=by
 refine YS.ind fun p ih d z hz => ?_
 rw [Yl2] at hz
 split at hz
 ·split at hz
  ·cases hz
  ·simp only [List.mem_singleton] at hz; subst hz; exact ⟨rfl,rfl⟩
 ·split at hz
  ·exact Y15g p.items ih _ _ _ z hz
  ·cases hz
theorem Y137 {g:YS->Option (List YC)}:∀ (L:List YS) (R:List (List YC)),mtr g L=some R->R.length=L.length/\∀ c∈R,∃ f∈L,g f=some c
 | [],R,e=>by simp only [mtr,Option.some.injEq] at e; subst e; simp
 | f :: r,R,e=>by
  simp only [mtr] at e
  split at e
  ·cases e
  ·rename_i c hc
   split at e
   ·cases e
   ·rename_i R' hR
    simp only [Option.some.injEq] at e; subst e
    have ih:=Y137 r R' hR
    refine ⟨by simp [ih.1],fun d hd => ?_⟩
    rcases List.mem_cons.1 hd with rfl | hd
    ·exact ⟨f,List.mem_cons_self,hc⟩
    ·obtain ⟨g',h1,h2⟩:=ih.2 d hd
     exact ⟨g',List.mem_cons_of_mem _ h1,h2⟩
theorem Y17r:mxP (default:YC)=0:=rfl
theorem Y1pi {V:List YC} {R:List (List YC)} {m:Nat} (hV:∀ z∈V,wY z.form=0/\z.each=[]) (hl:R.length<=m) (hR:∀ c∈R,∀ z∈c,mxP z<=m):∀ z∈rp V R,mxP z<=m:=by
 intro z hz
 simp only [rp,List.mem_map,List.mem_range] at hz
 obtain ⟨i,hi,rfl⟩:=hz
 have h1:=hV _ (Yfx hi)
 rw [Ytx]
 simp only [h1.1,h1.2,List.nil_append,List.length_map]
 have h2:Ysg (R.map fun c=>c.getD i default)<=m:=Y18o fun y hy=>by
  obtain ⟨c,hc,rfl⟩:=List.mem_map.1 hy
  rcases Nat.lt_or_ge i c.length with h3 | h3
  ·exact hR c hc _ (Yfx h3)
  ·have e:c.getD i default=default:=by simp [h3]
   rw [e,Y17r]; omega
 omega
theorem Y1mn {m:Nat} {fs:List YS} (h:∀ f∈fs,wY f<=m) (k:Nat):wY (fs.getD k default)<=m:=by
 rcases Nat.lt_or_ge k fs.length with h3 | h3
 ·exact h _ (Yfx h3)
 ·have e:fs.getD k default=default:=by simp [h3]
  have e2:wY (default:YS)=0:=rfl
  rw [e,e2]; omega
theorem Y1fi {M:YS->YS->Bool} {H:YS->Bool} {A:List YS->Int} {m:Nat}:∀ l:List YS,(∀ x∈l,∀ f c,mt M H A x f=some c->wY f<=m->∀ z∈c,mxP z<=m)->∀ i a k fs c,mts M H A l i a k fs=some c->fs.length<=m->(∀ f∈fs,wY f<=m)->∀ z∈c,mxP z<=m
 | [],_,i,a,k,fs,c,e,_,_,z,hz=>by simp only [mts,Option.some.injEq] at e; subst e; cases hz
 | x :: r,h,i,a,k,fs,c,e,hl,hf,z,hz=>by
  have ih:=Y1fi r (fun y hy=>h y (List.mem_cons_of_mem _ hy)) (i+1) a k
  have hd:∀ n,(fs.drop n).length<=m/\∀ f∈fs.drop n,wY f<=m:=fun n=>⟨by rw [List.length_drop]; omega,fun f hm=>hf f (List.mem_of_mem_drop hm)⟩
  simp only [mts] at e
  split at e
  ·exact ih _ _ e hl hf z hz
  ·split at e
   ·split at e
    ·cases e
    ·rename_i R hR
     split at e
     ·cases e
     ·rename_i c' hc
      simp only [Option.some.injEq] at e; subst e
      obtain ⟨r1,r2⟩:=Y137 _ _ hR
      rcases List.mem_append.1 hz with hz | hz
      ·refine Y1pi (fun z hz=>Y1lt x 1 z hz) ?_ (fun c hc z hz => ?_) z hz
       ·rw [r1,List.length_take]; omega
       ·obtain ⟨f',h1,h2⟩:=r2 c hc
        exact h x List.mem_cons_self f' c h2 (hf f' (List.mem_of_mem_take h1)) z hz
      ·exact ih _ _ hc (hd k).1 (hd k).2 z hz
   ·split at e
    ·cases e
    ·rename_i c1 h1
     split at e
     ·cases e
     ·rename_i c' hc
      simp only [Option.some.injEq] at e; subst e
      rcases List.mem_append.1 hz with hz | hz
      ·exact h x List.mem_cons_self _ _ h1 (Y1mn hf 0) z hz
      ·exact ih _ _ hc (hd 1).1 (hd 1).2 z hz
theorem Y1qq {M:YS->YS->Bool} {H:YS->Bool} {A:List YS->Int} {m:Nat}:∀ (p f:YS) (c:List YC),mt M H A p f=some c->wY f<=m->∀ z∈c,mxP z<=m:=by
 refine YS.ind fun p ih f c e hm z hz => ?_
 rw [Yji] at e
 split at e
 ·split at e
  ·simp only [Option.some.injEq] at e; subst e; cases hz
  ·split at e
   ·split at e
    ·simp only [Option.some.injEq] at e; subst e; cases hz
    ·cases e
   ·simp only [Option.some.injEq] at e; subst e
    simp only [List.mem_singleton] at hz; subst hz
    have e2:mxP (Yp7 p f)=max (wY f) (max 0 0):=rfl
    rw [e2]; omega
 ·split at e
  ·split at e
   ·have h1:=Yhn f
    exact Y1fi p.items ih _ _ _ _ _ e (by omega) (fun g hg=>by have:=Ygt wY hg; omega) z hz
   ·cases e
  ·split at e
   ·simp only [Option.some.injEq] at e; subst e; cases hz
   ·cases e
def apK (B:List YB) (r:YR) (f:YS) (k:Nat):Bool:=(gS B r.literals (tlY (r.patterns.getD k default)) (tlY f)).isSome
def apC (B:List YB) (r:YR) (f:YS) (k:Nat):List YC:=(gS B r.literals (tlY (r.patterns.getD k default)) (tlY f)).getD []
def apZ (B:List YB) (r:YR) (f:YS) (k:Nat):Bool:=(List.range k).all fun j => !apK B r f j
def apN (B:List YB) (r:YR) (f:YS):Nat:=(List.range r.patterns.length).findIdx (apK B r f)
def apG (B:List YB) (r:YR) (f:YS):Bool:=decide (f.kind=0) && !decide ((f.items.length:Int)=0)&&decide (apN B r f<r.patterns.length)
def apB (B:List YB) (r:YR) (f:YS):Bool:=apG B r f&&Ymj (r.templates.getD (apN B r f) default) (apC B r f (apN B r f))
def apY (B:List YB) (r:YR) (f:YS):YS:=if apG B r f=true then Yj7 (r.templates.getD (apN B r f) default) (apC B r f (apN B r f)) else zY
section
variable {B:List YB} {r:YR} {f:YS} {k:Nat}
theorem Y138:apZ B r f 0=true:=rfl
theorem Y145:apZ B r f (k+1)=(apZ B r f k && !apK B r f k):=by simp [apZ,List.range_succ]
theorem Y1fy (hk:k<r.patterns.length) (h:apK B r f k=true):apZ B r f r.patterns.length=false:=by
 cases e:apZ B r f r.patterns.length with
 | false=>rfl
 | true=>
  simp only [apZ,List.all_eq_true,List.mem_range] at e
  have:=e k hk
  rw [h] at this; cases this
theorem Y1nx (hk:k<r.patterns.length) (h:apZ B r f k=true) (h2:apK B r f k=true):apN B r f=k:=by
 unfold apN
 have hl:k<(List.range r.patterns.length).length:=by simpa using hk
 rw [List.findIdx_eq hl]
 refine ⟨by simpa using h2,fun j hj => ?_⟩
 simp only [apZ,List.all_eq_true,List.mem_range] at h
 have:=h j hj
 simpa using this
theorem Y1ie (h:apZ B r f r.patterns.length=true):¬ apN B r f<r.patterns.length:=by
 unfold apN
 intro hl
 have hl':(List.range r.patterns.length).findIdx (apK B r f)<(List.range r.patterns.length).length:=by simpa using hl
 have h3:=List.findIdx_getElem (w:=hl')
 simp only [apZ,List.all_eq_true,List.mem_range] at h
 rw [List.getElem_range] at h3
 have:=h _ hl
 rw [h3] at this; cases this
theorem Y17y (h:¬ f.kind=0):apB B r f=false/\apY B r f=zY:=by
 have e:apG B r f=false:=by simp [apG,h]
 unfold apB apY; rw [e]; exact ⟨rfl,rfl⟩
theorem Y14d (h:f.items.length=0):apB B r f=false/\apY B r f=zY:=by
 have e:apG B r f=false:=by simp [apG,h]
 unfold apB apY; rw [e]; exact ⟨rfl,rfl⟩
theorem Y18d (h:apZ B r f r.patterns.length=true):apB B r f=false/\apY B r f=zY:=by
 have e:apG B r f=false:=by simp [apG,Y1ie h]
 unfold apB apY; rw [e]; exact ⟨rfl,rfl⟩
theorem Y1j0 (h0:f.kind=0) (h1:0<f.items.length) (hk:k<r.patterns.length) (h:apZ B r f k=true) (h2:apK B r f k=true):apB B r f=Ymj (r.templates.getD k default) (apC B r f k)/\apY B r f=Yj7 (r.templates.getD k default) (apC B r f k):=by
 have e:=Y1nx hk h h2
 have e2:apG B r f=true:=by unfold apG; rw [e]; simp [h0,hk]; intro h3; rw [h3] at h1; simp at h1
 unfold apB apY; rw [e2,e]; exact ⟨rfl,rfl⟩
theorem Yq7 (hr:Ykf r=true) (hk:k<r.patterns.length):good r.literals (tlY (r.patterns.getD k default))/\Yge (tlY (r.patterns.getD k default))<=40/\Yft (tlY (r.patterns.getD k default))<=2000/\k<r.templates.length/\r.literals.all Yip=true/\1<=(r.patterns.getD k default).items.length:=by
 simp only [Ykf,Bool.and_eq_true,decide_eq_true_eq] at hr
 obtain ⟨⟨⟨⟨h1,h2⟩,_⟩,h3⟩,_⟩:=hr
 have h4:=Yvr r _ (k+1) hk h3
 simp only [Ylk,clT,clP,Bool.and_eq_true] at h4
 have h5:=h4.2.1
 have h6:=Y10n h5.1.1.1.1.1
 have h7:=h5.1.1.1.2
 have h8:=Y1kg h6 h5.2
 simp only [okL,Bool.and_eq_true] at h1
 refine ⟨h8.1,h8.2.2,h8.2.1,by omega,h1.1,?_⟩
 simp only [Bool.not_eq_true',decide_eq_false_iff_not] at h7
 omega
theorem Y1eu {m:Nat} (hr:Ykf r=true) (hk:k<r.patterns.length) (hf:wY (tlY f)<=m):(∀ z∈apC B r f k,mxP z<=m)/\(apC B r f k).length<=2000:=by
 have h1:=Yq7 hr hk
 unfold apC
 cases e:gS B r.literals (tlY (r.patterns.getD k default)) (tlY f) with
 | none=>simp
 | some c=>
  simp only [Option.getD_some]
  refine ⟨Y1qq _ _ _ e hf,?_⟩
  have h2:=Y1fa e
  have h3:=Yzy (Ls:=r.literals) (tlY (r.patterns.getD k default))
  omega
theorem Y1jw (hr:Ykf r=true) (hk:k<r.patterns.length) (g:YS):gI B r.literals (tlY (r.patterns.getD k default)) g=gS B r.literals (tlY (r.patterns.getD k default)) g:=by
 have h1:=Yq7 hr hk
 exact ((Y19k (M:=mng B) (List.all_eq_true.1 h1.2.2.2.2.1) _ h1.1).1 g).symm
end
def Yoh (B:List YB) (r:YR) (f:YS):Bool:=Yu1 B&&Ykf r&&Ygc f&&apB B r f
def Ygq (B:List YB) (r:YR) (f:YS):YS:=if (Yu1 B&&Ykf r&&Ygc f)=true then apY B r f else zY
end Go.Proofs.YtclpofblehlojaaGreat
end
section
namespace Go.Proofs.YtclpofblehlojaaGreat
open Go Ab
set_option maxHeartbeats 4000000
abbrev Z7z (B:List YB) (r:YR) (f:YS):Ct:=⟨51,[],[ll (B.map Yfq),Yrk r,Ygb f],Yhl (apY B r f),.tup [Yhp (apY B r f) 0,lb (apB B r f)]⟩
def Z5l (B:List YB) (r:YR) (f:YS):Lp Nat:=.mk 54 0 (fun x=>[(0,ll (B.map Yfq)),(4,.one (.ptr 0 0)),(5,.one (.ptr 1 0)),(6,
 .one (.ptr 2 0)),(23,ll (r.patterns.map Yfn)),(24,li (↑(r.patterns.map Yfn).length:Int)),(25,hs x 0)]) (fun x=>[.box (vals (Yox r)),.box
 (vals (Yfu f)),.box [vI 0,vI 0,vS (ByteArray.mk #[]),.val (.lit (.slice none 0 0)),.val (.lit (.slice none 0 0))]]) (fun k=>[.s (li (↑k :
 Int))]) (fun k=>k<=r.patterns.length/\r.patterns.length<=9223372036854775807/\apZ B r f k=true/\f.kind=0/\0<f.items.length) (fun k=>r.patterns.length - k) [.mk
 (apZ B r f r.patterns.length=true) (.exit 0) (fun x=>[(6,.one (.ptr 0 0))]) (fun x=>[.box [vI 0,vI 0,vS (ByteArray.mk #[]),.val (.lit (.slice none 0
 0)),.val (.lit (.slice none 0 0))]]) [],.mk (apZ B r f r.patterns.length=false) .ret (fun x=>[(6,.one (.ptr 0 0)),(7,hs x 5)]) (fun x=>[.box [ha x 0,
 ha x 1,ha x 2,.ref 1,.ref 2],ho x 3,ho x 4]) [.a (vI (apY B r f).kind),.a (vI (apY B r f).number),.a (vS (apY B r f).text),.o (.arr true 1 ((apY B r
 f).scopes.map Yfr)),.o (.arr true 5 ((apY B r f).items.map Yfn)),.s (lb (apB B r f))]]
theorem Zdz (B:List YB) (r:YR) (f:YS) (h:B.length<=1048577/\sumBy wB B<=1048577/\wR r<=1048576/\wY f<=1000000000) (hr:Ykf r=true):Lp.Sem
 Tryz.prog (Yg6 Tryz.f51 0) (Z5l B r f):=Ygf (fun k=>.i ((k:Int)<(↑(r.patterns.map Yfn).length:Int)) (.x (k:Int) (r.patterns.map Yfn)
 (Yfu (r.patterns.getD k default)) (.w (.draw [(8,[26])]) (.d [.rd] (Z41 (r.patterns.getD k default)) (.d [.rd] (Z41 f) (.w (.bool false) (.d [.rd,.rd,.rd,.rd,
 .own true 12] (Zg B r.literals (YS.mk 0 0 (mkS []) [] (List.drop 1 (r.patterns.getD k default).items)) (YS.mk 0 0 (mkS []) [] (f.items.drop 1)) []) (.b (gS B
 r.literals (YS.mk 0 0 (mkS []) [] (List.drop 1 (r.patterns.getD k default).items)) (YS.mk 0 0 (mkS []) [] (f.items.drop 1))).isSome (.x (k:Int) (List.map Yfn
 r.templates) (Yfu (r.templates.getD k default)) (.d [.rd,.rd] (Z7x (r.templates.getD k default) (smO (YS.mk 0 0 (mkS []) [] (List.drop 1 (r.patterns.getD k
 default).items)) [] (gS B r.literals (YS.mk 0 0 (mkS []) [] (List.drop 1 (r.patterns.getD k default).items)) (YS.mk 0 0 (mkS []) [] (f.items.drop 1))))) (.o 1 [2,29,
 30] [.a (vI (Yj7 (r.templates.getD k default) (smO (YS.mk 0 0 (mkS []) [] (List.drop 1 (r.patterns.getD k default).items)) [] (gS B r.literals (YS.mk 0 0 (mkS []) []
 (List.drop 1 (r.patterns.getD k default).items)) (YS.mk 0 0 (mkS []) [] (f.items.drop 1))))).kind),.a (vI (Yj7 (r.templates.getD k default) (smO (YS.mk 0 0 (mkS [])
 [] (List.drop 1 (r.patterns.getD k default).items)) [] (gS B r.literals (YS.mk 0 0 (mkS []) [] (List.drop 1 (r.patterns.getD k default).items)) (YS.mk 0 0 (mkS []) []
 (f.items.drop 1))))).number),.a (vS (Yj7 (r.templates.getD k default) (smO (YS.mk 0 0 (mkS []) [] (List.drop 1 (r.patterns.getD k default).items)) [] (gS B r.literals
 (YS.mk 0 0 (mkS []) [] (List.drop 1 (r.patterns.getD k default).items)) (YS.mk 0 0 (mkS []) [] (f.items.drop 1))))).text),.o (.arr true 1 ((Yj7
 (r.templates.getD k default) (smO (YS.mk 0 0 (mkS []) [] (List.drop 1 (r.patterns.getD k default).items)) [] (gS B r.literals (YS.mk 0 0 (mkS []) [] (List.drop 1
 (r.patterns.getD k default).items)) (YS.mk 0 0 (mkS []) [] (f.items.drop 1))))).scopes.map Yfr)),.o (.arr true 5 ((Yj7 (r.templates.getD k default) (smO
 (YS.mk 0 0 (mkS []) [] (List.drop 1 (r.patterns.getD k default).items)) [] (gS B r.literals (YS.mk 0 0 (mkS []) [] (List.drop 1 (r.patterns.getD k default).items))
 (YS.mk 0 0 (mkS []) [] (f.items.drop 1))))).items.map Yfn)),.s (lb (Ymj (r.templates.getD k default) (smO (YS.mk 0 0 (mkS []) [] (List.drop 1 (r.patterns.getD k
 default).items)) [] (gS B r.literals (YS.mk 0 0 (mkS []) [] (List.drop 1 (r.patterns.getD k default).items)) (YS.mk 0 0 (mkS []) [] (f.items.drop 1))))))]))) (.r ((↑k
 : Int)+1) (.g [0,1,2] (k+1) [.s (li ((k:Int)+1))]))))))))) (.o 0 [2] [])) (by
 intro k h; try dsimp only [Yfp,Yg0,Z5l] at h ⊢
 have g1:=@Y145 B r f k
 have g0:=@Y1fy B r f k
 have g2:=@Y1j0 B r f k
 have g3:=@Yq7 r k hr
 have g4:=@Y1eu B r f k 1000000000 hr
 have g5:=Yvc r
 have g6:=@Ygt _ wY r.patterns (r.patterns.getD k default)
 have g7:=@Ygt _ wY r.templates (r.templates.getD k default)
 have g8:=Yvj (r.patterns.getD k default)
 have g9:=Yvj f
 with_reducible repeat' (first | apply And.intro | exact zR | (intro) | apply Z2v | apply Z8k | apply Z8m)
 all_goals ((try simp only [std,inj] at *); with_reducible and_intros)
 all_goals try with_reducible first | apply Z2v | apply Z8k | apply Z8m
 all_goals try first | exact zw | grind [tlY,Yfx,apK,apC,Yvi,Yfy,Yfz,Yfs])
theorem Ze0 (B:List YB) (r:YR) (f:YS) (h:B.length<=1048577/\sumBy wB B<=1048577/\wR r<=1048576/\wY f<=1000000000) (hr:Ykf r=true)  : Z7z B
 r f:=Yg4 Tryz.call51 Tryz.func51 (.i (f.kind≠0) (.y true (.w (.ghost (.nilbox 2 3 true 1)) (.w (.ghost (.nilbox 2 4 true 5)) (.f [3,4] [.arr true 1 [],.arr true 5 []]
 (.tup [.agg [vI 0,vI 0,vS (ByteArray.mk #[]),.ref 0,.ref 1],lb false]))))) (.z Yfn f.items (.i ((↑(f.items.map Yfn).length:Int)=0) (.w (.ghost
 (.nilbox 2 3 true 1)) (.w (.ghost (.nilbox 2 4 true 5)) (.f [3,4] [.arr true 1 [],.arr true 5 []] (.tup [.agg [vI 0,vI 0,vS (ByteArray.mk #[]),.ref 0,.ref 1],lb
 false])))) (.z Yfn r.patterns (.l (Z5l B r f) (Zdz B r f h hr) [0,1,2] [.s (li 0)] 0 (.t (.w (.ghost (.nilbox 0 3 true 1)) (.w (.ghost (.nilbox 0 4 true 5)) (.f
 [1,2] [.arr true 1 [],.arr true 5 []] (.tup [.agg [vI 0,vI 0,vS (ByteArray.mk #[]),.ref 0,.ref 1],lb false])))) (.t (.f [1,2] [.arr true 1 (List.map Yfr
 (apY B r f).scopes),.arr true 5 ((apY B r f).items.map Yfn)] (.tup [.agg [vI (apY B r f).kind,vI (apY B r f).number,vS (apY B r f).text,.ref 0,.ref 1],lb
 (apB B r f)])) .q))))))) (by
 dsimp only [Yfp,Z7z,Yg0,Z5l]
 have g1:=@Y17y B r f
 have g2:=@Y14d B r f
 have g3:=@Y18d B r f
 have gz:zY.kind=0/\zY.number=0/\zY.text=mkS []/\zY.scopes=[]/\zY.items=[]:=⟨rfl,rfl,rfl,rfl,rfl⟩
 with_reducible repeat' (first | apply And.intro | exact zR | (intro) | apply Z2v | apply Z8k | apply Z8m)
 all_goals ((try simp only [std,inj] at *); with_reducible and_intros)
 all_goals try with_reducible first | apply Z2v | apply Z8k | apply Z8m
 all_goals try first | exact zw | grind [Y138,Yfy,Yfz,Yfs])
abbrev Z71 (B:List YB) (r:YR) (f:YS):Ct:=⟨16,[],[ll (B.map Yfq),Yrk r,Ygb f],Yhl (Ygq B r f),.tup [Yhp (Ygq B r f) 0,lb (Yoh B r f)]⟩
theorem Z1p (B:List YB) (r:YR) (f:YS) (h:B.length<=1048577/\sumBy wB B<=1048577/\wR r<=1048576/\wY f<=1000000000)  : Z71 B r f:=Yg4
 Tryz.call16 Tryz.func16 (.c [.rd] (Zfd B) (.b (!Yu1 B) (.y true (.y true (.w (.ghost (.nilbox 2 3 true 1)) (.w (.ghost (.nilbox 2 4 true 5)) (.f [3,4] [.arr true 1 [],.arr
 true 5 []] (.tup [.agg [vI 0,vI 0,vS (ByteArray.mk #[]),.ref 0,.ref 1],lb false])))))) (.d [.rd] (Z4t r) (.b (!Ykf r) (.y true (.w (.ghost (.nilbox 2 3
 true 1)) (.w (.ghost (.nilbox 2 4 true 5)) (.f [3,4] [.arr true 1 [],.arr true 5 []] (.tup [.agg [vI 0,vI 0,vS (ByteArray.mk #[]),.ref 0,.ref 1],lb false])))))
 (.c [.rd] (Z14 f) (.b (!Ygc f) (.w (.ghost (.nilbox 2 3 true 1)) (.w (.ghost (.nilbox 2 4 true 5)) (.f [3,4] [.arr true 1 [],.arr true 5 []] (.tup [.agg [vI 0,
 vI 0,vS (ByteArray.mk #[]),.ref 0,.ref 1],lb false])))) (.d [.rd,.rd,.rd] (Z7z B r f) (.f [3,4] [.arr true 1 ((apY B r f).scopes.map Yfr),.arr true 5
 ((apY B r f).items.map Yfn)] (.tup [.agg [vI (apY B r f).kind,vI (apY B r f).number,vS (apY B r f).text,.ref 0,.ref 1],lb (apB B r f)]))))))))) (by
 dsimp only [Yfp,Z71]
 have gz:zY.kind=0/\zY.number=0/\zY.text=mkS []/\zY.scopes=[]/\zY.items=[]:=⟨rfl,rfl,rfl,rfl,rfl⟩
 with_reducible repeat' (first | apply And.intro | exact zR | (intro) | apply Z88 | apply Ze0)
 all_goals ((try simp only [std,inj] at *); with_reducible and_intros)
 all_goals try with_reducible first | apply Z88 | apply Ze0
 all_goals try first | exact zw | grind [Yoh,Ygq,Yfy,Yfz,Yfs])
abbrev Z80 (B:List YB) (r:YR) (f:YS):Ct:=⟨49,[],[ll (B.map Yfq),Yrk r,Ygb f],Yhl (apY B r f),.tup [Yhp (apY B r f) 0,lb (apB B r f)]⟩
def Z5m (B:List YB) (r:YR) (f:YS):Lp Nat:=.mk 56 0 (fun x=>[(4,.one (.ptr 0 0)),(5,.one (.ptr 1 0)),(6,.one (.ptr 2 0)),(8,.one
 (.ptr 3 0)),(28,ll (r.patterns.map Yfn)),(29,li (↑(r.patterns.map Yfn).length:Int)),(30,hs x 0)]) (fun x=>[.box (vals (Yox r)),.box (vals
 (Yfu f)),.box [vI 0,vI 0,vS (ByteArray.mk #[]),.val (.lit (.slice none 0 0)),.val (.lit (.slice none 0 0))],.box [vL (B.map Yfq),vL
 (r.literals.map Yfn)]]) (fun k=>[.s (li (k:Int))]) (fun k=>k<=r.patterns.length/\r.patterns.length<=9223372036854775807/\apZ B r f k=true/\f.kind=0/\0 <
 f.items.length) (fun k=>r.patterns.length - k) [.mk (apZ B r f r.patterns.length=true) (.exit 0) (fun x=>[(6,.one (.ptr 0 0))]) (fun x=>[.box [vI 0,vI 0,vS
 (ByteArray.mk #[]),.val (.lit (.slice none 0 0)),.val (.lit (.slice none 0 0))]]) [],.mk (apZ B r f r.patterns.length=false) .ret (fun x=>[(6,.one
 (.ptr 0 0)),(7,hs x 5)]) (fun x=>[.box [ha x 0,ha x 1,ha x 2,.ref 1,.ref 2],ho x 3,ho x 4]) [.a (vI (apY B r f).kind),.a (vI (apY B r f).number),.a (vS (apY B
 r f).text),.o (.arr true 1 ((apY B r f).scopes.map Yfr)),.o (.arr true 5 ((apY B r f).items.map Yfn)),.s (lb (apB B r f))]]
theorem Ze1 (B:List YB) (r:YR) (f:YS) (h:B.length<=1048577/\sumBy wB B<=1048577/\wR r<=1048576/\wY f<=1000000000) (hr:Ykf r=true):Lp.Sem
 Tryz.prog (Yg6 Tryz.f49 0) (Z5m B r f):=Ygf (fun k=>.i ((k:Int)<(↑(r.patterns.map Yfn).length:Int)) (.x (k:Int) (r.patterns.map Yfn)
 (Yfu (r.patterns.getD k default)) (.w (.draw []) (.d [.rd] (Z42 (r.patterns.getD k default)) (.d [.rd] (Z42 f) (.d [.rd,.rd,.rd,.own true 12] (Zk B
 r.literals (YS.mk 0 0 (mkS []) [] (List.drop 1 (r.patterns.getD k default).items)) (YS.mk 0 0 (mkS []) [] (f.items.drop 1)) []) (.b (gI B r.literals (YS.mk 0 0
 (mkS []) [] (List.drop 1 (r.patterns.getD k default).items)) (YS.mk 0 0 (mkS []) [] (f.items.drop 1))).isSome (.x (k:Int) (r.templates.map Yfn) (Yfu
 (r.templates.getD k default)) (.d [.rd,.rd] (Z7y (r.templates.getD k default) (smO (YS.mk 0 0 (mkS []) [] (List.drop 1 (r.patterns.getD k default).items)) [] (gI B
 r.literals (YS.mk 0 0 (mkS []) [] (List.drop 1 (r.patterns.getD k default).items)) (YS.mk 0 0 (mkS []) [] (f.items.drop 1))))) (.o 1 [2,29,30] [.a (vI (Yj7
 (r.templates.getD k default) (smO (YS.mk 0 0 (mkS []) [] (List.drop 1 (r.patterns.getD k default).items)) [] (gI B r.literals (YS.mk 0 0 (mkS []) [] (List.drop 1
 (r.patterns.getD k default).items)) (YS.mk 0 0 (mkS []) [] (f.items.drop 1))))).kind),.a (vI (Yj7 (r.templates.getD k default) (smO (YS.mk 0 0 (mkS []) []
 (List.drop 1 (r.patterns.getD k default).items)) [] (gI B r.literals (YS.mk 0 0 (mkS []) [] (List.drop 1 (r.patterns.getD k default).items)) (YS.mk 0 0 (mkS []) []
 (f.items.drop 1))))).number),.a (vS (Yj7 (r.templates.getD k default) (smO (YS.mk 0 0 (mkS []) [] (List.drop 1 (r.patterns.getD k default).items)) [] (gI B r.literals
 (YS.mk 0 0 (mkS []) [] (List.drop 1 (r.patterns.getD k default).items)) (YS.mk 0 0 (mkS []) [] (f.items.drop 1))))).text),.o (.arr true 1 ((Yj7
 (r.templates.getD k default) (smO (YS.mk 0 0 (mkS []) [] (List.drop 1 (r.patterns.getD k default).items)) [] (gI B r.literals (YS.mk 0 0 (mkS []) [] (List.drop 1
 (r.patterns.getD k default).items)) (YS.mk 0 0 (mkS []) [] (f.items.drop 1))))).scopes.map Yfr)),.o (.arr true 5 ((Yj7 (r.templates.getD k default) (smO
 (YS.mk 0 0 (mkS []) [] (List.drop 1 (r.patterns.getD k default).items)) [] (gI B r.literals (YS.mk 0 0 (mkS []) [] (List.drop 1 (r.patterns.getD k default).items))
 (YS.mk 0 0 (mkS []) [] (f.items.drop 1))))).items.map Yfn)),.s (lb (Ymj (r.templates.getD k default) (smO (YS.mk 0 0 (mkS []) [] (List.drop 1 (r.patterns.getD k
 default).items)) [] (gI B r.literals (YS.mk 0 0 (mkS []) [] (List.drop 1 (r.patterns.getD k default).items)) (YS.mk 0 0 (mkS []) [] (f.items.drop 1))))))]))) (.r ((↑k
 : Int)+1) (.g [0,1,2,3] (k+1) [.s (li ((k:Int)+1))])))))))) (.o 0 [2] [])) (by
 intro k h; try dsimp only [Yfp,Yg0,Z5m] at h ⊢
 have g1:=@Y145 B r f k
 have g0:=@Y1fy B r f k
 have g2:=@Y1j0 B r f k
 have g3:=@Yq7 r k hr
 have g4:=@Y1eu B r f k 1000000000 hr
 have g5:=Yvc r
 have g6:=@Ygt _ wY r.patterns (r.patterns.getD k default)
 have g7:=@Ygt _ wY r.templates (r.templates.getD k default)
 have g8:=Yvj (r.patterns.getD k default)
 have g9:=Yvj f
 have g10:=@Y1jw B r k hr
 with_reducible repeat' (first | apply And.intro | exact zR | (intro) | apply Z2w | apply Z8l | apply Z8n)
 all_goals ((try simp only [std,inj] at *); with_reducible and_intros)
 all_goals try with_reducible first | apply Z2w | apply Z8l | apply Z8n
 all_goals try first | exact zw | grind [tlY,Yfx,apK,apC,Yvi,Yfy,Yfz,Yfs])
theorem Ze2 (B:List YB) (r:YR) (f:YS) (h:B.length<=1048577/\sumBy wB B<=1048577/\wR r<=1048576/\wY f<=1000000000) (hr:Ykf r=true)  : Z80 B
 r f:=Yg4 Tryz.call49 Tryz.func49 (.i (f.kind≠0) (.y true (.w (.ghost (.nilbox 2 3 true 1)) (.w (.ghost (.nilbox 2 4 true 5)) (.f [3,4] [.arr true 1 [],.arr true 5 []]
 (.tup [.agg [vI 0,vI 0,vS (ByteArray.mk #[]),.ref 0,.ref 1],lb false]))))) (.z Yfn f.items (.i ((↑(f.items.map Yfn).length:Int)=0) (.w (.ghost
 (.nilbox 2 3 true 1)) (.w (.ghost (.nilbox 2 4 true 5)) (.f [3,4] [.arr true 1 [],.arr true 5 []] (.tup [.agg [vI 0,vI 0,vS (ByteArray.mk #[]),.ref 0,.ref 1],lb
 false])))) (.z Yfn r.patterns (.l (Z5m B r f) (Ze1 B r f h hr) [0,1,2,3] [.s (li 0)] 0 (.t (.w (.ghost (.nilbox 0 3 true 1)) (.w (.ghost (.nilbox 0 4 true 5))
 (.f [1,2] [.arr true 1 [],.arr true 5 []] (.tup [.agg [vI 0,vI 0,vS (ByteArray.mk #[]),.ref 0,.ref 1],lb false])))) (.t (.f [1,2] [.arr true 1 (List.map Yfr
 (apY B r f).scopes),.arr true 5 ((apY B r f).items.map Yfn)] (.tup [.agg [vI (apY B r f).kind,vI (apY B r f).number,vS (apY B r f).text,.ref 0,.ref 1],lb
 (apB B r f)])) .q))))))) (by
 dsimp only [Yfp,Z80,Yg0,Z5m]
 have g1:=@Y17y B r f
 have g2:=@Y14d B r f
 have g3:=@Y18d B r f
 have gz:zY.kind=0/\zY.number=0/\zY.text=mkS []/\zY.scopes=[]/\zY.items=[]:=⟨rfl,rfl,rfl,rfl,rfl⟩
 with_reducible repeat' (first | apply And.intro | exact zR | (intro) | apply Z2w | apply Z8l | apply Z8n)
 all_goals ((try simp only [std,inj] at *); with_reducible and_intros)
 all_goals try with_reducible first | apply Z2w | apply Z8l | apply Z8n
 all_goals try first | exact zw | grind [Y138,Yfy,Yfz,Yfs])
abbrev Z72 (B:List YB) (r:YR) (f:YS):Ct:=⟨15,[],[ll (B.map Yfq),Yrk r,Ygb f],Yhl (Ygq B r f),.tup [Yhp (Ygq B r f) 0,lb (Yoh B r f)]⟩
theorem Z1q (B:List YB) (r:YR) (f:YS) (h:B.length<=1048577/\sumBy wB B<=1048577/\wR r<=1048576/\wY f<=1000000000)  : Z72 B r f:=Yg4
 Tryz.call15 Tryz.func15 (.c [.rd] (Zfe B) (.b (!Yu1 B) (.y true (.y true (.w (.ghost (.nilbox 2 3 true 1)) (.w (.ghost (.nilbox 2 4 true 5)) (.f [3,4] [.arr true 1 [],.arr
 true 5 []] (.tup [.agg [vI 0,vI 0,vS (ByteArray.mk #[]),.ref 0,.ref 1],lb false])))))) (.d [.rd] (Z4u r) (.b (!Ykf r) (.y true (.w (.ghost (.nilbox 2 3
 true 1)) (.w (.ghost (.nilbox 2 4 true 5)) (.f [3,4] [.arr true 1 [],.arr true 5 []] (.tup [.agg [vI 0,vI 0,vS (ByteArray.mk #[]),.ref 0,.ref 1],lb false])))))
 (.c [.rd] (Zi f) (.b (!Ygc f) (.w (.ghost (.nilbox 2 3 true 1)) (.w (.ghost (.nilbox 2 4 true 5)) (.f [3,4] [.arr true 1 [],.arr true 5 []] (.tup [.agg [vI 0,
 vI 0,vS (ByteArray.mk #[]),.ref 0,.ref 1],lb false])))) (.d [.rd,.rd,.rd] (Z80 B r f) (.f [3,4] [.arr true 1 ((apY B r f).scopes.map Yfr),.arr true 5
 ((apY B r f).items.map Yfn)] (.tup [.agg [vI (apY B r f).kind,vI (apY B r f).number,vS (apY B r f).text,.ref 0,.ref 1],lb (apB B r f)]))))))))) (by
 dsimp only [Yfp,Z72]
 have gz:zY.kind=0/\zY.number=0/\zY.text=mkS []/\zY.scopes=[]/\zY.items=[]:=⟨rfl,rfl,rfl,rfl,rfl⟩
 with_reducible repeat' (first | apply And.intro | exact zR | (intro) | apply Z89 | apply Ze2)
 all_goals ((try simp only [std,inj] at *); with_reducible and_intros)
 all_goals try with_reducible first | apply Z89 | apply Ze2
 all_goals try first | exact zw | grind [Yoh,Ygq,Yfy,Yfz,Yfs])
def Yh7 (s:YS):List YS:=if Ygc s=true then Yfv s [] else []
theorem Y11b {p:YS} (h:okY p=true) (hk:p.kind≠0):p.items=[]:=by
 rw [Ym0,Bool.and_eq_true] at h
 have h2:=h.2
 simp only [Ylq,Bool.and_eq_true] at h2
 have h3:=h2.1.1
 simp only [Ym5,Bool.or_eq_true,decide_eq_true_eq] at h3
 refine List.length_eq_zero_iff.1 ?_
 omega
section rounds
variable {M:YS->YS->Bool} {x:YS} {C:List YC} {fs:List YS} {R:List (List YC)}
theorem Y13i {y:YS} (h:y∈Yfv x []):y∈nmZ x:=by
 rw [Ywr] at h
 rcases (Yuy (nmZ x) []).1 y h with h | h
 ·cases h
 ·exact h
theorem Y1m9 {y:YS} (h:y∈nmZ x):∃ w∈Yfv x [],w.text=y.text/\w.scopes=y.scopes/\fnd C w=fnd C y:=by
 obtain ⟨w,hw,e1,e2⟩:=(Yuy (nmZ x) []).2 y (.inr h)
 rw [<- Ywr] at hw
 exact ⟨w,hw,e1,e2,Y133 e1 e2 (Ysp x w (Y13i hw)) (Ysp x y h)⟩
end rounds
theorem Y1le {p:YS} (h:okY p=true) (hk:p.kind=1):Yio p=true:=by
 have e:=Y11b h (by omega)
 have h1:=Ygo p
 have h2:=Ymb p
 rw [e] at h1 h2
 simp only [Yio,Ygc,hk,h,Bool.and_true,decide_true,Bool.true_and,Bool.and_eq_true,decide_eq_true_eq]
 have e2:Yh2 Yge []=0:=rfl
 have e3:sumBy Yft []=0:=rfl
 omega
end Go.Proofs.YtclpofblehlojaaGreat
end
section
namespace Go.Proofs.YtclpofblehlojaaGreat
open Go Ab
set_option maxHeartbeats 4000000
abbrev Z4n (s:YS):Ct:=⟨11,[],[Ygb s],[.arr true 5 ((Yh7 s).map Yfn)],.sv (.one (.ref 0))⟩
theorem Z18 (s:YS) (h:wY s<=1048576)  : Z4n s:=Yg4 Tryz.call11 Tryz.func11 (.c [.rd] (Z14 s) (.b (!Ygc s) (.w (.ghost (.nilreg 2 true 5)) (.f [1]
 [.arr true 5 []] (.sv (.one (.ref 0))))) (.w (.bool false) (.d [.rd,.own true 5] (Z16 s []) (.f [3] [.arr true 5 ((Yfv s []).map Yfn)] (.sv (.one
 (.ref 0)))))))) (by
 dsimp only [Yfp,Z4n]
 have g1:=Yn5 s
 with_reducible repeat' (first | apply And.intro | exact zR | (intro) | apply Z2c)
 all_goals ((try simp only [std,inj] at *); with_reducible and_intros)
 all_goals try with_reducible first | apply Z2c
 all_goals try first | exact z | grind [Yh7,Yfy,Yfz,Yfs])
mutual
/-- the names in the forms of a capture -/
def nmP:YC->List YS
 | ⟨_,_,f,e⟩=>nmZ f++Y164 e
def Y164:List YC->List YS
 | []=>[]
 | x :: r=>nmP x++Y164 r
end
theorem Y19x:∀ l,Y164 l=l.flatMap nmP
 | []=>by simp [Y164]
 | x :: r=>by rw [Y164,Y19x r]; simp
theorem Yrz (x:YC):nmP x=nmZ x.form++x.each.flatMap nmP:=by cases x; simp only [nmP,Y19x]
theorem Y17m:nmP (default:YC)=[]:=by
 rw [Yrz]; show nmZ ⟨0,0,.empty,[],[]⟩++[]=[]
 rw [Yl6]; simp
def Ynh (Y:List YS) (C:List YC):Prop:=∀ z∈C,∀ y∈nmP z,y∈Y
theorem Yqw {Y:List YS} {C:List YC} (h:Ynh Y C) (i:Nat):∀ y∈nmP (C.getD i default),y∈Y:=by
 intro y hy
 rcases Nat.lt_or_ge i C.length with h3 | h3
 ·exact h _ (Yfx h3) y hy
 ·have e:C.getD i default=default:=by simp [h3]
  rw [e,Y17m] at hy; cases hy
theorem Y1ff {Y:List YS} {C:List YC} (h:Ynh Y C) (i:Nat):Ynh Y (C.getD i default).each:=by
 intro z hz y hy
 refine Yqw h i y ?_
 rw [Yrz]; exact List.mem_append_right _ (List.mem_flatMap.2 ⟨z,hz,hy⟩)
theorem Y19w {Y:List YS} {C:List YC} (h:Ynh Y C) (a:Nat):∀ I,Ynh Y (Yql C a I)
 | []=>h
 | x :: r=>by
  have ih:=Y19w h a r
  simp only [Yql]
  split
  ·intro z hz
   rcases List.mem_or_eq_of_mem_set hz with hz | rfl
   ·exact ih z hz
   ·exact Yqw (Y1ff h _) a
  ·exact ih
theorem Y1f3 {f:Nat->Int->YS × Bool × Int} {R:YS->Prop} (hf:∀ j q,(f j q).2.1=true->R (f j q).1):∀ (j:Nat) (q:Int) (O:List YS),(itr f j q O).2.1=true->∀ z∈(itr f j q O).1,z∈O ∨ R z
 | 0,q,O,_,z,hz=>.inl hz
 | j+1,q,O,h,z,hz=>by
  have h0:=Y13n h
  rw [Ymx f j q O h0] at h hz
  simp only at h hz
  rcases List.mem_append.1 hz with hz | hz
  ·exact Y1f3 hf j q O h0 z hz
  ·rw [List.mem_singleton.1 hz]; exact .inr (hf _ _ h)
def inR (l:List YS) (Y:List YS) (z:YS):Prop:=∀ y∈nmZ z,(∃ x∈l,y∈nmZ x) ∨ y∈Y
theorem Ysj {l l' Y:List YS} {z:YS} (h:inR l Y z) (hl:∀ x∈l,x∈l'):inR l' Y z:=fun y hy=>(h y hy).imp (fun ⟨x,hx,e⟩=>⟨x,hl x hx,e⟩) id
theorem Y10f {Y:List YS}:∀ (l:List YS),(∀ x∈l,∀ C q,Ynh Y C->(bld x C q).2.1=true->inR [x] Y (bld x C q).1)->∀ C q O,Ynh Y C->(Ygy l C q O).2.1=true->∀ z∈(Ygy l C q O).1,z∈O ∨ inR l Y z
 | [],_,C,q,O,_,_,z,hz=>by rw [Ylu] at hz; exact .inl hz
 | [x],hx,C,q,O,hC,h,z,hz=>by
  rw [Yqi] at h hz
  by_cases e:(bld x C q).2.1=true
  ·rw [if_pos e,Ylu] at hz
   rcases List.mem_append.1 hz with hz | hz
   ·exact .inl hz
   ·rw [List.mem_singleton.1 hz]; exact .inr (hx x List.mem_cons_self C q hC e)
  ·rw [if_neg e] at h; cases h
 | x :: y :: r,hx,C,q,O,hC,h,z,hz=>by
  rw [Yn8] at h hz
  by_cases d:Yfw y=true
  ·rw [if_pos d] at h hz
   by_cases e:(bR C x q O).2.1=true
   ·rw [if_pos e] at h hz
    rcases Y10f r (fun z hz=>hx z (by simp [hz])) C _ (bR C x q O).1 hC h z hz with h1 | h1
    ·have:z∈O ∨ inR [x] Y z:=by
      unfold bR bJ at e h1
      by_cases c:cnB C x=true
      ·rw [if_pos c] at e h1
       exact Y1f3 (fun j q hq=>hx x List.mem_cons_self _ q (Y19w hC j _) hq) _ q O e z h1
      ·rw [if_neg c] at e; cases e
     exact this.imp id fun hr=>Ysj hr fun w hw=>by rw [List.mem_singleton.1 hw]; exact List.mem_cons_self
    ·exact .inr (Ysj h1 fun w hw=>by simp [hw])
   ·rw [if_neg e] at h; exact absurd h e
  ·rw [if_neg d] at h hz
   by_cases e:(bld x C q).2.1=true
   ·rw [if_pos e] at h hz
    rcases Y10f (y :: r) (fun z hz=>hx z (List.mem_cons_of_mem _ hz)) C _ (O++[(bld x C q).1]) hC h z hz with h1 | h1
    ·rcases List.mem_append.1 h1 with h1 | h1
     ·exact .inl h1
     ·rw [List.mem_singleton.1 h1]
      exact .inr (Ysj (hx x List.mem_cons_self C q hC e) fun w hw=>by rw [List.mem_singleton.1 hw]; exact List.mem_cons_self)
    ·exact .inr (Ysj h1 fun w hw=>List.mem_cons_of_mem _ hw)
   ·rw [if_neg e] at h; cases h
theorem Y1o9 {Y:List YS}:∀ (t:YS) (C:List YC) (q:Int),Ynh Y C->(bld t C q).2.1=true->inR [t] Y (bld t C q).1:=by
 refine YS.ind fun t ih C q hC h => ?_
 rw [Ylw] at h ⊢
 by_cases c1:q - 1<0
 ·rw [if_pos c1] at h; cases h
 rw [if_neg c1] at h ⊢
 by_cases c2:t.kind=1
 ·rw [if_pos c2] at h ⊢
  by_cases c3:Yfw t=true ∨ fnd C t<0
  ·rw [if_pos c3]; exact fun y hy=>.inl ⟨t,List.mem_singleton.2 rfl,hy⟩
  ·rw [if_neg c3] at h ⊢
   by_cases c4:(Ygn C t).depth≠0
   ·rw [if_pos c4] at h; cases h
   ·rw [if_neg c4] at h ⊢
    by_cases c5:(Yft (Ygn C t).form:Int)<=q
    ·rw [if_pos c5]
     intro y hy
     refine .inr (Yqw hC (fnd C t).toNat y ?_)
     rw [Yrz]; exact List.mem_append_left _ hy
    ·rw [if_neg c5] at h; cases h
 ·rw [if_neg c2] at h ⊢
  by_cases c6:(Ygy t.items C (q - 1) []).2.1=true
  ·rw [if_pos c6]
   intro y hy
   rw [Yl6,if_neg c2,List.nil_append,List.mem_flatMap] at hy
   obtain ⟨z,hz,hy⟩:=hy
   rcases Y10f t.items ih C (q - 1) [] hC c6 z hz with h1 | h1
   ·cases h1
   ·rcases h1 y hy with ⟨x,hx,e⟩ | e
    ·exact .inl ⟨t,List.mem_singleton.2 rfl,by rw [Yl6]; exact List.mem_append_right _ (List.mem_flatMap.2 ⟨x,hx,e⟩)⟩
    ·exact .inr e
  ·rw [if_neg c6] at h; cases h
theorem Y16o {H:YS->Bool} {A:List YS->Int}:∀ (l:List YS),(∀ x∈l,∀ d,∀ z∈nm H A x d,nmP z=[])->∀ i a d,∀ z∈nms H A l i a d,nmP z=[]
 | [],_,i,a,d,z,hz=>by simp [nms] at hz
 | x :: r,h,i,a,d,z,hz=>by
  simp only [nms,List.mem_append] at hz
  rcases hz with hz | hz
  ·split at hz
   ·cases hz
   ·exact h x List.mem_cons_self _ z hz
  ·exact Y16o r (fun y hy=>h y (List.mem_cons_of_mem _ hy)) _ _ _ z hz
theorem Y1kb {H:YS->Bool} {A:List YS->Int}:∀ (p:YS) (d:Int),∀ z∈nm H A p d,nmP z=[]:=by
 refine YS.ind fun p ih d z hz => ?_
 rw [Yl2] at hz
 split at hz
 ·split at hz
  ·cases hz
  ·simp only [List.mem_singleton] at hz; subst hz
   rw [Yrz]; show nmZ ⟨0,0,mkS [],[],[]⟩++[]=[]
   rw [Yl6]; simp
 ·split at hz
  ·exact Y16o p.items ih _ _ _ z hz
  ·cases hz
theorem Y1pw {V:List YC} {R:List (List YC)} {Y:List YS} (hV:∀ z∈V,nmP z=[]) (hR:∀ c∈R,Ynh Y c):Ynh Y (rp V R):=by
 intro z hz y hy
 simp only [rp,List.mem_map,List.mem_range] at hz
 obtain ⟨i,hi,rfl⟩:=hz
 have h1:=hV _ (Yfx hi)
 rw [Yrz] at h1 hy
 simp only at hy
 rw [List.flatMap_append,<- List.append_assoc,h1,List.nil_append,List.mem_flatMap] at hy
 obtain ⟨w,hw,hy⟩:=hy
 obtain ⟨c,hc,rfl⟩:=List.mem_map.1 hw
 exact Yqw (hR c hc) i y hy
theorem Y1kq {Y fs:List YS} (h:∀ f∈fs,∀ y∈nmZ f,y∈Y) (k:Nat):∀ y∈nmZ (fs.getD k default),y∈Y:=by
 intro y hy
 rcases Nat.lt_or_ge k fs.length with h3 | h3
 ·exact h _ (Yfx h3) y hy
 ·have e:fs.getD k default=default:=by simp [h3]
  rw [e] at hy
  have e2:nmZ (default:YS)=[]:=by show nmZ ⟨0,0,.empty,[],[]⟩=[]; rw [Yl6]; simp
  rw [e2] at hy; cases hy
theorem Y1dg {M:YS->YS->Bool} {H:YS->Bool} {A:List YS->Int} {Y:List YS}:∀ l:List YS,(∀ x∈l,∀ f c,mt M H A x f=some c->(∀ y∈nmZ f,y∈Y)->Ynh Y c)->∀ i a k fs c,mts M H A l i a k fs=some c->(∀ f∈fs,∀ y∈nmZ f,y∈Y)->Ynh Y c
 | [],_,i,a,k,fs,c,e,_,z,hz=>by simp only [mts,Option.some.injEq] at e; subst e; cases hz
 | x :: r,h,i,a,k,fs,c,e,hf,z,hz=>by
  have ih:=Y1dg r (fun y hy=>h y (List.mem_cons_of_mem _ hy)) (i+1) a k
  have hd:∀ n,∀ f∈fs.drop n,∀ y∈nmZ f,y∈Y:=fun n f hm=>hf f (List.mem_of_mem_drop hm)
  simp only [mts] at e
  split at e
  ·exact ih _ _ e hf z hz
  ·split at e
   ·split at e
    ·cases e
    ·rename_i R hR
     split at e
     ·cases e
     ·rename_i c' hc
      simp only [Option.some.injEq] at e; subst e
      obtain ⟨r1,r2⟩:=Y137 _ _ hR
      rcases List.mem_append.1 hz with hz | hz
      ·refine Y1pw (fun z hz=>Y1kb x 1 z hz) (fun c hc => ?_) z hz
       obtain ⟨f',h1,h2⟩:=r2 c hc
       exact h x List.mem_cons_self f' c h2 (hf f' (List.mem_of_mem_take h1))
      ·exact ih _ _ hc (hd k) z hz
   ·split at e
    ·cases e
    ·rename_i c1 h1
     split at e
     ·cases e
     ·rename_i c' hc
      simp only [Option.some.injEq] at e; subst e
      rcases List.mem_append.1 hz with hz | hz
      ·exact h x List.mem_cons_self _ _ h1 (Y1kq hf 0) z hz
      ·exact ih _ _ hc (hd 1) z hz
theorem Y1py {M:YS->YS->Bool} {H:YS->Bool} {A:List YS->Int} {Y:List YS}:∀ (p f:YS) (c:List YC),mt M H A p f=some c->(∀ y∈nmZ f,y∈Y)->Ynh Y c:=by
 refine YS.ind fun p ih f c e hm z hz => ?_
 rw [Yji] at e
 split at e
 ·split at e
  ·simp only [Option.some.injEq] at e; subst e; cases hz
  ·split at e
   ·split at e
    ·simp only [Option.some.injEq] at e; subst e; cases hz
    ·cases e
   ·simp only [Option.some.injEq] at e; subst e
    rw [List.mem_singleton.1 hz]
    intro y hy
    rw [Yrz] at hy
    simp only [Yp7,List.flatMap_nil,List.append_nil] at hy
    exact hm y hy
 ·split at e
  ·split at e
   ·refine Y1dg p.items ih _ _ _ _ _ e (fun g hg y hy=>hm y ?_) z hz
    rw [Yl6]; exact List.mem_append_right _ (List.mem_flatMap.2 ⟨g,hg,hy⟩)
   ·cases e
  ·split at e
   ·simp only [Option.some.injEq] at e; subst e; cases hz
   ·cases e
theorem Y1du:∀ (x:YS),okY x=true->∀ y∈nmZ x,Yio y=true:=by
 refine YS.ind fun x ih h y hy => ?_
 rw [Yl6,List.mem_append,List.mem_flatMap] at hy
 rcases hy with hy | ⟨z,hz,hy⟩
 ·split at hy
  ·rename_i hk; rw [List.mem_singleton] at hy; subst hy; exact Y1le h hk
  ·cases hy
 ·exact ih z hz (Yjd h z hz) y hy
theorem Y1o7 (f:YS):∀ y∈nmZ (tlY f),y∈nmZ f:=by
 intro y hy
 rw [Yl6] at hy
 have e:(tlY f).kind≠1:=by show (0:Int)≠1; decide
 rw [if_neg e,List.nil_append,List.mem_flatMap] at hy
 obtain ⟨z,hz,hy⟩:=hy
 rw [Yl6]
 exact List.mem_append_right _ (List.mem_flatMap.2 ⟨z,List.mem_of_mem_drop hz,hy⟩)
def Yni (a b:YS):Bool:=Yio a&&Yio b&&(decide (a.text=b.text)&&decide (a.scopes=b.scopes))
def Yso (r:YR) (f:YS) (k:Nat):List YS:=Yh7 f++(r.templates.take k).flatMap Yh7
theorem Y11l {r:YR} {f:YS} {k:Nat} (h:k<r.templates.length):Yso r f (k+1)=Yso r f k++Yh7 (r.templates.getD k default):=by
 unfold Yso; rw [Ygg h,List.flatMap_append,List.append_assoc]; simp
theorem Y16t {x y:YS} {K:List YS} (hx:Ygc x=true) (hy:Yio y=true) (h:y∈nmZ x) (hK:∀ z∈Yh7 x,z∈K):K.any (Yni y)=true:=by
 obtain ⟨w,hw,e1,e2,_⟩:=Y1m9 (C:=[]) h
 have h1:w∈Yh7 x:=by unfold Yh7; rw [if_pos hx]; exact hw
 have ho:okY x=true:=by simp only [Ygc,Bool.and_eq_true] at hx; exact hx.2
 have h2:=Y1du x ho w (Y13i hw)
 rw [List.any_eq_true]
 exact ⟨w,hK w h1,by simp only [Yni,hy,h2,e1,e2,decide_true,Bool.and_self]⟩
theorem Y16e {B:List YB} {r:YR} {f:YS} (h:Yoh B r f=true):Ygc (Ygq B r f)=true/\∀ y∈Yh7 (Ygq B r f),(Yso r f r.templates.length).any (Yni y)=true:=by
 have h0:=h
 simp only [Yoh,Bool.and_eq_true] at h
 obtain ⟨⟨⟨hB,hr⟩,hf⟩,ha⟩:=h
 have hb:=ha
 simp only [apB,Bool.and_eq_true] at hb
 obtain ⟨hg,hi⟩:=hb
 have eY:Ygq B r f=Yj7 (r.templates.getD (apN B r f) default) (apC B r f (apN B r f)):=by
  unfold Ygq; rw [if_pos (by rw [hB,hr,hf]; rfl)]; unfold apY; rw [if_pos hg]
 have hk:apN B r f<r.patterns.length:=by simp only [apG,Bool.and_eq_true,decide_eq_true_eq] at hg; exact hg.2
 obtain ⟨_,_,_,hkt,_⟩:=Yq7 hr hk
 have hi2:=hi
 simp only [Ymj,Bool.and_eq_true] at hi2
 obtain ⟨⟨⟨ht,_⟩,hok⟩,hs⟩:=hi2
 have eZ:Yj7 (r.templates.getD (apN B r f) default) (apC B r f (apN B r f))=(bld (r.templates.getD (apN B r f) default) (apC B r f (apN B r f)) 2000).1:=by unfold Yj7; rw [if_pos hi]
 rw [eY,eZ]
 refine ⟨hs,fun y hy => ?_⟩
 have hyn:y∈nmZ (bld (r.templates.getD (apN B r f) default) (apC B r f (apN B r f)) 2000).1:=by
  unfold Yh7 at hy; rw [if_pos hs] at hy; exact Y13i hy
 have hso:okY (bld (r.templates.getD (apN B r f) default) (apC B r f (apN B r f)) 2000).1=true:=by simp only [Ygc,Bool.and_eq_true] at hs; exact hs.2
 have hyi:=Y1du _ hso y hyn
 have hC:Ynh (nmZ f) (apC B r f (apN B r f)):=by
  unfold apC
  cases e:gS B r.literals (tlY (r.patterns.getD (apN B r f) default)) (tlY f) with
  | none=>intro z hz; cases hz
  | some c=>exact Y1py _ _ _ e (Y1o7 f)
 have hin:r.templates.getD (apN B r f) default∈r.templates:=Yfx hkt
 rcases Y1o9 _ _ _ hC hok y hyn with ⟨x,hx,hxy⟩ | hyf
 ·rw [List.mem_singleton.1 hx] at hxy
  refine Y16t ht hyi hxy fun z hz => ?_
  unfold Yso; rw [List.take_length]
  exact List.mem_append_right _ (List.mem_flatMap.2 ⟨_,hin,hz⟩)
 ·exact Y16t hf hyi hyf fun z hz=>by unfold Yso; exact List.mem_append_left _ hz
theorem Y1k1 {B:List YB} {r:YR} {f:YS} (h:Yoh B r f=false):(Ygq B r f).items=[]/\(Ygq B r f).kind=0:=by
 unfold Ygq
 split
 ·rename_i h1
  have h2:apB B r f=false:=by
   simp only [Yoh] at h; rw [h1,Bool.true_and] at h; exact h
  unfold apY
  split
  ·rename_i h3
   unfold Yj7
   unfold apB at h2; rw [h3,Bool.true_and] at h2
   rw [if_neg (by rw [h2]; decide)]; exact ⟨rfl,rfl⟩
  ·exact ⟨rfl,rfl⟩
 ·exact ⟨rfl,rfl⟩
set_option maxHeartbeats 4000000
abbrev Z7m (a:YS) (b:YS):Ct:=⟨18,[],[Ygb a,Ygb b],[],.sv (lb (Yni a b))⟩
theorem Ze3 (a b:YS)  : Z7m a b:=Yg4 Tryz.call18 Tryz.func18 (.c [.rd] (Z5w a) (.b (decide (a.kind=1)&&Ygc a) (.c [.rd] (Z5w b) (.b (decide
 (b.kind=1)&&Ygc b) (.c [.rd,.rd] (Z8q a b) (.s (lb (decide (a.text=b.text)&&decide (a.scopes=b.scopes))))) (.s (lb false)))) (.y false (.s (lb false))))) (by
 dsimp only [Yfp,Z7m]
 with_reducible repeat' (first | apply And.intro | exact zR | (intro))
 all_goals ((try simp only [std,inj] at *); with_reducible and_intros)
 all_goals try first | exact z | grind [Yni,Yio,Yfy,Yfz,Yfs])
def Ykk (o:List YS):Bool:=o.all fun y=>decide (y.kind=1)
theorem Y1h3 {o:List YS} {s:YS} (h:Ykk o=true) (hs:s.kind=1):Yi6 o s=Ygw o s:=by
 simp only [Ykk,List.all_eq_true,decide_eq_true_eq] at h
 unfold Yi6 Ygw
 apply Bool.eq_iff_iff.2
 simp only [List.any_eq_true]
 constructor
 ·rintro ⟨x,hx,e⟩; simp only [Yit,Bool.and_eq_true,decide_eq_true_eq] at e; exact ⟨x,hx,by simp [e.1.2,e.2]⟩
 ·rintro ⟨x,hx,e⟩; simp only [Bool.and_eq_true,decide_eq_true_eq] at e; exact ⟨x,hx,by simp only [Yit,h x hx,hs,e.1,e.2,decide_true,Bool.and_self]⟩
theorem Y1fo {s:YS} {o:List YS} (h:Ykk o=true):Ykk (Yjm s o)=true:=by
 unfold Yjm; split
 ·rename_i e; simp only [Ykk,List.all_append,Bool.and_eq_true] at h ⊢; exact ⟨h,by simp [e.1]⟩
 ·exact h
theorem Y14u:∀ (L:List YS),(∀ x∈L,∀ o,Ykk o=true->Ykk (Yfv x o)=true)->∀ o,Ykk o=true->Ykk (L.foldl (fun o x=>Yfv x o) o)=true
 | [],_,o,h=>h
 | x :: r,hL,o,h=>Y14u r (fun y hy=>hL y (List.mem_cons_of_mem _ hy)) _ (hL x List.mem_cons_self o h)
theorem Y1p4:∀ (s:YS) (o:List YS),Ykk o=true->Ykk (Yfv s o)=true:=by
 refine YS.ind fun s ih o h => ?_
 rw [Ypo]; exact Y14u s.items ih _ (Y1fo h)
theorem Y1kz {s:YS} {o:List YS} (h:okY s=true) (hk:s.kind=1):Yfv s o=if Ygw o s=false then o++[s] else o:=by
 rw [Ypo,Y11b h (by omega),List.foldl_nil]; unfold Yjm; simp only [hk,true_and]
theorem Y1m5 {s:YS} {o:List YS} (hk:¬ s.kind=1):Yjm s o=o:=by unfold Yjm; rw [if_neg (fun e=>hk e.1)]
abbrev Z1h (s:YS) (o:List YS):Ct:=⟨52,[.arr true 5 (o.map Yfn)],[Ygb s,.one (.ref 0)],[.dead,.arr true 5 ((Yfv s o).map Yfn)],.sv (.one (.ref 1))⟩
def Z3y (s:YS) (o:List YS):Lp Nat:=.mk 40 1 (fun x=>[(1,.one (.ref 1)),(29,ll (s.items.map Yfn)),(30,li (↑(List.map Yfn
 s.items).length:Int)),(31,hs x 0)]) (fun x=>[.dead,ho x 1]) (fun k=>[.s (li (k:Int)),.o (.arr true 5 ((List.foldl (fun o x=>Yfv x o) (Yjm s
 o) (s.items.take k)).map Yfn))]) (fun k=>k<=s.items.length/\s.items.length<=9223372036854775807) (fun k=>s.items.length - k) [.mk True (.exit 2) (fun x=>[(1,.one (.ref
 1))]) (fun x=>[.dead,ho x 0]) [.o (.arr true 5 ((Yfv s o).map Yfn))]]
def Z3z (s:YS) (o:List YS):Lp Nat:=.mk 40 1 (fun x=>[(1,.one (.ref 1)),(2,.one (.ptr 2 0)),(12,.one (.ref 1)),(13,li (↑(List.map
 Yfn o).length:Int)),(14,hs x 0)]) (fun x=>[.dead,ho x 1,.box (vals (Yfu s))]) (fun k=>[.s (li (k:Int)),.o (.arr true 5 (o.map Yfn))]) (fun k
 => k<=o.length/\o.length<=9223372036854775807/\Yi6 (o.take k) s=false) (fun k=>o.length - k) [.mk (Yi6 o s=false) (.exit 0) (fun x=>[(1,.one (.ref 1)),(2,
 .one (.ptr 2 0))]) (fun x=>[.dead,ho x 0,.box (vals (Yfu s))]) [.o (.arr true 5 (o.map Yfn))],.mk (Yi6 o s=true) .ret (fun x=>[(4,.one (.ref
 1))]) (fun x=>[.dead,ho x 0]) [.o (.arr true 5 (o.map Yfn))]]
theorem Zbs (s:YS) (o:List YS) (h:o.length+Yft s<=2147483647/\wY s<=1000000000/\okY s=true/\Ykk o=true) (ih:∀ (z:YS),z∈s.items->∀ (o
 : List YS),o.length+Yft z<=2147483647/\wY z<=1000000000/\okY z=true/\Ykk o=true->OK (Z1h z o)):Lp.Sem Tryz.prog (Yg6 Tryz.f52 1) (Z3y s o):=
 Ygf (fun k=>.i ((k:Int)<(↑(List.map Yfn s.items).length:Int)) (.x (k:Int) (List.map Yfn s.items) (Yfu (s.items.getD k default)) (.d [.rd,.own true 5]
 (Z1h (s.items.getD k default) (List.foldl (fun o x=>Yfv x o) (Yjm s o) (List.take k s.items))) (.r ((k:Int)+1) (.g [0,4] (k+1) [.s (li ((k:Int)+1)),.o
 (Ob.arr true 5 (List.map Yfn (Yfv (s.items.getD k default) (List.foldl (fun o x=>Yfv x o) (Yjm s o) (List.take k s.items)))))])))) (.o 0 [0,1] [.o (Ob.arr true 5
 (List.map Yfn (List.foldl (fun o x=>Yfv x o) (Yjm s o) (List.take k s.items))))])) (by
 intro k h; try dsimp only [Yfp,Yg0,Z3y] at h ⊢
 have hh := ‹o.length+Yft s<=2147483647/\_›
 have g1:=Ys6 (s.items.take k) (fun x _ o=>Yqc x o) (Yjm s o)
 have g2:=Yx2 s o
 have g3:=@Yj5 s k
 have g4:=Ygo s
 have g5:=Yhn s
 have g6:=@Ygt _ wY s.items (s.items.getD k default)
 have g7:=Yjd hh.2.2.1 (s.items.getD k default)
 have g8:=Y14u (s.items.take k) (fun x _ o h=>Y1p4 x o h) (Yjm s o) (Y1fo hh.2.2.2)
 with_reducible repeat' (first | apply And.intro | exact zR | exact ih | (intro) | apply Z3 | apply ih)
 all_goals ((try simp only [std,inj] at *); with_reducible and_intros)
 all_goals try with_reducible first | apply Z3 | apply ih
 all_goals try first | exact z | grind [Ypo,Ymc,Yfx,Yfy,Yfz,Yfs])
theorem Zbt (s:YS) (o:List YS) (h:o.length+Yft s<=2147483647/\wY s<=1000000000/\okY s=true/\Ykk o=true) (ih:∀ (z:YS),z∈s.items->∀ (o
 : List YS),o.length+Yft z<=2147483647/\wY z<=1000000000/\okY z=true/\Ykk o=true->OK (Z1h z o)):Lp.Sem Tryz.prog (Yg6 Tryz.f52 0) (Z3z s o):=
 Ygf (fun k=>.i ((k:Int)<(↑(List.map Yfn o).length:Int)) (.p (0<=(k:Int)/\(k:Int).toNat<(List.map Yfn o).length) (.w (.cells (Yfu (o.getD (↑k :
 Int).toNat default))) (.p ((List.map Yfn o)[(k:Int).toNat]? = some (Yfu (o.getD (k:Int).toNat default))) (.c [.rd,.rd] (Z73 (o.getD (k:Int).toNat default) s)
 (.b (decide ((o.getD (k:Int).toNat default).kind=1)&&decide (s.kind=1)&&decide ((o.getD (k:Int).toNat default).text=s.text)&&decide ((o.getD (k:Int).toNat
 default).scopes=s.scopes)) (.o 1 [0,1] [.o (Ob.arr true 5 (List.map Yfn o))]) (.r ((k:Int)+1) (.g [0,1,2] (k+1) [.s (li ((k:Int)+1)),.o (Ob.arr true 5
 (List.map Yfn o))]))))))) (.o 0 [0,1,2] [.o (Ob.arr true 5 (List.map Yfn o))])) (by
 intro k h; try dsimp only [Yfp,Yg0,Z3z] at h ⊢
 with_reducible repeat' (first | apply And.intro | exact zR | exact ih | (intro) | apply Z3)
 all_goals ((try simp only [std,inj] at *); with_reducible and_intros)
 all_goals try with_reducible first | apply Z3 | apply ih
 all_goals try first | exact z | grind [Ygg,Yi6,Yit,Yfx,Yfy,Yfz,Yfs])
theorem Zet (s:YS) (o:List YS) (h:o.length+Yft s<=2147483647/\wY s<=1000000000/\okY s=true/\Ykk o=true) (ih:∀ z∈s.items,∀ (o:List YS) (h
 : o.length+Yft z<=2147483647/\wY z<=1000000000/\okY z=true/\Ykk o=true),Z1h z o)  : Z1h s o:=Yg4 Tryz.call52 Tryz.func52 (.i (s.kind=1) (.z Yfn o
 (.w (.ghost (.move 0)) (.l (Z3z s o) (Zbt s o h ih) [0,2,1] [.s (li 0),.o (.arr true 5 (o.map Yfn))] 0 (.t (.d [.rd] (Zm s) (.p (((List.map
 Yfn o).length+1) * 80<=140737488355328) (.f [6] [.dead,.arr true 5 (o.map Yfn++[Yfu s])] (.sv (.one (.ref 1)))))) (.t (.f [1] [.dead,.arr
 true 5 (o.map Yfn)] (.sv (.one (.ref 1)))) .q))))) (.z Yfn s.items (.w (.ghost (.move 0)) (.l (Z3y s o) (Zbs s o h ih) [0,2] [.s (li 0),.o
 (.arr true 5 (o.map Yfn))] 0 (.t (.f [1] [.dead,.arr true 5 ((Yfv s o).map Yfn)] (.sv (.one (.ref 1)))) .q))))) (by
 dsimp only [Yfp,Z1h,Yg0,Z3z,Z3y]
 have g1:=@Y1h3 o s h.2.2.2
 have g2:=@Y1kz s o h.2.2.1
 have g3:=@Y1m5 s o
 have g4:=Ygo s
 with_reducible repeat' (first | apply And.intro | exact zR | exact ih | (intro) | apply Z3)
 all_goals ((try simp only [std,inj] at *); with_reducible and_intros)
 all_goals try first | with_reducible (first | apply Z3 | apply ih) | (simp only [<- List.map_append]; with_reducible first | apply Z3 | apply ih)
 all_goals (try exact zG)
 all_goals (rw [List.take_zero]; rfl))
theorem Ze4 (s:YS):∀ (o:List YS) (h:o.length+Yft s<=2147483647/\wY s<=1000000000/\okY s=true/\Ykk o=true),Z1h s o:=YS.ind (P:=fun s=>∀ (o:List YS) (h:o.length+Yft s<=2147483647/\wY s<=1000000000/\okY s=true/\Ykk o=true),Z1h s o) (fun s ih o h=>Zet s o h ih) s
abbrev Z6g (s:YS):Ct:=⟨17,[],[Ygb s],[.arr true 5 ((Yh7 s).map Yfn)],.sv (.one (.ref 0))⟩
theorem Z19 (s:YS) (h:wY s<=400000000)  : Z6g s:=Yg4 Tryz.call17 Tryz.func17 (.c [.rd] (Zi s) (.b (!Ygc s) (.w (.ghost (.nilreg 2 true 5)) (.f [1]
 [.arr true 5 []] (.sv (.one (.ref 0))))) (.d [.rd,.own true 5] (Z1h s []) (.f [2] [.arr true 5 ((Yfv s []).map Yfn)] (.sv (.one (.ref 0))))))) (by
 dsimp only [Yfp,Z6g]
 have g1:=Yn5 s
 have g2:Ygc s=true->okY s=true:=fun e=>by simp only [Ygc,Bool.and_eq_true] at e; exact e.2
 have g3:Ykk []=true:=rfl
 have g4:Ygc s=true->Yft s<=2000:=fun e=>by simp only [Ygc,Bool.and_eq_true,decide_eq_true_eq] at e; omega
 with_reducible repeat' (first | apply And.intro | exact zR | (intro) | apply Ze4)
 all_goals ((try simp only [std,inj] at *); with_reducible and_intros)
 all_goals try with_reducible first | apply Ze4
 all_goals try first | exact z | grind [Yh7,Yfy,Yfz,Yfs])
theorem Y13l (L:List Int):∀ k,Yke L k=true->k=0 ∨ ((k:Int)<=L.getD (k - 1) default/\L.getD (k - 1) default<=99999)
 | 0,_=>.inl rfl
 | k+1,h=>by
  simp only [Yke,Bool.and_eq_true,Bool.or_eq_true,decide_eq_true_eq] at h
  have ih:=Y13l L k h.1.1
  right
  rw [Nat.add_sub_cancel]
  rcases ih with rfl | ih
  ·exact ⟨by omega,h.1.2.2⟩
  ·rcases h.2 with h2 | h2
   ·subst h2; exact ⟨by omega,h.1.2.2⟩
   ·exact ⟨by omega,h.1.2.2⟩
theorem Y1im {L:List Int} (h:Yka L=true):L.length<=99999:=by
 rcases Y13l L L.length h with h | h <;> omega
theorem Y1jx {k n:Int} {t:ByteArray} {i:Int} (h:Ym5 k n t i=true):t.size<=99999:=by
 have e:∀ u:ByteArray,u.data.toList=[]->u.size=0:=fun u hu=>by
  have:u.data.toList.length=0:=by rw [hu]; rfl
  simpa using this
 simp only [Ym5,Bool.or_eq_true,decide_eq_true_eq] at h
 rcases h with (((h | h) | h) | h) | h
 ·have:=e t h.2.2; omega
 ·have h2:=h.2.2.1
  unfold Yim at h2; simp only [Bool.and_eq_true,decide_eq_true_eq] at h2
  have:=h2.1.1.1.2; omega
 ·have:=e t h.2.2.2.1; omega
 ·have:=e t h.2.2.2.1; omega
 ·have h2:=h.2.2.1
  unfold Yjr at h2; simp only [Bool.and_eq_true,decide_eq_true_eq] at h2
  have:=h2.1; omega
theorem Y1ld:∀ s:YS,okY s=true->wY s+1<=200000 * Yft s:=by
 refine YS.ind fun s ih h => ?_
 rw [Ym0,Bool.and_eq_true,List.all_eq_true] at h
 have h1:s.scopes.length<=99999:=by
  have:=h.2
  simp only [Ylq,Bool.and_eq_true] at this
  exact Y1im this.1.2
 have h2:∀ L:List YS,(∀ x∈L,wY x+1<=200000 * Yft x)->L.length+sumBy wY L<=200000 * sumBy Yft L:=by
  intro L
  induction L with
  | nil=>intro _; simp [sumBy]
  | cons x r ihr=>
   intro hL
   have a:=hL x List.mem_cons_self
   have b:=ihr fun y hy=>hL y (List.mem_cons_of_mem _ hy)
   have c:=Ygo x
   simp only [sumBy,List.length_cons]; omega
 have h3:=h2 s.items fun x hx=>ih x hx (h.1 x hx)
 have h4:s.text.size<=99999:=by
  have:=h.2
  simp only [Ylq,Bool.and_eq_true] at this
  exact Y1jx this.1.1
 rw [Yhn,Ygo]; omega
theorem Y1gc {s:YS} (h:Ygc s=true):wY s<=400000000/\Yft s<=2000/\okY s=true:=by
 simp only [Ygc,Bool.and_eq_true,decide_eq_true_eq] at h
 have:=Y1ld s h.2
 exact ⟨by omega,by omega,h.2⟩
abbrev igX (b:List UInt8):YS:=Ygq (igB b) (igR b) (igF b)
def igK (b:List UInt8) (k:Nat):List YS:=Yso (igR b) (igF b) k
abbrev igN (b:List UInt8):List YS:=igK b (igR b).templates.length
theorem Yxe (s:YS):(Yh7 s).length<=wY s+1:=by
 unfold Yh7; split
 ·have h1:=Yqc s []
  have h2:=Yn5 s
  simp only [List.length_nil] at h1; omega
 ·simp
theorem Y191 (b:List UInt8):∀ k,k<=(igR b).templates.length->(igK b k).length<=wY (igF b)+1+k+sumBy wY ((igR b).templates.take k)
 | 0,_=>by unfold igK Yso; rw [List.take_zero,List.flatMap_nil,List.append_nil]; have:=Yxe (igF b); omega
 | k+1,h=>by
  have ih:=Y191 b k (by omega)
  have h1:=Yxe ((igR b).templates.getD k default)
  unfold igK at ih ⊢
  rw [Y11l (by omega),List.length_append,Yih wY (by omega)]; omega
abbrev Zbi (b:List UInt8):Ct:=⟨4,[],[ll (b.map Yg9)],[],.sv (lb true)⟩
def Z5n (b:List UInt8) (k:Nat):Lp Nat:=.mk 94 0 (fun x=>[(6,.one (.ptr 0 0)),(10,.one (.ref 1)),(14,.one (.ptr 2 0)),(15,hs x 1),(70,.one
 (.ref 3)),(71,li (↑((Yh7 (Ygq (igB b) (igR b) (igF b))).map Yfn).length:Int)),(72,li (k:Int)),(76,.one (.ref 1)),(77,li (↑((igN
 b).map Yfn).length:Int)),(78,hs x 0)]) (fun x=>[.box [vI (Ygq (igB b) (igR b) (igF b)).kind,vI (Ygq (igB b) (igR b) (igF b)).number,vS (Ygq (igB b) (igR b) (igF b)).text,
 .ref 4,.ref 5],.arr true 5 ((igN b).map Yfn),.box [vI ((Yh7 (Ygq (igB b) (igR b) (igF b))).getD (k:Int).toNat default).kind,vI ((Yh7 (Ygq (igB b) (igR
 b) (igF b))).getD (k:Int).toNat default).number,vS ((Yh7 (Ygq (igB b) (igR b) (igF b))).getD (k:Int).toNat default).text,.bor 3 (.list (((Yh7 (Ygq
 (igB b) (igR b) (igF b))).getD (k:Int).toNat default).scopes.map Yfr)),.bor 3 (.list (((Yh7 (Ygq (igB b) (igR b) (igF b))).getD (k:Int).toNat
 default).items.map Yfn))],.arr true 5 ((Yh7 (Ygq (igB b) (igR b) (igF b))).map Yfn),.arr true 1 ((Ygq (igB b) (igR b) (igF b)).scopes.map Yfr),.arr true 5
 ((Ygq (igB b) (igR b) (igF b)).items.map Yfn)]) (fun k1=>[.s (li (k1:Int)),.s (lb ((List.take k1 (igN b)).any (Yni ((Yh7 (igX b)).getD k default))))]) (fun k1
 => k1<=(igN b).length/\(igN b).length<=9223372036854775807/\k<(Yh7 (igX b)).length) (fun k1=>(igN b).length - k1) [.mk True (.exit 4) (fun x=>[(6,.one (.ptr 0 0)),
 (10,.one (.ref 1)),(15,hs x 0),(70,.one (.ref 2)),(71,li (↑((Yh7 (Ygq (igB b) (igR b) (igF b))).map Yfn).length:Int)),(72,li (k:Int))]) (fun x=>
 [.box [vI (Ygq (igB b) (igR b) (igF b)).kind,vI (Ygq (igB b) (igR b) (igF b)).number,vS (Ygq (igB b) (igR b) (igF b)).text,.ref 3,.ref 4],.arr true 5 (List.map
 Yfn (igN b)),.arr true 5 ((Yh7 (Ygq (igB b) (igR b) (igF b))).map Yfn),.arr true 1 ((Ygq (igB b) (igR b) (igF b)).scopes.map Yfr),.arr true 5
 ((Ygq (igB b) (igR b) (igF b)).items.map Yfn)]) [.s (lb ((igN b).any (Yni ((Yh7 (igX b)).getD k default))))]]
def Z5o (b:List UInt8):Lp Nat:=.mk 94 0 (fun x=>[(6,.one (.ptr 0 0)),(10,.one (.ref 1)),(70,.one (.ref 2)),(71,li (↑((Yh7 (Ygq
 (igB b) (igR b) (igF b))).map Yfn).length:Int)),(72,hs x 0)]) (fun x=>[.box [vI (Ygq (igB b) (igR b) (igF b)).kind,vI (Ygq (igB b) (igR b) (igF b)).number,vS (Ygq (igB b)
 (igR b) (igF b)).text,.ref 3,.ref 4],.arr true 5 ((igN b).map Yfn),.arr true 5 ((Yh7 (Ygq (igB b) (igR b) (igF b))).map Yfn),.arr true 1
 ((Ygq (igB b) (igR b) (igF b)).scopes.map Yfr),.arr true 5 ((Ygq (igB b) (igR b) (igF b)).items.map Yfn)]) (fun k=>[.s (li (k:Int))]) (fun k=>k<=(Yh7
 (igX b)).length/\(Yh7 (igX b)).length<=9223372036854775807/\Yoh (igB b) (igR b) (igF b)=true/\b.length<=1048576) (fun k=>(Yh7 (igX b)).length - k) [.mk True (.exit 2)
 (fun x=>[(6,.one (.ptr 0 0))]) (fun x=>[.box [vI (Ygq (igB b) (igR b) (igF b)).kind,vI (Ygq (igB b) (igR b) (igF b)).number,vS (Ygq (igB b) (igR b) (igF b)).text,
 .ref 1,.ref 2],.arr true 1 ((Ygq (igB b) (igR b) (igF b)).scopes.map Yfr),.arr true 5 ((Ygq (igB b) (igR b) (igF b)).items.map Yfn)]) [],.mk False
 .ret (fun x=>[(2,hs x 0)]) (fun x=>[]) [.s (lb false)]]
def Z5p (b:List UInt8):Lp Nat:=.mk 94 0 (fun x=>[(6,.one (.ptr 0 0)),(10,.one (.ref 1)),(58,.one (.ref 2)),(59,li (↑((igR
 b).templates.map Yfn).length:Int)),(60,hs x 0)]) (fun x=>[.box [vI (Ygq (igB b) (igR b) (igF b)).kind,vI (Ygq (igB b) (igR b) (igF b)).number,vS (Ygq (igB b) (igR b) (igF
 b)).text,.ref 3,.ref 4],ho x 1,.arr true 5 ((igR b).templates.map Yfn),.arr true 1 ((Ygq (igB b) (igR b) (igF b)).scopes.map Yfr),.arr true 5
 ((Ygq (igB b) (igR b) (igF b)).items.map Yfn)]) (fun k=>[.s (li (k:Int)),.o (.arr true 5 ((igK b k).map Yfn))]) (fun k=>k<=(igR b).templates.length /\
 b.length<=1048576) (fun k=>(igR b).templates.length - k) [.mk True (.exit 0) (fun x=>[(6,.one (.ptr 0 0)),(10,.one (.ref 1))]) (fun x=>[.box [vI (Ygq (igB b)
 (igR b) (igF b)).kind,vI (Ygq (igB b) (igR b) (igF b)).number,vS (Ygq (igB b) (igR b) (igF b)).text,.ref 2,.ref 3],ho x 0,.arr true 1 ((Ygq (igB b)
 (igR b) (igF b)).scopes.map Yfr),.arr true 5 ((Ygq (igB b) (igR b) (igF b)).items.map Yfn)]) [.o (.arr true 5 ((igN b).map Yfn))]]
theorem Ze5 (b:List UInt8) (k:Nat):Lp.Sem Tryz.prog (Yg6 Tryz.f4 2) (Z5n b k):=Ygf (fun k1=>.i ((k1:Int)<(↑((igN b).map Yfn).length:Int))
 (.p (0<=(k1:Int)/\(k1:Int).toNat<((igN b).map Yfn).length) (.w (.cells (Yfu ((igN b).getD (k1:Int).toNat default))) (.p (((igN b).map Yfn)[(↑k1
 : Int).toNat]? = some (Yfu ((igN b).getD (k1:Int).toNat default))) (.b ((List.take k1 (igN b)).any (Yni ((Yh7 (igX b)).getD k default))) (.r ((k1:Int)+1) (.g [0,1,
 2,3,4,5] (k1+1) [.s (li ((k1:Int)+1)),.s (lb true)])) (.c [.rd,.rd] (Ze3 ((Yh7 (Ygq (igB b) (igR b) (igF b))).getD (k:Int).toNat default) ((igN b).getD (↑k1
 : Int).toNat default)) (.r ((k1:Int)+1) (.g [0,1,2,3,4,5] (k1+1) [.s (li ((k1:Int)+1)),.s (lb (Yni ((Yh7 (Ygq (igB b) (igR b) (igF b))).getD (k:Int).toNat
 default) ((igN b).getD (k1:Int).toNat default)))]))))))) (.o 0 [0,1,3,4,5] [.s (lb ((List.take k1 (igN b)).any (Yni ((Yh7 (igX b)).getD k default))))])) (by
 intro k1 h; try dsimp only [Yfp,Yg0,Z5n] at h ⊢
 with_reducible repeat' (first | apply And.intro | exact zR | (intro) | apply Z3u | apply Z1q | apply Z1p | apply Z18 | apply Z19)
 all_goals ((try simp only [std,inj] at *); with_reducible and_intros)
 all_goals try with_reducible first | apply Z3u | apply Z1q | apply Z1p | apply Z18 | apply Z19
 all_goals try first | exact zw | grind [Ygg,Yfy,Yfz,Yfs])
theorem Ze6 (b:List UInt8):Lp.Sem Tryz.prog (Yg6 Tryz.f4 1) (Z5o b):=Ygf (fun k=>.i ((k:Int)<(↑((Yh7 (Ygq (igB b) (igR b) (igF
 b))).map Yfn).length:Int)) (.p (0<=(k:Int)/\(k:Int).toNat<((Yh7 (Ygq (igB b) (igR b) (igF b))).map Yfn).length) (.w (.cells (Yfu ((Yh7 (Ygq (igB b) (igR b)
 (igF b))).getD (k:Int).toNat default))) (.p (((Yh7 (Ygq (igB b) (igR b) (igF b))).map Yfn)[(k:Int).toNat]? = some (Yfu ((Yh7 (Ygq (igB b) (igR b) (igF
 b))).getD (k:Int).toNat default))) (.z Yfn (igN b) (.l (Z5n b k) (Ze5 b k) [0,1,5,2,3,4] [.s (li 0),.s (lb false)] 0 (.t (.b (!(igN b).any (Yni ((Yh7
 (igX b)).getD k default))) (.o 1 [] [.s (lb false)]) (.r ((k:Int)+1) (.g [0,1,2,3,4] (k+1) [.s (li ((k:Int)+1))]))) .q)))))) (.o 0 [0,3,4] [])) (by
 intro k h; try dsimp only [Yfp,Yg0,Z5o,Z5n] at h ⊢
 have g1:=(Y16e h.2.2.1).2 ((Yh7 (igX b)).getD k default)
 with_reducible repeat' (first | apply And.intro | exact zR | (intro) | apply Z3u | apply Z1q | apply Z1p | apply Z18 | apply Z19)
 all_goals ((try simp only [std,inj] at *); with_reducible and_intros)
 all_goals try with_reducible first | apply Z3u | apply Z1q | apply Z1p | apply Z18 | apply Z19
 all_goals try first | exact zw | grind [igK,Yfx,Yfy,Yfz,Yfs])
theorem Ze7 (b:List UInt8):Lp.Sem Tryz.prog (Yg6 Tryz.f4 0) (Z5p b):=Ygf (fun k=>.i ((k:Int)<(↑((igR b).templates.map Yfn).length:Int)) (.p
 (0<=(k:Int)/\(k:Int).toNat<((igR b).templates.map Yfn).length) (.w (.cells (Yfu ((igR b).templates.getD (k:Int).toNat default))) (.p ((List.map Yfn
 (igR b).templates)[(k:Int).toNat]? = some (Yfu ((igR b).templates.getD (k:Int).toNat default))) (.d [.rd] (Z4n ((igR b).templates.getD (k:Int).toNat default))
 (.p ((((igK b k).map Yfn).length+((Yh7 ((igR b).templates.getD (k:Int).toNat default)).map Yfn).length) * 80<=140737488355328) (.r ((k:Int)+1) (.g
 [0,7,2,3,4] (k+1) [.s (li ((k:Int)+1)),.o (.arr true 5 ((igK b k).map Yfn++(Yh7 ((igR b).templates.getD (k:Int).toNat
 default)).map Yfn))]))))))) (.o 0 [0,1,3,4] [.o (.arr true 5 ((igK b k).map Yfn))])) (by
 intro k h; try dsimp only [Yfp,Yg0,Z5p] at h ⊢
 have w1:=Y1jh h.2
 have w2:=Y1j5 h.2
 have g1:=@Y11l (igR b) (igF b) k
 have g2:=Y191 b k h.1
 have g3:=Yhj wY (igR b).templates k
 have g4:=Yvc (igR b)
 have g5:=@Ygt _ wY (igR b).templates ((igR b).templates.getD k default)
 have g6:=Yxe ((igR b).templates.getD k default)
 with_reducible repeat' (first | apply And.intro | exact zR | (intro) | apply Z3u | apply Z1q | apply Z1p | apply Z18 | apply Z19)
 all_goals ((try simp only [std,inj] at *); with_reducible and_intros)
 all_goals try first | with_reducible (first | apply Z3u | apply Z1q | apply Z1p | apply Z18 | apply Z19) | (simp only [<- List.map_append]; with_reducible first | apply Z3u | apply Z1q | apply Z1p | apply Z18 | apply Z19)
 all_goals try first | exact zw | grind [igK,Yfx,Yh7,Yfy,Yfz,Yfs])
theorem Zfm (b:List UInt8)  : Zbi b:=Yg4 Tryz.call4 Tryz.func4 (.z Yg9 b (.i (1048576<(↑(b.map Yg9).length:Int)) (.s (lb true)) (.d [.rd] (Z8v b) (.d
 [.rd,.rd,.rd] (Z72 (igB b) (igR b) (igF b)) (.d [.rd,.rd,.rd] (Z71 (igB b) (igR b) (igF b)) (.i (Yoh (igB b) (igR b) (igF b)≠Yoh (igB b) (igR b) (igF b)) (.s
 (lb false)) (.b (!Yoh (igB b) (igR b) (igF b)) (.z Yfn (Ygq (igB b) (igR b) (igF b)).items (.i ((↑((Ygq (igB b) (igR b) (igF b)).items.map Yfn).length:Int)=0)
 (.s (lb (decide ((Ygq (igB b) (igR b) (igF b)).kind=0)))) (.s (lb false)))) (.d [.rd] (Z4n (igF b)) (.z Yfn (igR b).templates (.l (Z5p b) (Ze7 b) [10,
 14,3,8,9] [.s (li 0),.o (.arr true 5 ((Yh7 (igF b)).map Yfn))] 0 (.t (.d [.rd] (Z6g (Ygq (igB b) (igR b) (igF b))) (.z Yfn (Yh7 (Ygq (igB b) (igR b)
 (igF b))) (.l (Z5o b) (Ze6 b) [0,1,4,2,3] [.s (li 0)] 0 (.t (.c [.rd] (Zi (Ygq (igB b) (igR b) (igF b))) (.s (lb (Ygc (Ygq (igB b) (igR b) (igF
 b)))))) (.t (.s (lb false)) .q))))) .q))))))))))) (by
 dsimp only [Yfp,Zbi,Yg0,Z5p,Z5o]
 have w1:=@Y1jh b
 have w2:=@Y1j5 b
 have w3:=@Y1qo b
 have g1:=@Y16e (igB b) (igR b) (igF b)
 have g2:=@Y1k1 (igB b) (igR b) (igF b)
 have g3:igK b 0=Yh7 (igF b):=by unfold igK Yso; simp
 have g4:Yoh (igB b) (igR b) (igF b)=true->wY (Ygq (igB b) (igR b) (igF b))<=400000000:=fun h=>(Y1gc (Y16e h).1).1
 with_reducible repeat' (first | apply And.intro | exact zR | (intro) | apply Z3u | apply Z1q | apply Z1p | apply Z18 | apply Z19)
 all_goals ((try simp only [std,inj] at *); with_reducible and_intros)
 all_goals try first | with_reducible (first | apply Z3u | apply Z1q | apply Z1p | apply Z18 | apply Z19) | (simp only [<- List.map_append]; with_reducible first | apply Z3u | apply Z1q | apply Z1p | apply Z18 | apply Z19)
 all_goals try first | exact zw | grind [Yh7,Yfy,Yfz,Yfs])
end Go.Proofs.YtclpofblehlojaaGreat
end
section
namespace Go.Proofs.YtclpofblehlojaaGreat.fnIngredients
open Go Go.ChangeShapes Go.WideShapes Go.ChangeAt Go.RowKit Go.Proofs.YtclpofblehlojaaGreat.Ab
theorem own:ownKnob Tryz.prog.godebug=none:=by kernel_rfl
theorem Y1rj:laidOutB Tryz.prog=true:=by kernel_rfl
theorem Y1qn:mapsRowed Tryz.prog=true:=by kernel_rfl
theorem Y1pm:((List.range Tryz.prog.types.size).all fun t=>match Tryz.prog.underlying t with | some (.slice e)=>decide (0<Tryz.prog.cellsOf e) | _=>true)=true:=by kernel_rfl
set_option maxRecDepth 100000 in
theorem Y1oy (os:Os) (started:os.Started) (H:Type) (enc:TypeId × Value->H) :
  ReturnsInHanded {} Tryz.checked os 4 .any (Rows.fnIngredientsSpec.pre6 enc Tryz.prog Tryz.f4 Rows.fnIngredientsRow.domain false) (Rows.fnIngredientsSpec.post enc Tryz.prog Tryz.f4 false true false false):=by
 refine returnsInHanded_of_change (C:=Tryz.checked) own started (by kernel_rfl) Tryz.func4
  (ChangeSpec.witness6 (enc:=enc) (C:=Tryz.checked) false ⟨#[],#[.slice none 0 0],[]⟩ 12 (by kernel_rfl) (by kernel_rfl) (by kernel_rfl) (by kernel_rfl)) ?_
 intro W base args ds gs before hval0 hW hcnd _
 have hval:∀ (j:Nat) t v,Tryz.f4.params[j]? = some t->args[j]? = some v->Value.okWide Tryz.prog W .any base t v:=hval0
 have hW':=hW
 obtain ⟨p,q,hA0,hV,rfl,hfz,hnd⟩:=hW
 obtain ⟨rfl,rfl⟩:=trodVars_none hV
 have hA:DataW.TrodAll enc Tryz.prog W 0 (fun _=>true) true Tryz.f4.params.toList args.toList ds p:=hA0
 rw [Tryz.params4] at hA hval
 have hA2:=hA
 clear hA0 hval0
 obtain ⟨v0,vs0,d0,ds0,p0,q0,hargs0,rfl,rfl,h0,r0⟩:=trodAll_cons hA
 obtain ⟨rfl,rfl,rfl⟩:=trodAll_nil r0
 obtain rfl:args=#[v0]:=by cases args; simp_all
 obtain ⟨a0,c0⟩:=(let ⟨fuel,hf⟩:=h0; Y1gj (C:=Yg9) Tryz.underlying22 (by rw [show Tryz.prog.cellsOf 5=1 from by kernel_rfl]; decide) (fun a=>by kernel_rfl) (fun m hm cs x h=>Y1lc Tryz.underlying5 h) hf)
 have s0:Yh5 W (Y10s W) (Yhq []) (ll (a0.map Yg9)) v0:=Y1jq (by obtain ⟨_,_,_,rfl⟩:=okWide_slice Tryz.underlying22 (hval 0 22 v0 rfl rfl); rfl) c0
 refine (Yjg.kept (w:=W) (vals:=#[v0]) (Zfm a0) (Kn.none (by kernel_rfl) (by kernel_rfl)) ⟨s0,trivial⟩).mono fun e W' ⟨he,hg,_⟩ => ?_
 subst he
 exact ⟨_,rfl,Y16f (pv:=[]) hW' (fun _ _ _=>(trodAll_cons_mk (shut_bool Tryz.underlying4 _) trodAll_mk0))
  (fun sp hsp=>Yu3 Y1rj Y1qn Y1pm hg (by decide +kernel) hA2 fun y hy=>hsp y (by simpa using hy)) (fun _ _=>rfl) rfl
  hg (ok_one (by kernel_rfl) rfl (okWide_bool_mk Tryz.underlying4 _))⟩
set_option maxRecDepth 100000 in
set_option maxHeartbeats 0 in
theorem Y1r4:joinedFacts Tryz.pinned.checked.prog 4 Tryz.f4 Rows.fnIngredientsSpec Rows.fnIngredientsRow=true:=by
 delta joinedFacts
 with_reducible repeat' apply Y1qw
 all_goals (first | with_reducible exact Y1mu | (rw [Y1pe]; kernel_rfl) | (rw [Y1qt]; kernel_rfl) | decide +kernel)
theorem Y1rh:Rows.fnIngredientsRow.holds Tryz.pinned (OpenSpec.ofChange Rows.fnIngredientsSpec):=
 OpenClaim.holds_of_wide 4 Tryz.f4 rfl rfl rfl rfl rfl rfl rfl ⟨rfl,rfl,rfl,rfl,rfl⟩ rfl rfl rfl rfl rfl (by kernel_rfl) Tryz.func4 Y1r4
  (of_decide_eq_true (by kernel_rfl)) (by unfold Func.isWrapper; first | (rw [if_pos (by decide +kernel)]; kernel_rfl) | (rw [if_neg (by decide +kernel)]; exact ⟨rfl,rfl⟩))
  (fun os started H enc _=>Y1oy os started H enc)
theorem proved:Rows.FnIngredientsSaid:=
 Y1rh
end Go.Proofs.YtclpofblehlojaaGreat.fnIngredients
end
