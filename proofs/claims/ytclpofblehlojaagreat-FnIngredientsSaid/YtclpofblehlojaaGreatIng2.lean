/- Part 2 of a proof. No condition. -/
import Derived.Test.YtclpofblehlojaaGreatIng1
import Derived.Lib.AtoiErr
set_option linter.unusedVariables false
set_option linter.unusedSimpArgs false
section
namespace Go.Proofs.YtclpofblehlojaaGreat
open Go Ab
set_option maxHeartbeats 4000000
theorem Y1jg {α:Type} [Inhabited α] {p:α->Bool} {L:List α} {k:Nat} (hk:k<L.length) (hb:k<=L.findIdx p) (h:p (L.getD k default)=true):L.findIdx p=k:=by
 have h1:L.getD k default=L[k]:=by simp [hk]
 rw [h1] at h
 rcases Nat.lt_or_ge k (L.findIdx p) with h2 | h2
 ·have:=List.not_of_lt_findIdx h2
  simp [h] at this
 ·omega
theorem Y1a4 {α:Type} [Inhabited α] {p:α->Bool} {L:List α} {k:Nat} (hk:k<L.length) (hb:k<=L.findIdx p) (h:p (L.getD k default)=false):k+1<=L.findIdx p:=by
 have h1:L.getD k default=L[k]:=by simp [hk]
 rw [h1] at h
 rcases Nat.lt_or_ge k (L.findIdx p) with h2 | h2
 ·exact h2
 ·have e:L.findIdx p=k:=by omega
  have h3:=List.findIdx_getElem (p:=p) (xs:=L) (w:=by omega)
  simp only [e,h] at h3
  exact absurd h3 (by decide)
abbrev Z55 (L:List Int):Ct:=⟨61,[],[ll (L.map Yfr)],[.arr true 1 (L.map Yfr)],.sv (.one (.ref 0))⟩
theorem Z1m (L:List Int) (h:L.length<=2147483647)  : Z55 L:=Yg4 Tryz.call61 Tryz.func61 (.w (.bool false) (.p (∀ (e:List Cell),e∈L.map Yfr->∀ (c :
 Cell),c∈e->∃ v,c=Cell.lit v) (.p (∀ (e:List Cell),e∈L.map Yfr->e.length=1) (.p ((0+(L.map Yfr).length) * 8<=140737488355328) (.f [1] [.arr true 1
 (L.map Yfr)] (.sv (.one (.ref 0)))))))) (by
 dsimp only [Yfp,Z55]
 exact zV)
abbrev Z26 (L:List Int):Ct:=⟨68,[],[ll (L.map Yfr)],[.arr true 1 (L.map Yfr)],.sv (.one (.ref 0))⟩
theorem Z7 (L:List Int) (h:L.length<=2147483647)  : Z26 L:=Yg4 Tryz.call68 Tryz.func68 (.w (.bool true) (.p (∀ (e:List Cell),e∈L.map Yfr->∀ (c :
 Cell),c∈e->∃ v,c=Cell.lit v) (.p (∀ (e:List Cell),e∈L.map Yfr->e.length=1) (.p ((0+(L.map Yfr).length) * 8<=140737488355328) (.f [0] [.arr true 1
 (L.map Yfr)] (.sv (.one (.ref 0)))))))) (by
 dsimp only [Yfp,Z26]
 exact zV)
abbrev Z1w (s:YS):Ct:=⟨171,[],[Ygb s,li 0,li 0],Yhl s,.sv (Yhp s 0)⟩
def Z29 (s:YS):Lp Nat:=.mk 62 0 (fun x=>[(1,li 0),(2,li 0),(6,.one (.ptr 0 0)),(7,.one (.ptr 1 0)),(45,ll (s.items.map Yfn)),(46,li
 (↑(s.items.map Yfn).length:Int)),(47,hs x 0)]) (fun x=>[.box [vI 0,vI 0,vS (ByteArray.mk #[]),.val (.lit (.slice none 0 0)),.val (.lit
 (.slice none 0 0))],.box [vI s.kind,vI s.number,vS s.text,.ref 2,.ref 3],.arr true 1 (s.scopes.map Yfr),ho x 1]) (fun k=>[.s (li (k:Int)),.o
 (.arr true 5 ((s.items.take k).map Yfn))]) (fun k=>k<=s.items.length/\s.items.length<=9223372036854775807) (fun k=>s.items.length - k) [.mk True (.exit 1)
 (fun x=>[(6,.one (.ptr 0 0)),(7,.one (.ptr 1 0))]) (fun x=>[.box [vI 0,vI 0,vS (ByteArray.mk #[]),.val (.lit (.slice none 0 0)),.val (.lit
 (.slice none 0 0))],.box [vI s.kind,vI s.number,vS s.text,.ref 2,.ref 3],.arr true 1 (s.scopes.map Yfr),ho x 0]) [.o (.arr true 5 (List.map Yfn
 s.items))]]
theorem Z7j (s:YS) (h:wY s<=1000000000) (ih:∀ (z:YS),z∈s.items->wY z<=1000000000->OK (Z1w z)):Lp.Sem Tryz.prog (Yg6 Tryz.f171 0)
 (Z29 s):=Ygf (fun k=>.i ((k:Int)<(↑(s.items.map Yfn).length:Int)) (.x (k:Int) (s.items.map Yfn) (Yfu (s.items.getD k default)) (.w
 (.draw [(6,[9,10]),(7,[3,17]),(9,[1])]) (.d [.rd,.rd,.rd] (Z1w (s.items.getD k default)) (.p ((((s.items.take k).map Yfn).length+1) * 80 <=
 140737488355328) (.r ((k:Int)+1) (.g [0,1,2,18] (k+1) [.s (li ((k:Int)+1)),.o (.arr true 5 ((s.items.take k).map Yfn++[Yfu (s.items.getD k
 default)]))])))))) (.o 0 [0,1,2,3] [.o (.arr true 5 ((s.items.take k).map Yfn))])) (by
 intro k h; try dsimp only [Yfp,Yg0,Z29] at h ⊢
 have g1:=Yhn s
 have g2:=@Ygt _ wY s.items (s.items.getD k default)
 with_reducible repeat' (first | apply And.intro | exact zR | exact ih | (intro) | apply Z1m | apply ih)
 all_goals ((try simp only [std,inj] at *); with_reducible and_intros)
 all_goals try first | with_reducible (first | apply Z1m | apply ih) | (simp only [<- List.map_append]; with_reducible first | apply Z1m | apply ih)
 all_goals try first | exact z | grind [Ygg,Yfx,Yfy,Yfz,Yfs,Yfx])
theorem Zed (s:YS) (h:wY s<=1000000000) (ih:∀ z∈s.items,∀ (h:wY z<=1000000000),Z1w z)  : Z1w s:=Yg4 Tryz.call171 Tryz.func171 (.w (.draw [(11,
 [18])]) (.d [.rd] (Z55 s.scopes) (.i (s.kind=1) (.y false (.y false (.y false (.z Yfn s.items (.w (.ghost (.nilbox 18 4 true 5)) (.l (Z29 s) (Z7j s h
 ih) [1,18,10,19] [.s (li 0),.o (.arr true 5 [])] 0 (.t (.f [2,3] [.arr true 1 (s.scopes.map Yfr),.arr true 5 (s.items.map Yfn)] (.sv (.agg [vI
 s.kind,vI s.number,vS s.text,.ref 0,.ref 1]))) .q))))))) (.z Yfn s.items (.w (.ghost (.nilbox 18 4 true 5)) (.l (Z29 s) (Z7j s h ih) [1,18,10,19]
 [.s (li 0),.o (.arr true 5 [])] 0 (.t (.f [2,3] [.arr true 1 (s.scopes.map Yfr),.arr true 5 (s.items.map Yfn)] (.sv (.agg [vI s.kind,vI s.number,vS
 s.text,.ref 0,.ref 1]))) .q))))))) (by
 dsimp only [Yfp,Z1w,Yg0,Z29]
 have g1:=Yhn s
 with_reducible repeat' (first | apply And.intro | exact zR | exact ih | (intro) | apply Z1m)
 all_goals ((try simp only [std,inj] at *); with_reducible and_intros)
 all_goals try with_reducible first | apply Z1m | apply ih
 all_goals (try exact zG))
theorem Zd6 (s:YS):∀ (h:wY s<=1000000000),Z1w s:=YS.ind (P:=fun s=>∀ (h:wY s<=1000000000),Z1w s) (fun s ih h=>Zed s h ih) s
abbrev Zl (s:YS):Ct:=⟨99,[],[Ygb s],Yhl s,.sv (Yhp s 0)⟩
theorem Z5 (s:YS) (h:wY s<=1000000000)  : Zl s:=Yg4 Tryz.call99 Tryz.func99 (.d [.rd,.rd,.rd] (Z1w s) (.f [2,3] [.arr true 1 (List.map Yfr
 s.scopes),.arr true 5 (s.items.map Yfn)] (.sv (.agg [vI s.kind,vI s.number,vS s.text,.ref 0,.ref 1])))) (by
 dsimp only [Yfp,Zl]
 with_reducible repeat' (first | apply And.intro | exact zR | (intro) | apply Zd6)
 all_goals ((try simp only [std,inj] at *); with_reducible and_intros)
 all_goals try with_reducible first | apply Zd6
 all_goals (try exact zG))
def fnA (f:FuncId):SV:=.one (.val (.lit (.func (.func f) #[] #[])))
abbrev Z1x (s:YS):Ct:=⟨168,[],[Ygb s,fnA 68],Yhl s,.sv (Yhp s 0)⟩
def Z2a (s:YS):Lp Nat:=.mk 43 0 (fun x=>[(1,.one (.val (.lit (.func (Fn.func 68) #[] #[])))),(4,.one (.ptr 0 0)),(5,.one (.ptr 1 0)),
 (27,ll (s.items.map Yfn)),(28,li (↑(s.items.map Yfn).length:Int)),(29,hs x 0)]) (fun x=>[.box [vI 0,vI 0,vS (ByteArray.mk #[]),.val (.lit
 (.slice none 0 0)),.val (.lit (.slice none 0 0))],.box [vI s.kind,vI s.number,vS s.text,.ref 2,.ref 3],.arr true 1 (s.scopes.map Yfr),ho x
 1]) (fun k=>[.s (li (k:Int)),.o (.arr true 5 ((s.items.take k).map Yfn))]) (fun k=>k<=s.items.length/\s.items.length<=9223372036854775807) (fun k=>
 s.items.length - k) [.mk True (.exit 0) (fun x=>[(4,.one (.ptr 0 0)),(5,.one (.ptr 1 0))]) (fun x=>[.box [vI 0,vI 0,vS (ByteArray.mk #[]),.val (.lit
 (.slice none 0 0)),.val (.lit (.slice none 0 0))],.box [vI s.kind,vI s.number,vS s.text,.ref 2,.ref 3],.arr true 1 (s.scopes.map Yfr),ho x
 0]) [.o (.arr true 5 (s.items.map Yfn))]]
theorem Z7k (s:YS) (h:wY s<=1000000000) (ih:∀ (z:YS),z∈s.items->wY z<=1000000000->OK (Z1x z)):Lp.Sem Tryz.prog (Yg6 Tryz.f168 0)
 (Z2a s):=Ygf (fun k=>.i ((k:Int)<(↑(s.items.map Yfn).length:Int)) (.x (k:Int) (s.items.map Yfn) (Yfu (s.items.getD k default)) (.w
 (.draw [(5,[9,10]),(6,[3,17]),(8,[1])]) (.d [.rd,.rd] (Z1x (s.items.getD k default)) (.p ((((s.items.take k).map Yfn).length+1) * 80 <=
 140737488355328) (.r ((k:Int)+1) (.g [0,1,2,18] (k+1) [.s (li ((k:Int)+1)),.o (.arr true 5 ((s.items.take k).map Yfn++[Yfu (s.items.getD k
 default)]))])))))) (.o 0 [0,1,2,3] [.o (.arr true 5 ((s.items.take k).map Yfn))])) (by
 intro k h; try dsimp only [Yfp,Yg0,Z2a] at h ⊢
 have g1:=Yhn s
 have g2:=@Ygt _ wY s.items (s.items.getD k default)
 with_reducible repeat' (first | apply And.intro | exact zR | exact ih | (intro) | apply Z7 | apply ih)
 all_goals ((try simp only [std,inj] at *); with_reducible and_intros)
 all_goals try first | with_reducible (first | apply Z7 | apply ih) | (simp only [<- List.map_append]; with_reducible first | apply Z7 | apply ih)
 all_goals try first | exact z | grind [Ygg,Yfx,Yfy,Yfz,Yfs,Yfx])
theorem Zee (s:YS) (h:wY s<=1000000000) (ih:∀ z∈s.items,∀ (h:wY z<=1000000000),Z1x z)  : Z1x s:=Yg4 Tryz.call168 Tryz.func168 (.w (.draw [(11,
 [18])]) (.d [.rd] (Z26 s.scopes) (.i (s.kind=1) (.d [.rd] (Z26 s.scopes) (.z Yfn s.items (.w (.ghost (.nilbox 18 4 true 5)) (.l (Z2a s) (Z7k s
 h ih) [1,18,19,20] [.s (li 0),.o (.arr true 5 [])] 0 (.t (.f [2,3] [.arr true 1 (s.scopes.map Yfr),.arr true 5 (s.items.map Yfn)] (.sv (.agg [vI
 s.kind,vI s.number,vS s.text,.ref 0,.ref 1]))) .q))))) (.z Yfn s.items (.w (.ghost (.nilbox 18 4 true 5)) (.l (Z2a s) (Z7k s h ih) [1,18,10,19] [.s
 (li 0),.o (.arr true 5 [])] 0 (.t (.f [2,3] [.arr true 1 (s.scopes.map Yfr),.arr true 5 (s.items.map Yfn)] (.sv (.agg [vI s.kind,vI s.number,vS
 s.text,.ref 0,.ref 1]))) .q))))))) (by
 dsimp only [Yfp,Z1x,Yg0,Z2a]
 have g1:=Yhn s
 with_reducible repeat' (first | apply And.intro | exact zR | exact ih | (intro) | apply Z7)
 all_goals ((try simp only [std,inj] at *); with_reducible and_intros)
 all_goals try with_reducible first | apply Z7 | apply ih
 all_goals (try exact zG))
theorem Zd7 (s:YS):∀ (h:wY s<=1000000000),Z1x s:=YS.ind (P:=fun s=>∀ (h:wY s<=1000000000),Z1x s) (fun s ih h=>Zee s h ih) s
abbrev Zm (s:YS):Ct:=⟨91,[],[Ygb s],Yhl s,.sv (Yhp s 0)⟩
theorem Z3 (s:YS) (h:wY s<=1000000000)  : Zm s:=Yg4 Tryz.call91 Tryz.func91 (.d [.rd,.rd] (Z1x s) (.f [2,3] [.arr true 1 (s.scopes.map Yfr),
 .arr true 5 (s.items.map Yfn)] (.sv (.agg [vI s.kind,vI s.number,vS s.text,.ref 0,.ref 1])))) (by
 dsimp only [Yfp,Zm]
 with_reducible repeat' (first | apply And.intro | exact zR | (intro) | apply Zd7)
 all_goals ((try simp only [std,inj] at *); with_reducible and_intros)
 all_goals try with_reducible first | apply Zd7
 all_goals (try exact zG))
def Yh8 (s:YS):Bool:=decide (s.text.data.toList=[95])
def Yip (x:YS):Bool:=Yio x && !Yfw x && !Yh8 x
def okL (L:List YS):Bool:=L.all Yip&&decide ((L.length:Int)<=8)
def Ygw (L:List YS) (s:YS):Bool:=L.any fun x=>decide (x.text=s.text)&&decide (x.scopes=s.scopes)
def Yit (x s:YS):Bool:=decide (x.kind=1)&&decide (s.kind=1)&&decide (x.text=s.text)&&decide (x.scopes=s.scopes)
def Yi6 (L:List YS) (s:YS):Bool:=L.any fun x=>Yit x s
theorem Y1f0 {α:Type} [Inhabited α] {L:List α} {p:α->Bool} {k:Nat} (h:k<L.length) (hp:p (L.getD k default)=false):L.all p=false:=by
 rw [List.all_eq_false]; exact ⟨_,Yfx h,by rw [hp]; decide⟩
theorem Yzw (x:YS):Yip x=((decide (x.kind=1)&&Ygc x) && !Yfw x && !decide (x.text.data.toList=[95])):=rfl
abbrev Z9d (L:List YS):Ct:=⟨39,[],[ll (L.map Yfn)],[],.sv (lb (okL L))⟩
def Z47 (L:List YS):Lp Nat:=.mk 27 0 (fun x=>[(0,ll (L.map Yfn)),(5,ll (L.map Yfn)),(6,li (↑(L.map Yfn).length:Int)),(7,hs x
 0)]) (fun x=>[]) (fun k=>[.s (li (k:Int))]) (fun k=>k<=L.length/\L.length<=9223372036854775807/\(L.take k).all Yip=true) (fun k=>L.length - k) [.mk (L.all
 Yip=true) (.exit 0) (fun x=>[(0,ll (L.map Yfn))]) (fun x=>[]) [],.mk (L.all Yip=false) .ret (fun x=>[(2,hs x 0)]) (fun x=>[]) [.s (lb false)]]
theorem Zc7 (L:List YS):Lp.Sem Tryz.prog (Yg6 Tryz.f39 0) (Z47 L):=Ygf (fun k=>.i ((k:Int)<(↑(L.map Yfn).length:Int)) (.x (k:Int)
 (L.map Yfn) (Yfu (L.getD k default)) (.c [.rd] (Z5w (L.getD k default)) (.b (!(decide ((L.getD k default).kind=1)&&Ygc (L.getD k default))) (.y true (.y
 true (.o 1 [] [.s (lb false)]))) (.c [.rd] (Zb (L.getD k default)) (.b (Yfw (L.getD k default)) (.y true (.o 1 [] [.s (lb false)])) (.i ((L.getD k
 default).text.data.toList=[(95:UInt8)]) (.o 1 [] [.s (lb false)]) (.r ((k:Int)+1) (.g [] (k+1) [.s (li ((k:Int)+1))])))))))) (.o 0 [] [])) (by
 intro k h; try dsimp only [Yfp,Yg0,Z47] at h ⊢
 have g1:=@Y1f0 _ _ L Yip k
 have g2:=Yzw (L.getD k default)
 with_reducible repeat' (first | apply And.intro | exact zR | (intro))
 all_goals ((try simp only [std,inj] at *); with_reducible and_intros)
 all_goals try first | exact z | grind [Ygg,Yfy,Yfz,Yfs])
theorem Zf1 (L:List YS)  : Z9d L:=Yg4 Tryz.call39 Tryz.func39 (.z Yfn L (.l (Z47 L) (Zc7 L) [] [.s (li 0)] 0 (.t (.z Yfn L (.s (lb (decide
 ((↑(L.map Yfn).length:Int)<=8))))) (.t (.s (lb false)) .q)))) (by
 dsimp only [Yfp,Z9d,Yg0,Z47]
 with_reducible repeat' (first | apply And.intro | exact zR | (intro))
 all_goals ((try simp only [std,inj] at *); with_reducible and_intros)
 all_goals try first | exact z | grind [okL,Yfy,Yfz,Yfs])
abbrev Z9e (s:YS):Ct:=⟨88,[],[Ygb s],[],.sv (lb (decide (s.kind=1)&&Yh8 s))⟩
theorem Z76 (s:YS)  : Z9e s:=Yg4 Tryz.call88 Tryz.func88 (.i (s.kind=1) (.s (lb (decide (s.text.data.toList=[(95:UInt8)])))) (.s (lb false))) (by
 dsimp only [Yfp,Z9e]
 with_reducible repeat' (first | apply And.intro | exact zR | (intro))
 all_goals ((try simp only [std,inj] at *); with_reducible and_intros)
 all_goals try first | exact z | grind [Yh8,Yfy,Yfz,Yfs])
abbrev Z9f (L:List YS):Ct:=⟨86,[],[ll (L.map Yfn)],[],.sv (lb (okL L))⟩
def Z48 (L:List YS):Lp Nat:=.mk 26 0 (fun x=>[(8,ll (L.map Yfn)),(9,li (↑(L.map Yfn).length:Int)),(10,hs x 0)]) (fun x=>[]) (fun k=>
 [.s (li (k:Int))]) (fun k=>k<=L.length/\L.length<=9223372036854775807/\(L.take k).all Yip=true) (fun k=>L.length - k) [.mk (L.all Yip=true) (.exit 0) (fun x
 => []) (fun x=>[]) [],.mk (L.all Yip=false) .ret (fun x=>[(2,hs x 0)]) (fun x=>[]) [.s (lb false)]]
theorem Zc8 (L:List YS):Lp.Sem Tryz.prog (Yg6 Tryz.f86 0) (Z48 L):=Ygf (fun k=>.i ((k:Int)<(↑(L.map Yfn).length:Int)) (.x (k:Int)
 (L.map Yfn) (Yfu (L.getD k default)) (.c [.rd] (Zf (L.getD k default)) (.b (!(decide ((L.getD k default).kind=1)&&Ygc (L.getD k default))) (.y true (.y
 true (.o 1 [] [.s (lb false)]))) (.c [.rd] (Z1 (L.getD k default)) (.b (Yfw (L.getD k default)) (.y true (.o 1 [] [.s (lb false)])) (.c [.rd] (Z76 (L.getD k default))
 (.b (decide ((L.getD k default).kind=1)&&Yh8 (L.getD k default)) (.o 1 [] [.s (lb false)]) (.r ((k:Int)+1) (.g [] (k+1) [.s (li ((k:Int)+1))]))))))))) (.o 0 []
 [])) (by
 intro k h; try dsimp only [Yfp,Yg0,Z48] at h ⊢
 with_reducible repeat' (first | apply And.intro | exact zR | (intro) | apply Zf | apply Z1)
 all_goals ((try simp only [std,inj] at *); with_reducible and_intros)
 all_goals try with_reducible first | apply Zf | apply Z1
 all_goals try first | exact z | grind [Ygg,Yip,Yio,Yfx,Yfy,Yfz,Yfs])
theorem Zbz (L:List YS)  : Z9f L:=Yg4 Tryz.call86 Tryz.func86 (.z Yfn L (.i (8<(↑(L.map Yfn).length:Int)) (.s (lb false)) (.z Yfn L (.l
 (Z48 L) (Zc8 L) [] [.s (li 0)] 0 (.t (.s (lb true)) (.t (.s (lb false)) .q)))))) (by
 dsimp only [Yfp,Z9f,Yg0,Z48]
 with_reducible repeat' (first | apply And.intro | exact zR | (intro) | apply Zf | apply Z1)
 all_goals ((try simp only [std,inj] at *); with_reducible and_intros)
 all_goals try with_reducible first | apply Zf | apply Z1
 all_goals try first | exact z | grind [okL,Yfy,Yfz,Yfs])
abbrev Z9g (L:List YS) (s:YS):Ct:=⟨97,[],[ll (L.map Yfn),Ygb s],[],.sv (lb (Ygw L s))⟩
def Z49 (L:List YS) (s:YS):Lp Nat:=.mk 17 0 (fun x=>[(3,.one (.ptr 0 0)),(7,ll (L.map Yfn)),(8,li (↑(L.map Yfn).length:Int)),
 (9,hs x 0)]) (fun x=>[.box (vals (Yfu s))]) (fun k=>[.s (li (k:Int))]) (fun k=>k<=L.length/\L.length<=9223372036854775807/\Ygw (L.take k) s=false) (fun
 k=>L.length - k) [.mk (Ygw L s=false) (.exit 0) (fun x=>[]) (fun x=>[]) [],.mk (Ygw L s=true) .ret (fun x=>[(4,hs x 0)]) (fun x=>[]) [.s (lb true)]]
theorem Zc9 (L:List YS) (s:YS):Lp.Sem Tryz.prog (Yg6 Tryz.f97 0) (Z49 L s):=Ygf (fun k=>.i ((k:Int)<(↑(L.map Yfn).length:Int))
 (.x (k:Int) (L.map Yfn) (Yfu (L.getD k default)) (.c [.rd,.rd] (Z8q (L.getD k default) s) (.b (decide ((L.getD k default).text=s.text)&&decide ((L.getD k
 default).scopes=s.scopes)) (.o 1 [] [.s (lb true)]) (.r ((k:Int)+1) (.g [0] (k+1) [.s (li ((k:Int)+1))]))))) (.o 0 [] [])) (by
 intro k h; try dsimp only [Yfp,Yg0,Z49] at h ⊢
 with_reducible repeat' (first | apply And.intro | exact zR | (intro))
 all_goals ((try simp only [std,inj] at *); with_reducible and_intros)
 all_goals try first | exact z | grind [Ygg,Ygw,Yfx,Yfy,Yfz,Yfs])
theorem Z4p (L:List YS) (s:YS)  : Z9g L s:=Yg4 Tryz.call97 Tryz.func97 (.z Yfn L (.l (Z49 L s) (Zc9 L s) [0] [.s (li 0)] 0 (.t (.s (lb
 false)) (.t (.s (lb true)) .q)))) (by
 dsimp only [Yfp,Z9g,Yg0,Z49]
 with_reducible repeat' (first | apply And.intro | exact zR | (intro))
 all_goals ((try simp only [std,inj] at *); with_reducible and_intros)
 all_goals try first | exact z | grind [Ygw,Yfy,Yfz,Yfs])
abbrev Z9h (L:List YS) (s:YS):Ct:=⟨89,[],[ll (L.map Yfn),Ygb s],[],.sv (lb (Yi6 L s))⟩
def Z4a (L:List YS) (s:YS):Lp Nat:=.mk 17 0 (fun x=>[(3,.one (.ptr 0 0)),(7,ll (L.map Yfn)),(8,li (↑(L.map Yfn).length:Int)),
 (9,hs x 0)]) (fun x=>[.box (vals (Yfu s))]) (fun k=>[.s (li (k:Int))]) (fun k=>k<=L.length/\L.length<=9223372036854775807/\Yi6 (L.take k) s=false) (fun
 k=>L.length - k) [.mk (Yi6 L s=false) (.exit 0) (fun x=>[]) (fun x=>[]) [],.mk (Yi6 L s=true) .ret (fun x=>[(4,hs x 0)]) (fun x=>[]) [.s (lb true)]]
theorem Zca (L:List YS) (s:YS):Lp.Sem Tryz.prog (Yg6 Tryz.f89 0) (Z4a L s):=Ygf (fun k=>.i ((k:Int)<(↑(L.map Yfn).length:Int))
 (.x (k:Int) (L.map Yfn) (Yfu (L.getD k default)) (.c [.rd,.rd] (Z73 (L.getD k default) s) (.b (decide ((L.getD k default).kind=1)&&decide (s.kind=1) &&
 decide ((L.getD k default).text=s.text)&&decide ((L.getD k default).scopes=s.scopes)) (.o 1 [] [.s (lb true)]) (.r ((k:Int)+1) (.g [0] (k+1) [.s (li ((k:Int) +
 1))]))))) (.o 0 [] [])) (by
 intro k h; try dsimp only [Yfp,Yg0,Z4a] at h ⊢
 with_reducible repeat' (first | apply And.intro | exact zR | (intro))
 all_goals ((try simp only [std,inj] at *); with_reducible and_intros)
 all_goals try first | exact z | grind [Ygg,Yi6,Yit,Yfx,Yfy,Yfz,Yfs])
theorem Z8r (L:List YS) (s:YS)  : Z9h L s:=Yg4 Tryz.call89 Tryz.func89 (.z Yfn L (.l (Z4a L s) (Zca L s) [0] [.s (li 0)] 0 (.t (.s (lb
 false)) (.t (.s (lb true)) .q)))) (by
 dsimp only [Yfp,Z9h,Yg0,Z4a]
 with_reducible repeat' (first | apply And.intro | exact zR | (intro))
 all_goals ((try simp only [std,inj] at *); with_reducible and_intros)
 all_goals try first | exact z | grind [Yi6,Yfy,Yfz,Yfs])
def atF (l:List YS):Nat->Int
 | 0 => -1
 | k+1=>if Yfw (l.getD k default)=true then (k:Int) else atF l k
def okA (l:List YS):Nat->Bool
 | 0=>true
 | k+1=>okA l k&&(!Yfw (l.getD k default)||(decide (k≠0)&&decide (atF l k<0)))
def atS (l:List YS):Int:=atF l l.length
def okS (l:List YS):Bool:=okA l l.length
theorem Y1e5 (l:List YS):∀ (m k:Nat),k<=m->okA l m=true->okA l k=true
 | 0,k,h,_=>by
  obtain rfl:k=0:=by omega
  rfl
 | m+1,k,h,ht=>by
  by_cases e:k=m+1
  ·rw [e]; exact ht
  ·refine Y1e5 l m k (by omega) ?_
   simp only [okA,Bool.and_eq_true] at ht; exact ht.1
def atI (l:List YS):Int:=if l.findIdx Yfw<l.length then (l.findIdx Yfw:Int) else -1
abbrev Zc0 (l:List YS):Ct:=⟨103,[],[ll (l.map Yfn)],[],.tup [li (if okS l=true then atS l else -1),lb (okS l)]⟩
def Z63 (l:List YS):Lp Nat:=.mk 26 0 (fun x=>[(4,hs x 1),(7,ll (l.map Yfn)),(8,li (↑(l.map Yfn).length:Int)),(9,hs x 0)]) (fun x=>[])
 (fun k=>[.s (li (k:Int)),.s (li (atF l k))]) (fun k=>k<=l.length/\l.length<=9223372036854775807/\okA l k=true) (fun k=>l.length - k) [.mk (okS l=true) (.exit 0)
 (fun x=>[(4,hs x 0)]) (fun x=>[]) [.s (li (atS l))],.mk (okS l=false) .ret (fun x=>[(2,hs x 0),(3,hs x 1)]) (fun x=>[]) [.s (li (-1:Int)),.s (lb false)]]
theorem Zef (l:List YS):Lp.Sem Tryz.prog (Yg6 Tryz.f103 0) (Z63 l):=Ygf (fun k=>.i ((k:Int)<(↑(l.map Yfn).length:Int)) (.x (k:Int)
 (l.map Yfn) (Yfu (l.getD k default)) (.c [.rd] (Zb (l.getD k default)) (.b (!Yfw (l.getD k default)) (.r ((k:Int)+1) (.g [] (k+1) [.s (li ((k:Int) +
 1)),.s (li (atF l k))])) (.i ((k:Int)=0) (.y true (.o 1 [] [.s (li (-1:Int)),.s (lb false)])) (.i (0<=atF l k) (.o 1 [] [.s (li (-1:Int)),.s (lb false)]) (.r ((↑k :
 Int)+1) (.g [] (k+1) [.s (li ((k:Int)+1)),.s (li (k:Int))]))))))) (.o 0 [] [.s (li (atF l k))])) (by
 intro k h; try dsimp only [Yfp,Yg0,Z63] at h ⊢
 have g1:=Y1e5 l l.length (k+1)
 have g2:okA l (k+1)=(okA l k&&(!Yfw (l.getD k default)||(decide (k≠0)&&decide (atF l k<0)))):=rfl
 have g3:atF l (k+1)=if Yfw (l.getD k default)=true then (k:Int) else atF l k:=rfl
 with_reducible repeat' (first | apply And.intro | exact zR | (intro))
 all_goals ((try simp only [std,inj] at *); with_reducible and_intros)
 all_goals try first | exact z | grind [okS,atS,Yfy,Yfz,Yfs])
theorem Zeu (l:List YS)  : Zc0 l:=Yg4 Tryz.call103 Tryz.func103 (.z Yfn l (.l (Z63 l) (Zef l) [] [.s (li 0),.s (li (-1:Int))] 0 (.t (.f [] [] (.tup
 [li (atS l),lb true])) (.t (.f [] [] (.tup [li (-1:Int),lb false])) .q)))) (by
 dsimp only [Yfp,Zc0,Yg0,Z63]
 with_reducible repeat' (first | apply And.intro | exact zR | (intro))
 all_goals ((try simp only [std,inj] at *); with_reducible and_intros)
 all_goals try first | exact z | grind [okA,atF,Yfy,Yfz,Yfs])
abbrev Zc1 (l:List YS):Ct:=⟨92,[],[ll (l.map Yfn)],[],.sv (li (atI l))⟩
def Z64 (l:List YS):Lp Nat:=.mk 16 0 (fun x=>[(5,ll (l.map Yfn)),(6,li (↑(l.map Yfn).length:Int)),(7,hs x 0)]) (fun x=>[]) (fun k=>[.s
 (li (k:Int))]) (fun k=>k<=l.length/\l.length<=9223372036854775807/\k<=List.findIdx Yfw l) (fun k=>l.length - k) [.mk (atI l=(-1:Int)) (.exit 0) (fun x=>[])
 (fun x=>[]) [],.mk True .ret (fun x=>[(2,hs x 0)]) (fun x=>[]) [.s (li (atI l))]]
theorem Zeg (l:List YS):Lp.Sem Tryz.prog (Yg6 Tryz.f92 0) (Z64 l):=Ygf (fun k=>.i ((k:Int)<(↑(l.map Yfn).length:Int)) (.x (k:Int)
 (l.map Yfn) (Yfu (l.getD k default)) (.c [.rd] (Z1 (l.getD k default)) (.b (Yfw (l.getD k default)) (.o 1 [] [.s (li (k:Int))]) (.r ((k:Int)+1) (.g []
 (k+1) [.s (li ((k:Int)+1))]))))) (.o 0 [] [])) (by
 intro k h; try dsimp only [Yfp,Yg0,Z64] at h ⊢
 have g1:=@Y1jg _ _ Yfw l k
 have g2:=@Y1a4 _ _ Yfw l k
 with_reducible repeat' (first | apply And.intro | exact zR | (intro) | apply Z1)
 all_goals ((try simp only [std,inj] at *); with_reducible and_intros)
 all_goals try with_reducible first | apply Z1
 all_goals try first | exact z | grind [atI,Yfy,Yfz,Yfs])
theorem Z9z (l:List YS)  : Zc1 l:=Yg4 Tryz.call92 Tryz.func92 (.z Yfn l (.l (Z64 l) (Zeg l) [] [.s (li 0)] 0 (.t (.s (li (-1:Int))) (.t (.s (li (atI
 l))) .q)))) (by
 dsimp only [Yfp,Zc1,Yg0,Z64]
 with_reducible repeat' (first | apply And.intro | exact zR | (intro) | apply Z1)
 all_goals ((try simp only [std,inj] at *); with_reducible and_intros)
 all_goals try with_reducible first | apply Z1
 all_goals (try exact zG))
def wlk (f:YS->Int->List YC->Option (List YC)):List YS->Int->Int->Int->List YC->Option (List YC)
 | [],_,_,_,o=>some o
 | x :: r,i,a,d,o=>if i=a then wlk f r (i+1) a d o else match f x (if i+1=a then d+1 else d) o with
  | none=>none
  | some o'=>wlk f r (i+1) a d o'
theorem Ypc (f:YS->Int->List YC->Option (List YC)):∀ (A B:List YS) (i a d:Int) (o:List YC),wlk f (A++B) i a d o=match wlk f A i a d o with
  | none=>none
  | some o'=>wlk f B (i+(A.length:Int)) a d o'
 | [],B,i,a,d,o=>by simp [wlk]
 | x :: A,B,i,a,d,o=>by
  have e:i+((x :: A).length:Int)=i+1+(A.length:Int):=by simp only [List.length_cons]; omega
  simp only [List.cons_append,wlk,e]
  split
  ·exact Ypc f A B _ a d o
  ·split
   ·rfl
   ·exact Ypc f A B _ a d _
theorem Ysv {f:YS->Int->List YC->Option (List YC)} {l:List YS} {k:Nat} {a d:Int} {o o':List YC} (h:k<l.length) (e:wlk f (l.take k) 0 a d o=some o') :
  wlk f (l.take (k+1)) 0 a d o=if (k:Int)=a then some o' else f (l.getD k default) (if (k:Int)+1=a then d+1 else d) o':=by
 rw [Ygg h,Ypc,e]
 have:(0:Int)+((l.take k).length:Int)=(k:Int):=by simp; omega
 simp only [this,wlk]
 split
 ·rfl
 ·cases f (l.getD k default) (if (k:Int)+1=a then d+1 else d) o' <;> rfl
theorem Y14v {f:YS->Int->List YC->Option (List YC)} {l:List YS} {k:Nat} {a d:Int} {o:List YC} (e:wlk f (l.take k) 0 a d o=none):wlk f l 0 a d o=none:=by
 have:=Ypc f (l.take k) (l.drop k) 0 a d o
 rw [List.take_append_drop,e] at this; exact this
def Ynw (p:YS) (d:Int):YC:=⟨p,d,⟨0,0,mkS [],[],[]⟩,[]⟩
mutual
def vrS (Ls:List YS):YS->Int->List YC->Option (List YC)
 | ⟨k,n,t,s,l⟩,d,o=>if k=1 then (if Yh8 ⟨k,n,t,s,l⟩=true ∨ Ygw Ls ⟨k,n,t,s,l⟩=true then some o else
   if Yfw ⟨k,n,t,s,l⟩=true ∨ 0<=fnd o ⟨k,n,t,s,l⟩ ∨ 3<d then none else some (o++[Ynw ⟨k,n,t,s,l⟩ d]))
  else if okS l=true then Yzz Ls l 0 (atS l) d o else none
def Yzz (Ls:List YS):List YS->Int->Int->Int->List YC->Option (List YC)
 | [],_,_,_,o=>some o
 | x :: r,i,a,d,o=>if i=a then Yzz Ls r (i+1) a d o else match vrS Ls x (if i+1=a then d+1 else d) o with
  | none=>none
  | some o'=>Yzz Ls r (i+1) a d o'
end
theorem Y18p (Ls:List YS):∀ l i a d o,Yzz Ls l i a d o=wlk (vrS Ls) l i a d o
 | [],i,a,d,o=>by simp [Yzz,wlk]
 | x :: r,i,a,d,o=>by
  simp only [Yzz,wlk,Y18p Ls r]
theorem Yla (Ls : List YS) (p : YS) (d : Int) (o : List YC) : vrS Ls p d o = if p.kind = 1 then (if Yh8 p = true ∨ Ygw Ls p = true then some o else
      if Yfw p = true ∨ 0 <= fnd o p ∨ 3 < d then none else some (o ++ [Ynw p d]))
    else if okS p.items = true then wlk (vrS Ls) p.items 0 (atS p.items) d o else none := by cases p; simp only [vrS, Y18p]
theorem Yry (f:YS->Int->List YC->Option (List YC)):∀ (l:List YS),(∀ x∈l,∀ d o o',f x d o=some o'->o'.length<=o.length+Yft x)->∀ i a d o o',wlk f l i a d o=some o'->o'.length<=o.length+sumBy Yft l
 | [],_,i,a,d,o,o',e=>by simp only [wlk,Option.some.injEq] at e; subst e; simp [sumBy]
 | x :: r,h,i,a,d,o,o',e=>by
  have ih:=Yry f r fun y hy=>h y (List.mem_cons_of_mem _ hy)
  simp only [wlk] at e
  simp only [sumBy]
  split at e
  ·have:=ih _ _ _ _ _ e; omega
  ·split at e
   ·cases e
   ·rename_i o1 h1
    have h2:=ih _ _ _ _ _ e
    have h3:=h x List.mem_cons_self _ _ _ h1
    omega
theorem Y1ku (Ls:List YS):∀ (p:YS) (d:Int) (o o':List YC),vrS Ls p d o=some o'->o'.length<=o.length+Yft p:=by
 refine YS.ind fun p ih d o o' e => ?_
 rw [Yla] at e
 rw [Ygo]
 split at e
 ·split at e
  ·simp only [Option.some.injEq] at e; subst e; omega
  ·split at e
   ·cases e
   ·simp only [Option.some.injEq] at e; subst e; simp
 ·split at e
  ·have:=Yry (vrS Ls) p.items (fun x hx d o o' h=>ih x hx d o o' h) _ _ _ _ _ e; omega
  ·cases e
def vaS (Ls:List YS) (p:YS) (d:Int) (o:List YC) (k:Nat):List YC:=if okS p.items=true then (wlk (vrS Ls) (p.items.take k) 0 (atS p.items) d o).getD [] else o
def vbS (Ls:List YS) (p:YS) (d:Int) (o:List YC) (k:Nat):Bool:=okS p.items&&(wlk (vrS Ls) (p.items.take k) 0 (atS p.items) d o).isSome
theorem Y1k0 {Ls:List YS} {p:YS} {d:Int} {o:List YC} {k:Nat} (hk:k<=p.items.length) (h:vbS Ls p d o k=false):vaS Ls p d o k=vaS Ls p d o p.items.length/\vbS Ls p d o p.items.length=false:=by
 unfold vaS vbS at *
 by_cases e:okS p.items=true
 ·rw [e] at h
  cases e2:wlk (vrS Ls) (p.items.take k) 0 (atS p.items) d o with
  | none=>rw [if_pos e,if_pos e,List.take_length,Y14v e2]; simp
  | some v=>rw [e2] at h; cases h
 ·have e':okS p.items=false:=by simpa using e
  rw [if_neg e,if_neg e,e']; simp
theorem Y1jr {Ls:List YS} {p:YS} {d:Int} {o:List YC} {k:Nat} (hk:k<p.items.length) (h:vbS Ls p d o k=true) (e:(k:Int)=atS p.items):vaS Ls p d o (k+1)=vaS Ls p d o k/\vbS Ls p d o (k+1)=true:=by
 unfold vaS vbS at *
 simp only [Bool.and_eq_true] at h
 obtain ⟨v,hv⟩:=Option.isSome_iff_exists.1 h.2
 rw [if_pos h.1,if_pos h.1,Ysv hk hv,if_pos e,hv,h.1]; simp
theorem Y1qd {Ls:List YS} {p:YS} {d:Int} {o:List YC} {k:Nat} (hk:k<p.items.length) (h:vbS Ls p d o k=true) (e:¬ (k:Int)=atS p.items) :
  vaS Ls p d o (k+1)=(vrS Ls (p.items.getD k default) (if (k:Int)+1=atS p.items then d+1 else d) (vaS Ls p d o k)).getD []/\vbS Ls p d o (k+1)=(vrS Ls (p.items.getD k default) (if (k:Int)+1=atS p.items then d+1 else d) (vaS Ls p d o k)).isSome:=by
 unfold vaS vbS at *
 simp only [Bool.and_eq_true] at h
 obtain ⟨v,hv⟩:=Option.isSome_iff_exists.1 h.2
 rw [if_pos h.1,if_pos h.1,Ysv hk hv,if_neg e,hv,h.1]; simp
theorem Y1n7 {Ls:List YS} {p:YS} {d:Int} {o:List YC} {k:Nat} (h:vbS Ls p d o k=true):(vaS Ls p d o k).length<=o.length+sumBy Yft (p.items.take k):=by
 unfold vaS vbS at *
 simp only [Bool.and_eq_true] at h
 obtain ⟨v,hv⟩:=Option.isSome_iff_exists.1 h.2
 rw [if_pos h.1,hv]
 exact Yry (vrS Ls) _ (fun x _ d o o' h=>Y1ku Ls x d o o' h) _ _ _ _ _ hv
theorem Y1r2 {Ls:List YS} {p:YS} {d:Int} {o:List YC} {k:Nat} (h:vbS Ls p d o k=true):okS p.items=true:=by
 unfold vbS at h; simp only [Bool.and_eq_true] at h; exact h.1
theorem Y1na (Ls:List YS) (p:YS) (d:Int) (o:List YC) (hk:¬ p.kind=1):(vrS Ls p d o).isSome=vbS Ls p d o p.items.length/\(vbS Ls p d o p.items.length=true->(vrS Ls p d o).getD []=vaS Ls p d o p.items.length)/\(vbS Ls p d o p.items.length=false->(vrS Ls p d o).getD []=[]):=by
 rw [Yla,if_neg hk]
 unfold vaS vbS
 rw [List.take_length]
 by_cases e:okS p.items=true
 ·rw [if_pos e,if_pos e,e]
  cases wlk (vrS Ls) p.items 0 (atS p.items) d o <;> simp
 ·have e':okS p.items=false:=by simpa using e
  rw [if_neg e,if_neg e,e']; simp
theorem Yj5 {p:YS} {k:Nat} (h:k<p.items.length):sumBy Yft (p.items.take k)+Yft (p.items.getD k default)+1<=Yft p/\wY (p.items.getD k default)<=wY p:=by
 have g1:=Ygo p
 have g2:=@Yih _ _ Yft p.items k h
 have g3:=Yhj Yft p.items (k+1)
 have g4:=@Ygt _ wY p.items _ (Yfx h)
 have g5:=Yhn p
 omega
theorem Y140 (o:List YC) (p:YS) (d:Int):o.map Yfo++[[cI p.kind,cI p.number,cS p.text,Cell.list (List.map Yfr p.scopes),Cell.list (List.map Yfn p.items),cI d,cI 0,cI 0,cS (mkS []),Cell.list [],Cell.list [],Cell.list []]]=(o++[Ynw p d]).map Yfo:=
 Yfs (C:=Yfo) o (Ynw p d)
theorem Y19o (Ls:List YS) (p:YS) (d:Int) (o:List YC) (hk:p.kind=1) (h:Yh8 p=true ∨ Ygw Ls p=true):vrS Ls p d o=some o:=by
 rw [Yla,if_pos hk,if_pos h]
theorem Yvw (Ls:List YS) (p:YS) (d:Int) (o:List YC) (hk:p.kind=1) (h:Yh8 p=false) (h2:Ygw Ls p=false) (h3:Yfw p=true ∨ 0<=fnd o p ∨ 3<d):vrS Ls p d o=none:=by
 rw [Yla,if_pos hk,if_neg (by rw [h,h2]; simp),if_pos h3]
theorem Y19r (Ls:List YS) (p:YS) (d:Int) (o:List YC) (hk:p.kind=1) (h:Yh8 p=false) (h2:Ygw Ls p=false) (h3:Yfw p=false) (h4:fnd o p<0) (h5:d<=3):vrS Ls p d o=some (o++[Ynw p d]):=by
 rw [Yla,if_pos hk,if_neg (by rw [h,h2]; simp),if_neg (by rw [h3]; simp; omega)]
abbrev Zr (Ls:List YS) (p:YS) (d:Int) (o:List YC):Ct:=⟨40,[.arr true 12 (o.map Yfo)],[ll (Ls.map Yfn),Ygb p,li d,.one (.ref 0)],[.dead,.arr true 12 (((vrS Ls p d o).getD []).map Yfo)],.tup [.one (.ref 1),lb (vrS Ls p d o).isSome]⟩
def Z39 (Ls:List YS) (p:YS) (d:Int) (o:List YC):Lp Nat:=.mk 84 1 (fun x=>[(0,ll (Ls.map Yfn)),(2,li d),(3,.one (.ref 1)),(10,
 li (if okS p.items=true then atS p.items else (-1:Int))),(11,hs x 1),(53,ll (p.items.map Yfn)),(54,li (↑(p.items.map Yfn).length:Int)),(55,hs x
 0)]) (fun x=>[.dead,ho x 2]) (fun k=>[.s (li (k:Int)),.s (lb (vbS Ls p d o k)),.o (.arr true 12 ((vaS Ls p d o k).map Yfo))]) (fun k=>k<=p.items.length
 /\ p.items.length<=9223372036854775807) (fun k=>p.items.length - k) [.mk True (.exit 0) (fun x=>[(3,.one (.ref 1)),(11,hs x 0)]) (fun x=>[.dead,ho x 1]) [.s (lb
 (vbS Ls p d o p.items.length)),.o (.arr true 12 ((vaS Ls p d o p.items.length).map Yfo))]]
theorem Zal (Ls:List YS) (p:YS) (d:Int) (o:List YC) (h:0<=d/\d+(↑(Yge p):Int)<=1000/\wY p<=1048576/\o.length+Yft p<=2147483647) (ih
 : ∀ (z:YS),z∈p.items->∀ (Ls:List YS) (d:Int) (o:List YC),0<=d/\d+(↑(Yge z):Int)<=1000/\wY z<=1048576/\o.length+Yft z<=2147483647->OK
 (Zr Ls z d o)):Lp.Sem Tryz.prog (Yg6 Tryz.f40 0) (Z39 Ls p d o):=Ygf (fun k=>.i ((k:Int)<(↑(p.items.map Yfn).length:Int)) (.x (k:Int)
 (p.items.map Yfn) (Yfu (p.items.getD k default)) (.b (!vbS Ls p d o k) (.o 0 [0,1] [.s (lb (vbS Ls p d o k)),.o (.arr true 12 ((vaS Ls p d o
 k).map Yfo))]) (.i ((k:Int)=if okS p.items=true then atS p.items else (-1:Int)) (.r ((k:Int)+1) (.g [0,1] (k+1) [.s (li ((k:Int)+1)),.s (lb (vbS Ls p d o k)),.o
 (.arr true 12 ((vaS Ls p d o k).map Yfo))])) (.r ((k:Int)+1) (.i ((k:Int)+1=if okS p.items=true then atS p.items else (-1:Int)) (.r (d+1) (.d [.rd,
 .rd,.rd,.own true 12] (Zr Ls (p.items.getD k default) (d+1) (vaS Ls p d o k)) (.r ((k:Int)+1) (.g [0,4] (k+1) [.s (li ((k:Int)+1)),.s (lb (vrS Ls
 (p.items.getD k default) (d+1) (vaS Ls p d o k)).isSome),.o (.arr true 12 (((vrS Ls (p.items.getD k default) (d+1) (vaS Ls p d o k)).getD []).map Yfo))])))) (.d
 [.rd,.rd,.rd,.own true 12] (Zr Ls (p.items.getD k default) d (vaS Ls p d o k)) (.r ((k:Int)+1) (.g [0,4] (k+1) [.s (li ((k:Int)+1)),.s (lb (vrS Ls
 (p.items.getD k default) d (vaS Ls p d o k)).isSome),.o (.arr true 12 (((vrS Ls (p.items.getD k default) d (vaS Ls p d o k)).getD []).map Yfo))])))))))) (.o 0 [0,1]
 [.s (lb (vbS Ls p d o k)),.o (.arr true 12 ((vaS Ls p d o k).map Yfo))])) (by
 intro k h; try dsimp only [Yfp,Yg0,Z39] at h ⊢
 have g1:=@Y1k0 Ls p d o k
 have g2:=@Y1jr Ls p d o k
 have g3:=@Y1qd Ls p d o k
 have g4:=@Y1n7 Ls p d o k
 have g5:=@Y1r2 Ls p d o k
 have g6:=@Yjj p k
 have g7:=@Yj5 p k
 have g8:k<p.items.length ∨ k=p.items.length ∨ p.items.length<k:=by omega
 with_reducible repeat' (first | apply And.intro | exact zR | exact ih | (intro) | apply Z5 | apply ih)
 all_goals ((try simp only [std,inj] at *); with_reducible and_intros)
 all_goals try with_reducible first | apply Z5 | apply ih
 all_goals try first | exact z | grind [Yfx,Yfy,Yfz,Yfs])
theorem Zd8 (Ls:List YS) (p:YS) (d:Int) (o:List YC) (h:0<=d/\d+Yge p<=1000/\wY p<=1048576/\o.length+Yft p<=2147483647) (ih:∀ z ∈
 p.items,∀ (Ls:List YS) (d:Int) (o:List YC) (h:0<=d/\d+Yge z<=1000/\wY z<=1048576/\o.length+Yft z<=2147483647),Zr Ls z d o)  : Zr Ls
 p d o:=Yg4 Tryz.call40 Tryz.func40 (.i (p.kind=1) (.i (p.text.data.toList=[(95:UInt8)]) (.y true (.w (.ghost (.move 0)) (.f [2] [.dead,.arr true 12 (List.map Yfo
 o)] (.tup [.one (.ref 1),lb true])))) (.c [.rd,.rd] (Z4p Ls p) (.b (Ygw Ls p) (.w (.ghost (.move 0)) (.f [2] [.dead,.arr true 12 (o.map Yfo)] (.tup
 [.one (.ref 1),lb true]))) (.c [.rd] (Zb p) (.b (Yfw p) (.y true (.y true (.w (.ghost (.nilreg 8 true 12)) (.w (.ghost (.move 0)) (.f [2] [.dead,.arr true 12 []]
 (.tup [.one (.ref 1),lb false])))))) (.c [.rd,.rd] (Z4o o p) (.i (0<=fnd o p) (.y true (.w (.ghost (.nilreg 8 true 12)) (.w (.ghost (.move 0)) (.f [2] [.dead,
 .arr true 12 []] (.tup [.one (.ref 1),lb false]))))) (.i (3<d) (.w (.ghost (.nilreg 8 true 12)) (.w (.ghost (.move 0)) (.f [2] [.dead,.arr true 12 []] (.tup
 [.one (.ref 1),lb false])))) (.d [.rd] (Zl p) (.p (((o.map Yfo).length+1) * 192<=140737488355328) (.f [5] [.dead,.arr true 12 (o.map Yfo
 ++ [[cI p.kind,cI p.number,cS p.text,.list (p.scopes.map Yfr),.list (p.items.map Yfn),cI d,cI 0,cI 0,cS (ByteArray.mk #[]),.list [],.list
 [],.list []]])] (.tup [.one (.ref 1),lb true])))))))))))) (.c [.rd] (Zeu p.items) (.z Yfn p.items (.w (.ghost (.move 0)) (.l (Z39 Ls p d o)
 (Zal Ls p d o h ih) [0,2] [.s (li 0),.s (lb (okS p.items)),.o (.arr true 12 (o.map Yfo))] 0 (.t (.b (!vbS Ls p d o p.items.length) (.w (.ghost (.nilreg 8
 true 12)) (.f [2] [.dead,.arr true 12 []] (.tup [.one (.ref 1),lb false]))) (.f [1] [.dead,.arr true 12 ((vaS Ls p d o p.items.length).map Yfo)] (.tup
 [.one (.ref 1),lb true]))) .q)))))) (by
 dsimp only [Yfp,Zr,Yg0,Z39]
 have g1:=Y1na Ls p d o
 have g2:=Ygo p
 have g3:Yh8 p=decide (p.text.data.toList=[95]):=rfl
 have g4:=Y19o Ls p d o
 have g5:=Yvw Ls p d o
 have g6:=Y19r Ls p d o
 have g7:¬p.kind=1->okS p.items=false->vbS Ls p d o 0=false:=fun _ h=>by unfold vbS; rw [h]; rfl
 have g8:okS p.items=true->vbS Ls p d o 0=true:=fun h=>by unfold vbS; rw [h]; simp [wlk]
 have g9:vaS Ls p d o 0=o:=by unfold vaS; split <;> simp [wlk]
 have g10:okS p.items=vbS Ls p d o 0:=by unfold vbS; simp [wlk]
 have g11:=Y140 o p d
 have g12:p.kind=1->Yh8 p=false->Ygw Ls p=false->Yfw p=false->fnd o p<0->d<=3->(vrS Ls p d o).getD []=o++[Ynw p d]:=fun a b c e f g=>by rw [g6 a b c e f g]; rfl
 with_reducible repeat' (first | apply And.intro | exact zR | exact ih | (intro) | apply Z5)
 all_goals ((try simp only [std,inj] at *); with_reducible and_intros)
 all_goals try first | with_reducible (first | apply Z5 | apply ih) | (simp only [<- List.map_append]; with_reducible first | apply Z5 | apply ih)
 all_goals (try exact zG))
theorem Z5x (p:YS):∀ (Ls:List YS) (d:Int) (o:List YC) (h:0<=d/\d+Yge p<=1000/\wY p<=1048576/\o.length+Yft p<=2147483647),Zr Ls p d o:=YS.ind (P:=fun p=>∀ (Ls:List YS) (d:Int) (o:List YC) (h:0<=d/\d+Yge p<=1000/\wY p<=1048576/\o.length+Yft p<=2147483647),Zr Ls p d o) (fun p ih Ls d o h=>Zd8 Ls p d o h ih) p
mutual
def vrI (Ls:List YS):YS->Int->List YC->Option (List YC)
 | ⟨k,n,t,s,l⟩,d,o=>if k=1 then (if Yfw ⟨k,n,t,s,l⟩=true then none else if Yh8 ⟨k,n,t,s,l⟩=true ∨ Yi6 Ls ⟨k,n,t,s,l⟩=true then some o else
   if 3<d then none else if (o.any fun c=>Yit c.name ⟨k,n,t,s,l⟩)=true then none else some (o++[Ynw ⟨k,n,t,s,l⟩ d]))
  else if k≠0 then some o else if atI l=0 then none else Yzx Ls l 0 (atI l) d o
def Yzx (Ls:List YS):List YS->Int->Int->Int->List YC->Option (List YC)
 | [],_,_,_,o=>some o
 | x :: r,i,a,d,o=>if i=a then Yzx Ls r (i+1) a d o else match vrI Ls x (if i+1=a then d+1 else d) o with
  | none=>none
  | some o'=>Yzx Ls r (i+1) a d o'
end
theorem Y184 (Ls:List YS):∀ l i a d o,Yzx Ls l i a d o=wlk (vrI Ls) l i a d o
 | [],i,a,d,o=>by simp [Yzx,wlk]
 | x :: r,i,a,d,o=>by
  simp only [Yzx,wlk,Y184 Ls r]
theorem Yls (Ls : List YS) (p : YS) (d : Int) (o : List YC) : vrI Ls p d o = if p.kind = 1 then (if Yfw p = true then none else if Yh8 p = true ∨ Yi6 Ls p = true then some o else
      if 3 < d then none else if (o.any fun c => Yit c.name p) = true then none else some (o ++ [Ynw p d]))
    else if p.kind ≠ 0 then some o else if atI p.items = 0 then none else wlk (vrI Ls) p.items 0 (atI p.items) d o := by cases p; simp only [vrI, Y184]
theorem Y1m1 (Ls:List YS):∀ (p:YS) (d:Int) (o o':List YC),vrI Ls p d o=some o'->o'.length<=o.length+Yft p:=by
 refine YS.ind fun p ih d o o' e => ?_
 rw [Yls] at e
 rw [Ygo]
 split at e
 ·split at e
  ·cases e
  ·split at e
   ·simp only [Option.some.injEq] at e; subst e; omega
   ·split at e
    ·cases e
    ·split at e
     ·cases e
     ·simp only [Option.some.injEq] at e; subst e; simp
 ·split at e
  ·simp only [Option.some.injEq] at e; subst e; omega
  ·split at e
   ·cases e
   ·have:=Yry (vrI Ls) p.items (fun x hx d o o' h=>ih x hx d o o' h) _ _ _ _ _ e; omega
def wI (Ls:List YS) (p:YS) (d:Int) (o:List YC) (k:Nat):Option (List YC):=wlk (vrI Ls) (p.items.take k) 0 (atI p.items) d o
def vaI (Ls:List YS) (p:YS) (d:Int) (o:List YC) (k:Nat):List YC:=(wI Ls p d o k).getD []
def vbI (Ls:List YS) (p:YS) (d:Int) (o:List YC) (k:Nat):Bool:=(wI Ls p d o k).isSome
theorem Y1kf {Ls:List YS} {p:YS} {d:Int} {o:List YC} {k:Nat} (hk:k<p.items.length) (h:vbI Ls p d o k=true) (e:(k:Int)=atI p.items):vaI Ls p d o (k+1)=vaI Ls p d o k/\vbI Ls p d o (k+1)=true:=by
 unfold vaI vbI wI at *
 obtain ⟨v,hv⟩:=Option.isSome_iff_exists.1 h
 rw [Ysv hk hv,if_pos e,hv]; simp
theorem Y1r1 {Ls:List YS} {p:YS} {d:Int} {o:List YC} {k:Nat} (hk:k<p.items.length) (h:vbI Ls p d o k=true) (e:¬ (k:Int)=atI p.items) :
  vaI Ls p d o (k+1)=(vrI Ls (p.items.getD k default) (if (k:Int)+1=atI p.items then d+1 else d) (vaI Ls p d o k)).getD []/\vbI Ls p d o (k+1)=(vrI Ls (p.items.getD k default) (if (k:Int)+1=atI p.items then d+1 else d) (vaI Ls p d o k)).isSome:=by
 unfold vaI vbI wI at *
 obtain ⟨v,hv⟩:=Option.isSome_iff_exists.1 h
 rw [Ysv hk hv,if_neg e,hv]; simp
theorem Y1ke {Ls:List YS} {p:YS} {d:Int} {o:List YC} {k:Nat} (h:vbI Ls p d o k=false):vbI Ls p d o p.items.length=false:=by
 unfold vbI wI at *
 cases e2:wlk (vrI Ls) (p.items.take k) 0 (atI p.items) d o with
 | none=>rw [List.take_length,Y14v e2]; rfl
 | some v=>rw [e2] at h; cases h
theorem Y1p7 {Ls:List YS} {p:YS} {d:Int} {o:List YC} {k:Nat} (h:vbI Ls p d o k=true):(vaI Ls p d o k).length<=o.length+sumBy Yft (p.items.take k):=by
 unfold vaI vbI wI at *
 obtain ⟨v,hv⟩:=Option.isSome_iff_exists.1 h
 rw [hv]
 exact Yry (vrI Ls) _ (fun x _ d o o' h=>Y1m1 Ls x d o o' h) _ _ _ _ _ hv
theorem Y1ne (Ls:List YS) (p:YS) (d:Int) (o:List YC) (hk:¬ p.kind=1) (h0:p.kind=0) (ha:¬ atI p.items=0):(vrI Ls p d o).isSome=vbI Ls p d o p.items.length/\(vrI Ls p d o).getD []=vaI Ls p d o p.items.length:=by
 rw [Yls,if_neg hk,if_neg (by simp [h0]),if_neg ha]
 unfold vaI vbI wI
 rw [List.take_length]; exact ⟨rfl,rfl⟩
theorem Yx0 {Ls:List YS} {p:YS} {d:Int} {o:List YC} (hk:p.kind=1) (h:Yfw p=true):vrI Ls p d o=none:=by
 rw [Yls,if_pos hk,if_pos h]
theorem Y194 {Ls:List YS} {p:YS} {d:Int} {o:List YC} (hk:p.kind=1) (h:Yfw p=false) (h2:Yh8 p=true ∨ Yi6 Ls p=true):vrI Ls p d o=some o:=by
 rw [Yls,if_pos hk,if_neg (by simp [h]),if_pos h2]
theorem Y14g {Ls:List YS} {p:YS} {d:Int} {o:List YC} (hk:p.kind=1) (h:Yfw p=false) (h2:Yh8 p=false) (h3:Yi6 Ls p=false) (h4:3<d):vrI Ls p d o=none:=by
 rw [Yls,if_pos hk,if_neg (by simp [h]),if_neg (by simp [h2,h3]),if_pos h4]
theorem Y129 {Ls:List YS} {p:YS} {d:Int} {o:List YC} (hk:p.kind=1) (h:Yfw p=false) (h2:Yh8 p=false) (h3:Yi6 Ls p=false) (h5:(o.any fun c=>Yit c.name p)=true):vrI Ls p d o=none:=by
 rw [Yls,if_pos hk,if_neg (by simp [h]),if_neg (by simp [h2,h3])]
 split
 ·rfl
 ·first | rfl | rw [if_pos h5]
theorem Y18x {Ls:List YS} {p:YS} {d:Int} {o:List YC} (hk:p.kind=1) (h:Yfw p=false) (h2:Yh8 p=false) (h3:Yi6 Ls p=false) (h4:d<=3) (h5:(o.any fun c=>Yit c.name p)=false):vrI Ls p d o=some (o++[Ynw p d]):=by
 rw [Yls,if_pos hk,if_neg (by simp [h]),if_neg (by simp [h2,h3]),if_neg (by omega),if_neg (by simp [h5])]
theorem Y124 {Ls:List YS} {p:YS} {d:Int} {o:List YC} (hk:¬ p.kind=1) (h0:¬ p.kind=0):vrI Ls p d o=some o:=by
 rw [Yls,if_neg hk,if_pos h0]
theorem Y11f {Ls:List YS} {p:YS} {d:Int} {o:List YC} (hk:¬ p.kind=1) (h0:p.kind=0) (ha:atI p.items=0):vrI Ls p d o=none:=by
 rw [Yls,if_neg hk,if_neg (by simp [h0]),if_pos ha]
abbrev Ze (Ls:List YS) (p:YS) (d:Int) (o:List YC):Ct:=⟨87,[.arr true 12 (o.map Yfo)],[ll (Ls.map Yfn),Ygb p,li d,.one (.ref 0)],[.dead,.arr true 12 (((vrI Ls p d o).getD []).map Yfo)],.tup [.one (.ref 1),lb (vrI Ls p d o).isSome]⟩
def Z3a (Ls:List YS) (p:YS) (d:Int) (o:List YC):Lp Nat:=.mk 93 1 (fun x=>[(0,ll (Ls.map Yfn)),(2,li d),(3,.one (.ref 1)),(12,
 li (atI p.items)),(63,ll (p.items.map Yfn)),(64,li (↑(p.items.map Yfn).length:Int)),(65,hs x 0)]) (fun x=>[.dead,ho x 1]) (fun k=>[.s (li (↑k :
 Int)),.o (.arr true 12 ((vaI Ls p d o k).map Yfo))]) (fun k=>k<=p.items.length/\p.items.length<=9223372036854775807/\vbI Ls p d o k=true) (fun k=>
 p.items.length - k) [.mk (vbI Ls p d o p.items.length=true) (.exit 3) (fun x=>[(3,.one (.ref 1))]) (fun x=>[.dead,ho x 0]) [.o (.arr true 12 (List.map Yfo
 (vaI Ls p d o p.items.length)))],.mk (vbI Ls p d o p.items.length=false) .ret (fun x=>[(8,hs x 0),(9,hs x 1)]) (fun x=>[.dead]) [.s (.one (.val (.lit
 (.slice none 0 0)))),.s (lb false)]]
def Z3b (Ls:List YS) (p:YS) (d:Int) (o:List YC):Lp Nat:=.mk 93 1 (fun x=>[(2,li d),(3,.one (.ref 1)),(5,.one (.ptr 2 0)),(34,
 .one (.ref 1)),(35,li (↑(o.map Yfo).length:Int)),(36,hs x 0)]) (fun x=>[.dead,.arr true 12 (o.map Yfo),.box (vals (Yfu p))]) (fun k=>
 [.s (li (k:Int))]) (fun k=>k<=o.length/\o.length<=9223372036854775807/\((o.take k).any fun c=>Yit c.name p)=false) (fun k=>o.length - k) [.mk ((o.any fun c
 => Yit c.name p)=false) (.exit 1) (fun x=>[(2,li d),(3,.one (.ref 1)),(5,.one (.ptr 2 0))]) (fun x=>[.dead,.arr true 12 (o.map Yfo),.box
 (vals (Yfu p))]) [],.mk ((o.any fun c=>Yit c.name p)=true) .ret (fun x=>[(8,hs x 0),(9,hs x 1)]) (fun x=>[.dead]) [.s (.one (.val (.lit (.slice
 none 0 0)))),.s (lb false)]]
theorem Zam (Ls:List YS) (p:YS) (d:Int) (o:List YC) (h:0<=d/\d+(↑(Yge p):Int)<=1000/\wY p<=1048576/\o.length+Yft p<=2147483647) (ih
 : ∀ (z:YS),z∈p.items->∀ (Ls:List YS) (d:Int) (o:List YC),0<=d/\d+(↑(Yge z):Int)<=1000/\wY z<=1048576/\o.length+Yft z<=2147483647->OK
 (Ze Ls z d o)):Lp.Sem Tryz.prog (Yg6 Tryz.f87 1) (Z3a Ls p d o):=Ygf (fun k=>.i ((k:Int)<(↑(p.items.map Yfn).length:Int)) (.x (k:Int)
 (p.items.map Yfn) (Yfu (p.items.getD k default)) (.i ((k:Int)=atI p.items) (.r ((k:Int)+1) (.g [0,1] (k+1) [.s (li ((k:Int)+1)),.o (.arr true 12
 ((vaI Ls p d o k).map Yfo))])) (.r ((k:Int)+1) (.i ((k:Int)+1=atI p.items) (.r (d+1) (.d [.rd,.rd,.rd,.own true 12] (Ze Ls (p.items.getD k
 default) (d+1) (vaI Ls p d o k)) (.b (!(vrI Ls (p.items.getD k default) (d+1) (vaI Ls p d o k)).isSome) (.o 1 [0] [.s (.one (.val (.lit (.slice none 0 0)))),.s
 (lb false)]) (.r ((k:Int)+1) (.g [0,4] (k+1) [.s (li ((k:Int)+1)),.o (.arr true 12 (((vrI Ls (p.items.getD k default) (d+1) (vaI Ls p d o
 k)).getD []).map Yfo))]))))) (.d [.rd,.rd,.rd,.own true 12] (Ze Ls (p.items.getD k default) d (vaI Ls p d o k)) (.b (!(vrI Ls (p.items.getD k default) d (vaI Ls p d o
 k)).isSome) (.o 1 [0] [.s (.one (.val (.lit (.slice none 0 0)))),.s (lb false)]) (.r ((k:Int)+1) (.g [0,4] (k+1) [.s (li ((k:Int)+1)),.o (.arr true
 12 (((vrI Ls (p.items.getD k default) d (vaI Ls p d o k)).getD []).map Yfo))])))))))) (.o 0 [0,1] [.o (.arr true 12 ((vaI Ls p d o k).map Yfo))])) (by
 intro k h; try dsimp only [Yfp,Yg0,Z3a] at h ⊢
 have g1:=@Y1ke Ls p d o (k+1)
 have g2:=@Y1kf Ls p d o k
 have g3:=@Y1r1 Ls p d o k
 have g4:=@Y1p7 Ls p d o k
 have g6:=@Yjj p k
 have g7:=@Yj5 p k
 have g8:k<p.items.length ∨ k=p.items.length ∨ p.items.length<k:=by omega
 with_reducible repeat' (first | apply And.intro | exact zR | exact ih | (intro) | apply Z1 | apply Z3 | apply ih)
 all_goals ((try simp only [std,inj] at *); with_reducible and_intros)
 all_goals try with_reducible first | apply Z1 | apply Z3 | apply ih
 all_goals try first | exact z | grind [Yfx,Yfy,Yfz,Yfs])
theorem Zan (Ls:List YS) (p:YS) (d:Int) (o:List YC) (h:0<=d/\d+(↑(Yge p):Int)<=1000/\wY p<=1048576/\o.length+Yft p<=2147483647) (ih
 : ∀ (z:YS),z∈p.items->∀ (Ls:List YS) (d:Int) (o:List YC),0<=d/\d+(↑(Yge z):Int)<=1000/\wY z<=1048576/\o.length+Yft z<=2147483647->OK
 (Ze Ls z d o)):Lp.Sem Tryz.prog (Yg6 Tryz.f87 0) (Z3b Ls p d o):=Ygf (fun k=>.i ((k:Int)<(↑(o.map Yfo).length:Int)) (.p (0<=(k:Int)
 /\ (k:Int).toNat<(o.map Yfo).length) (.w (.cells (Yg7 (o.getD (k:Int).toNat default))) (.p ((o.map Yfo)[(k:Int).toNat]? = some (Yg7 (o.getD
 (k:Int).toNat default))) (.c [.rd,.rd] (Z73 (o.getD (k:Int).toNat default).name p) (.b (decide ((o.getD (k:Int).toNat default).name.kind=1)&&decide (p.kind=1)
 && decide ((o.getD (k:Int).toNat default).name.text=p.text)&&decide ((o.getD (k:Int).toNat default).name.scopes=p.scopes)) (.o 1 [0] [.s (.one (.val (.lit
 (.slice none 0 0)))),.s (lb false)]) (.r ((k:Int)+1) (.g [0,1,2] (k+1) [.s (li ((k:Int)+1))]))))))) (.o 0 [0,1,2] [])) (by
 intro k h; try dsimp only [Yfp,Yg0,Z3b] at h ⊢
 have g:k<o.length->Yit (o.getD k default).name p=true->(o.any fun c=>Yit c.name p)=true:=fun h1 h2=>by
  rw [List.any_eq_true]; exact ⟨_,Yfx h1,h2⟩
 have g2:Yit (o.getD k default).name p=(decide ((o.getD k default).name.kind=1)&&decide (p.kind=1)&&decide ((o.getD k default).name.text=p.text)&&decide ((o.getD k default).name.scopes=p.scopes)):=rfl
 with_reducible repeat' (first | apply And.intro | exact zR | exact ih | (intro) | apply Z1 | apply Z3)
 all_goals ((try simp only [std,inj] at *); with_reducible and_intros)
 all_goals try with_reducible first | apply Z1 | apply Z3 | apply ih
 all_goals try first | exact z | grind [Ygg,Yfy,Yfz,Yfs])
theorem Zd9 (Ls:List YS) (p:YS) (d:Int) (o:List YC) (h:0<=d/\d+Yge p<=1000/\wY p<=1048576/\o.length+Yft p<=2147483647) (ih:∀ z ∈
 p.items,∀ (Ls:List YS) (d:Int) (o:List YC) (h:0<=d/\d+Yge z<=1000/\wY z<=1048576/\o.length+Yft z<=2147483647),Ze Ls z d o)  : Ze Ls
 p d o:=Yg4 Tryz.call87 Tryz.func87 (.i (p.kind=1) (.c [.rd] (Z1 p) (.b (Yfw p) (.w (.ghost (.nilreg 8 true 12)) (.w (.ghost (.move 0)) (.f [2] [.dead,.arr true 12
 []] (.tup [.one (.ref 1),lb false])))) (.c [.rd] (Z76 p) (.b (decide (p.kind=1)&&Yh8 p) (.y true (.w (.ghost (.move 0)) (.f [2] [.dead,.arr true 12 (List.map
 Yfo o)] (.tup [.one (.ref 1),lb true])))) (.c [.rd,.rd] (Z8r Ls p) (.b (Yi6 Ls p) (.w (.ghost (.move 0)) (.f [2] [.dead,.arr true 12 (o.map Yfo)]
 (.tup [.one (.ref 1),lb true]))) (.i (3<d) (.w (.ghost (.nilreg 8 true 12)) (.w (.ghost (.move 0)) (.f [2] [.dead,.arr true 12 []] (.tup [.one (.ref 1),lb
 false])))) (.z Yfo o (.w (.ghost (.move 0)) (.l (Z3b Ls p d o) (Zan Ls p d o h ih) [0,2,1] [.s (li 0)] 0 (.t (.d [.rd] (Zm p) (.p (((List.map
 Yfo o).length+1) * 192<=140737488355328) (.f [6] [.dead,.arr true 12 (o.map Yfo++[[cI p.kind,cI p.number,cS p.text,.list (p.scopes.map Yfr),
 .list (p.items.map Yfn),cI d,cI 0,cI 0,cS (ByteArray.mk #[]),.list [],.list [],.list []]])] (.tup [.one (.ref 1),lb true])))) (.t (.w
 (.ghost (.nilreg 8 true 12)) (.f [1] [.dead,.arr true 12 []] (.tup [.one (.ref 1),lb false]))) .q)))))))))))) (.i (p.kind≠0) (.w (.ghost (.move 0)) (.f [2] [.dead,
 .arr true 12 (o.map Yfo)] (.tup [.one (.ref 1),lb true]))) (.c [.rd] (Z9z p.items) (.i (atI p.items=0) (.w (.ghost (.nilreg 8 true 12)) (.w (.ghost (.move
 0)) (.f [2] [.dead,.arr true 12 []] (.tup [.one (.ref 1),lb false])))) (.z Yfn p.items (.w (.ghost (.move 0)) (.l (Z3a Ls p d o) (Zam Ls p d o h
 ih) [0,2] [.s (li 0),.o (.arr true 12 (o.map Yfo))] 0 (.t (.f [1] [.dead,.arr true 12 ((vaI Ls p d o p.items.length).map Yfo)] (.tup [.one (.ref
 1),lb true])) (.t (.w (.ghost (.nilreg 8 true 12)) (.f [1] [.dead,.arr true 12 []] (.tup [.one (.ref 1),lb false]))) .q))))))))) (by
 dsimp only [Yfp,Ze,Yg0,Z3b,Z3a]
 have g1:=Y1ne Ls p d o
 have g2:=Ygo p
 have g3:=@Yx0 Ls p d o
 have g4:=@Y194 Ls p d o
 have g5:=@Y14g Ls p d o
 have g6:=@Y129 Ls p d o
 have g7:=@Y18x Ls p d o
 have g8:=@Y124 Ls p d o
 have g9:=@Y11f Ls p d o
 have g10:vbI Ls p d o 0=true:=by unfold vbI wI; simp [wlk]
 have g11:vaI Ls p d o 0=o:=by unfold vaI wI; simp [wlk]
 have g12:=Y140 o p d
 have g13:Yh8 p=decide (p.text.data.toList=[95]):=rfl
 have g14:p.kind=1->Yfw p=false->Yh8 p=false->Yi6 Ls p=false->d<=3->(o.any fun c=>Yit c.name p)=false->(vrI Ls p d o).getD []=o++[Ynw p d]:=fun a b c e f g=>by rw [g7 a b c e f g]; rfl
 have g15:(vrI Ls p d o).isSome=false->(vrI Ls p d o).getD []=[]:=fun h=>by cases e:vrI Ls p d o <;> simp_all
 with_reducible repeat' (first | apply And.intro | exact zR | exact ih | (intro) | apply Z1 | apply Z3)
 all_goals ((try simp only [std,inj] at *); with_reducible and_intros)
 all_goals try first | with_reducible (first | apply Z1 | apply Z3 | apply ih) | (simp only [<- List.map_append]; with_reducible first | apply Z1 | apply Z3 | apply ih)
 all_goals (try exact zG))
theorem Z77 (p:YS):∀ (Ls:List YS) (d:Int) (o:List YC) (h:0<=d/\d+Yge p<=1000/\wY p<=1048576/\o.length+Yft p<=2147483647),Ze Ls p d o:=YS.ind (P:=fun p=>∀ (Ls:List YS) (d:Int) (o:List YC) (h:0<=d/\d+Yge p<=1000/\wY p<=1048576/\o.length+Yft p<=2147483647),Ze Ls p d o) (fun p ih Ls d o h=>Zd9 Ls p d o h ih) p
theorem Y12c {Ls:List YS} {p:YS} (hL:∀ x∈Ls,Yip x=true) (hk:p.kind=1):Ygw Ls p=Yi6 Ls p:=by
 unfold Ygw Yi6
 rw [Bool.eq_iff_iff]; simp only [List.any_eq_true]
 constructor
 ·rintro ⟨x,hx,e⟩
  have:=hL x hx
  simp only [Yzw,Bool.and_eq_true,decide_eq_true_eq] at this e
  exact ⟨x,hx,by simp only [Yit,Bool.and_eq_true,decide_eq_true_eq]; exact ⟨⟨⟨this.1.1.1,hk⟩,e.1⟩,e.2⟩⟩
 ·rintro ⟨x,hx,e⟩
  simp only [Yit,Bool.and_eq_true,decide_eq_true_eq] at e
  exact ⟨x,hx,by simp only [Bool.and_eq_true,decide_eq_true_eq]; exact ⟨e.1.2,e.2⟩⟩
theorem Y1h6 {Ls:List YS} {p:YS} (hL:∀ x∈Ls,Yip x=true) (hd:Yfw p=true):Ygw Ls p=false/\Yh8 p=false:=by
 simp only [Yfw,Bool.and_eq_true,decide_eq_true_eq] at hd
 constructor
 ·unfold Ygw; rw [List.any_eq_false]
  intro x hx e
  have:=hL x hx
  simp only [Yzw,Bool.and_eq_true,decide_eq_true_eq,Bool.not_eq_true',Yfw,Bool.and_eq_false_iff,decide_eq_false_iff_not] at this e
  rcases this.1.2 with h | h
  ·exact h this.1.1.1
  ·exact h (by rw [e.1]; exact hd.2)
 ·unfold Yh8; rw [hd.2]; rfl
theorem Y1kw {o:List YC} {p:YS} (ho:∀ x∈o,Yio x.name=true) (hk:p.kind=1) (hd:Yfw p=false):(o.any fun c=>Yit c.name p)=true ↔ 0<=fnd o p:=by
 have h1:Yks o p<o.length ↔ ∃ x∈o,Yjn p x=true:=List.findIdx_lt_length
 have h2:(o.any fun c=>Yit c.name p)=true ↔ Yks o p<o.length:=by
  rw [h1,List.any_eq_true]
  constructor
  ·rintro ⟨x,hx,e⟩
   refine ⟨x,hx,?_⟩
   simp only [Yit,Bool.and_eq_true,decide_eq_true_eq] at e
   simp only [Yjn,Bool.and_eq_true,decide_eq_true_eq]
   exact ⟨⟨e.1.2,e.2⟩,ho x hx⟩
  ·rintro ⟨x,hx,e⟩
   refine ⟨x,hx,?_⟩
   simp only [Yjn,Yio,Bool.and_eq_true,decide_eq_true_eq] at e
   simp only [Yit,Bool.and_eq_true,decide_eq_true_eq]
   exact ⟨⟨⟨e.2.1,hk⟩,e.1.1⟩,e.1.2⟩
 rw [h2]; unfold fnd; rw [hd]
 simp only [true_and]
 split <;> omega
theorem Y1c8 {α:Type} [Inhabited α] {p:α->Bool} {L:List α}:∀ k,k<=L.length->(∀ j,j<k->p (L.getD j default)=false)->k<=L.findIdx p
 | 0,_,_=>Nat.zero_le _
 | k+1,hk,h=>Y1a4 (by omega) (Y1c8 k (by omega) fun j hj=>h j (by omega)) (h k (by omega))
theorem Yz2 (l:List YS):∀ k,k<=l.length->okA l k=true->(atF l k = -1/\∀ j,j<k->Yfw (l.getD j default)=false) ∨ ∃ m:Nat,0<m/\m<k/\atF l k=m/\Yfw (l.getD m default)=true/\∀ j,j<k->j≠m->Yfw (l.getD j default)=false
 | 0,_,_=>.inl ⟨rfl,fun j h=>absurd h (by omega)⟩
 | k+1,hk,h=>by
  simp only [okA,Bool.and_eq_true,Bool.or_eq_true,Bool.not_eq_true',decide_eq_true_eq] at h
  have ih:=Yz2 l k (by omega) h.1
  cases e:Yfw (l.getD k default) with
  | false=>
   have e2:atF l (k+1)=atF l k:=by simp only [atF,e]; rfl
   rcases ih with ⟨h1,h2⟩ | ⟨m,h1,h2,h3,h4,h5⟩
   ·exact .inl ⟨by rw [e2]; exact h1,fun j hj=>by
     by_cases ej:j=k
     ·rw [ej]; exact e
     ·exact h2 j (by omega)⟩
   ·exact .inr ⟨m,h1,by omega,by rw [e2]; exact h3,h4,fun j hj hm=>by
     by_cases ej:j=k
     ·rw [ej]; exact e
     ·exact h5 j (by omega) hm⟩
  | true=>
   have e2:atF l (k+1)=(k:Int):=by simp only [atF,e]; rfl
   rcases h.2 with h0 | ⟨h0,h0'⟩
   ·rw [e] at h0; cases h0
   ·rcases ih with ⟨h1,h2⟩ | ⟨m,h1,h2,h3,h4,h5⟩
    ·exact .inr ⟨k,by omega,by omega,e2,e,fun j hj hm=>h2 j (by omega)⟩
    ·omega
theorem Y170 {l:List YS} {m:Nat} (hm:m<l.length) (h:Yfw (l.getD m default)=true) (h2:∀ j,j<m->Yfw (l.getD j default)=false):atI l=m:=by
 have:=Y1jg hm (Y1c8 m (by omega) h2) h
 unfold atI; rw [this,if_pos hm]
theorem Y15c {l:List YS} (h:okS l=true):atI l=atS l/\atI l≠0:=by
 rcases Yz2 l l.length (Nat.le_refl _) h with ⟨h1,h2⟩ | ⟨m,h1,h2,h3,h4,h5⟩
 ·have:=Y1c8 (p:=Yfw) l.length (Nat.le_refl _) h2
  have e:atI l = -1:=by unfold atI; rw [if_neg (by omega)]
  exact ⟨by rw [e]; exact h1.symm,by omega⟩
 ·have e:=Y170 h2 h4 fun j hj=>h5 j (by omega) (by omega)
  exact ⟨by rw [e]; exact h3.symm,by omega⟩
theorem Y1k7 {l:List YS} (h:okS l=false):atI l=0 ∨ ∃ j,j<l.length/\(j:Int)≠atI l/\Yfw (l.getD j default)=true:=by
 have:∃ k,k<l.length/\okA l k=true/\okA l (k+1)=false:=by
  have:∀ m,m<=l.length->okA l m=false->∃ k,k<m/\okA l k=true/\okA l (k+1)=false:=by
   intro m
   induction m with
   | zero=>intro _ e; cases e
   | succ m ih=>
    intro hm e
    cases e2:okA l m with
    | true=>exact ⟨m,by omega,e2,e⟩
    | false=>obtain ⟨k,h1,h2⟩:=ih (by omega) e2; exact ⟨k,by omega,h2⟩
  obtain ⟨k,h1,h2⟩:=this l.length (Nat.le_refl _) h
  exact ⟨k,h1,h2⟩
 obtain ⟨k,hk,h1,h2⟩:=this
 have hd:Yfw (l.getD k default)=true/\(k=0 ∨ 0<=atF l k):=by
  simp only [okA,h1,Bool.true_and,Bool.or_eq_false_iff,Bool.not_eq_false',Bool.and_eq_false_iff,decide_eq_false_iff_not] at h2
  exact ⟨h2.1,h2.2.elim (fun h=>.inl (by omega)) fun h=>.inr (by omega)⟩
 rcases hd.2 with e | e
 ·subst e
  exact .inl (Y170 hk hd.1 fun j hj=>absurd hj (Nat.not_lt_zero j))
 ·rcases Yz2 l k (by omega) h1 with ⟨h3,_⟩ | ⟨m,h3,h4,h5,h6,h7⟩
  ·omega
  ·have e:=Y170 (by omega) h6 fun j hj=>h7 j (by omega) (by omega)
   exact .inr ⟨k,hk,by omega,hd.1⟩
theorem Y15t {f g:YS->Int->List YC->Option (List YC)} {good:List YC->Prop}:∀ (l:List YS),(∀ x∈l,∀ d o,good o->f x d o=g x d o/\∀ o',g x d o=some o'->good o')->∀ i a d o,good o->wlk f l i a d o=wlk g l i a d o/\∀ o',wlk g l i a d o=some o'->good o'
 | [],_,i,a,d,o,ho=>⟨rfl,fun o' e=>by simp only [wlk,Option.some.injEq] at e; subst e; exact ho⟩
 | x :: r,h,i,a,d,o,ho=>by
  have ih:=Y15t r fun y hy=>h y (List.mem_cons_of_mem _ hy)
  simp only [wlk]
  by_cases e:i=a
  ·rw [if_pos e,if_pos e]; exact ih _ _ _ _ ho
  ·rw [if_neg e,if_neg e]
   have hx:=h x List.mem_cons_self (if i+1=a then d+1 else d) o ho
   rw [hx.1]
   cases e2:g x (if i+1=a then d+1 else d) o with
   | none=>exact ⟨rfl,fun o' e=>by cases e⟩
   | some o1=>exact ih _ _ _ _ (hx.2 o1 e2)
theorem Y1a7 {f:YS->Int->List YC->Option (List YC)}:∀ (l:List YS) (j:Nat) (i a d:Int) (o:List YC),j<l.length->i+(j:Int)≠a->(∀ d o,f (l.getD j default) d o=none)->wlk f l i a d o=none
 | [],j,_,_,_,_,h,_,_=>absurd h (by simp)
 | x :: r,0,i,a,d,o,_,h1,h2=>by
  simp only [wlk]
  rw [if_neg (by omega)]
  have:=h2 (if i+1=a then d+1 else d) o
  simp only [List.getD_cons_zero] at this
  rw [this]
 | x :: r,j+1,i,a,d,o,h,h1,h2=>by
  have ih:=fun d o=>Y1a7 r j (i+1) a d o (by simpa using h) (by omega) (by simpa using h2)
  simp only [wlk]
  split
  ·exact ih d o
  ·split
   ·rfl
   ·exact ih d _
theorem Y1i5 {p:YS} (h:okY p=true) (hk:p.kind=1):Yio p=true:=by
 have hi:=Y10x h hk
 simp only [Yio,Ygc,Bool.and_eq_true,decide_eq_true_eq]
 refine ⟨hk,⟨?_,?_⟩,h⟩
 ·rw [Ygo,hi]; simp [sumBy]
 ·rw [Ymb,hi]; simp [Yh2]
theorem Y163 {p:YS} (h:okY p=true) (h1:¬ p.kind=1) (h0:¬ p.kind=0):p.items=[]:=by
 rw [Ym0] at h
 simp only [Ylq,Ym5,Bool.and_eq_true,Bool.or_eq_true,decide_eq_true_eq] at h
 have:p.items.length=0:=by omega
 exact List.length_eq_zero_iff.1 this
theorem Y182 {Ls:List YS} (hL:∀ x∈Ls,Yip x=true):∀ p:YS,okY p=true->∀ d o,(∀ x∈o,Yio x.name=true)->vrI Ls p d o=vrS Ls p d o/\∀ o',vrS Ls p d o=some o'->∀ x∈o',Yio x.name=true:=by
 refine YS.ind fun p ih h d o ho => ?_
 by_cases hk:p.kind=1
 ·have hn:∀ x∈o++[Ynw p d],Yio x.name=true:=by
   intro x hx
   rcases List.mem_append.1 hx with hx | hx
   ·exact ho x hx
   ·rw [List.mem_singleton.1 hx]; exact Y1i5 h hk
  cases hd:Yfw p with
  | true=>
   have h1:=Y1h6 hL hd
   rw [Yx0 hk hd,Yvw Ls p d o hk h1.2 h1.1 (.inl hd)]
   exact ⟨rfl,fun o' e=>by cases e⟩
  | false=>
   have hj:=Y12c hL hk
   by_cases h1:Yh8 p=true ∨ Ygw Ls p=true
   ·rw [Y194 hk hd (hj ▸ h1),Y19o Ls p d o hk h1]
    exact ⟨rfl,fun o' e=>by simp only [Option.some.injEq] at e; subst e; exact ho⟩
   ·have hu:Yh8 p=false:=by cases e:Yh8 p <;> simp_all
    have hI:Ygw Ls p=false:=by cases e:Ygw Ls p <;> simp_all
    have hJ:Yi6 Ls p=false:=by rw [<- hj]; exact hI
    by_cases h3:3<d
    ·rw [Y14g hk hd hu hJ h3,Yvw Ls p d o hk hu hI (.inr (.inr h3))]
     exact ⟨rfl,fun o' e=>by cases e⟩
    ·have hf:=Y1kw ho hk hd
     cases h5:(o.any fun c=>Yit c.name p) with
     | true=>
      rw [Y129 hk hd hu hJ h5,Yvw Ls p d o hk hu hI (.inr (.inl (hf.1 h5)))]
      exact ⟨rfl,fun o' e=>by cases e⟩
     | false=>
      have h6:fnd o p<0:=by
       by_cases h6:fnd o p<0
       ·exact h6
       ·rw [hf.2 (by omega)] at h5; cases h5
      rw [Y18x hk hd hu hJ (by omega) h5,Y19r Ls p d o hk hu hI hd h6 (by omega)]
      exact ⟨rfl,fun o' e=>by simp only [Option.some.injEq] at e; subst e; exact hn⟩
 ·by_cases h0:p.kind=0
  ·rw [Yla,if_neg hk]
   cases hs:okS p.items with
   | true=>
    have ha:=Y15c hs
    rw [Yls,if_neg hk,if_neg (by simp [h0]),if_neg ha.2,if_pos rfl,ha.1]
    exact Y15t (good:=fun o=>∀ x∈o,Yio x.name=true) p.items (fun x hx d o ho=>ih x hx (Yjd h x hx) d o ho) _ _ _ _ ho
   | false=>
    refine ⟨?_,fun o' e=>by simp at e⟩
    rw [if_neg (by simp)]
    rcases Y1k7 hs with ha | ⟨j,hj,hja,hjd⟩
    ·exact Y11f hk h0 ha
    ·rw [Yls,if_neg hk,if_neg (by simp [h0])]
     split
     ·rfl
     ·refine Y1a7 p.items j _ _ _ _ hj (by omega) fun d o=>Yx0 ?_ hjd
      simp only [Yfw,Bool.and_eq_true,decide_eq_true_eq] at hjd; exact hjd.1
  ·have hi:=Y163 h hk h0
   rw [Y124 hk h0,Yla,if_neg hk,hi]
   simp only [okS,List.length_nil,okA,if_true,wlk]
   exact ⟨trivial,fun o' e=>by simp only [Option.some.injEq] at e; subst e; exact ho⟩
theorem Y1oz {Ls:List YS} {p:YS} (hL:okL Ls=true) (hp:Ygc p=true):vrI Ls p 0 []=vrS Ls p 0 []:=by
 simp only [okL,Bool.and_eq_true,List.all_eq_true] at hL
 simp only [Ygc,Bool.and_eq_true] at hp
 exact (Y182 hL.1 p hp.2 0 [] (fun x hx=>by cases hx)).1
abbrev Z7p (Ls:List YS) (p:YS):Ct:=⟨34,[],[ll (Ls.map Yfn),Ygb p],[.arr true 12 ((if okL Ls=true/\Ygc p=true then (vrS Ls p 0 []).getD [] else []).map Yfo)],.tup [.one (.ref 0),lb (okL Ls&&Ygc p&&(vrS Ls p 0 []).isSome)]⟩
theorem Z87 (Ls:List YS) (p:YS) (h:wY p<=1048576)  : Z7p Ls p:=Yg4 Tryz.call34 Tryz.func34 (.c [.rd] (Zbz Ls) (.b (!okL Ls) (.y true (.w (.ghost
 (.nilreg 4 true 12)) (.f [1] [.arr true 12 []] (.tup [.one (.ref 0),lb false])))) (.c [.rd] (Zi p) (.b (!Ygc p) (.w (.ghost (.nilreg 4 true 12)) (.f [1]
 [.arr true 12 []] (.tup [.one (.ref 0),lb false]))) (.d [.rd,.rd,.rd,.own true 12] (Ze Ls p 0 []) (.f [2] [.arr true 12 (((vrI Ls p 0
 []).getD []).map Yfo)] (.tup [.one (.ref 0),lb (vrI Ls p 0 []).isSome]))))))) (by
 dsimp only [Yfp,Z7p]
 have g:Ygc p=true->Yft p<=2000/\Yge p<=40:=fun h=>by simp only [Ygc,Bool.and_eq_true,decide_eq_true_eq] at h; exact ⟨h.1.1,h.1.2⟩
 have g2:=@Y1oz Ls p
 with_reducible repeat' (first | apply And.intro | exact zR | (intro) | apply Z77)
 all_goals ((try simp only [std,inj] at *); with_reducible and_intros)
 all_goals try with_reducible first | apply Z77
 all_goals (try exact zG))
set_option maxHeartbeats 4000000
set_option maxRecDepth 20000
def tlY (s:YS):YS:=⟨0,0,mkS [],[],s.items.drop 1⟩
theorem Ymw (s:YS):Yft s<=wY s+1:=by
 refine YS.ind (P:=fun s=>Yft s<=wY s+1) (fun s ih => ?_) s
 have:∀ L:List YS,(∀ x∈L,Yft x<=wY x+1)->sumBy Yft L<=L.length+sumBy wY L:=by
  intro L
  induction L with
  | nil=>intro _; simp [sumBy]
  | cons x r ihr=>
   intro h
   have h1:=h x List.mem_cons_self
   have h2:=ihr fun y hy=>h y (List.mem_cons_of_mem _ hy)
   simp only [sumBy,List.length_cons]; omega
 have h1:=this s.items ih
 have h2:=Yhn s
 rw [Ygo]; omega
theorem Y10n {s:YS} (h:Ygc s=true):Ygc (tlY s)=true:=by
 simp only [Ygc,Bool.and_eq_true,decide_eq_true_eq] at h ⊢
 have e:s.items=s.items.take 1++s.items.drop 1:=(List.take_append_drop 1 s.items).symm
 have h1:sumBy Yft s.items=sumBy Yft (s.items.take 1)+sumBy Yft (s.items.drop 1):=by rw [<- Yha,<- e]
 have h2:Yh2 Yge s.items=max (Yh2 Yge (s.items.take 1)) (Yh2 Yge (s.items.drop 1)):=by rw [<- Yq9,<- e]
 have h3:=Ygo s
 have h4:=Ymb s
 have h5:=Yjd h.2
 refine ⟨⟨?_,?_⟩,?_⟩
 ·rw [Ygo]; simp only [tlY]; omega
 ·rw [Ymb]; simp only [tlY]; omega
 ·rw [Ym0,Bool.and_eq_true,List.all_eq_true]
  refine ⟨fun x hx=>h5 x (List.mem_of_mem_drop hx),?_⟩
  simp [tlY,Ylq,Ym5,Yka,Yke,mkS]
theorem Yvj (s:YS):wY (tlY s)<=wY s:=by
 have e:s.items=s.items.take 1++s.items.drop 1:=(List.take_append_drop 1 s.items).symm
 have h1:sumBy wY s.items=sumBy wY (s.items.take 1)+sumBy wY (s.items.drop 1):=by rw [<- Yha,<- e]
 have h2:=Yhn s
 have h3:=Yhn (tlY s)
 have h4:(tlY s).text.size=0:=rfl
 have h5:(s.items.drop 1).length<=s.items.length:=by rw [List.length_drop]; omega
 simp only [tlY,List.length_nil] at h3 h4
 rw [tlY]; omega
abbrev Z41 (s:YS):Ct:=⟨113,[],[Ygb s],[],.sv (.agg [vI 0,vI 0,vS (mkS []),.val (.lit (.slice none 0 0)),vL ((s.items.drop 1).map Yfn)])⟩
theorem Z2v (s:YS) (h:1<=s.items.length)  : Z41 s:=Yg4 Tryz.call113 Tryz.func113 (.p ((0:Int)<=1) (.p (1<=(s.items.map Yfn).length/\(List.map
 Yfn s.items).length<=(s.items.map Yfn).length/\∀ (e:List Cell),e∈s.items.map Yfn->e.length=5) (.s (.agg [vI 0,vI 0,vS (ByteArray.mk #[]),
 .val (.lit (.slice none 0 0)),vL (List.take ((s.items.map Yfn).length - 1) (List.drop 1 (s.items.map Yfn)))])))) (by
 dsimp only [Yfp,Z41]
 have e:(s.items.drop 1).take (s.items.length - 1)=s.items.drop 1:=List.take_of_length_le (by rw [List.length_drop]; omega)
 exact zV)
abbrev Z42 (s:YS):Ct:=⟨109,[],[Ygb s],[],.sv (.agg [vI 0,vI 0,vS (mkS []),.val (.lit (.slice none 0 0)),vL ((s.items.drop 1).map Yfn)])⟩
theorem Z2w (s:YS) (h:1<=s.items.length)  : Z42 s:=Yg4 Tryz.call109 Tryz.func109 (.p ((0:Int)<=1) (.p (1<=(s.items.map Yfn).length/\(List.map
 Yfn s.items).length<=(s.items.map Yfn).length/\∀ (e:List Cell),e∈s.items.map Yfn->e.length=5) (.s (.agg [vI 0,vI 0,vS (ByteArray.mk #[]),
 .val (.lit (.slice none 0 0)),vL (List.take ((s.items.map Yfn).length - 1) (List.drop 1 (s.items.map Yfn)))])))) (by
 dsimp only [Yfp,Z42]
 have e:(s.items.drop 1).take (s.items.length - 1)=s.items.drop 1:=List.take_of_length_le (by rw [List.length_drop]; omega)
 exact zV)
abbrev Zn (s:YS):Ct:=⟨114,[],[Ygb s],[],.sv (li (Yft s))⟩
def Z2d (s:YS):Lp Nat:=.mk 19 0 (fun x=>[(3,hs x 1),(7,ll (s.items.map Yfn)),(8,li (↑(s.items.map Yfn).length:Int)),(9,hs x 0)])
 (fun x=>[]) (fun k=>[.s (li (k:Int)),.s (li (↑(1+sumBy Yft (s.items.take k)):Int))]) (fun k=>k<=s.items.length/\s.items.length<=9223372036854775807) (fun k
 => s.items.length - k) [.mk True (.exit 0) (fun x=>[(3,hs x 0)]) (fun x=>[]) [.s (li (↑(1+sumBy Yft s.items):Int))]]
theorem Z9n (s:YS) (h:wY s<=1048576) (ih:∀ (z:YS),z∈s.items->wY z<=1048576->OK (Zn z)):Lp.Sem Tryz.prog (Yg6 Tryz.f114 0)
 (Z2d s):=Ygf (fun k=>.i ((k:Int)<(↑(s.items.map Yfn).length:Int)) (.x (k:Int) (s.items.map Yfn) (Yfu (s.items.getD k default)) (.d
 [.rd] (Zn (s.items.getD k default)) (.r ((↑(1+sumBy Yft (s.items.take k)):Int)+(↑(Yft (s.items.getD k default)):Int)) (.r ((k:Int)+1) (.g [] (k+1)
 [.s (li ((k:Int)+1)),.s (li ((↑(1+sumBy Yft (s.items.take k)):Int)+(↑(Yft (s.items.getD k default)):Int)))]))))) (.o 0 [] [.s (li (↑(1+sumBy Yft
 (s.items.take k)):Int))])) (by
 intro k h; try dsimp only [Yfp,Yg0,Z2d] at h ⊢
 have g1:=Yhn s
 have g2:=@Ygt _ wY s.items (s.items.getD k default)
 have g3:=@Yih _ _ Yft s.items k
 have g4:=Yhj Yft s.items (k+1)
 have g5:=Ymw s
 have g6:=Ygo s
 have g7:s.items.length<=k->s.items.take k=s.items:=fun h=>List.take_of_length_le h
 with_reducible repeat' (first | apply And.intro | exact zR | exact ih | (intro) | apply ih)
 all_goals ((try simp only [std,inj] at *); with_reducible and_intros)
 all_goals try with_reducible first | apply ih
 all_goals try first | exact z | grind [Yfx,Yfy,Yfz,Yfs])
theorem Zcb (s:YS) (h:wY s<=1048576) (ih:∀ z∈s.items,∀ (h:wY z<=1048576),Zn z)  : Zn s:=Yg4 Tryz.call114 Tryz.func114 (.z Yfn s.items
 (.l (Z2d s) (Z9n s h ih) [] [.s (li 0),.s (li 1)] 0 (.t (.s (li (↑(1+sumBy Yft s.items):Int))) .q))) (by
 dsimp only [Yfp,Zn,Yg0,Z2d]
 have g6:=Ygo s
 have g7:sumBy Yft (s.items.take 0)=0:=rfl
 with_reducible repeat' (first | apply And.intro | exact zR | exact ih | (intro))
 all_goals ((try simp only [std,inj] at *); with_reducible and_intros)
 all_goals try with_reducible first | apply ih
 all_goals (try exact zG))
theorem Z65 (s:YS):∀ (h:wY s<=1048576),Zn s:=YS.ind (P:=fun s=>∀ (h:wY s<=1048576),Zn s) (fun s ih h=>Zcb s h ih) s
abbrev Zo (s:YS):Ct:=⟨111,[],[Ygb s],[],.sv (li (Yft s))⟩
def Z2e (s:YS):Lp Nat:=.mk 19 0 (fun x=>[(3,hs x 1),(7,ll (s.items.map Yfn)),(8,li (↑(s.items.map Yfn).length:Int)),(9,hs x 0)])
 (fun x=>[]) (fun k=>[.s (li (k:Int)),.s (li (↑(1+sumBy Yft (s.items.take k)):Int))]) (fun k=>k<=s.items.length/\s.items.length<=9223372036854775807) (fun k
 => s.items.length - k) [.mk True (.exit 0) (fun x=>[(3,hs x 0)]) (fun x=>[]) [.s (li (↑(1+sumBy Yft s.items):Int))]]
theorem Z9o (s:YS) (h:wY s<=1048576) (ih:∀ (z:YS),z∈s.items->wY z<=1048576->OK (Zo z)):Lp.Sem Tryz.prog (Yg6 Tryz.f111 0)
 (Z2e s):=Ygf (fun k=>.i ((k:Int)<(↑(s.items.map Yfn).length:Int)) (.x (k:Int) (s.items.map Yfn) (Yfu (s.items.getD k default)) (.d
 [.rd] (Zo (s.items.getD k default)) (.r ((↑(1+sumBy Yft (s.items.take k)):Int)+(↑(Yft (s.items.getD k default)):Int)) (.r ((k:Int)+1) (.g [] (k+1)
 [.s (li ((k:Int)+1)),.s (li ((↑(1+sumBy Yft (s.items.take k)):Int)+(↑(Yft (s.items.getD k default)):Int)))]))))) (.o 0 [] [.s (li (↑(1+sumBy Yft
 (s.items.take k)):Int))])) (by
 intro k h; try dsimp only [Yfp,Yg0,Z2e] at h ⊢
 have g1:=Yhn s
 have g2:=@Ygt _ wY s.items (s.items.getD k default)
 have g3:=@Yih _ _ Yft s.items k
 have g4:=Yhj Yft s.items (k+1)
 have g5:=Ymw s
 have g6:=Ygo s
 have g7:s.items.length<=k->s.items.take k=s.items:=fun h=>List.take_of_length_le h
 with_reducible repeat' (first | apply And.intro | exact zR | exact ih | (intro) | apply ih)
 all_goals ((try simp only [std,inj] at *); with_reducible and_intros)
 all_goals try with_reducible first | apply ih
 all_goals try first | exact z | grind [Yfx,Yfy,Yfz,Yfs])
theorem Zcc (s:YS) (h:wY s<=1048576) (ih:∀ z∈s.items,∀ (h:wY z<=1048576),Zo z)  : Zo s:=Yg4 Tryz.call111 Tryz.func111 (.z Yfn s.items
 (.l (Z2e s) (Z9o s h ih) [] [.s (li 0),.s (li 1)] 0 (.t (.s (li (↑(1+sumBy Yft s.items):Int))) .q))) (by
 dsimp only [Yfp,Zo,Yg0,Z2e]
 have g6:=Ygo s
 have g7:sumBy Yft (s.items.take 0)=0:=rfl
 with_reducible repeat' (first | apply And.intro | exact zR | exact ih | (intro))
 all_goals ((try simp only [std,inj] at *); with_reducible and_intros)
 all_goals try with_reducible first | apply ih
 all_goals (try exact zG))
theorem Z66 (s:YS):∀ (h:wY s<=1048576),Zo s:=YS.ind (P:=fun s=>∀ (h:wY s<=1048576),Zo s) (fun s ih h=>Zcc s h ih) s
def clP (Ls:List YS) (p:YS):Bool:=Ygc p&&decide (p.kind=0) && !decide ((p.items.length:Int)=0)&&decide ((p.items.getD 0 default).kind=1) && !Yfw (p.items.getD 0 default)&&(vrS Ls (tlY p) 0 []).isSome
def clT (Ls:List YS) (p t:YS):Bool:=clP Ls p&&tmF ((vrS Ls (tlY p) 0 []).getD []) t
def Ylk (r:YR):Nat->Bool
 | 0=>true
 | k+1=>Ylk r k&&clT r.literals (r.patterns.getD k default) (r.templates.getD k default)
def clN (r:YR):Nat->Nat
 | 0=>0
 | k+1=>clN r k+Yft (r.patterns.getD k default)+Yft (r.templates.getD k default)
theorem Yvr (r:YR):∀ (m k:Nat),k<=m->Ylk r m=true->Ylk r k=true
 | 0,k,h,_=>by
  obtain rfl:k=0:=by omega
  rfl
 | m+1,k,h,ht=>by
  by_cases e:k=m+1
  ·rw [e]; exact ht
  ·refine Yvr r m k (by omega) ?_
   simp only [Ylk,Bool.and_eq_true] at ht; exact ht.1
theorem Y177 (r:YR):∀ k,k<=r.patterns.length->r.patterns.length=r.templates.length->clN r k<=2 * k+sumBy wY (r.patterns.take k)+sumBy wY (r.templates.take k)
 | 0,_,_=>by simp [clN,sumBy]
 | k+1,hk,hl=>by
  have ih:=Y177 r k (by omega) hl
  have h1:=@Yih _ _ wY r.patterns k (by omega)
  have h2:=@Yih _ _ wY r.templates k (by omega)
  have h3:=Ymw (r.patterns.getD k default)
  have h4:=Ymw (r.templates.getD k default)
  simp only [clN]; omega
def Ykf (r:YR):Bool:=okL r.literals&&decide ((r.patterns.length:Int)=r.templates.length)&&decide (1<=(r.patterns.length:Int)/\(r.patterns.length:Int)<=12)&&Ylk r r.patterns.length&&decide ((clN r r.patterns.length:Int)<=2000)
abbrev Z4t (r:YR):Ct:=⟨50,[],[Yrk r],[],.sv (lb (Ykf r))⟩
def Z2f (r:YR):Lp Nat:=.mk 100 0 (fun x=>[(1,.one (.ptr 0 0)),(3,hs x 1),(29,ll (r.patterns.map Yfn)),(30,li (↑(List.map Yfn
 r.patterns).length:Int)),(31,hs x 0)]) (fun x=>[.box (vals (Yox r))]) (fun k=>[.s (li (k:Int)),.s (li (↑(clN r k):Int))]) (fun k=>k<=r.patterns.length /\
 r.patterns.length<=9223372036854775807/\r.patterns.length=r.templates.length/\r.patterns.length<=12/\Ylk r k=true) (fun k=>r.patterns.length - k) [.mk (Ylk r
 r.patterns.length=true) (.exit 0) (fun x=>[(3,hs x 0)]) (fun x=>[]) [.s (li (↑(clN r r.patterns.length):Int))],.mk (Ylk r r.patterns.length=false) .ret (fun x=>[(2,
 hs x 0)]) (fun x=>[]) [.s (lb false)]]
theorem Z9p (r:YR) (h:wR r<=1048576):Lp.Sem Tryz.prog (Yg6 Tryz.f50 0) (Z2f r):=Ygf (fun k=>.i ((k:Int)<(↑(List.map Yfn
 r.patterns).length:Int)) (.x (k:Int) (r.patterns.map Yfn) (Yfu (r.patterns.getD k default)) (.c [.rd] (Z14 (r.patterns.getD k default)) (.b (!Ygc
 (r.patterns.getD k default)) (.y true (.y true (.y true (.y true (.o 1 [] [.s (lb false)]))))) (.i ((r.patterns.getD k default).kind≠0) (.y true (.y true (.y true (.o 1 [] [.s
 (lb false)])))) (.z Yfn (r.patterns.getD k default).items (.i ((↑((r.patterns.getD k default).items.map Yfn).length:Int)=0) (.y true (.y true (.o 1 [] [.s (lb
 false)]))) (.w (.cells (Yfu ((r.patterns.getD k default).items.getD 0 default))) (.p ((0:Int)<=0/\((r.patterns.getD k default).items.map Yfn)[0]? = some (Yfu
 ((r.patterns.getD k default).items.getD 0 default))) (.i (((r.patterns.getD k default).items.getD 0 default).kind≠1) (.y true (.o 1 [] [.s (lb false)])) (.w (.cells (Yfu
 ((r.patterns.getD k default).items.getD 0 default))) (.p ((0:Int)<=0/\((r.patterns.getD k default).items.map Yfn)[0]? = some (Yfu ((r.patterns.getD k
 default).items.getD 0 default))) (.c [.rd] (Zb ((r.patterns.getD k default).items.getD 0 default)) (.b (Yfw ((r.patterns.getD k default).items.getD 0 default)) (.o 1 []
 [.s (lb false)]) (.w (.draw [(5,[14])]) (.d [.rd] (Z41 (r.patterns.getD k default)) (.w (.bool false) (.d [.rd,.rd,.rd,.own true 12] (Zr r.literals (YS.mk 0 0
 (mkS []) [] (List.drop 1 (r.patterns.getD k default).items)) 0 []) (.b (!(vrS r.literals (YS.mk 0 0 (mkS []) [] (List.drop 1 (r.patterns.getD k default).items)) 0 []).isSome)
 (.y true (.o 1 [] [.s (lb false)])) (.x (k:Int) (r.templates.map Yfn) (Yfu (r.templates.getD k default)) (.c [.rd,.rd] (Zfb ((vrS r.literals (YS.mk 0 0
 (mkS []) [] (List.drop 1 (r.patterns.getD k default).items)) 0 []).getD []) (r.templates.getD k default)) (.b (!tmF ((vrS r.literals (YS.mk 0 0 (mkS []) [] (List.drop 1
 (r.patterns.getD k default).items)) 0 []).getD []) (r.templates.getD k default)) (.o 1 [] [.s (lb false)]) (.w (.draw []) (.d [.rd] (Zn (r.patterns.getD k default)) (.r
 ((↑(clN r k):Int)+(↑(Yft (r.patterns.getD k default)):Int)) (.x (k:Int) (r.templates.map Yfn) (Yfu (r.templates.getD k default)) (.d [.rd] (Zn
 (r.templates.getD k default)) (.r ((↑(clN r k):Int)+(↑(Yft (r.patterns.getD k default)):Int)+(↑(Yft (r.templates.getD k default)):Int)) (.r ((k:Int)+1) (.g [0]
 (k+1) [.s (li ((k:Int)+1)),.s (li ((↑(clN r k):Int)+(↑(Yft (r.patterns.getD k default)):Int)+(↑(Yft (r.templates.getD k default)) :
 Int)))]))))))))))))))))))))))))))))) (.o 0 [] [.s (li (↑(clN r k):Int))])) (by
 intro k h; try dsimp only [Yfp,Yg0,Z2f] at h ⊢
 have g1:=Yvr r r.patterns.length (k+1)
 have g2:Ylk r (k+1)=(Ylk r k&&clT r.literals (r.patterns.getD k default) (r.templates.getD k default)):=rfl
 have g3:clN r (k+1)=clN r k+Yft (r.patterns.getD k default)+Yft (r.templates.getD k default):=rfl
 have g4:=Y177 r (k+1)
 have g5:=Yhj wY r.patterns (k+1)
 have g6:=Yhj wY r.templates (k+1)
 have g7:=Yvc r
 have g8:=@Ygt _ wY r.patterns (r.patterns.getD k default)
 have g9:=@Ygt _ wY r.templates (r.templates.getD k default)
 have g10:=@Y10n (r.patterns.getD k default)
 have g11:=Yvj (r.patterns.getD k default)
 have g12:∀ p,Ygc p=true->Yft p<=2000/\Yge p<=40:=fun p h=>by simp only [Ygc,Bool.and_eq_true,decide_eq_true_eq] at h; exact ⟨h.1.1,h.1.2⟩
 with_reducible repeat' (first | apply And.intro | exact zR | (intro) | apply Z2v | apply Z5x | apply Z65)
 all_goals ((try simp only [std,inj] at *); with_reducible and_intros)
 all_goals try with_reducible first | apply Z2v | apply Z5x | apply Z65
 all_goals try first | exact z | grind [clT,clP,tlY,Yfx,Yfy,Yfz,Yfs])
theorem Z88 (r:YR) (h:wR r<=1048576)  : Z4t r:=Yg4 Tryz.call50 Tryz.func50 (.c [.rd] (Zf1 r.literals) (.b (!okL r.literals) (.y true (.y true (.s (lb
 false)))) (.z Yfn r.patterns (.z Yfn r.templates (.i ((↑(r.patterns.map Yfn).length:Int)≠(↑(r.templates.map Yfn).length:Int)) (.y true (.s (lb
 false))) (.z Yfn r.patterns (.c [.rd,.rd,.rd] (Z1i (↑(r.patterns.map Yfn).length:Int) 1 12) (.b (!decide (1<=(↑(r.patterns.map Yfn).length:Int) /\
 (↑(r.patterns.map Yfn).length:Int)<=12)) (.s (lb false)) (.z Yfn r.patterns (.l (Z2f r) (Z9p r h) [0] [.s (li 0),.s (li 0)] 0 (.t (.s (lb
 (decide ((↑(clN r r.patterns.length):Int)<=2000)))) (.t (.s (lb false)) .q)))))))))))) (by
 dsimp only [Yfp,Z4t,Yg0,Z2f]
 with_reducible repeat' (first | apply And.intro | exact zR | (intro) | apply Z2v | apply Z5x | apply Z65)
 all_goals ((try simp only [std,inj] at *); with_reducible and_intros)
 all_goals try with_reducible first | apply Z2v | apply Z5x | apply Z65
 all_goals try first | exact z | grind [Ykf,Ylk,clN,Yfy,Yfz,Yfs])
abbrev Z4u (r:YR):Ct:=⟨48,[],[Yrk r],[],.sv (lb (Ykf r))⟩
def Z2g (r:YR):Lp Nat:=.mk 104 0 (fun x=>[(1,.one (.ptr 0 0)),(3,hs x 1),(34,ll (r.patterns.map Yfn)),(35,li (↑(List.map Yfn
 r.patterns).length:Int)),(36,hs x 0)]) (fun x=>[.box (vals (Yox r))]) (fun k=>[.s (li (k:Int)),.s (li (↑(clN r k):Int))]) (fun k=>k<=r.patterns.length /\
 r.patterns.length<=9223372036854775807/\r.patterns.length=r.templates.length/\r.patterns.length<=12/\Ylk r k=true/\okL r.literals=true) (fun k=>r.patterns.length -
 k) [.mk (Ylk r r.patterns.length=true) (.exit 0) (fun x=>[(3,hs x 0)]) (fun x=>[]) [.s (li (↑(clN r r.patterns.length):Int))],.mk (Ylk r r.patterns.length=false)
 .ret (fun x=>[(2,hs x 0)]) (fun x=>[]) [.s (lb false)]]
theorem Z9q (r:YR) (h:wR r<=1048576):Lp.Sem Tryz.prog (Yg6 Tryz.f48 0) (Z2g r):=Ygf (fun k=>.i ((k:Int)<(↑(List.map Yfn
 r.patterns).length:Int)) (.x (k:Int) (r.patterns.map Yfn) (Yfu (r.patterns.getD k default)) (.c [.rd] (Zi (r.patterns.getD k default)) (.b (!Ygc
 (r.patterns.getD k default)) (.y true (.y true (.y true (.y true (.o 1 [] [.s (lb false)]))))) (.i ((r.patterns.getD k default).kind≠0) (.y true (.y true (.y true (.o 1 [] [.s
 (lb false)])))) (.z Yfn (r.patterns.getD k default).items (.i ((↑((r.patterns.getD k default).items.map Yfn).length:Int)=0) (.y true (.y true (.o 1 [] [.s (lb
 false)]))) (.w (.cells (Yfu ((r.patterns.getD k default).items.getD 0 default))) (.p ((0:Int)<=0/\((r.patterns.getD k default).items.map Yfn)[0]? = some (Yfu
 ((r.patterns.getD k default).items.getD 0 default))) (.i (((r.patterns.getD k default).items.getD 0 default).kind≠1) (.y true (.o 1 [] [.s (lb false)])) (.w (.cells (Yfu
 ((r.patterns.getD k default).items.getD 0 default))) (.p ((0:Int)<=0/\((r.patterns.getD k default).items.map Yfn)[0]? = some (Yfu ((r.patterns.getD k
 default).items.getD 0 default))) (.c [.rd] (Z1 ((r.patterns.getD k default).items.getD 0 default)) (.b (Yfw ((r.patterns.getD k default).items.getD 0 default)) (.o 1 []
 [.s (lb false)]) (.w (.draw []) (.d [.rd] (Z42 (r.patterns.getD k default)) (.d [.rd,.rd] (Z7p r.literals (YS.mk 0 0 (mkS []) [] (List.drop 1 (r.patterns.getD k
 default).items))) (.b (!(okL r.literals&&Ygc (YS.mk 0 0 (mkS []) [] (List.drop 1 (r.patterns.getD k default).items))&&(vrS r.literals (YS.mk 0 0 (mkS []) []
 (List.drop 1 (r.patterns.getD k default).items)) 0 []).isSome)) (.y true (.o 1 [] [.s (lb false)])) (.x (k:Int) (r.templates.map Yfn) (Yfu (r.templates.getD k
 default)) (.c [.rd,.rd] (Zfc (if okL r.literals=true/\Ygc (YS.mk 0 0 (mkS []) [] (List.drop 1 (r.patterns.getD k default).items))=true then (vrS r.literals
 (YS.mk 0 0 (mkS []) [] (List.drop 1 (r.patterns.getD k default).items)) 0 []).getD [] else []) (r.templates.getD k default)) (.b (!tmF (if okL r.literals=true/\Ygc
 (YS.mk 0 0 (mkS []) [] (List.drop 1 (r.patterns.getD k default).items))=true then (vrS r.literals (YS.mk 0 0 (mkS []) [] (List.drop 1 (r.patterns.getD k default).items))
 0 []).getD [] else []) (r.templates.getD k default)) (.o 1 [] [.s (lb false)]) (.w (.draw []) (.d [.rd] (Zo (r.patterns.getD k default)) (.x (k:Int) (List.map Yfn
 r.templates) (Yfu (r.templates.getD k default)) (.d [.rd] (Zo (r.templates.getD k default)) (.r ((↑(Yft (r.patterns.getD k default)):Int)+(↑(Yft
 (r.templates.getD k default)):Int)) (.r ((↑(clN r k):Int)+((↑(Yft (r.patterns.getD k default)):Int)+(↑(Yft (r.templates.getD k default)):Int))) (.r ((k:Int) +
 1) (.g [0] (k+1) [.s (li ((k:Int)+1)),.s (li ((↑(clN r k):Int)+((↑(Yft (r.patterns.getD k default)):Int)+(↑(Yft (r.templates.getD k default)) :
 Int))))])))))))))))))))))))))))))))) (.o 0 [] [.s (li (↑(clN r k):Int))])) (by
 intro k h; try dsimp only [Yfp,Yg0,Z2g] at h ⊢
 have g1:=Yvr r r.patterns.length (k+1)
 have g2:Ylk r (k+1)=(Ylk r k&&clT r.literals (r.patterns.getD k default) (r.templates.getD k default)):=rfl
 have g3:clN r (k+1)=clN r k+Yft (r.patterns.getD k default)+Yft (r.templates.getD k default):=rfl
 have g4:=Y177 r (k+1)
 have g5:=Yhj wY r.patterns (k+1)
 have g6:=Yhj wY r.templates (k+1)
 have g7:=Yvc r
 have g8:=@Ygt _ wY r.patterns (r.patterns.getD k default)
 have g9:=@Ygt _ wY r.templates (r.templates.getD k default)
 have g10:=@Y10n (r.patterns.getD k default)
 have g11:=Yvj (r.patterns.getD k default)
 have g12:∀ p,Ygc p=true->Yft p<=2000/\Yge p<=40:=fun p h=>by simp only [Ygc,Bool.and_eq_true,decide_eq_true_eq] at h; exact ⟨h.1.1,h.1.2⟩
 with_reducible repeat' (first | apply And.intro | exact zR | (intro) | apply Z1 | apply Z2w | apply Z87 | apply Z66)
 all_goals ((try simp only [std,inj] at *); with_reducible and_intros)
 all_goals try with_reducible first | apply Z1 | apply Z2w | apply Z87 | apply Z66
 all_goals try first | exact z | grind [clT,clP,tlY,Yfx,Yfy,Yfz,Yfs])
theorem Z89 (r:YR) (h:wR r<=1048576)  : Z4u r:=Yg4 Tryz.call48 Tryz.func48 (.c [.rd] (Zbz r.literals) (.b (!okL r.literals) (.y true (.y true (.y true
 (.s (lb false))))) (.z Yfn r.patterns (.z Yfn r.templates (.i ((↑(r.patterns.map Yfn).length:Int)≠(↑(r.templates.map Yfn).length:Int)) (.y true (.y
 true (.s (lb false)))) (.z Yfn r.patterns (.i ((↑(r.patterns.map Yfn).length:Int)<1) (.y true (.s (lb false))) (.z Yfn r.patterns (.i (12<(↑(List.map
 Yfn r.patterns).length:Int)) (.s (lb false)) (.z Yfn r.patterns (.l (Z2g r) (Z9q r h) [0] [.s (li 0),.s (li 0)] 0 (.t (.s (lb (decide ((↑(clN r
 r.patterns.length):Int)<=2000)))) (.t (.s (lb false)) .q))))))))))))) (by
 dsimp only [Yfp,Z4u,Yg0,Z2g]
 with_reducible repeat' (first | apply And.intro | exact zR | (intro) | apply Z1 | apply Z2w | apply Z87 | apply Z66)
 all_goals ((try simp only [std,inj] at *); with_reducible and_intros)
 all_goals try with_reducible first | apply Z1 | apply Z2w | apply Z87 | apply Z66
 all_goals try first | exact z | grind [Ykf,Ylk,clN,Yfy,Yfz,Yfs])
set_option maxHeartbeats 4000000
def Yif:List ByteArray:=[mkS [113,117,111,116,101],mkS [108,97,109,98,100,97],mkS [105,102],mkS [115,101,116,33],mkS [98,101,103,105,110],mkS [114,101,115,101,116],mkS [115,104,105,102,116],mkS [100,101,102,105,110,101],mkS [100,101,102,105,110,101,45,115,121,110,116,97,120],mkS [108,101,116,45,115,121,110,116,97,120],mkS [115,121,110,116,97,120,45,114,117,108,101,115],mkS [108,111,99,97,108]]
def Yi8:List ByteArray:=[mkS [43],mkS [45],mkS [42],mkS [61],mkS [60],mkS [99,111,110,115],mkS [99,97,114],mkS [99,100,114],mkS [110,117,108,108,63],mkS [112,97,105,114,63],mkS [110,117,109,98,101,114,63],mkS [101,113,63],mkS [110,111,116],mkS [100,105,115,112,108,97,121]]
def Yww (kind:Int):List ByteArray->Int->List YB
 | [],_=>[]
 | s :: r,i=>⟨s,[],kind,i⟩ :: Yww kind r (i+1)
def Yia:List YB:=Yww 1 Yif 0++Yww 2 Yi8 0
def Yj6 (k:Nat):List YB:=Yia.take k
theorem Yyb {k:Nat}:(Yj6 k).length<=k:=by unfold Yj6; rw [List.length_take]; exact Nat.min_le_left _ _
theorem Ywe {k:Nat} (h:k<12):Yj6 (k+1)=Yj6 k++[⟨Yif.getD k default,[],1,k⟩]:=by
 have:∀ k,k<12->Yj6 (k+1)=Yj6 k++[⟨Yif.getD k default,[],1,k⟩]:=by
  intro k h; have:k=0 ∨ k=1 ∨ k=2 ∨ k=3 ∨ k=4 ∨ k=5 ∨ k=6 ∨ k=7 ∨ k=8 ∨ k=9 ∨ k=10 ∨ k=11:=by omega
  rcases this with rfl | rfl | rfl | rfl | rfl | rfl | rfl | rfl | rfl | rfl | rfl | rfl <;> rfl
 exact this k h
theorem Y17t {k:Nat} (h:k<14):Yj6 (12+(k+1))=Yj6 (12+k)++[⟨Yi8.getD k default,[],2,k⟩]:=by
 have:∀ k,k<14->Yj6 (12+(k+1))=Yj6 (12+k)++[⟨Yi8.getD k default,[],2,k⟩]:=by
  intro k h; have:k=0 ∨ k=1 ∨ k=2 ∨ k=3 ∨ k=4 ∨ k=5 ∨ k=6 ∨ k=7 ∨ k=8 ∨ k=9 ∨ k=10 ∨ k=11 ∨ k=12 ∨ k=13:=by omega
  rcases this with rfl | rfl | rfl | rfl | rfl | rfl | rfl | rfl | rfl | rfl | rfl | rfl | rfl | rfl <;> rfl
 exact this k h
def Ylb (k:Nat):List YB:=Yia.take (12+k)
theorem Y1ba {k:Nat}:(Ylb k).length<=12+k:=Yyb
theorem Yw5 {k:Nat} (h:k<14):Ylb (k+1)=Ylb k++[⟨Yi8.getD k default,[],2,k⟩]:=Y17t h
theorem Y17p:Yj6 12=Ylb 0:=rfl
theorem Y1b7:Yj6 0=[]:=rfl
theorem Y1bo:Ylb 14=Yia:=rfl
abbrev Z5y  : Ct:=⟨153,[],[],[.arr true 1 (Yif.map Yi1)],.sv (.one (.ref 0))⟩
theorem Z6q   : Z5y:=Yg4 Tryz.call153 Tryz.func153 (.f [0] [.arr true 1 [[cS (ByteArray.mk #[(113:UInt8),(117:UInt8),(111:UInt8),(116:UInt8),(101
 : UInt8)])],[cS (ByteArray.mk #[(108:UInt8),(97:UInt8),(109:UInt8),(98:UInt8),(100:UInt8),(97:UInt8)])],[cS (ByteArray.mk #[(105:UInt8),(102:UInt8)])],[cS
 (ByteArray.mk #[(115:UInt8),(101:UInt8),(116:UInt8),(33:UInt8)])],[cS (ByteArray.mk #[(98:UInt8),(101:UInt8),(103:UInt8),(105:UInt8),(110:UInt8)])],[cS
 (ByteArray.mk #[(114:UInt8),(101:UInt8),(115:UInt8),(101:UInt8),(116:UInt8)])],[cS (ByteArray.mk #[(115:UInt8),(104:UInt8),(105:UInt8),(102:UInt8),(116
 : UInt8)])],[cS (ByteArray.mk #[(100:UInt8),(101:UInt8),(102:UInt8),(105:UInt8),(110:UInt8),(101:UInt8)])],[cS (ByteArray.mk #[(100:UInt8),(101:UInt8),
 (102:UInt8),(105:UInt8),(110:UInt8),(101:UInt8),(45:UInt8),(115:UInt8),(121:UInt8),(110:UInt8),(116:UInt8),(97:UInt8),(120:UInt8)])],[cS
 (ByteArray.mk #[(108:UInt8),(101:UInt8),(116:UInt8),(45:UInt8),(115:UInt8),(121:UInt8),(110:UInt8),(116:UInt8),(97:UInt8),(120:UInt8)])],[cS
 (ByteArray.mk #[(115:UInt8),(121:UInt8),(110:UInt8),(116:UInt8),(97:UInt8),(120:UInt8),(45:UInt8),(114:UInt8),(117:UInt8),(108:UInt8),(101:UInt8),
 (115:UInt8)])],[cS (ByteArray.mk #[(108:UInt8),(111:UInt8),(99:UInt8),(97:UInt8),(108:UInt8)])]]] (.sv (.one (.ref 0)))) (by
 dsimp only [Yfp,Z5y]
 with_reducible repeat' (first | apply And.intro | exact zR | (intro))
 all_goals ((try simp only [std,inj] at *); with_reducible and_intros)
 all_goals (try exact zG)
 all_goals rfl)
abbrev Z3g  : Ct:=⟨154,[],[],[.arr true 1 (Yi8.map Yi1)],.sv (.one (.ref 0))⟩
theorem Z43   : Z3g:=Yg4 Tryz.call154 Tryz.func154 (.f [0] [.arr true 1 [[cS (ByteArray.mk #[(43:UInt8)])],[cS (ByteArray.mk #[(45:UInt8)])],
 [cS (ByteArray.mk #[(42:UInt8)])],[cS (ByteArray.mk #[(61:UInt8)])],[cS (ByteArray.mk #[(60:UInt8)])],[cS (ByteArray.mk #[(99:UInt8),(111:UInt8),(110:UInt8),(115
 : UInt8)])],[cS (ByteArray.mk #[(99:UInt8),(97:UInt8),(114:UInt8)])],[cS (ByteArray.mk #[(99:UInt8),(100:UInt8),(114:UInt8)])],[cS (ByteArray.mk #[(110 :
 UInt8),(117:UInt8),(108:UInt8),(108:UInt8),(63:UInt8)])],[cS (ByteArray.mk #[(112:UInt8),(97:UInt8),(105:UInt8),(114:UInt8),(63:UInt8)])],[cS
 (ByteArray.mk #[(110:UInt8),(117:UInt8),(109:UInt8),(98:UInt8),(101:UInt8),(114:UInt8),(63:UInt8)])],[cS (ByteArray.mk #[(101:UInt8),(113:UInt8),(63 :
 UInt8)])],[cS (ByteArray.mk #[(110:UInt8),(111:UInt8),(116:UInt8)])],[cS (ByteArray.mk #[(100:UInt8),(105:UInt8),(115:UInt8),(112:UInt8),(108:UInt8),(97 :
 UInt8),(121:UInt8)])]]] (.sv (.one (.ref 0)))) (by
 dsimp only [Yfp,Z3g]
 with_reducible repeat' (first | apply And.intro | exact zR | (intro))
 all_goals ((try simp only [std,inj] at *); with_reducible and_intros)
 all_goals (try exact zG)
 all_goals rfl)
abbrev Z44  : Ct:=⟨74,[],[],[.arr true 4 (Yia.map Yfq)],.sv (.one (.ref 0))⟩
def Z12  : Lp Nat:=.mk 36 0 (fun x=>[(1,.one (.ref 0)),(21,.one (.ref 1)),(22,li 14),(23,hs x 0)]) (fun x=>[ho x 1,.arr true 1 (List.map Yi1
 Yi8)]) (fun k=>[.s (li (k:Int)),.o (.arr true 4 ((Ylb k).map Yfq))]) (fun k=>k<=14) (fun k=>14 - k) [.mk True (.exit 2) (fun x=>[(1,.one
 (.ref 0))]) (fun x=>[ho x 0]) [.o (.arr true 4 (Yia.map Yfq))]]
def Z13  : Lp Nat:=.mk 36 0 (fun x=>[(1,.one (.ref 0)),(7,.one (.ref 1)),(8,li 12),(9,hs x 0)]) (fun x=>[ho x 1,.arr true 1 (List.map Yi1
 Yif)]) (fun k=>[.s (li (k:Int)),.o (.arr true 4 ((Yj6 k).map Yfq))]) (fun k=>k<=12) (fun k=>12 - k) [.mk True (.exit 0) (fun x=>[(1,.one
 (.ref 0))]) (fun x=>[ho x 0]) [.o (.arr true 4 ((Ylb 0).map Yfq))]]
theorem Z6r  : Lp.Sem Tryz.prog (Yg6 Tryz.f74 1) Z12:=Ygf (fun k=>.i ((k:Int)<14) (.p (0<=(k:Int)/\(k:Int).toNat<14) (.w
 (.cells (Yi1 (Yi8.getD (k:Int).toNat default))) (.p ((Yi8.map Yi1)[(k:Int).toNat]? = some [cS (Yi8.getD (k:Int).toNat default)]) (.p (((List.map
 Yfq (Ylb k)).length+1) * 56<=140737488355328) (.r ((k:Int)+1) (.g [3,1] (k+1) [.s (li ((k:Int)+1)),.o (.arr true 4 ((Ylb k).map Yfq++[[cS
 (Yi8.getD (k:Int).toNat default),.list [],cI 2,cI (k:Int)]]))])))))) (.o 0 [0] [.o (.arr true 4 ((Ylb k).map Yfq))])) (by
 intro k h; try dsimp only [Yfp,Yg0,Z12] at h ⊢
 have e:Yi8.length=14:=rfl
 have g:=@Y1ba k
 have g2:=@Yw5 k
 with_reducible repeat' (first | apply And.intro | exact zR | (intro))
 all_goals ((try simp only [std,inj] at *); with_reducible and_intros)
 all_goals try first | exact z | grind [Y1bo,Yfy,Yfz,Yfs]
 all_goals (rw [Yw5 (by omega)]; exact Yfs (C:=Yfq) (Ylb k) ⟨Yi8.getD k default,[],2,k⟩))
theorem Z6s  : Lp.Sem Tryz.prog (Yg6 Tryz.f74 0) Z13:=Ygf (fun k=>.i ((k:Int)<12) (.p (0<=(k:Int)/\(k:Int).toNat<12) (.w
 (.cells (Yi1 (Yif.getD (k:Int).toNat default))) (.p ((Yif.map Yi1)[(k:Int).toNat]? = some [cS (Yif.getD (k:Int).toNat default)]) (.p (((List.map
 Yfq (Yj6 k)).length+1) * 56<=140737488355328) (.r ((k:Int)+1) (.g [3,1] (k+1) [.s (li ((k:Int)+1)),.o (.arr true 4 ((Yj6 k).map Yfq++[[cS
 (Yif.getD (k:Int).toNat default),.list [],cI 1,cI (k:Int)]]))])))))) (.o 0 [0] [.o (.arr true 4 ((Yj6 k).map Yfq))])) (by
 intro k h; try dsimp only [Yfp,Yg0,Z13] at h ⊢
 have e:Yif.length=12:=rfl
 have g:=@Yyb k
 have g2:=@Ywe k
 with_reducible repeat' (first | apply And.intro | exact zR | (intro))
 all_goals ((try simp only [std,inj] at *); with_reducible and_intros)
 all_goals try first | exact z | grind [Y1b7,Y17p,Yfy,Yfz,Yfs]
 all_goals (rw [Ywe (by omega)]; exact Yfs (C:=Yfq) (Yj6 k) ⟨Yif.getD k default,[],1,k⟩))
theorem Z8a   : Z44:=Yg4 Tryz.call74 Tryz.func74 (.w (.bool false) (.c [] Z6q (.h (12<=9223372036854775807) (.l Z13
 Z6s [0,1] [.s (li 0),.o (.arr true 4 [])] 0 (.t (.c [] Z43 (.h (14<=9223372036854775807) (.l Z12 Z6r [0,1] [.s (li
 0),.o (.arr true 4 ((Ylb 0).map Yfq))] 0 (.t (.f [0] [.arr true 4 (Yia.map Yfq)] (.sv (.one (.ref 0)))) .q)))) .q))))) (by
 dsimp only [Yfp,Z44,Yg0,Z13,Z12]
 with_reducible repeat' (first | apply And.intro | exact zR | (intro))
 all_goals ((try simp only [std,inj] at *); with_reducible and_intros)
 all_goals (try exact zG)
 all_goals rfl)
abbrev Z5z  : Ct:=⟨164,[],[],[.arr true 1 (Yif.map Yi1)],.sv (.one (.ref 0))⟩
theorem Zao   : Z5z:=Yg4 Tryz.call164 Tryz.func164 (.f [0] [.arr true 1 [[cS (ByteArray.mk #[(113:UInt8),(117:UInt8),(111:UInt8),(116:UInt8),(101
 : UInt8)])],[cS (ByteArray.mk #[(108:UInt8),(97:UInt8),(109:UInt8),(98:UInt8),(100:UInt8),(97:UInt8)])],[cS (ByteArray.mk #[(105:UInt8),(102:UInt8)])],[cS
 (ByteArray.mk #[(115:UInt8),(101:UInt8),(116:UInt8),(33:UInt8)])],[cS (ByteArray.mk #[(98:UInt8),(101:UInt8),(103:UInt8),(105:UInt8),(110:UInt8)])],[cS
 (ByteArray.mk #[(114:UInt8),(101:UInt8),(115:UInt8),(101:UInt8),(116:UInt8)])],[cS (ByteArray.mk #[(115:UInt8),(104:UInt8),(105:UInt8),(102:UInt8),(116
 : UInt8)])],[cS (ByteArray.mk #[(100:UInt8),(101:UInt8),(102:UInt8),(105:UInt8),(110:UInt8),(101:UInt8)])],[cS (ByteArray.mk #[(100:UInt8),(101:UInt8),
 (102:UInt8),(105:UInt8),(110:UInt8),(101:UInt8),(45:UInt8),(115:UInt8),(121:UInt8),(110:UInt8),(116:UInt8),(97:UInt8),(120:UInt8)])],[cS
 (ByteArray.mk #[(108:UInt8),(101:UInt8),(116:UInt8),(45:UInt8),(115:UInt8),(121:UInt8),(110:UInt8),(116:UInt8),(97:UInt8),(120:UInt8)])],[cS
 (ByteArray.mk #[(115:UInt8),(121:UInt8),(110:UInt8),(116:UInt8),(97:UInt8),(120:UInt8),(45:UInt8),(114:UInt8),(117:UInt8),(108:UInt8),(101:UInt8),
 (115:UInt8)])],[cS (ByteArray.mk #[(108:UInt8),(111:UInt8),(99:UInt8),(97:UInt8),(108:UInt8)])]]] (.sv (.one (.ref 0)))) (by
 dsimp only [Yfp,Z5z]
 with_reducible repeat' (first | apply And.intro | exact zR | (intro))
 all_goals ((try simp only [std,inj] at *); with_reducible and_intros)
 all_goals (try exact zG)
 all_goals rfl)
abbrev Z3h  : Ct:=⟨165,[],[],[.arr true 1 (Yi8.map Yi1)],.sv (.one (.ref 0))⟩
theorem Z7c   : Z3h:=Yg4 Tryz.call165 Tryz.func165 (.f [0] [.arr true 1 [[cS (ByteArray.mk #[(43:UInt8)])],[cS (ByteArray.mk #[(45:UInt8)])],
 [cS (ByteArray.mk #[(42:UInt8)])],[cS (ByteArray.mk #[(61:UInt8)])],[cS (ByteArray.mk #[(60:UInt8)])],[cS (ByteArray.mk #[(99:UInt8),(111:UInt8),(110:UInt8),(115
 : UInt8)])],[cS (ByteArray.mk #[(99:UInt8),(97:UInt8),(114:UInt8)])],[cS (ByteArray.mk #[(99:UInt8),(100:UInt8),(114:UInt8)])],[cS (ByteArray.mk #[(110 :
 UInt8),(117:UInt8),(108:UInt8),(108:UInt8),(63:UInt8)])],[cS (ByteArray.mk #[(112:UInt8),(97:UInt8),(105:UInt8),(114:UInt8),(63:UInt8)])],[cS
 (ByteArray.mk #[(110:UInt8),(117:UInt8),(109:UInt8),(98:UInt8),(101:UInt8),(114:UInt8),(63:UInt8)])],[cS (ByteArray.mk #[(101:UInt8),(113:UInt8),(63 :
 UInt8)])],[cS (ByteArray.mk #[(110:UInt8),(111:UInt8),(116:UInt8)])],[cS (ByteArray.mk #[(100:UInt8),(105:UInt8),(115:UInt8),(112:UInt8),(108:UInt8),(97 :
 UInt8),(121:UInt8)])]]] (.sv (.one (.ref 0)))) (by
 dsimp only [Yfp,Z3h]
 with_reducible repeat' (first | apply And.intro | exact zR | (intro))
 all_goals ((try simp only [std,inj] at *); with_reducible and_intros)
 all_goals (try exact zG)
 all_goals rfl)
set_option maxHeartbeats 4000000
def Y1gz (k:Int):Int:=if k=1 then 11 else if k=2 then 13 else if k=3 then 99999 else if k=4 then 99999 else -1
def Yln (b:YB):Bool:=Yim b.text&&Yka b.scopes&&decide (0<=b.number/\b.number<=Y1gz b.kind)
abbrev Z8b (b:YB):Ct:=⟨77,[],[Yqj b],[],.sv (lb (Yln b))⟩
theorem Z4v (b:YB)  : Z8b b:=Yg4 Tryz.call77 Tryz.func77 (.i (b.kind=1) (.c [] Z6q (.h (12<=9223372036854775807) (.r 11 (.c [.rd] (Zh
 b.text) (.b (Yim b.text) (.c [.rd] (Z2u b.scopes) (.b (Yka b.scopes) (.c [.rd,.rd,.rd] (Z1i b.number 0 11) (.s (lb (decide (0<=b.number/\b.number<=11))))) (.s (lb
 false)))) (.y false (.s (lb false)))))))) (.i (b.kind=2) (.c [] Z43 (.h (14<=9223372036854775807) (.r 13 (.c [.rd] (Zh b.text) (.b (Yim b.text) (.c
 [.rd] (Z2u b.scopes) (.b (Yka b.scopes) (.c [.rd,.rd,.rd] (Z1i b.number 0 13) (.s (lb (decide (0<=b.number/\b.number<=13))))) (.s (lb false)))) (.y false (.s (lb
 false)))))))) (.i (b.kind=3) (.y true (.c [.rd] (Zh b.text) (.b (Yim b.text) (.c [.rd] (Z2u b.scopes) (.b (Yka b.scopes) (.c [.rd,.rd,.rd] (Z1i b.number 0
 99999) (.s (lb (decide (0<=b.number/\b.number<=99999))))) (.s (lb false)))) (.y false (.s (lb false)))))) (.i (b.kind=4) (.c [.rd] (Zh b.text) (.b (Yim b.text) (.c
 [.rd] (Z2u b.scopes) (.b (Yka b.scopes) (.c [.rd,.rd,.rd] (Z1i b.number 0 99999) (.s (lb (decide (0<=b.number/\b.number<=99999))))) (.s (lb false)))) (.y false (.s
 (lb false))))) (.c [.rd] (Zh b.text) (.b (Yim b.text) (.c [.rd] (Z2u b.scopes) (.b (Yka b.scopes) (.c [.rd,.rd,.rd] (Z1i b.number 0 (-1:Int)) (.s (lb
 (decide (0<=b.number/\b.number<=(-1:Int)))))) (.s (lb false)))) (.y false (.s (lb false))))))))) (by
 dsimp only [Yfp,Z8b]
 have e1:Yif.length=12:=rfl
 have e2:Yi8.length=14:=rfl
 with_reducible repeat' (first | apply And.intro | exact zR | (intro) | apply mIc | apply mOc | apply mSc | apply mLc)
 all_goals ((try simp only [std,inj] at *); with_reducible and_intros)
 all_goals try first | exact z | exact zM | grind [Yln,Y1gz,Yfy,Yfz,Yfs])
abbrev Z8c (b:YB):Ct:=⟨85,[],[Yqj b],[],.sv (lb (Yln b))⟩
theorem Zeh (b:YB)  : Z8c b:=Yg4 Tryz.call85 Tryz.func85 (.c [.rd] (Z3m b.text) (.b (!Yim b.text) (.y true (.y true (.s (lb false)))) (.c [.rd]
 (Z40 b.scopes) (.b (!Yka b.scopes) (.y true (.s (lb false))) (.i (b.number<0) (.s (lb false)) (.i (b.kind=1) (.w (.draw []) (.c [] Zao (.h (12 <=
 9223372036854775807) (.s (lb (decide (b.number<12))))))) (.i (b.kind=2) (.w (.draw []) (.c [] Z7c (.h (14<=9223372036854775807) (.s (lb (decide (b.number <
 14))))))) (.i (b.kind=3) (.y true (.s (lb (decide (b.number<=99999))))) (.i (b.kind=4) (.s (lb (decide (b.number<=99999)))) (.s (lb false))))))))))) (by
 dsimp only [Yfp,Z8c]
 have e1:Yif.length=12:=rfl
 have e2:Yi8.length=14:=rfl
 with_reducible repeat' (first | apply And.intro | exact zR | (intro) | apply mIc | apply mOc | apply mSc | apply mLc | apply Z3m | apply Z40)
 all_goals ((try simp only [std,inj] at *); with_reducible and_intros)
 all_goals try with_reducible first | apply Z3m | apply Z40
 all_goals try first | exact z | exact zM | grind [Yln,Y1gz,Yfy,Yfz,Yfs])
def clB (t:ByteArray) (s:List Int) (x:YB):Bool:=decide (x.text=t)&&decide (x.scopes=s)
def Yk5 (L:List YB) (t:ByteArray) (s:List Int):Bool:=L.any (clB t s)
abbrev Z67 (L:List YB) (b:YB):Ct:=⟨78,[],[ll (L.map Yfq),Yqj b],[],.sv (lb (Yk5 L b.text b.scopes))⟩
def Z3r (L:List YB) (b:YB):Lp Nat:=.mk 26 0 (fun x=>[(3,.one (.ptr 0 0)),(7,ll (L.map Yfq)),(8,li (↑(L.map Yfq).length :
 Int)),(9,hs x 0)]) (fun x=>[.box (vals (Ygi b))]) (fun k=>[.s (li (k:Int))]) (fun k=>k<=L.length/\L.length<=9223372036854775807/\Yk5 (L.take k) b.text
 b.scopes=false) (fun k=>L.length - k) [.mk (Yk5 L b.text b.scopes=false) (.exit 0) (fun x=>[]) (fun x=>[]) [],.mk (Yk5 L b.text b.scopes=true) .ret (fun x=>[(4,
 hs x 0)]) (fun x=>[]) [.s (lb true)]]
theorem Zbn (L:List YB) (b:YB):Lp.Sem Tryz.prog (Yg6 Tryz.f78 0) (Z3r L b):=Ygf (fun k=>.i ((k:Int)<(↑(L.map Yfq).length :
 Int)) (.x (k:Int) (L.map Yfq) (Ygi (L.getD k default)) (.i ((L.getD k default).text.data.toList=b.text.data.toList) (.c [.rd,.rd] (Z7h (L.getD k
 default).scopes b.scopes) (.i ((L.getD k default).scopes=b.scopes) (.o 1 [] [.s (lb true)]) (.r ((k:Int)+1) (.g [0] (k+1) [.s (li ((k:Int)+1))])))) (.y false (.r
 ((k:Int)+1) (.g [0] (k+1) [.s (li ((k:Int)+1))]))))) (.o 0 [] [])) (by
 intro k h; try dsimp only [Yfp,Yg0,Z3r] at h ⊢
 with_reducible repeat' (first | apply And.intro | exact zR | (intro) | apply mIc | apply mOc | apply mSc | apply mLc)
 all_goals ((try simp only [std,inj] at *); with_reducible and_intros)
 all_goals try first | exact z | exact zM | grind [Ygg,Yk5,clB,Yfx,Ykr,Yfy,Yfz,Yfs])
theorem Z68 (L:List YB) (b:YB)  : Z67 L b:=Yg4 Tryz.call78 Tryz.func78 (.z Yfq L (.l (Z3r L b) (Zbn L b) [0] [.s (li 0)] 0 (.t (.s
 (lb false)) (.t (.s (lb true)) .q)))) (by
 dsimp only [Yfp,Z67,Yg0,Z3r]
 with_reducible repeat' (first | apply And.intro | exact zR | (intro) | apply mIc | apply mOc | apply mSc | apply mLc)
 all_goals ((try simp only [std,inj] at *); with_reducible and_intros)
 all_goals try first | exact z | exact zM | grind [Yk5,Yfy,Yfz,Yfs])
def Yiz (L:List YB):Nat->Bool
 | 0=>true
 | k+1=>Yiz L k&&(Yln (L.getD k default) && !Yk5 (L.take k) (L.getD k default).text (L.getD k default).scopes)
theorem Yt7 (L:List YB):∀ (m k:Nat),k<=m->Yiz L m=true->Yiz L k=true
 | 0,k,h,_=>by
  obtain rfl:k=0:=by omega
  rfl
 | m+1,k,h,ht=>by
  by_cases e:k=m+1
  ·rw [e]; exact ht
  ·refine Yt7 L m k (by omega) ?_
   simp only [Yiz,Bool.and_eq_true] at ht; exact ht.1
def Yu1 (L:List YB):Bool:=Yiz L L.length&&decide ((L.length:Int)<=1000)
abbrev Zap (L:List YB):Ct:=⟨36,[],[ll (L.map Yfq)],[],.sv (lb (Yu1 L))⟩
def Z56 (L:List YB):Lp Nat:=.mk 26 0 (fun x=>[(0,ll (L.map Yfq)),(5,ll (L.map Yfq)),(6,li (↑(L.map Yfq).length:Int)),(7,hs
 x 0)]) (fun x=>[]) (fun k=>[.s (li (k:Int))]) (fun k=>k<=L.length/\L.length<=9223372036854775807/\Yiz L k=true) (fun k=>L.length - k) [.mk (Yiz L L.length =
 true) (.exit 0) (fun x=>[(0,ll (L.map Yfq))]) (fun x=>[]) [],.mk (Yiz L L.length=false) .ret (fun x=>[(2,hs x 0)]) (fun x=>[]) [.s (lb false)]]
theorem Zda (L:List YB):Lp.Sem Tryz.prog (Yg6 Tryz.f36 0) (Z56 L):=Ygf (fun k=>.i ((k:Int)<(↑(L.map Yfq).length:Int)) (.x (k:Int)
 (L.map Yfq) (Ygi (L.getD k default)) (.w (.draw []) (.c [.rd] (Z4v (L.getD k default)) (.b (!Yln (L.getD k default)) (.y true (.o 1 [] [.s (lb false)])) (.p
 (0<=(k:Int)) (.p (0<=(k:Int).toNat/\(k:Int).toNat<=(L.map Yfq).length/\∀ (e:List Cell),e∈L.map Yfq->e.length=4) (.u [.rd,.rd]
 (Z67 (List.take ((k:Int).toNat - 0) (L.drop 0)) (L.getD k default)) (.p (Yjg Tryz.prog 78 [] [ll (List.take ((k:Int).toNat - 0) (List.drop 0 (List.map
 Yfq L))),SV.agg (vals (Ygi (L.getD k default)))] [] (AV.sv (lb (Yk5 (List.take ((k:Int).toNat - 0) (L.drop 0)) (L.getD k default).text (L.getD k
 default).scopes)))) (.b (Yk5 (List.take ((k:Int).toNat - 0) (L.drop 0)) (L.getD k default).text (L.getD k default).scopes) (.o 1 [] [.s (lb false)]) (.r ((k:Int)+1)
 (.g [] (k+1) [.s (li ((k:Int)+1))]))))))))))) (.o 0 [] [])) (by
 intro k h; try dsimp only [Yfp,Yg0,Z56] at h ⊢
 have g1:=Yt7 L L.length (k+1)
 have g2:Yiz L (k+1)=(Yiz L k&&(Yln (L.getD k default) && !Yk5 (L.take k) (L.getD k default).text (L.getD k default).scopes)):=rfl
 with_reducible repeat' (first | apply And.intro | exact zR | (intro) | apply mIc | apply mOc | apply mSc | apply mLc | apply Z4v | apply Z68)
 all_goals ((try simp only [std,inj] at *); with_reducible and_intros)
 all_goals try with_reducible first | apply Z4v | apply Z68
 all_goals try first | exact z | exact zM | grind [Yfx,Yfy,Yfz,Yfs])
theorem Zfd (L:List YB)  : Zap L:=Yg4 Tryz.call36 Tryz.func36 (.z Yfq L (.l (Z56 L) (Zda L) [] [.s (li 0)] 0 (.t (.z Yfq L (.s (lb (decide
 ((↑(L.map Yfq).length:Int)<=1000))))) (.t (.s (lb false)) .q)))) (by
 dsimp only [Yfp,Zap,Yg0,Z56]
 with_reducible repeat' (first | apply And.intro | exact zR | (intro) | apply mIc | apply mOc | apply mSc | apply mLc)
 all_goals ((try simp only [std,inj] at *); with_reducible and_intros)
 all_goals try first | exact z | exact zM | grind [Yu1,Yiz,Yfy,Yfz,Yfs])
def plc (L:List YB):Nat->ByteArray->List Int
 | 0,_=>[]
 | k+1,s=>if s=(L.getD k default).text then plc L k s++[(k:Int)] else plc L k s
theorem Y1ls {L:List YB} {k:Nat}:Ynp (plc L k) (L.getD k default).text (plc L k (L.getD k default).text++[(k:Int)])=plc L (k+1):=by
 funext s; simp only [Ynp,plc]; split
 ·rename_i h; rw [h]
 ·rfl
theorem Y1gr {L:List YB}:zL=plc L 0:=rfl
theorem Y19l (L:List YB) (s:ByteArray):∀ k,(plc L k s).length<=k
 | 0=>Nat.le_refl _
 | k+1=>by
  have:=Y19l L s k
  simp only [plc]; split
  ·simp; omega
  ·omega
theorem Yvn (L:List YB) (s:ByteArray):∀ k (i:Int),i∈plc L k s ↔ (0<=i/\i<k/\(L.getD i.toNat default).text=s)
 | 0,i=>by simp [plc]; omega
 | k+1,i=>by
  have ih:=Yvn L s k i
  simp only [plc]; split
  ·rename_i h
   rw [List.mem_append,ih,List.mem_singleton]
   constructor
   ·rintro (⟨a,b,c⟩ | rfl)
    ·exact ⟨a,by omega,c⟩
    ·exact ⟨by omega,by omega,by rw [Int.toNat_natCast]; exact h.symm⟩
   ·rintro ⟨a,b,c⟩
    by_cases e:i=k
    ·exact .inr e
    ·exact .inl ⟨a,by omega,c⟩
  ·rename_i h
   rw [ih]
   constructor
   ·rintro ⟨a,b,c⟩; exact ⟨a,by omega,c⟩
   ·rintro ⟨a,b,c⟩
    refine ⟨a,?_,c⟩
    by_cases e:i=k
    ·subst e; rw [Int.toNat_natCast] at c; exact absurd c.symm h
    ·omega
def Ysf (L:List YB) (s:List Int) (P:List Int):Bool:=P.all fun i => !decide ((L.getD i.toNat default).scopes=s)
theorem Y1ay {L:List YB} {k:Nat} {t:ByteArray} {s:List Int} (hk:k<=L.length):Ysf L s (plc L k t) = !Yk5 (L.take k) t s:=by
 rw [Bool.eq_iff_iff]
 simp only [Ysf,Yk5,clB,List.all_eq_true,Bool.not_eq_true',decide_eq_false_iff_not,List.any_eq_false,Bool.and_eq_true,decide_eq_true_eq,not_and]
 constructor
 ·intro h x hx e
  obtain ⟨j,hj,rfl⟩:=List.getElem_of_mem hx
  rw [List.length_take] at hj
  have e2:(L.take k)[j]'(by rw [List.length_take]; exact hj)=L.getD j default:=by simp [show j<L.length by omega]
  rw [e2] at e ⊢
  have:=h (j:Int) ((Yvn L t k j).2 ⟨by omega,by omega,by rw [Int.toNat_natCast]; exact e⟩)
  rwa [Int.toNat_natCast] at this
 ·intro h i hi
  obtain ⟨a,b,c⟩:=(Yvn L t k i).1 hi
  refine h _ ?_ c
  have e:L.getD i.toNat default=(L.take k)[i.toNat]'(by rw [List.length_take]; omega):=by simp [show i.toNat<L.length by omega]
  rw [e]; exact List.getElem_mem _
theorem Y1jz {L:List YB} {s:List Int} {P:List Int} {j:Nat} (h:j<P.length) (e:(L.getD (P.getD j default).toNat default).scopes=s):Ysf L s P=false:=by
 unfold Ysf; rw [List.all_eq_false]; exact ⟨_,Yfx h,by rw [decide_eq_true e]; decide⟩
theorem Y1e9 {L:List YB} {s:List Int} {P:List Int} {j:Nat} (h:j<P.length) (h0:Ysf L s (P.take j)=true) (e:(L.getD (P.getD j default).toNat default).scopes≠s):Ysf L s (P.take (j+1))=true:=by
 unfold Ysf at *; rw [Ygg h,List.all_append,h0]; simpa using e
abbrev Zaq (L:List YB):Ct:=⟨33,[],[ll (L.map Yfq)],[],.sv (lb (Yu1 L))⟩
def Z57 (L:List YB) (k:Nat):Lp Nat:=.mk 51 0 (fun x=>[(0,ll (L.map Yfq)),(3,.one (.mref 0)),(4,li (k:Int)),(5,.one (.ptr 1 0)),
 (12,ll (L.map Yfq)),(13,li (↑(L.map Yfq).length:Int)),(14,li (k:Int)),(25,.one (.bor 0 (.list ((plc L k (L.getD k
 default).text).map Yfr)))),(26,li (↑((plc L k (L.getD k default).text).map Yfr).length:Int)),(27,hs x 0)]) (fun x=>[.map false kL (mL (plc L k)),.box (vals (Ygi
 (L.getD k default)))]) (fun k1=>[.s (li (k1:Int))]) (fun k1=>k1<=(plc L k (L.getD k default).text).length/\(plc L k (L.getD k default).text).length<=9223372036854775807
 /\ k<L.length/\Yiz L k=true/\Yln (L.getD k default)=true/\Ysf L (L.getD k default).scopes (List.take k1 (plc L k (L.getD k default).text))=true) (fun k1=>(plc L k
 (L.getD k default).text).length - k1) [.mk (Yiz L (k+1)=true) (.exit 2) (fun x=>[(0,ll (L.map Yfq)),(3,.one (.mref 0)),(4,li (k:Int)),(5,.one
 (.ptr 1 0)),(12,ll (L.map Yfq)),(13,li (↑(L.map Yfq).length:Int)),(14,li (k:Int))]) (fun x=>[.map false kL (mL (plc L k)),.box (vals
 (Ygi (L.getD k default)))]) [],.mk (Yiz L L.length=false) .ret (fun x=>[(2,hs x 0)]) (fun x=>[]) [.s (lb false)]]
def Z58 (L:List YB):Lp Nat:=.mk 51 0 (fun x=>[(0,ll (L.map Yfq)),(3,.one (.mref 0)),(12,ll (L.map Yfq)),(13,li (↑(List.map
 Yfq L).length:Int)),(14,hs x 0)]) (fun x=>[ho x 1]) (fun k=>[.s (li (k:Int)),.o (.map false kL (mL (plc L k)))]) (fun k=>k<=L.length/\L.length <=
 9223372036854775807/\L.length<=1000/\Yiz L k=true) (fun k=>L.length - k) [.mk (Yiz L L.length=true) (.exit 0) (fun x=>[]) (fun x=>[]) [],.mk (Yiz L L.length =
 false) .ret (fun x=>[(2,hs x 0)]) (fun x=>[]) [.s (lb false)]]
theorem Zdb (L:List YB) (k:Nat):Lp.Sem Tryz.prog (Yg6 Tryz.f33 1) (Z57 L k):=Ygf (fun k1=>.i ((k1:Int)<(↑((plc L k (L.getD k
 default).text).map Yfr).length:Int)) (.x (k1:Int) ((plc L k (L.getD k default).text).map Yfr) [cI ((plc L k (L.getD k default).text).getD k1 0)] (.w (.draw []) (.x ((plc L k
 (L.getD k default).text).getD k1 0) (L.map Yfq) (Ygi (L.getD ((plc L k (L.getD k default).text).getD k1 0).toNat default)) (.c [.rd,.rd] (Z7i (L.getD ((plc
 L k (L.getD k default).text).getD k1 0).toNat default).scopes (L.getD k default).scopes) (.i ((L.getD ((plc L k (L.getD k default).text).getD k1 0).toNat default).scopes=(L.getD
 k default).scopes) (.o 1 [] [.s (lb false)]) (.r ((k1:Int)+1) (.g [0,1] (k1+1) [.s (li ((k1:Int)+1))]))))))) (.o 0 [0,1] [])) (by
 intro k1 h; try dsimp only [Yfp,Yg0,Z57] at h ⊢
 have g1:=Yt7 L L.length (k+1)
 have g2:Yiz L (k+1)=(Yiz L k&&(Yln (L.getD k default) && !Yk5 (L.take k) (L.getD k default).text (L.getD k default).scopes)):=rfl
 have g3:=@Y1ay L k (L.getD k default).text (L.getD k default).scopes
 have g4:=@Y1jz L (L.getD k default).scopes (plc L k (L.getD k default).text) k1
 have g5:=@Y1e9 L (L.getD k default).scopes (plc L k (L.getD k default).text) k1
 have g6:=Yvn L (L.getD k default).text k ((plc L k (L.getD k default).text).getD k1 default)
 have g7:∀ j,(plc L k (L.getD k default).text).length<=j->(plc L k (L.getD k default).text).take j=plc L k (L.getD k default).text:=fun j h=>List.take_of_length_le h
 with_reducible repeat' (first | apply And.intro | exact zR | (intro) | apply mIc | apply mOc | apply mSc | apply mLc)
 all_goals ((try simp only [std,inj] at *); with_reducible and_intros)
 all_goals try first | exact z | exact zM | grind [Yfx,Yfy,Yfz,Yfs])
theorem Zdc (L:List YB):Lp.Sem Tryz.prog (Yg6 Tryz.f33 0) (Z58 L):=Ygf (fun k=>.i ((k:Int)<(↑(L.map Yfq).length:Int)) (.x (k:Int)
 (L.map Yfq) (Ygi (L.getD k default)) (.c [.rd] (Zeh (L.getD k default)) (.b (!Yln (L.getD k default)) (.o 1 [] [.s (lb false)]) (.w (.cells [.list
 ((plc L k (L.getD k default).text).map Yfr)]) (.p (Ynf (Value.slice none 0 0) (mL (plc L k)) (Value.string (L.getD k default).text) (Cell.list ((plc L k
 (L.getD k default).text).map Yfr))) (.z Yfr (plc L k (L.getD k default).text) (.l (Z57 L k) (Zdb L k) [0,1] [.s (li 0)] 0 (.t (.w (.draw [(6,[0]),(9,[6,7]),(10,[8,
 0])]) (.w (.taken ((plc L k (L.getD k default).text).map Yfr) 1 (mLt (plc L k) (L.getD k default).text)) (.p (Ynf (Value.slice none 0 0) (mL (plc L k)) (Value.string
 (L.getD k default).text) (Cell.list ((plc L k (L.getD k default).text).map Yfr))) (.p (Ylt kL.d (mL (plc L k)) (mLt (plc L k) (L.getD k default).text) (Value.string (L.getD
 k default).text) (some Cell.any)) (.p (some (Value.slice none 0 0)=some (Value.slice none 0 0)) (.p (∀ (x:List Cell),x∈(plc L k (L.getD k default).text).map Yfr ->
 x.length=1) (.p ((((plc L k (L.getD k default).text).map Yfr).length+1) * 8<=140737488355328) (.w (.upd (mL (Ynp (plc L k) (L.getD k default).text (plc L k (L.getD k
 default).text++[(k:Int)])))) (.p (false=false) (.p (Ylt kL.d (mLt (plc L k) (L.getD k default).text) (mL (Ynp (plc L k) (L.getD k default).text (plc L k (L.getD k
 default).text++[(k:Int)]))) (Value.string (L.getD k default).text) (some (Cell.list ((plc L k (L.getD k default).text).map Yfr++[[cI (k:Int)]])))) (.r ((k:Int)
 + 1) (.g [0] (k+1) [.s (li ((k:Int)+1)),.o (.map false kL (mL (Ynp (plc L k) (L.getD k default).text (plc L k (L.getD k default).text++[(k:Int)]))))]))))))))))))
 (.t (.o 1 [] [.s (lb false)]) .q))))))))) (.o 0 [] [])) (by
 intro k h; try dsimp only [Yfp,Yg0,Z58,Z57] at h ⊢
 have g1:=Yt7 L L.length (k+1)
 have g2:Yiz L (k+1)=(Yiz L k&&(Yln (L.getD k default) && !Yk5 (L.take k) (L.getD k default).text (L.getD k default).scopes)):=rfl
 have g3:=Y19l L (L.getD k default).text k
 have g4:=@Y1ls L k
 have g5:Ysf L (L.getD k default).scopes ((plc L k (L.getD k default).text).take 0)=true:=rfl
 with_reducible repeat' (first | apply And.intro | exact zR | (intro) | apply mIc | apply mOc | apply mSc | apply mLc)
 all_goals ((try simp only [std,inj] at *); with_reducible and_intros)
 all_goals try first | exact z | exact zM | grind [Yfx,Yfy,Yfz,Yfs]
 all_goals (try (exact Y1e1 (by simp [Yfr]))))
theorem Zfe (L:List YB)  : Zaq L:=Yg4 Tryz.call33 Tryz.func33 (.z Yfq L (.i (1000<(↑(L.map Yfq).length:Int)) (.s (lb false)) (.w (.mkmap kL) (.z
 Yfq L (.l (Z58 L) (Zdc L) [0] [.s (li 0),.o (.map false kL (mL zL))] 0 (.t (.s (lb true)) (.t (.s (lb false)) .q))))))) (by
 dsimp only [Yfp,Zaq,Yg0,Z58]
 with_reducible repeat' (first | apply And.intro | exact zR | (intro) | apply mIc | apply mOc | apply mSc | apply mLc)
 all_goals ((try simp only [std,inj] at *); with_reducible and_intros)
 all_goals try first | exact z | exact zM | grind [Yu1,Yiz,Y1gr,Yfy,Yfz,Yfs])
def Y1ql (l:List YS):List Cell:=[.list (l.map Yfn)]
def Y1qr (l:List YS):List Cell:=[.list (l.map Yfn)]
instance:Row (List YS) Y1ql Y1qr 1:=⟨fun _=>rfl,fun _=>rfl⟩
theorem Y114 {u:Nat} (h:u<10):Lib.decDigits u=[UInt8.ofNat (48+u)]:=by rw [Lib.decDigits,dif_pos h]
theorem Y172 {u:Nat} (h:¬ u<10):Lib.decDigits u=Lib.decDigits (u / 10)++[UInt8.ofNat (48+u % 10)]:=by rw [Lib.decDigits,dif_neg h]
theorem Y189:∀ (k u:Nat),u<10 ^ (k+1)->(Lib.decDigits u).length<=k+1
 | k,u,h=>by
  by_cases hu:u<10
  ·rw [Y114 hu]; simp
  ·cases k with
   | zero=>exact absurd (by simpa using h) hu
   | succ k=>
    have:=Y189 k (u / 10) (by rw [Nat.pow_succ] at h; omega)
    rw [Y172 hu]; simp only [List.length_append,List.length_cons,List.length_nil]; omega
def dgs (u:Nat):List UInt8:=if u=0 then [] else Lib.decDigits u
theorem Y1i1 {u:Nat} (h:u≠0):dgs u=dgs (u / 10)++[UInt8.ofNat (48+u % 10)]:=by
 unfold dgs
 rw [if_neg h]
 by_cases hu:u<10
 ·rw [Y114 hu,if_pos (by omega),Nat.mod_eq_of_lt hu]; rfl
 ·rw [Y172 hu,if_neg (by omega)]
theorem Y1hw:dgs 0=[]:=rfl
theorem Y1nq {u:Nat} (h:u≠0):dgs u=Lib.decDigits u:=if_neg h
theorem Y13p {n:Int} (h:0<=n):Lib.itoa n=Lib.decDigits n.natAbs:=by
 unfold Lib.itoa; rw [if_neg (by omega)]; congr 1; omega
theorem Y1i4 {n:Int} (h:n<0):Lib.itoa n=45 :: Lib.decDigits n.natAbs:=by unfold Lib.itoa; rw [if_pos h]
theorem Y1de:Lib.itoa 0=[48]:=by rw [Y13p (by decide)]; exact Y114 (by decide)
theorem Y1fr {n:Int} (h : -9223372036854775808<=n/\n<=9223372036854775807):(Lib.decDigits n.natAbs).length<=20:=by
 have e:(10:Nat) ^ (19+1)=100000000000000000000:=by decide
 exact Y189 19 n.natAbs (by omega)
def atN (s:ByteArray):Nat:=if 0<(s.size:Int)/\((s.data.toList.getD 0 0).toNat:Int)=45 then 1 else 0
def Y1cf (s:ByteArray):Option Nat:=Lib.decFrom 0 ((tx s).drop (atN s))
def Yue (s:ByteArray):Bool:=(Y1cf s).isSome
def magN (s:ByteArray):Nat:=(Y1cf s).getD 0
def sgN (s:ByteArray):Int:=if atN s=1 then 0 - (magN s:Int) else magN s
def Y1ii (s:ByteArray):Bool:=decide (atN s<s.size/\s.size<=atN s+9)&&Yue s
def Ymn (s:ByteArray):Bool:=Y1ii s&&decide (Lib.itoa (sgN s)=tx s)
def Yo0 (s:ByteArray):Int:=if Ymn s then sgN s else 0
def Yr8 (s:ByteArray) (k:Nat):Option Nat:=Lib.decFrom 0 (((tx s).drop (atN s)).take (k - atN s))
theorem Y1h5 (s:ByteArray):Yr8 s (atN s)=some 0:=by simp [Yr8,Lib.decFrom]
theorem Y1lf {s:ByteArray} {m:Nat} (h:Yr8 s s.size=some m):Yue s=true/\magN s=m:=by
 have e:((tx s).drop (atN s)).take (s.size - atN s)=(tx s).drop (atN s):=List.take_of_length_le (by rw [List.length_drop]; exact Nat.le_refl _)
 unfold Yr8 at h; rw [e] at h
 simp [Yue,magN,Y1cf,h]
theorem Y1q5 (s:ByteArray):atN s<=1:=by unfold atN; split <;> omega
theorem Y171 {l:List UInt8} {a k:Nat} (h1:a<=k) (h2:k<l.length):(l.drop a)[k - a]? = some (l.getD k 0):=by
 rw [List.getElem?_drop,show a+(k - a)=k by omega]; simp [h2]
theorem Y1hq {s:ByteArray} {k m:Nat} (h1:atN s<=k) (h2:k<s.size) (h:Yr8 s k=some m) (hd:48<=((tx s).getD k 0).toNat/\((tx s).getD k 0).toNat<=57) :
  Yr8 s (k+1)=some (m * 10+(((tx s).getD k 0).toNat - 48)):=by
 unfold Yr8 at *
 rw [show k+1 - atN s=k - atN s+1 by omega]
 exact Lib.decFrom_take _ _ _ _ _ _ h (Y171 h1 h2) (by unfold Lib.digitVal; rw [if_pos hd])
theorem Y1hb {s:ByteArray} {k:Nat} (h1:atN s<=k) (h2:k<s.size) (hd:¬ (48<=((tx s).getD k 0).toNat/\((tx s).getD k 0).toNat<=57)):Yue s=false:=by
 cases e:Y1cf s with
 | none=>simp [Yue,e]
 | some m=>
  obtain ⟨d,hd'⟩:=Lib.digit_of_decFrom _ _ _ e _ _ (Y171 h1 h2)
  unfold Lib.digitVal at hd'
  rw [if_neg hd] at hd'; cases hd'
theorem Y1d7 {s:ByteArray} {k m:Nat} (h:Yr8 s k=some m) (hk:k<=atN s+9):m<1000000000:=by
 have h1:=Lib.decFrom_lt _ 0 m h
 have h2:(((tx s).drop (atN s)).take (k - atN s)).length<=9:=by rw [List.length_take]; omega
 have h3:=Nat.pow_le_pow_right (n:=10) (by decide) h2
 have e:(10:Nat) ^ 9=1000000000:=by decide
 omega
theorem Y1es {s:ByteArray} (h:Yue s=true) (hk:s.size<=atN s+9):magN s<1000000000:=by
 have e:((tx s).drop (atN s)).take (s.size - atN s)=(tx s).drop (atN s):=List.take_of_length_le (by rw [List.length_drop]; exact Nat.le_refl _)
 obtain ⟨m,hm⟩:=Option.isSome_iff_exists.1 h
 have:=Y1d7 (s:=s) (k:=s.size) (m:=m) (by unfold Yr8; rw [e]; exact hm) hk
 simp only [magN,hm,Option.getD_some]; exact this
theorem Y1cl {s:ByteArray} (h:Ymn s=true) : -999999999<=Yo0 s/\Yo0 s<=999999999/\Yo0 s=sgN s/\Lib.itoa (sgN s)=tx s:=by
 have e:Yo0 s=sgN s:=by unfold Yo0; rw [if_pos h]
 simp only [Ymn,Y1ii,Bool.and_eq_true,decide_eq_true_eq] at h
 have:=Y1es h.1.2 h.1.1.2
 refine ⟨?_,?_,e,h.2⟩ <;> rw [e] <;> unfold sgN <;> split <;> omega
theorem Y1ha {s:ByteArray} (h:Ymn s=false):Yo0 s=0:=by unfold Yo0; rw [h]; rfl
theorem Y1ef {n:Int}:rng .u8 n ↔ 0<=n/\n<=255:=by
 simp [rng,IntKind.min,IntKind.max,IntKind.signed,IntKind.bits]
theorem Y1jm {m:Int} (h:0<=m/\m<=255):((UInt8.ofNat m.toNat).toNat:Int)=m:=by
 rw [UInt8.toNat_ofNat']; omega
def Yju (n:Int):Bool:=decide (n=32 ∨ n=10 ∨ n=9)
def Ytq (n:Int):Bool:=decide (n=40 ∨ n=41 ∨ n=34 ∨ n=59 ∨ n=39)
def isRu (n:Int):Bool := !Yju n && !Ytq n
def pas (p:Int->Bool):List UInt8->List UInt8
 | []=>[]
 | b :: r=>if p b.toNat then pas p r else b :: r
def pre (p:Int->Bool):List UInt8->List UInt8
 | []=>[]
 | b :: r=>if p b.toNat then b :: pre p r else []
def noQ (n:Int):Bool := !decide (n=34)
theorem Yof (p:Int->Bool):∀ r,pas p r <:+ r
 | []=>List.suffix_refl _
 | b :: r=>by
  unfold pas; split
  ·exact (Yof p r).trans (List.suffix_cons b r)
  ·exact List.suffix_refl _
theorem Y19z (p:Int->Bool):∀ r,pre p r++pas p r=r
 | []=>rfl
 | b :: r=>by
  unfold pas pre; split
  ·rw [List.cons_append,Y19z p r]
  ·rfl
theorem Y16i (p:Int->Bool):∀ r,pas p (pas p r)=pas p r
 | []=>rfl
 | b :: r=>by
  by_cases h:p b.toNat=true
  ·have e:pas p (b :: r)=pas p r:=by show (if p b.toNat=true then pas p r else b :: r)=_; rw [if_pos h]
   rw [e]; exact Y16i p r
  ·have e:pas p (b :: r)=b :: r:=by show (if p b.toNat=true then pas p r else b :: r)=_; rw [if_neg h]
   rw [e,e]
abbrev skp:=pas Yju
def by0 (r:List UInt8):Int:=((r.getD 0 0).toNat:Int)
def Yk1 (t:ByteArray):Option Datum:=
 if Ymn t=true then some ⟨2,Yo0 t,mkS [],[]⟩ else if tx t=[35,116] then some ⟨3,1,mkS [],[]⟩ else if tx t=[35,102] then some ⟨3,0,mkS [],[]⟩ else if Yim t=true then some ⟨1,0,t,[]⟩ else none
def clo (r:List UInt8):Option (List UInt8):=if skp r≠[]/\by0 (skp r)=41 then some ((skp r).drop 1) else none
mutual
/-- does the text read as the datum,and what is left -/
def ckD:Datum->List UInt8->Option (List UInt8)
 | ⟨k,n,t,l⟩,r=>
  if skp r=[] ∨ by0 (skp r)=41 ∨ by0 (skp r)=39 ∨ by0 (skp r)=59 then none
  else if by0 (skp r)=40 then (if k=0/\n=0/\t=mkS [] then (ckP l ((skp r).drop 1)).bind clo else none)
  else if by0 (skp r)=34 then (if k=4/\n=0/\t=mkS (pre noQ ((skp r).drop 1))/\l=[]/\Yjr t=true/\pas noQ ((skp r).drop 1)≠[] then some ((pas noQ ((skp r).drop 1)).drop 1) else none)
  else if Yk1 (mkS (pre isRu (skp r)))=some ⟨k,n,t,l⟩ then some (pas isRu (skp r)) else none
def ckP:List Datum->List UInt8->Option (List UInt8)
 | [],r=>some r
 | x :: l,r=>(ckD x r).bind fun q=>ckP l q
end
theorem Y1dn (d:Datum) (r:List UInt8):ckD d r =
  if skp r=[] ∨ by0 (skp r)=41 ∨ by0 (skp r)=39 ∨ by0 (skp r)=59 then none
  else if by0 (skp r)=40 then (if d.kind=0/\d.number=0/\d.text=mkS [] then (ckP d.items ((skp r).drop 1)).bind clo else none)
  else if by0 (skp r)=34 then (if d.kind=4/\d.number=0/\d.text=mkS (pre noQ ((skp r).drop 1))/\d.items=[]/\Yjr d.text=true/\pas noQ ((skp r).drop 1)≠[] then some ((pas noQ ((skp r).drop 1)).drop 1) else none)
  else if Yk1 (mkS (pre isRu (skp r)))=some d then some (pas isRu (skp r)) else none:=by
 cases d; rw [ckD]
theorem Y16h {r q:List UInt8} (h:clo r=some q):skp r≠[]/\by0 (skp r)=41/\q=(skp r).drop 1:=by
 unfold clo at h; split at h
 ·rename_i e; exact ⟨e.1,e.2,(Option.some.inj h).symm⟩
 ·cases h
theorem Yty (l:List UInt8):l.drop 1 <:+ l:=List.drop_suffix 1 l
theorem Y111 {L:List Datum} (ih:∀ (d:Datum),d∈L->∀ r q,ckD d r=some q->q <:+ r):∀ (l:List Datum),(∀ d∈l,d∈L)->∀ r q,ckP l r=some q->q <:+ r
 | [],_,r,q,h=>by simp only [ckP,Option.some.injEq] at h; rw [h]; exact List.suffix_refl _
 | x :: l,hl,r,q,h=>by
  simp only [ckP,Option.bind_eq_some_iff] at h
  obtain ⟨m,h1,h2⟩:=h
  exact (Y111 ih l (fun d hd=>hl d (List.mem_cons_of_mem _ hd)) m q h2).trans (ih x (hl x List.mem_cons_self) r m h1)
theorem Y19j:∀ (d:Datum) (r q:List UInt8),ckD d r=some q->q <:+ r:=by
 refine Datum.ind fun d ih r q h => ?_
 have hs:=Yof Yju r
 have h1:=(Yty (skp r)).trans hs
 rw [Y1dn] at h
 split at h
 ·cases h
 split at h
 ·split at h
  ·rw [Option.bind_eq_some_iff] at h
   obtain ⟨m,h2,h3⟩:=h
   have h4:=Y16h h3
   rw [h4.2.2]
   exact ((Yty _).trans (Yof Yju m)).trans ((Y111 ih d.items (fun _ h=>h) _ _ h2).trans h1)
  ·cases h
 split at h
 ·split at h
  ·rw [<- Option.some.inj h]
   exact ((Yty _).trans (Yof noQ _)).trans h1
  ·cases h
 split at h
 ·rw [<- Option.some.inj h]; exact (Yof isRu _).trans hs
 ·cases h
def rs (s:ByteArray) (a:Nat):List UInt8:=(tx s).drop a
def plR (s:ByteArray) (r:List UInt8):Nat:=s.size - r.length
theorem Ypy (s:ByteArray) (a:Nat):(rs s a).length=s.size - a:=by unfold rs; rw [List.length_drop]; rfl
theorem Yyn {s:ByteArray} {a:Nat} {q:List UInt8} (ha:a<=s.size) (h:q <:+ rs s a):rs s (plR s q)=q/\a<=plR s q/\plR s q<=s.size/\q.length=s.size - plR s q:=by
 have h1:=h.length_le
 rw [Ypy] at h1
 have h2:q <:+ tx s:=h.trans (List.drop_suffix a _)
 have h3:=(List.suffix_iff_eq_drop.1 h2)
 have e:(tx s).length=s.size:=rfl
 rw [e] at h3
 exact ⟨h3.symm,by unfold plR; omega,by unfold plR; omega,by unfold plR; omega⟩
theorem Yn3 {s:ByteArray} {a:Nat} (h:a<s.size):rs s a=(tx s).getD a 0 :: rs s (a+1):=Yhg (L:=tx s) h
theorem Y1d1 {s:ByteArray} {a:Nat} (h:s.size<=a):rs s a=[]:=List.drop_eq_nil_of_le h
theorem Y1bq {s:ByteArray} {a:Nat}:rs s a≠[] ↔ a<s.size:=by
 constructor
 ·intro h; rcases Nat.lt_or_ge a s.size with e | e
  ·exact e
  ·exact absurd (Y1d1 e) h
 ·intro h; rw [Yn3 h]; simp
theorem Y1ds {s:ByteArray} {a:Nat} (h:a<s.size):by0 (rs s a)=(((tx s).getD a 0).toNat:Int):=by rw [Yn3 h]; rfl
def pst (p:Int->Bool) (s:ByteArray) (a:Nat):Nat:=plR s (pas p (rs s a))
theorem Ynj (p:Int->Bool) {s:ByteArray} {a:Nat} (h:a<=s.size):rs s (pst p s a)=pas p (rs s a)/\a<=pst p s a/\pst p s a<=s.size:=by
 have:=Yyn h (Yof p (rs s a)); exact ⟨this.1,this.2.1,this.2.2.1⟩
theorem Y15a (p:Int->Bool) {s:ByteArray} {a:Nat} (h:a<s.size) (hp:p ((tx s).getD a 0).toNat=true):pst p s (a+1)=pst p s a:=by
 unfold pst; rw [Yn3 h]; simp only [pas]; rw [if_pos hp]
theorem Yxm (p:Int->Bool) {s:ByteArray} {a:Nat} (h:a<=s.size) (hp:a<s.size->p ((tx s).getD a 0).toNat=false):pst p s a=a:=by
 rcases Nat.lt_or_ge a s.size with e | e
 ·unfold pst; rw [Yn3 e]; simp only [pas]; rw [if_neg (by rw [hp e]; decide),<- Yn3 e]
  unfold plR; rw [Ypy]; omega
 ·unfold pst; rw [Y1d1 e]; unfold pas plR; simp; omega
theorem Y1g7 (p:Int->Bool) {s:ByteArray} {a:Nat} (h:a<=s.size):pst p s (pst p s a)=pst p s a:=by
 have h1:=Ynj p h
 unfold pst at h1 ⊢; rw [h1.1,Y16i]
theorem Y18f (p:Int->Bool) {s:ByteArray} {a:Nat} (h:a<=s.size):(rs s a).take (pst p s a - a)=pre p (rs s a):=by
 have h1:=Y19z p (rs s a)
 have h2:=Yyn h (Yof p (rs s a))
 have h3:=congrArg List.length h1
 rw [List.length_append,Ypy] at h3
 have h4:(pre p (rs s a)).length=pst p s a - a:=by unfold pst; omega
 have h5:(pre p (rs s a)++pas p (rs s a)).take (pre p (rs s a)).length=pre p (rs s a):=List.take_left
 rw [h1,h4] at h5; exact h5
def okR (d:Datum) (s:ByteArray) (a:Nat):Bool:=(ckD d (rs s a)).isSome
def enR (d:Datum) (s:ByteArray) (a:Nat):Nat:=plR s ((ckD d (rs s a)).getD [])
def okP (l:List Datum) (s:ByteArray) (a:Nat):Bool:=(ckP l (rs s a)).isSome
def enP (l:List Datum) (s:ByteArray) (a:Nat):Nat:=plR s ((ckP l (rs s a)).getD [])
def sk (s:ByteArray) (a:Nat):Nat:=pst Yju s a
theorem Y1g6 (l:List Datum) (r q:List UInt8) (h:ckP l r=some q):q <:+ r:=Y111 (L:=l) (fun d _=>Y19j d) l (fun _ h=>h) r q h
theorem Y1nz {d:Datum} {s:ByteArray} {a:Nat} (h:a<=s.size) (hd:okR d s a=true):ckD d (rs s a)=some (rs s (enR d s a))/\a<=enR d s a/\enR d s a<=s.size:=by
 obtain ⟨q,hq⟩:=Option.isSome_iff_exists.1 hd
 have:=Yyn h (Y19j d _ _ hq)
 unfold enR; rw [hq,Option.getD_some,this.1]; exact ⟨rfl,this.2.1,this.2.2.1⟩
theorem Yug {l:List Datum} {s:ByteArray} {a:Nat} (h:a<=s.size) (hd:okP l s a=true):ckP l (rs s a)=some (rs s (enP l s a))/\a<=enP l s a/\enP l s a<=s.size:=by
 obtain ⟨q,hq⟩:=Option.isSome_iff_exists.1 hd
 have:=Yyn h (Y1g6 l _ _ hq)
 unfold enP; rw [hq,Option.getD_some,this.1]; exact ⟨rfl,this.2.1,this.2.2.1⟩
theorem Yzt (s:ByteArray) {a:Nat} (h:a<=s.size):enP [] s a=a:=by
 unfold enP; rw [ckP]; unfold plR; rw [Option.getD_some,Ypy]; omega
theorem Ysh:∀ (l m:List Datum) (r:List UInt8),ckP (l++m) r=(ckP l r).bind fun q=>ckP m q
 | [],m,r=>by simp [ckP]
 | x :: l,m,r=>by
  rw [List.cons_append,ckP,ckP]
  cases ckD x r with
  | none=>rfl
  | some q=>simp only [Option.bind_some]; exact Ysh l m q
theorem Yt4 {l:List Datum} {s:ByteArray} {a k:Nat} (h:a<=s.size) (hd:okP l s a=true):okP (l.take k) s a=true:=by
 unfold okP at *; rw [<- List.take_append_drop k l,Ysh] at hd
 cases e:ckP (l.take k) (rs s a) with
 | none=>rw [e] at hd; cases hd
 | some q=>rfl
theorem Y14q {l:List Datum} {s:ByteArray} {a k:Nat} (h:a<=s.size) (hd:okP l s a=true) (hk:k<l.length) :
  okR (l.getD k default) s (enP (l.take k) s a)=true/\enP (l.take (k+1)) s a=enR (l.getD k default) s (enP (l.take k) s a):=by
 have h1:=Yt4 (k:=k) h hd
 have h2:=Yt4 (k:=k+1) h hd
 have h3:=Yug h h1
 rw [Ygg hk] at h2
 have h4:ckP (l.take k++[l.getD k default]) (rs s a)=ckD (l.getD k default) (rs s (enP (l.take k) s a)):=by
  rw [Ysh,h3.1,Option.bind_some,ckP]
  cases ckD (l.getD k default) (rs s (enP (l.take k) s a)) <;> rfl
 constructor
 ·unfold okR; unfold okP at h2; rw [h4] at h2; exact h2
 ·rw [Ygg hk]; unfold enP enR; rw [h4]; rfl
def byt (s:ByteArray) (a:Nat):Int:=((s.data.toList.getD a 0).toNat:Int)
theorem Y1cm (s:ByteArray) (a:Nat):byt s a=(((tx s).getD a 0).toNat:Int):=rfl
def noc (s:ByteArray) (a:Nat):Bool := !(decide (sk s a<s.size)&&decide (byt s (sk s a)=59))
def sbs (s:ByteArray) (a b:Nat):ByteArray:=mkS (((tx s).drop a).take (b - a))
theorem Y1m7 {s:ByteArray} {a:Nat} (h:a<=s.size) {q:List UInt8} (hq:clo (rs s a)=some q):sk s a<s.size/\byt s (sk s a)=41/\plR s q=sk s a+1/\noc s a=true:=by
 have h1:=Y16h hq
 have h2:=(Ynj Yju h).1
 have h3:sk s a<s.size:=Y1bq.1 (by unfold sk; rw [h2]; exact h1.1)
 have h4:byt s (sk s a)=41:=by rw [Y1cm,<- Y1ds h3]; unfold sk; rw [h2]; exact h1.2.1
 refine ⟨h3,h4,?_,by simp [noc,h4]⟩
 have h5:q=rs s (sk s a+1):=by
  rw [h1.2.2]; show (pas Yju (rs s a)).drop 1=_; rw [<- h2]; show (rs s (sk s a)).drop 1=_; rw [Yn3 h3]; rfl
 rw [h5]; unfold plR; rw [Ypy]; omega
theorem Ykp {d : Datum} {s : ByteArray} {a : Nat} (h : a <= s.size) (hd : okR d s a = true) :
    noc s a = true /\ sk s a < s.size /\ byt s (sk s a) ≠ 41 /\ byt s (sk s a) ≠ 39 /\ byt s (sk s a) ≠ 59 /\
    ((byt s (sk s a) = 40 /\ d.kind = 0 /\ d.number = 0 /\ d.text = mkS [] /\ okP d.items s (sk s a + 1) = true /\ noc s (enP d.items s (sk s a + 1)) = true /\ sk s (enP d.items s (sk s a + 1)) < s.size /\ byt s (sk s (enP d.items s (sk s a + 1))) = 41 /\ enR d s a = sk s (enP d.items s (sk s a + 1)) + 1)
     ∨ (byt s (sk s a) = 34 /\ d.kind = 4 /\ d.number = 0 /\ d.items = [] /\ d.text = sbs s (sk s a + 1) (pst noQ s (sk s a + 1)) /\ Yjr d.text = true /\ pst noQ s (sk s a + 1) < s.size /\ enR d s a = pst noQ s (sk s a + 1) + 1)
     ∨ (byt s (sk s a) ≠ 40 /\ byt s (sk s a) ≠ 34 /\ Yk1 (sbs s (sk s a) (pst isRu s (sk s a))) = some d /\ enR d s a = pst isRu s (sk s a))) := by
  obtain ⟨q, hq⟩ := Option.isSome_iff_exists.1 hd
  have he : enR d s a = plR s q := by unfold enR; rw [hq]; rfl
  have h2 := Ynj Yju h
  rw [Y1dn] at hq
  change rs s (sk s a) = skp (rs s a) /\ a <= sk s a /\ sk s a <= s.size at h2
  rw [<- h2.1] at hq
  split at hq
  · cases hq
  rename_i h3
  simp only [not_or] at h3
  have h4 : sk s a < s.size := Y1bq.1 h3.1
  have hb : by0 (rs s (sk s a)) = byt s (sk s a) := by rw [Y1ds h4, Y1cm]
  have hd1 : (rs s (sk s a)).drop 1 = rs s (sk s a + 1) := by rw [Yn3 h4]; rfl
  rw [hb] at h3 hq
  rw [hd1] at hq
  refine ⟨by simp [noc, h3.2.2.2], h4, h3.2.1, h3.2.2.1, h3.2.2.2, ?_⟩
  split at hq
  · rename_i h5
    split at hq
    · rename_i h6
      rw [Option.bind_eq_some_iff] at hq
      obtain ⟨m, h7, h8⟩ := hq
      have ho : okP d.items s (sk s a + 1) = true := by unfold okP; rw [h7]; rfl
      have h9 := Yug (by omega) ho
      rw [h7, Option.some.injEq] at h9
      rw [h9.1] at h8
      have h10 := Y1m7 h9.2.2 h8
      exact .inl ⟨h5, h6.1, h6.2.1, h6.2.2, ho, h10.2.2.2, h10.1, h10.2.1, by rw [he, h10.2.2.1]⟩
    · cases hq
  rename_i h5
  split at hq
  · rename_i h6
    split at hq
    · rename_i h7
      have h8 := Ynj noQ (s := s) (a := sk s a + 1) (by omega)
      rw [<- h8.1] at h7
      have h9 := Y1bq.1 h7.2.2.2.2.2
      refine .inr (.inl ⟨h6, h7.1, h7.2.1, h7.2.2.2.1, ?_, h7.2.2.2.2.1, h9, ?_⟩)
      · unfold sbs; rw [h7.2.2.1, <- Y18f noQ (by omega)]; rfl
      · rw [he, <- Option.some.inj hq, <- h8.1, Yn3 h9]
        show plR s (rs s _) = _
        unfold plR; rw [Ypy]; omega
    · cases hq
  rename_i h6
  split at hq
  · rename_i h7
    have h8 := Ynj isRu (s := s) (a := sk s a) (by omega)
    refine .inr (.inr ⟨h5, h6, ?_, ?_⟩)
    · unfold sbs; rw [show (tx s).drop (sk s a) = rs s (sk s a) from rfl, Y18f isRu (by omega)]; exact h7
    · rw [he, <- Option.some.inj hq, <- h8.1]; unfold plR; rw [Ypy]; omega
  · cases hq
theorem Y1jb {s:ByteArray} {a:Nat} (h:a<=s.size):a<=sk s a/\sk s a<=s.size:=(Ynj Yju h).2
def Ylm (L:List Datum) (s:ByteArray):Bool:=okP L s 0&&decide (sk s (enP L s 0)=s.size)&&L.all Yny&&decide (sumBy sizeD L<=600)&&decide (s.size<=15000)
theorem Y1n3 (s:ByteArray) (a b:Nat):tx (sbs s a b)=(s.data.toList.drop a).take (b - a):=Y1er _
theorem Y1n5 (s:ByteArray) (a b:Nat):sbs s a b=mkS ((s.data.toList.drop a).take (b - a)):=rfl
theorem Y105 {s:ByteArray} {a:Nat} (h:a<=s.size):sk s (sk s a)=sk s a:=Y1g7 Yju h
theorem Y1o4 {s:ByteArray} {a:Nat} (h:a<=s.size):noc s (sk s a)=noc s a:=by unfold noc; rw [Y105 h]
theorem Y1q0 {d:Datum} {s:ByteArray} {a:Nat} (h:a<=s.size) (hd:okR d s a=true):noc s a=true/\sk s a<s.size/\byt s (sk s a)≠41/\byt s (sk s a)≠39/\byt s (sk s a)≠59/\a<=sk s a/\sk s (sk s a)=sk s a/\noc s (sk s a)=true:=by
 have g:=Ykp h hd
 exact ⟨g.1,g.2.1,g.2.2.1,g.2.2.2.1,g.2.2.2.2.1,(Y1jb h).1,Y105 h,by rw [Y1o4 h]; exact g.1⟩
theorem Y1l5 {d:Datum} {s:ByteArray} {a:Nat} (h:a<=s.size) (hd:okR d s a=true) (hb:byt s (sk s a)=40):d.kind=0/\d.number=0/\d.text=mkS []/\enR d s a=sk s (enP d.items s (sk s a+1))+1:=by
 rcases (Ykp h hd).2.2.2.2.2 with g | g | g
 ·exact ⟨g.2.1,g.2.2.1,g.2.2.2.1,g.2.2.2.2.2.2.2.2⟩
 ·omega
 ·omega
theorem Y1m6 {d:Datum} {s:ByteArray} {a:Nat} (h:a<=s.size) (hd:okR d s a=true) (hb:byt s (sk s a)=34):d.kind=4/\d.number=0/\d.items=[]/\d.text=mkS ((s.data.toList.drop (sk s a+1)).take (pst noQ s (sk s a+1) - (sk s a+1)))/\Yjr (mkS ((s.data.toList.drop (sk s a+1)).take (pst noQ s (sk s a+1) - (sk s a+1))))=true/\pst noQ s (sk s a+1)<s.size/\enR d s a=pst noQ s (sk s a+1)+1:=by
 rcases (Ykp h hd).2.2.2.2.2 with g | g | g
 ·omega
 ·have e:=g.2.2.2.2.1
  refine ⟨g.2.1,g.2.2.1,g.2.2.2.1,e,?_,g.2.2.2.2.2.2.1,g.2.2.2.2.2.2.2⟩
  have:=g.2.2.2.2.2.1; rw [e] at this; exact this
 ·omega
theorem Y1mi {d:Datum} {s:ByteArray} {a:Nat} (h:a<=s.size) (hd:okR d s a=true) (h1:byt s (sk s a)≠40) (h2:byt s (sk s a)≠34):Yk1 (sbs s (sk s a) (pst isRu s (sk s a)))=some d/\enR d s a=pst isRu s (sk s a):=by
 rcases (Ykp h hd).2.2.2.2.2 with g | g | g
 ·omega
 ·omega
 ·exact g.2.2
theorem rdl {d:Datum} {s:ByteArray} {a:Nat} (h:a<=s.size) (hd:okR d s a=true) (hb:byt s (sk s a)=40) {k:Nat} (hk:k<=d.items.length) :
  enP (d.items.take k) s (sk s a+1)<=s.size/\noc s (enP (d.items.take k) s (sk s a+1))=true/\sk s (enP (d.items.take k) s (sk s a+1))<s.size/\(byt s (sk s (enP (d.items.take k) s (sk s a+1)))=41 ↔ k=d.items.length) /\
  (k<d.items.length->okR (d.items.getD k default) s (enP (d.items.take k) s (sk s a+1))=true/\enP (d.items.take (k+1)) s (sk s a+1)=enR (d.items.getD k default) s (enP (d.items.take k) s (sk s a+1))) /\
  (k=d.items.length->enP (d.items.take k) s (sk s a+1)=enP d.items s (sk s a+1)):=by
 have g:=Ykp h hd
 rcases g.2.2.2.2.2 with c | c | c
 ·have hs:sk s a+1<=s.size:=g.2.1
  have hp:=Yug hs (Yt4 (k:=k) hs c.2.2.2.2.1)
  have e:k=d.items.length->enP (d.items.take k) s (sk s a+1)=enP d.items s (sk s a+1):=fun e=>by rw [e,List.take_length]
  rcases Nat.lt_or_eq_of_le hk with hl | hl
  ·have st:=Y14q hs c.2.2.2.2.1 hl
   have g2:=Ykp hp.2.2 st.1
   exact ⟨hp.2.2,g2.1,g2.2.1,⟨fun q=>absurd q g2.2.2.1,fun q=>by omega⟩,fun _=>st,e⟩
  ·rw [e hl]
   exact ⟨by rw [<- e hl]; exact hp.2.2,c.2.2.2.2.2.1,c.2.2.2.2.2.2.1,⟨fun _=>hl,fun _=>c.2.2.2.2.2.2.2.1⟩,fun q=>by omega,fun _=>rfl⟩
 ·omega
 ·omega
theorem Y1n6 {d:Datum} {s:ByteArray} {a:Nat} (h:a<=s.size) (hd:okR d s a=true):enP (d.items.take 0) s (sk s a+1)=sk s a+1:=Yzt s (Ykp h hd).2.1
mutual
def Ygm:Datum->YS
 | ⟨k,n,t,l⟩=>⟨k,n,t,[],Yyx l⟩
def Yyx:List Datum->List YS
 | []=>[]
 | x :: r=>Ygm x :: Yyx r
end
theorem Y14z:∀ l,Yyx l=l.map Ygm
 | []=>by simp [Yyx]
 | x :: r=>by rw [Yyx,Y14z r]; rfl
theorem Y19d (d:Datum):Ygm d=⟨d.kind,d.number,d.text,[],d.items.map Ygm⟩:=by cases d; simp only [Ygm,Y14z]
theorem Yz0:∀ d:Datum,wY (Ygm d)=wD d:=by
 refine Datum.ind fun d ih => ?_
 have h:∀ L:List Datum,(∀ x∈L,wY (Ygm x)=wD x)->sumBy wY (L.map Ygm)=sumBy wD L:=by
  intro L; induction L with
  | nil=>intro _; rfl
  | cons x r ihr=>intro h; simp only [List.map_cons,sumBy,h x List.mem_cons_self,ihr fun y hy=>h y (List.mem_cons_of_mem _ hy)]
 rw [Y19d,Yhn,Yl4]
 simp only [List.length_map,List.length_nil,h d.items ih]; omega
def Y15b:Nat->Cr->List Int × Cr
 | 0,c=>([],c)
 | n+1,c=>(Ykb (1+beX (Y15b n c).2 9) (Y15b n c).1,beC (Y15b n c).2 9)
def Yig (n:Nat) (c:Cr):List Int × Cr:=Yje (Y15b n c)
theorem Y10v (n:Nat) (c:Cr):Yig n c=Y15b n c:=Yhd _
theorem Y12b (c:Cr):Yig 0 c=([],c):=by rw [Y10v]; rfl
theorem Y11k (n:Nat) (c:Cr):Yig (n+1) c=(Ykb (1+beX (Yig n c).2 9) (Yig n c).1,beC (Yig n c).2 9):=by rw [Y10v,Y10v]; rfl
theorem Y10k {n:Nat} {c:Cr} (h:okK c):okK (Yig n c).2/\(Yig n c).1.length<=n:=by
 induction n with
 | zero=>rw [Y12b]; exact ⟨h,Nat.le_refl _⟩
 | succ n ih=>
  rw [Y11k]
  have:=Yxu (1+beX (Yig n c).2 9) (Yig n c).1
  exact ⟨Ygd ih.1,by simp only; omega⟩
def sX (c:Cr):List Int:=(Yig (beX c 4).toNat (beC c 4)).1
def sC (c:Cr):Cr:=(Yig (beX c 4).toNat (beC c 4)).2
theorem Yvv {c:Cr} (h:okK c):okK (sC c):=(Y10k (Ygd h)).1
theorem Yze {c:Cr} (h:okK c):(sX c).length<=3:=by
 have h1:=(Y10k (n:=(beX c 4).toNat) (Ygd (n:=4) h)).2
 have h2:=Yhf c (n:=4) (by decide)
 unfold sX; omega
def anL:List Int:=[0,1,-1,99999,100000]
def asX (c:Cr):List Int:=if beX (sC c) 6=0 then sX c++[anL.getD (beX (beC (sC c) 6) 5).toNat default] else sX c
def asC (c:Cr):Cr:=if beX (sC c) 6=0 then beC (beC (sC c) 6) 5 else beC (sC c) 6
theorem Y1d9 {c:Cr} (h:okK c):okK (asC c):=by unfold asC; split; exact Ygd (Ygd (Yvv h)); exact Ygd (Yvv h)
theorem Y195 {c:Cr} (h:okK c):(asX c).length<=4:=by
 have:=Yze h
 unfold asX; split
 ·rw [List.length_append,List.length_singleton]; omega
 ·omega
theorem Y1r9 {c:Cr} (h:beX (sC c) 6=0):asX c=sX c++[anL.getD (beX (beC (sC c) 6) 5).toNat default]/\asC c=beC (beC (sC c) 6) 5:=⟨if_pos h,if_pos h⟩
theorem Y1rg {c:Cr} (h:¬ beX (sC c) 6=0):asX c=sX c/\asC c=beC (sC c) 6:=⟨if_neg h,if_neg h⟩
def mx0 (k:Int) (s:List Int) (c:Cr):List Int × Cr:=if k=1 then (if beX c 2=0 then (sX (beC c 2),sC (beC c 2)) else (s,beC c 2)) else (s,c)
mutual
def mxY:YS->Cr->YS × Cr
 | ⟨k,n,t,s,l⟩,c=>(⟨k,n,t,(mx0 k s c).1,(Yx6 l (mx0 k s c).2).1⟩,(Yx6 l (mx0 k s c).2).2)
def Yx6:List YS->Cr->List YS × Cr
 | [],c=>([],c)
 | x :: r,c=>((mxY x c).1 :: (Yx6 r (mxY x c).2).1,(Yx6 r (mxY x c).2).2)
end
def mxT (l:List YS) (c:Cr):Nat->List YS × Cr
 | 0=>([],c)
 | k+1=>((mxT l c k).1++[(mxY (l.getD k default) (mxT l c k).2).1],(mxY (l.getD k default) (mxT l c k).2).2)
theorem Y156 (x:YS) (r:List YS) (c:Cr):∀ k,mxT (x :: r) c (k+1)=((mxY x c).1 :: (mxT r (mxY x c).2 k).1,(mxT r (mxY x c).2 k).2)
 | 0=>by simp [mxT]
 | k+1=>by rw [mxT,Y156 x r c k]; simp [mxT]
theorem Y18e:∀ (l:List YS) (c:Cr),Yx6 l c=mxT l c l.length
 | [],c=>by simp [Yx6,mxT]
 | x :: r,c=>by rw [Yx6,List.length_cons,Y156,Y18e r]
theorem Y1kj (l:List YS) (c:Cr) (k:Nat):(mxT l c k).1.length=k:=by
 induction k with
 | zero=>rfl
 | succ k ih=>simp [mxT,ih]
def mxH (x:YS) (c:Cr):YS × Cr:=Yje (mxY x c)
theorem Y1f1 (x:YS) (c:Cr):mxH x c=mxY x c:=Yhd _
def mxN (l:List YS) (c:Cr) (k:Nat):List YS × Cr:=Yje (mxT l c k)
theorem Yut (l:List YS) (c:Cr) (k:Nat):mxN l c k=mxT l c k:=Yhd _
theorem Ysl (l:List YS) (c:Cr):mxN l c 0=([],c):=by rw [Yut]; rfl
theorem Ys3 (l:List YS) (c:Cr) (k:Nat):mxN l c (k+1)=((mxN l c k).1++[(mxH (l.getD k default) (mxN l c k).2).1],(mxH (l.getD k default) (mxN l c k).2).2):=by
 rw [Yut,Yut,Y1f1]; rfl
def mxS (l:List YS) (c:Cr) (k:Nat):List YS:=Yje ((mxN l c k).1++l.drop k)
theorem Yqn (l:List YS) (c:Cr) (k:Nat):mxS l c k=(mxN l c k).1++l.drop k:=Yhd _
theorem Yrr (l:List YS) (c:Cr) (k:Nat):(mxN l c k).1.length=k:=by rw [Yut]; exact Y1kj l c k
theorem Y19a {l:List YS} {c:Cr} {k:Nat} (h:k<=l.length):(mxS l c k).length=l.length:=by
 rw [Yqn,List.length_append,Yrr,List.length_drop]; omega
theorem Y18b {l:List YS} {c:Cr} {k:Nat} (h:k<l.length):(mxS l c k).getD k default=l.getD k default:=by
 rw [Yqn,Yhg h,List.getD_eq_getElem?_getD,List.getElem?_append_right (by rw [Yrr]; exact Nat.le_refl _),Yrr]
 simp
theorem Y1hl (l:List YS) (c:Cr):mxS l c 0=l:=by rw [Yqn,Ysl]; rfl
theorem Y18t {l:List YS} {c:Cr} {k:Nat} (h:k<l.length):((mxS l c k).map Yfn).set k (Yfu (mxH (l.getD k default) (mxN l c k).2).1)=(mxS l c (k+1)).map Yfn:=by
 rw [<- Ymh,Yqn,Yqn,Ys3,Yhg h,List.map_append,List.set_append_right _ _ (by rw [List.length_map,Yrr]; exact Nat.le_refl _),List.length_map,Yrr,Nat.sub_self]
 simp
theorem Yr1 (x:YS) (c:Cr):mxH x c=(⟨x.kind,x.number,x.text,(mx0 x.kind x.scopes c).1,mxS x.items (mx0 x.kind x.scopes c).2 x.items.length⟩,(mxN x.items (mx0 x.kind x.scopes c).2 x.items.length).2):=by
 rw [Y1f1,Yqn,List.drop_length,List.append_nil,Yut]
 cases x; simp only [mxY,Y18e]
theorem Yx7 (x:YS) (c:Cr):(mxH x c).1.kind=x.kind/\(mxH x c).1.number=x.number/\(mxH x c).1.text=x.text:=by
 rw [Yr1]; exact ⟨rfl,rfl,rfl⟩
theorem Y1ly {l:List YS} {c:Cr} {k:Nat} (h:k<l.length):((mxS l c k).map Yfn).set k
  [cI ((mxS l c k).getD k default).kind,cI ((mxS l c k).getD k default).number,cS ((mxS l c k).getD k default).text,
   .list ((mxH ((mxS l c k).getD k default) (mxN l c k).2).1.scopes.map Yfr),.list ((mxH ((mxS l c k).getD k default) (mxN l c k).2).1.items.map Yfn)]=(mxS l c (k+1)).map Yfn:=by
 rw [Y18b h,<- Y18t h]
 unfold Yfu
 rw [(Yx7 _ _).1,(Yx7 _ _).2.1,(Yx7 _ _).2.2]
theorem Y16p {k:Int} {s:List Int} {c:Cr} (h:okK c):okK (mx0 k s c).2/\(mx0 k s c).1.length<=s.length+3:=by
 unfold mx0
 split
 ·split
  ·exact ⟨Yvv (Ygd h),by have:=Yze (Ygd (n:=2) h); simp only; omega⟩
  ·exact ⟨Ygd h,by simp only; omega⟩
 ·exact ⟨h,by simp only; omega⟩
theorem Y1pp {k:Int} {s:List Int} {c:Cr} (h:k=1) (h2:beX c 2=0):mx0 k s c=(sX (beC c 2),sC (beC c 2)):=by unfold mx0; rw [if_pos h,if_pos h2]
theorem Y1r5 {k:Int} {s:List Int} {c:Cr} (h:k=1) (h2:¬ beX c 2=0):mx0 k s c=(s,beC c 2):=by unfold mx0; rw [if_pos h,if_neg h2]
theorem Y1qg {k:Int} {s:List Int} {c:Cr} (h:¬ k=1):mx0 k s c=(s,c):=by unfold mx0; rw [if_neg h]
theorem Y1df:∀ (x:YS) (c:Cr),okK c->okK (mxH x c).2/\wY (mxH x c).1+3<=4 * wY x+6:=by
 refine YS.ind fun x ih c h => ?_
 have key:∀ k,k<=x.items.length->okK (mxN x.items (mx0 x.kind x.scopes c).2 k).2/\sumBy wY (mxN x.items (mx0 x.kind x.scopes c).2 k).1<=4 * sumBy wY (x.items.take k)+3 * k:=by
  intro k
  induction k with
  | zero=>intro _; rw [Ysl]; exact ⟨(Y16p h).1,by simp [sumBy]⟩
  | succ k ihk=>
   intro hk
   obtain ⟨h1,h2⟩:=ihk (by omega)
   obtain ⟨h3,h4⟩:=ih _ (Yfx (by omega:k<x.items.length)) _ h1
   rw [Ys3]
   refine ⟨h3,?_⟩
   rw [Yha,Yih wY (by omega:k<x.items.length)]
   simp only [sumBy]; omega
 obtain ⟨h1,h2⟩:=key x.items.length (Nat.le_refl _)
 rw [List.take_length] at h2
 rw [Yr1]
 refine ⟨h1,?_⟩
 have h3:=(Y16p (k:=x.kind) (s:=x.scopes) h).2
 have h4:=Yhn x
 rw [Yhn]
 simp only
 rw [Y19a (Nat.le_refl _),Yqn,List.drop_length,List.append_nil]
 omega
theorem Y1eb {l:List YS} {c:Cr} (h:okK c):∀ k,okK (mxN l c k).2
 | 0=>by rw [Ysl]; exact h
 | k+1=>by rw [Ys3]; exact (Y1df _ _ (Y1eb h k)).1
def dyX (c:Cr):YS × Cr:=mxH (Ygm (Yg1 4 c).1) (Yg1 4 c).2
theorem Y1ez {c:Cr} (h:okK c):okK (dyX c).2/\wY (dyX c).1<=110000:=by
 have h1:=Ypr 4 c h
 rw [<- (show Yg1 4 c=Ylh 4 c from Yn9 4 c)] at h1
 have h2:=Y1df (Ygm (Yg1 4 c).1) _ h1.2
 rw [Yz0] at h2
 have e:(40 * 5 ^ 4:Nat)=25000:=by decide
 exact ⟨h2.1,by have:=h1.1; have:=h2.2; show wY (mxH _ _).1<=_; omega⟩
def ayG (c:Cr):YS × Cr:=if beX c 6=0 then (Ygm (Yjc (beC c 6)).1,(Yjc (beC c 6)).2) else
 if beX (dyX (beC c 6)).2 6=0 then (⟨(dyX (beC c 6)).1.kind,(dyX (beC c 6)).1.number,(dyX (beC c 6)).1.text,asX (beC (dyX (beC c 6)).2 6),(dyX (beC c 6)).1.items⟩,asC (beC (dyX (beC c 6)).2 6))
 else ((dyX (beC c 6)).1,beC (dyX (beC c 6)).2 6)
def ayX (c:Cr):YS × Cr:=Yje (ayG c)
theorem Y13y (c:Cr):ayX c=ayG c:=Yhd _
theorem Y1n1 {c:Cr} (h:beX c 6=0):ayX c=(Ygm (Yjc (beC c 6)).1,(Yjc (beC c 6)).2):=by rw [Y13y]; exact if_pos h
theorem Y1mm {c:Cr} (h:¬ beX c 6=0) (h2:beX (dyX (beC c 6)).2 6=0):ayX c=(⟨(dyX (beC c 6)).1.kind,(dyX (beC c 6)).1.number,(dyX (beC c 6)).1.text,asX (beC (dyX (beC c 6)).2 6),(dyX (beC c 6)).1.items⟩,asC (beC (dyX (beC c 6)).2 6)):=by
 rw [Y13y]; unfold ayG; rw [if_neg h,if_pos h2]
theorem Y1mc {c:Cr} (h:¬ beX c 6=0) (h2:¬ beX (dyX (beC c 6)).2 6=0):ayX c=((dyX (beC c 6)).1,beC (dyX (beC c 6)).2 6):=by
 rw [Y13y]; unfold ayG; rw [if_neg h,if_neg h2]
theorem Y1ok {c:Cr} (h:okK c):okK (ayX c).2/\wY (ayX c).1<=200000:=by
 have h1:=Y1ez (Ygd (n:=6) h)
 by_cases a:beX c 6=0
 ·rw [Y1n1 a]
  have h2:=Y186 (Ygd (n:=6) h)
  exact ⟨h2.2,by show wY (Ygm _)<=_; rw [Yz0]; have:=h2.1; omega⟩
 ·by_cases b:beX (dyX (beC c 6)).2 6=0
  ·rw [Y1mm a b]
   have h2:=Y195 (Ygd (n:=6) h1.1)
   refine ⟨Y1d9 (Ygd h1.1),?_⟩
   have h3:=Yhn (dyX (beC c 6)).1
   rw [Yhn]; simp only; omega
  ·rw [Y1mc a b]; exact ⟨Ygd h1.1,by have:=h1.2; simp only; omega⟩
def nmL:List ByteArray:=[mkS [120],mkS [121],mkS [116,109,112],mkS [105,102]]
def nuL:List Int:=[-1,11,12,13,14,99999,100000]
def teL:List ByteArray:=[mkS [],mkS [49]]
def b2 (c:Cr):Cr:=sC (beC c 4)
def b4 (c:Cr):Cr:=beC (beC (b2 c) 4) 9
def b5 (c:Cr):Cr:=beC (b4 c) 14
def bd0 (c:Cr):YB:=⟨nmL.getD (beX c 4).toNat default,sX (beC c 4),1+beX (b2 c) 4,beX (beC (b2 c) 4) 9⟩
def bdG (c:Cr):YB × Cr:=if beX (b4 c) 14=0 then (⟨(bd0 c).text,(bd0 c).scopes,beX (b5 c) 7 - 1,(bd0 c).number⟩,beC (b5 c) 7)
 else if beX (b4 c) 14=1 then (⟨(bd0 c).text,(bd0 c).scopes,(bd0 c).kind,nuL.getD (beX (b5 c) 7).toNat default⟩,beC (b5 c) 7)
 else if beX (b4 c) 14=2 then (⟨(bd0 c).text,asX (b5 c),(bd0 c).kind,(bd0 c).number⟩,asC (b5 c))
 else if beX (b4 c) 14=3 then (⟨teL.getD (beX (b5 c) 2).toNat default,(bd0 c).scopes,(bd0 c).kind,(bd0 c).number⟩,beC (b5 c) 2)
 else (bd0 c,b5 c)
def bdX (c:Cr):YB × Cr:=Yje (bdG c)
theorem Yva (c:Cr):bdX c=bdG c:=Yhd _
section
variable {c:Cr}
theorem Y1og (h:beX (b4 c) 14=0):bdX c=(⟨(bd0 c).text,(bd0 c).scopes,beX (b5 c) 7 - 1,(bd0 c).number⟩,beC (b5 c) 7):=by rw [Yva]; exact if_pos h
theorem Y1od (h:beX (b4 c) 14=1):bdX c=(⟨(bd0 c).text,(bd0 c).scopes,(bd0 c).kind,nuL.getD (beX (b5 c) 7).toNat default⟩,beC (b5 c) 7):=by rw [Yva]; unfold bdG; rw [if_neg (by omega),if_pos h]
theorem Y1nr (h:beX (b4 c) 14=2):bdX c=(⟨(bd0 c).text,asX (b5 c),(bd0 c).kind,(bd0 c).number⟩,asC (b5 c)):=by rw [Yva]; unfold bdG; rw [if_neg (by omega),if_neg (by omega),if_pos h]
theorem Y1n8 (h:beX (b4 c) 14=3):bdX c=(⟨teL.getD (beX (b5 c) 2).toNat default,(bd0 c).scopes,(bd0 c).kind,(bd0 c).number⟩,beC (b5 c) 2):=by rw [Yva]; unfold bdG; rw [if_neg (by omega),if_neg (by omega),if_neg (by omega),if_pos h]
theorem Y1ov (h:3<beX (b4 c) 14):bdX c=(bd0 c,b5 c):=by rw [Yva]; unfold bdG; rw [if_neg (by omega),if_neg (by omega),if_neg (by omega),if_neg (by omega)]
end
theorem Y1ot:∀ n:Nat,(nmL.getD n default).size<=4:=by
 intro n
 rcases Nat.lt_or_ge n 4 with h | h
 ·have:∀ n,n<4->(nmL.getD n default).size<=4:=by decide
  exact this n h
 ·rw [List.getD_eq_getElem?_getD,List.getElem?_eq_none (by exact h)]; decide
theorem Y1nn:∀ n:Nat,(teL.getD n default).size<=4:=by
 intro n
 rcases Nat.lt_or_ge n 2 with h | h
 ·have:∀ n,n<2->(teL.getD n default).size<=4:=by decide
  exact this n h
 ·rw [List.getD_eq_getElem?_getD,List.getElem?_eq_none (by exact h)]; decide
theorem Yzn {c:Cr} (h:okK c):okK (bdX c).2/\wB (bdX c).1<=20:=by
 have o2:okK (b2 c):=Yvv (Ygd h)
 have o4:okK (b4 c):=Ygd (Ygd o2)
 have o5:okK (b5 c):=Ygd o4
 have h1:=Y1ot (beX c 4).toNat
 have h2:=Yze (Ygd (n:=4) h)
 have h3:=Y195 o5
 have h4:=Y1nn (beX (b5 c) 2).toNat
 have h5:=Yhf (b4 c) (n:=14) (by decide)
 have e0:(bd0 c).text=nmL.getD (beX c 4).toNat default:=rfl
 have e1:(bd0 c).scopes=sX (beC c 4):=rfl
 rcases (by omega:beX (b4 c) 14=0 ∨ beX (b4 c) 14=1 ∨ beX (b4 c) 14=2 ∨ beX (b4 c) 14=3 ∨ 3<beX (b4 c) 14) with a | a | a | a | a
 ·rw [Y1og a]; exact ⟨Ygd o5,by rw [Yt0]; simp only [e0,e1]; omega⟩
 ·rw [Y1od a]; exact ⟨Ygd o5,by rw [Yt0]; simp only [e0,e1]; omega⟩
 ·rw [Y1nr a]; exact ⟨Y1d9 o5,by rw [Yt0]; simp only [e0]; omega⟩
 ·rw [Y1n8 a]; exact ⟨Ygd o5,by rw [Yt0]; simp only [e1]; omega⟩
 ·rw [Y1ov a]; exact ⟨o5,by rw [Yt0]; simp only [e0,e1]; omega⟩
def Yog (L:List YB) (b:YB):Bool:=Yln b && !Yk5 L b.text b.scopes
def tbG:Nat->Cr->List YB × Cr
 | 0,c=>([],c)
 | n+1,c=>if Yog (tbG n c).1 (bdX (tbG n c).2).1=true then ((tbG n c).1++[(bdX (tbG n c).2).1],(bdX (tbG n c).2).2)
   else if beX (bdX (tbG n c).2).2 20=0 then ((tbG n c).1++[(bdX (tbG n c).2).1],beC (bdX (tbG n c).2).2 20) else ((tbG n c).1,beC (bdX (tbG n c).2).2 20)
def tbH (n:Nat) (c:Cr):List YB × Cr:=Yje (tbG n c)
theorem Ypz (n:Nat) (c:Cr):tbH n c=tbG n c:=Yhd _
theorem Y141 (c:Cr):tbH 0 c=([],c):=by rw [Ypz]; rfl
theorem Y1jd {n:Nat} {c:Cr} (h:Yog (tbH n c).1 (bdX (tbH n c).2).1=true):tbH (n+1) c=((tbH n c).1++[(bdX (tbH n c).2).1],(bdX (tbH n c).2).2):=by rw [Ypz] at *; rw [Ypz,tbG,if_pos h]
theorem Y1j1 {n:Nat} {c:Cr} (h:Yog (tbH n c).1 (bdX (tbH n c).2).1=false) (h2:beX (bdX (tbH n c).2).2 20=0):tbH (n+1) c=((tbH n c).1++[(bdX (tbH n c).2).1],beC (bdX (tbH n c).2).2 20):=by rw [Ypz] at *; rw [Ypz,tbG,if_neg (by rw [h]; decide),if_pos h2]
theorem Y1j9 {n:Nat} {c:Cr} (h:Yog (tbH n c).1 (bdX (tbH n c).2).1=false) (h2:¬ beX (bdX (tbH n c).2).2 20=0):tbH (n+1) c=((tbH n c).1,beC (bdX (tbH n c).2).2 20):=by rw [Ypz] at *; rw [Ypz,tbG,if_neg (by rw [h]; decide),if_neg h2]
theorem Y1ee {n:Nat} {c:Cr} (h:okK c):okK (tbH n c).2/\(tbH n c).1.length<=n/\sumBy wB (tbH n c).1<=20 * n:=by
 induction n with
 | zero=>rw [Y141]; exact ⟨h,Nat.le_refl _,Nat.le_refl _⟩
 | succ n ih=>
  have h1:=Yzn ih.1
  cases a:Yog (tbH n c).1 (bdX (tbH n c).2).1 with
  | true=>rw [Y1jd a]; exact ⟨h1.1,by simp only [List.length_append,List.length_singleton]; omega,by simp only [Yha,sumBy]; omega⟩
  | false=>
   by_cases b:beX (bdX (tbH n c).2).2 20=0
   ·rw [Y1j1 a b]; exact ⟨Ygd h1.1,by simp only [List.length_append,List.length_singleton]; omega,by simp only [Yha,sumBy]; omega⟩
   ·rw [Y1j9 a b]; exact ⟨Ygd h1.1,by simp only; omega,by simp only; omega⟩
def tgG:Nat->Cr->List YB × Cr
 | 0,c=>(Yia,c)
 | n+1,c=>if Yog (tgG n c).1 (bdX (tgG n c).2).1=true then ((tgG n c).1++[(bdX (tgG n c).2).1],(bdX (tgG n c).2).2) else ((tgG n c).1,(bdX (tgG n c).2).2)
def tgH (n:Nat) (c:Cr):List YB × Cr:=Yje (tgG n c)
theorem Yv0 (n:Nat) (c:Cr):tgH n c=tgG n c:=Yhd _
theorem Y14i (c:Cr):tgH 0 c=(Yia,c):=by rw [Yv0]; rfl
theorem Y1iu {n:Nat} {c:Cr} (h:Yog (tgH n c).1 (bdX (tgH n c).2).1=true):tgH (n+1) c=((tgH n c).1++[(bdX (tgH n c).2).1],(bdX (tgH n c).2).2):=by rw [Yv0] at *; rw [Yv0,tgG,if_pos h]
theorem Y1j4 {n:Nat} {c:Cr} (h:Yog (tgH n c).1 (bdX (tgH n c).2).1=false):tgH (n+1) c=((tgH n c).1,(bdX (tgH n c).2).2):=by rw [Yv0] at *; rw [Yv0,tgG,if_neg (by rw [h]; decide)]
theorem Y1cj:Yia.length=26/\sumBy wB Yia<=400:=by decide
theorem Y1eh {n:Nat} {c:Cr} (h:okK c):okK (tgH n c).2/\(tgH n c).1.length<=26+n/\sumBy wB (tgH n c).1<=400+20 * n:=by
 induction n with
 | zero=>rw [Y14i]; exact ⟨h,by have:=Y1cj.1; simp only; omega,by have:=Y1cj.2; simp only; omega⟩
 | succ n ih=>
  have h1:=Yzn ih.1
  cases a:Yog (tgH n c).1 (bdX (tgH n c).2).1 with
  | true=>rw [Y1iu a]; exact ⟨h1.1,by simp only [List.length_append,List.length_singleton]; omega,by simp only [Yha,sumBy]; omega⟩
  | false=>rw [Y1j4 a]; exact ⟨h1.1,by simp only; omega,by simp only; omega⟩
def t3G (c:Cr):List YB × Cr:=tbH (beX c 9).toNat (beC c 9)
def t3X (c:Cr):List YB × Cr:=Yje (t3G c)
theorem Y1fn (c:Cr):t3X c=tbH (beX c 9).toNat (beC c 9):=Yhd _
theorem Y1oh {c:Cr} (h:okK c):okK (t3X c).2/\(t3X c).1.length<=100/\sumBy wB (t3X c).1<=1000:=by
 have h1:=Y1ee (n:=(beX c 9).toNat) (Ygd (n:=9) h)
 have h2:=Yhf c (n:=9) (by decide)
 rw [Y1fn]; exact ⟨h1.1,by omega,by omega⟩
def tg (c:Cr):List YB × Cr:=tgH (beX c 3).toNat (beC c 3)
def taG (c:Cr):List YB × Cr:=if beX (tg c).2 14=0 then t3X (beC (tg c).2 14) else ((tg c).1,beC (tg c).2 14)
def taX (c:Cr):List YB × Cr:=Yje (taG c)
theorem Y1fx (c:Cr):taX c=taG c:=Yhd _
theorem Y1ou {c:Cr} (h:beX (tg c).2 14=0):taX c=t3X (beC (tg c).2 14):=by rw [Y1fx]; exact if_pos h
theorem Y1mw {c:Cr} (h:¬ beX (tg c).2 14=0):taX c=((tg c).1,beC (tg c).2 14):=by rw [Y1fx]; exact if_neg h
theorem Y1io {c:Cr} (h:okK c):okK (tg c).2/\(tg c).1.length<=30/\sumBy wB (tg c).1<=500:=by
 have h1:=Y1eh (n:=(beX c 3).toNat) (Ygd (n:=3) h)
 have h2:=Yhf c (n:=3) (by decide)
 exact ⟨h1.1,by unfold tg; omega,by unfold tg; omega⟩
theorem Y1d8 {c:Cr} (h:okK c):okK (taX c).2/\(taX c).1.length<=100/\sumBy wB (taX c).1<=1000:=by
 have h1:=Y1io h
 by_cases a:beX (tg c).2 14=0
 ·rw [Y1ou a]; exact Y1oh (Ygd h1.1)
 ·rw [Y1mw a]; exact ⟨Ygd h1.1,by simp only; omega,by simp only; omega⟩
def Yll:List ByteArray:=[mkS [40,120,32,121,41],mkS [40,120,32,46,46,46,41],mkS [40,40,120,32,121,41,32,46,46,46,41],mkS [40,120,32,46,46,46,32,121,41],mkS [40,40,120,32,46,46,46,41,32,46,46,46,41],mkS [40,101,108,115,101,32,120,41],mkS [95],mkS [120],mkS [40,49,32,120,41],mkS [40,120,32,120,41],mkS [40,46,46,46,32,120,41],mkS [40,120,32,46,46,46,32,121,32,46,46,46,41],mkS [40,34,97,34,32,40,120,41,32,46,46,46,41],mkS [40,41],mkS [40,40,40,40,120,32,46,46,46,41,32,46,46,46,41,32,46,46,46,41,32,46,46,46,41]]
def Y1rp:List Datum:=[Yh1 [(Yg3 (mkS [120])),(Yg3 (mkS [121]))],Yh1 [(Yg3 (mkS [120])),(Yg3 (mkS [46,46,46]))],Yh1 [Yh1 [(Yg3 (mkS [120])),(Yg3 (mkS [121]))],(Yg3 (mkS [46,46,46]))],Yh1 [(Yg3 (mkS [120])),(Yg3 (mkS [46,46,46])),(Yg3 (mkS [121]))],Yh1 [Yh1 [(Yg3 (mkS [120])),(Yg3 (mkS [46,46,46]))],(Yg3 (mkS [46,46,46]))],Yh1 [(Yg3 (mkS [101,108,115,101])),(Yg3 (mkS [120]))],(Yg3 (mkS [95])),(Yg3 (mkS [120])),Yh1 [⟨2,1,mkS [],[]⟩,(Yg3 (mkS [120]))],Yh1 [(Yg3 (mkS [120])),(Yg3 (mkS [120]))],Yh1 [(Yg3 (mkS [46,46,46])),(Yg3 (mkS [120]))],Yh1 [(Yg3 (mkS [120])),(Yg3 (mkS [46,46,46])),(Yg3 (mkS [121])),(Yg3 (mkS [46,46,46]))],Yh1 [⟨4,0,mkS [97],[]⟩,Yh1 [(Yg3 (mkS [120]))],(Yg3 (mkS [46,46,46]))],Yh1 [],Yh1 [Yh1 [Yh1 [Yh1 [(Yg3 (mkS [120])),(Yg3 (mkS [46,46,46]))],(Yg3 (mkS [46,46,46]))],(Yg3 (mkS [46,46,46]))],(Yg3 (mkS [46,46,46]))]]
def Ynr:List ByteArray:=[mkS [40,121,32,120,41],mkS [40,102,32,120,32,46,46,46,41],mkS [40,40,121,32,120,41,32,46,46,46,41],mkS [40,120,32,46,46,46,32,121,41],mkS [40,40,120,32,46,46,46,41,32,46,46,46,41],mkS [40,116,109,112,32,120,41],mkS [120],mkS [40,120,32,121,32,46,46,46,41],mkS [40,120,32,46,46,46,41],mkS [40,40,116,109,112,32,120,41,32,46,46,46,41],mkS [46,46,46],mkS [40,120,32,46,46,46,32,46,46,46,41],mkS [55]]
def Y1r8:List Datum:=[Yh1 [(Yg3 (mkS [121])),(Yg3 (mkS [120]))],Yh1 [(Yg3 (mkS [102])),(Yg3 (mkS [120])),(Yg3 (mkS [46,46,46]))],Yh1 [Yh1 [(Yg3 (mkS [121])),(Yg3 (mkS [120]))],(Yg3 (mkS [46,46,46]))],Yh1 [(Yg3 (mkS [120])),(Yg3 (mkS [46,46,46])),(Yg3 (mkS [121]))],Yh1 [Yh1 [(Yg3 (mkS [120])),(Yg3 (mkS [46,46,46]))],(Yg3 (mkS [46,46,46]))],Yh1 [(Yg3 (mkS [116,109,112])),(Yg3 (mkS [120]))],(Yg3 (mkS [120])),Yh1 [(Yg3 (mkS [120])),(Yg3 (mkS [121])),(Yg3 (mkS [46,46,46]))],Yh1 [(Yg3 (mkS [120])),(Yg3 (mkS [46,46,46]))],Yh1 [Yh1 [(Yg3 (mkS [116,109,112])),(Yg3 (mkS [120]))],(Yg3 (mkS [46,46,46]))],(Yg3 (mkS [46,46,46])),Yh1 [(Yg3 (mkS [120])),(Yg3 (mkS [46,46,46])),(Yg3 (mkS [46,46,46]))],⟨2,7,mkS [],[]⟩]
def Ykg:List ByteArray:=[mkS [40,49,32,50,41],mkS [40,41],mkS [40,40,49,32,50,41,32,40,51,32,52,41,41],mkS [40,49,32,50,32,51,41],mkS [40,40,49,32,50,41,32,40,41,32,40,51,41,41],mkS [40,101,108,115,101,32,53,41],mkS [40,49,32,120,41],mkS [53],mkS [120],mkS [40,34,97,34,32,40,49,41,32,40,50,41,41],mkS [40,120,32,121,41],mkS [40,40,97,45,98,32,49,41,32,40,102,32,50,41,41]]
def Y1ro:List Datum:=[Yh1 [⟨2,1,mkS [],[]⟩,⟨2,2,mkS [],[]⟩],Yh1 [],Yh1 [Yh1 [⟨2,1,mkS [],[]⟩,⟨2,2,mkS [],[]⟩],Yh1 [⟨2,3,mkS [],[]⟩,⟨2,4,mkS [],[]⟩]],Yh1 [⟨2,1,mkS [],[]⟩,⟨2,2,mkS [],[]⟩,⟨2,3,mkS [],[]⟩],Yh1 [Yh1 [⟨2,1,mkS [],[]⟩,⟨2,2,mkS [],[]⟩],Yh1 [],Yh1 [⟨2,3,mkS [],[]⟩]],Yh1 [(Yg3 (mkS [101,108,115,101])),⟨2,5,mkS [],[]⟩],Yh1 [⟨2,1,mkS [],[]⟩,(Yg3 (mkS [120]))],⟨2,5,mkS [],[]⟩,(Yg3 (mkS [120])),Yh1 [⟨4,0,mkS [97],[]⟩,Yh1 [⟨2,1,mkS [],[]⟩],Yh1 [⟨2,2,mkS [],[]⟩]],Yh1 [(Yg3 (mkS [120])),(Yg3 (mkS [121]))],Yh1 [Yh1 [(Yg3 (mkS [97,45,98])),⟨2,1,mkS [],[]⟩],Yh1 [(Yg3 (mkS [102])),⟨2,2,mkS [],[]⟩]]]
def Yj3 (i:Nat):Datum:=Y1rp.getD i default
def Yk9 (i:Nat):Datum:=Y1r8.getD i default
def Yj9 (i:Nat):Datum:=Y1ro.getD i default
theorem Y1op:∀ i,i<15->Ylm [Yj3 i] (Yll.getD i default)=true:=by decide +kernel
theorem Y1nl:∀ i,i<13->Ylm [Yk9 i] (Ynr.getD i default)=true:=by decide +kernel
theorem Y1p3:∀ i,i<12->Ylm [Yj9 i] (Ykg.getD i default)=true:=by decide +kernel
theorem Y1by:∀ i,i<15->wD (Yj3 i)<=100/\(Yll.getD i default).size<=100:=by decide +kernel
theorem Y1j6:∀ i,i<13->wD (Yk9 i)<=100/\(Ynr.getD i default).size<=100:=by decide +kernel
theorem Y1ak:∀ i,i<12->wD (Yj9 i)<=100/\(Ykg.getD i default).size<=100:=by decide +kernel
def Yj4:ByteArray:=mkS [101,108,115,101]
def Yiv:ByteArray:=mkS [95]
def Yj1:ByteArray:=mkS [109]
def Yj2:ByteArray:=mkS [120]
theorem Y1n4:Ylm [Yg3 Yj4] Yj4=true:=by decide +kernel
theorem Y1oa:Ylm [Yg3 Yiv] Yiv=true:=by decide +kernel
theorem Y1m4:Ylm [Yg3 Yj1] Yj1=true:=by decide +kernel
theorem Y1p2:Ylm [Yg3 Yj2] Yj2=true:=by decide +kernel
def Ygh (d:Datum):List Datum:=Yje [d]
theorem Yzq (d:Datum):Ygh d=[d]:=Yhd _
theorem Ymt (d:Datum):(Ygh d).length=1:=by rw [Yzq]; rfl
theorem Ym3 (d:Datum):(Ygh d).getD 0 default=d:=by rw [Yzq]; rfl
abbrev un (d:Datum):YS:=Ygm ((Ygh d).getD 0 default)
theorem Y1qz (d:Datum):un d=Ygm d:=by unfold un; rw [Ym3]
theorem Y103 (d:Datum):wY (un d)=wD d:=by rw [Y1qz,Yz0]
theorem rd1 {d:Datum} {s:ByteArray} (h:Ylm [d] s=true):Ylm (Ygh d) s=true:=by rw [Yzq]; exact h
end Go.Proofs.YtclpofblehlojaaGreat
end
section
namespace Go.Proofs.YtclpofblehlojaaGreat
open Go Ab
set_option maxHeartbeats 4000000
abbrev Z7q (L:List Int) (n:Int):Ct:=⟨200,[],[ll (L.map Yfr),li n],[.arr true 1 ((Ykb n L).map Yfr)],.sv (.one (.ref 0))⟩
def Z59 (L:List Int) (n:Int):Lp Nat:=.mk 42 0 (fun x=>[(1,li n),(5,.one (.ref 0)),(6,hs x 1),(10,ll (L.map Yfr)),(11,li (↑(List.map Yfr
 L).length:Int)),(12,hs x 0)]) (fun x=>[ho x 2]) (fun k=>[.s (li (k:Int)),.s (lb (plN n (L.take k))),.o (.arr true 1 ((Yib n L k).map Yfr))]) (fun k=>k
 <= L.length/\L.length<=9223372036854775807) (fun k=>L.length - k) [.mk True (.exit 0) (fun x=>[(1,li n),(5,.one (.ref 0)),(6,hs x 0)]) (fun x=>[ho x 1]) [.s (lb
 (plN n (List.take L.length L))),.o (.arr true 1 ((Yib n L L.length).map Yfr))]]
theorem Zdd (L:List Int) (n:Int) (h:L.length<=2147483600):Lp.Sem Tryz.prog (Yg6 Tryz.f200 0) (Z59 L n):=Ygf (fun k=>.i ((k:Int)<(↑(List.map Yfr
 L).length:Int)) (.x (k:Int) (L.map Yfr) [cI (L.getD k 0)] (.b (!plN n (L.take k)) (.i (n<=L.getD k 0) (.i (n<L.getD k 0) (.p ((((Yib n L
 k).map Yfr).length+1) * 8<=140737488355328) (.p ((((Yib n L k).map Yfr++[[cI n]]).length+1) * 8<=140737488355328) (.r ((k:Int)+1) (.g [4] (k+1) [.s (li ((k:Int) +
 1)),.s (lb true),.o (.arr true 1 ((Yib n L k).map Yfr++[[cI n]]++[[cI (L.getD k 0)]]))])))) (.p ((((Yib n L k).map Yfr).length+1) * 8<=140737488355328)
 (.r ((k:Int)+1) (.g [2] (k+1) [.s (li ((k:Int)+1)),.s (lb true),.o (.arr true 1 ((Yib n L k).map Yfr++[[cI (L.getD k 0)]]))])))) (.p (((List.map Yfr
 (Yib n L k)).length+1) * 8<=140737488355328) (.r ((k:Int)+1) (.g [2] (k+1) [.s (li ((k:Int)+1)),.s (lb (plN n (L.take k))),.o (.arr true 1 (List.map Yfr
 (Yib n L k)++[[cI (L.getD k 0)]]))])))) (.y false (.p ((((Yib n L k).map Yfr).length+1) * 8<=140737488355328) (.r ((k:Int)+1) (.g [2] (k+1) [.s (li ((k:Int)
 + 1)),.s (lb (plN n (L.take k))),.o (.arr true 1 ((Yib n L k).map Yfr++[[cI (L.getD k 0)]]))])))))) (.o 0 [0] [.s (lb (plN n (L.take k))),.o (.arr true 1
 ((Yib n L k).map Yfr))])) (by
 intro k h; try dsimp only [Yfp,Yg0,Z59] at h ⊢
 have g1:=@Yq1 n L k
 have g2:=@Y1lv n L k
 have g3:=@Y1k6 n L k
 have g4:=@Y1ka n L k
 have g5:=@Y1g8 n L k
 have g6:=Y16s n L k
 have g0:k<L.length->(L.map Yfr)[k]? = some [cI (L.getD k 0)]:=fun h=>Yu9 h rfl
 with_reducible repeat' (first | apply And.intro | exact zR | (intro))
 all_goals ((try simp only [std,inj] at *); with_reducible and_intros)
 all_goals try first | exact zw | grind [Yfy,Yfz,Yfs])
theorem Z8d (L:List Int) (n:Int) (h:L.length<=2147483600)  : Z7q L n:=Yg4 Tryz.call200 Tryz.func200 (.w (.bool false) (.z Yfr L (.l (Z59 L n) (Zdd L n
 h) [0] [.s (li 0),.s (lb false),.o (.arr true 1 [])] 0 (.t (.b (!plN n (List.take L.length L)) (.p ((((Yib n L L.length).map Yfr).length+1) * 8<=140737488355328) (.f
 [2] [.arr true 1 ((Yib n L L.length).map Yfr++[[cI n]])] (.sv (.one (.ref 0))))) (.f [0] [.arr true 1 ((Yib n L L.length).map Yfr)] (.sv (.one
 (.ref 0))))) .q)))) (by
 dsimp only [Yfp,Z7q,Yg0,Z59]
 have g1:=@Y1hz n L L.length
 have g2:Yib n L 0=[]:=rfl
 have g3:plN n (L.take 0)=false:=rfl
 have g4:=Y16s n L L.length
 with_reducible repeat' (first | apply And.intro | exact zR | (intro))
 all_goals ((try simp only [std,inj] at *); with_reducible and_intros)
 all_goals try first | exact zw | grind [Yfy,Yfz,Yfs])
abbrev Zd (d:Datum):Ct:=⟨81,[],[Ys0 d],Yhl (Ygm d),.sv (Yhp (Ygm d) 0)⟩
def Z4b (d:Datum):Lp Nat:=.mk 29 0 (fun x=>[(2,.one (.ptr 0 0)),(3,.one (.ptr 1 0)),(14,ll (d.items.map Yg2)),(15,li (↑(List.map Yg2
 d.items).length:Int)),(16,hs x 0)]) (fun x=>[.box [vI 0,vI 0,vS (ByteArray.mk #[]),.val (.lit (.slice none 0 0)),.val (.lit (.slice none 0 0))],
 .box [vI d.kind,vI d.number,vS d.text,.val (.lit (.slice none 0 0)),.ref 2],ho x 1]) (fun k=>[.s (li (k:Int)),.o (.arr true 5 (List.map Yfn
 ((d.items.take k).map Ygm)))]) (fun k=>k<=d.items.length/\d.items.length<=9223372036854775807) (fun k=>d.items.length - k) [.mk True (.exit 0) (fun x=>[(2,
 .one (.ptr 0 0)),(3,.one (.ptr 1 0))]) (fun x=>[.box [vI 0,vI 0,vS (ByteArray.mk #[]),.val (.lit (.slice none 0 0)),.val (.lit (.slice none
 0 0))],.box [vI d.kind,vI d.number,vS d.text,.val (.lit (.slice none 0 0)),.ref 2],ho x 0]) [.o (.arr true 5 ((d.items.map Ygm).map Yfn))]]
theorem Zcd (d:Datum) (h:wD d<=1048576) (ih:∀ (z:Datum),z∈d.items->wD z<=1048576->OK (Zd z)):Lp.Sem Tryz.prog (Yg6 Tryz.f81 0) (Z4b d):=
 Ygf (fun k=>.i ((k:Int)<(↑(List.map Yg2 d.items).length:Int)) (.x (k:Int) (List.map Yg2 d.items) (Yh9 (d.items.getD k default)) (.w (.draw [(4,[8,9]),(5,
 [2,16]),(7,[1])]) (.d [.rd] (Zd (d.items.getD k default)) (.p (((List.map Yfn (List.map Ygm (List.take k d.items))).length+1) * 80<=140737488355328) (.r ((↑k :
 Int)+1) (.g [0,1,17] (k+1) [.s (li ((k:Int)+1)),.o (Ob.arr true 5 (List.map Yfn (List.map Ygm (List.take k d.items))++[Yfu (Ygm (d.items.getD k
 default))]))])))))) (.o 0 [0,1,2] [.o (Ob.arr true 5 (List.map Yfn (List.map Ygm (List.take k d.items))))])) (by
 intro k h; try dsimp only [Yfp,Yg0,Z4b] at h ⊢
 have g1:=Yl4 d
 have g2:=@Ygt _ wD d.items (d.items.getD k default)
 with_reducible repeat' (first | apply And.intro | exact zR | exact ih | (intro) | apply ih)
 all_goals ((try simp only [std,inj] at *); with_reducible and_intros)
 all_goals try first | with_reducible (first | apply ih) | (simp only [<- List.map_append]; with_reducible first | apply ih)
 all_goals try first | exact z | grind [Ygg,Yfx,Yfy,Yfz,Yfs,Yfx])
theorem Zf2 (d:Datum) (h:wD d<=1048576) (ih:∀ z∈d.items,∀ (h:wD z<=1048576),Zd z)  : Zd d:=Yg4 Tryz.call81 Tryz.func81 (.z Yg2 d.items (.w (.ghost
 (.nilbox 2 4 true 5)) (.l (Z4b d) (Zcd d h ih) [1,2,3] [.s (li 0),.o (.arr true 5 [])] 0 (.t (.w (.ghost (.nilbox 0 3 true 1)) (.f [3,2] [.arr true 1 [],
 .arr true 5 ((d.items.map Ygm).map Yfn)] (.sv (.agg [vI d.kind,vI d.number,vS d.text,.ref 0,.ref 1])))) .q)))) (by
 dsimp only [Yfp,Zd,Yg0,Z4b]
 have g1:=Yl4 d
 have g2:=Y19d d
 with_reducible repeat' (first | apply And.intro | exact zR | exact ih | (intro))
 all_goals ((try simp only [std,inj] at *); with_reducible and_intros)
 all_goals try with_reducible first | apply ih
 all_goals (try exact zG))
theorem Zy (d:Datum):∀ (h:wD d<=1048576),Zd d:=Datum.ind (P:=fun d=>∀ (h:wD d<=1048576),Zd d) (fun d ih h=>Zf2 d h ih) d
abbrev Z4w (c:Cr):Ct:=⟨156,[crO c],[.one (.ptr 0 0)],[crO (sC c),.arr true 1 ((sX c).map Yfr)],.sv (.one (.ref 1))⟩
def Z5a (c:Cr):Lp (Int):=.mk 18 1 (fun x=>[(0,.one (.ptr 0 0)),(3,.one (.ref 1)),(4,hs x 0)]) (fun x=>[ho x 1,ho x 2]) (fun k=>[.s (li k),.o (crO
 (Yig (beX c 4 - k).toNat (beC c 4)).snd),.o (.arr true 1 ((Yig (beX c 4 - k).toNat (beC c 4)).fst.map Yfr))]) (fun k=>0<=k/\k<=beX c 4/\okK c) (fun k=>k.toNat)
 [.mk True (.exit 0) (fun x=>[(3,.one (.ref 1))]) (fun x=>[ho x 0,ho x 1]) [.o (crO (sC c)),.o (.arr true 1 ((sX c).map Yfr))]]
theorem Zde (c:Cr) (h:okK c):Lp.Sem Tryz.prog (Yg6 Tryz.f156 0) (Z5a c):=Ygf (fun k=>.i (0<k) (.d [.ptr,.rd] (Z4 (Yig (beX c 4 - k).toNat (beC
 c 4)).snd 9) (.r (1+beX (Yig (beX c 4 - k).toNat (beC c 4)).snd 9) (.d [.rd,.rd] (Z7q (Yig (beX c 4 - k).toNat (beC c 4)).fst (1+beX (Yig (beX c 4 - k).toNat (beC c
 4)).snd 9)) (.r (k - 1) (.g [0,2] (k - 1) [.s (li (k - 1)),.o (.box [vL ((beC (Yig (beX c 4 - k).toNat (beC c 4)).snd 9).b.map Yg9),vI (↑(beC (Yig (beX c 4 -
 k).toNat (beC c 4)).snd 9).i:Int),vI (beC (Yig (beX c 4 - k).toNat (beC c 4)).snd 9).h]),.o (.arr true 1 ((Ykb (1+beX (Yig (beX c 4 - k).toNat (beC c
 4)).snd 9) (Yig (beX c 4 - k).toNat (beC c 4)).fst).map Yfr))]))))) (.o 0 [0,1] [.o (.box [vL ((Yig (beX c 4 - k).toNat (beC c 4)).snd.b.map Yg9),vI (↑(Yig (beX c 4 -
 k).toNat (beC c 4)).snd.i:Int),vI (Yig (beX c 4 - k).toNat (beC c 4)).snd.h]),.o (.arr true 1 ((Yig (beX c 4 - k).toNat (beC c 4)).fst.map Yfr))])) (by
 intro k h; try dsimp only [Yfp,Yg0,Z5a] at h ⊢
 have hc:=h.2.2
 have g1:=Y11k (beX c 4 - k).toNat (beC c 4)
 have g2:=Y10k (n:=(beX c 4 - k).toNat) (Ygd (n:=4) hc)
 have g3:=Yhf c (n:=4) (by decide)
 have g4:0<k->(beX c 4 - (k - 1)).toNat=(beX c 4 - k).toNat+1:=fun _=>by omega
 have g5:¬ 0<k->0<=k->Yig (beX c 4 - k).toNat (beC c 4)=Yig (beX c 4).toNat (beC c 4):=fun _ _=>by rw [show (beX c 4 - k).toNat=(beX c 4).toNat by omega]
 have g6:=Yhf (Yig (beX c 4 - k).toNat (beC c 4)).2 (n:=9) (by decide)
 have g7:sC c=(Yig (beX c 4).toNat (beC c 4)).2:=rfl
 have g8:sX c=(Yig (beX c 4).toNat (beC c 4)).1:=rfl
 with_reducible repeat' (first | apply And.intro | exact zR | (intro) | apply Z0 | apply Z8d)
 all_goals ((try simp only [std,inj] at *); with_reducible and_intros)
 all_goals try with_reducible first | apply Z0 | apply Z8d
 all_goals try first | exact zw | grind [crO,Yfy,Yfz,Yfs])
theorem Z3c (c:Cr) (h:okK c)  : Z4w c:=Yg4 Tryz.call156 Tryz.func156 (.w (.bool false) (.d [.ptr,.rd] (Z4 c 4) (.l (Z5a c) (Zde c h) [0,1] [.s
 (li (beX c 4)),.o (.box [vL ((beC c 4).b.map Yg9),vI (↑(beC c 4).i:Int),vI (beC c 4).h]),.o (.arr true 1 [])] (beX c 4) (.t (.f [1] [.box [vL (List.map Yg9
 (sC c).b),vI (↑(sC c).i:Int),vI (sC c).h],.arr true 1 ((sX c).map Yfr)] (.sv (.one (.ref 1)))) .q)))) (by
 dsimp only [Yfp,Z4w,Yg0,Z5a]
 have g3:=Yhf c (n:=4) (by decide)
 have e0:(beX c 4 - beX c 4).toNat=0:=by omega
 have m0:=Y12b (beC c 4)
 have g2:=Ygd (n:=4) h
 with_reducible repeat' (first | apply And.intro | exact zR | (intro) | apply Z0 | apply Z8d)
 all_goals ((try simp only [std,inj] at *); with_reducible and_intros)
 all_goals try with_reducible first | apply Z0 | apply Z8d
 all_goals first
  | exact True.intro | with_reducible rfl | with_reducible assumption | omega | exact g2 | decide
  | (rw [e0,m0]; first | done | rfl) | (unfold crO; with_reducible rfl))
abbrev Z5b (c:Cr):Ct:=⟨84,[crO c],[.one (.ptr 0 0)],[crO (asC c),.arr true 1 ((asX c).map Yfr)],.sv (.one (.ref 1))⟩
theorem Z78 (c:Cr) (h:okK c)  : Z5b c:=Yg4 Tryz.call84 Tryz.func84 (.d [.ptr] (Z4w c) (.d [.ptr,.rd] (Z9 (sC c) 6) (.i (beX (sC c) (6:Int)=0) (.d
 [.ptr,.own true 1] (Zv (beC (sC c) 6) [0,1,(-1:Int),99999,100000]) (.p ((((sX c).map Yfr).length+1) * 8<=140737488355328) (.f [5] [.box [vL (List.map Yg9
 (beC (beC (sC c) 6) 5).b),vI (↑(beC (beC (sC c) 6) 5).i:Int),vI (beC (beC (sC c) 6) 5).h],.arr true 1 ((sX c).map Yfr++[[cI ([0,1,(-1:Int),99999,100000].getD
 (beX (beC (sC c) 6) 5).toNat 0)]])] (.sv (.one (.ref 1)))))) (.f [2] [.box [vL ((beC (sC c) 6).b.map Yg9),vI (↑(beC (sC c) 6).i:Int),vI (beC (sC c) 6).h],
 .arr true 1 ((sX c).map Yfr)] (.sv (.one (.ref 1))))))) (by
 dsimp only [Yfp,Z5b]
 have g1:=Yvv h
 have g2:=@Ygd (sC c) 6 g1
 have g3:=Yze h
 have g4:=@Y1r9 c
 have g5:=@Y1rg c
 simp only [anL] at g4
 with_reducible repeat' (first | apply And.intro | exact zR | (intro) | apply Z3c | apply Z2 | apply Zw)
 all_goals ((try simp only [std,inj] at *); with_reducible and_intros)
 all_goals try first | with_reducible (first | apply Z3c | apply Z2 | apply Zw) | (simp only [<- List.map_append]; with_reducible first | apply Z3c | apply Z2 | apply Zw)
 all_goals first
  | exact True.intro | with_reducible rfl | with_reducible assumption | omega | exact ⟨g2,by decide⟩ | decide
  | (rw [(g4 (by omega)).1,List.map_append]; rfl) | (rw [(g4 (by omega)).2]; first | done | rfl)
  | (rw [(g5 (by omega)).1]; first | done | rfl) | (rw [(g5 (by omega)).2]; first | done | rfl)
  | (simp only [List.length_map,List.length_cons,List.length_nil]; omega))
abbrev Z1y (x:YS) (c:Cr):Ct:=⟨163,[crO c,.arr true 1 (x.scopes.map Yfr),.arr true 5 (x.items.map Yfn)],[.one (.ptr 0 0),.agg [vI x.kind,vI x.number,vS x.text,.ref 1,.ref 2]],[crO (mxH x c).2,.dead,.dead,.arr true 1 ((mxH x c).1.scopes.map Yfr),.arr true 5 ((mxH x c).1.items.map Yfn)],.sv (.agg [vI x.kind,vI x.number,vS x.text,.ref 3,.ref 4])⟩
def Z1n (x:YS) (c:Cr):Lp Nat:=.mk 35 3 (fun x_1=>[(0,.one (.ptr 0 0)),(3,.one (.ptr 3 0)),(4,.one (.ptr 4 0)),(18,li (↑(List.map Yfn
 x.items).length:Int)),(19,hs x_1 0)]) (fun x_1=>[ho x_1 1,.dead,.dead,.box [vI x.kind,vI x.number,vS x.text,.ref 5,.ref 6],.box [vI 0,vI 0,vS
 (ByteArray.mk #[]),.val (.lit (.slice none 0 0)),.val (.lit (.slice none 0 0))],ho x_1 2,ho x_1 3]) (fun k=>[.s (li (k:Int)),.o (crO (mxN x.items
 (mx0 x.kind x.scopes c).snd k).snd),.o (.arr true 1 ((mx0 x.kind x.scopes c).fst.map Yfr)),.o (.arr true 5 ((mxS x.items (mx0 x.kind x.scopes c).snd
 k).map Yfn))]) (fun k=>k<=x.items.length/\x.items.length<=9223372036854775807/\okK c/\wY x<=1000000) (fun k=>x.items.length - k) [.mk True (.exit 0) (fun x=>[(3,.one
 (.ptr 3 0)),(4,.one (.ptr 4 0))]) (fun x_1=>[ho x_1 0,.dead,.dead,.box [vI x.kind,vI x.number,vS x.text,.ref 5,.ref 6],.box [vI 0,vI 0,vS
 (ByteArray.mk #[]),.val (.lit (.slice none 0 0)),.val (.lit (.slice none 0 0))],ho x_1 1,ho x_1 2]) [.o (crO (mxH x c).snd),.o (.arr true 1 (List.map
 Yfr (mxH x c).fst.scopes)),.o (.arr true 5 ((mxH x c).fst.items.map Yfn))]]
theorem Z5r (x:YS) (c:Cr) (h:okK c/\wY x<=1000000) (ih:∀ (z:YS),z∈x.items->∀ (c:Cr),okK c/\wY z<=1000000->OK (Z1y z c)):Lp.Sem
 Tryz.prog (Yg6 Tryz.f163 0) (Z1n x c):=Ygf (fun k=>let v6:=(mx0 x.kind x.scopes c); let v1:=((mxS x.items v6.snd k).getD (k:Int).toNat default); let v2:=
 (mxN x.items v6.snd k); let v3:=((mxS x.items v6.snd k).map Yfn); let v4:=[cI v1.kind,cI v1.number,cS v1.text,.list ((mxH v1 v2.snd).fst.scopes.map Yfr),
 .list ((mxH v1 v2.snd).fst.items.map Yfn)]; let v5:=[cI v1.kind,cI v1.number,cS v1.text,.any,.any]; .i ((k:Int)<(↑(x.items.map Yfn).length
 : Int)) (.w (.draw [(8,[6]),(9,[0,11,12]),(11,[16,17,6])]) (.p (0<=(k:Int)/\(k:Int).toNat<v3.length) (.w (.pulls (Yfu v1) [1,5]) (.p (v3[(k:Int).toNat]?
 = some (Yfu v1)) (.p (∀ (x_1:List Cell),x_1∈v1.scopes.map Yfr->x_1.length=1) (.p (∀ (x_1:List Cell),x_1∈v1.items.map Yfn->x_1.length=5) (.d
 [.ptr,.agg [none,none,none,some (true,1),some (true,5)]] (Z1y v1 v2.snd) (.p (0<=(k:Int)/\(k:Int).toNat<(v3.set (k:Int).toNat v5).length) (.w (.take v5
 (v3.set (k:Int).toNat v4) 0) (.p ((v3.set (k:Int).toNat v5)[(k:Int).toNat]? = some v5) (.p ((v3.set (k:Int).toNat v5).set (k:Int).toNat v4=v3.set (k:Int).toNat
 v4) (.r ((k:Int)+1) (.g [0,1,2,3,4,5,6] (k+1) [.s (li ((k:Int)+1)),.o (.box [vL ((mxH v1 v2.snd).snd.b.map Yg9),vI (↑(mxH v1 v2.snd).snd.i:Int),vI
 (mxH v1 v2.snd).snd.h]),.o (.arr true 1 (v6.fst.map Yfr)),.o (.arr true 5 (v3.set (k:Int).toNat v4))]))))))))))))) (.o 0 [0,1,2,3,4,5,6] [.o (.box [vL
 (v2.snd.b.map Yg9),vI (↑(mxN x.items v6.snd k).snd.i:Int),vI v2.snd.h]),.o (.arr true 1 (v6.fst.map Yfr)),.o (.arr true 5 v3)])) (by
 intro k h; try dsimp only [Yfp,Yg0,Z1n] at h ⊢
 have g1:=@Y18b x.items (mx0 x.kind x.scopes c).2 k
 have g2:=@Y18t x.items (mx0 x.kind x.scopes c).2 k
 have g3:=Ys3 x.items (mx0 x.kind x.scopes c).2 k
 have g4:=Yr1 x c
 have g5:=Yhn x
 have g6:=@Ygt _ wY x.items (x.items.getD k default)
 have g7:=@Y19a x.items (mx0 x.kind x.scopes c).2 k
 have g8:okK (mxN x.items (mx0 x.kind x.scopes c).2 k).2:=Y1eb (Y16p (by have := ‹okK c/\wY x<=1000000›; exact this.1)).1 k
 with_reducible repeat' (first | apply And.intro | exact zR | exact ih | (intro) | apply Z2 | apply Z3c | apply ih)
 all_goals ((try simp only [std,inj] at *); with_reducible and_intros)
 all_goals try with_reducible first | apply Z2 | apply Z3c | apply ih
 all_goals try first | exact z | grind [Yfx,Yfy,Yfz,Yfs]
 all_goals first
  | (rw [List.set_set]; done) | exact Y1ly (by omega)
  | (rw [g3,g1 (by omega)]; unfold crO; with_reducible rfl)
  | (rw [g4,show k=x.items.length by omega]; unfold crO; with_reducible rfl))
theorem Zei (x:YS) (c:Cr) (h:okK c/\wY x<=1000000) (ih:∀ z∈x.items,∀ (c:Cr) (h:okK c/\wY z<=1000000),Z1y z c)  : Z1y x c:=Yg4 Tryz.call163
 Tryz.func163 (.i (x.kind=1) (.d [.ptr,.rd] (Z9 c 2) (.i (beX c (2:Int)=0) (.d [.ptr] (Z4w (beC c 2)) (.z Yfn x.items (.w (.ghost (.move 2)) (.w (.ghost
 (.move 1)) (.l (Z1n x c) (Z5r x c h ih) [0,1,2,3,4,6,7] [.s (li 0),.o (.box [vL ((sC (beC c 2)).b.map Yg9),vI (↑(sC (beC c 2)).i:Int),vI (sC
 (beC c 2)).h]),.o (.arr true 1 ((sX (beC c 2)).map Yfr)),.o (.arr true 5 (x.items.map Yfn))] 0 (.t (.f [5,6] [.box [vL ((mxH x c).snd.b.map Yg9),vI
 (↑(mxH x c).snd.i:Int),vI (mxH x c).snd.h],.dead,.dead,.arr true 1 ((mxH x c).fst.scopes.map Yfr),.arr true 5 ((mxH x c).fst.items.map Yfn)] (.sv
 (.agg [vI x.kind,vI x.number,vS x.text,.ref 3,.ref 4]))) .q)))))) (.z Yfn x.items (.w (.ghost (.move 1)) (.w (.ghost (.move 2)) (.l (Z1n x c) (Z5r x
 c h ih) [0,1,2,3,4,5,6] [.s (li 0),.o (.box [vL ((beC c 2).b.map Yg9),vI (↑(beC c 2).i:Int),vI (beC c 2).h]),.o (.arr true 1 (x.scopes.map Yfr)),.o
 (.arr true 5 (x.items.map Yfn))] 0 (.t (.f [5,6] [.box [vL ((mxH x c).snd.b.map Yg9),vI (↑(mxH x c).snd.i:Int),vI (mxH x c).snd.h],.dead,.dead,
 .arr true 1 ((mxH x c).fst.scopes.map Yfr),.arr true 5 ((mxH x c).fst.items.map Yfn)] (.sv (.agg [vI x.kind,vI x.number,vS x.text,.ref 3,.ref 4])))
 .q))))))) (.y false (.z Yfn x.items (.w (.ghost (.move 1)) (.w (.ghost (.move 2)) (.l (Z1n x c) (Z5r x c h ih) [0,1,2,3,4,5,6] [.s (li 0),.o (.box [vL
 (c.b.map Yg9),vI (c.i:Int),vI c.h]),.o (.arr true 1 (x.scopes.map Yfr)),.o (.arr true 5 (x.items.map Yfn))] 0 (.t (.f [5,6] [.box [vL (List.map
 Yg9 (mxH x c).snd.b),vI (↑(mxH x c).snd.i:Int),vI (mxH x c).snd.h],.dead,.dead,.arr true 1 ((mxH x c).fst.scopes.map Yfr),.arr true 5 (List.map Yfn
 (mxH x c).fst.items)] (.sv (.agg [vI x.kind,vI x.number,vS x.text,.ref 3,.ref 4]))) .q))))))) (by
 dsimp only [Yfp,Z1y,Yg0,Z1n]
 have g1:=Ysl x.items (mx0 x.kind x.scopes c).2
 have g2:=Y1hl x.items (mx0 x.kind x.scopes c).2
 have g3:=@Y1pp x.kind x.scopes c
 have g4:=@Y1r5 x.kind x.scopes c
 have g5:=@Y1qg x.kind x.scopes c
 have g6:=Yhn x
 with_reducible repeat' (first | apply And.intro | exact zR | exact ih | (intro) | apply Z2 | apply Z3c)
 all_goals ((try simp only [std,inj] at *); with_reducible and_intros)
 all_goals try with_reducible first | apply Z2 | apply Z3c | apply ih
 all_goals (try exact zG)
 all_goals first
  | exact Ygd h.1 | (unfold crO; with_reducible rfl)
  | (rw [g1,g3 (by assumption) (by assumption)]; unfold crO; with_reducible rfl)
  | (rw [g1,g4 (by assumption) (by assumption)]; unfold crO; with_reducible rfl)
  | (rw [g1,g5 (by assumption)]; unfold crO; with_reducible rfl))
theorem Zdf (x:YS):∀ (c:Cr) (h:okK c/\wY x<=1000000),Z1y x c:=YS.ind (P:=fun x=>∀ (c:Cr) (h:okK c/\wY x<=1000000),Z1y x c) (fun x ih c h=>Zei x c h ih) x
set_option maxHeartbeats 4000000
theorem Yma {c c':Cr} (h:c=c'):Ob.box [vL (c.b.map Yg9),vI (c.i:Nat),vI c.h]=crO c':=by subst h; rfl
abbrev Z7r (c:Cr):Ct:=⟨83,[crO c],[.one (.ptr 0 0)],crO (dyX c).2 :: Yhl (dyX c).1,.sv (Yhp (dyX c).1 1)⟩
theorem Zdg (c:Cr) (h:okK c)  : Z7r c:=Yg4 Tryz.call83 Tryz.func83 (.d [.ptr,.rd] (Z1f 4 c) (.d [.rd] (Zd (Yg1 4 c).fst) (.d [.ptr,.agg [none,none,none,
 some (true,1),some (true,5)]] (Z1y (Ygm (Yg1 4 c).fst) (Yg1 4 c).snd) (.f [9,10] [.box [vL ((mxH (Ygm (Yg1 4 c).fst) (Yg1 4 c).snd).snd.b.map Yg9),vI
 (↑(mxH (Ygm (Yg1 4 c).fst) (Yg1 4 c).snd).snd.i:Int),vI (mxH (Ygm (Yg1 4 c).fst) (Yg1 4 c).snd).snd.h],.arr true 1 ((mxH (Ygm (Yg1 4 c).fst) (Yg1 4
 c).snd).fst.scopes.map Yfr),.arr true 5 ((mxH (Ygm (Yg1 4 c).fst) (Yg1 4 c).snd).fst.items.map Yfn)] (.sv (.agg [vI (Ygm (Yg1 4 c).fst).kind,vI (Ygm (Yg1 4
 c).fst).number,vS (Ygm (Yg1 4 c).fst).text,.ref 1,.ref 2])))))) (by
 dsimp only [Yfp,Z7r]
 have g1:okK (Yg1 4 c).2:=Yzp h
 have g2:=(Ypr 4 c h).1
 rw [<- show Yg1 4 c=Ylh 4 c from Yn9 4 c] at g2
 have g3:=Yz0 (Yg1 4 c).1
 have g4:dyX c=mxH (Ygm (Yg1 4 c).1) (Yg1 4 c).2:=rfl
 have g5:=Yr1 (Ygm (Yg1 4 c).1) (Yg1 4 c).2
 have g6:(40 * 5 ^ 4:Nat)=25000:=by decide
 with_reducible repeat' (first | apply And.intro | exact zR | (intro) | apply Z4s | apply Zy | apply Zdf)
 all_goals ((try simp only [std,inj] at *); with_reducible and_intros)
 all_goals try with_reducible first | apply Z4s | apply Zy | apply Zdf
 all_goals try first | exact zw | grind [Yfy,Yfz,Yfs]
 all_goals exact Yma (by rw [g4]))
abbrev Z7s (c:Cr):Ct:=⟨31,[crO c],[.one (.ptr 0 0)],crO (ayX c).2 :: Yhl (ayX c).1,.sv (Yhp (ayX c).1 1)⟩
theorem Zar (c:Cr) (h:okK c)  : Z7s c:=Yg4 Tryz.call31 Tryz.func31 (.d [.ptr,.rd] (Z9 c 6) (.i (beX c (6:Int)=0) (.d [.ptr] (Z7o (beC c 6)) (.d [.rd]
 (Zd (Yjc (beC c 6)).fst) (.f [4,5] [.box [vL ((Yjc (beC c 6)).snd.b.map Yg9),vI (↑(Yjc (beC c 6)).snd.i:Int),vI (Yjc (beC c 6)).snd.h],.arr true 1
 ((Ygm (Yjc (beC c 6)).fst).scopes.map Yfr),.arr true 5 ((Ygm (Yjc (beC c 6)).fst).items.map Yfn)] (.sv (.agg [vI (Ygm (Yjc (beC c 6)).fst).kind,vI
 (Ygm (Yjc (beC c 6)).fst).number,vS (Ygm (Yjc (beC c 6)).fst).text,.ref 1,.ref 2]))))) (.d [.ptr] (Z7r (beC c 6)) (.d [.ptr,.rd] (Z9 (dyX (beC c 6)).snd 6)
 (.i (beX (dyX (beC c 6)).snd (6:Int)=0) (.d [.ptr] (Z5b (beC (dyX (beC c 6)).snd 6)) (.f [7,4] [.box [vL ((asC (beC (dyX (beC c 6)).snd 6)).b.map Yg9),vI
 (↑(asC (beC (dyX (beC c 6)).snd 6)).i:Int),vI (asC (beC (dyX (beC c 6)).snd 6)).h],.arr true 1 ((asX (beC (dyX (beC c 6)).snd 6)).map Yfr),.arr true 5 (List.map
 Yfn (dyX (beC c 6)).fst.items)] (.sv (.agg [vI (dyX (beC c 6)).fst.kind,vI (dyX (beC c 6)).fst.number,vS (dyX (beC c 6)).fst.text,.ref 1,.ref 2])))) (.f [3,4]
 [.box [vL ((beC (dyX (beC c 6)).snd 6).b.map Yg9),vI (↑(beC (dyX (beC c 6)).snd 6).i:Int),vI (beC (dyX (beC c 6)).snd 6).h],.arr true 1 ((dyX (beC c
 6)).fst.scopes.map Yfr),.arr true 5 ((dyX (beC c 6)).fst.items.map Yfn)] (.sv (.agg [vI (dyX (beC c 6)).fst.kind,vI (dyX (beC c 6)).fst.number,vS (dyX (beC c
 6)).fst.text,.ref 1,.ref 2])))))))) (by
 dsimp only [Yfp,Z7s]
 have g1:=@Ygd c 6 h
 have g2:=Y186 g1
 have g3:=Y1ez g1
 have g4:=@Ygd (dyX (beC c 6)).2 6 g3.1
 have f0:=@Y1n1 c
 have f1:=@Y1mm c
 have f2:=@Y1mc c
 with_reducible repeat' (first | apply And.intro | exact zR | (intro) | apply Z2 | apply Zcy | apply Zy | apply Zdg | apply Z78)
 all_goals ((try simp only [std,inj] at *); with_reducible and_intros)
 all_goals try with_reducible first | apply Z2 | apply Zcy | apply Zy | apply Zdg | apply Z78
 all_goals first
  | exact True.intro | with_reducible rfl | with_reducible assumption | omega | exact g2.2 | exact g3.1 | decide
  | (rw [f0 (by omega)]; first | done | rfl)
  | (rw [f1 (by omega) (by omega)]; first | done | rfl)
  | (rw [f2 (by omega) (by omega)]; first | done | rfl)
  | (have:=g2.1; omega))
abbrev Z79 (c:Cr):Ct:=⟨76,[crO c],[.one (.ptr 0 0)],[crO (bdX c).2,.arr true 1 ((bdX c).1.scopes.map Yfr)],.sv (.agg [vS (bdX c).1.text,.ref 1,vI (bdX c).1.kind,vI (bdX c).1.number])⟩
theorem Z3s (c:Cr) (h:okK c)  : Z79 c:=Yg4 Tryz.call76 Tryz.func76 (.d [.ptr,.own true 1] (Z6 c [ByteArray.mk #[(120:UInt8)],ByteArray.mk #[(121:UInt8)],
 ByteArray.mk #[(116:UInt8),(109:UInt8),(112:UInt8)],ByteArray.mk #[(105:UInt8),(102:UInt8)]]) (.d [.ptr] (Z4w (beC c 4)) (.d [.ptr,.rd] (Z4 (sC (beC c
 4)) 4) (.r (1+beX (sC (beC c 4)) 4) (.d [.ptr,.rd] (Z4 (beC (sC (beC c 4)) 4) 9) (.d [.ptr,.rd] (Z4 (beC (beC (sC (beC c 4)) 4) 9) 14) (.i (beX (beC (beC (sC
 (beC c 4)) 4) 9) (14:Int)=0) (.d [.ptr,.rd] (Z4 (beC (beC (beC (sC (beC c 4)) 4) 9) 14) 7) (.r (beX (beC (beC (beC (sC (beC c 4)) 4) 9) 14) 7 - 1) (.f [4] [.box [vL
 ((beC (beC (beC (beC (sC (beC c 4)) 4) 9) 14) 7).b.map Yg9),vI (↑(beC (beC (beC (beC (sC (beC c 4)) 4) 9) 14) 7).i:Int),vI (beC (beC (beC (beC (sC (beC c 4)) 4) 9) 14)
 7).h],.arr true 1 ((sX (beC c 4)).map Yfr)] (.sv (.agg [vS ([ByteArray.mk #[(120:UInt8)],ByteArray.mk #[(121:UInt8)],ByteArray.mk #[(116:UInt8),(109 :
 UInt8),(112:UInt8)],ByteArray.mk #[(105:UInt8),(102:UInt8)]].getD (beX c 4).toNat default),.ref 1,vI (beX (beC (beC (beC (sC (beC c 4)) 4) 9) 14) 7 - 1),vI (beX (beC
 (sC (beC c 4)) 4) 9)]))))) (.i (beX (beC (beC (sC (beC c 4)) 4) 9) (14:Int)=1) (.d [.ptr,.own true 1] (Zv (beC (beC (beC (sC (beC c 4)) 4) 9) 14) [(-1:Int),11,12,
 13,14,99999,100000]) (.f [4] [.box [vL ((beC (beC (beC (beC (sC (beC c 4)) 4) 9) 14) 7).b.map Yg9),vI (↑(beC (beC (beC (beC (sC (beC c 4)) 4) 9) 14) 7).i:Int),vI
 (beC (beC (beC (beC (sC (beC c 4)) 4) 9) 14) 7).h],.arr true 1 ((sX (beC c 4)).map Yfr)] (.sv (.agg [vS ([ByteArray.mk #[(120:UInt8)],ByteArray.mk #[(121 :
 UInt8)],ByteArray.mk #[(116:UInt8),(109:UInt8),(112:UInt8)],ByteArray.mk #[(105:UInt8),(102:UInt8)]].getD (beX c 4).toNat default),.ref 1,vI (1+beX (sC (beC c
 4)) 4),vI ([(-1:Int),11,12,13,14,99999,100000].getD (beX (beC (beC (beC (sC (beC c 4)) 4) 9) 14) 7).toNat 0)])))) (.i (beX (beC (beC (sC (beC c 4)) 4) 9) (14:Int)=2)
 (.d [.ptr] (Z5b (beC (beC (beC (sC (beC c 4)) 4) 9) 14)) (.f [7] [.box [vL ((asC (beC (beC (beC (sC (beC c 4)) 4) 9) 14)).b.map Yg9),vI (↑(asC (beC (beC (beC (sC
 (beC c 4)) 4) 9) 14)).i:Int),vI (asC (beC (beC (beC (sC (beC c 4)) 4) 9) 14)).h],.arr true 1 ((asX (beC (beC (beC (sC (beC c 4)) 4) 9) 14)).map Yfr)] (.sv (.agg
 [vS ([ByteArray.mk #[(120:UInt8)],ByteArray.mk #[(121:UInt8)],ByteArray.mk #[(116:UInt8),(109:UInt8),(112:UInt8)],ByteArray.mk #[(105:UInt8),(102:UInt8)]].getD
 (beX c 4).toNat default),.ref 1,vI (1+beX (sC (beC c 4)) 4),vI (beX (beC (sC (beC c 4)) 4) 9)])))) (.i (beX (beC (beC (sC (beC c 4)) 4) 9) (14:Int)=3) (.d [.ptr,.own
 true 1] (Z6 (beC (beC (beC (sC (beC c 4)) 4) 9) 14) [ByteArray.mk #[],ByteArray.mk #[(49:UInt8)]]) (.f [4] [.box [vL ((beC (beC (beC (beC (sC (beC c 4))
 4) 9) 14) 2).b.map Yg9),vI (↑(beC (beC (beC (beC (sC (beC c 4)) 4) 9) 14) 2).i:Int),vI (beC (beC (beC (beC (sC (beC c 4)) 4) 9) 14) 2).h],.arr true 1 ((sX (beC c
 4)).map Yfr)] (.sv (.agg [vS ([ByteArray.mk #[],ByteArray.mk #[(49:UInt8)]].getD (beX (beC (beC (beC (sC (beC c 4)) 4) 9) 14) 2).toNat default),.ref 1,vI (1+beX (sC (beC c
 4)) 4),vI (beX (beC (sC (beC c 4)) 4) 9)])))) (.f [4] [.box [vL ((beC (beC (beC (sC (beC c 4)) 4) 9) 14).b.map Yg9),vI (↑(beC (beC (beC (sC (beC c 4)) 4) 9) 14).i :
 Int),vI (beC (beC (beC (sC (beC c 4)) 4) 9) 14).h],.arr true 1 ((sX (beC c 4)).map Yfr)] (.sv (.agg [vS ([ByteArray.mk #[(120:UInt8)],ByteArray.mk #[(121 :
 UInt8)],ByteArray.mk #[(116:UInt8),(109:UInt8),(112:UInt8)],ByteArray.mk #[(105:UInt8),(102:UInt8)]].getD (beX c 4).toNat default),.ref 1,vI (1+beX (sC (beC c
 4)) 4),vI (beX (beC (sC (beC c 4)) 4) 9)]))))))))))))) (by
 dsimp only [Yfp,Z79]
 have o1:=@Ygd c 4 h
 have o2:okK (b2 c):=Yvv o1
 have o3:=@Ygd (b2 c) 4 o2
 have o4:okK (b4 c):=Ygd o3
 have o5:okK (b5 c):=Ygd o4
 have l1:=Yhf (b2 c) (n:=4) (by decide)
 have l2:=Yhf (b5 c) (n:=7) (by decide)
 have l3:=Yhf (b4 c) (n:=14) (by decide)
 have f0:=@Y1og c
 have f1:=@Y1od c
 have f2:=@Y1nr c
 have f3:=@Y1n8 c
 have f4:=@Y1ov c
 have o2':=o2
 simp only [b5,b4] at o4 o5 l2 l3 f0 f1 f2 f3 f4
 simp only [b2] at o2 o3 o4 o5 l1 l2 l3 f0 f1 f2 f3 f4
 simp only [bd0,b2,nmL,nuL,teL] at f0 f1 f2 f3 f4
 with_reducible repeat' (first | apply And.intro | exact zR | (intro) | apply Z8 | apply Z3c | apply Z0 | apply Zw | apply Z78)
 all_goals ((try simp only [std,inj] at *); with_reducible and_intros)
 all_goals try with_reducible first | apply Z8 | apply Z3c | apply Z0 | apply Zw | apply Z78
 all_goals first
  | exact True.intro | with_reducible rfl | with_reducible assumption | omega | exact ⟨h,by decide⟩ | exact ⟨o5,by decide⟩ | decide
  | (rw [f0 (by omega)]; first | done | rfl)
  | (rw [f1 (by omega)]; first | done | rfl)
  | (rw [f2 (by omega)]; first | done | rfl)
  | (rw [f3 (by omega)]; first | done | rfl)
  | (rw [f4 (by omega)]; first | done | rfl))
theorem Y16g (L:List YB) (x:YB):L.map Yfq++[[cS x.text,.list (x.scopes.map Yfr),cI x.kind,cI x.number]]=(L++[x]).map Yfq:=by
 rw [List.map_append]; rfl
abbrev Z8s (c:Cr):Ct:=⟨79,[crO c],[.one (.ptr 0 0)],[crO (t3X c).2,.arr true 4 ((t3X c).1.map Yfq)],.sv (.one (.ref 1))⟩
def Z69 (c:Cr):Lp (Int):=.mk 32 1 (fun x=>[(0,.one (.ptr 0 0)),(3,.one (.ref 1)),(4,hs x 0)]) (fun x=>[ho x 1,ho x 2]) (fun k=>[.s (li k),.o (crO
 (tbH (beX c 9 - k).toNat (beC c 9)).snd),.o (.arr true 4 ((tbH (beX c 9 - k).toNat (beC c 9)).fst.map Yfq))]) (fun k=>0<=k/\k<=beX c 9/\okK c) (fun k=>
 k.toNat) [.mk True (.exit 0) (fun x=>[(3,.one (.ref 1))]) (fun x=>[ho x 0,ho x 1]) [.o (crO (t3X c).snd),.o (.arr true 4 ((t3X c).fst.map Yfq))]]
theorem Zej (c:Cr) (h:okK c):Lp.Sem Tryz.prog (Yg6 Tryz.f79 0) (Z69 c):=Ygf (fun k=>.i (0<k) (.d [.ptr] (Z79 (tbH (beX c 9 - k).toNat (beC c 9)).snd)
 (.c [.rd] (Z4v (bdX (tbH (beX c 9 - k).toNat (beC c 9)).snd).fst) (.b (Yln (bdX (tbH (beX c 9 - k).toNat (beC c 9)).snd).fst) (.c [.rd,.rd] (Z68 (tbH (beX c 9 -
 k).toNat (beC c 9)).fst (bdX (tbH (beX c 9 - k).toNat (beC c 9)).snd).fst) (.b (!Yk5 (tbH (beX c 9 - k).toNat (beC c 9)).fst (bdX (tbH (beX c 9 - k).toNat (beC c
 9)).snd).fst.text (bdX (tbH (beX c 9 - k).toNat (beC c 9)).snd).fst.scopes) (.y true (.p ((((tbH (beX c 9 - k).toNat (beC c 9)).fst.map Yfq).length+1) * 56 <=
 140737488355328) (.r (k - 1) (.g [0,6] (k - 1) [.s (li (k - 1)),.o (.box [vL ((bdX (tbH (beX c 9 - k).toNat (beC c 9)).snd).snd.b.map Yg9),vI (↑(bdX (tbH (beX c 9 -
 k).toNat (beC c 9)).snd).snd.i:Int),vI (bdX (tbH (beX c 9 - k).toNat (beC c 9)).snd).snd.h]),.o (.arr true 4 ((tbH (beX c 9 - k).toNat (beC c 9)).fst.map Yfq ++
 [Ygi (bdX (tbH (beX c 9 - k).toNat (beC c 9)).snd).fst]))])))) (.d [.ptr,.rd] (Z9 (bdX (tbH (beX c 9 - k).toNat (beC c 9)).snd).snd 20) (.i (beX (bdX (tbH (beX c 9 -
 k).toNat (beC c 9)).snd).snd (20:Int)=0) (.p ((((tbH (beX c 9 - k).toNat (beC c 9)).fst.map Yfq).length+1) * 56<=140737488355328) (.r (k - 1) (.g [0,6] (k - 1)
 [.s (li (k - 1)),.o (.box [vL ((beC (bdX (tbH (beX c 9 - k).toNat (beC c 9)).snd).snd 20).b.map Yg9),vI (↑(beC (bdX (tbH (beX c 9 - k).toNat (beC c 9)).snd).snd 20).i :
 Int),vI (beC (bdX (tbH (beX c 9 - k).toNat (beC c 9)).snd).snd 20).h]),.o (.arr true 4 ((tbH (beX c 9 - k).toNat (beC c 9)).fst.map Yfq++[Ygi (bdX (tbH (beX c
 9 - k).toNat (beC c 9)).snd).fst]))]))) (.r (k - 1) (.g [0,1] (k - 1) [.s (li (k - 1)),.o (.box [vL ((beC (bdX (tbH (beX c 9 - k).toNat (beC c 9)).snd).snd
 20).b.map Yg9),vI (↑(beC (bdX (tbH (beX c 9 - k).toNat (beC c 9)).snd).snd 20).i:Int),vI (beC (bdX (tbH (beX c 9 - k).toNat (beC c 9)).snd).snd 20).h]),.o (.arr true 4 (List.map
 Yfq (tbH (beX c 9 - k).toNat (beC c 9)).fst))])))))) (.y false (.d [.ptr,.rd] (Z9 (bdX (tbH (beX c 9 - k).toNat (beC c 9)).snd).snd 20) (.i (beX (bdX (tbH (beX c 9 -
 k).toNat (beC c 9)).snd).snd (20:Int)=0) (.p ((((tbH (beX c 9 - k).toNat (beC c 9)).fst.map Yfq).length+1) * 56<=140737488355328) (.r (k - 1) (.g [0,6] (k - 1)
 [.s (li (k - 1)),.o (.box [vL ((beC (bdX (tbH (beX c 9 - k).toNat (beC c 9)).snd).snd 20).b.map Yg9),vI (↑(beC (bdX (tbH (beX c 9 - k).toNat (beC c 9)).snd).snd 20).i :
 Int),vI (beC (bdX (tbH (beX c 9 - k).toNat (beC c 9)).snd).snd 20).h]),.o (.arr true 4 ((tbH (beX c 9 - k).toNat (beC c 9)).fst.map Yfq++[Ygi (bdX (tbH (beX c
 9 - k).toNat (beC c 9)).snd).fst]))]))) (.r (k - 1) (.g [0,1] (k - 1) [.s (li (k - 1)),.o (.box [vL ((beC (bdX (tbH (beX c 9 - k).toNat (beC c 9)).snd).snd
 20).b.map Yg9),vI (↑(beC (bdX (tbH (beX c 9 - k).toNat (beC c 9)).snd).snd 20).i:Int),vI (beC (bdX (tbH (beX c 9 - k).toNat (beC c 9)).snd).snd 20).h]),.o (.arr true 4 (List.map
 Yfq (tbH (beX c 9 - k).toNat (beC c 9)).fst))])))))))) (.o 0 [0,1] [.o (.box [vL ((tbH (beX c 9 - k).toNat (beC c 9)).snd.b.map Yg9),vI (↑(tbH (beX c 9 - k).toNat
 (beC c 9)).snd.i:Int),vI (tbH (beX c 9 - k).toNat (beC c 9)).snd.h]),.o (.arr true 4 ((tbH (beX c 9 - k).toNat (beC c 9)).fst.map Yfq))])) (by
 intro k h; try dsimp only [Yfp,Yg0,Z69] at h ⊢
 have hc:=h.2.2
 have l9:=Yhf c (n:=9) (by decide)
 have ok:=Y1ee (n:=(beX c 9 - k).toNat) (Ygd (n:=9) hc)
 have okb:=Yzn ok.1
 have g4:0<k->(beX c 9 - (k - 1)).toNat=(beX c 9 - k).toNat+1:=fun _=>by omega
 have g5:¬ 0<k->0<=k->tbH (beX c 9 - k).toNat (beC c 9)=t3X c:=fun _ _=>by rw [Y1fn,show (beX c 9 - k).toNat=(beX c 9).toNat by omega]
 have ga:=@Y1jd (beX c 9 - k).toNat (beC c 9)
 have gb:=@Y1j1 (beX c 9 - k).toNat (beC c 9)
 have gc:=@Y1j9 (beX c 9 - k).toNat (beC c 9)
 have gs:=Y16g (tbH (beX c 9 - k).toNat (beC c 9)).1 (bdX (tbH (beX c 9 - k).toNat (beC c 9)).2).1
 with_reducible repeat' (first | apply And.intro | exact zR | (intro) | apply Z0 | apply Z3s | apply Z2)
 all_goals ((try simp only [std,inj] at *); with_reducible and_intros)
 all_goals try first | with_reducible (first | apply Z0 | apply Z3s | apply Z2) | (simp only [<- List.map_append]; with_reducible first | apply Z0 | apply Z3s | apply Z2)
 all_goals try first | exact zw | grind [Yog,Yfy,Yfz,Yfs]
 all_goals (refine Yma ?_; grind [Yog]))
theorem Z8e (c:Cr) (h:okK c)  : Z8s c:=Yg4 Tryz.call79 Tryz.func79 (.w (.bool false) (.d [.ptr,.rd] (Z4 c 9) (.l (Z69 c) (Zej c h) [0,1] [.s (li (beX
 c 9)),.o (.box [vL ((beC c 9).b.map Yg9),vI (↑(beC c 9).i:Int),vI (beC c 9).h]),.o (.arr true 4 [])] (beX c 9) (.t (.f [1] [.box [vL ((t3X
 c).snd.b.map Yg9),vI (↑(t3X c).snd.i:Int),vI (t3X c).snd.h],.arr true 4 ((t3X c).fst.map Yfq)] (.sv (.one (.ref 1)))) .q)))) (by
 dsimp only [Yfp,Z8s,Yg0,Z69]
 have l9:=Yhf c (n:=9) (by decide)
 have e0:(beX c 9 - beX c 9).toNat=0:=by omega
 have m0:=Y141 (beC c 9)
 with_reducible repeat' (first | apply And.intro | exact zR | (intro) | apply Z0 | apply Z3s | apply Z2)
 all_goals ((try simp only [std,inj] at *); with_reducible and_intros)
 all_goals try with_reducible first | apply Z0 | apply Z3s | apply Z2
 all_goals try first | exact zw | grind [Yfy,Yfz,Yfs]
 all_goals first | exact Yma rfl | exact Yma (by rw [e0,m0]))
abbrev Z8t (c:Cr):Ct:=⟨26,[crO c],[.one (.ptr 0 0)],[crO (taX c).2,.arr true 4 ((taX c).1.map Yfq)],.sv (.one (.ref 1))⟩
def Z6a (c:Cr):Lp (Int):=.mk 32 1 (fun x=>[(0,.one (.ptr 0 0)),(3,.one (.ref 1)),(4,hs x 0)]) (fun x=>[ho x 1,ho x 2]) (fun k=>[.s (li k),.o (crO
 (tgH (beX c 3 - k).toNat (beC c 3)).snd),.o (.arr true 4 ((tgH (beX c 3 - k).toNat (beC c 3)).fst.map Yfq))]) (fun k=>0<=k/\k<=beX c 3/\okK c) (fun k=>
 k.toNat) [.mk True (.exit 0) (fun x=>[(0,.one (.ptr 0 0)),(3,.one (.ref 1))]) (fun x=>[ho x 0,ho x 1]) [.o (crO (tg c).snd),.o (.arr true 4 (List.map Yfq
 (tg c).fst))]]
theorem Zek (c:Cr) (h:okK c):Lp.Sem Tryz.prog (Yg6 Tryz.f26 0) (Z6a c):=Ygf (fun k=>.i (0<k) (.d [.ptr] (Z79 (tgH (beX c 3 - k).toNat (beC c 3)).snd)
 (.c [.rd] (Z4v (bdX (tgH (beX c 3 - k).toNat (beC c 3)).snd).fst) (.b (Yln (bdX (tgH (beX c 3 - k).toNat (beC c 3)).snd).fst) (.c [.rd,.rd] (Z68 (tgH (beX c 3 -
 k).toNat (beC c 3)).fst (bdX (tgH (beX c 3 - k).toNat (beC c 3)).snd).fst) (.b (!Yk5 (tgH (beX c 3 - k).toNat (beC c 3)).fst (bdX (tgH (beX c 3 - k).toNat (beC c
 3)).snd).fst.text (bdX (tgH (beX c 3 - k).toNat (beC c 3)).snd).fst.scopes) (.p ((((tgH (beX c 3 - k).toNat (beC c 3)).fst.map Yfq).length+1) * 56<=140737488355328)
 (.r (k - 1) (.g [0,6] (k - 1) [.s (li (k - 1)),.o (.box [vL ((bdX (tgH (beX c 3 - k).toNat (beC c 3)).snd).snd.b.map Yg9),vI (↑(bdX (tgH (beX c 3 - k).toNat (beC c
 3)).snd).snd.i:Int),vI (bdX (tgH (beX c 3 - k).toNat (beC c 3)).snd).snd.h]),.o (.arr true 4 ((tgH (beX c 3 - k).toNat (beC c 3)).fst.map Yfq++[Ygi (bdX
 (tgH (beX c 3 - k).toNat (beC c 3)).snd).fst]))]))) (.r (k - 1) (.g [0,1] (k - 1) [.s (li (k - 1)),.o (.box [vL ((bdX (tgH (beX c 3 - k).toNat (beC c
 3)).snd).snd.b.map Yg9),vI (↑(bdX (tgH (beX c 3 - k).toNat (beC c 3)).snd).snd.i:Int),vI (bdX (tgH (beX c 3 - k).toNat (beC c 3)).snd).snd.h]),.o (.arr true 4 (List.map Yfq
 (tgH (beX c 3 - k).toNat (beC c 3)).fst))])))) (.y false (.r (k - 1) (.g [0,1] (k - 1) [.s (li (k - 1)),.o (.box [vL ((bdX (tgH (beX c 3 - k).toNat (beC c
 3)).snd).snd.b.map Yg9),vI (↑(bdX (tgH (beX c 3 - k).toNat (beC c 3)).snd).snd.i:Int),vI (bdX (tgH (beX c 3 - k).toNat (beC c 3)).snd).snd.h]),.o (.arr true 4 (List.map Yfq
 (tgH (beX c 3 - k).toNat (beC c 3)).fst))])))))) (.o 0 [0,1] [.o (.box [vL ((tgH (beX c 3 - k).toNat (beC c 3)).snd.b.map Yg9),vI (↑(tgH (beX c 3 - k).toNat (beC c
 3)).snd.i:Int),vI (tgH (beX c 3 - k).toNat (beC c 3)).snd.h]),.o (.arr true 4 ((tgH (beX c 3 - k).toNat (beC c 3)).fst.map Yfq))])) (by
 intro k h; try dsimp only [Yfp,Yg0,Z6a] at h ⊢
 have hc:=h.2.2
 have l9:=Yhf c (n:=3) (by decide)
 have ok:=Y1eh (n:=(beX c 3 - k).toNat) (Ygd (n:=3) hc)
 have okb:=Yzn ok.1
 have g4:0<k->(beX c 3 - (k - 1)).toNat=(beX c 3 - k).toNat+1:=fun _=>by omega
 have g5:¬ 0<k->0<=k->tgH (beX c 3 - k).toNat (beC c 3)=tg c:=fun _ _=>by unfold tg; rw [show (beX c 3 - k).toNat=(beX c 3).toNat by omega]
 have ga:=@Y1iu (beX c 3 - k).toNat (beC c 3)
 have gb:=@Y1j4 (beX c 3 - k).toNat (beC c 3)
 have gs:=Y16g (tgH (beX c 3 - k).toNat (beC c 3)).1 (bdX (tgH (beX c 3 - k).toNat (beC c 3)).2).1
 with_reducible repeat' (first | apply And.intro | exact zR | (intro) | apply Z0 | apply Z3s | apply Z2 | apply Z8e)
 all_goals ((try simp only [std,inj] at *); with_reducible and_intros)
 all_goals try first | with_reducible (first | apply Z0 | apply Z3s | apply Z2 | apply Z8e) | (simp only [<- List.map_append]; with_reducible first | apply Z0 | apply Z3s | apply Z2 | apply Z8e)
 all_goals try first | exact zw | grind [Yog,Yfy,Yfz,Yfs]
 all_goals (refine Yma ?_; grind [Yog]))
theorem Zce (c:Cr) (h:okK c)  : Z8t c:=Yg4 Tryz.call26 Tryz.func26 (.c [] Z8a (.d [.ptr,.rd] (Z4 c 3) (.l (Z6a c) (Zek c h) [0,1] [.s (li
 (beX c 3)),.o (.box [vL ((beC c 3).b.map Yg9),vI (↑(beC c 3).i:Int),vI (beC c 3).h]),.o (.arr true 4 (Yia.map Yfq))] (beX c 3) (.t (.d [.ptr,
 .rd] (Z9 (tg c).snd 14) (.i (beX (tg c).snd (14:Int)=0) (.d [.ptr] (Z8s (beC (tg c).snd 14)) (.f [3] [.box [vL ((t3X (beC (tg c).snd 14)).snd.b.map Yg9),
 vI (↑(t3X (beC (tg c).snd 14)).snd.i:Int),vI (t3X (beC (tg c).snd 14)).snd.h],.arr true 4 ((t3X (beC (tg c).snd 14)).fst.map Yfq)] (.sv (.one (.ref 1)))))
 (.f [1] [.box [vL ((beC (tg c).snd 14).b.map Yg9),vI (↑(beC (tg c).snd 14).i:Int),vI (beC (tg c).snd 14).h],.arr true 4 ((tg c).fst.map Yfq)] (.sv
 (.one (.ref 1)))))) .q)))) (by
 dsimp only [Yfp,Z8t,Yg0,Z6a]
 have l9:=Yhf c (n:=3) (by decide)
 have e0:(beX c 3 - beX c 3).toNat=0:=by omega
 have m0:=Y14i (beC c 3)
 have o1:=(Y1io h).1
 have o2:=@Ygd (tg c).2 14 o1
 have f0:=@Y1ou c
 have f1:=@Y1mw c
 with_reducible repeat' (first | apply And.intro | exact zR | (intro) | apply Z0 | apply Z3s | apply Z2 | apply Z8e)
 all_goals ((try simp only [std,inj] at *); with_reducible and_intros)
 all_goals try with_reducible first | apply Z0 | apply Z3s | apply Z2 | apply Z8e
 all_goals try first | exact zw | grind [Yfy,Yfz,Yfs]
 all_goals first | exact Yma rfl | exact Yma (by rw [e0,m0]) | exact Yma (by rw [f0 (by omega)]) | exact Yma (by rw [f1 (by omega)]))
end Go.Proofs.YtclpofblehlojaaGreat
end
