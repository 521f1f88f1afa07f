/- An expansion of a drawn form is a closed term, and the expander behind it is right and has gone on; a failure leaves the expander as it was. No condition. -/
import Derived.Test.YtcbodhkhppgkiaaGreatClo5
import Derived.Lib.AtoiErr
set_option maxHeartbeats 4000000
set_option linter.unusedVariables false
set_option linter.unusedSimpArgs false
section
namespace Go.Proofs.YtcbodhkhppgkiaaGreat
open Go Ab Proofs.Tryz
section
abbrev Z28 (c:Yc):Ct:=⟨83,[],[Yt3 c],[],.sv (li (Yoj c))⟩
def Z53 (c:Yc):Lp Nat:=.mk 20 0 (λx=>[(3,hs x 1),(7,Av c.Kb),(8,li (c.Kb.map Ykz).length),(9,hs x 0)]) (λx=>[]) (λk=>[.s (li k),.s (li (↑(Yll Yoj (c.Kb.take k)):Int))]) (λk=>k<=c.Kb.length/\c.Kb.length<=9223372036854775807) (λk=>c.Kb.length - k) [.mk True (.exit 0) (λx=>[(3,hs x 0)]) (λx=>[]) [.s (li (↑(Yll Yoj c.Kb):Int))]]
theorem Zfj (c:Yc) (h:Yl9 c<=2147483647) (ih:∀ (z:Yc),z∈c.Kb->Yl9 z<=2147483647->OK (Z28 z)):Lp.Sem prog (Yks f83 0) (Z53 c):=Yl0 (λk=>let v1:=(↑(Yll Yoj (c.Kb.take k)):Int);let v2:=c.Kb.g k;.i ((k:Int)<(c.Kb.map Ykz).length) (.x (k:Int) (c.Kb.map Ykz) (Ymg v2) (.d [.rd] (Z28 v2) (.r ((k:Int)+1) (.g [] (k+1) [.s (li ((k:Int)+1)),.s (li (max v1 (↑(Yoj v2):Int)))])))) (.o 0 [] [.s (li v1)])) (by
 intro k h;try dsimp only[Ykd,Yko,Z53]at h|-
 have g1:=Yoh c
 have g2:=@Yl3 _ Yl9 c.Kb (c.Kb.g k)
 exact z0b)
theorem Zje (c:Yc) (h:Yl9 c<=2147483647) (ih:∀ z∈c.Kb,∀ (h:Yl9 z<=2147483647),Z28 z):Z28 c:=Ykr call83 func83 (let v1:=(↑(Yll Yoj c.Kb):Int)+1;.z Ykz c.Kb (.l (Z53 c) (Zfj c h ih) [] [.s (li 0),.s (li 0)] 0 (.t (.r v1 (.s (li v1))) .q))) (by
 dsimp only[Ykd,Z28,Yko,Z53]
 have h1:=Y1wt c
 have g2:Yll Yoj (c.Kb.take 0)=0:=rfl
 with_reducible repeat' (first|apply ah|exact zR|exact ih|(intro))
 all_goals ((try simp only[std,inj]at *);with_reducible and_intros)
 all_goals try with_reducible first|apply ih
 all_goals try first|exact z|grind[Y12e,Ykl,Ykm,Ykf])
theorem Zif (c:Yc):∀ (h:Yl9 c<=2147483647),Z28 c:=Yc.ind (P:=λc=>∀ (h:Yl9 c<=2147483647),Z28 c) (λc ih h=>Zje c h ih) c
abbrev Z29 (c:Yc):Ct:=⟨82,[],[Yt3 c],[],.sv (li (Yl9 c))⟩
def Z54 (c:Yc):Lp Nat:=.mk 19 0 (λx=>[(3,hs x 1),(7,Av c.Kb),(8,li (c.Kb.map Ykz).length),(9,hs x 0)]) (λx=>[]) (λk=>[.s (li k),.s (li (↑(1+sumBy Yl9 (c.Kb.take k)):Int))]) (λk=>k<=c.Kb.length/\c.Kb.length<=9223372036854775807) (λk=>c.Kb.length - k) [.mk True (.exit 0) (λx=>[(3,hs x 0)]) (λx=>[]) [.s (li (↑(1+sumBy Yl9 c.Kb):Int))]]
theorem Zfk (c:Yc) (h:Yl9 c<=2147483647) (ih:∀ (z:Yc),z∈c.Kb->Yl9 z<=2147483647->OK (Z29 z)):Lp.Sem prog (Yks f82 0) (Z54 c):=Yl0 (λk=>let v2:=(↑(1+sumBy Yl9 (c.Kb.take k)):Int);let v3:=c.Kb.g k;let v1:=v2+(↑(Yl9 v3):Int);.i ((k:Int)<(c.Kb.map Ykz).length) (.x (k:Int) (c.Kb.map Ykz) (Ymg v3) (.d [.rd] (Z29 v3) (.r v1 (.r ((k:Int)+1) (.g [] (k+1) [.s (li ((k:Int)+1)),.s (li v1)]))))) (.o 0 [] [.s (li v2)])) (by
 intro k h;try dsimp only[Ykd,Yko,Z54]at h|-
 have g1:=Yoh c
 have g2:=@Yl3 _ Yl9 c.Kb (c.Kb.g k)
 have g3:=@Ynp _ _ Yl9 c.Kb k
 have g4:=Ym2 Yl9 c.Kb (k+1)
 have g5:c.Kb.length<=k->c.Kb.take k=c.Kb:=λh=>av h
 exact z01)
theorem Zjf (c:Yc) (h:Yl9 c<=2147483647) (ih:∀ z∈c.Kb,∀ (h:Yl9 z<=2147483647),Z29 z):Z29 c:=Ykr call82 func82 (.z Ykz c.Kb (.l (Z54 c) (Zfk c h ih) [] [.s (li 0),.s (li 1)] 0 (.t (.s (li (↑(1+sumBy Yl9 c.Kb):Int))) .q))) (by
 dsimp only[Ykd,Z29,Yko,Z54]
 have g1:=Yoh c
 have g2:sumBy Yl9 (c.Kb.take 0)=0:=rfl
 exact z02)
theorem Zig (c:Yc):∀ (h:Yl9 c<=2147483647),Z29 c:=Yc.ind (P:=λc=>∀ (h:Yl9 c<=2147483647),Z29 c) (λc ih h=>Zjf c h ih) c
def Ysx (c:Yc) (e:Int):Int:=if e=0/\(3000<Yl9 c\/150<Yoj c) then 8 else e
abbrev Zap (c:Yc) (e:Int):Ct:=⟨33,[],[Yt3 c,li e],[],.sv (li (Ysx c e))⟩
theorem Zen (c:Yc) (e:Int) (h:e=0->Yl9 c<=1000000):Zap c e:=Ykr call33 func33 (.i (e=0) (.d [.rd] (Z29 c) (.i (3000<(↑(Yl9 c):Int)) (.y true (.s (li 8))) (.d [.rd] (Z28 c) (.i (150<(↑(Yoj c):Int)) (.s (li 8)) (.s (li e)))))) (.y false (.s (li e)))) (by
 dsimp only[Ykd,Zap]
 with_reducible repeat' (first|apply ah|exact zR|(intro)|apply Zig|apply Zif)
 all_goals ((try simp only[std,inj]at *);with_reducible and_intros)
 all_goals try with_reducible first|apply Zig|apply Zif
 all_goals try first|exact z|grind[Ysx,Ykl,Ykm,Ykf])
abbrev Z8f (x:YE):Ct:=⟨16,[],[Ysi x],[],.sv (lb (Ylg x))⟩
def Z7k (x:YE):Lp Nat:=.mk 115 0 (λx_1=>[(1,.y 0),(66,Aj x.Ba),(67,li (x.Ba.map Ykc).length),(68,hs x_1 0)]) (λx_1=>[.box (vals (Yp1 x))]) (λk=>[.s (li k)]) (λk=>k<=x.Ba.length/\x.Ba.length<=9223372036854775807/\(x.Ba.take k).all (Ytf x)) (λk=>x.Ba.length - k) [.mk (x.Ba.all (Ytf x)) (.exit 2) (λx=>[]) (λx=>[]) [],.mk (x.Ba.all (Ytf x)=false) .ret (λx=>[(2,hs x 0)]) (λx=>[]) [.s (lb false)]]
def Z7l (x:YE):Lp Nat:=.mk 115 0 (λx_1=>[(1,.y 0),(48,ll (x.Ma.map Ykn)),(49,li (x.Ma.map Ykn).length),(50,hs x_1 0)]) (λx_1=>[.box (vals (Yp1 x))]) (λk=>[.s (li k)]) (λk=>k<=x.Ma.length/\x.Ma.length<=9223372036854775807/\(x.Ma.take k).all (ruX x)) (λk=>x.Ma.length - k) [.mk (x.Ma.all (ruX x)) (.exit 0) (λx=>[(1,.y 0)]) (λx_1=>[.box (vals (Yp1 x))]) [],.mk (x.Ma.all (ruX x)=false) .ret (λx=>[(2,hs x 0)]) (λx=>[]) [.s (lb false)]]
theorem Zih (x:YE) (h:okX x):Lp.Sem prog (Yks f16 1) (Z7k x):=Yl0 (λk=>let v1:=x.Ba.g k;let v2:Tq _ _:=.r ((k:Int)+1) (.g [0] (k+1) [.s (li ((k:Int)+1))]);let v3:=((x.Ma.map Ykn).length:Int);let v4:Tq _ _:=.y true (.o 1 [] [.s (lb false)]);let v5:Tq _ _:=.z Yke v1.Sa (.z Ykn x.Ma (.i (v3<=v1.Na) (.o 1 [] [.s (lb false)]) v2));let v6:=((v1.Sa.map Yke).length:Int);let v7:Tq _ _:=.z Yke v1.Sa (.y false v2);let v8:Tq _ _:=.z Yke v1.Sa (.z Yke v1.Sa v4);let v9:Tq _ _:=.i (v1.Ka=4) (.z Yke v1.Sa v5) (.z Yke v1.Sa v7);.i ((k:Int)<(x.Ba.map Ykc).length) (.x (k:Int) (x.Ba.map Ykc) (Yl6 v1) (.w (.draw []) (.i (0<v6) (.r (v6 - 1) (.x (v6 - 1) (v1.Sa.map Yke) [cI (v1.Sa.getD (v6 - 1).toNat 0)] (.i (x.Sb<v1.Sa.getD (v6 - 1).toNat 0) (.y true v8) (.i (v1.Ka=3) (.i (x.Va<v1.Na) v8 v9) (.y false v9))))) (.y false (.i (v1.Ka=3) (.i (x.Va<v1.Na) (.z Yke v1.Sa v4) (.i (v1.Ka=4) v5 v7)) (.y false (.i (v1.Ka=4) v5 v7))))))) (.o 0 [] [])) (by
 intro k h;try dsimp only[Ykd,Yko,Z7k]at h|-
 have hh := ‹okX x›
 have g0:=hh.macs.1
 have g1:=hh.binds.1
 have g2:k<x.Ba.length->wB (x.Ba.g k)<=199999:=λa=>(hh.binds.2 _ (Ykg a)).1
 have g3:=@Y1pl x k
 have g4:=@Y1w1 x k
 have g5:Ytf x (x.Ba.g k)=(!(decide (0<((x.Ba.g k).Sa.length:Int))&&decide (x.Sb<(x.Ba.g k).Sa.getD (((x.Ba.g k).Sa.length:Int) - 1).toNat 0)) && !(decide ((x.Ba.g k).Ka=3)&&decide (x.Va<(x.Ba.g k).Na)) && !(decide ((x.Ba.g k).Ka=4)&&decide ((x.Ma.length:Int)<=(x.Ba.g k).Na))):=rfl
 have g6:x.Ba.length<=k->x.Ba.take k=x.Ba:=λh=>av h
 have g7:=Y1lb (x.Ba.g k)
 exact z13)
theorem Zii (x:YE) (h:okX x):Lp.Sem prog (Yks f16 0) (Z7l x):=Yl0 (λk=>let v1:=x.Ma.g k;.i ((k:Int)<(x.Ma.map Ykn).length) (.x (k:Int) (x.Ma.map Ykn) (Ynw v1) (.d [.rd] (Z3y v1) (.b (!Ym8 v1) (.y true (.o 1 [] [.s (lb false)])) (.c [.rd,.rd] (Zjp v1 x.Sb) (.b (!Ytj x.Sb v1) (.o 1 [] [.s (lb false)]) (.r ((k:Int)+1) (.g [0] (k+1) [.s (li ((k:Int)+1))]))))))) (.o 0 [0] [])) (by
 intro k h;try dsimp only[Ykd,Yko,Z7l]at h|-
 have hh := ‹okX x›
 have g1:=hh.macs.1
 have g2:k<x.Ma.length->wR (x.Ma.g k)<=1000000000:=λa=>by have:=(hh.macs.2 _ (Ykg a)).2;omega
 have g3:=@Y1sz x k
 have g4:=@Y20y x k
 have g5:ruX x (x.Ma.g k)=(Ym8 (x.Ma.g k)&&Ytj x.Sb (x.Ma.g k)):=rfl
 have g6:x.Ma.length<=k->x.Ma.take k=x.Ma:=λh=>av h
 exact z13)
theorem Z6r (x:YE) (h:okX x):Z8f x:=Ykr call16 func16 (let v2:Tq _ _:=.y true (.s (lb false));let v1:Tq _ _:=.y true (.y true v2);.c [.rd] (Zk4 x.Ba) (.b (!Ywk x.Ba) (.y true (.y true (.y true (.y true v1)))) (.z Ykn x.Ma (.i (200<((x.Ma.map Ykn).length:Int)) (.y true (.y true (.y true v1))) (.i (x.Sb<0) (.y true (.y true v1)) (.i (99999<x.Sb) (.y true v1) (.i (x.Va<0) v1 (.i (99999<x.Va) (.y true v2) (.i (x.Sc<0) v2 (.i (200<x.Sc) (.s (lb false)) (.z Ykn x.Ma (.l (Z7l x) (Zii x h) [0] [.s (li 0)] 0 (.t (.z Ykc x.Ba (.l (Z7k x) (Zih x h) [0] [.s (li 0)] 0 (.t (.s (lb true)) (.t (.s (lb false)) .q)))) (.t (.s (lb false)) .q)))))))))))))) (by
 dsimp only[Ykd,Z8f,Yko,Z7l,Z7k]
 with_reducible repeat' (first|apply ah|exact zR|(intro)|apply Za)
 all_goals ((try simp only[std,inj]at *);with_reducible and_intros)
 all_goals try with_reducible first|apply Za
 all_goals try first|exact z|grind[Ylg,Ykl,Ykm,Ykf])
abbrev Zaq (x:YE) (s:YS_):Ct:=⟨28,[],[Ysi x,ll [[cI s.Ka,cI s.Na,cS s.Ta,.Ao s.Sa,.Au s.Ia]]],[],.sv (lb (xsB x s))⟩
def Z7m (x:YE) (s:YS_):Lp Nat:=.mk 27 0 (λx=>[(2,.y 0),(10,ll [Yki s]),(11,li 1),(12,hs x 0)]) (λx_1=>[.box (vals (Yp1 x))]) (λk=>[.s (li k)]) (λk=>k<=1/\Ylg x/\(k=0\/(Ykk s&&blw x.Sb s))) (λk=>1 - k) [.mk (xsB x s) (.exit 0) (λx=>[]) (λx=>[]) [],.mk (xsB x s=false) .ret (λx=>[(4,hs x 0)]) (λx=>[]) [.s (lb false)]]
theorem Zij (x:YE) (s:YS_) (h:okX x):Lp.Sem prog (Yks f28 0) (Z7m x s):=Yl0 (λk=>.i ((k:Int)<1) (.x (k:Int) [Yki s] (Yki s) (.c [.rd] (Z17 s) (.b (!Ykk s) (.y true (.o 1 [] [.s (lb false)])) (.c [.rd,.rd] (Z4e s x.Sb) (.b (!blw x.Sb s) (.o 1 [] [.s (lb false)]) (.r ((k:Int)+1) (.g [0] (k+1) [.s (li ((k:Int)+1))]))))))) (.o 0 [] [])) (by
 intro k h;try dsimp only[Ykd,Yko,Z7m]at h|-
 with_reducible repeat' (first|apply ah|exact zR|(intro)|apply Z6r|apply Z4e)
 all_goals ((try simp only[std,inj]at *);with_reducible and_intros)
 all_goals try with_reducible first|apply Z6r|apply Z4e
 all_goals try first|exact zw|grind[xsB,Ykl,Ykm,Ykf]
 all_goals (try (exact Y1w8 oW)))
theorem Zeo (x:YE) (s:YS_) (h:okX x):Zaq x s:=Ykr call28 func28 (.d [.rd] (Z8f x) (.b (!Ylg x) (.s (lb false)) (.h (1<=9223372036854775807) (.l (Z7m x s) (Zij x s h) [0] [.s (li 0)] 0 (.t (.s (lb true)) (.t (.s (lb false)) .q)))))) (by
 dsimp only[Ykd,Zaq,Yko,Z7m]
 with_reducible repeat' (first|apply ah|exact zR|(intro)|apply Z6r|apply Z4e)
 all_goals ((try simp only[std,inj]at *);with_reducible and_intros)
 all_goals try with_reducible first|apply Z6r|apply Z4e
 all_goals try first|exact zw|grind[xsB,Ykl,Ykm,Ykf])
abbrev ys0 (x:YE):YS:=⟨x.Ba,x.Ma,x.Sb,x.Va,x.Sc,0⟩
def yrE (b:Bool) (r:YR Yc):Int:=if b then Ysx r.v r.e else 1
def yrC (b:Bool) (r:YR Yc):Yc:=if yrE b r=0 then r.v else yN
def yrX (x:YE) (b:Bool) (r:YR Yc):YE:=if yrE b r=0 then r.m.x else x
section
variable {x:YE}{b:Bool}{r:YR Yc}
theorem Y1kn (h:(!b)):yrE b r=1:=ab (nb h)
theorem Y1uv (h:(!b)):yrC b r=yN:=ab (by rw[Y1kn h];decide)
theorem Y1uo (h:(!b)):yrX x b r=x:=ab (by rw[Y1kn h];decide)
theorem Y17m (h:(!b)=false):yrE b r=Ysx r.v r.e:=ae (tb h)
theorem Y1uw (h:(!b)=false) (g:¬ Ysx r.v r.e=0):yrC b r=yN:=ab (by rw[Y17m h];exact g)
theorem Y1tx (h:(!b)=false) (g:¬ Ysx r.v r.e=0):yrX x b r=x:=ab (by rw[Y17m h];exact g)
theorem Y1ui (h:(!b)=false) (g:Ysx r.v r.e=0):yrC b r=r.v:=ae (by rw[Y17m h];exact g)
theorem Y1u0 (h:(!b)=false) (g:Ysx r.v r.e=0):yrX x b r=r.m.x:=ae (by rw[Y17m h];exact g)
end
theorem Y12r {x:YE}{s:YS_}(h:xsB x s):Ykk s:=by
 simp only[xsB,af]at h;exact h.1.2
theorem Y1yt {s:YS_}{m:YS}(hm:Yl4 m) (hs:Ykk s) (e:(yX s m).e=0):Yl9 (yX s m).v<=1000000:=by
 have g:=Yvo (Yzf.f s m e) hs hm
 have h1:=g.siz
 have h2:=g.ok.2
 have h3:=hm.2
 omega
abbrev Zar (x:YE) (s:YS_):Ct:=⟨11,[],[Ysi x,Ykx s],Yzn (yrC (xsB x s) (yX s (ys0 x)))++Y1aj (yrX x (xsB x s) (yX s (ys0 x))),.tup [Y10c (yrC (xsB x s) (yX s (ys0 x))) 0,Y19d (yrX x (xsB x s) (yX s (ys0 x))) 3,li (yrE (xsB x s) (yX s (ys0 x)))]⟩
theorem Zep (x:YE) (s:YS_) (h:okX x/\wX x<=1048576/\wY s<=1000000000):Zar x s:=Ykr call11 func11 (let v5:=YS.mk x.Ba x.Ma x.Sb x.Va x.Sc 0;let v1:=yX s v5;let v2:List Ob:=[.y 1 [],.y 4 [],.y 8 [],.Ac x.Ba,.Ad x.Ma];let v3:=[vI 0,vI 0,.ref 0,vI 0,vI 0,vS (mkS []),.ref 1,.ref 2];let v4:List AC:=[.ref 3,.ref 4,vI x.Sb,vI x.Va,vI x.Sc];.d [.rd] (Z5p x) (.d [.rd,.rd] (Zaq x s) (.b (!xsB x s) (.w (.draw [(3,[2]),(4,[3])]) (.w (.g (.nilbox 2 2 true 1)) (.w (.g (.nilbox 2 6 true 4)) (.w (.g (.nilbox 2 7 true 8)) (.f [8,9,10,4,5] v2 (.tup [.agg v3,.agg v4,li 1])))))) (.d [.ptr,.rd] (Zo s v5) (.d [.rd,.rd] (Zap v1.v v1.e) (.i (Ysx v1.v v1.e≠0) (.d [.rd] (Z5p x) (.w (.g (.nilbox 2 2 true 1)) (.w (.g (.nilbox 2 6 true 4)) (.w (.g (.nilbox 2 7 true 8)) (.f [19,20,21,17,18] v2 (.tup [.agg v3,.agg v4,li (Ysx v1.v v1.e)])))))) (.w (.draw [(3,[2]),(4,[3])]) (.f [13,14,15,11,12] [.Aa v1.v.Pa,.Ah v1.v.Da.Ia,.Ak v1.v.Kb,.Ac v1.m.Ba,.Ad v1.m.Ma] (.tup [.agg [vI v1.v.Ka,vI v1.v.Na,.ref 0,vI v1.v.Da.Ka,vI v1.v.Da.Na,vS v1.v.Da.Ta,.ref 1,.ref 2],.agg [.ref 3,.ref 4,vI v1.m.Sb,vI v1.m.Va,vI v1.m.Sc],li 0]))))))))) (by
 dsimp only[Ykd,Zar]
 have g0:Yl4 (ys0 x):=⟨h.1,aJ _,by show (0:Int)<=3000;decide⟩
 have g1:=λa:(!xsB x s)=false=>Y1yt g0 (Y12r (tb a))
 with_reducible repeat' (first|apply ah|exact zR|(intro)|apply Zai|apply Zeo|apply Zjd|apply Zen)
 all_goals ((try simp only[std,inj]at *);with_reducible and_intros)
 all_goals try first|with_reducible (first|apply Zai|apply Zeo|apply Zjd|apply Zen)|(simp only[<- ar];with_reducible first|apply Zai|apply Zeo|apply Zjd|apply Zen)
 all_goals (try simp only[aL]at *)
 all_goals first
  | exact cb|omega|rfl|exact h.1|exact g0|exact g1 aW aW|exact⟨g0,Y12r (tb aW)⟩|exact Y12r (tb aW)|exact h.2.1|exact h.2.2
  | (rw[Y1uv aW,Y1uo aW]<;>rfl)|(rw[Y1kn aW];done)|(rw[Y1uv aW]<;>rfl)|(rw[Y1uo aW]<;>rfl)
  | (rw[Y1uw aW aW,Y1tx aW aW]<;>rfl)|(rw[Y17m aW];first|done|exact Eq.symm aW|rfl)|(rw[Y1uw aW aW]<;>rfl)|(rw[Y1tx aW aW]<;>rfl)
  | (rw[Y1ui aW aW,Y1u0 aW aW]<;>rfl)|(rw[Y1ui aW aW]<;>rfl)|(rw[Y1u0 aW aW]<;>rfl)
  | skip)
end
section
abbrev Zas (b:List UInt8):Ct:=⟨25,[],[Ax b],[crO (Yxt b)],.sv (.y 0)⟩
def Z7n (b:List UInt8):Lp Nat:=.mk 32 0 (λx=>[(0,Ax b),(3,hs x 1),(4,hs x 0)]) (λx=>[]) (λk=>[.s (li k),.s (li (hN b k))]) (λk=>k<=b.length/\b.length<=9223372036854775807/\k<=4000) (λk=>b.length - k) [.mk True (.exit 0) (λx=>[(0,Ax b),(3,hs x 0)]) (λx=>[]) [.s (li (hN b (min b.length 4000)))]]
theorem Zik (b:List UInt8) (h:b.length<=1048576):Lp.Sem prog (Yks f25 0) (Z7n b):=Yl0 (λk=>let v1:=(↑(b.g k).toNat:Int);.z Ym0 b (.i ((k:Int)<(b.map Ym0).length) (.i ((k:Int)<4000) (.r (hN b k * 1103) (.x (k:Int) (b.map Ym0) [.lit (.int .u8 v1)] (.r v1 (.r (hN b k * 1103+v1) (.r (hN b k * 1103+v1+7) (.r ((k:Int)+1) (.g [] (k+1) [.s (li ((k:Int)+1)),.s (li (Ys6 .i64 (hN b k * 1103+v1+7) 1073741823))]))))))) (.o 0 [] [.s (li (hN b k))])) (.y false (.o 0 [] [.s (li (hN b k))])))) (by
 intro k h;try dsimp only[Ykd,Yko,Z7n]at h|-
 have g1:=Y23d (b:=b) tW k
 have g2:hN b (k+1)=Ys6 .i64 (hN b k * 1103+((b.getD k 0).toNat:Int)+7) 1073741823:=rfl
 have g3:=(b.getD k 0).toNat_lt
 have g4:b.length<=k->k<=4000->min b.length 4000=k\/b.length<k:=by omega
 have g5:4000<=k->k<=4000->k<=b.length->min b.length 4000=k:=by omega
 have g6:k<b.length->(b.map Ym0)[k]? = some [.lit (.int .u8 ((b.getD k 0).toNat:Int))]:=λe=>by simp[Ym0,aq,e]
 exact z07)
theorem Zil (b:List UInt8) (h:b.length<=1048576):Zas b:=Ykr call25 func25 (let v1:=3220+((b.map Ym0).length:Int);.z Ym0 b (.r v1 (.l (Z7n b) (Zik b h) [] [.s (li 0),.s (li v1)] 0 (.t (.f [0] [.box [Aq b,vI 0,vI (hN b (min b.length 4000))]] (.sv (.y 0))) .q)))) (by
 dsimp only[Ykd,Zas,Yko,Z7n]
 have g1:hN b 0=3220+(b.length:Int):=rfl
 have g2:crO (Yxt b)=.box [vL (b.map Ym0),vI 0,vI (hN b (min b.length 4000))]:=rfl
 exact z07)
abbrev Z2a (c:Cr):Ct:=⟨112,[crO c],[.y 0],[crO (nxC c)],.sv (li (nxX c))⟩
theorem Zg9 (c:Cr) (h:okK c):Z2a c:=Ykr call112 func112 (let v1:=wI .i64 (wI .i64 (c.h * 6364136223846793005)+1442695040888963407);let v2:=(↑(c.b.g c.i).toNat:Int);let v3:=c.b.map Ym0;let v4:=Y1f4 .i64 (Y10y .i64 v1 33) (Y10y .i64 v1 45);.w (.draw []) (.p ((0:Int)<=33) (.p ((0:Int)<=45) (.w (.draw []) (.z Ym0 c.b (.i ((c.i:Int)<((c.b.map Ym0).length:Int)) (.w (.draw []) (.x (c.i:Int) v3 [.lit (.int .u8 v2)] (.r v2 (.r (Ys6 .i64 v4 255+v2) (.r ((c.i:Int)+1) (.f [] [.box [vL v3,vI ((c.i:Int)+1),vI v1]] (.sv (li (Ys6 .i64 (Ys6 .i64 v4 255+v2) 255))))))))) (.f [] [.box [vL v3,vI (c.i:Int),vI v1]] (.sv (li (Ys6 .i64 v4 255)))))))))) (by
 dsimp only[Ykd,Z2a]
 have g1:=Y1ph c
 have g2:nwR c=Ys6 .i64 (Y1f4 .i64 (Y10y .i64 (wI .i64 (wI .i64 (c.h * 6364136223846793005)+1442695040888963407)) 33) (Y10y .i64 (wI .i64 (wI .i64 (c.h * 6364136223846793005)+1442695040888963407)) 45)) 255:=rfl
 have g3:=(c.b.getD c.i 0).toNat_lt
 have g4:c.i<c.b.length->(c.b.map Ym0)[c.i]? = some [.lit (.int .u8 ((c.b.getD c.i 0).toNat:Int))]:=λe=>by simp[Ym0,aq,e]
 have g5:(c.i:Int)<c.b.length->crO (nxC c)=.box [vL (c.b.map Ym0),vI ((c.i:Int)+1),vI (wI .i64 (wI .i64 (c.h * 6364136223846793005)+1442695040888963407))]:=λe=>by rw[Y1cz];show Ob.box [_,vI ((if (c.i:Int)<(c.b.length:Int) then c.i+1 else c.i:Nat):Int),_]=_;rw[ae e];rfl
 have g6:¬ (c.i:Int)<c.b.length->crO (nxC c)=.box [vL (c.b.map Ym0),vI (c.i:Int),vI (wI .i64 (wI .i64 (c.h * 6364136223846793005)+1442695040888963407))]:=λe=>by rw[Y1cz];show Ob.box [_,vI ((if (c.i:Int)<(c.b.length:Int) then c.i+1 else c.i:Nat):Int),_]=_;rw[ab e];rfl
 have g7:=Y1nx c
 with_reducible repeat' (first|apply ah|exact zR|(intro))
 all_goals ((try simp only[std,inj]at *);with_reducible and_intros)
 all_goals try first|exact zw|grind[Y1l0,Ykl,Ykm,Ykf])
abbrev Z3 (c:Cr) (n:Int):Ct:=⟨55,[crO c],[.y 0,li n],[crO (beC c n)],.sv (li (beX c n))⟩
theorem Z6s (c:Cr) (n:Int) (h:okK c):Z3 c n:=Ykr call55 func55 (let v1:=nxC (nxC c);let v2:=nxX c * 16777216+nxX (nxC c) * 65536+nxX v1 * 256+nxX (nxC v1);.i (n<=0) (.f [] [.box [Aq c.b,vI (c.i:Int),vI c.h]] (.sv (li 0))) (.i (n<=256) (.d [.ptr] (Z2a c) (.p (n≠0) (.f [] [.box [Aq (nxC c).b,vI (↑(nxC c).i:Int),vI (nxC c).h]] (.sv (li ((nxX c).tmod n)))))) (.d [.ptr] (Z2a c) (.d [.ptr] (Z2a (nxC c)) (.d [.ptr] (Z2a v1) (.d [.ptr] (Z2a (nxC v1)) (.r (nxX c * 16777216) (.r (nxX (nxC c) * 65536) (.r (nxX c * 16777216+nxX (nxC c) * 65536) (.r (nxX v1 * 256) (.r (nxX c * 16777216+nxX (nxC c) * 65536+nxX v1 * 256) (.r v2 (.p (n≠0) (.f [] [.box [Aq (nxC (nxC v1)).b,vI (↑(nxC (nxC v1)).i:Int),vI (nxC (nxC v1)).h]] (.sv (li (v2.tmod n))))))))))))))))) (by
 dsimp only[Ykd,Z3]
 have g1:=Yus c
 have g2:=Yus (nxC c)
 have g3:=Yus (nxC (nxC c))
 have g4:=Yus (nxC (nxC (nxC c)))
 have g5:=@Y24h c n
 have g6:=@Y25f c n
 have g7:=@Y257 c n
 with_reducible repeat' (first|apply ah|exact zR|(intro)|apply Zg9)
 all_goals ((try simp only[std,inj]at *);with_reducible and_intros)
 all_goals try with_reducible first|apply Zg9
 all_goals try first|exact zw|grind[Yyh,crO,Ykl,Ykm,Ykf])
abbrev Z2b (c:Cr) (L:List ByteArray):Ct:=⟨60,[crO c,.Ar L],[.y 0,.r 1],[crO (beC c (L.length:Int)),.dead],.sv (ls (L.g (beX c (L.length:Int)).toNat))⟩
theorem Zc3 (c:Cr) (L:List ByteArray) (h:okK c/\0<L.length/\L.length<=1000):Z2b c L:=Ykr call60 func60 (let v1:=((L.map Ylu).length:Int);let v2:=L.g (beX c v1).toNat;.z Ylu L (.d [.ptr,.rd] (Z3 c v1) (.p (0<=beX c v1/\(beX c v1).toNat<(L.map Ylu).length) (.w (.cells (Ylu v2)) (.p ((L.map Ylu)[(beX c v1).toNat]? = some [cS v2]) (.w (.m 1) (.f [] [.box [Aq (beC c v1).b,vI (↑(beC c v1).i:Int),vI (beC c v1).h],.dead] (.sv (ls v2))))))))) (by
 dsimp only[Ykd,Z2b]
 have g1:=Yri c (n:=(L.length:Int)) oW
 have g2:(L.map Ylu)[(beX c (L.length:Int)).toNat]? = some [cS (L.g (beX c (L.length:Int)).toNat)]:=Yxj oW rfl
 with_reducible repeat' (first|apply ah|exact zR|(intro)|apply Z6s)
 all_goals ((try simp only[std,inj]at *);with_reducible and_intros)
 all_goals try with_reducible first|apply Z6s
 all_goals try first|exact zw|grind[crO,Ykl,Ykm,Ykf])
end
def Y18q:Yd:=⟨0,0,mkS [],[]⟩
def Ym3 (s:ByteArray):Yd:=if Yo1 s then Y1q8 s else Y18q
def Ywd (s:ByteArray):Yd:=if Ypc s then ⟨4,0,s,[]⟩ else Y18q
def Yne (n:Int):Yd:=if -999999999<=n/\n<=999999999 then ⟨2,n,mkS [],[]⟩ else Y18q
def Yw0 (b:Bool):Yd:=⟨3,if b then 1 else 0,mkS [],[]⟩
section
abbrev Zeq (s:ByteArray):Ct:=⟨99,[],[ls s],[],.sv (.agg [vI (Ym3 s).Ka,vI (Ym3 s).Na,vS (Ym3 s).Ta,.val (.y)])⟩
theorem Zk8 (s:ByteArray):Zeq s:=Ykr call99 func99 (let v1:Cell:=.y;.c [.rd] (Z4m s) (.b (!Yo1 s) (.s (.agg [vI 0,vI 0,vS (mkS []),.val v1])) (.s (.agg [vI 1,vI 0,vS s,.val v1])))) (by
 dsimp only[Ykd,Zeq]
 with_reducible repeat' (first|apply ah|exact zR|(intro))
 all_goals ((try simp only[std,inj]at *);with_reducible and_intros)
 all_goals try first|exact z|grind[Ym3,Y1q8,Y18q,Ykl,Ykm,Ykf])
abbrev Zer (s:ByteArray):Ct:=⟨59,[],[ls s],[],.sv (.agg [vI (Ywd s).Ka,vI (Ywd s).Na,vS (Ywd s).Ta,.val (.y)])⟩
theorem Z6t (s:ByteArray):Zer s:=Ykr call59 func59 (let v1:Cell:=.y;.c [.rd] (Z6w s) (.b (!Ypc s) (.s (.agg [vI 0,vI 0,vS (mkS []),.val v1])) (.s (.agg [vI 4,vI 0,vS s,.val v1])))) (by
 dsimp only[Ykd,Zer]
 with_reducible repeat' (first|apply ah|exact zR|(intro))
 all_goals ((try simp only[std,inj]at *);with_reducible and_intros)
 all_goals try first|exact z|grind[Ywd,Y18q,Ykl,Ykm,Ykf])
abbrev Zes (n:Int):Ct:=⟨57,[],[li n],[],.sv (.agg [vI (Yne n).Ka,vI (Yne n).Na,vS (Yne n).Ta,.val (.y)])⟩
theorem Zx (n:Int):Zes n:=Ykr call57 func57 (let v1:Cell:=.y;.c [.rd,.rd,.rd] (Z6c n (-999999999:Int) 999999999) (.b (!decide ((-999999999:Int)<=n/\n<=999999999)) (.s (.agg [vI 0,vI 0,vS (mkS []),.val v1])) (.s (.agg [vI 2,vI n,vS (mkS []),.val v1])))) (by
 dsimp only[Ykd,Zes]
 with_reducible repeat' (first|apply ah|exact zR|(intro))
 all_goals ((try simp only[std,inj]at *);with_reducible and_intros)
 all_goals try first|exact z|grind[Yne,Y18q,Ykl,Ykm,Ykf])
abbrev Zet (b:Bool):Ct:=⟨58,[],[lb b],[],.sv (.agg [vI (Yw0 b).Ka,vI (Yw0 b).Na,vS (Yw0 b).Ta,.val (.y)])⟩
theorem Zbe (b:Bool):Zet b:=Ykr call58 func58 (let v1:Cell:=.y;.b b (.s (.agg [vI 3,vI 1,vS (mkS []),.val v1])) (.s (.agg [vI 3,vI 0,vS (mkS []),.val v1]))) (by
 dsimp only[Ykd,Zet]
 with_reducible repeat' (first|apply ah|exact zR|(intro))
 all_goals ((try simp only[std,inj]at *);with_reducible and_intros)
 all_goals try first|exact z|grind[Yw0,Ykl,Ykm,Ykf])
end
theorem Y181 {u:Nat}(h:u<10):Lib.decDigits u=[UInt8.ofNat (48+u)]:=by rw[Lib.decDigits,dif_pos h]
theorem Y1fo {u:Nat}(h:¬ u<10):Lib.decDigits u=Lib.decDigits (u / 10)++[UInt8.ofNat (48+u % 10)]:=by rw[Lib.decDigits,dif_neg h]
theorem Y1i6:∀ (k u:Nat),u<10 ^ (k+1)->(Lib.decDigits u).length<=k+1
 | k,u,h=>by
  by_cases hu:u<10
  ·rw[Y181 hu];simp
  ·cases k with
   | zero=>exact absurd (by simpa using h) hu
   | succ k=>
    have:=Y1i6 k (u / 10) (by rw[Nat.pow_succ]at h;omega)
    rw[Y1fo hu];simp only[ax,aE,bp];omega
def dgs (u:Nat):List UInt8:=if u=0 then [] else Lib.decDigits u
theorem Y1rv {u:Nat}(h:u≠0):dgs u=dgs (u / 10)++[UInt8.ofNat (48+u % 10)]:=by
 unfold dgs
 rw[ab h]
 by_cases hu:u<10
 ·rw[Y181 hu,ae oW,Nat.mod_eq_of_lt hu];rfl
 ·rw[Y1fo hu,ab oW]
theorem Y1sc:dgs 0=[]:=rfl
theorem Y21a {u:Nat}(h:u≠0):dgs u=Lib.decDigits u:=ab h
theorem Y1fw {n:Int}(h:0<=n):Lib.itoa n=Lib.decDigits n.natAbs:=by
 unfold Lib.itoa;rw[ab oW];congr 1;omega
theorem Y1rb {n:Int}(h:n<0):Lib.itoa n=45 :: Lib.decDigits n.natAbs:=by unfold Lib.itoa;rw[ae h]
theorem Y1n6:Lib.itoa 0=[48]:=by rw[Y1fw dW];exact Y181 dW
theorem Y1ny {n:Int}(h : -9223372036854775808<=n/\n<=9223372036854775807):(Lib.decDigits n.natAbs).length<=20:=by
 have e:(10:Nat) ^ (19+1)=100000000000000000000:=by decide
 exact Y1i6 19 n.natAbs oW
def atN (s:ByteArray):Nat:=if 0<(s.size:Int)/\((s.data.toList.getD 0 0).toNat:Int)=45 then 1 else 0
def Y1lv (s:ByteArray):Option Nat:=Lib.decFrom 0 ((tx s).drop (atN s))
def Y125 (s:ByteArray):Bool:=(Y1lv s).isSome
def magN (s:ByteArray):Nat:=(Y1lv s).getD 0
def sgN (s:ByteArray):Int:=if atN s=1 then 0 - (magN s:Int) else magN s
def Y1tb (s:ByteArray):Bool:=decide (atN s<s.size/\s.size<=atN s+9)&&Y125 s
def Ys3 (s:ByteArray):Bool:=Y1tb s&&decide (Lib.itoa (sgN s)=tx s)
def Yti (s:ByteArray):Int:=if Ys3 s then sgN s else 0
def Yxo (s:ByteArray) (k:Nat):Option Nat:=Lib.decFrom 0 (((tx s).drop (atN s)).take (k - atN s))
theorem Y1qn (s:ByteArray):Yxo s (atN s)=some 0:=by simp[Yxo,Lib.decFrom]
theorem Y1vy {s:ByteArray}{m:Nat}(h:Yxo s s.size=some m):Y125 s/\magN s=m:=by
 have e:((tx s).drop (atN s)).take (s.size - atN s)=(tx s).drop (atN s):=av (by rw[ay];exact aD _)
 unfold Yxo at h;rw[e]at h
 simp[Y125,magN,Y1lv,h]
theorem Y21w (s:ByteArray):atN s<=1:=by unfold atN;split<;>omega
theorem Y1f2 {l:List UInt8}{a k:Nat}(h1:a<=k) (h2:k<l.length):(l.drop a)[k - a]? = some (l.getD k 0):=by
 rw[aX,show a+(k - a)=k by omega];simp[h2]
theorem Y1qr {s:ByteArray}{k m:Nat}(h1:atN s<=k) (h2:k<s.size) (h:Yxo s k=some m) (hd:48<=((tx s).getD k 0).toNat/\((tx s).getD k 0).toNat<=57) :
  Yxo s (k+1)=some (m * 10+(((tx s).getD k 0).toNat - 48)):=by
 unfold Yxo at *
 rw[show k+1 - atN s=k - atN s+1 by omega]
 exact Lib.decFrom_take _ _ _ _ _ _ h (Y1f2 h1 h2) (by unfold Lib.digitVal;rw[ae hd])
theorem Y1rt {s:ByteArray}{k:Nat}(h1:atN s<=k) (h2:k<s.size) (hd:¬ (48<=((tx s).getD k 0).toNat/\((tx s).getD k 0).toNat<=57)):Y125 s=false:=by
 cases e:Y1lv s with
 | none=>simp[Y125,e]
 | some m=>
  obtain⟨d,hd'⟩:=Lib.digit_of_decFrom _ _ _ e _ _ (Y1f2 h1 h2)
  unfold Lib.digitVal at hd'
  rw[ab hd]at hd';cases hd'
theorem Y1ow {s:ByteArray}{k m:Nat}(h:Yxo s k=some m) (hk:k<=atN s+9):m<1000000000:=by
 have h1:=Lib.decFrom_lt _ 0 m h
 have h2:(((tx s).drop (atN s)).take (k - atN s)).length<=9:=by rw[au];omega
 have h3:=Nat.pow_le_pow_right (n:=10) dW h2
 have e:(10:Nat) ^ 9=1000000000:=by decide
 omega
theorem Y1p9 {s:ByteArray}(h:Y125 s) (hk:s.size<=atN s+9):magN s<1000000000:=by
 have e:((tx s).drop (atN s)).take (s.size - atN s)=(tx s).drop (atN s):=av (by rw[ay];exact aD _)
 obtain⟨m,hm⟩:=Option.isSome_iff_exists.1 h
 have:=Y1ow (s:=s) (k:=s.size) (m:=m) (by unfold Yxo;rw[e];exact hm) hk
 simp only[magN,hm,cJ];exact this
theorem Y1os {s:ByteArray}(h:Ys3 s) : -999999999<=Yti s/\Yti s<=999999999/\Yti s=sgN s/\Lib.itoa (sgN s)=tx s:=by
 have e:Yti s=sgN s:=by unfold Yti;rw[ae h]
 simp only[Ys3,Y1tb,af,ak]at h
 have:=Y1p9 h.1.2 h.1.1.2
 refine⟨?_,?_,e,h.2⟩<;>rw[e]<;>unfold sgN<;>split<;>omega
theorem Y1ry {s:ByteArray}(h:Ys3 s=false):Yti s=0:=by unfold Yti;rw[h];rfl
theorem Y1ml {n:Int}:rng .u8 n ↔ 0<=n/\n<=255:=by
 simp[rng,IntKind.min,IntKind.max,IntKind.signed,IntKind.bits]
theorem Y1xq {m:Int}(h:0<=m/\m<=255):((UInt8.ofNat m.toNat).toNat:Int)=m:=by
 rw[UInt8.toNat_ofNat'];omega
def Ypj (n:Int):Bool:=decide (n=32\/n=10\/n=9)
def Y11u (n:Int):Bool:=decide (n=40\/n=41\/n=34\/n=59\/n=39)
def isRu (n:Int):Bool := !Ypj n && !Y11u n
def pas (p:Int->Bool):List UInt8->List UInt8
 | []=>[]
 | b :: r=>if p b.toNat then pas p r else b :: r
def pre (p:Int->Bool):List UInt8->List UInt8
 | []=>[]
 | b :: r=>if p b.toNat then b :: pre p r else []
def noQ (n:Int):Bool := !decide (n=34)
theorem Ytm (p:Int->Bool):∀ r,pas p r <:+ r
 | []=>List.suffix_refl _
 | b :: r=>by
  unfold pas;split
  ·exact(Ytm p r).trans (List.suffix_cons b r)
  ·exact List.suffix_refl _
theorem Y1h9 (p:Int->Bool):∀ r,pre p r++pas p r=r
 | []=>rfl
 | b :: r=>by
  unfold pas pre;split
  ·rw[bF,Y1h9 p r]
  ·rfl
theorem Y1ce (p:Int->Bool):∀ r,pas p (pas p r)=pas p r
 | []=>rfl
 | b :: r=>by
  by_cases h:p b.toNat
  ·have e:pas p (b :: r)=pas p r:=by show (if p b.toNat then pas p r else b :: r)=_;rw[ae h]
   rw[e];exact Y1ce p r
  ·have e:pas p (b :: r)=b :: r:=by show (if p b.toNat then pas p r else b :: r)=_;rw[ab h]
   rw[e,e]
abbrev skp:=pas Ypj
def by0 (r:List UInt8):Int:=((r.getD 0 0).toNat:Int)
def Ypr (t:ByteArray):Option Yd:=
 if Ys3 t then some ⟨2,Yti t,mkS [],[]⟩ else if tx t=[35,116] then some ⟨3,1,mkS [],[]⟩ else if tx t=[35,102] then some ⟨3,0,mkS [],[]⟩ else if Yo1 t then some ⟨1,0,t,[]⟩ else none
def clo (r:List UInt8):Option (List UInt8):=if skp r≠[]/\by0 (skp r)=41 then some ((skp r).drop 1) else none
mutual
/-- does the Ta read as the Da,and what is left -/
def ckD:Yd->List UInt8->Option (List UInt8)
 | ⟨k,n,t,l⟩,r=>
  if skp r=[]\/by0 (skp r)=41\/by0 (skp r)=39\/by0 (skp r)=59 then none
  else if by0 (skp r)=40 then (if k=0/\n=0/\t=mkS [] then (ckP l ((skp r).drop 1)).bind clo else none)
  else if by0 (skp r)=34 then (if k=4/\n=0/\t=mkS (pre noQ ((skp r).drop 1))/\l=[]/\Ypc t/\pas noQ ((skp r).drop 1)≠[] then some ((pas noQ ((skp r).drop 1)).drop 1) else none)
  else if Ypr (mkS (pre isRu (skp r)))=some ⟨k,n,t,l⟩ then some (pas isRu (skp r)) else none
def ckP:List Yd->List UInt8->Option (List UInt8)
 | [],r=>some r
 | x :: l,r=>(ckD x r).bind λq=>ckP l q
end
theorem Y1nz (d:Yd) (r:List UInt8):ckD d r =
  if skp r=[]\/by0 (skp r)=41\/by0 (skp r)=39\/by0 (skp r)=59 then none
  else if by0 (skp r)=40 then (if d.Ka=0/\d.Na=0/\d.Ta=mkS [] then (ckP d.Ia ((skp r).drop 1)).bind clo else none)
  else if by0 (skp r)=34 then (if d.Ka=4/\d.Na=0/\d.Ta=mkS (pre noQ ((skp r).drop 1))/\d.Ia=[]/\Ypc d.Ta/\pas noQ ((skp r).drop 1)≠[] then some ((pas noQ ((skp r).drop 1)).drop 1) else none)
  else if Ypr (mkS (pre isRu (skp r)))=some d then some (pas isRu (skp r)) else none:=by
 cases d;rw[ckD]
theorem Y1db {r q:List UInt8}(h:clo r=some q):skp r≠[]/\by0 (skp r)=41/\q=(skp r).drop 1:=by
 unfold clo at h;split at h
 ·rename_i e;exact⟨e.1,e.2,(cf h).symm⟩
 ·cases h
theorem Y112 (l:List UInt8):l.drop 1 <:+ l:=List.drop_suffix 1 l
theorem Y18u {L:List Yd}(ih:∀ (d:Yd),d∈L->∀ r q,ckD d r=some q->q <:+ r):∀ (l:List Yd),(∀ d∈l,d∈L)->∀ r q,ckP l r=some q->q <:+ r
 | [],_,r,q,h=>by simp only[ckP,aa]at h;rw[h];exact List.suffix_refl _
 | x :: l,hl,r,q,h=>by
  simp only[ckP,cX]at h
  obtain⟨m,h1,h2⟩:=h
  exact(Y18u ih l (λd hd=>hl d (ai _ hd)) m q h2).trans (ih x (hl x aj) r m h1)
theorem Y1hl:∀ (d:Yd) (r q:List UInt8),ckD d r=some q->q <:+ r:=by
 refine Yd.ind λd ih r q h => ?_
 have hs:=Ytm Ypj r
 have h1:=(Y112 (skp r)).trans hs
 rw[Y1nz]at h
 split at h
 ·cases h
 split at h
 ·split at h
  ·rw[cX]at h
   obtain⟨m,h2,h3⟩:=h
   have h4:=Y1db h3
   rw[h4.2.2]
   exact((Y112 _).trans (Ytm Ypj m)).trans ((Y18u ih d.Ia (λ_ h=>h) _ _ h2).trans h1)
  ·cases h
 split at h
 ·split at h
  ·rw[<- cf h]
   exact((Y112 _).trans (Ytm noQ _)).trans h1
  ·cases h
 split at h
 ·rw[<- cf h];exact(Ytm isRu _).trans hs
 ·cases h
def rs (s:ByteArray) (a:Nat):List UInt8:=(tx s).drop a
def plR (s:ByteArray) (r:List UInt8):Nat:=s.size - r.length
theorem Yvp (s:ByteArray) (a:Nat):(rs s a).length=s.size - a:=by unfold rs;rw[ay];rfl
theorem Y172 {s:ByteArray}{a:Nat}{q:List UInt8}(ha:a<=s.size) (h:q <:+ rs s a):rs s (plR s q)=q/\a<=plR s q/\plR s q<=s.size/\q.length=s.size - plR s q:=by
 have h1:=h.length_le
 rw[Yvp]at h1
 have h2:q <:+ tx s:=h.trans (List.drop_suffix a _)
 have h3:=(List.suffix_iff_eq_drop.1 h2)
 have e:(tx s).length=s.size:=rfl
 rw[e]at h3
 exact⟨h3.symm,by unfold plR;omega,by unfold plR;omega,by unfold plR;omega⟩
theorem Ysg {s:ByteArray}{a:Nat}(h:a<s.size):rs s a=(tx s).getD a 0 :: rs s (a+1):=Ynk (L:=tx s) h
theorem Y1od {s:ByteArray}{a:Nat}(h:s.size<=a):rs s a=[]:=bC h
theorem Y1m6 {s:ByteArray}{a:Nat}:rs s a≠[] ↔ a<s.size:=by
 constructor
 ·intro h;rcases bH a s.size with e|e
  ·exact e
  ·exact absurd (Y1od e) h
 ·intro h;rw[Ysg h];simp
theorem Y1oo {s:ByteArray}{a:Nat}(h:a<s.size):by0 (rs s a)=(((tx s).getD a 0).toNat:Int):=by rw[Ysg h];rfl
def pst (p:Int->Bool) (s:ByteArray) (a:Nat):Nat:=plR s (pas p (rs s a))
theorem Ytb (p:Int->Bool) {s:ByteArray}{a:Nat}(h:a<=s.size):rs s (pst p s a)=pas p (rs s a)/\a<=pst p s a/\pst p s a<=s.size:=by
 have:=Y172 h (Ytm p (rs s a));exact⟨this.1,this.2.1,this.2.2.1⟩
theorem Y1e8 (p:Int->Bool) {s:ByteArray}{a:Nat}(h:a<s.size) (hp:p ((tx s).getD a 0).toNat):pst p s (a+1)=pst p s a:=by
 unfold pst;rw[Ysg h];simp only[pas];rw[ae hp]
theorem Y147 (p:Int->Bool) {s:ByteArray}{a:Nat}(h:a<=s.size) (hp:a<s.size->p ((tx s).getD a 0).toNat=false):pst p s a=a:=by
 rcases bH a s.size with e|e
 ·unfold pst;rw[Ysg e];simp only[pas];rw[ab (by rw[hp e];decide),<- Ysg e]
  unfold plR;rw[Yvp];omega
 ·unfold pst;rw[Y1od e];unfold pas plR;simp;omega
theorem Y1r1 (p:Int->Bool) {s:ByteArray}{a:Nat}(h:a<=s.size):pst p s (pst p s a)=pst p s a:=by
 have h1:=Ytb p h
 unfold pst at h1|-;rw[h1.1,Y1ce]
theorem Y1jn (p:Int->Bool) {s:ByteArray}{a:Nat}(h:a<=s.size):(rs s a).take (pst p s a - a)=pre p (rs s a):=by
 have h1:=Y1h9 p (rs s a)
 have h2:=Y172 h (Ytm p (rs s a))
 have h3:=cu List.length h1
 rw[ax,Yvp]at h3
 have h4:(pre p (rs s a)).length=pst p s a - a:=by unfold pst;omega
 have h5:(pre p (rs s a)++pas p (rs s a)).take (pre p (rs s a)).length=pre p (rs s a):=List.take_left
 rw[h1,h4]at h5;exact h5
def okR (d:Yd) (s:ByteArray) (a:Nat):Bool:=(ckD d (rs s a)).isSome
def enR (d:Yd) (s:ByteArray) (a:Nat):Nat:=plR s ((ckD d (rs s a)).getD [])
def okP (l:List Yd) (s:ByteArray) (a:Nat):Bool:=(ckP l (rs s a)).isSome
def enP (l:List Yd) (s:ByteArray) (a:Nat):Nat:=plR s ((ckP l (rs s a)).getD [])
def sk (s:ByteArray) (a:Nat):Nat:=pst Ypj s a
theorem Y1t4 (l:List Yd) (r q:List UInt8) (h:ckP l r=some q):q <:+ r:=Y18u (L:=l) (λd _=>Y1hl d) l (λ_ h=>h) r q h
theorem Y1y6 {d:Yd}{s:ByteArray}{a:Nat}(h:a<=s.size) (hd:okR d s a):ckD d (rs s a)=some (rs s (enR d s a))/\a<=enR d s a/\enR d s a<=s.size:=by
 obtain⟨q,hq⟩:=Option.isSome_iff_exists.1 hd
 have:=Y172 h (Y1hl d _ _ hq)
 unfold enR;rw[hq,cJ,this.1];exact⟨rfl,this.2.1,this.2.2.1⟩
theorem Y10w {l:List Yd}{s:ByteArray}{a:Nat}(h:a<=s.size) (hd:okP l s a):ckP l (rs s a)=some (rs s (enP l s a))/\a<=enP l s a/\enP l s a<=s.size:=by
 obtain⟨q,hq⟩:=Option.isSome_iff_exists.1 hd
 have:=Y172 h (Y1t4 l _ _ hq)
 unfold enP;rw[hq,cJ,this.1];exact⟨rfl,this.2.1,this.2.2.1⟩
theorem Y18k (s:ByteArray) {a:Nat}(h:a<=s.size):enP [] s a=a:=by
 unfold enP;rw[ckP];unfold plR;rw[cJ,Yvp];omega
theorem Yyz:∀ (l m:List Yd) (r:List UInt8),ckP (l++m) r=(ckP l r).bind λq=>ckP m q
 | [],m,r=>by simp[ckP]
 | x :: l,m,r=>by
  rw[bF,ckP,ckP]
  cases ckD x r with
  | none=>rfl
  | some q=>simp only[dG];exact Yyz l m q
theorem Yz8 {l:List Yd}{s:ByteArray}{a k:Nat}(h:a<=s.size) (hd:okP l s a):okP (l.take k) s a:=by
 unfold okP at *;rw[<- bf k l,Yyz]at hd
 cases e:ckP (l.take k) (rs s a) with
 | none=>rw[e]at hd;cases hd
 | some q=>rfl
theorem Y1dh {l:List Yd}{s:ByteArray}{a k:Nat}(h:a<=s.size) (hd:okP l s a) (hk:k<l.length) :
  okR (l.g k) s (enP (l.take k) s a)/\enP (l.take (k+1)) s a=enR (l.g k) s (enP (l.take k) s a):=by
 have h1:=Yz8 (k:=k) h hd
 have h2:=Yz8 (k:=k+1) h hd
 have h3:=Y10w h h1
 rw[Yku hk]at h2
 have h4:ckP (l.take k++[l.g k]) (rs s a)=ckD (l.g k) (rs s (enP (l.take k) s a)):=by
  rw[Yyz,h3.1,dG,ckP]
  cases ckD (l.g k) (rs s (enP (l.take k) s a))<;>rfl
 constructor
 ·unfold okR;unfold okP at h2;rw[h4]at h2;exact h2
 ·rw[Yku hk];unfold enP enR;rw[h4];rfl
def byt (s:ByteArray) (a:Nat):Int:=((s.data.toList.getD a 0).toNat:Int)
theorem Y1p1 (s:ByteArray) (a:Nat):byt s a=(((tx s).getD a 0).toNat:Int):=rfl
def noc (s:ByteArray) (a:Nat):Bool := !(decide (sk s a<s.size)&&decide (byt s (sk s a)=59))
def sbs (s:ByteArray) (a b:Nat):ByteArray:=mkS (((tx s).drop a).take (b - a))
theorem Y215 {s:ByteArray}{a:Nat}(h:a<=s.size) {q:List UInt8}(hq:clo (rs s a)=some q):sk s a<s.size/\byt s (sk s a)=41/\plR s q=sk s a+1/\noc s a:=by
 have h1:=Y1db hq
 have h2:=(Ytb Ypj h).1
 have h3:sk s a<s.size:=Y1m6.1 (by unfold sk;rw[h2];exact h1.1)
 have h4:byt s (sk s a)=41:=by rw[Y1p1,<- Y1oo h3];unfold sk;rw[h2];exact h1.2.1
 refine⟨h3,h4,?_,by simp[noc,h4]⟩
 have h5:q=rs s (sk s a+1):=by
  rw[h1.2.2];show (pas Ypj (rs s a)).drop 1=_;rw[<- h2];show (rs s (sk s a)).drop 1=_;rw[Ysg h3];rfl
 rw[h5];unfold plR;rw[Yvp];omega
theorem Yq9 {d:Yd}{s:ByteArray}{a:Nat}(h:a<=s.size) (hd:okR d s a) :
  noc s a/\sk s a<s.size/\byt s (sk s a)≠41/\byt s (sk s a)≠39/\byt s (sk s a)≠59 /\
  ((byt s (sk s a)=40/\d.Ka=0/\d.Na=0/\d.Ta=mkS []/\okP d.Ia s (sk s a+1)/\noc s (enP d.Ia s (sk s a+1))/\sk s (enP d.Ia s (sk s a+1))<s.size/\byt s (sk s (enP d.Ia s (sk s a+1)))=41/\enR d s a=sk s (enP d.Ia s (sk s a+1))+1)\/(byt s (sk s a)=34/\d.Ka=4/\d.Na=0/\d.Ia=[]/\d.Ta=sbs s (sk s a+1) (pst noQ s (sk s a+1))/\Ypc d.Ta/\pst noQ s (sk s a+1)<s.size/\enR d s a=pst noQ s (sk s a+1)+1)\/(byt s (sk s a)≠40/\byt s (sk s a)≠34/\Ypr (sbs s (sk s a) (pst isRu s (sk s a)))=some d/\enR d s a=pst isRu s (sk s a))):=by
 obtain⟨q,hq⟩:=Option.isSome_iff_exists.1 hd
 have he:enR d s a=plR s q:=by unfold enR;rw[hq];rfl
 have h2:=Ytb Ypj h
 rw[Y1nz]at hq
 change rs s (sk s a)=skp (rs s a)/\a<=sk s a/\sk s a<=s.size at h2
 rw[<- h2.1]at hq
 split at hq
 ·cases hq
 rename_i h3
 simp only[not_or]at h3
 have h4:sk s a<s.size:=Y1m6.1 h3.1
 have hb:by0 (rs s (sk s a))=byt s (sk s a):=by rw[Y1oo h4,Y1p1]
 have hd1:(rs s (sk s a)).drop 1=rs s (sk s a+1):=by rw[Ysg h4];rfl
 rw[hb]at h3 hq
 rw[hd1]at hq
 refine⟨by simp[noc,h3.2.2.2],h4,h3.2.1,h3.2.2.1,h3.2.2.2,?_⟩
 split at hq
 ·rename_i h5
  split at hq
  ·rename_i h6
   rw[cX]at hq
   obtain⟨m,h7,h8⟩:=hq
   have ho:okP d.Ia s (sk s a+1):=by unfold okP;rw[h7];rfl
   have h9:=Y10w oW ho
   rw[h7,aa]at h9
   rw[h9.1]at h8
   have h10:=Y215 h9.2.2 h8
   exact .inl ⟨h5,h6.1,h6.2.1,h6.2.2,ho,h10.2.2.2,h10.1,h10.2.1,by rw[he,h10.2.2.1]⟩
  ·cases hq
 rename_i h5
 split at hq
 ·rename_i h6
  split at hq
  ·rename_i h7
   have h8:=Ytb noQ (s:=s) (a:=sk s a+1) oW
   rw[<- h8.1]at h7
   have h9:=Y1m6.1 h7.2.2.2.2.2
   refine .inr (.inl ⟨h6,h7.1,h7.2.1,h7.2.2.2.1,?_,h7.2.2.2.2.1,h9,?_⟩)
   ·unfold sbs;rw[h7.2.2.1,<- Y1jn noQ oW];rfl
   ·rw[he,<- cf hq,<- h8.1,Ysg h9]
    show plR s (rs s _)=_
    unfold plR;rw[Yvp];omega
  ·cases hq
 rename_i h6
 split at hq
 ·rename_i h7
  have h8:=Ytb isRu (s:=s) (a:=sk s a) oW
  refine .inr (.inr ⟨h5,h6,?_,?_⟩)
  ·unfold sbs;rw[show (tx s).drop (sk s a)=rs s (sk s a) from rfl,Y1jn isRu oW];exact h7
  ·rw[he,<- cf hq,<- h8.1];unfold plR;rw[Yvp];omega
 ·cases hq
theorem Y1ug {s:ByteArray}{a:Nat}(h:a<=s.size):a<=sk s a/\sk s a<=s.size:=(Ytb Ypj h).2
def Yw9 (L:List Yd) (s:ByteArray):Bool:=okP L s 0&&decide (sk s (enP L s 0)=s.size)&&L.all Yn6&&decide (sumBy sizeD L<=600)&&decide (s.size<=15000)
theorem Y20m (s:ByteArray) (a b:Nat):tx (sbs s a b)=(s.data.toList.drop a).take (b - a):=Y1on _
theorem Y20x (s:ByteArray) (a b:Nat):sbs s a b=mkS ((s.data.toList.drop a).take (b - a)):=rfl
theorem Y19c {s:ByteArray}{a:Nat}(h:a<=s.size):sk s (sk s a)=sk s a:=Y1r1 Ypj h
theorem Y210 {s:ByteArray}{a:Nat}(h:a<=s.size):noc s (sk s a)=noc s a:=by unfold noc;rw[Y19c h]
theorem Y23h {d:Yd}{s:ByteArray}{a:Nat}(h:a<=s.size) (hd:okR d s a):noc s a/\sk s a<s.size/\byt s (sk s a)≠41/\byt s (sk s a)≠39/\byt s (sk s a)≠59/\a<=sk s a/\sk s (sk s a)=sk s a/\noc s (sk s a):=by
 have g:=Yq9 h hd
 exact⟨g.1,g.2.1,g.2.2.1,g.2.2.2.1,g.2.2.2.2.1,(Y1ug h).1,Y19c h,by rw[Y210 h];exact g.1⟩
theorem Y1wc {d:Yd}{s:ByteArray}{a:Nat}(h:a<=s.size) (hd:okR d s a) (hb:byt s (sk s a)=40):d.Ka=0/\d.Na=0/\d.Ta=mkS []/\enR d s a=sk s (enP d.Ia s (sk s a+1))+1:=by
 rcases(Yq9 h hd).2.2.2.2.2 with g|g|g
 ·exact⟨g.2.1,g.2.2.1,g.2.2.2.1,g.2.2.2.2.2.2.2.2⟩
 ·omega
 ·omega
theorem Y1zj {d:Yd}{s:ByteArray}{a:Nat}(h:a<=s.size) (hd:okR d s a) (hb:byt s (sk s a)=34):d.Ka=4/\d.Na=0/\d.Ia=[]/\d.Ta=mkS ((s.data.toList.drop (sk s a+1)).take (pst noQ s (sk s a+1) - (sk s a+1)))/\Ypc (mkS ((s.data.toList.drop (sk s a+1)).take (pst noQ s (sk s a+1) - (sk s a+1))))/\pst noQ s (sk s a+1)<s.size/\enR d s a=pst noQ s (sk s a+1)+1:=by
 rcases(Yq9 h hd).2.2.2.2.2 with g|g|g
 ·omega
 ·have e:=g.2.2.2.2.1
  refine⟨g.2.1,g.2.2.1,g.2.2.2.1,e,?_,g.2.2.2.2.2.2.1,g.2.2.2.2.2.2.2⟩
  have:=g.2.2.2.2.2.1;rw[e]at this;exact this
 ·omega
theorem Y216 {d:Yd}{s:ByteArray}{a:Nat}(h:a<=s.size) (hd:okR d s a) (h1:byt s (sk s a)≠40) (h2:byt s (sk s a)≠34):Ypr (sbs s (sk s a) (pst isRu s (sk s a)))=some d/\enR d s a=pst isRu s (sk s a):=by
 rcases(Yq9 h hd).2.2.2.2.2 with g|g|g
 ·omega
 ·omega
 ·exact g.2.2
theorem rdl {d:Yd}{s:ByteArray}{a:Nat}(h:a<=s.size) (hd:okR d s a) (hb:byt s (sk s a)=40) {k:Nat}(hk:k<=d.Ia.length) :
  enP (d.Ia.take k) s (sk s a+1)<=s.size/\noc s (enP (d.Ia.take k) s (sk s a+1))/\sk s (enP (d.Ia.take k) s (sk s a+1))<s.size/\(byt s (sk s (enP (d.Ia.take k) s (sk s a+1)))=41 ↔ k=d.Ia.length) /\
  (k<d.Ia.length->okR (d.Ia.g k) s (enP (d.Ia.take k) s (sk s a+1))/\enP (d.Ia.take (k+1)) s (sk s a+1)=enR (d.Ia.g k) s (enP (d.Ia.take k) s (sk s a+1))) /\
  (k=d.Ia.length->enP (d.Ia.take k) s (sk s a+1)=enP d.Ia s (sk s a+1)):=by
 have g:=Yq9 h hd
 rcases g.2.2.2.2.2 with c|c|c
 ·have hs:sk s a+1<=s.size:=g.2.1
  have hp:=Y10w hs (Yz8 (k:=k) hs c.2.2.2.2.1)
  have e:k=d.Ia.length->enP (d.Ia.take k) s (sk s a+1)=enP d.Ia s (sk s a+1):=λe=>by rw[e,b9]
  rcases Nat.lt_or_eq_of_le hk with hl|hl
  ·have st:=Y1dh hs c.2.2.2.2.1 hl
   have g2:=Yq9 hp.2.2 st.1
   exact⟨hp.2.2,g2.1,g2.2.1,⟨λq=>absurd q g2.2.2.1,λq=>by omega⟩,λ_=>st,e⟩
  ·rw[e hl]
   exact⟨by rw[<- e hl];exact hp.2.2,c.2.2.2.2.2.1,c.2.2.2.2.2.2.1,⟨λ_=>hl,λ_=>c.2.2.2.2.2.2.2.1⟩,λq=>by omega,λ_=>rfl⟩
 ·omega
 ·omega
theorem Y1yy {d:Yd}{s:ByteArray}{a:Nat}(h:a<=s.size) (hd:okR d s a):enP (d.Ia.take 0) s (sk s a+1)=sk s a+1:=Y18k s (Yq9 h hd).2.1
def ggS (b:List UInt8):Yd:=⟨1,0,mkS b,[]⟩
def ggN (n:Int):Yd:=⟨2,n,mkS [],[]⟩
def ggL (l:List Yd):Yd:=⟨0,0,mkS [],l⟩
def Ysu:List ByteArray:=[mkS [40,43,32,97,97,32,98,98,41],mkS [40,45,32,97,97,32,98,98,41],mkS [40,108,101,116,32,40,40,120,120,32,97,97,41,41,32,98,98,41],mkS [40,108,101,116,32,40,40,120,120,32,97,97,41,41,32,98,98,41],mkS [40,111,114,32,97,97,32,98,98,41],mkS [40,97,110,100,32,97,97,32,98,98,41],mkS [40,105,102,32,97,97,32,98,98,32,99,99,41],mkS [40,40,108,97,109,98,100,97,32,40,120,120,41,32,98,98,41,32,97,97,41],mkS [40,108,101,116,32,40,40,120,120,32,97,97,41,41,32,40,115,101,116,33,32,120,120,32,98,98,41,32,120,120,41],mkS [40,108,101,116,32,40,41,32,40,100,101,102,105,110,101,32,120,120,32,97,97,41,32,40,100,101,102,105,110,101,32,40,121,121,32,122,122,41,32,98,98,41,32,40,121,121,32,120,120,41,41],mkS [40,108,101,116,32,40,40,120,120,32,97,97,41,32,40,121,121,32,53,41,41,32,40,115,119,97,112,33,32,120,120,32,121,121,41,32,40,99,111,110,115,32,120,120,32,121,121,41,41],mkS [40,108,101,116,32,40,40,120,120,32,51,41,41,32,40,119,104,105,108,101,32,40,60,32,48,32,120,120,41,32,40,100,105,115,112,108,97,121,32,120,120,41,32,40,115,101,116,33,32,120,120,32,40,45,32,120,120,32,49,41,41,41,32,98,98,41],mkS [40,114,101,115,101,116,32,40,43,32,49,32,40,115,104,105,102,116,32,107,107,32,40,107,107,32,40,107,107,32,97,97,41,41,41,41,41],mkS [40,114,101,115,101,116,32,40,99,111,110,115,32,97,97,32,40,115,104,105,102,116,32,107,107,32,40,99,111,110,115,32,40,107,107,32,49,41,32,40,107,107,32,50,41,41,41,41,41],mkS [40,99,111,110,100,32,40,40,61,32,97,97,32,49,41,32,98,98,41,32,40,101,108,115,101,32,99,99,41,41],mkS [40,108,101,116,45,115,121,110,116,97,120,32,40,40,109,109,32,40,115,121,110,116,97,120,45,114,117,108,101,115,32,40,41,32,40,40,95,32,97,41,32,40,43,32,97,32,49,41,41,41,41,41,32,40,109,109,32,97,97,41,41],mkS [40,108,101,116,32,40,40,120,120,32,97,97,41,41,32,40,108,101,116,45,115,121,110,116,97,120,32,40,40,109,109,32,40,115,121,110,116,97,120,45,114,117,108,101,115,32,40,41,32,40,40,95,32,101,41,32,40,108,101,116,32,40,40,120,120,32,55,41,41,32,40,99,111,110,115,32,120,120,32,101,41,41,41,41,41,41,32,40,109,109,32,120,120,41,41,41],mkS [40,99,111,110,115,32,97,97,32,98,98,41],mkS [40,99,97,114,32,40,99,111,110,115,32,97,97,32,98,98,41,41],mkS [40,98,101,103,105,110,32,40,100,105,115,112,108,97,121,32,97,97,41,32,98,98,41],mkS [40,108,101,116,42,32,40,40,120,120,32,97,97,41,32,40,121,121,32,120,120,41,41,32,40,99,111,110,115,32,120,120,32,121,121,41,41],mkS [40,108,101,116,114,101,99,32,40,40,120,120,32,40,108,97,109,98,100,97,32,40,110,41,32,40,105,102,32,40,60,32,110,32,49,41,32,98,98,32,40,120,120,32,40,45,32,110,32,49,41,41,41,41,41,41,32,40,120,120,32,52,41,41],mkS [40,119,104,101,110,32,97,97,32,98,98,41],mkS [40,108,101,116,32,40,41,32,40,100,101,102,105,110,101,45,115,121,110,116,97,120,32,109,109,32,40,115,121,110,116,97,120,45,114,117,108,101,115,32,40,41,32,40,40,95,32,113,41,32,40,100,101,102,105,110,101,32,113,32,97,97,41,41,41,41,32,40,109,109,32,120,120,41,32,120,120,41],mkS [40,110,111,116,32,97,97,41],mkS [40,101,113,63,32,97,97,32,98,98,41],mkS [40,108,111,99,97,108,32,40,120,120,41,32,40,115,101,116,33,32,120,120,32,97,97,41,32,120,120,41],mkS [40,113,117,111,116,101,32,40,97,97,32,120,120,41,41]]
def Y256:List Yd:=[ggL [ggS [43],ggS [97,97],ggS [98,98]],ggL [ggS [45],ggS [97,97],ggS [98,98]],ggL [ggS [108,101,116],ggL [ggL [ggS [120,120],ggS [97,97]]],ggS [98,98]],ggL [ggS [108,101,116],ggL [ggL [ggS [120,120],ggS [97,97]]],ggS [98,98]],ggL [ggS [111,114],ggS [97,97],ggS [98,98]],ggL [ggS [97,110,100],ggS [97,97],ggS [98,98]],ggL [ggS [105,102],ggS [97,97],ggS [98,98],ggS [99,99]],ggL [ggL [ggS [108,97,109,98,100,97],ggL [ggS [120,120]],ggS [98,98]],ggS [97,97]],ggL [ggS [108,101,116],ggL [ggL [ggS [120,120],ggS [97,97]]],ggL [ggS [115,101,116,33],ggS [120,120],ggS [98,98]],ggS [120,120]],ggL [ggS [108,101,116],ggL [],ggL [ggS [100,101,102,105,110,101],ggS [120,120],ggS [97,97]],ggL [ggS [100,101,102,105,110,101],ggL [ggS [121,121],ggS [122,122]],ggS [98,98]],ggL [ggS [121,121],ggS [120,120]]],ggL [ggS [108,101,116],ggL [ggL [ggS [120,120],ggS [97,97]],ggL [ggS [121,121],ggN 5]],ggL [ggS [115,119,97,112,33],ggS [120,120],ggS [121,121]],ggL [ggS [99,111,110,115],ggS [120,120],ggS [121,121]]],ggL [ggS [108,101,116],ggL [ggL [ggS [120,120],ggN 3]],ggL [ggS [119,104,105,108,101],ggL [ggS [60],ggN 0,ggS [120,120]],ggL [ggS [100,105,115,112,108,97,121],ggS [120,120]],ggL [ggS [115,101,116,33],ggS [120,120],ggL [ggS [45],ggS [120,120],ggN 1]]],ggS [98,98]],ggL [ggS [114,101,115,101,116],ggL [ggS [43],ggN 1,ggL [ggS [115,104,105,102,116],ggS [107,107],ggL [ggS [107,107],ggL [ggS [107,107],ggS [97,97]]]]]],ggL [ggS [114,101,115,101,116],ggL [ggS [99,111,110,115],ggS [97,97],ggL [ggS [115,104,105,102,116],ggS [107,107],ggL [ggS [99,111,110,115],ggL [ggS [107,107],ggN 1],ggL [ggS [107,107],ggN 2]]]]],ggL [ggS [99,111,110,100],ggL [ggL [ggS [61],ggS [97,97],ggN 1],ggS [98,98]],ggL [ggS [101,108,115,101],ggS [99,99]]],ggL [ggS [108,101,116,45,115,121,110,116,97,120],ggL [ggL [ggS [109,109],ggL [ggS [115,121,110,116,97,120,45,114,117,108,101,115],ggL [],ggL [ggL [ggS [95],ggS [97]],ggL [ggS [43],ggS [97],ggN 1]]]]],ggL [ggS [109,109],ggS [97,97]]],ggL [ggS [108,101,116],ggL [ggL [ggS [120,120],ggS [97,97]]],ggL [ggS [108,101,116,45,115,121,110,116,97,120],ggL [ggL [ggS [109,109],ggL [ggS [115,121,110,116,97,120,45,114,117,108,101,115],ggL [],ggL [ggL [ggS [95],ggS [101]],ggL [ggS [108,101,116],ggL [ggL [ggS [120,120],ggN 7]],ggL [ggS [99,111,110,115],ggS [120,120],ggS [101]]]]]]],ggL [ggS [109,109],ggS [120,120]]]],ggL [ggS [99,111,110,115],ggS [97,97],ggS [98,98]],ggL [ggS [99,97,114],ggL [ggS [99,111,110,115],ggS [97,97],ggS [98,98]]],ggL [ggS [98,101,103,105,110],ggL [ggS [100,105,115,112,108,97,121],ggS [97,97]],ggS [98,98]],ggL [ggS [108,101,116,42],ggL [ggL [ggS [120,120],ggS [97,97]],ggL [ggS [121,121],ggS [120,120]]],ggL [ggS [99,111,110,115],ggS [120,120],ggS [121,121]]],ggL [ggS [108,101,116,114,101,99],ggL [ggL [ggS [120,120],ggL [ggS [108,97,109,98,100,97],ggL [ggS [110]],ggL [ggS [105,102],ggL [ggS [60],ggS [110],ggN 1],ggS [98,98],ggL [ggS [120,120],ggL [ggS [45],ggS [110],ggN 1]]]]]],ggL [ggS [120,120],ggN 4]],ggL [ggS [119,104,101,110],ggS [97,97],ggS [98,98]],ggL [ggS [108,101,116],ggL [],ggL [ggS [100,101,102,105,110,101,45,115,121,110,116,97,120],ggS [109,109],ggL [ggS [115,121,110,116,97,120,45,114,117,108,101,115],ggL [],ggL [ggL [ggS [95],ggS [113]],ggL [ggS [100,101,102,105,110,101],ggS [113],ggS [97,97]]]]],ggL [ggS [109,109],ggS [120,120]],ggS [120,120]],ggL [ggS [110,111,116],ggS [97,97]],ggL [ggS [101,113,63],ggS [97,97],ggS [98,98]],ggL [ggS [108,111,99,97,108],ggL [ggS [120,120]],ggL [ggS [115,101,116,33],ggS [120,120],ggS [97,97]],ggS [120,120]],ggL [ggS [113,117,111,116,101],ggL [ggS [97,97],ggS [120,120]]]]
def Yrf (i:Nat):Yd:=Y256.g i
theorem Y1yr:∀ i,i<28->Yw9 [Yrf i] (Ysu.g i):=by decide +kernel
theorem Y1lm:∀ i,i<28->wD (Yrf i)<=120/\(Ysu.g i).size<=120/\4<=(Ysu.g i).size:=by decide +kernel
def Ywh:List ByteArray:=[mkS [120],mkS [121],mkS [116,109,112],mkS [116],mkS [108,111,111,112],mkS [110],mkS [107],mkS [102],mkS [108,105,115,116],mkS [101,108,115,101],mkS [105,102]]
def qqT:List ByteArray:=[mkS [113],mkS [103],mkS [104],mkS [119]]
def kkT:List ByteArray:=[mkS [107],mkS [107],mkS [116,109,112],mkS [99]]
def mmT:List ByteArray:=[mkS [109],mkS [108,101,116],mkS [109,97,99]]
def Y24k:List ByteArray:=[mkS [40,108,101,116],mkS [40,108,111,99],mkS [40,40,108,97]]
def Ys5:List ByteArray:=[mkS [97,97],mkS [98,98],mkS [99,99],mkS [120,120],mkS [121,121],mkS [122,122],mkS [107,107],mkS [109,109]]
def zzB:ByteArray:=mkS [122,122]
def zB:ByteArray:=mkS [122]
def sB:ByteArray:=mkS [115]
def idxN (L:List ByteArray) (s:ByteArray):Nat:=L.findIdx λx=>decide (x=s)
def Yop (L:List ByteArray) (s:ByteArray):Int:=if idxN L s<L.length then (idxN L s:Int) else -1
theorem Y1vm {L:List ByteArray}{s:ByteArray}{k:Nat}(hk:k<L.length) (h:((L.take k).all λx => !decide (x=s))=true) (e:L.g k=s):Yop L s=k:=by
 have e1:L.g k=L[k]:=by simp[hk]
 have h1:idxN L s=k:=by
  unfold idxN
  rw[List.findIdx_eq hk]
  refine⟨by rw[<- e1];exact bM e,λj hj => ?_⟩
  rw[am]at h
  have hm:L[j]∈L.take k:=by rw[List.mem_take_iff_getElem];exact⟨j,by omega,rfl⟩
  simpa using h _ hm
 unfold Yop;rw[h1,ae hk]
theorem Y1wh {L:List ByteArray}{s:ByteArray}(h:(L.all λx => !decide (x=s))=true):Yop L s = -1:=by
 unfold Yop
 rw[ab]
 intro hl
 have h1:=dk (xs:=L) (p:=λx=>decide (x=s)) (w:=hl)
 rw[am]at h
 have h2:decide (L[idxN L s]=s):=h1
 have:=h _ (di hl)
 rw[h2]at this;cases this
mutual
/-- a shape with data in the places of names -/
def Yot (N:List ByteArray) (P:List Yd):Yd->Yd
 | ⟨k,n,t,l⟩=>if k=1/\0<=Yop N t/\Yop N t<(P.length:Int) then P.g (Yop N t).toNat else ⟨k,n,t,Y177 N P l⟩
def Y177 (N:List ByteArray) (P:List Yd):List Yd->List Yd
 | []=>[]
 | x :: r=>Yot N P x :: Y177 N P r
end
theorem Y1el (N:List ByteArray) (P:List Yd):∀ l,Y177 N P l=l.map (Yot N P)
 | []=>by simp[Y177]
 | x :: r=>by rw[Y177,Y1el N P r];rfl
theorem Y1i0 (N:List ByteArray) (P:List Yd) (d:Yd):Yot N P d=if d.Ka=1/\0<=Yop N d.Ta/\Yop N d.Ta<(P.length:Int) then P.g (Yop N d.Ta).toNat else ⟨d.Ka,d.Na,d.Ta,d.Ia.map (Yot N P)⟩:=by cases d;simp only[Yot,Y1el]
theorem Y1yx {N:List ByteArray}{P:List Yd}{M:Nat}(hP:∀ x∈P,wD x<=M):∀ d:Yd,wD (Yot N P d)+1<=(wD d+1) * (M+1):=by
 refine Yd.ind λd ih => ?_
 rw[Y1i0]
 split
 ·rename_i h
  have h1:=hP _ (Ykg (L:=P) (k:=(Yop N d.Ta).toNat) oW)
  have h2:M+1<=(wD d+1) * (M+1):=Nat.le_mul_of_pos_left _ (Nat.succ_pos _)
  omega
 ·have:∀ L:List Yd,(∀ x∈L,wD (Yot N P x)+1<=(wD x+1) * (M+1))->sumBy wD (L.map (Yot N P))+L.length<=(sumBy wD L+L.length) * (M+1):=by
   intro L
   induction L with
   | nil=>intro _;simp[sumBy]
   | cons x r ihr=>
    intro h
    have a:=h x aj
    have b:=ihr λy hy=>h y (ai _ hy)
    have e:(wD x+sumBy wD r+(r.length+1)) * (M+1)=(wD x+1) * (M+1)+(sumBy wD r+r.length) * (M+1):=by
     rw[<- b7];congr 1;omega
    simp only[bP,sumBy,aE]
    omega
  have h3:=this d.Ia ih
  have h4:=Yuh d
  rw[Yuh]
  simp only[aN]
  have e:(wD d+1) * (M+1)=(sumBy wD d.Ia+d.Ia.length) * (M+1)+(d.Ta.size+1) * (M+1):=by
   rw[<- b7];congr 1;omega
  have h5:d.Ta.size+1<=(d.Ta.size+1) * (M+1):=dy _ (Nat.succ_pos _)
  omega
def sy0 (s:ByteArray):Yd:=⟨(Ym3 s).Ka,(Ym3 s).Na,(Ym3 s).Ta,[]⟩
theorem Y1xd (s:ByteArray):wD (Ym3 s)<=30:=by
 unfold Ym3;split
 ·rename_i h;have:=Y1td h;rw[Yuh];simp only[Y1q8,sumBy,bp];omega
 ·decide
theorem Y1yq (s:ByteArray):sy0 s=Ym3 s:=by
 have e:(Ym3 s).Ia=[]:=by unfold Ym3;split<;>rfl
 show (⟨(Ym3 s).Ka,(Ym3 s).Na,(Ym3 s).Ta,[]⟩:Yd)=Ym3 s
 rw[<- e]
 generalize Ym3 s=d
 cases d;rfl
theorem Y1eq (s:ByteArray):wD (sy0 s)<=30:=by rw[Y1yq];exact Y1xd s
def nu0 (n:Int):Yd:=⟨(Yne n).Ka,(Yne n).Na,(Yne n).Ta,[]⟩
def bo0 (b:Bool):Yd:=⟨(Yw0 b).Ka,(Yw0 b).Na,(Yw0 b).Ta,[]⟩
def st0 (s:ByteArray):Yd:=⟨(Ywd s).Ka,(Ywd s).Na,(Ywd s).Ta,[]⟩
def Yzd:List Yd:=[nu0 1,nu0 2,nu0 7,bo0 false,st0 sB,sy0 zzB]
theorem Y1ul:∀ x∈Yzd,wD x<=30:=by decide +kernel
def Y1sl (c:Cr) (N:List ByteArray):Yd×Cr:=
 if 0<(N.length:Int)/\0<beX c 3 then (sy0 (N.g (beX (beC c 3) (N.length:Int)).toNat),beC (beC c 3) (N.length:Int))
 else (Yzd.g (beX (beC (if 0<(N.length:Int) then beC c 3 else c) 40) (5+(beX (if 0<(N.length:Int) then beC c 3 else c) 40).tdiv 39)).toNat,
  beC (beC (if 0<(N.length:Int) then beC c 3 else c) 40) (5+(beX (if 0<(N.length:Int) then beC c 3 else c) 40).tdiv 39))
def Yrx (c:Cr) (N:List ByteArray):Yd×Cr:=Ysb (Y1sl c N)
def Y184 (i:Nat):Bool:=decide (0<=Yop Y24k (mkS ((Ysu.g i).data.toList.take 4)))
def Yqj (c:Cr):Cr:=beC (beC (beC (beC c 28) 11) 4) 4
def Yqy (c:Cr):ByteArray:=Ywh.g (beX (beC c 28) 11).toNat
def Y14w (A B:Cr->List ByteArray->Yd×Cr) (c:Cr) (N:List ByteArray) (a b:Yd) (c2:Cr):List Yd:=
 [(A (Yqj c) N).1,a,b,sy0 (Yqy c),sy0 (qqT.g (beX (beC (beC c 28) 11) 4).toNat),sy0 zB,sy0 (kkT.g (beX (beC (beC (beC c 28) 11) 4) 4).toNat),sy0 (mmT.g (beX c2 3).toNat)]
def Y146 (A B:Cr->List ByteArray->Yd×Cr) (c:Cr) (N:List ByteArray):Yd×Cr:=
 if Y184 (beX c 28).toNat then
  (Yot Ys5 (Y14w A B c N (B (A (Yqj c) N).2 (N++[Yqy c])).1 (B (B (A (Yqj c) N).2 (N++[Yqy c])).2 N).1 (B (B (A (Yqj c) N).2 (N++[Yqy c])).2 N).2) (Yrf (beX c 28).toNat),beC (B (B (A (Yqj c) N).2 (N++[Yqy c])).2 N).2 3)
 else
  (Yot Ys5 (Y14w A B c N (B (beC (B (B (A (Yqj c) N).2 (N++[Yqy c])).2 N).2 3) N).1 (B (B (A (Yqj c) N).2 (N++[Yqy c])).2 N).1 (B (B (A (Yqj c) N).2 (N++[Yqy c])).2 N).2) (Yrf (beX c 28).toNat),(B (beC (B (B (A (Yqj c) N).2 (N++[Yqy c])).2 N).2 3) N).2)
def Yxu:Nat->Cr->List ByteArray->Yd×Cr
 | 0,c,N=>Yrx (beC c 6) N
 | 1,c,N=>if beX c 6=0 then Yrx (beC c 6) N else Y146 (λc N=>Yrx (beC c 6) N) (λc N=>Yrx (beC c 6) N) (beC c 6) N
 | d+2,c,N=>if beX c 6=0 then Yrx (beC c 6) N else Y146 (Yxu (d+1)) (Yxu d) (beC c 6) N
def Yo6 (d:Int) (c:Cr) (N:List ByteArray):Yd×Cr:=Ysb (Yxu d.toNat c N)
theorem Yvk (d:Int) (c:Cr) (N:List ByteArray):Yo6 d c N=Yxu d.toNat c N:=Ynv _
theorem Y120 {d:Int}{c:Cr}{N:List ByteArray}(h:d<=0\/beX c 6=0):Yo6 d c N=Yrx (beC c 6) N:=by
 rw[Yvk]
 rcases h with h|h
 ·have e:d.toNat=0:=by omega
  rw[e];rfl
 ·match d.toNat with
  | 0=>rfl
  | 1=>exact ae h
  | n+2=>exact ae h
theorem Y170 {d:Int}{c:Cr}{N:List ByteArray}(h:¬ d<=0) (h2:¬ beX c 6=0):Yo6 d c N=Y146 (Yo6 (d - 1)) (Yo6 (d - 2)) (beC c 6) N:=by
 have e1:Yo6 (d - 1)=Yxu (d - 1).toNat:=funext λc=>funext λN=>Yvk _ c N
 have e2:Yo6 (d - 2)=Yxu (d - 2).toNat:=funext λc=>funext λN=>Yvk _ c N
 rw[Yvk,e1,e2]
 match hd:d.toNat with
 | 0=>omega
 | 1=>
  have a:(d - 1).toNat=0:=by omega
  have b:(d - 2).toNat=0:=by omega
  rw[a,b];exact ab h2
 | n+2=>
  have a:(d - 1).toNat=n+1:=by omega
  have b:(d - 2).toNat=n:=by omega
  rw[a,b];exact ab h2
theorem Y1df {c:Cr}{N:List ByteArray}(h:0<(N.length:Int)) (h2:0<beX c 3):Yrx c N=(sy0 (N.g (beX (beC c 3) (N.length:Int)).toNat),beC (beC c 3) (N.length:Int)):=by
 unfold Yrx;rw[Ynv];exact ae ⟨h,h2⟩
theorem Y1i4 {c:Cr}{N:List ByteArray}(h:0<(N.length:Int)) (h2:¬ 0<beX c 3):Yrx c N=(Yzd.g (beX (beC (beC c 3) 40) (5+(beX (beC c 3) 40).tdiv 39)).toNat,beC (beC (beC c 3) 40) (5+(beX (beC c 3) 40).tdiv 39)):=by
 unfold Yrx;rw[Ynv];unfold Y1sl;rw[ab (λa=>h2 a.2)];simp only[ae h]
theorem Y1d8 {c:Cr}{N:List ByteArray}(h:¬ 0<(N.length:Int)):Yrx c N=(Yzd.g (beX (beC c 40) (5+(beX c 40).tdiv 39)).toNat,beC (beC c 40) (5+(beX c 40).tdiv 39)):=by
 unfold Yrx;rw[Ynv];unfold Y1sl;rw[ab (λa=>h a.1)];simp only[ab h]
theorem Y1ir {A B:Cr->List ByteArray->Yd×Cr}{c:Cr}{N:List ByteArray}(h:Y184 (beX c 28).toNat):Y146 A B c N =
  (Yot Ys5 (Y14w A B c N (B (A (Yqj c) N).2 (N++[Yqy c])).1 (B (B (A (Yqj c) N).2 (N++[Yqy c])).2 N).1 (B (B (A (Yqj c) N).2 (N++[Yqy c])).2 N).2) (Yrf (beX c 28).toNat),beC (B (B (A (Yqj c) N).2 (N++[Yqy c])).2 N).2 3):=ae h
theorem Y1o8 {A B:Cr->List ByteArray->Yd×Cr}{c:Cr}{N:List ByteArray}(h:Y184 (beX c 28).toNat=false):Y146 A B c N =
  (Yot Ys5 (Y14w A B c N (B (beC (B (B (A (Yqj c) N).2 (N++[Yqy c])).2 N).2 3) N).1 (B (B (A (Yqj c) N).2 (N++[Yqy c])).2 N).1 (B (B (A (Yqj c) N).2 (N++[Yqy c])).2 N).2) (Yrf (beX c 28).toNat),(B (beC (B (B (A (Yqj c) N).2 (N++[Yqy c])).2 N).2 3) N).2):=ab (by rw[h];decide)
def geB:Nat->Nat
 | 0=>30
 | d+1=>121 * (geB d+1)+geB d
theorem Y17o {c:Cr}(h:okK c) (N:List ByteArray):okK (Yrx c N).2/\wD (Yrx c N).1<=30:=by
 by_cases h1:0<(N.length:Int)
 ·by_cases h2:0<beX c 3
  ·rw[Y1df h1 h2];exact⟨Ylv (Ylv h),Y1eq _⟩
  ·rw[Y1i4 h1 h2]
   refine⟨Ylv (Ylv (Ylv h)),Y1ul _ (Ykg ?_)⟩
   have b:=Yri (beC c 3) (n:=40) dW
   have e:(beX (beC c 3) 40).tdiv 39=0\/(beX (beC c 3) 40).tdiv 39=1:=by rw[dm b.1];omega
   have b2:=Yri (beC (beC c 3) 40) (n:=5+(beX (beC c 3) 40).tdiv 39) oW
   have:Yzd.length=6:=rfl
   omega
 ·rw[Y1d8 h1]
  refine⟨Ylv (Ylv h),Y1ul _ (Ykg ?_)⟩
  have b:=Yri c (n:=40) dW
  have e:(beX c 40).tdiv 39=0\/(beX c 40).tdiv 39=1:=by rw[dm b.1];omega
  have b2:=Yri (beC c 40) (n:=5+(beX c 40).tdiv 39) oW
  have:Yzd.length=6:=rfl
  omega
theorem Y1ng {A B:Cr->List ByteArray->Yd×Cr}{M:Nat}(hM:30<=M) (hA:∀ c N,okK c->okK (A c N).2/\wD (A c N).1<=M) (hB:∀ c N,okK c->okK (B c N).2/\wD (B c N).1<=M) {c:Cr}(h:okK c) (N:List ByteArray) :
  okK (Y146 A B c N).2/\wD (Y146 A B c N).1<=121 * (M+1)+M:=by
 have k1:okK (Yqj c):=Ylv (Ylv (Ylv (Ylv h)))
 have a1:=hA (Yqj c) N k1
 have a2:=hB _ (N++[Yqy c]) a1.1
 have a3:=hB _ N a2.1
 have a4:=hB _ N (Ylv (n:=3) a3.1)
 have b:=Yri c (n:=28) dW
 have w:=(Y1lm (beX c 28).toNat oW).1
 have s:=λx=>a9 (Y1eq x) hM
 have key:∀ a b c2,wD a<=M->wD b<=M->wD (Yot Ys5 (Y14w A B c N a b c2) (Yrf (beX c 28).toNat))<=121 * (M+1)+M:=by
  intro a b c2 ha hb
  have:=Y1yx (N:=Ys5) (P:=Y14w A B c N a b c2) (M:=M) (by
   intro x hx
   simp only[Y14w,aC,cV,or_false]at hx
   rcases hx with rfl|rfl|rfl|rfl|rfl|rfl|rfl|rfl
   ·exact a1.2
   ·exact ha
   ·exact hb
   ·exact s _
   ·exact s _
   ·exact s _
   ·exact s _
   ·exact s _) (Yrf (beX c 28).toNat)
  have h2:(wD (Yrf (beX c 28).toNat)+1) * (M+1)<=121 * (M+1):=cP _ oW
  omega
 cases hl:Y184 (beX c 28).toNat with
 | true=>rw[Y1ir hl];exact⟨Ylv a3.1,key _ _ _ a2.2 a3.2⟩
 | false=>rw[Y1o8 hl];exact⟨a4.1,key _ _ _ a4.2 a3.2⟩
theorem Y16n (d:Nat):30<=geB d/\geB d<=geB (d+1):=by
 have:∀ d,30<=geB d:=by
  intro d
  induction d with
  | zero=>decide
  | succ d ih=>show 30<=121 * (geB d+1)+geB d;omega
 exact⟨this d,by show geB d<=121 * (geB d+1)+geB d;omega⟩
theorem Y16k:∀ (d:Nat) (c:Cr) (N:List ByteArray),okK c->okK (Yxu d c N).2/\wD (Yxu d c N).1<=geB d
 | 0,c,N,h=>Y17o (Ylv h) N
 | 1,c,N,h=>by
  have l:=Y17o (Ylv (n:=6) h) N
  have hB:∀ (c:Cr) (N:List ByteArray),okK c->okK (Yrx (beC c 6) N).2/\wD (Yrx (beC c 6) N).1<=30:=λc N h=>Y17o (Ylv h) N
  simp only[Yxu]
  split
  ·exact⟨l.1,by have:=(Y16n 1).1;omega⟩
  ·exact Y1ng (aD _) hB hB (Ylv h) N
 | d+2,c,N,h=>by
  have l:=Y17o (Ylv (n:=6) h) N
  have u:=Y16n d
  have u1:=Y16n (d+1)
  have u2:=Y16n (d+2)
  simp only[Yxu]
  split
  ·exact⟨l.1,by omega⟩
  ·exact Y1ng u1.1 (λc N h=>Y16k (d+1) c N h) (λc N h=>by have:=Y16k d c N h;exact⟨this.1,by omega⟩) (Ylv h) N
theorem Y12g {d:Int}(hd:d<=3) {c:Cr}(h:okK c) (N:List ByteArray):okK (Yo6 d c N).2/\wD (Yo6 d c N).1<=60000000:=by
 rw[Yvk]
 have g:=Y16k d.toNat c N h
 have:geB d.toNat<=60000000:=by
  have h3:d.toNat=0\/d.toNat=1\/d.toNat=2\/d.toNat=3:=by omega
  rcases h3 with e|e|e|e<;>rw[e]<;>decide
 exact⟨g.1,by omega⟩
theorem Yzr {d:Int}(hd:d<=2) {c:Cr}(h:okK c) (N:List ByteArray):wD (Yo6 d c N).1<=1000000:=by
 rw[Yvk]
 have g:=Y16k d.toNat c N h
 have:geB d.toNat<=1000000:=by
  have h3:d.toNat=0\/d.toNat=1\/d.toNat=2:=by omega
  rcases h3 with e|e|e<;>rw[e]<;>decide
 omega
def Y1ev (d:Yd):List Yd:=Ysb [d]
theorem Y19b (d:Yd):Y1ev d=[d]:=Ynv _
theorem Y1sy (d:Yd):(Y1ev d).length=1:=by rw[Y19b];rfl
theorem Y1qd (d:Yd):(Y1ev d).g 0=d:=by rw[Y19b];rfl
section
abbrev Z8g (n:Int):Ct:=⟨184,[],[li n],[],.sv (ls (mkS (Lib.itoa n)))⟩
def Z7o (n:Int):Lp (Int×List UInt8):=.mk 31 0 (λx=>[(0,li n),(3,hs x 1),(4,hs x 0)]) (λx=>[]) (λk=>[.s (li k.1),.s (ls (mkS k.2))]) (λk=>n≠0/\dgs k.1.natAbs++k.2=Lib.decDigits n.natAbs/\(-9223372036854775808:Int)<=k.1/\k.1<=9223372036854775807) (λk=>k.1.natAbs) [.mk True (.exit 0) (λx=>[(0,li n),(3,hs x 0)]) (λx=>[]) [.s (ls (mkS (Lib.decDigits n.natAbs)))]]
theorem Zim (n:Int) (h:(-9223372036854775808:Int)<=n/\n<=9223372036854775807):Lp.Sem prog (Yks f184 0) (Z7o n):=Yl0 (λk=>let v1:=48+(0 - k.1.tmod 10);let v2:=48+k.1.tmod 10;let v3:=1+k.2.length<=9223372036854775807;let v4:=k.1.tdiv 10;let v5:=[UInt8.ofNat v2.toNat];let v6:=[UInt8.ofNat v1.toNat];.i (k.1≠0) (.p ((10:Int)≠0) (.i (k.1.tmod (10:Int)<0) (.r (0 - k.1.tmod 10) (.r v1 (.p (rng IntKind.u8 v1) (.w (.bytes v6) (.p ([[Cell.lit (Value.int IntKind.u8 v1)]]=[[Cell.lit (Value.int IntKind.u8 (↑(UInt8.ofNat v1.toNat).toNat:Int))]]) (.p v3 (.p ((10:Int)≠0) (.r v4 (.g [] (k.1.tdiv 10,v6++k.2) [.s (li v4),.s (ls (ByteArray.mk (v6++k.2).toArray))]))))))))) (.r v2 (.p (rng IntKind.u8 v2) (.w (.bytes v5) (.p ([[Cell.lit (Value.int IntKind.u8 v2)]]=[[Cell.lit (Value.int IntKind.u8 (↑(UInt8.ofNat v2.toNat).toNat:Int))]]) (.p v3 (.p ((10:Int)≠0) (.r v4 (.g [] (k.1.tdiv 10,v5++k.2) [.s (li v4),.s (ls (ByteArray.mk (v5++k.2).toArray))])))))))))) (.o 0 [] [.s (ls (mkS k.2))])) (by
 intro k h;try dsimp only[Ykd,Yko,Z7o]at h|-
 obtain⟨x,o⟩:=k
 simp only at *
 have g1:=@Y1rv x.natAbs
 have g2:(x.tdiv 10).natAbs=x.natAbs / 10:=Int.natAbs_tdiv _ _
 have g3:(x.tmod 10).natAbs=x.natAbs % 10:=Int.natAbs_tmod _ _
 have g4:=cu List.length h.2.1
 have g5:=Y1ny (n:=n) tW
 with_reducible repeat' (first|apply ah|exact zR|(intro))
 all_goals ((try simp only[std,inj]at *);with_reducible and_intros)
 all_goals try first|exact zw|grind[Y1sc,Ykl,Ykm,Ykf]
 all_goals first|(rw[Y1ml];omega)|(rw[Y1xq oW]))
theorem Zbf (n:Int) (h : -9223372036854775808<=n/\n<=9223372036854775807):Z8g n:=Ykr call184 func184 (.i (n=0) (.s (ls (mkS [48]))) (.l (Z7o n) (Zim n h) [] [.s (li n),.s (ls (mkS []))] (n,[]) (.t (.i (n<0) (.p (1+(Lib.decDigits n.natAbs).length<=9223372036854775807) (.s (ls (ByteArray.mk ([(45:UInt8)]++Lib.decDigits n.natAbs).toArray)))) (.s (ls (mkS (Lib.decDigits n.natAbs))))) .q))) (by
 dsimp only[Ykd,Z8g,Yko,Z7o]
 have g1:=@Y1fw n
 have g2:=@Y1rb n
 have g3:=Y1n6
 have g4:=Y1ny h
 with_reducible repeat' (first|apply ah|exact zR|(intro))
 all_goals ((try simp only[std,inj]at *);with_reducible and_intros)
 all_goals try first|exact zw|grind[Y21a,Ykl,Ykm,Ykf])
abbrev Zcv (s:ByteArray):Ct:=⟨146,[],[ls s],[],.tup [li (Yti s),lb (Ys3 s)]⟩
def Z49 (s:ByteArray):Lp (Nat×Int):=.mk 55 0 (λx=>[(0,ls s),(4,hs x 0),(5,hs x 2),(6,hs x 1)]) (λx=>[]) (λk=>[.s (li (↑(atN s):Int)),.s (li (k.1:Int)),.s (li k.2)]) (λk=>atN s<=k.1/\k.1<=s.size/\Yxo s k.1=some k.2.toNat/\0<=k.2/\s.size<=atN s+9/\atN s<s.size) (λk=>s.size - k.1) [.mk (Y125 s) (.exit 0) (λx=>[(0,ls s),(4,hs x 0),(5,hs x 1)]) (λx=>[]) [.s (li (↑(atN s):Int)),.s (li (↑(magN s):Int))],.mk (Y125 s=false/\s.size<=atN s+9/\atN s<s.size) .ret (λx=>[(2,hs x 0),(3,hs x 1)]) (λx=>[]) [.s (li 0),.s (lb false)]]
theorem Zbg (s:ByteArray):Lp.Sem prog (Yks f146 0) (Z49 s):=Yl0 (λk=>let v1:=(↑(s.data.toList.getD (k.1:Int).toNat (0:UInt8)).toNat:Int);let v2:=0<=(k.1:Int)/\(k.1:Int).toNat<s.data.toList.length;.h (s.data.toList.length<=9223372036854775807) (.i ((k.1:Int)<(s.data.toList.length:Int)) (.p v2 (.c [.rd] (Z81 v1) (.b (!Yq0 v1) (.o 1 [] [.s (li 0),.s (lb false)]) (.r (10 * k.2) (.p v2 (.p (rng IntKind.u8 (v1 - 48)) (.r (v1 - 48) (.r (10 * k.2+(v1 - 48)) (.r ((k.1:Int)+1) (.g [] (k.1+1,10 * k.2+(v1 - 48)) [.s (li (↑(atN s):Int)),.s (li ((k.1:Int)+1)),.s (li (10 * k.2+(v1 - 48)))])))))))))) (.o 0 [] [.s (li (↑(atN s):Int)),.s (li k.2)]))) (by
 intro k h;try dsimp only[Ykd,Yko,Z49]at h|-
 obtain⟨i,m⟩:=k
 simp only at *
 have g1:=@Y1qr s i m.toNat
 have g2:=@Y1rt s i
 have g3:=@Y1vy s m.toNat
 have g4:=@Y1ow s i m.toNat
 with_reducible repeat' (first|apply ah|exact zR|(intro)|apply Zbf)
 all_goals ((try simp only[std,inj]at *);with_reducible and_intros)
 all_goals try with_reducible first|apply Zbf
 all_goals try first|exact zw|grind[Yq0,Ykl,Ykm,Ykf]
 all_goals (rw[Y1ml];simp only[Yq0,cA,ak]at *;omega))
theorem Zjt (s:ByteArray):Zcv s:=Ykr call146 func146 (let v8:=(↑(magN s):Int);let v7:Tq _ _:=.f [] [] (.tup [li 0,lb false]);let v1:Tq _ _:=.t (.i ((↑(atN s):Int)=1) (.r (0 - v8) (.d [.rd] (Z8g (0 - v8)) (.i (Lib.itoa (0 - v8)≠s.data.toList) v7 (.f [] [] (.tup [li (0 - v8),lb true]))))) (.d [.rd] (Z8g v8) (.i (Lib.itoa v8≠s.data.toList) v7 (.f [] [] (.tup [li v8,lb true]))))) (.t v7 .q);let v2:=s.data.toList.length<=9223372036854775807;let v3:Tq _ _:=.y true v7;let v4:=9<(s.data.toList.length:Int) - 0;let v5:=0=(s.data.toList.length:Int);let v6:=(s.data.toList.length:Int) - 0;let v9:Tq _ _:=.l (Z49 s) (Zbg s) [] [.s (li 0),.s (li 0),.s (li 0)] (atN s,0) v1;let v10:Tq _ _:=.h v2 (.i v5 v3 (.h v2 (.r v6 (.i v4 v7 v9))));.h v2 (.i (0<(s.data.toList.length:Int)) (.p ((0:Int)<=0/\0<s.data.toList.length) (.i ((↑(s.data.toList.getD 0 (0:UInt8)).toNat:Int)=45) (.h v2 (.i (1=(s.data.toList.length:Int)) v3 (.h v2 (.r ((s.data.toList.length:Int) - 1) (.i (9<(s.data.toList.length:Int) - 1) v7 (.l (Z49 s) (Zbg s) [] [.s (li 1),.s (li 1),.s (li 0)] (atN s,0) v1)))))) v10)) (.y false v10))) (by
 dsimp only[Ykd,Zcv,Yko,Z49]
 have g1:=Y1qn s
 have g2:=@Y1p9 s
 have g3:=@Y1ry s
 have g4:atN s=0\/atN s=1:=by have:=Y21w s;omega
 with_reducible repeat' (first|apply ah|exact zR|(intro)|apply Zbf)
 all_goals ((try simp only[std,inj]at *);with_reducible and_intros)
 all_goals try with_reducible first|apply Zbf
 all_goals try first|exact zw|grind[Ys3,Y1tb,Yti,sgN,atN,Ykl,Ykm,Ykf])
end
section
abbrev Zbh (n:Int):Ct:=⟨98,[],[lu n],[],.sv (lb (Ypj n))⟩
theorem Zeu (n:Int):Zbh n:=Ykr call98 func98 (.i (n=32) (.y true (.s (lb true))) (.i (n=10) (.s (lb true)) (.s (lb (decide (n=9)))))) (by
 dsimp only[Ykd,Zbh]
 with_reducible repeat' (first|apply ah|exact zR|(intro))
 all_goals ((try simp only[std,inj]at *);with_reducible and_intros)
 all_goals try first|exact z|grind[Ypj,Ykl,Ykm,Ykf])
abbrev Zcw (n:Int):Ct:=⟨145,[],[lu n],[],.sv (lb (Y11u n))⟩
theorem Zju (n:Int):Zcw n:=Ykr call145 func145 (let v1:Tq _ _:=.y true (.s (lb true));.i (n=40) (.y true (.y true v1)) (.i (n=41) (.y true v1) (.i (n=34) v1 (.i (n=59) (.s (lb true)) (.s (lb (decide (n=39)))))))) (by
 dsimp only[Ykd,Zcw]
 with_reducible repeat' (first|apply ah|exact zR|(intro))
 all_goals ((try simp only[std,inj]at *);with_reducible and_intros)
 all_goals try first|exact z|grind[Y11u,Ykl,Ykm,Ykf])
theorem Y22y {s:ByteArray}{a:Nat}(h:a<s.size) (hp:Ypj (byt s a)):sk s (a+1)=sk s a:=Y1e8 Ypj h hp
theorem Y1hw {s:ByteArray}{a:Nat}(h:a<=s.size) (hp:a<s.size->Ypj (byt s a)=false):sk s a=a:=Y147 Ypj h hp
theorem Y1zp {s:ByteArray}{a k:Nat}(h:k<s.size) (hk:sk s k=sk s a) (hb:byt s k=59):noc s a=false:=by
 have h1:sk s k=k:=Y1hw oW λ_=>by rw[hb];decide
 rw[hk]at h1
 unfold noc;rw[h1,hb];simp[h]
abbrev Z2c (s:ByteArray) (a:Nat) (b:Bool):Ct:=⟨45,[.box [vS s,vI (a:Nat),vB b]],[.y 0],[.box [vS s,vI (sk s a:Nat),vB b]],.tup []⟩
def Z5z (s:ByteArray) (a:Nat) (b:Bool) (k:Nat):Lp Nat:=.mk 82 1 (λx=>[(0,.y 0)]) (λx=>[.box [vS s,ha x 0,vB b]]) (λk1=>[.a (vI (↑(k+k1):Int))]) (λk1=>k<k/\k1<=s.size) (λk1=>s.size - k1) [.mk True (.exit 2) (λx=>[(0,.y 0)]) (λx=>[.box [vS s,ha x 0,vB b]]) [.a (vI (k:Int))]]
def Z60 (s:ByteArray) (a:Nat) (b:Bool):Lp Nat:=.mk 82 1 (λx=>[(0,.y 0)]) (λx=>[.box [vS s,ha x 0,vB b]]) (λk=>[.a (vI (k:Int))]) (λk=>a<=k/\k<=s.size/\sk s k=sk s a/\noc s a) (λk=>s.size - k) [.mk True (.exit 0) (λx=>[]) (λx=>[.box [vS s,ha x 0,vB b]]) [.a (vI (↑(sk s a):Int))]]
theorem Zh1 (s:ByteArray) (a:Nat) (b:Bool) (h:a<=s.size/\noc s a) (k:Nat):Lp.Sem prog (Yks f45 1) (Z5z s a b k):=Yl0 (λk1=>let v1:=(↑(k+k1):Int);let v2:=s.data.toList.length<=9223372036854775807;.w (.draw []) (.i (v1<(s.data.toList.length:Int)) (.p (0<=v1/\v1.toNat<s.data.toList.length) (.h v2 (.i ((↑(s.data.toList.getD v1.toNat (0:UInt8)).toNat:Int)≠10) (.r (v1+1) (.g [0] 1 [.a (vI (v1+1))])) (.o 0 [0] [.a (vI v1)])))) (.h v2 (.y false (.o 0 [0] [.a (vI v1)]))))) (by
 intro k1 h;try dsimp only[Ykd,Yko,Z5z]at h|-
 exact zV)
theorem Zh2 (s:ByteArray) (a:Nat) (b:Bool) (h:a<=s.size/\noc s a):Lp.Sem prog (Yks f45 0) (Z60 s a b):=Yl0 (λk=>let v4:=0<=(k:Int)/\(k:Int).toNat<s.data.toList.length;let v3:=(↑(s.data.toList.getD (k:Int).toNat (0:UInt8)).toNat:Int);let v5:=vI (k:Int);let v1:Tq _ _:=.w (.draw []) (.p v4 (.i (v3=59) (.l (Z5z s a b k) (Zh1 s a b h k) [0] [.a v5] 0 (.t (.g [0] k [.a v5]) .q)) (.r ((k:Int)+1) (.g [0] (k+1) [.a (vI ((k:Int)+1))]))));let v2:=s.data.toList.length<=9223372036854775807;.w (.draw []) (.i ((k:Int)<(s.data.toList.length:Int)) (.p v4 (.c [.rd] (Zeu v3) (.b (Ypj v3) (.h v2 (.y true v1)) (.p v4 (.h v2 (.i (v3=59) v1 (.o 0 [0] [.a v5]))))))) (.h v2 (.y false (.o 0 [0] [.a v5]))))) (by
 intro k h;try dsimp only[Ykd,Yko,Z60,Z5z]at h|-
 have g1:=@Y22y s k
 have g2:=@Y1hw s k
 have g3:=@Y1zp s a k
 with_reducible repeat' (first|apply ah|exact zR|(intro))
 all_goals ((try simp only[std,inj]at *);with_reducible and_intros)
 all_goals try first|exact z|grind[byt,Ykl,Ykm,Ykf])
theorem Zy (s:ByteArray) (a:Nat) (b:Bool) (h:a<=s.size/\noc s a):Z2c s a b:=Ykr call45 func45 (.l (Z60 s a b) (Zh2 s a b h) [0] [.a (vI (a:Int))] a (.t (.f [] [.box [vS s,vI (↑(sk s a):Int),vB b]] (.tup [])) .q)) (by
 dsimp only[Ykd,Z2c,Yko,Z60]
 exact zV)
abbrev Y1m4:AC:=.val (.lit (.slice none 0 0))
theorem Y1xt {t:ByteArray}{d:Yd}(h:Ypr t=some d) (h1:Ys3 t):d=⟨2,Yti t,mkS [],[]⟩:=by
 unfold Ypr at h;rw[ae h1]at h;exact(cf h).symm
theorem Y22o {t:ByteArray}{d:Yd}(h:Ypr t=some d) (h1:Ys3 t=false) (h2:tx t=[35,116]):d=⟨3,1,mkS [],[]⟩:=by
 unfold Ypr at h;rw[ab (by simp[h1]),ae h2]at h;exact(cf h).symm
theorem Y221 {t:ByteArray}{d:Yd}(h:Ypr t=some d) (h1:Ys3 t=false) (h2:tx t≠[35,116]) (h3:tx t=[35,102]):d=⟨3,0,mkS [],[]⟩:=by
 unfold Ypr at h;rw[ab (by simp[h1]),ab h2,ae h3]at h;exact(cf h).symm
theorem Y224 {t:ByteArray}{d:Yd}(h:Ypr t=some d) (h1:Ys3 t=false) (h2:tx t≠[35,116]) (h3:tx t≠[35,102]):Yo1 t/\d=⟨1,0,t,[]⟩:=by
 unfold Ypr at h;rw[ab (by simp[h1]),ab h2,ab h3]at h
 split at h
 ·rename_i e;exact⟨e,(cf h).symm⟩
 ·cases h
abbrev Z9i (n:Int):Ct:=⟨57,[],[li n],[],.sv (.agg [vI 2,vI n,vS (mkS []),Y1m4])⟩
theorem Za3 (n:Int) (h : -999999999<=n/\n<=999999999):Z9i n:=Ykr call57 func57 (let v1:Cell:=.y;.c [.rd,.rd,.rd] (Z6c n (-999999999:Int) 999999999) (.b (!decide ((-999999999:Int)<=n/\n<=999999999)) (.s (.agg [vI 0,vI 0,vS (mkS []),.val v1])) (.s (.agg [vI 2,vI n,vS (mkS []),.val v1])))) (by
 dsimp only[Ykd,Z9i]
 exact zV)
abbrev Zcx (b:Bool):Ct:=⟨58,[],[lb b],[],.sv (.agg [vI 3,vI (if b then 1 else 0),vS (mkS []),Y1m4])⟩
theorem Zjv (b:Bool):Zcx b:=Ykr call58 func58 (let v1:Cell:=.y;.b b (.s (.agg [vI 3,vI 1,vS (mkS []),.val v1])) (.s (.agg [vI 3,vI 0,vS (mkS []),.val v1]))) (by
 dsimp only[Ykd,Zcx]
 exact zV)
abbrev Z8h (s:ByteArray):Ct:=⟨99,[],[ls s],[],.sv (.agg [vI 1,vI 0,vS s,Y1m4])⟩
theorem Z2d (s:ByteArray) (h:Yo1 s):Z8h s:=Ykr call99 func99 (let v1:Cell:=.y;.c [.rd] (Z4m s) (.b (!Yo1 s) (.s (.agg [vI 0,vI 0,vS (mkS []),.val v1])) (.s (.agg [vI 1,vI 0,vS s,.val v1])))) (by
 dsimp only[Ykd,Z8h]
 exact zV)
abbrev Zat (s:ByteArray):Ct:=⟨59,[],[ls s],[],.sv (.agg [vI 4,vI 0,vS s,Y1m4])⟩
theorem Z6u (s:ByteArray) (h:Ypc s):Zat s:=Ykr call59 func59 (let v1:Cell:=.y;.c [.rd] (Z6w s) (.b (!Ypc s) (.s (.agg [vI 0,vI 0,vS (mkS []),.val v1])) (.s (.agg [vI 4,vI 0,vS s,.val v1])))) (by
 dsimp only[Ykd,Zat]
 exact zV)
def atR (d:Yd) (a:Nat):Nat:=a
theorem Y1w3 {s:ByteArray}{a:Nat}(h:a<s.size) (h1:Ypj (byt s a)=false) (h2:Y11u (byt s a)=false):pst isRu s (a+1)=pst isRu s a:=Y1e8 isRu h (by show (!Ypj (byt s a) && !Y11u (byt s a));rw[h1,h2];rfl)
theorem Y1p0 {s:ByteArray}{a:Nat}(h:a<=s.size) (hp:a<s.size->Ypj (byt s a)\/Y11u (byt s a)):pst isRu s a=a:=Y147 isRu h λe=>by
 have:=hp e
 show (!Ypj (byt s a) && !Y11u (byt s a))=false
 rcases this with e|e<;>rw[e]<;>simp
theorem Y1ve {s:ByteArray}{a:Nat}(h:a<s.size) (h1:byt s a≠34):pst noQ s (a+1)=pst noQ s a:=Y1e8 noQ h (by show (!decide (byt s a=34));simp[h1])
theorem Y1mo {s:ByteArray}{a:Nat}(h:a<=s.size) (hp:a<s.size->byt s a=34):pst noQ s a=a:=Y147 noQ h λe=>by show (!decide (byt s a=34))=false;simp[hp e]
def atG (t:ByteArray):Yd:=(Ypr t).getD default
abbrev Z9j (s:ByteArray) (a:Nat):Ct:=⟨101,[.box [vS s,vI (a:Nat),vB false]],[.y 0],.box [vS s,vI (pst isRu s a:Nat),vB false] :: Y16p (atG (sbs s a (pst isRu s a))),.sv (Ytd (atG (sbs s a (pst isRu s a))) 1)⟩
def Z61 (s:ByteArray) (a:Nat):Lp Nat:=let v1:=[vI 0,vI 0,vS (mkS []),.val (.y)];let v2:=[(0,.y 0),(2,.y 1),(3,li (a:Int))];.mk 92 1 (λx=>v2) (λx=>[.box [vS s,ha x 0,vB false],.box v1]) (λk=>[.a (vI (k:Int))]) (λk=>a<=k/\k<=s.size/\pst isRu s k=pst isRu s a) (λk=>s.size - k) [.mk True (.exit 0) (λx=>v2) (λx=>[.box [vS s,ha x 0,vB false],.box v1]) [.a (vI (↑(pst isRu s a):Int))]]
theorem Zh3 (s:ByteArray) (a:Nat) (h:a<=s.size/\s.size<=15000/\(Ypr (sbs s a (pst isRu s a))).isSome):Lp.Sem prog (Yks f101 0) (Z61 s a):=Yl0 (λk=>let v1:=(↑(s.data.toList.getD (k:Int).toNat (0:UInt8)).toNat:Int);let v4:=s.data.toList.length<=9223372036854775807;let v2:Tq _ _:=.h v4 (.y false (.o 0 [0,1] [.a (vI (k:Int))]));let v3:=0<=(k:Int)/\(k:Int).toNat<s.data.toList.length;.w (.draw []) (.i ((k:Int)<(s.data.toList.length:Int)) (.p v3 (.c [.rd] (Zeu v1) (.b (!Ypj v1) (.p v3 (.c [.rd] (Zju v1) (.h v4 (.b (!Y11u v1) (.r ((k:Int)+1) (.g [0,1] (k+1) [.a (vI ((k:Int)+1))])) (.o 0 [0,1] [.a (vI (k:Int))]))))) v2))) (.y false v2))) (by
 intro k h;try dsimp only[Ykd,Yko,Z61]at h|-
 have g1:=@Y1w3 s k
 have g2:=@Y1p0 s k
 with_reducible repeat' (first|apply ah|exact zR|(intro)|apply Za3|apply Z2d)
 all_goals ((try simp only[std,inj]at *);with_reducible and_intros)
 all_goals try with_reducible first|apply Za3|apply Z2d
 all_goals try first|exact z|grind[byt,Ykl,Ykm,Ykf])
theorem Z4l (s:ByteArray) (a:Nat) (h:a<=s.size/\s.size<=15000/\(Ypr (sbs s a (pst isRu s a))).isSome):Z9j s a:=Ykr call101 func101 (let v5:=(↑(pst isRu s a):Int);let v8:=v5.toNat - (a:Int).toNat;let v7:=List.drop (a:Int).toNat s.data.toList;let v1:=ByteArray.mk (v7.take v8).toArray;let v2:=v7.take v8=[(35:UInt8),(116:UInt8)];let v3:List Ob:=[.box [vS s,vI v5,vB false],.y 4 []];let v4:Orc:=.ghost (.nilbox 1 3 true 4);let v6:Tq _ _:=.c [.rd] (Zjv (decide v2)) (.w v4 (.f [2] v3 (.sv (.agg [vI 3,vI (if decide v2 then 1 else 0),vS (mkS []),.ref 1]))));.l (Z61 s a) (Zh3 s a h) [0,1] [.a (vI (a:Int))] a (.t (.w (.draw []) (.p (0<=(a:Int)) (.p (0<=v5) (.p ((a:Int).toNat<=v5.toNat/\v5.toNat<=s.data.toList.length) (.c [.rd] (Zjt v1) (.b (Ys3 v1) (.d [.rd] (Z9i (Yti v1)) (.w v4 (.f [2] v3 (.sv (.agg [vI 2,vI (Yti v1),vS (mkS []),.ref 1]))))) (.i v2 (.y true v6) (.i (v7.take v8=[(35:UInt8),(102:UInt8)]) v6 (.c [.rd] (Z4m v1) (.b (Yo1 v1) (.d [.rd] (Z8h v1) (.w v4 (.f [2] v3 (.sv (.agg [vI 1,vI 0,vS v1,.ref 1]))))) (.w v4 (.f [2] [.box [vS s,vI v5,vB true],.y 4 []] (.sv (.agg [vI 0,vI 0,vS (mkS []),.ref 1])))))))))))))) .q)) (by
 dsimp only[Ykd,Z9j,Yko,Z61]
 have g0:Ypr (sbs s a (pst isRu s a))=some (atG (sbs s a (pst isRu s a))):=by obtain⟨d,e⟩:=Option.isSome_iff_exists.1 h.2.2;unfold atG;rw[e];rfl
 have g1:=@Y1xt (sbs s a (pst isRu s a)) (atG (sbs s a (pst isRu s a))) g0
 have g2:=@Y22o (sbs s a (pst isRu s a)) (atG (sbs s a (pst isRu s a))) g0
 have g3:=@Y221 (sbs s a (pst isRu s a)) (atG (sbs s a (pst isRu s a))) g0
 have g4:=@Y224 (sbs s a (pst isRu s a)) (atG (sbs s a (pst isRu s a))) g0
 have g5:=@Y1os (sbs s a (pst isRu s a))
 have g7:=@Ytb isRu s a
 have g8:=Y20m s a (pst isRu s a)
 have g9:=Y20x s a (pst isRu s a)
 exact z00)
theorem Yx0:∀ L:List Yd,L.length<=sumBy sizeD L
 | []=>aD _
 | x :: r=>by have:=Yx0 r;have:=Yos x;simp only[aE,sumBy];omega
theorem Y24x {d:Yd}{s:ByteArray}{a:Nat}(h:a<=s.size) (hd:okR d s a) (hb:byt s (sk s a)=40):noc s (sk s a+1):=by
 have:=(rdl h hd hb (cr _)).2.1
 rwa [Y1yy h hd]at this
def dfD:Yd:=default
abbrev Zbi (s:ByteArray) (n:Int):Ct:=⟨46,[.box [vS s,vI n,vB false]],[.y 0],.box [vS s,vI n,vB false] :: Y16p dfD,.sv (Ytd dfD 1)⟩
theorem Z3f (s:ByteArray) (n:Int) (h:n<n):OK (Zbi s n):=absurd h (Int.lt_irrefl n)
abbrev Zt (s:ByteArray) (a:Nat) (d:Yd):Ct:=⟨46,[.box [vS s,vI (sk s (atR d a):Nat),vB false]],[.y 0],.box [vS s,vI (enR d s a:Nat),vB false] :: Y16p d,.sv (Ytd d 1)⟩
def Z39 (s:ByteArray) (a:Nat) (d:Yd):Lp Nat:=let v1:=[(0,.y 0),(2,.y 1),(4,.y 2)];let v2:=[vI 0,vI 0,vS (mkS []),.val (.y)];let v3:=[vI 0,vI 0,vS (mkS []),.ref 3];.mk 228 1 (λx=>v1) (λx=>[.box [vS s,ha x 0,vB false],.box v2,.box v3,ho x 1]) (λk=>[.a (vI (↑(sk s (atR (d.Ia.g k) (enP (d.Ia.take k) s (sk s a+1)))):Int)),.o (.Ah (d.Ia.take k))]) (λk=>k<=d.Ia.length/\d.Ia.length<=9223372036854775807/\a<=s.size/\s.size<=15000/\okR d s a/\byt s (sk s a)=40/\sizeD d<=600) (λk=>d.Ia.length - k) [.mk True (.exit 3) (λx=>v1) (λx=>[.box [vS s,ha x 0,vB false],.box v2,.box v3,ho x 1]) [.a (vI (↑(sk s (enP d.Ia s (sk s a+1))):Int)),.o (.Ah d.Ia)]]
def Z3a (s:ByteArray) (a:Nat) (d:Yd):Lp Nat:=let v1:=[vI 0,vI 0,vS (mkS []),.val (.y)];.mk 228 1 (λx=>[(0,.y 0),(2,.y 1),(3,hs x 1)]) (λx=>[.box [vS s,ha x 0,vB false],.box v1]) (λk=>[.a (vI (k:Int)),.s (li (↑(sk s a+1):Int))]) (λk=>sk s a+1<=k/\k<=s.size/\pst noQ s k=pst noQ s (sk s a+1)) (λk=>s.size - k) [.mk True (.exit 1) (λx=>[(0,.y 0),(2,.y 1),(3,hs x 1)]) (λx=>[.box [vS s,ha x 0,vB false],.box v1]) [.a (vI (↑(pst noQ s (sk s a+1)):Int)),.s (li (↑(sk s a+1):Int))]]
theorem Zdi (s:ByteArray) (a:Nat) (d:Yd) (h:a<=s.size/\s.size<=15000/\okR d s a/\sizeD d<=600) (ih:∀ (z:Yd),z∈d.Ia->∀ (s:ByteArray) (a:Nat),a<=s.size/\s.size<=15000/\okR z s a/\sizeD z<=600->OK (Zt s a z)):Lp.Sem prog (Yks f46 1) (Z39 s a d):=Yl0 (λk=>let v6:=d.Ia.g k;let v7:=d.Ia.take k;let v5:=enP v7 s (sk s a+1);let v1:=(↑(sk s (atR v6 v5)):Int);let v2:=enR v6 s v5;let v3:=v7.map Ykq;let v4:=s.data.toList.length<=9223372036854775807;.w (.draw []) (.y true (.i (v1<(s.data.toList.length:Int)) (.p (0<=v1/\v1.toNat<s.data.toList.length) (.h v4 (.i ((↑(s.data.toList.getD v1.toNat (0:UInt8)).toNat:Int)≠41) (.w (.draw [(3,[0]),(4,[7]),(5,[3,14]),(7,[2])]) (.d [.ptr] (Zt s v5 v6) (.p ((v3.length+1) * 56<=140737488355328) (.d [.ptr] (Z2c s v2 false) (.g [0,1,2,15] (k+1) [.a (vI (↑(sk s v2):Int)),.o (.y 4 (v7.map Ykq++[Yld v6]))]))))) (.o 0 [0,1,2,3] [.a (vI v1),.o (.y 4 v3)])))) (.h v4 (.y false (.o 0 [0,1,2,3] [.a (vI v1),.o (.y 4 v3)])))))) (by
 intro k h;try dsimp only[Ykd,Yko,Z39]at h|-
 have hq:=h
 obtain⟨q1,q2,q3,q4,q5,q6,q7⟩:=hq
 have g7:=Yos d
 have g8:=Yx0 d.Ia
 have g9:=@Yl3 _ sizeD d.Ia (d.Ia.g k)
 have g4:=@rdl d s a q3 q5 q6 k q1
 have g5:k<d.Ia.length->_:=λhk=>@rdl d s a q3 q5 q6 (k+1) hk
 with_reducible repeat' (first|apply ah|exact zR|exact ih|(intro)|apply Zy|apply Z4l|apply Z6u|apply Z2d|apply Z3f|apply ih)
 all_goals ((try simp only[std,inj]at *);with_reducible and_intros)
 all_goals try first|with_reducible (first|apply Zy|apply Z4l|apply Z6u|apply Z2d|apply Z3f|apply ih)|(simp only[<- ar];with_reducible first|apply Zy|apply Z4l|apply Z6u|apply Z2d|apply Z3f|apply ih)
 all_goals try first|exact z|grind[byt,atR,Yku,Ykg,Ykl,Ykm,Ykf])
theorem Zdj (s:ByteArray) (a:Nat) (d:Yd) (h:a<=s.size/\s.size<=15000/\okR d s a/\sizeD d<=600) (ih:∀ (z:Yd),z∈d.Ia->∀ (s:ByteArray) (a:Nat),a<=s.size/\s.size<=15000/\okR z s a/\sizeD z<=600->OK (Zt s a z)):Lp.Sem prog (Yks f46 0) (Z3a s a d):=Yl0 (λk=>let v1:=li (↑(sk s a+1):Int);let v2:=s.data.toList.length<=9223372036854775807;.w (.draw []) (.i ((k:Int)<(s.data.toList.length:Int)) (.p (0<=(k:Int)/\(k:Int).toNat<s.data.toList.length) (.h v2 (.i ((↑(s.data.toList.getD (k:Int).toNat (0:UInt8)).toNat:Int)≠34) (.r ((k:Int)+1) (.g [0,1] (k+1) [.a (vI ((k:Int)+1)),.s v1])) (.o 0 [0,1] [.a (vI (k:Int)),.s v1])))) (.h v2 (.y false (.o 0 [0,1] [.a (vI (k:Int)),.s v1]))))) (by
 intro k h;try dsimp only[Ykd,Yko,Z3a]at h|-
 have g1:=@Y1ve s k
 have g2:=@Y1mo s k
 with_reducible repeat' (first|apply ah|exact zR|exact ih|(intro)|apply Zy|apply Z4l|apply Z6u|apply Z2d|apply Z3f)
 all_goals ((try simp only[std,inj]at *);with_reducible and_intros)
 all_goals try with_reducible first|apply Zy|apply Z4l|apply Z6u|apply Z2d|apply Z3f|apply ih
 all_goals try first|exact z|grind[byt,Ykl,Ykm,Ykf])
theorem Zh4 (s:ByteArray) (a:Nat) (d:Yd) (h:a<=s.size/\s.size<=15000/\okR d s a/\sizeD d<=600) (ih:∀ z∈d.Ia,∀ (s:ByteArray) (a:Nat) (h:a<=s.size/\s.size<=15000/\okR z s a/\sizeD z<=600),Zt s a z):Zt s a d:=Ykr call46 func46 (let v12:=sk s (atR d a);let v1:=(↑(sk s v12):Int);let v2:=(↑(pst noQ s (sk s a+1)):Int);let v3:AV:=.sv (.agg [vI 0,vI 0,vS (mkS []),.ref 1]);let v4:=atG (sbs s (sk s v12) (pst isRu s (sk s v12)));let v5:=(↑(sk s a+1):Int);let v6:=s.data.toList.length<=9223372036854775807;let v7:Orc:=.ghost (.nilbox 1 3 true 4);let v8:=mkS [113,117,111,116,101];let v9:=(↑(s.data.toList.getD v1.toNat (0:UInt8)).toNat:Int);let v17:=List.drop v5.toNat s.data.toList;let v10:=ByteArray.mk (List.take ((v2+1 - 1).toNat - v5.toNat) v17).toArray;let v11:=ByteArray.mk (List.take (v2.toNat - v5.toNat) v17).toArray;let v13:=(↑(sk s (enP d.Ia s (sk s a+1))):Int);let v14:Tq _ _:=.w v7 (.f [2] [.box [vS s,vI v2,vB true],.y 4 []] v3);let v15:Tq _ _:=.w v7 (.f [2] [.box [vS s,vI v1,vB true],.y 4 []] v3);let v16:=0<=v1/\v1.toNat<s.data.toList.length;.d [.ptr] (Z2c s v12 false) (.w (.draw []) (.y false (.i ((s.data.toList.length:Int)<=v1) (.h v6 (.y true v15)) (.p v16 (.h v6 (.i (v9=41) v15 (.w (.draw []) (.p v16 (.i (v9=39) (.r (v1+1) (.d [.rd] (Z8h v8) (.d [.ptr] (Zbi s (v1+1)) (.f [4] [.box [vS s,vI (v1+1),vB false],.y 4 [[cI 1,cI 0,cS v8,.list []],[cI dfD.Ka,cI dfD.Na,cS dfD.Ta,.list []]]] v3)))) (.i (v9=34) (.r (v1+1) (.l (Z3a s a d) (Zdj s a d h ih) [0,1] [.a (vI (v1+1)),.s (li (v1+1))] (sk s a+1) (.t (.w (.draw []) (.i ((s.data.toList.length:Int)<=v2) (.h v6 (.y true v14)) (.p (0<=v5) (.p (0<=v2) (.p (v5.toNat<=v2.toNat/\v2.toNat<=s.data.toList.length) (.c [.rd] (Z6w v11) (.h v6 (.b (!Ypc v11) v14 (.r (v2+1) (.w (.draw [(12,[1])]) (.r (v2+1 - 1) (.p (0<=v5) (.p (0<=v2+1 - 1) (.p (v5.toNat<=(v2+1 - 1).toNat/\(v2+1 - 1).toNat<=s.data.toList.length) (.d [.rd] (Zat v10) (.w v7 (.f [2] [.box [vS s,vI (v2+1),vB false],.y 4 []] (.sv (.agg [vI 4,vI 0,vS v10,.ref 1]))))))))))))))))))) .q))) (.i (v9=40) (.r (v1+1) (.d [.ptr] (Z2c s (sk s v12+1) false) (.w (.g (.nilbox 2 3 true 4)) (.l (Z39 s a d) (Zdi s a d h ih) [0,1,2,3] [.a (vI (↑(sk s (sk s v12+1)):Int)),.o (.y 4 [])] 0 (.t (.w (.draw [(19,[0])]) (.y false (.h v6 (.r (v13+1) (.f [3] [.box [vS s,vI (v13+1),vB (decide ((s.data.toList.length:Int)<=v13))],.Ah d.Ia] v3))))) .q))))) (.d [.ptr] (Z9j s (sk s v12)) (.f [3] [.box [vS s,vI (↑(pst isRu s (sk s v12)):Int),vB false],.Ah v4.Ia] (.sv (.agg [vI v4.Ka,vI v4.Na,vS v4.Ta,.ref 1])))))))))))))))) (by
 dsimp only[Ykd,Zt,Yko,Z3a,Z39]
 have g1:=@Y23h d s a
 have g2:=@Y1wc d s a
 have g3:=@Y1zj d s a
 have g4:=@Y216 d s a
 have g5:=@Y1yy d s a
 have g6:=@Y1ug s a
 have e0:sk s (atR d a)=sk s a:=rfl
 have g9:=@Y24x d s a
 have g17:Ypr (sbs s (sk s a) (pst isRu s (sk s a)))=some d->atG (sbs s (sk s a) (pst isRu s (sk s a)))=d:=λq=>by unfold atG;rw[q];rfl
 have g10:enR d s a<=s.size:=(Y1y6 h.1 h.2.2.1).2.2
 have g11:d.Ia.length<=600:=by have:=Yos d;have:=Yx0 d.Ia;have:=h.2.2.2;omega
 have e1:sk s (sk s (atR d a))=sk s a:=Y19c h.1
 have g7:sk s a+1<=s.size->sk s a+1<=pst noQ s (sk s a+1)/\pst noQ s (sk s a+1)<=s.size:=λq=>(Ytb noQ q).2
 have g8:sk s a<=s.size->sk s a<=pst isRu s (sk s a)/\pst isRu s (sk s a)<=s.size:=λq=>(Ytb isRu q).2
 with_reducible repeat' (first|apply ah|exact zR|exact ih|(intro)|apply Zy|apply Z4l|apply Z6u|apply Z2d|apply Z3f)
 all_goals ((try simp only[std,inj]at *);with_reducible and_intros)
 all_goals try with_reducible first|apply Zy|apply Z4l|apply Z6u|apply Z2d|apply Z3f|apply ih
 all_goals try first|exact z|grind[byt,atR,Ykl,Ykm,Ykf])
theorem Z6v (d:Yd):∀ (s:ByteArray) (a:Nat) (h:a<=s.size/\s.size<=15000/\okR d s a/\sizeD d<=600),Zt s a d:=Yd.ind (P:=λd=>∀ (s:ByteArray) (a:Nat) (h:a<=s.size/\s.size<=15000/\okR d s a/\sizeD d<=600),Zt s a d) (λd ih s a h=>Zh4 s a d h ih) d
theorem Y15b {L:List Yd}{s:ByteArray}{k:Nat}(h:Yw9 L s) (hk:k<L.length) :
  okR (L.g k) s (enP (L.take k) s 0)/\enP (L.take (k+1)) s 0=enR (L.g k) s (enP (L.take k) s 0)/\enP (L.take k) s 0<=s.size/\sk s (enP (L.take k) s 0)<s.size/\noc s (enP (L.take k) s 0):=by
 simp only[Yw9,af,ak]at h
 have h1:=Y1dh (cr _) h.1.1.1.1 hk
 have h2:=(Y10w (cr _) (Yz8 (k:=k) (cr _) h.1.1.1.1)).2.2
 have h3:=Yq9 h2 h1.1
 exact⟨h1.1,h1.2,h2,h3.2.1,h3.1⟩
theorem Y1vd {s:ByteArray}{a:Nat}(h:sk s a=s.size):noc s a:=by simp[noc,h]
theorem Y12x {L:List Yd}{s:ByteArray}(h:Yw9 L s):sk s (enP L s 0)=s.size/\enP L s 0<=s.size/\noc s (enP L s 0)/\L.all Yn6/\sumBy sizeD L<=600/\s.size<=15000/\L.length<=600:=by
 simp only[Yw9,af,ak]at h
 exact⟨h.1.1.1.2,(Y10w (cr _) h.1.1.1.1).2.2,Y1vd h.1.1.1.2,h.1.1.2,h.1.2,h.2,a9 (Yx0 L) h.1.2⟩
theorem Y1nh {L:List Yd}{s:ByteArray}{k:Nat}(h:Yw9 L s) (hk:k<=L.length):enP (L.take k) s 0<=s.size/\noc s (enP (L.take k) s 0)/\(k=L.length->sk s (enP (L.take k) s 0)=s.size):=by
 rcases Nat.lt_or_eq_of_le hk with hl|rfl
 ·have:=Y15b h hl;exact⟨this.2.2.1,this.2.2.2.2,λe=>by omega⟩
 ·have:=Y12x h;rw[b9];exact⟨this.2.1,this.2.2.1,λ_=>this.1⟩
theorem Y1ep {L:List Yd}{s:ByteArray}:enP (L.take 0) s 0=0:=Y18k s (cr _)
theorem Y1qe {L:List Yd}{s:ByteArray}(h:Yw9 L s):noc s 0:=by
 cases L with
 | nil=>have:=(Y12x h).2.2.1;rwa [Y18k s (cr _)]at this
 | cons x l=>have:=(Y15b (k:=0) h sW).2.2.2.2;rwa [Y1ep]at this
def Y1js (L:List Yd):Bool:=L.all Yn6&&decide ((sumBy sizeD L:Int)<=600)
abbrev Z1k (d:Yd):Ct:=⟨102,[],[Yq3 d],[],.sv (li (sizeD d:Nat))⟩
def Z4a (d:Yd):Lp Nat:=.mk 19 0 (λx=>[(3,hs x 1),(7,Ap d.Ia),(8,li (d.Ia.map Ykq).length),(9,hs x 0)]) (λx=>[]) (λk=>[.s (li k),.s (li (↑(1+sumBy sizeD (d.Ia.take k)):Int))]) (λk=>k<=d.Ia.length/\d.Ia.length<=9223372036854775807) (λk=>d.Ia.length - k) [.mk True (.exit 0) (λx=>[(3,hs x 0)]) (λx=>[]) [.s (li (↑(1+sumBy sizeD d.Ia):Int))]]
theorem Zev (d:Yd) (h:sizeD d<=2147483647) (ih:∀ (z:Yd),z∈d.Ia->sizeD z<=2147483647->OK (Z1k z)):Lp.Sem prog (Yks f102 0) (Z4a d):=Yl0 (λk=>let v2:=(↑(1+sumBy sizeD (d.Ia.take k)):Int);let v3:=d.Ia.g k;let v1:=v2+(↑(sizeD v3):Int);.i ((k:Int)<(d.Ia.map Ykq).length) (.x (k:Int) (d.Ia.map Ykq) (Yld v3) (.d [.rd] (Z1k v3) (.r v1 (.r ((k:Int)+1) (.g [] (k+1) [.s (li ((k:Int)+1)),.s (li v1)]))))) (.o 0 [] [.s (li v2)])) (by
 intro k h;try dsimp only[Ykd,Yko,Z4a]at h|-
 have g2:=@Yl3 _ sizeD d.Ia (d.Ia.g k)
 have g3:=@Ynp _ _ sizeD d.Ia k
 have g4:=Ym2 sizeD d.Ia (k+1)
 have g6:=Yos d
 have g7:d.Ia.length<=k->d.Ia.take k=d.Ia:=λh=>av h
 exact z01)
theorem Zin (d:Yd) (h:sizeD d<=2147483647) (ih:∀ z∈d.Ia,∀ (h:sizeD z<=2147483647),Z1k z):Z1k d:=Ykr call102 func102 (.z Ykq d.Ia (.l (Z4a d) (Zev d h ih) [] [.s (li 0),.s (li 1)] 0 (.t (.s (li (↑(1+sumBy sizeD d.Ia):Int))) .q))) (by
 dsimp only[Ykd,Z1k,Yko,Z4a]
 have g6:=Yos d
 have g7:sumBy sizeD (d.Ia.take 0)=0:=rfl
 exact z02)
theorem Za4 (d:Yd):∀ (h:sizeD d<=2147483647),Z1k d:=Yd.ind (P:=λd=>∀ (h:sizeD d<=2147483647),Z1k d) (λd ih h=>Zin d h ih) d
abbrev Z9k (L:List Yd):Ct:=⟨47,[],[Ap L],[],.sv (lb (Y1js L))⟩
def Z62 (L:List Yd):Lp Nat:=.mk 22 0 (λx=>[(3,hs x 1),(6,Ap L),(7,li (L.map Ykq).length),(8,hs x 0)]) (λx=>[]) (λk=>[.s (li k),.s (li (↑(sumBy sizeD (L.take k)):Int))]) (λk=>k<=L.length/\L.length<=9223372036854775807/\L.length<=1000000/\(L.take k).all Yn6/\(↑(sumBy sizeD (L.take k)):Int)<=600 * (k:Int)) (λk=>L.length - k) [.mk (L.all Yn6) (.exit 0) (λx=>[(3,hs x 0)]) (λx=>[]) [.s (li (↑(sumBy sizeD L):Int))],.mk (L.all Yn6=false) .ret (λx=>[(2,hs x 0)]) (λx=>[]) [.s (lb false)]]
theorem Zh5 (L:List Yd) (h:L.length<=1000000):Lp.Sem prog (Yks f47 0) (Z62 L):=Yl0 (λk=>let v3:=(↑(sumBy sizeD (L.take k)):Int);let v2:=L.g k;let v1:=v3+(↑(sizeD v2):Int);.i ((k:Int)<(L.map Ykq).length) (.x (k:Int) (L.map Ykq) (Yld v2) (.c [.rd] (Zb0 v2) (.b (!Yn6 v2) (.o 1 [] [.s (lb false)]) (.d [.rd] (Z1k v2) (.r v1 (.r ((k:Int)+1) (.g [] (k+1) [.s (li ((k:Int)+1)),.s (li v1)]))))))) (.o 0 [] [.s (li v3)])) (by
 intro k h;try dsimp only[Ykd,Yko,Z62]at h|-
 have g3:=@Ynp _ _ sizeD L k
 have g4:Yn6 (L.g k)->sizeD (L.g k)<=600:=λh=>by simp only[Yn6,af,ak]at h;exact h.1.1
 with_reducible repeat' (first|apply ah|exact zR|(intro)|apply Za4)
 all_goals ((try simp only[std,inj]at *);with_reducible and_intros)
 all_goals try with_reducible first|apply Za4
 all_goals try first|exact z|grind[Yku,Ykl,Ykm,Ykf])
theorem Z7y (L:List Yd) (h:L.length<=1000000):Z9k L:=Ykr call47 func47 (.z Ykq L (.l (Z62 L) (Zh5 L h) [] [.s (li 0),.s (li 0)] 0 (.t (.s (lb (decide ((↑(sumBy sizeD L):Int)<=600)))) (.t (.s (lb false)) .q)))) (by
 dsimp only[Ykd,Z9k,Yko,Z62]
 with_reducible repeat' (first|apply ah|exact zR|(intro)|apply Za4)
 all_goals ((try simp only[std,inj]at *);with_reducible and_intros)
 all_goals try with_reducible first|apply Za4
 all_goals try first|exact z|grind[Y1js,sumBy,Ykl,Ykm,Ykf])
abbrev Zbj (L:List Yd) (s:ByteArray):Ct:=⟨19,[],[ls s],[.Ah L],.tup [.r 0,lb true]⟩
def Z55 (L:List Yd) (s:ByteArray):Lp Nat:=let v1:=[(4,.y 0),(5,.r 1)];.mk 49 0 (λx=>v1) (λx=>[.box [vS s,ha x 0,vB false],ho x 1]) (λk=>[.a (vI (↑(sk s (atR (L.g k) (enP (L.take k) s 0))):Int)),.o (.Ah (L.take k))]) (λk=>k<=L.length/\L.length<=9223372036854775807/\Yw9 L s/\L.length<=600) (λk=>L.length - k) [.mk True (.exit 0) (λx=>v1) (λx=>[.box [vS s,ha x 0,vB false],ho x 1]) [.a (vI (s.size:Int)),.o (.Ah L)]]
theorem Zfl (L:List Yd) (s:ByteArray) (h:Yw9 L s):Lp.Sem prog (Yks f19 0) (Z55 L s):=Yl0 (λk=>let v1:=enP (L.take k) s 0;let v2:=L.g k;let v3:=(L.take k).map Ykq;.w (.draw []) (.y true (.h (s.data.toList.length<=9223372036854775807) (.i ((↑(sk s (atR v2 v1)):Int)<(s.data.toList.length:Int)) (.d [.ptr] (Zt s v1 v2) (.p ((v3.length+1) * 56<=140737488355328) (.d [.ptr] (Z2c s (enR v2 s v1) false) (.g [0,5] (k+1) [.a (vI (↑(sk s (enR v2 s v1)):Int)),.o (.y 4 ((L.take k).map Ykq++[Yld v2]))])))) (.o 0 [0,1] [.a (vI (↑(sk s (atR v2 v1)):Int)),.o (.y 4 v3)]))))) (by
 intro k h;try dsimp only[Ykd,Yko,Z55]at h|-
 have g1:=@Y15b L s k
 have g0:=@Y1nh L s (k+1)
 have g00:=@Y1nh L s k
 have g2:=@Y12x L s
 have g3:=@Yl3 _ sizeD L (L.g k)
 with_reducible repeat' (first|apply ah|exact zR|(intro)|apply Zy|apply Z6v|apply Z7y)
 all_goals ((try simp only[std,inj]at *);with_reducible and_intros)
 all_goals try first|with_reducible (first|apply Zy|apply Z6v|apply Z7y)|(simp only[<- ar];with_reducible first|apply Zy|apply Z6v|apply Z7y)
 all_goals try first|exact z|grind[atR,Yku,Ykg,Ykl,Ykm,Ykf])
theorem Zew (L:List Yd) (s:ByteArray) (h:Yw9 L s):Zbj L s:=Ykr call19 func19 (let v1:AV:=.tup [.r 0,lb false];.h (s.data.toList.length<=9223372036854775807) (.i (15000<(s.data.toList.length:Int)) (.w (.g (.nilreg 2 true 4)) (.f [0] [.y 4 []] v1)) (.w (.bool false) (.d [.ptr] (Z2c s 0 false) (.l (Z55 L s) (Zfl L s h) [0,1] [.a (vI (↑(sk s 0):Int)),.o (.y 4 [])] 0 (.t (.y false (.d [.rd] (Z9k L) (.b (!Y1js L) (.w (.g (.nilreg 2 true 4)) (.f [2] [.y 4 []] v1)) (.f [1] [.Ah L] (.tup [.r 0,lb true]))))) .q)))))) (by
 dsimp only[Ykd,Zbj,Yko,Z55]
 have g1:=@Y12x L s
 have g2:=@Y1ep L s
 have g3:=@Y1qe L s
 with_reducible repeat' (first|apply ah|exact zR|(intro)|apply Zy|apply Z6v|apply Z7y)
 all_goals ((try simp only[std,inj]at *);with_reducible and_intros)
 all_goals try with_reducible first|apply Zy|apply Z6v|apply Z7y
 all_goals try first|exact z|grind[atR,Y1js,Ykl,Ykm,Ykf])
end
section
abbrev Z8i (L:List ByteArray) (s:ByteArray):Ct:=⟨63,[],[Aw L,ls s],[],.sv (li (Yop L s))⟩
def Z7p (L:List ByteArray) (s:ByteArray):Lp Nat:=.mk 19 0 (λx=>[(1,ls s),(7,Aw L),(8,li (L.map Ylu).length),(9,hs x 0)]) (λx=>[]) (λk=>[.s (li k)]) (λk=>k<=L.length/\L.length<=9223372036854775807/\((L.take k).all λx => !decide (x=s))=true) (λk=>L.length - k) [.mk (Yop L s=(-1:Int)) (.exit 0) (λx=>[]) (λx=>[]) [],.mk True .ret (λx=>[(4,hs x 0)]) (λx=>[]) [.s (li (Yop L s))]]
theorem Zio (L:List ByteArray) (s:ByteArray) (h:L.length<=1000):Lp.Sem prog (Yks f63 0) (Z7p L s):=Yl0 (λk=>.i ((k:Int)<(L.map Ylu).length) (.x (k:Int) (L.map Ylu) [cS (L.g k)] (.i ((L.g k).data.toList=s.data.toList) (.o 1 [] [.s (li k)]) (.r ((k:Int)+1) (.g [] (k+1) [.s (li ((k:Int)+1))])))) (.o 0 [] [])) (by
 intro k h;try dsimp only[Ykd,Yko,Z7p]at h|-
 have g1:=@Y1vm L s k
 have g2:=@Y1wh L s
 have g3:L.length<=k->L.take k=L:=λh=>av h
 with_reducible repeat' (first|apply ah|exact zR|(intro))
 all_goals ((try simp only[std,inj]at *);with_reducible and_intros)
 all_goals try first|exact z|grind[Yku,Yo9,Ykl,Ykm,Ykf])
theorem Z5c (L:List ByteArray) (s:ByteArray) (h:L.length<=1000):Z8i L s:=Ykr call63 func63 (.z Ylu L (.l (Z7p L s) (Zio L s h) [] [.s (li 0)] 0 (.t (.s (li (-1:Int))) (.t (.s (li (Yop L s))) .q)))) (by
 dsimp only[Ykd,Z8i,Yko,Z7p]
 exact zV)
abbrev Z2e (d:Yd) (N:List ByteArray) (P:List Yd):Ct:=⟨114,[],[Yq3 d,Aw N,Ap P],[.Ah (Yot N P d).Ia],.sv (Ytd (Yot N P d) 0)⟩
def Z56 (d:Yd) (N:List ByteArray) (P:List Yd):Lp Nat:=let v1:=[vI 0,vI 0,vS (mkS []),.val (.y)];let v2:=[vI d.Ka,vI d.Na,vS d.Ta,.ref 2];.mk 56 0 (λx=>[(1,Aw N),(2,Ap P),(6,.y 0),(8,.y 1),(39,Ap d.Ia),(40,li (d.Ia.map Ykq).length),(41,hs x 0)]) (λx=>[.box v1,.box v2,ho x 1]) (λk=>[.s (li k),.o (.Ah (List.map (Yot N P) (d.Ia.take k)))]) (λk=>k<=d.Ia.length/\d.Ia.length<=9223372036854775807) (λk=>d.Ia.length - k) [.mk True (.exit 0) (λx=>[(6,.y 0),(8,.y 1)]) (λx=>[.box v1,.box v2,ho x 0]) [.o (.Ah (List.map (Yot N P) d.Ia))]]
theorem Zfm (d:Yd) (N:List ByteArray) (P:List Yd) (h:wD d<=1000/\N.length<=1000/\∀ (x:Yd),x∈P->wD x<=1000000) (ih:∀ (z:Yd),z∈d.Ia->∀ (N:List ByteArray) (P:List Yd),(wD z<=1000/\N.length<=1000/\∀ (x:Yd),x∈P->wD x<=1000000)->OK (Z2e z N P)):Lp.Sem prog (Yks f114 0) (Z56 d N P):=Yl0 (λk=>let v1:=List.map (Yot N P) (d.Ia.take k);let v2:=d.Ia.g k;.i ((k:Int)<(d.Ia.map Ykq).length) (.x (k:Int) (d.Ia.map Ykq) (Yld v2) (.w (.draw [(6,[8]),(7,[2,16]),(9,[1])]) (.d [.rd,.rd,.rd] (Z2e v2 N P) (.p (((v1.map Ykq).length+1) * 56<=140737488355328) (.r ((k:Int)+1) (.g [0,1,17] (k+1) [.s (li ((k:Int)+1)),.o (.y 4 (v1.map Ykq++[Yld (Yot N P v2)]))])))))) (.o 0 [0,1,2] [.o (.Ah v1)])) (by
 intro k h;try dsimp only[Ykd,Yko,Z56]at h|-
 have g1:=Yuh d
 have g2:=@Yl3 _ wD d.Ia (d.Ia.g k)
 exact z05)
theorem Zjg (d:Yd) (N:List ByteArray) (P:List Yd) (h:wD d<=1000/\N.length<=1000/\∀ x∈P,wD x<=1000000) (ih:∀ z∈d.Ia,∀ (N:List ByteArray) (P:List Yd) (h:wD z<=1000/\N.length<=1000/\∀ x∈P,wD x<=1000000),Z2e z N P):Z2e d N P:=Ykr call114 func114 (let v1:Tq _ _:=.z Ykq d.Ia (.w (.g (.nilbox 2 3 true 4)) (.l (Z56 d N P) (Zfm d N P h ih) [1,2,3] [.s (li 0),.o (.y 4 [])] 0 (.t (.f [2] [.Ah (List.map (Yot N P) d.Ia)] (.sv (.agg [vI d.Ka,vI d.Na,vS d.Ta,.ref 0]))) .q)));let v2:=P.g (Yop N d.Ta).toNat;.i (d.Ka=1) (.d [.rd,.rd] (Z8i N d.Ta) (.i (0<=Yop N d.Ta) (.z Ykq P (.i (Yop N d.Ta<((P.map Ykq).length:Int)) (.x (Yop N d.Ta) (P.map Ykq) (Yld v2) (.d [.rd] (Z16 v2) (.f [2] [.Ah v2.Ia] (.sv (.agg [vI v2.Ka,vI v2.Na,vS v2.Ta,.ref 0]))))) v1)) (.y false v1))) v1) (by
 dsimp only[Ykd,Z2e,Yko,Z56]
 have g1:=Yuh d
 have g2:=Y1i0 N P d
 have g3:0<=Yop N d.Ta->Yop N d.Ta<(P.length:Int)->P.g (Yop N d.Ta).toNat∈P:=λa b=>Ykg oW
 exact z0d)
theorem Zip (d:Yd):∀ (N:List ByteArray) (P:List Yd) (h:wD d<=1000/\N.length<=1000/\∀ x∈P,wD x<=1000000),Z2e d N P:=Yd.ind (P:=λd=>∀ (N:List ByteArray) (P:List Yd) (h:wD d<=1000/\N.length<=1000/\∀ x∈P,wD x<=1000000),Z2e d N P) (λd ih N P h=>Zjg d N P h ih) d
abbrev Zex (i:Nat):Ct:=⟨19,[],[ls (Ysu.g i)],[.Ah (Y1ev (Yrf i))],.tup [.r 0,lb true]⟩
theorem Ziq (i:Nat) (h:i<28):OK (Zex i):=Zew _ _ (by rw[Y19b];exact Y1yr i h)
abbrev Z8j (i:Nat) (P:List Yd):Ct:=⟨64,[],[ls (Ysu.g i),Aw Ys5,Ap P],[.Ah (Yot Ys5 P (Yrf i)).Ia],.sv (Ytd (Yot Ys5 P (Yrf i)) 0)⟩
theorem Z9l (i:Nat) (P:List Yd) (h:i<28/\∀ x∈P,wD x<=1000000):Z8j i P:=Ykr call64 func64 (let v4:=Y1ev (Yrf i);let v1:=v4.g 0;let v2:=v4.map Ykq;let v3:=Yot Ys5 P v1;.d [.rd] (Zex i) (.z Ykq v4 (.i (((v4.map Ykq).length:Int)=0) (.w (.g (.nilbox 0 3 true 4)) (.f [2] [.y 4 []] (.sv (.agg [vI 0,vI 0,vS (mkS []),.ref 0])))) (.p ((0:Int)<=0/\0<v2.length) (.w (.cells (Yld v1)) (.p (v2[0]? = some (Yld v1)) (.d [.rd,.rd,.rd] (Z2e v1 Ys5 P) (.f [2] [.Ah v3.Ia] (.sv (.agg [vI v3.Ka,vI v3.Na,vS v3.Ta,.ref 0])))))))))) (by
 dsimp only[Ykd,Z8j]
 have g0:Ys5.length=8:=rfl
 have g1:=Y1sy (Yrf i)
 have g2:=Y1qd (Yrf i)
 have g3:=Y1lm i h.1
 exact z00)
abbrev Zey:Ct:=⟨61,[],[],[.Ar Ysu],.sv (.r 0)⟩
theorem Zbk:Zey:=Ykr call61 func61 (let v1:=[cS (mkS [40,108,101,116,32,40,40,120,120,32,97,97,41,41,32,98,98,41])];.f [0] [.y 1 [[cS (mkS [40,43,32,97,97,32,98,98,41])],[cS (mkS [40,45,32,97,97,32,98,98,41])],v1,v1,[cS (mkS [40,111,114,32,97,97,32,98,98,41])],[cS (mkS [40,97,110,100,32,97,97,32,98,98,41])],[cS (mkS [40,105,102,32,97,97,32,98,98,32,99,99,41])],[cS (mkS [40,40,108,97,109,98,100,97,32,40,120,120,41,32,98,98,41,32,97,97,41])],[cS (mkS [40,108,101,116,32,40,40,120,120,32,97,97,41,41,32,40,115,101,116,33,32,120,120,32,98,98,41,32,120,120,41])],[cS (mkS [40,108,101,116,32,40,41,32,40,100,101,102,105,110,101,32,120,120,32,97,97,41,32,40,100,101,102,105,110,101,32,40,121,121,32,122,122,41,32,98,98,41,32,40,121,121,32,120,120,41,41])],[cS (mkS [40,108,101,116,32,40,40,120,120,32,97,97,41,32,40,121,121,32,53,41,41,32,40,115,119,97,112,33,32,120,120,32,121,121,41,32,40,99,111,110,115,32,120,120,32,121,121,41,41])],[cS (mkS [40,108,101,116,32,40,40,120,120,32,51,41,41,32,40,119,104,105,108,101,32,40,60,32,48,32,120,120,41,32,40,100,105,115,112,108,97,121,32,120,120,41,32,40,115,101,116,33,32,120,120,32,40,45,32,120,120,32,49,41,41,41,32,98,98,41])],[cS (mkS [40,114,101,115,101,116,32,40,43,32,49,32,40,115,104,105,102,116,32,107,107,32,40,107,107,32,40,107,107,32,97,97,41,41,41,41,41])],[cS (mkS [40,114,101,115,101,116,32,40,99,111,110,115,32,97,97,32,40,115,104,105,102,116,32,107,107,32,40,99,111,110,115,32,40,107,107,32,49,41,32,40,107,107,32,50,41,41,41,41,41])],[cS (mkS [40,99,111,110,100,32,40,40,61,32,97,97,32,49,41,32,98,98,41,32,40,101,108,115,101,32,99,99,41,41])],[cS (mkS [40,108,101,116,45,115,121,110,116,97,120,32,40,40,109,109,32,40,115,121,110,116,97,120,45,114,117,108,101,115,32,40,41,32,40,40,95,32,97,41,32,40,43,32,97,32,49,41,41,41,41,41,32,40,109,109,32,97,97,41,41])],[cS (mkS [40,108,101,116,32,40,40,120,120,32,97,97,41,41,32,40,108,101,116,45,115,121,110,116,97,120,32,40,40,109,109,32,40,115,121,110,116,97,120,45,114,117,108,101,115,32,40,41,32,40,40,95,32,101,41,32,40,108,101,116,32,40,40,120,120,32,55,41,41,32,40,99,111,110,115,32,120,120,32,101,41,41,41,41,41,41,32,40,109,109,32,120,120,41,41,41])],[cS (mkS [40,99,111,110,115,32,97,97,32,98,98,41])],[cS (mkS [40,99,97,114,32,40,99,111,110,115,32,97,97,32,98,98,41,41])],[cS (mkS [40,98,101,103,105,110,32,40,100,105,115,112,108,97,121,32,97,97,41,32,98,98,41])],[cS (mkS [40,108,101,116,42,32,40,40,120,120,32,97,97,41,32,40,121,121,32,120,120,41,41,32,40,99,111,110,115,32,120,120,32,121,121,41,41])],[cS (mkS [40,108,101,116,114,101,99,32,40,40,120,120,32,40,108,97,109,98,100,97,32,40,110,41,32,40,105,102,32,40,60,32,110,32,49,41,32,98,98,32,40,120,120,32,40,45,32,110,32,49,41,41,41,41,41,41,32,40,120,120,32,52,41,41])],[cS (mkS [40,119,104,101,110,32,97,97,32,98,98,41])],[cS (mkS [40,108,101,116,32,40,41,32,40,100,101,102,105,110,101,45,115,121,110,116,97,120,32,109,109,32,40,115,121,110,116,97,120,45,114,117,108,101,115,32,40,41,32,40,40,95,32,113,41,32,40,100,101,102,105,110,101,32,113,32,97,97,41,41,41,41,32,40,109,109,32,120,120,41,32,120,120,41])],[cS (mkS [40,110,111,116,32,97,97,41])],[cS (mkS [40,101,113,63,32,97,97,32,98,98,41])],[cS (mkS [40,108,111,99,97,108,32,40,120,120,41,32,40,115,101,116,33,32,120,120,32,97,97,41,32,120,120,41])],[cS (mkS [40,113,117,111,116,101,32,40,97,97,32,120,120,41,41])]]] (.sv (.r 0))) (by
 dsimp only[Ykd,Zey]
 exact z03)
abbrev Zez:Ct:=⟨62,[],[],[.Ar Ywh],.sv (.r 0)⟩
theorem Zbl:Zez:=Ykr call62 func62 (.f [0] [.y 1 [[cS (mkS [120])],[cS (mkS [121])],[cS (mkS [116,109,112])],[cS (mkS [116])],[cS (mkS [108,111,111,112])],[cS (mkS [110])],[cS (mkS [107])],[cS (mkS [102])],[cS (mkS [108,105,115,116])],[cS (mkS [101,108,115,101])],[cS (mkS [105,102])]]] (.sv (.r 0))) (by
 dsimp only[Ykd,Zez]
 exact z03)
abbrev Zf0 (s:ByteArray):Ct:=⟨56,[],[ls s],[],.sv (.agg [vI (Ym3 s).Ka,vI (Ym3 s).Na,vS (Ym3 s).Ta,.val (.y)])⟩
theorem Z1b (s:ByteArray):Zf0 s:=Ykr call56 func56 (.c [.rd] (Zk8 s) (.s (.agg [vI (Ym3 s).Ka,vI (Ym3 s).Na,vS (Ym3 s).Ta,.val (.y)]))) (by
 dsimp only[Ykd,Zf0]
 exact zV)
theorem Y21g:(Ysu.length:Int)=28:=rfl
theorem Y21i:(Ywh.length:Int)=11:=rfl
theorem Y1zm (c:Cr):0<=(beX c 40).tdiv 39/\(beX c 40).tdiv 39<=1:=by
 have b:=Yri c (n:=40) dW
 rw[dm b.1];omega
theorem Y1wz {i:Nat}(h:i<6):([[cI (Yne 1).Ka,cI (Yne 1).Na,cS (Yne 1).Ta,Cell.list []],[cI (Yne 2).Ka,cI (Yne 2).Na,cS (Yne 2).Ta,Cell.list []],[cI (Yne 7).Ka,cI (Yne 7).Na,cS (Yne 7).Ta,Cell.list []],[cI (Yw0 false).Ka,cI (Yw0 false).Na,cS (Yw0 false).Ta,Cell.list []],[cI (Ywd (mkS [115])).Ka,cI (Ywd (mkS [115])).Na,cS (Ywd (mkS [115])).Ta,Cell.list []],[cI (Ym3 (mkS [122,122])).Ka,cI (Ym3 (mkS [122,122])).Na,cS (Ym3 (mkS [122,122])).Ta,Cell.list []]]:List (List Cell))[i]? = some (Yld (Yzd.g i)):=by
 match i,h with
 | 0,_=>rfl
 | 1,_=>rfl
 | 2,_=>rfl
 | 3,_=>rfl
 | 4,_=>rfl
 | 5,_=>rfl
theorem Y23m (N:List ByteArray) (x:ByteArray):List.map Ylu N++[[cS x]]=List.map Ylu (N++[x]):=by rw[ar];rfl
theorem Y1j6 (a b e:Yd) (s t u v w:ByteArray):[Yld a,Yld b,Yld e,[cI (Ym3 s).Ka,cI (Ym3 s).Na,cS (Ym3 s).Ta,Cell.list []],[cI (Ym3 t).Ka,cI (Ym3 t).Na,cS (Ym3 t).Ta,Cell.list []],[cI (Ym3 u).Ka,cI (Ym3 u).Na,cS (Ym3 u).Ta,Cell.list []],[cI (Ym3 v).Ka,cI (Ym3 v).Na,cS (Ym3 v).Ta,Cell.list []],[cI (Ym3 w).Ka,cI (Ym3 w).Na,cS (Ym3 w).Ta,Cell.list []]]=List.map Ykq [a,b,e,sy0 s,sy0 t,sy0 u,sy0 v,sy0 w]:=by
 simp only[bP,List.map_nil,Y1an];rfl
theorem Y1ha:[[cS (mkS [97,97])],[cS (mkS [98,98])],[cS (mkS [99,99])],[cS (mkS [120,120])],[cS (mkS [121,121])],[cS (mkS [122,122])],[cS (mkS [107,107])],[cS (mkS [109,109])]]=List.map Ylu Ys5:=rfl
theorem Y1h7 {a b e:Yd}(ha:wD a<=1000000) (hb:wD b<=1000000) (he:wD e<=1000000) (s t u v w:ByteArray):∀ x∈[a,b,e,sy0 s,sy0 t,sy0 u,sy0 v,sy0 w],wD x<=1000000:=by
 intro x hx
 have k:=λs=>a9 (Y1eq s) (show 30<=1000000 by decide)
 simp only[aC,cV,or_false]at hx
 rcases hx with rfl|rfl|rfl|rfl|rfl|rfl|rfl|rfl
 ·exact ha
 ·exact hb
 ·exact he
 all_goals exact k _
section
variable {d:Int}{c:Cr}{N:List ByteArray}(h:d<=0\/beX c 6=0)
include h
theorem Y1uh (h1:0<(N.length:Int)) (h2:0<beX (beC c 6) 3):Yo6 d c N=(sy0 (N.g (beX (beC (beC c 6) 3) (N.length:Int)).toNat),beC (beC (beC c 6) 3) (N.length:Int)):=by rw[Y120 h,Y1df h1 h2]
theorem Y1uz (h1:0<(N.length:Int)) (h2:¬ 0<beX (beC c 6) 3):Yo6 d c N=(Yzd.g (beX (beC (beC (beC c 6) 3) 40) (5+(beX (beC (beC c 6) 3) 40).tdiv 39)).toNat,beC (beC (beC (beC c 6) 3) 40) (5+(beX (beC (beC c 6) 3) 40).tdiv 39)):=by rw[Y120 h,Y1i4 h1 h2]
theorem Y1ud (h1:¬ 0<(N.length:Int)):Yo6 d c N=(Yzd.g (beX (beC (beC c 6) 40) (5+(beX (beC c 6) 40).tdiv 39)).toNat,beC (beC (beC c 6) 40) (5+(beX (beC c 6) 40).tdiv 39)):=by rw[Y120 h,Y1d8 h1]
end
abbrev Z19 (d:Int) (c:Cr) (N:List ByteArray):Ct:=⟨24,[crO c],[.y 0,li d,Aw N],[crO (Yo6 d c N).2,.Ah (Yo6 d c N).1.Ia],.sv (Ytd (Yo6 d c N).1 1)⟩
theorem Zjh (d:Int) (c:Cr) (N:List ByteArray) (h:okK c /\ -2<=d/\d<=3/\N.length+2 * d<=100) (ih:∀ (e:Int),-2<=e/\e<d->∀ (c:Cr) (N:List ByteArray) (h:okK c /\ -2<=e/\e<=3/\N.length+2 * e<=100),Z19 e c N):Z19 d c N:=Ykr call24 func24 (let vv49:=beC c 6;let vv41:=beC vv49 (Ysu.length:Int);let vv17:=beC vv41 (Ywh.length:Int);let vv61:=beC vv17 4;let vv26:=Yo6 (d - 1) (beC vv61 4) N;let vv34:=N++[Ywh.g (beX vv41 (Ywh.length:Int)).toNat];let vv9:=Yo6 (d - 2) vv26.2 vv34;let vv25:=Yo6 (d - 2) vv9.2 N;let vv54:=beC vv25.2 3;let vv40:=Yo6 (d - 2) vv54 N;let vv13:=Ywh.g (beX vv41 (Ywh.length:Int)).toNat;let vv42:=Ym3 vv13;let vv37:=[mkS [113],mkS [103],mkS [104],mkS [119]];let vv11:=vv37.g (beX vv17 4).toNat;let vv43:=Ym3 vv11;let vv21:=Ym3 (mkS [122]);let vv35:=[mkS [107],mkS [107],mkS [116,109,112],mkS [99]];let vv10:=vv35.g (beX vv61 4).toNat;let vv44:=Ym3 vv10;let vv12:=[mkS [109],mkS [108,101,116],mkS [109,97,99]];let vv18:=vv12.g (beX vv25.2 3).toNat;let vv47:=Ym3 vv18;let vv1:=[vv26.1,vv40.1,vv25.1,Yd.mk vv42.Ka vv42.Na vv42.Ta [],Yd.mk vv43.Ka vv43.Na vv43.Ta [],Yd.mk vv21.Ka vv21.Na vv21.Ta [],Yd.mk vv44.Ka vv44.Na vv44.Ta [],Yd.mk vv47.Ka vv47.Na vv47.Ta []];let vv2:=[vv26.1,vv9.1,vv25.1,Yd.mk vv42.Ka vv42.Na vv42.Ta [],Yd.mk vv43.Ka vv43.Na vv43.Ta [],Yd.mk vv21.Ka vv21.Na vv21.Ta [],Yd.mk vv44.Ka vv44.Na vv44.Ta [],Yd.mk vv47.Ka vv47.Na vv47.Ta []];let vv55:=Yw0 false;let vv24:=mkS [115];let vv58:=Ywd vv24;let vv16:=mkS [122,122];let vv57:=Ym3 vv16;let vv3:=[Yd.mk (Yne 1).Ka (Yne 1).Na (Yne 1).Ta [],Yd.mk (Yne 2).Ka (Yne 2).Na (Yne 2).Ta [],Yd.mk (Yne 7).Ka (Yne 7).Na (Yne 7).Ta [],Yd.mk vv55.Ka vv55.Na vv55.Ta [],Yd.mk vv58.Ka vv58.Na vv58.Ta [],Yd.mk vv57.Ka vv57.Na vv57.Ta []];let vv4:=[[cI (Yne 1).Ka,cI (Yne 1).Na,cS (Yne 1).Ta,.list []],[cI (Yne 2).Ka,cI (Yne 2).Na,cS (Yne 2).Ta,.list []],[cI (Yne 7).Ka,cI (Yne 7).Na,cS (Yne 7).Ta,.list []],[cI vv55.Ka,cI vv55.Na,cS vv55.Ta,.list []],[cI vv58.Ka,cI vv58.Na,cS vv58.Ta,.list []],[cI vv57.Ka,cI vv57.Na,cS vv57.Ta,.list []]];let vv5:=[cI vv47.Ka,cI vv47.Na,cS vv47.Ta,.list []];let vv20:=beC vv49 3;let vv45:=beC vv20 40;let vv31:=5+(beX vv20 40).tdiv 39;let vv6:=beX vv45 vv31;let vv23:=((N.map Ylu).length:Int);let vv36:=N.g (beX vv20 vv23).toNat;let vv7:Tq _ _:=.z Ylu N (.d [.ptr,.rd] (Z3 vv20 vv23) (.x (beX vv20 vv23) (N.map Ylu) [cS vv36] (.c [.rd] (Z1b vv36) (.w (.g (.nilbox 1 3 true 4)) (.f [2] [.box [Aq (beC vv20 vv23).b,vI (↑(beC vv20 vv23).i:Int),vI (beC vv20 vv23).h],.y 4 []] (.sv (.agg [vI (Ym3 vv36).Ka,vI (Ym3 vv36).Na,vS (Ym3 vv36).Ta,.ref 1])))))));let vv39:=beC vv49 40;let vv27:=5+(beX vv49 40).tdiv 39;let vv8:=beX vv39 vv27;let vv14:=beX vv49 (Ysu.length:Int);let vv30:=vv3.g vv6.toNat;let vv15:Tq _ _:=.f [3] [.box [Aq (beC vv45 vv31).b,vI (↑(beC vv45 vv31).i:Int),vI (beC vv45 vv31).h],.Ah vv30.Ia] (.sv (.agg [vI vv30.Ka,vI vv30.Na,vS vv30.Ta,.ref 1]));let vv29:=vv3.g vv8.toNat;let vv19:Tq _ _:=.f [3] [.box [Aq (beC vv39 vv27).b,vI (↑(beC vv39 vv27).i:Int),vI (beC vv39 vv27).h],.Ah vv29.Ia] (.sv (.agg [vI vv29.Ka,vI vv29.Na,vS vv29.Ta,.ref 1]));let vv22:=[[cS (mkS [97,97])],[cS (mkS [98,98])],[cS (mkS [99,99])],[cS (mkS [120,120])],[cS (mkS [121,121])],[cS vv16],[cS (mkS [107,107])],[cS (mkS [109,109])]];let vv28:=[mkS [40,108,101,116],mkS [40,108,111,99],mkS [40,40,108,97]];let vv32:=Yot Ys5 vv2 (Yrf vv14.toNat);let vv33:=Yot Ys5 vv1 (Yrf vv14.toNat);let vv38:=Ysu.g vv14.toNat;let vv46:=ByteArray.mk (List.take 4 (vv38.data.toList.drop 0)).toArray;let vv48:=[cI vv21.Ka,cI vv21.Na,cS vv21.Ta,.list []];let vv50:=[cI vv44.Ka,cI vv44.Na,cS vv44.Ta,.list []];let vv51:=[cI vv43.Ka,cI vv43.Na,cS vv43.Ta,.list []];let vv52:=[cI vv42.Ka,cI vv42.Na,cS vv42.Ta,.list []];let vv53:List Ab.Mode:=[.ptr,.own true 1];let vv56:=(39:Int)≠0;let vv59:=vv4[vv8.toNat]? = some (Yld vv29);let vv60:=vv4[vv6.toNat]? = some (Yld vv30);let vv62:=0<=beX vv45 vv31/\vv6.toNat<6;let vv63:=0<=beX vv39 vv27/\vv8.toNat<6;let vv64:=Zbe false;.d [.ptr,.rd] (Z3 c 6) (.i (d<=0) (.y true (.z Ylu N (.i (0<vv23) (.d [.ptr,.rd] (Z3 vv49 3) (.i (0<beX vv49 3) vv7 (.c [.rd] (Zx 1) (.c [.rd] (Zx 2) (.c [.rd] (Zx 7) (.c [.rd] vv64 (.c [.rd] (Z6t vv24) (.c [.rd] (Z1b vv16) (.d [.ptr,.rd] (Z3 vv20 40) (.p vv56 (.r ((beX vv20 40).tdiv 39) (.r vv31 (.d [.ptr,.rd] (Z3 vv45 vv31) (.p vv62 (.w (.pulls (Yld vv30) [4]) (.p vv60 (.p (∀ (x0:List Cell),x0∈vv30.Ia.map Ykq->x0.length=4) vv15))))))))))))))))) (.y false (.c [.rd] (Zx 1) (.c [.rd] (Zx 2) (.c [.rd] (Zx 7) (.c [.rd] vv64 (.c [.rd] (Z6t vv24) (.c [.rd] (Z1b vv16) (.d [.ptr,.rd] (Z3 vv49 40) (.p vv56 (.r ((beX vv49 40).tdiv 39) (.r vv27 (.d [.ptr,.rd] (Z3 vv39 vv27) (.p vv63 (.w (.pulls (Yld vv29) [4]) (.p vv59 (.p (∀ (x0:List Cell),x0∈vv29.Ia.map Ykq->x0.length=4) vv19))))))))))))))))))) (.i (beX c (6:Int)=0) (.z Ylu N (.i (0<vv23) (.d [.ptr,.rd] (Z3 vv49 3) (.i (0<beX vv49 3) vv7 (.c [.rd] (Zx 1) (.c [.rd] (Zx 2) (.c [.rd] (Zx 7) (.c [.rd] vv64 (.c [.rd] (Z6t vv24) (.c [.rd] (Z1b vv16) (.d [.ptr,.rd] (Z3 vv20 40) (.p vv56 (.r ((beX vv20 40).tdiv 39) (.r vv31 (.d [.ptr,.rd] (Z3 vv45 vv31) (.p vv62 (.w (.pulls (Yld vv30) [4]) (.p vv60 (.p (∀ (x0:List Cell),x0∈vv30.Ia.map Ykq->x0.length=4) vv15))))))))))))))))) (.y false (.c [.rd] (Zx 1) (.c [.rd] (Zx 2) (.c [.rd] (Zx 7) (.c [.rd] vv64 (.c [.rd] (Z6t vv24) (.c [.rd] (Z1b vv16) (.d [.ptr,.rd] (Z3 vv49 40) (.p vv56 (.r ((beX vv49 40).tdiv 39) (.r vv27 (.d [.ptr,.rd] (Z3 vv39 vv27) (.p vv63 (.w (.pulls (Yld vv29) [4]) (.p vv59 (.p (∀ (x0:List Cell),x0∈vv29.Ia.map Ykq->x0.length=4) vv19)))))))))))))))))) (.c [] Zbk (.d vv53 (Z2b vv49 Ysu) (.c [] Zbl (.d vv53 (Z2b vv41 Ywh) (.d vv53 (Z2b vv17 vv37) (.d vv53 (Z2b vv61 vv35) (.w (.bool false) (.p (∀ (e0:List Cell),e0∈N.map Ylu->∀ (c0:Cell),c0∈e0->∃ v0,c0=Cell.lit v0) (.p (∀ (x0:List Cell),x0∈N.map Ylu->x0.length=1) (.p ((0+(N.map Ylu).length) * 16<=140737488355328) (.p (((N.map Ylu).length+1) * 16<=140737488355328) (.r (d - 1) (.d [.ptr,.rd,.rd] (Z19 (d - 1) (beC vv61 4) N) (.r (d - 2) (.w (.g (.lock 9)) (.u [.ptr,.rd,.rd] (Z19 (d - 2) vv26.2 vv34) (.p (Yn4 prog 24 [Ob.box [Aq vv26.2.b,vI (↑(Yo6 (d - 1) (beC vv61 4) N).2.i:Int),vI vv26.2.h]] [SV.one (AC.ptr 0 0),li (d - 2),ll (N.map Ylu++[[cS vv13]])] [Ob.box [Aq vv9.2.b,vI (↑(Yo6 (d - 2) vv26.2 vv34).2.i:Int),vI vv9.2.h],Ob.arr true 4 (vv9.1.Ia.map Ykq)] (AV.sv (SV.agg [vI vv9.1.Ka,vI vv9.1.Na,vS vv9.1.Ta,AC.ref 1]))) (.r (d - 2) (.d [.ptr,.rd,.rd] (Z19 (d - 2) vv9.2 N) (.c [.rd] (Z1b vv13) (.c [.rd] (Z1b vv11) (.c [.rd] (Z1b (mkS [122])) (.c [.rd] (Z1b vv10) (.d vv53 (Z2b vv25.2 vv12) (.c [.rd] (Z1b vv18) (.p ((0:Int)<=4) (.p (0<=4/\4<=vv38.data.toList.length) (.d [.rd,.rd] (Z8i vv28 vv46) (.i (Yop vv28 vv46<0) (.r (d - 2) (.d [.ptr,.rd,.rd] (Z19 (d - 2) vv54 N) (.p ((0:Int)<=1/\1<8) (.w (.cells (Yld vv9.1)) (.p (some (Yld vv9.1)=some (Yld vv9.1)) (.u [.rd,.rd,.rd] (Z8j vv14.toNat vv1) (.p (Yn4 prog 64 [] [ls vv38,ll vv22,ll [Yld vv26.1,Yld vv40.1,Yld vv25.1,vv52,vv51,vv48,vv50,vv5]] [Ob.arr true 4 (vv33.Ia.map Ykq)] (AV.sv (SV.agg [vI vv33.Ka,vI vv33.Na,vS vv33.Ta,AC.ref 0]))) (.f [22] [.box [Aq vv40.2.b,vI (↑(Yo6 (d - 2) vv54 N).2.i:Int),vI vv40.2.h],.Ah vv33.Ia] (.sv (.agg [vI vv33.Ka,vI vv33.Na,vS vv33.Ta,.ref 1])))))))))) (.u [.rd,.rd,.rd] (Z8j vv14.toNat vv2) (.p (Yn4 prog 64 [] [ls vv38,ll vv22,ll [Yld vv26.1,Yld vv9.1,Yld vv25.1,vv52,vv51,vv48,vv50,vv5]] [Ob.arr true 4 (vv32.Ia.map Ykq)] (AV.sv (SV.agg [vI vv32.Ka,vI vv32.Na,vS vv32.Ta,AC.ref 0]))) (.f [20] [.box [Aq vv54.b,vI (↑(beC vv25.2 3).i:Int),vI vv54.h],.Ah vv32.Ia] (.sv (.agg [vI vv32.Ka,vI vv32.Na,vS vv32.Ta,.ref 1]))))))))))))))))))))))))))))))))))))) (by
 dsimp only[Ykd,Z19]
 have ls:=Y21g
 have lp:=Y21i
 have t1:=Y1zm (beC c 6)
 have t2:=Y1zm (beC (beC c 6) 3)
 have u0:=Yri (beC c 6) (n:=28) dW
 have u1:=Yri (beC (beC c 6) 40) (n:=5+(beX (beC c 6) 40).tdiv 39) oW
 have u2:=Yri (beC (beC (beC c 6) 3) 40) (n:=5+(beX (beC (beC c 6) 3) 40).tdiv 39) oW
 have u3:=λa:0<(N.length:Int)=>Yri (beC (beC c 6) 3) (n:=(N.length:Int)) a
 have q1:okK (beC (beC (beC (beC (beC c 6) 28) 11) 4) 4):=Ylv (Ylv (Ylv (Ylv (Ylv h.1))))
 have q2:=Y12g (d:=d - 1) oW q1 N
 have q3:=Y12g (d:=d - 2) oW q2.1 (N++[Ywh.g (beX (beC (beC c 6) 28) 11).toNat])
 have q4:=Y12g (d:=d - 2) oW q3.1 N
 have r1:=Yzr (d:=d - 1) oW q1 N
 have r2:=Yzr (d:=d - 2) oW q2.1 (N++[Ywh.g (beX (beC (beC c 6) 28) 11).toNat])
 have r3:=Yzr (d:=d - 2) oW q3.1 N
 have r4:=Yzr (d:=d - 2) oW (Ylv (n:=3) q4.1) N
 have lN:Yop [mkS [40,108,101,116],mkS [40,108,111,99],mkS [40,40,108,97]] (mkS (List.take 4 (Ysu.g (beX (beC c 6) 28).toNat).data.toList))<0->Y184 (beX (beC c 6) 28).toNat=false:=λa=>bK (Int.not_le.2 a)
 have lY:¬ Yop [mkS [40,108,101,116],mkS [40,108,111,99],mkS [40,40,108,97]] (mkS (List.take 4 (Ysu.g (beX (beC c 6) 28).toNat).data.toList))<0->Y184 (beX (beC c 6) 28).toNat:=λa=>bM (Int.not_lt.1 a)
 with_reducible repeat' (first|apply ah|exact zR|exact ih|(intro)|apply Z6s|apply Z1b|apply Zx|apply Zbe|apply Z6t|apply Zbk|apply Zbl|apply Zc3|apply Z5c|apply Z9l)
 all_goals ((try simp only[std,inj]at *);with_reducible and_intros)
 all_goals try first|with_reducible (first|apply Z6s|apply Z1b|apply Zx|apply Zbe|apply Z6t|apply Zbk|apply Zbl|apply Zc3|apply Z5c|apply Z9l|apply ih)|(simp only[<- ar];with_reducible first|apply Z6s|apply Z1b|apply Zx|apply Zbe|apply Z6t|apply Zbk|apply Zbl|apply Zc3|apply Z5c|apply Z9l|apply ih)
 all_goals (try simp only[Y21g,Y21i]at *)
 all_goals first
  | exact cb|omega|exact h.1|exact Ylv h.1|exact Ylv (Ylv h.1)|exact Ylv (Ylv (Ylv h.1))|exact Ylv (Ylv (Ylv (Ylv h.1)))
  | exact(u3 aW).1|exact Yxj (by have:=u3 aW;omega) rfl|decide
  | exact(Y1lm _ oW).2.2|exact Y1wz oW
  | exact⟨q1,by omega,by omega,by omega⟩|exact⟨q3.1,by omega,by omega,by omega⟩|exact⟨Ylv q4.1,by omega,by omega,by omega⟩|exact q4.1|exact q3.1|exact q2.1
  | (rw[Y23m];exact ih (d - 2) ⟨by omega,by omega⟩ _ _ ⟨q2.1,by omega,by omega,by rw[ax];simp only[aE,bp];omega⟩)
  | (rw[Y1j6,Y1ha];exact Z9l _ _ ⟨by omega,Y1h7 r1 r4 r3 _ _ _ _ _⟩)|(rw[Y1j6,Y1ha];exact Z9l _ _ ⟨by omega,Y1h7 r1 r2 r3 _ _ _ _ _⟩)
  | (rw[Y1uh (.inl aW) aW aW];rfl)|(rw[Y1uh (.inr aW) aW aW];rfl)
  | (rw[Y1uz (.inl aW) aW aW];rfl)|(rw[Y1uz (.inr aW) aW aW];rfl)
  | (rw[Y1ud (.inl aW) aW];rfl)|(rw[Y1ud (.inr aW) aW];rfl)
  | (rw[Y170 (d:=d) (c:=c) (N:=N) aW aW,Y1o8 (lN aW)];rfl)|(rw[Y170 (d:=d) (c:=c) (N:=N) aW aW,Y1ir (lY aW)];rfl)
  | skip)
theorem Zir (d:Int) (c:Cr) (N:List ByteArray) (h:okK c /\ -2<=d/\d<=3/\N.length+2 * d<=100):Z19 d c N:=
 have key:∀ (n:Nat) (d:Int),-2<=d->(d+2).toNat<n->∀ (c:Cr) (N:List ByteArray) (h:okK c /\ -2<=d/\d<=3/\N.length+2 * d<=100),OK (Z19 d c N):=λn=>by
  induction n with
  | zero=>intro d _ hn;exact absurd hn (Nat.not_lt_zero _)
  | succ n ih=>
   intro d hd hn c N h
   exact Zjh d c N h λe he c N h=>ih e he.1 oW c N h
 key ((d+2).toNat+1) d h.2.1 (Nat.lt_succ_self _) c N h
abbrev Zau (b:List UInt8):Ct:=⟨7,[],[Ax b,li 3],[.Ah (Yo6 3 (Yxt b) []).1.Ia],.sv (Ytd (Yo6 3 (Yxt b) []).1 0)⟩
theorem Zf1 (b:List UInt8) (h:b.length<=1048576):Zau b:=Ykr call7 func7 (let v1:=Yo6 3 (Yxt b) [];.d [.rd] (Zas b) (.d [.ptr,.rd,.rd] (Z19 3 (Yxt b) []) (.f [3] [.Ah v1.1.Ia] (.sv (.agg [vI v1.1.Ka,vI v1.1.Na,vS v1.1.Ta,.ref 0]))))) (by
 dsimp only[Ykd,Zau]
 have g1:=Y1ie h
 exact z04)
end
section
set_option maxRecDepth 100000
def Y1bf:ByteArray:=mkS [40,100,101,102,105,110,101,45,115,121,110,116,97,120,32,108,101,116,32,40,115,121,110,116,97,120,45,114,117,108,101,115,32,40,41,32,40,40,95,32,40,40,120,32,101,41,32,46,46,46,41,32,98,32,46,46,46,41,32,40,40,108,97,109,98,100,97,32,40,120,32,46,46,46,41,32,98,32,46,46,46,41,32,101,32,46,46,46,41,41,41,41,10,40,100,101,102,105,110,101,45,115,121,110,116,97,120,32,108,101,116,42,32,40,115,121,110,116,97,120,45,114,117,108,101,115,32,40,41,32,40,40,95,32,40,41,32,98,32,46,46,46,41,32,40,108,101,116,32,40,41,32,98,32,46,46,46,41,41,32,40,40,95,32,40,97,32,109,32,46,46,46,41,32,98,32,46,46,46,41,32,40,108,101,116,32,40,97,41,32,40,108,101,116,42,32,40,109,32,46,46,46,41,32,98,32,46,46,46,41,41,41,41,41,10,40,100,101,102,105,110,101,45,115,121,110,116,97,120,32,108,101,116,114,101,99,32,40,115,121,110,116,97,120,45,114,117,108,101,115,32,40,41,32,40,40,95,32,40,40,120,32,101,41,32,46,46,46,41,32,98,32,46,46,46,41,32,40,108,101,116,32,40,41,32,40,100,101,102,105,110,101,32,120,32,101,41,32,46,46,46,32,40,108,101,116,32,40,41,32,98,32,46,46,46,41,41,41,41,41,10,40,100,101,102,105,110,101,45,115,121,110,116,97,120,32,97,110,100,32,40,115,121,110,116,97,120,45,114,117,108,101,115,32,40,41,32,40,40,95,41,32,35,116,41,32,40,40,95,32,101,41,32,101,41,32,40,40,95,32,101,32,109,32,46,46,46,41,32,40,105,102,32,101,32,40,97,110,100,32,109,32,46,46,46,41,32,35,102,41,41,41,41,10,40,100,101,102,105,110,101,45,115,121,110,116,97,120,32,111,114,32,40,115,121,110,116,97,120,45,114,117,108,101,115,32,40,41,32,40,40,95,41,32,35,102,41,32,40,40,95,32,101,41,32,101,41,32,40,40,95,32,101,32,109,32,46,46,46,41,32,40,108,101,116,32,40,40,116,32,101,41,41,32,40,105,102,32,116,32,116,32,40,111,114,32,109,32,46,46,46,41,41,41,41,41,41,10,40,100,101,102,105,110,101,45,115,121,110,116,97,120,32,119,104,101,110,32,40,115,121,110,116,97,120,45,114,117,108,101,115,32,40,41,32,40,40,95,32,99,32,101,32,46,46,46,41,32,40,105,102,32,99,32,40,98,101,103,105,110,32,101,32,46,46,46,41,32,35,102,41,41,41,41,10,40,100,101,102,105,110,101,45,115,121,110,116,97,120,32,99,111,110,100,32,40,115,121,110,116,97,120,45,114,117,108,101,115,32,40,101,108,115,101,41,32,40,40,95,41,32,35,102,41,32,40,40,95,32,40,101,108,115,101,32,101,32,46,46,46,41,41,32,40,98,101,103,105,110,32,101,32,46,46,46,41,41,32,40,40,95,32,40,99,32,101,32,46,46,46,41,32,109,32,46,46,46,41,32,40,105,102,32,99,32,40,98,101,103,105,110,32,101,32,46,46,46,41,32,40,99,111,110,100,32,109,32,46,46,46,41,41,41,41,41,10,40,100,101,102,105,110,101,45,115,121,110,116,97,120,32,119,104,105,108,101,32,40,115,121,110,116,97,120,45,114,117,108,101,115,32,40,41,32,40,40,95,32,99,32,98,32,46,46,46,41,32,40,108,101,116,32,40,41,32,40,100,101,102,105,110,101,32,40,108,111,111,112,41,32,40,105,102,32,99,32,40,98,101,103,105,110,32,98,32,46,46,46,32,40,108,111,111,112,41,41,32,35,102,41,41,32,40,108,111,111,112,41,41,41,41,41,10,40,100,101,102,105,110,101,45,115,121,110,116,97,120,32,115,119,97,112,33,32,40,115,121,110,116,97,120,45,114,117,108,101,115,32,40,41,32,40,40,95,32,97,32,98,41,32,40,108,101,116,32,40,40,116,109,112,32,97,41,41,32,40,115,101,116,33,32,97,32,98,41,32,40,115,101,116,33,32,98,32,116,109,112,41,41,41,41,41,10]
abbrev Zcy:Ct:=⟨20,[],[],[],.sv (ls Y1bf)⟩
theorem Zjw:Zcy:=Ykr call20 func20 (.s (ls (mkS [40,100,101,102,105,110,101,45,115,121,110,116,97,120,32,108,101,116,32,40,115,121,110,116,97,120,45,114,117,108,101,115,32,40,41,32,40,40,95,32,40,40,120,32,101,41,32,46,46,46,41,32,98,32,46,46,46,41,32,40,40,108,97,109,98,100,97,32,40,120,32,46,46,46,41,32,98,32,46,46,46,41,32,101,32,46,46,46,41,41,41,41,10,40,100,101,102,105,110,101,45,115,121,110,116,97,120,32,108,101,116,42,32,40,115,121,110,116,97,120,45,114,117,108,101,115,32,40,41,32,40,40,95,32,40,41,32,98,32,46,46,46,41,32,40,108,101,116,32,40,41,32,98,32,46,46,46,41,41,32,40,40,95,32,40,97,32,109,32,46,46,46,41,32,98,32,46,46,46,41,32,40,108,101,116,32,40,97,41,32,40,108,101,116,42,32,40,109,32,46,46,46,41,32,98,32,46,46,46,41,41,41,41,41,10,40,100,101,102,105,110,101,45,115,121,110,116,97,120,32,108,101,116,114,101,99,32,40,115,121,110,116,97,120,45,114,117,108,101,115,32,40,41,32,40,40,95,32,40,40,120,32,101,41,32,46,46,46,41,32,98,32,46,46,46,41,32,40,108,101,116,32,40,41,32,40,100,101,102,105,110,101,32,120,32,101,41,32,46,46,46,32,40,108,101,116,32,40,41,32,98,32,46,46,46,41,41,41,41,41,10,40,100,101,102,105,110,101,45,115,121,110,116,97,120,32,97,110,100,32,40,115,121,110,116,97,120,45,114,117,108,101,115,32,40,41,32,40,40,95,41,32,35,116,41,32,40,40,95,32,101,41,32,101,41,32,40,40,95,32,101,32,109,32,46,46,46,41,32,40,105,102,32,101,32,40,97,110,100,32,109,32,46,46,46,41,32,35,102,41,41,41,41,10,40,100,101,102,105,110,101,45,115,121,110,116,97,120,32,111,114,32,40,115,121,110,116,97,120,45,114,117,108,101,115,32,40,41,32,40,40,95,41,32,35,102,41,32,40,40,95,32,101,41,32,101,41,32,40,40,95,32,101,32,109,32,46,46,46,41,32,40,108,101,116,32,40,40,116,32,101,41,41,32,40,105,102,32,116,32,116,32,40,111,114,32,109,32,46,46,46,41,41,41,41,41,41,10,40,100,101,102,105,110,101,45,115,121,110,116,97,120,32,119,104,101,110,32,40,115,121,110,116,97,120,45,114,117,108,101,115,32,40,41,32,40,40,95,32,99,32,101,32,46,46,46,41,32,40,105,102,32,99,32,40,98,101,103,105,110,32,101,32,46,46,46,41,32,35,102,41,41,41,41,10,40,100,101,102,105,110,101,45,115,121,110,116,97,120,32,99,111,110,100,32,40,115,121,110,116,97,120,45,114,117,108,101,115,32,40,101,108,115,101,41,32,40,40,95,41,32,35,102,41,32,40,40,95,32,40,101,108,115,101,32,101,32,46,46,46,41,41,32,40,98,101,103,105,110,32,101,32,46,46,46,41,41,32,40,40,95,32,40,99,32,101,32,46,46,46,41,32,109,32,46,46,46,41,32,40,105,102,32,99,32,40,98,101,103,105,110,32,101,32,46,46,46,41,32,40,99,111,110,100,32,109,32,46,46,46,41,41,41,41,41,10,40,100,101,102,105,110,101,45,115,121,110,116,97,120,32,119,104,105,108,101,32,40,115,121,110,116,97,120,45,114,117,108,101,115,32,40,41,32,40,40,95,32,99,32,98,32,46,46,46,41,32,40,108,101,116,32,40,41,32,40,100,101,102,105,110,101,32,40,108,111,111,112,41,32,40,105,102,32,99,32,40,98,101,103,105,110,32,98,32,46,46,46,32,40,108,111,111,112,41,41,32,35,102,41,41,32,40,108,111,111,112,41,41,41,41,41,10,40,100,101,102,105,110,101,45,115,121,110,116,97,120,32,115,119,97,112,33,32,40,115,121,110,116,97,120,45,114,117,108,101,115,32,40,41,32,40,40,95,32,97,32,98,41,32,40,108,101,116,32,40,40,116,109,112,32,97,41,41,32,40,115,101,116,33,32,97,32,98,41,32,40,115,101,116,33,32,98,32,116,109,112,41,41,41,41,41,10]))) (by
 dsimp only[Ykd,Zcy]
 exact z03)
end
def lD (l:List Yd):Yd:=⟨0,0,mkS [],l⟩
def bD (n:Int):Yd:=⟨3,n,mkS [],[]⟩
def sD (l:List UInt8):Yd:=⟨1,0,mkS l,[]⟩
def bw0:Yd:=sD [100,101,102,105,110,101,45,115,121,110,116,97,120]
def bw1:Yd:=sD [108,101,116]
def bw2:Yd:=sD [115,121,110,116,97,120,45,114,117,108,101,115]
def bw3:Yd:=sD [95]
def bw4:Yd:=sD [120]
def bw5:Yd:=sD [101]
def bw6:Yd:=sD [46,46,46]
def bw7:Yd:=sD [98]
def bw8:Yd:=sD [108,97,109,98,100,97]
def bw9:Yd:=sD [108,101,116,42]
def Y1d2:Yd:=sD [97]
def Y111:Yd:=sD [109]
def Y24s:Yd:=sD [108,101,116,114,101,99]
def Y1y8:Yd:=sD [100,101,102,105,110,101]
def Y20j:Yd:=sD [97,110,100]
def Y1dc:Yd:=sD [105,102]
def Y207:Yd:=sD [111,114]
def Y1ti:Yd:=sD [116]
def Y255:Yd:=sD [119,104,101,110]
def Y18j:Yd:=sD [99]
def Y1l9:Yd:=sD [98,101,103,105,110]
def Y1yo:Yd:=sD [99,111,110,100]
def Y21q:Yd:=sD [101,108,115,101]
def Y24z:Yd:=sD [119,104,105,108,101]
def Y1s3:Yd:=sD [108,111,111,112]
def Y24b:Yd:=sD [115,119,97,112,33]
def Y1zl:Yd:=sD [116,109,112]
def Y205:Yd:=sD [115,101,116,33]
def Yod:List Yd:=
 [lD [bw0,bw1,lD [bw2,lD [],lD [lD [bw3,lD [lD [bw4,bw5],bw6],bw7,bw6],lD [lD [bw8,lD [bw4,bw6],bw7,bw6],bw5,bw6]]]],lD [bw0,bw9,lD [bw2,lD [],lD [lD [bw3,lD [],bw7,bw6],lD [bw1,lD [],bw7,bw6]],lD [lD [bw3,lD [Y1d2,Y111,bw6],bw7,bw6],lD [bw1,lD [Y1d2],lD [bw9,lD [Y111,bw6],bw7,bw6]]]]],lD [bw0,Y24s,lD [bw2,lD [],lD [lD [bw3,lD [lD [bw4,bw5],bw6],bw7,bw6],lD [bw1,lD [],lD [Y1y8,bw4,bw5],bw6,lD [bw1,lD [],bw7,bw6]]]]],lD [bw0,Y20j,lD [bw2,lD [],lD [lD [bw3],bD 1],lD [lD [bw3,bw5],bw5],lD [lD [bw3,bw5,Y111,bw6],lD [Y1dc,bw5,lD [Y20j,Y111,bw6],bD 0]]]],lD [bw0,Y207,lD [bw2,lD [],lD [lD [bw3],bD 0],lD [lD [bw3,bw5],bw5],lD [lD [bw3,bw5,Y111,bw6],lD [bw1,lD [lD [Y1ti,bw5]],lD [Y1dc,Y1ti,Y1ti,lD [Y207,Y111,bw6]]]]]],lD [bw0,Y255,lD [bw2,lD [],lD [lD [bw3,Y18j,bw5,bw6],lD [Y1dc,Y18j,lD [Y1l9,bw5,bw6],bD 0]]]],lD [bw0,Y1yo,lD [bw2,lD [Y21q],lD [lD [bw3],bD 0],lD [lD [bw3,lD [Y21q,bw5,bw6]],lD [Y1l9,bw5,bw6]],lD [lD [bw3,lD [Y18j,bw5,bw6],Y111,bw6],lD [Y1dc,Y18j,lD [Y1l9,bw5,bw6],lD [Y1yo,Y111,bw6]]]]],lD [bw0,Y24z,lD [bw2,lD [],lD [lD [bw3,Y18j,bw7,bw6],lD [bw1,lD [],lD [Y1y8,lD [Y1s3],lD [Y1dc,Y18j,lD [Y1l9,bw7,bw6,lD [Y1s3]],bD 0]],lD [Y1s3]]]]],lD [bw0,Y24b,lD [bw2,lD [],lD [lD [bw3,Y1d2,bw7],lD [bw1,lD [lD [Y1zl,Y1d2]],lD [Y205,Y1d2,bw7],lD [Y205,bw7,Y1zl]]]]]]
theorem Y1zz:Yw9 Yod Y1bf:=by decide +kernel
section
abbrev Z9m (L:List YB) (b:YB):Ct:=⟨156,[.Ac L],[.r 0,Yw1 b],[.dead,.Ac (Y1ls L b)],.tup [.r 1,lb (!(decide (1000<=(L.length:Int))||Ymo L b.Ta b.Sa))]⟩
theorem Zga (L:List YB) (b:YB) (h:L.length<=1000000001/\sumBy wB L<=1000000001/\wB b<=1000000001):Z9m L b:=Ykr call156 func156 (let v1:Tq _ _:=.w (.m 0) (.f [2] [.dead,.Ac L] (.tup [.r 1,lb false]));.z Ykc L (.i (1000<=((L.map Ykc).length:Int)) (.y true v1) (.c [.rd,.rd] (Ze5 L b) (.b (Ymo L b.Ta b.Sa) v1 (.w (.draw [(5,[2,13])]) (.d [.rd] (Z3z L) (.d [.rd] (Z3z [b]) (.p (((L.map Ykc).length+1) * 56<=140737488355328) (.w (.m 0) (.f [21] [.dead,.y 4 (L.map Ykc++[Yl6 b])] (.tup [.r 1,lb true]))))))))))) (by
 dsimp only[Ykd,Z9m]
 have g:sumBy wB [b]=wB b:=rfl
 have g2:[b].length=1:=rfl
 have g3:=@Y1i5 L b
 have g4:=@Y1do L b
 exact z0a)
end
section
abbrev stT (M:List YR_) (sc va st z c:Int):List Ob:=[.box [.top,.ref 1,vI sc,vI va,vI st,vI z,vI c],.arr true 3 (M.map Ykn)]
abbrev Zbm (M:List YR_) (sc:Int) (va:Int) (st:Int) (z:Int) (c:Int) (e:Int):Ct:=⟨48,stT M sc va st z c,[.y 0,li e],stT M sc va st z (cdF c e),.sv (.agg [vI 0,vI 0,.val (.y),vI 0,vI 0,vS (mkS []),.val (.y),.val (.y)])⟩
theorem Zji (M:List YR_) (sc va st z c e:Int):Zbm M sc va st z c e:=Ykr call48 func48 (let v2:Cell:=.y;let v1:AV:=.sv (.agg [vI 0,vI 0,.val v2,vI 0,vI 0,vS (mkS []),.val v2,.val v2]);.i (c=0) (.f [] [.box [.top,.ref 1,vI sc,vI va,vI st,vI z,vI e],.Ad M] v1) (.f [] [.box [.top,.ref 1,vI sc,vI va,vI st,vI z,vI c],.Ad M] v1)) (by
 dsimp only[Ykd,Zbm]
 exact z0x)
abbrev Z8k (x:YE) (z:Int) (c:Int) (id:YS_) (Ka:Int) (n:Int):Ct:=⟨106,stO x z c,[.y 0,Ykx id,li Ka,li n],[.box [.ref 3,.ref 2,vI x.Sb,vI x.Va,vI x.Sc,vI z,vI (if bdE x id.Ta id.Sa=0 then c else cdF c (bdE x id.Ta id.Sa))],.dead,.Ad x.Ma,.Ac (bdL x id Ka n)],.tup []⟩
theorem Zav (x:YE) (z c:Int) (id:YS_) (Ka n:Int) (h:x.Ba.length<=1000000000/\sumBy wB x.Ba<=1000000000/\wY id<=1000000000):Z8k x z c id Ka n:=Ykr call106 func106 (let v1:=YB.mk id.Ta id.Sa Ka n;let v2:=x.Ma.map Ykn;let v3:=(Y1ls x.Ba v1).map Ykc;.w (.draw []) (.c [.rd,.rd] (Ze5 x.Ba v1) (.b (Ymo x.Ba id.Ta id.Sa) (.c [.ptr,.rd] (Z9y x z c 4) (.w (.m 1) (.f [5] [.box [.ref 3,.ref 2,vI x.Sb,vI x.Va,vI x.Sc,vI z,vI (cdF c 4)],.dead,.y 3 v2,.Ac x.Ba] (.tup [])))) (.w (.draw [(6,[1])]) (.d [.own true 4,.rd] (Z9m x.Ba v1) (.b (!!(decide (1000<=(x.Ba.length:Int))||Ymo x.Ba id.Ta id.Sa)) (.w (.g (.blank 0 0)) (.c [.ptr,.rd] (Zji x.Ma x.Sb x.Va x.Sc z c 8) (.f [10] [.box [.ref 3,.ref 2,vI x.Sb,vI x.Va,vI x.Sc,vI z,vI (cdF c 8)],.dead,.y 3 v2,.y 4 v3] (.tup [])))) (.f [10] [.box [.ref 3,.ref 2,vI x.Sb,vI x.Va,vI x.Sc,vI z,vI c],.dead,.y 3 v2,.y 4 v3] (.tup [])))))))) (by
 dsimp only[Ykd,Z8k]
 have g1:=Y12h x
 have g2:=Ylo id
 have g3:wB ⟨id.Ta,id.Sa,Ka,n⟩=id.Ta.size+id.Sa.length:=rfl
 have g4:=@Y1i5 x.Ba ⟨id.Ta,id.Sa,Ka,n⟩
 have g5:=@Y1do x.Ba ⟨id.Ta,id.Sa,Ka,n⟩
 with_reducible repeat' (first|apply ah|exact zR|(intro)|apply Zga)
 all_goals ((try simp only[std,inj]at *);with_reducible and_intros)
 all_goals try with_reducible first|apply Zga
 all_goals try first|exact z|grind[bdE,bdL,Ykl,Ykm,Ykf])
abbrev Z9n (x:YE) (z:Int) (c:Int) (id:YS_) (r:YR_):Ct:=⟨50,[.box [.ref 1,.ref 2,vI x.Sb,vI x.Va,vI x.Sc,vI z,vI c],.Ac x.Ba,.Ad x.Ma,.Ae r.La,.Ae r.Pb,.Ae r.Tb],[.y 0,Ykx id,.agg [.ref 3,.ref 4,.ref 5]],[.box [.ref 6,.ref 7,vI x.Sb,vI x.Va,vI x.Sc,vI z,vI (if bmE x id=0 then c else cdF c (bmE x id))],.dead,.dead,.dead,.dead,.dead,.Ac (if 200<=(x.Ma.length:Int) then x.Ba else bdL x id 4 (x.Ma.length:Int)),.Ad (bmL x r)],.tup []⟩
theorem Zc4 (x:YE) (z c:Int) (id:YS_) (r:YR_) (h:x.Ba.length<=1000000000/\sumBy wB x.Ba<=1000000000/\wY id<=1000000000):Z9n x z c id r:=Ykr call50 func50 (let v1:=((x.Ma.map Ykn).length:Int);.z Ykn x.Ma (.i (200<=v1) (.c [.ptr,.rd] (Z9y x z c 8) (.w (.m 1) (.w (.m 2) (.w (.m 3) (.w (.m 4) (.w (.m 5) (.f [8,9] [.box [.ref 6,.ref 7,vI x.Sb,vI x.Va,vI x.Sc,vI z,vI (cdF c 8)],.dead,.dead,.dead,.dead,.dead,.Ac x.Ba,.Ad x.Ma] (.tup [])))))))) (.w (.draw [(8,[0,1,2])]) (.d [.ptr,.rd,.rd,.rd] (Z8k x z c id 4 v1) (.z Ykn x.Ma (.w (.draw [(7,[3,4,5]),(8,[2,20]),(12,[0])]) (.p (((x.Ma.map Ykn).length+1) * 72<=140737488355328) (.f [15,21] [.box [.ref 6,.ref 7,vI x.Sb,vI x.Va,vI x.Sc,vI z,vI (if bdE x id.Ta id.Sa=0 then c else cdF c (bdE x id.Ta id.Sa))],.dead,.dead,.dead,.dead,.dead,.Ac (bdL x id 4 v1),.y 3 (x.Ma.map Ykn++[Ynw r])] (.tup []))))))))) (by
 dsimp only[Ykd,Z9n]
 have g1:=Y12h x
 have g2:bmE x id=if 200<=(x.Ma.length:Int) then 8 else bdE x id.Ta id.Sa:=rfl
 exact z14)
end
section
mutual
def Ynb:Yd->YS_
 | ⟨k,n,t,l⟩=>⟨k,n,t,[],Y15y l⟩
def Y15y:List Yd->List YS_
 | []=>[]
 | x :: r=>Ynb x :: Y15y r
end
theorem Y1fx:∀ l,Y15y l=l.map Ynb
 | []=>by simp[Y15y]
 | x :: r=>by rw[Y15y,Y1fx r];rfl
theorem Yyd (d:Yd):Ynb d=⟨d.Ka,d.Na,d.Ta,[],d.Ia.map Ynb⟩:=by cases d;simp only[Ynb,Y1fx]
abbrev Z2n (d:Yd):Ct:=⟨22,[],[Yq3 d],Yo8 (Ynb d),.sv (Yo7 (Ynb d) 0)⟩
def Z63 (d:Yd):Lp Nat:=let v1:Cell:=.y;let v2:=[vI 0,vI 0,vS (mkS []),.val v1,.val v1];let v3:=[vI d.Ka,vI d.Na,vS d.Ta,.val v1,.ref 2];.mk 29 0 (λx=>[(2,.y 0),(3,.y 1),(14,Ap d.Ia),(15,li (d.Ia.map Ykq).length),(16,hs x 0)]) (λx=>[.box v2,.box v3,ho x 1]) (λk=>[.s (li k),.o (.Ae ((d.Ia.take k).map Ynb))]) (λk=>k<=d.Ia.length/\d.Ia.length<=9223372036854775807) (λk=>d.Ia.length - k) [.mk True (.exit 0) (λx=>[(2,.y 0),(3,.y 1)]) (λx=>[.box v2,.box v3,ho x 0]) [.o (.Ae (d.Ia.map Ynb))]]
theorem Zh6 (d:Yd) (h:wD d<=1000000000) (ih:∀ (z:Yd),z∈d.Ia->wD z<=1000000000->OK (Z2n z)):Lp.Sem prog (Yks f22 0) (Z63 d):=Yl0 (λk=>let v1:=(d.Ia.take k).map Ynb;let v2:=d.Ia.g k;.i ((k:Int)<(d.Ia.map Ykq).length) (.x (k:Int) (d.Ia.map Ykq) (Yld v2) (.w (.draw [(4,[8,9]),(5,[2,16]),(7,[1])]) (.d [.rd] (Z2n v2) (.p (((v1.map Ykb).length+1) * 80<=140737488355328) (.r ((k:Int)+1) (.g [0,1,17] (k+1) [.s (li ((k:Int)+1)),.o (.y 5 (v1.map Ykb++[Yki (Ynb v2)]))])))))) (.o 0 [0,1,2] [.o (.Ae v1)])) (by
 intro k h;try dsimp only[Ykd,Yko,Z63]at h|-
 have g1:=Yuh d
 have g2:=@Yl3 _ wD d.Ia (d.Ia.g k)
 exact z05)
theorem Zjx (d:Yd) (h:wD d<=1000000000) (ih:∀ z∈d.Ia,∀ (h:wD z<=1000000000),Z2n z):Z2n d:=Ykr call22 func22 (.z Ykq d.Ia (.w (.g (.nilbox 2 4 true 5)) (.l (Z63 d) (Zh6 d h ih) [1,2,3] [.s (li 0),.o (.y 5 [])] 0 (.t (.w (.g (.nilbox 0 3 true 1)) (.f [3,2] [.y 1 [],.Ae (d.Ia.map Ynb)] (.sv (.agg [vI d.Ka,vI d.Na,vS d.Ta,.ref 0,.ref 1])))) .q)))) (by
 dsimp only[Ykd,Z2n,Yko,Z63]
 have g1:=Yuh d
 have g2:=Yyd d
 exact z02)
theorem Z8l (d:Yd):∀ (h:wD d<=1000000000),Z2n d:=Yd.ind (P:=λd=>∀ (h:wD d<=1000000000),Z2n d) (λd ih h=>Zjx d h ih) d
abbrev Zaw (L:List Int):Ct:=⟨110,[],[Ag L],[.y 1 []],.sv (.r 0)⟩
def Z7q (L:List Int):Lp Nat:=.mk 22 0 (λx=>[(3,.r 0),(7,Ag L),(8,li (L.map Yke).length),(9,hs x 0)]) (λx=>[ho x 1]) (λk=>[.s (li k),.o (.y 1 [])]) (λk=>k<=L.length/\L.length<=9223372036854775807/\L.length=0) (λk=>L.length - k) [.mk True (.exit 0) (λx=>[(3,.r 0)]) (λx=>[ho x 0]) [.o (.y 1 [])]]
theorem Zis (L:List Int) (h:L.length=0):Lp.Sem prog (Yks f110 0) (Z7q L):=Yl0 (λk=>let v1:=(k:Int)+1;.i ((k:Int)<(L.map Yke).length) (.x (k:Int) (L.map Yke) [cI (L.getD k 0)] (.c [.rd] (Zft (L.getD k 0)) (.i (Yna (L.getD k 0)≠3) (.p (8<=140737488355328) (.r v1 (.g [2] (k+1) [.s (li v1),.o (.y 1 [[cI (L.getD k 0)]])]))) (.r v1 (.g [0] (k+1) [.s (li v1),.o (.y 1 [])]))))) (.o 0 [0] [.o (.y 1 [])])) (by
 intro k h;try dsimp only[Ykd,Yko,Z7q]at h|-
 exact zV)
theorem Z9o (L:List Int) (h:L.length=0):Zaw L:=Ykr call110 func110 (.w (.bool false) (.z Yke L (.l (Z7q L) (Zis L h) [0] [.s (li 0),.o (.y 1 [])] 0 (.t (.f [0] [.y 1 []] (.sv (.r 0))) .q)))) (by
 dsimp only[Ykd,Zaw,Yko,Z7q]
 exact zV)
abbrev Zcz (s:YS_) (m n:Int):Ct:=⟨51,[],[Ykx s,li m,li n],Yo8 s,.sv (Yo7 s 0)⟩
theorem Z7z (s:YS_) (m n:Int) (h:n<n):OK (Zcz s m n):=absurd h (Int.lt_irrefl n)
abbrev Z9p (s:YS_):Ct:=⟨51,[],[Ykx s,li 3,li 0],Yo8 s,.sv (Yo7 s 0)⟩
def Z4b (s:YS_):Lp Nat:=let v4:Cell:=.y;let v1:=[vI 0,vI 0,vS (mkS []),.val v4,.val v4];let v2:=[vI s.Ka,vI s.Na,vS s.Ta,.ref 2,.ref 3];let v3:Ob:=.Aa s.Sa;.mk 62 0 (λx=>[(1,li 3),(2,li 0),(6,.y 0),(7,.y 1),(45,Af s.Ia),(46,li (s.Ia.map Ykb).length),(47,hs x 0)]) (λx=>[.box v1,.box v2,ho x 2,ho x 1]) (λk=>[.s (li k),.o (.Ae (s.Ia.take k)),.o v3]) (λk=>k<=s.Ia.length/\s.Ia.length<=9223372036854775807/\s.Ia.length=0) (λk=>s.Ia.length - k) [.mk True (.exit 1) (λx=>[(6,.y 0),(7,.y 1)]) (λx=>[.box v1,.box v2,ho x 1,ho x 0]) [.o (.Ae s.Ia),.o v3]]
theorem Zbn (s:YS_) (h:s.Ka=1/\s.Sa.length=0/\s.Ia.length=0):Lp.Sem prog (Yks f51 0) (Z4b s):=Yl0 (λk=>let v1:=s.Ia.g k;let v2:Ob:=.Aa s.Sa;let v3:=(s.Ia.take k).map Ykb;.i ((k:Int)<(s.Ia.map Ykb).length) (.x (k:Int) (s.Ia.map Ykb) (Yki v1) (.w (.draw [(6,[9,10]),(7,[3,17]),(9,[1])]) (.d [.rd,.rd,.rd] (Zcz v1 3 0) (.p ((v3.length+1) * 80<=140737488355328) (.r ((k:Int)+1) (.g [0,1,2,18] (k+1) [.s (li ((k:Int)+1)),.o (.y 5 ((s.Ia.take k).map Ykb++[Yki v1])),.o v2])))))) (.o 0 [0,1,2,3] [.o (.y 5 v3),.o v2])) (by
 intro k h;try dsimp only[Ykd,Yko,Z4b]at h|-
 exact z06)
theorem Zc5 (s:YS_) (h:s.Ka=1/\s.Sa.length=0/\s.Ia.length=0):Z9p s:=Ykr call51 func51 (let v1:Tq _ _:=.t (.f [2,3] [.Aa s.Sa,.Ae s.Ia] (.sv (.agg [vI s.Ka,vI s.Na,vS s.Ta,.ref 0,.ref 1]))) .q;.w (.draw [(11,[18])]) (.d [.rd] (Z57 s.Sa) (.i (s.Ka=1) (.y false (.y false (.y true (.d [.rd] (Zaw s.Sa) (.z Ykb s.Ia (.w (.g (.nilbox 18 4 true 5)) (.l (Z4b s) (Zbn s h) [1,18,19,20] [.s (li 0),.o (.y 5 []),.o (.y 1 [])] 0 v1))))))) (.z Ykb s.Ia (.w (.g (.nilbox 18 4 true 5)) (.l (Z4b s) (Zbn s h) [1,18,10,19] [.s (li 0),.o (.y 5 []),.o (.Aa s.Sa)] 0 v1)))))) (by
 dsimp only[Ykd,Z9p,Yko,Z4b]
 have g1:s.Sa.length=0->s.Sa=[]:=List.length_eq_zero_iff.1
 have g2:s.Ia.length=0->s.Ia=[]:=List.length_eq_zero_iff.1
 exact z00)
theorem Y1ea {d:Yd}{j:Nat}(h:j<d.Ia.length):(Ynb d).Ia.g j=Ynb (d.Ia.g j):=by
 rw[Yyd];simp[aq,h]
def idB (d:Yd):YS_:=(Ynb d).Ia.g 1
def ruB (d:Yd):YS_:=(Ynb d).Ia.g 2
def Y1t8 (x:YE) (d:Yd):YE:=⟨x.Ba++[⟨(idB d).Ta,(idB d).Sa,4,(x.Ma.length:Int)⟩],x.Ma++[Ylb (ruB d)],x.Sb,x.Va,x.Sc⟩
def baX:Nat->YE
 | 0=>⟨Ync,[],0,0,200⟩
 | k+1=>Y1t8 (baX k) (Yod.g k)
def Y1s6 (x:YE) (d:Yd):Bool:=
 decide (wD d<=1048576)&&decide (wX x<=1048576)&&decide (wY (Ynb d)<=1048576)&&decide (d.Ia.length=3)&&decide ((idB d).Ka=1)&&decide ((idB d).Sa.length=0)&&decide ((idB d).Ia.length=0)&&decide (wY (idB d)<=1048576)&&decide (wY (ruB d)<=1048576)&&decide (wR (Ylb (ruB d))<=1048576)&&Ym5 x.Ba (ruB d)&&decide (bmE x (idB d)=0)
theorem Y1y7:∀ k,k<9->Y1s6 (baX k) (Yod.g k):=by decide +kernel
def baQ (k:Nat):YE:=if System.Platform.numBits=64 then baX k else baX k
theorem Y10m:baQ=baX:=by funext k;unfold baQ;split<;>rfl
theorem Y1qy:baQ 0=⟨Ync,[],0,0,200⟩:=by rw[Y10m];rfl
theorem Y1qa (k:Nat):baQ (k+1)=Y1t8 (baQ k) (Yod.g k):=by rw[Y10m];rfl
theorem Y1sv {k:Nat}(h:k<9):wD (Yod.g k)<=1048576/\wX (baQ k)<=1048576/\wY (Ynb (Yod.g k))<=1048576/\(Yod.g k).Ia.length=3/\(idB (Yod.g k)).Ka=1/\(idB (Yod.g k)).Sa.length=0/\(idB (Yod.g k)).Ia.length=0 /\
  wY (idB (Yod.g k))<=1048576/\wY (ruB (Yod.g k))<=1048576/\wR (Ylb (ruB (Yod.g k)))<=1048576/\Ym5 (baQ k).Ba (ruB (Yod.g k))/\bmE (baQ k) (idB (Yod.g k))=0 /\
  (baQ k).Ba.length<=1048577/\sumBy wB (baQ k).Ba<=1048577/\Ynb ((Yod.g k).Ia.g 1)=idB (Yod.g k)/\Ynb ((Yod.g k).Ia.g 2)=ruB (Yod.g k)/\(Ynb (Yod.g k)).Ia.length=3:=by
 have h1:Y1s6 (baQ k) (Yod.g k):=by rw[Y10m];exact Y1y7 k h
 simp only[Y1s6,af,ak]at h1
 obtain⟨⟨⟨⟨⟨⟨⟨⟨⟨⟨⟨a,b⟩,c⟩,d⟩,e⟩,f⟩,g⟩,i⟩,j⟩,l⟩,m⟩,n⟩:=h1
 have hx:=Y12h (baQ k)
 refine⟨a,b,c,d,e,f,g,i,j,l,m,n,by omega,by omega,(Y1ea oW).symm,(Y1ea oW).symm,?_⟩
 rw[Yyd];simpa using d
theorem Y1nt:Yod.length=9:=rfl
abbrev Zit:Ct:=⟨19,[],[ls Y1bf],[.Ah Yod],.tup [.r 0,lb true]⟩
theorem Z6b:OK Zit:=Zew Yod Y1bf Y1zz
abbrev Z9q (x:YE) (z:Int) (c:Int) (s:YS_):Ct:=⟨21,stO x z c,[.y 0,Ykx s],[.box [.ref 3,.ref 4,vI x.Sb,vI x.Va,vI x.Sc,vI z,vI c],.dead,.dead,.Ac (x.Ba++[(⟨(s.Ia.g 1).Ta,(s.Ia.g 1).Sa,4,(x.Ma.length:Int)⟩:YB)]),.Ad (x.Ma++[Ylb (s.Ia.g 2)])],.tup []⟩
theorem Z80 (x:YE) (z c:Int) (s:YS_) (h:wX x<=1048576/\wY s<=1048576/\s.Ia.length=3/\(s.Ia.g 1).Ka=1/\(s.Ia.g 1).Sa.length=0/\(s.Ia.g 1).Ia.length=0/\Ym5 x.Ba (s.Ia.g 2)/\bmE x (s.Ia.g 1)=0):Z9q x z c s:=Ykr call21 func21 (let v1:List Ob:=[.box [.ref 3,.ref 4,vI x.Sb,vI x.Va,vI x.Sc,vI z,vI (cdF c 1)],.dead,.dead,.Ac x.Ba,.Ad x.Ma];let v2:=s.Ia.g 1;let v3:=s.Ia.g 2;let v4:=s.Ia.map Ykb;let v5:Tq _ _:=.c [.ptr,.rd] (Z9y x z c 1) (.w (.m 1) (.w (.m 2) (.f [4,5] v1 (.tup []))));let v6:=(0:Int)<=1/\v4[1]? = some (Yki v2);.z Ykb s.Ia (.i (((s.Ia.map Ykb).length:Int)≠3) (.y true v5) (.w (.cells (Yki v2)) (.p v6 (.i (v2.Ka≠1) v5 (.w (.draw [(14,[18])]) (.w (.cells (Yki v3)) (.p ((0:Int)<=2/\v4[2]? = some (Yki v3)) (.d [.rd,.rd] (Z7t x.Ba v3) (.b (!Ym5 x.Ba v3) (.c [.ptr,.rd] (Z9y x z c 1) (.w (.m 1) (.w (.m 2) (.f [19,20] v1 (.tup []))))) (.w (.draw [(7,[0,1,2,10,11,12])]) (.w (.cells (Yki v2)) (.p v6 (.d [.rd,.rd,.rd] (Z9p v2) (.d [.ptr,.rd,.agg [some (true,5),some (true,5),some (true,5)]] (Z9n x z c v2 (Ymw x.Ba v3)) (.f [39,40] [.box [.ref 3,.ref 4,vI x.Sb,vI x.Va,vI x.Sc,vI z,vI (if bmE x v2=0 then c else cdF c (bmE x v2))],.dead,.dead,.Ac (if 200<=(x.Ma.length:Int) then x.Ba else bdL x v2 4 (x.Ma.length:Int)),.Ad (bmL x (Ymw x.Ba v3))] (.tup []))))))))))))))))) (by
 dsimp only[Ykd,Z9q]
 have g1:=Y12h x
 have e2:∀ j,j<s.Ia.length->wY (s.Ia.g j)<=wY s:=λj hj=>by have:=@Yl3 _ wY s.Ia _ (Ykg hj);have:=Ylo s;omega
 have g2:bmE x (s.Ia.g 1)=if 200<=(x.Ma.length:Int) then 8 else bdE x (s.Ia.g 1).Ta (s.Ia.g 1).Sa:=rfl
 have g3:=@Y1xz x (s.Ia.g 1) 4 (x.Ma.length:Int)
 have g5:(s.Ia.map Ykb)[1]? = some (Yki (s.Ia.g 1)):=Y1al (by have:=h.2.2.1;omega)
 have g6:(s.Ia.map Ykb)[2]? = some (Yki (s.Ia.g 2)):=Y1al (by have:=h.2.2.1;omega)
 have g4:Ym5 x.Ba (s.Ia.g 2)->Ymw x.Ba (s.Ia.g 2)=Ylb (s.Ia.g 2):=λh=>ae h
 exact z14)
abbrev Zd0:Ct:=⟨5,[],[],[.Ac (baQ 9).Ba,.Ad (baQ 9).Ma],.sv (.agg [.ref 0,.ref 1,vI (baQ 9).Sb,vI (baQ 9).Va,vI (baQ 9).Sc])⟩
def Z64:Lp Nat:=let v2:Cell:=.y;let v1:List AC:=[.val v2,.val v2,vI 0,vI 0,vI 0];.mk 29 0 (λx=>[(0,.y 0),(1,.y 1),(14,.r 2),(15,li 9),(16,hs x 0)]) (λx=>[.box v1,.box [.ref 3,.ref 4,ha x 3,ha x 4,ha x 5,vI 0,vI 0],.Ah Yod,ho x 1,ho x 2]) (λk=>[.s (li k),.o (.Ac (baQ k).Ba),.o (.Ad (baQ k).Ma),.a (vI (baQ k).Sb),.a (vI (baQ k).Va),.a (vI (baQ k).Sc)]) (λk=>k<=9/\9<=9223372036854775807) (λk=>9 - k) [.mk True (.exit 0) (λx=>[(0,.y 0),(1,.y 1)]) (λx=>[.box v1,.box [.ref 2,.ref 3,ha x 2,ha x 3,ha x 4,vI 0,vI 0],ho x 0,ho x 1]) [.o (.Ac (baQ 9).Ba),.o (.Ad (baQ 9).Ma),.a (vI (baQ 9).Sb),.a (vI (baQ 9).Va),.a (vI (baQ 9).Sc)]]
theorem Zh7:Lp.Sem prog (Yks f5 0) Z64:=Yl0 (λk=>let v1:=Yod.g (k:Int).toNat;let v2:=(Ynb v1).Ia.g 1;.i ((k:Int)<9) (.p (0<=(k:Int)/\(k:Int).toNat<9) (.w (.cells (Yld v1)) (.p ((Yod.map Ykq)[(k:Int).toNat]? = some (Yld v1)) (.d [.rd] (Z2n v1) (.d [.ptr,.rd] (Z9q (baQ k) 0 0 (Ynb v1)) (.r ((k:Int)+1) (.g [0,1,2,11,12] (k+1) [.s (li ((k:Int)+1)),.o (.Ac ((baQ k).Ba++[YB.mk v2.Ta v2.Sa 4 (↑(baQ k).Ma.length:Int)])),.o (.Ad ((baQ k).Ma++[Ylb ((Ynb v1).Ia.g 2)])),.a (vI (baQ k).Sb),.a (vI (baQ k).Va),.a (vI (baQ k).Sc)]))))))) (.o 0 [0,1,3,4] [.o (.Ac (baQ k).Ba),.o (.Ad (baQ k).Ma),.a (vI (baQ k).Sb),.a (vI (baQ k).Va),.a (vI (baQ k).Sc)])) (by
 intro k h;try dsimp only[Ykd,Yko,Z64]at h|-
 have g1:=@Y1sv k
 have g2:=Y1nt
 have g3:=Y1qa k
 with_reducible repeat' (first|apply ah|exact zR|(intro)|apply Z6b|apply Z8l|apply Z80)
 all_goals ((try simp only[std,inj]at *);with_reducible and_intros)
 all_goals try first|with_reducible (first|apply Z6b|apply Z8l|apply Z80)|(simp only[<- ar];with_reducible first|apply Z6b|apply Z8l|apply Z80)
 all_goals try first|exact z|grind[Y1t8,idB,ruB,Ykl,Ykm,Ykf])
theorem Zjy:Zd0:=Ykr call5 func5 (.c [] Zbx (.c [] Zjw (.c [.rd] Z6b (.h (9<=9223372036854775807) (.w (.g (.nilbox 2 1 true 3)) (.l Z64 Zh7 [0,2,3,1,4] [.s (li 0),.o (.Ac Ync),.o (.y 3 []),.a (vI 0),.a (vI 0),.a (vI 200)] 0 (.t (.f [2,3] [.Ac (baQ 9).Ba,.Ad (baQ 9).Ma] (.sv (.agg [.ref 0,.ref 1,vI (baQ 9).Sb,vI (baQ 9).Va,vI (baQ 9).Sc]))) .q))))))) (by
 dsimp only[Ykd,Zd0,Yko,Z64]
 have g2:=Y1nt
 have g3:=Y1qy
 exact z00)
end
section
def Y1q6:List ByteArray:=[mkS [111,107],mkS [98,97,100,32,115,121,110,116,97,120],mkS [117,110,98,111,117,110,100,32,105,100,101,110,116,105,102,105,101,114],mkS [97,109,98,105,103,117,111,117,115,32,105,100,101,110,116,105,102,105,101,114],mkS [100,117,112,108,105,99,97,116,101,32,100,101,102,105,110,105,116,105,111,110],mkS [100,101,102,105,110,105,116,105,111,110,32,105,110,32,101,120,112,114,101,115,115,105,111,110,32,99,111,110,116,101,120,116],mkS [110,111,32,109,97,116,99,104,105,110,103,32,114,117,108,101],mkS [116,111,111,32,109,97,110,121,32,109,97,99,114,111,32,115,116,101,112,115],mkS [116,111,111,32,108,97,114,103,101]]
def Ywo (x:Int):ByteArray:=if 0<=x/\x<=8 then Y1q6.g x.toNat else mkS []
theorem Y1yw {x:Int}(h0:0<=x) (h:x<9):Y1q6.g x.toNat=Ywo x:=(ae ⟨h0,by omega⟩).symm
theorem Y1yz {x:Int}(h:¬ (0<=x/\x<=8)):mkS []=Ywo x:=(ab h).symm
theorem Y1x5 {x:Int}(h0:0<=x) (h:x<9):([[cS (mkS [111,107])],[cS (mkS [98,97,100,32,115,121,110,116,97,120])],[cS (mkS [117,110,98,111,117,110,100,32,105,100,101,110,116,105,102,105,101,114])],[cS (mkS [97,109,98,105,103,117,111,117,115,32,105,100,101,110,116,105,102,105,101,114])],[cS (mkS [100,117,112,108,105,99,97,116,101,32,100,101,102,105,110,105,116,105,111,110])],[cS (mkS [100,101,102,105,110,105,116,105,111,110,32,105,110,32,101,120,112,114,101,115,115,105,111,110,32,99,111,110,116,101,120,116])],[cS (mkS [110,111,32,109,97,116,99,104,105,110,103,32,114,117,108,101])],[cS (mkS [116,111,111,32,109,97,110,121,32,109,97,99,114,111,32,115,116,101,112,115])],[cS (mkS [116,111,111,32,108,97,114,103,101])]]:List (List Cell))[x.toNat]? = some [cS (Y1q6.g x.toNat)]:=by
 have:x.toNat<9:=by omega
 match x.toNat,this with
 | 0,_=>rfl
 | 1,_=>rfl
 | 2,_=>rfl
 | 3,_=>rfl
 | 4,_=>rfl
 | 5,_=>rfl
 | 6,_=>rfl
 | 7,_=>rfl
 | 8,_=>rfl
abbrev Z8s (x:Int):Ct:=⟨15,[],[li x],[],.sv (ls (Ywo x))⟩
theorem Zfn (x:Int):Z8s x:=Ykr call15 func15 (let v1:=[mkS [111,107],mkS [98,97,100,32,115,121,110,116,97,120],mkS [117,110,98,111,117,110,100,32,105,100,101,110,116,105,102,105,101,114],mkS [97,109,98,105,103,117,111,117,115,32,105,100,101,110,116,105,102,105,101,114],mkS [100,117,112,108,105,99,97,116,101,32,100,101,102,105,110,105,116,105,111,110],mkS [100,101,102,105,110,105,116,105,111,110,32,105,110,32,101,120,112,114,101,115,115,105,111,110,32,99,111,110,116,101,120,116],mkS [110,111,32,109,97,116,99,104,105,110,103,32,114,117,108,101],mkS [116,111,111,32,109,97,110,121,32,109,97,99,114,111,32,115,116,101,112,115],mkS [116,111,111,32,108,97,114,103,101]].getD x.toNat ByteArray.empty;.i (x<0) (.y true (.s (ls (mkS [])))) (.h (9<=9223372036854775807) (.i (9<=x) (.s (ls (mkS []))) (.p (0<=x/\x.toNat<9) (.w (.cells (Ylu v1)) (.p ([[cS (mkS [111,107])],[cS (mkS [98,97,100,32,115,121,110,116,97,120])],[cS (mkS [117,110,98,111,117,110,100,32,105,100,101,110,116,105,102,105,101,114])],[cS (mkS [97,109,98,105,103,117,111,117,115,32,105,100,101,110,116,105,102,105,101,114])],[cS (mkS [100,117,112,108,105,99,97,116,101,32,100,101,102,105,110,105,116,105,111,110])],[cS (mkS [100,101,102,105,110,105,116,105,111,110,32,105,110,32,101,120,112,114,101,115,115,105,111,110,32,99,111,110,116,101,120,116])],[cS (mkS [110,111,32,109,97,116,99,104,105,110,103,32,114,117,108,101])],[cS (mkS [116,111,111,32,109,97,110,121,32,109,97,99,114,111,32,115,116,101,112,115])],[cS (mkS [116,111,111,32,108,97,114,103,101])]][x.toNat]? = some [cS v1]) (.s (ls v1)))))))) (by
 dsimp only[Ykd,Z8s]
 with_reducible repeat' (first|apply ah|exact zR|(intro))
 all_goals ((try simp only[std,inj]at *);with_reducible and_intros)
 all_goals first
  | exact cb|omega|exact Y1x5 oW oW|exact Y1yz oW|exact Y1yw oW oW
  | skip)
theorem Y18w:isB0 (baQ 9):=by
 rw[Y10m];exact⟨by decide +kernel,by decide +kernel,by decide +kernel,by decide +kernel⟩
theorem Y15p:okX (baQ 9):=Y1ni Y18w.ex Y18w.mw
theorem Y202:wX (baQ 9)<=1048576:=by rw[Y10m];decide +kernel
def Yxk (d:Yd):YS_:=if Yn6 d then Ynb d else zY
theorem Y20b:∀ d:Yd,wY (Ynb d)=wD d:=by
 refine Yd.ind λd ih => ?_
 rw[Yyd,Ylo,Yuh]
 have:∀ L:List Yd,(∀ x∈L,wY (Ynb x)=wD x)->sumBy wY (L.map Ynb)=sumBy wD L:=by
  intro L
  induction L with
  | nil=>intro _;rfl
  | cons x r ihr=>intro h;simp only[bP,sumBy,h x aj,ihr λy hy=>h y (ai _ hy)]
 simp only[this _ ih,aN,bp]
 omega
theorem Y1v9:∀ d:Yd,∀ y∈nmZ (Ynb d),y.Sa=[]:=by
 refine Yd.ind λd ih => ?_
 intro y hy
 rw[Yyd,Yoc,aA]at hy
 rcases hy with hy|hy
 ·simp only at hy
  split at hy
  ·rw[List.mem_singleton.1 hy]
  ·cases hy
 ·obtain⟨x,hx,hy⟩:=List.mem_flatMap.1 hy
  obtain⟨z,hz,rfl⟩:=List.mem_map.1 hx
  exact ih z hz y hy
theorem Y1vk (d:Yd):∀ y∈nmZ (Yxk d),y.Sa=[]:=by
 unfold Yxk;split
 ·exact Y1v9 d
 ·have e:nmZ zY=[]:=by rw[Yoc];rfl
  rw[e];intro y hy;cases hy
theorem Y1y3 (d:Yd):wY (Yxk d)<=wD d:=by
 unfold Yxk;split
 ·rw[Y20b];exact aD _
 ·have e:wY zY=0:=by rw[Ylo];rfl
  omega
abbrev Zax (d:Yd):Ct:=⟨6,[],[Yq3 d],Yo8 (Yxk d),.sv (Yo7 (Yxk d) 0)⟩
theorem Zf2 (d:Yd) (h:wD d<=1000000000):Zax d:=Ykr call6 func6 (.c [.rd] (Zb0 d) (.b (!Yn6 d) (.w (.g (.nilbox 1 3 true 1)) (.w (.g (.nilbox 1 4 true 5)) (.f [2,3] [.y 1 [],.y 5 []] (.sv (.agg [vI 0,vI 0,vS (mkS []),.ref 0,.ref 1]))))) (.d [.rd] (Z2n d) (.f [2,3] [.Aa (Ynb d).Sa,.Ae (Ynb d).Ia] (.sv (.agg [vI (Ynb d).Ka,vI (Ynb d).Na,vS (Ynb d).Ta,.ref 0,.ref 1])))))) (by
 dsimp only[Ykd,Zax]
 have g1:=λe:Yn6 d=>show Yxk d=Ynb d from ae e
 have g2:=λe:¬ Yn6 d=>show Yxk d=zY from ab e
 have qz:=Y1z1
 exact z00)
abbrev Y1rj (b:List UInt8):YS_:=Yxk (Yo6 3 (Yxt b) []).1
abbrev Yp9 (b:List UInt8):Bool:=xsB (baQ 9) (Y1rj b)
abbrev Ymp (b:List UInt8):YR Yc:=yX (Y1rj b) (ys0 (baQ 9))
theorem Y1az {e:Int}(h:0<=e/\e<=8):¬ (Ywo e).data.toList=[]:=by
 have:e=0\/e=1\/e=2\/e=3\/e=4\/e=5\/e=6\/e=7\/e=8:=by omega
 rcases this with rfl|rfl|rfl|rfl|rfl|rfl|rfl|rfl|rfl<;>decide +kernel
theorem Y1wi {c:Yc}{e:Int}(h:rg e):rg (Ysx c e):=by unfold Ysx;exact Yrr rg8 h
theorem Y1yj (b:List UInt8):rg (yrE (Yp9 b) (Ymp b)):=by
 unfold yrE;exact Yrr (Y1wi (Y22l _ _)) rg1
theorem Y1w2 {b:List UInt8}(h:¬ yrE (Yp9 b) (Ymp b)=0):yrX (baQ 9) (Yp9 b) (Ymp b)=baQ 9:=ab h
theorem Y20h {b:List UInt8}(h:yrE (Yp9 b) (Ymp b)=0):Yp9 b/\(Ymp b).e=0/\Yl9 (Ymp b).v<=3000/\Yoj (Ymp b).v<=150:=by
 have hb:Yp9 b:=by
  cases e:Yp9 b with
  | true=>rfl
  | false=>unfold yrE at h;rw[e]at h;cases h
 have h2:Ysx (Ymp b).v (Ymp b).e=0:=by unfold yrE at h;rw[ae hb]at h;exact h
 unfold Ysx at h2
 split at h2
 ·cases h2
 ·rename_i c
  exact⟨hb,h2,by omega,by omega⟩
theorem Y1x6 {b:List UInt8}(h:yrE (Yp9 b) (Ymp b)=0) :
  yrC (Yp9 b) (Ymp b)=(Ymp b).v/\yrX (baQ 9) (Yp9 b) (Ymp b)=(Ymp b).m.x/\okX (Ymp b).m.x/\(bnd (Ymp b).v).length<=100000 /\
  Yws (Ymp b).v []/\Ylg (Ymp b).m.x/\(baQ 9).Sb<=(Ymp b).m.Sb/\(Ymp b).m.Va=(baQ 9).Va+((bnd (Ymp b).v).length:Int)/\(baQ 9).Ba.length<=(Ymp b).m.Ba.length/\wC (Ymp b).v<=100000000:=by
 obtain⟨h1,h2,h3,h4⟩:=Y20h h
 have hs:=Y12r h1
 have g:=Y21e (x:=baQ 9) Y18w hs (Y1vk _) (r:=Ymp b) rfl h2 h3 h4
 have g0:Yl4 (ys0 (baQ 9)):=⟨Y15p,aJ _,by decide⟩
 have k:=(Yvo (Yzf.f (Y1rj b) _ h2) hs g0).ok.1
 have v:=k.Va
 have v0:=Y15p.Va
 have e:(Ymp b).m.x.Va=(Ymp b).m.Va:=rfl
 exact⟨ae h,ae h,k,by have:=g.2.2.2.1;have v1:(Ymp b).m.Va<=99999:=v.2;omega,g⟩
theorem Y1i9 {b:List UInt8}(h:yrE (Yp9 b) (Ymp b)=0) :
  Yws (yrC (Yp9 b) (Ymp b)) []/\Ylg (yrX (baQ 9) (Yp9 b) (Ymp b))/\(baQ 9).Sb<=(yrX (baQ 9) (Yp9 b) (Ymp b)).Sb/\(yrX (baQ 9) (Yp9 b) (Ymp b)).Va=(baQ 9).Va+((bnd (yrC (Yp9 b) (Ymp b))).length:Int) /\
  (baQ 9).Ba.length<=(yrX (baQ 9) (Yp9 b) (Ymp b)).Ba.length/\wC (yrC (Yp9 b) (Ymp b))<=100000000/\okX (yrX (baQ 9) (Yp9 b) (Ymp b))/\(bnd (yrC (Yp9 b) (Ymp b))).length<=100000:=by
 have g:=Y1x6 h
 rw[g.1,g.2.1]
 exact⟨g.2.2.2.2.1,g.2.2.2.2.2.1,g.2.2.2.2.2.2.1,g.2.2.2.2.2.2.2.1,g.2.2.2.2.2.2.2.2.1,g.2.2.2.2.2.2.2.2.2,g.2.2.1,g.2.2.2.1⟩
theorem Y1uj {b:List UInt8}(h:yrE (Yp9 b) (Ymp b)=0) : -9223372036854775808<=(baQ 9).Va+((bnd (yrC (Yp9 b) (Ymp b))).length:Int)/\(baQ 9).Va+((bnd (yrC (Yp9 b) (Ymp b))).length:Int)<=9223372036854775807:=by
 have g:=(Y1i9 h).2.2.2.2.2.2.2
 have v:=Y15p.Va
 omega
abbrev Zf3 (b:List UInt8):Ct:=⟨4,[],[Ax b],[],.sv (lb true)⟩
theorem Zk9 (b:List UInt8):Zf3 b:=Ykr call4 func4 (let v1:=Yxk (Yo6 3 (Yxt b) []).1;let v2:=ys0 (baQ 9);let v3:Tq _ _:=.y false (.s (lb false));let v7:=xsB (baQ 9) v1;let v4:=yrX (baQ 9) v7 (yX v1 v2);let v5:=yrC v7 (yX v1 v2);let v6:=yrE v7 (yX v1 v2);let v8:=(((bnd v5).map Yke).length:Int);.z Ym0 b (.i (1048576<((b.map Ym0).length:Int)) (.s (lb true)) (.c [] Zjy (.w (.draw [(11,[29]),(12,[30])]) (.d [.rd,.rd] (Zau b) (.d [.rd] (Zax (Yo6 3 (Yxt b) []).1) (.d [.rd,.rd] (Zar (baQ 9) v1) (.i (yrE v7 (yX v1 v2)≠0) (.c [.rd] (Zfn v6) (.i ((Ywo v6).data.toList≠[]) (.c [.rd,.rd] (Zbs (baQ 9) v4) (.s (lb (decide (baQ 9=yrX (baQ 9) v7 (yX v1 v2)))))) (.s (lb false)))) (.w (.draw []) (.d [.rd,.rd] (Z7u v5 []) (.b (Yws v5 []) (.d [.rd] (Z8f v4) (.b (Ylg v4) (.i ((baQ 9).Sb<=v4.Sb) (.d [.rd] (Z1v v5) (.r ((baQ 9).Va+v8) (.i (v4.Va=(baQ 9).Va+v8) (.z Yke (bnd v5) (.z Ykc v4.Ba (.z Ykc (baQ 9).Ba (.s (lb (decide (Int.ofNat ((baQ 9).Ba.map Ykc).length<=((v4.Ba.map Ykc).length:Int)))))))) (.z Yke (bnd v5) (.s (lb false)))))) v3) (.y false v3))) (.y false (.y false v3))))))))))))) (by
 dsimp only[Ykd,Zf3]
 have w:=λh=>(Y12g (d:=3) dW (Y1ie (b:=b) h) []).2
 have q:=λh=>Y1i9 (b:=b) h
 with_reducible repeat' (first|apply ah|exact zR|(intro)|apply Zf1|apply Zf2|apply Zep|apply Z9d|apply Z6r|apply Z2o)
 all_goals ((try simp only[std,inj]at *);with_reducible and_intros)
 all_goals try first|with_reducible (first|apply Zf1|apply Zf2|apply Zep|apply Z9d|apply Z6r|apply Z2o)|(simp only[<- ar];with_reducible first|apply Zf1|apply Zf2|apply Zep|apply Z9d|apply Z6r|apply Z2o)
 all_goals (try simp only[aL]at *)
 all_goals first
  | exact cb|omega|rfl|exact Y15p|exact Y202|exact a9 (w oW) dW|exact a9 (Y1y3 _) (a9 (w oW) dW)
  | exact(Y1w2 aW).symm|exact absurd aW (Y1az (Y1yj b))|exact(q aW).2.2.2.2.2.1|exact(q aW).2.2.2.2.2.2.1|exact a9 (q aW).2.2.2.2.2.2.2 dW|exact(Y1uj aW).1|exact(Y1uj aW).2|exact Int.ofNat_le.2 (q aW).2.2.2.2.1
  | exact absurd ((q aW).1.symm.trans aW) dW|exact absurd ((q aW).2.1.symm.trans aW) dW|exact absurd (q aW).2.2.1 aW|exact absurd (q aW).2.2.2.1 aW|exact cr _
  | skip)
end
end Go.Proofs.YtcbodhkhppgkiaaGreat
end
section
namespace Go.Proofs.YtcbodhkhppgkiaaGreat.fnClosed
open Go Go.ChangeShapes Go.WideShapes Go.ChangeAt Go.RowKit Go.Proofs.YtcbodhkhppgkiaaGreat.Ab
theorem own:ownKnob Tryz.prog.godebug=none:=by kernel_rfl
theorem Y23u:laidOutB Tryz.prog:=by kernel_rfl
theorem Y22k:mapsRowed Tryz.prog:=by kernel_rfl
theorem Y22s:((List.range Tryz.prog.types.size).all λt=>match Tryz.prog.underlying t with|some (.slice e)=>decide (0<Tryz.prog.cellsOf e)|_=>true)=true:=by kernel_rfl
set_option maxRecDepth 100000 in
theorem Y20f (os:Os) (started:os.Started) (H:Type) (enc:TypeId×Value->H) :
  ReturnsInHanded {} Tryz.checked os 4 .any (Rows.fnClosedSpec.pre6 enc Tryz.prog Tryz.f4 Rows.fnClosedRow.domain false) (Rows.fnClosedSpec.post enc Tryz.prog Tryz.f4 false true false false):=by
 refine returnsInHanded_of_change (C:=Tryz.checked) own started (by kernel_rfl) Tryz.func4
  (ChangeSpec.witness6 (enc:=enc) (C:=Tryz.checked) false ⟨#[],#[.slice none 0 0],[]⟩ 12 (by kernel_rfl) (by kernel_rfl) (by kernel_rfl) (by kernel_rfl)) ?_
 intro W base args ds gs before hval0 hW hcnd _
 have hval:∀ (j:Nat) t v,Tryz.f4.params[j]? = some t->args[j]? = some v->Value.okWide Tryz.prog W .any base t v:=hval0
 have hW':=hW
 obtain⟨p,q,hA0,hV,rfl,hfz,hnd⟩:=hW
 obtain⟨rfl,rfl⟩:=trodVars_none hV
 have hA:DataW.TrodAll enc Tryz.prog W 0 (λ_=>true) true Tryz.f4.params.toList args.toList ds p:=hA0
 rw[Tryz.params4]at hA hval
 have hA2:=hA
 clear hA0 hval0
 obtain⟨v0,vs0,d0,ds0,p0,q0,hargs0,rfl,rfl,h0,r0⟩:=trodAll_cons hA
 obtain⟨rfl,rfl,rfl⟩:=trodAll_nil r0
 obtain rfl:args=#[v0]:=by cases args;simp_all
 obtain⟨a0,c0⟩:=(let ⟨fuel,hf⟩:=h0;Y1to (C:=Ym0) Tryz.underlying22 (by rw[show Tryz.prog.cellsOf 5=1 from by kernel_rfl];decide) (λa=>by kernel_rfl) (λm hm cs x h=>Y1wf Tryz.underlying5 h) hf)
 have s0:Ylx W (Y18p W) (Yml []) (ll (a0.map Ym0)) v0:=Y1x0 (by obtain⟨_,_,_,rfl⟩:=okWide_slice Tryz.underlying22 (hval 0 22 v0 rfl rfl);rfl) c0
 refine(Yn4.kept (w:=W) (vals:=#[v0]) (Zk9 a0) (Kn.none (by kernel_rfl) (by kernel_rfl)) ⟨s0,trivial⟩).mono λe W' ⟨he,hg,_⟩ => ?_
 subst he
 exact⟨_,rfl,Y1eg (pv:=[]) hW' (λ_ _ _=>(trodAll_cons_mk (shut_bool Tryz.underlying4 _) trodAll_mk0))
  (λsp hsp=>Y11s Y23u Y22k Y22s hg (by decide +kernel) hA2 λy hy=>hsp y (by simpa using hy)) (λ_ _=>rfl) rfl
  hg (ok_one (by kernel_rfl) rfl (okWide_bool_mk Tryz.underlying4 _))⟩
set_option maxRecDepth 100000 in
set_option maxHeartbeats 0 in
theorem Y22b:joinedFacts Tryz.pinned.checked.prog 4 Tryz.f4 Rows.fnClosedSpec Rows.fnClosedRow:=by
 delta joinedFacts
 with_reducible repeat' apply Y23a
 all_goals (first|with_reducible exact Y206|(rw[Y22f];kernel_rfl)|(rw[Y23j];kernel_rfl)|decide +kernel)
theorem Y252:Rows.fnClosedRow.holds Tryz.pinned (OpenSpec.ofChange Rows.fnClosedSpec):=
 OpenClaim.holds_of_wide 4 Tryz.f4 rfl rfl rfl rfl rfl rfl rfl ⟨rfl,rfl,rfl,rfl,rfl⟩ rfl rfl rfl rfl rfl (by kernel_rfl) Tryz.func4 Y22b
  (dC (by kernel_rfl)) (by unfold Func.isWrapper;first|(rw[ae (by decide +kernel)];kernel_rfl)|(rw[ab (by decide +kernel)];exact⟨rfl,rfl⟩))
  (λos started H enc _=>Y20f os started H enc)
theorem proved:Rows.FnClosedSaid:=
 Y252
end Go.Proofs.YtcbodhkhppgkiaaGreat.fnClosed
end
