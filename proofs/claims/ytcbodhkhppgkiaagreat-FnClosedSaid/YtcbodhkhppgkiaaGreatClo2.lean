/- Part 2 of a proof. No condition. -/
import Derived.Test.YtcbodhkhppgkiaaGreatClo1
set_option maxHeartbeats 4000000
set_option linter.unusedVariables false
set_option linter.unusedSimpArgs false
section
namespace Go.Proofs.YtcbodhkhppgkiaaGreat
open Go Ab Proofs.Tryz
section
def Y1lh (k:Int):Int:=if k=1 then 11 else if k=2 then 13 else if k=3 then 99999 else if k=4 then 99999 else -1
def Yoz (b:YB):Bool:=Yo1 b.Ta&&Ymz b.Sa&&decide (0<=b.Na/\b.Na<=Y1lh b.Ka)
abbrev Zb6 (b:YB):Ct:=⟨87,[],[Yw1 b],[],.sv (lb (Yoz b))⟩
theorem Zj2 (b:YB):Zb6 b:=Ykr call87 func87 (let v1:=lb (decide (b.Na<=99999));.c [.rd] (Z4n b.Ta) (.b (!Yo1 b.Ta) (.y true (.y true (.s (lb false)))) (.c [.rd] (Z6 b.Sa) (.b (!Ymz b.Sa) (.y true (.s (lb false))) (.i (b.Na<0) (.s (lb false)) (.i (b.Ka=1) (.w (.draw []) (.c [] Zv (.h (12<=9223372036854775807) (.s (lb (decide (b.Na<12))))))) (.i (b.Ka=2) (.w (.draw []) (.c [] Z5f (.h (14<=9223372036854775807) (.s (lb (decide (b.Na<14))))))) (.i (b.Ka=3) (.y true (.s v1)) (.i (b.Ka=4) (.s v1) (.s (lb false))))))))))) (by
 dsimp only[Ykd,Zb6]
 have e1:Ym1.length=12:=rfl
 have e2:Ynu.length=14:=rfl
 with_reducible repeat' (first|apply ah|exact zR|(intro)|apply mIc|apply mOc|apply mSc|apply mLc|apply Z4n|apply Z6)
 all_goals ((try simp only[std,inj]at *);with_reducible and_intros)
 all_goals try with_reducible first|apply Z4n|apply Z6
 all_goals try first|exact z|exact zM|grind[Yoz,Y1lh,Ykl,Ykm,Ykf])
def clB (t:ByteArray) (s:List Int) (x:YB):Bool:=decide (x.Ta=t)&&decide (x.Sa=s)
def Ymo (L:List YB) (t:ByteArray) (s:List Int):Bool:=L.any (clB t s)
abbrev Zb7 (L:List YB) (b:YB):Ct:=⟨155,[],[Aj L,Yw1 b],[],.sv (lb (Ymo L b.Ta b.Sa))⟩
def Z4u (L:List YB) (b:YB):Lp Nat:=.mk 26 0 (λx=>[(3,.y 0),(7,Aj L),(8,li (L.map Ykc).length),(9,hs x 0)]) (λx=>[.box (vals (Yl6 b))]) (λk=>[.s (li k)]) (λk=>k<=L.length/\L.length<=9223372036854775807/\Ymo (L.take k) b.Ta b.Sa=false) (λk=>L.length - k) [.mk (Ymo L b.Ta b.Sa=false) (.exit 0) (λx=>[]) (λx=>[]) [],.mk (Ymo L b.Ta b.Sa) .ret (λx=>[(4,hs x 0)]) (λx=>[]) [.s (lb true)]]
theorem Zfa (L:List YB) (b:YB):Lp.Sem prog (Yks f155 0) (Z4u L b):=Yl0 (λk=>let v1:Tq _ _:=.r ((k:Int)+1) (.g [0] (k+1) [.s (li ((k:Int)+1))]);let v2:=L.g k;.i ((k:Int)<(L.map Ykc).length) (.x (k:Int) (L.map Ykc) (Yl6 v2) (.i (v2.Ta.data.toList=b.Ta.data.toList) (.c [.rd,.rd] (Z4q v2.Sa b.Sa) (.i (v2.Sa=b.Sa) (.o 1 [] [.s (lb true)]) v1)) (.y false v1))) (.o 0 [] [])) (by
 intro k h;try dsimp only[Ykd,Yko,Z4u]at h|-
 exact z0v)
theorem Ze5 (L:List YB) (b:YB):Zb7 L b:=Ykr call155 func155 (.z Ykc L (.l (Z4u L b) (Zfa L b) [0] [.s (li 0)] 0 (.t (.s (lb false)) (.t (.s (lb true)) .q)))) (by
 dsimp only[Ykd,Zb7,Yko,Z4u]
 exact z0w)
abbrev Zb8 (L:List YB) (t:ByteArray) (s:List Int):Ct:=⟨198,[],[Aj L,ls t,Ag s],[],.sv (lb (Ymo L t s))⟩
def Z4v (L:List YB) (t:ByteArray) (s:List Int):Lp Nat:=.mk 26 0 (λx=>[(1,ls t),(2,Ag s),(9,Aj L),(10,li (L.map Ykc).length),(11,hs x 0)]) (λx=>[]) (λk=>[.s (li k)]) (λk=>k<=L.length/\L.length<=9223372036854775807/\Ymo (L.take k) t s=false) (λk=>L.length - k) [.mk (Ymo L t s=false) (.exit 0) (λx=>[]) (λx=>[]) [],.mk (Ymo L t s) .ret (λx=>[(6,hs x 0)]) (λx=>[]) [.s (lb true)]]
theorem Zfb (L:List YB) (t:ByteArray) (s:List Int):Lp.Sem prog (Yks f198 0) (Z4v L t s):=Yl0 (λk=>let v1:Tq _ _:=.r ((k:Int)+1) (.g [] (k+1) [.s (li ((k:Int)+1))]);let v2:=L.g k;.i ((k:Int)<(L.map Ykc).length) (.x (k:Int) (L.map Ykc) (Yl6 v2) (.i (v2.Ta.data.toList=t.data.toList) (.c [.rd,.rd] (Z7s v2.Sa s) (.i (v2.Sa=s) (.o 1 [] [.s (lb true)]) v1)) (.y false v1))) (.o 0 [] [])) (by
 intro k h;try dsimp only[Ykd,Yko,Z4v]at h|-
 exact z0v)
theorem Ze6 (L:List YB) (t:ByteArray) (s:List Int):Zb8 L t s:=Ykr call198 func198 (.z Ykc L (.l (Z4v L t s) (Zfb L t s) [] [.s (li 0)] 0 (.t (.s (lb false)) (.t (.s (lb true)) .q)))) (by
 dsimp only[Ykd,Zb8,Yko,Z4v]
 exact z0w)
def Yok (L:List YB):Nat->Bool
 | 0=>true
 | k+1=>Yok L k&&(Yoz (L.g k) && !Ymo (L.take k) (L.g k).Ta (L.g k).Sa)
theorem Yzz (L:List YB):∀ (m k:Nat),k<=m->Yok L m->Yok L k
 | 0,k,h,_=>by
  obtain rfl:k=0:=by omega
  rfl
 | m+1,k,h,ht=>by
  by_cases e:k=m+1
  ·rw[e];exact ht
  ·refine Yzz L m k oW ?_
   simp only[Yok,af]at ht;exact ht.1
def Ywk (L:List YB):Bool:=Yok L L.length&&decide ((L.length:Int)<=1000)
def plc (L:List YB):Nat->ByteArray->List Int
 | 0,_=>[]
 | k+1,s=>if s=(L.g k).Ta then plc L k s++[(k:Int)] else plc L k s
theorem Y1wy {L:List YB}{k:Nat}:Yoy (plc L k) (L.g k).Ta (plc L k (L.g k).Ta++[(k:Int)])=plc L (k+1):=by
 funext s;simp only[Yoy,plc];split
 ·rename_i h;rw[h]
 ·rfl
theorem Y1rx {L:List YB}:zL=plc L 0:=rfl
theorem Y1jc (L:List YB) (s:ByteArray):∀ k,(plc L k s).length<=k
 | 0=>aD _
 | k+1=>by
  have:=Y1jc L s k
  simp only[plc];split
  ·simp;omega
  ·omega
theorem Y12d (L:List YB) (s:ByteArray):∀ k (i:Int),i∈plc L k s ↔ (0<=i/\i<k/\(L.g i.toNat).Ta=s)
 | 0,i=>by simp[plc];omega
 | k+1,i=>by
  have ih:=Y12d L s k i
  simp only[plc];split
  ·rename_i h
   rw[aA,ih,ao]
   constructor
   ·rintro(⟨a,b,c⟩|rfl)
    ·exact⟨a,by omega,c⟩
    ·exact⟨by omega,by omega,by rw[cF];exact h.symm⟩
   ·rintro⟨a,b,c⟩
    by_cases e:i=k
    ·exact .inr e
    ·exact .inl ⟨a,by omega,c⟩
  ·rename_i h
   rw[ih]
   constructor
   ·rintro⟨a,b,c⟩;exact⟨a,by omega,c⟩
   ·rintro⟨a,b,c⟩
    refine⟨a,?_,c⟩
    by_cases e:i=k
    ·subst e;rw[cF]at c;exact absurd c.symm h
    ·omega
def Y106 (L:List YB) (s:List Int) (P:List Int):Bool:=P.all λi => !decide ((L.g i.toNat).Sa=s)
theorem Y1li {L:List YB}{k:Nat}{t:ByteArray}{s:List Int}(hk:k<=L.length):Y106 L s (plc L k t) = !Ymo (L.take k) t s:=by
 rw[cm]
 simp only[Y106,Ymo,clB,am,aM,aP,bW,af,ak,not_and]
 constructor
 ·intro h x hx e
  obtain⟨j,hj,rfl⟩:=dP hx
  rw[au]at hj
  have e2:(L.take k)[j]'(by rw[au];exact hj)=L.g j:=by simp[show j<L.length by omega]
  rw[e2]at e|-
  have:=h (j:Int) ((Y12d L t k j).2 ⟨by omega,by omega,by rw[cF];exact e⟩)
  rwa [cF]at this
 ·intro h i hi
  obtain⟨a,b,c⟩:=(Y12d L t k i).1 hi
  refine h _ ?_ c
  have e:L.g i.toNat=(L.take k)[i.toNat]'(by rw[au];omega):=by simp[show i.toNat<L.length by omega]
  rw[e];exact di _
theorem Y1vb {L:List YB}{s:List Int}{P:List Int}{j:Nat}(h:j<P.length) (e:(L.g (P.g j).toNat).Sa=s):Y106 L s P=false:=by
 unfold Y106;rw[bX];exact⟨_,Ykg h,by rw[bM e];decide⟩
theorem Y1n8 {L:List YB}{s:List Int}{P:List Int}{j:Nat}(h:j<P.length) (h0:Y106 L s (P.take j)) (e:(L.g (P.g j).toNat).Sa≠s):Y106 L s (P.take (j+1)):=by
 unfold Y106 at *;rw[Yku h,cC,h0];simpa using e
abbrev Ze7 (L:List YB):Ct:=⟨40,[],[Aj L],[],.sv (lb (Ywk L))⟩
def Z71 (L:List YB) (k:Nat):Lp Nat:=let v4:=L.g k;let v1:=plc L k v4.Ta;let v2:List Ob:=[.map false kL (mL (plc L k)),.box (vals (Yl6 v4))];let v3:=L.map Ykc;let v5:=(13,li (L.map Ykc).length);.mk 51 0 (λx=>[(0,ll v3),(3,.one (.mref 0)),(4,li k),(5,.y 1),(12,ll v3),v5,(14,li k),(25,.one (.bor 0 (.Ao v1))),(26,li (v1.map Yke).length),(27,hs x 0)]) (λx=>v2) (λk1=>[.s (li (k1:Int))]) (λk1=>k1<=v1.length/\v1.length<=9223372036854775807/\k<L.length/\Yok L k/\Yoz v4/\Y106 L v4.Sa (v1.take k1)) (λk1=>v1.length - k1) [.mk (Yok L (k+1)) (.exit 2) (λx=>[(0,ll v3),(3,.one (.mref 0)),(4,li k),(5,.y 1),(12,ll v3),v5,(14,li k)]) (λx=>v2) [],.mk (Yok L L.length=false) .ret (λx=>[(2,hs x 0)]) (λx=>[]) [.s (lb false)]]
def Z72 (L:List YB):Lp Nat:=.mk 51 0 (λx=>[(0,Aj L),(3,.one (.mref 0)),(12,Aj L),(13,li (L.map Ykc).length),(14,hs x 0)]) (λx=>[ho x 1]) (λk=>[.s (li k),.o (.map false kL (mL (plc L k)))]) (λk=>k<=L.length/\L.length<=9223372036854775807/\L.length<=1000/\Yok L k) (λk=>L.length - k) [.mk (Yok L L.length) (.exit 0) (λx=>[]) (λx=>[]) [],.mk (Yok L L.length=false) .ret (λx=>[(2,hs x 0)]) (λx=>[]) [.s (lb false)]]
theorem Zho (L:List YB) (k:Nat):Lp.Sem prog (Yks f40 1) (Z71 L k):=Yl0 (λk1=>let v3:=L.g k;let v1:=plc L k v3.Ta;let v2:=L.g (v1.getD k1 0).toNat;.i ((k1:Int)<((v1.map Yke).length:Int)) (.x (k1:Int) (v1.map Yke) [cI (v1.getD k1 0)] (.w (.draw []) (.x (v1.getD k1 0) (L.map Ykc) (Yl6 v2) (.c [.rd,.rd] (Z7s v2.Sa v3.Sa) (.i (v2.Sa=v3.Sa) (.o 1 [] [.s (lb false)]) (.r ((k1:Int)+1) (.g [0,1] (k1+1) [.s (li ((k1:Int)+1))]))))))) (.o 0 [0,1] [])) (by
 intro k1 h;try dsimp only[Ykd,Yko,Z71]at h|-
 have g1:=Yzz L L.length (k+1)
 have g2:Yok L (k+1)=(Yok L k&&(Yoz (L.g k) && !Ymo (L.take k) (L.g k).Ta (L.g k).Sa)):=rfl
 have g3:=@Y1li L k (L.g k).Ta (L.g k).Sa
 have g4:=@Y1vb L (L.g k).Sa (plc L k (L.g k).Ta) k1
 have g5:=@Y1n8 L (L.g k).Sa (plc L k (L.g k).Ta) k1
 have g6:=Y12d L (L.g k).Ta k ((plc L k (L.g k).Ta).g k1)
 have g7:∀ j,(plc L k (L.g k).Ta).length<=j->(plc L k (L.g k).Ta).take j=plc L k (L.g k).Ta:=λj h=>av h
 with_reducible repeat' (first|apply ah|exact zR|(intro)|apply mIc|apply mOc|apply mSc|apply mLc)
 all_goals ((try simp only[std,inj]at *);with_reducible and_intros)
 all_goals try first|exact z|exact zM|grind[Ykg,Ykl,Ykm,Ykf])
theorem Zhp (L:List YB):Lp.Sem prog (Yks f40 0) (Z72 L):=Yl0 (λk=>let v1:=L.g k;let v2:Value:=.slice none 0 0;let v3:=plc L k;let v7:=plc L k v1.Ta;let v4:=v7.map Yke;let v5:=mL (Yoy v3 v1.Ta (plc L k v1.Ta++[(k:Int)]));let v6:Value:=.string v1.Ta;let v8:=Yp3 v2 (mL v3) v6 (.list v4);.i ((k:Int)<(L.map Ykc).length) (.x (k:Int) (L.map Ykc) (Yl6 v1) (.c [.rd] (Zj2 v1) (.b (!Yoz v1) (.o 1 [] [.s (lb false)]) (.w (.cells [.list v4]) (.p v8 (.z Yke v7 (.l (Z71 L k) (Zho L k) [0,1] [.s (li 0)] 0 (.t (.w (.draw [(6,[0]),(9,[6,7]),(10,[8,0])]) (.w (.taken v4 1 (mLt v3 v1.Ta)) (.p v8 (.p (Ypy kL.d (mL v3) (mLt v3 v1.Ta) v6 (some Cell.any)) (.p (some v2=some v2) (.p (∀ (x0:List Cell),x0∈v7.map Yke->x0.length=1) (.p ((v4.length+1) * 8<=140737488355328) (.w (.upd v5) (.p (false=false) (.p (Ypy kL.d (mLt v3 v1.Ta) v5 v6 (some (Cell.list (v7.map Yke++[[cI (k:Int)]])))) (.r ((k:Int)+1) (.g [0] (k+1) [.s (li ((k:Int)+1)),.o (.map false kL v5)])))))))))))) (.t (.o 1 [] [.s (lb false)]) .q))))))))) (.o 0 [] [])) (by
 intro k h;try dsimp only[Ykd,Yko,Z72,Z71]at h|-
 have g1:=Yzz L L.length (k+1)
 have g2:Yok L (k+1)=(Yok L k&&(Yoz (L.g k) && !Ymo (L.take k) (L.g k).Ta (L.g k).Sa)):=rfl
 have g3:=Y1jc L (L.g k).Ta k
 have g4:=@Y1wy L k
 have g5:Y106 L (L.g k).Sa ((plc L k (L.g k).Ta).take 0):=rfl
 with_reducible repeat' (first|apply ah|exact zR|(intro)|apply mIc|apply mOc|apply mSc|apply mLc)
 all_goals ((try simp only[std,inj]at *);with_reducible and_intros)
 all_goals try first|exact z|exact zM|grind[Ykg,Ykl,Ykm,Ykf]
 all_goals (try (exact Y1oy (by simp[Yke]))))
theorem Zk4 (L:List YB):Ze7 L:=Ykr call40 func40 (.z Ykc L (.i (1000<((L.map Ykc).length:Int)) (.s (lb false)) (.w (.mkmap kL) (.z Ykc L (.l (Z72 L) (Zhp L) [0] [.s (li 0),.o (.map false kL (mL zL))] 0 (.t (.s (lb true)) (.t (.s (lb false)) .q))))))) (by
 dsimp only[Ykd,Ze7,Yko,Z72]
 with_reducible repeat' (first|apply ah|exact zR|(intro)|apply mIc|apply mOc|apply mSc|apply mLc)
 all_goals ((try simp only[std,inj]at *);with_reducible and_intros)
 all_goals try first|exact z|exact zM|grind[Ywk,Yok,Y1rx,Ykl,Ykm,Ykf])
mutual
/-- is no Sb greater than a Na? -/
def blw (n:Int):YS_->Bool
 | ⟨_,_,_,s,l⟩=>s.all (λx=>decide (x<=n))&&Y1f0 n l
def Y1f0 (n:Int):List YS_->Bool
 | []=>true
 | x :: r=>blw n x&&Y1f0 n r
end
theorem Y1iv (n:Int):∀ l,Y1f0 n l=l.all (blw n)
 | []=>by simp[Y1f0]
 | x :: r=>by rw[Y1f0,Y1iv n r];rfl
def scB (n:Int) (L:List Int):Bool:=L.all λx=>decide (x<=n)
theorem Ysv (n:Int) (s:YS_):blw n s=(scB n s.Sa&&s.Ia.all (blw n)):=by cases s;simp only[blw,Y1iv,scB]
theorem Y1ql {n:Int}{L:List Int}{k:Nat}(h:k<L.length) (e:n<L.getD k 0):scB n L=false:=by
 unfold scB;rw[bX];exact⟨L.getD k 0,Ykg h,by rw[bK oW];decide⟩
abbrev Z15 (s:YS_) (n:Int):Ct:=⟨70,[],[Ykx s,li n],[],.sv (lb (blw n s))⟩
def Z2x (s:YS_) (n:Int):Lp Nat:=.mk 32 0 (λx=>[(1,li n),(21,Af s.Ia),(22,li (s.Ia.map Ykb).length),(23,hs x 0)]) (λx=>[]) (λk=>[.s (li k)]) (λk=>k<=s.Ia.length/\s.Ia.length<=9223372036854775807/\(s.Ia.take k).all (blw n)) (λk=>s.Ia.length - k) [.mk (s.Ia.all (blw n)) (.exit 2) (λx=>[]) (λx=>[]) [],.mk (s.Ia.all (blw n)=false) .ret (λx=>[(4,hs x 0)]) (λx=>[]) [.s (lb false)]]
def Z2y (s:YS_) (n:Int):Lp Nat:=.mk 32 0 (λx=>[(1,li n),(2,.y 0),(10,Ag s.Sa),(11,li (s.Sa.map Yke).length),(12,hs x 0)]) (λx=>[.box (vals (Yki s))]) (λk=>[.s (li k)]) (λk=>k<=s.Sa.length/\s.Sa.length<=9223372036854775807/\scB n (s.Sa.take k)) (λk=>s.Sa.length - k) [.mk (scB n s.Sa) (.exit 0) (λx=>[(1,li n),(2,.y 0)]) (λx=>[.box (vals (Yki s))]) [],.mk (blw n s=false) .ret (λx=>[(4,hs x 0)]) (λx=>[]) [.s (lb false)]]
theorem Zd7 (s:YS_) (n:Int) (ih:∀ (z:YS_),z∈s.Ia->∀ (n:Int),OK (Z15 z n)):Lp.Sem prog (Yks f70 1) (Z2x s n):=
 Yl0 (λk=>.i ((k:Int)<(List.map Ykb s.Ia).length) (.x (k:Int) (List.map Ykb s.Ia) (Yki (s.Ia.g k)) (.d [.rd,.rd] (Z15
 (s.Ia.g k) n) (.b (!blw n (s.Ia.g k)) (.o 1 [] [.s (lb false)]) (.r ((k:Int)+1) (.g [] (k+1) [.s (li ((k:Int)+1))]))))) (.o 0 [] [])) (by
 intro k h;try dsimp only[Ykd,Yko,Z2x]at h|-
 with_reducible repeat' (first|apply ah|exact zR|exact ih|(intro)|apply mIc|apply mOc|apply mSc|apply mLc|apply ih)
 all_goals ((try simp only[std,inj]at *);with_reducible and_intros)
 all_goals try with_reducible first|apply ih
 all_goals try first|exact z|exact zM|grind[Yku,Ykg,Ykl,Ykm,Ykf])
theorem Zd8 (s:YS_) (n:Int) (ih:∀ (z:YS_),z∈s.Ia->∀ (n:Int),OK (Z15 z n)):Lp.Sem prog (Yks f70 0) (Z2y s n):=
 Yl0 (λk=>.i ((k:Int)<(List.map Yke s.Sa).length) (.x (k:Int) (List.map Yke s.Sa) [cI (s.Sa.getD k 0)] (.i (n<s.Sa.getD k 0) (.o 1 [] [.s
 (lb false)]) (.r ((k:Int)+1) (.g [0] (k+1) [.s (li ((k:Int)+1))])))) (.o 0 [0] [])) (by
 intro k h;try dsimp only[Ykd,Yko,Z2y]at h|-
 have g1:=Ysv n s
 have g2:=@Y1ql n s.Sa k
 with_reducible repeat' (first|apply ah|exact zR|exact ih|(intro)|apply mIc|apply mOc|apply mSc|apply mLc|apply ih)
 all_goals ((try simp only[std,inj]at *);with_reducible and_intros)
 all_goals try with_reducible first|apply ih
 all_goals try first|exact z|exact zM|grind[Yku,Ykg,scB,Ykl,Ykm,Ykf])
theorem Zgl (s:YS_) (n:Int) (ih:∀ z∈s.Ia,∀ (n:Int),Z15 z n):Z15 s n:=Ykr call70 func70 (.z Yke s.Sa (.l (Z2y s n) (Zd8 s n ih) [0] [.s (li 0)] 0 (.t (.z Ykb s.Ia (.l (Z2x s n) (Zd7 s n ih) [] [.s (li 0)] 0 (.t (.s (lb true)) (.t (.s (lb false)) .q)))) (.t (.s (lb false)) .q)))) (by
 dsimp only[Ykd,Z15,Yko,Z2y,Z2x]
 have g1:=Ysv n s
 with_reducible repeat' (first|apply ah|exact zR|exact ih|(intro)|apply mIc|apply mOc|apply mSc|apply mLc)
 all_goals ((try simp only[std,inj]at *);with_reducible and_intros)
 all_goals try with_reducible first|apply ih
 all_goals try first|exact z|exact zM|grind[scB,Ykl,Ykm,Ykf])
theorem Z4e (s:YS_):∀ (n:Int),Z15 s n:=YS_.ind (P:=λs=>∀ (n:Int),Z15 s n) (λs ih n=>Zgl s n ih) s
def ruL (r:YR_):List (List YS_):=[r.La,r.Pb,r.Tb]
def Ys7 (n:Int) (L:List YS_):Bool:=L.all (blw n)
def Ytj (n:Int) (r:YR_):Bool:=(ruL r).all (Ys7 n)
theorem Y136 (n:Int) (r:YR_):Ytj n r=(Ys7 n r.La&&Ys7 n r.Pb&&Ys7 n r.Tb):=by
 simp only[Ytj,ruL,dE,List.all_nil,Bool.and_true,Bool.and_assoc]
def Y231 (l:List YS_):List Cell:=[.list (l.map Ykb)]
def Y228 (l:List YS_):List Cell:=[.list (l.map Ykb)]
instance:Row (List YS_) Y231 Y228 1:=⟨λ_=>rfl,λ_=>rfl⟩
abbrev Zcp (L:List YS_) (n:Int):Ct:=⟨95,[],[Af L,li n],[],.sv (lb (Ys7 n L))⟩
def Z5n (L:List YS_) (n:Int):Lp Nat:=.mk 18 0 (λx=>[(1,li n),(7,Af L),(8,li (L.map Ykb).length),(9,hs x 0)]) (λx=>[]) (λk=>[.s (li k)]) (λk=>k<=L.length/\L.length<=9223372036854775807/\(L.take k).all (blw n)) (λk=>L.length - k) [.mk (Ys7 n L) (.exit 0) (λx=>[]) (λx=>[]) [],.mk (Ys7 n L=false) .ret (λx=>[(4,hs x 0)]) (λx=>[]) [.s (lb false)]]
theorem Zgm (L:List YS_) (n:Int):Lp.Sem prog (Yks f95 0) (Z5n L n):=Yl0 (λk=>let v1:=L.g k;.i ((k:Int)<(L.map Ykb).length) (.x (k:Int) (L.map Ykb) (Yki v1) (.c [.rd,.rd] (Z4e v1 n) (.b (!blw n v1) (.o 1 [] [.s (lb false)]) (.r ((k:Int)+1) (.g [] (k+1) [.s (li ((k:Int)+1))]))))) (.o 0 [] [])) (by
 intro k h;try dsimp only[Ykd,Yko,Z5n]at h|-
 with_reducible repeat' (first|apply ah|exact zR|(intro)|apply mIc|apply mOc|apply mSc|apply mLc)
 all_goals ((try simp only[std,inj]at *);with_reducible and_intros)
 all_goals try first|exact z|exact zM|grind[Yku,Ykg,Ys7,Ykl,Ykm,Ykf])
theorem Zby (L:List YS_) (n:Int):Zcp L n:=Ykr call95 func95 (.z Ykb L (.l (Z5n L n) (Zgm L n) [] [.s (li 0)] 0 (.t (.s (lb true)) (.t (.s (lb false)) .q)))) (by
 dsimp only[Ykd,Zcp,Yko,Z5n]
 with_reducible repeat' (first|apply ah|exact zR|(intro)|apply mIc|apply mOc|apply mSc|apply mLc)
 all_goals ((try simp only[std,inj]at *);with_reducible and_intros)
 all_goals try first|exact z|exact zM|grind[Ys7,Ykl,Ykm,Ykf])
abbrev Zcq (r:YR_) (n:Int):Ct:=⟨42,[],[Yum r,li n],[],.sv (lb (Ytj n r))⟩
theorem Zjp (r:YR_) (n:Int):Zcq r n:=Ykr call42 func42 (.c [.rd,.rd] (Zby r.La n) (.b (Ys7 n r.La) (.c [.rd,.rd] (Zby r.Pb n) (.b (Ys7 n r.Pb) (.c [.rd,.rd] (Zby r.Tb n) (.s (lb (Ys7 n r.Tb)))) (.s (lb false)))) (.y false (.s (lb false))))) (by
 dsimp only[Ykd,Zcq]
 have g1:=Y136 n r
 with_reducible repeat' (first|apply ah|exact zR|(intro)|apply mIc|apply mOc|apply mSc|apply mLc)
 all_goals ((try simp only[std,inj]at *);with_reducible and_intros)
 all_goals try first|exact z|exact zM|grind[Ykl,Ykm,Ykf])
def Ytf (x:YE) (b:YB):Bool := !(decide (0<(b.Sa.length:Int))&&decide (x.Sb<b.Sa.getD ((b.Sa.length:Int) - 1).toNat 0)) && !(decide (b.Ka=3)&&decide (x.Va<b.Na)) && !(decide (b.Ka=4)&&decide ((x.Ma.length:Int)<=b.Na))
def ruX (x:YE) (r:YR_):Bool:=Ym8 r&&Ytj x.Sb r
def Ylg (x:YE):Bool:=Ywk x.Ba&&decide ((x.Ma.length:Int)<=200)&&decide (0<=x.Sb/\x.Sb<=99999)&&decide (0<=x.Va/\x.Va<=99999)&&decide (0<=x.Sc/\x.Sc<=200)&&x.Ma.all (ruX x)&&x.Ba.all (Ytf x)
theorem Y1pl {x:YE}{k:Nat}(hk:k<x.Ba.length) (h:Ytf x (x.Ba.g k)=false):x.Ba.all (Ytf x)=false:=by
 rw[bX];exact⟨_,Ykg hk,by rw[h];decide⟩
theorem Y1sz {x:YE}{k:Nat}(hk:k<x.Ma.length) (h:ruX x (x.Ma.g k)=false):x.Ma.all (ruX x)=false:=by
 rw[bX];exact⟨_,Ykg hk,by rw[h];decide⟩
theorem Y1w1 {x:YE}{k:Nat}(hk:k<x.Ba.length) (h0:(x.Ba.take k).all (Ytf x)) (h:Ytf x (x.Ba.g k)):(x.Ba.take (k+1)).all (Ytf x):=by
 rw[Yku hk,cC,h0];simpa using h
theorem Y20y {x:YE}{k:Nat}(hk:k<x.Ma.length) (h0:(x.Ma.take k).all (ruX x)) (h:ruX x (x.Ma.g k)):(x.Ma.take (k+1)).all (ruX x):=by
 rw[Yku hk,cC,h0];simpa using h
end
section
abbrev Z3z (L:List YB):Ct:=⟨187,[],[Aj L],[.Ac L],.sv (.r 0)⟩
def Z4w (L:List YB):Lp Nat:=.mk 28 0 (λx=>[(3,.r 0),(7,Aj L),(8,li (L.map Ykc).length),(9,hs x 0)]) (λx=>[ho x 1]) (λk=>[.s (li k),.o (.Ac (L.take k))]) (λk=>k<=L.length/\L.length<=9223372036854775807) (λk=>L.length - k) [.mk True (.exit 0) (λx=>[(3,.r 0)]) (λx=>[ho x 0]) [.o (.Ac L)]]
theorem Zfc (L:List YB) (h:L.length<=1000000001/\sumBy wB L<=1000000001):Lp.Sem prog (Yks f187 0) (Z4w L):=Yl0 (λk=>let v1:=(L.take k).map Ykc;let v2:=L.g k;.i ((k:Int)<(L.map Ykc).length) (.x (k:Int) (L.map Ykc) (Yl6 v2) (.w (.draw [(11,[6]),(12,[0,18])]) (.d [.rd] (Z57 v2.Sa) (.p ((v1.length+1) * 56<=140737488355328) (.r ((k:Int)+1) (.g [19] (k+1) [.s (li ((k:Int)+1)),.o (.y 4 ((L.take k).map Ykc++[Yl6 v2]))])))))) (.o 0 [0] [.o (.y 4 v1)])) (by
 intro k h;try dsimp only[Ykd,Yko,Z4w]at h|-
 have g2:=@Yl3 _ wB L (L.g k)
 have g3:=Y1lb (L.g k)
 exact z06)
theorem Z1p (L:List YB) (h:L.length<=1000000001/\sumBy wB L<=1000000001):Z3z L:=Ykr call187 func187 (.w (.bool false) (.z Ykc L (.l (Z4w L) (Zfc L h) [0] [.s (li 0),.o (.y 4 [])] 0 (.t (.f [0] [.Ac L] (.sv (.r 0))) .q)))) (by
 dsimp only[Ykd,Z3z,Yko,Z4w]
 exact z00)
abbrev Z4x (b:YB):Ct:=⟨115,[],[Yw1 b],Y1dm b,.sv (Y1de b 0)⟩
theorem Zi (b:YB) (h:wB b<=1000000001):Z4x b:=Ykr call115 func115 (.d [.rd] (Z5 b.Sa) (.f [2] [.Aa b.Sa] (.sv (.agg [vS b.Ta,.ref 0,vI b.Ka,vI b.Na])))) (by
 dsimp only[Ykd,Z4x]
 have g3:=Y1lb b
 exact z00)
abbrev Z86 (L:List YB):Ct:=⟨67,[],[Aj L],[.Ac L],.sv (.r 0)⟩
def Z4y (L:List YB):Lp Nat:=.mk 19 0 (λx=>[(3,.r 0),(6,Aj L),(7,li (L.map Ykc).length),(8,hs x 0)]) (λx=>[ho x 1]) (λk=>[.s (li k),.o (.Ac (L.take k))]) (λk=>k<=L.length/\L.length<=9223372036854775807) (λk=>L.length - k) [.mk True (.exit 0) (λx=>[(3,.r 0)]) (λx=>[ho x 0]) [.o (.Ac L)]]
theorem Zfd (L:List YB) (h:L.length<=1000000001/\sumBy wB L<=1000000001):Lp.Sem prog (Yks f67 0) (Z4y L):=Yl0 (λk=>let v1:=(L.take k).map Ykc;let v2:=L.g k;.i ((k:Int)<(L.map Ykc).length) (.x (k:Int) (L.map Ykc) (Yl6 v2) (.d [.rd] (Z4x v2) (.p ((v1.length+1) * 56<=140737488355328) (.r ((k:Int)+1) (.g [4] (k+1) [.s (li ((k:Int)+1)),.o (.y 4 ((L.take k).map Ykc++[Yl6 v2]))]))))) (.o 0 [0] [.o (.y 4 v1)])) (by
 intro k h;try dsimp only[Ykd,Yko,Z4y]at h|-
 have g2:=@Yl3 _ wB L (L.g k)
 exact z06)
theorem Z6g (L:List YB) (h:L.length<=1000000001/\sumBy wB L<=1000000001):Z86 L:=Ykr call67 func67 (.z Ykc L (.w (.g (.nilreg 3 true 4)) (.l (Z4y L) (Zfd L h) [0] [.s (li 0),.o (.y 4 [])] 0 (.t (.f [0] [.Ac L] (.sv (.r 0))) .q)))) (by
 dsimp only[Ykd,Z86,Yko,Z4y]
 exact z00)
abbrev Z1u (L:List YS_):Ct:=⟨116,[],[Af L],[.Ae L],.sv (.r 0)⟩
def Z40 (L:List YS_):Lp Nat:=.mk 19 0 (λx=>[(3,.r 0),(6,Af L),(7,li (L.map Ykb).length),(8,hs x 0)]) (λx=>[ho x 1]) (λk=>[.s (li k),.o (.Ae (L.take k))]) (λk=>k<=L.length/\L.length<=9223372036854775807) (λk=>L.length - k) [.mk True (.exit 0) (λx=>[(3,.r 0)]) (λx=>[ho x 0]) [.o (.Ae L)]]
theorem Ze8 (L:List YS_) (h:L.length<=1000000000/\sumBy wY L<=1000000000):Lp.Sem prog (Yks f116 0) (Z40 L):=Yl0 (λk=>let v1:=(L.take k).map Ykb;let v2:=L.g k;.i ((k:Int)<(L.map Ykb).length) (.x (k:Int) (L.map Ykb) (Yki v2) (.d [.rd] (Zp v2) (.p ((v1.length+1) * 80<=140737488355328) (.r ((k:Int)+1) (.g [5] (k+1) [.s (li ((k:Int)+1)),.o (.y 5 ((L.take k).map Ykb++[Yki v2]))]))))) (.o 0 [0] [.o (.y 5 v1)])) (by
 intro k h;try dsimp only[Ykd,Yko,Z40]at h|-
 have g2:=@Yl3 _ wY L (L.g k)
 exact z06)
theorem Z22 (L:List YS_) (h:L.length<=1000000000/\sumBy wY L<=1000000000):Z1u L:=Ykr call116 func116 (.z Ykb L (.w (.g (.nilreg 3 true 5)) (.l (Z40 L) (Ze8 L h) [0] [.s (li 0),.o (.y 5 [])] 0 (.t (.f [0] [.Ae L] (.sv (.r 0))) .q)))) (by
 dsimp only[Ykd,Z1u,Yko,Z40]
 exact z00)
abbrev Z5o (r:YR_):Ct:=⟨68,[],[Yum r],Y1eo r,.sv (Y1g3 r 0)⟩
theorem Z23 (r:YR_) (h:wR r<=1000000000):Z5o r:=Ykr call68 func68 (.w (.draw [(10,[1])]) (.d [.rd] (Z1u r.La) (.d [.rd] (Z1u r.Pb) (.d [.rd] (Z1u r.Tb) (.f [4,14,24] [.Ae r.La,.Ae r.Pb,.Ae r.Tb] (.sv (.agg [.ref 0,.ref 1,.ref 2]))))))) (by
 dsimp only[Ykd,Z5o]
 have g:=Y15q r
 exact z00)
abbrev Z5p (x:YE):Ct:=⟨27,[],[Ysi x],Y1aj x,.sv (Y19d x 0)⟩
def Z4z (x:YE):Lp Nat:=let v2:Cell:=.y;let v1:List AC:=[.val v2,.val v2,vI 0,vI 0,vI 0];.mk 32 0 (λx_1=>[(2,.y 0),(3,.y 1),(17,ll (x.Ma.map Ykn)),(18,li (x.Ma.map Ykn).length),(19,hs x_1 0)]) (λx_1=>[.box v1,.box [.ref 2,.ref 3,vI x.Sb,vI x.Va,vI x.Sc],.Ac x.Ba,ho x_1 1]) (λk=>[.s (li k),.o (.Ad (x.Ma.take k))]) (λk=>k<=x.Ma.length/\x.Ma.length<=9223372036854775807) (λk=>x.Ma.length - k) [.mk True (.exit 0) (λx=>[(2,.y 0),(3,.y 1)]) (λx_1=>[.box v1,.box [.ref 2,.ref 3,vI x.Sb,vI x.Va,vI x.Sc],.Ac x.Ba,ho x_1 0]) [.o (.Ad x.Ma)]]
theorem Zfe (x:YE) (h:wX x<=1048576):Lp.Sem prog (Yks f27 0) (Z4z x):=Yl0 (λk=>let v1:=x.Ma.g k;let v2:=x.Ma.take k;.i ((k:Int)<(x.Ma.map Ykn).length) (.x (k:Int) (x.Ma.map Ykn) (Ynw v1) (.w (.draw [(4,[9,10,11]),(5,[3,17]),(7,[1])]) (.d [.rd] (Z5o v1) (.p (((v2.map Ykn).length+1) * 72<=140737488355328) (.r ((k:Int)+1) (.g [0,1,2,18] (k+1) [.s (li ((k:Int)+1)),.o (.y 3 (v2.map Ykn++[Ynw v1]))])))))) (.o 0 [0,1,2,3] [.o (.Ad v2)])) (by
 intro k h;try dsimp only[Ykd,Yko,Z4z]at h|-
 have g:=Y12h x
 have g2:=@Yl3 _ wR x.Ma (x.Ma.g k)
 exact z06)
theorem Zai (x:YE) (h:wX x<=1048576):Z5p x:=Ykr call27 func27 (.w (.draw [(11,[18])]) (.d [.rd] (Z86 x.Ba) (.z Ykn x.Ma (.w (.g (.nilbox 18 1 true 3)) (.l (Z4z x) (Zfe x h) [1,18,4,19] [.s (li 0),.o (.y 3 [])] 0 (.t (.f [2,3] [.Ac x.Ba,.Ad x.Ma] (.sv (.agg [.ref 0,.ref 1,vI x.Sb,vI x.Va,vI x.Sc]))) .q)))))) (by
 dsimp only[Ykd,Z5p,Yko,Z4z]
 have g:=Y12h x
 exact z00)
def nxR (s Ka:Int):Int:=s+1+(Ka - s - 1) % 3
def nxt (s Ka:Int):Int:=if nxR s Ka<=99999 then nxR s Ka else 0
theorem Yyy {s Ka n:Int}(h0:0<=s) (hk:1<=Ka/\Ka<=3) (hn:s<n/\n<=nxR s Ka/\n<=99999):(Yna n=Ka ↔ n=nxR s Ka):=by
 unfold Yna nxR at *
 split
 ·split<;>omega
 ·omega
theorem Yrg {s Ka:Int}:s<nxR s Ka/\nxR s Ka<=s+3:=by unfold nxR;omega
def nxB (s Ka:Int):Bool:=decide (nxR s Ka<=99999)
def nxS (s Ka:Int):Int:=if nxR s Ka<=99999 then nxR s Ka else s
def cdF (c e:Int):Int:=if c=0 then e else c
abbrev stO (x:YE) (z c:Int):List Ob:=[.box [.ref 1,.ref 2,vI x.Sb,vI x.Va,vI x.Sc,vI z,vI c],.arr true 4 (x.Ba.map Ykc),.arr true 3 (x.Ma.map Ykn)]
abbrev stI (x:YE) (z:Int):List Ob:=[.box [.ref 1,.ref 2,vI x.Sb,vI x.Va,vI x.Sc,vI z],.arr true 4 (x.Ba.map Ykc),.arr true 3 (x.Ma.map Ykn)]
abbrev Zcr (x:YE) (z:Int) (c:Int) (e:Int):Ct:=⟨48,stO x z c,[.y 0,li e],stO x z (cdF c e),.sv (.agg [vI 0,vI 0,.val (.y),vI 0,vI 0,vS (mkS []),.val (.y),.val (.y)])⟩
theorem Z9y (x:YE) (z c e:Int):Zcr x z c e:=Ykr call48 func48 (let v2:Cell:=.y;let v1:AV:=.sv (.agg [vI 0,vI 0,.val v2,vI 0,vI 0,vS (mkS []),.val v2,.val v2]);.i (c=0) (.f [] [.box [.ref 1,.ref 2,vI x.Sb,vI x.Va,vI x.Sc,vI z,vI e],.Ac x.Ba,.Ad x.Ma] v1) (.f [] [.box [.ref 1,.ref 2,vI x.Sb,vI x.Va,vI x.Sc,vI z,vI c],.Ac x.Ba,.Ad x.Ma] v1)) (by
 dsimp only[Ykd,Zcr]
 exact z0x)
abbrev Z91 (s:Int) (Ka:Int):Ct:=⟨119,[],[li s,li Ka],[],.sv (li (nxt s Ka))⟩
def Z5q (s:Int) (Ka:Int):Lp (Int):=.mk 23 0 (λx=>[(0,li s),(1,li Ka),(5,hs x 0)]) (λx=>[]) (λk=>[.s (li k)]) (λk=>s+1<=k/\k<=nxR s Ka/\k<=100000) (λk=>(nxR s Ka - k).toNat) [.mk (nxB s Ka=false) (.exit 0) (λx=>[]) (λx=>[]) [],.mk (nxB s Ka) .ret (λx=>[(4,hs x 0)]) (λx=>[]) [.s (li (nxR s Ka))]]
theorem Zgn (s:Int) (Ka:Int) (h:0<=s/\s<=99999/\1<=Ka/\Ka<=3):Lp.Sem prog (Yks f119 0) (Z5q s Ka):=Yl0 (λk=>.i (k<=99999) (.r (s+3) (.i (k<=s+3) (.c [.rd] (Z9r k) (.i (Yna k=Ka) (.o 1 [] [.s (li k)]) (.r (k+1) (.g [] (k+1) [.s (li (k+1))])))) (.o 0 [] []))) (.y false (.o 0 [] []))) (by
 intro k h;try dsimp only[Ykd,Yko,Z5q]at h|-
 have g1:=@Yyy s Ka k
 have g2:=@Yrg s Ka
 have g3:nxR s Ka<=99999->nxB s Ka:=λh=>bM h
 have g4:¬ nxR s Ka<=99999->nxB s Ka=false:=λh=>bK h
 with_reducible repeat' (first|apply ah|exact zR|(intro))
 all_goals ((try simp only[std,inj]at *);with_reducible and_intros)
 all_goals try first|exact z
 all_goals (try first|exact g3 oW|exact g4 oW)
 all_goals grind)
theorem Zg0 (s Ka:Int) (h:0<=s/\s<=99999/\1<=Ka/\Ka<=3):Z91 s Ka:=Ykr call119 func119 (.r (s+1) (.l (Z5q s Ka) (Zgn s Ka h) [] [.s (li (s+1))] (s+1) (.t (.s (li 0)) (.t (.s (li (nxR s Ka))) .q)))) (by
 dsimp only[Ykd,Z91,Yko,Z5q]
 have g2:=@Yrg s Ka
 have g3:nxB s Ka->nxt s Ka=nxR s Ka:=λh=>ae (dC h)
 have g4:nxB s Ka=false->nxt s Ka=0:=λh=>ab (of_decide_eq_false h)
 with_reducible repeat' (first|apply ah|exact zR|(intro))
 all_goals ((try simp only[std,inj]at *);with_reducible and_intros)
 all_goals try first|exact z
 all_goals (try first|exact(g3 tW).symm|exact(g4 tW).symm))
def bdE (x:YE) (t:ByteArray) (s:List Int):Int:=if Ymo x.Ba t s then 4 else if 1000<=(x.Ba.length:Int) then 8 else 0
def bdL (x:YE) (id:YS_) (Ka n:Int):List YB:=if bdE x id.Ta id.Sa=0 then x.Ba++[⟨id.Ta,id.Sa,Ka,n⟩] else x.Ba
theorem Y1xz {x:YE}{id:YS_}{Ka n:Int}(h:bdE x id.Ta id.Sa=0):bdL x id Ka n=x.Ba++[⟨id.Ta,id.Sa,Ka,n⟩]:=ae h
def Y1ls (L:List YB) (b:YB):List YB:=if 1000<=(L.length:Int)\/Ymo L b.Ta b.Sa then L else L++[b]
theorem Y1i5 {L:List YB}{b:YB}(h:1000<=(L.length:Int)\/Ymo L b.Ta b.Sa):Y1ls L b=L:=ae h
theorem Y1do {L:List YB}{b:YB}(h:¬ (1000<=(L.length:Int)\/Ymo L b.Ta b.Sa)):Y1ls L b=L++[b]:=ab h
def bvE (x:YE) (id:YS_):Int:=if 99999<=x.Va then 8 else bdE x id.Ta id.Sa
def bmE (x:YE) (id:YS_):Int:=if 200<=(x.Ma.length:Int) then 8 else bdE x id.Ta id.Sa
def bmL (x:YE) (r:YR_):List YR_:=if 200<=(x.Ma.length:Int) then x.Ma else x.Ma++[r]
end
section
abbrev Ze9 (L:List Int) (n:Int):Ct:=⟨157,[],[Ag L,li n],[],.sv (lb (decide (n∈L)))⟩
def Z73 (L:List Int) (n:Int):Lp Nat:=.mk 17 0 (λx=>[(1,li n),(7,Ag L),(8,li (L.map Yke).length),(9,hs x 0)]) (λx=>[]) (λk=>[.s (li k)]) (λk=>k<=L.length/\L.length<=9223372036854775807/\decide (n∈L.take k)=false) (λk=>L.length - k) [.mk (decide (n∈L)=false) (.exit 0) (λx=>[]) (λx=>[]) [],.mk (decide (n∈L)) .ret (λx=>[(4,hs x 0)]) (λx=>[]) [.s (lb true)]]
theorem Zhq (L:List Int) (n:Int):Lp.Sem prog (Yks f157 0) (Z73 L n):=Yl0 (λk=>.i ((k:Int)<(L.map Yke).length) (.x (k:Int) (L.map Yke) [cI (L.getD k 0)] (.i (L.getD k 0=n) (.o 1 [] [.s (lb true)]) (.r ((k:Int)+1) (.g [] (k+1) [.s (li ((k:Int)+1))])))) (.o 0 [] [])) (by
 intro k h;try dsimp only[Ykd,Yko,Z73]at h|-
 exact z08)
theorem Zk5 (L:List Int) (n:Int):Ze9 L n:=Ykr call157 func157 (.z Yke L (.l (Z73 L n) (Zhq L n) [] [.s (li 0)] 0 (.t (.s (lb false)) (.t (.s (lb true)) .q)))) (by
 dsimp only[Ykd,Ze9,Yko,Z73]
 exact zV)
abbrev Zcs (L:List Int) (n:Int):Ct:=⟨161,[],[Ag L,li n],[],.sv (lb (decide (n∈L)))⟩
def Z5r (L:List Int) (n:Int):Lp Nat:=.mk 17 0 (λx=>[(1,li n),(7,Ag L),(8,li (L.map Yke).length),(9,hs x 0)]) (λx=>[]) (λk=>[.s (li k)]) (λk=>k<=L.length/\L.length<=9223372036854775807/\decide (n∈L.take k)=false) (λk=>L.length - k) [.mk (decide (n∈L)=false) (.exit 0) (λx=>[]) (λx=>[]) [],.mk (decide (n∈L)) .ret (λx=>[(4,hs x 0)]) (λx=>[]) [.s (lb true)]]
theorem Zgo (L:List Int) (n:Int):Lp.Sem prog (Yks f161 0) (Z5r L n):=Yl0 (λk=>.i ((k:Int)<(L.map Yke).length) (.x (k:Int) (L.map Yke) [cI (L.getD k 0)] (.i (L.getD k 0=n) (.o 1 [] [.s (lb true)]) (.r ((k:Int)+1) (.g [] (k+1) [.s (li ((k:Int)+1))])))) (.o 0 [] [])) (by
 intro k h;try dsimp only[Ykd,Yko,Z5r]at h|-
 exact z08)
theorem Zjq (L:List Int) (n:Int):Zcs L n:=Ykr call161 func161 (.z Yke L (.l (Z5r L n) (Zgo L n) [] [.s (li 0)] 0 (.t (.s (lb false)) (.t (.s (lb true)) .q)))) (by
 dsimp only[Ykd,Zcs,Yko,Z5r]
 exact zV)
def Yog (A B:List Int):Bool:=A.all λn=>decide (n∈B)
abbrev Zea (A:List Int) (B:List Int):Ct:=⟨186,[],[Ag A,Ag B],[],.sv (lb (Yog A B))⟩
def Z74 (A:List Int) (B:List Int):Lp Nat:=.mk 18 0 (λx=>[(1,Ag B),(7,Ag A),(8,li (A.map Yke).length),(9,hs x 0)]) (λx=>[]) (λk=>[.s (li k)]) (λk=>k<=A.length/\A.length<=9223372036854775807/\Yog (A.take k) B) (λk=>A.length - k) [.mk (Yog A B) (.exit 0) (λx=>[]) (λx=>[]) [],.mk (Yog A B=false) .ret (λx=>[(4,hs x 0)]) (λx=>[]) [.s (lb false)]]
theorem Zhr (A:List Int) (B:List Int):Lp.Sem prog (Yks f186 0) (Z74 A B):=Yl0 (λk=>.i ((k:Int)<(A.map Yke).length) (.x (k:Int) (A.map Yke) [cI (A.getD k 0)] (.c [.rd,.rd] (Zk5 B (A.getD k 0)) (.b (!decide (A.getD k 0∈B)) (.o 1 [] [.s (lb false)]) (.r ((k:Int)+1) (.g [] (k+1) [.s (li ((k:Int)+1))]))))) (.o 0 [] [])) (by
 intro k h;try dsimp only[Ykd,Yko,Z74]at h|-
 exact z0y)
theorem Zhs (A B:List Int):Zea A B:=Ykr call186 func186 (.z Yke A (.l (Z74 A B) (Zhr A B) [] [.s (li 0)] 0 (.t (.s (lb true)) (.t (.s (lb false)) .q)))) (by
 dsimp only[Ykd,Zea,Yko,Z74]
 exact z0z)
abbrev Zeb (A:List Int) (B:List Int):Ct:=⟨118,[],[Ag A,Ag B],[],.sv (lb (Yog A B))⟩
def Z75 (A:List Int) (B:List Int):Lp Nat:=.mk 18 0 (λx=>[(1,Ag B),(7,Ag A),(8,li (A.map Yke).length),(9,hs x 0)]) (λx=>[]) (λk=>[.s (li k)]) (λk=>k<=A.length/\A.length<=9223372036854775807/\Yog (A.take k) B) (λk=>A.length - k) [.mk (Yog A B) (.exit 0) (λx=>[]) (λx=>[]) [],.mk (Yog A B=false) .ret (λx=>[(4,hs x 0)]) (λx=>[]) [.s (lb false)]]
theorem Zht (A:List Int) (B:List Int):Lp.Sem prog (Yks f118 0) (Z75 A B):=Yl0 (λk=>.i ((k:Int)<(A.map Yke).length) (.x (k:Int) (A.map Yke) [cI (A.getD k 0)] (.c [.rd,.rd] (Zjq B (A.getD k 0)) (.b (!decide (A.getD k 0∈B)) (.o 1 [] [.s (lb false)]) (.r ((k:Int)+1) (.g [] (k+1) [.s (li ((k:Int)+1))]))))) (.o 0 [] [])) (by
 intro k h;try dsimp only[Ykd,Yko,Z75]at h|-
 exact z0y)
theorem Zec (A B:List Int):Zeb A B:=Ykr call118 func118 (.z Yke A (.l (Z75 A B) (Zht A B) [] [.s (li 0)] 0 (.t (.s (lb true)) (.t (.s (lb false)) .q)))) (by
 dsimp only[Ykd,Zeb,Yko,Z75]
 exact z0z)
def Yr5 (t:ByteArray) (s:List Int) (b:YB):Bool:=decide (b.Ta=t)&&Yog b.Sa s
def cnd (L:List YB) (t:ByteArray) (s:List Int):List YB:=L.filter (Yr5 t s)
theorem Y1c7 {L:List YB}{t:ByteArray}{s:List Int}{k:Nat}(h:k<L.length):cnd (L.take (k+1)) t s=if Yr5 t s (L.g k) then cnd (L.take k) t s++[L.g k] else cnd (L.take k) t s:=by
 unfold cnd;rw[Yku h,dx]
 by_cases e:Yr5 t s (L.g k)
 ·rw[ae e,List.filter_cons_of_pos e];rfl
 ·rw[ab e,List.filter_cons_of_neg e];simp
theorem Y1wl (L:List YB) (t:ByteArray) (s:List Int) (k:Nat):(cnd (L.take k) t s).length<=k:=by
 have h1:=cN (Yr5 t s) (L.take k)
 have h2:(L.take k).length<=k:=by rw[au];exact Nat.min_le_left _ _
 unfold cnd;omega
abbrev Z92 (L:List YB) (y:YS_):Ct:=⟨185,[],[Aj L,Ykx y],[],.sv (Aj (cnd L y.Ta y.Sa))⟩
def Z5s (L:List YB) (y:YS_):Lp Nat:=.mk 33 0 (λx=>[(3,.y 0),(5,.r 1),(9,Aj L),(10,li (L.map Ykc).length),(11,hs x 0)]) (λx=>[.box (vals (Yki y)),ho x 1]) (λk=>[.s (li k),.o (.arr false 4 ((cnd (L.take k) y.Ta y.Sa).map Ykc))]) (λk=>k<=L.length/\L.length<=9223372036854775807) (λk=>L.length - k) [.mk True (.exit 0) (λx=>[(5,.r 0)]) (λx=>[ho x 0]) [.o (.arr false 4 ((cnd L y.Ta y.Sa).map Ykc))]]
theorem Zgp (L:List YB) (y:YS_) (h:L.length<=1000000001):Lp.Sem prog (Yks f185 0) (Z5s L y):=Yl0 (λk=>let v5:=cnd (L.take k) y.Ta y.Sa;let v1:=v5.map Ykc;let v2:=(k:Int)+1;let v3:=L.g k;let v4:Tq _ _:=.r v2 (.g [0,1] (k+1) [.s (li v2),.o (.arr false 4 v1)]);.i ((k:Int)<(L.map Ykc).length) (.x (k:Int) (L.map Ykc) (Yl6 v3) (.i (v3.Ta.data.toList=y.Ta.data.toList) (.c [.rd,.rd] (Zhs v3.Sa y.Sa) (.b (Yog v3.Sa y.Sa) (.p ((v1.length+1) * 56<=140737488355328) (.r v2 (.g [0,4] (k+1) [.s (li v2),.o (.arr false 4 (v5.map Ykc++[Yl6 v3]))]))) v4)) (.y false v4))) (.o 0 [1] [.o (.arr false 4 v1)])) (by
 intro k h;try dsimp only[Ykd,Yko,Z5s]at h|-
 have g1:=@Y1c7 L y.Ta y.Sa k
 have g2:=Y1wl L y.Ta y.Sa k
 have g3:L.length<=k->L.take k=L:=λh=>av h
 with_reducible repeat' (first|apply ah|exact zR|(intro))
 all_goals ((try simp only[std,inj]at *);with_reducible and_intros)
 all_goals try first|exact z|grind[Yr5,Yo9,Ykl,Ykm,Ykf])
theorem Z65 (L:List YB) (y:YS_) (h:L.length<=1000000001):Z92 L y:=Ykr call185 func185 (.w (.bool true) (.z Ykc L (.l (Z5s L y) (Zgp L y h) [0,1] [.s (li 0),.o (.arr false 4 [])] 0 (.t (.w (.g (.lock 0)) (.s (Aj (cnd L y.Ta y.Sa)))) .q)))) (by
 dsimp only[Ykd,Z92,Yko,Z5s]
 have g1:cnd (L.take 0) y.Ta y.Sa=[]:=rfl
 exact zV)
def Yss (a b:YB):YB:=if a.Sa.length<b.Sa.length then b else a
def Ynh (C:List YB):YB:=C.foldl Yss (C.g 0)
theorem Y1rf (x:YB):Ynh [x]=x:=by simp[Ynh,Yss]
theorem Y1a2 {C:List YB}(x:YB) (h:C≠[]):Ynh (C++[x])=Yss (Ynh C) x:=by
 cases C with
 | nil=>exact absurd rfl h
 | cons a r=>simp only[Ynh,cO];rfl
def amb (C:List YB):Bool:=C.all λb=>Yog b.Sa (Ynh C).Sa
def rsC (L:List YB) (t:ByteArray) (s:List Int):Int:=if cnd L t s=[] then 0 else if amb (cnd L t s) then 1 else 2
def rsB (L:List YB) (t:ByteArray) (s:List Int):YB:=if rsC L t s=1 then Ynh (cnd L t s) else ⟨mkS [],[],0,0⟩
theorem Y1q3 {C:List YB}:∀ (a:YB),C.foldl Yss a=a\/C.foldl Yss a∈C:=by
 induction C with
 | nil=>intro a;exact .inl rfl
 | cons x r ih=>
  intro a
  rw[bL]
  rcases ih (Yss a x) with h|h
  ·rw[h];unfold Yss;split
   ·exact .inr aj
   ·exact .inl rfl
  ·exact .inr (ai _ h)
theorem Y151 {C:List YB}(h:C≠[]):Ynh C∈C:=by
 cases C with
 | nil=>exact absurd rfl h
 | cons a r=>
  rcases Y1q3 (C:=a :: r) ((a :: r).g 0) with h|h
  ·unfold Ynh;rw[h];exact aj
  ·exact h
theorem Y22m (L:List YB) (t:ByteArray) (s:List Int):sumBy wB (cnd L t s)<=sumBy wB L:=by
 induction L with
 | nil=>exact aD _
 | cons x r ih=>
  unfold cnd at ih|-
  by_cases e:Yr5 t s x
  ·rw[List.filter_cons_of_pos e];simp only[sumBy];omega
  ·rw[List.filter_cons_of_neg e];simp only[sumBy];omega
theorem Y1p2 {L:List YB}{t:ByteArray}{s:List Int}(h:cnd L t s≠[]):wB (Ynh (cnd L t s))<=sumBy wB L:=by
 have h1:=Yl3 wB (Y151 h)
 have h2:=Y22m L t s
 omega
theorem Y1qb {C:List YB}{k:Nat}(hk:k<C.length) (h:Yog (C.g k).Sa (Ynh C).Sa=false):amb C=false:=by
 unfold amb;rw[bX];exact⟨_,Ykg hk,by rw[h];decide⟩
def Y14c (C:List YB) (k:Nat):Bool:=(C.take k).all λb=>Yog b.Sa (Ynh C).Sa
theorem Y1oh {C:List YB}{k:Nat}(hk:k<C.length) (h0:Y14c C k) (h:Yog (C.g k).Sa (Ynh C).Sa):Y14c C (k+1):=by
 unfold Y14c at *;rw[Yku hk,cC,h0];simpa using h
theorem Y1qf {C:List YB}{k:Nat}(hk:C.length<=k) (h0:Y14c C k):amb C:=by
 unfold Y14c at h0;rwa [av hk]at h0
abbrev Zaj (L:List YB) (y:YS_):Ct:=⟨147,[],[Aj L,Ykx y],[],.tup [Yw1 (rsB L y.Ta y.Sa),li (rsC L y.Ta y.Sa)]⟩
def Z76 (L:List YB) (y:YS_):Lp Nat:=let v1:=cnd L y.Ta y.Sa;let v5:Cell:=.y;let v2:=[vS (mkS []),.val v5,vI 0,vI 0];let v3:=(4,.y 0);let v4:List Ob:=[.box v2,.box (vals (Yl6 (Ynh v1)))];.mk 56 0 (λx=>[v3,(7,.y 1),(37,Aj v1),(38,li (v1.map Ykc).length),(39,hs x 0)]) (λx=>v4) (λk=>[.s (li k)]) (λk=>k<=v1.length/\v1.length<=9223372036854775807/\0<v1.length/\Y14c v1 k) (λk=>v1.length - k) [.mk (amb v1) (.exit 2) (λx=>[v3,(7,.y 1)]) (λx=>v4) [],.mk (amb v1=false) .ret (λx=>[v3,(5,hs x 1)]) (λx=>[ho x 0]) [.o (.box [vS (mkS []),.val v5,vI 0,vI 0]),.s (li 2)]]
def Z77 (L:List YB) (y:YS_):Lp Nat:=let v1:=cnd L y.Ta y.Sa;let v2:=[vS (mkS []),.val (.y),vI 0,vI 0];let v3:=v1.map Ykc;.mk 56 0 (λx=>[(4,.y 0),(6,ll v3),(7,.y 1),(22,ll v3),(23,li (v1.map Ykc).length),(24,hs x 0)]) (λx=>[.box v2,ho x 1]) (λk=>[.s (li k),.o (.box (vals (Yl6 (List.foldl Yss (v1.g 0) (v1.take k)))))]) (λk=>k<=v1.length/\v1.length<=9223372036854775807/\0<v1.length) (λk=>v1.length - k) [.mk True (.exit 0) (λx=>[(4,.y 0),(6,ll v3),(7,.y 1)]) (λx=>[.box v2,ho x 0]) [.o (.box (vals (Yl6 (Ynh v1))))]]
theorem Zhu (L:List YB) (y:YS_) (h:L.length<=1000000001/\sumBy wB L<=1000000001):Lp.Sem prog (Yks f147 1) (Z76 L y):=Yl0 (λk=>let v1:=cnd L y.Ta y.Sa;let v2:=v1.g k;.i ((k:Int)<(v1.map Ykc).length) (.x (k:Int) (v1.map Ykc) (Yl6 v2) (.c [.rd,.rd] (Zhs v2.Sa (Ynh v1).Sa) (.b (!Yog v2.Sa (Ynh v1).Sa) (.o 1 [0] [.o (.box [vS (mkS []),.val (.y),vI 0,vI 0]),.s (li 2)]) (.r ((k:Int)+1) (.g [0,1] (k+1) [.s (li ((k:Int)+1))]))))) (.o 0 [0,1] [])) (by
 intro k h;try dsimp only[Ykd,Yko,Z76]at h|-
 have g1:=@Y1qb (cnd L y.Ta y.Sa) k
 have g2:=@Y1oh (cnd L y.Ta y.Sa) k
 have g3:=@Y1qf (cnd L y.Ta y.Sa) k
 exact z00)
theorem Zhv (L:List YB) (y:YS_) (h:L.length<=1000000001/\sumBy wB L<=1000000001):Lp.Sem prog (Yks f147 0) (Z77 L y):=Yl0 (λk=>let v4:=cnd L y.Ta y.Sa;let v1:=List.foldl Yss (v4.g 0) (v4.take k);let v2:=v4.g k;let v3:=(k:Int)+1;.i ((k:Int)<(v4.map Ykc).length) (.x (k:Int) (v4.map Ykc) (Yl6 v2) (.z Yke v2.Sa (.z Yke v1.Sa (.i (((v1.Sa.map Yke).length:Int)<((v2.Sa.map Yke).length:Int)) (.r v3 (.g [0,1] (k+1) [.s (li v3),.o (.box (vals (Yl6 v2)))])) (.r v3 (.g [0,1] (k+1) [.s (li v3),.o (.box (vals (Yl6 v1)))])))))) (.o 0 [0,1] [.o (.box (vals (Yl6 v1)))])) (by
 intro k h;try dsimp only[Ykd,Yko,Z77]at h|-
 have g1:=@Yrk _ _ _ Yss ((cnd L y.Ta y.Sa).g 0) (cnd L y.Ta y.Sa) k
 have g2:∀ a b,Yss a b=if a.Sa.length<b.Sa.length then b else a:=λ_ _=>rfl
 have g3:(cnd L y.Ta y.Sa).length<=k->(cnd L y.Ta y.Sa).take k=cnd L y.Ta y.Sa:=λh=>av h
 have g4:Ynh (cnd L y.Ta y.Sa)=(cnd L y.Ta y.Sa).foldl Yss ((cnd L y.Ta y.Sa).g 0):=rfl
 exact z00)
theorem Zhw (L:List YB) (y:YS_) (h:L.length<=1000000001/\sumBy wB L<=1000000001):Zaj L y:=Ykr call147 func147 (let v1:=cnd L y.Ta y.Sa;let v2:=Yl6 (v1.g 0);let v3:=Yl6 (Ynh v1);.d [.rd,.rd] (Z92 L y) (.z Ykc v1 (.i (((v1.map Ykc).length:Int)=0) (.w (.g (.nilbox 1 1 true 1)) (.w (.g (.lock 2)) (.f [] [] (.tup [.agg [vS (mkS []),vL [],vI 0,vI 0],li 0])))) (.w (.cells v2) (.p ((0:Int)<=0/\(v1.map Ykc)[0]? = some v2) (.z Ykc v1 (.l (Z77 L y) (Zhv L y h) [1,2] [.s (li 0),.o (.box (vals v2))] 0 (.t (.z Ykc v1 (.l (Z76 L y) (Zhu L y h) [0,1] [.s (li 0)] 0 (.t (.d [.rd] (Z3z [Ynh v1]) (.p ((0:Int)<=0/\0<1) (.w (.cells v3) (.p (some v3=some v3) (.w (.g (.lock 3)) (.f [] [] (.tup [.agg (vals v3),li 1]))))))) (.t (.w (.g (.nilbox 0 1 true 1)) (.w (.g (.lock 1)) (.f [] [] (.tup [.agg [vS (mkS []),vL [],vI 0,vI 0],li 2])))) .q)))) .q)))))))) (by
 dsimp only[Ykd,Zaj,Yko,Z77,Z76]
 have g1:0<(cnd L y.Ta y.Sa).length->cnd L y.Ta y.Sa≠[]:=λh=>List.length_pos_iff.1 h
 have g2:(cnd L y.Ta y.Sa).length=0->cnd L y.Ta y.Sa=[]:=λh=>List.length_eq_zero_iff.1 h
 have g3:=@Y1p2 L y.Ta y.Sa
 have g4:rsC L y.Ta y.Sa=if cnd L y.Ta y.Sa=[] then 0 else if amb (cnd L y.Ta y.Sa) then 1 else 2:=rfl
 have g5:rsC L y.Ta y.Sa=1->rsB L y.Ta y.Sa=Ynh (cnd L y.Ta y.Sa):=λh=>ae h
 have g6:¬ rsC L y.Ta y.Sa=1->rsB L y.Ta y.Sa=⟨mkS [],[],0,0⟩:=λh=>ab h
 have g7:Y14c (cnd L y.Ta y.Sa) 0:=rfl
 have g8:∀ b:YB,[b].g 0=b:=λb=>rfl
 have g9:sumBy wB [Ynh (cnd L y.Ta y.Sa)]=wB (Ynh (cnd L y.Ta y.Sa)):=rfl
 have p1:¬ rsC L y.Ta y.Sa=1->SV.agg [vS (mkS []),vL [],vI 0,vI 0]=SV.agg (vals (Yl6 (rsB L y.Ta y.Sa))):=λh=>by rw[g6 h];rfl
 have p2:rsC L y.Ta y.Sa=1->SV.agg [vS (Ynh (cnd L y.Ta y.Sa)).Ta,vL ((Ynh (cnd L y.Ta y.Sa)).Sa.map Yke),vI (Ynh (cnd L y.Ta y.Sa)).Ka,vI (Ynh (cnd L y.Ta y.Sa)).Na]=SV.agg (vals (Yl6 (rsB L y.Ta y.Sa))):=λh=>by rw[g5 h];rfl
 exact z00)
def bsI (L:List YB) (t:ByteArray) (s:List Int):Nat->Int
 | 0 => -1
 | k+1=>if Yr5 t s (L.g k)/\(bsI L t s k<0\/(L.g (bsI L t s k).toNat).Sa.length<(L.g k).Sa.length) then (k:Int) else bsI L t s k
theorem Y17j (L:List YB) (t:ByteArray) (s:List Int):∀ k,k<=L.length -> -1<=bsI L t s k/\bsI L t s k<k/\(bsI L t s k<0 ↔ cnd (L.take k) t s=[])/\(0<=bsI L t s k->L.g (bsI L t s k).toNat=Ynh (cnd (L.take k) t s))
 | 0,_=>by simp[bsI,cnd]
 | k+1,hk=>by
  obtain⟨h1,h2,h3,h4⟩:=Y17j L t s k oW
  have e:=@Y1c7 L t s k oW
  simp only[bsI]
  by_cases c:Yr5 t s (L.g k)
  ·rw[ae c]at e
   by_cases c2:bsI L t s k<0
   ·rw[ae ⟨c,.inl c2⟩,e,h3.1 c2]
    refine⟨by omega,by omega,⟨λh=>by omega,λh=>by simp at h⟩,λ_ => ?_⟩
    rw[cF,bt,Y1rf]
   ·have hne:cnd (L.take k) t s≠[]:=λh=>c2 (h3.2 h)
    have hb:=h4 oW
    by_cases c3:(L.g (bsI L t s k).toNat).Sa.length<(L.g k).Sa.length
    ·rw[ae ⟨c,.inr c3⟩,e]
     refine⟨by omega,by omega,⟨λh=>by omega,λh=>by simp at h⟩,λ_ => ?_⟩
     rw[cF,Y1a2 _ hne,Yss,ae (by rw[<- hb];exact c3)]
    ·rw[ab (by rintro⟨_,h|h⟩<;>contradiction),e]
     refine⟨h1,by omega,⟨λh=>absurd h c2,λh=>by simp at h⟩,λ_ => ?_⟩
     rw[Y1a2 _ hne,Yss,ab (by rw[<- hb];exact c3)];exact hb
  ·rw[ab (λh=>c h.1),e,ab c]
   exact⟨h1,by omega,h3,h4⟩
def Y14l (L:List YB) (t:ByteArray) (s:List Int) (k:Nat):Bool:=(L.take k).all λb => !Yr5 t s b||Yog b.Sa (Ynh (cnd L t s)).Sa
theorem Y1pn {L:List YB}{t:ByteArray}{s:List Int}{k:Nat}(hk:k<L.length) (h0:Y14l L t s k) (h:Yr5 t s (L.g k)=false\/Yog (L.g k).Sa (Ynh (cnd L t s)).Sa):Y14l L t s (k+1):=by
 unfold Y14l at *;rw[Yku hk,cC,h0];simpa using h
theorem Y1rk {L:List YB}{t:ByteArray}{s:List Int}{k:Nat}(hk:L.length<=k) (h0:Y14l L t s k):amb (cnd L t s):=by
 unfold Y14l at h0;rw[av hk,am]at h0
 unfold amb;rw[am]
 intro x hx
 have h1:=List.mem_filter.1 hx
 have:=h0 x h1.1
 rw[h1.2]at this;simpa using this
theorem Y1my {L:List YB}{t:ByteArray}{s:List Int}{k:Nat}(hk:k<L.length) (h1:Yr5 t s (L.g k)) (h:Yog (L.g k).Sa (Ynh (cnd L t s)).Sa=false):amb (cnd L t s)=false:=by
 unfold amb;rw[bX];exact⟨_,List.mem_filter.2 ⟨Ykg hk,h1⟩,by rw[h];decide⟩
abbrev Z3e (L:List YB) (y:YS_):Ct:=⟨71,[],[Aj L,Ykx y],Y1dm (rsB L y.Ta y.Sa),.tup [Y1de (rsB L y.Ta y.Sa) 0,li (rsC L y.Ta y.Sa)]⟩
def Z78 (L:List YB) (y:YS_):Lp Nat:=let v4:Cell:=.y;let v1:=[vS (mkS []),.val v4,vI 0,vI 0];let v2:=(6,li (bsI L y.Ta y.Sa L.length));let v3:=L.map Ykc;.mk 87 0 (λx=>[(0,ll v3),(3,.y 0),(4,.y 1),v2,(51,ll v3),(52,li (L.map Ykc).length),(53,hs x 0)]) (λx=>[.box (vals (Yki y)),.box v1]) (λk=>[.s (li k)]) (λk=>k<=L.length/\L.length<=9223372036854775807/\0<=bsI L y.Ta y.Sa L.length/\Y14l L y.Ta y.Sa k) (λk=>L.length - k) [.mk (amb (cnd L y.Ta y.Sa)) (.exit 2) (λx=>[(0,ll v3),(4,.y 0),v2]) (λx=>[.box v1]) [],.mk (amb (cnd L y.Ta y.Sa)=false) .ret (λx=>[(4,.y 0),(5,hs x 1)]) (λx=>[ho x 0]) [.o (.box [vS (mkS []),.val v4,vI 0,vI 0]),.s (li 2)]]
def Z79 (L:List YB) (y:YS_):Lp Nat:=let v1:List Ob:=[.box (vals (Yki y)),.box [vS (mkS []),.val (.y),vI 0,vI 0]];let v2:=L.map Ykc;.mk 87 0 (λx=>[(0,ll v2),(3,.y 0),(4,.y 1),(6,hs x 1),(11,ll v2),(12,li (L.map Ykc).length),(13,hs x 0)]) (λx=>v1) (λk=>[.s (li k),.s (li (bsI L y.Ta y.Sa k))]) (λk=>k<=L.length/\L.length<=9223372036854775807) (λk=>L.length - k) [.mk True (.exit 0) (λx=>[(0,ll v2),(3,.y 0),(4,.y 1),(6,hs x 0)]) (λx=>v1) [.s (li (bsI L y.Ta y.Sa L.length))]]
theorem Zhx (L:List YB) (y:YS_) (h:L.length<=1000000001/\sumBy wB L<=1000000001):Lp.Sem prog (Yks f71 1) (Z78 L y):=Yl0 (λk=>let v1:Tq _ _:=.r ((k:Int)+1) (.g [0,1] (k+1) [.s (li ((k:Int)+1))]);let v4:=bsI L y.Ta y.Sa L.length;let v2:=L.g v4.toNat;let v3:=L.g k;.i ((k:Int)<(L.map Ykc).length) (.x (k:Int) (L.map Ykc) (Yl6 v3) (.w (.draw []) (.i (v3.Ta.data.toList=y.Ta.data.toList) (.c [.rd,.rd] (Zec v3.Sa y.Sa) (.b (Yog v3.Sa y.Sa) (.x v4 (L.map Ykc) (Yl6 v2) (.c [.rd,.rd] (Zec v3.Sa v2.Sa) (.b (!Yog v3.Sa v2.Sa) (.o 1 [1] [.o (.box [vS (mkS []),.val (.y),vI 0,vI 0]),.s (li 2)]) v1))) (.y false v1))) (.y false (.y false v1))))) (.o 0 [1] [])) (by
 intro k h;try dsimp only[Ykd,Yko,Z78]at h|-
 have g1:=Y17j L y.Ta y.Sa L.length
 have g2:L.take L.length=L:=b9
 have g3:=@Y1pn L y.Ta y.Sa k
 have g4:=@Y1rk L y.Ta y.Sa k
 have g5:=@Y1my L y.Ta y.Sa k
 exact z10)
theorem Zhy (L:List YB) (y:YS_) (h:L.length<=1000000001/\sumBy wB L<=1000000001):Lp.Sem prog (Yks f71 0) (Z79 L y):=Yl0 (λk=>let v6:=(k:Int)+1;let v5:=bsI L y.Ta y.Sa k;let v1:Tq _ _:=.r v6 (.g [0,1] (k+1) [.s (li v6),.s (li v5)]);let v2:=L.g v5.toNat;let v3:Tq _ _:=.r v6 (.g [0,1] (k+1) [.s (li v6),.s (li k)]);let v4:=L.g k;.i ((k:Int)<(L.map Ykc).length) (.x (k:Int) (L.map Ykc) (Yl6 v4) (.w (.draw []) (.i (v4.Ta.data.toList=y.Ta.data.toList) (.c [.rd,.rd] (Zec v4.Sa y.Sa) (.b (Yog v4.Sa y.Sa) (.i (bsI L y.Ta y.Sa k<0) (.y true v3) (.x v5 (L.map Ykc) (Yl6 v2) (.z Yke v4.Sa (.z Yke v2.Sa (.i (((v2.Sa.map Yke).length:Int)<((v4.Sa.map Yke).length:Int)) v3 v1))))) (.y false v1))) (.y false (.y false v1))))) (.o 0 [0,1] [.s (li v5)])) (by
 intro k h;try dsimp only[Ykd,Yko,Z79]at h|-
 have g1:=Y17j L y.Ta y.Sa k
 have g2:bsI L y.Ta y.Sa (k+1)=if Yr5 y.Ta y.Sa (L.g k)/\(bsI L y.Ta y.Sa k<0\/(L.g (bsI L y.Ta y.Sa k).toNat).Sa.length<(L.g k).Sa.length) then (k:Int) else bsI L y.Ta y.Sa k:=rfl
 exact z10)
theorem Z59 (L:List YB) (y:YS_) (h:L.length<=1000000001/\sumBy wB L<=1000000001):Z3e L y:=Ykr call71 func71 (let v2:=bsI L y.Ta y.Sa L.length;let v1:=L.g v2.toNat;.z Ykc L (.l (Z79 L y) (Zhy L y h) [0,1] [.s (li 0),.s (li (-1:Int))] 0 (.t (.i (bsI L y.Ta y.Sa L.length<0) (.w (.g (.nilbox 1 1 true 1)) (.f [2] [.y 1 []] (.tup [.agg [vS (mkS []),.ref 0,vI 0,vI 0],li 0]))) (.z Ykc L (.l (Z78 L y) (Zhx L y h) [0,1] [.s (li 0)] 0 (.t (.x v2 (L.map Ykc) (Yl6 v1) (.d [.rd] (Z4x v1) (.f [1] [.Aa v1.Sa] (.tup [.agg [vS v1.Ta,.ref 0,vI v1.Ka,vI v1.Na],li 1])))) (.t (.w (.g (.nilbox 0 1 true 1)) (.f [1] [.y 1 []] (.tup [.agg [vS (mkS []),.ref 0,vI 0,vI 0],li 2]))) .q))))) .q))) (by
 dsimp only[Ykd,Z3e,Yko,Z79,Z78]
 have g1:=Y17j L y.Ta y.Sa L.length
 have g2:L.take L.length=L:=b9
 have g3:=@Y1p2 L y.Ta y.Sa
 have g4:rsC L y.Ta y.Sa=if cnd L y.Ta y.Sa=[] then 0 else if amb (cnd L y.Ta y.Sa) then 1 else 2:=rfl
 have g5:rsC L y.Ta y.Sa=1->rsB L y.Ta y.Sa=Ynh (cnd L y.Ta y.Sa):=λh=>ae h
 have g6:¬ rsC L y.Ta y.Sa=1->rsB L y.Ta y.Sa=⟨mkS [],[],0,0⟩:=λh=>ab h
 have g7:Y14l L y.Ta y.Sa 0:=rfl
 have g8:bsI L y.Ta y.Sa 0 = -1:=rfl
 exact z00)
def mng (L:List YB) (a b:YS_):Bool:=if rsC L a.Ta a.Sa=0/\rsC L b.Ta b.Sa=0 then decide (a.Ta=b.Ta) else decide (rsC L a.Ta a.Sa=1)&&decide (rsC L b.Ta b.Sa=1)&&decide ((rsB L a.Ta a.Sa).Ka=(rsB L b.Ta b.Sa).Ka)&&decide ((rsB L a.Ta a.Sa).Na=(rsB L b.Ta b.Sa).Na)
abbrev Z93 (L:List YB) (a:YS_) (b:YS_):Ct:=⟨164,[],[Aj L,Ykx a,Ykx b],[],.sv (lb (mng L a b))⟩
theorem Zg1 (L:List YB) (a b:YS_) (h:L.length<=1000000001/\sumBy wB L<=1000000001):Z93 L a b:=Ykr call164 func164 (let v1:Tq _ _:=.i (rsC L a.Ta a.Sa=0) (.i (rsC L b.Ta b.Sa=0) (.s (lb (decide (a.Ta.data.toList=b.Ta.data.toList)))) (.s (lb false))) (.y false (.s (lb false)));.d [.rd,.rd] (Z3e L a) (.d [.rd,.rd] (Z3e L b) (.i (rsC L a.Ta a.Sa=1) (.i (rsC L b.Ta b.Sa=1) (.i ((rsB L a.Ta a.Sa).Ka=(rsB L b.Ta b.Sa).Ka) (.s (lb (decide ((rsB L a.Ta a.Sa).Na=(rsB L b.Ta b.Sa).Na)))) (.s (lb false))) v1) (.y false v1)))) (by
 dsimp only[Ykd,Z93]
 with_reducible repeat' (first|apply ah|exact zR|(intro)|apply Z59)
 all_goals ((try simp only[std,inj]at *);with_reducible and_intros)
 all_goals try with_reducible first|apply Z59
 all_goals try first|exact z|grind[mng,Yo9,Ykl,Ykm,Ykf])
def frm (L:List YB) (s:YS_):Int:=if s.Ka=1/\rsC L s.Ta s.Sa=1/\(rsB L s.Ta s.Sa).Ka=1 then (rsB L s.Ta s.Sa).Na else -1
abbrev Z94 (L:List YB) (s:YS_) (n:Int):Ct:=⟨103,[],[Aj L,Ykx s,li n],[],.sv (lb (decide (frm L s=n)))⟩
theorem Z3i (L:List YB) (s:YS_) (n:Int) (h:L.length<=1000000001/\sumBy wB L<=1000000001/\0<=n):Z94 L s n:=Ykr call103 func103 (.i (s.Ka≠1) (.s (lb false)) (.d [.rd,.rd] (Zaj L s) (.i (rsC L s.Ta s.Sa=1) (.i ((rsB L s.Ta s.Sa).Ka=1) (.s (lb (decide ((rsB L s.Ta s.Sa).Na=n)))) (.s (lb false))) (.y false (.s (lb false)))))) (by
 dsimp only[Ykd,Z94]
 have g:frm L s=if s.Ka=1/\rsC L s.Ta s.Sa=1/\(rsB L s.Ta s.Sa).Ka=1 then (rsB L s.Ta s.Sa).Na else -1:=rfl
 exact z00)
abbrev Z7a (L:List YB) (s:YS_):Ct:=⟨126,[],[Aj L,Ykx s],[],.sv (li (frm L s))⟩
theorem Z4f (L:List YB) (s:YS_) (h:L.length<=1000000001/\sumBy wB L<=1000000001):Z7a L s:=Ykr call126 func126 (.i (s.Ka≠1) (.s (li (-1:Int))) (.d [.rd,.rd] (Z3e L s) (.i (rsC L s.Ta s.Sa≠1) (.y true (.s (li (-1:Int)))) (.i ((rsB L s.Ta s.Sa).Ka≠1) (.s (li (-1:Int))) (.s (li (rsB L s.Ta s.Sa).Na)))))) (by
 dsimp only[Ykd,Z7a]
 with_reducible repeat' (first|apply ah|exact zR|(intro)|apply Z59)
 all_goals ((try simp only[std,inj]at *);with_reducible and_intros)
 all_goals try with_reducible first|apply Z59
 all_goals try first|exact z|grind[frm,Ykl,Ykm,Ykf])
def Ypq (x:YS_):Bool:=decide (x.Ka=0)&&decide ((x.Ia.length:Int)=2)
def Yo5 (s:YS_) (i k:Nat):List YS_:=((s.Ia.drop 2).take k).map λx=>x.Ia.g i
def Yo3 (s:YS_) (i:Nat):List YS_:=(s.Ia.drop 2).map λx=>x.Ia.g i
theorem Yv0 (s:YS_) (i:Nat) {k:Nat}(h:k<(s.Ia.drop 2).length):Yo5 s i (k+1)=Yo5 s i k++[((s.Ia.drop 2).g k).Ia.g i]:=by
 unfold Yo5;rw[Yku h];simp
theorem Yx3 (s:YS_) (i:Nat) {k:Nat}(h:(s.Ia.drop 2).length<=k):Yo5 s i k=Yo3 s i:=by
 unfold Yo5 Yo3;rw[av h]
theorem Yxb (s:YS_) (i k:Nat):(Yo5 s i k).length<=k:=by
 unfold Yo5;rw[aN,au];exact Nat.min_le_left _ _
def Ylb (s:YS_):YR_:=⟨(s.Ia.g 1).Ia,Yo3 s 0,Yo3 s 1⟩
def Ym5 (L:List YB) (s:YS_):Bool:=decide (s.Ka=0)&&decide (2<=(s.Ia.length:Int))&&decide (frm L (s.Ia.g 0)=10)&&decide ((s.Ia.g 1).Ka=0)&&(s.Ia.drop 2).all Ypq&&Ym8 (Ylb s)
def Ymw (L:List YB) (s:YS_):YR_:=if Ym5 L s then Ylb s else ⟨[],[],[]⟩
theorem Y1ot:∀ L:List YS_,L.all Ypq->2 * L.length+sumBy wY (L.map λx=>x.Ia.g 0)+sumBy wY (L.map λx=>x.Ia.g 1)<=sumBy wY L
 | [],_=>aD _
 | x :: r,h=>by
  simp only[dE,af]at h
  have h1:=Y1ot r h.2
  have h2:=Ylo x
  have h3:=h.1
  simp only[Ypq,af,ak]at h3
  have e:sumBy wY x.Ia=wY (x.Ia.g 0)+wY (x.Ia.g 1):=by
   have a:=@Yrn _ _ wY x.Ia 0 oW
   have b:=@Yrn _ _ wY x.Ia 1 oW
   have c:sumBy wY (x.Ia.drop 2)=0:=by rw[bC oW];rfl
   rw[cQ]at a
   simp only[cp,Nat.reduceAdd]at a b
   omega
  simp only[bP,sumBy,aE];omega
theorem Y11p {s:YS_}(h2:2<=s.Ia.length) (h:(s.Ia.drop 2).all Ypq):wR (Ylb s)<=wY s:=by
 have a0:=@Yrn _ _ wY s.Ia 0 oW
 have a1:=@Yrn _ _ wY s.Ia 1 oW
 rw[cQ]at a0
 simp only[cp,Nat.reduceAdd]at a0 a1
 have h3:=Y1ot _ h
 have h4:=Ylo s
 have h5:=Ylo (s.Ia.g 1)
 have h6:(s.Ia.drop 2).length=s.Ia.length - 2:=ay
 rw[Y15q];simp only[Ylb,Yo3,aN];omega
theorem Y20g (s:YS_) (j:Nat):wY (s.Ia.g j)<=wY s:=by
 rcases bH j s.Ia.length with h|h
 ·have h1:=Yl3 wY (Ykg h)
  have h2:=Ylo s
  omega
 ·have e:s.Ia.g j=default:=by simp[h]
  rw[e];exact cr _
theorem Y19t {L:List YS_}{p:YS_->Bool}{k:Nat}(h:k<L.length) (hp:p (L.g k)=false):L.all p=false:=by
 rw[bX];exact⟨_,Ykg h,by rw[hp];decide⟩
abbrev Z2q (L:List YB) (s:YS_):Ct:=⟨175,[],[Aj L,Ykx s],Y1eo (Ymw L s),.tup [Y1g3 (Ymw L s) 0,lb (Ym5 L s)]⟩
def Z41 (L:List YB) (s:YS_):Lp Nat:=let v6:Cell:=.y;let v1:List AC:=[.val v6,.val v6,.val v6];let v2:=s.Ia.drop 2;let v3:=s.Ia.map Ykb;let v4:=(s.Ia.g 1).Ia.map Ykb;let v5:=(4,.y 0);.mk 87 0 (λx=>[v5,(6,.y 1),(45,ll (List.take (v3.length - 2) (v3.drop 2))),(46,li ((List.take (v3.length - 2) (v3.drop 2)).length:Int)),(47,hs x 0)]) (λx=>[.box v1,.box [.ref 2,.ref 3,.ref 4],.y 5 v4,ho x 1,ho x 2]) (λk=>[.s (li k),.o (.Ae (Yo5 s 0 k)),.o (.Ae (Yo5 s 1 k))]) (λk=>k<=v2.length/\2<=s.Ia.length/\s.Ia.length<=1000000000/\(v2.take k).all Ypq) (λk=>v2.length - k) [.mk (v2.all Ypq) (.exit 0) (λx=>[v5,(6,.y 1)]) (λx=>[.box v1,.box [.ref 2,.ref 3,.ref 4],.y 5 v4,ho x 0,ho x 1]) [.o (.Ae (Yo3 s 0)),.o (.Ae (Yo3 s 1))],.mk (v2.all Ypq=false) .ret (λx=>[v5,(5,hs x 1)]) (λx=>[ho x 0]) [.o (.box v1),.s (lb false)]]
theorem Zed (L:List YB) (s:YS_) (h:L.length<=1000000001/\sumBy wB L<=1000000001/\wY s<=1000000000):Lp.Sem prog (Yks f175 0) (Z41 L s):=Yl0 (λk=>let v6:=(s.Ia.map Ykb).length - 2;let v1:=(List.take v6 (s.Ia.drop 2)).g k;let v2:Cell:=.y;let v3:=List.drop 2 (s.Ia.map Ykb);let v4:=(Yo5 s 1 k).map Ykb;let v5:=(Yo5 s 0 k).map Ykb;let v7:=v1.Ia.g 1;let v8:=v1.Ia.g 0;let v9:Ob:=.box [.val v2,.val v2,.val v2];.i ((k:Int)<(v3.take v6).length) (.x (k:Int) (v3.take v6) (Yki v1) (.i (v1.Ka≠0) (.y true (.o 1 [0] [.o v9,.s (lb false)])) (.z Ykb v1.Ia (.i (((v1.Ia.map Ykb).length:Int)≠2) (.o 1 [0] [.o v9,.s (lb false)]) (.w (.draw [(7,[12,13]),(8,[3,20]),(10,[1])]) (.w (.cells (Yki v8)) (.p ((0:Int)<=0/\(v1.Ia.map Ykb)[0]? = some (Yki v8)) (.d [.rd] (Zp v8) (.p ((v5.length+1) * 80<=140737488355328) (.w (.draw [(7,[28,29]),(8,[4,36]),(10,[1])]) (.w (.cells (Yki v7)) (.p ((0:Int)<=1/\(v1.Ia.map Ykb)[1]? = some (Yki v7)) (.d [.rd] (Zp v7) (.p ((v4.length+1) * 80<=140737488355328) (.r ((k:Int)+1) (.g [0,1,2,21,37] (k+1) [.s (li ((k:Int)+1)),.o (.y 5 ((Yo5 s 0 k).map Ykb++[Yki v8])),.o (.y 5 ((Yo5 s 1 k).map Ykb++[Yki v7]))])))))))))))))))) (.o 0 [0,1,2,3,4] [.o (.y 5 v5),.o (.y 5 v4)])) (by
 intro k h;try dsimp only[Ykd,Yko,Z41]at h|-
 have g1:=@Yv0 s 0 k
 have g2:=@Yv0 s 1 k
 have g3:=@Yx3 s 0 k
 have g4:=@Yx3 s 1 k
 have g5:=Yxb s 0 k
 have g6:=Yxb s 1 k
 have g7:=@Y19t (s.Ia.drop 2) Ypq k
 have g8:=@Yku _ _ (s.Ia.drop 2) k
 have e:(s.Ia.drop 2).take (s.Ia.length - 2)=s.Ia.drop 2:=av (by rw[ay];omega)
 have e2:(s.Ia.drop 2).length=s.Ia.length - 2:=ay
 have e3:k<(s.Ia.drop 2).length->wY ((s.Ia.drop 2).g k)<=wY s:=λh=>by have:=@Yl3 _ wY s.Ia _ (aH (Ykg h));have:=Ylo s;omega
 have e4:=Ylo ((s.Ia.drop 2).g k)
 have e5:∀ j,j<((s.Ia.drop 2).g k).Ia.length->wY (((s.Ia.drop 2).g k).Ia.g j)<=wY ((s.Ia.drop 2).g k):=λj h=>by have:=@Yl3 _ wY _ _ (Ykg h);omega
 have e6:Ypq ((s.Ia.drop 2).g k)=(decide (((s.Ia.drop 2).g k).Ka=0)&&decide ((((s.Ia.drop 2).g k).Ia.length:Int)=2)):=rfl
 have e7:(s.Ia.drop 2).length<=k->(s.Ia.drop 2).take k=s.Ia.drop 2:=λh=>av h
 exact z0a)
theorem Z4 (L:List YB) (s:YS_) (h:L.length<=1000000001/\sumBy wB L<=1000000001/\wY s<=1000000000):Z2q L s:=Ykr call175 func175 (let v6:List Ob:=[.y 5 [],.y 5 [],.y 5 []];let v5:AV:=.tup [.agg [.ref 0,.ref 1,.ref 2],lb false];let v1:Tq _ _:=.w (.g (.nilbox 1 0 true 5)) (.w (.g (.nilbox 1 1 true 5)) (.w (.g (.nilbox 1 2 true 5)) (.f [2,3,4] v6 v5)));let v2:=s.Ia.g 1;let v3:=s.Ia.map Ykb;let v4:=s.Ia.g 0;let v7:=(0:Int)<=1/\v3[1]? = some (Yki v2);let v8:=YR_.mk v2.Ia (Yo3 s 0) (Yo3 s 1);.i (s.Ka≠0) (.y true (.y true (.y true v1))) (.z Ykb s.Ia (.i (((s.Ia.map Ykb).length:Int)<2) (.y true (.y true v1)) (.w (.cells (Yki v4)) (.p ((0:Int)<=0/\v3[0]? = some (Yki v4)) (.d [.rd,.rd] (Z7a L v4) (.i (frm L v4≠10) (.y true v1) (.w (.cells (Yki v2)) (.p v7 (.i (v2.Ka≠0) v1 (.w (.cells (Yki v2)) (.p v7 (.d [.rd] (Z1u v2.Ia) (.p ((0:Int)<=2) (.p (2<=v3.length/\v3.length<=v3.length/\∀ (x0:List Cell),x0∈s.Ia.map Ykb->x0.length=5) (.h ((List.take (v3.length - 2) (v3.drop 2)).length<=9223372036854775807) (.w (.g (.nilbox 3 1 true 5)) (.w (.g (.nilbox 3 2 true 5)) (.l (Z41 L s) (Zed L s h) [1,3,2,4,5] [.s (li 0),.o (.y 5 []),.o (.y 5 [])] 0 (.t (.d [.rd] (Z3y v8) (.b (!Ym8 v8) (.w (.g (.nilbox 0 0 true 5)) (.w (.g (.nilbox 0 1 true 5)) (.w (.g (.nilbox 0 2 true 5)) (.f [5,6,7] v6 v5)))) (.f [2,3,4] [.Ae v2.Ia,.Ae (Yo3 s 0),.Ae (Yo3 s 1)] (.tup [.agg [.ref 0,.ref 1,.ref 2],lb true])))) (.t (.w (.g (.nilbox 0 0 true 5)) (.w (.g (.nilbox 0 1 true 5)) (.w (.g (.nilbox 0 2 true 5)) (.f [1,2,3] v6 v5)))) .q))))))))))))))))))))) (by
 dsimp only[Ykd,Z2q,Yko,Z41]
 have g1:=Ylo s
 have g2:=@Y11p s
 have e:(s.Ia.drop 2).take (s.Ia.length - 2)=s.Ia.drop 2:=av (by rw[ay];omega)
 have e2:∀ j,j<s.Ia.length->wY (s.Ia.g j)<=wY s:=λj hj=>by have:=@Yl3 _ wY s.Ia _ (Ykg hj);omega
 have e3:=Ylo (s.Ia.g 1)
 have g3:Ym5 L s->Ymw L s=Ylb s:=λh=>ae h
 have g4:Ym5 L s=false->Ymw L s=⟨[],[],[]⟩:=λh=>by unfold Ymw;rw[h];rfl
 have g5:Ym5 L s=(decide (s.Ka=0)&&decide (2<=(s.Ia.length:Int))&&decide (frm L (s.Ia.g 0)=10)&&decide ((s.Ia.g 1).Ka=0)&&(s.Ia.drop 2).all Ypq&&Ym8 (Ylb s)):=rfl
 have g6:Ylb s=⟨(s.Ia.g 1).Ia,Yo3 s 0,Yo3 s 1⟩:=rfl
 have g7:Yo5 s 0 0=[]/\Yo5 s 1 0=[]:=⟨rfl,rfl⟩
 exact z00)
abbrev Z7t (L:List YB) (s:YS_):Ct:=⟨49,[],[Aj L,Ykx s],Y1eo (Ymw L s),.tup [Y1g3 (Ymw L s) 0,lb (Ym5 L s)]⟩
def Z42 (L:List YB) (s:YS_):Lp Nat:=let v6:Cell:=.y;let v1:List AC:=[.val v6,.val v6,.val v6];let v2:=s.Ia.drop 2;let v3:=s.Ia.map Ykb;let v4:=(s.Ia.g 1).Ia.map Ykb;let v5:=(4,.y 0);.mk 101 0 (λx=>[v5,(6,.y 1),(59,ll (List.take (v3.length - 2) (v3.drop 2))),(60,li ((List.take (v3.length - 2) (v3.drop 2)).length:Int)),(61,hs x 0)]) (λx=>[.box v1,.box [.ref 2,.ref 3,.ref 4],.y 5 v4,ho x 1,ho x 2]) (λk=>[.s (li k),.o (.Ae (Yo5 s 0 k)),.o (.Ae (Yo5 s 1 k))]) (λk=>k<=v2.length/\2<=s.Ia.length/\s.Ia.length<=1000000000/\(v2.take k).all Ypq) (λk=>v2.length - k) [.mk (v2.all Ypq) (.exit 2) (λx=>[v5,(6,.y 1)]) (λx=>[.box v1,.box [.ref 2,.ref 3,.ref 4],.y 5 v4,ho x 0,ho x 1]) [.o (.Ae (Yo3 s 0)),.o (.Ae (Yo3 s 1))],.mk (v2.all Ypq=false) .ret (λx=>[v5,(5,hs x 1)]) (λx=>[ho x 0]) [.o (.box v1),.s (lb false)]]
def Z43 (L:List YB) (s:YS_):Lp Nat:=let v1:Cell:=.y;let v2:=s.Ia.g 1;let v3:List AC:=[.val v1,.val v1,.val v1];let v4:List AC:=[.ref 3,.val v1,.val v1];.mk 101 0 (λx=>[(3,.y 0),(4,.y 1),(6,.y 2),(43,Af v2.Ia),(44,li (v2.Ia.map Ykb).length),(45,hs x 0)]) (λx=>[.box (vals (Yki s)),.box v3,.box v4,ho x 1]) (λk=>[.s (li k),.o (.Ae (v2.Ia.take k))]) (λk=>k<=v2.Ia.length/\v2.Ia.length<=9223372036854775807) (λk=>v2.Ia.length - k) [.mk True (.exit 0) (λx=>[(3,.y 0),(4,.y 1),(6,.y 2)]) (λx=>[.box (vals (Yki s)),.box v3,.box v4,ho x 0]) [.o (.Ae v2.Ia)]]
theorem Zee (L:List YB) (s:YS_) (h:L.length<=1000000001/\sumBy wB L<=1000000001/\wY s<=1000000000):Lp.Sem prog (Yks f49 1) (Z42 L s):=Yl0 (λk=>let v6:=(s.Ia.map Ykb).length - 2;let v1:=(List.take v6 (s.Ia.drop 2)).g k;let v2:Cell:=.y;let v3:=List.drop 2 (s.Ia.map Ykb);let v4:=(Yo5 s 1 k).map Ykb;let v5:=(Yo5 s 0 k).map Ykb;let v7:=v1.Ia.g 1;let v8:=v1.Ia.g 0;let v9:Ob:=.box [.val v2,.val v2,.val v2];.i ((k:Int)<(v3.take v6).length) (.x (k:Int) (v3.take v6) (Yki v1) (.i (v1.Ka≠0) (.y true (.o 1 [0] [.o v9,.s (lb false)])) (.z Ykb v1.Ia (.i (((v1.Ia.map Ykb).length:Int)≠2) (.o 1 [0] [.o v9,.s (lb false)]) (.w (.draw [(7,[12,13]),(8,[3,20]),(10,[1])]) (.w (.cells (Yki v8)) (.p ((0:Int)<=0/\(v1.Ia.map Ykb)[0]? = some (Yki v8)) (.d [.rd] (Z2j v8) (.p ((v5.length+1) * 80<=140737488355328) (.w (.draw [(7,[28,29]),(8,[4,36]),(10,[1])]) (.w (.cells (Yki v7)) (.p ((0:Int)<=1/\(v1.Ia.map Ykb)[1]? = some (Yki v7)) (.d [.rd] (Z2j v7) (.p ((v4.length+1) * 80<=140737488355328) (.r ((k:Int)+1) (.g [0,1,2,21,37] (k+1) [.s (li ((k:Int)+1)),.o (.y 5 ((Yo5 s 0 k).map Ykb++[Yki v8])),.o (.y 5 ((Yo5 s 1 k).map Ykb++[Yki v7]))])))))))))))))))) (.o 0 [0,1,2,3,4] [.o (.y 5 v5),.o (.y 5 v4)])) (by
 intro k h;try dsimp only[Ykd,Yko,Z42]at h|-
 have g1:=@Yv0 s 0 k
 have g2:=@Yv0 s 1 k
 have g3:=@Yx3 s 0 k
 have g4:=@Yx3 s 1 k
 have g5:=Yxb s 0 k
 have g6:=Yxb s 1 k
 have g7:=@Y19t (s.Ia.drop 2) Ypq k
 have g8:=@Yku _ _ (s.Ia.drop 2) k
 have e:(s.Ia.drop 2).take (s.Ia.length - 2)=s.Ia.drop 2:=av (by rw[ay];omega)
 have e2:(s.Ia.drop 2).length=s.Ia.length - 2:=ay
 have e3:k<(s.Ia.drop 2).length->wY ((s.Ia.drop 2).g k)<=wY s:=λh=>by have:=@Yl3 _ wY s.Ia _ (aH (Ykg h));have:=Ylo s;omega
 have e4:=Ylo ((s.Ia.drop 2).g k)
 have e5:∀ j,j<((s.Ia.drop 2).g k).Ia.length->wY (((s.Ia.drop 2).g k).Ia.g j)<=wY ((s.Ia.drop 2).g k):=λj h=>by have:=@Yl3 _ wY _ _ (Ykg h);omega
 have e6:Ypq ((s.Ia.drop 2).g k)=(decide (((s.Ia.drop 2).g k).Ka=0)&&decide ((((s.Ia.drop 2).g k).Ia.length:Int)=2)):=rfl
 have e7:(s.Ia.drop 2).length<=k->(s.Ia.drop 2).take k=s.Ia.drop 2:=λh=>av h
 exact z0a)
theorem Zef (L:List YB) (s:YS_) (h:L.length<=1000000001/\sumBy wB L<=1000000001/\wY s<=1000000000):Lp.Sem prog (Yks f49 0) (Z43 L s):=Yl0 (λk=>let v1:=s.Ia.g 1;let v2:=v1.Ia.g k;let v3:=(v1.Ia.take k).map Ykb;.i ((k:Int)<(v1.Ia.map Ykb).length) (.x (k:Int) (v1.Ia.map Ykb) (Yki v2) (.w (.draw [(4,[9,10]),(5,[3,17]),(7,[2])]) (.d [.rd] (Z2j v2) (.p ((v3.length+1) * 80<=140737488355328) (.r ((k:Int)+1) (.g [0,1,2,18] (k+1) [.s (li ((k:Int)+1)),.o (.y 5 ((v1.Ia.take k).map Ykb++[Yki v2]))])))))) (.o 0 [0,1,2,3] [.o (.y 5 v3)])) (by
 intro k h;try dsimp only[Ykd,Yko,Z43]at h|-
 have e1:=Ylo (s.Ia.g 1)
 have e2:=Y20g s 1
 have g2:=@Yl3 _ wY (s.Ia.g 1).Ia ((s.Ia.g 1).Ia.g k)
 exact z06)
theorem Z95 (L:List YB) (s:YS_) (h:L.length<=1000000001/\sumBy wB L<=1000000001/\wY s<=1000000000):Z7t L s:=Ykr call49 func49 (let v7:List Ob:=[.y 5 [],.y 5 [],.y 5 []];let v6:AV:=.tup [.agg [.ref 0,.ref 1,.ref 2],lb false];let v1:Tq _ _:=.w (.g (.nilbox 1 0 true 5)) (.w (.g (.nilbox 1 1 true 5)) (.w (.g (.nilbox 1 2 true 5)) (.f [2,3,4] v7 v6)));let v2:=s.Ia.g 1;let v3:=s.Ia.map Ykb;let v4:=s.Ia.g 0;let v5:Ob:=.y 5 [];let v8:=(0:Int)<=1/\v3[1]? = some (Yki v2);let v9:=YR_.mk v2.Ia (Yo3 s 0) (Yo3 s 1);.i (s.Ka≠0) (.y true (.y true (.y true v1))) (.z Ykb s.Ia (.i (((s.Ia.map Ykb).length:Int)<3) (.y true (.y true v1)) (.w (.cells (Yki v4)) (.p ((0:Int)<=0/\v3[0]? = some (Yki v4)) (.d [.rd,.rd,.rd] (Z94 L v4 10) (.b (!decide (frm L v4=10)) (.y true v1) (.w (.cells (Yki v2)) (.p v8 (.i (v2.Ka≠0) v1 (.w (.cells (Yki v2)) (.p v8 (.z Ykb v2.Ia (.w (.g (.nilbox 2 0 true 5)) (.l (Z43 L s) (Zef L s h) [0,1,2,3] [.s (li 0),.o v5] 0 (.t (.p ((0:Int)<=2) (.p (2<=v3.length/\v3.length<=v3.length/\∀ (x0:List Cell),x0∈s.Ia.map Ykb->x0.length=5) (.h ((List.take (v3.length - 2) (v3.drop 2)).length<=9223372036854775807) (.w (.g (.nilbox 2 1 true 5)) (.w (.g (.nilbox 2 2 true 5)) (.l (Z42 L s) (Zee L s h) [1,2,3,4,5] [.s (li 0),.o v5,.o v5] 0 (.t (.d [.rd] (Z6e v9) (.b (!Ym8 v9) (.w (.g (.nilbox 0 0 true 5)) (.w (.g (.nilbox 0 1 true 5)) (.w (.g (.nilbox 0 2 true 5)) (.f [5,6,7] v7 v6)))) (.f [2,3,4] [.Ae v2.Ia,.Ae (Yo3 s 0),.Ae (Yo3 s 1)] (.tup [.agg [.ref 0,.ref 1,.ref 2],lb true])))) (.t (.w (.g (.nilbox 0 0 true 5)) (.w (.g (.nilbox 0 1 true 5)) (.w (.g (.nilbox 0 2 true 5)) (.f [1,2,3] v7 v6)))) .q)))))))) .q)))))))))))))))) (by
 dsimp only[Ykd,Z7t,Yko,Z43,Z42]
 have g1:=Ylo s
 have g2:=@Y11p s
 have e:(s.Ia.drop 2).take (s.Ia.length - 2)=s.Ia.drop 2:=av (by rw[ay];omega)
 have e2:∀ j,j<s.Ia.length->wY (s.Ia.g j)<=wY s:=λj hj=>by have:=@Yl3 _ wY s.Ia _ (Ykg hj);omega
 have e3:=Ylo (s.Ia.g 1)
 have g3:Ym5 L s->Ymw L s=Ylb s:=λh=>ae h
 have g4:Ym5 L s=false->Ymw L s=⟨[],[],[]⟩:=λh=>by unfold Ymw;rw[h];rfl
 have g5:Ym5 L s=(decide (s.Ka=0)&&decide (2<=(s.Ia.length:Int))&&decide (frm L (s.Ia.g 0)=10)&&decide ((s.Ia.g 1).Ka=0)&&(s.Ia.drop 2).all Ypq&&Ym8 (Ylb s)):=rfl
 have g6:Ylb s=⟨(s.Ia.g 1).Ia,Yo3 s 0,Yo3 s 1⟩:=rfl
 have g7:Yo5 s 0 0=[]/\Yo5 s 1 0=[]:=⟨rfl,rfl⟩
 have g8:s.Ia.length=2->Ym8 (Ylb s)=false:=λh=>by
  have e:s.Ia.drop 2=[]:=bC oW
  simp[Ym8,Ylb,Yo3,e]
 exact z00)
end
def Yzs (p f:YS_):YC:=⟨p,0,f,[]⟩
mutual
/-- the variables of a pattern,in their order -/
def nm (H:YS_->Bool) (A:List YS_->Int):YS_->Int->List YC
 | ⟨k,n,t,s,l⟩,d=>if k=1 then (if Ymj ⟨k,n,t,s,l⟩=true\/H ⟨k,n,t,s,l⟩=true then [] else [Yte ⟨k,n,t,s,l⟩ d]) else if k=0 then nms H A l 0 (A l) d else []
def nms (H:YS_->Bool) (A:List YS_->Int):List YS_->Int->Int->Int->List YC
 | [],_,_,_=>[]
 | x :: r,i,a,d=>(if i=a then [] else nm H A x (if i+1=a then d+1 else d))++nms H A r (i+1) a d
end
theorem Yr1 (H:YS_->Bool) (A:List YS_->Int) (p:YS_) (d:Int):nm H A p d=if p.Ka=1 then (if Ymj p\/H p then [] else [Yte p d]) else if p.Ka=0 then nms H A p.Ia 0 (A p.Ia) d else []:=by cases p;simp only[nm]
def upC (x:YC):YC:=⟨x.name,x.depth+1,x.form,x.each⟩
def rp (V:List YC) (R:List (List YC)):List YC:=(List.range V.length).map λi=>⟨(V.g i).name,(V.g i).depth,(V.g i).form,(V.g i).each++R.map λc=>c.g i⟩
theorem Yrz (V:List YC) (R:List (List YC)):(rp V R).length=V.length:=by simp[rp]
def mtr (g:YS_->Option (List YC)):List YS_->Option (List (List YC))
 | []=>some []
 | f :: r=>match g f with
  | none=>none
  | some c=>match mtr g r with
   | none=>none
   | some R=>some (c :: R)
def Yxv (a:Int) (n m:Nat):Int:=if 0<=a then (m:Int) - ((n:Int) - 2) else 0
def Yxp (a:Int) (l:List YS_) (f:YS_):Bool:=decide (f.Ka=0)&&decide (0<=Yxv a l.length f.Ia.length)&&(decide (0<=a)||decide (f.Ia.length=l.length))
mutual
/-- a match: what is captured -/
def mt (M:YS_->YS_->Bool) (H:YS_->Bool) (A:List YS_->Int):YS_->YS_->Option (List YC)
 | ⟨k,n,t,s,l⟩,f=>if k=1 then (if Ymj ⟨k,n,t,s,l⟩=true then some [] else if H ⟨k,n,t,s,l⟩=true then (if f.Ka=1/\M ⟨k,n,t,s,l⟩ f then some [] else none) else some [Yzs ⟨k,n,t,s,l⟩ f])
  else if k=0 then (if Yxp (A l) l f then mts M H A l 0 (A l) (Yxv (A l) l.length f.Ia.length).toNat f.Ia else none)
  else if f.Ka=k/\f.Na=n/\f.Ta=t then some [] else none
def mts (M:YS_->YS_->Bool) (H:YS_->Bool) (A:List YS_->Int):List YS_->Int->Int->Nat->List YS_->Option (List YC)
 | [],_,_,_,_=>some []
 | x :: r,i,a,m,fs=>if i=a then mts M H A r (i+1) a m fs
  else if i+1=a then (match mtr (mt M H A x) (fs.take m) with
   | none=>none
   | some R=>match mts M H A r (i+1) a m (fs.drop m) with
    | none=>none
    | some c=>some (rp (nm H A x 1) R++c))
  else match mt M H A x (fs.g 0) with
   | none=>none
   | some c=>match mts M H A r (i+1) a m (fs.drop 1) with
    | none=>none
    | some d=>some (c++d)
end
theorem Yr2 (M:YS_->YS_->Bool) (H:YS_->Bool) (A:List YS_->Int) (p f:YS_):mt M H A p f=if p.Ka=1 then (if Ymj p then some [] else if H p then (if f.Ka=1/\M p f then some [] else none) else some [Yzs p f])
  else if p.Ka=0 then (if Yxp (A p.Ia) p.Ia f then mts M H A p.Ia 0 (A p.Ia) (Yxv (A p.Ia) p.Ia.length f.Ia.length).toNat f.Ia else none)
  else if f.Ka=p.Ka/\f.Na=p.Na/\f.Ta=p.Ta then some [] else none:=by cases p;simp only[mt]
theorem Y1j0 (H:YS_->Bool) (A:List YS_->Int):∀ (l:List YS_),(∀ x∈l,∀ d,nm H A x (d+1)=(nm H A x d).map upC)->∀ i a d,nms H A l i a (d+1)=(nms H A l i a d).map upC
 | [],_,i,a,d=>by simp[nms]
 | x :: r,h,i,a,d=>by
  simp only[nms,ar,Y1j0 H A r (λy hy=>h y (ai _ hy))]
  congr 1
  split
  ·rfl
  ·split
   ·exact h x aj (d+1)
   ·exact h x aj d
theorem Y1yh (H:YS_->Bool) (A:List YS_->Int):∀ (p:YS_) (d:Int),nm H A p (d+1)=(nm H A p d).map upC:=by
 intro p
 refine YS_.ind (P:=λp=>∀ d,nm H A p (d+1)=(nm H A p d).map upC) (λp ih d => ?_) p
 rw[Yr1,Yr1]
 split
 ·split
  ·rfl
  ·rfl
 ·split
  ·exact Y1j0 H A p.Ia ih 0 _ d
  ·rfl
theorem Y1h4 {M:YS_->YS_->Bool}{H:YS_->Bool}{A:List YS_->Int}:∀ (l:List YS_),(∀ x∈l,∀ f c,mt M H A x f=some c->c.length=(nm H A x 0).length)->∀ i a m fs c,mts M H A l i a m fs=some c->c.length=(nms H A l i a 0).length
 | [],_,i,a,m,fs,c,e=>by simp only[mts,aa]at e;subst e;simp[nms]
 | x :: r,h,i,a,m,fs,c,e=>by
  have ih:=Y1h4 r (λy hy=>h y (ai _ hy)) (i+1) a m
  simp only[mts]at e
  simp only[nms]
  split at e
  ·rename_i hi;rw[ae hi];simpa using ih _ _ e
  ·rename_i hi
   rw[ab hi]
   split at e
   ·rename_i hi2
    rw[ae hi2]
    split at e
    ·cases e
    ·split at e
     ·cases e
     ·rename_i c' hc
      simp only[aa]at e;subst e
      rw[ax,ax,Yrz,ih _ _ hc];rfl
   ·rename_i hi2
    rw[ab hi2]
    split at e
    ·cases e
    ·rename_i c1 h1
     split at e
     ·cases e
     ·rename_i c' hc
      simp only[aa]at e;subst e
      rw[ax,ax,h x aj _ _ h1,ih _ _ hc]
theorem Y1o2 {M:YS_->YS_->Bool}{H:YS_->Bool}{A:List YS_->Int}:∀ (p f:YS_) (c:List YC),mt M H A p f=some c->c.length=(nm H A p 0).length:=by
 intro p
 refine YS_.ind (P:=λp=>∀ f c,mt M H A p f=some c->c.length=(nm H A p 0).length) (λp ih f c e => ?_) p
 rw[Yr2]at e
 rw[Yr1]
 split at e
 ·rename_i hk
  rw[ae hk]
  split at e
  ·rename_i hu;simp only[aa]at e;subst e;rw[ae (.inl hu)]
  ·rename_i hu
   split at e
   ·rename_i hh
    split at e
    ·simp only[aa]at e;subst e;rw[ae (.inr hh)]
    ·cases e
   ·rename_i hh
    simp only[aa]at e;subst e
    rw[ab (by simp[hu,hh])];rfl
 ·rename_i hk
  rw[ab hk]
  split at e
  ·rename_i h0
   rw[ae h0]
   split at e
   ·exact Y1h4 p.Ia ih _ _ _ _ _ e
   ·cases e
  ·rename_i h0
   rw[ab h0]
   split at e
   ·simp only[aa]at e;subst e;rfl
   ·cases e
theorem Y1j1 (H:YS_->Bool) (A:List YS_->Int) (p:YS_):(nm H A p 1).length=(nm H A p 0).length:=by
 have:=Y1yh H A p 0
 rw[show (0:Int)+1=1 from rfl]at this
 rw[this,aN]
def aS (l:List YS_):Int:=if okS l then atS l else -1
theorem Y1mi {Ls:List YS_}:∀ (l:List YS_),(∀ x∈l,∀ d o r,vrS Ls x d o=some r->r=o++nm (Yn1 Ls) aS x d)->∀ i a d o r,wlk (vrS Ls) l i a d o=some r->r=o++nms (Yn1 Ls) aS l i a d
 | [],_,i,a,d,o,r,e=>by simp only[wlk,aa]at e;subst e;simp[nms]
 | x :: l,h,i,a,d,o,r,e=>by
  have ih:=Y1mi l λy hy=>h y (ai _ hy)
  simp only[wlk]at e
  simp only[nms]
  split at e
  ·rename_i hi;rw[ae hi,ih _ _ _ _ _ e];rfl
  ·rename_i hi
   rw[ab hi]
   split at e
   ·cases e
   ·rename_i o1 h1
    rw[ih _ _ _ _ _ e,h x aj _ _ _ h1,aI]
theorem Y1n9 {Ls:List YS_}:∀ (p:YS_),okY p->∀ d o r,vrS Ls p d o=some r->r=o++nm (Yn1 Ls) aS p d:=by
 refine YS_.ind λp ih h d o r e => ?_
 rw[Yqs]at e
 rw[Yr1]
 split at e
 ·rename_i hk
  rw[ae hk]
  split at e
  ·rename_i hu;simp only[aa]at e;subst e;rw[ae hu];simp
  ·rename_i hu
   rw[ab hu]
   split at e
   ·cases e
   ·simp only[aa]at e;exact e.symm
 ·rename_i hk
  rw[ab hk]
  split at e
  ·rename_i hs
   by_cases h0:p.Ka=0
   ·rw[ae h0]
    have ha:aS p.Ia=atS p.Ia:=ae hs
    rw[ha]
    exact Y1mi p.Ia (λx hx=>ih x hx (Yns h x hx)) _ _ _ _ _ e
   ·rw[ab h0]
    rw[Y1c3 h hk h0]at e
    simp only[wlk,aa]at e;subst e;simp
  ·cases e
theorem Y12t (L:List YC) (q:YS_):0<=fnd L q ↔ Ykt q=false/\L.any (Ypa q):=by
 have h1:Yqh L q<L.length ↔ L.any (Ypa q):=by
  unfold Yqh
  rw[List.findIdx_lt_length,cK]
 unfold fnd
 constructor
 ·intro h
  split at h
  ·rename_i hc;exact⟨hc.1,h1.1 hc.2⟩
  ·omega
 ·rintro⟨h2,h3⟩
  rw[ae ⟨h2,h1.2 h3⟩];omega
theorem Y1fc {Ls:List YS_}:∀ (l:List YS_),(∀ x∈l,∀ d o r,vrS Ls x d o=some r->∀ d' o',d'<=d->(∀ q,0<=fnd o' q->0<=fnd o q)->∃ r',vrS Ls x d' o'=some r'/\∀ q,0<=fnd r' q->0<=fnd r q) ->
  ∀ i a d o r,wlk (vrS Ls) l i a d o=some r->∀ d' o',d'<=d->(∀ q,0<=fnd o' q->0<=fnd o q)->∃ r',wlk (vrS Ls) l i a d' o'=some r'/\∀ q,0<=fnd r' q->0<=fnd r q
 | [],_,i,a,d,o,r,e,d',o',hd,ho=>by simp only[wlk,aa]at e|-;subst e;exact⟨o',rfl,ho⟩
 | x :: l,h,i,a,d,o,r,e,d',o',hd,ho=>by
  have ih:=Y1fc l λy hy=>h y (ai _ hy)
  simp only[wlk]at e|-
  split at e
  ·rename_i hi;rw[ae hi];exact ih _ _ _ _ _ e _ _ hd ho
  ·rename_i hi
   rw[ab hi]
   split at e
   ·cases e
   ·rename_i o1 h1
    obtain⟨r1,e1,e2⟩:=h x aj _ _ _ h1 (if i+1=a then d'+1 else d') o' (by split<;>omega) ho
    rw[e1]
    exact ih _ _ _ _ _ e _ _ hd e2
theorem Y1cr {Ls:List YS_}:∀ (p:YS_) (d:Int) (o r:List YC),vrS Ls p d o=some r->∀ d' o',d'<=d->(∀ q,0<=fnd o' q->0<=fnd o q)->∃ r',vrS Ls p d' o'=some r'/\∀ q,0<=fnd r' q->0<=fnd r q:=by
 refine YS_.ind λp ih d o r e d' o' hd ho => ?_
 rw[Yqs]at e|-
 split at e
 ·rename_i hk
  rw[ae hk]
  split at e
  ·rename_i hu;simp only[aa]at e;subst e;rw[ae hu];exact⟨o',rfl,ho⟩
  ·rename_i hu
   rw[ab hu]
   split at e
   ·cases e
   ·rename_i hb
    simp only[aa]at e;subst e
    rw[ab (λhc=>hb (hc.imp id (Or.imp (ho p) (λh=>by omega))))]
    refine⟨_,rfl,λq hq => ?_⟩
    rw[Y12t]at hq|-
    refine⟨hq.1,?_⟩
    rw[List.any_append,aG]at hq|-
    rcases hq.2 with h1|h1
    ·exact .inl ((Y12t o q).1 (ho q ((Y12t o' q).2 ⟨hq.1,h1⟩))).2
    ·exact .inr h1
 ·rename_i hk
  rw[ab hk]
  split at e
  ·rename_i hs
   rw[ae hs]
   exact Y1fc p.Ia ih _ _ _ _ _ e _ _ hd ho
  ·cases e
theorem Y142 {f:YS_->Int->List YC->Option (List YC)}:∀ (l:List YS_) (i a d:Int) (o r:List YC),wlk f l i a d o=some r->∀ k:Nat,k<l.length->i+k≠a ->
  ∃ o' r',f (l.g k) (if i+k+1=a then d+1 else d) o'=some r'
 | [],i,a,d,o,r,e,k,hk,_=>by simp at hk
 | x :: l,i,a,d,o,r,e,k,hk,hne=>by
  simp only[wlk]at e
  cases k with
  | zero=>
   split at e
   ·rename_i hi;exact absurd hi (by simpa using hne)
   ·split at e
    ·cases e
    ·rename_i o1 h1
     exact⟨o,o1,by simpa using h1⟩
  | succ k=>
   have hk':k<l.length:=by simpa using hk
   have e1:i+((k+1:Nat):Int)=i+1+(k:Int):=by omega
   have:∃ o2 r2,wlk f l (i+1) a d o2=some r2:=by
    split at e
    ·exact⟨_,_,e⟩
    ·split at e
     ·cases e
     ·exact⟨_,_,e⟩
   obtain⟨o2,r2,e2⟩:=this
   rw[e1]at hne|-
   simpa using Y142 l (i+1) a d o2 r2 e2 k hk' hne
def good (Ls:List YS_) (p:YS_):Prop:=okY p/\∃ d o r,0<=d/\vrS Ls p d o=some r
theorem Yzo {Ls:List YS_}{p:YS_}(h:good Ls p) (h0:p.Ka=0):okS p.Ia:=by
 obtain⟨_,d,o,r,_,e⟩:=h
 rw[Yqs,ab oW]at e
 cases hs:okS p.Ia with
 | true=>rfl
 | false=>rw[hs,ab sW]at e;cases e
theorem Yup {Ls:List YS_}{p:YS_}(h:good Ls p) (h0:p.Ka=0) {k:Nat}(hk:k<p.Ia.length) (hne:(k:Int)≠aS p.Ia):good Ls (p.Ia.g k):=by
 have hs:=Yzo h h0
 obtain⟨hy,d,o,r,hd,e⟩:=h
 refine⟨Yns hy _ (Ykg hk),?_⟩
 rw[Yqs,ab oW,ae hs]at e
 have ha:aS p.Ia=atS p.Ia:=ae hs
 rw[ha]at hne
 obtain⟨o',r',e'⟩:=Y142 p.Ia 0 _ d o r e k hk oW
 exact⟨_,o',r',by split<;>omega,e'⟩
theorem Y1rp {Ls:List YS_}{p:YS_}(h:good Ls p) (h0:p.Ka=0) {k:Nat}(hk:k<p.Ia.length) (ha:(k:Int)+1=aS p.Ia) :
  vrS Ls (p.Ia.g k) 0 []=some (nm (Yn1 Ls) aS (p.Ia.g k) 0)/\vrS Ls (p.Ia.g k) 1 []=some (nm (Yn1 Ls) aS (p.Ia.g k) 1):=by
 have hs:=Yzo h h0
 obtain⟨hy,d,o,r,hd,e⟩:=h
 have hy':=Yns hy _ (Ykg hk)
 rw[Yqs,ab oW,ae hs]at e
 have ha':aS p.Ia=atS p.Ia:=ae hs
 rw[ha']at ha
 obtain⟨o',r',e'⟩:=Y142 p.Ia 0 _ d o r e k hk oW
 rw[ae oW]at e'
 have hn:∀ q,0<=fnd [] q->0<=fnd o' q:=λq hq=>by rw[Y12t]at hq;simp at hq
 obtain⟨r0,e0,_⟩:=Y1cr _ _ _ _ e' 0 [] oW hn
 obtain⟨r1,e1,_⟩:=Y1cr _ _ _ _ e' 1 [] oW hn
 refine⟨?_,?_⟩
 ·rw[e0];exact cu some (by simpa using Y1n9 _ hy' _ _ _ e0)
 ·rw[e1];exact cu some (by simpa using Y1n9 _ hy' _ _ _ e1)
theorem Y1nd {g g':YS_->Option (List YC)}(h:∀ f,g f=g' f) (L:List YS_):mtr g L=mtr g' L:=by rw[funext h]
theorem Y1fq {M:YS_->YS_->Bool}{H H':YS_->Bool}{A A':List YS_->Int}{a:Int}:∀ (l:List YS_) (i:Int),(∀ k:Nat,k<l.length->i+k≠a->(∀ f,mt M H A (l.g k) f=mt M H' A' (l.g k) f)/\nm H A (l.g k) 1=nm H' A' (l.g k) 1)->∀ m fs,mts M H A l i a m fs=mts M H' A' l i a m fs
 | [],i,_,m,fs=>by simp only[mts]
 | x :: r,i,h,m,fs=>by
  have ih:=Y1fq (a:=a) r (i+1) (λk hk hne=>by
   have:=h (k+1) (by simpa using hk) oW
   simpa using this)
  simp only[mts,ih]
  by_cases hi:i=a
  ·rw[ae hi,ae hi]
  ·obtain⟨h1,h2⟩:=h 0 sW (by simpa using hi)
   simp only[cn]at h1 h2
   rw[ab hi,ab hi,Y1nd h1,h2,h1]
theorem Y1ff {H H':YS_->Bool}{A A':List YS_->Int}{a:Int}:∀ (l:List YS_) (i:Int),(∀ k:Nat,k<l.length->i+k≠a->∀ d,nm H A (l.g k) d=nm H' A' (l.g k) d)->∀ d,nms H A l i a d=nms H' A' l i a d
 | [],i,_,d=>by simp only[nms]
 | x :: r,i,h,d=>by
  have ih:=Y1ff (a:=a) r (i+1) (λk hk hne=>by
   have:=h (k+1) (by simpa using hk) oW
   simpa using this)
  simp only[nms,ih]
  by_cases hi:i=a
  ·rw[ae hi,ae hi]
  ·have h1:=h 0 sW (by simpa using hi)
   simp only[cn]at h1
   rw[ab hi,ab hi,h1]
theorem Y1hr {M:YS_->YS_->Bool}{Ls:List YS_}(hL:∀ x∈Ls,Ynx x):∀ p:YS_,good Ls p->(∀ f,mt M (Yn1 Ls) aS p f=mt M (Yo0 Ls) atI p f)/\∀ d,nm (Yn1 Ls) aS p d=nm (Yo0 Ls) atI p d:=by
 refine YS_.ind λp ih hg => ?_
 by_cases hk:p.Ka=1
 ·have hh:=Y19z hL hk
  refine⟨λf => ?_,λd => ?_⟩
  ·rw[Yr2,Yr2,ae hk,ae hk,hh]
  ·rw[Yr1,Yr1,ae hk,ae hk,hh]
 ·by_cases h0:p.Ka=0
  ·have hs:=Yzo hg h0
   have e1:aS p.Ia=atI p.Ia:=by rw[(Y1bu hs).1];exact ae hs
   have hit:∀ k:Nat,k<p.Ia.length->(0:Int)+k≠atI p.Ia->(∀ f,mt M (Yn1 Ls) aS (p.Ia.g k) f=mt M (Yo0 Ls) atI (p.Ia.g k) f)/\∀ d,nm (Yn1 Ls) aS (p.Ia.g k) d=nm (Yo0 Ls) atI (p.Ia.g k) d:=
    λk hk' hne=>ih _ (Ykg hk') (Yup hg h0 hk' (by rw[e1];omega))
   refine⟨λf => ?_,λd => ?_⟩
   ·rw[Yr2,Yr2,ab hk,ab hk,ae h0,ae h0,e1,Y1fq p.Ia 0 λk hk' hne=>⟨(hit k hk' hne).1,(hit k hk' hne).2 1⟩]
   ·rw[Yr1,Yr1,ab hk,ab hk,ae h0,ae h0,e1,Y1ff p.Ia 0 λk hk' hne=>(hit k hk' hne).2]
  ·refine⟨λf => ?_,λd => ?_⟩
   ·rw[Yr2,Yr2,ab hk,ab hk,ab h0,ab h0]
   ·rw[Yr1,Yr1,ab hk,ab hk,ab h0,ab h0]
theorem Y1ee {H:YS_->Bool}{A:List YS_->Int}:∀ (l:List YS_),(∀ x∈l,∀ d,(nm H A x d).length<=Ykp x)->∀ i a d,(nms H A l i a d).length<=sumBy Ykp l
 | [],_,i,a,d=>by simp[nms]
 | x :: r,h,i,a,d=>by
  have ih:=Y1ee r (λy hy=>h y (ai _ hy)) (i+1) a d
  simp only[nms,ax,sumBy]
  split
  ·simp only[bp];omega
  ·have:=h x aj (if i+1=a then d+1 else d);omega
theorem Y1hu (H:YS_->Bool) (A:List YS_->Int):∀ (p:YS_) (d:Int),(nm H A p d).length<=Ykp p:=by
 intro p
 refine YS_.ind (P:=λp=>∀ d,(nm H A p d).length<=Ykp p) (λp ih d => ?_) p
 have hz:=Yli p
 rw[Yr1]
 split
 ·split
  ·simp
  ·simp only[bk];omega
 ·split
  ·have:=Y1ee p.Ia ih 0 (A p.Ia) d;omega
  ·simp
def rws (g:YS_->Option (List YC)) (fs:List YS_) (k:Nat):Nat->List (List YC)×Bool
 | 0=>([],true)
 | j+1=>if (rws g fs k j).2 then (match g (fs.g (k+j)) with|some c=>((rws g fs k j).1++[c],true)|none=>((rws g fs k j).1,false)) else rws g fs k j
theorem Y1iz {g:YS_->Option (List YC)}{fs:List YS_}{k:Nat}:∀ j,(rws g fs k j).2->(rws g fs k j).1.length=j
 | 0,_=>rfl
 | j+1,h=>by
  simp only[rws]at h|-
  split at h
  ·rename_i hj
   rw[ae hj]
   split at h
   ·rename_i c hc;rw[ax,Y1iz j hj,bk]
   ·cases h
  ·rename_i hj;exact absurd h hj
theorem Y159 {g:YS_->Option (List YC)}{fs:List YS_}{k j:Nat}(h:(rws g fs k j).2=false):∀ n,rws g fs k (j+n)=rws g fs k j
 | 0=>rfl
 | n+1=>by
  have ih:=Y159 h n
  rw[<- cY]
  simp only[rws,ih,h]
  simp
theorem Y1ec {g:YS_->Option (List YC)}{fs:List YS_}{k j:Nat}{c:List YC}(h:(rws g fs k j).2) (hc:g (fs.g (k+j))=some c):rws g fs k (j+1)=((rws g fs k j).1++[c],true):=by
 simp only[rws];rw[ae h,hc]
theorem Y1fn {g:YS_->Option (List YC)}{fs:List YS_}{k j:Nat}(h:(rws g fs k j).2) (hc:g (fs.g (k+j))=none):rws g fs k (j+1)=((rws g fs k j).1,false):=by
 simp only[rws];rw[ae h,hc]
theorem Y1by (g:YS_->Option (List YC)):∀ (L:List YS_) (x:YS_),mtr g (L++[x])=match mtr g L with|none=>none|some R=>match g x with|none=>none|some c=>some (R++[c])
 | [],x=>by cases h:g x<;>simp[mtr,h]
 | y :: L,x=>by
  simp only[bF,mtr,Y1by g L x]
  cases g y with
  | none=>rfl
  | some c=>
   cases mtr g L with
   | none=>rfl
   | some R=>cases g x<;>rfl
theorem Y1h3 {g:YS_->Option (List YC)}{fs:List YS_}{k:Nat}:∀ j,k+j<=fs.length->mtr g ((fs.drop k).take j)=if (rws g fs k j).2 then some (rws g fs k j).1 else none
 | 0,_=>by simp[mtr,rws]
 | j+1,h=>by
  have hj:j<(fs.drop k).length:=by rw[ay];omega
  have e:(fs.drop k).g j=fs.g (k+j):=by simp[aq,aX]
  rw[Yku hj,Y1by,Y1h3 j oW,e]
  by_cases hr:(rws g fs k j).2
  ·rw[ae hr]
   cases hg:g (fs.g (k+j)) with
   | none=>rw[Y1fn hr hg];rfl
   | some c=>rw[Y1ec hr hg];rfl
  ·have hr':(rws g fs k j).2=false:=by simpa using hr
   rw[ab hr,Y159 hr' 1,ab hr]
def flM (x:YS_) (L:List YC):List YC:=if x.Ka=0 then [] else L
abbrev gS (B:List YB) (Ls:List YS_):YS_->YS_->Option (List YC):=mt (mng B) (Yn1 Ls) aS
def nS (Ls:List YS_) (x:YS_):List YC:=nm (Yn1 Ls) aS x 1
def eV (Ls:List YS_) (x:YS_):List YC:=(vrS Ls x 0 []).getD []
def smO (p:YS_) (o:List YC) (r:Option (List YC)):List YC:=match r with|some c=>o++c|none=>flM p o
def mS (p f:YS_):Nat:=(Yxv (aS p.Ia) p.Ia.length f.Ia.length).toNat
abbrev Yz5 (x:YC):List Cell:=[cI x.name.Ka,cI x.name.Na,cS x.name.Ta,.any,.any,cI x.depth,cI x.form.Ka,cI x.form.Na,cS x.form.Ta,.any,.any,.any]
def Yn7 (V:List YC) (R:List (List YC)) (c:List YC) (u:Nat):List YC:=(rp V (R++[c])).take u++(rp V R).drop u
theorem Y222 (l:List YS_):aS l = -1\/∃ a:Nat,aS l=a/\1<=a/\a<l.length:=by
 unfold aS
 split
 ·rename_i h
  rcases Y17a l l.length (aD _) h with h1|⟨m,h1,h2,h3,_⟩
  ·exact .inl h1.1
  ·exact .inr ⟨m,h3,h1,h2⟩
 ·exact .inl rfl
section
variable {B:List YB}{Ls:List YS_}{p f:YS_}{o:List YC}
theorem Y1hx (x:YS_) (r:Option (List YC)):smO x [] r=r.getD []:=by cases r<;>simp[smO,flM]
theorem Yw5 {x:YS_}(h:x.Ka=0):smO x o none=[]:=ae h
theorem Y1y2 {x y:YS_}{c:List YC}(h:gS B Ls x y=some c):c.length=(nS Ls x).length:=by
 rw[nS,Y1j1];exact Y1o2 _ _ _ h
theorem Y1x1 (x:YS_):(nS Ls x).length<=Ykp x:=Y1hu _ _ _ _
theorem Y241 (x:YC):(⟨x.name,x.depth,x.form,x.each⟩:YC)=x:=by cases x;rfl
theorem Y1zt (V:List YC):rp V []=V:=by
 apply cE
 intro j
 simp only[rp,bc,List.getElem?_range',List.map_nil,bw,List.range_eq_range']
 by_cases h:j<V.length
 ·simp[h];exact Y241 _
 ·simp[h]
theorem Y1fd {V:List YC}{R:List (List YC)}{i:Nat}(h:i<V.length):(rp V R).g i=⟨(V.g i).name,(V.g i).depth,(V.g i).form,(V.g i).each++R.map λc=>c.g i⟩:=by
 simp[rp,aq,dO,h]
theorem Y1oz (V:List YC) (R:List (List YC)) (c:List YC):Yn7 V R c 0=rp V R:=by simp[Yn7]
theorem Y1q7 {V:List YC}{R:List (List YC)}{c:List YC}{u:Nat}(h:V.length<=u):Yn7 V R c u=rp V (R++[c]):=by
 unfold Yn7;rw[av (by rw[Yrz];exact h),bC (by rw[Yrz];exact h),bw]
theorem Y1so (V:List YC) (R:List (List YC)) (c:List YC) (u:Nat):(Yn7 V R c u).length=V.length:=by
 simp only[Yn7,ax,au,ay,Yrz];omega
theorem Y1dg {V:List YC}{R:List (List YC)}{c:List YC}{u:Nat}(h:u<V.length):(Yn7 V R c u).g u=(rp V R).g u:=by
 simp[Yn7,aq,bZ,au,aX,Yrz,bU (dh h)]
theorem Y1o3 {V:List YC}{R:List (List YC)}{c:List YC}{u:Nat}(h:u<V.length):(Yn7 V R c u).set u ⟨((rp V R).g u).name,((rp V R).g u).depth,((rp V R).g u).form,((rp V R).g u).each++[c.g u]⟩=Yn7 V R c (u+1):=by
 have e:(⟨((rp V R).g u).name,((rp V R).g u).depth,((rp V R).g u).form,((rp V R).g u).each++[c.g u]⟩:YC)=(rp V (R++[c])).g u:=by
  rw[Y1fd h,Y1fd h];simp
 rw[e]
 apply cE
 intro j
 have hl:=Yrz V R
 have hl2:=Yrz V (R++[c])
 simp only[Yn7,bO,bZ,au,ax,ay,aV,aX,aq,hl,hl2,bU (dh h),bU (show u+1<=V.length from h)]
 by_cases h1:u=j
 ·subst h1
  rw[ae rfl,ae oW,ae oW]
  have:(rp V (R++[c]))[u]? = some ((rp V (R++[c]))[u]'oW):=aw _
  rw[this,ae (Nat.lt_succ_self u)];rfl
 ·rw[ab h1]
  by_cases h2:j<u
  ·rw[ae h2,ae h2,ae oW,ae oW]
  ·rw[ab h2,ab oW];congr 1;omega
abbrev Y178 (L:List YC) (u:Nat):List (List Cell):=(L.take u).map Yz5++(L.drop u).map Ykh
theorem Y1n5 {L:List YC}{u:Nat}(h:u<L.length):(Y178 L u)[u]? = some (Ykh (L.g u)):=by
 simp[Y178,aq,bZ,au,aX,h,bU (dh h)]
theorem Y1kh {L:List YC}{u:Nat}(h:u<L.length):(Y178 L u).set u (Yz5 (L.g u))=Y178 L (u+1):=by
 apply cE
 intro j
 simp only[Y178,bO,bZ,aN,au,ax,ay,bc,aV,aX,aq,bU (dh h),bU (show u+1<=L.length from h)]
 by_cases h1:u=j
 ·subst h1;simp[h];omega
 ·rw[ab h1]
  by_cases h2:j<u
  ·rw[ae h2,ae h2,ae oW,ae oW]
  ·rw[ab h2,ab oW];congr 2;omega
end
theorem Y1ma (o:List YC) (p f:YS_):o.map Ykh++[[cI p.Ka,cI p.Na,cS p.Ta,Cell.list (List.map Yke p.Sa),Cell.list (List.map Ykb p.Ia),cI 0,cI f.Ka,cI f.Na,cS f.Ta,Cell.list (List.map Yke f.Sa),Cell.list (List.map Ykb f.Ia),Cell.list []]]=(o++[Yzs p f]).map Ykh:=
 Ykf (C:=Ykh) o (Yzs p f)
theorem Y1v2 {Ls:List YS_}{p:YS_}(hp:Ykk p) (hv:(vrS Ls p 0 []).isSome):good Ls p/\Ykp p<=2000/\Yl5 p<=40:=by
 simp only[Ykk,af,ak]at hp
 obtain⟨r,hr⟩:=Option.isSome_iff_exists.1 hv
 exact⟨⟨hp.2,0,[],r,by omega,hr⟩,hp.1.1,hp.1.2⟩
def alM (g:YS_->YS_->Option (List YC)):List YS_->List YS_->Option (List YC)
 | [],_=>some []
 | x :: r,fs=>match g x (fs.g 0) with
  | none=>none
  | some c=>match alM g r (fs.drop 1) with
   | none=>none
   | some d=>some (c++d)
def alO (o:List YC) (r:Option (List YC)):List YC:=match r with|none=>[]|some c=>o++c
theorem Y10b (g:YS_->YS_->Option (List YC)):∀ (A C:List YS_) (fs:List YS_),alM g (A++C) fs=match alM g A fs with|none=>none|some c=>match alM g C (fs.drop A.length) with|none=>none|some d=>some (c++d)
 | [],C,fs=>by
  simp only[bt,alM,bp,cQ]
  cases alM g C fs<;>rfl
 | y :: A,C,fs=>by
  have e:(fs.drop 1).drop A.length=fs.drop (y :: A).length:=by rw[List.drop_drop,aE,Nat.add_comm]
  simp only[bF,alM,Y10b g A C,e]
  cases g y (fs.g 0) with
  | none=>rfl
  | some c=>
   cases alM g A (fs.drop 1) with
   | none=>rfl
   | some d=>
    cases alM g C (fs.drop (y :: A).length) with
    | none=>rfl
    | some d2=>simp[aI]
theorem Y1rc {g:YS_->YS_->Option (List YC)}{ps fs:List YS_}{k:Nat}(h:k<ps.length):alM g (ps.take (k+1)) fs=match alM g (ps.take k) fs with|none=>none|some c=>(match g (ps.g k) (fs.g k) with|none=>none|some d=>some (c++d)):=by
 have e:(fs.drop k).g 0=fs.g k:=by simp[aq]
 rw[Yku h,Y10b,au,bU (dh h)]
 simp only[alM,e]
 cases alM g (ps.take k) fs with
 | none=>rfl
 | some c=>cases g (ps.g k) (fs.g k)<;>simp
theorem Y1xk {g:YS_->YS_->Option (List YC)}{ps fs:List YS_}{o:List YC}:alO o (alM g (ps.take 0) fs)=o/\(alM g (ps.take 0) fs).isSome:=by
 simp[alM,alO]
theorem Y23f {g:YS_->YS_->Option (List YC)}{ps fs:List YS_}{o:List YC}{k:Nat}(h:k<ps.length) (hs:(alM g (ps.take k) fs).isSome) :
  (alM g (ps.take (k+1)) fs).isSome=(g (ps.g k) (fs.g k)).isSome/\((g (ps.g k) (fs.g k)).isSome->alO o (alM g (ps.take (k+1)) fs)=smO (ps.g k) (alO o (alM g (ps.take k) fs)) (g (ps.g k) (fs.g k))):=by
 obtain⟨c,hc⟩:=Option.isSome_iff_exists.1 hs
 rw[Y1rc h,hc]
 cases g (ps.g k) (fs.g k) with
 | none=>exact⟨rfl,λh=>by cases h⟩
 | some d=>exact⟨rfl,λ_=>by simp[alO,smO,aI]⟩
theorem Y1vu {g:YS_->YS_->Option (List YC)}{ps fs:List YS_}{k:Nat}(h:(alM g (ps.take k) fs).isSome=false):alM g ps fs=none:=by
 have e:=Y10b g (ps.take k) (ps.drop k) fs
 rw[bf]at e
 cases h2:alM g (ps.take k) fs with
 | none=>rw[h2]at e;exact e
 | some c=>rw[h2]at h;cases h
theorem Y1zn {g:YS_->YS_->Option (List YC)}{ps fs:List YS_}{k:Nat}(h:ps.length<=k):alM g (ps.take k) fs=alM g ps fs:=by rw[av h]
theorem Y1ic {g:YS_->YS_->Option (List YC)}:∀ (ps:List YS_) (fs:List YS_) (c:List YC),(∀ x∈ps,∀ f c,g x f=some c->c.length<=Ykp x)->alM g ps fs=some c->c.length<=sumBy Ykp ps
 | [],fs,c,_,e=>by simp only[alM,aa]at e;subst e;simp[sumBy]
 | x :: r,fs,c,h,e=>by
  simp only[alM]at e
  simp only[sumBy]
  split at e
  ·cases e
  ·rename_i c1 h1
   split at e
   ·cases e
   ·rename_i c2 h2
    simp only[aa]at e;subst e
    have:=Y1ic r _ _ (λy hy=>h y (ai _ hy)) h2
    have:=h x aj _ _ h1
    rw[ax];omega
theorem Y1dj (g:YS_->YS_->Option (List YC)):∀ (ps fs:List YS_) (n:Nat),ps.length<=n->alM g ps (fs.take n)=alM g ps fs
 | [],_,_,_=>rfl
 | x :: r,fs,n,h=>by
  cases n with
  | zero=>simp at h
  | succ n=>
   have h':r.length<=n:=by simpa using h
   cases fs with
   | nil=>simp[alM]
   | cons f fs=>simp only[alM,List.take_succ_cons,List.drop_succ_cons,cQ,cn,Y1dj g r fs n h']
theorem Y118 {M:YS_->YS_->Bool}{H:YS_->Bool}{A:List YS_->Int}{a:Int}{m:Nat}:∀ (l:List YS_) (i:Int) (fs:List YS_),(∀ k:Nat,k<l.length->i+k≠a/\i+k+1≠a)->mts M H A l i a m fs=alM (mt M H A) l fs
 | [],_,_,_=>by simp[mts,alM]
 | x :: r,i,fs,h=>by
  have h0:=h 0 sW
  have ih:=Y118 (M:=M) (H:=H) (A:=A) (a:=a) (m:=m) r (i+1) (fs.drop 1) (λk hk=>by
   have:=h (k+1) (by simp;omega)
   rw[show i+((k+1:Nat):Int)=i+1+(k:Int) by omega]at this;exact this)
  simp only[mts,alM]
  rw[ab (by simpa using h0.1),ab (by simpa using h0.2),ih]
  all_goals rfl
theorem Y1it {M:YS_->YS_->Bool}{H:YS_->Bool}{A:List YS_->Int}{a:Int}{m:Nat}{x y:YS_}{post:List YS_}:∀ (pre:List YS_) (i:Int) (fs:List YS_),i+pre.length+1=a ->
  mts M H A (pre++x :: y :: post) i a m fs=match alM (mt M H A) pre fs with|none=>none|some c1=>(match mtr (mt M H A x) ((fs.drop pre.length).take m) with|none=>none|some R=>(match alM (mt M H A) post (fs.drop (pre.length+m)) with|none=>none|some c2=>some (c1++(rp (nm H A x 1) R++c2))))
 | [],i,fs,h=>by
  have h1:¬ i=a:=by simp at h;omega
  have h2:i+1=a:=by simpa using h
  have e:=Y118 (M:=M) (H:=H) (A:=A) (a:=a) (m:=m) post (i+1+1) (fs.drop m) (λk _=>by omega)
  simp only[bt,mts,alM,bp,cQ,cp]
  rw[ab h1,ae h2,ae h2,e]
  all_goals rfl
 | z :: pre,i,fs,h=>by
  have hl:((z :: pre).length:Int)=pre.length+1:=by simp
  have h1:¬ i=a:=by omega
  have h2:¬ i+1=a:=by omega
  have ih:=Y1it (M:=M) (H:=H) (A:=A) (a:=a) (m:=m) (x:=x) (y:=y) (post:=post) pre (i+1) (fs.drop 1) oW
  have e1:(fs.drop 1).drop pre.length=fs.drop (z :: pre).length:=by rw[List.drop_drop,aE,Nat.add_comm]
  have e2:(fs.drop 1).drop (pre.length+m)=fs.drop ((z :: pre).length+m):=by rw[List.drop_drop,aE];congr 1;omega
  simp only[bF,mts,alM]
  rw[ab h1,ab h2,ih,e1,e2]
  cases mt M H A z (fs.g 0) with
  | none=>rfl
  | some c=>
   simp only
   cases alM (mt M H A) pre (fs.drop 1) with
   | none=>rfl
   | some c1=>
    simp only
    cases mtr (mt M H A x) ((fs.drop (z :: pre).length).take m) with
    | none=>rfl
    | some R=>
     simp only
     cases alM (mt M H A) post (fs.drop ((z :: pre).length+m)) with
     | none=>rfl
     | some c2=>simp[aI]
def gI (B:List YB) (Ls:List YS_):YS_->YS_->Option (List YC):=mt (mng B) (Yo0 Ls) atI
def nI (Ls:List YS_) (x:YS_):List YC:=nm (Yo0 Ls) atI x 1
def aT (p:YS_):Nat:=(atI p.Ia - 1).toNat
def xI (p:YS_):YS_:=p.Ia.g (aT p)
def mI2 (p f:YS_):Nat:=((f.Ia.length:Int) - ((p.Ia.length:Int) - 2)).toNat
def rI (B:List YB) (Ls:List YS_) (p f:YS_) (t:Nat):List (List YC):=(rws (gI B Ls (xI p)) f.Ia (aT p) t).1
def qI (B:List YB) (Ls:List YS_) (p f:YS_) (t:Nat):Bool:=(rws (gI B Ls (xI p)) f.Ia (aT p) t).2
section
variable {B:List YB}{Ls:List YS_}{p f:YS_}{o:List YC}
theorem Y1mn {x y:YS_}{c:List YC}(h:gI B Ls x y=some c):c.length=(nI Ls x).length:=by
 rw[nI,Y1j1];exact Y1o2 _ _ _ h
theorem Y17z (x:YS_):(nI Ls x).length<=Ykp x:=Y1hu _ _ _ _
theorem Y1wp {ps fs:List YS_}{c:List YC}(h:alM (gI B Ls) ps fs=some c):c.length<=sumBy Ykp ps:=
 Y1ic ps fs c (λx _ f c e=>by have:=Y1mn e;have:=Y17z (Ls:=Ls) x;omega) h
theorem Y1j8 {ps fs:List YS_}:(alO o (alM (gI B Ls) ps fs)).length<=o.length+sumBy Ykp ps:=by
 cases h:alM (gI B Ls) ps fs with
 | none=>simp[alO]
 | some c=>have:=Y1wp h;simp only[alO,ax];omega
theorem Y139 (h0:p.Ka=0):gI B Ls p f=if Yxp (atI p.Ia) p.Ia f then mts (mng B) (Yo0 Ls) atI p.Ia 0 (atI p.Ia) (Yxv (atI p.Ia) p.Ia.length f.Ia.length).toNat f.Ia else none:=by
 unfold gI;rw[Yr2,ab oW,ae h0]
theorem Y1v1 (h0:p.Ka=0) (hf:¬ f.Ka=0):gI B Ls p f=none:=by
 rw[Y139 h0,ab (by simp[Yxp,hf])]
theorem Y1il (h0:p.Ka=0) (hf:f.Ka=0) (ha:atI p.Ia<0):gI B Ls p f=if p.Ia.length=f.Ia.length then alM (gI B Ls) p.Ia f.Ia else none:=by
 have e:Yxp (atI p.Ia) p.Ia f=decide (f.Ia.length=p.Ia.length):=by
  simp only[Yxp,Yxv,ab (show ¬ 0<=atI p.Ia by omega),hf];simp;omega
 rw[Y139 h0,e,Y118 _ _ _ (λk _=>by omega)]
 by_cases h:p.Ia.length=f.Ia.length
 ·rw[ae h,ae (by simp[h])];rfl
 ·rw[ab h,ab (by simp;omega)]
theorem Y20l (h0:p.Ka=0) (hf:f.Ka=0) (ha:0<=atI p.Ia) (hm:(f.Ia.length:Int) - ((p.Ia.length:Int) - 2)<0):gI B Ls p f=none:=by
 have e:Yxp (atI p.Ia) p.Ia f=false:=by
  simp only[Yxp,Yxv,ae ha];simp;omega
 rw[Y139 h0,e];rfl
theorem Y17v (h0:p.Ka=0) (hf:f.Ka=0) (ha:1<=atI p.Ia) (hl:atI p.Ia<p.Ia.length) (hm:0<=(f.Ia.length:Int) - ((p.Ia.length:Int) - 2)) :
  gI B Ls p f=match alM (gI B Ls) (p.Ia.take (aT p)) (f.Ia.take (aT p)) with|none=>none|some c1=>if qI B Ls p f (mI2 p f) then (match alM (gI B Ls) (p.Ia.drop (aT p+2)) (f.Ia.drop (aT p+mI2 p f)) with|none=>none|some c2=>some (c1++(rp (nI Ls (xI p)) (rI B Ls p f (mI2 p f))++c2))) else none:=by
 have e:Yxp (atI p.Ia) p.Ia f:=by
  simp only[Yxp,Yxv,ae (show 0<=atI p.Ia by omega),hf];simp;omega
 have ea:(aT p:Int)+1=atI p.Ia:=by unfold aT;omega
 have em:(Yxv (atI p.Ia) p.Ia.length f.Ia.length).toNat=mI2 p f:=by unfold Yxv mI2;rw[ae oW]
 have h1:aT p<p.Ia.length:=by omega
 have h2:aT p+1<p.Ia.length:=by omega
 have es:p.Ia=p.Ia.take (aT p)++(xI p :: p.Ia.g (aT p+1) :: p.Ia.drop (aT p+2)):=by
  have e1:p.Ia.drop (aT p)=xI p :: p.Ia.drop (aT p+1):=by
   rw[du h1];simp[xI,h1]
  have e2:p.Ia.drop (aT p+1)=p.Ia.g (aT p+1) :: p.Ia.drop (aT p+2):=by
   rw[du h2];simp[h2]
  rw[<- e2,<- e1,bf]
 have el:(p.Ia.take (aT p)).length=aT p:=by rw[au,bU oW]
 have er:aT p+mI2 p f<=f.Ia.length:=by unfold mI2;omega
 rw[Y139 h0,e,ae rfl,em]
 have k:=Y1it (M:=mng B) (H:=Yo0 Ls) (A:=atI) (a:=atI p.Ia) (m:=mI2 p f) (x:=xI p) (y:=p.Ia.g (aT p+1)) (post:=p.Ia.drop (aT p+2)) (p.Ia.take (aT p)) 0 f.Ia (by rw[el];omega)
 rw[<- es,el]at k
 rw[k,Y1h3 (mI2 p f) er,Y1dj _ _ _ _ (by rw[el];exact aD _)]
 show (match alM (gI B Ls) _ _ with|none=>none|some c1=>_)=_
 cases alM (gI B Ls) (p.Ia.take (aT p)) f.Ia with
 | none=>rfl
 | some c1=>
  show (match (if qI B Ls p f (mI2 p f) then some (rI B Ls p f (mI2 p f)) else none) with|none=>none|some R=>_)=_
  by_cases hq:qI B Ls p f (mI2 p f)
  ·rw[ae hq];simp only[hq,ae];rfl
  ·rw[ab hq];simp only;rw[ab hq]
theorem Y208 (h0:p.Ka=0) (hf:f.Ka=0) (ha:1<=atI p.Ia) (hl:atI p.Ia<p.Ia.length) (hm:0<=(f.Ia.length:Int) - ((p.Ia.length:Int) - 2)) (h:(alM (gI B Ls) (p.Ia.take (aT p)) (f.Ia.take (aT p))).isSome=false):gI B Ls p f=none:=by
 rw[Y17v h0 hf ha hl hm]
 cases h2:alM (gI B Ls) (p.Ia.take (aT p)) (f.Ia.take (aT p)) with
 | none=>rfl
 | some c=>rw[h2]at h;cases h
theorem Y1vc {t:Nat}(h:qI B Ls p f t=false) {n:Nat}(hn:t<=n):qI B Ls p f n=false:=by
 have e:=Y159 h (n - t)
 rw[show t+(n - t)=n by omega]at e
 unfold qI at *;rw[e];exact h
theorem Y1qm (h0:p.Ka=0) (hf:f.Ka=0) (ha:1<=atI p.Ia) (hl:atI p.Ia<p.Ia.length) (hm:0<=(f.Ia.length:Int) - ((p.Ia.length:Int) - 2)) {t:Nat}(ht:t<=mI2 p f) (h:qI B Ls p f t=false):gI B Ls p f=none:=by
 rw[Y17v h0 hf ha hl hm,Y1vc h ht]
 cases alM (gI B Ls) (p.Ia.take (aT p)) (f.Ia.take (aT p))<;>rfl
theorem Y1v4 (h0:p.Ka=0) (hf:f.Ka=0) (ha:1<=atI p.Ia) (hl:atI p.Ia<p.Ia.length) (hm:0<=(f.Ia.length:Int) - ((p.Ia.length:Int) - 2)) (h:(alM (gI B Ls) (p.Ia.take (aT p)) (f.Ia.take (aT p))).isSome) (hq:qI B Ls p f (mI2 p f)) :
  (gI B Ls p f).isSome=(alM (gI B Ls) (p.Ia.drop (aT p+2)) (f.Ia.drop (aT p+mI2 p f))).isSome/\smO p o (gI B Ls p f)=alO (alO o (alM (gI B Ls) (p.Ia.take (aT p)) (f.Ia.take (aT p)))++rp (nI Ls (xI p)) (rI B Ls p f (mI2 p f))) (alM (gI B Ls) (p.Ia.drop (aT p+2)) (f.Ia.drop (aT p+mI2 p f))):=by
 obtain⟨c,hc⟩:=Option.isSome_iff_exists.1 h
 rw[Y17v h0 hf ha hl hm,hc]
 simp only[hq,↓reduceIte]
 cases alM (gI B Ls) (p.Ia.drop (aT p+2)) (f.Ia.drop (aT p+mI2 p f)) with
 | none=>exact⟨rfl,by simp[smO,flM,h0,alO]⟩
 | some d=>exact⟨rfl,by simp[smO,alO,aI]⟩
theorem Y1rr (h0:p.Ka=0) (hf:f.Ka=0) (ha:atI p.Ia<0) (hl:p.Ia.length=f.Ia.length):(gI B Ls p f).isSome=(alM (gI B Ls) p.Ia f.Ia).isSome/\smO p o (gI B Ls p f)=alO o (alM (gI B Ls) p.Ia f.Ia):=by
 rw[Y1il h0 hf ha,ae hl]
 cases alM (gI B Ls) p.Ia f.Ia with
 | none=>exact⟨rfl,by simp[smO,flM,h0,alO]⟩
 | some d=>exact⟨rfl,rfl⟩
theorem Y1x4 {t:Nat}{c:List YC}(h:qI B Ls p f t) (hc:gI B Ls (xI p) (f.Ia.g (aT p+t))=some c):rI B Ls p f (t+1)=rI B Ls p f t++[c]/\qI B Ls p f (t+1):=by
 unfold rI qI;rw[Y1ec h hc];exact⟨rfl,rfl⟩
theorem Y1vq {t:Nat}(h:qI B Ls p f t) (hc:gI B Ls (xI p) (f.Ia.g (aT p+t))=none):qI B Ls p f (t+1)=false:=by
 unfold qI;rw[Y1fn h hc]
theorem Y1yl {t:Nat}(h:qI B Ls p f t):(rI B Ls p f t).length=t:=Y1iz t h
def Yse (B:List YB) (Ls:List YS_) (p f:YS_) (t:Nat):List YC:=(gI B Ls (xI p) (f.Ia.g (aT p+t))).getD []
theorem Yuo (hg:good Ls p) (h0:p.Ka=0):atI p.Ia=aS p.Ia/\(atI p.Ia = -1\/1<=atI p.Ia/\atI p.Ia<p.Ia.length):=by
 have hs:=Yzo hg h0
 have e1:aS p.Ia=atI p.Ia:=by rw[(Y1bu hs).1];exact ae hs
 refine⟨e1.symm,?_⟩
 rcases Y222 p.Ia with h|⟨a,h1,h2,h3⟩
 ·exact .inl (by rw[<- e1];exact h)
 ·exact .inr ⟨by omega,by omega⟩
theorem Yys (ha:1<=atI p.Ia) (hl:atI p.Ia<p.Ia.length):(aT p:Int)=atI p.Ia - 1/\aT p+2<=p.Ia.length:=by
 unfold aT;omega
theorem Y1i3 (hg:good Ls p) (h0:p.Ka=0) (ha:1<=atI p.Ia) (hl:atI p.Ia<p.Ia.length):good Ls (xI p)/\xI p∈p.Ia:=by
 have h:=Yys ha hl
 have e:=Yuo hg h0
 exact⟨Yup hg h0 (k:=aT p) oW oW,Ykg oW⟩
theorem Y234 (hL:Ls.all Ynx) (hg:good Ls p) (h0:p.Ka=0) (ha:1<=atI p.Ia) (hl:atI p.Ia<p.Ia.length):vrI Ls (xI p) 1 []=some (nI Ls (xI p)):=by
 have h:=Yys ha hl
 have e:=Yuo hg h0
 have hL':=List.all_eq_true.1 hL
 have hx:=Y1i3 hg h0 ha hl
 have h1:=(Y1rp hg h0 (k:=aT p) oW oW).2
 have h2:=(Y1i1 hL' (xI p) hx.1.1 1 [] sW).1
 have h3:=(Y1hr (M:=λ_ _=>true) hL' (xI p) hx.1).2 1
 rw[h2]
 show vrS Ls (p.Ia.g (aT p)) 1 []=some (nm (Yo0 Ls) atI (xI p) 1)
 rw[h1];exact cu some h3
theorem Y14y {L:List YS_}{z:YS_}(h:z∈L):∃ k,k<L.length/\L.g k=z:=by
 obtain⟨k,hk,e⟩:=List.mem_iff_getElem.1 h
 exact⟨k,hk,by simp[hk,e]⟩
theorem Y1qv (hg:good Ls p) (h0:p.Ka=0) (ha:1<=atI p.Ia) (hl:atI p.Ia<p.Ia.length) (hd:Yl5 p<=40):∀ z∈p.Ia.take (aT p),good Ls z/\Yl5 z<=40:=by
 intro z hz
 have h:=Yys ha hl
 have e:=Yuo hg h0
 obtain⟨k,hk,rfl⟩:=Y14y hz
 rw[au]at hk
 have e2:(p.Ia.take (aT p)).g k=p.Ia.g k:=by
  simp only[aq,aV];rw[ae oW]
 rw[e2]
 have:=Ypo (t:=p) (k:=k) oW
 exact⟨Yup hg h0 oW oW,by omega⟩
theorem Y1mx (hg:good Ls p) (h0:p.Ka=0) (ha:1<=atI p.Ia) (hl:atI p.Ia<p.Ia.length) (hd:Yl5 p<=40):∀ z∈p.Ia.drop (aT p+2),good Ls z/\Yl5 z<=40:=by
 intro z hz
 have h:=Yys ha hl
 have e:=Yuo hg h0
 obtain⟨k,hk,rfl⟩:=Y14y hz
 rw[ay]at hk
 have e2:(p.Ia.drop (aT p+2)).g k=p.Ia.g (aT p+2+k):=by
  simp only[aq,aX]
 rw[e2]
 have:=Ypo (t:=p) (k:=aT p+2+k) oW
 exact⟨Yup hg h0 oW oW,by omega⟩
theorem Y1mr (hg:good Ls p) (h0:p.Ka=0) (ha:atI p.Ia<0) (hd:Yl5 p<=40):∀ z∈p.Ia,good Ls z/\Yl5 z<=40:=by
 intro z hz
 have e:=Yuo hg h0
 obtain⟨k,hk,rfl⟩:=Y14y hz
 have:=Ypo (t:=p) (k:=k) hk
 exact⟨Yup hg h0 hk oW,by omega⟩
theorem Y11e {α:Type}(c:α->Nat) (L:List α) (i:Nat):sumBy c (L.drop i)<=sumBy c L:=by
 have e:sumBy c (L.take i++L.drop i)=sumBy c L:=by rw[bf]
 rw[Yo4]at e;omega
theorem Y1dp (ha:1<=atI p.Ia) (hl:atI p.Ia<p.Ia.length):sumBy Ykp (p.Ia.take (aT p))+Ykp (xI p)+sumBy Ykp (p.Ia.drop (aT p+2))+1<=Ykp p/\sumBy wY (p.Ia.take (aT p))<=wY p/\wY (xI p)<=wY p/\sumBy wY (p.Ia.drop (aT p+2))<=wY p/\sumBy wY p.Ia<=wY p:=by
 have h:=Yys ha hl
 have g1:=Yli p
 have g2:=Ylo p
 have g3:=Ym2 wY p.Ia (aT p)
 have g4:=Y11e wY p.Ia (aT p+2)
 have g5:=Yl3 wY (Ykg (L:=p.Ia) (k:=aT p) oW)
 have g6:=Yrn Ykp (L:=p.Ia) (k:=aT p) oW
 have g7:=Yrn Ykp (L:=p.Ia) (k:=aT p+1) oW
 have e:sumBy Ykp (p.Ia.take (aT p)++p.Ia.drop (aT p))=sumBy Ykp p.Ia:=by rw[bf]
 rw[Yo4]at e
 refine⟨?_,by omega,?_,by omega,by omega⟩
 ·show _+Ykp (p.Ia.g (aT p))+_+1<=_
  rw[show aT p+1+1=aT p+2 by omega]at g7;omega
 ·show wY (p.Ia.g (aT p))<=_
  omega
def fI (p f:YS_):Bool:=decide (p.Ka=0)&&decide (f.Ka=0)&&decide (1<=atI p.Ia)&&decide (atI p.Ia<p.Ia.length)&&decide (0<=(f.Ia.length:Int) - ((p.Ia.length:Int) - 2))
theorem Yqd (h:fI p f):p.Ka=0/\f.Ka=0/\1<=atI p.Ia/\atI p.Ia<p.Ia.length/\0<=(f.Ia.length:Int) - ((p.Ia.length:Int) - 2):=by
 simp only[fI,af,ak]at h;exact⟨h.1.1.1.1,h.1.1.1.2,h.1.1.2,h.1.2,h.2⟩
theorem Y235 (h0:p.Ka=0) (hf:f.Ka=0) (ha:0<=atI p.Ia) (hg:good Ls p) (hm:0<=(f.Ia.length:Int) - ((p.Ia.length:Int) - 2)):fI p f:=by
 have e:=(Yuo hg h0).2
 simp only[fI,af,ak];omega
theorem Yvh (h:fI p f):(aT p:Int)=atI p.Ia - 1/\aT p+2<=p.Ia.length/\(mI2 p f:Int)=(f.Ia.length:Int) - ((p.Ia.length:Int) - 2)/\aT p+mI2 p f<=f.Ia.length:=by
 obtain⟨_,_,ha,hl,hm⟩:=Yqd h
 have:=Yys ha hl
 unfold mI2;omega
theorem Y209 (h:fI p f) (hg:good Ls p):good Ls (xI p)/\xI p∈p.Ia/\Yl5 (xI p)+1<=Yl5 p/\Ykp (xI p)<=Ykp p/\wY (xI p)<=wY p:=by
 obtain⟨h0,_,ha,hl,_⟩:=Yqd h
 have h1:=Y1i3 hg h0 ha hl
 have h2:=Y1dp ha hl
 have h3:=Ypo (t:=p) (k:=aT p) (by have:=Yys ha hl;omega)
 refine⟨h1.1,h1.2,?_,by omega,by omega⟩
 show Yl5 (p.Ia.g (aT p))+1<=_
 omega
theorem Y200 (h:fI p f) (hn:(alM (gI B Ls) (p.Ia.take (aT p)) (f.Ia.take (aT p))).isSome=false):gI B Ls p f=none:=by
 obtain⟨h0,hf,ha,hl,hm⟩:=Yqd h
 exact Y208 h0 hf ha hl hm hn
theorem Y1rq (h:fI p f) {t:Nat}(ht:t<=mI2 p f) (hq:qI B Ls p f t=false):gI B Ls p f=none:=by
 obtain⟨h0,hf,ha,hl,hm⟩:=Yqd h
 exact Y1qm h0 hf ha hl hm ht hq
theorem Y1vj (h:fI p f) (hn:(alM (gI B Ls) (p.Ia.take (aT p)) (f.Ia.take (aT p))).isSome) (hq:qI B Ls p f (mI2 p f)) :
  (gI B Ls p f).isSome=(alM (gI B Ls) (p.Ia.drop (aT p+2)) (f.Ia.drop (aT p+mI2 p f))).isSome/\smO p o (gI B Ls p f)=alO (alO o (alM (gI B Ls) (p.Ia.take (aT p)) (f.Ia.take (aT p)))++rp (nI Ls (xI p)) (rI B Ls p f (mI2 p f))) (alM (gI B Ls) (p.Ia.drop (aT p+2)) (f.Ia.drop (aT p+mI2 p f))):=by
 obtain⟨h0,hf,ha,hl,hm⟩:=Yqd h
 exact Y1v4 h0 hf ha hl hm hn hq
theorem Y1z0 (h0:p.Ka=0) (hf:f.Ka=0) (ha:0<=atI p.Ia) (hm:(f.Ia.length:Int) - ((p.Ia.length:Int) - 2)<0):gI B Ls p f=none:=Y20l h0 hf ha hm
theorem Y22i (hL:Ls.all Ynx) (hg:good Ls p) (h:fI p f):vrI Ls (xI p) 1 []=some (nI Ls (xI p)):=by
 obtain⟨h0,_,ha,hl,_⟩:=Yqd h
 exact Y234 hL hg h0 ha hl
theorem Y1r9 (h0:p.Ka=0) (hf:f.Ka=0) (ha:atI p.Ia<0) (hl:¬ p.Ia.length=f.Ia.length):gI B Ls p f=none:=by rw[Y1il h0 hf ha,ab hl]
theorem Y1r2 {t:Nat}(h:(gI B Ls (xI p) (f.Ia.g (aT p+t))).isSome):(Yse B Ls p f t).length=(nI Ls (xI p)).length:=by
 obtain⟨c,hc⟩:=Option.isSome_iff_exists.1 h
 unfold Yse;rw[hc];exact Y1mn hc
theorem Y1j3 {t:Nat}(hq:qI B Ls p f t) (h:(gI B Ls (xI p) (f.Ia.g (aT p+t))).isSome):rI B Ls p f t++[Yse B Ls p f t]=rI B Ls p f (t+1)/\qI B Ls p f (t+1):=by
 obtain⟨c,hc⟩:=Option.isSome_iff_exists.1 h
 have e:=Y1x4 hq hc
 have e2:Yse B Ls p f t=c:=by unfold Yse;rw[hc];rfl
 rw[e2];exact⟨e.1.symm,e.2⟩
theorem Y1xa (hk:p.Ka=1) (h:Ymj p):gI B Ls p f=some []/\smO p o (gI B Ls p f)=o:=by
 have e:gI B Ls p f=some []:=by unfold gI;rw[Yr2,ae hk,ae h]
 rw[e];exact⟨rfl,bw o⟩
theorem Y1za (hk:p.Ka=1) (h:Ymj p=false) (h2:Yo0 Ls p):(gI B Ls p f).isSome=(decide (f.Ka=1)&&mng B p f)/\smO p o (gI B Ls p f)=o:=by
 have e:gI B Ls p f=if f.Ka=1/\mng B p f then some [] else none:=by unfold gI;rw[Yr2,ae hk,ab (by simp[h]),ae h2]
 rw[e]
 by_cases hc:f.Ka=1/\mng B p f
 ·rw[ae hc];exact⟨by simp[hc.1,hc.2],bw o⟩
 ·rw[ab hc]
  refine⟨?_,by unfold smO flM;simp only;rw[ab oW]⟩
  cases h3:decide (f.Ka=1)<;>cases h4:mng B p f<;>simp_all
theorem Y1y0 (hk:p.Ka=1) (h:Ymj p=false) (h2:Yo0 Ls p=false):gI B Ls p f=some [Yzs p f]/\smO p o (gI B Ls p f)=o++[Yzs p f]:=by
 have e:gI B Ls p f=some [Yzs p f]:=by unfold gI;rw[Yr2,ae hk,ab (by simp[h]),ab (by simp[h2])]
 rw[e];exact⟨rfl,rfl⟩
theorem Y1c8 (hk:¬ p.Ka=1) (h0:¬ p.Ka=0):(gI B Ls p f).isSome=(decide (f.Ka=p.Ka)&&decide (f.Na=p.Na)&&decide (f.Ta=p.Ta))/\smO p o (gI B Ls p f)=o:=by
 have e:gI B Ls p f=if f.Ka=p.Ka/\f.Na=p.Na/\f.Ta=p.Ta then some [] else none:=by unfold gI;rw[Yr2,ab hk,ab h0]
 rw[e]
 by_cases hc:f.Ka=p.Ka/\f.Na=p.Na/\f.Ta=p.Ta
 ·rw[ae hc];exact⟨by simp[hc.1,hc.2.1,hc.2.2],bw o⟩
 ·rw[ab hc]
  refine⟨?_,by unfold smO flM;simp only;rw[ab h0]⟩
  symm;simp only[Option.isSome];rw[Bool.eq_false_iff];simp only[ne_eq,af,ak];rintro⟨⟨a,b⟩,c⟩;exact hc ⟨a,b,c⟩
end
theorem zw {p:Prop}(h:p:=by first|with_reducible rfl|exact cb|omega|with_reducible assumption|with_reducible exact dT ‹_› | with_reducible exact dF ‹_› | ((first|refine Yqp ?_|refine Yxj ?_ rfl);(first|omega|(simp only[std];omega)|grind))):p:=h
theorem Y1tn {c:List YC}{u:Nat}(h:u<c.length):((c.take u).map Yz5++(c.drop u).map Ykh)[u]? = some (Ylc (c.g u)):=by
 rw[<- Row.eq (C:=Ykh) (F:=Ylc)];exact Y1n5 h
theorem Y1tf {c:List YC}{u:Nat}(h:u<c.length):((c.take u).map Yz5++(c.drop u).map Ykh).set u (Yz5 (c.g u))=(c.take (u+1)).map Yz5++(c.drop (u+1)).map Ykh:=Y1kh h
theorem Y1wr {c:List YC}{u:Nat}(h:u<c.length):u<(c.take u).length+(c.drop u).length:=by
 rw[au,ay];omega
theorem Y1q0 (L:List YC) (u:Nat) (x:YC) (y:List Cell) (h:Ylc x=y):(L.map Ykh).set u y=(L.set u x).map Ykh:=by
 subst h;rw[List.map_set,Row.eq (C:=Ykh) (F:=Ylc)]
theorem Y1qi {α:Type}(l:List α) (z v:α):(l++[z]).set l.length v=l++[v]:=by
 rw[List.set_append_right _ _ (aD _)];simp
theorem Y1qh (E:List YC) (z:List Cell) (x:YC):(E.map Ykh++[z]).set E.length (Ylc x)=(E++[x]).map Ykh:=by
 have:=Y1qi (E.map Ykh) z (Ylc x)
 rw[aN]at this
 rw[this];exact Ykf (C:=Ykh) E x
theorem Y1pm {V:List YC}{R:List (List YC)}{c:List YC}{u:Nat}(z:List Cell) (h:u<V.length) :
  ((Yn7 V R c u).map Ykh).set u [cI ((Yn7 V R c u).g u).name.Ka,cI ((Yn7 V R c u).g u).name.Na,cS ((Yn7 V R c u).g u).name.Ta,
   Cell.list (List.map Yke ((Yn7 V R c u).g u).name.Sa),Cell.list (List.map Ykb ((Yn7 V R c u).g u).name.Ia),cI ((Yn7 V R c u).g u).depth,
   cI ((Yn7 V R c u).g u).form.Ka,cI ((Yn7 V R c u).g u).form.Na,cS ((Yn7 V R c u).g u).form.Ta,
   Cell.list (List.map Yke ((Yn7 V R c u).g u).form.Sa),Cell.list (List.map Ykb ((Yn7 V R c u).g u).form.Ia),
   Cell.list ((List.map Ykh ((Yn7 V R c u).g u).each++[z]).set ((Yn7 V R c u).g u).each.length (Ylc (c.g u)))]=(Yn7 V R c (u+1)).map Ykh:=by
 rw[Y1qh]
 have e:=Y1q0 (Yn7 V R c u) u ⟨((Yn7 V R c u).g u).name,((Yn7 V R c u).g u).depth,((Yn7 V R c u).g u).form,((Yn7 V R c u).g u).each++[c.g u]⟩ _ rfl
 refine Eq.trans e ?_
 rw[Y1dg h,Y1o3 h]
theorem Y1rw (H:YS_->Bool) (A:List YS_->Int):∀ (p:YS_) (d:Int),∀ y∈nm H A p d,y.each=[]:=by
 intro p
 refine YS_.ind (P:=λp=>∀ d,∀ y∈nm H A p d,y.each=[]) (λp ih d y hy => ?_) p
 rw[Yr1]at hy
 split at hy
 ·split at hy
  ·cases hy
  ·rw[ao]at hy;subst hy;rfl
 ·split at hy
  ·have go:∀ (l:List YS_) (i a e:Int),(∀ x∈l,∀ d,∀ y∈nm H A x d,y.each=[])->∀ y∈nms H A l i a e,y.each=[]:=by
    intro l
    induction l with
    | nil=>intro i a e _ y hy;simp[nms]at hy
    | cons x r ihr=>
     intro i a e hl y hy
     rw[nms]at hy
     rcases List.mem_append.1 hy with hy|hy
     ·revert hy;repeat' split
      all_goals (intro hy;first|cases hy|exact hl x aj _ y hy)
     ·exact ihr _ _ _ (λz hz=>hl z (ai _ hz)) y hy
   exact go p.Ia _ _ _ ih y hy
  ·cases hy
theorem Y1q9 {V:List YC}{R:List (List YC)}{c:List YC}{u:Nat}(hV:∀ y∈V,y.each=[]) (h:u<V.length):((Yn7 V R c u).g u).each.length=R.length:=by
 rw[Y1dg h,Y1fd h]
 simp only[ax,aN]
 rw[hV _ (Ykg h)];simp
section
variable {B:List YB}{Ls:List YS_}{p f:YS_}{t u:Nat}
theorem Y1mz (hq:qI B Ls p f t) (h:(gI B Ls (xI p) (f.Ia.g (aT p+t))).isSome) (hc:(nI Ls (xI p)).length<=u) :
  (Yn7 (nI Ls (xI p)) (rI B Ls p f t) (Yse B Ls p f t) u).map Ykh=(rp (nI Ls (xI p)) (rI B Ls p f (t+1))).map Ykh:=by
 rw[Y1q7 hc,(Y1j3 hq h).1]
theorem Y1n4 (hu:u<(nI Ls (xI p)).length):((Yn7 (nI Ls (xI p)) (rI B Ls p f t) (Yse B Ls p f t) u).g u).each.length=(rI B Ls p f t).length:=
 Y1q9 (Y1rw _ _ _ _) hu
end
section
variable {B:List YB}{Ls:List YS_}{p f:YS_}{o:List YC}{s t u k1:Nat}
theorem Y1v5 {x:YS_}(h:s<x.Ia.length):wY (x.Ia.g s)<=wY x/\Ykp (x.Ia.g s)<=Ykp x/\Yl5 (x.Ia.g s)<=Yl5 x/\x.Ia.length<=wY x/\x.Ia.g s∈x.Ia:=by
 have h1:=Ysj h
 have h2:=Ypo h
 have h3:=Ylo x
 exact⟨h1.2,by omega,by omega,by omega,Ykg h⟩
theorem Y229 (x:YS_):x.Ia.length<=wY x:=by have:=Ylo x;omega
end
section
variable {B:List YB}{Ls:List YS_}{p f:YS_}
theorem Y1x2 {a b:ByteArray}:b=a ↔ a.data.toList=b.data.toList:=
 ⟨λh=>by rw[h],λh=>by cases a;cases b;congr 1;exact(Array.toList_inj.1 h).symm⟩
end
section
variable {B:List YB}{Ls:List YS_}{p f:YS_}{o:List YC}{k:Nat}
theorem Y1m5 {b:Bool}(h:(!b)=false):b:=by simpa using h
theorem Y1ua {b:Bool}(h:(!b)):b=false:=by simpa using h
theorem Y1n7 (p:YS_):p.Ia.g (atI p.Ia - 1).toNat=xI p:=rfl
theorem Y1j5 (h:fI p f):(List.take (atI p.Ia - 1).toNat p.Ia).length=aT p:=by
 have:=Yvh h
 have e:(atI p.Ia - 1).toNat=aT p:=rfl
 rw[e,au];omega
theorem Y1ru (h:fI p f):(atI p.Ia+1).toNat=aT p+2:=by
 have:=Yvh h;omega
theorem Yux {α:Type}(L:List α) (n:Nat):List.take (L.length - n) (List.drop n L)=List.drop n L:=by
 apply av;rw[ay];exact aD _
theorem Y1rz (h:fI p f):((List.take (p.Ia.length - (atI p.Ia+1).toNat) (List.drop (atI p.Ia+1).toNat p.Ia)).length:Int)=p.Ia.length - (aT p+2):=by
 have:=Yvh h
 rw[Yux,ay];omega
theorem Y1kt (h:fI p f) (hk:k<mI2 p f) (hq:qI B Ls p f k) (hn:(gI B Ls (xI p) (f.Ia.g (aT p+k))).isSome=false):(gI B Ls p f).isSome=false:=by
 cases e:gI B Ls (xI p) (f.Ia.g (aT p+k)) with
 | none=>rw[Y1rq h hk (Y1vq hq e)];rfl
 | some c=>rw[e]at hn;cases hn
theorem Y1nq:(smO (xI p) [] (gI B Ls (xI p) (f.Ia.g (aT p+k)))).map Ykh=((Yse B Ls p f k).take 0).map Yz5++(Yse B Ls p f k).map Ykh:=by
 rw[Y1hx];rfl
theorem Y21n (h:k=mI2 p f):(rp (nI Ls (xI p)) (rI B Ls p f k)).map Ykh=(rp (nI Ls (xI p)) (rI B Ls p f (mI2 p f))).map Ykh:=by rw[h]
theorem Y20w (h:k=mI2 p f) (hq:qI B Ls p f k):qI B Ls p f (mI2 p f):=by rw[<- h];exact hq
end
section
variable {B:List YB}{Ls:List YS_}{p f:YS_}{o:List YC}
theorem Y1vh (p:YS_):p.Ia.g (aT p)=xI p:=rfl
theorem Y1zk (p:YS_):(atI p.Ia - 1).toNat=aT p:=rfl
theorem Y1np (hg:good Ls p) (h0:p.Ka=0) (ha:¬ atI p.Ia<0):((f.Ia.length:Int) - ((List.take (atI p.Ia - 1).toNat p.Ia).length:Nat) - ((List.take (p.Ia.length - (atI p.Ia+1).toNat) (List.drop (atI p.Ia+1).toNat p.Ia)).length:Nat))=(f.Ia.length:Int) - ((p.Ia.length:Int) - 2):=by
 have h:=(Yuo hg h0).2
 rw[Yux,ay,au];omega
theorem Y22g (hg:good Ls p) (h0:¬¬p.Ka=0) (hf:¬¬f.Ka=0) (ha:¬ atI p.Ia<0) (hc:¬ ((f.Ia.length:Int) - ((List.take (atI p.Ia - 1).toNat p.Ia).length:Nat) - ((List.take (p.Ia.length - (atI p.Ia+1).toNat) (List.drop (atI p.Ia+1).toNat p.Ia)).length:Nat))<0):fI p f:=by
 have h0:=Decidable.not_not.1 h0
 have:=Y1np (f:=f) hg h0 ha
 exact Y235 h0 (Decidable.not_not.1 hf) oW hg oW
theorem Y1ob (hg:good Ls p) (h0:¬¬p.Ka=0) (hf:¬¬f.Ka=0) (ha:¬ atI p.Ia<0) (hc:((f.Ia.length:Int) - ((List.take (atI p.Ia - 1).toNat p.Ia).length:Nat) - ((List.take (p.Ia.length - (atI p.Ia+1).toNat) (List.drop (atI p.Ia+1).toNat p.Ia)).length:Nat))<0):[]=(smO p o (gI B Ls p f)).map Ykh/\false=(gI B Ls p f).isSome:=by
 have h0:=Decidable.not_not.1 h0
 have:=Y1np (f:=f) hg h0 ha
 rw[Y1z0 h0 (Decidable.not_not.1 hf) oW oW,Yw5 h0];exact⟨rfl,rfl⟩
theorem Y1jg (h0:¬¬p.Ka=0) (hf:¬f.Ka=0):[]=(smO p o (gI B Ls p f)).map Ykh/\false=(gI B Ls p f).isSome:=by
 have h0:=Decidable.not_not.1 h0
 rw[Y1v1 h0 hf,Yw5 h0];exact⟨rfl,rfl⟩
theorem Y1io (h0:¬¬p.Ka=0) (hf:¬¬f.Ka=0) (ha:atI p.Ia<0) (hl:¬ (p.Ia.length:Int)=(f.Ia.length:Int)):[]=(smO p o (gI B Ls p f)).map Ykh/\false=(gI B Ls p f).isSome:=by
 have h0:=Decidable.not_not.1 h0
 rw[Y1r9 h0 (Decidable.not_not.1 hf) ha oW,Yw5 h0];exact⟨rfl,rfl⟩
theorem Y1pe (hf:fI p f) (h:(!(alM (gI B Ls) (List.take (aT p) p.Ia) (List.take (aT p) f.Ia)).isSome)):[]=(smO p o (gI B Ls p f)).map Ykh/\false=(gI B Ls p f).isSome:=by
 rw[Y200 hf (Y1ua h),Yw5 (Yqd hf).1];exact⟨rfl,rfl⟩
theorem Y1ib (h0:¬¬p.Ka=0) (h:(gI B Ls p f).isSome=false):[]=(smO p o (gI B Ls p f)).map Ykh/\false=(gI B Ls p f).isSome:=by
 have h0:=Decidable.not_not.1 h0
 cases e:gI B Ls p f with
 | none=>rw[Yw5 h0];exact⟨rfl,rfl⟩
 | some c=>rw[e]at h;cases h
theorem Y1oe (hf:fI p f) (h:(!(alM (gI B Ls) (List.take (aT p) p.Ia) (List.take (aT p) f.Ia)).isSome)=false) (hq:qI B Ls p f (mI2 p f)) :
  (alO (alO o (alM (gI B Ls) (List.take (aT p) p.Ia) (List.take (aT p) f.Ia))++rp (nI Ls (xI p)) (rI B Ls p f (mI2 p f))) (alM (gI B Ls) (List.drop (aT p+2) p.Ia) (List.drop (aT p+mI2 p f) f.Ia))).map Ykh=(smO p o (gI B Ls p f)).map Ykh /\
  (alM (gI B Ls) (List.drop (aT p+2) p.Ia) (List.drop (aT p+mI2 p f) f.Ia)).isSome=(gI B Ls p f).isSome:=by
 have h1:=@Y1vj B Ls p f o hf (Y1m5 h) hq
 rw[h1.2];exact⟨rfl,h1.1.symm⟩
theorem Y1t2 (hl:Ls.all Ynx) (hg:good Ls p) (hf:fI p f):((vrI Ls (xI p) 1 []).getD []).map Ykh=(rp (nI Ls (xI p)) (rI B Ls p f 0)).map Ykh:=by
 rw[Y22i hl hg hf]
 have e:rI B Ls p f 0=[]:=rfl
 rw[e,Y1zt];rfl
theorem Y1qc (hf:fI p f):(List.take (aT p) p.Ia).length=aT p:=Y1j5 hf
theorem Y1y9 (hf:fI p f):((f.Ia.length:Int) - (aT p:Nat) - ((List.drop (aT p+2) p.Ia).length:Nat))=(mI2 p f:Nat):=by
 have:=Yvh hf
 rw[ay];omega
theorem Y1ww (a b:Nat):((a:Int)+(b:Int)).toNat=a+b:=by omega
theorem Y1ys (f:YS_) (n:Nat):sumBy wY (List.take n f.Ia)<=wY f/\sumBy wY (List.drop n f.Ia)<=wY f:=by
 have h1:=Ym2 wY f.Ia n
 have h2:=Y11e wY f.Ia n
 have h3:=Ylo f
 omega
theorem Y22w (h1:¬p.Ka=1) (h0:¬p.Ka=0) (hk:f.Ka=p.Ka) (hn:f.Na=p.Na):decide (f.Ta.data.toList=p.Ta.data.toList)=(gI B Ls p f).isSome:=by
 rw[(Y1c8 (o:=[]) h1 h0).1]
 have:(f.Ta=p.Ta) ↔ f.Ta.data.toList=p.Ta.data.toList:=by rw[Y1x2];exact eq_comm
 simp[hk,hn,this]
end
section
abbrev Z4g (B:List YB) (Ls:List YS_) (ps:List YS_) (fs:List YS_) (o:List YC):Ct:=⟨166,[.Ai o],[.agg [As B,Am Ls],Af ps,Af fs,.r 0],[.dead,.Ai (alO o (alM (gI B Ls) ps fs))],.tup [.r 1,lb (alM (gI B Ls) ps fs).isSome]⟩
abbrev Zm (B:List YB) (Ls:List YS_) (p:YS_) (f:YS_) (o:List YC):Ct:=⟨120,[.Ai o],[.agg [As B,Am Ls],Ykx p,Ykx f,.r 0],[.dead,.Ai (smO p o (gI B Ls p f))],.tup [.r 1,lb (gI B Ls p f).isSome]⟩
def Z7b (B:List YB) (Ls:List YS_) (ps:List YS_) (fs:List YS_) (o:List YC):Lp Nat:=let v1:=alM (gI B Ls) ps fs;.mk 37 1 (λx=>[(1,Af ps),(2,Af fs),(3,.r 1),(4,.y 2),(14,li (ps.map Ykb).length),(15,hs x 0)]) (λx=>[.dead,ho x 1,.box [As B,Am Ls]]) (λk=>[.s (li k),.o (.Ai (alO o (alM (gI B Ls) (ps.take k) fs)))]) (λk=>k<=ps.length/\ps.length<=9223372036854775807/\(alM (gI B Ls) (ps.take k) fs).isSome) (λk=>ps.length - k) [.mk (v1.isSome) (.exit 0) (λx=>[(3,.r 1)]) (λx=>[.dead,ho x 0]) [.o (.Ai (alO o v1))],.mk (v1.isSome=false) .ret (λx=>[(8,hs x 0),(9,hs x 1)]) (λx=>[.dead]) [.s (.one (.val (.y))),.s (lb false)]]
theorem Zhz (B:List YB) (Ls:List YS_) (ps:List YS_) (fs:List YS_) (o:List YC) (h:B.length<=1000000001/\sumBy wB B<=1000000001/\sumBy wY ps<=900000000/\sumBy wY fs<=1000000000/\o.length+sumBy Ykp ps<=2147483647/\ps.length<=fs.length/\ps.length<=1000000000) (hd:∀ (z:YS_),z∈ps->good Ls z/\Yl5 z<=40) (hl:Ls.all Ynx) (ih:∀ (z:YS_),z∈ps->∀ (B:List YB) (Ls:List YS_) (f:YS_) (o:List YC),B.length<=1000000001/\sumBy wB B<=1000000001/\wY z<=900000000/\wY f<=1000000000/\o.length+Ykp z<=2147483647/\Yl5 z<=40->Ls.all Ynx->good Ls z->OK (Zm B Ls z f o)):Lp.Sem prog (Yks f166 0) (Z7b B Ls ps fs o):=Yl0 (λk=>let v1:=alO o (alM (gI B Ls) (ps.take k) fs);let v2:=ps.g k;let v3:=fs.g k;.i ((k:Int)<(ps.map Ykb).length) (.w (.draw [(10,[1])]) (.x (k:Int) (ps.map Ykb) (Yki v2) (.x (k:Int) (fs.map Ykb) (Yki v3) (.d [.rd,.rd,.rd,.own true 12] (Zm B Ls v2 v3 v1) (.b (!(gI B Ls v2 v3).isSome) (.o 1 [0] [.s (.one (.val (.y))),.s (lb false)]) (.r ((k:Int)+1) (.g [0,10,2] (k+1) [.s (li ((k:Int)+1)),.o (.Ai (smO v2 v1 (gI B Ls v2 v3)))]))))))) (.o 0 [0,1] [.o (.Ai v1)])) (by
 intro k h;try dsimp only[Ykd,Yko,Z7b]at h|-
 have g1:=@Y23f (gI B Ls) ps fs o k
 have g2:=@Y1vu (gI B Ls) ps fs (k+1)
 have g3:=@Y1zn (gI B Ls) ps fs k
 have g4:=@Y1j8 B Ls o (ps.take k) fs
 have g5:=hd (ps.g k)
 have g6:=@Yl3 _ wY ps (ps.g k)
 have g7:=@Yl3 _ wY fs (fs.g k)
 have g8:=@Ynp _ _ Ykp ps k
 have g9:=Ym2 Ykp ps (k+1)
 exact z01)
theorem Zeg (B:List YB) (Ls:List YS_) (ps fs:List YS_) (o:List YC) (h:B.length<=1000000001/\sumBy wB B<=1000000001/\sumBy wY ps<=900000000/\sumBy wY fs<=1000000000/\o.length+sumBy Ykp ps<=2147483647/\ps.length<=fs.length/\ps.length<=1000000000) (hd:∀ z∈ps,good Ls z/\Yl5 z<=40) (hl:Ls.all Ynx) (ih:∀ z∈ps,∀ (B:List YB) (Ls:List YS_) (f:YS_) (o:List YC) (h:B.length<=1000000001/\sumBy wB B<=1000000001/\wY z<=900000000/\wY f<=1000000000/\o.length+Ykp z<=2147483647/\Yl5 z<=40) (hl:Ls.all Ynx) (hg:good Ls z),Zm B Ls z f o):Z4g B Ls ps fs o:=Ykr call166 func166 (.z Ykb ps (.w (.m 0) (.l (Z7b B Ls ps fs o) (Zhz B Ls ps fs o h hd hl ih) [0,2,1] [.s (li 0),.o (.Ai o)] 0 (.t (.f [1] [.dead,.Ai (alO o (alM (gI B Ls) ps fs))] (.tup [.r 1,lb true])) (.t (.w (.g (.nilreg 8 true 12)) (.f [1] [.dead,.y 12 []] (.tup [.r 1,lb false]))) .q))))) (by
 dsimp only[Ykd,Z4g,Yko,Z7b]
 have g1:=@Y1xk (gI B Ls) ps fs o
 have g2:(alM (gI B Ls) ps fs).isSome=false->alO o (alM (gI B Ls) ps fs)=[]:=λh=>by cases e:alM (gI B Ls) ps fs<;>simp_all[alO]
 exact z02)
def Z50 (B:List YB) (Ls:List YS_) (p:YS_) (f:YS_) (o:List YC) (k:Nat):Lp Nat:=let v8:=(atI p.Ia - 1).toNat - 0;let v7:=p.Ia.map Ykb;let v10:=((List.take v8 (v7.drop 0)).length:Int);let v9:=atI p.Ia+1;let v1:=(13,li (((f.Ia.map Ykb).length:Int) - v10 - ((List.take (v7.length - v9.toNat) (List.drop v9.toNat v7)).length:Int)));let v2:=(alO o (alM (gI B Ls) (List.take v8 (p.Ia.drop 0)) (List.take (v10.toNat - 0) (f.Ia.drop 0)))).map Ykh;let v3:=(12,ll (List.take (v7.length - v9.toNat) (List.drop v9.toNat v7)));let v4:=(11,ll (List.take v8 (v7.drop 0)));let v5:=nI Ls (xI p);let v6:=[As B,Am Ls];.mk 217 1 (λx=>[(3,.r 1),(4,.y 2),(5,.y 3),(6,.y 4),(10,li (atI p.Ia)),v4,v3,v1,(15,.r 5),(17,li k),(18,.r 6),(181,li (((rp v5 (rI B Ls p f k)).map Ykh).length:Int)),(182,hs x 0)]) (λx=>[.dead,.y 12 v2,.box v6,.box (vals (Yki p)),.box (vals (Yki f)),ho x 1,ho x 2]) (λk1=>[.s (li (k1:Int)),.o (.Ai (Yn7 v5 (rI B Ls p f k) (Yse B Ls p f k) k1)),.o (.y 12 ((List.take k1 (Yse B Ls p f k)).map Yz5++(List.drop k1 (Yse B Ls p f k)).map Ykh))]) (λk1=>k1<=v5.length/\v5.length<=9223372036854775807/\k<mI2 p f/\fI p f/\qI B Ls p f k/\(gI B Ls (xI p) (f.Ia.g (aT p+k))).isSome/\(rI B Ls p f k).length<=1000000000) (λk1=>v5.length - k1) [.mk True (.exit 3) (λx=>[(3,.r 1),(4,.y 2),(5,.y 3),(6,.y 4),(10,li (atI p.Ia)),v4,v3,v1,(15,.r 5),(17,li k)]) (λx=>[.dead,.y 12 v2,.box v6,.box (vals (Yki p)),.box (vals (Yki f)),ho x 0]) [.o (.Ai (rp v5 (rI B Ls p f (k+1))))]]
def Z2r (B:List YB) (Ls:List YS_) (p:YS_) (f:YS_) (o:List YC):Lp Nat:=let v7:=(atI p.Ia - 1).toNat - 0;let v6:=p.Ia.map Ykb;let v9:=((List.take v7 (v6.drop 0)).length:Int);let v8:=atI p.Ia+1;let v1:=(13,li (((f.Ia.map Ykb).length:Int) - v9 - ((List.take (v6.length - v8.toNat) (List.drop v8.toNat v6)).length:Int)));let v2:=(alO o (alM (gI B Ls) (List.take v7 (p.Ia.drop 0)) (List.take (v9.toNat - 0) (f.Ia.drop 0)))).map Ykh;let v3:=(12,ll (List.take (v6.length - v8.toNat) (List.drop v8.toNat v6)));let v4:=(11,ll (List.take v7 (v6.drop 0)));let v5:=[As B,Am Ls];.mk 217 1 (λx=>[(3,.r 1),(4,.y 2),(5,.y 3),(6,.y 4),(10,li (atI p.Ia)),v4,v3,v1,(15,.r 5),(17,hs x 0)]) (λx=>[.dead,.y 12 v2,.box v5,.box (vals (Yki p)),.box (vals (Yki f)),ho x 1]) (λk=>[.s (li k),.o (.Ai (rp (nI Ls (xI p)) (rI B Ls p f k)))]) (λk=>k<=mI2 p f/\fI p f/\qI B Ls p f k) (λk=>mI2 p f - k) [.mk (qI B Ls p f (mI2 p f)) (.exit 1) (λx=>[(3,.r 1),(4,.y 2),(6,.y 3),v4,v3,v1,(15,.r 4)]) (λx=>[.dead,.y 12 v2,.box v5,.box (vals (Yki f)),ho x 0]) [.o (.Ai (rp (nI Ls (xI p)) (rI B Ls p f (mI2 p f))))],.mk ((gI B Ls p f).isSome=false) .ret (λx=>[(8,hs x 0),(9,hs x 1)]) (λx=>[.dead]) [.s (.one (.val (.y))),.s (lb false)]]
theorem Zff (B:List YB) (Ls:List YS_) (p:YS_) (f:YS_) (o:List YC) (h:B.length<=1000000001/\sumBy wB B<=1000000001/\wY p<=900000000/\wY f<=1000000000/\o.length+Ykp p<=2147483647/\Yl5 p<=40) (hl:Ls.all Ynx) (hg:good Ls p) (ih:∀ (z:YS_),z∈p.Ia->∀ (B:List YB) (Ls:List YS_) (f:YS_) (o:List YC),B.length<=1000000001/\sumBy wB B<=1000000001/\wY z<=900000000/\wY f<=1000000000/\o.length+Ykp z<=2147483647/\Yl5 z<=40->Ls.all Ynx->good Ls z->OK (Zm B Ls z f o)) (k:Nat):Lp.Sem prog (Yks f120 1) (Z50 B Ls p f o k):=Yl0 (λk1=>let v16:=Yse B Ls p f k;let v9:=Yn7 (nI Ls (xI p)) (rI B Ls p f k) v16 k1;let v1:=v9.g (k1:Int).toNat;let v2:=[cI 0,cI 0,cS (mkS []),.list [],.list [],cI 0,cI 0,cI 0,cS (mkS []),.list [],.list [],.list []];let v3:=v9.map Ykh;let v4:=v16.g k1;let v5:=(v16.take k1).map Yz5++(v16.drop k1).map Ykh;let v6:=[(k1:Int).toNat,(k1:Int).toNat,(k1:Int).toNat,(k1:Int).toNat,(k1:Int).toNat];let v17:=v1.name.Ia.map Ykb;let v18:=v1.form.Ia.map Ykb;let v7:=[cI v1.name.Ka,cI v1.name.Na,cS v1.name.Ta,.Ao v1.name.Sa,.list v17,cI v1.depth,cI v1.form.Ka,cI v1.form.Na,cS v1.form.Ta,.Ao v1.form.Sa,.list v18,.any];let v14:=v1.each.map Ykh++[v2];let v13:=((v1.each.map Ykh).length:Int);let v8:=[cI v1.name.Ka,cI v1.name.Na,cS v1.name.Ta,.Ao v1.name.Sa,.list v17,cI v1.depth,cI v1.form.Ka,cI v1.form.Na,cS v1.form.Ta,.Ao v1.form.Sa,.list v18,.list (v14.set v13.toNat (Ylc v4))];let v10:=v5[(k1:Int).toNat]? = some (Ylc v4);let v11:=v3[(k1:Int).toNat]? = some (Ylc v1);let v19:=v1.each.map Ykh;let v12:Cell:=.list v19;let v15:=v3.set (k1:Int).toNat v7;.i ((k1:Int)<(((rp (nI Ls (xI p)) (rI B Ls p f k)).map Ykh).length:Int)) (.w (.drawT 13 16 12 [(11,[5,11]),(13,[6,13]),(16,[13,5])]) (.p (0<=(k1:Int)/\(k1:Int).toNat<v3.length) (.w .sub (.p ((k1:Int).toNat<v3.length) (.p (0<=(k1:Int)/\(k1:Int).toNat<v5.length) (.w (.subs (Ylc v4)) (.p v10 (.w (.cells (Ylc v1)) (.p v11 (.w (.subcall (Ylc v1) v19 12) (.p v11 (.p (some v12=some v12) (.p (∀ (x0:List Cell),x0∈v1.each.map Ykh->x0.length=12) (.p ((v19.length+1) * 192<=140737488355328) (.p (0<=v13/\v13.toNat<v14.length) (.w (.subs (Ylc v4)) (.w (.cells v2) (.p (v6=v6) (.p v10 (.p (v14[v13.toNat]? = some v2) (.p (0<=(k1:Int)/\(k1:Int).toNat<v15.length) (.w (.take v7 (v3.set (k1:Int).toNat v8) 0) (.p (v15[(k1:Int).toNat]? = some v7) (.p (v15.set (k1:Int).toNat v8=v3.set (k1:Int).toNat v8) (.p (v13.toNat<v14.length) (.p ((k1:Int).toNat<v15.length) (.z Ykh v1.each (.r ((k1:Int)+1) (.g [0,1,2,3,4,5,6] (k1+1) [.s (li ((k1:Int)+1)),.o (.y 12 (v3.set (k1:Int).toNat v8)),.o (.y 12 (v5.set (k1:Int).toNat [cI v4.name.Ka,cI v4.name.Na,cS v4.name.Ta,.any,.any,cI v4.depth,cI v4.form.Ka,cI v4.form.Na,cS v4.form.Ta,.any,.any,.any]))]))))))))))))))))))))))))))))) (.o 0 [0,1,2,3,4,5] [.o (.y 12 v3)])) (by
 intro k1 h;try dsimp only[Ykd,Yko,Z50]at h|-
 have gl:=Yrz (nI Ls (xI p)) (rI B Ls p f k)
 have g3:=Y1so (nI Ls (xI p)) (rI B Ls p f k) (Yse B Ls p f k) k1
 have gc:=@Y1r2 B Ls p f k
 have ge:=@Y1n4 B Ls p f k k1
 have gz:=@Y1mz B Ls p f k k1
 with_reducible repeat' (first|apply ah|exact zR|(intro))
 all_goals ((try simp only[std,inj]at *);with_reducible and_intros)
 all_goals try first|exact zw|exact dg .. | exact Y1tn (by grind)|exact Y1tf (by grind)|exact Y1wr (by grind)|exact Y1pm _ oW|exact gz h.2.2.2.2.1 h.2.2.2.2.2.1 oW|grind)
theorem Zfg (B:List YB) (Ls:List YS_) (p:YS_) (f:YS_) (o:List YC) (h:B.length<=1000000001/\sumBy wB B<=1000000001/\wY p<=900000000/\wY f<=1000000000/\o.length+Ykp p<=2147483647/\Yl5 p<=40) (hl:Ls.all Ynx) (hg:good Ls p) (ih:∀ (z:YS_),z∈p.Ia->∀ (B:List YB) (Ls:List YS_) (f:YS_) (o:List YC),B.length<=1000000001/\sumBy wB B<=1000000001/\wY z<=900000000/\wY f<=1000000000/\o.length+Ykp z<=2147483647/\Yl5 z<=40->Ls.all Ynx->good Ls z->OK (Zm B Ls z f o)):Lp.Sem prog (Yks f120 0) (Z2r B Ls p f o):=Yl0 (λk=>let v6:=atI p.Ia - 1;let v5:=p.Ia.map Ykb;let v8:=List.take (v6.toNat - 0) (v5.drop 0);let v1:=f.Ia.g (v8.length+k);let v2:=((List.take (v6.toNat - 0) (v5.drop 0)).length:Int);let v3:=p.Ia.g v6.toNat;let v7:=rp (nI Ls (xI p)) (rI B Ls p f k);let v4:Ob:=.Ai v7;.i ((k:Int)<(f.Ia.map Ykb).length - v2 - ((List.take (v5.length - (atI p.Ia+1).toNat) (List.drop (atI p.Ia+1).toNat v5)).length:Int)) (.w (.draw []) (.r v6 (.x v6 v5 (Yki v3) (.r (v2+(k:Int)) (.x (v2+(k:Int)) (f.Ia.map Ykb) (Yki v1) (.d [.rd,.rd,.rd,.own true 12] (Zm B Ls v3 v1 []) (.h (v8.length<=9223372036854775807) (.b (!(gI B Ls v3 v1).isSome) (.o 1 [0] [.s (.one (.val (.y))),.s (lb false)]) (.z Ykh v7 (.l (Z50 B Ls p f o k) (Zff B Ls p f o h hl hg ih k) [0,1,2,3,4,5,17] [.s (li 0),.o v4,.o (.Ai (smO v3 [] (gI B Ls v3 v1)))] 0 (.t (.r ((k:Int)+1) (.g [0,1,2,3,4,5] (k+1) [.s (li ((k:Int)+1)),.o (.Ai (rp (nI Ls (xI p)) (rI B Ls p f (k+1))))])) .q))))))))))) (.o 0 [0,1,2,4,5] [.o v4])) (by
 intro k h;try dsimp only[Ykd,Yko,Z2r,Z50]at h|-
 rename_i hh
 have gn:=Yvh h.2.1
 have gx:=Y209 h.2.1 hg
 have e1:=Y1j5 h.2.1
 have e2:=Y1rz h.2.1
 have e3:=Y1yl h.2.2
 have gl:=Y229 f
 have gs:=Y17z (Ls:=Ls) (xI p)
 have gt:=Ywl (xI p)
 have g10:=Y1oz (nI Ls (xI p)) (rI B Ls p f k) (Yse B Ls p f k)
 have g12:=Yrz (nI Ls (xI p)) (rI B Ls p f k)
 have gw:=@Y1v5 (aT p+k) f
 with_reducible repeat' (first|apply ah|exact zR|exact ih|(intro))
 all_goals (try simp only[std,inj,e1,Y1n7]at *)
 all_goals with_reducible and_intros
 all_goals try first|with_reducible apply ih
 all_goals try first|exact zw|(have q:=gw oW;omega)|exact Y1kt h.2.1 oW h.2.2 (Y1ua ‹_›)|exact Y1nq|exact Y1m5 ‹_› | exact(Y1j3 h.2.2 (Y1m5 ‹_›)).2|exact Y20w oW h.2.2|exact Y21n oW|grind)
theorem Zj3 (B:List YB) (Ls:List YS_) (p f:YS_) (o:List YC) (h:B.length<=1000000001/\sumBy wB B<=1000000001/\wY p<=900000000/\wY f<=1000000000/\o.length+Ykp p<=2147483647/\Yl5 p<=40) (hl:Ls.all Ynx) (hg:good Ls p) (ih:∀ z∈p.Ia,∀ (B:List YB) (Ls:List YS_) (f:YS_) (o:List YC) (h:B.length<=1000000001/\sumBy wB B<=1000000001/\wY z<=900000000/\wY f<=1000000000/\o.length+Ykp z<=2147483647/\Yl5 z<=40) (hl:Ls.all Ynx) (hg:good Ls z),Zm B Ls z f o):Zm B Ls p f o:=Ykr call120 func120 (let v19:=atI p.Ia - 1;let v17:=p.Ia.map Ykb;let v9:=((List.take (v19.toNat - 0) (v17.drop 0)).length:Int);let v26:=((f.Ia.map Ykb).length:Int);let v21:=atI p.Ia+1;let v37:=v17.length - v21.toNat;let v11:=((List.take v37 (List.drop v21.toNat v17)).length:Int);let v39:=v26 - v9 - v11;let v1:=v9+v39;let v44:=gI B Ls;let v14:=List.take (v19.toNat - 0) (p.Ia.drop 0);let v20:=List.take (v9.toNat - 0) (f.Ia.drop 0);let v2:=alM v44 v14 v20;let v3:=List.take v37 (List.drop v21.toNat p.Ia);let v30:Orc:=.ghost (.nilreg 8 true 12);let v29:List Ob:=[.dead,.y 12 []];let v41:AC:=.ref 1;let v13:AV:=.tup [.one v41,lb false];let v4:Tq _ _:=.w v30 (.w (.m 0) (.f [4] v29 v13));let v36:=List.take (v19.toNat - 0) (v17.drop 0);let v5:=v36.length<=9223372036854775807;let v40:=o.map Ykh;let v18:=f.Ia.map Ykb;let v6:Tq _ _:=.w (.draw [(6,[6,7,16,17]),(7,[0,24])]) (.d [.rd] (Zp p) (.d [.rd] (Zp f) (.p ((v40.length+1) * 192<=140737488355328) (.f [25] [.dead,.y 12 (o.map Ykh++[[cI p.Ka,cI p.Na,cS p.Ta,.Ao p.Sa,.list v17,cI 0,cI f.Ka,cI f.Na,cS f.Ta,.Ao f.Sa,.list v18,.list []]])] (.tup [.one v41,lb true])))));let v15:List Ob:=[.dead,.y 12 v40];let v31:Tq _ _:=.w (.m 0) (.f [4] v15 v13);let v7:Tq _ _:=.w (.draw []) (.i (f.Ka=p.Ka) (.i (f.Na=p.Na) (.w (.m 0) (.f [4] v15 (.tup [.one v41,lb (decide (f.Ta.data.toList=p.Ta.data.toList))]))) v31) (.y false v31));let v8:=0<=v9+v39;let v23:List Ab.Mode:=[.rd,.rd,.rd,.own true 12];let v27:=List.take (v18.length - v1.toNat) (List.drop v1.toNat f.Ia);let v24:=alO o v2++rp (nI Ls (xI p)) (rI B Ls p f (mI2 p f));let v38:=rp (nI Ls (xI p)) (rI B Ls p f (mI2 p f));let v35:=[As B,Am Ls];let v28:=List.take v37 (List.drop v21.toNat v17);let v33:List Ob:=[.dead,.Ai (alO v24 (alM v44 v3 v27))];let v34:AV:=.tup [.one v41,lb (alM v44 v3 v27).isSome];let v10:Tq _ _:=.u v23 (Z4g B Ls v3 v27 v24) (.p (Yn4 prog 166 [Ob.arr true 12 ((alO o v2).map Ykh++v38.map Ykh)] [SV.agg v35,ll v28,ll (List.take (v18.length - v1.toNat) (List.drop v1.toNat v18)),SV.one (AC.ref 0)] v33 v34) (.h v5 (.f [11] v33 v34)));let v12:Tq _ _:=.z Ykb p.Ia (.z Ykb f.Ia (.i (((p.Ia.map Ykb).length:Int)≠v26) v4 (.d v23 (Z4g B Ls p.Ia f.Ia o) (.f [5] [.dead,.Ai (alO o (alM v44 p.Ia f.Ia))] (.tup [.one v41,lb (alM v44 p.Ia f.Ia).isSome])))));let v16:=p.Ia.g v19.toNat;let v22:=(((alO o v2).map Ykh).length+(v38.map Ykh).length) * 192<=140737488355328;let v25:=Yn4 prog 166 [.y 12 v40] [.agg v35,ll v36,ll (List.take (v9.toNat - 0) (v18.drop 0)),.r 0] [.dead,.Ai (alO o v2)] (.tup [.one v41,lb v2.isSome]);let v32:Ob:=.Ai ((vrI Ls v16 1 []).getD []);let v42:=Zfg B Ls p f o h hl hg ih;let v43:=v28.length<=9223372036854775807;.c [.rd] (Z9u p) (.b (decide (p.Ka=1)&&Ymj p) (.w (.m 0) (.f [4] v15 (.tup [.one v41,lb true]))) (.i (p.Ka=1) (.c [.rd,.rd] (Zbw Ls p) (.b (Yo0 Ls p) (.i (f.Ka=1) (.d [.rd,.rd,.rd] (Z93 B p f) (.w (.m 0) (.f [4] v15 (.tup [.one v41,lb (mng B p f)])))) v31) (.i (p.Ka=1) v6 (.i (p.Ka≠0) v7 (.i (f.Ka≠0) v4 (.c [.rd] (Zdk p.Ia) (.i (atI p.Ia<0) v12 (.r v19 (.p (0<=atI p.Ia - 1) (.p (0<=v19.toNat/\v19.toNat<=v17.length/\∀ (x0:List Cell),x0∈p.Ia.map Ykb->x0.length=5) (.r v21 (.p (0<=atI p.Ia+1) (.p (v21.toNat<=v17.length/\v17.length<=v17.length/\∀ (x0:List Cell),x0∈p.Ia.map Ykb->x0.length=5) (.z Ykb f.Ia (.h v5 (.r (v26 - v9) (.h v43 (.r v39 (.i (v26 - v9 - v11<0) v4 (.w (.draw [(8,[0])]) (.p (0<=v9) (.p (0<=v9.toNat/\v9.toNat<=v18.length/\∀ (x0:List Cell),x0∈f.Ia.map Ykb->x0.length=5) (.u v23 (Z4g B Ls v14 v20 o) (.p v25 (.h v5 (.b (!(alM v44 v14 v20).isSome) (.w v30 (.f [10] v29 v13)) (.w (.draw []) (.r v19 (.x v19 v17 (Yki v16) (.d v23 (Zc Ls v16 1 []) (.l (Z2r B Ls p f o) v42 [0,9,1,2,3,17] [.s (li 0),.o v32] 0 (.t (.p v22 (.w (.draw [(10,[5])]) (.r v1 (.p v8 (.p (v1.toNat<=v18.length/\v18.length<=v18.length/\∀ (x0:List Cell),x0∈f.Ia.map Ykb->x0.length=5) v10))))) (.t (.w v30 (.f [1] v29 v13)) .q))))))))))))))))))))))))))))))))) (.y false (.i (p.Ka=1) v6 (.i (p.Ka≠0) v7 (.i (f.Ka≠0) v4 (.c [.rd] (Zdk p.Ia) (.i (atI p.Ia<0) v12 (.r v19 (.p (0<=atI p.Ia - 1) (.p (0<=v19.toNat/\v19.toNat<=v17.length/\∀ (x0:List Cell),x0∈p.Ia.map Ykb->x0.length=5) (.r v21 (.p (0<=atI p.Ia+1) (.p (v21.toNat<=v17.length/\v17.length<=v17.length/\∀ (x0:List Cell),x0∈p.Ia.map Ykb->x0.length=5) (.z Ykb f.Ia (.h v5 (.r (v26 - v9) (.h v43 (.r v39 (.i (v26 - v9 - v11<0) v4 (.w (.draw [(8,[0])]) (.p (0<=v9) (.p (0<=v9.toNat/\v9.toNat<=v18.length/\∀ (x0:List Cell),x0∈f.Ia.map Ykb->x0.length=5) (.u v23 (Z4g B Ls v14 v20 o) (.p v25 (.h v5 (.b (!(alM v44 v14 v20).isSome) (.w v30 (.f [10] v29 v13)) (.w (.draw []) (.r v19 (.x v19 v17 (Yki v16) (.d v23 (Zc Ls v16 1 []) (.l (Z2r B Ls p f o) v42 [0,9,1,2,3,17] [.s (li 0),.o v32] 0 (.t (.p v22 (.w (.draw [(10,[5])]) (.r v1 (.p v8 (.p (v1.toNat<=v18.length/\v18.length<=v18.length/\∀ (x0:List Cell),x0∈f.Ia.map Ykb->x0.length=5) v10))))) (.t (.w v30 (.f [1] v29 v13)) .q))))))))))))))))))))))))))))))))))) (by
 dsimp only[Ykd,Zm,Yko,Z2r]
 have g1:=@Y1xa B Ls p f o
 have g2:=@Y1za B Ls p f o
 have g3:=@Y1y0 B Ls p f o
 have g4:=@Y1c8 B Ls p f o
 have g6:=@Y1rr B Ls p f o
 have g14:=@Y1mr Ls p hg
 have g19:=Ylo f
 have g20:=Ylo p
 have g21:=Yli p
 have g22:=Y1ma o p f
 with_reducible repeat' (first|apply ah|exact zR|(intro)|apply Z9u|apply Zbw|apply Zg1|apply Z2|apply Zdk|apply Zeg|apply Z9w)
 all_goals ((try simp only[std,inj]at *);with_reducible and_intros)
 all_goals try first|with_reducible apply Zg1|with_reducible apply Z2|with_reducible apply Zeg|with_reducible apply Z9w|(simp only[<- ar];with_reducible apply Zeg)
 all_goals (try (
  have hf:=Y22g hg ‹_› ‹_› ‹_› ‹_›
  have e1:=Y1qc hf
  have e2:=Y1ru hf
  have e3:=Y1y9 hf
  simp only[Y1zk,e1,e2,e3,Yux,Y1n7,Y1vh,Y1ww]at *
  have gn:=Yvh hf
  have gx:=Y209 hf hg
  have pl:=Y1dp (Yqd hf).2.2.1 (Yqd hf).2.2.2.1
  have s1:=Y1ys f (aT p)
  have s2:=Y1ys f (aT p+mI2 p f)
  have s3:=@Y1j8 B Ls o (List.take (aT p) p.Ia) (List.take (aT p) f.Ia)
  have s4:=Y17z (Ls:=Ls) (xI p)
  have s5:=Yrz (nI Ls (xI p)) (rI B Ls p f (mI2 p f))))
 all_goals with_reducible and_intros
 all_goals try first|exact zw|(have q:=Yuo hg (Decidable.not_not.1 ‹¬¬p.Ka=0›);omega)|exact(Y1jg ‹_› ‹_›).1|exact(Y1jg (o:=o) ‹_› ‹_›).2|exact(Y1io ‹_› ‹_› ‹_› ‹_›).1|exact(Y1io (o:=o) ‹_› ‹_› ‹_› ‹_›).2|exact(Y1ob hg ‹_› ‹_› ‹_› ‹_›).1|exact(Y1ob (o:=o) hg ‹_› ‹_› ‹_› ‹_›).2|exact Y22w ‹_› ‹_› ‹_› ‹_› | exact(Y1pe hf ‹_›).1|exact(Y1pe (o:=o) hf ‹_›).2|exact(Y1ib ‹_› ‹_›).1|exact(Y1ib (o:=o) ‹_› ‹_›).2|exact(Y1oe hf ‹_› ‹_›).1|exact(Y1oe (o:=o) hf ‹_› ‹_›).2|exact Y1t2 hl hg hf|exact Y1qv hg (Yqd hf).1 (Yqd hf).2.2.1 (Yqd hf).2.2.2.1 oW|exact Y1mx hg (Yqd hf).1 (Yqd hf).2.2.1 (Yqd hf).2.2.2.1 oW|(simp only[ax,au,ay,bp]at *;omega)|rfl|grind)
theorem Zb9 (p:YS_):∀ (B:List YB) (Ls:List YS_) (f:YS_) (o:List YC) (h:B.length<=1000000001/\sumBy wB B<=1000000001/\wY p<=900000000/\wY f<=1000000000/\o.length+Ykp p<=2147483647/\Yl5 p<=40) (hl:Ls.all Ynx) (hg:good Ls p),Zm B Ls p f o:=YS_.ind (P:=λp=>∀ (B:List YB) (Ls:List YS_) (f:YS_) (o:List YC) (h:B.length<=1000000001/\sumBy wB B<=1000000001/\wY p<=900000000/\wY f<=1000000000/\o.length+Ykp p<=2147483647/\Yl5 p<=40) (hl:Ls.all Ynx) (hg:good Ls p),Zm B Ls p f o) (λp ih B Ls f o h hl hg=>Zj3 B Ls p f o h hl hg ih) p
end
section
mutual
/-- the names of a form,each once -/
def Ymf:YS_->List YS_->List YS_
 | ⟨k,n,t,s,l⟩,o=>Y15m l (if k=1/\Yn1 o ⟨k,n,t,s,l⟩=false then o++[⟨k,n,t,s,l⟩] else o)
def Y15m:List YS_->List YS_->List YS_
 | [],o=>o
 | x :: r,o=>Y15m r (Ymf x o)
end
theorem Y1ew:∀ (l:List YS_) (o:List YS_),Y15m l o=l.foldl (λo x=>Ymf x o) o
 | [],_=>by rw[Y15m];rfl
 | x :: r,o=>by rw[Y15m,Y1ew r];rfl
def Y1qp (s:YS_) (o:List YS_):List YS_:=if s.Ka=1/\Yn1 o s=false then o++[s] else o
theorem Y1xm (s:YS_) (o:List YS_):Ymf s o=s.Ia.foldl (λo x=>Ymf x o) (Y1qp s o):=by cases s;simp only[Ymf,Y1ew,Y1qp]
def Yzi (C:List YC) (a:Nat):List YS_->List YC
 | []=>C
 | x :: r=>let O:=Yzi C a r;if 0<=fnd C x/\0<(C.g (fnd C x).toNat).depth then O.set (fnd C x).toNat ((C.g (fnd C x).toNat).each.g a) else O
def Y12o (C:List YC) (a:Nat) (I:List YS_) (k:Nat):List YC:=Yzi C a (I.take k).reverse
theorem Y1g4 (C:List YC) (a:Nat):∀ I,(Yzi C a I).length=C.length
 | []=>rfl
 | x :: r=>by simp only[Yzi];split<;>simp[Y1g4 C a r]
theorem Y1nn (s:YS_):Ykp s<=wY s+1:=by
 refine YS_.ind (P:=λs=>Ykp s<=wY s+1) (λs ih => ?_) s
 have:∀ L:List YS_,(∀ x∈L,Ykp x<=wY x+1)->sumBy Ykp L<=L.length+sumBy wY L:=by
  intro L
  induction L with
  | nil=>intro _;simp[sumBy]
  | cons x r ihr=>
   intro h
   have h1:=h x aj
   have h2:=ihr λy hy=>h y (ai _ hy)
   simp only[sumBy,aE];omega
 have h1:=this s.Ia ih
 have h2:=Ylo s
 rw[Yli];omega
def Ylt (C:List YC) (x:YS_):YC:=C.g (fnd C x).toNat
def rep (C:List YC) (x:YS_):Bool:=decide (0<=fnd C x)&&decide (0<(Ylt C x).depth)
def cnN (C:List YC) (I:List YS_):Nat->Int
 | 0 => -1
 | k+1=>if rep C (I.g k) then ((Ylt C (I.g k)).each.length:Int) else cnN C I k
def Y14p (C:List YC) (I:List YS_):Nat->Bool
 | 0=>true
 | k+1=>Y14p C I k&&(!rep C (I.g k)||decide (cnN C I k<0)||decide (cnN C I k=((Ylt C (I.g k)).each.length:Int)))
abbrev Zct (L:List Int) (n:Int):Ct:=⟨161,[],[Ag L,li n],[],.sv (lb (decide (n∈L)))⟩
def Z5t (L:List Int) (n:Int):Lp Nat:=.mk 17 0 (λx=>[(1,li n),(7,Ag L),(8,li (L.map Yke).length),(9,hs x 0)]) (λx=>[]) (λk=>[.s (li k)]) (λk=>k<=L.length/\L.length<=9223372036854775807/\decide (n∈L.take k)=false) (λk=>L.length - k) [.mk (decide (n∈L)=false) (.exit 0) (λx=>[]) (λx=>[]) [],.mk (decide (n∈L)) .ret (λx=>[(4,hs x 0)]) (λx=>[]) [.s (lb true)]]
theorem Zgq (L:List Int) (n:Int):Lp.Sem prog (Yks f161 0) (Z5t L n):=Yl0 (λk=>.i ((k:Int)<(L.map Yke).length) (.x (k:Int) (L.map Yke) [cI (L.getD k 0)] (.i (L.getD k 0=n) (.o 1 [] [.s (lb true)]) (.r ((k:Int)+1) (.g [] (k+1) [.s (li ((k:Int)+1))])))) (.o 0 [] [])) (by
 intro k h;try dsimp only[Ykd,Yko,Z5t]at h|-
 exact z08)
theorem Zg2 (L:List Int) (n:Int):Zct L n:=Ykr call161 func161 (.z Yke L (.l (Z5t L n) (Zgq L n) [] [.s (li 0)] 0 (.t (.s (lb false)) (.t (.s (lb true)) .q)))) (by
 dsimp only[Ykd,Zct,Yko,Z5t]
 exact zV)
mutual
/-- the places of the captures of more than one form that a template names,each once -/
def rpi (C:List YC):YS_->List Int->List Int
 | ⟨k,n,t,s,l⟩,o=>Y1f3 C l (if k=1/\rep C ⟨k,n,t,s,l⟩=true/\fnd C ⟨k,n,t,s,l⟩∉o then o++[fnd C ⟨k,n,t,s,l⟩] else o)
def Y1f3 (C:List YC):List YS_->List Int->List Int
 | [],o=>o
 | x :: r,o=>Y1f3 C r (rpi C x o)
end
theorem Y1hb (C:List YC):∀ (l:List YS_) (o:List Int),Y1f3 C l o=l.foldl (λo x=>rpi C x o) o
 | [],_=>by rw[Y1f3];rfl
 | x :: r,o=>by rw[Y1f3,Y1hb C r];rfl
def Yuy (C:List YC) (t:YS_) (o:List Int):List Int:=if t.Ka=1/\rep C t/\fnd C t∉o then o++[fnd C t] else o
theorem Y1es (C:List YC) (t:YS_) (o:List Int):rpi C t o=t.Ia.foldl (λo x=>rpi C x o) (Yuy C t o):=by cases t;simp only[rpi,Y1hb,Yuy]
theorem Y1cf (C:List YC) (t:YS_) (o:List Int):(Yuy C t o).length<=o.length+1:=by unfold Yuy;split<;>simp
theorem Y196 (C:List YC):∀ (L:List YS_),(∀ x∈L,∀ o,(rpi C x o).length<=o.length+Ykp x)->∀ o,(L.foldl (λo x=>rpi C x o) o).length<=o.length+sumBy Ykp L
 | [],_,o=>by simp[sumBy]
 | x :: r,h,o=>by
  have h1:=h x aj o
  have h2:=Y196 C r (λy hy=>h y (ai _ hy)) (rpi C x o)
  simp only[bL,sumBy];omega
theorem Y1ip (C:List YC):∀ (t:YS_) (o:List Int),(rpi C t o).length<=o.length+Ykp t:=by
 refine YS_.ind λt ih o => ?_
 have h1:=Y196 C t.Ia ih (Yuy C t o)
 have h2:=Y1cf C t o
 rw[Y1es,Yli];omega
abbrev Z24 (t:YS_) (C:List YC) (o:List Int):Ct:=⟨197,[.Aa o],[Ykx t,Al C,.r 0],[.dead,.Aa (rpi C t o)],.sv (.r 1)⟩
def Z2s (t:YS_) (C:List YC) (o:List Int):Lp Nat:=.mk 46 1 (λx=>[(1,Al C),(2,.r 1),(34,Af t.Ia),(35,li (t.Ia.map Ykb).length),(36,hs x 0)]) (λx=>[.dead,ho x 1]) (λk=>[.s (li k),.o (.Aa (List.foldl (λo x=>rpi C x o) (Yuy C t o) (t.Ia.take k)))]) (λk=>k<=t.Ia.length/\t.Ia.length<=9223372036854775807) (λk=>t.Ia.length - k) [.mk True (.exit 0) (λx=>[(2,.r 1)]) (λx=>[.dead,ho x 0]) [.o (.Aa (rpi C t o))]]
theorem Zac (t:YS_) (C:List YC) (o:List Int) (h:o.length+Ykp t<=2147483647) (ih:∀ (z:YS_),z∈t.Ia->∀ (C:List YC) (o:List Int),o.length+Ykp z<=2147483647->OK (Z24 z C o)):Lp.Sem prog (Yks f197 0) (Z2s t C o):=Yl0 (λk=>let v1:=t.Ia.g k;let v2:=t.Ia.take k;.i ((k:Int)<(t.Ia.map Ykb).length) (.x (k:Int) (t.Ia.map Ykb) (Yki v1) (.d [.rd,.rd,.own true 1] (Z24 v1 C (List.foldl (λo x=>rpi C x o) (Yuy C t o) v2)) (.r ((k:Int)+1) (.g [0,4] (k+1) [.s (li ((k:Int)+1)),.o (.Aa (rpi C v1 (List.foldl (λo x=>rpi C x o) (Yuy C t o) v2)))])))) (.o 0 [0,1] [.o (.Aa (List.foldl (λo x=>rpi C x o) (Yuy C t o) v2))])) (by
 intro k h;try dsimp only[Ykd,Yko,Z2s]at h|-
 have g1:=Y196 C (t.Ia.take k) (λx _ o=>Y1ip C x o) (Yuy C t o)
 have g2:=Y1cf C t o
 have g3:=@Ysj t k
 with_reducible repeat' (first|apply ah|exact zR|exact ih|(intro)|apply ih)
 all_goals ((try simp only[std,inj]at *);with_reducible and_intros)
 all_goals try with_reducible first|apply ih
 all_goals try first|exact z|grind[Y1es,Yrk,Ykg,Ykl,Ykm,Ykf])
theorem Zj4 (t:YS_) (C:List YC) (o:List Int) (h:o.length+Ykp t<=2147483647) (ih:∀ z∈t.Ia,∀ (C:List YC) (o:List Int) (h:o.length+Ykp z<=2147483647),Z24 z C o):Z24 t C o:=Ykr call197 func197 (let v3:Tq _ _:=.t (.f [1] [.dead,.Aa (rpi C t o)] (.sv (.r 1))) .q;let v1:Tq _ _:=.z Ykb t.Ia (.w (.m 0) (.l (Z2s t C o) (Zac t C o h ih) [0,2] [.s (li 0),.o (.Aa o)] 0 v3));let v2:=if t.Ka=1 then fnd C t else (-1:Int);.c [.rd,.rd] (Z9s C t) (.i (0<=if t.Ka=1 then fnd C t else (-1:Int)) (.x v2 (C.map Ykh) (Ylc (C.g v2.toNat)) (.i (0<(C.g v2.toNat).depth) (.c [.rd,.rd] (Zg2 o v2) (.b (!decide (v2∈o)) (.p (((o.map Yke).length+1) * 8<=140737488355328) (.z Ykb t.Ia (.l (Z2s t C o) (Zac t C o h ih) [0,3] [.s (li 0),.o (.y 1 (o.map Yke++[[cI v2]]))] 0 v3))) v1)) (.y false v1))) (.y false (.y false v1)))) (by
 dsimp only[Ykd,Z24,Yko,Z2s]
 have g1:=Yul C t
 have g2:=Yli t
 have g3:rep C t=(decide (0<=fnd C t)&&decide (0<(Ylt C t).depth)):=rfl
 have g4:Ylt C t=C.g (fnd C t).toNat:=rfl
 with_reducible repeat' (first|apply ah|exact zR|exact ih|(intro))
 all_goals ((try simp only[std,inj]at *);with_reducible and_intros)
 all_goals try first|with_reducible (first|apply ih)|(simp only[<- ar];with_reducible first|apply ih)
 all_goals try first|exact z|grind[Yuy,Ykl,Ykm,Ykf])
theorem Z1q (t:YS_):∀ (C:List YC) (o:List Int) (h:o.length+Ykp t<=2147483647),Z24 t C o:=YS_.ind (P:=λt=>∀ (C:List YC) (o:List Int) (h:o.length+Ykp t<=2147483647),Z24 t C o) (λt ih C o h=>Zj4 t C o h ih) t
def itr (f:Nat->Int->YS_×Bool×Int):Nat->Int->List YS_->List YS_×Bool×Int
 | 0,m,O=>(O,true,m)
 | k+1,m,O=>let p:=itr f k m O;if p.2.1 then (p.1++[(f k p.2.2).1],(f k p.2.2).2.1,(f k p.2.2).2.2) else p
def zY:YS_:=⟨0,0,mkS [],[],[]⟩
mutual
/-- what the reference builds of a template: the form,whether all went well,the nodes that are left -/
def bld:YS_->List YC->Int->YS_×Bool×Int
 | ⟨k,n,x,s,l⟩,C,m=>if m - 1<0 then (zY,false,m - 1) else if k=1 then
   (if Ykt ⟨k,n,x,s,l⟩=true\/fnd C ⟨k,n,x,s,l⟩<0 then (⟨k,n,x,s,l⟩,!Ykt ⟨k,n,x,s,l⟩,m - 1) else if (Ylt C ⟨k,n,x,s,l⟩).depth≠0 then (zY,false,m) else if (Ykp (Ylt C ⟨k,n,x,s,l⟩).form:Int)<=m then ((Ylt C ⟨k,n,x,s,l⟩).form,true,max (m - Ykp (Ylt C ⟨k,n,x,s,l⟩).form) (-1)) else (zY,false,max (m - Ykp (Ylt C ⟨k,n,x,s,l⟩).form) (-1)))
  else if (Yoa l C (m - 1) []).2.1 then (⟨k,n,x,[],(Yoa l C (m - 1) []).1⟩,true,(Yoa l C (m - 1) []).2.2) else (zY,false,(Yoa l C (m - 1) []).2.2)
def Yoa:List YS_->List YC->Int->List YS_->List YS_×Bool×Int
 | [],_,m,O=>(O,true,m)
 | [x],C,m,O=>if (bld x C m).2.1 then (O++[(bld x C m).1],true,(bld x C m).2.2) else (O,false,(bld x C m).2.2)
 | x :: y :: r,C,m,O=>if Ykt y then
   (if (Y14p C (Ymf x []) (Ymf x []).length&&decide (0<=cnN C (Ymf x []) (Ymf x []).length)) then
    (if (itr (λj m=>bld x (Y12o C j (Ymf x []) (Ymf x []).length) m) (cnN C (Ymf x []) (Ymf x []).length).toNat m O).2.1 then
     Yoa r C (itr (λj m=>bld x (Y12o C j (Ymf x []) (Ymf x []).length) m) (cnN C (Ymf x []) (Ymf x []).length).toNat m O).2.2 (itr (λj m=>bld x (Y12o C j (Ymf x []) (Ymf x []).length) m) (cnN C (Ymf x []) (Ymf x []).length).toNat m O).1 else itr (λj m=>bld x (Y12o C j (Ymf x []) (Ymf x []).length) m) (cnN C (Ymf x []) (Ymf x []).length).toNat m O) else (O,false,m))
  else if (bld x C m).2.1 then Yoa (y :: r) C (bld x C m).2.2 (O++[(bld x C m).1]) else (O,false,(bld x C m).2.2)
end
end
end Go.Proofs.YtcbodhkhppgkiaaGreat
end
