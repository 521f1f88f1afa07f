/- Part 2 of a proof. No condition. -/
import Derived.Test.YtcbodhkhppgkiaaGreatTra1
set_option maxHeartbeats 4000000
set_option linter.unusedVariables false
set_option linter.unusedSimpArgs false
section
namespace Go.Proofs.YtcbodhkhppgkiaaGreat
open Go Ab Proofs.Tryz
section
def Y1mt (k:Int):Int:=if k=1 then 11 else if k=2 then 13 else if k=3 then 99999 else if k=4 then 99999 else -1
def Ypr (b:YB):Bool:=Yox b.Ta&&Yns b.Sa&&decide (0<=b.Na/\b.Na<=Y1mt b.Ka)
abbrev Zbt (b:YB):Ct:=⟨87,[],[Yx0 b],[],.sv (lb (Ypr b))⟩
theorem Zjv (b:YB):Zbt b:=Ylh call87 func87 (let v1:=lb (decide (b.Na<=99999));.c [.rd] (Z4t b.Ta) (.b (!Yox b.Ta) (.y true (.y true (.s (lb false)))) (.c [.rd] (Z7 b.Sa) (.b (!Yns b.Sa) (.y true (.s (lb false))) (.i (b.Na<0) (.s (lb false)) (.i (b.Ka=1) (.w (.draw []) (.c [] Zx (.h (12<=9223372036854775807) (.s (lb (decide (b.Na<12))))))) (.i (b.Ka=2) (.w (.draw []) (.c [] Z5n (.h (14<=9223372036854775807) (.s (lb (decide (b.Na<14))))))) (.i (b.Ka=3) (.y true (.s v1)) (.i (b.Ka=4) (.s v1) (.s (lb false))))))))))) (by
 dsimp only[Yl3,Zbt]
 have e1:Yms.length=12:=rfl
 have e2:Yor.length=14:=rfl
 with_reducible repeat' (first|apply ah|exact zR|(intro)|apply mIc|apply mOc|apply mSc|apply mLc|apply Z4t|apply Z7)
 all_goals ((try simp only[std,inj]at *);with_reducible and_intros)
 all_goals try with_reducible first|apply Z4t|apply Z7
 all_goals try first|exact z|exact zM|grind[Ypr,Y1mt,Yla,Ylb,Yl5])
def clB (t:ByteArray) (s:List Int) (x:YB):Bool:=decide (x.Ta=t)&&decide (x.Sa=s)
def Yni (L:List YB) (t:ByteArray) (s:List Int):Bool:=L.any (clB t s)
abbrev Zbu (L:List YB) (b:YB):Ct:=⟨155,[],[Aj L,Yx0 b],[],.sv (lb (Yni L b.Ta b.Sa))⟩
def Z4z (L:List YB) (b:YB):Lp Nat:=.mk 26 0 (λx=>[(3,.y 0),(7,Aj L),(8,li (L.map Yl2).length),(9,hs x 0)]) (λx=>[.box (vals (Ylv b))]) (λk=>[.s (li k)]) (λk=>k<=L.length/\L.length<=9223372036854775807/\Yni (L.take k) b.Ta b.Sa=false) (λk=>L.length - k) [.mk (Yni L b.Ta b.Sa=false) (.exit 0) (λx=>[]) (λx=>[]) [],.mk (Yni L b.Ta b.Sa) .ret (λx=>[(4,hs x 0)]) (λx=>[]) [.s (lb true)]]
theorem Zfz (L:List YB) (b:YB):Lp.Sem prog (Yli f155 0) (Z4z L b):=Ylp (λk=>let v1:Tq _ _:=.r ((k:Int)+1) (.g [0] (k+1) [.s (li ((k:Int)+1))]);let v2:=L.g k;.i ((k:Int)<(L.map Yl2).length) (.x (k:Int) (L.map Yl2) (Ylv v2) (.i (v2.Ta.data.toList=b.Ta.data.toList) (.c [.rd,.rd] (Z2v v2.Sa b.Sa) (.i (v2.Sa=b.Sa) (.o 1 [] [.s (lb true)]) v1)) (.y false v1))) (.o 0 [] [])) (by
 intro k h;try dsimp only[Yl3,Yle,Z4z]at h|-
 exact z0x)
theorem Zew (L:List YB) (b:YB):Zbu L b:=Ylh call155 func155 (.z Yl2 L (.l (Z4z L b) (Zfz L b) [0] [.s (li 0)] 0 (.t (.s (lb false)) (.t (.s (lb true)) .q)))) (by
 dsimp only[Yl3,Zbu,Yle,Z4z]
 exact z0y)
abbrev Zbv (L:List YB) (t:ByteArray) (s:List Int):Ct:=⟨198,[],[Aj L,ls t,Ag s],[],.sv (lb (Yni L t s))⟩
def Z50 (L:List YB) (t:ByteArray) (s:List Int):Lp Nat:=.mk 26 0 (λx=>[(1,ls t),(2,Ag s),(9,Aj L),(10,li (L.map Yl2).length),(11,hs x 0)]) (λx=>[]) (λk=>[.s (li k)]) (λk=>k<=L.length/\L.length<=9223372036854775807/\Yni (L.take k) t s=false) (λk=>L.length - k) [.mk (Yni L t s=false) (.exit 0) (λx=>[]) (λx=>[]) [],.mk (Yni L t s) .ret (λx=>[(6,hs x 0)]) (λx=>[]) [.s (lb true)]]
theorem Zg0 (L:List YB) (t:ByteArray) (s:List Int):Lp.Sem prog (Yli f198 0) (Z50 L t s):=Ylp (λk=>let v1:Tq _ _:=.r ((k:Int)+1) (.g [] (k+1) [.s (li ((k:Int)+1))]);let v2:=L.g k;.i ((k:Int)<(L.map Yl2).length) (.x (k:Int) (L.map Yl2) (Ylv v2) (.i (v2.Ta.data.toList=t.data.toList) (.c [.rd,.rd] (Z82 v2.Sa s) (.i (v2.Sa=s) (.o 1 [] [.s (lb true)]) v1)) (.y false v1))) (.o 0 [] [])) (by
 intro k h;try dsimp only[Yl3,Yle,Z50]at h|-
 exact z0x)
theorem Zex (L:List YB) (t:ByteArray) (s:List Int):Zbv L t s:=Ylh call198 func198 (.z Yl2 L (.l (Z50 L t s) (Zg0 L t s) [] [.s (li 0)] 0 (.t (.s (lb false)) (.t (.s (lb true)) .q)))) (by
 dsimp only[Yl3,Zbv,Yle,Z50]
 exact z0y)
def Ypb (L:List YB):Nat->Bool
 | 0=>true
 | k+1=>Ypb L k&&(Ypr (L.g k) && !Yni (L.take k) (L.g k).Ta (L.g k).Sa)
theorem Y10u (L:List YB):∀ (m k:Nat),k<=m->Ypb L m->Ypb L k
 | 0,k,h,_=>by
  obtain rfl:k=0:=by omega
  rfl
 | m+1,k,h,ht=>by
  by_cases e:k=m+1
  ·rw[e];exact ht
  ·refine Y10u L m k oW ?_
   simp only[Ypb,af]at ht;exact ht.1
def Yv1 (L:List YB):Bool:=Ypb L L.length&&decide ((L.length:Int)<=1000)
def plc (L:List YB):Nat->ByteArray->List Int
 | 0,_=>[]
 | k+1,s=>if s=(L.g k).Ta then plc L k s++[(k:Int)] else plc L k s
theorem Y1y6 {L:List YB}{k:Nat}:Ypq (plc L k) (L.g k).Ta (plc L k (L.g k).Ta++[(k:Int)])=plc L (k+1):=by
 funext s;simp only[Ypq,plc];split
 ·rename_i h;rw[h]
 ·rfl
theorem Y1t9 {L:List YB}:zL=plc L 0:=rfl
theorem Y1kl (L:List YB) (s:ByteArray):∀ k,(plc L k s).length<=k
 | 0=>aC _
 | k+1=>by
  have:=Y1kl L s k
  simp only[plc];split
  ·simp;omega
  ·omega
theorem Y13b (L:List YB) (s:ByteArray):∀ k (i:Int),i∈plc L k s ↔ (0<=i/\i<k/\(L.g i.toNat).Ta=s)
 | 0,i=>by simp[plc];omega
 | k+1,i=>by
  have ih:=Y13b L s k i
  simp only[plc];split
  ·rename_i h
   rw[az,ih,an]
   constructor
   ·rintro(⟨a,b,c⟩|rfl)
    ·exact⟨a,by omega,c⟩
    ·exact⟨by omega,by omega,by rw[cE];exact h.symm⟩
   ·rintro⟨a,b,c⟩
    by_cases e:i=k
    ·exact .inr e
    ·exact .inl ⟨a,by omega,c⟩
  ·rename_i h
   rw[ih]
   constructor
   ·rintro⟨a,b,c⟩;exact⟨a,by omega,c⟩
   ·rintro⟨a,b,c⟩
    refine⟨a,?_,c⟩
    by_cases e:i=k
    ·subst e;rw[cE]at c;exact absurd c.symm h
    ·omega
def Y111 (L:List YB) (s:List Int) (P:List Int):Bool:=P.all λi => !decide ((L.g i.toNat).Sa=s)
theorem Y1mu {L:List YB}{k:Nat}{t:ByteArray}{s:List Int}(hk:k<=L.length):Y111 L s (plc L k t) = !Yni (L.take k) t s:=by
 rw[cp]
 simp only[Y111,Yni,clB,am,aL,aM,bV,af,ak,not_and]
 constructor
 ·intro h x hx e
  obtain⟨j,hj,rfl⟩:=dO hx
  rw[au]at hj
  have e2:(L.take k)[j]'(by rw[au];exact hj)=L.g j:=by simp[show j<L.length by omega]
  rw[e2]at e|-
  have:=h (j:Int) ((Y13b L t k j).2 ⟨by omega,by omega,by rw[cE];exact e⟩)
  rwa [cE]at this
 ·intro h i hi
  obtain⟨a,b,c⟩:=(Y13b L t k i).1 hi
  refine h _ ?_ c
  have e:L.g i.toNat=(L.take k)[i.toNat]'(by rw[au];omega):=by simp[show i.toNat<L.length by omega]
  rw[e];exact dh _
theorem Y1wm {L:List YB}{s:List Int}{P:List Int}{j:Nat}(h:j<P.length) (e:(L.g (P.g j).toNat).Sa=s):Y111 L s P=false:=by
 unfold Y111;rw[bW];exact⟨_,Yl6 h,by rw[bF e];decide⟩
theorem Y1oq {L:List YB}{s:List Int}{P:List Int}{j:Nat}(h:j<P.length) (h0:Y111 L s (P.take j)) (e:(L.g (P.g j).toNat).Sa≠s):Y111 L s (P.take (j+1)):=by
 unfold Y111 at *;rw[Ylk h,cA,h0];simpa using e
abbrev Zey (L:List YB):Ct:=⟨40,[],[Aj L],[],.sv (lb (Yv1 L))⟩
def Z78 (L:List YB) (k:Nat):Lp Nat:=let v4:=L.g k;let v1:=plc L k v4.Ta;let v2:List Ob:=[.map false kL (mL (plc L k)),.box (vals (Ylv v4))];let v3:=L.map Yl2;let v5:=(13,li (L.map Yl2).length);.mk 51 0 (λx=>[(0,ll v3),(3,.one (.mref 0)),(4,li k),(5,.y 1),(12,ll v3),v5,(14,li k),(25,.one (.bor 0 (.Ao v1))),(26,li (v1.map Yl4).length),(27,hs x 0)]) (λx=>v2) (λk1=>[.s (li (k1:Int))]) (λk1=>k1<=v1.length/\v1.length<=9223372036854775807/\k<L.length/\Ypb L k/\Ypr v4/\Y111 L v4.Sa (v1.take k1)) (λk1=>v1.length - k1) [.mk (Ypb L (k+1)) (.exit 2) (λx=>[(0,ll v3),(3,.one (.mref 0)),(4,li k),(5,.y 1),(12,ll v3),v5,(14,li k)]) (λx=>v2) [],.mk (Ypb L L.length=false) .ret (λx=>[(2,hs x 0)]) (λx=>[]) [.s (lb false)]]
def Z79 (L:List YB):Lp Nat:=.mk 51 0 (λx=>[(0,Aj L),(3,.one (.mref 0)),(12,Aj L),(13,li (L.map Yl2).length),(14,hs x 0)]) (λx=>[ho x 1]) (λk=>[.s (li k),.o (.map false kL (mL (plc L k)))]) (λk=>k<=L.length/\L.length<=9223372036854775807/\L.length<=1000/\Ypb L k) (λk=>L.length - k) [.mk (Ypb L L.length) (.exit 0) (λx=>[]) (λx=>[]) [],.mk (Ypb L L.length=false) .ret (λx=>[(2,hs x 0)]) (λx=>[]) [.s (lb false)]]
theorem Zie (L:List YB) (k:Nat):Lp.Sem prog (Yli f40 1) (Z78 L k):=Ylp (λk1=>let v3:=L.g k;let v1:=plc L k v3.Ta;let v2:=L.g (v1.getD k1 0).toNat;.i ((k1:Int)<((v1.map Yl4).length:Int)) (.x (k1:Int) (v1.map Yl4) [cI (v1.getD k1 0)] (.w (.draw []) (.x (v1.getD k1 0) (L.map Yl2) (Ylv v2) (.c [.rd,.rd] (Z82 v2.Sa v3.Sa) (.i (v2.Sa=v3.Sa) (.o 1 [] [.s (lb false)]) (.r ((k1:Int)+1) (.g [0,1] (k1+1) [.s (li ((k1:Int)+1))]))))))) (.o 0 [0,1] [])) (by
 intro k1 h;try dsimp only[Yl3,Yle,Z78]at h|-
 have g1:=Y10u L L.length (k+1)
 have g2:Ypb L (k+1)=(Ypb L k&&(Ypr (L.g k) && !Yni (L.take k) (L.g k).Ta (L.g k).Sa)):=rfl
 have g3:=@Y1mu L k (L.g k).Ta (L.g k).Sa
 have g4:=@Y1wm L (L.g k).Sa (plc L k (L.g k).Ta) k1
 have g5:=@Y1oq L (L.g k).Sa (plc L k (L.g k).Ta) k1
 have g6:=Y13b L (L.g k).Ta k ((plc L k (L.g k).Ta).g k1)
 have g7:∀ j,(plc L k (L.g k).Ta).length<=j->(plc L k (L.g k).Ta).take j=plc L k (L.g k).Ta:=λj h=>ar h
 with_reducible repeat' (first|apply ah|exact zR|(intro)|apply mIc|apply mOc|apply mSc|apply mLc)
 all_goals ((try simp only[std,inj]at *);with_reducible and_intros)
 all_goals try first|exact z|exact zM|grind[Yl6,Yla,Ylb,Yl5])
theorem Zif (L:List YB):Lp.Sem prog (Yli f40 0) (Z79 L):=Ylp (λk=>let v1:=L.g k;let v2:Value:=.slice none 0 0;let v3:=plc L k;let v7:=plc L k v1.Ta;let v4:=v7.map Yl4;let v5:=mL (Ypq v3 v1.Ta (plc L k v1.Ta++[(k:Int)]));let v6:Value:=.string v1.Ta;let v8:=Ypw v2 (mL v3) v6 (.list v4);.i ((k:Int)<(L.map Yl2).length) (.x (k:Int) (L.map Yl2) (Ylv v1) (.c [.rd] (Zjv v1) (.b (!Ypr v1) (.o 1 [] [.s (lb false)]) (.w (.cells [.list v4]) (.p v8 (.z Yl4 v7 (.l (Z78 L k) (Zie L k) [0,1] [.s (li 0)] 0 (.t (.w (.draw [(6,[0]),(9,[6,7]),(10,[8,0])]) (.w (.taken v4 1 (mLt v3 v1.Ta)) (.p v8 (.p (Yqr kL.d (mL v3) (mLt v3 v1.Ta) v6 (some Cell.any)) (.p (some v2=some v2) (.p (∀ (x0:List Cell),x0∈v7.map Yl4->x0.length=1) (.p ((v4.length+1) * 8<=140737488355328) (.w (.upd v5) (.p (false=false) (.p (Yqr kL.d (mLt v3 v1.Ta) v5 v6 (some (Cell.list (v7.map Yl4++[[cI (k:Int)]])))) (.r ((k:Int)+1) (.g [0] (k+1) [.s (li ((k:Int)+1)),.o (.map false kL v5)])))))))))))) (.t (.o 1 [] [.s (lb false)]) .q))))))))) (.o 0 [] [])) (by
 intro k h;try dsimp only[Yl3,Yle,Z79,Z78]at h|-
 have g1:=Y10u L L.length (k+1)
 have g2:Ypb L (k+1)=(Ypb L k&&(Ypr (L.g k) && !Yni (L.take k) (L.g k).Ta (L.g k).Sa)):=rfl
 have g3:=Y1kl L (L.g k).Ta k
 have g4:=@Y1y6 L k
 have g5:Y111 L (L.g k).Sa ((plc L k (L.g k).Ta).take 0):=rfl
 with_reducible repeat' (first|apply ah|exact zR|(intro)|apply mIc|apply mOc|apply mSc|apply mLc)
 all_goals ((try simp only[std,inj]at *);with_reducible and_intros)
 all_goals try first|exact z|exact zM|grind[Yl6,Yla,Ylb,Yl5]
 all_goals (try (exact Y1qe (by simp[Yl4]))))
theorem Zig (L:List YB):Zey L:=Ylh call40 func40 (.z Yl2 L (.i (1000<((L.map Yl2).length:Int)) (.s (lb false)) (.w (.mkmap kL) (.z Yl2 L (.l (Z79 L) (Zif L) [0] [.s (li 0),.o (.map false kL (mL zL))] 0 (.t (.s (lb true)) (.t (.s (lb false)) .q))))))) (by
 dsimp only[Yl3,Zey,Yle,Z79]
 with_reducible repeat' (first|apply ah|exact zR|(intro)|apply mIc|apply mOc|apply mSc|apply mLc)
 all_goals ((try simp only[std,inj]at *);with_reducible and_intros)
 all_goals try first|exact z|exact zM|grind[Yv1,Ypb,Y1t9,Yla,Ylb,Yl5])
mutual
def blw (n:Int):YS_->Bool
 | ⟨_,_,_,s,l⟩=>s.all (λx=>decide (x<=n))&&Y1g5 n l
def Y1g5 (n:Int):List YS_->Bool
 | []=>true
 | x :: r=>blw n x&&Y1g5 n r
end
theorem Y1k5 (n:Int):∀ l,Y1g5 n l=l.all (blw n)
 | []=>by simp[Y1g5]
 | x :: r=>by rw[Y1g5,Y1k5 n r];rfl
def scB (n:Int) (L:List Int):Bool:=L.all λx=>decide (x<=n)
theorem Ytt (n:Int) (s:YS_):blw n s=(scB n s.Sa&&s.Ia.all (blw n)):=by cases s;simp only[blw,Y1k5,scB]
theorem Y1ry {n:Int}{L:List Int}{k:Nat}(h:k<L.length) (e:n<L.getD k 0):scB n L=false:=by
 unfold scB;rw[bW];exact⟨L.getD k 0,Yl6 h,by rw[bK oW];decide⟩
abbrev Z18 (s:YS_) (n:Int):Ct:=⟨70,[],[Yln s,li n],[],.sv (lb (blw n s))⟩
def Z34 (s:YS_) (n:Int):Lp Nat:=.mk 32 0 (λx=>[(1,li n),(21,Af s.Ia),(22,li (s.Ia.map Yl1).length),(23,hs x 0)]) (λx=>[]) (λk=>[.s (li k)]) (λk=>k<=s.Ia.length/\s.Ia.length<=9223372036854775807/\(s.Ia.take k).all (blw n)) (λk=>s.Ia.length - k) [.mk (s.Ia.all (blw n)) (.exit 2) (λx=>[]) (λx=>[]) [],.mk (s.Ia.all (blw n)=false) .ret (λx=>[(4,hs x 0)]) (λx=>[]) [.s (lb false)]]
def Z35 (s:YS_) (n:Int):Lp Nat:=.mk 32 0 (λx=>[(1,li n),(2,.y 0),(10,Ag s.Sa),(11,li (s.Sa.map Yl4).length),(12,hs x 0)]) (λx=>[.box (vals (Yl8 s))]) (λk=>[.s (li k)]) (λk=>k<=s.Sa.length/\s.Sa.length<=9223372036854775807/\scB n (s.Sa.take k)) (λk=>s.Sa.length - k) [.mk (scB n s.Sa) (.exit 0) (λx=>[(1,li n),(2,.y 0)]) (λx=>[.box (vals (Yl8 s))]) [],.mk (blw n s=false) .ret (λx=>[(4,hs x 0)]) (λx=>[]) [.s (lb false)]]
theorem Zdx (s:YS_) (n:Int) (ih:∀ (z:YS_),z∈s.Ia->∀ (n:Int),OK (Z18 z n)):Lp.Sem prog (Yli f70 1) (Z34 s n):=
 Ylp (λk=>.i ((k:Int)<(List.map Yl1 s.Ia).length) (.x (k:Int) (List.map Yl1 s.Ia) (Yl8 (s.Ia.g k)) (.d [.rd,.rd] (Z18
 (s.Ia.g k) n) (.b (!blw n (s.Ia.g k)) (.o 1 [] [.s (lb false)]) (.r ((k:Int)+1) (.g [] (k+1) [.s (li ((k:Int)+1))]))))) (.o 0 [] [])) (by
 intro k h;try dsimp only[Yl3,Yle,Z34]at h|-
 with_reducible repeat' (first|apply ah|exact zR|exact ih|(intro)|apply mIc|apply mOc|apply mSc|apply mLc|apply ih)
 all_goals ((try simp only[std,inj]at *);with_reducible and_intros)
 all_goals try with_reducible first|apply ih
 all_goals try first|exact z|exact zM|grind[Ylk,Yl6,Yla,Ylb,Yl5])
theorem Zdy (s:YS_) (n:Int) (ih:∀ (z:YS_),z∈s.Ia->∀ (n:Int),OK (Z18 z n)):Lp.Sem prog (Yli f70 0) (Z35 s n):=
 Ylp (λk=>.i ((k:Int)<(List.map Yl4 s.Sa).length) (.x (k:Int) (List.map Yl4 s.Sa) [cI (s.Sa.getD k 0)] (.i (n<s.Sa.getD k 0) (.o 1 [] [.s
 (lb false)]) (.r ((k:Int)+1) (.g [0] (k+1) [.s (li ((k:Int)+1))])))) (.o 0 [0] [])) (by
 intro k h;try dsimp only[Yl3,Yle,Z35]at h|-
 have g1:=Ytt n s
 have g2:=@Y1ry n s.Sa k
 with_reducible repeat' (first|apply ah|exact zR|exact ih|(intro)|apply mIc|apply mOc|apply mSc|apply mLc|apply ih)
 all_goals ((try simp only[std,inj]at *);with_reducible and_intros)
 all_goals try with_reducible first|apply ih
 all_goals try first|exact z|exact zM|grind[Ylk,Yl6,scB,Yla,Ylb,Yl5])
theorem Zhb (s:YS_) (n:Int) (ih:∀ z∈s.Ia,∀ (n:Int),Z18 z n):Z18 s n:=Ylh call70 func70 (.z Yl4 s.Sa (.l (Z35 s n) (Zdy s n ih) [0] [.s (li 0)] 0 (.t (.z Yl1 s.Ia (.l (Z34 s n) (Zdx s n ih) [] [.s (li 0)] 0 (.t (.s (lb true)) (.t (.s (lb false)) .q)))) (.t (.s (lb false)) .q)))) (by
 dsimp only[Yl3,Z18,Yle,Z35,Z34]
 have g1:=Ytt n s
 with_reducible repeat' (first|apply ah|exact zR|exact ih|(intro)|apply mIc|apply mOc|apply mSc|apply mLc)
 all_goals ((try simp only[std,inj]at *);with_reducible and_intros)
 all_goals try with_reducible first|apply ih
 all_goals try first|exact z|exact zM|grind[scB,Yla,Ylb,Yl5])
theorem Zy (s:YS_):∀ (n:Int),Z18 s n:=YS_.ind (P:=λs=>∀ (n:Int),Z18 s n) (λs ih n=>Zhb s n ih) s
def ruL (r:YR_):List (List YS_):=[r.La,r.Pb,r.Tb]
def Yt4 (n:Int) (L:List YS_):Bool:=L.all (blw n)
def Yt7 (n:Int) (r:YR_):Bool:=(ruL r).all (Yt4 n)
theorem Y143 (n:Int) (r:YR_):Yt7 n r=(Yt4 n r.La&&Yt4 n r.Pb&&Yt4 n r.Tb):=by
 simp only[Yt7,ruL,dD,List.all_nil,Bool.and_true,Bool.and_assoc]
def Y244 (l:List YS_):List Cell:=[.list (l.map Yl1)]
def Y238 (l:List YS_):List Cell:=[.list (l.map Yl1)]
instance:Row (List YS_) Y244 Y238 1:=⟨λ_=>rfl,λ_=>rfl⟩
abbrev Zdf (L:List YS_) (n:Int):Ct:=⟨95,[],[Af L,li n],[],.sv (lb (Yt4 n L))⟩
def Z5v (L:List YS_) (n:Int):Lp Nat:=.mk 18 0 (λx=>[(1,li n),(7,Af L),(8,li (L.map Yl1).length),(9,hs x 0)]) (λx=>[]) (λk=>[.s (li k)]) (λk=>k<=L.length/\L.length<=9223372036854775807/\(L.take k).all (blw n)) (λk=>L.length - k) [.mk (Yt4 n L) (.exit 0) (λx=>[]) (λx=>[]) [],.mk (Yt4 n L=false) .ret (λx=>[(4,hs x 0)]) (λx=>[]) [.s (lb false)]]
theorem Zhc (L:List YS_) (n:Int):Lp.Sem prog (Yli f95 0) (Z5v L n):=Ylp (λk=>let v1:=L.g k;.i ((k:Int)<(L.map Yl1).length) (.x (k:Int) (L.map Yl1) (Yl8 v1) (.c [.rd,.rd] (Zy v1 n) (.b (!blw n v1) (.o 1 [] [.s (lb false)]) (.r ((k:Int)+1) (.g [] (k+1) [.s (li ((k:Int)+1))]))))) (.o 0 [] [])) (by
 intro k h;try dsimp only[Yl3,Yle,Z5v]at h|-
 with_reducible repeat' (first|apply ah|exact zR|(intro)|apply mIc|apply mOc|apply mSc|apply mLc)
 all_goals ((try simp only[std,inj]at *);with_reducible and_intros)
 all_goals try first|exact z|exact zM|grind[Ylk,Yl6,Yt4,Yla,Ylb,Yl5])
theorem Zcn (L:List YS_) (n:Int):Zdf L n:=Ylh call95 func95 (.z Yl1 L (.l (Z5v L n) (Zhc L n) [] [.s (li 0)] 0 (.t (.s (lb true)) (.t (.s (lb false)) .q)))) (by
 dsimp only[Yl3,Zdf,Yle,Z5v]
 with_reducible repeat' (first|apply ah|exact zR|(intro)|apply mIc|apply mOc|apply mSc|apply mLc)
 all_goals ((try simp only[std,inj]at *);with_reducible and_intros)
 all_goals try first|exact z|exact zM|grind[Yt4,Yla,Ylb,Yl5])
abbrev Zdg (r:YR_) (n:Int):Ct:=⟨42,[],[Yvj r,li n],[],.sv (lb (Yt7 n r))⟩
theorem Zgq (r:YR_) (n:Int):Zdg r n:=Ylh call42 func42 (.c [.rd,.rd] (Zcn r.La n) (.b (Yt4 n r.La) (.c [.rd,.rd] (Zcn r.Pb n) (.b (Yt4 n r.Pb) (.c [.rd,.rd] (Zcn r.Tb n) (.s (lb (Yt4 n r.Tb)))) (.s (lb false)))) (.y false (.s (lb false))))) (by
 dsimp only[Yl3,Zdg]
 have g1:=Y143 n r
 with_reducible repeat' (first|apply ah|exact zR|(intro)|apply mIc|apply mOc|apply mSc|apply mLc)
 all_goals ((try simp only[std,inj]at *);with_reducible and_intros)
 all_goals try first|exact z|exact zM|grind[Yla,Ylb,Yl5])
def Yrq (x:YE) (b:YB):Bool := !(decide (0<(b.Sa.length:Int))&&decide (x.Sb<b.Sa.getD ((b.Sa.length:Int) - 1).toNat 0)) && !(decide (b.Ka=3)&&decide (x.Va<b.Na)) && !(decide (b.Ka=4)&&decide ((x.Ma.length:Int)<=b.Na))
def ruX (x:YE) (r:YR_):Bool:=Ymr r&&Yt7 x.Sb r
def Ym0 (x:YE):Bool:=Yv1 x.Ba&&decide ((x.Ma.length:Int)<=200)&&decide (0<=x.Sb/\x.Sb<=99999)&&decide (0<=x.Va/\x.Va<=99999)&&decide (0<=x.Sc/\x.Sc<=200)&&x.Ma.all (ruX x)&&x.Ba.all (Yrq x)
theorem Y1br {x:YE}{k:Nat}(hk:k<x.Ba.length) (h:Yrq x (x.Ba.g k)=false):x.Ba.all (Yrq x)=false:=by
 rw[bW];exact⟨_,Yl6 hk,by rw[h];decide⟩
theorem Y1g8 {x:YE}{k:Nat}(hk:k<x.Ma.length) (h:ruX x (x.Ma.g k)=false):x.Ma.all (ruX x)=false:=by
 rw[bW];exact⟨_,Yl6 hk,by rw[h];decide⟩
theorem Y1j1 {x:YE}{k:Nat}(hk:k<x.Ba.length) (h0:(x.Ba.take k).all (Yrq x)) (h:Yrq x (x.Ba.g k)):(x.Ba.take (k+1)).all (Yrq x):=by
 rw[Ylk hk,cA,h0];simpa using h
theorem Y1qg {x:YE}{k:Nat}(hk:k<x.Ma.length) (h0:(x.Ma.take k).all (ruX x)) (h:ruX x (x.Ma.g k)):(x.Ma.take (k+1)).all (ruX x):=by
 rw[Ylk hk,cA,h0];simpa using h
abbrev Z8g (x:YE):Ct:=⟨16,[],[Ypu x],[],.sv (lb (Ym0 x))⟩
def Z51 (x:YE):Lp Nat:=.mk 115 0 (λx_1=>[(1,.y 0),(66,Aj x.Ba),(67,li (x.Ba.map Yl2).length),(68,hs x_1 0)]) (λx_1=>[.box (vals (Yn6 x))]) (λk=>[.s (li k)]) (λk=>k<=x.Ba.length/\x.Ba.length<=9223372036854775807/\(x.Ba.take k).all (Yrq x)) (λk=>x.Ba.length - k) [.mk (x.Ba.all (Yrq x)) (.exit 2) (λx=>[]) (λx=>[]) [],.mk (x.Ba.all (Yrq x)=false) .ret (λx=>[(2,hs x 0)]) (λx=>[]) [.s (lb false)]]
def Z52 (x:YE):Lp Nat:=.mk 115 0 (λx_1=>[(1,.y 0),(48,ll (x.Ma.map Ylc)),(49,li (x.Ma.map Ylc).length),(50,hs x_1 0)]) (λx_1=>[.box (vals (Yn6 x))]) (λk=>[.s (li k)]) (λk=>k<=x.Ma.length/\x.Ma.length<=9223372036854775807/\(x.Ma.take k).all (ruX x)) (λk=>x.Ma.length - k) [.mk (x.Ma.all (ruX x)) (.exit 0) (λx=>[(1,.y 0)]) (λx_1=>[.box (vals (Yn6 x))]) [],.mk (x.Ma.all (ruX x)=false) .ret (λx=>[(2,hs x 0)]) (λx=>[]) [.s (lb false)]]
theorem Zg1 (x:YE) (h:wX x<=1048576):Lp.Sem prog (Yli f16 1) (Z51 x):=Ylp (λk=>let v1:=x.Ba.g k;let v2:Tq _ _:=.r ((k:Int)+1) (.g [0] (k+1) [.s (li ((k:Int)+1))]);let v3:=((x.Ma.map Ylc).length:Int);let v4:Tq _ _:=.y true (.o 1 [] [.s (lb false)]);let v5:Tq _ _:=.z Yl4 v1.Sa (.z Ylc x.Ma (.i (v3<=v1.Na) (.o 1 [] [.s (lb false)]) v2));let v6:=((v1.Sa.map Yl4).length:Int);let v7:Tq _ _:=.z Yl4 v1.Sa (.y false v2);let v8:Tq _ _:=.z Yl4 v1.Sa (.z Yl4 v1.Sa v4);let v9:Tq _ _:=.i (v1.Ka=4) (.z Yl4 v1.Sa v5) (.z Yl4 v1.Sa v7);.i ((k:Int)<(x.Ba.map Yl2).length) (.x (k:Int) (x.Ba.map Yl2) (Ylv v1) (.w (.draw []) (.i (0<v6) (.r (v6 - 1) (.x (v6 - 1) (v1.Sa.map Yl4) [cI (v1.Sa.getD (v6 - 1).toNat 0)] (.i (x.Sb<v1.Sa.getD (v6 - 1).toNat 0) (.y true v8) (.i (v1.Ka=3) (.i (x.Va<v1.Na) v8 v9) (.y false v9))))) (.y false (.i (v1.Ka=3) (.i (x.Va<v1.Na) (.z Yl4 v1.Sa v4) (.i (v1.Ka=4) v5 v7)) (.y false (.i (v1.Ka=4) v5 v7))))))) (.o 0 [] [])) (by
 intro k h;try dsimp only[Yl3,Yle,Z51]at h|-
 have g1:=Ysy x
 have g2:=@Yls _ wB x.Ba (x.Ba.g k)
 have g3:=@Y1br x k
 have g4:=@Y1j1 x k
 have g5:Yrq x (x.Ba.g k)=(!(decide (0<((x.Ba.g k).Sa.length:Int))&&decide (x.Sb<(x.Ba.g k).Sa.getD (((x.Ba.g k).Sa.length:Int) - 1).toNat 0)) && !(decide ((x.Ba.g k).Ka=3)&&decide (x.Va<(x.Ba.g k).Na)) && !(decide ((x.Ba.g k).Ka=4)&&decide ((x.Ma.length:Int)<=(x.Ba.g k).Na))):=rfl
 have g6:x.Ba.length<=k->x.Ba.take k=x.Ba:=λh=>ar h
 have g7:=Y1cf (x.Ba.g k)
 exact z0z)
theorem Zg2 (x:YE) (h:wX x<=1048576):Lp.Sem prog (Yli f16 0) (Z52 x):=Ylp (λk=>let v1:=x.Ma.g k;.i ((k:Int)<(x.Ma.map Ylc).length) (.x (k:Int) (x.Ma.map Ylc) (Yod v1) (.d [.rd] (Z27 v1) (.b (!Ymr v1) (.y true (.o 1 [] [.s (lb false)])) (.c [.rd,.rd] (Zgq v1 x.Sb) (.b (!Yt7 x.Sb v1) (.o 1 [] [.s (lb false)]) (.r ((k:Int)+1) (.g [0] (k+1) [.s (li ((k:Int)+1))]))))))) (.o 0 [0] [])) (by
 intro k h;try dsimp only[Yl3,Yle,Z52]at h|-
 have g1:=Ysy x
 have g2:=@Yls _ wR x.Ma (x.Ma.g k)
 have g3:=@Y1g8 x k
 have g4:=@Y1qg x k
 have g5:ruX x (x.Ma.g k)=(Ymr (x.Ma.g k)&&Yt7 x.Sb (x.Ma.g k)):=rfl
 have g6:x.Ma.length<=k->x.Ma.take k=x.Ma:=λh=>ar h
 exact z0z)
theorem Z8h (x:YE) (h:wX x<=1048576):Z8g x:=Ylh call16 func16 (let v2:Tq _ _:=.y true (.s (lb false));let v1:Tq _ _:=.y true (.y true v2);.c [.rd] (Zig x.Ba) (.b (!Yv1 x.Ba) (.y true (.y true (.y true (.y true v1)))) (.z Ylc x.Ma (.i (200<((x.Ma.map Ylc).length:Int)) (.y true (.y true (.y true v1))) (.i (x.Sb<0) (.y true (.y true v1)) (.i (99999<x.Sb) (.y true v1) (.i (x.Va<0) v1 (.i (99999<x.Va) (.y true v2) (.i (x.Sc<0) v2 (.i (200<x.Sc) (.s (lb false)) (.z Ylc x.Ma (.l (Z52 x) (Zg2 x h) [0] [.s (li 0)] 0 (.t (.z Yl2 x.Ba (.l (Z51 x) (Zg1 x h) [0] [.s (li 0)] 0 (.t (.s (lb true)) (.t (.s (lb false)) .q)))) (.t (.s (lb false)) .q)))))))))))))) (by
 dsimp only[Yl3,Z8g,Yle,Z52,Z51]
 with_reducible repeat' (first|apply ah|exact zR|(intro)|apply mIc|apply mOc|apply mSc|apply mLc|apply Z3)
 all_goals ((try simp only[std,inj]at *);with_reducible and_intros)
 all_goals try with_reducible first|apply Z3
 all_goals try first|exact z|exact zM|grind[Ym0,Yla,Ylb,Yl5])
end
section
abbrev Z47 (L:List YB):Ct:=⟨187,[],[Aj L],[.Ac L],.sv (.r 0)⟩
def Z53 (L:List YB):Lp Nat:=.mk 28 0 (λx=>[(3,.r 0),(7,Aj L),(8,li (L.map Yl2).length),(9,hs x 0)]) (λx=>[ho x 1]) (λk=>[.s (li k),.o (.Ac (L.take k))]) (λk=>k<=L.length/\L.length<=9223372036854775807) (λk=>L.length - k) [.mk True (.exit 0) (λx=>[(3,.r 0)]) (λx=>[ho x 0]) [.o (.Ac L)]]
theorem Zg3 (L:List YB) (h:L.length<=1000000001/\sumBy wB L<=1000000001):Lp.Sem prog (Yli f187 0) (Z53 L):=Ylp (λk=>let v1:=(L.take k).map Yl2;let v2:=L.g k;.i ((k:Int)<(L.map Yl2).length) (.x (k:Int) (L.map Yl2) (Ylv v2) (.w (.draw [(11,[6]),(12,[0,18])]) (.d [.rd] (Z5f v2.Sa) (.p ((v1.length+1) * 56<=140737488355328) (.r ((k:Int)+1) (.g [19] (k+1) [.s (li ((k:Int)+1)),.o (.y 4 ((L.take k).map Yl2++[Ylv v2]))])))))) (.o 0 [0] [.o (.y 4 v1)])) (by
 intro k h;try dsimp only[Yl3,Yle,Z53]at h|-
 have g2:=@Yls _ wB L (L.g k)
 have g3:=Y1cf (L.g k)
 exact z06)
theorem Z1u (L:List YB) (h:L.length<=1000000001/\sumBy wB L<=1000000001):Z47 L:=Ylh call187 func187 (.w (.bool false) (.z Yl2 L (.l (Z53 L) (Zg3 L h) [0] [.s (li 0),.o (.y 4 [])] 0 (.t (.f [0] [.Ac L] (.sv (.r 0))) .q)))) (by
 dsimp only[Yl3,Z47,Yle,Z53]
 exact z00)
abbrev Z54 (b:YB):Ct:=⟨115,[],[Yx0 b],Y1er b,.sv (Y1ej b 0)⟩
theorem Zl (b:YB) (h:wB b<=1000000001):Z54 b:=Ylh call115 func115 (.d [.rd] (Z6 b.Sa) (.f [2] [.Aa b.Sa] (.sv (.agg [vS b.Ta,.ref 0,vI b.Ka,vI b.Na])))) (by
 dsimp only[Yl3,Z54]
 have g3:=Y1cf b
 exact z00)
abbrev Z8i (L:List YB):Ct:=⟨67,[],[Aj L],[.Ac L],.sv (.r 0)⟩
def Z55 (L:List YB):Lp Nat:=.mk 19 0 (λx=>[(3,.r 0),(6,Aj L),(7,li (L.map Yl2).length),(8,hs x 0)]) (λx=>[ho x 1]) (λk=>[.s (li k),.o (.Ac (L.take k))]) (λk=>k<=L.length/\L.length<=9223372036854775807) (λk=>L.length - k) [.mk True (.exit 0) (λx=>[(3,.r 0)]) (λx=>[ho x 0]) [.o (.Ac L)]]
theorem Zg4 (L:List YB) (h:L.length<=1000000001/\sumBy wB L<=1000000001):Lp.Sem prog (Yli f67 0) (Z55 L):=Ylp (λk=>let v1:=(L.take k).map Yl2;let v2:=L.g k;.i ((k:Int)<(L.map Yl2).length) (.x (k:Int) (L.map Yl2) (Ylv v2) (.d [.rd] (Z54 v2) (.p ((v1.length+1) * 56<=140737488355328) (.r ((k:Int)+1) (.g [4] (k+1) [.s (li ((k:Int)+1)),.o (.y 4 ((L.take k).map Yl2++[Ylv v2]))]))))) (.o 0 [0] [.o (.y 4 v1)])) (by
 intro k h;try dsimp only[Yl3,Yle,Z55]at h|-
 have g2:=@Yls _ wB L (L.g k)
 exact z06)
theorem Z6n (L:List YB) (h:L.length<=1000000001/\sumBy wB L<=1000000001):Z8i L:=Ylh call67 func67 (.z Yl2 L (.w (.g (.nilreg 3 true 4)) (.l (Z55 L) (Zg4 L h) [0] [.s (li 0),.o (.y 4 [])] 0 (.t (.f [0] [.Ac L] (.sv (.r 0))) .q)))) (by
 dsimp only[Yl3,Z8i,Yle,Z55]
 exact z00)
abbrev Z1z (L:List YS_):Ct:=⟨116,[],[Af L],[.Ae L],.sv (.r 0)⟩
def Z48 (L:List YS_):Lp Nat:=.mk 19 0 (λx=>[(3,.r 0),(6,Af L),(7,li (L.map Yl1).length),(8,hs x 0)]) (λx=>[ho x 1]) (λk=>[.s (li k),.o (.Ae (L.take k))]) (λk=>k<=L.length/\L.length<=9223372036854775807) (λk=>L.length - k) [.mk True (.exit 0) (λx=>[(3,.r 0)]) (λx=>[ho x 0]) [.o (.Ae L)]]
theorem Zez (L:List YS_) (h:L.length<=1000000000/\sumBy wY L<=1000000000):Lp.Sem prog (Yli f116 0) (Z48 L):=Ylp (λk=>let v1:=(L.take k).map Yl1;let v2:=L.g k;.i ((k:Int)<(L.map Yl1).length) (.x (k:Int) (L.map Yl1) (Yl8 v2) (.d [.rd] (Zj v2) (.p ((v1.length+1) * 80<=140737488355328) (.r ((k:Int)+1) (.g [5] (k+1) [.s (li ((k:Int)+1)),.o (.y 5 ((L.take k).map Yl1++[Yl8 v2]))]))))) (.o 0 [0] [.o (.y 5 v1)])) (by
 intro k h;try dsimp only[Yl3,Yle,Z48]at h|-
 have g2:=@Yls _ wY L (L.g k)
 exact z06)
theorem Z28 (L:List YS_) (h:L.length<=1000000000/\sumBy wY L<=1000000000):Z1z L:=Ylh call116 func116 (.z Yl1 L (.w (.g (.nilreg 3 true 5)) (.l (Z48 L) (Zez L h) [0] [.s (li 0),.o (.y 5 [])] 0 (.t (.f [0] [.Ae L] (.sv (.r 0))) .q)))) (by
 dsimp only[Yl3,Z1z,Yle,Z48]
 exact z00)
abbrev Z5w (r:YR_):Ct:=⟨68,[],[Yvj r],Y1ft r,.sv (Y1hb r 0)⟩
theorem Z29 (r:YR_) (h:wR r<=1000000000):Z5w r:=Ylh call68 func68 (.w (.draw [(10,[1])]) (.d [.rd] (Z1z r.La) (.d [.rd] (Z1z r.Pb) (.d [.rd] (Z1z r.Tb) (.f [4,14,24] [.Ae r.La,.Ae r.Pb,.Ae r.Tb] (.sv (.agg [.ref 0,.ref 1,.ref 2]))))))) (by
 dsimp only[Yl3,Z5w]
 have g:=Y16m r
 exact z00)
abbrev Z2q (x:YE):Ct:=⟨27,[],[Ypu x],Y1bj x,.sv (Y1ad x 0)⟩
def Z56 (x:YE):Lp Nat:=let v2:Cell:=.y;let v1:List AC:=[.val v2,.val v2,vI 0,vI 0,vI 0];.mk 32 0 (λx_1=>[(2,.y 0),(3,.y 1),(17,ll (x.Ma.map Ylc)),(18,li (x.Ma.map Ylc).length),(19,hs x_1 0)]) (λx_1=>[.box v1,.box [.ref 2,.ref 3,vI x.Sb,vI x.Va,vI x.Sc],.Ac x.Ba,ho x_1 1]) (λk=>[.s (li k),.o (.Ad (x.Ma.take k))]) (λk=>k<=x.Ma.length/\x.Ma.length<=9223372036854775807) (λk=>x.Ma.length - k) [.mk True (.exit 0) (λx=>[(2,.y 0),(3,.y 1)]) (λx_1=>[.box v1,.box [.ref 2,.ref 3,vI x.Sb,vI x.Va,vI x.Sc],.Ac x.Ba,ho x_1 0]) [.o (.Ad x.Ma)]]
theorem Zg5 (x:YE) (h:wX x<=1048576):Lp.Sem prog (Yli f27 0) (Z56 x):=Ylp (λk=>let v1:=x.Ma.g k;let v2:=x.Ma.take k;.i ((k:Int)<(x.Ma.map Ylc).length) (.x (k:Int) (x.Ma.map Ylc) (Yod v1) (.w (.draw [(4,[9,10,11]),(5,[3,17]),(7,[1])]) (.d [.rd] (Z5w v1) (.p (((v2.map Ylc).length+1) * 72<=140737488355328) (.r ((k:Int)+1) (.g [0,1,2,18] (k+1) [.s (li ((k:Int)+1)),.o (.y 3 (v2.map Ylc++[Yod v1]))])))))) (.o 0 [0,1,2,3] [.o (.Ad v2)])) (by
 intro k h;try dsimp only[Yl3,Yle,Z56]at h|-
 have g:=Ysy x
 have g2:=@Yls _ wR x.Ma (x.Ma.g k)
 exact z06)
theorem Z6o (x:YE) (h:wX x<=1048576):Z2q x:=Ylh call27 func27 (.w (.draw [(11,[18])]) (.d [.rd] (Z8i x.Ba) (.z Ylc x.Ma (.w (.g (.nilbox 18 1 true 3)) (.l (Z56 x) (Zg5 x h) [1,18,4,19] [.s (li 0),.o (.y 3 [])] 0 (.t (.f [2,3] [.Ac x.Ba,.Ad x.Ma] (.sv (.agg [.ref 0,.ref 1,vI x.Sb,vI x.Va,vI x.Sc]))) .q)))))) (by
 dsimp only[Yl3,Z2q,Yle,Z56]
 have g:=Ysy x
 exact z00)
def nxR (s Ka:Int):Int:=s+1+(Ka - s - 1) % 3
def nxt (s Ka:Int):Int:=if nxR s Ka<=99999 then nxR s Ka else 0
theorem Yzs {s Ka n:Int}(h0:0<=s) (hk:1<=Ka/\Ka<=3) (hn:s<n/\n<=nxR s Ka/\n<=99999):(Yo1 n=Ka ↔ n=nxR s Ka):=by
 unfold Yo1 nxR at *
 split
 ·split<;>omega
 ·omega
theorem Yqx {s Ka:Int}:s<nxR s Ka/\nxR s Ka<=s+3:=by unfold nxR;omega
def nxB (s Ka:Int):Bool:=decide (nxR s Ka<=99999)
def nxS (s Ka:Int):Int:=if nxR s Ka<=99999 then nxR s Ka else s
def cdF (c e:Int):Int:=if c=0 then e else c
abbrev stO (x:YE) (z c:Int):List Ob:=[.box [.ref 1,.ref 2,vI x.Sb,vI x.Va,vI x.Sc,vI z,vI c],.arr true 4 (x.Ba.map Yl2),.arr true 3 (x.Ma.map Ylc)]
abbrev stI (x:YE) (z:Int):List Ob:=[.box [.ref 1,.ref 2,vI x.Sb,vI x.Va,vI x.Sc,vI z],.arr true 4 (x.Ba.map Yl2),.arr true 3 (x.Ma.map Ylc)]
abbrev Zdh (x:YE) (z:Int) (c:Int) (e:Int):Ct:=⟨48,stO x z c,[.y 0,li e],stO x z (cdF c e),.sv (.agg [vI 0,vI 0,.val (.y),vI 0,vI 0,vS (mkS []),.val (.y),.val (.y)])⟩
theorem Zai (x:YE) (z c e:Int):Zdh x z c e:=Ylh call48 func48 (let v2:Cell:=.y;let v1:AV:=.sv (.agg [vI 0,vI 0,.val v2,vI 0,vI 0,vS (mkS []),.val v2,.val v2]);.i (c=0) (.f [] [.box [.ref 1,.ref 2,vI x.Sb,vI x.Va,vI x.Sc,vI z,vI e],.Ac x.Ba,.Ad x.Ma] v1) (.f [] [.box [.ref 1,.ref 2,vI x.Sb,vI x.Va,vI x.Sc,vI z,vI c],.Ac x.Ba,.Ad x.Ma] v1)) (by
 dsimp only[Yl3,Zdh]
 exact z10)
abbrev Z9g (s:Int) (Ka:Int):Ct:=⟨119,[],[li s,li Ka],[],.sv (li (nxt s Ka))⟩
def Z5x (s:Int) (Ka:Int):Lp (Int):=.mk 23 0 (λx=>[(0,li s),(1,li Ka),(5,hs x 0)]) (λx=>[]) (λk=>[.s (li k)]) (λk=>s+1<=k/\k<=nxR s Ka/\k<=100000) (λk=>(nxR s Ka - k).toNat) [.mk (nxB s Ka=false) (.exit 0) (λx=>[]) (λx=>[]) [],.mk (nxB s Ka) .ret (λx=>[(4,hs x 0)]) (λx=>[]) [.s (li (nxR s Ka))]]
theorem Zhd (s:Int) (Ka:Int) (h:0<=s/\s<=99999/\1<=Ka/\Ka<=3):Lp.Sem prog (Yli f119 0) (Z5x s Ka):=Ylp (λk=>.i (k<=99999) (.r (s+3) (.i (k<=s+3) (.c [.rd] (Zab k) (.i (Yo1 k=Ka) (.o 1 [] [.s (li k)]) (.r (k+1) (.g [] (k+1) [.s (li (k+1))])))) (.o 0 [] []))) (.y false (.o 0 [] []))) (by
 intro k h;try dsimp only[Yl3,Yle,Z5x]at h|-
 have g1:=@Yzs s Ka k
 have g2:=@Yqx s Ka
 have g3:nxR s Ka<=99999->nxB s Ka:=λh=>bF h
 have g4:¬ nxR s Ka<=99999->nxB s Ka=false:=λh=>bK h
 with_reducible repeat' (first|apply ah|exact zR|(intro))
 all_goals ((try simp only[std,inj]at *);with_reducible and_intros)
 all_goals try first|exact z
 all_goals (try first|exact g3 oW|exact g4 oW)
 all_goals grind)
theorem Zgr (s Ka:Int) (h:0<=s/\s<=99999/\1<=Ka/\Ka<=3):Z9g s Ka:=Ylh call119 func119 (.r (s+1) (.l (Z5x s Ka) (Zhd s Ka h) [] [.s (li (s+1))] (s+1) (.t (.s (li 0)) (.t (.s (li (nxR s Ka))) .q)))) (by
 dsimp only[Yl3,Z9g,Yle,Z5x]
 have g2:=@Yqx s Ka
 have g3:nxB s Ka->nxt s Ka=nxR s Ka:=λh=>ae (dB h)
 have g4:nxB s Ka=false->nxt s Ka=0:=λh=>ab (of_decide_eq_false h)
 with_reducible repeat' (first|apply ah|exact zR|(intro))
 all_goals ((try simp only[std,inj]at *);with_reducible and_intros)
 all_goals try first|exact z
 all_goals (try first|exact(g3 tW).symm|exact(g4 tW).symm))
theorem Y14x {x:YE}(h:Ym0 x):0<=x.Sb/\x.Sb<=99999/\0<=x.Va/\x.Va<=99999/\0<=x.Sc/\x.Sc<=200/\(x.Ma.length:Int)<=200/\(x.Ba.length:Int)<=1000:=by
 simp only[Ym0,Yv1,af,ak]at h
 omega
def bdE (x:YE) (t:ByteArray) (s:List Int):Int:=if Yni x.Ba t s then 4 else if 1000<=(x.Ba.length:Int) then 8 else 0
def bdL (x:YE) (id:YS_) (Ka n:Int):List YB:=if bdE x id.Ta id.Sa=0 then x.Ba++[⟨id.Ta,id.Sa,Ka,n⟩] else x.Ba
theorem Y1z8 {x:YE}{id:YS_}{Ka n:Int}(h:bdE x id.Ta id.Sa=0):bdL x id Ka n=x.Ba++[⟨id.Ta,id.Sa,Ka,n⟩]:=ae h
def Y1n6 (L:List YB) (b:YB):List YB:=if 1000<=(L.length:Int)\/Yni L b.Ta b.Sa then L else L++[b]
theorem Y1jh {L:List YB}{b:YB}(h:1000<=(L.length:Int)\/Yni L b.Ta b.Sa):Y1n6 L b=L:=ae h
theorem Y1et {L:List YB}{b:YB}(h:¬ (1000<=(L.length:Int)\/Yni L b.Ta b.Sa)):Y1n6 L b=L++[b]:=ab h
def bvE (x:YE) (id:YS_):Int:=if 99999<=x.Va then 8 else bdE x id.Ta id.Sa
def bmE (x:YE) (id:YS_):Int:=if 200<=(x.Ma.length:Int) then 8 else bdE x id.Ta id.Sa
def bmL (x:YE) (r:YR_):List YR_:=if 200<=(x.Ma.length:Int) then x.Ma else x.Ma++[r]
end
section
abbrev Zf0 (L:List Int) (n:Int):Ct:=⟨157,[],[Ag L,li n],[],.sv (lb (decide (n∈L)))⟩
def Z7a (L:List Int) (n:Int):Lp Nat:=.mk 17 0 (λx=>[(1,li n),(7,Ag L),(8,li (L.map Yl4).length),(9,hs x 0)]) (λx=>[]) (λk=>[.s (li k)]) (λk=>k<=L.length/\L.length<=9223372036854775807/\decide (n∈L.take k)=false) (λk=>L.length - k) [.mk (decide (n∈L)=false) (.exit 0) (λx=>[]) (λx=>[]) [],.mk (decide (n∈L)) .ret (λx=>[(4,hs x 0)]) (λx=>[]) [.s (lb true)]]
theorem Zih (L:List Int) (n:Int):Lp.Sem prog (Yli f157 0) (Z7a L n):=Ylp (λk=>.i ((k:Int)<(L.map Yl4).length) (.x (k:Int) (L.map Yl4) [cI (L.getD k 0)] (.i (L.getD k 0=n) (.o 1 [] [.s (lb true)]) (.r ((k:Int)+1) (.g [] (k+1) [.s (li ((k:Int)+1))])))) (.o 0 [] [])) (by
 intro k h;try dsimp only[Yl3,Yle,Z7a]at h|-
 exact z08)
theorem Zkv (L:List Int) (n:Int):Zf0 L n:=Ylh call157 func157 (.z Yl4 L (.l (Z7a L n) (Zih L n) [] [.s (li 0)] 0 (.t (.s (lb false)) (.t (.s (lb true)) .q)))) (by
 dsimp only[Yl3,Zf0,Yle,Z7a]
 exact zV)
abbrev Zdi (L:List Int) (n:Int):Ct:=⟨161,[],[Ag L,li n],[],.sv (lb (decide (n∈L)))⟩
def Z5y (L:List Int) (n:Int):Lp Nat:=.mk 17 0 (λx=>[(1,li n),(7,Ag L),(8,li (L.map Yl4).length),(9,hs x 0)]) (λx=>[]) (λk=>[.s (li k)]) (λk=>k<=L.length/\L.length<=9223372036854775807/\decide (n∈L.take k)=false) (λk=>L.length - k) [.mk (decide (n∈L)=false) (.exit 0) (λx=>[]) (λx=>[]) [],.mk (decide (n∈L)) .ret (λx=>[(4,hs x 0)]) (λx=>[]) [.s (lb true)]]
theorem Zhe (L:List Int) (n:Int):Lp.Sem prog (Yli f161 0) (Z5y L n):=Ylp (λk=>.i ((k:Int)<(L.map Yl4).length) (.x (k:Int) (L.map Yl4) [cI (L.getD k 0)] (.i (L.getD k 0=n) (.o 1 [] [.s (lb true)]) (.r ((k:Int)+1) (.g [] (k+1) [.s (li ((k:Int)+1))])))) (.o 0 [] [])) (by
 intro k h;try dsimp only[Yl3,Yle,Z5y]at h|-
 exact z08)
theorem Zkh (L:List Int) (n:Int):Zdi L n:=Ylh call161 func161 (.z Yl4 L (.l (Z5y L n) (Zhe L n) [] [.s (li 0)] 0 (.t (.s (lb false)) (.t (.s (lb true)) .q)))) (by
 dsimp only[Yl3,Zdi,Yle,Z5y]
 exact zV)
def Yp8 (A B:List Int):Bool:=A.all λn=>decide (n∈B)
abbrev Zf1 (A:List Int) (B:List Int):Ct:=⟨186,[],[Ag A,Ag B],[],.sv (lb (Yp8 A B))⟩
def Z7b (A:List Int) (B:List Int):Lp Nat:=.mk 18 0 (λx=>[(1,Ag B),(7,Ag A),(8,li (A.map Yl4).length),(9,hs x 0)]) (λx=>[]) (λk=>[.s (li k)]) (λk=>k<=A.length/\A.length<=9223372036854775807/\Yp8 (A.take k) B) (λk=>A.length - k) [.mk (Yp8 A B) (.exit 0) (λx=>[]) (λx=>[]) [],.mk (Yp8 A B=false) .ret (λx=>[(4,hs x 0)]) (λx=>[]) [.s (lb false)]]
theorem Zii (A:List Int) (B:List Int):Lp.Sem prog (Yli f186 0) (Z7b A B):=Ylp (λk=>.i ((k:Int)<(A.map Yl4).length) (.x (k:Int) (A.map Yl4) [cI (A.getD k 0)] (.c [.rd,.rd] (Zkv B (A.getD k 0)) (.b (!decide (A.getD k 0∈B)) (.o 1 [] [.s (lb false)]) (.r ((k:Int)+1) (.g [] (k+1) [.s (li ((k:Int)+1))]))))) (.o 0 [] [])) (by
 intro k h;try dsimp only[Yl3,Yle,Z7b]at h|-
 exact z11)
theorem Zij (A B:List Int):Zf1 A B:=Ylh call186 func186 (.z Yl4 A (.l (Z7b A B) (Zii A B) [] [.s (li 0)] 0 (.t (.s (lb true)) (.t (.s (lb false)) .q)))) (by
 dsimp only[Yl3,Zf1,Yle,Z7b]
 exact z12)
abbrev Zf2 (A:List Int) (B:List Int):Ct:=⟨118,[],[Ag A,Ag B],[],.sv (lb (Yp8 A B))⟩
def Z7c (A:List Int) (B:List Int):Lp Nat:=.mk 18 0 (λx=>[(1,Ag B),(7,Ag A),(8,li (A.map Yl4).length),(9,hs x 0)]) (λx=>[]) (λk=>[.s (li k)]) (λk=>k<=A.length/\A.length<=9223372036854775807/\Yp8 (A.take k) B) (λk=>A.length - k) [.mk (Yp8 A B) (.exit 0) (λx=>[]) (λx=>[]) [],.mk (Yp8 A B=false) .ret (λx=>[(4,hs x 0)]) (λx=>[]) [.s (lb false)]]
theorem Zik (A:List Int) (B:List Int):Lp.Sem prog (Yli f118 0) (Z7c A B):=Ylp (λk=>.i ((k:Int)<(A.map Yl4).length) (.x (k:Int) (A.map Yl4) [cI (A.getD k 0)] (.c [.rd,.rd] (Zkh B (A.getD k 0)) (.b (!decide (A.getD k 0∈B)) (.o 1 [] [.s (lb false)]) (.r ((k:Int)+1) (.g [] (k+1) [.s (li ((k:Int)+1))]))))) (.o 0 [] [])) (by
 intro k h;try dsimp only[Yl3,Yle,Z7c]at h|-
 exact z11)
theorem Zf3 (A B:List Int):Zf2 A B:=Ylh call118 func118 (.z Yl4 A (.l (Z7c A B) (Zik A B) [] [.s (li 0)] 0 (.t (.s (lb true)) (.t (.s (lb false)) .q)))) (by
 dsimp only[Yl3,Zf2,Yle,Z7c]
 exact z12)
def Ys0 (t:ByteArray) (s:List Int) (b:YB):Bool:=decide (b.Ta=t)&&Yp8 b.Sa s
def cnd (L:List YB) (t:ByteArray) (s:List Int):List YB:=L.filter (Ys0 t s)
theorem Y1dd {L:List YB}{t:ByteArray}{s:List Int}{k:Nat}(h:k<L.length):cnd (L.take (k+1)) t s=if Ys0 t s (L.g k) then cnd (L.take k) t s++[L.g k] else cnd (L.take k) t s:=by
 unfold cnd;rw[Ylk h,dw]
 by_cases e:Ys0 t s (L.g k)
 ·rw[ae e,List.filter_cons_of_pos e];rfl
 ·rw[ab e,List.filter_cons_of_neg e];simp
theorem Y1xs (L:List YB) (t:ByteArray) (s:List Int) (k:Nat):(cnd (L.take k) t s).length<=k:=by
 have h1:=cN (Ys0 t s) (L.take k)
 have h2:(L.take k).length<=k:=by rw[au];exact Nat.min_le_left _ _
 unfold cnd;omega
abbrev Z9h (L:List YB) (y:YS_):Ct:=⟨185,[],[Aj L,Yln y],[],.sv (Aj (cnd L y.Ta y.Sa))⟩
def Z5z (L:List YB) (y:YS_):Lp Nat:=.mk 33 0 (λx=>[(3,.y 0),(5,.r 1),(9,Aj L),(10,li (L.map Yl2).length),(11,hs x 0)]) (λx=>[.box (vals (Yl8 y)),ho x 1]) (λk=>[.s (li k),.o (.arr false 4 ((cnd (L.take k) y.Ta y.Sa).map Yl2))]) (λk=>k<=L.length/\L.length<=9223372036854775807) (λk=>L.length - k) [.mk True (.exit 0) (λx=>[(5,.r 0)]) (λx=>[ho x 0]) [.o (.arr false 4 ((cnd L y.Ta y.Sa).map Yl2))]]
theorem Zhf (L:List YB) (y:YS_) (h:L.length<=1000000001):Lp.Sem prog (Yli f185 0) (Z5z L y):=Ylp (λk=>let v5:=cnd (L.take k) y.Ta y.Sa;let v1:=v5.map Yl2;let v2:=(k:Int)+1;let v3:=L.g k;let v4:Tq _ _:=.r v2 (.g [0,1] (k+1) [.s (li v2),.o (.arr false 4 v1)]);.i ((k:Int)<(L.map Yl2).length) (.x (k:Int) (L.map Yl2) (Ylv v3) (.i (v3.Ta.data.toList=y.Ta.data.toList) (.c [.rd,.rd] (Zij v3.Sa y.Sa) (.b (Yp8 v3.Sa y.Sa) (.p ((v1.length+1) * 56<=140737488355328) (.r v2 (.g [0,4] (k+1) [.s (li v2),.o (.arr false 4 (v5.map Yl2++[Ylv v3]))]))) v4)) (.y false v4))) (.o 0 [1] [.o (.arr false 4 v1)])) (by
 intro k h;try dsimp only[Yl3,Yle,Z5z]at h|-
 have g1:=@Y1dd L y.Ta y.Sa k
 have g2:=Y1xs L y.Ta y.Sa k
 have g3:L.length<=k->L.take k=L:=λh=>ar h
 with_reducible repeat' (first|apply ah|exact zR|(intro))
 all_goals ((try simp only[std,inj]at *);with_reducible and_intros)
 all_goals try first|exact z|grind[Ys0,Yok,Yla,Ylb,Yl5])
theorem Z6c (L:List YB) (y:YS_) (h:L.length<=1000000001):Z9h L y:=Ylh call185 func185 (.w (.bool true) (.z Yl2 L (.l (Z5z L y) (Zhf L y h) [0,1] [.s (li 0),.o (.arr false 4 [])] 0 (.t (.w (.g (.lock 0)) (.s (Aj (cnd L y.Ta y.Sa)))) .q)))) (by
 dsimp only[Yl3,Z9h,Yle,Z5z]
 have g1:cnd (L.take 0) y.Ta y.Sa=[]:=rfl
 exact zV)
def Ytq (a b:YB):YB:=if a.Sa.length<b.Sa.length then b else a
def Yo6 (C:List YB):YB:=C.foldl Ytq (C.g 0)
theorem Y1ss (x:YB):Yo6 [x]=x:=by simp[Yo6,Ytq]
theorem Y1b2 {C:List YB}(x:YB) (h:C≠[]):Yo6 (C++[x])=Ytq (Yo6 C) x:=by
 cases C with
 | nil=>exact absurd rfl h
 | cons a r=>simp only[Yo6,cO];rfl
def amb (C:List YB):Bool:=C.all λb=>Yp8 b.Sa (Yo6 C).Sa
def rsC (L:List YB) (t:ByteArray) (s:List Int):Int:=if cnd L t s=[] then 0 else if amb (cnd L t s) then 1 else 2
def rsB (L:List YB) (t:ByteArray) (s:List Int):YB:=if rsC L t s=1 then Yo6 (cnd L t s) else ⟨mkS [],[],0,0⟩
theorem Y1ri {C:List YB}:∀ (a:YB),C.foldl Ytq a=a\/C.foldl Ytq a∈C:=by
 induction C with
 | nil=>intro a;exact .inl rfl
 | cons x r ih=>
  intro a
  rw[bL]
  rcases ih (Ytq a x) with h|h
  ·rw[h];unfold Ytq;split
   ·exact .inr aj
   ·exact .inl rfl
  ·exact .inr (ai _ h)
theorem Y10p {C:List YB}(h:C≠[]):Yo6 C∈C:=by
 cases C with
 | nil=>exact absurd rfl h
 | cons a r=>
  rcases Y1ri (C:=a :: r) ((a :: r).g 0) with h|h
  ·unfold Yo6;rw[h];exact aj
  ·exact h
theorem Y23n (L:List YB) (t:ByteArray) (s:List Int):sumBy wB (cnd L t s)<=sumBy wB L:=by
 induction L with
 | nil=>exact aC _
 | cons x r ih=>
  unfold cnd at ih|-
  by_cases e:Ys0 t s x
  ·rw[List.filter_cons_of_pos e];simp only[sumBy];omega
  ·rw[List.filter_cons_of_neg e];simp only[sumBy];omega
theorem Y1qk {L:List YB}{t:ByteArray}{s:List Int}(h:cnd L t s≠[]):wB (Yo6 (cnd L t s))<=sumBy wB L:=by
 have h1:=Yls wB (Y10p h)
 have h2:=Y23n L t s
 omega
theorem Y1rp {C:List YB}{k:Nat}(hk:k<C.length) (h:Yp8 (C.g k).Sa (Yo6 C).Sa=false):amb C=false:=by
 unfold amb;rw[bW];exact⟨_,Yl6 hk,by rw[h];decide⟩
def Y15a (C:List YB) (k:Nat):Bool:=(C.take k).all λb=>Yp8 b.Sa (Yo6 C).Sa
theorem Y1py {C:List YB}{k:Nat}(hk:k<C.length) (h0:Y15a C k) (h:Yp8 (C.g k).Sa (Yo6 C).Sa):Y15a C (k+1):=by
 unfold Y15a at *;rw[Ylk hk,cA,h0];simpa using h
theorem Y1rt {C:List YB}{k:Nat}(hk:C.length<=k) (h0:Y15a C k):amb C:=by
 unfold Y15a at h0;rwa [ar hk]at h0
abbrev Zb4 (L:List YB) (y:YS_):Ct:=⟨147,[],[Aj L,Yln y],[],.tup [Yx0 (rsB L y.Ta y.Sa),li (rsC L y.Ta y.Sa)]⟩
def Z7d (L:List YB) (y:YS_):Lp Nat:=let v1:=cnd L y.Ta y.Sa;let v5:Cell:=.y;let v2:=[vS (mkS []),.val v5,vI 0,vI 0];let v3:=(4,.y 0);let v4:List Ob:=[.box v2,.box (vals (Ylv (Yo6 v1)))];.mk 56 0 (λx=>[v3,(7,.y 1),(37,Aj v1),(38,li (v1.map Yl2).length),(39,hs x 0)]) (λx=>v4) (λk=>[.s (li k)]) (λk=>k<=v1.length/\v1.length<=9223372036854775807/\0<v1.length/\Y15a v1 k) (λk=>v1.length - k) [.mk (amb v1) (.exit 2) (λx=>[v3,(7,.y 1)]) (λx=>v4) [],.mk (amb v1=false) .ret (λx=>[v3,(5,hs x 1)]) (λx=>[ho x 0]) [.o (.box [vS (mkS []),.val v5,vI 0,vI 0]),.s (li 2)]]
def Z7e (L:List YB) (y:YS_):Lp Nat:=let v1:=cnd L y.Ta y.Sa;let v2:=[vS (mkS []),.val (.y),vI 0,vI 0];let v3:=v1.map Yl2;.mk 56 0 (λx=>[(4,.y 0),(6,ll v3),(7,.y 1),(22,ll v3),(23,li (v1.map Yl2).length),(24,hs x 0)]) (λx=>[.box v2,ho x 1]) (λk=>[.s (li k),.o (.box (vals (Ylv (List.foldl Ytq (v1.g 0) (v1.take k)))))]) (λk=>k<=v1.length/\v1.length<=9223372036854775807/\0<v1.length) (λk=>v1.length - k) [.mk True (.exit 0) (λx=>[(4,.y 0),(6,ll v3),(7,.y 1)]) (λx=>[.box v2,ho x 0]) [.o (.box (vals (Ylv (Yo6 v1))))]]
theorem Zil (L:List YB) (y:YS_) (h:L.length<=1000000001/\sumBy wB L<=1000000001):Lp.Sem prog (Yli f147 1) (Z7d L y):=Ylp (λk=>let v1:=cnd L y.Ta y.Sa;let v2:=v1.g k;.i ((k:Int)<(v1.map Yl2).length) (.x (k:Int) (v1.map Yl2) (Ylv v2) (.c [.rd,.rd] (Zij v2.Sa (Yo6 v1).Sa) (.b (!Yp8 v2.Sa (Yo6 v1).Sa) (.o 1 [0] [.o (.box [vS (mkS []),.val (.y),vI 0,vI 0]),.s (li 2)]) (.r ((k:Int)+1) (.g [0,1] (k+1) [.s (li ((k:Int)+1))]))))) (.o 0 [0,1] [])) (by
 intro k h;try dsimp only[Yl3,Yle,Z7d]at h|-
 have g1:=@Y1rp (cnd L y.Ta y.Sa) k
 have g2:=@Y1py (cnd L y.Ta y.Sa) k
 have g3:=@Y1rt (cnd L y.Ta y.Sa) k
 exact z00)
theorem Zim (L:List YB) (y:YS_) (h:L.length<=1000000001/\sumBy wB L<=1000000001):Lp.Sem prog (Yli f147 0) (Z7e L y):=Ylp (λk=>let v4:=cnd L y.Ta y.Sa;let v1:=List.foldl Ytq (v4.g 0) (v4.take k);let v2:=v4.g k;let v3:=(k:Int)+1;.i ((k:Int)<(v4.map Yl2).length) (.x (k:Int) (v4.map Yl2) (Ylv v2) (.z Yl4 v2.Sa (.z Yl4 v1.Sa (.i (((v1.Sa.map Yl4).length:Int)<((v2.Sa.map Yl4).length:Int)) (.r v3 (.g [0,1] (k+1) [.s (li v3),.o (.box (vals (Ylv v2)))])) (.r v3 (.g [0,1] (k+1) [.s (li v3),.o (.box (vals (Ylv v1)))])))))) (.o 0 [0,1] [.o (.box (vals (Ylv v1)))])) (by
 intro k h;try dsimp only[Yl3,Yle,Z7e]at h|-
 have g1:=@Yse _ _ _ Ytq ((cnd L y.Ta y.Sa).g 0) (cnd L y.Ta y.Sa) k
 have g2:∀ a b,Ytq a b=if a.Sa.length<b.Sa.length then b else a:=λ_ _=>rfl
 have g3:(cnd L y.Ta y.Sa).length<=k->(cnd L y.Ta y.Sa).take k=cnd L y.Ta y.Sa:=λh=>ar h
 have g4:Yo6 (cnd L y.Ta y.Sa)=(cnd L y.Ta y.Sa).foldl Ytq ((cnd L y.Ta y.Sa).g 0):=rfl
 exact z00)
theorem Zin (L:List YB) (y:YS_) (h:L.length<=1000000001/\sumBy wB L<=1000000001):Zb4 L y:=Ylh call147 func147 (let v1:=cnd L y.Ta y.Sa;let v2:=Ylv (v1.g 0);let v3:=Ylv (Yo6 v1);.d [.rd,.rd] (Z9h L y) (.z Yl2 v1 (.i (((v1.map Yl2).length:Int)=0) (.w (.g (.nilbox 1 1 true 1)) (.w (.g (.lock 2)) (.f [] [] (.tup [.agg [vS (mkS []),vL [],vI 0,vI 0],li 0])))) (.w (.cells v2) (.p ((0:Int)<=0/\(v1.map Yl2)[0]? = some v2) (.z Yl2 v1 (.l (Z7e L y) (Zim L y h) [1,2] [.s (li 0),.o (.box (vals v2))] 0 (.t (.z Yl2 v1 (.l (Z7d L y) (Zil L y h) [0,1] [.s (li 0)] 0 (.t (.d [.rd] (Z47 [Yo6 v1]) (.p ((0:Int)<=0/\0<1) (.w (.cells v3) (.p (some v3=some v3) (.w (.g (.lock 3)) (.f [] [] (.tup [.agg (vals v3),li 1]))))))) (.t (.w (.g (.nilbox 0 1 true 1)) (.w (.g (.lock 1)) (.f [] [] (.tup [.agg [vS (mkS []),vL [],vI 0,vI 0],li 2])))) .q)))) .q)))))))) (by
 dsimp only[Yl3,Zb4,Yle,Z7e,Z7d]
 have g1:0<(cnd L y.Ta y.Sa).length->cnd L y.Ta y.Sa≠[]:=λh=>List.length_pos_iff.1 h
 have g2:(cnd L y.Ta y.Sa).length=0->cnd L y.Ta y.Sa=[]:=λh=>List.length_eq_zero_iff.1 h
 have g3:=@Y1qk L y.Ta y.Sa
 have g4:rsC L y.Ta y.Sa=if cnd L y.Ta y.Sa=[] then 0 else if amb (cnd L y.Ta y.Sa) then 1 else 2:=rfl
 have g5:rsC L y.Ta y.Sa=1->rsB L y.Ta y.Sa=Yo6 (cnd L y.Ta y.Sa):=λh=>ae h
 have g6:¬ rsC L y.Ta y.Sa=1->rsB L y.Ta y.Sa=⟨mkS [],[],0,0⟩:=λh=>ab h
 have g7:Y15a (cnd L y.Ta y.Sa) 0:=rfl
 have g8:∀ b:YB,[b].g 0=b:=λb=>rfl
 have g9:sumBy wB [Yo6 (cnd L y.Ta y.Sa)]=wB (Yo6 (cnd L y.Ta y.Sa)):=rfl
 have p1:¬ rsC L y.Ta y.Sa=1->SV.agg [vS (mkS []),vL [],vI 0,vI 0]=SV.agg (vals (Ylv (rsB L y.Ta y.Sa))):=λh=>by rw[g6 h];rfl
 have p2:rsC L y.Ta y.Sa=1->SV.agg [vS (Yo6 (cnd L y.Ta y.Sa)).Ta,vL ((Yo6 (cnd L y.Ta y.Sa)).Sa.map Yl4),vI (Yo6 (cnd L y.Ta y.Sa)).Ka,vI (Yo6 (cnd L y.Ta y.Sa)).Na]=SV.agg (vals (Ylv (rsB L y.Ta y.Sa))):=λh=>by rw[g5 h];rfl
 exact z00)
def bsI (L:List YB) (t:ByteArray) (s:List Int):Nat->Int
 | 0 => -1
 | k+1=>if Ys0 t s (L.g k)/\(bsI L t s k<0\/(L.g (bsI L t s k).toNat).Sa.length<(L.g k).Sa.length) then (k:Int) else bsI L t s k
theorem Y18h (L:List YB) (t:ByteArray) (s:List Int):∀ k,k<=L.length -> -1<=bsI L t s k/\bsI L t s k<k/\(bsI L t s k<0 ↔ cnd (L.take k) t s=[])/\(0<=bsI L t s k->L.g (bsI L t s k).toNat=Yo6 (cnd (L.take k) t s))
 | 0,_=>by simp[bsI,cnd]
 | k+1,hk=>by
  obtain⟨h1,h2,h3,h4⟩:=Y18h L t s k oW
  have e:=@Y1dd L t s k oW
  simp only[bsI]
  by_cases c:Ys0 t s (L.g k)
  ·rw[ae c]at e
   by_cases c2:bsI L t s k<0
   ·rw[ae ⟨c,.inl c2⟩,e,h3.1 c2]
    refine⟨by omega,by omega,⟨λh=>by omega,λh=>by simp at h⟩,λ_ => ?_⟩
    rw[cE,bq,Y1ss]
   ·have hne:cnd (L.take k) t s≠[]:=λh=>c2 (h3.2 h)
    have hb:=h4 oW
    by_cases c3:(L.g (bsI L t s k).toNat).Sa.length<(L.g k).Sa.length
    ·rw[ae ⟨c,.inr c3⟩,e]
     refine⟨by omega,by omega,⟨λh=>by omega,λh=>by simp at h⟩,λ_ => ?_⟩
     rw[cE,Y1b2 _ hne,Ytq,ae (by rw[<- hb];exact c3)]
    ·rw[ab (by rintro⟨_,h|h⟩<;>contradiction),e]
     refine⟨h1,by omega,⟨λh=>absurd h c2,λh=>by simp at h⟩,λ_ => ?_⟩
     rw[Y1b2 _ hne,Ytq,ab (by rw[<- hb];exact c3)];exact hb
  ·rw[ab (λh=>c h.1),e,ab c]
   exact⟨h1,by omega,h3,h4⟩
def Y15j (L:List YB) (t:ByteArray) (s:List Int) (k:Nat):Bool:=(L.take k).all λb => !Ys0 t s b||Yp8 b.Sa (Yo6 (cnd L t s)).Sa
theorem Y1r4 {L:List YB}{t:ByteArray}{s:List Int}{k:Nat}(hk:k<L.length) (h0:Y15j L t s k) (h:Ys0 t s (L.g k)=false\/Yp8 (L.g k).Sa (Yo6 (cnd L t s)).Sa):Y15j L t s (k+1):=by
 unfold Y15j at *;rw[Ylk hk,cA,h0];simpa using h
theorem Y1sw {L:List YB}{t:ByteArray}{s:List Int}{k:Nat}(hk:L.length<=k) (h0:Y15j L t s k):amb (cnd L t s):=by
 unfold Y15j at h0;rw[ar hk,am]at h0
 unfold amb;rw[am]
 intro x hx
 have h1:=List.mem_filter.1 hx
 have:=h0 x h1.1
 rw[h1.2]at this;simpa using this
theorem Y1oh {L:List YB}{t:ByteArray}{s:List Int}{k:Nat}(hk:k<L.length) (h1:Ys0 t s (L.g k)) (h:Yp8 (L.g k).Sa (Yo6 (cnd L t s)).Sa=false):amb (cnd L t s)=false:=by
 unfold amb;rw[bW];exact⟨_,List.mem_filter.2 ⟨Yl6 hk,h1⟩,by rw[h];decide⟩
abbrev Z3l (L:List YB) (y:YS_):Ct:=⟨71,[],[Aj L,Yln y],Y1er (rsB L y.Ta y.Sa),.tup [Y1ej (rsB L y.Ta y.Sa) 0,li (rsC L y.Ta y.Sa)]⟩
def Z7f (L:List YB) (y:YS_):Lp Nat:=let v4:Cell:=.y;let v1:=[vS (mkS []),.val v4,vI 0,vI 0];let v2:=(6,li (bsI L y.Ta y.Sa L.length));let v3:=L.map Yl2;.mk 87 0 (λx=>[(0,ll v3),(3,.y 0),(4,.y 1),v2,(51,ll v3),(52,li (L.map Yl2).length),(53,hs x 0)]) (λx=>[.box (vals (Yl8 y)),.box v1]) (λk=>[.s (li k)]) (λk=>k<=L.length/\L.length<=9223372036854775807/\0<=bsI L y.Ta y.Sa L.length/\Y15j L y.Ta y.Sa k) (λk=>L.length - k) [.mk (amb (cnd L y.Ta y.Sa)) (.exit 2) (λx=>[(0,ll v3),(4,.y 0),v2]) (λx=>[.box v1]) [],.mk (amb (cnd L y.Ta y.Sa)=false) .ret (λx=>[(4,.y 0),(5,hs x 1)]) (λx=>[ho x 0]) [.o (.box [vS (mkS []),.val v4,vI 0,vI 0]),.s (li 2)]]
def Z7g (L:List YB) (y:YS_):Lp Nat:=let v1:List Ob:=[.box (vals (Yl8 y)),.box [vS (mkS []),.val (.y),vI 0,vI 0]];let v2:=L.map Yl2;.mk 87 0 (λx=>[(0,ll v2),(3,.y 0),(4,.y 1),(6,hs x 1),(11,ll v2),(12,li (L.map Yl2).length),(13,hs x 0)]) (λx=>v1) (λk=>[.s (li k),.s (li (bsI L y.Ta y.Sa k))]) (λk=>k<=L.length/\L.length<=9223372036854775807) (λk=>L.length - k) [.mk True (.exit 0) (λx=>[(0,ll v2),(3,.y 0),(4,.y 1),(6,hs x 0)]) (λx=>v1) [.s (li (bsI L y.Ta y.Sa L.length))]]
theorem Zio (L:List YB) (y:YS_) (h:L.length<=1000000001/\sumBy wB L<=1000000001):Lp.Sem prog (Yli f71 1) (Z7f L y):=Ylp (λk=>let v1:Tq _ _:=.r ((k:Int)+1) (.g [0,1] (k+1) [.s (li ((k:Int)+1))]);let v4:=bsI L y.Ta y.Sa L.length;let v2:=L.g v4.toNat;let v3:=L.g k;.i ((k:Int)<(L.map Yl2).length) (.x (k:Int) (L.map Yl2) (Ylv v3) (.w (.draw []) (.i (v3.Ta.data.toList=y.Ta.data.toList) (.c [.rd,.rd] (Zf3 v3.Sa y.Sa) (.b (Yp8 v3.Sa y.Sa) (.x v4 (L.map Yl2) (Ylv v2) (.c [.rd,.rd] (Zf3 v3.Sa v2.Sa) (.b (!Yp8 v3.Sa v2.Sa) (.o 1 [1] [.o (.box [vS (mkS []),.val (.y),vI 0,vI 0]),.s (li 2)]) v1))) (.y false v1))) (.y false (.y false v1))))) (.o 0 [1] [])) (by
 intro k h;try dsimp only[Yl3,Yle,Z7f]at h|-
 have g1:=Y18h L y.Ta y.Sa L.length
 have g2:L.take L.length=L:=b8
 have g3:=@Y1r4 L y.Ta y.Sa k
 have g4:=@Y1sw L y.Ta y.Sa k
 have g5:=@Y1oh L y.Ta y.Sa k
 exact z13)
theorem Zip (L:List YB) (y:YS_) (h:L.length<=1000000001/\sumBy wB L<=1000000001):Lp.Sem prog (Yli f71 0) (Z7g L y):=Ylp (λk=>let v6:=(k:Int)+1;let v5:=bsI L y.Ta y.Sa k;let v1:Tq _ _:=.r v6 (.g [0,1] (k+1) [.s (li v6),.s (li v5)]);let v2:=L.g v5.toNat;let v3:Tq _ _:=.r v6 (.g [0,1] (k+1) [.s (li v6),.s (li k)]);let v4:=L.g k;.i ((k:Int)<(L.map Yl2).length) (.x (k:Int) (L.map Yl2) (Ylv v4) (.w (.draw []) (.i (v4.Ta.data.toList=y.Ta.data.toList) (.c [.rd,.rd] (Zf3 v4.Sa y.Sa) (.b (Yp8 v4.Sa y.Sa) (.i (bsI L y.Ta y.Sa k<0) (.y true v3) (.x v5 (L.map Yl2) (Ylv v2) (.z Yl4 v4.Sa (.z Yl4 v2.Sa (.i (((v2.Sa.map Yl4).length:Int)<((v4.Sa.map Yl4).length:Int)) v3 v1))))) (.y false v1))) (.y false (.y false v1))))) (.o 0 [0,1] [.s (li v5)])) (by
 intro k h;try dsimp only[Yl3,Yle,Z7g]at h|-
 have g1:=Y18h L y.Ta y.Sa k
 have g2:bsI L y.Ta y.Sa (k+1)=if Ys0 y.Ta y.Sa (L.g k)/\(bsI L y.Ta y.Sa k<0\/(L.g (bsI L y.Ta y.Sa k).toNat).Sa.length<(L.g k).Sa.length) then (k:Int) else bsI L y.Ta y.Sa k:=rfl
 exact z13)
theorem Z5h (L:List YB) (y:YS_) (h:L.length<=1000000001/\sumBy wB L<=1000000001):Z3l L y:=Ylh call71 func71 (let v2:=bsI L y.Ta y.Sa L.length;let v1:=L.g v2.toNat;.z Yl2 L (.l (Z7g L y) (Zip L y h) [0,1] [.s (li 0),.s (li (-1:Int))] 0 (.t (.i (bsI L y.Ta y.Sa L.length<0) (.w (.g (.nilbox 1 1 true 1)) (.f [2] [.y 1 []] (.tup [.agg [vS (mkS []),.ref 0,vI 0,vI 0],li 0]))) (.z Yl2 L (.l (Z7f L y) (Zio L y h) [0,1] [.s (li 0)] 0 (.t (.x v2 (L.map Yl2) (Ylv v1) (.d [.rd] (Z54 v1) (.f [1] [.Aa v1.Sa] (.tup [.agg [vS v1.Ta,.ref 0,vI v1.Ka,vI v1.Na],li 1])))) (.t (.w (.g (.nilbox 0 1 true 1)) (.f [1] [.y 1 []] (.tup [.agg [vS (mkS []),.ref 0,vI 0,vI 0],li 2]))) .q))))) .q))) (by
 dsimp only[Yl3,Z3l,Yle,Z7g,Z7f]
 have g1:=Y18h L y.Ta y.Sa L.length
 have g2:L.take L.length=L:=b8
 have g3:=@Y1qk L y.Ta y.Sa
 have g4:rsC L y.Ta y.Sa=if cnd L y.Ta y.Sa=[] then 0 else if amb (cnd L y.Ta y.Sa) then 1 else 2:=rfl
 have g5:rsC L y.Ta y.Sa=1->rsB L y.Ta y.Sa=Yo6 (cnd L y.Ta y.Sa):=λh=>ae h
 have g6:¬ rsC L y.Ta y.Sa=1->rsB L y.Ta y.Sa=⟨mkS [],[],0,0⟩:=λh=>ab h
 have g7:Y15j L y.Ta y.Sa 0:=rfl
 have g8:bsI L y.Ta y.Sa 0 = -1:=rfl
 exact z00)
def mng (L:List YB) (a b:YS_):Bool:=if rsC L a.Ta a.Sa=0/\rsC L b.Ta b.Sa=0 then decide (a.Ta=b.Ta) else decide (rsC L a.Ta a.Sa=1)&&decide (rsC L b.Ta b.Sa=1)&&decide ((rsB L a.Ta a.Sa).Ka=(rsB L b.Ta b.Sa).Ka)&&decide ((rsB L a.Ta a.Sa).Na=(rsB L b.Ta b.Sa).Na)
abbrev Z9i (L:List YB) (a:YS_) (b:YS_):Ct:=⟨164,[],[Aj L,Yln a,Yln b],[],.sv (lb (mng L a b))⟩
theorem Zgs (L:List YB) (a b:YS_) (h:L.length<=1000000001/\sumBy wB L<=1000000001):Z9i L a b:=Ylh call164 func164 (let v1:Tq _ _:=.i (rsC L a.Ta a.Sa=0) (.i (rsC L b.Ta b.Sa=0) (.s (lb (decide (a.Ta.data.toList=b.Ta.data.toList)))) (.s (lb false))) (.y false (.s (lb false)));.d [.rd,.rd] (Z3l L a) (.d [.rd,.rd] (Z3l L b) (.i (rsC L a.Ta a.Sa=1) (.i (rsC L b.Ta b.Sa=1) (.i ((rsB L a.Ta a.Sa).Ka=(rsB L b.Ta b.Sa).Ka) (.s (lb (decide ((rsB L a.Ta a.Sa).Na=(rsB L b.Ta b.Sa).Na)))) (.s (lb false))) v1) (.y false v1)))) (by
 dsimp only[Yl3,Z9i]
 with_reducible repeat' (first|apply ah|exact zR|(intro)|apply Z5h)
 all_goals ((try simp only[std,inj]at *);with_reducible and_intros)
 all_goals try with_reducible first|apply Z5h
 all_goals try first|exact z|grind[mng,Yok,Yla,Ylb,Yl5])
def frm (L:List YB) (s:YS_):Int:=if s.Ka=1/\rsC L s.Ta s.Sa=1/\(rsB L s.Ta s.Sa).Ka=1 then (rsB L s.Ta s.Sa).Na else -1
abbrev Z9j (L:List YB) (s:YS_) (n:Int):Ct:=⟨103,[],[Aj L,Yln s,li n],[],.sv (lb (decide (frm L s=n)))⟩
theorem Z3p (L:List YB) (s:YS_) (n:Int) (h:L.length<=1000000001/\sumBy wB L<=1000000001/\0<=n):Z9j L s n:=Ylh call103 func103 (.i (s.Ka≠1) (.s (lb false)) (.d [.rd,.rd] (Zb4 L s) (.i (rsC L s.Ta s.Sa=1) (.i ((rsB L s.Ta s.Sa).Ka=1) (.s (lb (decide ((rsB L s.Ta s.Sa).Na=n)))) (.s (lb false))) (.y false (.s (lb false)))))) (by
 dsimp only[Yl3,Z9j]
 have g:frm L s=if s.Ka=1/\rsC L s.Ta s.Sa=1/\(rsB L s.Ta s.Sa).Ka=1 then (rsB L s.Ta s.Sa).Na else -1:=rfl
 exact z00)
abbrev Z7h (L:List YB) (s:YS_):Ct:=⟨126,[],[Aj L,Yln s],[],.sv (li (frm L s))⟩
theorem Z4m (L:List YB) (s:YS_) (h:L.length<=1000000001/\sumBy wB L<=1000000001):Z7h L s:=Ylh call126 func126 (.i (s.Ka≠1) (.s (li (-1:Int))) (.d [.rd,.rd] (Z3l L s) (.i (rsC L s.Ta s.Sa≠1) (.y true (.s (li (-1:Int)))) (.i ((rsB L s.Ta s.Sa).Ka≠1) (.s (li (-1:Int))) (.s (li (rsB L s.Ta s.Sa).Na)))))) (by
 dsimp only[Yl3,Z7h]
 with_reducible repeat' (first|apply ah|exact zR|(intro)|apply Z5h)
 all_goals ((try simp only[std,inj]at *);with_reducible and_intros)
 all_goals try with_reducible first|apply Z5h
 all_goals try first|exact z|grind[frm,Yla,Ylb,Yl5])
def Yqj (x:YS_):Bool:=decide (x.Ka=0)&&decide ((x.Ia.length:Int)=2)
def Yp1 (s:YS_) (i k:Nat):List YS_:=((s.Ia.drop 2).take k).map λx=>x.Ia.g i
def Yoz (s:YS_) (i:Nat):List YS_:=(s.Ia.drop 2).map λx=>x.Ia.g i
theorem Yvy (s:YS_) (i:Nat) {k:Nat}(h:k<(s.Ia.drop 2).length):Yp1 s i (k+1)=Yp1 s i k++[((s.Ia.drop 2).g k).Ia.g i]:=by
 unfold Yp1;rw[Ylk h];simp
theorem Yy1 (s:YS_) (i:Nat) {k:Nat}(h:(s.Ia.drop 2).length<=k):Yp1 s i k=Yoz s i:=by
 unfold Yp1 Yoz;rw[ar h]
theorem Yya (s:YS_) (i k:Nat):(Yp1 s i k).length<=k:=by
 unfold Yp1;rw[aO,au];exact Nat.min_le_left _ _
def Ym2 (s:YS_):YR_:=⟨(s.Ia.g 1).Ia,Yoz s 0,Yoz s 1⟩
def Ymt (L:List YB) (s:YS_):Bool:=decide (s.Ka=0)&&decide (2<=(s.Ia.length:Int))&&decide (frm L (s.Ia.g 0)=10)&&decide ((s.Ia.g 1).Ka=0)&&(s.Ia.drop 2).all Yqj&&Ymr (Ym2 s)
def Yno (L:List YB) (s:YS_):YR_:=if Ymt L s then Ym2 s else ⟨[],[],[]⟩
theorem Y1q9:∀ L:List YS_,L.all Yqj->2 * L.length+sumBy wY (L.map λx=>x.Ia.g 0)+sumBy wY (L.map λx=>x.Ia.g 1)<=sumBy wY L
 | [],_=>aC _
 | x :: r,h=>by
  simp only[dD,af]at h
  have h1:=Y1q9 r h.2
  have h2:=Ymd x
  have h3:=h.1
  simp only[Yqj,af,ak]at h3
  have e:sumBy wY x.Ia=wY (x.Ia.g 0)+wY (x.Ia.g 1):=by
   have a:=@Ysh _ _ wY x.Ia 0 oW
   have b:=@Ysh _ _ wY x.Ia 1 oW
   have c:sumBy wY (x.Ia.drop 2)=0:=by rw[bB oW];rfl
   rw[cQ]at a
   simp only[ck,Nat.reduceAdd]at a b
   omega
  simp only[bO,sumBy,aD];omega
theorem Y12m {s:YS_}(h2:2<=s.Ia.length) (h:(s.Ia.drop 2).all Yqj):wR (Ym2 s)<=wY s:=by
 have a0:=@Ysh _ _ wY s.Ia 0 oW
 have a1:=@Ysh _ _ wY s.Ia 1 oW
 rw[cQ]at a0
 simp only[ck,Nat.reduceAdd]at a0 a1
 have h3:=Y1q9 _ h
 have h4:=Ymd s
 have h5:=Ymd (s.Ia.g 1)
 have h6:(s.Ia.drop 2).length=s.Ia.length - 2:=ax
 rw[Y16m];simp only[Ym2,Yoz,aO];omega
theorem Y21f (s:YS_) (j:Nat):wY (s.Ia.g j)<=wY s:=by
 rcases bH j s.Ia.length with h|h
 ·have h1:=Yls wY (Yl6 h)
  have h2:=Ymd s
  omega
 ·have e:s.Ia.g j=default:=by simp[h]
  rw[e];exact cm _
theorem Y1at {L:List YS_}{p:YS_->Bool}{k:Nat}(h:k<L.length) (hp:p (L.g k)=false):L.all p=false:=by
 rw[bW];exact⟨_,Yl6 h,by rw[hp];decide⟩
abbrev Z2x (L:List YB) (s:YS_):Ct:=⟨175,[],[Aj L,Yln s],Y1ft (Yno L s),.tup [Y1hb (Yno L s) 0,lb (Ymt L s)]⟩
def Z49 (L:List YB) (s:YS_):Lp Nat:=let v6:Cell:=.y;let v1:List AC:=[.val v6,.val v6,.val v6];let v2:=s.Ia.drop 2;let v3:=s.Ia.map Yl1;let v4:=(s.Ia.g 1).Ia.map Yl1;let v5:=(4,.y 0);.mk 87 0 (λx=>[v5,(6,.y 1),(45,ll (List.take (v3.length - 2) (v3.drop 2))),(46,li ((List.take (v3.length - 2) (v3.drop 2)).length:Int)),(47,hs x 0)]) (λx=>[.box v1,.box [.ref 2,.ref 3,.ref 4],.y 5 v4,ho x 1,ho x 2]) (λk=>[.s (li k),.o (.Ae (Yp1 s 0 k)),.o (.Ae (Yp1 s 1 k))]) (λk=>k<=v2.length/\2<=s.Ia.length/\s.Ia.length<=1000000000/\(v2.take k).all Yqj) (λk=>v2.length - k) [.mk (v2.all Yqj) (.exit 0) (λx=>[v5,(6,.y 1)]) (λx=>[.box v1,.box [.ref 2,.ref 3,.ref 4],.y 5 v4,ho x 0,ho x 1]) [.o (.Ae (Yoz s 0)),.o (.Ae (Yoz s 1))],.mk (v2.all Yqj=false) .ret (λx=>[v5,(5,hs x 1)]) (λx=>[ho x 0]) [.o (.box v1),.s (lb false)]]
theorem Zf4 (L:List YB) (s:YS_) (h:L.length<=1000000001/\sumBy wB L<=1000000001/\wY s<=1000000000):Lp.Sem prog (Yli f175 0) (Z49 L s):=Ylp (λk=>let v6:=(s.Ia.map Yl1).length - 2;let v1:=(List.take v6 (s.Ia.drop 2)).g k;let v2:Cell:=.y;let v3:=List.drop 2 (s.Ia.map Yl1);let v4:=(Yp1 s 1 k).map Yl1;let v5:=(Yp1 s 0 k).map Yl1;let v7:=v1.Ia.g 1;let v8:=v1.Ia.g 0;let v9:Ob:=.box [.val v2,.val v2,.val v2];.i ((k:Int)<(v3.take v6).length) (.x (k:Int) (v3.take v6) (Yl8 v1) (.i (v1.Ka≠0) (.y true (.o 1 [0] [.o v9,.s (lb false)])) (.z Yl1 v1.Ia (.i (((v1.Ia.map Yl1).length:Int)≠2) (.o 1 [0] [.o v9,.s (lb false)]) (.w (.draw [(7,[12,13]),(8,[3,20]),(10,[1])]) (.w (.cells (Yl8 v8)) (.p ((0:Int)<=0/\(v1.Ia.map Yl1)[0]? = some (Yl8 v8)) (.d [.rd] (Zj v8) (.p ((v5.length+1) * 80<=140737488355328) (.w (.draw [(7,[28,29]),(8,[4,36]),(10,[1])]) (.w (.cells (Yl8 v7)) (.p ((0:Int)<=1/\(v1.Ia.map Yl1)[1]? = some (Yl8 v7)) (.d [.rd] (Zj v7) (.p ((v4.length+1) * 80<=140737488355328) (.r ((k:Int)+1) (.g [0,1,2,21,37] (k+1) [.s (li ((k:Int)+1)),.o (.y 5 ((Yp1 s 0 k).map Yl1++[Yl8 v8])),.o (.y 5 ((Yp1 s 1 k).map Yl1++[Yl8 v7]))])))))))))))))))) (.o 0 [0,1,2,3,4] [.o (.y 5 v5),.o (.y 5 v4)])) (by
 intro k h;try dsimp only[Yl3,Yle,Z49]at h|-
 have g1:=@Yvy s 0 k
 have g2:=@Yvy s 1 k
 have g3:=@Yy1 s 0 k
 have g4:=@Yy1 s 1 k
 have g5:=Yya s 0 k
 have g6:=Yya s 1 k
 have g7:=@Y1at (s.Ia.drop 2) Yqj k
 have g8:=@Ylk _ _ (s.Ia.drop 2) k
 have e:(s.Ia.drop 2).take (s.Ia.length - 2)=s.Ia.drop 2:=ar (by rw[ax];omega)
 have e2:(s.Ia.drop 2).length=s.Ia.length - 2:=ax
 have e3:k<(s.Ia.drop 2).length->wY ((s.Ia.drop 2).g k)<=wY s:=λh=>by have:=@Yls _ wY s.Ia _ (aG (Yl6 h));have:=Ymd s;omega
 have e4:=Ymd ((s.Ia.drop 2).g k)
 have e5:∀ j,j<((s.Ia.drop 2).g k).Ia.length->wY (((s.Ia.drop 2).g k).Ia.g j)<=wY ((s.Ia.drop 2).g k):=λj h=>by have:=@Yls _ wY _ _ (Yl6 h);omega
 have e6:Yqj ((s.Ia.drop 2).g k)=(decide (((s.Ia.drop 2).g k).Ka=0)&&decide ((((s.Ia.drop 2).g k).Ia.length:Int)=2)):=rfl
 have e7:(s.Ia.drop 2).length<=k->(s.Ia.drop 2).take k=s.Ia.drop 2:=λh=>ar h
 exact z0a)
theorem Z5 (L:List YB) (s:YS_) (h:L.length<=1000000001/\sumBy wB L<=1000000001/\wY s<=1000000000):Z2x L s:=Ylh call175 func175 (let v6:List Ob:=[.y 5 [],.y 5 [],.y 5 []];let v5:AV:=.tup [.agg [.ref 0,.ref 1,.ref 2],lb false];let v1:Tq _ _:=.w (.g (.nilbox 1 0 true 5)) (.w (.g (.nilbox 1 1 true 5)) (.w (.g (.nilbox 1 2 true 5)) (.f [2,3,4] v6 v5)));let v2:=s.Ia.g 1;let v3:=s.Ia.map Yl1;let v4:=s.Ia.g 0;let v7:=(0:Int)<=1/\v3[1]? = some (Yl8 v2);let v8:=YR_.mk v2.Ia (Yoz s 0) (Yoz s 1);.i (s.Ka≠0) (.y true (.y true (.y true v1))) (.z Yl1 s.Ia (.i (((s.Ia.map Yl1).length:Int)<2) (.y true (.y true v1)) (.w (.cells (Yl8 v4)) (.p ((0:Int)<=0/\v3[0]? = some (Yl8 v4)) (.d [.rd,.rd] (Z7h L v4) (.i (frm L v4≠10) (.y true v1) (.w (.cells (Yl8 v2)) (.p v7 (.i (v2.Ka≠0) v1 (.w (.cells (Yl8 v2)) (.p v7 (.d [.rd] (Z1z v2.Ia) (.p ((0:Int)<=2) (.p (2<=v3.length/\v3.length<=v3.length/\∀ (x0:List Cell),x0∈s.Ia.map Yl1->x0.length=5) (.h ((List.take (v3.length - 2) (v3.drop 2)).length<=9223372036854775807) (.w (.g (.nilbox 3 1 true 5)) (.w (.g (.nilbox 3 2 true 5)) (.l (Z49 L s) (Zf4 L s h) [1,3,2,4,5] [.s (li 0),.o (.y 5 []),.o (.y 5 [])] 0 (.t (.d [.rd] (Z27 v8) (.b (!Ymr v8) (.w (.g (.nilbox 0 0 true 5)) (.w (.g (.nilbox 0 1 true 5)) (.w (.g (.nilbox 0 2 true 5)) (.f [5,6,7] v6 v5)))) (.f [2,3,4] [.Ae v2.Ia,.Ae (Yoz s 0),.Ae (Yoz s 1)] (.tup [.agg [.ref 0,.ref 1,.ref 2],lb true])))) (.t (.w (.g (.nilbox 0 0 true 5)) (.w (.g (.nilbox 0 1 true 5)) (.w (.g (.nilbox 0 2 true 5)) (.f [1,2,3] v6 v5)))) .q))))))))))))))))))))) (by
 dsimp only[Yl3,Z2x,Yle,Z49]
 have g1:=Ymd s
 have g2:=@Y12m s
 have e:(s.Ia.drop 2).take (s.Ia.length - 2)=s.Ia.drop 2:=ar (by rw[ax];omega)
 have e2:∀ j,j<s.Ia.length->wY (s.Ia.g j)<=wY s:=λj hj=>by have:=@Yls _ wY s.Ia _ (Yl6 hj);omega
 have e3:=Ymd (s.Ia.g 1)
 have g3:Ymt L s->Yno L s=Ym2 s:=λh=>ae h
 have g4:Ymt L s=false->Yno L s=⟨[],[],[]⟩:=λh=>by unfold Yno;rw[h];rfl
 have g5:Ymt L s=(decide (s.Ka=0)&&decide (2<=(s.Ia.length:Int))&&decide (frm L (s.Ia.g 0)=10)&&decide ((s.Ia.g 1).Ka=0)&&(s.Ia.drop 2).all Yqj&&Ymr (Ym2 s)):=rfl
 have g6:Ym2 s=⟨(s.Ia.g 1).Ia,Yoz s 0,Yoz s 1⟩:=rfl
 have g7:Yp1 s 0 0=[]/\Yp1 s 1 0=[]:=⟨rfl,rfl⟩
 exact z00)
abbrev Z83 (L:List YB) (s:YS_):Ct:=⟨49,[],[Aj L,Yln s],Y1ft (Yno L s),.tup [Y1hb (Yno L s) 0,lb (Ymt L s)]⟩
def Z4a (L:List YB) (s:YS_):Lp Nat:=let v6:Cell:=.y;let v1:List AC:=[.val v6,.val v6,.val v6];let v2:=s.Ia.drop 2;let v3:=s.Ia.map Yl1;let v4:=(s.Ia.g 1).Ia.map Yl1;let v5:=(4,.y 0);.mk 101 0 (λx=>[v5,(6,.y 1),(59,ll (List.take (v3.length - 2) (v3.drop 2))),(60,li ((List.take (v3.length - 2) (v3.drop 2)).length:Int)),(61,hs x 0)]) (λx=>[.box v1,.box [.ref 2,.ref 3,.ref 4],.y 5 v4,ho x 1,ho x 2]) (λk=>[.s (li k),.o (.Ae (Yp1 s 0 k)),.o (.Ae (Yp1 s 1 k))]) (λk=>k<=v2.length/\2<=s.Ia.length/\s.Ia.length<=1000000000/\(v2.take k).all Yqj) (λk=>v2.length - k) [.mk (v2.all Yqj) (.exit 2) (λx=>[v5,(6,.y 1)]) (λx=>[.box v1,.box [.ref 2,.ref 3,.ref 4],.y 5 v4,ho x 0,ho x 1]) [.o (.Ae (Yoz s 0)),.o (.Ae (Yoz s 1))],.mk (v2.all Yqj=false) .ret (λx=>[v5,(5,hs x 1)]) (λx=>[ho x 0]) [.o (.box v1),.s (lb false)]]
def Z4b (L:List YB) (s:YS_):Lp Nat:=let v1:Cell:=.y;let v2:=s.Ia.g 1;let v3:List AC:=[.val v1,.val v1,.val v1];let v4:List AC:=[.ref 3,.val v1,.val v1];.mk 101 0 (λx=>[(3,.y 0),(4,.y 1),(6,.y 2),(43,Af v2.Ia),(44,li (v2.Ia.map Yl1).length),(45,hs x 0)]) (λx=>[.box (vals (Yl8 s)),.box v3,.box v4,ho x 1]) (λk=>[.s (li k),.o (.Ae (v2.Ia.take k))]) (λk=>k<=v2.Ia.length/\v2.Ia.length<=9223372036854775807) (λk=>v2.Ia.length - k) [.mk True (.exit 0) (λx=>[(3,.y 0),(4,.y 1),(6,.y 2)]) (λx=>[.box (vals (Yl8 s)),.box v3,.box v4,ho x 0]) [.o (.Ae v2.Ia)]]
theorem Zf5 (L:List YB) (s:YS_) (h:L.length<=1000000001/\sumBy wB L<=1000000001/\wY s<=1000000000):Lp.Sem prog (Yli f49 1) (Z4a L s):=Ylp (λk=>let v6:=(s.Ia.map Yl1).length - 2;let v1:=(List.take v6 (s.Ia.drop 2)).g k;let v2:Cell:=.y;let v3:=List.drop 2 (s.Ia.map Yl1);let v4:=(Yp1 s 1 k).map Yl1;let v5:=(Yp1 s 0 k).map Yl1;let v7:=v1.Ia.g 1;let v8:=v1.Ia.g 0;let v9:Ob:=.box [.val v2,.val v2,.val v2];.i ((k:Int)<(v3.take v6).length) (.x (k:Int) (v3.take v6) (Yl8 v1) (.i (v1.Ka≠0) (.y true (.o 1 [0] [.o v9,.s (lb false)])) (.z Yl1 v1.Ia (.i (((v1.Ia.map Yl1).length:Int)≠2) (.o 1 [0] [.o v9,.s (lb false)]) (.w (.draw [(7,[12,13]),(8,[3,20]),(10,[1])]) (.w (.cells (Yl8 v8)) (.p ((0:Int)<=0/\(v1.Ia.map Yl1)[0]? = some (Yl8 v8)) (.d [.rd] (Z2p v8) (.p ((v5.length+1) * 80<=140737488355328) (.w (.draw [(7,[28,29]),(8,[4,36]),(10,[1])]) (.w (.cells (Yl8 v7)) (.p ((0:Int)<=1/\(v1.Ia.map Yl1)[1]? = some (Yl8 v7)) (.d [.rd] (Z2p v7) (.p ((v4.length+1) * 80<=140737488355328) (.r ((k:Int)+1) (.g [0,1,2,21,37] (k+1) [.s (li ((k:Int)+1)),.o (.y 5 ((Yp1 s 0 k).map Yl1++[Yl8 v8])),.o (.y 5 ((Yp1 s 1 k).map Yl1++[Yl8 v7]))])))))))))))))))) (.o 0 [0,1,2,3,4] [.o (.y 5 v5),.o (.y 5 v4)])) (by
 intro k h;try dsimp only[Yl3,Yle,Z4a]at h|-
 have g1:=@Yvy s 0 k
 have g2:=@Yvy s 1 k
 have g3:=@Yy1 s 0 k
 have g4:=@Yy1 s 1 k
 have g5:=Yya s 0 k
 have g6:=Yya s 1 k
 have g7:=@Y1at (s.Ia.drop 2) Yqj k
 have g8:=@Ylk _ _ (s.Ia.drop 2) k
 have e:(s.Ia.drop 2).take (s.Ia.length - 2)=s.Ia.drop 2:=ar (by rw[ax];omega)
 have e2:(s.Ia.drop 2).length=s.Ia.length - 2:=ax
 have e3:k<(s.Ia.drop 2).length->wY ((s.Ia.drop 2).g k)<=wY s:=λh=>by have:=@Yls _ wY s.Ia _ (aG (Yl6 h));have:=Ymd s;omega
 have e4:=Ymd ((s.Ia.drop 2).g k)
 have e5:∀ j,j<((s.Ia.drop 2).g k).Ia.length->wY (((s.Ia.drop 2).g k).Ia.g j)<=wY ((s.Ia.drop 2).g k):=λj h=>by have:=@Yls _ wY _ _ (Yl6 h);omega
 have e6:Yqj ((s.Ia.drop 2).g k)=(decide (((s.Ia.drop 2).g k).Ka=0)&&decide ((((s.Ia.drop 2).g k).Ia.length:Int)=2)):=rfl
 have e7:(s.Ia.drop 2).length<=k->(s.Ia.drop 2).take k=s.Ia.drop 2:=λh=>ar h
 exact z0a)
theorem Zf6 (L:List YB) (s:YS_) (h:L.length<=1000000001/\sumBy wB L<=1000000001/\wY s<=1000000000):Lp.Sem prog (Yli f49 0) (Z4b L s):=Ylp (λk=>let v1:=s.Ia.g 1;let v2:=v1.Ia.g k;let v3:=(v1.Ia.take k).map Yl1;.i ((k:Int)<(v1.Ia.map Yl1).length) (.x (k:Int) (v1.Ia.map Yl1) (Yl8 v2) (.w (.draw [(4,[9,10]),(5,[3,17]),(7,[2])]) (.d [.rd] (Z2p v2) (.p ((v3.length+1) * 80<=140737488355328) (.r ((k:Int)+1) (.g [0,1,2,18] (k+1) [.s (li ((k:Int)+1)),.o (.y 5 ((v1.Ia.take k).map Yl1++[Yl8 v2]))])))))) (.o 0 [0,1,2,3] [.o (.y 5 v3)])) (by
 intro k h;try dsimp only[Yl3,Yle,Z4b]at h|-
 have e1:=Ymd (s.Ia.g 1)
 have e2:=Y21f s 1
 have g2:=@Yls _ wY (s.Ia.g 1).Ia ((s.Ia.g 1).Ia.g k)
 exact z06)
theorem Z9k (L:List YB) (s:YS_) (h:L.length<=1000000001/\sumBy wB L<=1000000001/\wY s<=1000000000):Z83 L s:=Ylh call49 func49 (let v7:List Ob:=[.y 5 [],.y 5 [],.y 5 []];let v6:AV:=.tup [.agg [.ref 0,.ref 1,.ref 2],lb false];let v1:Tq _ _:=.w (.g (.nilbox 1 0 true 5)) (.w (.g (.nilbox 1 1 true 5)) (.w (.g (.nilbox 1 2 true 5)) (.f [2,3,4] v7 v6)));let v2:=s.Ia.g 1;let v3:=s.Ia.map Yl1;let v4:=s.Ia.g 0;let v5:Ob:=.y 5 [];let v8:=(0:Int)<=1/\v3[1]? = some (Yl8 v2);let v9:=YR_.mk v2.Ia (Yoz s 0) (Yoz s 1);.i (s.Ka≠0) (.y true (.y true (.y true v1))) (.z Yl1 s.Ia (.i (((s.Ia.map Yl1).length:Int)<3) (.y true (.y true v1)) (.w (.cells (Yl8 v4)) (.p ((0:Int)<=0/\v3[0]? = some (Yl8 v4)) (.d [.rd,.rd,.rd] (Z9j L v4 10) (.b (!decide (frm L v4=10)) (.y true v1) (.w (.cells (Yl8 v2)) (.p v8 (.i (v2.Ka≠0) v1 (.w (.cells (Yl8 v2)) (.p v8 (.z Yl1 v2.Ia (.w (.g (.nilbox 2 0 true 5)) (.l (Z4b L s) (Zf6 L s h) [0,1,2,3] [.s (li 0),.o v5] 0 (.t (.p ((0:Int)<=2) (.p (2<=v3.length/\v3.length<=v3.length/\∀ (x0:List Cell),x0∈s.Ia.map Yl1->x0.length=5) (.h ((List.take (v3.length - 2) (v3.drop 2)).length<=9223372036854775807) (.w (.g (.nilbox 2 1 true 5)) (.w (.g (.nilbox 2 2 true 5)) (.l (Z4a L s) (Zf5 L s h) [1,2,3,4,5] [.s (li 0),.o v5,.o v5] 0 (.t (.d [.rd] (Z6l v9) (.b (!Ymr v9) (.w (.g (.nilbox 0 0 true 5)) (.w (.g (.nilbox 0 1 true 5)) (.w (.g (.nilbox 0 2 true 5)) (.f [5,6,7] v7 v6)))) (.f [2,3,4] [.Ae v2.Ia,.Ae (Yoz s 0),.Ae (Yoz s 1)] (.tup [.agg [.ref 0,.ref 1,.ref 2],lb true])))) (.t (.w (.g (.nilbox 0 0 true 5)) (.w (.g (.nilbox 0 1 true 5)) (.w (.g (.nilbox 0 2 true 5)) (.f [1,2,3] v7 v6)))) .q)))))))) .q)))))))))))))))) (by
 dsimp only[Yl3,Z83,Yle,Z4b,Z4a]
 have g1:=Ymd s
 have g2:=@Y12m s
 have e:(s.Ia.drop 2).take (s.Ia.length - 2)=s.Ia.drop 2:=ar (by rw[ax];omega)
 have e2:∀ j,j<s.Ia.length->wY (s.Ia.g j)<=wY s:=λj hj=>by have:=@Yls _ wY s.Ia _ (Yl6 hj);omega
 have e3:=Ymd (s.Ia.g 1)
 have g3:Ymt L s->Yno L s=Ym2 s:=λh=>ae h
 have g4:Ymt L s=false->Yno L s=⟨[],[],[]⟩:=λh=>by unfold Yno;rw[h];rfl
 have g5:Ymt L s=(decide (s.Ka=0)&&decide (2<=(s.Ia.length:Int))&&decide (frm L (s.Ia.g 0)=10)&&decide ((s.Ia.g 1).Ka=0)&&(s.Ia.drop 2).all Yqj&&Ymr (Ym2 s)):=rfl
 have g6:Ym2 s=⟨(s.Ia.g 1).Ia,Yoz s 0,Yoz s 1⟩:=rfl
 have g7:Yp1 s 0 0=[]/\Yp1 s 1 0=[]:=⟨rfl,rfl⟩
 have g8:s.Ia.length=2->Ymr (Ym2 s)=false:=λh=>by
  have e:s.Ia.drop 2=[]:=bB oW
  simp[Ymr,Ym2,Yoz,e]
 exact z00)
end
def Y10m (p f:YS_):YC:=⟨p,0,f,[]⟩
mutual
def nm (H:YS_->Bool) (A:List YS_->Int):YS_->Int->List YC
 | ⟨k,n,t,s,l⟩,d=>if k=1 then (if Ynb ⟨k,n,t,s,l⟩=true\/H ⟨k,n,t,s,l⟩=true then [] else [Yue ⟨k,n,t,s,l⟩ d]) else if k=0 then nms H A l 0 (A l) d else []
def nms (H:YS_->Bool) (A:List YS_->Int):List YS_->Int->Int->Int->List YC
 | [],_,_,_=>[]
 | x :: r,i,a,d=>(if i=a then [] else nm H A x (if i+1=a then d+1 else d))++nms H A r (i+1) a d
end
theorem Yrw (H:YS_->Bool) (A:List YS_->Int) (p:YS_) (d:Int):nm H A p d=if p.Ka=1 then (if Ynb p\/H p then [] else [Yue p d]) else if p.Ka=0 then nms H A p.Ia 0 (A p.Ia) d else []:=by cases p;simp only[nm]
def upC (x:YC):YC:=⟨x.name,x.depth+1,x.form,x.each⟩
def rp (V:List YC) (R:List (List YC)):List YC:=(List.range V.length).map λi=>⟨(V.g i).name,(V.g i).depth,(V.g i).form,(V.g i).each++R.map λc=>c.g i⟩
theorem Ysu (V:List YC) (R:List (List YC)):(rp V R).length=V.length:=by simp[rp]
def mtr (g:YS_->Option (List YC)):List YS_->Option (List (List YC))
 | []=>some []
 | f :: r=>match g f with
  | none=>none
  | some c=>match mtr g r with
   | none=>none
   | some R=>some (c :: R)
def Yys (a:Int) (n m:Nat):Int:=if 0<=a then (m:Int) - ((n:Int) - 2) else 0
def Yyn (a:Int) (l:List YS_) (f:YS_):Bool:=decide (f.Ka=0)&&decide (0<=Yys a l.length f.Ia.length)&&(decide (0<=a)||decide (f.Ia.length=l.length))
mutual
def mt (M:YS_->YS_->Bool) (H:YS_->Bool) (A:List YS_->Int):YS_->YS_->Option (List YC)
 | ⟨k,n,t,s,l⟩,f=>if k=1 then (if Ynb ⟨k,n,t,s,l⟩=true then some [] else if H ⟨k,n,t,s,l⟩=true then (if f.Ka=1/\M ⟨k,n,t,s,l⟩ f then some [] else none) else some [Y10m ⟨k,n,t,s,l⟩ f])
  else if k=0 then (if Yyn (A l) l f then mts M H A l 0 (A l) (Yys (A l) l.length f.Ia.length).toNat f.Ia else none)
  else if f.Ka=k/\f.Na=n/\f.Ta=t then some [] else none
def mts (M:YS_->YS_->Bool) (H:YS_->Bool) (A:List YS_->Int):List YS_->Int->Int->Nat->List YS_->Option (List YC)
 | [],_,_,_,_=>some []
 | x :: r,i,a,m,fs=>if i=a then mts M H A r (i+1) a m fs
  else if i+1=a then (match mtr (mt M H A x) (fs.take m) with
   | none=>none
   | some R=>match mts M H A r (i+1) a m (fs.drop m) with
    | none=>none
    | some c=>some (rp (nm H A x 1) R++c))
  else match mt M H A x (fs.g 0) with
   | none=>none
   | some c=>match mts M H A r (i+1) a m (fs.drop 1) with
    | none=>none
    | some d=>some (c++d)
end
theorem Yrx (M:YS_->YS_->Bool) (H:YS_->Bool) (A:List YS_->Int) (p f:YS_):mt M H A p f=if p.Ka=1 then (if Ynb p then some [] else if H p then (if f.Ka=1/\M p f then some [] else none) else some [Y10m p f])
  else if p.Ka=0 then (if Yyn (A p.Ia) p.Ia f then mts M H A p.Ia 0 (A p.Ia) (Yys (A p.Ia) p.Ia.length f.Ia.length).toNat f.Ia else none)
  else if f.Ka=p.Ka/\f.Na=p.Na/\f.Ta=p.Ta then some [] else none:=by cases p;simp only[mt]
theorem Y1ka (H:YS_->Bool) (A:List YS_->Int):∀ (l:List YS_),(∀ x∈l,∀ d,nm H A x (d+1)=(nm H A x d).map upC)->∀ i a d,nms H A l i a (d+1)=(nms H A l i a d).map upC
 | [],_,i,a,d=>by simp[nms]
 | x :: r,h,i,a,d=>by
  simp only[nms,aq,Y1ka H A r (λy hy=>h y (ai _ hy))]
  congr 1
  split
  ·rfl
  ·split
   ·exact h x aj (d+1)
   ·exact h x aj d
theorem Y1zp (H:YS_->Bool) (A:List YS_->Int):∀ (p:YS_) (d:Int),nm H A p (d+1)=(nm H A p d).map upC:=by
 intro p
 refine YS_.ind (P:=λp=>∀ d,nm H A p (d+1)=(nm H A p d).map upC) (λp ih d => ?_) p
 rw[Yrw,Yrw]
 split
 ·split
  ·rfl
  ·rfl
 ·split
  ·exact Y1ka H A p.Ia ih 0 _ d
  ·rfl
theorem Y1ie {M:YS_->YS_->Bool}{H:YS_->Bool}{A:List YS_->Int}:∀ (l:List YS_),(∀ x∈l,∀ f c,mt M H A x f=some c->c.length=(nm H A x 0).length)->∀ i a m fs c,mts M H A l i a m fs=some c->c.length=(nms H A l i a 0).length
 | [],_,i,a,m,fs,c,e=>by simp only[mts,aa]at e;subst e;simp[nms]
 | x :: r,h,i,a,m,fs,c,e=>by
  have ih:=Y1ie r (λy hy=>h y (ai _ hy)) (i+1) a m
  simp only[mts]at e
  simp only[nms]
  split at e
  ·rename_i hi;rw[ae hi];simpa using ih _ _ e
  ·rename_i hi
   rw[ab hi]
   split at e
   ·rename_i hi2
    rw[ae hi2]
    split at e
    ·cases e
    ·split at e
     ·cases e
     ·rename_i c' hc
      simp only[aa]at e;subst e
      rw[aw,aw,Ysu,ih _ _ hc];rfl
   ·rename_i hi2
    rw[ab hi2]
    split at e
    ·cases e
    ·rename_i c1 h1
     split at e
     ·cases e
     ·rename_i c' hc
      simp only[aa]at e;subst e
      rw[aw,aw,h x aj _ _ h1,ih _ _ hc]
theorem Y1pm {M:YS_->YS_->Bool}{H:YS_->Bool}{A:List YS_->Int}:∀ (p f:YS_) (c:List YC),mt M H A p f=some c->c.length=(nm H A p 0).length:=by
 intro p
 refine YS_.ind (P:=λp=>∀ f c,mt M H A p f=some c->c.length=(nm H A p 0).length) (λp ih f c e => ?_) p
 rw[Yrx]at e
 rw[Yrw]
 split at e
 ·rename_i hk
  rw[ae hk]
  split at e
  ·rename_i hu;simp only[aa]at e;subst e;rw[ae (.inl hu)]
  ·rename_i hu
   split at e
   ·rename_i hh
    split at e
    ·simp only[aa]at e;subst e;rw[ae (.inr hh)]
    ·cases e
   ·rename_i hh
    simp only[aa]at e;subst e
    rw[ab (by simp[hu,hh])];rfl
 ·rename_i hk
  rw[ab hk]
  split at e
  ·rename_i h0
   rw[ae h0]
   split at e
   ·exact Y1ie p.Ia ih _ _ _ _ _ e
   ·cases e
  ·rename_i h0
   rw[ab h0]
   split at e
   ·simp only[aa]at e;subst e;rfl
   ·cases e
theorem Y1kb (H:YS_->Bool) (A:List YS_->Int) (p:YS_):(nm H A p 1).length=(nm H A p 0).length:=by
 have:=Y1zp H A p 0
 rw[show (0:Int)+1=1 from rfl]at this
 rw[this,aO]
def aS (l:List YS_):Int:=if okS l then atS l else -1
theorem Y1o0 {Ls:List YS_}:∀ (l:List YS_),(∀ x∈l,∀ d o r,vrS Ls x d o=some r->r=o++nm (Ynu Ls) aS x d)->∀ i a d o r,wlk (vrS Ls) l i a d o=some r->r=o++nms (Ynu Ls) aS l i a d
 | [],_,i,a,d,o,r,e=>by simp only[wlk,aa]at e;subst e;simp[nms]
 | x :: l,h,i,a,d,o,r,e=>by
  have ih:=Y1o0 l λy hy=>h y (ai _ hy)
  simp only[wlk]at e
  simp only[nms]
  split at e
  ·rename_i hi;rw[ae hi,ih _ _ _ _ _ e];rfl
  ·rename_i hi
   rw[ab hi]
   split at e
   ·cases e
   ·rename_i o1 h1
    rw[ih _ _ _ _ _ e,h x aj _ _ _ h1,aH]
theorem Y1or {Ls:List YS_}:∀ (p:YS_),okY p->∀ d o r,vrS Ls p d o=some r->r=o++nm (Ynu Ls) aS p d:=by
 refine YS_.ind λp ih h d o r e => ?_
 rw[Yrl]at e
 rw[Yrw]
 split at e
 ·rename_i hk
  rw[ae hk]
  split at e
  ·rename_i hu;simp only[aa]at e;subst e;rw[ae hu];simp
  ·rename_i hu
   rw[ab hu]
   split at e
   ·cases e
   ·simp only[aa]at e;exact e.symm
 ·rename_i hk
  rw[ab hk]
  split at e
  ·rename_i hs
   by_cases h0:p.Ka=0
   ·rw[ae h0]
    have ha:aS p.Ia=atS p.Ia:=ae hs
    rw[ha]
    exact Y1o0 p.Ia (λx hx=>ih x hx (Yop h x hx)) _ _ _ _ _ e
   ·rw[ab h0]
    rw[Y1d9 h hk h0]at e
    simp only[wlk,aa]at e;subst e;simp
  ·cases e
theorem Y13q (L:List YC) (q:YS_):0<=fnd L q ↔ Ylj q=false/\L.any (Yq3 q):=by
 have h1:Yrc L q<L.length ↔ L.any (Yq3 q):=by
  unfold Yrc
  rw[List.findIdx_lt_length,cJ]
 unfold fnd
 constructor
 ·intro h
  split at h
  ·rename_i hc;exact⟨hc.1,h1.1 hc.2⟩
  ·omega
 ·rintro⟨h2,h3⟩
  rw[ae ⟨h2,h1.2 h3⟩];omega
theorem Y1gk {Ls:List YS_}:∀ (l:List YS_),(∀ x∈l,∀ d o r,vrS Ls x d o=some r->∀ d' o',d'<=d->(∀ q,0<=fnd o' q->0<=fnd o q)->∃ r',vrS Ls x d' o'=some r'/\∀ q,0<=fnd r' q->0<=fnd r q) ->
  ∀ i a d o r,wlk (vrS Ls) l i a d o=some r->∀ d' o',d'<=d->(∀ q,0<=fnd o' q->0<=fnd o q)->∃ r',wlk (vrS Ls) l i a d' o'=some r'/\∀ q,0<=fnd r' q->0<=fnd r q
 | [],_,i,a,d,o,r,e,d',o',hd,ho=>by simp only[wlk,aa]at e|-;subst e;exact⟨o',rfl,ho⟩
 | x :: l,h,i,a,d,o,r,e,d',o',hd,ho=>by
  have ih:=Y1gk l λy hy=>h y (ai _ hy)
  simp only[wlk]at e|-
  split at e
  ·rename_i hi;rw[ae hi];exact ih _ _ _ _ _ e _ _ hd ho
  ·rename_i hi
   rw[ab hi]
   split at e
   ·cases e
   ·rename_i o1 h1
    obtain⟨r1,e1,e2⟩:=h x aj _ _ _ h1 (if i+1=a then d'+1 else d') o' (by split<;>omega) ho
    rw[e1]
    exact ih _ _ _ _ _ e _ _ hd e2
theorem Y1dw {Ls:List YS_}:∀ (p:YS_) (d:Int) (o r:List YC),vrS Ls p d o=some r->∀ d' o',d'<=d->(∀ q,0<=fnd o' q->0<=fnd o q)->∃ r',vrS Ls p d' o'=some r'/\∀ q,0<=fnd r' q->0<=fnd r q:=by
 refine YS_.ind λp ih d o r e d' o' hd ho => ?_
 rw[Yrl]at e|-
 split at e
 ·rename_i hk
  rw[ae hk]
  split at e
  ·rename_i hu;simp only[aa]at e;subst e;rw[ae hu];exact⟨o',rfl,ho⟩
  ·rename_i hu
   rw[ab hu]
   split at e
   ·cases e
   ·rename_i hb
    simp only[aa]at e;subst e
    rw[ab (λhc=>hb (hc.imp id (Or.imp (ho p) (λh=>by omega))))]
    refine⟨_,rfl,λq hq => ?_⟩
    rw[Y13q]at hq|-
    refine⟨hq.1,?_⟩
    rw[List.any_append,aF]at hq|-
    rcases hq.2 with h1|h1
    ·exact .inl ((Y13q o q).1 (ho q ((Y13q o' q).2 ⟨hq.1,h1⟩))).2
    ·exact .inr h1
 ·rename_i hk
  rw[ab hk]
  split at e
  ·rename_i hs
   rw[ae hs]
   exact Y1gk p.Ia ih _ _ _ _ _ e _ _ hd ho
  ·cases e
theorem Y150 {f:YS_->Int->List YC->Option (List YC)}:∀ (l:List YS_) (i a d:Int) (o r:List YC),wlk f l i a d o=some r->∀ k:Nat,k<l.length->i+k≠a ->
  ∃ o' r',f (l.g k) (if i+k+1=a then d+1 else d) o'=some r'
 | [],i,a,d,o,r,e,k,hk,_=>by simp at hk
 | x :: l,i,a,d,o,r,e,k,hk,hne=>by
  simp only[wlk]at e
  cases k with
  | zero=>
   split at e
   ·rename_i hi;exact absurd hi (by simpa using hne)
   ·split at e
    ·cases e
    ·rename_i o1 h1
     exact⟨o,o1,by simpa using h1⟩
  | succ k=>
   have hk':k<l.length:=by simpa using hk
   have e1:i+((k+1:Nat):Int)=i+1+(k:Int):=by omega
   have:∃ o2 r2,wlk f l (i+1) a d o2=some r2:=by
    split at e
    ·exact⟨_,_,e⟩
    ·split at e
     ·cases e
     ·exact⟨_,_,e⟩
   obtain⟨o2,r2,e2⟩:=this
   rw[e1]at hne|-
   simpa using Y150 l (i+1) a d o2 r2 e2 k hk' hne
def good (Ls:List YS_) (p:YS_):Prop:=okY p/\∃ d o r,0<=d/\vrS Ls p d o=some r
theorem Y10i {Ls:List YS_}{p:YS_}(h:good Ls p) (h0:p.Ka=0):okS p.Ia:=by
 obtain⟨_,d,o,r,_,e⟩:=h
 rw[Yrl,ab oW]at e
 cases hs:okS p.Ia with
 | true=>rfl
 | false=>rw[hs,ab sW]at e;cases e
theorem Yvn {Ls:List YS_}{p:YS_}(h:good Ls p) (h0:p.Ka=0) {k:Nat}(hk:k<p.Ia.length) (hne:(k:Int)≠aS p.Ia):good Ls (p.Ia.g k):=by
 have hs:=Y10i h h0
 obtain⟨hy,d,o,r,hd,e⟩:=h
 refine⟨Yop hy _ (Yl6 hk),?_⟩
 rw[Yrl,ab oW,ae hs]at e
 have ha:aS p.Ia=atS p.Ia:=ae hs
 rw[ha]at hne
 obtain⟨o',r',e'⟩:=Y150 p.Ia 0 _ d o r e k hk oW
 exact⟨_,o',r',by split<;>omega,e'⟩
theorem Y1t1 {Ls:List YS_}{p:YS_}(h:good Ls p) (h0:p.Ka=0) {k:Nat}(hk:k<p.Ia.length) (ha:(k:Int)+1=aS p.Ia) :
  vrS Ls (p.Ia.g k) 0 []=some (nm (Ynu Ls) aS (p.Ia.g k) 0)/\vrS Ls (p.Ia.g k) 1 []=some (nm (Ynu Ls) aS (p.Ia.g k) 1):=by
 have hs:=Y10i h h0
 obtain⟨hy,d,o,r,hd,e⟩:=h
 have hy':=Yop hy _ (Yl6 hk)
 rw[Yrl,ab oW,ae hs]at e
 have ha':aS p.Ia=atS p.Ia:=ae hs
 rw[ha']at ha
 obtain⟨o',r',e'⟩:=Y150 p.Ia 0 _ d o r e k hk oW
 rw[ae oW]at e'
 have hn:∀ q,0<=fnd [] q->0<=fnd o' q:=λq hq=>by rw[Y13q]at hq;simp at hq
 obtain⟨r0,e0,_⟩:=Y1dw _ _ _ _ e' 0 [] oW hn
 obtain⟨r1,e1,_⟩:=Y1dw _ _ _ _ e' 1 [] oW hn
 refine⟨?_,?_⟩
 ·rw[e0];exact ci some (by simpa using Y1or _ hy' _ _ _ e0)
 ·rw[e1];exact ci some (by simpa using Y1or _ hy' _ _ _ e1)
theorem Y1ov {g g':YS_->Option (List YC)}(h:∀ f,g f=g' f) (L:List YS_):mtr g L=mtr g' L:=by rw[funext h]
theorem Y1gy {M:YS_->YS_->Bool}{H H':YS_->Bool}{A A':List YS_->Int}{a:Int}:∀ (l:List YS_) (i:Int),(∀ k:Nat,k<l.length->i+k≠a->(∀ f,mt M H A (l.g k) f=mt M H' A' (l.g k) f)/\nm H A (l.g k) 1=nm H' A' (l.g k) 1)->∀ m fs,mts M H A l i a m fs=mts M H' A' l i a m fs
 | [],i,_,m,fs=>by simp only[mts]
 | x :: r,i,h,m,fs=>by
  have ih:=Y1gy (a:=a) r (i+1) (λk hk hne=>by
   have:=h (k+1) (by simpa using hk) oW
   simpa using this)
  simp only[mts,ih]
  by_cases hi:i=a
  ·rw[ae hi,ae hi]
  ·obtain⟨h1,h2⟩:=h 0 sW (by simpa using hi)
   simp only[cq]at h1 h2
   rw[ab hi,ab hi,Y1ov h1,h2,h1]
theorem Y1gn {H H':YS_->Bool}{A A':List YS_->Int}{a:Int}:∀ (l:List YS_) (i:Int),(∀ k:Nat,k<l.length->i+k≠a->∀ d,nm H A (l.g k) d=nm H' A' (l.g k) d)->∀ d,nms H A l i a d=nms H' A' l i a d
 | [],i,_,d=>by simp only[nms]
 | x :: r,i,h,d=>by
  have ih:=Y1gn (a:=a) r (i+1) (λk hk hne=>by
   have:=h (k+1) (by simpa using hk) oW
   simpa using this)
  simp only[nms,ih]
  by_cases hi:i=a
  ·rw[ae hi,ae hi]
  ·have h1:=h 0 sW (by simpa using hi)
   simp only[cq]at h1
   rw[ab hi,ab hi,h1]
theorem Y1j2 {M:YS_->YS_->Bool}{Ls:List YS_}(hL:∀ x∈Ls,Yot x):∀ p:YS_,good Ls p->(∀ f,mt M (Ynu Ls) aS p f=mt M (Yow Ls) atI p f)/\∀ d,nm (Ynu Ls) aS p d=nm (Yow Ls) atI p d:=by
 refine YS_.ind λp ih hg => ?_
 by_cases hk:p.Ka=1
 ·have hh:=Y1az hL hk
  refine⟨λf => ?_,λd => ?_⟩
  ·rw[Yrx,Yrx,ae hk,ae hk,hh]
  ·rw[Yrw,Yrw,ae hk,ae hk,hh]
 ·by_cases h0:p.Ka=0
  ·have hs:=Y10i hg h0
   have e1:aS p.Ia=atI p.Ia:=by rw[(Y1cy hs).1];exact ae hs
   have hit:∀ k:Nat,k<p.Ia.length->(0:Int)+k≠atI p.Ia->(∀ f,mt M (Ynu Ls) aS (p.Ia.g k) f=mt M (Yow Ls) atI (p.Ia.g k) f)/\∀ d,nm (Ynu Ls) aS (p.Ia.g k) d=nm (Yow Ls) atI (p.Ia.g k) d:=
    λk hk' hne=>ih _ (Yl6 hk') (Yvn hg h0 hk' (by rw[e1];omega))
   refine⟨λf => ?_,λd => ?_⟩
   ·rw[Yrx,Yrx,ab hk,ab hk,ae h0,ae h0,e1,Y1gy p.Ia 0 λk hk' hne=>⟨(hit k hk' hne).1,(hit k hk' hne).2 1⟩]
   ·rw[Yrw,Yrw,ab hk,ab hk,ae h0,ae h0,e1,Y1gn p.Ia 0 λk hk' hne=>(hit k hk' hne).2]
  ·refine⟨λf => ?_,λd => ?_⟩
   ·rw[Yrx,Yrx,ab hk,ab hk,ab h0,ab h0]
   ·rw[Yrw,Yrw,ab hk,ab hk,ab h0,ab h0]
theorem Y1fj {H:YS_->Bool}{A:List YS_->Int}:∀ (l:List YS_),(∀ x∈l,∀ d,(nm H A x d).length<=Ylg x)->∀ i a d,(nms H A l i a d).length<=sumBy Ylg l
 | [],_,i,a,d=>by simp[nms]
 | x :: r,h,i,a,d=>by
  have ih:=Y1fj r (λy hy=>h y (ai _ hy)) (i+1) a d
  simp only[nms,aw,sumBy]
  split
  ·simp only[bo];omega
  ·have:=h x aj (if i+1=a then d+1 else d);omega
theorem Y1j5 (H:YS_->Bool) (A:List YS_->Int):∀ (p:YS_) (d:Int),(nm H A p d).length<=Ylg p:=by
 intro p
 refine YS_.ind (P:=λp=>∀ d,(nm H A p d).length<=Ylg p) (λp ih d => ?_) p
 have hz:=Ym7 p
 rw[Yrw]
 split
 ·split
  ·simp
  ·simp only[bh];omega
 ·split
  ·have:=Y1fj p.Ia ih 0 (A p.Ia) d;omega
  ·simp
def rws (g:YS_->Option (List YC)) (fs:List YS_) (k:Nat):Nat->List (List YC)×Bool
 | 0=>([],true)
 | j+1=>if (rws g fs k j).2 then (match g (fs.g (k+j)) with|some c=>((rws g fs k j).1++[c],true)|none=>((rws g fs k j).1,false)) else rws g fs k j
theorem Y1k9 {g:YS_->Option (List YC)}{fs:List YS_}{k:Nat}:∀ j,(rws g fs k j).2->(rws g fs k j).1.length=j
 | 0,_=>rfl
 | j+1,h=>by
  simp only[rws]at h|-
  split at h
  ·rename_i hj
   rw[ae hj]
   split at h
   ·rename_i c hc;rw[aw,Y1k9 j hj,bh]
   ·cases h
  ·rename_i hj;exact absurd h hj
theorem Y167 {g:YS_->Option (List YC)}{fs:List YS_}{k j:Nat}(h:(rws g fs k j).2=false):∀ n,rws g fs k (j+n)=rws g fs k j
 | 0=>rfl
 | n+1=>by
  have ih:=Y167 h n
  rw[<- cY]
  simp only[rws,ih,h]
  simp
theorem Y1fh {g:YS_->Option (List YC)}{fs:List YS_}{k j:Nat}{c:List YC}(h:(rws g fs k j).2) (hc:g (fs.g (k+j))=some c):rws g fs k (j+1)=((rws g fs k j).1++[c],true):=by
 simp only[rws];rw[ae h,hc]
theorem Y1gv {g:YS_->Option (List YC)}{fs:List YS_}{k j:Nat}(h:(rws g fs k j).2) (hc:g (fs.g (k+j))=none):rws g fs k (j+1)=((rws g fs k j).1,false):=by
 simp only[rws];rw[ae h,hc]
theorem Y1d3 (g:YS_->Option (List YC)):∀ (L:List YS_) (x:YS_),mtr g (L++[x])=match mtr g L with|none=>none|some R=>match g x with|none=>none|some c=>some (R++[c])
 | [],x=>by cases h:g x<;>simp[mtr,h]
 | y :: L,x=>by
  simp only[bE,mtr,Y1d3 g L x]
  cases g y with
  | none=>rfl
  | some c=>
   cases mtr g L with
   | none=>rfl
   | some R=>cases g x<;>rfl
theorem Y1id {g:YS_->Option (List YC)}{fs:List YS_}{k:Nat}:∀ j,k+j<=fs.length->mtr g ((fs.drop k).take j)=if (rws g fs k j).2 then some (rws g fs k j).1 else none
 | 0,_=>by simp[mtr,rws]
 | j+1,h=>by
  have hj:j<(fs.drop k).length:=by rw[ax];omega
  have e:(fs.drop k).g j=fs.g (k+j):=by simp[ao,aX]
  rw[Ylk hj,Y1d3,Y1id j oW,e]
  by_cases hr:(rws g fs k j).2
  ·rw[ae hr]
   cases hg:g (fs.g (k+j)) with
   | none=>rw[Y1gv hr hg];rfl
   | some c=>rw[Y1fh hr hg];rfl
  ·have hr':(rws g fs k j).2=false:=by simpa using hr
   rw[ab hr,Y167 hr' 1,ab hr]
def flM (x:YS_) (L:List YC):List YC:=if x.Ka=0 then [] else L
abbrev gS (B:List YB) (Ls:List YS_):YS_->YS_->Option (List YC):=mt (mng B) (Ynu Ls) aS
def nS (Ls:List YS_) (x:YS_):List YC:=nm (Ynu Ls) aS x 1
def eV (Ls:List YS_) (x:YS_):List YC:=(vrS Ls x 0 []).getD []
def smO (p:YS_) (o:List YC) (r:Option (List YC)):List YC:=match r with|some c=>o++c|none=>flM p o
def mS (p f:YS_):Nat:=(Yys (aS p.Ia) p.Ia.length f.Ia.length).toNat
abbrev Yzz (x:YC):List Cell:=[cI x.name.Ka,cI x.name.Na,cS x.name.Ta,.any,.any,cI x.depth,cI x.form.Ka,cI x.form.Na,cS x.form.Ta,.any,.any,.any]
def Yny (V:List YC) (R:List (List YC)) (c:List YC) (u:Nat):List YC:=(rp V (R++[c])).take u++(rp V R).drop u
theorem Y231 (l:List YS_):aS l = -1\/∃ a:Nat,aS l=a/\1<=a/\a<l.length:=by
 unfold aS
 split
 ·rename_i h
  rcases Y188 l l.length (aC _) h with h1|⟨m,h1,h2,h3,_⟩
  ·exact .inl h1.1
  ·exact .inr ⟨m,h3,h1,h2⟩
 ·exact .inl rfl
section
variable {B:List YB}{Ls:List YS_}{p f:YS_}{o:List YC}
theorem Y1j8 (x:YS_) (r:Option (List YC)):smO x [] r=r.getD []:=by cases r<;>simp[smO,flM]
theorem Yx4 {x:YS_}(h:x.Ka=0):smO x o none=[]:=ae h
theorem Y1zc {x y:YS_}{c:List YC}(h:gS B Ls x y=some c):c.length=(nS Ls x).length:=by
 rw[nS,Y1kb];exact Y1pm _ _ _ h
theorem Y1y9 (x:YS_):(nS Ls x).length<=Ylg x:=Y1j5 _ _ _ _
theorem Y255 (x:YC):(⟨x.name,x.depth,x.form,x.each⟩:YC)=x:=by cases x;rfl
theorem Y20v (V:List YC):rp V []=V:=by
 apply cD
 intro j
 simp only[rp,bb,List.getElem?_range',List.map_nil,bv,List.range_eq_range']
 by_cases h:j<V.length
 ·simp[h];exact Y255 _
 ·simp[h]
theorem Y1gl {V:List YC}{R:List (List YC)}{i:Nat}(h:i<V.length):(rp V R).g i=⟨(V.g i).name,(V.g i).depth,(V.g i).form,(V.g i).each++R.map λc=>c.g i⟩:=by
 simp[rp,ao,dN,h]
theorem Y1qf (V:List YC) (R:List (List YC)) (c:List YC):Yny V R c 0=rp V R:=by simp[Yny]
theorem Y1rl {V:List YC}{R:List (List YC)}{c:List YC}{u:Nat}(h:V.length<=u):Yny V R c u=rp V (R++[c]):=by
 unfold Yny;rw[ar (by rw[Ysu];exact h),bB (by rw[Ysu];exact h),bv]
theorem Y1tz (V:List YC) (R:List (List YC)) (c:List YC) (u:Nat):(Yny V R c u).length=V.length:=by
 simp only[Yny,aw,au,ax,Ysu];omega
theorem Y1el {V:List YC}{R:List (List YC)}{c:List YC}{u:Nat}(h:u<V.length):(Yny V R c u).g u=(rp V R).g u:=by
 simp[Yny,ao,bY,au,aX,Ysu,bT (dg h)]
theorem Y1pn {V:List YC}{R:List (List YC)}{c:List YC}{u:Nat}(h:u<V.length):(Yny V R c u).set u ⟨((rp V R).g u).name,((rp V R).g u).depth,((rp V R).g u).form,((rp V R).g u).each++[c.g u]⟩=Yny V R c (u+1):=by
 have e:(⟨((rp V R).g u).name,((rp V R).g u).depth,((rp V R).g u).form,((rp V R).g u).each++[c.g u]⟩:YC)=(rp V (R++[c])).g u:=by
  rw[Y1gl h,Y1gl h];simp
 rw[e]
 apply cD
 intro j
 have hl:=Ysu V R
 have hl2:=Ysu V (R++[c])
 simp only[Yny,bM,bY,au,aw,ax,aV,aX,ao,hl,hl2,bT (dg h),bT (show u+1<=V.length from h)]
 by_cases h1:u=j
 ·subst h1
  rw[ae rfl,ae oW,ae oW]
  have:(rp V (R++[c]))[u]? = some ((rp V (R++[c]))[u]'oW):=av _
  rw[this,ae (Nat.lt_succ_self u)];rfl
 ·rw[ab h1]
  by_cases h2:j<u
  ·rw[ae h2,ae h2,ae oW,ae oW]
  ·rw[ab h2,ab oW];congr 1;omega
abbrev Y186 (L:List YC) (u:Nat):List (List Cell):=(L.take u).map Yzz++(L.drop u).map Yl7
theorem Y1on {L:List YC}{u:Nat}(h:u<L.length):(Y186 L u)[u]? = some (Yl7 (L.g u)):=by
 simp[Y186,ao,bY,au,aX,h,bT (dg h)]
theorem Y1lr {L:List YC}{u:Nat}(h:u<L.length):(Y186 L u).set u (Yzz (L.g u))=Y186 L (u+1):=by
 apply cD
 intro j
 simp only[Y186,bM,bY,aO,au,aw,ax,bb,aV,aX,ao,bT (dg h),bT (show u+1<=L.length from h)]
 by_cases h1:u=j
 ·subst h1;simp[h];omega
 ·rw[ab h1]
  by_cases h2:j<u
  ·rw[ae h2,ae h2,ae oW,ae oW]
  ·rw[ab h2,ab oW];congr 2;omega
end
theorem Y1nr (o:List YC) (p f:YS_):o.map Yl7++[[cI p.Ka,cI p.Na,cS p.Ta,Cell.list (List.map Yl4 p.Sa),Cell.list (List.map Yl1 p.Ia),cI 0,cI f.Ka,cI f.Na,cS f.Ta,Cell.list (List.map Yl4 f.Sa),Cell.list (List.map Yl1 f.Ia),Cell.list []]]=(o++[Y10m p f]).map Yl7:=
 Yl5 (C:=Yl7) o (Y10m p f)
theorem Y1we {Ls:List YS_}{p:YS_}(hp:Yld p) (hv:(vrS Ls p 0 []).isSome):good Ls p/\Ylg p<=2000/\Ylw p<=40:=by
 simp only[Yld,af,ak]at hp
 obtain⟨r,hr⟩:=Option.isSome_iff_exists.1 hv
 exact⟨⟨hp.2,0,[],r,by omega,hr⟩,hp.1.1,hp.1.2⟩
def alM (g:YS_->YS_->Option (List YC)):List YS_->List YS_->Option (List YC)
 | [],_=>some []
 | x :: r,fs=>match g x (fs.g 0) with
  | none=>none
  | some c=>match alM g r (fs.drop 1) with
   | none=>none
   | some d=>some (c++d)
def alO (o:List YC) (r:Option (List YC)):List YC:=match r with|none=>[]|some c=>o++c
theorem Y116 (g:YS_->YS_->Option (List YC)):∀ (A C:List YS_) (fs:List YS_),alM g (A++C) fs=match alM g A fs with|none=>none|some c=>match alM g C (fs.drop A.length) with|none=>none|some d=>some (c++d)
 | [],C,fs=>by
  simp only[bq,alM,bo,cQ]
  cases alM g C fs<;>rfl
 | y :: A,C,fs=>by
  have e:(fs.drop 1).drop A.length=fs.drop (y :: A).length:=by rw[List.drop_drop,aD,Nat.add_comm]
  simp only[bE,alM,Y116 g A C,e]
  cases g y (fs.g 0) with
  | none=>rfl
  | some c=>
   cases alM g A (fs.drop 1) with
   | none=>rfl
   | some d=>
    cases alM g C (fs.drop (y :: A).length) with
    | none=>rfl
    | some d2=>simp[aH]
theorem Y1sp {g:YS_->YS_->Option (List YC)}{ps fs:List YS_}{k:Nat}(h:k<ps.length):alM g (ps.take (k+1)) fs=match alM g (ps.take k) fs with|none=>none|some c=>(match g (ps.g k) (fs.g k) with|none=>none|some d=>some (c++d)):=by
 have e:(fs.drop k).g 0=fs.g k:=by simp[ao]
 rw[Ylk h,Y116,au,bT (dg h)]
 simp only[alM,e]
 cases alM g (ps.take k) fs with
 | none=>rfl
 | some c=>cases g (ps.g k) (fs.g k)<;>simp
theorem Y1ys {g:YS_->YS_->Option (List YC)}{ps fs:List YS_}{o:List YC}:alO o (alM g (ps.take 0) fs)=o/\(alM g (ps.take 0) fs).isSome:=by
 simp[alM,alO]
theorem Y24j {g:YS_->YS_->Option (List YC)}{ps fs:List YS_}{o:List YC}{k:Nat}(h:k<ps.length) (hs:(alM g (ps.take k) fs).isSome) :
  (alM g (ps.take (k+1)) fs).isSome=(g (ps.g k) (fs.g k)).isSome/\((g (ps.g k) (fs.g k)).isSome->alO o (alM g (ps.take (k+1)) fs)=smO (ps.g k) (alO o (alM g (ps.take k) fs)) (g (ps.g k) (fs.g k))):=by
 obtain⟨c,hc⟩:=Option.isSome_iff_exists.1 hs
 rw[Y1sp h,hc]
 cases g (ps.g k) (fs.g k) with
 | none=>exact⟨rfl,λh=>by cases h⟩
 | some d=>exact⟨rfl,λ_=>by simp[alO,smO,aH]⟩
theorem Y1x5 {g:YS_->YS_->Option (List YC)}{ps fs:List YS_}{k:Nat}(h:(alM g (ps.take k) fs).isSome=false):alM g ps fs=none:=by
 have e:=Y116 g (ps.take k) (ps.drop k) fs
 rw[be]at e
 cases h2:alM g (ps.take k) fs with
 | none=>rw[h2]at e;exact e
 | some c=>rw[h2]at h;cases h
theorem Y20p {g:YS_->YS_->Option (List YC)}{ps fs:List YS_}{k:Nat}(h:ps.length<=k):alM g (ps.take k) fs=alM g ps fs:=by rw[ar h]
theorem Y1jn {g:YS_->YS_->Option (List YC)}:∀ (ps:List YS_) (fs:List YS_) (c:List YC),(∀ x∈ps,∀ f c,g x f=some c->c.length<=Ylg x)->alM g ps fs=some c->c.length<=sumBy Ylg ps
 | [],fs,c,_,e=>by simp only[alM,aa]at e;subst e;simp[sumBy]
 | x :: r,fs,c,h,e=>by
  simp only[alM]at e
  simp only[sumBy]
  split at e
  ·cases e
  ·rename_i c1 h1
   split at e
   ·cases e
   ·rename_i c2 h2
    simp only[aa]at e;subst e
    have:=Y1jn r _ _ (λy hy=>h y (ai _ hy)) h2
    have:=h x aj _ _ h1
    rw[aw];omega
theorem Y1eo (g:YS_->YS_->Option (List YC)):∀ (ps fs:List YS_) (n:Nat),ps.length<=n->alM g ps (fs.take n)=alM g ps fs
 | [],_,_,_=>rfl
 | x :: r,fs,n,h=>by
  cases n with
  | zero=>simp at h
  | succ n=>
   have h':r.length<=n:=by simpa using h
   cases fs with
   | nil=>simp[alM]
   | cons f fs=>simp only[alM,List.take_succ_cons,List.drop_succ_cons,cQ,cq,Y1eo g r fs n h']
theorem Y124 {M:YS_->YS_->Bool}{H:YS_->Bool}{A:List YS_->Int}{a:Int}{m:Nat}:∀ (l:List YS_) (i:Int) (fs:List YS_),(∀ k:Nat,k<l.length->i+k≠a/\i+k+1≠a)->mts M H A l i a m fs=alM (mt M H A) l fs
 | [],_,_,_=>by simp[mts,alM]
 | x :: r,i,fs,h=>by
  have h0:=h 0 sW
  have ih:=Y124 (M:=M) (H:=H) (A:=A) (a:=a) (m:=m) r (i+1) (fs.drop 1) (λk hk=>by
   have:=h (k+1) (by simp;omega)
   rw[show i+((k+1:Nat):Int)=i+1+(k:Int) by omega]at this;exact this)
  simp only[mts,alM]
  rw[ab (by simpa using h0.1),ab (by simpa using h0.2),ih]
  all_goals rfl
theorem Y1k3 {M:YS_->YS_->Bool}{H:YS_->Bool}{A:List YS_->Int}{a:Int}{m:Nat}{x y:YS_}{post:List YS_}:∀ (pre:List YS_) (i:Int) (fs:List YS_),i+pre.length+1=a ->
  mts M H A (pre++x :: y :: post) i a m fs=match alM (mt M H A) pre fs with|none=>none|some c1=>(match mtr (mt M H A x) ((fs.drop pre.length).take m) with|none=>none|some R=>(match alM (mt M H A) post (fs.drop (pre.length+m)) with|none=>none|some c2=>some (c1++(rp (nm H A x 1) R++c2))))
 | [],i,fs,h=>by
  have h1:¬ i=a:=by simp at h;omega
  have h2:i+1=a:=by simpa using h
  have e:=Y124 (M:=M) (H:=H) (A:=A) (a:=a) (m:=m) post (i+1+1) (fs.drop m) (λk _=>by omega)
  simp only[bq,mts,alM,bo,cQ,ck]
  rw[ab h1,ae h2,ae h2,e]
  all_goals rfl
 | z :: pre,i,fs,h=>by
  have hl:((z :: pre).length:Int)=pre.length+1:=by simp
  have h1:¬ i=a:=by omega
  have h2:¬ i+1=a:=by omega
  have ih:=Y1k3 (M:=M) (H:=H) (A:=A) (a:=a) (m:=m) (x:=x) (y:=y) (post:=post) pre (i+1) (fs.drop 1) oW
  have e1:(fs.drop 1).drop pre.length=fs.drop (z :: pre).length:=by rw[List.drop_drop,aD,Nat.add_comm]
  have e2:(fs.drop 1).drop (pre.length+m)=fs.drop ((z :: pre).length+m):=by rw[List.drop_drop,aD];congr 1;omega
  simp only[bE,mts,alM]
  rw[ab h1,ab h2,ih,e1,e2]
  cases mt M H A z (fs.g 0) with
  | none=>rfl
  | some c=>
   simp only
   cases alM (mt M H A) pre (fs.drop 1) with
   | none=>rfl
   | some c1=>
    simp only
    cases mtr (mt M H A x) ((fs.drop (z :: pre).length).take m) with
    | none=>rfl
    | some R=>
     simp only
     cases alM (mt M H A) post (fs.drop ((z :: pre).length+m)) with
     | none=>rfl
     | some c2=>simp[aH]
def gI (B:List YB) (Ls:List YS_):YS_->YS_->Option (List YC):=mt (mng B) (Yow Ls) atI
def nI (Ls:List YS_) (x:YS_):List YC:=nm (Yow Ls) atI x 1
def aT (p:YS_):Nat:=(atI p.Ia - 1).toNat
def xI (p:YS_):YS_:=p.Ia.g (aT p)
def mI2 (p f:YS_):Nat:=((f.Ia.length:Int) - ((p.Ia.length:Int) - 2)).toNat
def rI (B:List YB) (Ls:List YS_) (p f:YS_) (t:Nat):List (List YC):=(rws (gI B Ls (xI p)) f.Ia (aT p) t).1
def qI (B:List YB) (Ls:List YS_) (p f:YS_) (t:Nat):Bool:=(rws (gI B Ls (xI p)) f.Ia (aT p) t).2
section
variable {B:List YB}{Ls:List YS_}{p f:YS_}{o:List YC}
theorem Y1o5 {x y:YS_}{c:List YC}(h:gI B Ls x y=some c):c.length=(nI Ls x).length:=by
 rw[nI,Y1kb];exact Y1pm _ _ _ h
theorem Y18x (x:YS_):(nI Ls x).length<=Ylg x:=Y1j5 _ _ _ _
theorem Y1xw {ps fs:List YS_}{c:List YC}(h:alM (gI B Ls) ps fs=some c):c.length<=sumBy Ylg ps:=
 Y1jn ps fs c (λx _ f c e=>by have:=Y1o5 e;have:=Y18x (Ls:=Ls) x;omega) h
theorem Y1ki {ps fs:List YS_}:(alO o (alM (gI B Ls) ps fs)).length<=o.length+sumBy Ylg ps:=by
 cases h:alM (gI B Ls) ps fs with
 | none=>simp[alO]
 | some c=>have:=Y1xw h;simp only[alO,aw];omega
theorem Y146 (h0:p.Ka=0):gI B Ls p f=if Yyn (atI p.Ia) p.Ia f then mts (mng B) (Yow Ls) atI p.Ia 0 (atI p.Ia) (Yys (atI p.Ia) p.Ia.length f.Ia.length).toNat f.Ia else none:=by
 unfold gI;rw[Yrx,ab oW,ae h0]
theorem Y1wd (h0:p.Ka=0) (hf:¬ f.Ka=0):gI B Ls p f=none:=by
 rw[Y146 h0,ab (by simp[Yyn,hf])]
theorem Y1jv (h0:p.Ka=0) (hf:f.Ka=0) (ha:atI p.Ia<0):gI B Ls p f=if p.Ia.length=f.Ia.length then alM (gI B Ls) p.Ia f.Ia else none:=by
 have e:Yyn (atI p.Ia) p.Ia f=decide (f.Ia.length=p.Ia.length):=by
  simp only[Yyn,Yys,ab (show ¬ 0<=atI p.Ia by omega),hf];simp;omega
 rw[Y146 h0,e,Y124 _ _ _ (λk _=>by omega)]
 by_cases h:p.Ia.length=f.Ia.length
 ·rw[ae h,ae (by simp[h])];rfl
 ·rw[ab h,ab (by simp;omega)]
theorem Y21k (h0:p.Ka=0) (hf:f.Ka=0) (ha:0<=atI p.Ia) (hm:(f.Ia.length:Int) - ((p.Ia.length:Int) - 2)<0):gI B Ls p f=none:=by
 have e:Yyn (atI p.Ia) p.Ia f=false:=by
  simp only[Yyn,Yys,ae ha];simp;omega
 rw[Y146 h0,e];rfl
theorem Y18t (h0:p.Ka=0) (hf:f.Ka=0) (ha:1<=atI p.Ia) (hl:atI p.Ia<p.Ia.length) (hm:0<=(f.Ia.length:Int) - ((p.Ia.length:Int) - 2)) :
  gI B Ls p f=match alM (gI B Ls) (p.Ia.take (aT p)) (f.Ia.take (aT p)) with|none=>none|some c1=>if qI B Ls p f (mI2 p f) then (match alM (gI B Ls) (p.Ia.drop (aT p+2)) (f.Ia.drop (aT p+mI2 p f)) with|none=>none|some c2=>some (c1++(rp (nI Ls (xI p)) (rI B Ls p f (mI2 p f))++c2))) else none:=by
 have e:Yyn (atI p.Ia) p.Ia f:=by
  simp only[Yyn,Yys,ae (show 0<=atI p.Ia by omega),hf];simp;omega
 have ea:(aT p:Int)+1=atI p.Ia:=by unfold aT;omega
 have em:(Yys (atI p.Ia) p.Ia.length f.Ia.length).toNat=mI2 p f:=by unfold Yys mI2;rw[ae oW]
 have h1:aT p<p.Ia.length:=by omega
 have h2:aT p+1<p.Ia.length:=by omega
 have es:p.Ia=p.Ia.take (aT p)++(xI p :: p.Ia.g (aT p+1) :: p.Ia.drop (aT p+2)):=by
  have e1:p.Ia.drop (aT p)=xI p :: p.Ia.drop (aT p+1):=by
   rw[dr h1];simp[xI,h1]
  have e2:p.Ia.drop (aT p+1)=p.Ia.g (aT p+1) :: p.Ia.drop (aT p+2):=by
   rw[dr h2];simp[h2]
  rw[<- e2,<- e1,be]
 have el:(p.Ia.take (aT p)).length=aT p:=by rw[au,bT oW]
 have er:aT p+mI2 p f<=f.Ia.length:=by unfold mI2;omega
 rw[Y146 h0,e,ae rfl,em]
 have k:=Y1k3 (M:=mng B) (H:=Yow Ls) (A:=atI) (a:=atI p.Ia) (m:=mI2 p f) (x:=xI p) (y:=p.Ia.g (aT p+1)) (post:=p.Ia.drop (aT p+2)) (p.Ia.take (aT p)) 0 f.Ia (by rw[el];omega)
 rw[<- es,el]at k
 rw[k,Y1id (mI2 p f) er,Y1eo _ _ _ _ (by rw[el];exact aC _)]
 show (match alM (gI B Ls) _ _ with|none=>none|some c1=>_)=_
 cases alM (gI B Ls) (p.Ia.take (aT p)) f.Ia with
 | none=>rfl
 | some c1=>
  show (match (if qI B Ls p f (mI2 p f) then some (rI B Ls p f (mI2 p f)) else none) with|none=>none|some R=>_)=_
  by_cases hq:qI B Ls p f (mI2 p f)
  ·rw[ae hq];simp only[hq,ae];rfl
  ·rw[ab hq];simp only;rw[ab hq]
theorem Y219 (h0:p.Ka=0) (hf:f.Ka=0) (ha:1<=atI p.Ia) (hl:atI p.Ia<p.Ia.length) (hm:0<=(f.Ia.length:Int) - ((p.Ia.length:Int) - 2)) (h:(alM (gI B Ls) (p.Ia.take (aT p)) (f.Ia.take (aT p))).isSome=false):gI B Ls p f=none:=by
 rw[Y18t h0 hf ha hl hm]
 cases h2:alM (gI B Ls) (p.Ia.take (aT p)) (f.Ia.take (aT p)) with
 | none=>rfl
 | some c=>rw[h2]at h;cases h
theorem Y1wn {t:Nat}(h:qI B Ls p f t=false) {n:Nat}(hn:t<=n):qI B Ls p f n=false:=by
 have e:=Y167 h (n - t)
 rw[show t+(n - t)=n by omega]at e
 unfold qI at *;rw[e];exact h
theorem Y1rz (h0:p.Ka=0) (hf:f.Ka=0) (ha:1<=atI p.Ia) (hl:atI p.Ia<p.Ia.length) (hm:0<=(f.Ia.length:Int) - ((p.Ia.length:Int) - 2)) {t:Nat}(ht:t<=mI2 p f) (h:qI B Ls p f t=false):gI B Ls p f=none:=by
 rw[Y18t h0 hf ha hl hm,Y1wn h ht]
 cases alM (gI B Ls) (p.Ia.take (aT p)) (f.Ia.take (aT p))<;>rfl
theorem Y1wg (h0:p.Ka=0) (hf:f.Ka=0) (ha:1<=atI p.Ia) (hl:atI p.Ia<p.Ia.length) (hm:0<=(f.Ia.length:Int) - ((p.Ia.length:Int) - 2)) (h:(alM (gI B Ls) (p.Ia.take (aT p)) (f.Ia.take (aT p))).isSome) (hq:qI B Ls p f (mI2 p f)) :
  (gI B Ls p f).isSome=(alM (gI B Ls) (p.Ia.drop (aT p+2)) (f.Ia.drop (aT p+mI2 p f))).isSome/\smO p o (gI B Ls p f)=alO (alO o (alM (gI B Ls) (p.Ia.take (aT p)) (f.Ia.take (aT p)))++rp (nI Ls (xI p)) (rI B Ls p f (mI2 p f))) (alM (gI B Ls) (p.Ia.drop (aT p+2)) (f.Ia.drop (aT p+mI2 p f))):=by
 obtain⟨c,hc⟩:=Option.isSome_iff_exists.1 h
 rw[Y18t h0 hf ha hl hm,hc]
 simp only[hq,↓reduceIte]
 cases alM (gI B Ls) (p.Ia.drop (aT p+2)) (f.Ia.drop (aT p+mI2 p f)) with
 | none=>exact⟨rfl,by simp[smO,flM,h0,alO]⟩
 | some d=>exact⟨rfl,by simp[smO,alO,aH]⟩
theorem Y1t3 (h0:p.Ka=0) (hf:f.Ka=0) (ha:atI p.Ia<0) (hl:p.Ia.length=f.Ia.length):(gI B Ls p f).isSome=(alM (gI B Ls) p.Ia f.Ia).isSome/\smO p o (gI B Ls p f)=alO o (alM (gI B Ls) p.Ia f.Ia):=by
 rw[Y1jv h0 hf ha,ae hl]
 cases alM (gI B Ls) p.Ia f.Ia with
 | none=>exact⟨rfl,by simp[smO,flM,h0,alO]⟩
 | some d=>exact⟨rfl,rfl⟩
theorem Y1yc {t:Nat}{c:List YC}(h:qI B Ls p f t) (hc:gI B Ls (xI p) (f.Ia.g (aT p+t))=some c):rI B Ls p f (t+1)=rI B Ls p f t++[c]/\qI B Ls p f (t+1):=by
 unfold rI qI;rw[Y1fh h hc];exact⟨rfl,rfl⟩
theorem Y1x1 {t:Nat}(h:qI B Ls p f t) (hc:gI B Ls (xI p) (f.Ia.g (aT p+t))=none):qI B Ls p f (t+1)=false:=by
 unfold qI;rw[Y1gv h hc]
theorem Y1zt {t:Nat}(h:qI B Ls p f t):(rI B Ls p f t).length=t:=Y1k9 t h
def Ytd (B:List YB) (Ls:List YS_) (p f:YS_) (t:Nat):List YC:=(gI B Ls (xI p) (f.Ia.g (aT p+t))).getD []
theorem Yvm (hg:good Ls p) (h0:p.Ka=0):atI p.Ia=aS p.Ia/\(atI p.Ia = -1\/1<=atI p.Ia/\atI p.Ia<p.Ia.length):=by
 have hs:=Y10i hg h0
 have e1:aS p.Ia=atI p.Ia:=by rw[(Y1cy hs).1];exact ae hs
 refine⟨e1.symm,?_⟩
 rcases Y231 p.Ia with h|⟨a,h1,h2,h3⟩
 ·exact .inl (by rw[<- e1];exact h)
 ·exact .inr ⟨by omega,by omega⟩
theorem Yzm (ha:1<=atI p.Ia) (hl:atI p.Ia<p.Ia.length):(aT p:Int)=atI p.Ia - 1/\aT p+2<=p.Ia.length:=by
 unfold aT;omega
theorem Y1jf (hg:good Ls p) (h0:p.Ka=0) (ha:1<=atI p.Ia) (hl:atI p.Ia<p.Ia.length):good Ls (xI p)/\xI p∈p.Ia:=by
 have h:=Yzm ha hl
 have e:=Yvm hg h0
 exact⟨Yvn hg h0 (k:=aT p) oW oW,Yl6 oW⟩
theorem Y248 (hL:Ls.all Yot) (hg:good Ls p) (h0:p.Ka=0) (ha:1<=atI p.Ia) (hl:atI p.Ia<p.Ia.length):vrI Ls (xI p) 1 []=some (nI Ls (xI p)):=by
 have h:=Yzm ha hl
 have e:=Yvm hg h0
 have hL':=List.all_eq_true.1 hL
 have hx:=Y1jf hg h0 ha hl
 have h1:=(Y1t1 hg h0 (k:=aT p) oW oW).2
 have h2:=(Y1jd hL' (xI p) hx.1.1 1 [] sW).1
 have h3:=(Y1j2 (M:=λ_ _=>true) hL' (xI p) hx.1).2 1
 rw[h2]
 show vrS Ls (p.Ia.g (aT p)) 1 []=some (nm (Yow Ls) atI (xI p) 1)
 rw[h1];exact ci some h3
theorem Y15x {L:List YS_}{z:YS_}(h:z∈L):∃ k,k<L.length/\L.g k=z:=by
 obtain⟨k,hk,e⟩:=List.mem_iff_getElem.1 h
 exact⟨k,hk,by simp[hk,e]⟩
theorem Y1s8 (hg:good Ls p) (h0:p.Ka=0) (ha:1<=atI p.Ia) (hl:atI p.Ia<p.Ia.length) (hd:Ylw p<=40):∀ z∈p.Ia.take (aT p),good Ls z/\Ylw z<=40:=by
 intro z hz
 have h:=Yzm ha hl
 have e:=Yvm hg h0
 obtain⟨k,hk,rfl⟩:=Y15x hz
 rw[au]at hk
 have e2:(p.Ia.take (aT p)).g k=p.Ia.g k:=by
  simp only[ao,aV];rw[ae oW]
 rw[e2]
 have:=Yqh (t:=p) (k:=k) oW
 exact⟨Yvn hg h0 oW oW,by omega⟩
theorem Y1og (hg:good Ls p) (h0:p.Ka=0) (ha:1<=atI p.Ia) (hl:atI p.Ia<p.Ia.length) (hd:Ylw p<=40):∀ z∈p.Ia.drop (aT p+2),good Ls z/\Ylw z<=40:=by
 intro z hz
 have h:=Yzm ha hl
 have e:=Yvm hg h0
 obtain⟨k,hk,rfl⟩:=Y15x hz
 rw[ax]at hk
 have e2:(p.Ia.drop (aT p+2)).g k=p.Ia.g (aT p+2+k):=by
  simp only[ao,aX]
 rw[e2]
 have:=Yqh (t:=p) (k:=aT p+2+k) oW
 exact⟨Yvn hg h0 oW oW,by omega⟩
theorem Y1oa (hg:good Ls p) (h0:p.Ka=0) (ha:atI p.Ia<0) (hd:Ylw p<=40):∀ z∈p.Ia,good Ls z/\Ylw z<=40:=by
 intro z hz
 have e:=Yvm hg h0
 obtain⟨k,hk,rfl⟩:=Y15x hz
 have:=Yqh (t:=p) (k:=k) hk
 exact⟨Yvn hg h0 hk oW,by omega⟩
theorem Y12a {α:Type}(c:α->Nat) (L:List α) (i:Nat):sumBy c (L.drop i)<=sumBy c L:=by
 have e:sumBy c (L.take i++L.drop i)=sumBy c L:=by rw[be]
 rw[Yp0]at e;omega
theorem Y1eu (ha:1<=atI p.Ia) (hl:atI p.Ia<p.Ia.length):sumBy Ylg (p.Ia.take (aT p))+Ylg (xI p)+sumBy Ylg (p.Ia.drop (aT p+2))+1<=Ylg p/\sumBy wY (p.Ia.take (aT p))<=wY p/\wY (xI p)<=wY p/\sumBy wY (p.Ia.drop (aT p+2))<=wY p/\sumBy wY p.Ia<=wY p:=by
 have h:=Yzm ha hl
 have g1:=Ym7 p
 have g2:=Ymd p
 have g3:=Ymu wY p.Ia (aT p)
 have g4:=Y12a wY p.Ia (aT p+2)
 have g5:=Yls wY (Yl6 (L:=p.Ia) (k:=aT p) oW)
 have g6:=Ysh Ylg (L:=p.Ia) (k:=aT p) oW
 have g7:=Ysh Ylg (L:=p.Ia) (k:=aT p+1) oW
 have e:sumBy Ylg (p.Ia.take (aT p)++p.Ia.drop (aT p))=sumBy Ylg p.Ia:=by rw[be]
 rw[Yp0]at e
 refine⟨?_,by omega,?_,by omega,by omega⟩
 ·show _+Ylg (p.Ia.g (aT p))+_+1<=_
  rw[show aT p+1+1=aT p+2 by omega]at g7;omega
 ·show wY (p.Ia.g (aT p))<=_
  omega
def fI (p f:YS_):Bool:=decide (p.Ka=0)&&decide (f.Ka=0)&&decide (1<=atI p.Ia)&&decide (atI p.Ia<p.Ia.length)&&decide (0<=(f.Ia.length:Int) - ((p.Ia.length:Int) - 2))
theorem Yr8 (h:fI p f):p.Ka=0/\f.Ka=0/\1<=atI p.Ia/\atI p.Ia<p.Ia.length/\0<=(f.Ia.length:Int) - ((p.Ia.length:Int) - 2):=by
 simp only[fI,af,ak]at h;exact⟨h.1.1.1.1,h.1.1.1.2,h.1.1.2,h.1.2,h.2⟩
theorem Y249 (h0:p.Ka=0) (hf:f.Ka=0) (ha:0<=atI p.Ia) (hg:good Ls p) (hm:0<=(f.Ia.length:Int) - ((p.Ia.length:Int) - 2)):fI p f:=by
 have e:=(Yvm hg h0).2
 simp only[fI,af,ak];omega
theorem Ywf (h:fI p f):(aT p:Int)=atI p.Ia - 1/\aT p+2<=p.Ia.length/\(mI2 p f:Int)=(f.Ia.length:Int) - ((p.Ia.length:Int) - 2)/\aT p+mI2 p f<=f.Ia.length:=by
 obtain⟨_,_,ha,hl,hm⟩:=Yr8 h
 have:=Yzm ha hl
 unfold mI2;omega
theorem Y21a (h:fI p f) (hg:good Ls p):good Ls (xI p)/\xI p∈p.Ia/\Ylw (xI p)+1<=Ylw p/\Ylg (xI p)<=Ylg p/\wY (xI p)<=wY p:=by
 obtain⟨h0,_,ha,hl,_⟩:=Yr8 h
 have h1:=Y1jf hg h0 ha hl
 have h2:=Y1eu ha hl
 have h3:=Yqh (t:=p) (k:=aT p) (by have:=Yzm ha hl;omega)
 refine⟨h1.1,h1.2,?_,by omega,by omega⟩
 show Ylw (p.Ia.g (aT p))+1<=_
 omega
theorem Y211 (h:fI p f) (hn:(alM (gI B Ls) (p.Ia.take (aT p)) (f.Ia.take (aT p))).isSome=false):gI B Ls p f=none:=by
 obtain⟨h0,hf,ha,hl,hm⟩:=Yr8 h
 exact Y219 h0 hf ha hl hm hn
theorem Y1t2 (h:fI p f) {t:Nat}(ht:t<=mI2 p f) (hq:qI B Ls p f t=false):gI B Ls p f=none:=by
 obtain⟨h0,hf,ha,hl,hm⟩:=Yr8 h
 exact Y1rz h0 hf ha hl hm ht hq
theorem Y1wu (h:fI p f) (hn:(alM (gI B Ls) (p.Ia.take (aT p)) (f.Ia.take (aT p))).isSome) (hq:qI B Ls p f (mI2 p f)) :
  (gI B Ls p f).isSome=(alM (gI B Ls) (p.Ia.drop (aT p+2)) (f.Ia.drop (aT p+mI2 p f))).isSome/\smO p o (gI B Ls p f)=alO (alO o (alM (gI B Ls) (p.Ia.take (aT p)) (f.Ia.take (aT p)))++rp (nI Ls (xI p)) (rI B Ls p f (mI2 p f))) (alM (gI B Ls) (p.Ia.drop (aT p+2)) (f.Ia.drop (aT p+mI2 p f))):=by
 obtain⟨h0,hf,ha,hl,hm⟩:=Yr8 h
 exact Y1wg h0 hf ha hl hm hn hq
theorem Y206 (h0:p.Ka=0) (hf:f.Ka=0) (ha:0<=atI p.Ia) (hm:(f.Ia.length:Int) - ((p.Ia.length:Int) - 2)<0):gI B Ls p f=none:=Y21k h0 hf ha hm
theorem Y23j (hL:Ls.all Yot) (hg:good Ls p) (h:fI p f):vrI Ls (xI p) 1 []=some (nI Ls (xI p)):=by
 obtain⟨h0,_,ha,hl,_⟩:=Yr8 h
 exact Y248 hL hg h0 ha hl
theorem Y1sm (h0:p.Ka=0) (hf:f.Ka=0) (ha:atI p.Ia<0) (hl:¬ p.Ia.length=f.Ia.length):gI B Ls p f=none:=by rw[Y1jv h0 hf ha,ab hl]
theorem Y1sf {t:Nat}(h:(gI B Ls (xI p) (f.Ia.g (aT p+t))).isSome):(Ytd B Ls p f t).length=(nI Ls (xI p)).length:=by
 obtain⟨c,hc⟩:=Option.isSome_iff_exists.1 h
 unfold Ytd;rw[hc];exact Y1o5 hc
theorem Y1kd {t:Nat}(hq:qI B Ls p f t) (h:(gI B Ls (xI p) (f.Ia.g (aT p+t))).isSome):rI B Ls p f t++[Ytd B Ls p f t]=rI B Ls p f (t+1)/\qI B Ls p f (t+1):=by
 obtain⟨c,hc⟩:=Option.isSome_iff_exists.1 h
 have e:=Y1yc hq hc
 have e2:Ytd B Ls p f t=c:=by unfold Ytd;rw[hc];rfl
 rw[e2];exact⟨e.1.symm,e.2⟩
theorem Y1yh (hk:p.Ka=1) (h:Ynb p):gI B Ls p f=some []/\smO p o (gI B Ls p f)=o:=by
 have e:gI B Ls p f=some []:=by unfold gI;rw[Yrx,ae hk,ae h]
 rw[e];exact⟨rfl,bv o⟩
theorem Y20f (hk:p.Ka=1) (h:Ynb p=false) (h2:Yow Ls p):(gI B Ls p f).isSome=(decide (f.Ka=1)&&mng B p f)/\smO p o (gI B Ls p f)=o:=by
 have e:gI B Ls p f=if f.Ka=1/\mng B p f then some [] else none:=by unfold gI;rw[Yrx,ae hk,ab (by simp[h]),ae h2]
 rw[e]
 by_cases hc:f.Ka=1/\mng B p f
 ·rw[ae hc];exact⟨by simp[hc.1,hc.2],bv o⟩
 ·rw[ab hc]
  refine⟨?_,by unfold smO flM;simp only;rw[ab oW]⟩
  cases h3:decide (f.Ka=1)<;>cases h4:mng B p f<;>simp_all
theorem Y1z9 (hk:p.Ka=1) (h:Ynb p=false) (h2:Yow Ls p=false):gI B Ls p f=some [Y10m p f]/\smO p o (gI B Ls p f)=o++[Y10m p f]:=by
 have e:gI B Ls p f=some [Y10m p f]:=by unfold gI;rw[Yrx,ae hk,ab (by simp[h]),ab (by simp[h2])]
 rw[e];exact⟨rfl,rfl⟩
theorem Y1de (hk:¬ p.Ka=1) (h0:¬ p.Ka=0):(gI B Ls p f).isSome=(decide (f.Ka=p.Ka)&&decide (f.Na=p.Na)&&decide (f.Ta=p.Ta))/\smO p o (gI B Ls p f)=o:=by
 have e:gI B Ls p f=if f.Ka=p.Ka/\f.Na=p.Na/\f.Ta=p.Ta then some [] else none:=by unfold gI;rw[Yrx,ab hk,ab h0]
 rw[e]
 by_cases hc:f.Ka=p.Ka/\f.Na=p.Na/\f.Ta=p.Ta
 ·rw[ae hc];exact⟨by simp[hc.1,hc.2.1,hc.2.2],bv o⟩
 ·rw[ab hc]
  refine⟨?_,by unfold smO flM;simp only;rw[ab h0]⟩
  symm;simp only[Option.isSome];rw[Bool.eq_false_iff];simp only[ne_eq,af,ak];rintro⟨⟨a,b⟩,c⟩;exact hc ⟨a,b,c⟩
end
theorem zw {p:Prop}(h:p:=by first|with_reducible rfl|exact b9|omega|with_reducible assumption|with_reducible exact dT ‹_› | with_reducible exact dF ‹_› | ((first|refine Yqu ?_|refine Yyi ?_ rfl);(first|omega|(simp only[std];omega)|grind))):p:=h
theorem Y1uw {c:List YC}{u:Nat}(h:u<c.length):((c.take u).map Yzz++(c.drop u).map Yl7)[u]? = some (Ym3 (c.g u)):=by
 rw[<- Row.eq (C:=Yl7) (F:=Ym3)];exact Y1on h
theorem Y1uo {c:List YC}{u:Nat}(h:u<c.length):((c.take u).map Yzz++(c.drop u).map Yl7).set u (Yzz (c.g u))=(c.take (u+1)).map Yzz++(c.drop (u+1)).map Yl7:=Y1lr h
theorem Y1xz {c:List YC}{u:Nat}(h:u<c.length):u<(c.take u).length+(c.drop u).length:=by
 rw[au,ax];omega
theorem Y1rf (L:List YC) (u:Nat) (x:YC) (y:List Cell) (h:Ym3 x=y):(L.map Yl7).set u y=(L.set u x).map Yl7:=by
 subst h;rw[List.map_set,Row.eq (C:=Yl7) (F:=Ym3)]
theorem Y1rv {α:Type}(l:List α) (z v:α):(l++[z]).set l.length v=l++[v]:=by
 rw[List.set_append_right _ _ (aC _)];simp
theorem Y1ru (E:List YC) (z:List Cell) (x:YC):(E.map Yl7++[z]).set E.length (Ym3 x)=(E++[x]).map Yl7:=by
 have:=Y1rv (E.map Yl7) z (Ym3 x)
 rw[aO]at this
 rw[this];exact Yl5 (C:=Yl7) E x
theorem Y1r3 {V:List YC}{R:List (List YC)}{c:List YC}{u:Nat}(z:List Cell) (h:u<V.length) :
  ((Yny V R c u).map Yl7).set u [cI ((Yny V R c u).g u).name.Ka,cI ((Yny V R c u).g u).name.Na,cS ((Yny V R c u).g u).name.Ta,
   Cell.list (List.map Yl4 ((Yny V R c u).g u).name.Sa),Cell.list (List.map Yl1 ((Yny V R c u).g u).name.Ia),cI ((Yny V R c u).g u).depth,
   cI ((Yny V R c u).g u).form.Ka,cI ((Yny V R c u).g u).form.Na,cS ((Yny V R c u).g u).form.Ta,
   Cell.list (List.map Yl4 ((Yny V R c u).g u).form.Sa),Cell.list (List.map Yl1 ((Yny V R c u).g u).form.Ia),
   Cell.list ((List.map Yl7 ((Yny V R c u).g u).each++[z]).set ((Yny V R c u).g u).each.length (Ym3 (c.g u)))]=(Yny V R c (u+1)).map Yl7:=by
 rw[Y1ru]
 have e:=Y1rf (Yny V R c u) u ⟨((Yny V R c u).g u).name,((Yny V R c u).g u).depth,((Yny V R c u).g u).form,((Yny V R c u).g u).each++[c.g u]⟩ _ rfl
 refine Eq.trans e ?_
 rw[Y1el h,Y1pn h]
theorem Y1t8 (H:YS_->Bool) (A:List YS_->Int):∀ (p:YS_) (d:Int),∀ y∈nm H A p d,y.each=[]:=by
 intro p
 refine YS_.ind (P:=λp=>∀ d,∀ y∈nm H A p d,y.each=[]) (λp ih d y hy => ?_) p
 rw[Yrw]at hy
 split at hy
 ·split at hy
  ·cases hy
  ·rw[an]at hy;subst hy;rfl
 ·split at hy
  ·have go:∀ (l:List YS_) (i a e:Int),(∀ x∈l,∀ d,∀ y∈nm H A x d,y.each=[])->∀ y∈nms H A l i a e,y.each=[]:=by
    intro l
    induction l with
    | nil=>intro i a e _ y hy;simp[nms]at hy
    | cons x r ihr=>
     intro i a e hl y hy
     rw[nms]at hy
     rcases List.mem_append.1 hy with hy|hy
     ·revert hy;repeat' split
      all_goals (intro hy;first|cases hy|exact hl x aj _ y hy)
     ·exact ihr _ _ _ (λz hz=>hl z (ai _ hz)) y hy
   exact go p.Ia _ _ _ ih y hy
  ·cases hy
theorem Y1rn {V:List YC}{R:List (List YC)}{c:List YC}{u:Nat}(hV:∀ y∈V,y.each=[]) (h:u<V.length):((Yny V R c u).g u).each.length=R.length:=by
 rw[Y1el h,Y1gl h]
 simp only[aw,aO]
 rw[hV _ (Yl6 h)];simp
section
variable {B:List YB}{Ls:List YS_}{p f:YS_}{t u:Nat}
theorem Y1oi (hq:qI B Ls p f t) (h:(gI B Ls (xI p) (f.Ia.g (aT p+t))).isSome) (hc:(nI Ls (xI p)).length<=u) :
  (Yny (nI Ls (xI p)) (rI B Ls p f t) (Ytd B Ls p f t) u).map Yl7=(rp (nI Ls (xI p)) (rI B Ls p f (t+1))).map Yl7:=by
 rw[Y1rl hc,(Y1kd hq h).1]
theorem Y1om (hu:u<(nI Ls (xI p)).length):((Yny (nI Ls (xI p)) (rI B Ls p f t) (Ytd B Ls p f t) u).g u).each.length=(rI B Ls p f t).length:=
 Y1rn (Y1t8 _ _ _ _) hu
end
section
variable {B:List YB}{Ls:List YS_}{p f:YS_}{o:List YC}{s t u k1:Nat}
theorem Y1wh {x:YS_}(h:s<x.Ia.length):wY (x.Ia.g s)<=wY x/\Ylg (x.Ia.g s)<=Ylg x/\Ylw (x.Ia.g s)<=Ylw x/\x.Ia.length<=wY x/\x.Ia.g s∈x.Ia:=by
 have h1:=Yth h
 have h2:=Yqh h
 have h3:=Ymd x
 exact⟨h1.2,by omega,by omega,by omega,Yl6 h⟩
theorem Y239 (x:YS_):x.Ia.length<=wY x:=by have:=Ymd x;omega
end
section
variable {B:List YB}{Ls:List YS_}{p f:YS_}
theorem Y1ya {a b:ByteArray}:b=a ↔ a.data.toList=b.data.toList:=
 ⟨λh=>by rw[h],λh=>by cases a;cases b;congr 1;exact(Array.toList_inj.1 h).symm⟩
end
section
variable {B:List YB}{Ls:List YS_}{p f:YS_}{o:List YC}{k:Nat}
theorem Y1nk {b:Bool}(h:(!b)=false):b:=by simpa using h
theorem Y1vl {b:Bool}(h:(!b)):b=false:=by simpa using h
theorem Y1op (p:YS_):p.Ia.g (atI p.Ia - 1).toNat=xI p:=rfl
theorem Y1kf (h:fI p f):(List.take (atI p.Ia - 1).toNat p.Ia).length=aT p:=by
 have:=Ywf h
 have e:(atI p.Ia - 1).toNat=aT p:=rfl
 rw[e,au];omega
theorem Y1t6 (h:fI p f):(atI p.Ia+1).toNat=aT p+2:=by
 have:=Ywf h;omega
theorem Yvv {α:Type}(L:List α) (n:Nat):List.take (L.length - n) (List.drop n L)=List.drop n L:=by
 apply ar;rw[ax];exact aC _
theorem Y1tb (h:fI p f):((List.take (p.Ia.length - (atI p.Ia+1).toNat) (List.drop (atI p.Ia+1).toNat p.Ia)).length:Int)=p.Ia.length - (aT p+2):=by
 have:=Ywf h
 rw[Yvv,ax];omega
theorem Y1m5 (h:fI p f) (hk:k<mI2 p f) (hq:qI B Ls p f k) (hn:(gI B Ls (xI p) (f.Ia.g (aT p+k))).isSome=false):(gI B Ls p f).isSome=false:=by
 cases e:gI B Ls (xI p) (f.Ia.g (aT p+k)) with
 | none=>rw[Y1t2 h hk (Y1x1 hq e)];rfl
 | some c=>rw[e]at hn;cases hn
theorem Y1p8:(smO (xI p) [] (gI B Ls (xI p) (f.Ia.g (aT p+k)))).map Yl7=((Ytd B Ls p f k).take 0).map Yzz++(Ytd B Ls p f k).map Yl7:=by
 rw[Y1j8];rfl
theorem Y22k (h:k=mI2 p f):(rp (nI Ls (xI p)) (rI B Ls p f k)).map Yl7=(rp (nI Ls (xI p)) (rI B Ls p f (mI2 p f))).map Yl7:=by rw[h]
theorem Y21u (h:k=mI2 p f) (hq:qI B Ls p f k):qI B Ls p f (mI2 p f):=by rw[<- h];exact hq
end
section
variable {B:List YB}{Ls:List YS_}{p f:YS_}{o:List YC}
theorem Y1ws (p:YS_):p.Ia.g (aT p)=xI p:=rfl
theorem Y20m (p:YS_):(atI p.Ia - 1).toNat=aT p:=rfl
theorem Y1p7 (hg:good Ls p) (h0:p.Ka=0) (ha:¬ atI p.Ia<0):((f.Ia.length:Int) - ((List.take (atI p.Ia - 1).toNat p.Ia).length:Nat) - ((List.take (p.Ia.length - (atI p.Ia+1).toNat) (List.drop (atI p.Ia+1).toNat p.Ia)).length:Nat))=(f.Ia.length:Int) - ((p.Ia.length:Int) - 2):=by
 have h:=(Yvm hg h0).2
 rw[Yvv,ax,au];omega
theorem Y23h (hg:good Ls p) (h0:¬¬p.Ka=0) (hf:¬¬f.Ka=0) (ha:¬ atI p.Ia<0) (hc:¬ ((f.Ia.length:Int) - ((List.take (atI p.Ia - 1).toNat p.Ia).length:Nat) - ((List.take (p.Ia.length - (atI p.Ia+1).toNat) (List.drop (atI p.Ia+1).toNat p.Ia)).length:Nat))<0):fI p f:=by
 have h0:=Decidable.not_not.1 h0
 have:=Y1p7 (f:=f) hg h0 ha
 exact Y249 h0 (Decidable.not_not.1 hf) oW hg oW
theorem Y1pt (hg:good Ls p) (h0:¬¬p.Ka=0) (hf:¬¬f.Ka=0) (ha:¬ atI p.Ia<0) (hc:((f.Ia.length:Int) - ((List.take (atI p.Ia - 1).toNat p.Ia).length:Nat) - ((List.take (p.Ia.length - (atI p.Ia+1).toNat) (List.drop (atI p.Ia+1).toNat p.Ia)).length:Nat))<0):[]=(smO p o (gI B Ls p f)).map Yl7/\false=(gI B Ls p f).isSome:=by
 have h0:=Decidable.not_not.1 h0
 have:=Y1p7 (f:=f) hg h0 ha
 rw[Y206 h0 (Decidable.not_not.1 hf) oW oW,Yx4 h0];exact⟨rfl,rfl⟩
theorem Y1kp (h0:¬¬p.Ka=0) (hf:¬f.Ka=0):[]=(smO p o (gI B Ls p f)).map Yl7/\false=(gI B Ls p f).isSome:=by
 have h0:=Decidable.not_not.1 h0
 rw[Y1wd h0 hf,Yx4 h0];exact⟨rfl,rfl⟩
theorem Y1jy (h0:¬¬p.Ka=0) (hf:¬¬f.Ka=0) (ha:atI p.Ia<0) (hl:¬ (p.Ia.length:Int)=(f.Ia.length:Int)):[]=(smO p o (gI B Ls p f)).map Yl7/\false=(gI B Ls p f).isSome:=by
 have h0:=Decidable.not_not.1 h0
 rw[Y1sm h0 (Decidable.not_not.1 hf) ha oW,Yx4 h0];exact⟨rfl,rfl⟩
theorem Y1qw (hf:fI p f) (h:(!(alM (gI B Ls) (List.take (aT p) p.Ia) (List.take (aT p) f.Ia)).isSome)):[]=(smO p o (gI B Ls p f)).map Yl7/\false=(gI B Ls p f).isSome:=by
 rw[Y211 hf (Y1vl h),Yx4 (Yr8 hf).1];exact⟨rfl,rfl⟩
theorem Y1jm (h0:¬¬p.Ka=0) (h:(gI B Ls p f).isSome=false):[]=(smO p o (gI B Ls p f)).map Yl7/\false=(gI B Ls p f).isSome:=by
 have h0:=Decidable.not_not.1 h0
 cases e:gI B Ls p f with
 | none=>rw[Yx4 h0];exact⟨rfl,rfl⟩
 | some c=>rw[e]at h;cases h
theorem Y1pw (hf:fI p f) (h:(!(alM (gI B Ls) (List.take (aT p) p.Ia) (List.take (aT p) f.Ia)).isSome)=false) (hq:qI B Ls p f (mI2 p f)) :
  (alO (alO o (alM (gI B Ls) (List.take (aT p) p.Ia) (List.take (aT p) f.Ia))++rp (nI Ls (xI p)) (rI B Ls p f (mI2 p f))) (alM (gI B Ls) (List.drop (aT p+2) p.Ia) (List.drop (aT p+mI2 p f) f.Ia))).map Yl7=(smO p o (gI B Ls p f)).map Yl7 /\
  (alM (gI B Ls) (List.drop (aT p+2) p.Ia) (List.drop (aT p+mI2 p f) f.Ia)).isSome=(gI B Ls p f).isSome:=by
 have h1:=@Y1wu B Ls p f o hf (Y1nk h) hq
 rw[h1.2];exact⟨rfl,h1.1.symm⟩
theorem Y1uc (hl:Ls.all Yot) (hg:good Ls p) (hf:fI p f):((vrI Ls (xI p) 1 []).getD []).map Yl7=(rp (nI Ls (xI p)) (rI B Ls p f 0)).map Yl7:=by
 rw[Y23j hl hg hf]
 have e:rI B Ls p f 0=[]:=rfl
 rw[e,Y20v];rfl
theorem Y1rq (hf:fI p f):(List.take (aT p) p.Ia).length=aT p:=Y1kf hf
theorem Y1zi (hf:fI p f):((f.Ia.length:Int) - (aT p:Nat) - ((List.drop (aT p+2) p.Ia).length:Nat))=(mI2 p f:Nat):=by
 have:=Ywf hf
 rw[ax];omega
theorem Y1y4 (a b:Nat):((a:Int)+(b:Int)).toNat=a+b:=by omega
theorem Y200 (f:YS_) (n:Nat):sumBy wY (List.take n f.Ia)<=wY f/\sumBy wY (List.drop n f.Ia)<=wY f:=by
 have h1:=Ymu wY f.Ia n
 have h2:=Y12a wY f.Ia n
 have h3:=Ymd f
 omega
theorem Y23y (h1:¬p.Ka=1) (h0:¬p.Ka=0) (hk:f.Ka=p.Ka) (hn:f.Na=p.Na):decide (f.Ta.data.toList=p.Ta.data.toList)=(gI B Ls p f).isSome:=by
 rw[(Y1de (o:=[]) h1 h0).1]
 have:(f.Ta=p.Ta) ↔ f.Ta.data.toList=p.Ta.data.toList:=by rw[Y1ya];exact eq_comm
 simp[hk,hn,this]
end
section
abbrev Z4n (B:List YB) (Ls:List YS_) (ps:List YS_) (fs:List YS_) (o:List YC):Ct:=⟨166,[.Ai o],[.agg [An B,Am Ls],Af ps,Af fs,.r 0],[.dead,.Ai (alO o (alM (gI B Ls) ps fs))],.tup [.r 1,lb (alM (gI B Ls) ps fs).isSome]⟩
abbrev Zp (B:List YB) (Ls:List YS_) (p:YS_) (f:YS_) (o:List YC):Ct:=⟨120,[.Ai o],[.agg [An B,Am Ls],Yln p,Yln f,.r 0],[.dead,.Ai (smO p o (gI B Ls p f))],.tup [.r 1,lb (gI B Ls p f).isSome]⟩
def Z7i (B:List YB) (Ls:List YS_) (ps:List YS_) (fs:List YS_) (o:List YC):Lp Nat:=let v1:=alM (gI B Ls) ps fs;.mk 37 1 (λx=>[(1,Af ps),(2,Af fs),(3,.r 1),(4,.y 2),(14,li (ps.map Yl1).length),(15,hs x 0)]) (λx=>[.dead,ho x 1,.box [An B,Am Ls]]) (λk=>[.s (li k),.o (.Ai (alO o (alM (gI B Ls) (ps.take k) fs)))]) (λk=>k<=ps.length/\ps.length<=9223372036854775807/\(alM (gI B Ls) (ps.take k) fs).isSome) (λk=>ps.length - k) [.mk (v1.isSome) (.exit 0) (λx=>[(3,.r 1)]) (λx=>[.dead,ho x 0]) [.o (.Ai (alO o v1))],.mk (v1.isSome=false) .ret (λx=>[(8,hs x 0),(9,hs x 1)]) (λx=>[.dead]) [.s (.one (.val (.y))),.s (lb false)]]
theorem Ziq (B:List YB) (Ls:List YS_) (ps:List YS_) (fs:List YS_) (o:List YC) (h:B.length<=1000000001/\sumBy wB B<=1000000001/\sumBy wY ps<=900000000/\sumBy wY fs<=1000000000/\o.length+sumBy Ylg ps<=2147483647/\ps.length<=fs.length/\ps.length<=1000000000) (hd:∀ (z:YS_),z∈ps->good Ls z/\Ylw z<=40) (hl:Ls.all Yot) (ih:∀ (z:YS_),z∈ps->∀ (B:List YB) (Ls:List YS_) (f:YS_) (o:List YC),B.length<=1000000001/\sumBy wB B<=1000000001/\wY z<=900000000/\wY f<=1000000000/\o.length+Ylg z<=2147483647/\Ylw z<=40->Ls.all Yot->good Ls z->OK (Zp B Ls z f o)):Lp.Sem prog (Yli f166 0) (Z7i B Ls ps fs o):=Ylp (λk=>let v1:=alO o (alM (gI B Ls) (ps.take k) fs);let v2:=ps.g k;let v3:=fs.g k;.i ((k:Int)<(ps.map Yl1).length) (.w (.draw [(10,[1])]) (.x (k:Int) (ps.map Yl1) (Yl8 v2) (.x (k:Int) (fs.map Yl1) (Yl8 v3) (.d [.rd,.rd,.rd,.own true 12] (Zp B Ls v2 v3 v1) (.b (!(gI B Ls v2 v3).isSome) (.o 1 [0] [.s (.one (.val (.y))),.s (lb false)]) (.r ((k:Int)+1) (.g [0,10,2] (k+1) [.s (li ((k:Int)+1)),.o (.Ai (smO v2 v1 (gI B Ls v2 v3)))]))))))) (.o 0 [0,1] [.o (.Ai v1)])) (by
 intro k h;try dsimp only[Yl3,Yle,Z7i]at h|-
 have g1:=@Y24j (gI B Ls) ps fs o k
 have g2:=@Y1x5 (gI B Ls) ps fs (k+1)
 have g3:=@Y20p (gI B Ls) ps fs k
 have g4:=@Y1ki B Ls o (ps.take k) fs
 have g5:=hd (ps.g k)
 have g6:=@Yls _ wY ps (ps.g k)
 have g7:=@Yls _ wY fs (fs.g k)
 have g8:=@Yom _ _ Ylg ps k
 have g9:=Ymu Ylg ps (k+1)
 exact z01)
theorem Zf7 (B:List YB) (Ls:List YS_) (ps fs:List YS_) (o:List YC) (h:B.length<=1000000001/\sumBy wB B<=1000000001/\sumBy wY ps<=900000000/\sumBy wY fs<=1000000000/\o.length+sumBy Ylg ps<=2147483647/\ps.length<=fs.length/\ps.length<=1000000000) (hd:∀ z∈ps,good Ls z/\Ylw z<=40) (hl:Ls.all Yot) (ih:∀ z∈ps,∀ (B:List YB) (Ls:List YS_) (f:YS_) (o:List YC) (h:B.length<=1000000001/\sumBy wB B<=1000000001/\wY z<=900000000/\wY f<=1000000000/\o.length+Ylg z<=2147483647/\Ylw z<=40) (hl:Ls.all Yot) (hg:good Ls z),Zp B Ls z f o):Z4n B Ls ps fs o:=Ylh call166 func166 (.z Yl1 ps (.w (.m 0) (.l (Z7i B Ls ps fs o) (Ziq B Ls ps fs o h hd hl ih) [0,2,1] [.s (li 0),.o (.Ai o)] 0 (.t (.f [1] [.dead,.Ai (alO o (alM (gI B Ls) ps fs))] (.tup [.r 1,lb true])) (.t (.w (.g (.nilreg 8 true 12)) (.f [1] [.dead,.y 12 []] (.tup [.r 1,lb false]))) .q))))) (by
 dsimp only[Yl3,Z4n,Yle,Z7i]
 have g1:=@Y1ys (gI B Ls) ps fs o
 have g2:(alM (gI B Ls) ps fs).isSome=false->alO o (alM (gI B Ls) ps fs)=[]:=λh=>by cases e:alM (gI B Ls) ps fs<;>simp_all[alO]
 exact z02)
def Z57 (B:List YB) (Ls:List YS_) (p:YS_) (f:YS_) (o:List YC) (k:Nat):Lp Nat:=let v8:=(atI p.Ia - 1).toNat - 0;let v7:=p.Ia.map Yl1;let v10:=((List.take v8 (v7.drop 0)).length:Int);let v9:=atI p.Ia+1;let v1:=(13,li (((f.Ia.map Yl1).length:Int) - v10 - ((List.take (v7.length - v9.toNat) (List.drop v9.toNat v7)).length:Int)));let v2:=(alO o (alM (gI B Ls) (List.take v8 (p.Ia.drop 0)) (List.take (v10.toNat - 0) (f.Ia.drop 0)))).map Yl7;let v3:=(12,ll (List.take (v7.length - v9.toNat) (List.drop v9.toNat v7)));let v4:=(11,ll (List.take v8 (v7.drop 0)));let v5:=nI Ls (xI p);let v6:=[An B,Am Ls];.mk 217 1 (λx=>[(3,.r 1),(4,.y 2),(5,.y 3),(6,.y 4),(10,li (atI p.Ia)),v4,v3,v1,(15,.r 5),(17,li k),(18,.r 6),(181,li (((rp v5 (rI B Ls p f k)).map Yl7).length:Int)),(182,hs x 0)]) (λx=>[.dead,.y 12 v2,.box v6,.box (vals (Yl8 p)),.box (vals (Yl8 f)),ho x 1,ho x 2]) (λk1=>[.s (li (k1:Int)),.o (.Ai (Yny v5 (rI B Ls p f k) (Ytd B Ls p f k) k1)),.o (.y 12 ((List.take k1 (Ytd B Ls p f k)).map Yzz++(List.drop k1 (Ytd B Ls p f k)).map Yl7))]) (λk1=>k1<=v5.length/\v5.length<=9223372036854775807/\k<mI2 p f/\fI p f/\qI B Ls p f k/\(gI B Ls (xI p) (f.Ia.g (aT p+k))).isSome/\(rI B Ls p f k).length<=1000000000) (λk1=>v5.length - k1) [.mk True (.exit 3) (λx=>[(3,.r 1),(4,.y 2),(5,.y 3),(6,.y 4),(10,li (atI p.Ia)),v4,v3,v1,(15,.r 5),(17,li k)]) (λx=>[.dead,.y 12 v2,.box v6,.box (vals (Yl8 p)),.box (vals (Yl8 f)),ho x 0]) [.o (.Ai (rp v5 (rI B Ls p f (k+1))))]]
def Z2y (B:List YB) (Ls:List YS_) (p:YS_) (f:YS_) (o:List YC):Lp Nat:=let v7:=(atI p.Ia - 1).toNat - 0;let v6:=p.Ia.map Yl1;let v9:=((List.take v7 (v6.drop 0)).length:Int);let v8:=atI p.Ia+1;let v1:=(13,li (((f.Ia.map Yl1).length:Int) - v9 - ((List.take (v6.length - v8.toNat) (List.drop v8.toNat v6)).length:Int)));let v2:=(alO o (alM (gI B Ls) (List.take v7 (p.Ia.drop 0)) (List.take (v9.toNat - 0) (f.Ia.drop 0)))).map Yl7;let v3:=(12,ll (List.take (v6.length - v8.toNat) (List.drop v8.toNat v6)));let v4:=(11,ll (List.take v7 (v6.drop 0)));let v5:=[An B,Am Ls];.mk 217 1 (λx=>[(3,.r 1),(4,.y 2),(5,.y 3),(6,.y 4),(10,li (atI p.Ia)),v4,v3,v1,(15,.r 5),(17,hs x 0)]) (λx=>[.dead,.y 12 v2,.box v5,.box (vals (Yl8 p)),.box (vals (Yl8 f)),ho x 1]) (λk=>[.s (li k),.o (.Ai (rp (nI Ls (xI p)) (rI B Ls p f k)))]) (λk=>k<=mI2 p f/\fI p f/\qI B Ls p f k) (λk=>mI2 p f - k) [.mk (qI B Ls p f (mI2 p f)) (.exit 1) (λx=>[(3,.r 1),(4,.y 2),(6,.y 3),v4,v3,v1,(15,.r 4)]) (λx=>[.dead,.y 12 v2,.box v5,.box (vals (Yl8 f)),ho x 0]) [.o (.Ai (rp (nI Ls (xI p)) (rI B Ls p f (mI2 p f))))],.mk ((gI B Ls p f).isSome=false) .ret (λx=>[(8,hs x 0),(9,hs x 1)]) (λx=>[.dead]) [.s (.one (.val (.y))),.s (lb false)]]
theorem Zg6 (B:List YB) (Ls:List YS_) (p:YS_) (f:YS_) (o:List YC) (h:B.length<=1000000001/\sumBy wB B<=1000000001/\wY p<=900000000/\wY f<=1000000000/\o.length+Ylg p<=2147483647/\Ylw p<=40) (hl:Ls.all Yot) (hg:good Ls p) (ih:∀ (z:YS_),z∈p.Ia->∀ (B:List YB) (Ls:List YS_) (f:YS_) (o:List YC),B.length<=1000000001/\sumBy wB B<=1000000001/\wY z<=900000000/\wY f<=1000000000/\o.length+Ylg z<=2147483647/\Ylw z<=40->Ls.all Yot->good Ls z->OK (Zp B Ls z f o)) (k:Nat):Lp.Sem prog (Yli f120 1) (Z57 B Ls p f o k):=Ylp (λk1=>let v16:=Ytd B Ls p f k;let v9:=Yny (nI Ls (xI p)) (rI B Ls p f k) v16 k1;let v1:=v9.g (k1:Int).toNat;let v2:=[cI 0,cI 0,cS (mkS []),.list [],.list [],cI 0,cI 0,cI 0,cS (mkS []),.list [],.list [],.list []];let v3:=v9.map Yl7;let v4:=v16.g k1;let v5:=(v16.take k1).map Yzz++(v16.drop k1).map Yl7;let v6:=[(k1:Int).toNat,(k1:Int).toNat,(k1:Int).toNat,(k1:Int).toNat,(k1:Int).toNat];let v17:=v1.name.Ia.map Yl1;let v18:=v1.form.Ia.map Yl1;let v7:=[cI v1.name.Ka,cI v1.name.Na,cS v1.name.Ta,.Ao v1.name.Sa,.list v17,cI v1.depth,cI v1.form.Ka,cI v1.form.Na,cS v1.form.Ta,.Ao v1.form.Sa,.list v18,.any];let v14:=v1.each.map Yl7++[v2];let v13:=((v1.each.map Yl7).length:Int);let v8:=[cI v1.name.Ka,cI v1.name.Na,cS v1.name.Ta,.Ao v1.name.Sa,.list v17,cI v1.depth,cI v1.form.Ka,cI v1.form.Na,cS v1.form.Ta,.Ao v1.form.Sa,.list v18,.list (v14.set v13.toNat (Ym3 v4))];let v10:=v5[(k1:Int).toNat]? = some (Ym3 v4);let v11:=v3[(k1:Int).toNat]? = some (Ym3 v1);let v19:=v1.each.map Yl7;let v12:Cell:=.list v19;let v15:=v3.set (k1:Int).toNat v7;.i ((k1:Int)<(((rp (nI Ls (xI p)) (rI B Ls p f k)).map Yl7).length:Int)) (.w (.drawT 13 16 12 [(11,[5,11]),(13,[6,13]),(16,[13,5])]) (.p (0<=(k1:Int)/\(k1:Int).toNat<v3.length) (.w .sub (.p ((k1:Int).toNat<v3.length) (.p (0<=(k1:Int)/\(k1:Int).toNat<v5.length) (.w (.subs (Ym3 v4)) (.p v10 (.w (.cells (Ym3 v1)) (.p v11 (.w (.subcall (Ym3 v1) v19 12) (.p v11 (.p (some v12=some v12) (.p (∀ (x0:List Cell),x0∈v1.each.map Yl7->x0.length=12) (.p ((v19.length+1) * 192<=140737488355328) (.p (0<=v13/\v13.toNat<v14.length) (.w (.subs (Ym3 v4)) (.w (.cells v2) (.p (v6=v6) (.p v10 (.p (v14[v13.toNat]? = some v2) (.p (0<=(k1:Int)/\(k1:Int).toNat<v15.length) (.w (.take v7 (v3.set (k1:Int).toNat v8) 0) (.p (v15[(k1:Int).toNat]? = some v7) (.p (v15.set (k1:Int).toNat v8=v3.set (k1:Int).toNat v8) (.p (v13.toNat<v14.length) (.p ((k1:Int).toNat<v15.length) (.z Yl7 v1.each (.r ((k1:Int)+1) (.g [0,1,2,3,4,5,6] (k1+1) [.s (li ((k1:Int)+1)),.o (.y 12 (v3.set (k1:Int).toNat v8)),.o (.y 12 (v5.set (k1:Int).toNat [cI v4.name.Ka,cI v4.name.Na,cS v4.name.Ta,.any,.any,cI v4.depth,cI v4.form.Ka,cI v4.form.Na,cS v4.form.Ta,.any,.any,.any]))]))))))))))))))))))))))))))))) (.o 0 [0,1,2,3,4,5] [.o (.y 12 v3)])) (by
 intro k1 h;try dsimp only[Yl3,Yle,Z57]at h|-
 have gl:=Ysu (nI Ls (xI p)) (rI B Ls p f k)
 have g3:=Y1tz (nI Ls (xI p)) (rI B Ls p f k) (Ytd B Ls p f k) k1
 have gc:=@Y1sf B Ls p f k
 have ge:=@Y1om B Ls p f k k1
 have gz:=@Y1oi B Ls p f k k1
 with_reducible repeat' (first|apply ah|exact zR|(intro))
 all_goals ((try simp only[std,inj]at *);with_reducible and_intros)
 all_goals try first|exact zw|exact df .. | exact Y1uw (by grind)|exact Y1uo (by grind)|exact Y1xz (by grind)|exact Y1r3 _ oW|exact gz h.2.2.2.2.1 h.2.2.2.2.2.1 oW|grind)
theorem Zg7 (B:List YB) (Ls:List YS_) (p:YS_) (f:YS_) (o:List YC) (h:B.length<=1000000001/\sumBy wB B<=1000000001/\wY p<=900000000/\wY f<=1000000000/\o.length+Ylg p<=2147483647/\Ylw p<=40) (hl:Ls.all Yot) (hg:good Ls p) (ih:∀ (z:YS_),z∈p.Ia->∀ (B:List YB) (Ls:List YS_) (f:YS_) (o:List YC),B.length<=1000000001/\sumBy wB B<=1000000001/\wY z<=900000000/\wY f<=1000000000/\o.length+Ylg z<=2147483647/\Ylw z<=40->Ls.all Yot->good Ls z->OK (Zp B Ls z f o)):Lp.Sem prog (Yli f120 0) (Z2y B Ls p f o):=Ylp (λk=>let v6:=atI p.Ia - 1;let v5:=p.Ia.map Yl1;let v8:=List.take (v6.toNat - 0) (v5.drop 0);let v1:=f.Ia.g (v8.length+k);let v2:=((List.take (v6.toNat - 0) (v5.drop 0)).length:Int);let v3:=p.Ia.g v6.toNat;let v7:=rp (nI Ls (xI p)) (rI B Ls p f k);let v4:Ob:=.Ai v7;.i ((k:Int)<(f.Ia.map Yl1).length - v2 - ((List.take (v5.length - (atI p.Ia+1).toNat) (List.drop (atI p.Ia+1).toNat v5)).length:Int)) (.w (.draw []) (.r v6 (.x v6 v5 (Yl8 v3) (.r (v2+(k:Int)) (.x (v2+(k:Int)) (f.Ia.map Yl1) (Yl8 v1) (.d [.rd,.rd,.rd,.own true 12] (Zp B Ls v3 v1 []) (.h (v8.length<=9223372036854775807) (.b (!(gI B Ls v3 v1).isSome) (.o 1 [0] [.s (.one (.val (.y))),.s (lb false)]) (.z Yl7 v7 (.l (Z57 B Ls p f o k) (Zg6 B Ls p f o h hl hg ih k) [0,1,2,3,4,5,17] [.s (li 0),.o v4,.o (.Ai (smO v3 [] (gI B Ls v3 v1)))] 0 (.t (.r ((k:Int)+1) (.g [0,1,2,3,4,5] (k+1) [.s (li ((k:Int)+1)),.o (.Ai (rp (nI Ls (xI p)) (rI B Ls p f (k+1))))])) .q))))))))))) (.o 0 [0,1,2,4,5] [.o v4])) (by
 intro k h;try dsimp only[Yl3,Yle,Z2y,Z57]at h|-
 rename_i hh
 have gn:=Ywf h.2.1
 have gx:=Y21a h.2.1 hg
 have e1:=Y1kf h.2.1
 have e2:=Y1tb h.2.1
 have e3:=Y1zt h.2.2
 have gl:=Y239 f
 have gs:=Y18x (Ls:=Ls) (xI p)
 have gt:=Yxk (xI p)
 have g10:=Y1qf (nI Ls (xI p)) (rI B Ls p f k) (Ytd B Ls p f k)
 have g12:=Ysu (nI Ls (xI p)) (rI B Ls p f k)
 have gw:=@Y1wh (aT p+k) f
 with_reducible repeat' (first|apply ah|exact zR|exact ih|(intro))
 all_goals (try simp only[std,inj,e1,Y1op]at *)
 all_goals with_reducible and_intros
 all_goals try first|with_reducible apply ih
 all_goals try first|exact zw|(have q:=gw oW;omega)|exact Y1m5 h.2.1 oW h.2.2 (Y1vl ‹_›)|exact Y1p8|exact Y1nk ‹_› | exact(Y1kd h.2.2 (Y1nk ‹_›)).2|exact Y21u oW h.2.2|exact Y22k oW|grind)
theorem Zjw (B:List YB) (Ls:List YS_) (p f:YS_) (o:List YC) (h:B.length<=1000000001/\sumBy wB B<=1000000001/\wY p<=900000000/\wY f<=1000000000/\o.length+Ylg p<=2147483647/\Ylw p<=40) (hl:Ls.all Yot) (hg:good Ls p) (ih:∀ z∈p.Ia,∀ (B:List YB) (Ls:List YS_) (f:YS_) (o:List YC) (h:B.length<=1000000001/\sumBy wB B<=1000000001/\wY z<=900000000/\wY f<=1000000000/\o.length+Ylg z<=2147483647/\Ylw z<=40) (hl:Ls.all Yot) (hg:good Ls z),Zp B Ls z f o):Zp B Ls p f o:=Ylh call120 func120 (let v19:=atI p.Ia - 1;let v17:=p.Ia.map Yl1;let v9:=((List.take (v19.toNat - 0) (v17.drop 0)).length:Int);let v26:=((f.Ia.map Yl1).length:Int);let v21:=atI p.Ia+1;let v37:=v17.length - v21.toNat;let v11:=((List.take v37 (List.drop v21.toNat v17)).length:Int);let v39:=v26 - v9 - v11;let v1:=v9+v39;let v44:=gI B Ls;let v14:=List.take (v19.toNat - 0) (p.Ia.drop 0);let v20:=List.take (v9.toNat - 0) (f.Ia.drop 0);let v2:=alM v44 v14 v20;let v3:=List.take v37 (List.drop v21.toNat p.Ia);let v30:Orc:=.ghost (.nilreg 8 true 12);let v29:List Ob:=[.dead,.y 12 []];let v41:AC:=.ref 1;let v13:AV:=.tup [.one v41,lb false];let v4:Tq _ _:=.w v30 (.w (.m 0) (.f [4] v29 v13));let v36:=List.take (v19.toNat - 0) (v17.drop 0);let v5:=v36.length<=9223372036854775807;let v40:=o.map Yl7;let v18:=f.Ia.map Yl1;let v6:Tq _ _:=.w (.draw [(6,[6,7,16,17]),(7,[0,24])]) (.d [.rd] (Zj p) (.d [.rd] (Zj f) (.p ((v40.length+1) * 192<=140737488355328) (.f [25] [.dead,.y 12 (o.map Yl7++[[cI p.Ka,cI p.Na,cS p.Ta,.Ao p.Sa,.list v17,cI 0,cI f.Ka,cI f.Na,cS f.Ta,.Ao f.Sa,.list v18,.list []]])] (.tup [.one v41,lb true])))));let v15:List Ob:=[.dead,.y 12 v40];let v31:Tq _ _:=.w (.m 0) (.f [4] v15 v13);let v7:Tq _ _:=.w (.draw []) (.i (f.Ka=p.Ka) (.i (f.Na=p.Na) (.w (.m 0) (.f [4] v15 (.tup [.one v41,lb (decide (f.Ta.data.toList=p.Ta.data.toList))]))) v31) (.y false v31));let v8:=0<=v9+v39;let v23:List Ab.Mode:=[.rd,.rd,.rd,.own true 12];let v27:=List.take (v18.length - v1.toNat) (List.drop v1.toNat f.Ia);let v24:=alO o v2++rp (nI Ls (xI p)) (rI B Ls p f (mI2 p f));let v38:=rp (nI Ls (xI p)) (rI B Ls p f (mI2 p f));let v35:=[An B,Am Ls];let v28:=List.take v37 (List.drop v21.toNat v17);let v33:List Ob:=[.dead,.Ai (alO v24 (alM v44 v3 v27))];let v34:AV:=.tup [.one v41,lb (alM v44 v3 v27).isSome];let v10:Tq _ _:=.u v23 (Z4n B Ls v3 v27 v24) (.p (Ynw prog 166 [Ob.arr true 12 ((alO o v2).map Yl7++v38.map Yl7)] [SV.agg v35,ll v28,ll (List.take (v18.length - v1.toNat) (List.drop v1.toNat v18)),SV.one (AC.ref 0)] v33 v34) (.h v5 (.f [11] v33 v34)));let v12:Tq _ _:=.z Yl1 p.Ia (.z Yl1 f.Ia (.i (((p.Ia.map Yl1).length:Int)≠v26) v4 (.d v23 (Z4n B Ls p.Ia f.Ia o) (.f [5] [.dead,.Ai (alO o (alM v44 p.Ia f.Ia))] (.tup [.one v41,lb (alM v44 p.Ia f.Ia).isSome])))));let v16:=p.Ia.g v19.toNat;let v22:=(((alO o v2).map Yl7).length+(v38.map Yl7).length) * 192<=140737488355328;let v25:=Ynw prog 166 [.y 12 v40] [.agg v35,ll v36,ll (List.take (v9.toNat - 0) (v18.drop 0)),.r 0] [.dead,.Ai (alO o v2)] (.tup [.one v41,lb v2.isSome]);let v32:Ob:=.Ai ((vrI Ls v16 1 []).getD []);let v42:=Zg7 B Ls p f o h hl hg ih;let v43:=v28.length<=9223372036854775807;.c [.rd] (Zae p) (.b (decide (p.Ka=1)&&Ynb p) (.w (.m 0) (.f [4] v15 (.tup [.one v41,lb true]))) (.i (p.Ka=1) (.c [.rd,.rd] (Zcl Ls p) (.b (Yow Ls p) (.i (f.Ka=1) (.d [.rd,.rd,.rd] (Z9i B p f) (.w (.m 0) (.f [4] v15 (.tup [.one v41,lb (mng B p f)])))) v31) (.i (p.Ka=1) v6 (.i (p.Ka≠0) v7 (.i (f.Ka≠0) v4 (.c [.rd] (Zeb p.Ia) (.i (atI p.Ia<0) v12 (.r v19 (.p (0<=atI p.Ia - 1) (.p (0<=v19.toNat/\v19.toNat<=v17.length/\∀ (x0:List Cell),x0∈p.Ia.map Yl1->x0.length=5) (.r v21 (.p (0<=atI p.Ia+1) (.p (v21.toNat<=v17.length/\v17.length<=v17.length/\∀ (x0:List Cell),x0∈p.Ia.map Yl1->x0.length=5) (.z Yl1 f.Ia (.h v5 (.r (v26 - v9) (.h v43 (.r v39 (.i (v26 - v9 - v11<0) v4 (.w (.draw [(8,[0])]) (.p (0<=v9) (.p (0<=v9.toNat/\v9.toNat<=v18.length/\∀ (x0:List Cell),x0∈f.Ia.map Yl1->x0.length=5) (.u v23 (Z4n B Ls v14 v20 o) (.p v25 (.h v5 (.b (!(alM v44 v14 v20).isSome) (.w v30 (.f [10] v29 v13)) (.w (.draw []) (.r v19 (.x v19 v17 (Yl8 v16) (.d v23 (Zd Ls v16 1 []) (.l (Z2y B Ls p f o) v42 [0,9,1,2,3,17] [.s (li 0),.o v32] 0 (.t (.p v22 (.w (.draw [(10,[5])]) (.r v1 (.p v8 (.p (v1.toNat<=v18.length/\v18.length<=v18.length/\∀ (x0:List Cell),x0∈f.Ia.map Yl1->x0.length=5) v10))))) (.t (.w v30 (.f [1] v29 v13)) .q))))))))))))))))))))))))))))))))) (.y false (.i (p.Ka=1) v6 (.i (p.Ka≠0) v7 (.i (f.Ka≠0) v4 (.c [.rd] (Zeb p.Ia) (.i (atI p.Ia<0) v12 (.r v19 (.p (0<=atI p.Ia - 1) (.p (0<=v19.toNat/\v19.toNat<=v17.length/\∀ (x0:List Cell),x0∈p.Ia.map Yl1->x0.length=5) (.r v21 (.p (0<=atI p.Ia+1) (.p (v21.toNat<=v17.length/\v17.length<=v17.length/\∀ (x0:List Cell),x0∈p.Ia.map Yl1->x0.length=5) (.z Yl1 f.Ia (.h v5 (.r (v26 - v9) (.h v43 (.r v39 (.i (v26 - v9 - v11<0) v4 (.w (.draw [(8,[0])]) (.p (0<=v9) (.p (0<=v9.toNat/\v9.toNat<=v18.length/\∀ (x0:List Cell),x0∈f.Ia.map Yl1->x0.length=5) (.u v23 (Z4n B Ls v14 v20 o) (.p v25 (.h v5 (.b (!(alM v44 v14 v20).isSome) (.w v30 (.f [10] v29 v13)) (.w (.draw []) (.r v19 (.x v19 v17 (Yl8 v16) (.d v23 (Zd Ls v16 1 []) (.l (Z2y B Ls p f o) v42 [0,9,1,2,3,17] [.s (li 0),.o v32] 0 (.t (.p v22 (.w (.draw [(10,[5])]) (.r v1 (.p v8 (.p (v1.toNat<=v18.length/\v18.length<=v18.length/\∀ (x0:List Cell),x0∈f.Ia.map Yl1->x0.length=5) v10))))) (.t (.w v30 (.f [1] v29 v13)) .q))))))))))))))))))))))))))))))))))) (by
 dsimp only[Yl3,Zp,Yle,Z2y]
 have g1:=@Y1yh B Ls p f o
 have g2:=@Y20f B Ls p f o
 have g3:=@Y1z9 B Ls p f o
 have g4:=@Y1de B Ls p f o
 have g6:=@Y1t3 B Ls p f o
 have g14:=@Y1oa Ls p hg
 have g19:=Ymd f
 have g20:=Ymd p
 have g21:=Ym7 p
 have g22:=Y1nr o p f
 with_reducible repeat' (first|apply ah|exact zR|(intro)|apply Zae|apply Zcl|apply Zgs|apply Z2|apply Zeb|apply Zf7|apply Zag)
 all_goals ((try simp only[std,inj]at *);with_reducible and_intros)
 all_goals try first|with_reducible apply Zgs|with_reducible apply Z2|with_reducible apply Zf7|with_reducible apply Zag|(simp only[<- aq];with_reducible apply Zf7)
 all_goals (try (
  have hf:=Y23h hg ‹_› ‹_› ‹_› ‹_›
  have e1:=Y1rq hf
  have e2:=Y1t6 hf
  have e3:=Y1zi hf
  simp only[Y20m,e1,e2,e3,Yvv,Y1op,Y1ws,Y1y4]at *
  have gn:=Ywf hf
  have gx:=Y21a hf hg
  have pl:=Y1eu (Yr8 hf).2.2.1 (Yr8 hf).2.2.2.1
  have s1:=Y200 f (aT p)
  have s2:=Y200 f (aT p+mI2 p f)
  have s3:=@Y1ki B Ls o (List.take (aT p) p.Ia) (List.take (aT p) f.Ia)
  have s4:=Y18x (Ls:=Ls) (xI p)
  have s5:=Ysu (nI Ls (xI p)) (rI B Ls p f (mI2 p f))))
 all_goals with_reducible and_intros
 all_goals try first|exact zw|(have q:=Yvm hg (Decidable.not_not.1 ‹¬¬p.Ka=0›);omega)|exact(Y1kp ‹_› ‹_›).1|exact(Y1kp (o:=o) ‹_› ‹_›).2|exact(Y1jy ‹_› ‹_› ‹_› ‹_›).1|exact(Y1jy (o:=o) ‹_› ‹_› ‹_› ‹_›).2|exact(Y1pt hg ‹_› ‹_› ‹_› ‹_›).1|exact(Y1pt (o:=o) hg ‹_› ‹_› ‹_› ‹_›).2|exact Y23y ‹_› ‹_› ‹_› ‹_› | exact(Y1qw hf ‹_›).1|exact(Y1qw (o:=o) hf ‹_›).2|exact(Y1jm ‹_› ‹_›).1|exact(Y1jm (o:=o) ‹_› ‹_›).2|exact(Y1pw hf ‹_› ‹_›).1|exact(Y1pw (o:=o) hf ‹_› ‹_›).2|exact Y1uc hl hg hf|exact Y1s8 hg (Yr8 hf).1 (Yr8 hf).2.2.1 (Yr8 hf).2.2.2.1 oW|exact Y1og hg (Yr8 hf).1 (Yr8 hf).2.2.1 (Yr8 hf).2.2.2.1 oW|(simp only[aw,au,ax,bo]at *;omega)|rfl|grind)
theorem Zbw (p:YS_):∀ (B:List YB) (Ls:List YS_) (f:YS_) (o:List YC) (h:B.length<=1000000001/\sumBy wB B<=1000000001/\wY p<=900000000/\wY f<=1000000000/\o.length+Ylg p<=2147483647/\Ylw p<=40) (hl:Ls.all Yot) (hg:good Ls p),Zp B Ls p f o:=YS_.ind (P:=λp=>∀ (B:List YB) (Ls:List YS_) (f:YS_) (o:List YC) (h:B.length<=1000000001/\sumBy wB B<=1000000001/\wY p<=900000000/\wY f<=1000000000/\o.length+Ylg p<=2147483647/\Ylw p<=40) (hl:Ls.all Yot) (hg:good Ls p),Zp B Ls p f o) (λp ih B Ls f o h hl hg=>Zjw B Ls p f o h hl hg ih) p
end
section
mutual
def Yn9:YS_->List YS_->List YS_
 | ⟨k,n,t,s,l⟩,o=>Y16j l (if k=1/\Ynu o ⟨k,n,t,s,l⟩=false then o++[⟨k,n,t,s,l⟩] else o)
def Y16j:List YS_->List YS_->List YS_
 | [],o=>o
 | x :: r,o=>Y16j r (Yn9 x o)
end
theorem Y1g1:∀ (l:List YS_) (o:List YS_),Y16j l o=l.foldl (λo x=>Yn9 x o) o
 | [],_=>by rw[Y16j];rfl
 | x :: r,o=>by rw[Y16j,Y1g1 r];rfl
def Y1s2 (s:YS_) (o:List YS_):List YS_:=if s.Ka=1/\Ynu o s=false then o++[s] else o
theorem Y1yu (s:YS_) (o:List YS_):Yn9 s o=s.Ia.foldl (λo x=>Yn9 x o) (Y1s2 s o):=by cases s;simp only[Yn9,Y1g1,Y1s2]
def Y10c (C:List YC) (a:Nat):List YS_->List YC
 | []=>C
 | x :: r=>let O:=Y10c C a r;if 0<=fnd C x/\0<(C.g (fnd C x).toNat).depth then O.set (fnd C x).toNat ((C.g (fnd C x).toNat).each.g a) else O
def Y13l (C:List YC) (a:Nat) (I:List YS_) (k:Nat):List YC:=Y10c C a (I.take k).reverse
theorem Y1hd (C:List YC) (a:Nat):∀ I,(Y10c C a I).length=C.length
 | []=>rfl
 | x :: r=>by simp only[Y10c];split<;>simp[Y1hd C a r]
theorem Y1p5 (s:YS_):Ylg s<=wY s+1:=by
 refine YS_.ind (P:=λs=>Ylg s<=wY s+1) (λs ih => ?_) s
 have:∀ L:List YS_,(∀ x∈L,Ylg x<=wY x+1)->sumBy Ylg L<=L.length+sumBy wY L:=by
  intro L
  induction L with
  | nil=>intro _;simp[sumBy]
  | cons x r ihr=>
   intro h
   have h1:=h x aj
   have h2:=ihr λy hy=>h y (ai _ hy)
   simp only[sumBy,aD];omega
 have h1:=this s.Ia ih
 have h2:=Ymd s
 rw[Ym7];omega
def Ymi (C:List YC) (x:YS_):YC:=C.g (fnd C x).toNat
def rep (C:List YC) (x:YS_):Bool:=decide (0<=fnd C x)&&decide (0<(Ymi C x).depth)
def cnN (C:List YC) (I:List YS_):Nat->Int
 | 0 => -1
 | k+1=>if rep C (I.g k) then ((Ymi C (I.g k)).each.length:Int) else cnN C I k
def Y15n (C:List YC) (I:List YS_):Nat->Bool
 | 0=>true
 | k+1=>Y15n C I k&&(!rep C (I.g k)||decide (cnN C I k<0)||decide (cnN C I k=((Ymi C (I.g k)).each.length:Int)))
abbrev Zdj (L:List Int) (n:Int):Ct:=⟨161,[],[Ag L,li n],[],.sv (lb (decide (n∈L)))⟩
def Z60 (L:List Int) (n:Int):Lp Nat:=.mk 17 0 (λx=>[(1,li n),(7,Ag L),(8,li (L.map Yl4).length),(9,hs x 0)]) (λx=>[]) (λk=>[.s (li k)]) (λk=>k<=L.length/\L.length<=9223372036854775807/\decide (n∈L.take k)=false) (λk=>L.length - k) [.mk (decide (n∈L)=false) (.exit 0) (λx=>[]) (λx=>[]) [],.mk (decide (n∈L)) .ret (λx=>[(4,hs x 0)]) (λx=>[]) [.s (lb true)]]
theorem Zhg (L:List Int) (n:Int):Lp.Sem prog (Yli f161 0) (Z60 L n):=Ylp (λk=>.i ((k:Int)<(L.map Yl4).length) (.x (k:Int) (L.map Yl4) [cI (L.getD k 0)] (.i (L.getD k 0=n) (.o 1 [] [.s (lb true)]) (.r ((k:Int)+1) (.g [] (k+1) [.s (li ((k:Int)+1))])))) (.o 0 [] [])) (by
 intro k h;try dsimp only[Yl3,Yle,Z60]at h|-
 exact z08)
theorem Zgt (L:List Int) (n:Int):Zdj L n:=Ylh call161 func161 (.z Yl4 L (.l (Z60 L n) (Zhg L n) [] [.s (li 0)] 0 (.t (.s (lb false)) (.t (.s (lb true)) .q)))) (by
 dsimp only[Yl3,Zdj,Yle,Z60]
 exact zV)
mutual
def rpi (C:List YC):YS_->List Int->List Int
 | ⟨k,n,t,s,l⟩,o=>Y1g9 C l (if k=1/\rep C ⟨k,n,t,s,l⟩=true/\fnd C ⟨k,n,t,s,l⟩∉o then o++[fnd C ⟨k,n,t,s,l⟩] else o)
def Y1g9 (C:List YC):List YS_->List Int->List Int
 | [],o=>o
 | x :: r,o=>Y1g9 C r (rpi C x o)
end
theorem Y1il (C:List YC):∀ (l:List YS_) (o:List Int),Y1g9 C l o=l.foldl (λo x=>rpi C x o) o
 | [],_=>by rw[Y1g9];rfl
 | x :: r,o=>by rw[Y1g9,Y1il C r];rfl
def Yvw (C:List YC) (t:YS_) (o:List Int):List Int:=if t.Ka=1/\rep C t/\fnd C t∉o then o++[fnd C t] else o
theorem Y1fx (C:List YC) (t:YS_) (o:List Int):rpi C t o=t.Ia.foldl (λo x=>rpi C x o) (Yvw C t o):=by cases t;simp only[rpi,Y1il,Yvw]
theorem Y1dl (C:List YC) (t:YS_) (o:List Int):(Yvw C t o).length<=o.length+1:=by unfold Yvw;split<;>simp
theorem Y1a5 (C:List YC):∀ (L:List YS_),(∀ x∈L,∀ o,(rpi C x o).length<=o.length+Ylg x)->∀ o,(L.foldl (λo x=>rpi C x o) o).length<=o.length+sumBy Ylg L
 | [],_,o=>by simp[sumBy]
 | x :: r,h,o=>by
  have h1:=h x aj o
  have h2:=Y1a5 C r (λy hy=>h y (ai _ hy)) (rpi C x o)
  simp only[bL,sumBy];omega
theorem Y1jz (C:List YC):∀ (t:YS_) (o:List Int),(rpi C t o).length<=o.length+Ylg t:=by
 refine YS_.ind λt ih o => ?_
 have h1:=Y1a5 C t.Ia ih (Yvw C t o)
 have h2:=Y1dl C t o
 rw[Y1fx,Ym7];omega
abbrev Z2a (t:YS_) (C:List YC) (o:List Int):Ct:=⟨197,[.Aa o],[Yln t,Al C,.r 0],[.dead,.Aa (rpi C t o)],.sv (.r 1)⟩
def Z2z (t:YS_) (C:List YC) (o:List Int):Lp Nat:=.mk 46 1 (λx=>[(1,Al C),(2,.r 1),(34,Af t.Ia),(35,li (t.Ia.map Yl1).length),(36,hs x 0)]) (λx=>[.dead,ho x 1]) (λk=>[.s (li k),.o (.Aa (List.foldl (λo x=>rpi C x o) (Yvw C t o) (t.Ia.take k)))]) (λk=>k<=t.Ia.length/\t.Ia.length<=9223372036854775807) (λk=>t.Ia.length - k) [.mk True (.exit 0) (λx=>[(2,.r 1)]) (λx=>[.dead,ho x 0]) [.o (.Aa (rpi C t o))]]
theorem Zaz (t:YS_) (C:List YC) (o:List Int) (h:o.length+Ylg t<=2147483647) (ih:∀ (z:YS_),z∈t.Ia->∀ (C:List YC) (o:List Int),o.length+Ylg z<=2147483647->OK (Z2a z C o)):Lp.Sem prog (Yli f197 0) (Z2z t C o):=Ylp (λk=>let v1:=t.Ia.g k;let v2:=t.Ia.take k;.i ((k:Int)<(t.Ia.map Yl1).length) (.x (k:Int) (t.Ia.map Yl1) (Yl8 v1) (.d [.rd,.rd,.own true 1] (Z2a v1 C (List.foldl (λo x=>rpi C x o) (Yvw C t o) v2)) (.r ((k:Int)+1) (.g [0,4] (k+1) [.s (li ((k:Int)+1)),.o (.Aa (rpi C v1 (List.foldl (λo x=>rpi C x o) (Yvw C t o) v2)))])))) (.o 0 [0,1] [.o (.Aa (List.foldl (λo x=>rpi C x o) (Yvw C t o) v2))])) (by
 intro k h;try dsimp only[Yl3,Yle,Z2z]at h|-
 have g1:=Y1a5 C (t.Ia.take k) (λx _ o=>Y1jz C x o) (Yvw C t o)
 have g2:=Y1dl C t o
 have g3:=@Yth t k
 with_reducible repeat' (first|apply ah|exact zR|exact ih|(intro)|apply ih)
 all_goals ((try simp only[std,inj]at *);with_reducible and_intros)
 all_goals try with_reducible first|apply ih
 all_goals try first|exact z|grind[Y1fx,Yse,Yl6,Yla,Ylb,Yl5])
theorem Zjx (t:YS_) (C:List YC) (o:List Int) (h:o.length+Ylg t<=2147483647) (ih:∀ z∈t.Ia,∀ (C:List YC) (o:List Int) (h:o.length+Ylg z<=2147483647),Z2a z C o):Z2a t C o:=Ylh call197 func197 (let v3:Tq _ _:=.t (.f [1] [.dead,.Aa (rpi C t o)] (.sv (.r 1))) .q;let v1:Tq _ _:=.z Yl1 t.Ia (.w (.m 0) (.l (Z2z t C o) (Zaz t C o h ih) [0,2] [.s (li 0),.o (.Aa o)] 0 v3));let v2:=if t.Ka=1 then fnd C t else (-1:Int);.c [.rd,.rd] (Zac C t) (.i (0<=if t.Ka=1 then fnd C t else (-1:Int)) (.x v2 (C.map Yl7) (Ym3 (C.g v2.toNat)) (.i (0<(C.g v2.toNat).depth) (.c [.rd,.rd] (Zgt o v2) (.b (!decide (v2∈o)) (.p (((o.map Yl4).length+1) * 8<=140737488355328) (.z Yl1 t.Ia (.l (Z2z t C o) (Zaz t C o h ih) [0,3] [.s (li 0),.o (.y 1 (o.map Yl4++[[cI v2]]))] 0 v3))) v1)) (.y false v1))) (.y false (.y false v1)))) (by
 dsimp only[Yl3,Z2a,Yle,Z2z]
 have g1:=Yvi C t
 have g2:=Ym7 t
 have g3:rep C t=(decide (0<=fnd C t)&&decide (0<(Ymi C t).depth)):=rfl
 have g4:Ymi C t=C.g (fnd C t).toNat:=rfl
 with_reducible repeat' (first|apply ah|exact zR|exact ih|(intro))
 all_goals ((try simp only[std,inj]at *);with_reducible and_intros)
 all_goals try first|with_reducible (first|apply ih)|(simp only[<- aq];with_reducible first|apply ih)
 all_goals try first|exact z|grind[Yvw,Yla,Ylb,Yl5])
theorem Z1v (t:YS_):∀ (C:List YC) (o:List Int) (h:o.length+Ylg t<=2147483647),Z2a t C o:=YS_.ind (P:=λt=>∀ (C:List YC) (o:List Int) (h:o.length+Ylg t<=2147483647),Z2a t C o) (λt ih C o h=>Zjx t C o h ih) t
def itr (f:Nat->Int->YS_×Bool×Int):Nat->Int->List YS_->List YS_×Bool×Int
 | 0,m,O=>(O,true,m)
 | k+1,m,O=>let p:=itr f k m O;if p.2.1 then (p.1++[(f k p.2.2).1],(f k p.2.2).2.1,(f k p.2.2).2.2) else p
def zY:YS_:=⟨0,0,mkS [],[],[]⟩
mutual
def bld:YS_->List YC->Int->YS_×Bool×Int
 | ⟨k,n,x,s,l⟩,C,m=>if m - 1<0 then (zY,false,m - 1) else if k=1 then
   (if Ylj ⟨k,n,x,s,l⟩=true\/fnd C ⟨k,n,x,s,l⟩<0 then (⟨k,n,x,s,l⟩,!Ylj ⟨k,n,x,s,l⟩,m - 1) else if (Ymi C ⟨k,n,x,s,l⟩).depth≠0 then (zY,false,m) else if (Ylg (Ymi C ⟨k,n,x,s,l⟩).form:Int)<=m then ((Ymi C ⟨k,n,x,s,l⟩).form,true,max (m - Ylg (Ymi C ⟨k,n,x,s,l⟩).form) (-1)) else (zY,false,max (m - Ylg (Ymi C ⟨k,n,x,s,l⟩).form) (-1)))
  else if (Yp3 l C (m - 1) []).2.1 then (⟨k,n,x,[],(Yp3 l C (m - 1) []).1⟩,true,(Yp3 l C (m - 1) []).2.2) else (zY,false,(Yp3 l C (m - 1) []).2.2)
def Yp3:List YS_->List YC->Int->List YS_->List YS_×Bool×Int
 | [],_,m,O=>(O,true,m)
 | [x],C,m,O=>if (bld x C m).2.1 then (O++[(bld x C m).1],true,(bld x C m).2.2) else (O,false,(bld x C m).2.2)
 | x :: y :: r,C,m,O=>if Ylj y then
   (if (Y15n C (Yn9 x []) (Yn9 x []).length&&decide (0<=cnN C (Yn9 x []) (Yn9 x []).length)) then
    (if (itr (λj m=>bld x (Y13l C j (Yn9 x []) (Yn9 x []).length) m) (cnN C (Yn9 x []) (Yn9 x []).length).toNat m O).2.1 then
     Yp3 r C (itr (λj m=>bld x (Y13l C j (Yn9 x []) (Yn9 x []).length) m) (cnN C (Yn9 x []) (Yn9 x []).length).toNat m O).2.2 (itr (λj m=>bld x (Y13l C j (Yn9 x []) (Yn9 x []).length) m) (cnN C (Yn9 x []) (Yn9 x []).length).toNat m O).1 else itr (λj m=>bld x (Y13l C j (Yn9 x []) (Yn9 x []).length) m) (cnN C (Yn9 x []) (Yn9 x []).length).toNat m O) else (O,false,m))
  else if (bld x C m).2.1 then Yp3 (y :: r) C (bld x C m).2.2 (O++[(bld x C m).1]) else (O,false,(bld x C m).2.2)
end
end
end Go.Proofs.YtcbodhkhppgkiaaGreat
end
