/- Part 3 of a proof. No condition. -/
import Derived.Test.YtcbodhkhppgkiaaGreatTra2
set_option maxHeartbeats 4000000
set_option linter.unusedVariables false
set_option linter.unusedSimpArgs false
section
namespace Go.Proofs.YtcbodhkhppgkiaaGreat
open Go Ab Proofs.Tryz
mutual
def mxP:YC->Nat
 | ⟨_,_,f,e⟩=>max (wY f) (max e.length (Y103 e))
def Y103:List YC->Nat
 | []=>0
 | x :: r=>max (mxP x) (Y103 r)
end
theorem Y17w (x:YC):mxP x=max (wY x.form) (max x.each.length (Y103 x.each)):=by cases x;simp only[mxP]
theorem Y1gz:∀ {l:List YC}{x:YC},x∈l->mxP x<=Y103 l
 | y :: r,x,h=>by
  rw[Y103]
  rcases List.mem_cons.1 h with rfl|h
  ·omega
  ·have:=Y1gz h;omega
theorem Y1in {m:Nat}:∀ {l:List YC},(∀ x∈l,mxP x<=m)->Y103 l<=m
 | [],_=>by simp[Y103]
 | x :: r,h=>by
  have h1:=h x aj
  have h2:=Y1in λy hy=>h y (ai _ hy)
  rw[Y103];omega
def cnB (C:List YC) (x:YS_):Bool:=Y15n C (Yn9 x []) (Yn9 x []).length&&decide (0<=cnN C (Yn9 x []) (Yn9 x []).length)
abbrev bN (C:List YC) (x:YS_):Nat:=(cnN C (Yn9 x []) (Yn9 x []).length).toNat
abbrev Y1l6 (C:List YC) (x:YS_) (j:Nat):List YC:=Y13l C j (Yn9 x []) (Yn9 x []).length
def bI (C:List YC) (x:YS_) (j:Nat) (q:Int) (O:List YS_):List YS_×Bool×Int:=itr (λj q=>bld x (Y1l6 C x j) q) j q O
def bJ (C:List YC) (x:YS_) (j:Nat) (q:Int) (O:List YS_):List YS_×Bool×Int:=if cnB C x then bI C x j q O else (O,false,q)
def bR (C:List YC) (x:YS_) (q:Int) (O:List YS_):List YS_×Bool×Int:=bJ C x (bN C x) q O
theorem Y1ex (t:YS_) (C:List YC) (q:Int):bld t C q=if q - 1<0 then (zY,false,q - 1) else if t.Ka=1 then (if Ylj t\/fnd C t<0 then (t,!Ylj t,q - 1) else if (Ymi C t).depth≠0 then (zY,false,q) else if (Ylg (Ymi C t).form:Int)<=q then ((Ymi C t).form,true,max (q - Ylg (Ymi C t).form) (-1)) else (zY,false,max (q - Ylg (Ymi C t).form) (-1)))
  else if (Yp3 t.Ia C (q - 1) []).2.1 then (⟨t.Ka,t.Na,t.Ta,[],(Yp3 t.Ia C (q - 1) []).1⟩,true,(Yp3 t.Ia C (q - 1) []).2.2) else (zY,false,(Yp3 t.Ia C (q - 1) []).2.2):=by
 cases t;rw[bld]
theorem Yut (C:List YC) (q:Int) (O:List YS_):Yp3 [] C q O=(O,true,q):=by rw[Yp3]
theorem Y162 (x:YS_) (C:List YC) (q:Int) (O:List YS_):Yp3 [x] C q O=if (bld x C q).2.1 then Yp3 [] C (bld x C q).2.2 (O++[(bld x C q).1]) else (O,false,(bld x C q).2.2):=by
 rw[Yut,Yp3]
theorem Y11q (x y:YS_) (r:List YS_) (C:List YC) (q:Int) (O:List YS_):Yp3 (x :: y :: r) C q O=if Ylj y then (if (bR C x q O).2.1 then Yp3 r C (bR C x q O).2.2 (bR C x q O).1 else bR C x q O)
  else if (bld x C q).2.1 then Yp3 (y :: r) C (bld x C q).2.2 (O++[(bld x C q).1]) else (O,false,(bld x C q).2.2):=by
 rw[Yp3]
 split
 ·unfold bR bJ cnB
  split
  ·rfl
  ·rfl
 ·rfl
theorem Y1h6 {f:Nat->Int->YS_×Bool×Int}(hf:∀ j q,0<=q->(f j q).2.1->0<=(f j q).2.2/\(f j q).2.2+1<=q):∀ (j:Nat) (q:Int) (O:List YS_),0<=q->(itr f j q O).2.1->0<=(itr f j q O).2.2/\((itr f j q O).1.length:Int)+(itr f j q O).2.2<=O.length+q
 | 0,q,O,h0,_=>by simp only[itr];omega
 | j+1,q,O,h0,h=>by
  have ih:=Y1h6 hf j q O h0
  simp only[itr]at h|-
  by_cases e:(itr f j q O).2.1
  ·rw[ae e]at h|-
   have h1:=ih e
   have h2:=hf j _ h1.1 h
   simp only[aw,bh];omega
  ·rw[ab e]at h;exact absurd h e
theorem Yuj (f:Nat->Int->YS_×Bool×Int) (j:Nat) (q:Int) (O:List YS_) (h:(itr f j q O).2.1):itr f (j+1) q O=((itr f j q O).1++[(f j (itr f j q O).2.2).1],(f j (itr f j q O).2.2).2.1,(f j (itr f j q O).2.2).2.2):=by
 rw[itr,ae h]
theorem Y1cu (f : Nat -> Int -> YS_ × Bool × Int) (j : Nat) (q : Int) (O : List YS_) (h : (itr f j q O).2.1 = false) : ∀ n, j <= n -> itr f n q O = itr f j q O
  | 0, hn => by obtain rfl : j = 0 := by omega
                rfl
  | n + 1, hn => by
    by_cases e : j = n + 1
    · rw [e]
    · have := Y1cu f j q O h n oW
      rw [itr, this, h]; rfl
theorem Y1ea {C:List YC}{I:List YS_}:∀ (m j:Nat),j<m->Y15n C I m->rep C (I.g j)->((Ymi C (I.g j)).each.length:Int)=cnN C I m
 | 0,j,h,_,_=>by omega
 | m+1,j,h,ht,hr=>by
  simp only[Y15n,af,aF,aL,ak]at ht
  simp only[cnN]
  by_cases e:j=m
  ·subst e;rw[ae hr]
  ·have ih:=Y1ea m j oW ht.1 hr
   split
   ·rename_i h2
    rcases ht.2 with (h3|h3)|h3
    ·rw[h2]at h3;cases h3
    ·omega
    ·omega
   ·exact ih
theorem Y20g {C:List YC}(hC:∀ z∈C,mxP z<=1000000000) (i a:Nat):mxP ((C.g i).each.g a)<=1000000000:=by
 have h0:mxP (default:YC)=0:=rfl
 rcases bH a (C.g i).each.length with h1|h1
 ·have h2:=Y1gz (Yl6 h1)
  have h3:=Y17w (C.g i)
  rcases bH i C.length with h4|h4
  ·have:=hC _ (Yl6 h4);omega
  ·have e:C.g i=default:=by simp[h4]
   have e2:(default:YC).each.length=0:=rfl
   rw[e,e2]at h1;omega
 ·have e:(C.g i).each.g a=default:=by show List.getD (C.g i).each a default=default;rw[ao,bf h1];rfl
  rw[e,h0];omega
theorem Y1y3 {C:List YC}(hC:∀ z∈C,mxP z<=1000000000) {t:YS_}(h:0<=fnd C t):wY (Ymi C t).form<=1000000000:=by
 have h1:=Yvi C t
 have h2:=hC (Ymi C t) (Yl6 oW)
 have h3:=Y17w (Ymi C t)
 omega
def lnI (C:List YC) (i:Int):Int:=((C.g i.toNat).each.length:Int)
abbrev rpX (C:List YC) (x:YS_):List Int:=rpi C x []
def rqA (C:List YC) (I:List Int) (n:Int):Bool:=I.all λi=>decide (lnI C i=n)
def rqB (C:List YC) (x:YS_):Bool := !decide ((rpX C x).length=0)&&rqA C (rpX C x) (lnI C ((rpX C x).getD 0 default))
abbrev rqN (C:List YC) (x:YS_):Nat:=(C.g ((rpX C x).getD 0 default).toNat).each.length
def Ytn (C:List YC) (a:Nat) (I:List Int):List YC:=I.foldl (λO i=>O.set i.toNat ((C.g i.toNat).each.g a)) C
abbrev stq (C:List YC) (x:YS_) (a:Nat):List YC:=Ytn C a (rpX C x)
theorem Y1ew (C:List YC) (a:Nat) (I:List Int):(Ytn C a I).length=C.length:=by
 have:∀ (I:List Int) (O:List YC),(I.foldl (λO i=>O.set i.toNat ((C.g i.toNat).each.g a)) O).length=O.length:=by
  intro I
  induction I with
  | nil=>intro O;rfl
  | cons x r ih=>intro O;rw[bL,ih,cd]
 exact this I C
theorem Y1o4 {C:List YC}{a:Nat}{I:List Int}{k:Nat}(h:k<I.length):Ytn C a (I.take (k+1))=(Ytn C a (I.take k)).set (I.g k).toNat ((C.g (I.g k).toNat).each.g a):=by
 unfold Ytn;rw[Yse _ _ h]
mutual
def bli:YS_->List YC->Int->YS_×Bool×Int
 | ⟨k,n,x,s,l⟩,C,m=>if k=1/\0<=fnd C ⟨k,n,x,s,l⟩ then
   (if (Ymi C ⟨k,n,x,s,l⟩).depth≠0 then (zY,false,m) else if Yld (Ymi C ⟨k,n,x,s,l⟩).form then ((Ymi C ⟨k,n,x,s,l⟩).form,decide (0<=m - Ylg (Ymi C ⟨k,n,x,s,l⟩).form),m - Ylg (Ymi C ⟨k,n,x,s,l⟩).form) else (zY,false,m))
  else if m - 1<0 then (zY,false,m - 1)
  else if (Yme l C (m - 1) []).2.1 then (⟨k,n,x,s,(Yme l C (m - 1) []).1⟩,true,(Yme l C (m - 1) []).2.2) else (zY,false,(Yme l C (m - 1) []).2.2)
def Yme:List YS_->List YC->Int->List YS_->List YS_×Bool×Int
 | [],_,m,O=>(O,true,m)
 | [x],C,m,O=>if (bli x C m).2.1 then (O++[(bli x C m).1],true,(bli x C m).2.2) else (O,false,(bli x C m).2.2)
 | x :: y :: r,C,m,O=>if Ylj y then
   (if rqB C x then
    (if (itr (λj m=>bli x (stq C x j) m) (rqN C x) m O).2.1 then
     Yme r C (itr (λj m=>bli x (stq C x j) m) (rqN C x) m O).2.2 (itr (λj m=>bli x (stq C x j) m) (rqN C x) m O).1 else itr (λj m=>bli x (stq C x j) m) (rqN C x) m O) else (O,false,m))
  else if (bli x C m).2.1 then Yme (y :: r) C (bli x C m).2.2 (O++[(bli x C m).1]) else (O,false,(bli x C m).2.2)
end
def iI (C:List YC) (x:YS_) (j:Nat) (q:Int) (O:List YS_):List YS_×Bool×Int:=itr (λj q=>bli x (stq C x j) q) j q O
def iR (C:List YC) (x:YS_) (q:Int) (O:List YS_):List YS_×Bool×Int:=if rqB C x then iI C x (rqN C x) q O else (O,false,q)
theorem Yu1 (t:YS_) (C:List YC) (m:Int):bli t C m=if t.Ka=1/\0<=fnd C t then (if (Ymi C t).depth≠0 then (zY,false,m) else if Yld (Ymi C t).form then ((Ymi C t).form,decide (0<=m - Ylg (Ymi C t).form),m - Ylg (Ymi C t).form) else (zY,false,m))
  else if m - 1<0 then (zY,false,m - 1)
  else if (Yme t.Ia C (m - 1) []).2.1 then (⟨t.Ka,t.Na,t.Ta,t.Sa,(Yme t.Ia C (m - 1) []).1⟩,true,(Yme t.Ia C (m - 1) []).2.2) else (zY,false,(Yme t.Ia C (m - 1) []).2.2):=by
 cases t;rw[bli]
theorem Yup (C:List YC) (q:Int) (O:List YS_):Yme [] C q O=(O,true,q):=by rw[Yme]
theorem Y14z (x:YS_) (C:List YC) (q:Int) (O:List YS_):Yme [x] C q O=if (bli x C q).2.1 then Yme [] C (bli x C q).2.2 (O++[(bli x C q).1]) else (O,false,(bli x C q).2.2):=by
 rw[Yup,Yme]
theorem Yxu (x y:YS_) (r:List YS_) (C:List YC) (q:Int) (O:List YS_):Yme (x :: y :: r) C q O=if Ylj y then (if (iR C x q O).2.1 then Yme r C (iR C x q O).2.2 (iR C x q O).1 else iR C x q O)
  else if (bli x C q).2.1 then Yme (y :: r) C (bli x C q).2.2 (O++[(bli x C q).1]) else (O,false,(bli x C q).2.2):=by
 rw[Yme]
 split
 ·unfold iR
  split
  ·rfl
  ·rfl
 ·rfl
theorem Y1te {l:List YS_}{k:Nat}{C:List YC}{q:Int}{O:List YS_}(h:l.length<=k):Yme (l.drop k) C q O=(O,true,q):=by
 rw[bB h,Yup]
theorem Y17q {l:List YS_}{k:Nat}{C:List YC}{q:Int}{O:List YS_}(h:k<l.length) (hd:l.length<=k+1\/Ylj (l.g (k+1))=false) :
  Yme (l.drop k) C q O=if (bli (l.g k) C q).2.1 then Yme (l.drop (k+1)) C (bli (l.g k) C q).2.2 (O++[(bli (l.g k) C q).1]) else (O,false,(bli (l.g k) C q).2.2):=by
 rw[Yof h]
 rcases bH (k+1) l.length with h1|h1
 ·rw[Yof h1,Yxu,ab (by rcases hd with h2|h2<;>first|(exfalso;omega)|(rw[h2];decide))]
 ·rw[bB h1,Y14z]
theorem Yxw {l:List YS_}{k:Nat}{C:List YC}{q:Int}{O:List YS_}(h:k+1<l.length) (hd:Ylj (l.g (k+1))) :
  Yme (l.drop k) C q O=if (iR C (l.g k) q O).2.1 then Yme (l.drop (k+1+1)) C (iR C (l.g k) q O).2.2 (iR C (l.g k) q O).1 else iR C (l.g k) q O:=by
 rw[Yof (by omega:k<l.length),Yof h,Yxu,ae hd]
theorem Y149:∀ (l:List YS_),(∀ x∈l,∀ C q,0<=q->(bli x C q).2.1->0<=(bli x C q).2.2/\(bli x C q).2.2+1<=q)->∀ C q O,0<=q->(Yme l C q O).2.1->0<=(Yme l C q O).2.2/\((Yme l C q O).1.length:Int)+(Yme l C q O).2.2<=O.length+q
 | [],_,C,q,O,h0,_=>by rw[Yup];simp only;omega
 | [x],hx,C,q,O,h0,h=>by
  rw[Y14z]at h|-
  by_cases e:(bli x C q).2.1
  ·rw[ae e]at h|-
   have h1:=hx x aj C q h0 e
   have h2:=Y149 [] (λ_ h=>by cases h) C _ (O++[(bli x C q).1]) h1.1 h
   simp only[aw,bh]at h2;omega
  ·rw[ab e]at h;cases h
 | x :: y :: r,hx,C,q,O,h0,h=>by
  rw[Yxu]at h|-
  by_cases d:Ylj y
  ·rw[ae d]at h|-
   by_cases e:(iR C x q O).2.1
   ·rw[ae e]at h|-
    have h1:0<=(iR C x q O).2.2/\((iR C x q O).1.length:Int)+(iR C x q O).2.2<=O.length+q:=by
     unfold iR at e|-
     by_cases c:rqB C x
     ·rw[ae c]at e|-
      exact Y1h6 (λj q=>hx x aj _ q) _ q O h0 e
     ·rw[ab c]at e;cases e
    have h2:=Y149 r (λz hz=>hx z (ai _ (ai _ hz))) C _ (iR C x q O).1 h1.1 h
    omega
   ·rw[ab e]at h;exact absurd h e
  ·rw[ab d]at h|-
   by_cases e:(bli x C q).2.1
   ·rw[ae e]at h|-
    have h1:=hx x aj C q h0 e
    have h2:=Y149 (y :: r) (λz hz=>hx z (ai _ hz)) C _ (O++[(bli x C q).1]) h1.1 h
    simp only[aw,bh]at h2;omega
   ·rw[ab e]at h;cases h
theorem Y120:∀ (t:YS_) (C:List YC) (q:Int),0<=q->(bli t C q).2.1->0<=(bli t C q).2.2/\(bli t C q).2.2+1<=q:=by
 refine YS_.ind λt ih C q h0 h => ?_
 have h3:=Ym7 (Ymi C t).form
 rw[Yu1]at h|-
 by_cases c2:t.Ka=1/\0<=fnd C t
 ·rw[ae c2]at h|-
  by_cases c4:(Ymi C t).depth≠0
  ·rw[ae c4]at h;cases h
  ·rw[ab c4]at h|-
   by_cases c5:Yld (Ymi C t).form
   ·rw[ae c5]at h|-
    simp only[ak]at h|-
    omega
   ·rw[ab c5]at h;cases h
 ·rw[ab c2]at h|-
  by_cases c1:q - 1<0
  ·rw[ae c1]at h;cases h
  rw[ab c1]at h|-
  by_cases c6:(Yme t.Ia C (q - 1) []).2.1
  ·rw[ae c6]
   have:=Y149 t.Ia ih C (q - 1) [] oW c6
   simp only[bo]at this|-;omega
  ·rw[ab c6]at h;cases h
theorem Y1uy (C:List YC) (x:YS_) (j:Nat) (q:Int) (O:List YS_) (h0:0<=q) (h:(iI C x j q O).2.1):0<=(iI C x j q O).2.2/\((iI C x j q O).1.length:Int)+(iI C x j q O).2.2<=O.length+q:=
 Y1h6 (λj q=>Y120 x _ q) j q O h0 h
theorem Y1ii (C:List YC) (x:YS_) (j:Nat) (q:Int) (O:List YS_) (h:(iI C x j q O).2.1):iI C x (j+1) q O=((iI C x j q O).1++[(bli x (stq C x j) (iI C x j q O).2.2).1],(bli x (stq C x j) (iI C x j q O).2.2).2.1,(bli x (stq C x j) (iI C x j q O).2.2).2.2):=Yuj _ j q O h
theorem Y1xu (C:List YC) (x:YS_) (j n:Nat) (q:Int) (O:List YS_) (h:(iI C x j q O).2.1=false) (hn:j<=n):iI C x n q O=iI C x j q O:=Y1cu _ j q O h n hn
theorem Y20c {C:List YC}(hC:∀ z∈C,mxP z<=1000000000) (a:Nat) (I:List Int):∀ z∈Ytn C a I,mxP z<=1000000000:=by
 have:∀ (I:List Int) (O:List YC),(∀ z∈O,mxP z<=1000000000)->∀ z∈I.foldl (λO i=>O.set i.toNat ((C.g i.toNat).each.g a)) O,mxP z<=1000000000:=by
  intro I
  induction I with
  | nil=>intro O h;exact h
  | cons x r ih=>
   intro O h
   rw[bL]
   refine ih _ λz hz => ?_
   rcases bS hz with h2|h2
   ·exact h z h2
   ·rw[h2];exact Y20g hC _ _
 exact this I C hC
mutual
def nmZ:YS_->List YS_
 | ⟨k,n,t,s,l⟩=>(if k=1 then [⟨k,n,t,s,l⟩] else [])++Y1ey l
def Y1ey:List YS_->List YS_
 | []=>[]
 | x :: r=>nmZ x++Y1ey r
end
theorem Y1kv:∀ l,Y1ey l=l.flatMap nmZ
 | []=>by simp[Y1ey]
 | x :: r=>by rw[Y1ey,Y1kv r];simp
theorem Yp4 (x:YS_):nmZ x=(if x.Ka=1 then [x] else [])++x.Ia.flatMap nmZ:=by cases x;simp only[nmZ,Y1kv]
def Yu6 (o:List YS_) (y:YS_):List YS_:=if Ynu o y=false then o++[y] else o
def Y145 (C:List YC) (o:List Int) (y:YS_):List Int:=if rep C y/\fnd C y∉o then o++[fnd C y] else o
theorem Y10o {α β γ:Type}(f:γ->α->γ) (g:γ->β->γ) (h:β->List α):∀ (l:List β),(∀ x∈l,∀ o,g o x=(h x).foldl f o)->∀ o,l.foldl g o=(l.flatMap h).foldl f o
 | [],_,o=>rfl
 | x :: r,hx,o=>by
  rw[bL,bU,cO,hx x aj,Y10o f g h r λy hy=>hx y (ai _ hy)]
theorem Y1u8:∀ (x:YS_) (o:List YS_),Yn9 x o=(nmZ x).foldl Yu6 o:=by
 refine YS_.ind λx ih o => ?_
 rw[Y1yu,Yp4,cO,Y10o Yu6 _ nmZ x.Ia ih]
 congr 1
 unfold Y1s2
 by_cases h:x.Ka=1
 ·rw[ae h];simp[Yu6,h]
 ·rw[ab h];simp[h]
theorem Y1x3 (C:List YC):∀ (x:YS_) (o:List Int),rpi C x o=(nmZ x).foldl (Y145 C) o:=by
 refine YS_.ind λx ih o => ?_
 rw[Y1fx,Yp4,cO,Y10o (Y145 C) _ nmZ x.Ia ih]
 congr 1
 unfold Yvw
 by_cases h:x.Ka=1
 ·rw[ae h];simp[Y145,h]
 ·rw[ab h];simp[h]
theorem Y1e9:∀ (x:YS_),∀ y∈nmZ x,y.Ka=1:=by
 refine YS_.ind λx ih y hy => ?_
 rw[Yp4,az,bk]at hy
 rcases hy with hy|⟨z,hz,hy⟩
 ·split at hy
  ·rename_i h;rw[an]at hy;subst hy;exact h
  ·cases hy
 ·exact ih z hz y hy
theorem Y1u5 {C:List YC}{a b:YS_}(h1:a.Ta=b.Ta) (h2:a.Sa=b.Sa) (ha:a.Ka=1) (hb:b.Ka=1):fnd C a=fnd C b:=by
 have e:Yq3 a=Yq3 b:=by funext x;simp only[Yq3,h1,h2]
 simp only[fnd,Yrc,Ylj,e,h1,ha,hb]
theorem Y1sy {o:List YS_}{y:YS_}:Ynu o y ↔ ∃ z∈o,z.Ta=y.Ta/\z.Sa=y.Sa:=by
 simp only[Ynu,cJ,af,ak]
theorem Y1p2 (L:List YS_):∀ (o:List YS_),(∀ z∈L.foldl Yu6 o,z∈o\/z∈L)/\(∀ y,y∈o\/y∈L->∃ z∈L.foldl Yu6 o,z.Ta=y.Ta/\z.Sa=y.Sa):=by
 induction L with
 | nil=>intro o;exact⟨λz hz=>.inl hz,λy hy=>⟨y,by simpa using hy,rfl,rfl⟩⟩
 | cons x r ih=>
  intro o
  rw[bL]
  obtain⟨h1,h2⟩:=ih (Yu6 o x)
  constructor
  ·intro z hz
   rcases h1 z hz with h|h
   ·unfold Yu6 at h
    split at h
    ·rcases List.mem_append.1 h with h|h
     ·exact .inl h
     ·rw[List.mem_singleton.1 h];exact .inr aj
    ·exact .inl h
   ·exact .inr (ai _ h)
  ·intro y hy
   have h3:∃ z∈Yu6 o x,z.Ta=x.Ta/\z.Sa=x.Sa:=by
    unfold Yu6
    by_cases e:Ynu o x=false
    ·rw[ae e];exact⟨x,by simp,rfl,rfl⟩
    ·rw[ab e];exact Y1sy.1 (by simpa using e)
   have h4:∀ z∈o,z∈Yu6 o x:=λz hz=>by unfold Yu6;split<;>simp[hz]
   rcases hy with hy|hy
   ·exact h2 y (.inl (h4 y hy))
   ·rcases List.mem_cons.1 hy with rfl|hy
    ·obtain⟨z,hz,e1,e2⟩:=h3
     obtain⟨w,hw,e3,e4⟩:=h2 z (.inl hz)
     exact⟨w,hw,e3.trans e1,e4.trans e2⟩
    ·exact h2 y (.inr hy)
theorem Y1p1 (C:List YC) (L:List YS_):∀ (o:List Int) (i:Int),i∈L.foldl (Y145 C) o ↔ (i∈o\/∃ y∈L,rep C y/\fnd C y=i):=by
 induction L with
 | nil=>intro o i;simp
 | cons x r ih=>
  intro o i
  rw[bL,ih]
  have e:i∈Y145 C o x ↔ (i∈o\/(rep C x/\fnd C x=i)):=by
   unfold Y145
   by_cases h:rep C x/\fnd C x∉o
   ·rw[ae h,az,an]
    constructor
    ·rintro(a|rfl)
     ·exact .inl a
     ·exact .inr ⟨h.1,rfl⟩
    ·rintro(a|⟨_,rfl⟩)
     ·exact .inl a
     ·exact .inr rfl
   ·rw[ab h]
    constructor
    ·exact .inl
    ·rintro(a|⟨a,rfl⟩)
     ·exact a
     ·exact Decidable.byContradiction λn=>h ⟨a,n⟩
  rw[e]
  simp only[aB,exists_eq_or_imp,or_assoc]
theorem Yun {C:List YC}{x:YS_}{i:Int}:i∈rpX C x ↔ ∃ y∈Yn9 x [],rep C y/\fnd C y=i:=by
 unfold rpX
 rw[Y1x3,Y1p1,Y1u8]
 have h:=Y1p2 (nmZ x) []
 constructor
 ·rintro(a|⟨y,hy,h1,h2⟩)
  ·cases a
  ·obtain⟨z,hz,e1,e2⟩:=h.2 y (.inr hy)
   have hz':z∈nmZ x:=by rcases h.1 z hz with a|a;cases a;exact a
   have e:=@Y1u5 C z y e1 e2 (Y1e9 x z hz') (Y1e9 x y hy)
   exact⟨z,hz,by simpa[rep,Ymi,e] using h1,e.trans h2⟩
 ·rintro⟨y,hy,h1,h2⟩
  refine .inr ⟨y,?_,h1,h2⟩
  rcases h.1 y hy with a|a
  ·cases a
  ·exact a
theorem Y19l {C:List YC}{y:YS_}(h:rep C y):lnI C (fnd C y)=((Ymi C y).each.length:Int)/\0<=fnd C y:=by
 simp only[rep,af,ak]at h
 exact⟨rfl,h.1⟩
theorem Y1va {C:List YC}{I:List YS_}{n:Int}(h0:0<=n):∀ m,(∀ j,j<m->rep C (I.g j)->((Ymi C (I.g j)).each.length:Int)=n)->Y15n C I m/\(cnN C I m=n\/cnN C I m = -1)
 | 0,_=>⟨rfl,.inr rfl⟩
 | m+1,h=>by
  obtain⟨h1,h2⟩:=Y1va h0 m λj hj=>h j oW
  have h3:=h m oW
  simp only[Y15n,cnN,af,aF,aL,ak]
  by_cases e:rep C (I.g m)
  ·rw[ae e]
   have:=h3 e
   refine⟨⟨h1,?_⟩,.inl this⟩
   rcases h2 with h2|h2
   ·exact .inr oW
   ·exact .inl (.inr oW)
  ·rw[ab e]
   exact⟨⟨h1,.inl (.inl (by simpa using e))⟩,h2⟩
theorem Y1km {C:List YC}{I:List YS_}:∀ m,m<=I.length->0<=cnN C I m->∃ y∈I,rep C y
 | 0,_,h=>by simp only[cnN]at h;omega
 | m+1,hm,h=>by
  simp only[cnN]at h
  split at h
  ·rename_i e;exact⟨_,Yl6 oW,e⟩
  ·exact Y1km m oW h
theorem Y24a (C:List YC) (x:YS_):rqB C x=cnB C x/\(cnB C x->rqN C x=bN C x):=by
 have hall:cnB C x->∀ i∈rpX C x,lnI C i=cnN C (Yn9 x []) (Yn9 x []).length:=by
  intro h i hi
  simp only[cnB,af,ak]at h
  obtain⟨y,hy,h1,rfl⟩:=Yun.1 hi
  rw[(Y19l h1).1]
  obtain⟨j,hj,rfl⟩:=dO hy
  have e:(Yn9 x [])[j]=(Yn9 x []).g j:=by simp[hj]
  rw[e]at h1|-
  exact Y1ea _ j hj h.1 h1
 have hne:cnB C x->0<(rpX C x).length:=by
  intro h
  simp only[cnB,af,ak]at h
  obtain⟨y,hy,h1⟩:=Y1km _ (aC _) h.2
  exact List.length_pos_of_mem (Yun.2 ⟨y,hy,h1,rfl⟩)
 refine⟨?_,λh => ?_⟩
 ·rw[cp]
  constructor
  ·intro h
   simp only[rqB,rqA,af,aL,aM,am,ak]at h
   have hl:0<(rpX C x).length:=by omega
   have h0:0<=lnI C ((rpX C x).getD 0 default):=by simp only[lnI];omega
   have h1:=@Y1va C (Yn9 x []) _ h0 (Yn9 x []).length λj hj hr=>by
    rw[<- (Y19l hr).1]
    exact h.2 _ (Yun.2 ⟨_,Yl6 hj,hr,rfl⟩)
   obtain⟨y,hy,hr,_⟩:=Yun.1 (Yl6 hl)
   obtain⟨j,hj,rfl⟩:=dO hy
   have e:(Yn9 x [])[j]=(Yn9 x []).g j:=by simp[hj]
   rw[e]at hr
   have:=Y1ea _ j hj h1.1 hr
   simp only[cnB,af,ak]
   exact⟨h1.1,by omega⟩
  ·intro h
   have h1:=hall h
   have h2:=hne h
   simp only[rqB,rqA,af,aL,aM,am,ak]
   exact⟨by omega,λi hi=>by rw[h1 i hi,h1 _ (Yl6 h2)]⟩
 ·have h1:=hall h ((rpX C x).getD 0 default) (Yl6 (hne h))
  simp only[lnI]at h1
  simp only[rqN,bN];omega
theorem Y1k7 (C:List YC) (a p:Nat):∀ L,(Y10c C a L)[p]? = if (∃ y∈L,rep C y/\(fnd C y).toNat=p)/\p<C.length then some ((C.g p).each.g a) else C[p]?
 | []=>by simp[Y10c]
 | x :: r=>by
  have ih:=Y1k7 C a p r
  have hl:=Y1hd C a r
  have er:(0<=fnd C x/\0<(C.g (fnd C x).toNat).depth) ↔ rep C x:=by
   unfold rep;rw[af,ak,ak];exact dQ
  simp only[Y10c]
  by_cases e:rep C x
  ·rw[ae (er.2 e),bM,hl]
   by_cases e2:(fnd C x).toNat=p
   ·rw[ae e2]
    by_cases e3:p<C.length
    ·rw[ae oW,ae ⟨⟨x,aj,e,e2⟩,e3⟩,e2]
    ·rw[ab oW,ab (λh=>e3 h.2)]
     rw[bf oW]
   ·rw[ab e2,ih]
    congr 1
    apply propext
    constructor
    ·rintro⟨⟨y,hy,h⟩,h2⟩;exact⟨⟨y,ai _ hy,h⟩,h2⟩
    ·rintro⟨⟨y,hy,h⟩,h2⟩
     rcases List.mem_cons.1 hy with rfl|hy
     ·exact absurd h.2 e2
     ·exact⟨⟨y,hy,h⟩,h2⟩
  ·rw[ab (λh=>e (er.1 h)),ih]
   congr 1
   apply propext
   constructor
   ·rintro⟨⟨y,hy,h⟩,h2⟩;exact⟨⟨y,ai _ hy,h⟩,h2⟩
   ·rintro⟨⟨y,hy,h⟩,h2⟩
    rcases List.mem_cons.1 hy with rfl|hy
    ·exact absurd h.1 e
    ·exact⟨⟨y,hy,h⟩,h2⟩
theorem Y1z0 (C:List YC) (a p:Nat) (I:List Int):(Ytn C a I)[p]? = if (∃ i∈I,i.toNat=p)/\p<C.length then some ((C.g p).each.g a) else C[p]? := by
 have:∀ (I:List Int) (O:List YC),O.length=C.length->(I.foldl (λO i=>O.set i.toNat ((C.g i.toNat).each.g a)) O)[p]? = if (∃ i∈I,i.toNat=p)/\p<C.length then some ((C.g p).each.g a) else O[p]? := by
  intro I
  induction I with
  | nil=>intro O _;simp
  | cons x r ih=>
   intro O hO
   rw[bL,ih _ (by rw[cd];exact hO),bM,hO]
   by_cases e3:p<C.length
   ·by_cases e:∃ i∈r,i.toNat=p
    ·obtain⟨i,hi,h⟩:=e
     rw[ae ⟨⟨i,hi,h⟩,e3⟩,ae ⟨⟨i,ai _ hi,h⟩,e3⟩]
    ·rw[ab (λh=>e h.1)]
     by_cases e2:x.toNat=p
     ·rw[ae e2,ae oW,ae ⟨⟨x,aj,e2⟩,e3⟩,e2]
     ·rw[ab e2,ab]
      rintro⟨⟨i,hi,h⟩,_⟩
      rcases List.mem_cons.1 hi with rfl|hi
      ·exact e2 h
      ·exact e ⟨i,hi,h⟩
   ·have n1:¬ ((∃ i∈r,i.toNat=p)/\p<C.length):=λh=>e3 h.2
    have n2:¬ ((∃ i∈x :: r,i.toNat=p)/\p<C.length):=λh=>e3 h.2
    rw[ab n1,ab n2]
    split
    ·rename_i h;rw[ab oW,bf oW]
    ·rfl
 exact this I C rfl
theorem Y224 (C:List YC) (x:YS_) (a:Nat):stq C x a=Y1l6 C x a:=by
 apply cD
 intro p
 unfold stq Y1l6 Y13l
 rw[Y1z0,Y1k7,b8]
 congr 1
 apply propext
 constructor
 ·rintro⟨⟨i,hi,h⟩,h2⟩
  obtain⟨y,hy,h3,rfl⟩:=Yun.1 hi
  exact⟨⟨y,List.mem_reverse.2 hy,h3,h⟩,h2⟩
 ·rintro⟨⟨y,hy,h3,h⟩,h2⟩
  exact⟨⟨_,Yun.2 ⟨y,List.mem_reverse.1 hy,h3,rfl⟩,h⟩,h2⟩
def Yzx (s:YS_):Prop:=okY s/\Ylw s<=40
theorem Y1gd {f:Nat->Int->YS_×Bool×Int}{z:YS_}{q:Int}{O:List YS_}(h:z∈O):∀ j,z∈(itr f j q O).1
 | 0=>h
 | j+1=>by
  have:=Y1gd (f:=f) (q:=q) h j
  simp only[itr];split
  ·exact aY _ this
  ·exact this
theorem Y1fa {f:Nat->Int->YS_×Bool×Int}{q:Int}{O:List YS_}{j:Nat}(h:(itr f (j+1) q O).2.1):(itr f j q O).2.1:=by
 simp only[itr]at h;split at h
 ·assumption
 ·exact h
theorem Y1iw {f g:Nat->Int->YS_×Bool×Int}(hg:∀ j q,0<=q->(g j q).2.1->0<=(g j q).2.2/\(g j q).2.2+1<=q)
  (h:∀ j q,0<=q->q<=2000->((g j q).2.1->f j q=g j q)/\((f j q).2.1->Yzx (f j q).1->(g j q).2.1)) {q:Int} (h0:0<=q) (h1:q<=2000) (O:List YS_) :
  ∀ j,((itr g j q O).2.1->itr f j q O=itr g j q O/\0<=(itr g j q O).2.2/\(itr g j q O).2.2<=q)/\((itr f j q O).2.1->(∀ z∈(itr f j q O).1,Yzx z)->(itr g j q O).2.1)
 | 0=>⟨λ_=>⟨rfl,h0,aJ _⟩,λ_ _=>rfl⟩
 | j+1=>by
  obtain⟨ih1,ih2⟩:=Y1iw hg h h0 h1 O j
  constructor
  ·intro ht
   have hj:=Y1fa ht
   obtain⟨e,b1,b2⟩:=ih1 hj
   rw[Yuj g j q O hj]at ht|-
   rw[Yuj f j q O (by rw[e];exact hj),e]
   have h3:=(h j _ b1 oW).1 ht
   have h4:=hg j _ b1 ht
   rw[h3]
   exact⟨rfl,h4.1,by simp only;omega⟩
  ·intro ht hz
   have hj:=Y1fa ht
   rw[Yuj f j q O hj]at ht hz
   have hgj:=ih2 hj λz hz'=>hz z (aY _ hz')
   obtain⟨e,b1,b2⟩:=ih1 hgj
   rw[Yuj g j q O hgj]
   have h3:=(h j (itr f j q O).2.2 (by rw[e];exact b1) (by rw[e];omega)).2 ht (hz _ (bc _ (List.mem_singleton.2 rfl)))
   rw[e]at h3
   exact h3
theorem Y1im {C:List YC}{x z:YS_}{q:Int}{O:List YS_}(h:z∈O):z∈(bR C x q O).1:=by
 unfold bR bJ bI;split
 ·exact Y1gd h _
 ·exact h
theorem Yvl:∀ (l:List YS_) (C:List YC) (q:Int) (O:List YS_) (z:YS_),z∈O->z∈(Yp3 l C q O).1
 | [],C,q,O,z,h=>by rw[Yut];exact h
 | [x],C,q,O,z,h=>by
  rw[Y162];split
  ·exact Yvl [] C _ _ z (aY _ h)
  ·exact h
 | x :: y :: r,C,q,O,z,h=>by
  rw[Y11q];split
  ·split
   ·exact Yvl r C _ _ z (Y1im h)
   ·exact Y1im h
  ·split
   ·exact Yvl (y :: r) C _ _ z (aY _ h)
   ·exact h
def Y1u1 (x:YS_):Prop:=∀ C q,0<=q->q<=2000->((bli x C q).2.1->bld x C q=bli x C q)/\((bld x C q).2.1->Yzx (bld x C q).1->(bli x C q).2.1)
theorem Y207 {x:YS_}(hx:Y1u1 x) (C:List YC) {q:Int}(h0:0<=q) (h1:q<=2000) (O:List YS_) :
  ((iR C x q O).2.1->bR C x q O=iR C x q O/\0<=(iR C x q O).2.2/\(iR C x q O).2.2<=q)/\((bR C x q O).2.1->(∀ z∈(bR C x q O).1,Yzx z)->(iR C x q O).2.1):=by
 obtain⟨e1,e2⟩:=Y24a C x
 unfold iR bR bJ
 rw[e1]
 by_cases c:cnB C x
 ·rw[ae c,ae c,e2 c]
  have e3:iI C x (bN C x) q O=itr (λj q=>bli x (Y1l6 C x j) q) (bN C x) q O:=by unfold iI;congr 1;funext j m;rw[Y224]
  rw[e3]
  exact Y1iw (λj q=>Y120 x _ q) (λj q a b=>hx _ q a b) h0 h1 O (bN C x)
 ·rw[ab c,ab c]
  exact⟨λh=>(by cases h),λh=>(by cases h)⟩
theorem Yxf:∀ (l:List YS_) (b:Bool),(∀ x∈l,Yrb x->Y1u1 x)->(∀ x,l.head? = some x->Ylj x=false)->Ymp b l->∀ C q O,0<=q->q<=2000 ->
  ((Yme l C q O).2.1->Yp3 l C q O=Yme l C q O)/\((Yp3 l C q O).2.1->(∀ z∈(Yp3 l C q O).1,Yzx z)->(Yme l C q O).2.1)
 | [],b,_,_,_,C,q,O,h0,h1=>by rw[Yut,Yup];exact⟨λ_=>rfl,λ_ _=>rfl⟩
 | [x],b,hx,hh,hd,C,q,O,h0,h1=>by
  have hn:Ylj x=false:=hh x rfl
  simp only[Ymp,hn,Bool.and_true]at hd
  have h:=hx x aj (by simpa using hd) C q h0 h1
  rw[Y162,Y14z,Yut,Yup]
  constructor
  ·intro ht
   by_cases e:(bli x C q).2.1
   ·rw[ae e,h.1 e,ae e]
   ·rw[ab e]at ht;cases ht
  ·intro ht hz
   by_cases e:(bld x C q).2.1
   ·rw[ae e]at hz
    have:=h.2 e (hz _ (bc _ (List.mem_singleton.2 rfl)))
    rw[ae this]
   ·rw[ab e]at ht;cases ht
 | x :: y :: r,b,hx,hh,hd,C,q,O,h0,h1=>by
  have hn:Ylj x=false:=hh x rfl
  have hd2:Yrb x/\Ymp false (y :: r):=by
   rw[Ymp,hn]at hd
   simpa using hd
  have hxr:=hx x aj hd2.1
  rw[Y11q,Yxu]
  by_cases d:Ylj y
  ·rw[ae d,ae d]
   have hr:Ymp true r:=by
    have:=hd2.2
    rw[Ymp,d]at this
    simpa using this
   have hrh:∀ z,r.head? = some z->Ylj z=false:=by
    intro z hz
    cases r with
    | nil=>cases hz
    | cons w r=>
     simp only[List.head?_cons,aa]at hz
     subst hz
     cases e:Ylj w with
     | false=>rfl
     | true=>rw[Ymp,e]at hr;simp at hr
   have h:=Y207 hxr C h0 h1 O
   constructor
   ·intro ht
    by_cases e:(iR C x q O).2.1
    ·obtain⟨e1,b1,b2⟩:=h.1 e
     rw[ae e]at ht|-
     rw[e1,ae e]
     exact(Yxf r true (λz hz=>hx z (ai _ (ai _ hz))) hrh hr C _ _ b1 oW).1 ht
    ·rw[ab e]at ht;exact absurd ht e
   ·intro ht hz
    by_cases e:(bR C x q O).2.1
    ·rw[ae e]at ht hz
     have hi:=h.2 e λz hz'=>hz z (Yvl r C _ _ z hz')
     obtain⟨e1,b1,b2⟩:=h.1 hi
     rw[ae hi]
     rw[e1]at ht hz
     exact(Yxf r true (λz hz=>hx z (ai _ (ai _ hz))) hrh hr C _ _ b1 oW).2 ht hz
    ·rw[ab e]at ht;exact absurd ht e
  ·rw[ab d,ab d]
   have h:=hxr C q h0 h1
   have hyh:∀ z,(y :: r).head? = some z->Ylj z=false:=by
    intro z hz
    simp only[List.head?_cons,aa]at hz
    subst hz;simpa using d
   constructor
   ·intro ht
    by_cases e:(bli x C q).2.1
    ·have hb:=Y120 x C q h0 e
     rw[ae e]at ht|-
     rw[h.1 e,ae e]
     exact(Yxf (y :: r) false (λz hz=>hx z (ai _ hz)) hyh hd2.2 C _ _ hb.1 oW).1 ht
    ·rw[ab e]at ht;cases ht
   ·intro ht hz
    by_cases e:(bld x C q).2.1
    ·rw[ae e]at ht hz
     have hi:=h.2 e (hz _ (Yvl (y :: r) C _ _ _ (bc _ (List.mem_singleton.2 rfl))))
     have hb:=Y120 x C q h0 hi
     rw[ae hi]
     rw[h.1 hi]at ht hz
     exact(Yxf (y :: r) false (λz hz=>hx z (ai _ hz)) hyh hd2.2 C _ _ hb.1 oW).2 ht hz
    ·rw[ab e]at ht;cases ht
theorem Y1l7 {l:List YS_}(h:Ymp true l):∀ x,l.head? = some x->Ylj x=false:=by
 intro x hx
 cases l with
 | nil=>cases hx
 | cons y r=>
  simp only[List.head?_cons,aa]at hx
  subst hx
  cases e:Ylj y with
  | false=>rfl
  | true=>rw[Ymp,e]at h;simp at h
theorem Y1t4 {t:YS_}(h:okY t):(t.Ka=1->t.Ia=[])/\(t.Ka≠1->t.Sa=[]):=by
 rw[Ypo]at h
 simp only[Yq6,Ypx,af,aF,ak]at h
 constructor
 ·intro hk
  have:(t.Ia.length:Int)=0:=by omega
  exact List.length_eq_zero_iff.1 oW
 ·intro hk
  have:(t.Sa.length:Int)=0:=by omega
  exact List.length_eq_zero_iff.1 oW
theorem Y251 (t:YS_):t=⟨t.Ka,t.Na,t.Ta,t.Sa,t.Ia⟩:=by cases t;rfl
theorem Y1xr:∀ t,okY t->Yrb t->Y1u1 t:=by
 refine YS_.ind λt ih hok hdot C q h0 h1 => ?_
 have hn:=Y1t4 hok
 have hd:=Y1a8 t
 rw[hdot]at hd
 have hd1:Ylj t=false/\Ymp true t.Ia:=by
  have:=hd.symm
  simpa using this
 have hsz:=Ym7 (Ymi C t).form
 by_cases hc:t.Ka=1/\0<=fnd C t
 ·rw[Yu1,ae hc,Y1ex,ae hc.1,ab (by rw[hd1.1];simp;omega:¬ (Ylj t\/fnd C t<0))]
  by_cases c4:(Ymi C t).depth≠0
  ·rw[ae c4,ae c4]
   exact⟨λh=>(by cases h),λh=>(by split at h<;>cases h)⟩
  ·rw[ab c4,ab c4]
   constructor
   ·intro h
    by_cases c5:Yld (Ymi C t).form
    ·rw[ae c5]at h|-
     simp only[ak]at h
     rw[ab oW,ae oW]
     have e:max (q - (Ylg (Ymi C t).form:Int)) (-1)=q - Ylg (Ymi C t).form:=by omega
     rw[e,bF h]
    ·rw[ab c5]at h;cases h
   ·intro h hg
    by_cases c1:q - 1<0
    ·rw[ae c1]at h;cases h
    ·rw[ab c1]at h hg
     by_cases c6:(Ylg (Ymi C t).form:Int)<=q
     ·rw[ae c6]at hg
      have c5:Yld (Ymi C t).form:=by
       simp only[Yld,af,ak]
       exact⟨⟨by omega,hg.2⟩,hg.1⟩
      rw[ae c5]
      simp only[ak];omega
     ·rw[ab c6]at h;cases h
 ·rw[Yu1,ab hc,Y1ex]
  by_cases c1:q - 1<0
  ·rw[ae c1,ae c1]
   exact⟨λh=>(by cases h),λh=>(by cases h)⟩
  ·rw[ab c1,ab c1]
   by_cases hk:t.Ka=1
   ·have hi:=hn.1 hk
    rw[ae hk,ae (Or.inr oW:Ylj t\/fnd C t<0),hi,Yup,hd1.1]
    refine⟨λ_ => ?_,λ_ _=>rfl⟩
    have e:t=⟨t.Ka,t.Na,t.Ta,t.Sa,[]⟩:=Eq.trans (Y251 t) (by rw[hi])
    show (t,true,q - 1)=((⟨t.Ka,t.Na,t.Ta,t.Sa,[]⟩:YS_),true,q - 1)
    rw[<- e]
   ·rw[ab hk]
    have hs:=hn.2 hk
    have hall:∀ x∈t.Ia,okY x:=by
     rw[Ypo,af,am]at hok;exact hok.1
    have h:=Yxf t.Ia true (λx hx=>ih x hx (hall x hx)) (Y1l7 hd1.2) hd1.2 C (q - 1) [] oW oW
    constructor
    ·intro ht
     by_cases e:(Yme t.Ia C (q - 1) []).2.1
     ·rw[ae e,h.1 e,ae e,hs]
     ·rw[ab e]at ht;cases ht
    ·intro ht hg
     by_cases e:(Yp3 t.Ia C (q - 1) []).2.1
     ·rw[ae e]at hg
      have hz:∀ z∈(Yp3 t.Ia C (q - 1) []).1,Yzx z:=by
       intro z hz
       obtain⟨g1,g2⟩:=hg
       rw[Ypo,af,am]at g1
       rw[Yqd]at g2
       have:=Ytj Ylw hz
       exact⟨g1.1 z hz,by simp only at g2;omega⟩
      rw[ae (h.2 e hz)]
     ·rw[ab e]at ht;cases ht
def Yvu (t:YS_) (C:List YC):Bool:=Yld t&&Yrb t&&(bld t C 2000).2.1&&Yld (bld t C 2000).1
def Yyu (t:YS_) (C:List YC):YS_:=if Yvu t C then (bld t C 2000).1 else zY
theorem Y1sa {t:YS_}(C:List YC) (h1:Yld t) (h2:Yrb t):Yvu t C=((bli t C 2000).2.1&&Yld (bli t C 2000).1)/\((bli t C 2000).2.1->(bld t C 2000).1=(bli t C 2000).1):=by
 have hok:okY t:=by simp only[Yld,af]at h1;exact h1.2
 have h:=Y1xr t hok h2 C 2000 dW dW
 refine⟨?_,λe=>by rw[h.1 e]⟩
 unfold Yvu
 rw[h1,h2,cp]
 simp only[dk,af]
 constructor
 ·rintro⟨a,b⟩
  have hg:Yzx (bld t C 2000).1:=by simp only[Yld,af,ak]at b;exact⟨b.2,b.1.2⟩
  have:=h.2 a hg
  exact⟨this,by rw[<- h.1 this];exact b⟩
 ·rintro⟨a,b⟩
  rw[h.1 a];exact⟨a,b⟩
section
variable {t:YS_}{C:List YC}{q:Int}
theorem Y20d (h1:t.Ka=1) (h3:0<=fnd C t) (h4:¬ (C.g (fnd C t).toNat).depth=0):bli t C q=(zY,false,q):=by
 rw[Yu1,ae ⟨h1,h3⟩,ae (show (Ymi C t).depth≠0 from h4)]
theorem Y22q (h1:t.Ka=1) (h3:0<=fnd C t) (h4:(C.g (fnd C t).toNat).depth=0) (h5:(Yn1 (C.g (fnd C t).toNat).form 1 0).1=false):bli t C q=(zY,false,q):=by
 rw[Y10w]at h5
 rw[Yu1,ae ⟨h1,h3⟩,ab (by intro e;exact e h4),ab (by show ¬ Yld (C.g (fnd C t).toNat).form;rw[h5];decide)]
theorem Y1zd (h1:t.Ka=1) (h3:0<=fnd C t) (h4:(C.g (fnd C t).toNat).depth=0) (h5:(Yn1 (C.g (fnd C t).toNat).form 1 0).1):bli t C q=((C.g (fnd C t).toNat).form,decide (0<=q - (Yn1 (C.g (fnd C t).toNat).form 1 0).2),q - (Yn1 (C.g (fnd C t).toNat).form 1 0).2):=by
 have e:=(Yz0 (C.g (fnd C t).toNat).form 1 0 dW).2 h5
 rw[Y10w]at h5
 rw[Yu1,ae ⟨h1,h3⟩,ab (by intro e;exact e h4),ae (show Yld (Ymi C t).form from h5),e,Int.zero_add];rfl
theorem Y22i (h1:¬ (t.Ka=1/\0<=fnd C t)) (h:q - 1<0):bli t C q=(zY,false,q - 1):=by rw[Yu1,ab h1,ae h]
theorem Y21h (h1:¬ (t.Ka=1/\0<=fnd C t)) (h:¬ q - 1<0) (h2:(Yme t.Ia C (q - 1) []).2.1):bli t C q=(⟨t.Ka,t.Na,t.Ta,t.Sa,(Yme t.Ia C (q - 1) []).1⟩,true,(Yme t.Ia C (q - 1) []).2.2):=by rw[Yu1,ab h1,ab h,ae h2]
theorem Y20i (h1:¬ (t.Ka=1/\0<=fnd C t)) (h:¬ q - 1<0) (h2:(Yme t.Ia C (q - 1) []).2.1=false):bli t C q=(zY,false,(Yme t.Ia C (q - 1) []).2.2):=by rw[Yu1,ab h1,ab h,ab (by rw[h2];decide)]
end
theorem Y23s (C:List YC) (x:YS_) (q:Int) (O:List YS_) (h0:0<=q) (h:(iR C x q O).2.1):0<=(iR C x q O).2.2/\((iR C x q O).1.length:Int)+(iR C x q O).2.2<=O.length+q:=by
 unfold iR at h|-
 by_cases c:rqB C x
 ·rw[ae c]at h|-;exact Y1uy C x _ q O h0 h
 ·rw[ab c]at h;cases h
theorem Y11z {C:List YC}{x:YS_}{j:Nat}(h:j<(rpX C x).length):0<=(rpX C x).getD j 0/\(rpX C x).getD j 0<C.length/\((rpX C x).getD j 0).toNat<C.length:=by
 have h1:(rpX C x).getD j 0∈rpX C x:=Yl6 h
 obtain⟨y,_,hr,e⟩:=Yun.1 h1
 have h2:=(Y19l hr).2
 have h3:=Yvi C y
 rw[e]at h2 h3
 omega
theorem Y1tg {C:List YC}{I:List Int}{n:Int}{j:Nat}(h:j<I.length) (h0:rqA C (I.take j) n) (e:((C.g (I.getD j 0).toNat).each.length:Int)=n):rqA C (I.take (j+1)) n:=by
 have e2:I.g j=I.getD j 0:=rfl
 unfold rqA at *;rw[Ylk h,cA,h0,e2]
 simp only[dD,List.all_nil,Bool.and_true,dk];exact bF (show lnI C (I.getD j 0)=n from e)
theorem Y1ud {C:List YC}{I:List Int}{n:Int}{j:Nat}(h:j<I.length) (e:¬ ((C.g (I.getD j 0).toNat).each.length:Int)=n):rqA C I n=false:=by
 unfold rqA;rw[bW];exact⟨I.getD j 0,Yl6 h,by rw[show decide (lnI C (I.getD j 0)=n)=false from bK e];decide⟩
theorem Y20u {C:List YC}{x:YS_}{j:Nat}(h0:0<(rpX C x).length) (h:(rpX C x).length<=j) (e:rqA C ((rpX C x).take j) (lnI C ((rpX C x).getD 0 0))):rqB C x:=by
 rw[ar h]at e
 have e2:(rpX C x).getD 0 default=(rpX C x).getD 0 0:=rfl
 unfold rqB;rw[e2,e,bK oW];rfl
theorem Y21z {C:List YC}{x:YS_}{j:Nat}(h:j<(rpX C x).length) (e:¬ ((C.g ((rpX C x).getD j 0).toNat).each.length:Int)=((C.g ((rpX C x).getD 0 0).toNat).each.length:Int)) (q:Int) (O:List YS_):iR C x q O=(O,false,q):=by
 have e2:(rpX C x).getD 0 default=(rpX C x).getD 0 0:=rfl
 have h1:=Y1ud h e
 unfold iR rqB;rw[e2,show lnI C ((rpX C x).getD 0 0)=((C.g ((rpX C x).getD 0 0).toNat).each.length:Int) from rfl,h1];simp
theorem Y1ub {C:List YC}{x:YS_}(h:rqB C x) {j:Nat}(hj:j<(rpX C x).length):(C.g ((rpX C x).getD j 0).toNat).each.length=rqN C x:=by
 simp only[rqB,rqA,af,am,ak]at h
 have:=h.2 _ (Yl6 hj)
 simp only[lnI]at this
 exact Int.ofNat.inj this
theorem Y1ra {C:List YC}(hC:∀ z∈C,mxP z<=1000000000) {x:YS_}(h0:0<(rpX C x).length):rqN C x<=1000000000:=by
 have h1:=Y11z h0
 have h2:=hC _ (Yl6 h1.2.2)
 have h3:=Y17w (C.g ((rpX C x).getD 0 0).toNat)
 have e2:(rpX C x).getD 0 default=(rpX C x).getD 0 0:=rfl
 simp only[rqN,e2];omega
theorem Y1wi {C:List YC}{x:YS_}{a k:Nat}(h:(rpX C x).length<=k):Ytn C a ((rpX C x).take k)=stq C x a:=by rw[ar h]
theorem Y24t {C:List YC}{x:YS_}{j:Nat}{q:Int}{O:List YS_}(h:rqB C x) (hj:j<=rqN C x) (hn:rqN C x<=j):iR C x q O=iI C x j q O:=by
 unfold iR;rw[ae h,show rqN C x=j by omega]
theorem Y22h {C:List YC}{x:YS_}{j:Nat}{q:Int}{O:List YS_}(h:rqB C x) (hj:j<rqN C x) (h1:(iI C x j q O).2.1) (h2:(bli x (stq C x j) (iI C x j q O).2.2).2.1=false):(iR C x q O).2.1=false/\(iR C x q O).2.2=(bli x (stq C x j) (iI C x j q O).2.2).2.2:=by
 have e:=Y1ii C x j q O h1
 have e2:=Y1xu C x (j+1) (rqN C x) q O (by rw[e];exact h2) oW
 unfold iR;rw[ae h,e2,e];exact⟨h2,rfl⟩
theorem Y1wt {C:List YC}{k:Nat}{x:YC}:(C.map Yl7).set k (Ym3 x)=(C.set k x).map Yl7:=by rw[List.map_set,Yvc]
theorem dfI:(default:Int)=0:=rfl
theorem Y1ot {C:List YC}{I:List Int}{j:Nat}(h:j<I.length) (h0:rqA C (I.take j) (lnI C (I.getD 0 0))) (e:((C.g (I.getD j 0).toNat).each.length:Int)=((C.g (I.getD 0 0).toNat).each.length:Int)):rqA C (I.take (j+1)) (lnI C (I.getD 0 0)):=Y1tg h h0 e
theorem Y1z3 {k:Prop}[Decidable k] {x:Int}(h:0<=if k then x else -1):k/\0<=x:=by
 split at h
 ·exact⟨‹_›,h⟩
 ·omega
theorem Y1xv (s:YS_) (h:(Yn1 s 1 0).1):0<=(Yn1 s 1 0).2/\(Yn1 s 1 0).2<=2000:=by
 have h1:=((Yz0 s 1 0 dW).1).1 h
 have h2:=(Yz0 s 1 0 dW).2 h
 omega
section
abbrev Z9 (t:YS_) (C:List YC) (q:Int):Ct:=⟨167,[.box [vI q]],[.y 0,Yln t,Al C],.box [vI (bli t C q).2.2] :: Yp2 (bli t C q).1,.tup [Yoq (bli t C q).1 1,lb (bli t C q).2.1]⟩
def Z36 (t:YS_) (C:List YC) (q:Int) (k:Nat×Int×List YS_) (k1:Nat):Lp Nat:=let v1:=t.Ia.g k.1;let v6:Cell:=.y;let v2:=[vI 0,vI 0,vS (mkS []),.val v6,.val v6];let v3:=[vI t.Ka,vI t.Na,vS t.Ta,.ref 7,.ref 8];let v4:=(16,li (((C.g ((rpi C v1 []).getD 0 0).toNat).each.map Yl7).length:Int));let v5:=iI C v1 k1 k.2.1 k.2.2;.mk 206 1 (λx=>[(0,.y 0),(2,Al C),(4,.y 1),(6,.y 2),(10,.y 3),(11,li ((k.1:Int)+1)),(12,.y 4),(15,.r 5),v4,(19,li (k1:Int)),(20,.r 6),(171,.r 5),(172,li (((rpi C v1 []).map Yl4).length:Int)),(173,hs x 0)]) (λx=>[.box [vI v5.2.2],.box (vals (Yl8 t)),.box v2,.box v3,.box (vals (Yl8 v1)),.Aa (rpi C v1 []),ho x 1,.Aa t.Sa,.Ae v5.1]) (λk2=>[.s (li (k2:Int)),.o (.arr false 12 ((Ytn C k1 (List.take k2 (rpX C v1))).map Yl7))]) (λk2=>k2<=(rpX C v1).length/\(rpX C v1).length<=1000000001/\k1<rqN C v1/\rqB C v1) (λk2=>(rpX C v1).length - k2) [.mk True (.exit 6) (λx=>[(0,.y 0),(2,Al C),(4,.y 1),(6,.y 2),(10,.y 3),(11,li ((k.1:Int)+1)),(12,.y 4),(15,.r 5),v4,(19,li (k1:Int)),(20,.r 6)]) (λx=>[.box [vI v5.2.2],.box (vals (Yl8 t)),.box v2,.box v3,.box (vals (Yl8 v1)),.Aa (rpi C v1 []),ho x 0,.Aa t.Sa,.Ae v5.1]) [.o (.arr false 12 ((stq C v1 k1).map Yl7))]]
def Z37 (t:YS_) (C:List YC) (q:Int) (k:Nat×Int×List YS_):Lp Nat:=let v1:=t.Ia.g k.1;let v2:Cell:=.y;let v3:=[vI 0,vI 0,vS (mkS []),.val v2,.val v2];let v4:=iR C v1 k.2.1 k.2.2;.mk 206 1 (λx=>[(0,.y 0),(2,Al C),(4,.y 1),(6,.y 2),(10,.y 3),(11,li ((k.1:Int)+1)),(12,.y 4),(15,.r 5),(16,li (((C.g ((rpi C v1 []).getD 0 0).toNat).each.map Yl7).length:Int)),(19,hs x 0)]) (λx=>[.box [ha x 1],.box (vals (Yl8 t)),.box v3,.box [vI t.Ka,vI t.Na,vS t.Ta,.ref 6,.ref 7],.box (vals (Yl8 v1)),.Aa (rpi C v1 []),.Aa t.Sa,ho x 2]) (λk1=>[.s (li (k1:Int)),.a (vI (iI C v1 k1 k.2.1 k.2.2).2.2),.o (.Ae (iI C v1 k1 k.2.1 k.2.2).1)]) (λk1=>k1<=rqN C v1/\rqB C v1/\(iI C v1 k1 k.2.1 k.2.2).2.1/\(rpX C v1).length<=1000000001/\k.1+1<t.Ia.length/\t.Ia.length<=1000000000/\Ylj (t.Ia.g (k.1+1))/\0<=k.2.1/\(k.2.2.length:Int)+k.2.1<=2000/\Yme t.Ia C (q - 1) []=Yme (List.drop k.1 t.Ia) C k.2.1 k.2.2) (λk1=>rqN C v1 - k1) [.mk (v4.2.1) (.exit 4) (λx=>[(0,.y 0),(2,Al C),(4,.y 1),(6,.y 2),(10,.y 3),(11,li ((k.1:Int)+1))]) (λx=>[.box [ha x 0],.box (vals (Yl8 t)),.box v3,.box [vI t.Ka,vI t.Na,vS t.Ta,.ref 4,.ref 5],.Aa t.Sa,ho x 1]) [.a (vI v4.2.2),.o (.Ae v4.1)],.mk ((Yme t.Ia C (q - 1) []).2.1=false) .ret (λx=>[(6,.y 1),(7,hs x 2)]) (λx=>[.box [ha x 0],ho x 1]) [.a (vI (Yme t.Ia C (q - 1) []).2.2),.o (.box [vI 0,vI 0,vS (mkS []),.val v2,.val v2]),.s (lb false)]]
def Z38 (t:YS_) (C:List YC) (q:Int) (k:Nat×Int×List YS_):Lp Nat:=let v5:Cell:=.y;let v4:=t.Ia.g k.1;let v1:List Ob:=[.box [vI k.2.1],.box (vals (Yl8 t)),.box [vI 0,vI 0,vS (mkS []),.val v5,.val v5],.box [vI t.Ka,vI t.Na,vS t.Ta,.ref 6,.ref 7],.box (vals (Yl8 v4)),.Aa (rpi C v4 []),.Aa t.Sa,.Ae k.2.2];let v2:=rpX C v4;let v3:=(16,li (((C.g ((rpi C v4 []).getD 0 0).toNat).each.map Yl7).length:Int));.mk 206 1 (λx=>[(0,.y 0),(2,Al C),(4,.y 1),(6,.y 2),(10,.y 3),(11,li ((k.1:Int)+1)),(12,.y 4),(15,.r 5),v3,(148,.r 5),(149,li (((rpi C v4 []).map Yl4).length:Int)),(150,hs x 0)]) (λx=>v1) (λk1=>[.s (li (k1:Int))]) (λk1=>k1<=v2.length/\v2.length<=1000000001/\rqA C (v2.take k1) (lnI C (v2.g 0))/\0<v2.length/\k.1+1<t.Ia.length/\t.Ia.length<=1000000000/\Ylj (t.Ia.g (k.1+1))/\0<=k.2.1/\(k.2.2.length:Int)+k.2.1<=2000/\Yme t.Ia C (q - 1) []=Yme (List.drop k.1 t.Ia) C k.2.1 k.2.2) (λk1=>v2.length - k1) [.mk (rqB C v4) (.exit 2) (λx=>[(0,.y 0),(2,Al C),(4,.y 1),(6,.y 2),(10,.y 3),(11,li ((k.1:Int)+1)),(12,.y 4),(15,.r 5),v3]) (λx=>v1) [],.mk ((Yme t.Ia C (q - 1) []).2.1=false) .ret (λx=>[(6,.y 1),(7,hs x 2)]) (λx=>[.box [ha x 0],ho x 1]) [.a (vI (Yme t.Ia C (q - 1) []).2.2),.o (.box [vI 0,vI 0,vS (mkS []),.val v5,.val v5]),.s (lb false)]]
def Z39 (t:YS_) (C:List YC) (q:Int):Lp (Nat×Int×List YS_):=let v1:Cell:=.y;let v2:=Yme t.Ia C (q - 1) [];let v3:=[vI 0,vI 0,vS (mkS []),.val v1,.val v1];.mk 206 1 (λx=>[(0,.y 0),(2,Al C),(4,.y 1),(6,.y 2),(10,.y 3),(11,hs x 0)]) (λx=>[.box [ha x 1],.box (vals (Yl8 t)),.box v3,.box [vI t.Ka,vI t.Na,vS t.Ta,.ref 4,.ref 5],.Aa t.Sa,ho x 2]) (λk=>[.s (li (k.1:Int)),.a (vI k.2.1),.o (.Ae k.2.2)]) (λk=>t.Ia.length >= k.1/\t.Ia.length<=1000000000/\Yme t.Ia C (q - 1) []=Yme (List.drop k.1 t.Ia) C k.2.1 k.2.2/\0<=k.2.1/\(k.2.2.length:Int)+k.2.1<=2000) (λk=>t.Ia.length - k.1) [.mk (v2.2.1) (.exit 0) (λx=>[(6,.y 1),(10,.y 2)]) (λx=>[.box [ha x 0],.box v3,.box [vI t.Ka,vI t.Na,vS t.Ta,.ref 3,.ref 4],.Aa t.Sa,ho x 1]) [.a (vI v2.2.2),.o (.Ae v2.1)],.mk (v2.2.1=false) .ret (λx=>[(6,.y 1),(7,hs x 2)]) (λx=>[.box [ha x 0],ho x 1]) [.a (vI v2.2.2),.o (.box [vI 0,vI 0,vS (mkS []),.val v1,.val v1]),.s (lb false)]]
theorem Zdz (t:YS_) (C:List YC) (q:Int) (h:0<=q/\q<=2000/\wY t<=1000000000/\C.length<=1000000000) (hC:∀ (z:YC),z∈C->mxP z<=1000000000) (ih:∀ (z:YS_),z∈t.Ia->∀ (C:List YC) (q:Int),0<=q/\q<=2000/\wY z<=1000000000/\C.length<=1000000000->(∀ (z:YC),z∈C->mxP z<=1000000000)->OK (Z9 z C q)) (k:Nat×Int×List YS_) (k1:Nat):Lp.Sem prog (Yli f167 3) (Z36 t C q k k1):=Ylp (λk2=>let v4:=rpi C (t.Ia.g k.1) [];let v1:=v4.getD (k2:Int).toNat 0;let v2:=Ytn C k1 (List.take k2 (rpX C (t.Ia.g k.1)));let v3:=v4.map Yl4;let v5:=C.g v1.toNat;let v6:=v2.map Yl7;let v7:=Ym3 (v2.g v1.toNat);let v8:=Ym3 (v5.each.g k1);.i ((k2:Int)<((v4.map Yl4).length:Int)) (.p (0<=(k2:Int)/\(k2:Int).toNat<v3.length) (.w (.cells (Yl4 (v4.g (k2:Int).toNat))) (.p (v3[(k2:Int).toNat]? = some [cI v1]) (.x v1 (C.map Yl7) (Ym3 v5) (.x (k1:Int) (v5.each.map Yl7) v8 (.p (0<=v4.getD (k2:Int).toNat 0/\v1.toNat<v6.length) (.w (.cells v7) (.p (v6[v1.toNat]? = some v7) (.r ((k2:Int)+1) (.g [0,1,2,3,4,5,6,7,8] (k2+1) [.s (li ((k2:Int)+1)),.o (.arr false 12 (v6.set v1.toNat v8))])))))))))) (.o 0 [0,1,2,3,4,5,6,7,8] [.o (.arr false 12 v6)])) (by
 intro k2 h;try dsimp only[Yl3,Yle,Z36]at h|-
 obtain⟨i,m,O⟩:=k
 simp only at *
 have hB:=h.2.2.2
 have g1:=@Y11z C (t.Ia.g i) k2
 have g3:k2<(rpX C (t.Ia.g i)).length->(C.g ((rpX C (t.Ia.g i)).getD k2 0).toNat).each.length=rqN C (t.Ia.g i):=λa=>Y1ub hB a
 have g4:=Y1ew C k1 ((rpX C (t.Ia.g i)).take k2)
 have g5:k2<(rpX C (t.Ia.g i)).length->(List.map Yl7 (Ytn C k1 ((rpX C (t.Ia.g i)).take k2))).set ((rpX C (t.Ia.g i)).getD k2 0).toNat (Ym3 ((C.g ((rpX C (t.Ia.g i)).getD k2 0).toNat).each.g k1))=List.map Yl7 (Ytn C k1 ((rpX C (t.Ia.g i)).take (k2+1))):=λa=>by rw[Y1wt,Y1o4 a];rfl
 have g6:(rpX C (t.Ia.g i)).length<=k2->Ytn C k1 ((rpX C (t.Ia.g i)).take k2)=stq C (t.Ia.g i) k1:=λa=>Y1wi a
 with_reducible repeat' (first|apply ah|exact zR|exact ih|(intro)|apply Zn|apply Z2|apply Z0|apply Z1|apply Z1v)
 all_goals ((try simp only[std,inj]at *);with_reducible and_intros)
 all_goals try with_reducible first|apply Zn|apply Z2|apply Z0|apply Z1|apply Z1v|apply ih
 all_goals try first|exact zw
 all_goals (try simp only[aL,cw,aM,ak,aI]at *)
 all_goals (try simp only[rpX,rqN,dfI]at *)
 all_goals (try first|exact hB|omega|(have:=g1 oW;omega)|(have:=g1 oW;exact Yyi this.2.2 (Yvc _))|exact Yyi (by have:=g3 oW;omega) (Yvc _)|exact g5 oW|exact g6 oW|(rw[g6 oW];done)))
theorem Ze0 (t:YS_) (C:List YC) (q:Int) (h:0<=q/\q<=2000/\wY t<=1000000000/\C.length<=1000000000) (hC:∀ (z:YC),z∈C->mxP z<=1000000000) (ih:∀ (z:YS_),z∈t.Ia->∀ (C:List YC) (q:Int),0<=q/\q<=2000/\wY z<=1000000000/\C.length<=1000000000->(∀ (z:YC),z∈C->mxP z<=1000000000)->OK (Z9 z C q)) (k:Nat×Int×List YS_):Lp.Sem prog (Yli f167 2) (Z37 t C q k):=Ylp (λk1=>let v1:=t.Ia.g k.1;let v2:Cell:=.y;let v3:=iI C v1 k1 k.2.1 k.2.2;let v4:=stq C v1 k1;let v5:=bli v1 v4 v3.2.2;.i ((k1:Int)<(((C.g ((rpi C v1 []).getD 0 0).toNat).each.map Yl7).length:Int)) (.w (.bool false) (.p (∀ (x0:List Cell),x0∈C.map Yl7->x0.length=12) (.p ((0+(C.map Yl7).length) * 192<=140737488355328) (.z Yl4 (rpi C v1 []) (.l (Z36 t C q k k1) (Zdz t C q h hC ih k k1) [0,1,2,3,4,5,8,6,7] [.s (li 0),.o (.arr false 12 (C.map Yl7))] 0 (.t (.d [.ptr,.rd,.rd] (Z9 v1 v4 v3.2.2) (.b (!(bli v1 v4 v3.2.2).2.1) (.o 1 [0,2] [.a (vI v5.2.2),.o (.box [vI 0,vI 0,vS (mkS []),.val v2,.val v2]),.s (lb false)]) (.p (((v3.1.map Yl1).length+1) * 80<=140737488355328) (.r ((k1:Int)+1) (.g [0,1,2,3,4,5,7,14] (k1+1) [.s (li ((k1:Int)+1)),.a (vI v5.2.2),.o (.y 5 (v3.1.map Yl1++[Yl8 v5.1]))]))))) .q)))))) (.o 0 [0,1,2,3,6,7] [.a (vI v3.2.2),.o (.Ae v3.1)])) (by
 intro k1 h;try dsimp only[Yl3,Yle,Z37,Z36]at h|-
 obtain⟨i,m,O⟩:=k
 simp only at *
 have hd:=h.2.2.2.2.2.2.1
 have H:=h.2.2.2.2.2.2.2.2.2
 have hB:=h.2.1
 have hI:=h.2.2.1
 have hj:=h.1
 have hi:=h.2.2.2.2.1
 have g1:=Y1ii C (t.Ia.g i) k1 m O hI
 have g2:=Y1uy C (t.Ia.g i) k1 m O oW hI
 have g8:=@Yth t i (Nat.lt_of_succ_lt hi)
 have g9:Ytn C k1 ((rpX C (t.Ia.g i)).take 0)=C:=rfl
 have g11:0<(rpX C (t.Ia.g i)).length:=by
  simp only[rqB,af,aL,aM]at hB
  omega
 have g12:=Y1ra hC g11
 have b0:k1<rqN C (t.Ia.g i)->(bli (t.Ia.g i) (stq C (t.Ia.g i) k1) (iI C (t.Ia.g i) k1 m O).2.2).2.1=false->(Yme t.Ia C (q - 1) []).2.1=false/\(Yme t.Ia C (q - 1) []).2.2=(bli (t.Ia.g i) (stq C (t.Ia.g i) k1) (iI C (t.Ia.g i) k1 m O).2.2).2.2:=λa c=>by
  have r:=Y22h hB a hI c
  rw[H,Yxw hi hd,ab (by rw[r.1];decide)];exact r
 have b1:rqN C (t.Ia.g i)<=k1->iR C (t.Ia.g i) m O=iI C (t.Ia.g i) k1 m O:=λa=>Y24t hB hj a
 with_reducible repeat' (first|apply ah|exact zR|exact ih|(intro)|apply Zn|apply Z2|apply Z0|apply Z1|apply Z1v|apply ih)
 all_goals ((try simp only[std,inj]at *);with_reducible and_intros)
 all_goals try first|with_reducible (first|apply Zn|apply Z2|apply Z0|apply Z1|apply Z1v|apply ih)|(simp only[<- aq];with_reducible first|apply Zn|apply Z2|apply Z0|apply Z1|apply Z1v|apply ih)
 all_goals try first|exact zw
 all_goals (try simp only[aL,cw,aM,ak,aI]at *)
 all_goals (try simp only[rpX,rqN,dfI]at *)
 all_goals (try first|exact hd|exact H|exact hB|exact Yl6 hi|exact hC _ tW|exact Y20c hC _ _ _ tW|exact g9.symm|(rw[g9];done)|(rw[Y1ew];omega)|omega|exact(b0 oW tW).1|exact(b0 oW tW).2.symm|(rw[g1];done)|(rw[g1];assumption)|(rw[g1];exact Yl5 (C:=Yl1) _ _)|(rw[b1 oW];done)|(rw[b1 oW];exact hI))
 all_goals (try exact Yl6 (Nat.lt_of_succ_lt hi)))
theorem Ze1 (t:YS_) (C:List YC) (q:Int) (h:0<=q/\q<=2000/\wY t<=1000000000/\C.length<=1000000000) (hC:∀ (z:YC),z∈C->mxP z<=1000000000) (ih:∀ (z:YS_),z∈t.Ia->∀ (C:List YC) (q:Int),0<=q/\q<=2000/\wY z<=1000000000/\C.length<=1000000000->(∀ (z:YC),z∈C->mxP z<=1000000000)->OK (Z9 z C q)) (k:Nat×Int×List YS_):Lp.Sem prog (Yli f167 1) (Z38 t C q k):=Ylp (λk1=>let v1:=rpi C (t.Ia.g k.1) [];let v2:Cell:=.y;let v3:=v1.getD (k1:Int).toNat 0;let v4:=C.g v3.toNat;.i ((k1:Int)<((v1.map Yl4).length:Int)) (.p (0<=(k1:Int)/\(k1:Int).toNat<(v1.map Yl4).length) (.w (.cells (Yl4 (v1.g (k1:Int).toNat))) (.p ((v1.map Yl4)[(k1:Int).toNat]? = some [cI v3]) (.x v3 (C.map Yl7) (Ym3 v4) (.z Yl7 v4.each (.i (((v4.each.map Yl7).length:Int)≠(((C.g (v1.getD 0 0).toNat).each.map Yl7).length:Int)) (.o 1 [0,2] [.a (vI k.2.1),.o (.box [vI 0,vI 0,vS (mkS []),.val v2,.val v2]),.s (lb false)]) (.r ((k1:Int)+1) (.g [0,1,2,3,4,5,6,7] (k1+1) [.s (li ((k1:Int)+1))])))))))) (.o 0 [0,1,2,3,4,5,6,7] [])) (by
 intro k1 h;try dsimp only[Yl3,Yle,Z38]at h|-
 obtain⟨i,m,O⟩:=k
 simp only at *
 have hd:=h.2.2.2.2.2.2.1
 have H:=h.2.2.2.2.2.2.2.2.2
 have hA:=h.2.2.1
 have h00:=h.2.2.2.1
 have g1:=@Y11z C (t.Ia.g i) k1
 have g3:(rpX C (t.Ia.g i)).length<=k1->rqB C (t.Ia.g i):=λa=>Y20u h00 a hA
 have g4:k1<(rpX C (t.Ia.g i)).length->¬ ((C.g ((rpX C (t.Ia.g i)).getD k1 0).toNat).each.length:Int)=((C.g ((rpX C (t.Ia.g i)).getD 0 0).toNat).each.length:Int)->Yme t.Ia C (q - 1) []=(O,false,m):=λa b=>by rw[H,Yxw h.2.2.2.2.1 hd,Y21z a b];rfl
 have g5:k1<(rpX C (t.Ia.g i)).length->((C.g ((rpX C (t.Ia.g i)).getD k1 0).toNat).each.length:Int)=((C.g ((rpX C (t.Ia.g i)).getD 0 0).toNat).each.length:Int)->rqA C ((rpX C (t.Ia.g i)).take (k1+1)) (lnI C ((rpX C (t.Ia.g i)).getD 0 default)):=λa b=>Y1ot a hA b
 with_reducible repeat' (first|apply ah|exact zR|exact ih|(intro)|apply Zn|apply Z2|apply Z0|apply Z1|apply Z1v)
 all_goals ((try simp only[std,inj]at *);with_reducible and_intros)
 all_goals try with_reducible first|apply Zn|apply Z2|apply Z0|apply Z1|apply Z1v|apply ih
 all_goals try first|exact zw
 all_goals (try simp only[aL,cw,aM,ak,aI]at *)
 all_goals (try simp only[rpX,rqN,dfI]at *)
 all_goals (try first|exact hd|exact H|omega|exact g3 oW|exact g5 oW tW|(have:=g1 oW;omega))
 all_goals (try (rw[g4 oW tW]<;>rfl)))
theorem Ze2 (t:YS_) (C:List YC) (q:Int) (h:0<=q/\q<=2000/\wY t<=1000000000/\C.length<=1000000000) (hC:∀ (z:YC),z∈C->mxP z<=1000000000) (ih:∀ (z:YS_),z∈t.Ia->∀ (C:List YC) (q:Int),0<=q/\q<=2000/\wY z<=1000000000/\C.length<=1000000000->(∀ (z:YC),z∈C->mxP z<=1000000000)->OK (Z9 z C q)):Lp.Sem prog (Yli f167 0) (Z39 t C q):=Ylp (λk=>let v8:=t.Ia.g k.1;let v12:=bli v8 C k.2.1;let v9:Cell:=.y;let v13:Ob:=.box [vI 0,vI 0,vS (mkS []),.val v9,.val v9];let v10:=(k.1:Int)+1;let v1:Tq _ _:=.d [.ptr,.rd,.rd] (Z9 v8 C k.2.1) (.b (!(bli v8 C k.2.1).2.1) (.o 1 [0,2] [.a (vI v12.2.2),.o v13,.s (lb false)]) (.p (((k.2.2.map Yl1).length+1) * 80<=140737488355328) (.r v10 (.g [0,1,2,3,4,12] (k.1+1,v12.2.2,k.2.2++[v12.1]) [.s (li v10),.a (vI v12.2.2),.o (.y 5 (k.2.2.map Yl1++[Yl8 v12.1]))]))));let v2:=rpi C v8 [];let v3:Tq _ _:=.t (.o 1 [0,1] [.a (vI (Yme t.Ia C (q - 1) []).2.2),.o (.box [vI 0,vI 0,vS (mkS []),.val v9,.val v9]),.s (lb false)]) .q;let v4:=iR C v8 k.2.1 k.2.2;let v5:=t.Ia.g (k.1+1);let v6:Ob:=.Ae k.2.2;let v7:=((t.Ia.map Yl1).length:Int);let v11:=C.g (v2.getD 0 0).toNat;.z Yl1 t.Ia (.i ((k.1:Int)<v7) (.x (k.1:Int) (t.Ia.map Yl1) (Yl8 v8) (.r v10 (.z Yl1 t.Ia (.i ((k.1:Int)+1=v7) (.y true v1) (.r v10 (.x v10 (t.Ia.map Yl1) (Yl8 v5) (.c [.rd] (Z1 v5) (.b (!Ylj v5) v1 (.r v10 (.d [.rd,.rd,.own true 1] (Z2a v8 C []) (.z Yl4 v2 (.i (((v2.map Yl4).length:Int)=0) (.o 1 [0,2] [.a (vI k.2.1),.o v13,.s (lb false)]) (.p ((0:Int)<=0/\0<(v2.map Yl4).length) (.w (.cells (Yl4 (v2.g 0))) (.p ((v2.map Yl4)[0]? = some [cI (v2.getD 0 0)]) (.x (v2.getD 0 0) (C.map Yl7) (Ym3 v11) (.z Yl7 v11.each (.z Yl4 v2 (.l (Z38 t C q k) (Ze1 t C q h hC ih k) [0,1,2,3,6,8,4,5] [.s (li 0)] 0 (.t (.l (Z37 t C q k) (Ze0 t C q h hC ih k) [0,1,2,3,4,5,6,7] [.s (li 0),.a (vI k.2.1),.o v6] 0 (.t (.r ((k.1:Int)+1+1) (.g [0,1,2,3,4,5] (k.1+1+1,v4.2.2,v4.1) [.s (li ((k.1:Int)+1+1)),.a (vI v4.2.2),.o (.Ae v4.1)])) v3)) v3)))))))))))))))))))) (.o 0 [0,2,3,4,5] [.a (vI k.2.1),.o v6]))) (by
 intro k h;try dsimp only[Yl3,Yle,Z39,Z37,Z38]at h|-
 obtain⟨i,m,O⟩:=k
 simp only at *
 have H:=h.2.2.1
 have p1:i<t.Ia.length->(t.Ia.length<=i+1\/Ylj (t.Ia.g (i+1))=false)->(bli (t.Ia.g i) C m).2.1->Yme (t.Ia.drop i) C m O=Yme (t.Ia.drop (i+1)) C (bli (t.Ia.g i) C m).2.2 (O++[(bli (t.Ia.g i) C m).1]):=λa b c=>by rw[Y17q a b,ae c]
 have p2:i<t.Ia.length->(t.Ia.length<=i+1\/Ylj (t.Ia.g (i+1))=false)->(bli (t.Ia.g i) C m).2.1=false->Yme (t.Ia.drop i) C m O=(O,false,(bli (t.Ia.g i) C m).2.2):=λa b c=>by rw[Y17q a b,ab (by rw[c];decide)]
 have d1:i+1<t.Ia.length->Ylj (t.Ia.g (i+1))->(iR C (t.Ia.g i) m O).2.1->Yme (t.Ia.drop i) C m O=Yme (t.Ia.drop (i+1+1)) C (iR C (t.Ia.g i) m O).2.2 (iR C (t.Ia.g i) m O).1:=λa b c=>by rw[Yxw a b,ae c]
 have d3:i+1<t.Ia.length->Ylj (t.Ia.g (i+1))->(rpX C (t.Ia.g i)).length=0->Yme (t.Ia.drop i) C m O=(O,false,m):=λa b c=>by
  have e:iR C (t.Ia.g i) m O=(O,false,m):=by unfold iR rqB;rw[c];rfl
  rw[Yxw a b,e];rfl
 have e1:t.Ia.length<=i->Yme (t.Ia.drop i) C m O=(O,true,m):=λa=>Y1te a
 have g4:=Y120 (t.Ia.g i) C m
 have g6:0<=m->(iR C (t.Ia.g i) m O).2.1->0<=(iR C (t.Ia.g i) m O).2.2/\((iR C (t.Ia.g i) m O).1.length:Int)+(iR C (t.Ia.g i) m O).2.2<=O.length+m:=λa b=>Y23s C _ m O a b
 have g8:=@Yth t i
 have g9:=Y1jz C (t.Ia.g i) []
 have g10:=Y1p5 (t.Ia.g i)
 have g11:=λh:0<(rpX C (t.Ia.g i)).length=>Y11z h
 have g12:iI C (t.Ia.g i) 0 m O=(O,true,m):=rfl
 have g13:=λh:0<(rpX C (t.Ia.g i)).length=>Y1ra hC h
 with_reducible repeat' (first|apply ah|exact zR|exact ih|(intro)|apply Zn|apply Z2|apply Z0|apply Z1|apply Z1v|apply ih)
 all_goals ((try simp only[std,inj]at *);with_reducible and_intros)
 all_goals try first|with_reducible (first|apply Zn|apply Z2|apply Z0|apply Z1|apply Z1v|apply ih)|(simp only[<- aq];with_reducible first|apply Zn|apply Z2|apply Z0|apply Z1|apply Z1v|apply ih)
 all_goals try first|exact zw
 all_goals (try simp only[aL,cw,aM,ak,aI]at *)
 all_goals (try simp only[rpX,rqN,dfI]at *)
 all_goals (try first|exact Yl6 oW|exact hC _ tW|exact Yl5 (C:=Yl1) _ _|exact(Y11z (by show 0<(rpi C (t.Ia.g i) []).length;omega)).1|(show rqA C [] _;rfl)|(show (_:Bool);exact(rfl:(iI C (t.Ia.g i) 0 m O).2.1))|exact(rfl:m=(iI C (t.Ia.g i) 0 m O).2.2)|exact(rfl:O=(iI C (t.Ia.g i) 0 m O).1)|exact(rfl:O.map Yl1=List.map Yl1 (iI C (t.Ia.g i) 0 m O).1)|(have:=g8 oW;simp only[bo]at *;omega))
 all_goals (try first|(rw[H,p1 oW (by first|exact Or.inl oW|exact Or.inr tW) tW])|(rw[H,p2 oW (by first|exact Or.inl oW|exact Or.inr tW) tW])|(rw[H,d1 oW tW tW])|(rw[H,d3 oW tW oW])|(rw[H,e1 oW]))
 all_goals (try first|(have:=g4 oW tW;first|omega|(simp only[bh];omega))|(have:=g6 oW tW;omega)))
theorem Zhh (t:YS_) (C:List YC) (q:Int) (h:0<=q/\q<=2000/\wY t<=1000000000/\C.length<=1000000000) (hC:∀ z∈C,mxP z<=1000000000) (ih:∀ z∈t.Ia,∀ (C:List YC) (q:Int) (h:0<=q/\q<=2000/\wY z<=1000000000/\C.length<=1000000000) (hC:∀ z∈C,mxP z<=1000000000),Z9 z C q):Z9 t C q:=Ylh call167 func167 (let v8:=if t.Ka=1 then fnd C t else (-1:Int);let v1:=C.g v8.toNat;let v2:AV:=.tup [.agg [vI 0,vI 0,vS (mkS []),.ref 1,.ref 2],lb false];let v3:List Ob:=[.box [vI q],.y 1 [],.y 5 []];let v4:=Yme t.Ia C (q - 1) [];let v5:Orc:=.ghost (.nilbox 2 4 true 5);let v6:Orc:=.ghost (.nilbox 2 3 true 1);let v7:=C.map Yl7;let v9:=Yn1 v1.form 1 0;.c [.rd,.rd] (Zac C t) (.i (0<=if t.Ka=1 then fnd C t else (-1:Int)) (.x v8 v7 (Ym3 v1) (.i (v1.depth≠0) (.w v6 (.w v5 (.f [3,4] v3 v2))) (.x v8 v7 (Ym3 v1) (.d [.rd,.rd,.ptr] (Z12 v1.form 1 0) (.b (!(Yn1 v1.form 1 0).1) (.w v6 (.w v5 (.f [4,5] v3 v2))) (.w (.draw [(8,[0])]) (.r (q - v9.2) (.w (.draw [(11,[2])]) (.x v8 v7 (Ym3 v1) (.d [.rd] (Zj v1.form) (.f [6,7] [.box [vI (q - v9.2)],.Aa v1.form.Sa,.Ae v1.form.Ia] (.tup [.agg [vI v1.form.Ka,vI v1.form.Na,vS v1.form.Ta,.ref 1,.ref 2],lb (decide (0<=q - v9.2))])))))))))))) (.r (q - 1) (.i (q - (1:Int)<0) (.w v6 (.w v5 (.f [3,4] [.box [vI (q - 1)],.y 1 [],.y 5 []] v2))) (.w (.draw [(11,[19])]) (.d [.rd] (Z6 t.Sa) (.w (.g (.nilbox 19 4 true 5)) (.l (Z39 t C q) (Ze2 t C q h hC ih) [0,1,2,19,11,20] [.s (li 0),.a (vI (q - 1)),.o (.y 5 [])] (0,q - 1,[]) (.t (.f [3,4] [.box [vI v4.2.2],.Aa t.Sa,.Ae v4.1] (.tup [.agg [vI t.Ka,vI t.Na,vS t.Ta,.ref 1,.ref 2],lb true])) (.t (.w (.g (.nilbox 1 3 true 1)) (.w (.g (.nilbox 1 4 true 5)) (.f [2,3] [.box [vI v4.2.2],.y 1 [],.y 5 []] (.tup [.agg [vI 0,vI 0,vS (mkS []),.ref 1,.ref 2],lb false])))) .q)))))))))) (by
 dsimp only[Yl3,Z9,Yle,Z39]
 have g2:=Yvi C t
 have g4:=Ymd t
 with_reducible repeat' (first|apply ah|exact zR|exact ih|(intro)|apply Zn|apply Z2|apply Z0|apply Z1|apply Z1v)
 all_goals ((try simp only[std,inj]at *);with_reducible and_intros)
 all_goals try with_reducible first|apply Zn|apply Z2|apply Z0|apply Z1|apply Z1v|apply ih
 all_goals try first|exact zw
 all_goals (try simp only[aL,cw,aM,ak,aI]at *)
 all_goals (try (have hk:=Y1z3 (by assumption:0<=if t.Ka=1 then fnd C t else -1);simp only[ae hk.1]at *))
 all_goals (try first|exact hC _ tW|exact Y1y3 hC oW|(have:=Y1xv _ (by assumption:(Yn1 (C.g (fnd C t).toNat).form 1 0).1);omega)|(rw[Y20d oW oW tW])|(rw[Y22q oW oW tW tW])|(rw[Y1zd oW oW tW tW])|(rw[Y22i oW oW])|(rw[Y21h oW oW tW])|(rw[Y20i oW oW tW]))
 all_goals (try first|rfl|(dsimp only;omega)|(simp only[bo];omega)))
theorem Zf8 (t:YS_):∀ (C:List YC) (q:Int) (h:0<=q/\q<=2000/\wY t<=1000000000/\C.length<=1000000000) (hC:∀ z∈C,mxP z<=1000000000),Z9 t C q:=YS_.ind (P:=λt=>∀ (C:List YC) (q:Int) (h:0<=q/\q<=2000/\wY t<=1000000000/\C.length<=1000000000) (hC:∀ z∈C,mxP z<=1000000000),Z9 t C q) (λt ih C q h hC=>Zhh t C q h hC ih) t
abbrev Zb5 (t:YS_) (C:List YC):Ct:=⟨121,[],[Yln t,Al C],Yp2 (Yyu t C),.tup [Yoq (Yyu t C) 0,lb (Yvu t C)]⟩
theorem Zbx (t:YS_) (C:List YC) (h:wY t<=1000000000/\C.length<=1000000000) (hC:∀ z∈C,mxP z<=1000000000):Zb5 t C:=Ylh call121 func121 (let v1:AV:=.tup [.agg [vI 0,vI 0,vS (mkS []),.ref 0,.ref 1],lb false];let v2:List Ob:=[.y 1 [],.y 5 []];let v3:Orc:=.ghost (.nilbox 1 4 true 5);let v4:Orc:=.ghost (.nilbox 1 3 true 1);let v5:=bli t C 2000;.c [.rd] (Zv t) (.b (!Yld t) (.y true (.w v4 (.w v3 (.f [2,3] v2 v1)))) (.c [.rd] (Zbq t) (.b (!Yrb t) (.w v4 (.w v3 (.f [2,3] v2 v1))) (.d [.ptr,.rd,.rd] (Z9 t C 2000) (.b (!(bli t C 2000).2.1) (.y true (.w v4 (.w v3 (.f [7,8] v2 v1)))) (.c [.rd] (Zv v5.1) (.b (!Yld v5.1) (.w v4 (.w v3 (.f [7,8] v2 v1))) (.f [4,5] [.Aa v5.1.Sa,.Ae v5.1.Ia] (.tup [.agg [vI v5.1.Ka,vI v5.1.Na,vS v5.1.Ta,.ref 0,.ref 1],lb true])))))))))) (by
 dsimp only[Yl3,Zb5]
 have g1:=@Y1sa t C
 have g2:Yvu t C->Yyu t C=(bld t C 2000).1:=λh=>ae h
 have g3:Yvu t C=false->Yyu t C=zY:=λh=>by unfold Yyu;rw[h];rfl
 have g4:zY.Ka=0/\zY.Na=0/\zY.Ta=mkS []/\zY.Sa=[]/\zY.Ia=[]:=⟨rfl,rfl,rfl,rfl,rfl⟩
 have g5:Yvu t C=(Yld t&&Yrb t&&(bld t C 2000).2.1&&Yld (bld t C 2000).1):=rfl
 exact z03)
end
theorem Y1gi {H:YS_->Bool}{A:List YS_->Int}:∀ (l:List YS_),(∀ x∈l,∀ d,∀ z∈nm H A x d,wY z.form=0/\z.each=[])->∀ i a d,∀ z∈nms H A l i a d,wY z.form=0/\z.each=[]
 | [],_,i,a,d,z,hz=>by simp[nms]at hz
 | x :: r,h,i,a,d,z,hz=>by
  simp only[nms,az]at hz
  rcases hz with hz|hz
  ·split at hz
   ·cases hz
   ·exact h x aj _ z hz
  ·exact Y1gi r (λy hy=>h y (ai _ hy)) _ _ _ z hz
theorem Y1xm {H:YS_->Bool}{A:List YS_->Int}:∀ (p:YS_) (d:Int),∀ z∈nm H A p d,wY z.form=0/\z.each=[]:=by
 refine YS_.ind λp ih d z hz => ?_
 rw[Yrw]at hz
 split at hz
 ·split at hz
  ·cases hz
  ·simp only[an]at hz;subst hz;exact⟨rfl,rfl⟩
 ·split at hz
  ·exact Y1gi p.Ia ih _ _ _ z hz
  ·cases hz
theorem Y1cx {g:YS_->Option (List YC)}:∀ (L:List YS_) (R:List (List YC)),mtr g L=some R->R.length=L.length/\∀ c∈R,∃ f∈L,g f=some c
 | [],R,e=>by simp only[mtr,aa]at e;subst e;simp
 | f :: r,R,e=>by
  simp only[mtr]at e
  split at e
  ·cases e
  ·rename_i c hc
   split at e
   ·cases e
   ·rename_i R' hR
    simp only[aa]at e;subst e
    have ih:=Y1cx r R' hR
    refine⟨by simp[ih.1],λd hd => ?_⟩
    rcases List.mem_cons.1 hd with rfl|hd
    ·exact⟨f,aj,hc⟩
    ·obtain⟨g',h1,h2⟩:=ih.2 d hd
     exact⟨g',ai _ h1,h2⟩
theorem Y1i3:mxP (default:YC)=0:=rfl
theorem Y22r {V:List YC}{R:List (List YC)}{m:Nat}(hV:∀ z∈V,wY z.form=0/\z.each=[]) (hl:R.length<=m) (hR:∀ c∈R,∀ z∈c,mxP z<=m):∀ z∈rp V R,mxP z<=m:=by
 intro z hz
 simp only[rp,a9,bd]at hz
 obtain⟨i,hi,rfl⟩:=hz
 have h1:=hV _ (Yl6 hi)
 rw[Y17w]
 simp only[h1.1,h1.2,bq,aO]
 have h2:Y103 (R.map λc=>c.g i)<=m:=Y1in λy hy=>by
  obtain⟨c,hc,rfl⟩:=List.mem_map.1 hy
  rcases bH i c.length with h3|h3
  ·exact hR c hc _ (Yl6 h3)
  ·have e:c.g i=default:=by simp[h3]
   rw[e,Y1i3];omega
 omega
theorem Y20q {m:Nat}{fs:List YS_}(h:∀ f∈fs,wY f<=m) (k:Nat):wY (fs.g k)<=m:=by
 rcases bH k fs.length with h3|h3
 ·exact h _ (Yl6 h3)
 ·have e:fs.g k=default:=by simp[h3]
  have e2:wY (default:YS_)=0:=rfl
  rw[e,e2];omega
theorem Y1qx {M:YS_->YS_->Bool}{H:YS_->Bool}{A:List YS_->Int}{m:Nat}:∀ l:List YS_,(∀ x∈l,∀ f c,mt M H A x f=some c->wY f<=m->∀ z∈c,mxP z<=m)->∀ i a k fs c,mts M H A l i a k fs=some c->fs.length<=m->(∀ f∈fs,wY f<=m)->∀ z∈c,mxP z<=m
 | [],_,i,a,k,fs,c,e,_,_,z,hz=>by simp only[mts,aa]at e;subst e;cases hz
 | x :: r,h,i,a,k,fs,c,e,hl,hf,z,hz=>by
  have ih:=Y1qx r (λy hy=>h y (ai _ hy)) (i+1) a k
  have hd:∀ n,(fs.drop n).length<=m/\∀ f∈fs.drop n,wY f<=m:=λn=>⟨by rw[ax];omega,λf hm=>hf f (aG hm)⟩
  simp only[mts]at e
  split at e
  ·exact ih _ _ e hl hf z hz
  ·split at e
   ·split at e
    ·cases e
    ·rename_i R hR
     split at e
     ·cases e
     ·rename_i c' hc
      simp only[aa]at e;subst e
      obtain⟨r1,r2⟩:=Y1cx _ _ hR
      rcases List.mem_append.1 hz with hz|hz
      ·refine Y22r (λz hz=>Y1xm x 1 z hz) ?_ (λc hc z hz => ?_) z hz
       ·rw[r1,au];omega
       ·obtain⟨f',h1,h2⟩:=r2 c hc
        exact h x aj f' c h2 (hf f' (bt h1)) z hz
      ·exact ih _ _ hc (hd k).1 (hd k).2 z hz
   ·split at e
    ·cases e
    ·rename_i c1 h1
     split at e
     ·cases e
     ·rename_i c' hc
      simp only[aa]at e;subst e
      rcases List.mem_append.1 hz with hz|hz
      ·exact h x aj _ _ h1 (Y20q hf 0) z hz
      ·exact ih _ _ hc (hd 1).1 (hd 1).2 z hz
theorem Y236 {M:YS_->YS_->Bool}{H:YS_->Bool}{A:List YS_->Int}{m:Nat}:∀ (p f:YS_) (c:List YC),mt M H A p f=some c->wY f<=m->∀ z∈c,mxP z<=m:=by
 refine YS_.ind λp ih f c e hm z hz => ?_
 rw[Yrx]at e
 split at e
 ·split at e
  ·simp only[aa]at e;subst e;cases hz
  ·split at e
   ·split at e
    ·simp only[aa]at e;subst e;cases hz
    ·cases e
   ·simp only[aa]at e;subst e
    simp only[an]at hz;subst hz
    have e2:mxP (Y10m p f)=max (wY f) (max 0 0):=rfl
    rw[e2];omega
 ·split at e
  ·split at e
   ·have h1:=Ymd f
    exact Y1qx p.Ia ih _ _ _ _ _ e oW (λg hg=>by have:=Yls wY hg;omega) z hz
   ·cases e
  ·split at e
   ·simp only[aa]at e;subst e;cases hz
   ·cases e
def apK (B:List YB) (r:YR_) (f:YS_) (k:Nat):Bool:=(gS B r.La (tlY (r.Pb.g k)) (tlY f)).isSome
def apC (B:List YB) (r:YR_) (f:YS_) (k:Nat):List YC:=(gS B r.La (tlY (r.Pb.g k)) (tlY f)).getD []
def apZ (B:List YB) (r:YR_) (f:YS_) (k:Nat):Bool:=(List.range k).all λj => !apK B r f j
def apN (B:List YB) (r:YR_) (f:YS_):Nat:=(List.range r.Pb.length).findIdx (apK B r f)
def apG (B:List YB) (r:YR_) (f:YS_):Bool:=decide (f.Ka=0) && !decide ((f.Ia.length:Int)=0)&&decide (apN B r f<r.Pb.length)
def apB (B:List YB) (r:YR_) (f:YS_):Bool:=apG B r f&&Yvu (r.Tb.g (apN B r f)) (apC B r f (apN B r f))
def apY (B:List YB) (r:YR_) (f:YS_):YS_:=if apG B r f then Yyu (r.Tb.g (apN B r f)) (apC B r f (apN B r f)) else zY
section
variable {B:List YB}{r:YR_}{f:YS_}{k:Nat}
theorem Y1tc:apZ B r f 0:=rfl
theorem Y1sd:apZ B r f (k+1)=(apZ B r f k && !apK B r f k):=by simp[apZ,List.range_succ]
theorem Y214 (hk:k<r.Pb.length) (h:apK B r f k):apZ B r f r.Pb.length=false:=by
 cases e:apZ B r f r.Pb.length with
 | false=>rfl
 | true=>
  simp only[apZ,am,bd]at e
  have:=e k hk
  rw[h]at this;cases this
theorem Y20k (hk:k<r.Pb.length) (h:apZ B r f k) (h2:apK B r f k):apN B r f=k:=by
 unfold apN
 have hl:k<(List.range r.Pb.length).length:=by simpa using hk
 rw[List.findIdx_eq hl]
 refine⟨by simpa using h2,λj hj => ?_⟩
 simp only[apZ,am,bd]at h
 have:=h j hj
 simpa using this
theorem Y1sh (h:apZ B r f r.Pb.length):¬ apN B r f<r.Pb.length:=by
 unfold apN
 intro hl
 have hl':(List.range r.Pb.length).findIdx (apK B r f)<(List.range r.Pb.length).length:=by simpa using hl
 have h3:=di (w:=hl')
 simp only[apZ,am,bd]at h
 rw[List.getElem_range]at h3
 have:=h _ hl
 rw[h3]at this;cases this
theorem Y1yr (h:¬ f.Ka=0):apB B r f=false/\apY B r f=zY:=by
 have e:apG B r f=false:=by simp[apG,h]
 unfold apB apY;rw[e];exact⟨rfl,rfl⟩
theorem Y1up (h:f.Ia.length=0):apB B r f=false/\apY B r f=zY:=by
 have e:apG B r f=false:=by simp[apG,h]
 unfold apB apY;rw[e];exact⟨rfl,rfl⟩
theorem Y1xb (h:apZ B r f r.Pb.length):apB B r f=false/\apY B r f=zY:=by
 have e:apG B r f=false:=by simp[apG,Y1sh h]
 unfold apB apY;rw[e];exact⟨rfl,rfl⟩
theorem Y23z (h0:f.Ka=0) (h1:0<f.Ia.length) (hk:k<r.Pb.length) (h:apZ B r f k) (h2:apK B r f k):apB B r f=Yvu (r.Tb.g k) (apC B r f k)/\apY B r f=Yyu (r.Tb.g k) (apC B r f k):=by
 have e:=Y20k hk h h2
 have e2:apG B r f:=by unfold apG;rw[e];simp[h0,hk];intro h3;rw[h3]at h1;simp at h1
 unfold apB apY;rw[e2,e];exact⟨rfl,rfl⟩
theorem Yzu (hr:Ymr r) (hk:k<r.Pb.length):good r.La (tlY (r.Pb.g k))/\Ylw (tlY (r.Pb.g k))<=40/\Ylg (tlY (r.Pb.g k))<=2000/\k<r.Tb.length/\r.La.all Yot/\1<=(r.Pb.g k).Ia.length:=by
 simp only[Ymr,af,ak]at hr
 obtain⟨⟨⟨⟨h1,h2⟩,_⟩,h3⟩,_⟩:=hr
 have h4:=Y13r r _ (k+1) hk h3
 simp only[Yru,clT,clP,af]at h4
 have h5:=h4.2.1
 have h6:=Y1a4 h5.1.1.1.1.1
 have h7:=h5.1.1.1.2
 have h8:=Y1we h6 h5.2
 simp only[okL,af]at h1
 refine⟨h8.1,h8.2.2,h8.2.1,by omega,h1.1,?_⟩
 simp only[aL,aM]at h7
 omega
theorem Y21m {m:Nat}(hr:Ymr r) (hk:k<r.Pb.length) (hf:wY (tlY f)<=m):(∀ z∈apC B r f k,mxP z<=m)/\(apC B r f k).length<=2000:=by
 have h1:=Yzu hr hk
 unfold apC
 cases e:gS B r.La (tlY (r.Pb.g k)) (tlY f) with
 | none=>simp
 | some c=>
  simp only[cH]
  refine⟨Y236 _ _ _ e hf,?_⟩
  have h2:=Y1zc e
  have h3:=Y1y9 (Ls:=r.La) (tlY (r.Pb.g k))
  omega
theorem Y1wz (hr:Ymr r) (hk:k<r.Pb.length) (g:YS_):gI B r.La (tlY (r.Pb.g k)) g=gS B r.La (tlY (r.Pb.g k)) g:=by
 have h1:=Yzu hr hk
 exact((Y1j2 (M:=mng B) (List.all_eq_true.1 h1.2.2.2.2.1) _ h1.1).1 g).symm
end
section
abbrev Z8j (B:List YB) (r:YR_) (f:YS_):Ct:=⟨73,[],[Aj B,Yvj r,Yln f],Yp2 (apY B r f),.tup [Yoq (apY B r f) 0,lb (apB B r f)]⟩
def Z7j (B:List YB) (r:YR_) (f:YS_):Lp Nat:=let v3:Cell:=.y;let v1:=[vI 0,vI 0,vS (mkS []),.val v3,.val v3];let v2:=apY B r f;.mk 56 0 (λx=>[(4,.y 0),(5,.y 1),(6,.y 2),(8,.y 3),(28,Af r.Pb),(29,li (r.Pb.map Yl1).length),(30,hs x 0)]) (λx=>[.box (vals (Yod r)),.box (vals (Yl8 f)),.box v1,.box [An B,Am r.La]]) (λk=>[.s (li k)]) (λk=>k<=r.Pb.length/\r.Pb.length<=9223372036854775807/\apZ B r f k/\f.Ka=0/\0<f.Ia.length) (λk=>r.Pb.length - k) [.mk (apZ B r f r.Pb.length) (.exit 0) (λx=>[(6,.y 0)]) (λx=>[.box v1]) [],.mk (apZ B r f r.Pb.length=false) .ret (λx=>[(6,.y 0),(7,hs x 5)]) (λx=>[.box [ha x 0,ha x 1,ha x 2,.ref 1,.ref 2],ho x 3,ho x 4]) [.a (vI v2.Ka),.a (vI v2.Na),.a (vS v2.Ta),.o (.Aa v2.Sa),.o (.Ae v2.Ia),.s (lb (apB B r f))]]
theorem Zir (B:List YB) (r:YR_) (f:YS_) (h:B.length<=1000000001/\sumBy wB B<=1000000001/\wR r<=900000000/\wY f<=1000000000) (hr:Ymr r):Lp.Sem prog (Yli f73 0) (Z7j B r f):=Ylp (λk=>let v6:=r.Pb.g k;let v3:=YS_.mk 0 0 (mkS []) [] (v6.Ia.drop 1);let v4:=YS_.mk 0 0 (mkS []) [] (f.Ia.drop 1);let v1:=smO v3 [] (gI B r.La v3 v4);let v2:=r.Tb.g k;let v5:=Yyu v2 v1;.i ((k:Int)<(r.Pb.map Yl1).length) (.x (k:Int) (r.Pb.map Yl1) (Yl8 v6) (.w (.draw []) (.d [.rd] (Z5g v6) (.d [.rd] (Z5g f) (.d [.rd,.rd,.rd,.own true 12] (Zp B r.La v3 v4 []) (.b (gI B r.La v3 v4).isSome (.x (k:Int) (r.Tb.map Yl1) (Yl8 v2) (.d [.rd,.rd] (Zb5 v2 v1) (.o 1 [2,29,30] [.a (vI v5.Ka),.a (vI v5.Na),.a (vS v5.Ta),.o (.Aa v5.Sa),.o (.Ae v5.Ia),.s (lb (Yvu v2 v1))]))) (.r ((k:Int)+1) (.g [0,1,2,3] (k+1) [.s (li ((k:Int)+1))])))))))) (.o 0 [2] [])) (by
 intro k h;try dsimp only[Yl3,Yle,Z7j]at h|-
 have g1:=@Y1sd B r f k
 have g0:=@Y214 B r f k
 have g2:=@Y23z B r f k
 have g3:=@Yzu r k hr
 have g4:=@Y21m B r f k 1000000000 hr
 have g5:=Y16m r
 have g6:=@Yls _ wY r.Pb (r.Pb.g k)
 have g7:=@Yls _ wY r.Tb (r.Tb.g k)
 have g8:=Y1c8 (r.Pb.g k)
 have g9:=Y1c8 f
 have g10:=@Y1wz B r k hr
 with_reducible repeat' (first|apply ah|exact zR|(intro)|apply Z3o|apply Zbw|apply Zbx)
 all_goals ((try simp only[std,inj]at *);with_reducible and_intros)
 all_goals try with_reducible first|apply Z3o|apply Zbw|apply Zbx
 all_goals try first|exact zw|grind[tlY,Yl6,apK,apC,Y1j8,Yla,Ylb,Yl5])
theorem Zby (B:List YB) (r:YR_) (f:YS_) (h:B.length<=1000000001/\sumBy wB B<=1000000001/\wR r<=900000000/\wY f<=1000000000) (hr:Ymr r):Z8j B r f:=Ylh call73 func73 (let v4:List Ob:=[.y 1 [],.y 5 []];let v3:AV:=.tup [.agg [vI 0,vI 0,vS (mkS []),.ref 0,.ref 1],lb false];let v1:Tq _ _:=.w (.g (.nilbox 2 3 true 1)) (.w (.g (.nilbox 2 4 true 5)) (.f [3,4] v4 v3));let v2:=apY B r f;.i (f.Ka≠0) (.y true v1) (.z Yl1 f.Ia (.i (((f.Ia.map Yl1).length:Int)=0) v1 (.z Yl1 r.Pb (.l (Z7j B r f) (Zir B r f h hr) [0,1,2,3] [.s (li 0)] 0 (.t (.w (.g (.nilbox 0 3 true 1)) (.w (.g (.nilbox 0 4 true 5)) (.f [1,2] v4 v3))) (.t (.f [1,2] [.Aa v2.Sa,.Ae v2.Ia] (.tup [.agg [vI v2.Ka,vI v2.Na,vS v2.Ta,.ref 0,.ref 1],lb (apB B r f)])) .q))))))) (by
 dsimp only[Yl3,Z8j,Yle,Z7j]
 have g1:=@Y1yr B r f
 have g2:=@Y1up B r f
 have g3:=@Y1xb B r f
 have gz:zY.Ka=0/\zY.Na=0/\zY.Ta=mkS []/\zY.Sa=[]/\zY.Ia=[]:=⟨rfl,rfl,rfl,rfl,rfl⟩
 with_reducible repeat' (first|apply ah|exact zR|(intro)|apply Z3o|apply Zbw|apply Zbx)
 all_goals ((try simp only[std,inj]at *);with_reducible and_intros)
 all_goals try with_reducible first|apply Z3o|apply Zbw|apply Zbx
 all_goals try first|exact zw|grind[Y1tc,Yla,Ylb,Yl5])
end
def Ylu (n:Int):List Int->List Int
 | []=>[n]
 | x :: r=>if n<=x then (if x=n then x :: r else n :: x :: r) else x :: Ylu n r
def plN (n:Int) (L:List Int):Bool:=L.any λx=>decide (n<=x)
theorem Y1j3 {n:Int}:∀ {A:List Int}(C:List Int),plN n A->Ylu n (A++C)=Ylu n A++C
 | [],_,h=>by cases h
 | x :: r,C,h=>by
  simp only[bE,Ylu]
  split
  ·split<;>rfl
  ·rename_i hx
   have:plN n r:=by simpa[plN,hx] using h
   rw[Y1j3 C this];rfl
theorem Yzv {n:Int}:∀ {A:List Int}(C:List Int),plN n A=false->Ylu n (A++C)=A++Ylu n C
 | [],_,_=>rfl
 | x :: r,C,h=>by
  simp only[plN,List.any_cons,bp,aM]at h
  simp only[bE,Ylu]
  rw[ab h.1,Yzv C (by simpa[plN] using h.2)]
def Ypt (n:Int) (L:List Int) (k:Nat):List Int:=if plN n (L.take k) then Ylu n (L.take k) else L.take k
theorem Yx1 {n:Int}{L:List Int}{k:Nat}(h:k<L.length):plN n (L.take (k+1))=(plN n (L.take k)||decide (n<=L.getD k 0)):=by
 have e:=Ylk h
 unfold plN;rw[e,List.any_append];simp
theorem Y1y2 {n:Int}{L:List Int}{k:Nat}(h:k<L.length) (h1:plN n (L.take k)):Ypt n L (k+1)=Ypt n L k++[L.getD k 0]:=by
 have e:=Ylk h
 unfold Ypt
 rw[ae (by rw[Yx1 h,h1];rfl),ae h1,e,Y1j3 _ h1];rfl
theorem Y1ym {n:Int}{L:List Int}{k:Nat}(h:k<L.length) (h1:plN n (L.take k)=false) (h2:¬ n<=L.getD k 0):Ypt n L (k+1)=Ypt n L k++[L.getD k 0]:=by
 have e:=Ylk h
 unfold Ypt
 rw[ab (by rw[Yx1 h,h1,bK h2];decide),ab (by rw[h1];decide),e];rfl
theorem Y1xg {n:Int}{L:List Int}{k:Nat}(h:k<L.length) (h1:plN n (L.take k)=false) (h2:n<=L.getD k 0) (h3:L.getD k 0=n):Ypt n L (k+1)=Ypt n L k++[L.getD k 0]:=by
 have e:=Ylk h
 unfold Ypt
 rw[ae (by rw[Yx1 h,h1,bF h2];rfl),ab (by rw[h1];decide),e,Yzv _ h1]
 show L.take k++Ylu n [L.getD k 0]=_
 simp only[Ylu];rw[ae h2,ae h3]
theorem Y1sg {n:Int}{L:List Int}{k:Nat}(h:k<L.length) (h1:plN n (L.take k)=false) (h2:n<=L.getD k 0) (h3:¬ L.getD k 0=n):Ypt n L (k+1)=Ypt n L k++[n]++[L.getD k 0]:=by
 have e:=Ylk h
 unfold Ypt
 rw[ae (by rw[Yx1 h,h1,bF h2];rfl),ab (by rw[h1];decide),e,Yzv _ h1]
 show L.take k++Ylu n [L.getD k 0]=_
 simp only[Ylu];rw[ae h2,ab h3,aH];rfl
theorem Y1sx {n:Int}{L:List Int}{k:Nat}(h:L.length<=k):(plN n (L.take k)->Ypt n L k=Ylu n L)/\(plN n (L.take k)=false->Ypt n L k++[n]=Ylu n L):=by
 have e:=ar h
 refine⟨λh1 => ?_,λh1 => ?_⟩
 ·unfold Ypt;rw[ae h1,e]
 ·unfold Ypt;rw[ab (by rw[h1];decide)]
  rw[e]at h1|-
  have:=Yzv [] h1
  rw[bv]at this;rw[this];rfl
theorem Y100 (n:Int):∀ L:List Int,(Ylu n L).length<=L.length+1
 | []=>by simp[Ylu]
 | x :: r=>by
  have:=Y100 n r
  simp only[Ylu];split
  ·split<;>simp
  ·simp only[aD];omega
theorem Y1cz (n:Int) (L:List Int) (k:Nat):(Ypt n L k).length<=L.length+1:=by
 have h:(L.take k).length<=L.length:=by rw[au];omega
 unfold Ypt;split
 ·have:=Y100 n (L.take k);omega
 ·omega
def Yne (n:Int) (L:List Int):List Int:=if n∈L then L.filter λx=>decide (x≠n) else Ylu n L
theorem Y1gg (n:Int) (L:List Int):(Yne n L).length<=L.length+1:=by
 unfold Yne;split
 ·have:=cN (λx=>decide (x≠n)) L;omega
 ·exact Y100 n L
def srt:List Int->Prop
 | []=>True
 | x :: r=>(1<=x/\x<=99999)/\(∀ y∈r,x<y)/\srt r
theorem Y19f {n:Int}(hn:1<=n/\n<=99999):∀ L,srt L->srt (Ylu n L)/\∀ y∈Ylu n L,y=n\/y∈L
 | [],_=>⟨⟨hn,by simp,trivial⟩,by simp[Ylu]⟩
 | x :: r,h=>by
  obtain⟨h1,h2,h3⟩:=h
  simp only[Ylu]
  split
  ·rename_i hx
   split
   ·exact⟨⟨h1,h2,h3⟩,λy hy=>.inr hy⟩
   ·refine⟨⟨hn,λy hy => ?_,h1,h2,h3⟩,λy hy => ?_⟩
    ·rcases List.mem_cons.1 hy with rfl|hy
     ·omega
     ·have:=h2 y hy;omega
    ·rcases List.mem_cons.1 hy with rfl|hy
     ·exact .inl rfl
     ·exact .inr hy
  ·rename_i hx
   obtain⟨i1,i2⟩:=Y19f hn r h3
   refine⟨⟨h1,λy hy => ?_,i1⟩,λy hy => ?_⟩
   ·rcases i2 y hy with rfl|hy
    ·omega
    ·exact h2 y hy
   ·rcases List.mem_cons.1 hy with rfl|hy
    ·exact .inr aj
    ·rcases i2 y hy with rfl|hy
     ·exact .inl rfl
     ·exact .inr (ai _ hy)
theorem Yw2 (p:Int->Bool):∀ L,srt L->srt (L.filter p)
 | [],_=>trivial
 | x :: r,h=>by
  obtain⟨h1,h2,h3⟩:=h
  rw[List.filter_cons]
  split
  ·exact⟨h1,λy hy=>h2 y (List.mem_filter.1 hy).1,Yw2 p r h3⟩
  ·exact Yw2 p r h3
theorem Y1rg {n:Int}(hn:1<=n/\n<=99999) {L:List Int}(h:srt L):srt (Yne n L):=by
 unfold Yne;split
 ·exact Yw2 _ L h
 ·exact(Y19f hn L h).1
theorem Y160 {x:Int}:∀ {A:List Int},srt (A++[x]) ↔ srt A/\(1<=x/\x<=99999)/\∀ y∈A,y<x
 | []=>by simp[srt]
 | a :: A=>by
  simp only[bE,srt,Y160 (A:=A),az,an,aB]
  constructor
  ·rintro⟨h1,h2,h3,h4,h5⟩
   exact⟨⟨h1,λy hy=>h2 y (.inl hy),h3⟩,h4,λy hy=>hy.elim (λe=>by rw[e];exact h2 x (.inr (.inl rfl))) (h5 y)⟩
  ·rintro⟨⟨h1,h2,h3⟩,h4,h5⟩
   exact⟨h1,λy hy=>hy.elim (h2 y) (λe=>e.elim (λe=>by rw[e];exact h5 a (.inl rfl)) (λe=>by cases e)),h3,h4,λy hy=>h5 y (.inr hy)⟩
theorem Y1ag (L:List Int):∀ k,k<=L.length->(Yqg L k ↔ srt (L.take k))
 | 0,_=>by simp[Yqg,srt]
 | k+1,hk=>by
  have e:=Ylk (L:=L) (k:=k) oW
  have ih:=Y1ag L k oW
  rw[e,Y160,<- ih]
  simp only[Yqg,af,aF,ak]
  constructor
  ·rintro⟨⟨h1,h2⟩,h3⟩
   refine⟨h1,h2,λy hy => ?_⟩
   rcases h3 with h2|h2
   ·subst h2;simp at hy
   ·have hs:=ih.1 h1
    have e2:=Ylk (L:=L) (k:=k - 1) oW
    have hk0:0<k:=by
     rcases cZ k with h0|h0
     ·subst h0;simp at hy
     ·exact h0
    rw[show k - 1+1=k by omega]at e2
    rw[e2]at hs hy
    have h4:=Y160.1 hs
    rcases List.mem_append.1 hy with hy|hy
    ·have:=h4.2.2 y hy;omega
    ·simp only[an]at hy;omega
  ·rintro⟨h1,h2,h3⟩
   refine⟨⟨h1,h2⟩,?_⟩
   rcases cZ k with h0|h0
   ·exact .inl h0
   ·right
    refine h3 _ ?_
    rw[List.mem_iff_getElem?]
    refine⟨k - 1,?_⟩
    rw[aV,ae oW]
    simp[ao,av (show k - 1<L.length by omega)]
theorem Ys8 (L:List Int):Yns L ↔ srt L:=by
 have:=Y1ag L L.length (aC _)
 rw[b8]at this;exact this
mutual
def Ylm (g:List Int->List Int):YS_->YS_
 | ⟨k,n,t,s,l⟩=>⟨k,n,t,if k=1 then g s else s,Y1c3 g l⟩
def Y1c3 (g:List Int->List Int):List YS_->List YS_
 | []=>[]
 | x :: r=>Ylm g x :: Y1c3 g r
end
theorem Y1f1 (g:List Int->List Int):∀ l,Y1c3 g l=l.map (Ylm g)
 | []=>rfl
 | x :: r=>by rw[Y1c3,Y1f1 g r];rfl
theorem Yqy (g:List Int->List Int) (s:YS_):Ylm g s=⟨s.Ka,s.Na,s.Ta,if s.Ka=1 then g s.Sa else s.Sa,s.Ia.map (Ylm g)⟩:=by cases s;simp only[Ylm,Y1f1]
theorem Y17a (f h:YS_->Nat) (g:YS_->YS_):∀ L:List YS_,(∀ x∈L,f (g x)<=h x)->sumBy f (L.map g)<=sumBy h L
 | [],_=>aC _
 | x :: r,hL=>by
  have h1:=hL x aj
  have h2:=Y17a f h g r λy hy=>hL y (ai _ hy)
  simp only[bO,sumBy];omega
theorem Y1bf (g:List Int->List Int):∀ s:YS_,Ylg (Ylm g s)=Ylg s:=by
 refine YS_.ind λs ih => ?_
 rw[Ym7,Ym7 s,Yqy]
 have:∀ L:List YS_,(∀ x∈L,Ylg (Ylm g x)=Ylg x)->sumBy Ylg (L.map (Ylm g))=sumBy Ylg L:=by
  intro L
  induction L with
  | nil=>intro _;rfl
  | cons x r ihr=>
   intro h
   simp only[bO,sumBy,h x aj,ihr λy hy=>h y (ai _ hy)]
 simp only;rw[this s.Ia ih]
theorem Y1sn (g:List Int->List Int):∀ s:YS_,Ylw (Ylm g s)=Ylw s:=by
 refine YS_.ind λs ih => ?_
 rw[Yqd,Yqd s,Yqy]
 have:∀ L:List YS_,(∀ x∈L,Ylw (Ylm g x)=Ylw x)->Yma Ylw (L.map (Ylm g))=Yma Ylw L:=by
  intro L
  induction L with
  | nil=>intro _;rfl
  | cons x r ihr=>
   intro h
   simp only[bO,Yma,h x aj,ihr λy hy=>h y (ai _ hy)]
 simp only;rw[this s.Ia ih]
theorem Y1aa {g:List Int->List Int}(hg:∀ L,Yns L->Yns (g L)):∀ s:YS_,okY s->okY (Ylm g s):=by
 refine YS_.ind λs ih h => ?_
 rw[Ypo,af,am]at h|-
 rw[Yqy]
 refine⟨λx hx => ?_,?_⟩
 ·obtain⟨y,hy,rfl⟩:=List.mem_map.1 hx
  exact ih y hy (h.1 y hy)
 ·have h2:=h.2
  simp only[Yq6,af,aO]at h2|-
  by_cases hk:s.Ka=1
  ·rw[ae hk]
   exact⟨⟨h2.1.1,hg _ h2.1.2⟩,by simp[hk]⟩
  ·rw[ab hk];exact h2
theorem Y1hc {g:List Int->List Int}(hg:∀ L,(g L).length<=L.length+1):∀ s:YS_,wY (Ylm g s)<=wY s+Ylg s:=by
 refine YS_.ind λs ih => ?_
 have h1:=Y17a wY (λx=>wY x+Ylg x) (Ylm g) s.Ia ih
 have h2:sumBy (λx=>wY x+Ylg x) s.Ia=sumBy wY s.Ia+sumBy Ylg s.Ia:=by
  generalize s.Ia=L
  induction L with
  | nil=>rfl
  | cons x r ih=>simp only[sumBy];omega
 have h3:=Ymd (Ylm g s)
 have h4:=Ymd s
 have h5:=Ym7 s
 have h6:=hg s.Sa
 have h7:(Ylm g s).Ta=s.Ta/\(Ylm g s).Ia=s.Ia.map (Ylm g)/\((Ylm g s).Sa=g s.Sa\/(Ylm g s).Sa=s.Sa):=by
  rw[Yqy];refine⟨rfl,rfl,?_⟩
  by_cases hk:s.Ka=1
  ·exact .inl (ae hk)
  ·exact .inr (ab hk)
 rw[h7.1,h7.2.1,aO]at h3
 rcases h7.2.2 with h8|h8<;>rw[h8]at h3<;>omega
theorem Yw3 {g:List Int->List Int}(hg:∀ L,Yns L->Yns (g L)) {s:YS_}(h:Yld s):Yld (Ylm g s):=by
 simp only[Yld,af,ak]at h|-
 rw[Y1bf,Y1sn];exact⟨h.1,Y1aa hg s h.2⟩
theorem Y16n {n:Int}(hn:1<=n/\n<=99999):∀ L,Yns L->Yns (Ylu n L):=λL h=>(Ys8 _).2 (Y19f hn L ((Ys8 L).1 h)).1
theorem Y1x4 {n:Int}(hn:1<=n/\n<=99999):∀ L,Yns L->Yns (Yne n L):=λL h=>(Ys8 _).2 (Y1rg hn ((Ys8 L).1 h))
def hdS (s:YS_):Bool:=decide (s.Ka=0) && !decide ((s.Ia.length:Int)=0)&&decide ((s.Ia.g 0).Ka=1)
def hdF (x:YE) (s:YS_):Bool:=hdS s&&decide (rsC x.Ba (s.Ia.g 0).Ta (s.Ia.g 0).Sa=1)
def hdR (x:YE) (s:YS_):YB:=if hdS s then rsB x.Ba (s.Ia.g 0).Ta (s.Ia.g 0).Sa else ⟨mkS [],[],0,0⟩
def hdM (x:YE) (s:YS_):Int:=if hdF x s/\(hdR x s).Ka=4 then (hdR x s).Na else -1
def scU (x:YE):Int:=nxt x.Sb 3
def scA (x:YE):Int:=nxS x.Sb 3
def scI (x:YE):Int:=nxt (scA x) 2
def Yrr (x:YE) (s:YS_):YS_:=Ylm (Yne (scI x)) (Ylm (Ylu (scU x)) s)
def ruS (x:YE) (m:Int):YR_:=x.Ma.g m.toNat
def Yn3 (x:YE) (m:Int) (s:YS_):Int:=if x.Sc=0 then 7 else if nxR x.Sb 3<=99999/\nxR (scA x) 2<=99999 then (if apB x.Ba (ruS x m) (Yrr x s) then 0 else 6) else 8
def Yo7 (x:YE) (m:Int) (s:YS_):YS_:=if Yn3 x m s=0 then Ylm (Yne (scI x)) (apY x.Ba (ruS x m) (Yrr x s)) else zY
section
abbrev Y1zo (n:Int):SV:=.one (.val (.cap (.int .i64 n)))
abbrev Y1za (f:FuncId) (n:Int):SV:=.one (.val (.clo f (.int .i64 n)))
abbrev Z8k (L:List Int) (n:Int):Ct:=⟨125,[],[Ag L,li n],[.Aa (Ylu n L)],.sv (.r 0)⟩
def Z7k (L:List Int) (n:Int):Lp Nat:=.mk 41 0 (λx=>[(1,li n),(5,.r 0),(6,hs x 1),(9,Ag L),(10,li (L.map Yl4).length),(11,hs x 0)]) (λx=>[ho x 2]) (λk=>[.s (li k),.s (lb (plN n (L.take k))),.o (.Aa (Ypt n L k))]) (λk=>k<=L.length/\L.length<=9223372036854775807) (λk=>L.length - k) [.mk True (.exit 0) (λx=>[(1,li n),(5,.r 0),(6,hs x 0)]) (λx=>[ho x 1]) [.s (lb (plN n (List.take L.length L))),.o (.Aa (Ypt n L L.length))]]
theorem Zis (L:List Int) (n:Int) (h:L.length<=2147483600):Lp.Sem prog (Yli f125 0) (Z7k L n):=Ylp (λk=>let v5:=Ypt n L k;let v2:=((v5.map Yl4).length+1) * 8<=140737488355328;let v4:=(k:Int)+1;let v3:Ob:=.y 1 (v5.map Yl4++[[cI (L.getD k 0)]]);let v1:Tq _ _:=.p v2 (.r v4 (.g [2] (k+1) [.s (li v4),.s (lb (plN n (L.take k))),.o v3]));.i ((k:Int)<(L.map Yl4).length) (.x (k:Int) (L.map Yl4) [cI (L.getD k 0)] (.b (!plN n (L.take k)) (.i (n<=L.getD k 0) (.i (L.getD k (0:Int)≠n) (.p v2 (.p (((v5.map Yl4++[[cI n]]).length+1) * 8<=140737488355328) (.r v4 (.g [4] (k+1) [.s (li v4),.s (lb true),.o (.y 1 (v5.map Yl4++[[cI n]]++[[cI (L.getD k 0)]]))])))) (.p v2 (.r v4 (.g [2] (k+1) [.s (li v4),.s (lb true),.o v3])))) v1) (.y false v1))) (.o 0 [0] [.s (lb (plN n (L.take k))),.o (.Aa v5)])) (by
 intro k h;try dsimp only[Yl3,Yle,Z7k]at h|-
 have g1:=@Yx1 n L k
 have g2:=@Y1y2 n L k
 have g3:=@Y1ym n L k
 have g4:=@Y1xg n L k
 have g5:=@Y1sg n L k
 have g6:=Y1cz n L k
 exact z07)
theorem Zbz (L:List Int) (n:Int) (h:L.length<=2147483600):Z8k L n:=Ylh call125 func125 (let v1:=(Ypt n L L.length).map Yl4;.z Yl4 L (.w (.g (.nilreg 5 true 1)) (.l (Z7k L n) (Zis L n h) [0] [.s (li 0),.s (lb false),.o (.y 1 [])] 0 (.t (.b (!plN n (List.take L.length L)) (.p ((v1.length+1) * 8<=140737488355328) (.f [2] [.y 1 ((Ypt n L L.length).map Yl4++[[cI n]])] (.sv (.r 0)))) (.f [0] [.y 1 v1] (.sv (.r 0)))) .q)))) (by
 dsimp only[Yl3,Z8k,Yle,Z7k]
 have g1:=@Y1sx n L L.length
 have g2:Ypt n L 0=[]:=rfl
 have g3:plN n (L.take 0)=false:=rfl
 have g4:=Y1cz n L L.length
 exact z07)
def Yt6 (n:Int) (L:List Int):List Int:=L.filter λx=>decide (x≠n)
theorem Y1np {n:Int}{L:List Int}{k:Nat}(h:k<L.length):Yt6 n (L.take (k+1))=if L.getD k 0=n then Yt6 n (L.take k) else Yt6 n (L.take k)++[L.getD k 0]:=by
 have e:=Ylk h
 unfold Yt6;rw[e,dw]
 show _++List.filter _ [L.getD k 0]=_
 generalize L.getD k 0=y
 by_cases hx:y=n
 ·rw[ae hx];simp[hx]
 ·rw[ab hx];simp[hx]
theorem Y1u0 (n:Int) (L:List Int) (k:Nat):(Yt6 n (L.take k)).length<=L.length:=by
 have h1:=cN (λx=>decide (x≠n)) (L.take k)
 have h2:(L.take k).length<=L.length:=by rw[au];omega
 unfold Yt6;omega
theorem Y1x6 {n:Int}{L:List Int}(h:n∈L):Yne n L=Yt6 n L:=ae h
theorem Y1uu {n:Int}{L:List Int}(h:¬ n∈L):Yne n L=Ylu n L:=ab h
abbrev Z9l (L:List Int) (n:Int):Ct:=⟨168,[],[Ag L,li n],[.Aa (Yt6 n L)],.sv (.r 0)⟩
def Z61 (L:List Int) (n:Int):Lp Nat:=.mk 23 0 (λx=>[(1,li n),(5,.r 0),(8,Ag L),(9,li (L.map Yl4).length),(10,hs x 0)]) (λx=>[ho x 1]) (λk=>[.s (li k),.o (.Aa (Yt6 n (L.take k)))]) (λk=>k<=L.length/\L.length<=9223372036854775807) (λk=>L.length - k) [.mk True (.exit 0) (λx=>[(5,.r 0)]) (λx=>[ho x 0]) [.o (.Aa (Yt6 n L))]]
theorem Zhi (L:List Int) (n:Int) (h:L.length<=2147483600):Lp.Sem prog (Yli f168 0) (Z61 L n):=Ylp (λk=>let v1:=(Yt6 n (L.take k)).map Yl4;let v2:=(k:Int)+1;.i ((k:Int)<(L.map Yl4).length) (.x (k:Int) (L.map Yl4) [cI (L.getD k 0)] (.i (L.getD k (0:Int)≠n) (.p ((v1.length+1) * 8<=140737488355328) (.r v2 (.g [2] (k+1) [.s (li v2),.o (.y 1 ((Yt6 n (L.take k)).map Yl4++[[cI (L.getD k 0)]]))]))) (.r v2 (.g [0] (k+1) [.s (li v2),.o (.y 1 v1)])))) (.o 0 [0] [.o (.y 1 v1)])) (by
 intro k h;try dsimp only[Yl3,Yle,Z61]at h|-
 have g1:=@Y1np n L k
 have g2:=Y1u0 n L k
 have g3:L.length<=k->L.take k=L:=λh=>ar h
 exact z07)
theorem Zgu (L:List Int) (n:Int) (h:L.length<=2147483600):Z9l L n:=Ylh call168 func168 (.z Yl4 L (.w (.g (.nilreg 5 true 1)) (.l (Z61 L n) (Zhi L n h) [0] [.s (li 0),.o (.y 1 [])] 0 (.t (.f [0] [.Aa (Yt6 n L)] (.sv (.r 0))) .q)))) (by
 dsimp only[Yl3,Z9l,Yle,Z61]
 have g3:Yt6 n (L.take 0)=[]:=rfl
 exact z07)
abbrev Z9m (L:List Int) (n:Int):Ct:=⟨123,[],[Ag L,li n],[.Aa (Yne n L)],.sv (.r 0)⟩
theorem Zgv (L:List Int) (n:Int) (h:L.length<=2147483600/\Yns L/\1<=n/\n<=99999):Z9m L n:=Ylh call123 func123 (let v2:AV:=.sv (.r 0);let v1:Tq _ _:=.d [.rd] (Z6 L) (.f [0] [.Aa L] v2);.c [.rd] (Z7 L) (.b (!Yns L) (.y true v1) (.c [.rd] (Zab n) (.i (Yo1 n=0) v1 (.c [.rd,.rd] (Zgt L n) (.i (n∈L) (.d [.rd,.rd] (Z9l L n) (.f [0] [.Aa (Yt6 n L)] v2)) (.d [.rd,.rd] (Z8k L n) (.f [0] [.Aa (Ylu n L)] v2)))))))) (by
 dsimp only[Yl3,Z9m]
 have g1:=@Y1x6 n L
 have g2:=@Y1uu n L
 have g3:1<=n->n<=99999->Yo1 n≠0:=λa b=>by unfold Yo1;rw[ae ⟨a,b⟩];split<;>omega
 exact z03)
abbrev Zb6 (L:List Int) (n:Int):Ct:=⟨124,[],[Ag L,Y1zo n],[.Aa (Ylu n L)],.sv (.r 0)⟩
theorem Z9n (L:List Int) (n:Int) (h:L.length<=2147483600):Zb6 L n:=Ylh call124 func124 (.d [.rd,.rd] (Z8k L n) (.f [0] [.Aa (Ylu n L)] (.sv (.r 0)))) (by
 dsimp only[Yl3,Zb6]
 exact z03)
abbrev Zb7 (L:List Int) (n:Int):Ct:=⟨122,[],[Ag L,Y1zo n],[.Aa (Yne n L)],.sv (.r 0)⟩
theorem Z9o (L:List Int) (n:Int) (h:L.length<=2147483600/\Yns L/\1<=n/\n<=99999):Zb7 L n:=Ylh call122 func122 (.d [.rd,.rd] (Z9m L n) (.f [0] [.Aa (Yne n L)] (.sv (.r 0)))) (by
 dsimp only[Yl3,Zb7]
 exact z03)
theorem Y1gr {g:List Int->List Int}{s:YS_}:(Ylm g s).Ka=s.Ka/\(Ylm g s).Na=s.Na/\(Ylm g s).Ta=s.Ta/\(Ylm g s).Ia=s.Ia.map (Ylm g)/\(s.Ka=1->(Ylm g s).Sa=g s.Sa)/\(¬ s.Ka=1->(Ylm g s).Sa=s.Sa):=by
 rw[Yqy];exact⟨rfl,rfl,rfl,rfl,λh=>ae h,λh=>ab h⟩
theorem Y12l {g:List Int->List Int}{L:List YS_}{k:Nat}(h:k<L.length):(L.take (k+1)).map (Ylm g)=(L.take k).map (Ylm g)++[Ylm g (L.g k)]:=by
 rw[Ylk h];simp
theorem Yu0 {s:YS_}(h:okY s):Yns s.Sa:=by
 rw[Ypo,af]at h
 have:=h.2
 simp only[Yq6,af]at this
 exact this.1.2
abbrev Z1m (s:YS_) (n:Int):Ct:=⟨65,[],[Yln s,Y1za 124 n],Yp2 (Ylm (Ylu n) s),.sv (Yoq (Ylm (Ylu n) s) 0)⟩
def Z2b (s:YS_) (n:Int):Lp Nat:=let v4:Cell:=.y;let v1:=[vI 0,vI 0,vS (mkS []),.val v4,.val v4];let v2:Ob:=.Aa (Ylm (Ylu n) s).Sa;let v3:=[vI s.Ka,vI s.Na,vS s.Ta,.ref 2,.ref 3];.mk 43 0 (λx=>[(1,.one (.val (.clo 124 (.int .i64 n)))),(4,.y 0),(5,.y 1),(27,Af s.Ia),(28,li (s.Ia.map Yl1).length),(29,hs x 0)]) (λx=>[.box v1,.box v3,ho x 2,ho x 1]) (λk=>[.s (li k),.o (.Ae (List.map (Ylm (Ylu n)) (s.Ia.take k))),.o v2]) (λk=>k<=s.Ia.length/\s.Ia.length<=9223372036854775807) (λk=>s.Ia.length - k) [.mk True (.exit 0) (λx=>[(4,.y 0),(5,.y 1)]) (λx=>[.box v1,.box v3,ho x 1,ho x 0]) [.o (.Ae (List.map (Ylm (Ylu n)) s.Ia)),.o v2]]
theorem Z9p (s:YS_) (n:Int) (h:wY s<=1000000000) (ih:∀ (z:YS_),z∈s.Ia->∀ (n:Int),wY z<=1000000000->OK (Z1m z n)):Lp.Sem prog (Yli f65 0) (Z2b s n):=Ylp (λk=>let v1:=List.map (Ylm (Ylu n)) (s.Ia.take k);let v2:Ob:=.Aa (Ylm (Ylu n) s).Sa;let v3:=s.Ia.g k;.i ((k:Int)<(s.Ia.map Yl1).length) (.x (k:Int) (s.Ia.map Yl1) (Yl8 v3) (.w (.draw [(5,[9,10]),(6,[3,17]),(8,[1])]) (.d [.rd,.rd] (Z1m v3 n) (.p (((v1.map Yl1).length+1) * 80<=140737488355328) (.r ((k:Int)+1) (.g [0,1,2,18] (k+1) [.s (li ((k:Int)+1)),.o (.y 5 (v1.map Yl1++[Yl8 (Ylm (Ylu n) v3)])),.o v2])))))) (.o 0 [0,1,2,3] [.o (.Ae v1),.o v2])) (by
 intro k h;try dsimp only[Yl3,Yle,Z2b]at h|-
 have g1:=Ymd s
 have g2:=@Yls _ wY s.Ia (s.Ia.g k)
 have g3:=@Y12l (Ylu n) s.Ia k
 exact z0g)
theorem Zit (s:YS_) (n:Int) (h:wY s<=1000000000) (ih:∀ z∈s.Ia,∀ (n:Int) (h:wY z<=1000000000),Z1m z n):Z1m s n:=Ylh call65 func65 (let v1:Tq _ _:=.t (.f [2,3] [.Aa (Ylm (Ylu n) s).Sa,.Ae (List.map (Ylm (Ylu n)) s.Ia)] (.sv (.agg [vI s.Ka,vI s.Na,vS s.Ta,.ref 0,.ref 1]))) .q;.w (.draw [(11,[18])]) (.d [.rd] (Z6 s.Sa) (.i (s.Ka=1) (.d [.rd,.rd] (Zb6 s.Sa n) (.z Yl1 s.Ia (.w (.g (.nilbox 18 4 true 5)) (.l (Z2b s n) (Z9p s n h ih) [1,18,19,20] [.s (li 0),.o (.y 5 []),.o (.Aa (Ylu n s.Sa))] 0 v1)))) (.z Yl1 s.Ia (.w (.g (.nilbox 18 4 true 5)) (.l (Z2b s n) (Z9p s n h ih) [1,18,10,19] [.s (li 0),.o (.y 5 []),.o (.Aa s.Sa)] 0 v1)))))) (by
 dsimp only[Yl3,Z1m,Yle,Z2b]
 have g1:=Ymd s
 have g2:=@Y1gr (Ylu n) s
 exact z0h)
theorem Zgw (s:YS_):∀ (n:Int) (h:wY s<=1000000000),Z1m s n:=YS_.ind (P:=λs=>∀ (n:Int) (h:wY s<=1000000000),Z1m s n) (λs ih n h=>Zit s n h ih) s
abbrev Z1n (s:YS_) (n:Int):Ct:=⟨65,[],[Yln s,Y1za 122 n],Yp2 (Ylm (Yne n) s),.sv (Yoq (Ylm (Yne n) s) 0)⟩
def Z2c (s:YS_) (n:Int):Lp Nat:=let v4:Cell:=.y;let v1:=[vI 0,vI 0,vS (mkS []),.val v4,.val v4];let v2:Ob:=.Aa (Ylm (Yne n) s).Sa;let v3:=[vI s.Ka,vI s.Na,vS s.Ta,.ref 2,.ref 3];.mk 43 0 (λx=>[(1,.one (.val (.clo 122 (.int .i64 n)))),(4,.y 0),(5,.y 1),(27,Af s.Ia),(28,li (s.Ia.map Yl1).length),(29,hs x 0)]) (λx=>[.box v1,.box v3,ho x 2,ho x 1]) (λk=>[.s (li k),.o (.Ae (List.map (Ylm (Yne n)) (s.Ia.take k))),.o v2]) (λk=>k<=s.Ia.length/\s.Ia.length<=9223372036854775807) (λk=>s.Ia.length - k) [.mk True (.exit 0) (λx=>[(4,.y 0),(5,.y 1)]) (λx=>[.box v1,.box v3,ho x 1,ho x 0]) [.o (.Ae (List.map (Ylm (Yne n)) s.Ia)),.o v2]]
theorem Z9q (s:YS_) (n:Int) (h:wY s<=1000000000/\okY s/\1<=n/\n<=99999) (ih:∀ (z:YS_),z∈s.Ia->∀ (n:Int),wY z<=1000000000/\okY z/\1<=n/\n<=99999->OK (Z1n z n)):Lp.Sem prog (Yli f65 0) (Z2c s n):=Ylp (λk=>let v1:=List.map (Ylm (Yne n)) (s.Ia.take k);let v2:Ob:=.Aa (Ylm (Yne n) s).Sa;let v3:=s.Ia.g k;.i ((k:Int)<(s.Ia.map Yl1).length) (.x (k:Int) (s.Ia.map Yl1) (Yl8 v3) (.w (.draw [(5,[9,10]),(6,[3,17]),(8,[1])]) (.d [.rd,.rd] (Z1n v3 n) (.p (((v1.map Yl1).length+1) * 80<=140737488355328) (.r ((k:Int)+1) (.g [0,1,2,18] (k+1) [.s (li ((k:Int)+1)),.o (.y 5 (v1.map Yl1++[Yl8 (Ylm (Yne n) v3)])),.o v2])))))) (.o 0 [0,1,2,3] [.o (.Ae v1),.o v2])) (by
 intro k h;try dsimp only[Yl3,Yle,Z2c]at h|-
 have g1:=Ymd s
 have g2:=@Yls _ wY s.Ia (s.Ia.g k)
 have g3:=@Y12l (Yne n) s.Ia k
 have g4:=λh=>@Yop s h (s.Ia.g k)
 exact z0g)
theorem Ziu (s:YS_) (n:Int) (h:wY s<=1000000000/\okY s/\1<=n/\n<=99999) (ih:∀ z∈s.Ia,∀ (n:Int) (h:wY z<=1000000000/\okY z/\1<=n/\n<=99999),Z1n z n):Z1n s n:=Ylh call65 func65 (let v1:Tq _ _:=.t (.f [2,3] [.Aa (Ylm (Yne n) s).Sa,.Ae (List.map (Ylm (Yne n)) s.Ia)] (.sv (.agg [vI s.Ka,vI s.Na,vS s.Ta,.ref 0,.ref 1]))) .q;.w (.draw [(11,[18])]) (.d [.rd] (Z6 s.Sa) (.i (s.Ka=1) (.d [.rd,.rd] (Zb7 s.Sa n) (.z Yl1 s.Ia (.w (.g (.nilbox 18 4 true 5)) (.l (Z2c s n) (Z9q s n h ih) [1,18,19,20] [.s (li 0),.o (.y 5 []),.o (.Aa (Yne n s.Sa))] 0 v1)))) (.z Yl1 s.Ia (.w (.g (.nilbox 18 4 true 5)) (.l (Z2c s n) (Z9q s n h ih) [1,18,10,19] [.s (li 0),.o (.y 5 []),.o (.Aa s.Sa)] 0 v1)))))) (by
 dsimp only[Yl3,Z1n,Yle,Z2c]
 have g1:=Ymd s
 have g2:=@Y1gr (Yne n) s
 have g3:=@Yu0 s
 exact z0h)
theorem Zgx (s:YS_):∀ (n:Int) (h:wY s<=1000000000/\okY s/\1<=n/\n<=99999),Z1n s n:=YS_.ind (P:=λs=>∀ (n:Int) (h:wY s<=1000000000/\okY s/\1<=n/\n<=99999),Z1n s n) (λs ih n h=>Ziu s n h ih) s
abbrev Z3q (s:YS_) (n:Int):Ct:=⟨75,[],[Yln s,li n],Yp2 (Ylm (Ylu n) s),.sv (Yoq (Ylm (Ylu n) s) 0)⟩
theorem Z8 (s:YS_) (n:Int) (h:wY s<=1000000000):Z3q s n:=Ylh call75 func75 (let v1:=Ylm (Ylu n) s;.w (.g (.cap 3 1)) (.d [.rd,.rd] (Z1m s n) (.f [3,4] [.Aa v1.Sa,.Ae v1.Ia] (.sv (.agg [vI v1.Ka,vI v1.Na,vS v1.Ta,.ref 0,.ref 1]))))) (by
 dsimp only[Yl3,Z3q]
 exact z03)
abbrev Z3r (s:YS_) (n:Int):Ct:=⟨74,[],[Yln s,li n],Yp2 (Ylm (Yne n) s),.sv (Yoq (Ylm (Yne n) s) 0)⟩
theorem Zaj (s:YS_) (n:Int) (h:wY s<=1000000000/\okY s/\1<=n/\n<=99999):Z3r s n:=Ylh call74 func74 (let v1:=Ylm (Yne n) s;.w (.g (.cap 3 1)) (.d [.rd,.rd] (Z1n s n) (.f [3,4] [.Aa v1.Sa,.Ae v1.Ia] (.sv (.agg [vI v1.Ka,vI v1.Na,vS v1.Ta,.ref 0,.ref 1]))))) (by
 dsimp only[Yl3,Z3r]
 exact z03)
def cdN (s k:Int):Int:=if nxR s k<=99999 then 0 else 8
abbrev Z58 (x:YE) (z:Int) (Ka:Int):Ct:=⟨72,stI x z,[.y 0,li Ka],[.box [.ref 1,.ref 2,vI (nxS x.Sb Ka),vI x.Va,vI x.Sc,vI z],.Ac x.Ba,.Ad x.Ma],.tup [li (nxt x.Sb Ka),li (cdN x.Sb Ka)]⟩
theorem Z9r (x:YE) (z Ka:Int) (h:0<=x.Sb/\x.Sb<=99999/\1<=Ka/\Ka<=3):Z58 x z Ka:=Ylh call72 func72 (.d [.rd,.rd] (Z9g x.Sb Ka) (.i (nxt x.Sb Ka=0) (.f [] [.box [.ref 1,.ref 2,vI x.Sb,vI x.Va,vI x.Sc,vI z],.Ac x.Ba,.Ad x.Ma] (.tup [li 0,li 8])) (.f [] [.box [.ref 1,.ref 2,vI (nxt x.Sb Ka),vI x.Va,vI x.Sc,vI z],.Ac x.Ba,.Ad x.Ma] (.tup [li (nxt x.Sb Ka),li 0])))) (by
 dsimp only[Yl3,Z58]
 have g2:=@Yqx x.Sb Ka
 with_reducible repeat' (first|apply ah|exact zR|(intro)|apply Zgr)
 all_goals ((try simp only[std,inj]at *);with_reducible and_intros)
 all_goals try with_reducible first|apply Zgr
 all_goals try first|exact zw|grind[nxt,nxS,cdN,Yla,Ylb,Yl5])
abbrev Z8l (x:YE) (z:Int) (s:YS_):Ct:=⟨29,stI x z,[.y 0,Yln s],stI x z,.sv (li (hdM x s))⟩
theorem Zb8 (x:YE) (z:Int) (s:YS_) (h:x.Ba.length<=1000000001/\sumBy wB x.Ba<=1000000001):Z8l x z s:=Ylh call29 func29 (let v1:List Ob:=[.box [.ref 1,.ref 2,vI x.Sb,vI x.Va,vI x.Sc,vI z],.Ac x.Ba,.Ad x.Ma];let v2:=s.Ia.g 0;let v3:AV:=.sv (li (-1:Int));let v4:=(0:Int)<=0/\(s.Ia.map Yl1)[0]? = some (Yl8 v2);let v5:=rsB x.Ba v2.Ta v2.Sa;let v6:Tq _ _:=.y true (.f [] v1 v3);.i (s.Ka≠0) (.y true v6) (.z Yl1 s.Ia (.i (((s.Ia.map Yl1).length:Int)=0) v6 (.w (.cells (Yl8 v2)) (.p v4 (.i (v2.Ka≠1) (.f [] v1 v3) (.w (.draw [(14,[18])]) (.w (.cells (Yl8 v2)) (.p v4 (.d [.rd,.rd] (Z3l x.Ba v2) (.i (rsC x.Ba v2.Ta v2.Sa≠1) v6 (.i (v5.Ka≠4) (.f [] v1 v3) (.f [] v1 (.sv (li v5.Na))))))))))))))) (by
 dsimp only[Yl3,Z8l]
 with_reducible repeat' (first|apply ah|exact zR|(intro)|apply Z5h)
 all_goals ((try simp only[std,inj]at *);with_reducible and_intros)
 all_goals try with_reducible first|apply Z5h
 all_goals try first|exact zw|grind[hdM,hdF,hdR,hdS,Yla,Ylb,Yl5])
theorem Y1ph {x:YE}{s:YS_}(h:wY s<=900000000) (h2:Ylg s<=2000):wY (Ylm (Ylu (scU x)) s)<=900002000/\wY (Yrr x s)<=1000000000:=by
 have h3:=Y1hc (Y100 (scU x)) s
 have h4:=Y1hc (Y1gg (scI x)) (Ylm (Ylu (scU x)) s)
 have h5:=Y1bf (Ylu (scU x)) s
 unfold Yrr;omega
theorem Ytw {s Ka:Int}(h0:0<=s) (h:nxR s Ka<=99999):1<=nxt s Ka/\nxt s Ka<=99999/\nxt s Ka=nxR s Ka/\nxS s Ka=nxR s Ka:=by
 have h1:=@Yqx s Ka
 have e1:nxt s Ka=nxR s Ka:=ae h
 have e2:nxS s Ka=nxR s Ka:=ae h
 omega
theorem Y1c5 {B:List YB}{r:YR_}{f:YS_}(h:apB B r f):Yld (apY B r f):=by
 unfold apB at h
 rw[af]at h
 unfold apY;rw[ae h.1]
 unfold Yyu;rw[ae h.2]
 have h2:=h.2
 simp only[Yvu,af]at h2
 exact h2.2
theorem Y1bq {k n:Int}{t:ByteArray}{i:Int}(h:Ypx k n t i):t.size<=99999:=by
 have e:∀ u:ByteArray,u.data.toList=[]->u.size=0:=λu hu=>by
  have:u.data.toList.length=0:=by rw[hu];rfl
  simpa using this
 simp only[Ypx,aF,ak]at h
 rcases h with (((h|h)|h)|h)|h
 ·have:=e t h.2.2;omega
 ·have h2:=h.2.2.1
  unfold Yox at h2;simp only[af,ak]at h2
  have:=h2.1.1.1.2;omega
 ·have:=e t h.2.2.2.1;omega
 ·have:=e t h.2.2.2.1;omega
 ·have h2:=h.2.2.1
  unfold Yq5 at h2;simp only[af,ak]at h2
  have:=h2.1;omega
theorem Y19a {L:List Int}(h:Yns L):L.length<=99999:=by
 have h1:=(Ys8 L).1 h
 have:∀ (L:List Int) (m:Int),srt L->(∀ y∈L,m<y)->0<=m->(L.length:Int)+m<=99999\/L=[]:=by
  intro L
  induction L with
  | nil=>intro m _ _ _;exact .inr rfl
  | cons x r ih=>
   intro m hs hm h0
   obtain⟨a1,a2,a3⟩:=hs
   have hx:=hm x aj
   left
   rcases ih x a3 a2 oW with h|h
   ·simp only[aD];omega
   ·subst h;simp;omega
 rcases this L 0 h1 (λy hy=>by
  have:∀ L:List Int,srt L->∀ y∈L,0<y:=by
   intro L
   induction L with
   | nil=>intro _ y hy;cases hy
   | cons x r ih=>
    intro hs y hy
    rcases List.mem_cons.1 hy with rfl|hy
    ·have:=hs.1;omega
    ·exact ih hs.2.2 y hy
  exact this L h1 y hy) oW with h|h
 ·omega
 ·subst h;simp
theorem Y20y:∀ s:YS_,okY s->wY s+1<=200000 * Ylg s:=by
 refine YS_.ind λs ih h => ?_
 have h0:=Yu0 h
 rw[Ypo,af,am]at h
 have h1:=Y19a h0
 have h2:∀ L:List YS_,(∀ x∈L,wY x+1<=200000 * Ylg x)->L.length+sumBy wY L<=200000 * sumBy Ylg L:=by
  intro L
  induction L with
  | nil=>intro _;simp[sumBy]
  | cons x r ihr=>
   intro hL
   have a:=hL x aj
   have b:=ihr λy hy=>hL y (ai _ hy)
   have c:=Ym7 x
   simp only[sumBy,aD];omega
 have h3:=h2 s.Ia λx hx=>ih x hx (h.1 x hx)
 have h4:s.Ta.size<=99999:=by
  have:=h.2
  simp only[Yq6,af]at this
  exact Y1bq this.1.1
 rw[Ymd,Ym7];omega
theorem Ymx {s:YS_}(h:Yld s):wY s<=400000000/\Ylg s<=2000/\okY s:=by
 simp only[Yld,af,ak]at h
 have:=Y20y s h.2
 exact⟨by omega,by omega,h.2⟩
theorem Y1lt:zY.Ka=0/\zY.Na=0/\zY.Ta=mkS []/\zY.Sa=[]/\zY.Ia=[]:=⟨rfl,rfl,rfl,rfl,rfl⟩
theorem Y1d8 {x:YE}{m:Int}{s:YS_}(h:x.Sc=0):Yn3 x m s=7/\Yo7 x m s=zY:=by
 have e:Yn3 x m s=7:=ae h
 exact⟨e,ab (by rw[e];decide)⟩
theorem Y1bk {x:YE}{m:Int}{s:YS_}(h:¬ x.Sc=0) (h2:¬ (nxR x.Sb 3<=99999/\nxR (nxS x.Sb 3) 2<=99999)):Yn3 x m s=8/\Yo7 x m s=zY:=by
 have e:Yn3 x m s=8:=by unfold Yn3;rw[ab h,ab (show ¬ (nxR x.Sb 3<=99999/\nxR (scA x) 2<=99999) from h2)]
 exact⟨e,ab (by rw[e];decide)⟩
theorem Y1ff {x:YE}{m:Int}{s:YS_}(h:¬ x.Sc=0) (h2:nxR x.Sb 3<=99999/\nxR (nxS x.Sb 3) 2<=99999) (h3:apB x.Ba (ruS x m) (Yrr x s)=false):Yn3 x m s=6/\Yo7 x m s=zY:=by
 have e:Yn3 x m s=6:=by unfold Yn3;rw[ab h,ae (show nxR x.Sb 3<=99999/\nxR (scA x) 2<=99999 from h2),ab (by rw[h3];decide)]
 exact⟨e,ab (by rw[e];decide)⟩
theorem Y1q1 {x:YE}{m:Int}{s:YS_}(h:¬ x.Sc=0) (h2:nxR x.Sb 3<=99999/\nxR (nxS x.Sb 3) 2<=99999) (h3:apB x.Ba (ruS x m) (Yrr x s)):Yn3 x m s=0/\Yo7 x m s=Ylm (Yne (nxt (nxS x.Sb 3) 2)) (apY x.Ba (ruS x m) (Yrr x s)):=by
 have e:Yn3 x m s=0:=by unfold Yn3;rw[ab h,ae (show nxR x.Sb 3<=99999/\nxR (scA x) 2<=99999 from h2),ae h3]
 exact⟨e,ae e⟩
theorem Y1qm {s k:Int}(h0:0<=s) (h1:s<=99999):0<=nxS s k/\nxS s k<=99999:=by
 unfold nxS nxR;split<;>omega
theorem Y1nz {s k:Int}(h:¬ nxR s k<=99999):nxS s k=s:=ab h
theorem Y1vq (e:Int):cdF 0 e=e:=rfl
abbrev Z8m (x:YE) (z:Int) (m:Int) (s:YS_):Ct:=⟨30,stI x z,[.y 0,Yln s,li m],[.box [.ref 1,.ref 2,vI (if x.Sc=0 then x.Sb else if nxR x.Sb 3<=99999 then nxS (scA x) 2 else x.Sb),vI x.Va,vI (if x.Sc=0 then 0 else x.Sc - 1),vI z],.Ac x.Ba,.Ad x.Ma,.Aa (Yo7 x m s).Sa,.Ae (Yo7 x m s).Ia],.tup [Yoq (Yo7 x m s) 3,li (Yn3 x m s)]⟩
theorem Zf9 (x:YE) (z m:Int) (s:YS_) (h:wX x<=1048576/\0<=x.Sb/\x.Sb<=99999/\0<=x.Sc/\x.Sc<=200/\wY s<=900000000/\Yld s/\0<=m/\m<x.Ma.length) (hr:Ymr (ruS x m)):Z8m x z m s:=Ylh call30 func30 (let v12:=nxS x.Sb 3;let v9:=x.Ma.g m.toNat;let v7:=Ylm (Yne (nxt v12 2)) (Ylm (Ylu (nxt x.Sb 3)) s);let v1:=Ylm (Yne (nxt v12 2)) (apY x.Ba v9 v7);let v13:=x.Sc - 1;let v10:List AC:=[.ref 1,.ref 2,vI (nxS v12 2),vI x.Va,vI v13,vI z];let v11:=x.Ba.map Yl2;let v8:=x.Ma.map Ylc;let v2:List Ob:=[.box v10,.y 4 v11,.y 3 v8,.y 1 [],.y 5 []];let v3:=[vI 0,vI 0,vS (mkS []),.ref 3,.ref 4];let v4:Orc:=.ghost (.nilbox 4 4 true 5);let v5:Orc:=.ghost (.nilbox 4 3 true 1);let v6:=Yod v9;.i (x.Sc=0) (.w v5 (.w v4 (.f [5,6] [.box [.ref 1,.ref 2,vI x.Sb,vI x.Va,vI x.Sc,vI z],.y 4 v11,.y 3 v8,.y 1 [],.y 5 []] (.tup [.agg v3,li 7])))) (.r v13 (.d [.ptr,.rd] (Z58 (YE.mk x.Ba x.Ma x.Sb x.Va v13) z 3) (.i (cdN x.Sb (3:Int)≠0) (.w v5 (.w v4 (.f [5,6] [.box [.ref 1,.ref 2,vI v12,vI x.Va,vI v13,vI z],.y 4 v11,.y 3 v8,.y 1 [],.y 5 []] (.tup [.agg v3,li (cdN x.Sb 3)])))) (.d [.ptr,.rd] (Z58 (YE.mk x.Ba x.Ma v12 x.Va v13) z 2) (.i (cdN v12 (2:Int)≠0) (.w v5 (.w v4 (.f [5,6] v2 (.tup [.agg v3,li (cdN v12 2)])))) (.w (.draw [(23,[37])]) (.p (0<=m/\m.toNat<v8.length) (.w (.cells v6) (.p (v8[m.toNat]? = some v6) (.d [.rd,.rd] (Z3q s (nxt x.Sb 3)) (.d [.rd,.rd] (Z3r (Ylm (Ylu (nxt x.Sb 3)) s) (nxt v12 2)) (.d [.rd,.rd,.rd] (Z8j x.Ba v9 v7) (.b (!apB x.Ba v9 v7) (.w v5 (.w v4 (.f [38,39] v2 (.tup [.agg v3,li 6])))) (.d [.rd,.rd] (Z3r (apY x.Ba v9 v7) (nxt v12 2)) (.f [38,39] [.box v10,.y 4 v11,.y 3 v8,.Aa v1.Sa,.Ae v1.Ia] (.tup [.agg [vI v1.Ka,vI v1.Na,vS v1.Ta,.ref 3,.ref 4],li 0]))))))))))))))))) (by
 dsimp only[Yl3,Z8m]
 have g0:=@Ymx s h.2.2.2.2.2.2.1
 have g1:=@Y1ph x s h.2.2.2.2.2.1
 have g2:=@Ytw x.Sb 3 h.2.1
 have g10:=@Ytw (scA x) 2
 have g3:=@Yqx x.Sb 3
 have g4:=@Yqx (scA x) 2
 have g5:scU x=nxt x.Sb 3/\scA x=nxS x.Sb 3/\scI x=nxt (scA x) 2/\Yrr x s=Ylm (Yne (scI x)) (Ylm (Ylu (scU x)) s)/\ruS x m=x.Ma.g m.toNat:=⟨rfl,rfl,rfl,rfl,rfl⟩
 have g6:=Ysy x
 have g7:=@Yls _ wR x.Ma (x.Ma.g m.toNat)
 have g8:=@Y1c5 x.Ba (ruS x m) (Yrr x s)
 have g9:=@Ymx (apY x.Ba (ruS x m) (Yrr x s))
 have g11:1<=scU x->scU x<=99999->okY (Ylm (Ylu (scU x)) s):=λa b=>Y1aa (Y16n ⟨a,b⟩) s g0.2.2
 have c1:cdN x.Sb 3=if nxR x.Sb 3<=99999 then 0 else 8:=rfl
 have c2:cdN (nxS x.Sb 3) 2=if nxR (nxS x.Sb 3) 2<=99999 then 0 else 8:=rfl
 have q1:=@Y1d8 x m s
 have q7:=@Y1qm x.Sb 3
 have q8:=@Y1nz x.Sb 3
 have q2:=@Y1bk x m s
 have q3:=@Y1ff x m s
 have q4:=@Y1q1 x m s
 have qz:=Y1lt
 have q5:Yrr x s=Ylm (Yne (nxt (nxS x.Sb 3) 2)) (Ylm (Ylu (nxt x.Sb 3)) s)/\ruS x m=x.Ma.g m.toNat/\scA x=nxS x.Sb 3:=⟨rfl,rfl,rfl⟩
 with_reducible repeat' (first|apply ah|exact zR|(intro)|apply Z9r|apply Z8|apply Zaj|apply Zby)
 all_goals ((try simp only[std,inj]at *);with_reducible and_intros)
 all_goals try with_reducible first|apply Z9r|apply Z8|apply Zaj|apply Zby
 all_goals try first|exact zw|grind[Y1vq,Yl6,Yla,Ylb,Yl5])
theorem Y1jb {r:List Cell}{k:Nat}(h:k<1):[r][k]? = some r:=by
 obtain rfl:k=0:=by omega
 rfl
def xsB (x:YE) (s:YS_):Bool:=Ym0 x&&Yld s&&blw x.Sb s
def xsE (x:YE) (s:YS_):Int:=if xsB x s/\0<=hdM x s then Yn3 x (hdM x s) s else 1
def xsY (x:YE) (s:YS_):YS_:=if xsE x s=0 then Yo7 x (hdM x s) s else zY
def xsX (x:YE) (s:YS_):YE:=if xsE x s=0 then ⟨x.Ba,x.Ma,nxS (scA x) 2,x.Va,x.Sc - 1⟩ else x
theorem Y1zx {x:YE}{s:YS_}(h:xsB x s) (h2:0<=hdM x s):hdM x s<x.Ma.length/\Ymr (ruS x (hdM x s)):=by
 simp only[xsB,Ym0,af,am]at h
 have hb:=h.1.1.2
 have hm:=h.1.1.1.2
 unfold hdM at h2
 split at h2
 ·rename_i hc
  have e:hdM x s=(hdR x s).Na:=ae hc
  have hF:=hc.1
  simp only[hdF,af,ak]at hF
  have e2:hdR x s=Yo6 (cnd x.Ba (s.Ia.g 0).Ta (s.Ia.g 0).Sa):=by
   unfold hdR;rw[ae hF.1];exact ae hF.2
  have hne:cnd x.Ba (s.Ia.g 0).Ta (s.Ia.g 0).Sa≠[]:=by
   intro he
   have:=hF.2
   unfold rsC at this;rw[ae he]at this;omega
  have hmem:hdR x s∈x.Ba:=by
   rw[e2];exact(List.mem_filter.1 (Y10p hne)).1
  have h3:=hb _ hmem
  have hk:=hc.2
  simp only[Yrq,hk,af,aL,cL,aM]at h3
  have hlt:(hdR x s).Na<x.Ma.length:=by
   rcases h3.2 with h4|h4
   ·exact absurd trivial h4
   ·omega
  rw[e]
  refine⟨hlt,?_⟩
  have:=hm _ (Yl6 (L:=x.Ma) (k:=(hdR x s).Na.toNat) oW)
  simp only[ruX,af]at this
  exact this.1
 ·omega
theorem Y1kj {x:YE}{s:YS_}(hF:hdF x s):hdR x s∈x.Ba:=by
 simp only[hdF,af,ak]at hF
 have e2:hdR x s=Yo6 (cnd x.Ba (s.Ia.g 0).Ta (s.Ia.g 0).Sa):=by
  unfold hdR;rw[ae hF.1];exact ae hF.2
 have hne:cnd x.Ba (s.Ia.g 0).Ta (s.Ia.g 0).Sa≠[]:=by
  intro he
  have:=hF.2
  unfold rsC at this;rw[ae he]at this;omega
 rw[e2];exact(List.mem_filter.1 (Y10p hne)).1
theorem Y22n {x:YE}{s:YS_}(h:¬ (xsB x s/\0<=hdM x s)):xsE x s=1/\xsY x s=zY/\xsX x s=x:=by
 have e:xsE x s=1:=ab h
 have e2:¬ xsE x s=0:=by rw[e];decide
 exact⟨e,ab e2,ab e2⟩
theorem Y1vb {x:YE}{s:YS_}(h:xsB x s) (h2:0<=hdM x s):xsE x s=Yn3 x (hdM x s) s/\(Yn3 x (hdM x s) s=0->xsY x s=Yo7 x (hdM x s) s/\xsX x s=⟨x.Ba,x.Ma,nxS (scA x) 2,x.Va,x.Sc - 1⟩)/\(¬ Yn3 x (hdM x s) s=0->xsY x s=zY/\xsX x s=x):=by
 have e:xsE x s=Yn3 x (hdM x s) s:=ae ⟨h,h2⟩
 refine⟨e,λh3 => ?_,λh3 => ?_⟩
 ·have e2:xsE x s=0:=e.trans h3
  exact⟨ae e2,ae e2⟩
 ·have e2:¬ xsE x s=0:=λh4=>h3 (e.symm.trans h4)
  exact⟨ab e2,ab e2⟩
theorem Y15v {x:YE}{m:Int}{s:YS_}(h:Yn3 x m s=0):¬ x.Sc=0/\nxR x.Sb 3<=99999:=by
 unfold Yn3 at h
 split at h
 ·omega
 ·rename_i h1
  split at h
  ·rename_i h2;exact⟨h1,h2.1⟩
  ·omega
abbrev Zb9 (x:YE) (s:YS_):Ct:=⟨28,[],[Ypu x,ll [[cI s.Ka,cI s.Na,cS s.Ta,.Ao s.Sa,.Au s.Ia]]],[],.sv (lb (xsB x s))⟩
def Z7l (x:YE) (s:YS_):Lp Nat:=.mk 27 0 (λx=>[(2,.y 0),(10,ll [Yl8 s]),(11,li 1),(12,hs x 0)]) (λx_1=>[.box (vals (Yn6 x))]) (λk=>[.s (li k)]) (λk=>k<=1/\Ym0 x/\(k=0\/(Yld s&&blw x.Sb s))) (λk=>1 - k) [.mk (xsB x s) (.exit 0) (λx=>[]) (λx=>[]) [],.mk (xsB x s=false) .ret (λx=>[(4,hs x 0)]) (λx=>[]) [.s (lb false)]]
theorem Ziv (x:YE) (s:YS_) (h:wX x<=1048576):Lp.Sem prog (Yli f28 0) (Z7l x s):=Ylp (λk=>.i ((k:Int)<1) (.x (k:Int) [Yl8 s] (Yl8 s) (.c [.rd] (Zv s) (.b (!Yld s) (.y true (.o 1 [] [.s (lb false)])) (.c [.rd,.rd] (Zy s x.Sb) (.b (!blw x.Sb s) (.o 1 [] [.s (lb false)]) (.r ((k:Int)+1) (.g [0] (k+1) [.s (li ((k:Int)+1))]))))))) (.o 0 [] [])) (by
 intro k h;try dsimp only[Yl3,Yle,Z7l]at h|-
 exact z14)
theorem Ziw (x:YE) (s:YS_) (h:wX x<=1048576):Zb9 x s:=Ylh call28 func28 (.d [.rd] (Z8g x) (.b (!Ym0 x) (.s (lb false)) (.h (1<=9223372036854775807) (.l (Z7l x s) (Ziv x s h) [0] [.s (li 0)] 0 (.t (.s (lb true)) (.t (.s (lb false)) .q)))))) (by
 dsimp only[Yl3,Zb9,Yle,Z7l]
 exact z15)
theorem Y1m9 (x:YE) (s:YS_):wY (xsY x s)<=400002000:=by
 unfold xsY Yo7
 split
 ·rename_i h
  split
  ·rename_i h2
   unfold xsE at h
   split at h
   ·unfold Yn3 at h2
    split at h2
    ·omega
    ·split at h2
     ·split at h2
      ·rename_i ha
       have h3:=Ymx (Y1c5 ha)
       have h4:=Y1hc (Y1gg (scI x)) (apY x.Ba (ruS x (hdM x s)) (Yrr x s))
       omega
      ·omega
     ·omega
   ·omega
  ·have:wY zY=0:=rfl
   omega
 ·have:wY zY=0:=rfl
  omega
theorem Y1zb (x:YE) (s:YS_):(xsX x s).Ba=x.Ba/\(xsX x s).Ma=x.Ma:=by
 unfold xsX;split<;>exact⟨rfl,rfl⟩
end
section
def Yuu (L:List Int) (n:Int):List Int:=if n∈L then L else L++[n]
def Ymq (S:List Int) (n:Int):Int:=if n∈S then 1 else 0
def Ymw (b:List Int) (n:Int):Int:=(b.count n:Int)
theorem Y15z:zI=Ymq []:=by funext m;simp[zI,Ymq]
theorem Y12j {S:List Int}{n:Int}:Ypq (Ymq S) n 1=Ymq (S++[n]):=by
 funext m;simp only[Ypq,Ymq,az,an];grind
theorem Y1us {b:List Int}{n:Int}:Ypq (Ymw b) n (Ymw b n+1)=Ymw (b++[n]):=by
 funext m;simp only[Ypq,Ymw,List.count_append,List.count_singleton];grind
theorem Y1sz {b p:List Int}{n:Int}:Ypq (Ymw (b++n :: p)) n (Ymw (b++n :: p) n - 1)=Ymw (b++p):=by
 funext m;simp only[Ypq,Ymw,List.count_append,List.count_cons];grind
theorem Y1re {b:List Int}{n:Int}:Ymw b n=0 ↔ n∉b:=by
 simp only[Ymw];rw[<- List.count_eq_zero];omega
theorem Y13g {b:List Int}{n:Int}:0<=Ymw b n/\Ymw b n<=b.length:=by
 have:=List.count_le_length (a:=n) (l:=b)
 simp only[Ymw];omega
theorem Y1af {b:List Int}{n:Int}:Ymq b n=0 ↔ n∉b:=by
 simp only[Ymq];grind
theorem Y1fs (L:List Int) (n:Int):(Yuu L n).length<=L.length+1:=by
 unfold Yuu;split<;>simp
mutual
def fre:Yc->List Int->List Int->List Int
 | ⟨k,n,p,_,l⟩,b,o=>Y1dm l (b++p) (if (k=2\/k=4)/\n∉b then Yuu o n else o)
def Y1dm:List Yc->List Int->List Int->List Int
 | [],_,o=>o
 | x :: r,b,o=>Y1dm r b (fre x b o)
end
theorem Y1ja:∀ (l:List Yc) (b o:List Int),Y1dm l b o=l.foldl (λo x=>fre x b o) o
 | [],_,_=>by rw[Y1dm];rfl
 | x :: r,b,o=>by rw[Y1dm,Y1ja r];rfl
def Ypp (c:Yc) (b o:List Int):List Int:=if (c.Ka=2\/c.Ka=4)/\c.Na∉b then Yuu o c.Na else o
theorem Y12h (c:Yc) (b o:List Int):fre c b o=c.Kb.foldl (λo x=>fre x (b++c.Pa) o) (Ypp c b o):=by cases c;simp only[fre,Y1ja,Ypp]
theorem Y1iy:∀ c b o,(fre c b o).length<=o.length+1+wC c:=by
 refine Yc.ind λc ih b o => ?_
 rw[Y12h,Y13y]
 have h:∀ (L:List Yc),(∀ y∈L,∀ b o,(fre y b o).length<=o.length+1+wC y)->∀ o,(L.foldl (λo x=>fre x (b++c.Pa) o) o).length<=o.length+L.length+sumBy wC L:=by
  intro L
  induction L with
  | nil=>intro _ o;simp[sumBy]
  | cons x r ihr=>
   intro hL o
   have h1:=hL x aj (b++c.Pa) o
   have h2:=ihr (λy hy=>hL y (ai _ hy)) (fre x (b++c.Pa) o)
   simp only[bL,sumBy,aD];omega
 have h1:=h c.Kb ih (Ypp c b o)
 have h2:(Ypp c b o).length<=o.length+1:=by
  unfold Ypp;split
  ·exact Y1fs _ _
  ·omega
 omega
theorem Y1t0 (c:Yc) (b o:List Int):(Ypp c b o).length<=o.length+1:=by
 unfold Ypp;split
 ·exact Y1fs _ _
 ·omega
abbrev Z8n (S:List Int) (n:Int):Ct:=⟨136,[.box [.ref 1,.mref 2],.Aa S,.map (decide (S=[])) kI (mI (Ymq S))],[.y 0,li n],[.box [.ref 3,.mref 4],.dead,.dead,.Aa (Yuu S n),.map (decide (Yuu S n=[])) kI (mI (Ymq (Yuu S n)))],.tup []⟩
theorem Zq (S:List Int) (n:Int) (h:S.length<2147483647):Z8n S n:=Ylh call136 func136 (let v1:Value:=.int .i64 n;let v2:=((S.map Yl4).length+1) * 8<=140737488355328;let v3:=mI (Ypq (Ymq S) n 1);let v4:List AC:=[.ref 3,.mref 4];let v5:=mI (Ypq zI n 1);.i (S=[]) (.w (.mkmap kI) (.w (.cells [cI (zI n)]) (.p (Ypw (Value.int IntKind.i64 0) (mI zI) v1 (cI 0)) (.y true (.w (.upd v5) (.p (false=false) (.p (Yqr kI.d (mI zI) v5 v1 (some (cI 1))) (.p v2 (.w (.m 2) (.f [5,3] [.box v4,.dead,.dead,.y 1 (S.map Yl4++[[cI n]]),.map false kI v5] (.tup []))))))))))) (.w (.cells [cI (Ymq S n)]) (.p (Ypw (Value.int IntKind.i64 0) (mI (Ymq S)) v1 (cI (Ymq S n))) (.i (Ymq S n=0) (.w (.upd v3) (.p (decide (S=[])=false) (.p (Yqr kI.d (mI (Ymq S)) v3 v1 (some (cI 1))) (.p v2 (.w (.m 2) (.f [4,5] [.box v4,.dead,.dead,.y 1 (S.map Yl4++[[cI n]]),.map (decide (S=[])) kI v3] (.tup []))))))) (.w (.m 1) (.w (.m 2) (.f [3,4] [.box v4,.dead,.dead,.Aa S,.map (decide (S=[])) kI (mI (Ymq S))] (.tup [])))))))) (by
 dsimp only[Yl3,Z8n]
 with_reducible repeat' (first|apply ah|exact zR|(intro)|apply mIc|apply mOc|apply mSc|apply mLc)
 all_goals ((try simp only[std,inj]at *);with_reducible and_intros)
 all_goals try first|exact z|exact zM|grind[Yuu,Y1af,Y12j,Y15z,List.append_eq_nil_iff,Yla,Ylb,Yl5])
abbrev Zk (c:Yc) (b:List Int) (S:List Int):Ct:=⟨85,[.map false kI (mI (Ymw b)),.box [.ref 2,.mref 3],.Aa S,.map (decide (S=[])) kI (mI (Ymq S))],[Yt0 c,.one (.mref 0),.y 1],[.map false kI (mI (Ymw b)),.box [.ref 4,.mref 5],.dead,.dead,.Aa (fre c b S),.map (decide (fre c b S=[])) kI (mI (Ymq (fre c b S)))],.tup []⟩
def Z3a (c:Yc) (b:List Int) (S:List Int):Lp Nat:=.mk 67 4 (λx=>[(1,.one (.mref 0)),(56,Ag c.Pa),(57,li (c.Pa.map Yl4).length),(58,hs x 0)]) (λx=>[ho x 1,.box [.ref 4,.mref 5],.dead,.dead,.Aa (fre c b S),.map (decide (fre c b S=[])) kI (mI (Ymq (fre c b S)))]) (λk=>[.s (li k),.o (.map false kI (mI (Ymw (b++c.Pa.drop k))))]) (λk=>k<=c.Pa.length/\c.Pa.length<=9223372036854775807) (λk=>c.Pa.length - k) [.mk True (.exit 4) (λx=>[]) (λx=>[ho x 0,.box [.ref 4,.mref 5],.dead,.dead,.Aa (fre c b S),.map (decide (fre c b S=[])) kI (mI (Ymq (fre c b S)))]) [.o (.map false kI (mI (Ymw b)))]]
def Z3b (c:Yc) (b:List Int) (S:List Int):Lp Nat:=let v1:=b++c.Pa;.mk 67 4 (λx=>[(1,.one (.mref 0)),(2,.y 1),(3,.y 4),(44,Aw c.Kb),(45,li (c.Kb.map Ylo).length),(46,hs x 0)]) (λx=>[.map false kI (mI (Ymw v1)),.box [.ref 5,.mref 6],.dead,.dead,.box (vals (Ymz c)),ho x 1,ho x 2]) (λk=>[.s (li k),.o (.Aa (List.foldl (λo x=>fre x v1 o) (Ypp c b S) (c.Kb.take k))),.o (.map (decide (List.foldl (λo x=>fre x v1 o) (Ypp c b S) (c.Kb.take k)=[])) kI (mI (Ymq (List.foldl (λo x=>fre x v1 o) (Ypp c b S) (c.Kb.take k)))))]) (λk=>k<=c.Kb.length/\c.Kb.length<=9223372036854775807) (λk=>c.Kb.length - k) [.mk True (.exit 2) (λx=>[(1,.one (.mref 0)),(3,.y 4)]) (λx=>[.map false kI (mI (Ymw v1)),.box [.ref 5,.mref 6],.dead,.dead,.box (vals (Ymz c)),ho x 0,ho x 1]) [.o (.Aa (fre c b S)),.o (.map (decide (fre c b S=[])) kI (mI (Ymq (fre c b S))))]]
def Z3c (c:Yc) (b:List Int) (S:List Int):Lp Nat:=let v1:Ob:=.map (decide (Ypp c b S=[])) kI (mI (Ymq (Ypp c b S)));let v2:Ob:=.Aa (Ypp c b S);.mk 67 4 (λx=>[(1,.one (.mref 0)),(2,.y 1),(3,.y 4),(32,Ag c.Pa),(33,li (c.Pa.map Yl4).length),(34,hs x 0)]) (λx=>[ho x 1,.box [.ref 5,.mref 6],.dead,.dead,.box (vals (Ymz c)),ho x 2,ho x 3]) (λk=>[.s (li k),.o (.map false kI (mI (Ymw (b++c.Pa.take k)))),.o v2,.o v1]) (λk=>k<=c.Pa.length/\c.Pa.length<=9223372036854775807) (λk=>c.Pa.length - k) [.mk True (.exit 0) (λx=>[(1,.one (.mref 0)),(2,.y 1),(3,.y 4)]) (λx=>[ho x 0,.box [.ref 5,.mref 6],.dead,.dead,.box (vals (Ymz c)),ho x 1,ho x 2]) [.o (.map false kI (mI (Ymw (b++c.Pa)))),.o v2,.o v1]]
theorem Ze3 (c:Yc) (b:List Int) (S:List Int) (h:b.length+S.length+wC c+1<=2147483647) (ih:∀ (z:Yc),z∈c.Kb->∀ (b S:List Int),b.length+S.length+wC z+1<=2147483647->OK (Zk z b S)):Lp.Sem prog (Yli f85 2) (Z3a c b S):=Ylp (λk=>let v1:=b++c.Pa.drop k;let v2:=c.Pa.getD k 0;let v3:=mI (Ypq (Ymw v1) v2 (Ymw v1 v2 - 1));.i ((k:Int)<(c.Pa.map Yl4).length) (.x (k:Int) (c.Pa.map Yl4) [cI v2] (.w (.cells [cI (Ymw v1 v2)]) (.p (Ypw (Value.int IntKind.i64 0) (mI (Ymw v1)) (Value.int IntKind.i64 v2) (cI (Ymw v1 v2))) (.r (Ymw v1 v2 - 1) (.w (.upd v3) (.p (false=false) (.p (Yqr kI.d (mI (Ymw v1)) v3 (Value.int IntKind.i64 v2) (some (cI (Ymw v1 v2 - 1)))) (.r ((k:Int)+1) (.g [0,1,2,3,4,5] (k+1) [.s (li ((k:Int)+1)),.o (.map false kI v3)]))))))))) (.o 0 [0,1,2,3,4,5] [.o (.map false kI (mI (Ymw v1)))])) (by
 intro k h;try dsimp only[Yl3,Yle,Z3a]at h|-
 have g:=λL n=>(Y13g (b:=L) (n:=n)).2
 have g':=λL n=>(Y13g (b:=L) (n:=n)).1
 have g4:=Y13y c
 have b1:=g (b++c.Pa.drop k) (c.Pa.getD k 0)
 have b2:=g' (b++c.Pa.drop k) (c.Pa.getD k 0)
 have b3:(b++c.Pa.drop k).length<=b.length+c.Pa.length:=by rw[aw,ax];omega
 have b4 : -9223372036854775808<=Ymw (b++c.Pa.drop k) (c.Pa.getD k 0) - 1:=by omega
 have b5:Ymw (b++c.Pa.drop k) (c.Pa.getD k 0) - 1<=9223372036854775807:=by omega
 with_reducible repeat' (first|apply ah|exact zR|exact ih|(intro)|apply mIc|apply mOc|apply mSc|apply mLc|apply Zq)
 all_goals ((try simp only[std,inj]at *);with_reducible and_intros)
 all_goals try first|with_reducible (first|apply Zq|apply ih)|(simp only[<- aq];with_reducible first|apply Zq|apply ih)
 all_goals try first|exact z|exact zM|grind[Y1sz,Yof,Yla,Ylb,Yl5])
theorem Ze4 (c:Yc) (b:List Int) (S:List Int) (h:b.length+S.length+wC c+1<=2147483647) (ih:∀ (z:Yc),z∈c.Kb->∀ (b S:List Int),b.length+S.length+wC z+1<=2147483647->OK (Zk z b S)):Lp.Sem prog (Yli f85 1) (Z3b c b S):=Ylp (λk=>let v1:=b++c.Pa;let v2:=c.Kb.take k;let v3:=c.Kb.g k;let v4:=Ypp c b S;.i ((k:Int)<(c.Kb.map Ylo).length) (.x (k:Int) (c.Kb.map Ylo) (Ymz v3) (.d [.rd,.map,.ptr] (Zk v3 v1 (List.foldl (λo x=>fre x v1 o) v4 v2)) (.r ((k:Int)+1) (.g [0,1,2,3,4,12,13] (k+1) [.s (li ((k:Int)+1)),.o (.Aa (fre v3 v1 (List.foldl (λo x=>fre x v1 o) v4 v2))),.o (.map (decide (fre v3 v1 (List.foldl (λo x=>fre x v1 o) v4 v2)=[])) kI (mI (Ymq (fre v3 v1 (List.foldl (λo x=>fre x v1 o) v4 v2)))))])))) (.o 0 [0,1,2,3,4,5,6] [.o (.Aa (List.foldl (λo x=>fre x v1 o) v4 v2)),.o (.map (decide (List.foldl (λo x=>fre x v1 o) v4 v2=[])) kI (mI (Ymq (List.foldl (λo x=>fre x v1 o) v4 v2))))])) (by
 intro k h;try dsimp only[Yl3,Yle,Z3b]at h|-
 have g1:=Y1b6 (λo x=>fre x (b++c.Pa) o) wC (c.Kb.take k) (λy _ o=>Y1iy y _ o) (Ypp c b S)
 have g2:=Y1t0 c b S
 have g3:=Ymu wC c.Kb (k+1)
 have g4:=Y13y c
 with_reducible repeat' (first|apply ah|exact zR|exact ih|(intro)|apply mIc|apply mOc|apply mSc|apply mLc|apply Zq|apply ih)
 all_goals ((try simp only[std,inj]at *);with_reducible and_intros)
 all_goals try first|with_reducible (first|apply Zq|apply ih)|(simp only[<- aq];with_reducible first|apply Zq|apply ih)
 all_goals try first|exact z|exact zM|grind[Y12h,Yse,Yl6,Yom,Yla,Ylb,Yl5])
theorem Ze5 (c:Yc) (b:List Int) (S:List Int) (h:b.length+S.length+wC c+1<=2147483647) (ih:∀ (z:Yc),z∈c.Kb->∀ (b S:List Int),b.length+S.length+wC z+1<=2147483647->OK (Zk z b S)):Lp.Sem prog (Yli f85 0) (Z3c c b S):=Ylp (λk=>let v1:=b++c.Pa.take k;let v2:=c.Pa.getD k 0;let v3:Ob:=.map (decide (Ypp c b S=[])) kI (mI (Ymq (Ypp c b S)));let v4:Ob:=.Aa (Ypp c b S);let v5:=mI (Ypq (Ymw v1) v2 (Ymw v1 v2+1));.i ((k:Int)<(c.Pa.map Yl4).length) (.x (k:Int) (c.Pa.map Yl4) [cI v2] (.w (.cells [cI (Ymw v1 v2)]) (.p (Ypw (Value.int IntKind.i64 0) (mI (Ymw v1)) (Value.int IntKind.i64 v2) (cI (Ymw v1 v2))) (.r (Ymw v1 v2+1) (.w (.upd v5) (.p (false=false) (.p (Yqr kI.d (mI (Ymw v1)) v5 (Value.int IntKind.i64 v2) (some (cI (Ymw v1 v2+1)))) (.r ((k:Int)+1) (.g [0,1,2,3,4,5,6] (k+1) [.s (li ((k:Int)+1)),.o (.map false kI v5),.o v4,.o v3]))))))))) (.o 0 [0,1,2,3,4,5,6] [.o (.map false kI (mI (Ymw v1))),.o v4,.o v3])) (by
 intro k h;try dsimp only[Yl3,Yle,Z3c]at h|-
 have g:=λL n=>(Y13g (b:=L) (n:=n)).2
 have g':=λL n=>(Y13g (b:=L) (n:=n)).1
 have g4:=Y13y c
 have b1:=g (b++c.Pa.take k) (c.Pa.getD k 0)
 have b2:=g' (b++c.Pa.take k) (c.Pa.getD k 0)
 have b3:(b++c.Pa.take k).length<=b.length+c.Pa.length:=by rw[aw,au];omega
 have b4 : -9223372036854775808<=Ymw (b++c.Pa.take k) (c.Pa.getD k 0)+1:=by omega
 have b5:Ymw (b++c.Pa.take k) (c.Pa.getD k 0)+1<=9223372036854775807:=by omega
 with_reducible repeat' (first|apply ah|exact zR|exact ih|(intro)|apply mIc|apply mOc|apply mSc|apply mLc|apply Zq)
 all_goals ((try simp only[std,inj]at *);with_reducible and_intros)
 all_goals try first|with_reducible (first|apply Zq|apply ih)|(simp only[<- aq];with_reducible first|apply Zq|apply ih)
 all_goals try first|exact z|exact zM|grind[Y1us,Ylk,Yla,Ylb,Yl5])
theorem Zhj (c:Yc) (b S:List Int) (h:b.length+S.length+wC c+1<=2147483647) (ih:∀ z∈c.Kb,∀ (b:List Int) (S:List Int) (h:b.length+S.length+wC z+1<=2147483647),Zk z b S):Zk c b S:=Ylh call85 func85 (let v1:Tq _ _:=.t (.z Ylo c.Kb (.l (Z3b c b S) (Ze4 c b S h ih) [0,1,2,3,4,5,6] [.s (li 0),.o (.Aa (Ypp c b S)),.o (.map (decide (Ypp c b S=[])) kI (mI (Ymq (Ypp c b S))))] 0 (.t (.z Yl4 c.Pa (.l (Z3a c b S) (Ze3 c b S h ih) [0,1,2,3,5,6] [.s (li 0),.o (.map false kI (mI (Ymw (b++c.Pa))))] 0 (.t (.f [4,5] [.map false kI (mI (Ymw b)),.box [.ref 4,.mref 5],.dead,.dead,.Aa (fre c b S),.map (decide (fre c b S=[])) kI (mI (Ymq (fre c b S)))] (.tup [])) .q))) .q))) .q;let v2:Ob:=.map false kI (mI (Ymw b));let v3:=Ypw (.int .i64 0) (mI (Ymw b)) (.int .i64 c.Na) (cI (Ymw b c.Na));let v4:=Ze5 c b S h ih;let v5:Ob:=.map (decide (S=[])) kI (mI (Ymq S));let v6:Ob:=.map (decide (Yuu S c.Na=[])) kI (mI (Ymq (Yuu S c.Na)));let v7:=Z3c c b S;let v8:Ob:=.Aa S;let v10:Tq _ _:=.z Yl4 c.Pa (.w (.m 2) (.w (.m 3) (.l v7 v4 [0,1,2,3,4,5,6] [.s (li 0),.o v2,.o v8,.o v5] 0 v1)));let v9:Tq _ _:=.w (.cells [cI (Ymw b c.Na)]) (.p v3 (.i (Ymw b c.Na=0) (.d [.ptr,.rd] (Z8n S c.Na) (.z Yl4 c.Pa (.l v7 v4 [0,1,2,3,4,8,9] [.s (li 0),.o v2,.o (.Aa (Yuu S c.Na)),.o v6] 0 v1))) v10));.i (c.Ka=2) (.y true v9) (.i (c.Ka=4) v9 (.y false v10))) (by
 dsimp only[Yl3,Zk,Yle,Z3c,Z3b,Z3a]
 with_reducible repeat' (first|apply ah|exact zR|exact ih|(intro)|apply mIc|apply mOc|apply mSc|apply mLc|apply Zq)
 all_goals ((try simp only[std,inj]at *);with_reducible and_intros)
 all_goals try first|with_reducible (first|apply Zq|apply ih)|(simp only[<- aq];with_reducible first|apply Zq|apply ih)
 all_goals try first|exact z|exact zM|grind[Y1re,Ypp,Yla,Ylb,Yl5])
theorem Zfa (c:Yc):∀ (b:List Int) (S:List Int) (h:b.length+S.length+wC c+1<=2147483647),Zk c b S:=Yc.ind (P:=λc=>∀ (b:List Int) (S:List Int) (h:b.length+S.length+wC c+1<=2147483647),Zk c b S) (λc ih b S h=>Zhj c b S h ih) c
abbrev Z9s (c:Yc):Ct:=⟨36,[],[Yt0 c],[.Aa (fre c [] [])],.sv (.r 0)⟩
theorem Z6d (c:Yc) (h:wC c<=2147483600):Z9s c:=Ylh call36 func36 (.w (.mkmap kI) (.w (.g (.nilbox 1 0 true 1)) (.w (.g (.nilmbox 1 1 kI)) (.d [.rd,.map,.ptr] (Zk c [] []) (.f [9] [.Aa (fre c [] [])] (.sv (.r 0))))))) (by
 dsimp only[Yl3,Z9s]
 with_reducible repeat' (first|apply ah|exact zR|(intro)|apply mIc|apply mOc|apply mSc|apply mLc|apply Zfa)
 all_goals ((try simp only[std,inj]at *);with_reducible and_intros)
 all_goals try with_reducible first|apply Zfa
 all_goals try first|exact z|exact zM|grind[Yla,Ylb,Yl5])
end
section
def Yva (l:List Int):List Cell:=[.list (l.map Yl4)]
def Y24s (l:List Int):List Cell:=[.list (l.map Yl4)]
instance:Row (List Int) Yva Y24s 1:=⟨λ_=>rfl,λ_=>rfl⟩
theorem Y23r {L:List Int}{k:Nat}(h:k<L.length):L.take (k+1)=L.take k++[L.getD k 0]:=Ylk h
theorem Y1d5 {L:List (List Int)}{k:Nat}(h:k<L.length):(L.take (k+1)).flatten=(L.take k).flatten++L.getD k []:=by
 rw[Ylk h,dL];simp;rfl
theorem Y1tq {L:List (List Int)}{k:Nat}(h:okU L.flatten):okU (L.take k).flatten:=by
 rw[<- be k L,dL]at h;exact Y1en h
theorem Y1rx {L:List (List Int)}{k j:Nat}(hk:k<L.length) (h:okU L.flatten):okU ((L.take k).flatten++(L.getD k []).take j):=by
 have h1:=Y1tq (k:=k+1) h
 rw[Y1d5 hk]at h1
 have h2:(L.take k).flatten++L.getD k []=((L.take k).flatten++(L.getD k []).take j)++(L.getD k []).drop j:=by rw[aH,be]
 rw[h2]at h1;exact Y1en h1
theorem Y1ui {S:List Int}{n:Int}:Ymq S n=1 ↔ n∈S:=by simp only[Ymq];grind
mutual
def bnd:Yc->List Int
 | ⟨_,_,p,_,l⟩=>p++bnds l
def bnds:List Yc->List Int
 | []=>[]
 | x :: r=>bnd x++bnds r
end
theorem Y1ip:∀ l,bnds l=l.flatMap bnd
 | []=>by simp[bnds]
 | x :: r=>by rw[bnds,Y1ip r];simp
theorem Yxb (x:Yc):bnd x=x.Pa++x.Kb.flatMap bnd:=by cases x;simp only[bnd,Y1ip]
theorem Y202:∀ c:Yc,(bnd c).length<=wC c:=by
 refine Yc.ind λc ih => ?_
 have h:∀ L:List Yc,(∀ y∈L,(bnd y).length<=wC y)->(L.flatMap bnd).length<=sumBy wC L:=by
  intro L
  induction L with
  | nil=>intro _;simp
  | cons x r ihr=>
   intro hL
   have h1:=hL x aj
   have h2:=ihr λy hy=>hL y (ai _ hy)
   simp only[bU,aw,sumBy];omega
 have:=h c.Kb ih
 rw[Yxb,Y13y,aw];omega
mutual
def Ypa:Yc->Nat
 | ⟨_,_,_,_,l⟩=>Y17j l+1
def Y17j:List Yc->Nat
 | []=>0
 | c :: r=>max (Ypa c) (Y17j r)
end
theorem Y1e0:∀ l,Y17j l=Yma Ypa l
 | []=>by simp[Y17j,Yma]
 | c :: r=>by rw[Y17j,Yma,Y1e0 r]
theorem Y13c (c:Yc):Ypa c=Yma Ypa c.Kb+1:=by cases c;simp only[Ypa,Y1e0]
mutual
def Yly:Yc->Nat
 | ⟨_,_,_,_,l⟩=>Y12w l+1
def Y12w:List Yc->Nat
 | []=>0
 | c :: r=>Yly c+Y12w r
end
theorem Y1aj:∀ l,Y12w l=sumBy Yly l
 | []=>by simp[Y12w,sumBy]
 | c :: r=>by rw[Y12w,sumBy,Y1aj r]
theorem Yp9 (c:Yc):Yly c=sumBy Yly c.Kb+1:=by cases c;simp only[Yly,Y1aj]
theorem Y1y1:∀ c:Yc,Ypa c<=Yly c:=by
 refine Yc.ind λc ih => ?_
 have:=Yy6 ih
 rw[Yp9,Y13c];omega
def shC (c:Yc):Bool:=
 (decide (c.Ka=1)||decide (c.Da=⟨0,0,mkS [],[]⟩))&&(decide (c.Na=0)||decide (c.Ka=2\/c.Ka=4)||decide (c.Ka=3)) &&
 (if c.Ka=1 then decide ((c.Kb.length:Int)=0)&&decide ((c.Pa.length:Int)=0)&&Ynp c.Da else if c.Ka=2 then decide ((c.Kb.length:Int)=0)&&decide ((c.Pa.length:Int)=0) else if c.Ka=3 then decide ((c.Kb.length:Int)=0)&&decide ((c.Pa.length:Int)=0)&&decide (0<=c.Na/\c.Na<=13) else if c.Ka=4 then decide ((c.Kb.length:Int)=1)&&decide ((c.Pa.length:Int)=0) else if c.Ka=5 then decide ((c.Kb.length:Int)=1)&&decide ((c.Pa.length:Int)<=8) else if c.Ka=6 then decide (1<=(c.Kb.length:Int)/\(c.Kb.length:Int)<=9)&&decide ((c.Pa.length:Int)=0) else if c.Ka=7 then decide ((c.Kb.length:Int)=3)&&decide ((c.Pa.length:Int)=0) else if c.Ka=8 then decide (2<=(c.Kb.length:Int)/\(c.Kb.length:Int)<=60)&&decide ((c.Pa.length:Int)=0) else if c.Ka=9 then decide (1<=(c.Kb.length:Int)/\(c.Kb.length:Int)<=60)&&decide (1<=(c.Pa.length:Int)/\(c.Pa.length:Int)<=60) else if c.Ka=10 then decide ((c.Kb.length:Int)=1)&&decide ((c.Pa.length:Int)=0) else if c.Ka=11 then decide ((c.Kb.length:Int)=1)&&decide ((c.Pa.length:Int)=1) else false)
def sqC (c x:Yc):Bool := !(decide (c.Ka=8)&&decide (x.Ka=8))
def shI (c:Yc):Bool:=shC c&&c.Kb.all (sqC c)
mutual
def okC:Yc->Bool
 | c@⟨_,_,_,_,l⟩=>Y1ha l&&shI c
def Y1ha:List Yc->Bool
 | []=>true
 | c :: r=>okC c&&Y1ha r
end
theorem Y1k6:∀ l,Y1ha l=l.all okC
 | []=>by simp[Y1ha]
 | c :: r=>by rw[Y1ha,Y1k6 r];rfl
theorem Yzl (c:Yc):okC c=(c.Kb.all okC&&shI c):=by cases c;simp only[okC,Y1k6]
mutual
def Yoe:Yc->Int->Int->Bool×Int
 | c@⟨_,_,_,_,l⟩,deep,m=>if deep<=150/\m+1<=3000/\shI c then Y18f l (deep+1) (m+1) else (false,m+1)
def Y18f:List Yc->Int->Int->Bool×Int
 | [],_,m=>(true,m)
 | x :: r,deep,m=>if (Yoe x deep m).1 then Y18f r deep (Yoe x deep m).2 else (false,(Yoe x deep m).2)
end
theorem Y1e2:∀ l deep m,Y18f l deep m=Ylx (λx m=>Yoe x deep m) l m
 | [],_,_=>by simp[Y18f,Ylx]
 | x :: r,deep,m=>by simp only[Y18f,Ylx,Y1e2 r]
theorem Y1jo (c:Yc) (deep m:Int):Yoe c deep m=if deep<=150/\m+1<=3000/\shI c then Ylx (λx m=>Yoe x (deep+1) m) c.Kb (m+1) else (false,m+1):=by cases c;simp only[Yoe,Y1e2]
theorem Y1ju:∀ (c:Yc) (deep m:Int),m<=3000->((Yoe c deep m).1 ↔ (m+Yly c<=3000/\(deep+Ypa c<=151/\okC c)))/\((Yoe c deep m).1->(Yoe c deep m).2=m+Yly c):=by
 refine Yc.ind λc ih deep m hm => ?_
 rw[Y1jo,Yp9,Y13c,Yzl,af,am]
 by_cases h:deep<=150/\m+1<=3000/\shI c
 ·rw[ae h]
  have h1:=Y140 (λx m=>Yoe x (deep+1) m) Yly (λx=>deep+1+Ypa x<=151/\okC x) 3000 c.Kb (λx hx m hm=>ih x hx (deep+1) m hm) (m+1) h.2.1
  have h2:=Y10s Ypa (m:=(150 - deep).toNat) (L:=c.Kb)
  constructor
  ·rw[h1.1]
   constructor
   ·rintro⟨a,b⟩
    have:=h2.2 λx hx=>by have:=(b x hx).1;omega
    exact⟨by omega,by omega,λx hx=>(b x hx).2,h.2.2⟩
   ·rintro⟨a,b,d,e⟩
    have:=h2.1 oW
    exact⟨by omega,λx hx=>⟨by have:=this x hx;omega,d x hx⟩⟩
  ·intro ht;rw[h1.2 ht];omega
 ·rw[ab h]
  refine⟨⟨λe=>Bool.noConfusion e,?_⟩,λe=>Bool.noConfusion e⟩
  rintro⟨a,b,d,e⟩
  exact absurd ⟨by omega,by omega,e⟩ h
def smC (c:Yc):Bool:=decide (Yly c<=3000)&&decide (Ypa c<=150)&&okC c
theorem Y1wr (c:Yc):(Yoe c 1 0).1=smC c:=by
 have h:=(Y1ju c 1 0 dW).1
 rw[cp,h]
 simp only[smC,af,ak,dv]
 constructor
 ·rintro⟨a,b,e⟩;exact⟨by omega,by omega,e⟩
 ·rintro⟨a,b,e⟩;exact⟨by omega,by omega,e⟩
def Yxq (c:Yc) (G:List Int):Bool:=smC c&&okU (G++bnd c)&&(fre c [] []).all λn=>decide (n∈G)
abbrev Z1c (a:Yd) (b:Yd):Ct:=⟨134,[],[Yq0 a,Yq0 b],[],.sv (lb (decide (a=b)))⟩
def Z2r (a:Yd) (b:Yd):Lp Nat:=.mk 53 0 (λx=>[(2,.y 0),(3,.y 1),(36,li (a.Ia.map Ylf).length),(37,hs x 0)]) (λx=>[.box (vals (Ym1 a)),.box (vals (Ym1 b))]) (λk=>[.s (li k)]) (λk=>k<=a.Ia.length/\a.Ia.length<=9223372036854775807/\a.Ia.length=b.Ia.length/\a.Ia.take k=b.Ia.take k) (λk=>a.Ia.length - k) [.mk (a.Ia=b.Ia) (.exit 0) (λx=>[]) (λx=>[]) [],.mk (a.Ia≠b.Ia) .ret (λx=>[(4,hs x 0)]) (λx=>[]) [.s (lb false)]]
theorem Zco (a:Yd) (b:Yd) (ih:∀ (z:Yd),z∈a.Ia->∀ (b:Yd),OK (Z1c z b)):Lp.Sem prog (Yli f134 0) (Z2r a b):=Ylp (λk=>.i ((k:Int)<(a.Ia.map Ylf).length) (.w (.draw []) (.x (k:Int) (a.Ia.map Ylf) (Ym1 (a.Ia.g k)) (.x (k:Int) (b.Ia.map Ylf) (Ym1 (b.Ia.g k)) (.d [.rd,.rd] (Z1c (a.Ia.g k) (b.Ia.g k)) (.b (!decide (a.Ia.g k=b.Ia.g k)) (.o 1 [] [.s (lb false)]) (.r ((k:Int)+1) (.g [0,1] (k+1) [.s (li ((k:Int)+1))]))))))) (.o 0 [] [])) (by
 intro k h;try dsimp only[Yl3,Yle,Z2r]at h|-
 with_reducible repeat' (first|apply ah|exact zR|exact ih|(intro)|apply mIc|apply mOc|apply mSc|apply mLc|apply ih)
 all_goals ((try simp only[std,inj]at *);with_reducible and_intros)
 all_goals try with_reducible first|apply ih
 all_goals try first|exact z|exact zM|grind[Yso,Yl6,Yla,Ylb,Yl5])
theorem Zg8 (a b:Yd) (ih:∀ z∈a.Ia,∀ (b:Yd),Z1c z b):Z1c a b:=Ylh call134 func134 (let v1:Tq _ _:=.y true (.s (lb false));.i (a.Ka≠b.Ka) (.y true (.y true v1)) (.i (a.Na≠b.Na) (.y true v1) (.i (a.Ta.data.toList≠b.Ta.data.toList) v1 (.z Ylf a.Ia (.z Ylf b.Ia (.i (((a.Ia.map Ylf).length:Int)≠((b.Ia.map Ylf).length:Int)) (.s (lb false)) (.z Ylf a.Ia (.l (Z2r a b) (Zco a b ih) [0,1] [.s (li 0)] 0 (.t (.s (lb true)) (.t (.s (lb false)) .q)))))))))) (by
 dsimp only[Yl3,Z1c,Yle,Z2r]
 simp only[Y1he]
 with_reducible repeat' (first|apply ah|exact zR|exact ih|(intro)|apply mIc|apply mOc|apply mSc|apply mLc)
 all_goals ((try simp only[std,inj]at *);with_reducible and_intros)
 all_goals try with_reducible first|apply ih
 all_goals try first|exact z|exact zM|grind[Yok,Yla,Ylb,Yl5])
theorem Zix (a:Yd):∀ (b:Yd),Z1c a b:=Yd.ind (P:=λa=>∀ (b:Yd),Z1c a b) (λa ih b=>Zg8 a b ih) a
abbrev Z19 (c:Yc) (A:List Int):Ct:=⟨43,[.Aa A],[Yt0 c,.r 0],[.dead,.Aa (A++bnd c)],.sv (.r 1)⟩
def Z3d (c:Yc) (A:List Int):Lp Nat:=.mk 23 1 (λx=>[(1,.r 1),(12,Aw c.Kb),(13,li (c.Kb.map Ylo).length),(14,hs x 0)]) (λx=>[.dead,ho x 1]) (λk=>[.s (li k),.o (.Aa (A++c.Pa++List.flatMap bnd (c.Kb.take k)))]) (λk=>k<=c.Kb.length/\c.Kb.length<=9223372036854775807) (λk=>c.Kb.length - k) [.mk True (.exit 0) (λx=>[(1,.r 1)]) (λx=>[.dead,ho x 0]) [.o (.Aa (A++bnd c))]]
theorem Ze6 (c:Yc) (A:List Int) (h:A.length+(bnd c).length<=2147483647) (ih:∀ (z:Yc),z∈c.Kb->∀ (A:List Int),A.length+(bnd z).length<=2147483647->OK (Z19 z A)):Lp.Sem prog (Yli f43 0) (Z3d c A):=Ylp (λk=>let v1:=A++c.Pa++List.flatMap bnd (c.Kb.take k);let v2:=c.Kb.g k;.i ((k:Int)<(c.Kb.map Ylo).length) (.x (k:Int) (c.Kb.map Ylo) (Ymz v2) (.d [.rd,.own true 1] (Z19 v2 v1) (.r ((k:Int)+1) (.g [0,4] (k+1) [.s (li ((k:Int)+1)),.o (.Aa (A++c.Pa++List.flatMap bnd (c.Kb.take k)++bnd v2))])))) (.o 0 [0,1] [.o (.Aa v1)])) (by
 intro k h;try dsimp only[Yl3,Yle,Z3d]at h|-
 have g0:=Y14v bnd c.Kb (k+1)
 with_reducible repeat' (first|apply ah|exact zR|exact ih|(intro)|apply mIc|apply mOc|apply mSc|apply mLc|apply ih)
 all_goals ((try simp only[std,inj]at *);with_reducible and_intros)
 all_goals try first|with_reducible (first|apply ih)|(simp only[<- aq];with_reducible first|apply ih)
 all_goals try first|exact z|exact zM|grind[Y1ax,Yl6,Yxb,Yla,Ylb,Yl5])
theorem Zhk (c:Yc) (A:List Int) (h:A.length+(bnd c).length<=2147483647) (ih:∀ z∈c.Kb,∀ (A:List Int) (h:A.length+(bnd z).length<=2147483647),Z19 z A):Z19 c A:=Ylh call43 func43 (.p (∀ (e0:List Cell),e0∈c.Pa.map Yl4->∀ (c0:Cell),c0∈e0->∃ v0,c0=Cell.lit v0) (.p (∀ (x0:List Cell),x0∈c.Pa.map Yl4->x0.length=1) (.p (((A.map Yl4).length+(c.Pa.map Yl4).length) * 8<=140737488355328) (.z Ylo c.Kb (.l (Z3d c A) (Ze6 c A h ih) [0,2] [.s (li 0),.o (.y 1 (A.map Yl4++c.Pa.map Yl4))] 0 (.t (.f [1] [.dead,.Aa (A++bnd c)] (.sv (.r 1))) .q)))))) (by
 dsimp only[Yl3,Z19,Yle,Z3d]
 with_reducible repeat' (first|apply ah|exact zR|exact ih|(intro)|apply mIc|apply mOc|apply mSc|apply mLc)
 all_goals ((try simp only[std,inj]at *);with_reducible and_intros)
 all_goals try first|with_reducible (first|apply ih)|(simp only[<- aq];with_reducible first|apply ih)
 all_goals try first|exact z|exact zM|grind[Yxb,Yla,Ylb,Yl5])
theorem Zba (c:Yc):∀ (A:List Int) (h:A.length+(bnd c).length<=2147483647),Z19 c A:=Yc.ind (P:=λc=>∀ (A:List Int) (h:A.length+(bnd c).length<=2147483647),Z19 c A) (λc ih A h=>Zhk c A h ih) c
abbrev Z6p (c:Yc):Ct:=⟨17,[],[Yt0 c],[],.sv (Ag (bnd c))⟩
theorem Z2s (c:Yc) (h:(bnd c).length<=2147483647):Z6p c:=Ylh call17 func17 (.d [.rd,.own true 1] (Z19 c []) (.w (.g (.lock 2)) (.s (Ag (bnd c))))) (by
 dsimp only[Yl3,Z6p]
 with_reducible repeat' (first|apply ah|exact zR|(intro)|apply mIc|apply mOc|apply mSc|apply mLc|apply Zba)
 all_goals ((try simp only[std,inj]at *);with_reducible and_intros)
 all_goals try first|with_reducible (first|apply Zba)|(simp only[<- aq];with_reducible first|apply Zba)
 all_goals try first|exact z|exact zM|grind[Yla,Ylb,Yl5])
abbrev Zc0 (c:Yc):Ct:=⟨84,[],[Yt0 c],[],.sv (lb (shI c))⟩
def Z59 (c:Yc):Lp Nat:=.mk 175 0 (λx=>[(133,Aw c.Kb),(134,li (c.Kb.map Ylo).length),(135,hs x 0)]) (λx=>[]) (λk=>[.s (li k)]) (λk=>k<=c.Kb.length/\c.Kb.length<=9223372036854775807/\((c.Kb.take k).all λx => !decide (x.Ka=8))=true) (λk=>c.Kb.length - k) [.mk ((c.Kb.all λx => !decide (x.Ka=8))=true) (.exit 1) (λx=>[]) (λx=>[]) [],.mk ((c.Kb.all λx => !decide (x.Ka=8))=false) .ret (λx=>[(2,hs x 0)]) (λx=>[]) [.s (lb false)]]
theorem Zg9 (c:Yc):Lp.Sem prog (Yli f84 0) (Z59 c):=Ylp (λk=>.i ((k:Int)<(c.Kb.map Ylo).length) (.x (k:Int) (c.Kb.map Ylo) (Ymz (c.Kb.g k)) (.i ((c.Kb.g k).Ka=8) (.o 1 [] [.s (lb false)]) (.r ((k:Int)+1) (.g [] (k+1) [.s (li ((k:Int)+1))])))) (.o 0 [] [])) (by
 intro k h;try dsimp only[Yl3,Yle,Z59]at h|-
 with_reducible repeat' (first|apply ah|exact zR|(intro)|apply mIc|apply mOc|apply mSc|apply mLc)
 all_goals ((try simp only[std,inj]at *);with_reducible and_intros)
 all_goals try first|exact z|exact zM|grind[Ylk,Yla,Ylb,Yl5])
theorem Zjy (c:Yc):Zc0 c:=Ylh call84 func84 (let v3:=((c.Pa.map Yl4).length:Int);let v2:=((c.Kb.map Ylo).length:Int);let v6:=lb false;let v5:Tq _ _:=.y false (.s v6);let v7:=lb (decide (v2=1));let v1:Tq _ _:=.i (c.Ka=1) (.i (v3=0) (.i (v2=0) (.c [.rd] (Z3y c.Da) (.s (lb (Ynp c.Da)))) (.s v6)) v5) (.i (c.Ka=2) (.i (v3=0) (.s (lb (decide (v2=0)))) (.s v6)) (.i (c.Ka=3) (.w (.draw []) (.i (v3=0) (.i (v2=0) (.i (0<=c.Na) (.c [] Z5n (.h (14<=9223372036854775807) (.s (lb (decide (c.Na<14)))))) (.s v6)) v5) (.y false v5))) (.i (c.Ka=4) (.i (v3=0) (.s v7) (.s v6)) (.i (c.Ka=5) (.i (v3<=8) (.s v7) (.s v6)) (.i (c.Ka=6) (.i (v3=0) (.i (1<=v2) (.s (lb (decide (v2<=9)))) (.s v6)) v5) (.i (c.Ka=7) (.i (v3=0) (.s (lb (decide (v2=3)))) (.s v6)) (.i (c.Ka=8) (.i (v3≠0) (.y true (.y true (.s v6))) (.i (v2<2) (.y true (.s v6)) (.i (60<v2) (.s v6) (.z Ylo c.Kb (.l (Z59 c) (Zg9 c) [] [.s (li 0)] 0 (.t (.s (lb true)) (.t (.s v6) .q))))))) (.i (c.Ka=9) (.i (1<=v3) (.i (v3<=60) (.i (1<=v2) (.s (lb (decide (v2<=60)))) (.s v6)) v5) (.y false v5)) (.i (c.Ka=10) (.i (v3=0) (.s v7) (.s v6)) (.i (c.Ka=11) (.i (v3=1) (.s v7) (.s v6)) (.s v6)))))))))));let v4:Tq _ _:=.i (c.Na≠0) (.i (c.Ka≠2) (.i (c.Ka≠3) (.i (c.Ka≠4) (.s v6) v1) (.y false v1)) (.y false (.y false v1))) (.y false (.y false (.y false v1)));.w (.draw []) (.z Yl4 c.Pa (.z Ylo c.Kb (.i (c.Ka≠1) (.c [.rd,.rd] (Zix c.Da (Yd.mk 0 0 (mkS []) [])) (.b (!decide (c.Da=Yd.mk 0 0 (mkS []) [])) (.s v6) v4)) (.y false v4))))) (by
 dsimp only[Yl3,Zc0,Yle,Z59]
 have e:Yor.length=14:=rfl
 with_reducible repeat' (first|apply ah|exact zR|(intro)|apply mIc|apply mOc|apply mSc|apply mLc)
 all_goals ((try simp only[std,inj]at *);with_reducible and_intros)
 all_goals try first|exact z|exact zM|grind[shC,shI,sqC,Yla,Ylb,Yl5])
abbrev Z1o (c:Yc) (deep:Int) (q:Int):Ct:=⟨34,[.box [vI q]],[Yt0 c,li deep,.y 0],[.box [vI (Yoe c deep q).2]],.sv (lb (Yoe c deep q).1)⟩
def Z4c (c:Yc) (deep:Int) (q:Int):Lp Nat:=let v1:=deep+1;.mk 41 1 (λx=>[(1,li deep),(2,.y 0),(28,Aw c.Kb),(29,li (c.Kb.map Ylo).length),(30,hs x 0)]) (λx=>[.box [ha x 1]]) (λk=>[.s (li k),.a (vI (Ylx (λx m=>Yoe x v1 m) (c.Kb.take k) (q+1)).2)]) (λk=>k<=c.Kb.length/\c.Kb.length<=9223372036854775807/\deep<=150/\(Ylx (λx m=>Yoe x v1 m) (c.Kb.take k) (q+1)).1/\q<=(Ylx (λx m=>Yoe x v1 m) (c.Kb.take k) (q+1)).2/\(Ylx (λx m=>Yoe x v1 m) (c.Kb.take k) (q+1)).2<=3000) (λk=>c.Kb.length - k) [.mk ((Ylx (λx m=>Yoe x v1 m) c.Kb (q+1)).1) (.exit 0) (λx=>[]) (λx=>[.box [ha x 0]]) [.a (vI (Ylx (λx m=>Yoe x v1 m) c.Kb (q+1)).2)],.mk ((Ylx (λx m=>Yoe x v1 m) c.Kb (q+1)).1=false) .ret (λx=>[(6,hs x 0)]) (λx=>[.box [ha x 1]]) [.s (lb false),.a (vI (Ylx (λx m=>Yoe x v1 m) c.Kb (q+1)).2)]]
theorem Zfb (c:Yc) (deep:Int) (q:Int) (h:0<=deep/\deep<=151/\0<=q/\q<=3000) (ih:∀ (z:Yc),z∈c.Kb->∀ (deep q:Int),0<=deep/\deep<=151/\0<=q/\q<=3000->OK (Z1o z deep q)):Lp.Sem prog (Yli f34 0) (Z4c c deep q):=Ylp (λk=>let v1:=c.Kb.g k;let v2:=c.Kb.take k;let v3:=deep+1;.i ((k:Int)<(c.Kb.map Ylo).length) (.x (k:Int) (c.Kb.map Ylo) (Ymz v1) (.r v3 (.d [.rd,.rd,.ptr] (Z1o v1 v3 (Ylx (λx m=>Yoe x v3 m) v2 (q+1)).2) (.b (!(Yoe v1 v3 (Ylx (λx m=>Yoe x v3 m) v2 (q+1)).2).1) (.o 1 [0] [.s (lb false),.a (vI (Yoe v1 v3 (Ylx (λx m=>Yoe x v3 m) v2 (q+1)).2).2)]) (.r ((k:Int)+1) (.g [0] (k+1) [.s (li ((k:Int)+1)),.a (vI (Yoe v1 v3 (Ylx (λx m=>Yoe x v3 m) v2 (q+1)).2).2)])))))) (.o 0 [0] [.a (vI (Ylx (λx m=>Yoe x v3 m) v2 (q+1)).2)])) (by
 intro k h;try dsimp only[Yl3,Yle,Z4c]at h|-
 have g1:=λx m=>Y1ju x (deep+1) m
 with_reducible repeat' (first|apply ah|exact zR|exact ih|(intro)|apply mIc|apply mOc|apply mSc|apply mLc|apply ih)
 all_goals ((try simp only[std,inj]at *);with_reducible and_intros)
 all_goals try with_reducible first|apply ih
 all_goals try first|exact z|exact zM|grind[Yy4,Y122,Yl6,Yla,Ylb,Yl5])
theorem Ziy (c:Yc) (deep q:Int) (h:0<=deep/\deep<=151/\0<=q/\q<=3000) (ih:∀ z∈c.Kb,∀ (deep:Int) (q:Int) (h:0<=deep/\deep<=151/\0<=q/\q<=3000),Z1o z deep q):Z1o c deep q:=Ylh call34 func34 (let v1:Tq _ _:=.f [] [.box [vI (q+1)]] (.sv (lb false));.r (q+1) (.i (150<deep) (.y true (.y true v1)) (.i (3000<q+1) (.y true v1) (.c [.rd] (Zjy c) (.b (!shI c) v1 (.z Ylo c.Kb (.l (Z4c c deep q) (Zfb c deep q h ih) [0] [.s (li 0),.a (vI (q+1))] 0 (.t (.f [] [.box [vI (Ylx (λx m=>Yoe x (deep+1) m) c.Kb (q+1)).2]] (.sv (lb true))) (.t (.f [] [.box [vI (Ylx (λx m=>Yoe x (deep+1) m) c.Kb (q+1)).2]] (.sv (lb false))) .q))))))))) (by
 dsimp only[Yl3,Z1o,Yle,Z4c]
 with_reducible repeat' (first|apply ah|exact zR|exact ih|(intro)|apply mIc|apply mOc|apply mSc|apply mLc)
 all_goals ((try simp only[std,inj]at *);with_reducible and_intros)
 all_goals try with_reducible first|apply ih
 all_goals try first|exact z|exact zM|grind[Y1jo,Ylx,Yla,Ylb,Yl5])
theorem Z6e (c:Yc):∀ (deep:Int) (q:Int) (h:0<=deep/\deep<=151/\0<=q/\q<=3000),Z1o c deep q:=Yc.ind (P:=λc=>∀ (deep:Int) (q:Int) (h:0<=deep/\deep<=151/\0<=q/\q<=3000),Z1o c deep q) (λc ih deep q h=>Ziy c deep q h ih) c
abbrev Zdk (Ls:List (List Int)):Ct:=⟨35,[],[ll (Ls.map Yva)],[],.sv (lb (okU Ls.flatten))⟩
def Z62 (Ls:List (List Int)) (k:Nat):Lp Nat:=let v1:=Ls.getD k [];let v2:=(10,li (Ls.map Yva).length);.mk 37 0 (λx=>[(3,.one (.mref 0)),(9,ll (Ls.map Yva)),v2,(11,li k),(15,Ag v1),(16,li (v1.map Yl4).length),(17,hs x 0)]) (λx=>[ho x 1]) (λk1=>[.s (li (k1:Int)),.o (.map false kI (mI (Ymq ((Ls.take k).flatten++v1.take k1))))]) (λk1=>k1<=v1.length/\v1.length<=9223372036854775807/\k<Ls.length/\okU ((Ls.take k).flatten++v1.take k1)) (λk1=>v1.length - k1) [.mk (okU (List.take (k+1) Ls).flatten) (.exit 2) (λx=>[(3,.one (.mref 0)),(9,ll (Ls.map Yva)),v2,(11,li k)]) (λx=>[ho x 0]) [.o (.map false kI (mI (Ymq (List.take (k+1) Ls).flatten)))],.mk (okU Ls.flatten=false) .ret (λx=>[(2,hs x 0)]) (λx=>[]) [.s (lb false)]]
def Z63 (Ls:List (List Int)):Lp Nat:=.mk 37 0 (λx=>[(3,.one (.mref 0)),(9,ll (Ls.map Yva)),(10,li (Ls.map Yva).length),(11,hs x 0)]) (λx=>[ho x 1]) (λk=>[.s (li k),.o (.map false kI (mI (Ymq (Ls.take k).flatten)))]) (λk=>k<=Ls.length/\Ls.length<=9223372036854775807/\okU (Ls.take k).flatten) (λk=>Ls.length - k) [.mk (okU Ls.flatten) (.exit 0) (λx=>[]) (λx=>[]) [],.mk (okU Ls.flatten=false) .ret (λx=>[(2,hs x 0)]) (λx=>[]) [.s (lb false)]]
theorem Zhl (Ls:List (List Int)) (k:Nat):Lp.Sem prog (Yli f35 1) (Z62 Ls k):=Ylp (λk1=>let v3:=Ls.getD k [];let v1:=(Ls.take k).flatten++v3.take k1;let v2:=v3.getD k1 0;let v4:=mI (Ypq (Ymq v1) v2 1);.i ((k1:Int)<((v3.map Yl4).length:Int)) (.x (k1:Int) (v3.map Yl4) [cI v2] (.i (v3.getD k1 (0:Int)<0) (.y true (.y true (.o 1 [] [.s (lb false)]))) (.i (99999<v3.getD k1 0) (.y true (.o 1 [] [.s (lb false)])) (.w (.cells [cI (Ymq v1 v2)]) (.p (Ypw (Value.int IntKind.i64 0) (mI (Ymq v1)) (Value.int IntKind.i64 v2) (cI (Ymq v1 v2))) (.i (Ymq v1 v2=1) (.o 1 [] [.s (lb false)]) (.w (.upd v4) (.p (false=false) (.p (Yqr kI.d (mI (Ymq v1)) v4 (Value.int IntKind.i64 v2) (some (cI 1))) (.r ((k1:Int)+1) (.g [0] (k1+1) [.s (li ((k1:Int)+1)),.o (.map false kI v4)]))))))))))) (.o 0 [0] [.o (.map false kI (mI (Ymq v1)))])) (by
 intro k1 h;try dsimp only[Yl3,Yle,Z62]at h|-
 have g1:=@Y1rx Ls k (k1+1)
 have g2:=@Y23r (Ls.getD k []) k1
 have g3:=@Y1sc ((Ls.take k).flatten++(Ls.getD k []).take k1) ((Ls.getD k []).getD k1 0)
 have g4:=@Y1ui ((Ls.take k).flatten++(Ls.getD k []).take k1) ((Ls.getD k []).getD k1 0)
 have g5:∀ j,(Ls.getD k []).length<=j->(Ls.getD k []).take j=Ls.getD k []:=λj h=>ar h
 with_reducible repeat' (first|apply ah|exact zR|(intro)|apply mIc|apply mOc|apply mSc|apply mLc)
 all_goals ((try simp only[std,inj]at *);with_reducible and_intros)
 all_goals try first|exact z|exact zM|grind[Y1d5,Y12j,List.append_assoc,Yla,Ylb,Yl5])
theorem Zhm (Ls:List (List Int)):Lp.Sem prog (Yli f35 0) (Z63 Ls):=Ylp (λk=>.i ((k:Int)<(Ls.map Yva).length) (.x (k:Int) (Ls.map Yva) [.Ao (Ls.getD k [])] (.z Yl4 (Ls.getD k []) (.l (Z62 Ls k) (Zhl Ls k) [0] [.s (li 0),.o (.map false kI (mI (Ymq (Ls.take k).flatten)))] 0 (.t (.r ((k:Int)+1) (.g [0] (k+1) [.s (li ((k:Int)+1)),.o (.map false kI (mI (Ymq (List.take (k+1) Ls).flatten)))])) (.t (.o 1 [] [.s (lb false)]) .q))))) (.o 0 [] [])) (by
 intro k h;try dsimp only[Yl3,Yle,Z63,Z62]at h|-
 with_reducible repeat' (first|apply ah|exact zR|(intro)|apply mIc|apply mOc|apply mSc|apply mLc)
 all_goals ((try simp only[std,inj]at *);with_reducible and_intros)
 all_goals try first|exact z|exact zM|grind[Y1d5,Yla,Ylb,Yl5])
theorem Zki (Ls:List (List Int)):Zdk Ls:=Ylh call35 func35 (.w (.mkmap kI) (.z Yva Ls (.l (Z63 Ls) (Zhm Ls) [0] [.s (li 0),.o (.map false kI (mI zI))] 0 (.t (.s (lb true)) (.t (.s (lb false)) .q))))) (by
 dsimp only[Yl3,Zdk,Yle,Z63]
 with_reducible repeat' (first|apply ah|exact zR|(intro)|apply mIc|apply mOc|apply mSc|apply mLc)
 all_goals ((try simp only[std,inj]at *);with_reducible and_intros)
 all_goals try first|exact z|exact zM|grind[Y15z,Y1x8,Yla,Ylb,Yl5])
abbrev Z84 (c:Yc) (G:List Int):Ct:=⟨12,[],[Yt0 c,Ag G],[],.sv (lb (Yxq c G))⟩
def Z4d (c:Yc) (G:List Int):Lp Nat:=let v1:=fre c [] [];.mk 44 0 (λx=>[(6,.one (.mref 0)),(33,.r 1),(34,li (v1.map Yl4).length),(35,hs x 0)]) (λx=>[.map false kI (mI (Ymq G)),.Aa v1]) (λk=>[.s (li k)]) (λk=>k<=v1.length/\v1.length<=9223372036854775807/\((v1.take k).all λn=>decide (n∈G))=true) (λk=>v1.length - k) [.mk ((v1.all λn=>decide (n∈G))=true) (.exit 2) (λx=>[]) (λx=>[]) [],.mk ((v1.all λn=>decide (n∈G))=false) .ret (λx=>[(4,hs x 0)]) (λx=>[]) [.s (lb false)]]
def Z4e (c:Yc) (G:List Int):Lp Nat:=.mk 44 0 (λx=>[(2,.y 0),(6,.one (.mref 1)),(23,Ag G),(24,li (G.map Yl4).length),(25,hs x 0)]) (λx=>[.box (vals (Ymz c)),ho x 1]) (λk=>[.s (li k),.o (.map false kI (mI (Ymq (G.take k))))]) (λk=>k<=G.length/\G.length<=9223372036854775807) (λk=>G.length - k) [.mk True (.exit 0) (λx=>[(2,.y 0),(6,.one (.mref 1))]) (λx=>[.box (vals (Ymz c)),ho x 0]) [.o (.map false kI (mI (Ymq G)))]]
theorem Zfc (c:Yc) (G:List Int) (h:wC c<=100000000/\G.length<=200000000):Lp.Sem prog (Yli f12 1) (Z4d c G):=Ylp (λk=>let v2:=fre c [] [];let v1:=v2.getD (k:Int).toNat 0;.i ((k:Int)<(v2.map Yl4).length) (.p (0<=(k:Int)/\(k:Int).toNat<(v2.map Yl4).length) (.w (.cells (Yl4 (v2.g (k:Int).toNat))) (.p ((v2.map Yl4)[(k:Int).toNat]? = some [cI v1]) (.w (.cells [cI (Ymq G v1)]) (.p (Ypw (Value.int IntKind.i64 0) (mI (Ymq G)) (Value.int IntKind.i64 v1) (cI (Ymq G v1))) (.i (Ymq G v1=0) (.o 1 [] [.s (lb false)]) (.r ((k:Int)+1) (.g [0,1] (k+1) [.s (li ((k:Int)+1))])))))))) (.o 0 [] [])) (by
 intro k h;try dsimp only[Yl3,Yle,Z4d]at h|-
 with_reducible repeat' (first|apply ah|exact zR|(intro)|apply mIc|apply mOc|apply mSc|apply mLc|apply Z6e|apply Z2s|apply Z6d)
 all_goals ((try simp only[std,inj]at *);with_reducible and_intros)
 all_goals try with_reducible first|apply Z6e|apply Z2s|apply Z6d
 all_goals try first|exact z|exact zM|grind[Ylk,Y1af,Yla,Ylb,Yl5])
theorem Zfd (c:Yc) (G:List Int) (h:wC c<=100000000/\G.length<=200000000):Lp.Sem prog (Yli f12 0) (Z4e c G):=Ylp (λk=>let v2:=Ymq (G.take k);let v1:=mI (Ypq v2 (G.getD k 0) 1);.i ((k:Int)<(G.map Yl4).length) (.x (k:Int) (G.map Yl4) [cI (G.getD k 0)] (.w (.upd v1) (.p (false=false) (.p (Yqr kI.d (mI v2) v1 (Value.int IntKind.i64 (G.getD k 0)) (some (cI 1))) (.r ((k:Int)+1) (.g [0,1] (k+1) [.s (li ((k:Int)+1)),.o (.map false kI v1)])))))) (.o 0 [0,1] [.o (.map false kI (mI v2))])) (by
 intro k h;try dsimp only[Yl3,Yle,Z4e]at h|-
 with_reducible repeat' (first|apply ah|exact zR|(intro)|apply mIc|apply mOc|apply mSc|apply mLc|apply Z6e|apply Z2s|apply Z6d)
 all_goals ((try simp only[std,inj]at *);with_reducible and_intros)
 all_goals try with_reducible first|apply Z6e|apply Z2s|apply Z6d
 all_goals try first|exact z|exact zM|grind[Ylk,Y12j,Yla,Ylb,Yl5,Yl6])
theorem Z5i (c:Yc) (G:List Int) (h:wC c<=100000000/\G.length<=200000000):Z84 c G:=Ylh call12 func12 (.d [.rd,.rd,.ptr] (Z1o c 1 0) (.b (!(Yoe c 1 0).1) (.y true (.s (lb false))) (.d [.rd] (Z6p c) (.c [.rd] (Zki [G,bnd c]) (.b (!okU [G,bnd c].flatten) (.s (lb false)) (.w (.mkmap kI) (.z Yl4 G (.l (Z4e c G) (Zfd c G h) [0,3] [.s (li 0),.o (.map false kI (mI zI))] 0 (.t (.d [.rd] (Z9s c) (.z Yl4 (fre c [] []) (.l (Z4d c G) (Zfc c G h) [1,2] [.s (li 0)] 0 (.t (.s (lb true)) (.t (.s (lb false)) .q))))) .q))))))))) (by
 dsimp only[Yl3,Z84,Yle,Z4e,Z4d]
 have g1:=Y202 c
 have g2:=Y1iy c [] []
 with_reducible repeat' (first|apply ah|exact zR|(intro)|apply mIc|apply mOc|apply mSc|apply mLc|apply Z6e|apply Z2s|apply Z6d)
 all_goals ((try simp only[std,inj]at *);with_reducible and_intros)
 all_goals try with_reducible first|apply Z6e|apply Z2s|apply Z6d
 all_goals try first|exact z|exact zM|grind[Yxq,Y1wr,Y15z,Yla,Ylb,Yl5])
def Y25v (u:Unit) (G:List Int):Bool:=Y23l u.name&&okU (G++u.globals)&&Yxq u.body (G++u.globals)
end
section
abbrev globals (L:List Unit):List Int:=L.flatMap Unit.globals
end
section
instance memDec (s:ByteArray) (L:List ByteArray):Decidable (s∈L):=@List.instDecidableMemOfLawfulBEq ByteArray instBEqOfDecidableEq _ s L
def inS (L:List ByteArray) (s:ByteArray):Bool:=decide (s∈L)
def Y1rm (s:ByteArray):Yd:=⟨1,0,s,[]⟩
theorem Y1um {s:ByteArray}:Yox s->(s.size:Int)<=16:=by
 unfold Yox;simp only[af,ak];intro h;exact h.1.1.1.2
end
def Y20e (L:List Unit):List ByteArray:=L.map Unit.name
def prt (u:Unit):Nat:=if u.body.Ka=8 then u.body.Kb.length else 1
def uOK (L:List Unit) (k:Nat):Bool := !inS (Y20e (L.take k)) (L.g k).name&&Y25v (L.g k) (globals (L.take k))&&decide (Ypa (L.g k).body<150)
def okT (L:List Unit) (k:Nat):Bool:=(List.range k).all (uOK L)
def apart (L:List Unit):List Int:=L.flatMap λu=>u.globals++bnd u.body
def szU (u:Unit):Nat:=Yly u.body
def Y25t (L:List Unit):Bool:=okT L L.length&&decide (L.length<=12)&&decide ((globals L).length<=60)&&decide (sumBy szU L+1<=3000)&&decide (sumBy prt L<=60)&&okU (apart L)
theorem Y1sv {o:List Int}{m n:Int}:n∈Yuu o m ↔ n∈o\/n=m:=by unfold Yuu;grind
theorem Y153 {c:Yc}{b o:List Int}{n:Int}:n∈Ypp c b o ↔ n∈o\/((c.Ka=2\/c.Ka=4)/\n=c.Na/\n∉b):=by
 unfold Ypp;split
 ·rename_i h;rw[Y1sv];constructor
  ·rintro(a|a)
   ·exact .inl a
   ·exact .inr ⟨h.1,a,by rw[a];exact h.2⟩
  ·rintro(a|a)
   ·exact .inl a
   ·exact .inr a.2.1
 ·rename_i h;constructor
  ·exact .inl
  ·rintro(a|a)
   ·exact a
   ·exact absurd ⟨a.1,by rw[<- a.2.1];exact a.2.2⟩ h
theorem Yxx {B:List Int}:∀ (L:List Yc),(∀ x∈L,∀ b o n,n∈fre x b o ↔ n∈o\/(n∉b/\n∈fre x [] []))->∀ o n,n∈L.foldl (λo x=>fre x B o) o ↔ n∈o\/∃ x∈L,n∉B/\n∈fre x [] []
 | [],_,o,n=>by simp
 | x :: r,h,o,n=>by
  rw[bL,Yxx r (λy hy=>h y (ai _ hy)),h x aj]
  constructor
  ·rintro((a|a)|⟨y,hy,a⟩)
   ·exact .inl a
   ·exact .inr ⟨x,aj,a⟩
   ·exact .inr ⟨y,ai _ hy,a⟩
  ·rintro(a|⟨y,hy,a⟩)
   ·exact .inl (.inl a)
   ·rcases List.mem_cons.1 hy with rfl|hy
    ·exact .inl (.inr a)
    ·exact .inr ⟨y,hy,a⟩
theorem Y1wl:∀ (c:Yc) (b o:List Int) (n:Int),n∈fre c b o ↔ n∈o\/(n∉b/\n∈fre c [] []):=by
 refine Yc.ind λc ih b o n => ?_
 rw[Y12h,Y12h c [] [],Yxx c.Kb ih,Yxx c.Kb ih,Y153,Y153]
 simp only[az,bq,cV,false_or,not_false_eq_true,dP,not_or]
 constructor
 ·rintro((a|a)|⟨x,hx,a⟩)
  ·exact .inl a
  ·exact .inr ⟨a.2.2,.inl ⟨a.1,a.2.1⟩⟩
  ·exact .inr ⟨a.1.1,.inr ⟨x,hx,a.1.2,a.2⟩⟩
 ·rintro(a|⟨nb,a|⟨x,hx,a⟩⟩)
  ·exact .inl (.inl a)
  ·exact .inl (.inr ⟨a.1,a.2,nb⟩)
  ·exact .inr ⟨x,hx,⟨nb,a.1⟩,a.2⟩
theorem Yu3 (c:Yc) (n:Int):n∈fre c [] [] ↔ ((c.Ka=2\/c.Ka=4)/\n=c.Na)\/∃ x∈c.Kb,n∉c.Pa/\n∈fre x [] []:=by
 rw[Y12h,Yxx c.Kb (λx _=>Y1wl x),Y153];simp
abbrev d0:Yd:=⟨0,0,mkS [],[]⟩
def Yrz (x:Yc):List Yc:=if x.Ka=8 then x.Kb else [x]
def Ymh (K:List Yc):List Yc:=K.flatMap Yrz
def Yyf (K:List Yc):Yc:=if (Ymh K).length=1 then (Ymh K).g 0 else ⟨8,0,[],d0,Ymh K⟩
theorem Y20z {x:Yc}(h:okC x) (hk:x.Ka=8):x.Pa=[]/\2<=x.Kb.length/\(∀ y∈x.Kb,okC y/\¬ y.Ka=8):=by
 rw[Yzl]at h
 simp only[shI,shC,sqC,hk,af,am]at h
 simp at h
 refine⟨?_,by omega,λy hy=>⟨h.1 y hy,h.2.2 y hy⟩⟩
 have:=h.2.1.2
 simpa using this.2
theorem Y1wq {x:Yc}(h:okC x):1<=(Yrz x).length/\(∀ y∈Yrz x,okC y/\¬ y.Ka=8/\Ypa y<=Ypa x/\∀ n∈fre y [] [],n∈fre x [] [])/\sumBy Yly (Yrz x)<=Yly x/\(Yrz x).flatMap bnd=bnd x:=by
 unfold Yrz
 split
 ·rename_i hk
  obtain⟨hp,hl,hy⟩:=Y20z h hk
  refine⟨by omega,λy m=>⟨(hy y m).1,(hy y m).2,?_,λn hn => ?_⟩,?_,?_⟩
  ·have:=Ytj Ypa m
   have e:=Y13c x
   omega
  ·rw[Yu3 x];exact .inr ⟨y,m,by rw[hp];simp,hn⟩
  ·rw[Yp9];omega
  ·rw[Yxb,hp];simp
 ·rename_i hk
  refine⟨by simp,λy m => ?_,by simp[sumBy],by simp⟩
  simp only[an]at m;subst m
  exact⟨h,hk,aC _,λn hn=>hn⟩
theorem Y1jw:∀ (K:List Yc),(∀ x∈K,okC x)->K.length<=(Ymh K).length/\(∀ y∈Ymh K,okC y/\¬ y.Ka=8/\∃ x∈K,Ypa y<=Ypa x/\∀ n∈fre y [] [],n∈fre x [] [])/\sumBy Yly (Ymh K)<=sumBy Yly K/\(Ymh K).flatMap bnd=K.flatMap bnd
 | [],_=>by simp[Ymh,sumBy]
 | x :: r,h=>by
  obtain⟨a1,a2,a3,a4⟩:=Y1wq (h x aj)
  obtain⟨b1,b2,b3,b4⟩:=Y1jw r λy hy=>h y (ai _ hy)
  have e:Ymh (x :: r)=Yrz x++Ymh r:=by simp[Ymh]
  rw[e]
  refine⟨by simp only[aD,aw];omega,λy hy => ?_,by rw[Yp0];simp only[sumBy];omega,by rw[List.flatMap_append,a4,b4];simp⟩
  rcases List.mem_append.1 hy with m|m
  ·obtain⟨c1,c2,c3,c4⟩:=a2 y m
   exact⟨c1,c2,x,aj,c3,c4⟩
  ·obtain⟨c1,c2,z,hz,c3⟩:=b2 y m
   exact⟨c1,c2,z,ai _ hz,c3⟩
theorem Y1mn {K:List Yc}{k:Nat}(hk:k<K.length):Ymh (K.take (k+1))=Ymh (K.take k)++Yrz (K.g k):=Y1ax Yrz hk
theorem Y1gf (K:List Yc) (k:Nat):(Ymh (K.take k)).length<=(Ymh K).length:=Y14v Yrz K k
abbrev Y17d (x:Yc):List Cell:=[cI x.Ka,cI x.Na,.any,cI x.Da.Ka,cI x.Da.Na,cS x.Da.Ta,.any,.any]
abbrev Y10a (K:List Yc) (u:Nat):List (List Cell):=(K.take u).map Y17d++(K.drop u).map Ylo
theorem Y1nw (K:List Yc):Y10a K 0=K.map Ylo:=by simp[Y10a]
theorem Y1rk (K:List Yc) (u:Nat):(Y10a K u).length=K.length:=by simp[Y10a,au,ax];omega
theorem Y1u3 {K:List Yc}{u:Nat}(h:u<K.length):(Y10a K u)[u]? = some (Ylo (K.g u)):=by
 simp[Y10a,ao,bY,au,aX,h,bT (dg h)]
theorem Y1pl {K:List Yc}{u:Nat}(h:u<K.length):(Y10a K u).set u (Y17d (K.g u))=Y10a K (u+1):=by
 apply cD
 intro j
 simp only[Y10a,bM,bY,aO,au,aw,ax,bb,aV,aX,ao,bT (dg h),bT (show u+1<=K.length from h)]
 by_cases h1:u=j
 ·subst h1;simp[h];omega
 ·rw[ab h1]
  by_cases h2:j<u
  ·rw[ae h2,ae h2,ae oW,ae oW]
  ·rw[ab h2,ab oW];congr 2;omega
theorem Y23f (K:List Yc):Ymh (K.take 0)=[]:=rfl
theorem Y1r6 {K:List Yc}{u:Nat}(h:u<K.length):((K.take u).map Y17d++(K.drop u).map Ylo)[u]? = some (Ymz (K.g u)):=by
 rw[<- Row.eq (C:=Ylo) (F:=Ymz)];exact Y1u3 h
attribute [irreducible] Y25t
theorem Y1tp {n:Nat}(h:n<9223372036854775808):IntKind.wrap .i64 (n:Int)=n:=by
 apply Yuf;rw[Y1ke];omega
theorem Y166 {x:Int}{m:Nat}(hm:m<9223372036854775808):0<=Yt3 .i64 x m/\Yt3 .i64 x m<=m:=by
 unfold Yt3
 have h1:(BitVec.ofInt (IntKind.bits .i64) x &&& BitVec.ofInt (IntKind.bits .i64) (m:Int)).toNat<=m:=by
  rw[BitVec.toNat_and]
  refine aN Nat.and_le_right ?_
  rw[BitVec.toNat_ofInt]
  have e:((m:Int) % ((2 ^ IntKind.bits .i64:Nat):Int)).toNat=m:=by
   have:((2 ^ IntKind.bits .i64:Nat):Int)=18446744073709551616:=by decide
   rw[this];omega
  rw[e];exact aC _
 rw[Y1tp oW]
 omega
structure Cr where
 b:List UInt8
 i:Nat
 h:Int
instance:Inhabited Cr:=⟨⟨[],0,0⟩⟩
def crO (c:Cr):Ob:=.box [vL (c.b.map Yml),vI (c.i:Nat),vI c.h]
def hN (b:List UInt8):Nat->Int
 | 0=>3220+(b.length:Int)
 | k+1=>Yt3 .i64 (hN b k * 1103+((b.getD k 0).toNat:Int)+7) 1073741823
theorem Y24h {b:List UInt8}(h:b.length<=1048576):∀ k,0<=hN b k/\hN b k<=1073741823
 | 0=>by unfold hN;omega
 | k+1=>by unfold hN;exact Y166 (m:=1073741823) dW
def Yt9 (b:List UInt8):Cr:=⟨b,0,hN b (min b.length 4000)⟩
def nxH (c:Cr):Int:=wI .i64 (wI .i64 (c.h * 6364136223846793005)+1442695040888963407)
def nwR (c:Cr):Int:=Yt3 .i64 (Y1ga .i64 (Y11t .i64 (nxH c) 33) (Y11t .i64 (nxH c) 45)) 255
def Yta {α:Type}(x:α):α:=if System.Platform.numBits=64 then x else x
theorem Yos {α:Type}(x:α):Yta x=x:=by unfold Yta;split<;>rfl
def Y1md (c:Cr):Int:=if (c.i:Int)<(c.b.length:Int) then Yt3 .i64 (nwR c+((c.b.getD c.i 0).toNat:Int)) 255 else nwR c
def Y21j (c:Cr):Cr:=⟨c.b,if (c.i:Int)<(c.b.length:Int) then c.i+1 else c.i,nxH c⟩
def nxX (c:Cr):Int:=Yta (Y1md c)
def nxC (c:Cr):Cr:=Yta (Y21j c)
theorem Y1pf (c:Cr):nxX c=Y1md c:=Yos _
theorem Y1e4 (c:Cr):nxC c=Y21j c:=Yos _
theorem Y1qz (c:Cr):0<=nwR c/\nwR c<=255:=Y166 (m:=255) dW
theorem Yvq (c:Cr):0<=nxX c/\nxX c<=255:=by
 rw[Y1pf];unfold Y1md;split
 ·exact Y166 (m:=255) dW
 ·exact Y1qz c
def okK (c:Cr):Prop:=c.b.length<=1048576
theorem Yzc {c:Cr}(h:okK c):okK (nxC c):=by rw[Y1e4];exact h
theorem Y19n {b:List UInt8}(h:b.length<=1048576):okK (Yt9 b):=h
def Y215 (c:Cr):Int:=nxX c * 16777216+nxX (nxC c) * 65536+nxX (nxC (nxC c)) * 256+nxX (nxC (nxC (nxC c)))
def Y1gb (c:Cr) (n:Int):Int:=if n<=0 then 0 else if n<=256 then (nxX c).tmod n else (Y215 c).tmod n
def Y1es (c:Cr) (n:Int):Cr:=if n<=0 then c else if n<=256 then nxC c else nxC (nxC (nxC (nxC c)))
def beX (c:Cr) (n:Int):Int:=Yta (Y1gb c n)
def beC (c:Cr) (n:Int):Cr:=Yta (Y1es c n)
theorem Y16c (c:Cr) (n:Int):beX c n=Y1gb c n:=Yos _
theorem Y18j (c:Cr) (n:Int):beC c n=Y1es c n:=Yos _
theorem Ymk {c:Cr}{n:Int}(h:okK c):okK (beC c n):=by
 rw[Y18j];unfold Y1es;split
 ·exact h
 ·split
  ·exact Yzc h
  ·exact Yzc (Yzc (Yzc (Yzc h)))
theorem Y1io {a n:Int}(ha:0<=a) (hn:0<n):0<=a.tmod n/\a.tmod n<n:=⟨Int.tmod_nonneg _ ha,Int.tmod_lt_of_pos _ hn⟩
theorem Ysc (c:Cr) {n:Int}(hn:0<n):0<=beX c n/\beX c n<n:=by
 have h1:=Yvq c;have h2:=Yvq (nxC c);have h3:=Yvq (nxC (nxC c));have h4:=Yvq (nxC (nxC (nxC c)))
 rw[Y16c];unfold Y1gb;rw[ab oW];split
 ·exact Y1io h1.1 hn
 ·exact Y1io (by unfold Y215;omega) hn
theorem Y1su {c:Cr}{n:Int}(hn:n<=0):beX c n=0:=by rw[Y16c];exact ae hn
theorem Y25k {c:Cr}{n:Int}(hn:n<=0):beX c n=0/\beC c n=c:=⟨Y1su hn,by rw[Y18j];exact ae hn⟩
theorem Y26f {c:Cr}{n:Int}(h0:¬ n<=0) (hn:n<=256):beX c n=(nxX c).tmod n/\beC c n=nxC c:=
 ⟨by rw[Y16c];unfold Y1gb;rw[ab h0,ae hn],by rw[Y18j];unfold Y1es;rw[ab h0,ae hn]⟩
theorem Y26a {c:Cr}{n:Int}(h0:¬ n<=0) (hn:¬ n<=256):beX c n=(nxX c * 16777216+nxX (nxC c) * 65536+nxX (nxC (nxC c)) * 256+nxX (nxC (nxC (nxC c)))).tmod n/\beC c n=nxC (nxC (nxC (nxC c))):=
 ⟨by rw[Y16c];unfold Y1gb;rw[ab h0,ab hn];rfl,by rw[Y18j];unfold Y1es;rw[ab h0,ab hn]⟩
structure YS where
 Ba:List YB
 Ma:List YR_
 Sb:Int
 Va:Int
 Sc:Int
 z:Int
instance:Inhabited YS:=⟨⟨[],[],0,0,0,0⟩⟩
abbrev YS.x (m:YS):YE:=⟨m.Ba,m.Ma,m.Sb,m.Va,m.Sc⟩
structure YR (α:Type) where
 v:α
 e:Int
 m:YS
mutual
def yDt:YS_->Yd
 | ⟨k,n,t,_,l⟩=>⟨k,n,t,Y1g4 l⟩
def Y1g4:List YS_->List Yd
 | []=>[]
 | x :: r=>yDt x :: Y1g4 r
end
theorem Y1jx:∀ l,Y1g4 l=l.map yDt
 | []=>by simp[Y1g4]
 | x :: r=>by rw[Y1g4,Y1jx r];rfl
theorem Y1no (s:YS_):yDt s=⟨s.Ka,s.Na,s.Ta,s.Ia.map yDt⟩:=by cases s;simp only[yDt,Y1jx]
def yN:Yc:=⟨0,0,[],⟨0,0,mkS [],[]⟩,[]⟩
abbrev yK (k n:Int) (P:List Int) (K:List Yc):Yc:=⟨k,n,P,⟨0,0,mkS [],[]⟩,K⟩
abbrev yCn (m:YS):YS:=⟨m.Ba,m.Ma,m.Sb,m.Va,m.Sc,m.z+1⟩
abbrev ySc (k:Int) (m:YS):YS:=⟨m.Ba,m.Ma,nxS m.Sb k,m.Va,m.Sc,m.z⟩
def yVr (id:YS_) (m:YS):YR Int:=
 if bvE m.x id=0 then ⟨m.Va+1,0,⟨m.Ba++[⟨id.Ta,id.Sa,3,m.Va+1⟩],m.Ma,m.Sb,m.Va+1,m.Sc,m.z⟩⟩ else ⟨0,bvE m.x id,m⟩
def yMc (id:YS_) (r:YR_) (m:YS):YR Int:=
 if bmE m.x id=0 then ⟨0,0,⟨m.Ba++[⟨id.Ta,id.Sa,4,(m.Ma.length:Int)⟩],m.Ma++[r],m.Sb,m.Va,m.Sc,m.z⟩⟩ else ⟨0,bmE m.x id,m⟩
def ySt (n:Int) (s:YS_) (m:YS):YR YS_:=⟨Yo7 m.x n s,Yn3 m.x n s,
 ⟨m.Ba,m.Ma,if m.Sc=0 then m.Sb else if nxR m.Sb 3<=99999 then nxS (scA m.x) 2 else m.Sb,m.Va,if m.Sc=0 then 0 else m.Sc - 1,m.z⟩⟩
def yRe (L:List YB) (t:ByteArray) (s:List Int):Int:=if rsC L t s=0 then 2 else if rsC L t s=2 then 3 else 0
section
variable {α β:Type}
def Ypm (f:α->YS->YR β) (a:YR (List β)) (s:α):YR (List β):=
 if a.e=0 then (if (f s a.m).e=0 then ⟨a.v++[(f s a.m).v],0,(f s a.m).m⟩ else ⟨[],(f s a.m).e,(f s a.m).m⟩) else a
def Yl9 (f:α->YS->YR β) (L:List α) (m:YS):YR (List β):=L.foldl (Ypm f) ⟨[],0,m⟩
end
def Yr0 (L:List YS_):Bool:=L.all λs=>decide (s.Ka=1)
def yAd (n:Int) (L:List YS_):List YS_:=L.map (Ylm (Ylu n))
def yPr (P:List YS_) (most:Int) (B:List YS_) (m:YS):YR (List Int×List YS_):=
 if Yr0 P=false then ⟨([],[]),1,m⟩ else if most<(P.length:Int) then ⟨([],[]),8,m⟩
 else if cdN m.Sb 1=0 then
  (if (Yl9 yVr (yAd (nxt m.Sb 1) P) (ySc 1 m)).e=0 then ⟨((Yl9 yVr (yAd (nxt m.Sb 1) P) (ySc 1 m)).v,yAd (nxt m.Sb 1) B),0,(Yl9 yVr (yAd (nxt m.Sb 1) P) (ySc 1 m)).m⟩ else ⟨([],[]),(Yl9 yVr (yAd (nxt m.Sb 1) P) (ySc 1 m)).e,(Yl9 yVr (yAd (nxt m.Sb 1) P) (ySc 1 m)).m⟩)
 else ⟨([],[]),cdN m.Sb 1,ySc 1 m⟩
def yPc (b:List YS_->YS->YR Yc) (k:Int) (P B:List YS_) (m:YS):YR Yc:=
 if (yPr P 8 B m).e=0 then
  (if (b (yPr P 8 B m).v.2 (yPr P 8 B m).m).e=0 then ⟨yK k 0 (yPr P 8 B m).v.1 [(b (yPr P 8 B m).v.2 (yPr P 8 B m).m).v],0,(b (yPr P 8 B m).v.2 (yPr P 8 B m).m).m⟩ else ⟨yN,(b (yPr P 8 B m).v.2 (yPr P 8 B m).m).e,(b (yPr P 8 B m).v.2 (yPr P 8 B m).m).m⟩)
 else ⟨yN,(yPr P 8 B m).e,(yPr P 8 B m).m⟩
def sqE (K:List Yc):Int:=if 60<((Ymh K).length:Int) then 8 else 0
def sqV (K:List Yc):Yc:=if sqE K=0 then Yyf K else yN
def yLo (B:List YB) (x:YS_):Bool:=decide (x.Ka=0)&&decide ((x.Ia.length:Int)=2)&&decide ((x.Ia.g 0).Ka=1)&&Ymt B (x.Ia.g 1)
def yM1 (n:Int) (x:YS_) (m:YS):YR Int:=yMc (Ylm (Ylu n) (x.Ia.g 0)) (Ym2 (x.Ia.g 1)) m
def yLs (b:List YS_->YS->YR Yc) (L B:List YS_) (m:YS):YR Yc:=
 if cdN m.Sb 1=0 then
  (if L.all (yLo m.Ba) then
   (if (Yl9 (yM1 (nxt m.Sb 1)) L (ySc 1 m)).e=0 then b (yAd (nxt m.Sb 1) B) (Yl9 (yM1 (nxt m.Sb 1)) L (ySc 1 m)).m else ⟨yN,(Yl9 (yM1 (nxt m.Sb 1)) L (ySc 1 m)).e,(Yl9 (yM1 (nxt m.Sb 1)) L (ySc 1 m)).m⟩) else ⟨yN,1,ySc 1 m⟩)
 else ⟨yN,cdN m.Sb 1,ySc 1 m⟩
def yTo {α:Type}(g:α->Yc) (r:YR α):YR Yc:=if r.e=0 then ⟨g r.v,0,r.m⟩ else ⟨yN,r.e,r.m⟩
def yFm (f:YS_->YS->YR Yc) (b:List YS_->YS->YR Yc) (k:Int) (s:YS_) (m:YS):YR Yc:=
 if k=0 then (if (s.Ia.length:Int)=2 then (if Ynp (yDt (s.Ia.g 1)) then ⟨⟨1,0,[],yDt (s.Ia.g 1),[]⟩,0,m⟩ else ⟨yN,8,m⟩) else ⟨yN,1,m⟩)
 else if k=2 then (if (s.Ia.length:Int)=4 then yTo (yK 7 0 []) (Yl9 f (s.Ia.drop 1) m) else ⟨yN,1,m⟩)
 else if k=4 then (if (s.Ia.length:Int)<2 then ⟨yN,1,m⟩
  else if (Yl9 f (s.Ia.drop 1) m).e=0 then ⟨sqV (Yl9 f (s.Ia.drop 1) m).v,sqE (Yl9 f (s.Ia.drop 1) m).v,(Yl9 f (s.Ia.drop 1) m).m⟩ else ⟨yN,(Yl9 f (s.Ia.drop 1) m).e,(Yl9 f (s.Ia.drop 1) m).m⟩)
 else if k=1 then (if (s.Ia.length:Int)<3\/¬ (s.Ia.g 1).Ka=0 then ⟨yN,1,m⟩ else yPc b 5 (s.Ia.g 1).Ia (s.Ia.drop 2) m)
 else if k=6 then (if (s.Ia.length:Int)<3 then ⟨yN,1,m⟩ else yPc b 11 ((s.Ia.drop 1).take 1) (s.Ia.drop 2) m)
 else if k=11 then (if (s.Ia.length:Int)<3\/¬ (s.Ia.g 1).Ka=0\/(s.Ia.g 1).Ia.length=0 then ⟨yN,1,m⟩
  else if (yPr (s.Ia.g 1).Ia 60 (s.Ia.drop 2) m).e=0 then
   (if (Yl9 f (yPr (s.Ia.g 1).Ia 60 (s.Ia.drop 2) m).v.2 (yPr (s.Ia.g 1).Ia 60 (s.Ia.drop 2) m).m).e=0 then
    (if 60<((Yl9 f (yPr (s.Ia.g 1).Ia 60 (s.Ia.drop 2) m).v.2 (yPr (s.Ia.g 1).Ia 60 (s.Ia.drop 2) m).m).v.length:Int) then
     ⟨yN,8,(Yl9 f (yPr (s.Ia.g 1).Ia 60 (s.Ia.drop 2) m).v.2 (yPr (s.Ia.g 1).Ia 60 (s.Ia.drop 2) m).m).m⟩ else ⟨yK 9 0 (yPr (s.Ia.g 1).Ia 60 (s.Ia.drop 2) m).v.1 (Yl9 f (yPr (s.Ia.g 1).Ia 60 (s.Ia.drop 2) m).v.2 (yPr (s.Ia.g 1).Ia 60 (s.Ia.drop 2) m).m).v,0,
     (Yl9 f (yPr (s.Ia.g 1).Ia 60 (s.Ia.drop 2) m).v.2 (yPr (s.Ia.g 1).Ia 60 (s.Ia.drop 2) m).m).m⟩) else ⟨yN,(Yl9 f (yPr (s.Ia.g 1).Ia 60 (s.Ia.drop 2) m).v.2 (yPr (s.Ia.g 1).Ia 60 (s.Ia.drop 2) m).m).e,(Yl9 f (yPr (s.Ia.g 1).Ia 60 (s.Ia.drop 2) m).v.2 (yPr (s.Ia.g 1).Ia 60 (s.Ia.drop 2) m).m).m⟩)
  else ⟨yN,(yPr (s.Ia.g 1).Ia 60 (s.Ia.drop 2) m).e,(yPr (s.Ia.g 1).Ia 60 (s.Ia.drop 2) m).m⟩)
 else if k=3 then (if ¬ (s.Ia.length:Int)=3\/¬ (s.Ia.g 1).Ka=1 then ⟨yN,1,m⟩
  else if yRe m.Ba (s.Ia.g 1).Ta (s.Ia.g 1).Sa=0 then
   (if (rsB m.Ba (s.Ia.g 1).Ta (s.Ia.g 1).Sa).Ka=3 then
    yTo (λc=>yK 4 (rsB m.Ba (s.Ia.g 1).Ta (s.Ia.g 1).Sa).Na [] [c]) (f (s.Ia.g 2) m) else ⟨yN,1,m⟩)
  else ⟨yN,yRe m.Ba (s.Ia.g 1).Ta (s.Ia.g 1).Sa,m⟩)
 else if k=5 then (if (s.Ia.length:Int)<2 then ⟨yN,1,m⟩ else yTo (λc=>yK 10 0 [] [c]) (b (s.Ia.drop 1) m))
 else if k=9 then (if (s.Ia.length:Int)<3\/¬ (s.Ia.g 1).Ka=0 then ⟨yN,1,m⟩ else yLs b (s.Ia.g 1).Ia (s.Ia.drop 2) m)
 else if k=7\/k=8 then ⟨yN,5,m⟩
 else ⟨yN,1,m⟩
def hdN (x:YE) (s:YS_):Int:=if s.Ka=0/\¬ s.Ia.length=0 then frm x.Ba (s.Ia.g 0) else -1
def yEx (f:YS_->YS->YR Yc) (b:List YS_->YS->YR Yc) (s:YS_) (m:YS):YR Yc:=
 if 3000<m.z+1 then ⟨yN,8,yCn m⟩
 else if s.Ka=1 then
  (if yRe m.Ba s.Ta s.Sa=0 then
   (if (rsB m.Ba s.Ta s.Sa).Ka=3 then ⟨yK 2 (rsB m.Ba s.Ta s.Sa).Na [] [],0,yCn m⟩ else if (rsB m.Ba s.Ta s.Sa).Ka=2 then ⟨yK 3 (rsB m.Ba s.Ta s.Sa).Na [] [],0,yCn m⟩ else ⟨yN,1,yCn m⟩) else ⟨yN,yRe m.Ba s.Ta s.Sa,yCn m⟩)
 else if s.Ka=2\/s.Ka=3\/s.Ka=4 then ⟨⟨1,0,[],yDt s,[]⟩,0,yCn m⟩
 else if s.Ia.length=0 then ⟨yN,1,yCn m⟩
 else if 0<=hdM m.x s then
  (if (ySt (hdM m.x s) s (yCn m)).e=0 then f (ySt (hdM m.x s) s (yCn m)).v (ySt (hdM m.x s) s (yCn m)).m else ⟨yN,(ySt (hdM m.x s) s (yCn m)).e,(ySt (hdM m.x s) s (yCn m)).m⟩)
 else if 0<=hdN m.x s then yFm f b (hdN m.x s) s (yCn m)
 else if (Yl9 f s.Ia (yCn m)).e=0 then
  (if 9<((Yl9 f s.Ia (yCn m)).v.length:Int) then ⟨yN,8,(Yl9 f s.Ia (yCn m)).m⟩ else ⟨yK 6 0 [] (Yl9 f s.Ia (yCn m)).v,0,(Yl9 f s.Ia (yCn m)).m⟩)
 else ⟨yN,(Yl9 f s.Ia (yCn m)).e,(Yl9 f s.Ia (yCn m)).m⟩
def Ymb (L:List Int):List Int:=L.filter λx=>decide (¬ Yo1 x=3)
structure YP where
 d:Bool
 n:Int
 s:YS_
 p:Bool
 P:List YS_
 B:List YS_
instance:Inhabited YP:=⟨⟨false,0,zY,false,[],[]⟩⟩
def nlC (b:Bool) (L:List (List Cell)):Cell:=if b then .lit (.slice none 0 0) else .list L
def yPF (p:YP):List Cell:=[cB p.d,cI p.n,cI p.s.Ka,cI p.s.Na,cS p.s.Ta,.list (p.s.Sa.map Yl4),.list (p.s.Ia.map Yl1),nlC (!p.p) (p.P.map Yl1),nlC (!p.p) (p.B.map Yl1)]
def yPC (p:YP):List Cell:=yPF p
instance:Row YP yPC yPF 9:=⟨λ_=>rfl,λ_=>rfl⟩
def yPT (p:YP):List Cell:=[cB p.d,cI p.n,cI p.s.Ka,cI p.s.Na,cS p.s.Ta,.list (p.s.Sa.map Yl4),.list (p.s.Ia.map Yl1),.list (p.P.map Yl1),.list (p.B.map Yl1)]
def yPN (p:YP):List Cell:=[cB p.d,cI p.n,cI p.s.Ka,cI p.s.Na,cS p.s.Ta,.list (p.s.Sa.map Yl4),.list (p.s.Ia.map Yl1),.lit (.slice none 0 0),.lit (.slice none 0 0)]
theorem Y1ml {p:YP}(h:p.p):yPF p=yPT p:=by unfold yPF yPT nlC;rw[h];rfl
theorem Y1n4 {p:YP}(h:p.p=false):yPF p=yPN p:=by unfold yPF yPN nlC;rw[h];rfl
def yDf (s:YS_) (m:YS):YR YP:=
 if (s.Ia.length:Int)<3 then ⟨default,1,m⟩
 else if (s.Ia.g 1).Ka=1/\(s.Ia.length:Int)=3 then
  ⟨⟨true,(yVr (Ylm Ymb (s.Ia.g 1)) m).v,s.Ia.g 2,false,[],[]⟩,(yVr (Ylm Ymb (s.Ia.g 1)) m).e,(yVr (Ylm Ymb (s.Ia.g 1)) m).m⟩
 else if (s.Ia.g 1).Ka=0/\¬ (s.Ia.g 1).Ia.length=0/\Yr0 (s.Ia.g 1).Ia then
  ⟨⟨true,(yVr (Ylm Ymb ((s.Ia.g 1).Ia.g 0)) m).v,zY,true,(s.Ia.g 1).Ia.drop 1,s.Ia.drop 2⟩,(yVr (Ylm Ymb ((s.Ia.g 1).Ia.g 0)) m).e,(yVr (Ylm Ymb ((s.Ia.g 1).Ia.g 0)) m).m⟩
 else ⟨default,1,m⟩
def ySy (s:YS_) (m:YS):YR Int:=
 if (s.Ia.length:Int)=3/\(s.Ia.g 1).Ka=1/\Ymt m.Ba (s.Ia.g 2) then yMc (Ylm Ymb (s.Ia.g 1)) (Ym2 (s.Ia.g 2)) m
 else ⟨0,1,m⟩
def yLk:Nat->List YS_->List YP->YS->YR (List YP)
 | _,[],o,m=>⟨o,0,m⟩
 | 0,_ :: _,o,m=>⟨[],8,yCn m⟩
 | n+1,s :: q,o,m=>
  if 3000<m.z+1 then ⟨[],8,yCn m⟩
  else if 0<=hdM m.x s then
   (if (ySt (hdM m.x s) s (yCn m)).e=0 then yLk n ((ySt (hdM m.x s) s (yCn m)).v :: q) o (ySt (hdM m.x s) s (yCn m)).m else ⟨[],(ySt (hdM m.x s) s (yCn m)).e,(ySt (hdM m.x s) s (yCn m)).m⟩)
  else if hdN m.x s=4 then yLk n (s.Ia.drop 1++q) o (yCn m)
  else if hdN m.x s=7 then (if (yDf s (yCn m)).e=0 then yLk n q (o++[(yDf s (yCn m)).v]) (yDf s (yCn m)).m else ⟨[],(yDf s (yCn m)).e,(yDf s (yCn m)).m⟩)
  else if hdN m.x s=8 then (if (ySy s (yCn m)).e=0 then yLk n q o (ySy s (yCn m)).m else ⟨[],(ySy s (yCn m)).e,(ySy s (yCn m)).m⟩)
  else yLk n q (o++[⟨false,0,s,false,[],[]⟩]) (yCn m)
def yPt (f:YS_->YS->YR Yc) (b:List YS_->YS->YR Yc) (p:YP) (m:YS):YR Yc:=
 if p.d then yTo (λc=>yK 4 p.n [] [c]) (if p.p then yPc b 5 p.P p.B m else f p.s m) else if p.p then yPc b 5 p.P p.B m else f p.s m
def yDv (L:List YP):List Int:=(L.filter (·.d)).map (·.n)
def yEn (V:List Int) (r:YR (List Yc)):YR Yc:=
 if r.e=0 then
  (if V.length=0 then ⟨sqV r.v,sqE r.v,r.m⟩ else if 60<(V.length:Int)\/60<(r.v.length:Int) then ⟨yN,8,r.m⟩ else ⟨yK 9 0 V r.v,0,r.m⟩)
 else ⟨yN,r.e,r.m⟩
def yB1 (f:YS_->YS->YR Yc) (b:List YS_->YS->YR Yc) (r:YR (List YP)):YR Yc:=
 if r.e=0 then
  (if r.v.length=0\/(r.v.g (r.v.length - 1)).d then ⟨yN,1,r.m⟩ else yEn (yDv r.v) (Yl9 (yPt f b) r.v r.m))
 else ⟨yN,r.e,r.m⟩
def yBo (f:YS_->YS->YR Yc) (b:List YS_->YS->YR Yc) (n:Nat) (L:List YS_) (m:YS):YR Yc:=
 if cdN m.Sb 1=0 then yB1 f b (yLk n (yAd (nxt m.Sb 1) L) [] (ySc 1 m)) else ⟨yN,cdN m.Sb 1,ySc 1 m⟩
def Yub:Nat->(YS_->YS->YR Yc)×(List YS_->YS->YR Yc)
 | 0=>(λ_ m=>⟨yN,8,yCn m⟩,yBo (λ_ m=>⟨yN,8,yCn m⟩) (λ_ m=>⟨yN,8,m⟩) 0)
 | n+1=>(yEx (Yub n).1 (Yub n).2,yBo (Yub n).1 (Yub n).2 (n+1))
def yE (n:Nat) (s:YS_) (m:YS):YR Yc:=Yta ((Yub n).1 s m)
def yB (n:Nat) (L:List YS_) (m:YS):YR Yc:=Yta ((Yub n).2 L m)
end Go.Proofs.YtcbodhkhppgkiaaGreat
end
