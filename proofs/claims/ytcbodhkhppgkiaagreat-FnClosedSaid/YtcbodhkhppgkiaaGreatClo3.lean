/- Part 3 of a proof. No condition. -/
import Derived.Test.YtcbodhkhppgkiaaGreatClo2
set_option maxHeartbeats 4000000
set_option linter.unusedVariables false
set_option linter.unusedSimpArgs false
section
namespace Go.Proofs.YtcbodhkhppgkiaaGreat
open Go Ab Proofs.Tryz
mutual
/-- the greatest form or Na of rounds in a capture -/
def mxP:YC->Nat
 | ⟨_,_,f,e⟩=>max (wY f) (max e.length (Yz9 e))
def Yz9:List YC->Nat
 | []=>0
 | x :: r=>max (mxP x) (Yz9 r)
end
theorem Y16z (x:YC):mxP x=max (wY x.form) (max x.each.length (Yz9 x.each)):=by cases x;simp only[mxP]
theorem Y1fr:∀ {l:List YC}{x:YC},x∈l->mxP x<=Yz9 l
 | y :: r,x,h=>by
  rw[Yz9]
  rcases List.mem_cons.1 h with rfl|h
  ·omega
  ·have:=Y1fr h;omega
theorem Y1hd {m:Nat}:∀ {l:List YC},(∀ x∈l,mxP x<=m)->Yz9 l<=m
 | [],_=>by simp[Yz9]
 | x :: r,h=>by
  have h1:=h x aj
  have h2:=Y1hd λy hy=>h y (ai _ hy)
  rw[Yz9];omega
def cnB (C:List YC) (x:YS_):Bool:=Y14p C (Ymf x []) (Ymf x []).length&&decide (0<=cnN C (Ymf x []) (Ymf x []).length)
abbrev bN (C:List YC) (x:YS_):Nat:=(cnN C (Ymf x []) (Ymf x []).length).toNat
abbrev Y1jw (C:List YC) (x:YS_) (j:Nat):List YC:=Y12o C j (Ymf x []) (Ymf x []).length
def bI (C:List YC) (x:YS_) (j:Nat) (q:Int) (O:List YS_):List YS_×Bool×Int:=itr (λj q=>bld x (Y1jw C x j) q) j q O
def bJ (C:List YC) (x:YS_) (j:Nat) (q:Int) (O:List YS_):List YS_×Bool×Int:=if cnB C x then bI C x j q O else (O,false,q)
def bR (C:List YC) (x:YS_) (q:Int) (O:List YS_):List YS_×Bool×Int:=bJ C x (bN C x) q O
theorem Y1ds (t:YS_) (C:List YC) (q:Int):bld t C q=if q - 1<0 then (zY,false,q - 1) else if t.Ka=1 then (if Ykt t\/fnd C t<0 then (t,!Ykt t,q - 1) else if (Ylt C t).depth≠0 then (zY,false,q) else if (Ykp (Ylt C t).form:Int)<=q then ((Ylt C t).form,true,max (q - Ykp (Ylt C t).form) (-1)) else (zY,false,max (q - Ykp (Ylt C t).form) (-1)))
  else if (Yoa t.Ia C (q - 1) []).2.1 then (⟨t.Ka,t.Na,t.Ta,[],(Yoa t.Ia C (q - 1) []).1⟩,true,(Yoa t.Ia C (q - 1) []).2.2) else (zY,false,(Yoa t.Ia C (q - 1) []).2.2):=by
 cases t;rw[bld]
theorem Ytw (C:List YC) (q:Int) (O:List YS_):Yoa [] C q O=(O,true,q):=by rw[Yoa]
theorem Y154 (x:YS_) (C:List YC) (q:Int) (O:List YS_):Yoa [x] C q O=if (bld x C q).2.1 then Yoa [] C (bld x C q).2.2 (O++[(bld x C q).1]) else (O,false,(bld x C q).2.2):=by
 rw[Ytw,Yoa]
theorem Y10v (x y:YS_) (r:List YS_) (C:List YC) (q:Int) (O:List YS_):Yoa (x :: y :: r) C q O=if Ykt y then (if (bR C x q O).2.1 then Yoa r C (bR C x q O).2.2 (bR C x q O).1 else bR C x q O)
  else if (bld x C q).2.1 then Yoa (y :: r) C (bld x C q).2.2 (O++[(bld x C q).1]) else (O,false,(bld x C q).2.2):=by
 rw[Yoa]
 split
 ·unfold bR bJ cnB
  split
  ·rfl
  ·rfl
 ·rfl
theorem Y1fy {f:Nat->Int->YS_×Bool×Int}(hf:∀ j q,0<=q->(f j q).2.1->0<=(f j q).2.2/\(f j q).2.2+1<=q):∀ (j:Nat) (q:Int) (O:List YS_),0<=q->(itr f j q O).2.1->0<=(itr f j q O).2.2/\((itr f j q O).1.length:Int)+(itr f j q O).2.2<=O.length+q
 | 0,q,O,h0,_=>by simp only[itr];omega
 | j+1,q,O,h0,h=>by
  have ih:=Y1fy hf j q O h0
  simp only[itr]at h|-
  by_cases e:(itr f j q O).2.1
  ·rw[ae e]at h|-
   have h1:=ih e
   have h2:=hf j _ h1.1 h
   simp only[ax,bk];omega
  ·rw[ab e]at h;exact absurd h e
theorem Ytl (f:Nat->Int->YS_×Bool×Int) (j:Nat) (q:Int) (O:List YS_) (h:(itr f j q O).2.1):itr f (j+1) q O=((itr f j q O).1++[(f j (itr f j q O).2.2).1],(f j (itr f j q O).2.2).2.1,(f j (itr f j q O).2.2).2.2):=by
 rw[itr,ae h]
theorem Y1bq (f : Nat -> Int -> YS_ × Bool × Int) (j : Nat) (q : Int) (O : List YS_) (h : (itr f j q O).2.1 = false) : ∀ n, j <= n -> itr f n q O = itr f j q O
  | 0, hn => by obtain rfl : j = 0 := by omega
                rfl
  | n + 1, hn => by
    by_cases e : j = n + 1
    · rw [e]
    · have := Y1bq f j q O h n oW
      rw [itr, this, h]; rfl
theorem Y1d5 {C:List YC}{I:List YS_}:∀ (m j:Nat),j<m->Y14p C I m->rep C (I.g j)->((Ylt C (I.g j)).each.length:Int)=cnN C I m
 | 0,j,h,_,_=>by omega
 | m+1,j,h,ht,hr=>by
  simp only[Y14p,af,aG,aM,ak]at ht
  simp only[cnN]
  by_cases e:j=m
  ·subst e;rw[ae hr]
  ·have ih:=Y1d5 m j oW ht.1 hr
   split
   ·rename_i h2
    rcases ht.2 with (h3|h3)|h3
    ·rw[h2]at h3;cases h3
    ·omega
    ·omega
   ·exact ih
theorem Y1zb {C:List YC}(hC:∀ z∈C,mxP z<=1000000000) (i a:Nat):mxP ((C.g i).each.g a)<=1000000000:=by
 have h0:mxP (default:YC)=0:=rfl
 rcases bH a (C.g i).each.length with h1|h1
 ·have h2:=Y1fr (Ykg h1)
  have h3:=Y16z (C.g i)
  rcases bH i C.length with h4|h4
  ·have:=hC _ (Ykg h4);omega
  ·have e:C.g i=default:=by simp[h4]
   have e2:(default:YC).each.length=0:=rfl
   rw[e,e2]at h1;omega
 ·have e:(C.g i).each.g a=default:=by show List.getD (C.g i).each a default=default;rw[aq,bg h1];rfl
  rw[e,h0];omega
theorem Y1wv {C:List YC}(hC:∀ z∈C,mxP z<=1000000000) {t:YS_}(h:0<=fnd C t):wY (Ylt C t).form<=1000000000:=by
 have h1:=Yul C t
 have h2:=hC (Ylt C t) (Ykg oW)
 have h3:=Y16z (Ylt C t)
 omega
def lnI (C:List YC) (i:Int):Int:=((C.g i.toNat).each.length:Int)
abbrev rpX (C:List YC) (x:YS_):List Int:=rpi C x []
def rqA (C:List YC) (I:List Int) (n:Int):Bool:=I.all λi=>decide (lnI C i=n)
def rqB (C:List YC) (x:YS_):Bool := !decide ((rpX C x).length=0)&&rqA C (rpX C x) (lnI C ((rpX C x).getD 0 default))
abbrev rqN (C:List YC) (x:YS_):Nat:=(C.g ((rpX C x).getD 0 default).toNat).each.length
def Ysp (C:List YC) (a:Nat) (I:List Int):List YC:=I.foldl (λO i=>O.set i.toNat ((C.g i.toNat).each.g a)) C
abbrev stq (C:List YC) (x:YS_) (a:Nat):List YC:=Ysp C a (rpX C x)
theorem Y1dr (C:List YC) (a:Nat) (I:List Int):(Ysp C a I).length=C.length:=by
 have:∀ (I:List Int) (O:List YC),(I.foldl (λO i=>O.set i.toNat ((C.g i.toNat).each.g a)) O).length=O.length:=by
  intro I
  induction I with
  | nil=>intro O;rfl
  | cons x r ih=>intro O;rw[bL,ih,ce]
 exact this I C
theorem Y1mm {C:List YC}{a:Nat}{I:List Int}{k:Nat}(h:k<I.length):Ysp C a (I.take (k+1))=(Ysp C a (I.take k)).set (I.g k).toNat ((C.g (I.g k).toNat).each.g a):=by
 unfold Ysp;rw[Yrk _ _ h]
mutual
/-- what the program builds of a template: the form,whether all went well,the nodes that are left -/
def bli:YS_->List YC->Int->YS_×Bool×Int
 | ⟨k,n,x,s,l⟩,C,m=>if k=1/\0<=fnd C ⟨k,n,x,s,l⟩ then
   (if (Ylt C ⟨k,n,x,s,l⟩).depth≠0 then (zY,false,m) else if Ykk (Ylt C ⟨k,n,x,s,l⟩).form then ((Ylt C ⟨k,n,x,s,l⟩).form,decide (0<=m - Ykp (Ylt C ⟨k,n,x,s,l⟩).form),m - Ykp (Ylt C ⟨k,n,x,s,l⟩).form) else (zY,false,m))
  else if m - 1<0 then (zY,false,m - 1)
  else if (Ylp l C (m - 1) []).2.1 then (⟨k,n,x,s,(Ylp l C (m - 1) []).1⟩,true,(Ylp l C (m - 1) []).2.2) else (zY,false,(Ylp l C (m - 1) []).2.2)
def Ylp:List YS_->List YC->Int->List YS_->List YS_×Bool×Int
 | [],_,m,O=>(O,true,m)
 | [x],C,m,O=>if (bli x C m).2.1 then (O++[(bli x C m).1],true,(bli x C m).2.2) else (O,false,(bli x C m).2.2)
 | x :: y :: r,C,m,O=>if Ykt y then
   (if rqB C x then
    (if (itr (λj m=>bli x (stq C x j) m) (rqN C x) m O).2.1 then
     Ylp r C (itr (λj m=>bli x (stq C x j) m) (rqN C x) m O).2.2 (itr (λj m=>bli x (stq C x j) m) (rqN C x) m O).1 else itr (λj m=>bli x (stq C x j) m) (rqN C x) m O) else (O,false,m))
  else if (bli x C m).2.1 then Ylp (y :: r) C (bli x C m).2.2 (O++[(bli x C m).1]) else (O,false,(bli x C m).2.2)
end
def iI (C:List YC) (x:YS_) (j:Nat) (q:Int) (O:List YS_):List YS_×Bool×Int:=itr (λj q=>bli x (stq C x j) q) j q O
def iR (C:List YC) (x:YS_) (q:Int) (O:List YS_):List YS_×Bool×Int:=if rqB C x then iI C x (rqN C x) q O else (O,false,q)
theorem Yt1 (t:YS_) (C:List YC) (m:Int):bli t C m=if t.Ka=1/\0<=fnd C t then (if (Ylt C t).depth≠0 then (zY,false,m) else if Ykk (Ylt C t).form then ((Ylt C t).form,decide (0<=m - Ykp (Ylt C t).form),m - Ykp (Ylt C t).form) else (zY,false,m))
  else if m - 1<0 then (zY,false,m - 1)
  else if (Ylp t.Ia C (m - 1) []).2.1 then (⟨t.Ka,t.Na,t.Ta,t.Sa,(Ylp t.Ia C (m - 1) []).1⟩,true,(Ylp t.Ia C (m - 1) []).2.2) else (zY,false,(Ylp t.Ia C (m - 1) []).2.2):=by
 cases t;rw[bli]
theorem Yts (C:List YC) (q:Int) (O:List YS_):Ylp [] C q O=(O,true,q):=by rw[Ylp]
theorem Y141 (x:YS_) (C:List YC) (q:Int) (O:List YS_):Ylp [x] C q O=if (bli x C q).2.1 then Ylp [] C (bli x C q).2.2 (O++[(bli x C q).1]) else (O,false,(bli x C q).2.2):=by
 rw[Yts,Ylp]
theorem Yww (x y:YS_) (r:List YS_) (C:List YC) (q:Int) (O:List YS_):Ylp (x :: y :: r) C q O=if Ykt y then (if (iR C x q O).2.1 then Ylp r C (iR C x q O).2.2 (iR C x q O).1 else iR C x q O)
  else if (bli x C q).2.1 then Ylp (y :: r) C (bli x C q).2.2 (O++[(bli x C q).1]) else (O,false,(bli x C q).2.2):=by
 rw[Ylp]
 split
 ·unfold iR
  split
  ·rfl
  ·rfl
 ·rfl
theorem Y1s2 {l:List YS_}{k:Nat}{C:List YC}{q:Int}{O:List YS_}(h:l.length<=k):Ylp (l.drop k) C q O=(O,true,q):=by
 rw[bC h,Yts]
theorem Y16s {l:List YS_}{k:Nat}{C:List YC}{q:Int}{O:List YS_}(h:k<l.length) (hd:l.length<=k+1\/Ykt (l.g (k+1))=false) :
  Ylp (l.drop k) C q O=if (bli (l.g k) C q).2.1 then Ylp (l.drop (k+1)) C (bli (l.g k) C q).2.2 (O++[(bli (l.g k) C q).1]) else (O,false,(bli (l.g k) C q).2.2):=by
 rw[Ynk h]
 rcases bH (k+1) l.length with h1|h1
 ·rw[Ynk h1,Yww,ab (by rcases hd with h2|h2<;>first|(exfalso;omega)|(rw[h2];decide))]
 ·rw[bC h1,Y141]
theorem Ywy {l:List YS_}{k:Nat}{C:List YC}{q:Int}{O:List YS_}(h:k+1<l.length) (hd:Ykt (l.g (k+1))) :
  Ylp (l.drop k) C q O=if (iR C (l.g k) q O).2.1 then Ylp (l.drop (k+1+1)) C (iR C (l.g k) q O).2.2 (iR C (l.g k) q O).1 else iR C (l.g k) q O:=by
 rw[Ynk (by omega:k<l.length),Ynk h,Yww,ae hd]
theorem Y13c:∀ (l:List YS_),(∀ x∈l,∀ C q,0<=q->(bli x C q).2.1->0<=(bli x C q).2.2/\(bli x C q).2.2+1<=q)->∀ C q O,0<=q->(Ylp l C q O).2.1->0<=(Ylp l C q O).2.2/\((Ylp l C q O).1.length:Int)+(Ylp l C q O).2.2<=O.length+q
 | [],_,C,q,O,h0,_=>by rw[Yts];simp only;omega
 | [x],hx,C,q,O,h0,h=>by
  rw[Y141]at h|-
  by_cases e:(bli x C q).2.1
  ·rw[ae e]at h|-
   have h1:=hx x aj C q h0 e
   have h2:=Y13c [] (λ_ h=>by cases h) C _ (O++[(bli x C q).1]) h1.1 h
   simp only[ax,bk]at h2;omega
  ·rw[ab e]at h;cases h
 | x :: y :: r,hx,C,q,O,h0,h=>by
  rw[Yww]at h|-
  by_cases d:Ykt y
  ·rw[ae d]at h|-
   by_cases e:(iR C x q O).2.1
   ·rw[ae e]at h|-
    have h1:0<=(iR C x q O).2.2/\((iR C x q O).1.length:Int)+(iR C x q O).2.2<=O.length+q:=by
     unfold iR at e|-
     by_cases c:rqB C x
     ·rw[ae c]at e|-
      exact Y1fy (λj q=>hx x aj _ q) _ q O h0 e
     ·rw[ab c]at e;cases e
    have h2:=Y13c r (λz hz=>hx z (ai _ (ai _ hz))) C _ (iR C x q O).1 h1.1 h
    omega
   ·rw[ab e]at h;exact absurd h e
  ·rw[ab d]at h|-
   by_cases e:(bli x C q).2.1
   ·rw[ae e]at h|-
    have h1:=hx x aj C q h0 e
    have h2:=Y13c (y :: r) (λz hz=>hx z (ai _ hz)) C _ (O++[(bli x C q).1]) h1.1 h
    simp only[ax,bk]at h2;omega
   ·rw[ab e]at h;cases h
theorem Y114:∀ (t:YS_) (C:List YC) (q:Int),0<=q->(bli t C q).2.1->0<=(bli t C q).2.2/\(bli t C q).2.2+1<=q:=by
 refine YS_.ind λt ih C q h0 h => ?_
 have h3:=Yli (Ylt C t).form
 rw[Yt1]at h|-
 by_cases c2:t.Ka=1/\0<=fnd C t
 ·rw[ae c2]at h|-
  by_cases c4:(Ylt C t).depth≠0
  ·rw[ae c4]at h;cases h
  ·rw[ab c4]at h|-
   by_cases c5:Ykk (Ylt C t).form
   ·rw[ae c5]at h|-
    simp only[ak]at h|-
    omega
   ·rw[ab c5]at h;cases h
 ·rw[ab c2]at h|-
  by_cases c1:q - 1<0
  ·rw[ae c1]at h;cases h
  rw[ab c1]at h|-
  by_cases c6:(Ylp t.Ia C (q - 1) []).2.1
  ·rw[ae c6]
   have:=Y13c t.Ia ih C (q - 1) [] oW c6
   simp only[bp]at this|-;omega
  ·rw[ab c6]at h;cases h
theorem Y1tq (C:List YC) (x:YS_) (j:Nat) (q:Int) (O:List YS_) (h0:0<=q) (h:(iI C x j q O).2.1):0<=(iI C x j q O).2.2/\((iI C x j q O).1.length:Int)+(iI C x j q O).2.2<=O.length+q:=
 Y1fy (λj q=>Y114 x _ q) j q O h0 h
theorem Y1h8 (C:List YC) (x:YS_) (j:Nat) (q:Int) (O:List YS_) (h:(iI C x j q O).2.1):iI C x (j+1) q O=((iI C x j q O).1++[(bli x (stq C x j) (iI C x j q O).2.2).1],(bli x (stq C x j) (iI C x j q O).2.2).2.1,(bli x (stq C x j) (iI C x j q O).2.2).2.2):=Ytl _ j q O h
theorem Y1wn (C:List YC) (x:YS_) (j n:Nat) (q:Int) (O:List YS_) (h:(iI C x j q O).2.1=false) (hn:j<=n):iI C x n q O=iI C x j q O:=Y1bq _ j q O h n hn
theorem Y1z7 {C:List YC}(hC:∀ z∈C,mxP z<=1000000000) (a:Nat) (I:List Int):∀ z∈Ysp C a I,mxP z<=1000000000:=by
 have:∀ (I:List Int) (O:List YC),(∀ z∈O,mxP z<=1000000000)->∀ z∈I.foldl (λO i=>O.set i.toNat ((C.g i.toNat).each.g a)) O,mxP z<=1000000000:=by
  intro I
  induction I with
  | nil=>intro O h;exact h
  | cons x r ih=>
   intro O h
   rw[bL]
   refine ih _ λz hz => ?_
   rcases bT hz with h2|h2
   ·exact h z h2
   ·rw[h2];exact Y1zb hC _ _
 exact this I C hC
mutual
def nmZ:YS_->List YS_
 | ⟨k,n,t,s,l⟩=>(if k=1 then [⟨k,n,t,s,l⟩] else [])++Y1dt l
def Y1dt:List YS_->List YS_
 | []=>[]
 | x :: r=>nmZ x++Y1dt r
end
theorem Y1jm:∀ l,Y1dt l=l.flatMap nmZ
 | []=>by simp[Y1dt]
 | x :: r=>by rw[Y1dt,Y1jm r];simp
theorem Yoc (x:YS_):nmZ x=(if x.Ka=1 then [x] else [])++x.Ia.flatMap nmZ:=by cases x;simp only[nmZ,Y1jm]
def Yt7 (o:List YS_) (y:YS_):List YS_:=if Yn1 o y=false then o++[y] else o
def Y138 (C:List YC) (o:List Int) (y:YS_):List Int:=if rep C y/\fnd C y∉o then o++[fnd C y] else o
theorem Yzu {α β γ:Type}(f:γ->α->γ) (g:γ->β->γ) (h:β->List α):∀ (l:List β),(∀ x∈l,∀ o,g o x=(h x).foldl f o)->∀ o,l.foldl g o=(l.flatMap h).foldl f o
 | [],_,o=>rfl
 | x :: r,hx,o=>by
  rw[bL,bV,cO,hx x aj,Yzu f g h r λy hy=>hx y (ai _ hy)]
theorem Y1sx:∀ (x:YS_) (o:List YS_),Ymf x o=(nmZ x).foldl Yt7 o:=by
 refine YS_.ind λx ih o => ?_
 rw[Y1xm,Yoc,cO,Yzu Yt7 _ nmZ x.Ia ih]
 congr 1
 unfold Y1qp
 by_cases h:x.Ka=1
 ·rw[ae h];simp[Yt7,h]
 ·rw[ab h];simp[h]
theorem Y1vs (C:List YC):∀ (x:YS_) (o:List Int),rpi C x o=(nmZ x).foldl (Y138 C) o:=by
 refine YS_.ind λx ih o => ?_
 rw[Y1es,Yoc,cO,Yzu (Y138 C) _ nmZ x.Ia ih]
 congr 1
 unfold Yuy
 by_cases h:x.Ka=1
 ·rw[ae h];simp[Y138,h]
 ·rw[ab h];simp[h]
theorem Y1d4:∀ (x:YS_),∀ y∈nmZ x,y.Ka=1:=by
 refine YS_.ind λx ih y hy => ?_
 rw[Yoc,aA,bm]at hy
 rcases hy with hy|⟨z,hz,hy⟩
 ·split at hy
  ·rename_i h;rw[ao]at hy;subst hy;exact h
  ·cases hy
 ·exact ih z hz y hy
theorem Y1su {C:List YC}{a b:YS_}(h1:a.Ta=b.Ta) (h2:a.Sa=b.Sa) (ha:a.Ka=1) (hb:b.Ka=1):fnd C a=fnd C b:=by
 have e:Ypa a=Ypa b:=by funext x;simp only[Ypa,h1,h2]
 simp only[fnd,Yqh,Ykt,e,h1,ha,hb]
theorem Y1rm {o:List YS_}{y:YS_}:Yn1 o y ↔ ∃ z∈o,z.Ta=y.Ta/\z.Sa=y.Sa:=by
 simp only[Yn1,cK,af,ak]
theorem Y1nk (L:List YS_):∀ (o:List YS_),(∀ z∈L.foldl Yt7 o,z∈o\/z∈L)/\(∀ y,y∈o\/y∈L->∃ z∈L.foldl Yt7 o,z.Ta=y.Ta/\z.Sa=y.Sa):=by
 induction L with
 | nil=>intro o;exact⟨λz hz=>.inl hz,λy hy=>⟨y,by simpa using hy,rfl,rfl⟩⟩
 | cons x r ih=>
  intro o
  rw[bL]
  obtain⟨h1,h2⟩:=ih (Yt7 o x)
  constructor
  ·intro z hz
   rcases h1 z hz with h|h
   ·unfold Yt7 at h
    split at h
    ·rcases List.mem_append.1 h with h|h
     ·exact .inl h
     ·rw[List.mem_singleton.1 h];exact .inr aj
    ·exact .inl h
   ·exact .inr (ai _ h)
  ·intro y hy
   have h3:∃ z∈Yt7 o x,z.Ta=x.Ta/\z.Sa=x.Sa:=by
    unfold Yt7
    by_cases e:Yn1 o x=false
    ·rw[ae e];exact⟨x,by simp,rfl,rfl⟩
    ·rw[ab e];exact Y1rm.1 (by simpa using e)
   have h4:∀ z∈o,z∈Yt7 o x:=λz hz=>by unfold Yt7;split<;>simp[hz]
   rcases hy with hy|hy
   ·exact h2 y (.inl (h4 y hy))
   ·rcases List.mem_cons.1 hy with rfl|hy
    ·obtain⟨z,hz,e1,e2⟩:=h3
     obtain⟨w,hw,e3,e4⟩:=h2 z (.inl hz)
     exact⟨w,hw,e3.trans e1,e4.trans e2⟩
    ·exact h2 y (.inr hy)
theorem Y1nj (C:List YC) (L:List YS_):∀ (o:List Int) (i:Int),i∈L.foldl (Y138 C) o ↔ (i∈o\/∃ y∈L,rep C y/\fnd C y=i):=by
 induction L with
 | nil=>intro o i;simp
 | cons x r ih=>
  intro o i
  rw[bL,ih]
  have e:i∈Y138 C o x ↔ (i∈o\/(rep C x/\fnd C x=i)):=by
   unfold Y138
   by_cases h:rep C x/\fnd C x∉o
   ·rw[ae h,aA,ao]
    constructor
    ·rintro(a|rfl)
     ·exact .inl a
     ·exact .inr ⟨h.1,rfl⟩
    ·rintro(a|⟨_,rfl⟩)
     ·exact .inl a
     ·exact .inr rfl
   ·rw[ab h]
    constructor
    ·exact .inl
    ·rintro(a|⟨a,rfl⟩)
     ·exact a
     ·exact Decidable.byContradiction λn=>h ⟨a,n⟩
  rw[e]
  simp only[aC,exists_eq_or_imp,or_assoc]
theorem Ytp {C:List YC}{x:YS_}{i:Int}:i∈rpX C x ↔ ∃ y∈Ymf x [],rep C y/\fnd C y=i:=by
 unfold rpX
 rw[Y1vs,Y1nj,Y1sx]
 have h:=Y1nk (nmZ x) []
 constructor
 ·rintro(a|⟨y,hy,h1,h2⟩)
  ·cases a
  ·obtain⟨z,hz,e1,e2⟩:=h.2 y (.inr hy)
   have hz':z∈nmZ x:=by rcases h.1 z hz with a|a;cases a;exact a
   have e:=@Y1su C z y e1 e2 (Y1d4 x z hz') (Y1d4 x y hy)
   exact⟨z,hz,by simpa[rep,Ylt,e] using h1,e.trans h2⟩
 ·rintro⟨y,hy,h1,h2⟩
  refine .inr ⟨y,?_,h1,h2⟩
  rcases h.1 y hy with a|a
  ·cases a
  ·exact a
theorem Y18n {C:List YC}{y:YS_}(h:rep C y):lnI C (fnd C y)=((Ylt C y).each.length:Int)/\0<=fnd C y:=by
 simp only[rep,af,ak]at h
 exact⟨rfl,h.1⟩
theorem Y1u1 {C:List YC}{I:List YS_}{n:Int}(h0:0<=n):∀ m,(∀ j,j<m->rep C (I.g j)->((Ylt C (I.g j)).each.length:Int)=n)->Y14p C I m/\(cnN C I m=n\/cnN C I m = -1)
 | 0,_=>⟨rfl,.inr rfl⟩
 | m+1,h=>by
  obtain⟨h1,h2⟩:=Y1u1 h0 m λj hj=>h j oW
  have h3:=h m oW
  simp only[Y14p,cnN,af,aG,aM,ak]
  by_cases e:rep C (I.g m)
  ·rw[ae e]
   have:=h3 e
   refine⟨⟨h1,?_⟩,.inl this⟩
   rcases h2 with h2|h2
   ·exact .inr oW
   ·exact .inl (.inr oW)
  ·rw[ab e]
   exact⟨⟨h1,.inl (.inl (by simpa using e))⟩,h2⟩
theorem Y1jd {C:List YC}{I:List YS_}:∀ m,m<=I.length->0<=cnN C I m->∃ y∈I,rep C y
 | 0,_,h=>by simp only[cnN]at h;omega
 | m+1,hm,h=>by
  simp only[cnN]at h
  split at h
  ·rename_i e;exact⟨_,Ykg oW,e⟩
  ·exact Y1jd m oW h
theorem Y236 (C:List YC) (x:YS_):rqB C x=cnB C x/\(cnB C x->rqN C x=bN C x):=by
 have hall:cnB C x->∀ i∈rpX C x,lnI C i=cnN C (Ymf x []) (Ymf x []).length:=by
  intro h i hi
  simp only[cnB,af,ak]at h
  obtain⟨y,hy,h1,rfl⟩:=Ytp.1 hi
  rw[(Y18n h1).1]
  obtain⟨j,hj,rfl⟩:=dP hy
  have e:(Ymf x [])[j]=(Ymf x []).g j:=by simp[hj]
  rw[e]at h1|-
  exact Y1d5 _ j hj h.1 h1
 have hne:cnB C x->0<(rpX C x).length:=by
  intro h
  simp only[cnB,af,ak]at h
  obtain⟨y,hy,h1⟩:=Y1jd _ (aD _) h.2
  exact List.length_pos_of_mem (Ytp.2 ⟨y,hy,h1,rfl⟩)
 refine⟨?_,λh => ?_⟩
 ·rw[cm]
  constructor
  ·intro h
   simp only[rqB,rqA,af,aM,aP,am,ak]at h
   have hl:0<(rpX C x).length:=by omega
   have h0:0<=lnI C ((rpX C x).getD 0 default):=by simp only[lnI];omega
   have h1:=@Y1u1 C (Ymf x []) _ h0 (Ymf x []).length λj hj hr=>by
    rw[<- (Y18n hr).1]
    exact h.2 _ (Ytp.2 ⟨_,Ykg hj,hr,rfl⟩)
   obtain⟨y,hy,hr,_⟩:=Ytp.1 (Ykg hl)
   obtain⟨j,hj,rfl⟩:=dP hy
   have e:(Ymf x [])[j]=(Ymf x []).g j:=by simp[hj]
   rw[e]at hr
   have:=Y1d5 _ j hj h1.1 hr
   simp only[cnB,af,ak]
   exact⟨h1.1,by omega⟩
  ·intro h
   have h1:=hall h
   have h2:=hne h
   simp only[rqB,rqA,af,aM,aP,am,ak]
   exact⟨by omega,λi hi=>by rw[h1 i hi,h1 _ (Ykg h2)]⟩
 ·have h1:=hall h ((rpX C x).getD 0 default) (Ykg (hne h))
  simp only[lnI]at h1
  simp only[rqN,bN];omega
theorem Y1ix (C:List YC) (a p:Nat):∀ L,(Yzi C a L)[p]? = if (∃ y∈L,rep C y/\(fnd C y).toNat=p)/\p<C.length then some ((C.g p).each.g a) else C[p]?
 | []=>by simp[Yzi]
 | x :: r=>by
  have ih:=Y1ix C a p r
  have hl:=Y1g4 C a r
  have er:(0<=fnd C x/\0<(C.g (fnd C x).toNat).depth) ↔ rep C x:=by
   unfold rep;rw[af,ak,ak];exact dR
  simp only[Yzi]
  by_cases e:rep C x
  ·rw[ae (er.2 e),bO,hl]
   by_cases e2:(fnd C x).toNat=p
   ·rw[ae e2]
    by_cases e3:p<C.length
    ·rw[ae oW,ae ⟨⟨x,aj,e,e2⟩,e3⟩,e2]
    ·rw[ab oW,ab (λh=>e3 h.2)]
     rw[bg oW]
   ·rw[ab e2,ih]
    congr 1
    apply propext
    constructor
    ·rintro⟨⟨y,hy,h⟩,h2⟩;exact⟨⟨y,ai _ hy,h⟩,h2⟩
    ·rintro⟨⟨y,hy,h⟩,h2⟩
     rcases List.mem_cons.1 hy with rfl|hy
     ·exact absurd h.2 e2
     ·exact⟨⟨y,hy,h⟩,h2⟩
  ·rw[ab (λh=>e (er.1 h)),ih]
   congr 1
   apply propext
   constructor
   ·rintro⟨⟨y,hy,h⟩,h2⟩;exact⟨⟨y,ai _ hy,h⟩,h2⟩
   ·rintro⟨⟨y,hy,h⟩,h2⟩
    rcases List.mem_cons.1 hy with rfl|hy
    ·exact absurd h.1 e
    ·exact⟨⟨y,hy,h⟩,h2⟩
theorem Y1xs (C:List YC) (a p:Nat) (I:List Int):(Ysp C a I)[p]? = if (∃ i∈I,i.toNat=p)/\p<C.length then some ((C.g p).each.g a) else C[p]? := by
 have:∀ (I:List Int) (O:List YC),O.length=C.length->(I.foldl (λO i=>O.set i.toNat ((C.g i.toNat).each.g a)) O)[p]? = if (∃ i∈I,i.toNat=p)/\p<C.length then some ((C.g p).each.g a) else O[p]? := by
  intro I
  induction I with
  | nil=>intro O _;simp
  | cons x r ih=>
   intro O hO
   rw[bL,ih _ (by rw[ce];exact hO),bO,hO]
   by_cases e3:p<C.length
   ·by_cases e:∃ i∈r,i.toNat=p
    ·obtain⟨i,hi,h⟩:=e
     rw[ae ⟨⟨i,hi,h⟩,e3⟩,ae ⟨⟨i,ai _ hi,h⟩,e3⟩]
    ·rw[ab (λh=>e h.1)]
     by_cases e2:x.toNat=p
     ·rw[ae e2,ae oW,ae ⟨⟨x,aj,e2⟩,e3⟩,e2]
     ·rw[ab e2,ab]
      rintro⟨⟨i,hi,h⟩,_⟩
      rcases List.mem_cons.1 hi with rfl|hi
      ·exact e2 h
      ·exact e ⟨i,hi,h⟩
   ·have n1:¬ ((∃ i∈r,i.toNat=p)/\p<C.length):=λh=>e3 h.2
    have n2:¬ ((∃ i∈x :: r,i.toNat=p)/\p<C.length):=λh=>e3 h.2
    rw[ab n1,ab n2]
    split
    ·rename_i h;rw[ab oW,bg oW]
    ·rfl
 exact this I C rfl
theorem Y217 (C:List YC) (x:YS_) (a:Nat):stq C x a=Y1jw C x a:=by
 apply cE
 intro p
 unfold stq Y1jw Y12o
 rw[Y1xs,Y1ix,b9]
 congr 1
 apply propext
 constructor
 ·rintro⟨⟨i,hi,h⟩,h2⟩
  obtain⟨y,hy,h3,rfl⟩:=Ytp.1 hi
  exact⟨⟨y,List.mem_reverse.2 hy,h3,h⟩,h2⟩
 ·rintro⟨⟨y,hy,h3,h⟩,h2⟩
  exact⟨⟨_,Ytp.2 ⟨y,List.mem_reverse.1 hy,h3,rfl⟩,h⟩,h2⟩
def Yz3 (s:YS_):Prop:=okY s/\Yl5 s<=40
theorem Y1f7 {f:Nat->Int->YS_×Bool×Int}{z:YS_}{q:Int}{O:List YS_}(h:z∈O):∀ j,z∈(itr f j q O).1
 | 0=>h
 | j+1=>by
  have:=Y1f7 (f:=f) (q:=q) h j
  simp only[itr];split
  ·exact aY _ this
  ·exact this
theorem Y1e6 {f:Nat->Int->YS_×Bool×Int}{q:Int}{O:List YS_}{j:Nat}(h:(itr f (j+1) q O).2.1):(itr f j q O).2.1:=by
 simp only[itr]at h;split at h
 ·assumption
 ·exact h
theorem Y1hm {f g:Nat->Int->YS_×Bool×Int}(hg:∀ j q,0<=q->(g j q).2.1->0<=(g j q).2.2/\(g j q).2.2+1<=q)
  (h:∀ j q,0<=q->q<=2000->((g j q).2.1->f j q=g j q)/\((f j q).2.1->Yz3 (f j q).1->(g j q).2.1)) {q:Int} (h0:0<=q) (h1:q<=2000) (O:List YS_) :
  ∀ j,((itr g j q O).2.1->itr f j q O=itr g j q O/\0<=(itr g j q O).2.2/\(itr g j q O).2.2<=q)/\((itr f j q O).2.1->(∀ z∈(itr f j q O).1,Yz3 z)->(itr g j q O).2.1)
 | 0=>⟨λ_=>⟨rfl,h0,aJ _⟩,λ_ _=>rfl⟩
 | j+1=>by
  obtain⟨ih1,ih2⟩:=Y1hm hg h h0 h1 O j
  constructor
  ·intro ht
   have hj:=Y1e6 ht
   obtain⟨e,b1,b2⟩:=ih1 hj
   rw[Ytl g j q O hj]at ht|-
   rw[Ytl f j q O (by rw[e];exact hj),e]
   have h3:=(h j _ b1 oW).1 ht
   have h4:=hg j _ b1 ht
   rw[h3]
   exact⟨rfl,h4.1,by simp only;omega⟩
  ·intro ht hz
   have hj:=Y1e6 ht
   rw[Ytl f j q O hj]at ht hz
   have hgj:=ih2 hj λz hz'=>hz z (aY _ hz')
   obtain⟨e,b1,b2⟩:=ih1 hgj
   rw[Ytl g j q O hgj]
   have h3:=(h j (itr f j q O).2.2 (by rw[e];exact b1) (by rw[e];omega)).2 ht (hz _ (bd _ (List.mem_singleton.2 rfl)))
   rw[e]at h3
   exact h3
theorem Y1hc {C:List YC}{x z:YS_}{q:Int}{O:List YS_}(h:z∈O):z∈(bR C x q O).1:=by
 unfold bR bJ bI;split
 ·exact Y1f7 h _
 ·exact h
theorem Yun:∀ (l:List YS_) (C:List YC) (q:Int) (O:List YS_) (z:YS_),z∈O->z∈(Yoa l C q O).1
 | [],C,q,O,z,h=>by rw[Ytw];exact h
 | [x],C,q,O,z,h=>by
  rw[Y154];split
  ·exact Yun [] C _ _ z (aY _ h)
  ·exact h
 | x :: y :: r,C,q,O,z,h=>by
  rw[Y10v];split
  ·split
   ·exact Yun r C _ _ z (Y1hc h)
   ·exact Y1hc h
  ·split
   ·exact Yun (y :: r) C _ _ z (aY _ h)
   ·exact h
def Y1sq (x:YS_):Prop:=∀ C q,0<=q->q<=2000->((bli x C q).2.1->bld x C q=bli x C q)/\((bld x C q).2.1->Yz3 (bld x C q).1->(bli x C q).2.1)
theorem Y1z2 {x:YS_}(hx:Y1sq x) (C:List YC) {q:Int}(h0:0<=q) (h1:q<=2000) (O:List YS_) :
  ((iR C x q O).2.1->bR C x q O=iR C x q O/\0<=(iR C x q O).2.2/\(iR C x q O).2.2<=q)/\((bR C x q O).2.1->(∀ z∈(bR C x q O).1,Yz3 z)->(iR C x q O).2.1):=by
 obtain⟨e1,e2⟩:=Y236 C x
 unfold iR bR bJ
 rw[e1]
 by_cases c:cnB C x
 ·rw[ae c,ae c,e2 c]
  have e3:iI C x (bN C x) q O=itr (λj q=>bli x (Y1jw C x j) q) (bN C x) q O:=by unfold iI;congr 1;funext j m;rw[Y217]
  rw[e3]
  exact Y1hm (λj q=>Y114 x _ q) (λj q a b=>hx _ q a b) h0 h1 O (bN C x)
 ·rw[ab c,ab c]
  exact⟨λh=>(by cases h),λh=>(by cases h)⟩
theorem Ywf:∀ (l:List YS_) (b:Bool),(∀ x∈l,Yqg x->Y1sq x)->(∀ x,l.head? = some x->Ykt x=false)->Yly b l->∀ C q O,0<=q->q<=2000 ->
  ((Ylp l C q O).2.1->Yoa l C q O=Ylp l C q O)/\((Yoa l C q O).2.1->(∀ z∈(Yoa l C q O).1,Yz3 z)->(Ylp l C q O).2.1)
 | [],b,_,_,_,C,q,O,h0,h1=>by rw[Ytw,Yts];exact⟨λ_=>rfl,λ_ _=>rfl⟩
 | [x],b,hx,hh,hd,C,q,O,h0,h1=>by
  have hn:Ykt x=false:=hh x rfl
  simp only[Yly,hn,Bool.and_true]at hd
  have h:=hx x aj (by simpa using hd) C q h0 h1
  rw[Y154,Y141,Ytw,Yts]
  constructor
  ·intro ht
   by_cases e:(bli x C q).2.1
   ·rw[ae e,h.1 e,ae e]
   ·rw[ab e]at ht;cases ht
  ·intro ht hz
   by_cases e:(bld x C q).2.1
   ·rw[ae e]at hz
    have:=h.2 e (hz _ (bd _ (List.mem_singleton.2 rfl)))
    rw[ae this]
   ·rw[ab e]at ht;cases ht
 | x :: y :: r,b,hx,hh,hd,C,q,O,h0,h1=>by
  have hn:Ykt x=false:=hh x rfl
  have hd2:Yqg x/\Yly false (y :: r):=by
   rw[Yly,hn]at hd
   simpa using hd
  have hxr:=hx x aj hd2.1
  rw[Y10v,Yww]
  by_cases d:Ykt y
  ·rw[ae d,ae d]
   have hr:Yly true r:=by
    have:=hd2.2
    rw[Yly,d]at this
    simpa using this
   have hrh:∀ z,r.head? = some z->Ykt z=false:=by
    intro z hz
    cases r with
    | nil=>cases hz
    | cons w r=>
     simp only[List.head?_cons,aa]at hz
     subst hz
     cases e:Ykt w with
     | false=>rfl
     | true=>rw[Yly,e]at hr;simp at hr
   have h:=Y1z2 hxr C h0 h1 O
   constructor
   ·intro ht
    by_cases e:(iR C x q O).2.1
    ·obtain⟨e1,b1,b2⟩:=h.1 e
     rw[ae e]at ht|-
     rw[e1,ae e]
     exact(Ywf r true (λz hz=>hx z (ai _ (ai _ hz))) hrh hr C _ _ b1 oW).1 ht
    ·rw[ab e]at ht;exact absurd ht e
   ·intro ht hz
    by_cases e:(bR C x q O).2.1
    ·rw[ae e]at ht hz
     have hi:=h.2 e λz hz'=>hz z (Yun r C _ _ z hz')
     obtain⟨e1,b1,b2⟩:=h.1 hi
     rw[ae hi]
     rw[e1]at ht hz
     exact(Ywf r true (λz hz=>hx z (ai _ (ai _ hz))) hrh hr C _ _ b1 oW).2 ht hz
    ·rw[ab e]at ht;exact absurd ht e
  ·rw[ab d,ab d]
   have h:=hxr C q h0 h1
   have hyh:∀ z,(y :: r).head? = some z->Ykt z=false:=by
    intro z hz
    simp only[List.head?_cons,aa]at hz
    subst hz;simpa using d
   constructor
   ·intro ht
    by_cases e:(bli x C q).2.1
    ·have hb:=Y114 x C q h0 e
     rw[ae e]at ht|-
     rw[h.1 e,ae e]
     exact(Ywf (y :: r) false (λz hz=>hx z (ai _ hz)) hyh hd2.2 C _ _ hb.1 oW).1 ht
    ·rw[ab e]at ht;cases ht
   ·intro ht hz
    by_cases e:(bld x C q).2.1
    ·rw[ae e]at ht hz
     have hi:=h.2 e (hz _ (Yun (y :: r) C _ _ _ (bd _ (List.mem_singleton.2 rfl))))
     have hb:=Y114 x C q h0 hi
     rw[ae hi]
     rw[h.1 hi]at ht hz
     exact(Ywf (y :: r) false (λz hz=>hx z (ai _ hz)) hyh hd2.2 C _ _ hb.1 oW).2 ht hz
    ·rw[ab e]at ht;cases ht
theorem Y1jx {l:List YS_}(h:Yly true l):∀ x,l.head? = some x->Ykt x=false:=by
 intro x hx
 cases l with
 | nil=>cases hx
 | cons y r=>
  simp only[List.head?_cons,aa]at hx
  subst hx
  cases e:Ykt y with
  | false=>rfl
  | true=>rw[Yly,e]at h;simp at h
theorem Y1rs {t:YS_}(h:okY t):(t.Ka=1->t.Ia=[])/\(t.Ka≠1->t.Sa=[]):=by
 rw[Yow]at h
 simp only[Ypd,Yp4,af,aG,ak]at h
 constructor
 ·intro hk
  have:(t.Ia.length:Int)=0:=by omega
  exact List.length_eq_zero_iff.1 oW
 ·intro hk
  have:(t.Sa.length:Int)=0:=by omega
  exact List.length_eq_zero_iff.1 oW
theorem Y23w (t:YS_):t=⟨t.Ka,t.Na,t.Ta,t.Sa,t.Ia⟩:=by cases t;rfl
theorem Y1wk:∀ t,okY t->Yqg t->Y1sq t:=by
 refine YS_.ind λt ih hok hdot C q h0 h1 => ?_
 have hn:=Y1rs hok
 have hd:=Y199 t
 rw[hdot]at hd
 have hd1:Ykt t=false/\Yly true t.Ia:=by
  have:=hd.symm
  simpa using this
 have hsz:=Yli (Ylt C t).form
 by_cases hc:t.Ka=1/\0<=fnd C t
 ·rw[Yt1,ae hc,Y1ds,ae hc.1,ab (by rw[hd1.1];simp;omega:¬ (Ykt t\/fnd C t<0))]
  by_cases c4:(Ylt C t).depth≠0
  ·rw[ae c4,ae c4]
   exact⟨λh=>(by cases h),λh=>(by split at h<;>cases h)⟩
  ·rw[ab c4,ab c4]
   constructor
   ·intro h
    by_cases c5:Ykk (Ylt C t).form
    ·rw[ae c5]at h|-
     simp only[ak]at h
     rw[ab oW,ae oW]
     have e:max (q - (Ykp (Ylt C t).form:Int)) (-1)=q - Ykp (Ylt C t).form:=by omega
     rw[e,bM h]
    ·rw[ab c5]at h;cases h
   ·intro h hg
    by_cases c1:q - 1<0
    ·rw[ae c1]at h;cases h
    ·rw[ab c1]at h hg
     by_cases c6:(Ykp (Ylt C t).form:Int)<=q
     ·rw[ae c6]at hg
      have c5:Ykk (Ylt C t).form:=by
       simp only[Ykk,af,ak]
       exact⟨⟨by omega,hg.2⟩,hg.1⟩
      rw[ae c5]
      simp only[ak];omega
     ·rw[ab c6]at h;cases h
 ·rw[Yt1,ab hc,Y1ds]
  by_cases c1:q - 1<0
  ·rw[ae c1,ae c1]
   exact⟨λh=>(by cases h),λh=>(by cases h)⟩
  ·rw[ab c1,ab c1]
   by_cases hk:t.Ka=1
   ·have hi:=hn.1 hk
    rw[ae hk,ae (Or.inr oW:Ykt t\/fnd C t<0),hi,Yts,hd1.1]
    refine⟨λ_ => ?_,λ_ _=>rfl⟩
    have e:t=⟨t.Ka,t.Na,t.Ta,t.Sa,[]⟩:=Eq.trans (Y23w t) (by rw[hi])
    show (t,true,q - 1)=((⟨t.Ka,t.Na,t.Ta,t.Sa,[]⟩:YS_),true,q - 1)
    rw[<- e]
   ·rw[ab hk]
    have hs:=hn.2 hk
    have hall:∀ x∈t.Ia,okY x:=by
     rw[Yow,af,am]at hok;exact hok.1
    have h:=Ywf t.Ia true (λx hx=>ih x hx (hall x hx)) (Y1jx hd1.2) hd1.2 C (q - 1) [] oW oW
    constructor
    ·intro ht
     by_cases e:(Ylp t.Ia C (q - 1) []).2.1
     ·rw[ae e,h.1 e,ae e,hs]
     ·rw[ab e]at ht;cases ht
    ·intro ht hg
     by_cases e:(Yoa t.Ia C (q - 1) []).2.1
     ·rw[ae e]at hg
      have hz:∀ z∈(Yoa t.Ia C (q - 1) []).1,Yz3 z:=by
       intro z hz
       obtain⟨g1,g2⟩:=hg
       rw[Yow,af,am]at g1
       rw[Ypk]at g2
       have:=Ysl Yl5 hz
       exact⟨g1.1 z hz,by simp only at g2;omega⟩
      rw[ae (h.2 e hz)]
     ·rw[ab e]at ht;cases ht
def Yuw (t:YS_) (C:List YC):Bool:=Ykk t&&Yqg t&&(bld t C 2000).2.1&&Ykk (bld t C 2000).1
def Yxx (t:YS_) (C:List YC):YS_:=if Yuw t C then (bld t C 2000).1 else zY
theorem Y1qx {t:YS_}(C:List YC) (h1:Ykk t) (h2:Yqg t):Yuw t C=((bli t C 2000).2.1&&Ykk (bli t C 2000).1)/\((bli t C 2000).2.1->(bld t C 2000).1=(bli t C 2000).1):=by
 have hok:okY t:=by simp only[Ykk,af]at h1;exact h1.2
 have h:=Y1wk t hok h2 C 2000 dW dW
 refine⟨?_,λe=>by rw[h.1 e]⟩
 unfold Yuw
 rw[h1,h2,cm]
 simp only[dl,af]
 constructor
 ·rintro⟨a,b⟩
  have hg:Yz3 (bld t C 2000).1:=by simp only[Ykk,af,ak]at b;exact⟨b.2,b.1.2⟩
  have:=h.2 a hg
  exact⟨this,by rw[<- h.1 this];exact b⟩
 ·rintro⟨a,b⟩
  rw[h.1 a];exact⟨a,b⟩
section
variable {t:YS_}{C:List YC}{q:Int}
theorem Y1z8 (h1:t.Ka=1) (h3:0<=fnd C t) (h4:¬ (C.g (fnd C t).toNat).depth=0):bli t C q=(zY,false,q):=by
 rw[Yt1,ae ⟨h1,h3⟩,ae (show (Ylt C t).depth≠0 from h4)]
theorem Y21t (h1:t.Ka=1) (h3:0<=fnd C t) (h4:(C.g (fnd C t).toNat).depth=0) (h5:(Ym9 (C.g (fnd C t).toNat).form 1 0).1=false):bli t C q=(zY,false,q):=by
 rw[Y101]at h5
 rw[Yt1,ae ⟨h1,h3⟩,ab (by intro e;exact e h4),ab (by show ¬ Ykk (C.g (fnd C t).toNat).form;rw[h5];decide)]
theorem Y1y4 (h1:t.Ka=1) (h3:0<=fnd C t) (h4:(C.g (fnd C t).toNat).depth=0) (h5:(Ym9 (C.g (fnd C t).toNat).form 1 0).1):bli t C q=((C.g (fnd C t).toNat).form,decide (0<=q - (Ym9 (C.g (fnd C t).toNat).form 1 0).2),q - (Ym9 (C.g (fnd C t).toNat).form 1 0).2):=by
 have e:=(Yy5 (C.g (fnd C t).toNat).form 1 0 dW).2 h5
 rw[Y101]at h5
 rw[Yt1,ae ⟨h1,h3⟩,ab (by intro e;exact e h4),ae (show Ykk (Ylt C t).form from h5),e,Int.zero_add];rfl
theorem Y21l (h1:¬ (t.Ka=1/\0<=fnd C t)) (h:q - 1<0):bli t C q=(zY,false,q - 1):=by rw[Yt1,ab h1,ae h]
theorem Y20i (h1:¬ (t.Ka=1/\0<=fnd C t)) (h:¬ q - 1<0) (h2:(Ylp t.Ia C (q - 1) []).2.1):bli t C q=(⟨t.Ka,t.Na,t.Ta,t.Sa,(Ylp t.Ia C (q - 1) []).1⟩,true,(Ylp t.Ia C (q - 1) []).2.2):=by rw[Yt1,ab h1,ab h,ae h2]
theorem Y1ze (h1:¬ (t.Ka=1/\0<=fnd C t)) (h:¬ q - 1<0) (h2:(Ylp t.Ia C (q - 1) []).2.1=false):bli t C q=(zY,false,(Ylp t.Ia C (q - 1) []).2.2):=by rw[Yt1,ab h1,ab h,ab (by rw[h2];decide)]
end
theorem Y22r (C:List YC) (x:YS_) (q:Int) (O:List YS_) (h0:0<=q) (h:(iR C x q O).2.1):0<=(iR C x q O).2.2/\((iR C x q O).1.length:Int)+(iR C x q O).2.2<=O.length+q:=by
 unfold iR at h|-
 by_cases c:rqB C x
 ·rw[ae c]at h|-;exact Y1tq C x _ q O h0 h
 ·rw[ab c]at h;cases h
theorem Y113 {C:List YC}{x:YS_}{j:Nat}(h:j<(rpX C x).length):0<=(rpX C x).getD j 0/\(rpX C x).getD j 0<C.length/\((rpX C x).getD j 0).toNat<C.length:=by
 have h1:(rpX C x).getD j 0∈rpX C x:=Ykg h
 obtain⟨y,_,hr,e⟩:=Ytp.1 h1
 have h2:=(Y18n hr).2
 have h3:=Yul C y
 rw[e]at h2 h3
 omega
theorem Y1s4 {C:List YC}{I:List Int}{n:Int}{j:Nat}(h:j<I.length) (h0:rqA C (I.take j) n) (e:((C.g (I.getD j 0).toNat).each.length:Int)=n):rqA C (I.take (j+1)) n:=by
 have e2:I.g j=I.getD j 0:=rfl
 unfold rqA at *;rw[Yku h,cC,h0,e2]
 simp only[dE,List.all_nil,Bool.and_true,dl];exact bM (show lnI C (I.getD j 0)=n from e)
theorem Y1t3 {C:List YC}{I:List Int}{n:Int}{j:Nat}(h:j<I.length) (e:¬ ((C.g (I.getD j 0).toNat).each.length:Int)=n):rqA C I n=false:=by
 unfold rqA;rw[bX];exact⟨I.getD j 0,Ykg h,by rw[show decide (lnI C (I.getD j 0)=n)=false from bK e];decide⟩
theorem Y1zs {C:List YC}{x:YS_}{j:Nat}(h0:0<(rpX C x).length) (h:(rpX C x).length<=j) (e:rqA C ((rpX C x).take j) (lnI C ((rpX C x).getD 0 0))):rqB C x:=by
 rw[av h]at e
 have e2:(rpX C x).getD 0 default=(rpX C x).getD 0 0:=rfl
 unfold rqB;rw[e2,e,bK oW];rfl
theorem Y211 {C:List YC}{x:YS_}{j:Nat}(h:j<(rpX C x).length) (e:¬ ((C.g ((rpX C x).getD j 0).toNat).each.length:Int)=((C.g ((rpX C x).getD 0 0).toNat).each.length:Int)) (q:Int) (O:List YS_):iR C x q O=(O,false,q):=by
 have e2:(rpX C x).getD 0 default=(rpX C x).getD 0 0:=rfl
 have h1:=Y1t3 h e
 unfold iR rqB;rw[e2,show lnI C ((rpX C x).getD 0 0)=((C.g ((rpX C x).getD 0 0).toNat).each.length:Int) from rfl,h1];simp
theorem Y1t1 {C:List YC}{x:YS_}(h:rqB C x) {j:Nat}(hj:j<(rpX C x).length):(C.g ((rpX C x).getD j 0).toNat).each.length=rqN C x:=by
 simp only[rqB,rqA,af,am,ak]at h
 have:=h.2 _ (Ykg hj)
 simp only[lnI]at this
 exact Int.ofNat.inj this
theorem Y1pu {C:List YC}(hC:∀ z∈C,mxP z<=1000000000) {x:YS_}(h0:0<(rpX C x).length):rqN C x<=1000000000:=by
 have h1:=Y113 h0
 have h2:=hC _ (Ykg h1.2.2)
 have h3:=Y16z (C.g ((rpX C x).getD 0 0).toNat)
 have e2:(rpX C x).getD 0 default=(rpX C x).getD 0 0:=rfl
 simp only[rqN,e2];omega
theorem Y1v7 {C:List YC}{x:YS_}{a k:Nat}(h:(rpX C x).length<=k):Ysp C a ((rpX C x).take k)=stq C x a:=by rw[av h]
theorem Y23o {C:List YC}{x:YS_}{j:Nat}{q:Int}{O:List YS_}(h:rqB C x) (hj:j<=rqN C x) (hn:rqN C x<=j):iR C x q O=iI C x j q O:=by
 unfold iR;rw[ae h,show rqN C x=j by omega]
theorem Y21k {C:List YC}{x:YS_}{j:Nat}{q:Int}{O:List YS_}(h:rqB C x) (hj:j<rqN C x) (h1:(iI C x j q O).2.1) (h2:(bli x (stq C x j) (iI C x j q O).2.2).2.1=false):(iR C x q O).2.1=false/\(iR C x q O).2.2=(bli x (stq C x j) (iI C x j q O).2.2).2.2:=by
 have e:=Y1h8 C x j q O h1
 have e2:=Y1wn C x (j+1) (rqN C x) q O (by rw[e];exact h2) oW
 unfold iR;rw[ae h,e2,e];exact⟨h2,rfl⟩
theorem Y1vi {C:List YC}{k:Nat}{x:YC}:(C.map Ykh).set k (Ylc x)=(C.set k x).map Ykh:=by rw[List.map_set,Yuf]
theorem dfI:(default:Int)=0:=rfl
theorem Y1nb {C:List YC}{I:List Int}{j:Nat}(h:j<I.length) (h0:rqA C (I.take j) (lnI C (I.getD 0 0))) (e:((C.g (I.getD j 0).toNat).each.length:Int)=((C.g (I.getD 0 0).toNat).each.length:Int)):rqA C (I.take (j+1)) (lnI C (I.getD 0 0)):=Y1s4 h h0 e
theorem Y1xv {k:Prop}[Decidable k] {x:Int}(h:0<=if k then x else -1):k/\0<=x:=by
 split at h
 ·exact⟨‹_›,h⟩
 ·omega
theorem Y1wo (s:YS_) (h:(Ym9 s 1 0).1):0<=(Ym9 s 1 0).2/\(Ym9 s 1 0).2<=2000:=by
 have h1:=((Yy5 s 1 0 dW).1).1 h
 have h2:=(Yy5 s 1 0 dW).2 h
 omega
section
abbrev Z7 (t:YS_) (C:List YC) (q:Int):Ct:=⟨167,[.box [vI q]],[.y 0,Ykx t,Al C],.box [vI (bli t C q).2.2] :: Yo8 (bli t C q).1,.tup [Yo7 (bli t C q).1 1,lb (bli t C q).2.1]⟩
def Z2z (t:YS_) (C:List YC) (q:Int) (k:Nat×Int×List YS_) (k1:Nat):Lp Nat:=let v1:=t.Ia.g k.1;let v6:Cell:=.y;let v2:=[vI 0,vI 0,vS (mkS []),.val v6,.val v6];let v3:=[vI t.Ka,vI t.Na,vS t.Ta,.ref 7,.ref 8];let v4:=(16,li (((C.g ((rpi C v1 []).getD 0 0).toNat).each.map Ykh).length:Int));let v5:=iI C v1 k1 k.2.1 k.2.2;.mk 206 1 (λx=>[(0,.y 0),(2,Al C),(4,.y 1),(6,.y 2),(10,.y 3),(11,li ((k.1:Int)+1)),(12,.y 4),(15,.r 5),v4,(19,li (k1:Int)),(20,.r 6),(171,.r 5),(172,li (((rpi C v1 []).map Yke).length:Int)),(173,hs x 0)]) (λx=>[.box [vI v5.2.2],.box (vals (Yki t)),.box v2,.box v3,.box (vals (Yki v1)),.Aa (rpi C v1 []),ho x 1,.Aa t.Sa,.Ae v5.1]) (λk2=>[.s (li (k2:Int)),.o (.arr false 12 ((Ysp C k1 (List.take k2 (rpX C v1))).map Ykh))]) (λk2=>k2<=(rpX C v1).length/\(rpX C v1).length<=1000000001/\k1<rqN C v1/\rqB C v1) (λk2=>(rpX C v1).length - k2) [.mk True (.exit 6) (λx=>[(0,.y 0),(2,Al C),(4,.y 1),(6,.y 2),(10,.y 3),(11,li ((k.1:Int)+1)),(12,.y 4),(15,.r 5),v4,(19,li (k1:Int)),(20,.r 6)]) (λx=>[.box [vI v5.2.2],.box (vals (Yki t)),.box v2,.box v3,.box (vals (Yki v1)),.Aa (rpi C v1 []),ho x 0,.Aa t.Sa,.Ae v5.1]) [.o (.arr false 12 ((stq C v1 k1).map Ykh))]]
def Z30 (t:YS_) (C:List YC) (q:Int) (k:Nat×Int×List YS_):Lp Nat:=let v1:=t.Ia.g k.1;let v2:Cell:=.y;let v3:=[vI 0,vI 0,vS (mkS []),.val v2,.val v2];let v4:=iR C v1 k.2.1 k.2.2;.mk 206 1 (λx=>[(0,.y 0),(2,Al C),(4,.y 1),(6,.y 2),(10,.y 3),(11,li ((k.1:Int)+1)),(12,.y 4),(15,.r 5),(16,li (((C.g ((rpi C v1 []).getD 0 0).toNat).each.map Ykh).length:Int)),(19,hs x 0)]) (λx=>[.box [ha x 1],.box (vals (Yki t)),.box v3,.box [vI t.Ka,vI t.Na,vS t.Ta,.ref 6,.ref 7],.box (vals (Yki v1)),.Aa (rpi C v1 []),.Aa t.Sa,ho x 2]) (λk1=>[.s (li (k1:Int)),.a (vI (iI C v1 k1 k.2.1 k.2.2).2.2),.o (.Ae (iI C v1 k1 k.2.1 k.2.2).1)]) (λk1=>k1<=rqN C v1/\rqB C v1/\(iI C v1 k1 k.2.1 k.2.2).2.1/\(rpX C v1).length<=1000000001/\k.1+1<t.Ia.length/\t.Ia.length<=1000000000/\Ykt (t.Ia.g (k.1+1))/\0<=k.2.1/\(k.2.2.length:Int)+k.2.1<=2000/\Ylp t.Ia C (q - 1) []=Ylp (List.drop k.1 t.Ia) C k.2.1 k.2.2) (λk1=>rqN C v1 - k1) [.mk (v4.2.1) (.exit 4) (λx=>[(0,.y 0),(2,Al C),(4,.y 1),(6,.y 2),(10,.y 3),(11,li ((k.1:Int)+1))]) (λx=>[.box [ha x 0],.box (vals (Yki t)),.box v3,.box [vI t.Ka,vI t.Na,vS t.Ta,.ref 4,.ref 5],.Aa t.Sa,ho x 1]) [.a (vI v4.2.2),.o (.Ae v4.1)],.mk ((Ylp t.Ia C (q - 1) []).2.1=false) .ret (λx=>[(6,.y 1),(7,hs x 2)]) (λx=>[.box [ha x 0],ho x 1]) [.a (vI (Ylp t.Ia C (q - 1) []).2.2),.o (.box [vI 0,vI 0,vS (mkS []),.val v2,.val v2]),.s (lb false)]]
def Z31 (t:YS_) (C:List YC) (q:Int) (k:Nat×Int×List YS_):Lp Nat:=let v5:Cell:=.y;let v4:=t.Ia.g k.1;let v1:List Ob:=[.box [vI k.2.1],.box (vals (Yki t)),.box [vI 0,vI 0,vS (mkS []),.val v5,.val v5],.box [vI t.Ka,vI t.Na,vS t.Ta,.ref 6,.ref 7],.box (vals (Yki v4)),.Aa (rpi C v4 []),.Aa t.Sa,.Ae k.2.2];let v2:=rpX C v4;let v3:=(16,li (((C.g ((rpi C v4 []).getD 0 0).toNat).each.map Ykh).length:Int));.mk 206 1 (λx=>[(0,.y 0),(2,Al C),(4,.y 1),(6,.y 2),(10,.y 3),(11,li ((k.1:Int)+1)),(12,.y 4),(15,.r 5),v3,(148,.r 5),(149,li (((rpi C v4 []).map Yke).length:Int)),(150,hs x 0)]) (λx=>v1) (λk1=>[.s (li (k1:Int))]) (λk1=>k1<=v2.length/\v2.length<=1000000001/\rqA C (v2.take k1) (lnI C (v2.g 0))/\0<v2.length/\k.1+1<t.Ia.length/\t.Ia.length<=1000000000/\Ykt (t.Ia.g (k.1+1))/\0<=k.2.1/\(k.2.2.length:Int)+k.2.1<=2000/\Ylp t.Ia C (q - 1) []=Ylp (List.drop k.1 t.Ia) C k.2.1 k.2.2) (λk1=>v2.length - k1) [.mk (rqB C v4) (.exit 2) (λx=>[(0,.y 0),(2,Al C),(4,.y 1),(6,.y 2),(10,.y 3),(11,li ((k.1:Int)+1)),(12,.y 4),(15,.r 5),v3]) (λx=>v1) [],.mk ((Ylp t.Ia C (q - 1) []).2.1=false) .ret (λx=>[(6,.y 1),(7,hs x 2)]) (λx=>[.box [ha x 0],ho x 1]) [.a (vI (Ylp t.Ia C (q - 1) []).2.2),.o (.box [vI 0,vI 0,vS (mkS []),.val v5,.val v5]),.s (lb false)]]
def Z32 (t:YS_) (C:List YC) (q:Int):Lp (Nat×Int×List YS_):=let v1:Cell:=.y;let v2:=Ylp t.Ia C (q - 1) [];let v3:=[vI 0,vI 0,vS (mkS []),.val v1,.val v1];.mk 206 1 (λx=>[(0,.y 0),(2,Al C),(4,.y 1),(6,.y 2),(10,.y 3),(11,hs x 0)]) (λx=>[.box [ha x 1],.box (vals (Yki t)),.box v3,.box [vI t.Ka,vI t.Na,vS t.Ta,.ref 4,.ref 5],.Aa t.Sa,ho x 2]) (λk=>[.s (li (k.1:Int)),.a (vI k.2.1),.o (.Ae k.2.2)]) (λk=>t.Ia.length >= k.1/\t.Ia.length<=1000000000/\Ylp t.Ia C (q - 1) []=Ylp (List.drop k.1 t.Ia) C k.2.1 k.2.2/\0<=k.2.1/\(k.2.2.length:Int)+k.2.1<=2000) (λk=>t.Ia.length - k.1) [.mk (v2.2.1) (.exit 0) (λx=>[(6,.y 1),(10,.y 2)]) (λx=>[.box [ha x 0],.box v3,.box [vI t.Ka,vI t.Na,vS t.Ta,.ref 3,.ref 4],.Aa t.Sa,ho x 1]) [.a (vI v2.2.2),.o (.Ae v2.1)],.mk (v2.2.1=false) .ret (λx=>[(6,.y 1),(7,hs x 2)]) (λx=>[.box [ha x 0],ho x 1]) [.a (vI v2.2.2),.o (.box [vI 0,vI 0,vS (mkS []),.val v1,.val v1]),.s (lb false)]]
theorem Zd9 (t:YS_) (C:List YC) (q:Int) (h:0<=q/\q<=2000/\wY t<=1000000000/\C.length<=1000000000) (hC:∀ (z:YC),z∈C->mxP z<=1000000000) (ih:∀ (z:YS_),z∈t.Ia->∀ (C:List YC) (q:Int),0<=q/\q<=2000/\wY z<=1000000000/\C.length<=1000000000->(∀ (z:YC),z∈C->mxP z<=1000000000)->OK (Z7 z C q)) (k:Nat×Int×List YS_) (k1:Nat):Lp.Sem prog (Yks f167 3) (Z2z t C q k k1):=Yl0 (λk2=>let v4:=rpi C (t.Ia.g k.1) [];let v1:=v4.getD (k2:Int).toNat 0;let v2:=Ysp C k1 (List.take k2 (rpX C (t.Ia.g k.1)));let v3:=v4.map Yke;let v5:=C.g v1.toNat;let v6:=v2.map Ykh;let v7:=Ylc (v2.g v1.toNat);let v8:=Ylc (v5.each.g k1);.i ((k2:Int)<((v4.map Yke).length:Int)) (.p (0<=(k2:Int)/\(k2:Int).toNat<v3.length) (.w (.cells (Yke (v4.g (k2:Int).toNat))) (.p (v3[(k2:Int).toNat]? = some [cI v1]) (.x v1 (C.map Ykh) (Ylc v5) (.x (k1:Int) (v5.each.map Ykh) v8 (.p (0<=v4.getD (k2:Int).toNat 0/\v1.toNat<v6.length) (.w (.cells v7) (.p (v6[v1.toNat]? = some v7) (.r ((k2:Int)+1) (.g [0,1,2,3,4,5,6,7,8] (k2+1) [.s (li ((k2:Int)+1)),.o (.arr false 12 (v6.set v1.toNat v8))])))))))))) (.o 0 [0,1,2,3,4,5,6,7,8] [.o (.arr false 12 v6)])) (by
 intro k2 h;try dsimp only[Ykd,Yko,Z2z]at h|-
 obtain⟨i,m,O⟩:=k
 simp only at *
 have hB:=h.2.2.2
 have g1:=@Y113 C (t.Ia.g i) k2
 have g3:k2<(rpX C (t.Ia.g i)).length->(C.g ((rpX C (t.Ia.g i)).getD k2 0).toNat).each.length=rqN C (t.Ia.g i):=λa=>Y1t1 hB a
 have g4:=Y1dr C k1 ((rpX C (t.Ia.g i)).take k2)
 have g5:k2<(rpX C (t.Ia.g i)).length->(List.map Ykh (Ysp C k1 ((rpX C (t.Ia.g i)).take k2))).set ((rpX C (t.Ia.g i)).getD k2 0).toNat (Ylc ((C.g ((rpX C (t.Ia.g i)).getD k2 0).toNat).each.g k1))=List.map Ykh (Ysp C k1 ((rpX C (t.Ia.g i)).take (k2+1))):=λa=>by rw[Y1vi,Y1mm a];rfl
 have g6:(rpX C (t.Ia.g i)).length<=k2->Ysp C k1 ((rpX C (t.Ia.g i)).take k2)=stq C (t.Ia.g i) k1:=λa=>Y1v7 a
 with_reducible repeat' (first|apply ah|exact zR|exact ih|(intro)|apply Zk|apply Z2|apply Z0|apply Z1|apply Z1q)
 all_goals ((try simp only[std,inj]at *);with_reducible and_intros)
 all_goals try with_reducible first|apply Zk|apply Z2|apply Z0|apply Z1|apply Z1q|apply ih
 all_goals try first|exact zw
 all_goals (try simp only[aM,cA,aP,ak,aL]at *)
 all_goals (try simp only[rpX,rqN,dfI]at *)
 all_goals (try first|exact hB|omega|(have:=g1 oW;omega)|(have:=g1 oW;exact Yxj this.2.2 (Yuf _))|exact Yxj (by have:=g3 oW;omega) (Yuf _)|exact g5 oW|exact g6 oW|(rw[g6 oW];done)))
theorem Zda (t:YS_) (C:List YC) (q:Int) (h:0<=q/\q<=2000/\wY t<=1000000000/\C.length<=1000000000) (hC:∀ (z:YC),z∈C->mxP z<=1000000000) (ih:∀ (z:YS_),z∈t.Ia->∀ (C:List YC) (q:Int),0<=q/\q<=2000/\wY z<=1000000000/\C.length<=1000000000->(∀ (z:YC),z∈C->mxP z<=1000000000)->OK (Z7 z C q)) (k:Nat×Int×List YS_):Lp.Sem prog (Yks f167 2) (Z30 t C q k):=Yl0 (λk1=>let v1:=t.Ia.g k.1;let v2:Cell:=.y;let v3:=iI C v1 k1 k.2.1 k.2.2;let v4:=stq C v1 k1;let v5:=bli v1 v4 v3.2.2;.i ((k1:Int)<(((C.g ((rpi C v1 []).getD 0 0).toNat).each.map Ykh).length:Int)) (.w (.bool false) (.p (∀ (x0:List Cell),x0∈C.map Ykh->x0.length=12) (.p ((0+(C.map Ykh).length) * 192<=140737488355328) (.z Yke (rpi C v1 []) (.l (Z2z t C q k k1) (Zd9 t C q h hC ih k k1) [0,1,2,3,4,5,8,6,7] [.s (li 0),.o (.arr false 12 (C.map Ykh))] 0 (.t (.d [.ptr,.rd,.rd] (Z7 v1 v4 v3.2.2) (.b (!(bli v1 v4 v3.2.2).2.1) (.o 1 [0,2] [.a (vI v5.2.2),.o (.box [vI 0,vI 0,vS (mkS []),.val v2,.val v2]),.s (lb false)]) (.p (((v3.1.map Ykb).length+1) * 80<=140737488355328) (.r ((k1:Int)+1) (.g [0,1,2,3,4,5,7,14] (k1+1) [.s (li ((k1:Int)+1)),.a (vI v5.2.2),.o (.y 5 (v3.1.map Ykb++[Yki v5.1]))]))))) .q)))))) (.o 0 [0,1,2,3,6,7] [.a (vI v3.2.2),.o (.Ae v3.1)])) (by
 intro k1 h;try dsimp only[Ykd,Yko,Z30,Z2z]at h|-
 obtain⟨i,m,O⟩:=k
 simp only at *
 have hd:=h.2.2.2.2.2.2.1
 have H:=h.2.2.2.2.2.2.2.2.2
 have hB:=h.2.1
 have hI:=h.2.2.1
 have hj:=h.1
 have hi:=h.2.2.2.2.1
 have g1:=Y1h8 C (t.Ia.g i) k1 m O hI
 have g2:=Y1tq C (t.Ia.g i) k1 m O oW hI
 have g8:=@Ysj t i (Nat.lt_of_succ_lt hi)
 have g9:Ysp C k1 ((rpX C (t.Ia.g i)).take 0)=C:=rfl
 have g11:0<(rpX C (t.Ia.g i)).length:=by
  simp only[rqB,af,aM,aP]at hB
  omega
 have g12:=Y1pu hC g11
 have b0:k1<rqN C (t.Ia.g i)->(bli (t.Ia.g i) (stq C (t.Ia.g i) k1) (iI C (t.Ia.g i) k1 m O).2.2).2.1=false->(Ylp t.Ia C (q - 1) []).2.1=false/\(Ylp t.Ia C (q - 1) []).2.2=(bli (t.Ia.g i) (stq C (t.Ia.g i) k1) (iI C (t.Ia.g i) k1 m O).2.2).2.2:=λa c=>by
  have r:=Y21k hB a hI c
  rw[H,Ywy hi hd,ab (by rw[r.1];decide)];exact r
 have b1:rqN C (t.Ia.g i)<=k1->iR C (t.Ia.g i) m O=iI C (t.Ia.g i) k1 m O:=λa=>Y23o hB hj a
 with_reducible repeat' (first|apply ah|exact zR|exact ih|(intro)|apply Zk|apply Z2|apply Z0|apply Z1|apply Z1q|apply ih)
 all_goals ((try simp only[std,inj]at *);with_reducible and_intros)
 all_goals try first|with_reducible (first|apply Zk|apply Z2|apply Z0|apply Z1|apply Z1q|apply ih)|(simp only[<- ar];with_reducible first|apply Zk|apply Z2|apply Z0|apply Z1|apply Z1q|apply ih)
 all_goals try first|exact zw
 all_goals (try simp only[aM,cA,aP,ak,aL]at *)
 all_goals (try simp only[rpX,rqN,dfI]at *)
 all_goals (try first|exact hd|exact H|exact hB|exact Ykg hi|exact hC _ tW|exact Y1z7 hC _ _ _ tW|exact g9.symm|(rw[g9];done)|(rw[Y1dr];omega)|omega|exact(b0 oW tW).1|exact(b0 oW tW).2.symm|(rw[g1];done)|(rw[g1];assumption)|(rw[g1];exact Ykf (C:=Ykb) _ _)|(rw[b1 oW];done)|(rw[b1 oW];exact hI))
 all_goals (try exact Ykg (Nat.lt_of_succ_lt hi)))
theorem Zdb (t:YS_) (C:List YC) (q:Int) (h:0<=q/\q<=2000/\wY t<=1000000000/\C.length<=1000000000) (hC:∀ (z:YC),z∈C->mxP z<=1000000000) (ih:∀ (z:YS_),z∈t.Ia->∀ (C:List YC) (q:Int),0<=q/\q<=2000/\wY z<=1000000000/\C.length<=1000000000->(∀ (z:YC),z∈C->mxP z<=1000000000)->OK (Z7 z C q)) (k:Nat×Int×List YS_):Lp.Sem prog (Yks f167 1) (Z31 t C q k):=Yl0 (λk1=>let v1:=rpi C (t.Ia.g k.1) [];let v2:Cell:=.y;let v3:=v1.getD (k1:Int).toNat 0;let v4:=C.g v3.toNat;.i ((k1:Int)<((v1.map Yke).length:Int)) (.p (0<=(k1:Int)/\(k1:Int).toNat<(v1.map Yke).length) (.w (.cells (Yke (v1.g (k1:Int).toNat))) (.p ((v1.map Yke)[(k1:Int).toNat]? = some [cI v3]) (.x v3 (C.map Ykh) (Ylc v4) (.z Ykh v4.each (.i (((v4.each.map Ykh).length:Int)≠(((C.g (v1.getD 0 0).toNat).each.map Ykh).length:Int)) (.o 1 [0,2] [.a (vI k.2.1),.o (.box [vI 0,vI 0,vS (mkS []),.val v2,.val v2]),.s (lb false)]) (.r ((k1:Int)+1) (.g [0,1,2,3,4,5,6,7] (k1+1) [.s (li ((k1:Int)+1))])))))))) (.o 0 [0,1,2,3,4,5,6,7] [])) (by
 intro k1 h;try dsimp only[Ykd,Yko,Z31]at h|-
 obtain⟨i,m,O⟩:=k
 simp only at *
 have hd:=h.2.2.2.2.2.2.1
 have H:=h.2.2.2.2.2.2.2.2.2
 have hA:=h.2.2.1
 have h00:=h.2.2.2.1
 have g1:=@Y113 C (t.Ia.g i) k1
 have g3:(rpX C (t.Ia.g i)).length<=k1->rqB C (t.Ia.g i):=λa=>Y1zs h00 a hA
 have g4:k1<(rpX C (t.Ia.g i)).length->¬ ((C.g ((rpX C (t.Ia.g i)).getD k1 0).toNat).each.length:Int)=((C.g ((rpX C (t.Ia.g i)).getD 0 0).toNat).each.length:Int)->Ylp t.Ia C (q - 1) []=(O,false,m):=λa b=>by rw[H,Ywy h.2.2.2.2.1 hd,Y211 a b];rfl
 have g5:k1<(rpX C (t.Ia.g i)).length->((C.g ((rpX C (t.Ia.g i)).getD k1 0).toNat).each.length:Int)=((C.g ((rpX C (t.Ia.g i)).getD 0 0).toNat).each.length:Int)->rqA C ((rpX C (t.Ia.g i)).take (k1+1)) (lnI C ((rpX C (t.Ia.g i)).getD 0 default)):=λa b=>Y1nb a hA b
 with_reducible repeat' (first|apply ah|exact zR|exact ih|(intro)|apply Zk|apply Z2|apply Z0|apply Z1|apply Z1q)
 all_goals ((try simp only[std,inj]at *);with_reducible and_intros)
 all_goals try with_reducible first|apply Zk|apply Z2|apply Z0|apply Z1|apply Z1q|apply ih
 all_goals try first|exact zw
 all_goals (try simp only[aM,cA,aP,ak,aL]at *)
 all_goals (try simp only[rpX,rqN,dfI]at *)
 all_goals (try first|exact hd|exact H|omega|exact g3 oW|exact g5 oW tW|(have:=g1 oW;omega))
 all_goals (try (rw[g4 oW tW]<;>rfl)))
theorem Zdc (t:YS_) (C:List YC) (q:Int) (h:0<=q/\q<=2000/\wY t<=1000000000/\C.length<=1000000000) (hC:∀ (z:YC),z∈C->mxP z<=1000000000) (ih:∀ (z:YS_),z∈t.Ia->∀ (C:List YC) (q:Int),0<=q/\q<=2000/\wY z<=1000000000/\C.length<=1000000000->(∀ (z:YC),z∈C->mxP z<=1000000000)->OK (Z7 z C q)):Lp.Sem prog (Yks f167 0) (Z32 t C q):=Yl0 (λk=>let v8:=t.Ia.g k.1;let v12:=bli v8 C k.2.1;let v9:Cell:=.y;let v13:Ob:=.box [vI 0,vI 0,vS (mkS []),.val v9,.val v9];let v10:=(k.1:Int)+1;let v1:Tq _ _:=.d [.ptr,.rd,.rd] (Z7 v8 C k.2.1) (.b (!(bli v8 C k.2.1).2.1) (.o 1 [0,2] [.a (vI v12.2.2),.o v13,.s (lb false)]) (.p (((k.2.2.map Ykb).length+1) * 80<=140737488355328) (.r v10 (.g [0,1,2,3,4,12] (k.1+1,v12.2.2,k.2.2++[v12.1]) [.s (li v10),.a (vI v12.2.2),.o (.y 5 (k.2.2.map Ykb++[Yki v12.1]))]))));let v2:=rpi C v8 [];let v3:Tq _ _:=.t (.o 1 [0,1] [.a (vI (Ylp t.Ia C (q - 1) []).2.2),.o (.box [vI 0,vI 0,vS (mkS []),.val v9,.val v9]),.s (lb false)]) .q;let v4:=iR C v8 k.2.1 k.2.2;let v5:=t.Ia.g (k.1+1);let v6:Ob:=.Ae k.2.2;let v7:=((t.Ia.map Ykb).length:Int);let v11:=C.g (v2.getD 0 0).toNat;.z Ykb t.Ia (.i ((k.1:Int)<v7) (.x (k.1:Int) (t.Ia.map Ykb) (Yki v8) (.r v10 (.z Ykb t.Ia (.i ((k.1:Int)+1=v7) (.y true v1) (.r v10 (.x v10 (t.Ia.map Ykb) (Yki v5) (.c [.rd] (Z1 v5) (.b (!Ykt v5) v1 (.r v10 (.d [.rd,.rd,.own true 1] (Z24 v8 C []) (.z Yke v2 (.i (((v2.map Yke).length:Int)=0) (.o 1 [0,2] [.a (vI k.2.1),.o v13,.s (lb false)]) (.p ((0:Int)<=0/\0<(v2.map Yke).length) (.w (.cells (Yke (v2.g 0))) (.p ((v2.map Yke)[0]? = some [cI (v2.getD 0 0)]) (.x (v2.getD 0 0) (C.map Ykh) (Ylc v11) (.z Ykh v11.each (.z Yke v2 (.l (Z31 t C q k) (Zdb t C q h hC ih k) [0,1,2,3,6,8,4,5] [.s (li 0)] 0 (.t (.l (Z30 t C q k) (Zda t C q h hC ih k) [0,1,2,3,4,5,6,7] [.s (li 0),.a (vI k.2.1),.o v6] 0 (.t (.r ((k.1:Int)+1+1) (.g [0,1,2,3,4,5] (k.1+1+1,v4.2.2,v4.1) [.s (li ((k.1:Int)+1+1)),.a (vI v4.2.2),.o (.Ae v4.1)])) v3)) v3)))))))))))))))))))) (.o 0 [0,2,3,4,5] [.a (vI k.2.1),.o v6]))) (by
 intro k h;try dsimp only[Ykd,Yko,Z32,Z30,Z31]at h|-
 obtain⟨i,m,O⟩:=k
 simp only at *
 have H:=h.2.2.1
 have p1:i<t.Ia.length->(t.Ia.length<=i+1\/Ykt (t.Ia.g (i+1))=false)->(bli (t.Ia.g i) C m).2.1->Ylp (t.Ia.drop i) C m O=Ylp (t.Ia.drop (i+1)) C (bli (t.Ia.g i) C m).2.2 (O++[(bli (t.Ia.g i) C m).1]):=λa b c=>by rw[Y16s a b,ae c]
 have p2:i<t.Ia.length->(t.Ia.length<=i+1\/Ykt (t.Ia.g (i+1))=false)->(bli (t.Ia.g i) C m).2.1=false->Ylp (t.Ia.drop i) C m O=(O,false,(bli (t.Ia.g i) C m).2.2):=λa b c=>by rw[Y16s a b,ab (by rw[c];decide)]
 have d1:i+1<t.Ia.length->Ykt (t.Ia.g (i+1))->(iR C (t.Ia.g i) m O).2.1->Ylp (t.Ia.drop i) C m O=Ylp (t.Ia.drop (i+1+1)) C (iR C (t.Ia.g i) m O).2.2 (iR C (t.Ia.g i) m O).1:=λa b c=>by rw[Ywy a b,ae c]
 have d3:i+1<t.Ia.length->Ykt (t.Ia.g (i+1))->(rpX C (t.Ia.g i)).length=0->Ylp (t.Ia.drop i) C m O=(O,false,m):=λa b c=>by
  have e:iR C (t.Ia.g i) m O=(O,false,m):=by unfold iR rqB;rw[c];rfl
  rw[Ywy a b,e];rfl
 have e1:t.Ia.length<=i->Ylp (t.Ia.drop i) C m O=(O,true,m):=λa=>Y1s2 a
 have g4:=Y114 (t.Ia.g i) C m
 have g6:0<=m->(iR C (t.Ia.g i) m O).2.1->0<=(iR C (t.Ia.g i) m O).2.2/\((iR C (t.Ia.g i) m O).1.length:Int)+(iR C (t.Ia.g i) m O).2.2<=O.length+m:=λa b=>Y22r C _ m O a b
 have g8:=@Ysj t i
 have g9:=Y1ip C (t.Ia.g i) []
 have g10:=Y1nn (t.Ia.g i)
 have g11:=λh:0<(rpX C (t.Ia.g i)).length=>Y113 h
 have g12:iI C (t.Ia.g i) 0 m O=(O,true,m):=rfl
 have g13:=λh:0<(rpX C (t.Ia.g i)).length=>Y1pu hC h
 with_reducible repeat' (first|apply ah|exact zR|exact ih|(intro)|apply Zk|apply Z2|apply Z0|apply Z1|apply Z1q|apply ih)
 all_goals ((try simp only[std,inj]at *);with_reducible and_intros)
 all_goals try first|with_reducible (first|apply Zk|apply Z2|apply Z0|apply Z1|apply Z1q|apply ih)|(simp only[<- ar];with_reducible first|apply Zk|apply Z2|apply Z0|apply Z1|apply Z1q|apply ih)
 all_goals try first|exact zw
 all_goals (try simp only[aM,cA,aP,ak,aL]at *)
 all_goals (try simp only[rpX,rqN,dfI]at *)
 all_goals (try first|exact Ykg oW|exact hC _ tW|exact Ykf (C:=Ykb) _ _|exact(Y113 (by show 0<(rpi C (t.Ia.g i) []).length;omega)).1|(show rqA C [] _;rfl)|(show (_:Bool);exact(rfl:(iI C (t.Ia.g i) 0 m O).2.1))|exact(rfl:m=(iI C (t.Ia.g i) 0 m O).2.2)|exact(rfl:O=(iI C (t.Ia.g i) 0 m O).1)|exact(rfl:O.map Ykb=List.map Ykb (iI C (t.Ia.g i) 0 m O).1)|(have:=g8 oW;simp only[bp]at *;omega))
 all_goals (try first|(rw[H,p1 oW (by first|exact Or.inl oW|exact Or.inr tW) tW])|(rw[H,p2 oW (by first|exact Or.inl oW|exact Or.inr tW) tW])|(rw[H,d1 oW tW tW])|(rw[H,d3 oW tW oW])|(rw[H,e1 oW]))
 all_goals (try first|(have:=g4 oW tW;first|omega|(simp only[bk];omega))|(have:=g6 oW tW;omega)))
theorem Zgr (t:YS_) (C:List YC) (q:Int) (h:0<=q/\q<=2000/\wY t<=1000000000/\C.length<=1000000000) (hC:∀ z∈C,mxP z<=1000000000) (ih:∀ z∈t.Ia,∀ (C:List YC) (q:Int) (h:0<=q/\q<=2000/\wY z<=1000000000/\C.length<=1000000000) (hC:∀ z∈C,mxP z<=1000000000),Z7 z C q):Z7 t C q:=Ykr call167 func167 (let v8:=if t.Ka=1 then fnd C t else (-1:Int);let v1:=C.g v8.toNat;let v2:AV:=.tup [.agg [vI 0,vI 0,vS (mkS []),.ref 1,.ref 2],lb false];let v3:List Ob:=[.box [vI q],.y 1 [],.y 5 []];let v4:=Ylp t.Ia C (q - 1) [];let v5:Orc:=.ghost (.nilbox 2 4 true 5);let v6:Orc:=.ghost (.nilbox 2 3 true 1);let v7:=C.map Ykh;let v9:=Ym9 v1.form 1 0;.c [.rd,.rd] (Z9s C t) (.i (0<=if t.Ka=1 then fnd C t else (-1:Int)) (.x v8 v7 (Ylc v1) (.i (v1.depth≠0) (.w v6 (.w v5 (.f [3,4] v3 v2))) (.x v8 v7 (Ylc v1) (.d [.rd,.rd,.ptr] (Zz v1.form 1 0) (.b (!(Ym9 v1.form 1 0).1) (.w v6 (.w v5 (.f [4,5] v3 v2))) (.w (.draw [(8,[0])]) (.r (q - v9.2) (.w (.draw [(11,[2])]) (.x v8 v7 (Ylc v1) (.d [.rd] (Zp v1.form) (.f [6,7] [.box [vI (q - v9.2)],.Aa v1.form.Sa,.Ae v1.form.Ia] (.tup [.agg [vI v1.form.Ka,vI v1.form.Na,vS v1.form.Ta,.ref 1,.ref 2],lb (decide (0<=q - v9.2))])))))))))))) (.r (q - 1) (.i (q - (1:Int)<0) (.w v6 (.w v5 (.f [3,4] [.box [vI (q - 1)],.y 1 [],.y 5 []] v2))) (.w (.draw [(11,[19])]) (.d [.rd] (Z5 t.Sa) (.w (.g (.nilbox 19 4 true 5)) (.l (Z32 t C q) (Zdc t C q h hC ih) [0,1,2,19,11,20] [.s (li 0),.a (vI (q - 1)),.o (.y 5 [])] (0,q - 1,[]) (.t (.f [3,4] [.box [vI v4.2.2],.Aa t.Sa,.Ae v4.1] (.tup [.agg [vI t.Ka,vI t.Na,vS t.Ta,.ref 1,.ref 2],lb true])) (.t (.w (.g (.nilbox 1 3 true 1)) (.w (.g (.nilbox 1 4 true 5)) (.f [2,3] [.box [vI v4.2.2],.y 1 [],.y 5 []] (.tup [.agg [vI 0,vI 0,vS (mkS []),.ref 1,.ref 2],lb false])))) .q)))))))))) (by
 dsimp only[Ykd,Z7,Yko,Z32]
 have g2:=Yul C t
 have g4:=Ylo t
 with_reducible repeat' (first|apply ah|exact zR|exact ih|(intro)|apply Zk|apply Z2|apply Z0|apply Z1|apply Z1q)
 all_goals ((try simp only[std,inj]at *);with_reducible and_intros)
 all_goals try with_reducible first|apply Zk|apply Z2|apply Z0|apply Z1|apply Z1q|apply ih
 all_goals try first|exact zw
 all_goals (try simp only[aM,cA,aP,ak,aL]at *)
 all_goals (try (have hk:=Y1xv (by assumption:0<=if t.Ka=1 then fnd C t else -1);simp only[ae hk.1]at *))
 all_goals (try first|exact hC _ tW|exact Y1wv hC oW|(have:=Y1wo _ (by assumption:(Ym9 (C.g (fnd C t).toNat).form 1 0).1);omega)|(rw[Y1z8 oW oW tW])|(rw[Y21t oW oW tW tW])|(rw[Y1y4 oW oW tW tW])|(rw[Y21l oW oW])|(rw[Y20i oW oW tW])|(rw[Y1ze oW oW tW]))
 all_goals (try first|rfl|(dsimp only;omega)|(simp only[bp];omega)))
theorem Zeh (t:YS_):∀ (C:List YC) (q:Int) (h:0<=q/\q<=2000/\wY t<=1000000000/\C.length<=1000000000) (hC:∀ z∈C,mxP z<=1000000000),Z7 t C q:=YS_.ind (P:=λt=>∀ (C:List YC) (q:Int) (h:0<=q/\q<=2000/\wY t<=1000000000/\C.length<=1000000000) (hC:∀ z∈C,mxP z<=1000000000),Z7 t C q) (λt ih C q h hC=>Zgr t C q h hC ih) t
abbrev Zak (t:YS_) (C:List YC):Ct:=⟨121,[],[Ykx t,Al C],Yo8 (Yxx t C),.tup [Yo7 (Yxx t C) 0,lb (Yuw t C)]⟩
theorem Zba (t:YS_) (C:List YC) (h:wY t<=1000000000/\C.length<=1000000000) (hC:∀ z∈C,mxP z<=1000000000):Zak t C:=Ykr call121 func121 (let v1:AV:=.tup [.agg [vI 0,vI 0,vS (mkS []),.ref 0,.ref 1],lb false];let v2:List Ob:=[.y 1 [],.y 5 []];let v3:Orc:=.ghost (.nilbox 1 4 true 5);let v4:Orc:=.ghost (.nilbox 1 3 true 1);let v5:=bli t C 2000;.c [.rd] (Z17 t) (.b (!Ykk t) (.y true (.w v4 (.w v3 (.f [2,3] v2 v1)))) (.c [.rd] (Zb3 t) (.b (!Yqg t) (.w v4 (.w v3 (.f [2,3] v2 v1))) (.d [.ptr,.rd,.rd] (Z7 t C 2000) (.b (!(bli t C 2000).2.1) (.y true (.w v4 (.w v3 (.f [7,8] v2 v1)))) (.c [.rd] (Z17 v5.1) (.b (!Ykk v5.1) (.w v4 (.w v3 (.f [7,8] v2 v1))) (.f [4,5] [.Aa v5.1.Sa,.Ae v5.1.Ia] (.tup [.agg [vI v5.1.Ka,vI v5.1.Na,vS v5.1.Ta,.ref 0,.ref 1],lb true])))))))))) (by
 dsimp only[Ykd,Zak]
 have g1:=@Y1qx t C
 have g2:Yuw t C->Yxx t C=(bld t C 2000).1:=λh=>ae h
 have g3:Yuw t C=false->Yxx t C=zY:=λh=>by unfold Yxx;rw[h];rfl
 have g4:zY.Ka=0/\zY.Na=0/\zY.Ta=mkS []/\zY.Sa=[]/\zY.Ia=[]:=⟨rfl,rfl,rfl,rfl,rfl⟩
 have g5:Yuw t C=(Ykk t&&Yqg t&&(bld t C 2000).2.1&&Ykk (bld t C 2000).1):=rfl
 exact z04)
end
theorem Y1fb {H:YS_->Bool}{A:List YS_->Int}:∀ (l:List YS_),(∀ x∈l,∀ d,∀ z∈nm H A x d,wY z.form=0/\z.each=[])->∀ i a d,∀ z∈nms H A l i a d,wY z.form=0/\z.each=[]
 | [],_,i,a,d,z,hz=>by simp[nms]at hz
 | x :: r,h,i,a,d,z,hz=>by
  simp only[nms,aA]at hz
  rcases hz with hz|hz
  ·split at hz
   ·cases hz
   ·exact h x aj _ z hz
  ·exact Y1fb r (λy hy=>h y (ai _ hy)) _ _ _ z hz
theorem Y1we {H:YS_->Bool}{A:List YS_->Int}:∀ (p:YS_) (d:Int),∀ z∈nm H A p d,wY z.form=0/\z.each=[]:=by
 refine YS_.ind λp ih d z hz => ?_
 rw[Yr1]at hz
 split at hz
 ·split at hz
  ·cases hz
  ·simp only[ao]at hz;subst hz;exact⟨rfl,rfl⟩
 ·split at hz
  ·exact Y1fb p.Ia ih _ _ _ z hz
  ·cases hz
theorem Y1bt {g:YS_->Option (List YC)}:∀ (L:List YS_) (R:List (List YC)),mtr g L=some R->R.length=L.length/\∀ c∈R,∃ f∈L,g f=some c
 | [],R,e=>by simp only[mtr,aa]at e;subst e;simp
 | f :: r,R,e=>by
  simp only[mtr]at e
  split at e
  ·cases e
  ·rename_i c hc
   split at e
   ·cases e
   ·rename_i R' hR
    simp only[aa]at e;subst e
    have ih:=Y1bt r R' hR
    refine⟨by simp[ih.1],λd hd => ?_⟩
    rcases List.mem_cons.1 hd with rfl|hd
    ·exact⟨f,aj,hc⟩
    ·obtain⟨g',h1,h2⟩:=ih.2 d hd
     exact⟨g',ai _ h1,h2⟩
theorem Y1gt:mxP (default:YC)=0:=rfl
theorem Y21u {V:List YC}{R:List (List YC)}{m:Nat}(hV:∀ z∈V,wY z.form=0/\z.each=[]) (hl:R.length<=m) (hR:∀ c∈R,∀ z∈c,mxP z<=m):∀ z∈rp V R,mxP z<=m:=by
 intro z hz
 simp only[rp,ba,be]at hz
 obtain⟨i,hi,rfl⟩:=hz
 have h1:=hV _ (Ykg hi)
 rw[Y16z]
 simp only[h1.1,h1.2,bt,aN]
 have h2:Yz9 (R.map λc=>c.g i)<=m:=Y1hd λy hy=>by
  obtain⟨c,hc,rfl⟩:=List.mem_map.1 hy
  rcases bH i c.length with h3|h3
  ·exact hR c hc _ (Ykg h3)
  ·have e:c.g i=default:=by simp[h3]
   rw[e,Y1gt];omega
 omega
theorem Y1zo {m:Nat}{fs:List YS_}(h:∀ f∈fs,wY f<=m) (k:Nat):wY (fs.g k)<=m:=by
 rcases bH k fs.length with h3|h3
 ·exact h _ (Ykg h3)
 ·have e:fs.g k=default:=by simp[h3]
  have e2:wY (default:YS_)=0:=rfl
  rw[e,e2];omega
theorem Y1pf {M:YS_->YS_->Bool}{H:YS_->Bool}{A:List YS_->Int}{m:Nat}:∀ l:List YS_,(∀ x∈l,∀ f c,mt M H A x f=some c->wY f<=m->∀ z∈c,mxP z<=m)->∀ i a k fs c,mts M H A l i a k fs=some c->fs.length<=m->(∀ f∈fs,wY f<=m)->∀ z∈c,mxP z<=m
 | [],_,i,a,k,fs,c,e,_,_,z,hz=>by simp only[mts,aa]at e;subst e;cases hz
 | x :: r,h,i,a,k,fs,c,e,hl,hf,z,hz=>by
  have ih:=Y1pf r (λy hy=>h y (ai _ hy)) (i+1) a k
  have hd:∀ n,(fs.drop n).length<=m/\∀ f∈fs.drop n,wY f<=m:=λn=>⟨by rw[ay];omega,λf hm=>hf f (aH hm)⟩
  simp only[mts]at e
  split at e
  ·exact ih _ _ e hl hf z hz
  ·split at e
   ·split at e
    ·cases e
    ·rename_i R hR
     split at e
     ·cases e
     ·rename_i c' hc
      simp only[aa]at e;subst e
      obtain⟨r1,r2⟩:=Y1bt _ _ hR
      rcases List.mem_append.1 hz with hz|hz
      ·refine Y21u (λz hz=>Y1we x 1 z hz) ?_ (λc hc z hz => ?_) z hz
       ·rw[r1,au];omega
       ·obtain⟨f',h1,h2⟩:=r2 c hc
        exact h x aj f' c h2 (hf f' (bu h1)) z hz
      ·exact ih _ _ hc (hd k).1 (hd k).2 z hz
   ·split at e
    ·cases e
    ·rename_i c1 h1
     split at e
     ·cases e
     ·rename_i c' hc
      simp only[aa]at e;subst e
      rcases List.mem_append.1 hz with hz|hz
      ·exact h x aj _ _ h1 (Y1zo hf 0) z hz
      ·exact ih _ _ hc (hd 1).1 (hd 1).2 z hz
theorem Y226 {M:YS_->YS_->Bool}{H:YS_->Bool}{A:List YS_->Int}{m:Nat}:∀ (p f:YS_) (c:List YC),mt M H A p f=some c->wY f<=m->∀ z∈c,mxP z<=m:=by
 refine YS_.ind λp ih f c e hm z hz => ?_
 rw[Yr2]at e
 split at e
 ·split at e
  ·simp only[aa]at e;subst e;cases hz
  ·split at e
   ·split at e
    ·simp only[aa]at e;subst e;cases hz
    ·cases e
   ·simp only[aa]at e;subst e
    simp only[ao]at hz;subst hz
    have e2:mxP (Yzs p f)=max (wY f) (max 0 0):=rfl
    rw[e2];omega
 ·split at e
  ·split at e
   ·have h1:=Ylo f
    exact Y1pf p.Ia ih _ _ _ _ _ e oW (λg hg=>by have:=Yl3 wY hg;omega) z hz
   ·cases e
  ·split at e
   ·simp only[aa]at e;subst e;cases hz
   ·cases e
def apK (B:List YB) (r:YR_) (f:YS_) (k:Nat):Bool:=(gS B r.La (tlY (r.Pb.g k)) (tlY f)).isSome
def apC (B:List YB) (r:YR_) (f:YS_) (k:Nat):List YC:=(gS B r.La (tlY (r.Pb.g k)) (tlY f)).getD []
def apZ (B:List YB) (r:YR_) (f:YS_) (k:Nat):Bool:=(List.range k).all λj => !apK B r f j
def apN (B:List YB) (r:YR_) (f:YS_):Nat:=(List.range r.Pb.length).findIdx (apK B r f)
def apG (B:List YB) (r:YR_) (f:YS_):Bool:=decide (f.Ka=0) && !decide ((f.Ia.length:Int)=0)&&decide (apN B r f<r.Pb.length)
def apB (B:List YB) (r:YR_) (f:YS_):Bool:=apG B r f&&Yuw (r.Tb.g (apN B r f)) (apC B r f (apN B r f))
def apY (B:List YB) (r:YR_) (f:YS_):YS_:=if apG B r f then Yxx (r.Tb.g (apN B r f)) (apC B r f (apN B r f)) else zY
section
variable {B:List YB}{r:YR_}{f:YS_}{k:Nat}
theorem Y1s0:apZ B r f 0:=rfl
theorem Y1r0:apZ B r f (k+1)=(apZ B r f k && !apK B r f k):=by simp[apZ,List.range_succ]
theorem Y203 (hk:k<r.Pb.length) (h:apK B r f k):apZ B r f r.Pb.length=false:=by
 cases e:apZ B r f r.Pb.length with
 | false=>rfl
 | true=>
  simp only[apZ,am,be]at e
  have:=e k hk
  rw[h]at this;cases this
theorem Y1zg (hk:k<r.Pb.length) (h:apZ B r f k) (h2:apK B r f k):apN B r f=k:=by
 unfold apN
 have hl:k<(List.range r.Pb.length).length:=by simpa using hk
 rw[List.findIdx_eq hl]
 refine⟨by simpa using h2,λj hj => ?_⟩
 simp only[apZ,am,be]at h
 have:=h j hj
 simpa using this
theorem Y1r4 (h:apZ B r f r.Pb.length):¬ apN B r f<r.Pb.length:=by
 unfold apN
 intro hl
 have hl':(List.range r.Pb.length).findIdx (apK B r f)<(List.range r.Pb.length).length:=by simpa using hl
 have h3:=dk (w:=hl')
 simp only[apZ,am,be]at h
 rw[List.getElem_range]at h3
 have:=h _ hl
 rw[h3]at this;cases this
theorem Y1xj (h:¬ f.Ka=0):apB B r f=false/\apY B r f=zY:=by
 have e:apG B r f=false:=by simp[apG,h]
 unfold apB apY;rw[e];exact⟨rfl,rfl⟩
theorem Y1tg (h:f.Ia.length=0):apB B r f=false/\apY B r f=zY:=by
 have e:apG B r f=false:=by simp[apG,h]
 unfold apB apY;rw[e];exact⟨rfl,rfl⟩
theorem Y1w0 (h:apZ B r f r.Pb.length):apB B r f=false/\apY B r f=zY:=by
 have e:apG B r f=false:=by simp[apG,Y1r4 h]
 unfold apB apY;rw[e];exact⟨rfl,rfl⟩
theorem Y22x (h0:f.Ka=0) (h1:0<f.Ia.length) (hk:k<r.Pb.length) (h:apZ B r f k) (h2:apK B r f k):apB B r f=Yuw (r.Tb.g k) (apC B r f k)/\apY B r f=Yxx (r.Tb.g k) (apC B r f k):=by
 have e:=Y1zg hk h h2
 have e2:apG B r f:=by unfold apG;rw[e];simp[h0,hk];intro h3;rw[h3]at h1;simp at h1
 unfold apB apY;rw[e2,e];exact⟨rfl,rfl⟩
theorem Yz0 (hr:Ym8 r) (hk:k<r.Pb.length):good r.La (tlY (r.Pb.g k))/\Yl5 (tlY (r.Pb.g k))<=40/\Ykp (tlY (r.Pb.g k))<=2000/\k<r.Tb.length/\r.La.all Ynx/\1<=(r.Pb.g k).Ia.length:=by
 simp only[Ym8,af,ak]at hr
 obtain⟨⟨⟨⟨h1,h2⟩,_⟩,h3⟩,_⟩:=hr
 have h4:=Y12u r _ (k+1) hk h3
 simp only[Yqz,clT,clP,af]at h4
 have h5:=h4.2.1
 have h6:=Y195 h5.1.1.1.1.1
 have h7:=h5.1.1.1.2
 have h8:=Y1v2 h6 h5.2
 simp only[okL,af]at h1
 refine⟨h8.1,h8.2.2,h8.2.1,by omega,h1.1,?_⟩
 simp only[aM,aP]at h7
 omega
theorem Y20o {m:Nat}(hr:Ym8 r) (hk:k<r.Pb.length) (hf:wY (tlY f)<=m):(∀ z∈apC B r f k,mxP z<=m)/\(apC B r f k).length<=2000:=by
 have h1:=Yz0 hr hk
 unfold apC
 cases e:gS B r.La (tlY (r.Pb.g k)) (tlY f) with
 | none=>simp
 | some c=>
  simp only[cJ]
  refine⟨Y226 _ _ _ e hf,?_⟩
  have h2:=Y1y2 e
  have h3:=Y1x1 (Ls:=r.La) (tlY (r.Pb.g k))
  omega
theorem Y1vo (hr:Ym8 r) (hk:k<r.Pb.length) (g:YS_):gI B r.La (tlY (r.Pb.g k)) g=gS B r.La (tlY (r.Pb.g k)) g:=by
 have h1:=Yz0 hr hk
 exact((Y1hr (M:=mng B) (List.all_eq_true.1 h1.2.2.2.2.1) _ h1.1).1 g).symm
end
section
abbrev Zal (B:List YB) (r:YR_) (f:YS_):Ct:=⟨73,[],[Aj B,Yum r,Ykx f],Yo8 (apY B r f),.tup [Yo7 (apY B r f) 0,lb (apB B r f)]⟩
def Z7c (B:List YB) (r:YR_) (f:YS_):Lp Nat:=let v3:Cell:=.y;let v1:=[vI 0,vI 0,vS (mkS []),.val v3,.val v3];let v2:=apY B r f;.mk 56 0 (λx=>[(4,.y 0),(5,.y 1),(6,.y 2),(8,.y 3),(28,Af r.Pb),(29,li (r.Pb.map Ykb).length),(30,hs x 0)]) (λx=>[.box (vals (Ynw r)),.box (vals (Yki f)),.box v1,.box [As B,Am r.La]]) (λk=>[.s (li k)]) (λk=>k<=r.Pb.length/\r.Pb.length<=9223372036854775807/\apZ B r f k/\f.Ka=0/\0<f.Ia.length) (λk=>r.Pb.length - k) [.mk (apZ B r f r.Pb.length) (.exit 0) (λx=>[(6,.y 0)]) (λx=>[.box v1]) [],.mk (apZ B r f r.Pb.length=false) .ret (λx=>[(6,.y 0),(7,hs x 5)]) (λx=>[.box [ha x 0,ha x 1,ha x 2,.ref 1,.ref 2],ho x 3,ho x 4]) [.a (vI v2.Ka),.a (vI v2.Na),.a (vS v2.Ta),.o (.Aa v2.Sa),.o (.Ae v2.Ia),.s (lb (apB B r f))]]
theorem Zi0 (B:List YB) (r:YR_) (f:YS_) (h:B.length<=1000000001/\sumBy wB B<=1000000001/\wR r<=900000000/\wY f<=1000000000) (hr:Ym8 r):Lp.Sem prog (Yks f73 0) (Z7c B r f):=Yl0 (λk=>let v6:=r.Pb.g k;let v3:=YS_.mk 0 0 (mkS []) [] (v6.Ia.drop 1);let v4:=YS_.mk 0 0 (mkS []) [] (f.Ia.drop 1);let v1:=smO v3 [] (gI B r.La v3 v4);let v2:=r.Tb.g k;let v5:=Yxx v2 v1;.i ((k:Int)<(r.Pb.map Ykb).length) (.x (k:Int) (r.Pb.map Ykb) (Yki v6) (.w (.draw []) (.d [.rd] (Z58 v6) (.d [.rd] (Z58 f) (.d [.rd,.rd,.rd,.own true 12] (Zm B r.La v3 v4 []) (.b (gI B r.La v3 v4).isSome (.x (k:Int) (r.Tb.map Ykb) (Yki v2) (.d [.rd,.rd] (Zak v2 v1) (.o 1 [2,29,30] [.a (vI v5.Ka),.a (vI v5.Na),.a (vS v5.Ta),.o (.Aa v5.Sa),.o (.Ae v5.Ia),.s (lb (Yuw v2 v1))]))) (.r ((k:Int)+1) (.g [0,1,2,3] (k+1) [.s (li ((k:Int)+1))])))))))) (.o 0 [2] [])) (by
 intro k h;try dsimp only[Ykd,Yko,Z7c]at h|-
 have g1:=@Y1r0 B r f k
 have g0:=@Y203 B r f k
 have g2:=@Y22x B r f k
 have g3:=@Yz0 r k hr
 have g4:=@Y20o B r f k 1000000000 hr
 have g5:=Y15q r
 have g6:=@Yl3 _ wY r.Pb (r.Pb.g k)
 have g7:=@Yl3 _ wY r.Tb (r.Tb.g k)
 have g8:=Y1b6 (r.Pb.g k)
 have g9:=Y1b6 f
 have g10:=@Y1vo B r k hr
 with_reducible repeat' (first|apply ah|exact zR|(intro)|apply Z3h|apply Zb9|apply Zba)
 all_goals ((try simp only[std,inj]at *);with_reducible and_intros)
 all_goals try with_reducible first|apply Z3h|apply Zb9|apply Zba
 all_goals try first|exact zw|grind[tlY,Ykg,apK,apC,Y1hx,Ykl,Ykm,Ykf])
theorem Zi1 (B:List YB) (r:YR_) (f:YS_) (h:B.length<=1000000001/\sumBy wB B<=1000000001/\wR r<=900000000/\wY f<=1000000000) (hr:Ym8 r):Zal B r f:=Ykr call73 func73 (let v4:List Ob:=[.y 1 [],.y 5 []];let v3:AV:=.tup [.agg [vI 0,vI 0,vS (mkS []),.ref 0,.ref 1],lb false];let v1:Tq _ _:=.w (.g (.nilbox 2 3 true 1)) (.w (.g (.nilbox 2 4 true 5)) (.f [3,4] v4 v3));let v2:=apY B r f;.i (f.Ka≠0) (.y true v1) (.z Ykb f.Ia (.i (((f.Ia.map Ykb).length:Int)=0) v1 (.z Ykb r.Pb (.l (Z7c B r f) (Zi0 B r f h hr) [0,1,2,3] [.s (li 0)] 0 (.t (.w (.g (.nilbox 0 3 true 1)) (.w (.g (.nilbox 0 4 true 5)) (.f [1,2] v4 v3))) (.t (.f [1,2] [.Aa v2.Sa,.Ae v2.Ia] (.tup [.agg [vI v2.Ka,vI v2.Na,vS v2.Ta,.ref 0,.ref 1],lb (apB B r f)])) .q))))))) (by
 dsimp only[Ykd,Zal,Yko,Z7c]
 have g1:=@Y1xj B r f
 have g2:=@Y1tg B r f
 have g3:=@Y1w0 B r f
 have gz:zY.Ka=0/\zY.Na=0/\zY.Ta=mkS []/\zY.Sa=[]/\zY.Ia=[]:=⟨rfl,rfl,rfl,rfl,rfl⟩
 with_reducible repeat' (first|apply ah|exact zR|(intro)|apply Z3h|apply Zb9|apply Zba)
 all_goals ((try simp only[std,inj]at *);with_reducible and_intros)
 all_goals try with_reducible first|apply Z3h|apply Zb9|apply Zba
 all_goals try first|exact zw|grind[Y1s0,Ykl,Ykm,Ykf])
end
def Yl7 (n:Int):List Int->List Int
 | []=>[n]
 | x :: r=>if n<=x then (if x=n then x :: r else n :: x :: r) else x :: Yl7 n r
def plN (n:Int) (L:List Int):Bool:=L.any λx=>decide (n<=x)
theorem Y1hs {n:Int}:∀ {A:List Int}(C:List Int),plN n A->Yl7 n (A++C)=Yl7 n A++C
 | [],_,h=>by cases h
 | x :: r,C,h=>by
  simp only[bF,Yl7]
  split
  ·split<;>rfl
  ·rename_i hx
   have:plN n r:=by simpa[plN,hx] using h
   rw[Y1hs C this];rfl
theorem Yz1 {n:Int}:∀ {A:List Int}(C:List Int),plN n A=false->Yl7 n (A++C)=A++Yl7 n C
 | [],_,_=>rfl
 | x :: r,C,h=>by
  simp only[plN,List.any_cons,bq,aP]at h
  simp only[bF,Yl7]
  rw[ab h.1,Yz1 C (by simpa[plN] using h.2)]
def Yp0 (n:Int) (L:List Int) (k:Nat):List Int:=if plN n (L.take k) then Yl7 n (L.take k) else L.take k
theorem Yw2 {n:Int}{L:List Int}{k:Nat}(h:k<L.length):plN n (L.take (k+1))=(plN n (L.take k)||decide (n<=L.getD k 0)):=by
 have e:=Yku h
 unfold plN;rw[e,List.any_append];simp
theorem Y1wu {n:Int}{L:List Int}{k:Nat}(h:k<L.length) (h1:plN n (L.take k)):Yp0 n L (k+1)=Yp0 n L k++[L.getD k 0]:=by
 have e:=Yku h
 unfold Yp0
 rw[ae (by rw[Yw2 h,h1];rfl),ae h1,e,Y1hs _ h1];rfl
theorem Y1xe {n:Int}{L:List Int}{k:Nat}(h:k<L.length) (h1:plN n (L.take k)=false) (h2:¬ n<=L.getD k 0):Yp0 n L (k+1)=Yp0 n L k++[L.getD k 0]:=by
 have e:=Yku h
 unfold Yp0
 rw[ab (by rw[Yw2 h,h1,bK h2];decide),ab (by rw[h1];decide),e];rfl
theorem Y1w7 {n:Int}{L:List Int}{k:Nat}(h:k<L.length) (h1:plN n (L.take k)=false) (h2:n<=L.getD k 0) (h3:L.getD k 0=n):Yp0 n L (k+1)=Yp0 n L k++[L.getD k 0]:=by
 have e:=Yku h
 unfold Yp0
 rw[ae (by rw[Yw2 h,h1,bM h2];rfl),ab (by rw[h1];decide),e,Yz1 _ h1]
 show L.take k++Yl7 n [L.getD k 0]=_
 simp only[Yl7];rw[ae h2,ae h3]
theorem Y1r3 {n:Int}{L:List Int}{k:Nat}(h:k<L.length) (h1:plN n (L.take k)=false) (h2:n<=L.getD k 0) (h3:¬ L.getD k 0=n):Yp0 n L (k+1)=Yp0 n L k++[n]++[L.getD k 0]:=by
 have e:=Yku h
 unfold Yp0
 rw[ae (by rw[Yw2 h,h1,bM h2];rfl),ab (by rw[h1];decide),e,Yz1 _ h1]
 show L.take k++Yl7 n [L.getD k 0]=_
 simp only[Yl7];rw[ae h2,ab h3,aI];rfl
theorem Y1rl {n:Int}{L:List Int}{k:Nat}(h:L.length<=k):(plN n (L.take k)->Yp0 n L k=Yl7 n L)/\(plN n (L.take k)=false->Yp0 n L k++[n]=Yl7 n L):=by
 have e:=av h
 refine⟨λh1 => ?_,λh1 => ?_⟩
 ·unfold Yp0;rw[ae h1,e]
 ·unfold Yp0;rw[ab (by rw[h1];decide)]
  rw[e]at h1|-
  have:=Yz1 [] h1
  rw[bw]at this;rw[this];rfl
theorem Yz6 (n:Int):∀ L:List Int,(Yl7 n L).length<=L.length+1
 | []=>by simp[Yl7]
 | x :: r=>by
  have:=Yz6 n r
  simp only[Yl7];split
  ·split<;>simp
  ·simp only[aE];omega
theorem Y1bv (n:Int) (L:List Int) (k:Nat):(Yp0 n L k).length<=L.length+1:=by
 have h:(L.take k).length<=L.length:=by rw[au];omega
 unfold Yp0;split
 ·have:=Yz6 n (L.take k);omega
 ·omega
def Yn2 (n:Int) (L:List Int):List Int:=if n∈L then L.filter λx=>decide (x≠n) else Yl7 n L
theorem Y1t5 (n:Int) (L:List Int):(Yn2 n L).length<=L.length+1:=by
 unfold Yn2;split
 ·have:=cN (λx=>decide (x≠n)) L;omega
 ·exact Yz6 n L
def srt:List Int->Prop
 | []=>True
 | x :: r=>(1<=x/\x<=99999)/\(∀ y∈r,x<y)/\srt r
theorem Y18h {n:Int}(hn:1<=n/\n<=99999):∀ L,srt L->srt (Yl7 n L)/\∀ y∈Yl7 n L,y=n\/y∈L
 | [],_=>⟨⟨hn,by simp,trivial⟩,by simp[Yl7]⟩
 | x :: r,h=>by
  obtain⟨h1,h2,h3⟩:=h
  simp only[Yl7]
  split
  ·rename_i hx
   split
   ·exact⟨⟨h1,h2,h3⟩,λy hy=>.inr hy⟩
   ·refine⟨⟨hn,λy hy => ?_,h1,h2,h3⟩,λy hy => ?_⟩
    ·rcases List.mem_cons.1 hy with rfl|hy
     ·omega
     ·have:=h2 y hy;omega
    ·rcases List.mem_cons.1 hy with rfl|hy
     ·exact .inl rfl
     ·exact .inr hy
  ·rename_i hx
   obtain⟨i1,i2⟩:=Y18h hn r h3
   refine⟨⟨h1,λy hy => ?_,i1⟩,λy hy => ?_⟩
   ·rcases i2 y hy with rfl|hy
    ·omega
    ·exact h2 y hy
   ·rcases List.mem_cons.1 hy with rfl|hy
    ·exact .inr aj
    ·rcases i2 y hy with rfl|hy
     ·exact .inl rfl
     ·exact .inr (ai _ hy)
theorem Yv4 (p:Int->Bool):∀ L,srt L->srt (L.filter p)
 | [],_=>trivial
 | x :: r,h=>by
  obtain⟨h1,h2,h3⟩:=h
  rw[List.filter_cons]
  split
  ·exact⟨h1,λy hy=>h2 y (List.mem_filter.1 hy).1,Yv4 p r h3⟩
  ·exact Yv4 p r h3
theorem Y1q1 {n:Int}(hn:1<=n/\n<=99999) {L:List Int}(h:srt L):srt (Yn2 n L):=by
 unfold Yn2;split
 ·exact Yv4 _ L h
 ·exact(Y18h hn L h).1
theorem Y152 {x:Int}:∀ {A:List Int},srt (A++[x]) ↔ srt A/\(1<=x/\x<=99999)/\∀ y∈A,y<x
 | []=>by simp[srt]
 | a :: A=>by
  simp only[bF,srt,Y152 (A:=A),aA,ao,aC]
  constructor
  ·rintro⟨h1,h2,h3,h4,h5⟩
   exact⟨⟨h1,λy hy=>h2 y (.inl hy),h3⟩,h4,λy hy=>hy.elim (λe=>by rw[e];exact h2 x (.inr (.inl rfl))) (h5 y)⟩
  ·rintro⟨⟨h1,h2,h3⟩,h4,h5⟩
   exact⟨h1,λy hy=>hy.elim (h2 y) (λe=>e.elim (λe=>by rw[e];exact h5 a (.inl rfl)) (λe=>by cases e)),h3,h4,λy hy=>h5 y (.inr hy)⟩
theorem Y19g (L:List Int):∀ k,k<=L.length->(Ypn L k ↔ srt (L.take k))
 | 0,_=>by simp[Ypn,srt]
 | k+1,hk=>by
  have e:=Yku (L:=L) (k:=k) oW
  have ih:=Y19g L k oW
  rw[e,Y152,<- ih]
  simp only[Ypn,af,aG,ak]
  constructor
  ·rintro⟨⟨h1,h2⟩,h3⟩
   refine⟨h1,h2,λy hy => ?_⟩
   rcases h3 with h2|h2
   ·subst h2;simp at hy
   ·have hs:=ih.1 h1
    have e2:=Yku (L:=L) (k:=k - 1) oW
    have hk0:0<k:=by
     rcases cZ k with h0|h0
     ·subst h0;simp at hy
     ·exact h0
    rw[show k - 1+1=k by omega]at e2
    rw[e2]at hs hy
    have h4:=Y152.1 hs
    rcases List.mem_append.1 hy with hy|hy
    ·have:=h4.2.2 y hy;omega
    ·simp only[ao]at hy;omega
  ·rintro⟨h1,h2,h3⟩
   refine⟨⟨h1,h2⟩,?_⟩
   rcases cZ k with h0|h0
   ·exact .inl h0
   ·right
    refine h3 _ ?_
    rw[List.mem_iff_getElem?]
    refine⟨k - 1,?_⟩
    rw[aV,ae oW]
    simp[aq,aw (show k - 1<L.length by omega)]
theorem Yrd (L:List Int):Ymz L ↔ srt L:=by
 have:=Y19g L L.length (aD _)
 rw[b9]at this;exact this
mutual
def Ykw (g:List Int->List Int):YS_->YS_
 | ⟨k,n,t,s,l⟩=>⟨k,n,t,if k=1 then g s else s,Y1b2 g l⟩
def Y1b2 (g:List Int->List Int):List YS_->List YS_
 | []=>[]
 | x :: r=>Ykw g x :: Y1b2 g r
end
theorem Y1dx (g:List Int->List Int):∀ l,Y1b2 g l=l.map (Ykw g)
 | []=>rfl
 | x :: r=>by rw[Y1b2,Y1dx g r];rfl
theorem Yq4 (g:List Int->List Int) (s:YS_):Ykw g s=⟨s.Ka,s.Na,s.Ta,if s.Ka=1 then g s.Sa else s.Sa,s.Ia.map (Ykw g)⟩:=by cases s;simp only[Ykw,Y1dx]
theorem Y16d (f h:YS_->Nat) (g:YS_->YS_):∀ L:List YS_,(∀ x∈L,f (g x)<=h x)->sumBy f (L.map g)<=sumBy h L
 | [],_=>aD _
 | x :: r,hL=>by
  have h1:=hL x aj
  have h2:=Y16d f h g r λy hy=>hL y (ai _ hy)
  simp only[bP,sumBy];omega
theorem Y1af (g:List Int->List Int):∀ s:YS_,Ykp (Ykw g s)=Ykp s:=by
 refine YS_.ind λs ih => ?_
 rw[Yli,Yli s,Yq4]
 have:∀ L:List YS_,(∀ x∈L,Ykp (Ykw g x)=Ykp x)->sumBy Ykp (L.map (Ykw g))=sumBy Ykp L:=by
  intro L
  induction L with
  | nil=>intro _;rfl
  | cons x r ihr=>
   intro h
   simp only[bP,sumBy,h x aj,ihr λy hy=>h y (ai _ hy)]
 simp only;rw[this s.Ia ih]
theorem Y1ra (g:List Int->List Int):∀ s:YS_,Yl5 (Ykw g s)=Yl5 s:=by
 refine YS_.ind λs ih => ?_
 rw[Ypk,Ypk s,Yq4]
 have:∀ L:List YS_,(∀ x∈L,Yl5 (Ykw g x)=Yl5 x)->Yll Yl5 (L.map (Ykw g))=Yll Yl5 L:=by
  intro L
  induction L with
  | nil=>intro _;rfl
  | cons x r ihr=>
   intro h
   simp only[bP,Yll,h x aj,ihr λy hy=>h y (ai _ hy)]
 simp only;rw[this s.Ia ih]
theorem Y1jb {g:List Int->List Int}(hg:∀ L,Ymz L->Ymz (g L)):∀ s:YS_,okY s->okY (Ykw g s):=by
 refine YS_.ind λs ih h => ?_
 rw[Yow,af,am]at h|-
 rw[Yq4]
 refine⟨λx hx => ?_,?_⟩
 ·obtain⟨y,hy,rfl⟩:=List.mem_map.1 hx
  exact ih y hy (h.1 y hy)
 ·have h2:=h.2
  simp only[Ypd,af,aN]at h2|-
  by_cases hk:s.Ka=1
  ·rw[ae hk]
   exact⟨⟨h2.1.1,hg _ h2.1.2⟩,by simp[hk]⟩
  ·rw[ab hk];exact h2
theorem Y1pw {g:List Int->List Int}(hg:∀ L,(g L).length<=L.length+1):∀ s:YS_,wY (Ykw g s)<=wY s+Ykp s:=by
 refine YS_.ind λs ih => ?_
 have h1:=Y16d wY (λx=>wY x+Ykp x) (Ykw g) s.Ia ih
 have h2:sumBy (λx=>wY x+Ykp x) s.Ia=sumBy wY s.Ia+sumBy Ykp s.Ia:=by
  generalize s.Ia=L
  induction L with
  | nil=>rfl
  | cons x r ih=>simp only[sumBy];omega
 have h3:=Ylo (Ykw g s)
 have h4:=Ylo s
 have h5:=Yli s
 have h6:=hg s.Sa
 have h7:(Ykw g s).Ta=s.Ta/\(Ykw g s).Ia=s.Ia.map (Ykw g)/\((Ykw g s).Sa=g s.Sa\/(Ykw g s).Sa=s.Sa):=by
  rw[Yq4];refine⟨rfl,rfl,?_⟩
  by_cases hk:s.Ka=1
  ·exact .inl (ae hk)
  ·exact .inr (ab hk)
 rw[h7.1,h7.2.1,aN]at h3
 rcases h7.2.2 with h8|h8<;>rw[h8]at h3<;>omega
theorem Yv5 {g:List Int->List Int}(hg:∀ L,Ymz L->Ymz (g L)) {s:YS_}(h:Ykk s):Ykk (Ykw g s):=by
 simp only[Ykk,af,ak]at h|-
 rw[Y1af,Y1ra];exact⟨h.1,Y1jb hg s h.2⟩
theorem Y1co {n:Int}(hn:1<=n/\n<=99999):∀ L,Ymz L->Ymz (Yl7 n L):=λL h=>(Yrd _).2 (Y18h hn L ((Yrd L).1 h)).1
theorem Y1vt {n:Int}(hn:1<=n/\n<=99999):∀ L,Ymz L->Ymz (Yn2 n L):=λL h=>(Yrd _).2 (Y1q1 hn ((Yrd L).1 h))
def hdS (s:YS_):Bool:=decide (s.Ka=0) && !decide ((s.Ia.length:Int)=0)&&decide ((s.Ia.g 0).Ka=1)
def hdF (x:YE) (s:YS_):Bool:=hdS s&&decide (rsC x.Ba (s.Ia.g 0).Ta (s.Ia.g 0).Sa=1)
def hdR (x:YE) (s:YS_):YB:=if hdS s then rsB x.Ba (s.Ia.g 0).Ta (s.Ia.g 0).Sa else ⟨mkS [],[],0,0⟩
def hdM (x:YE) (s:YS_):Int:=if hdF x s/\(hdR x s).Ka=4 then (hdR x s).Na else -1
def scU (x:YE):Int:=nxt x.Sb 3
def scA (x:YE):Int:=nxS x.Sb 3
def scI (x:YE):Int:=nxt (scA x) 2
def Ytg (x:YE) (s:YS_):YS_:=Ykw (Yn2 (scI x)) (Ykw (Yl7 (scU x)) s)
def ruS (x:YE) (m:Int):YR_:=x.Ma.g m.toNat
def Ymv (x:YE) (m:Int) (s:YS_):Int:=if x.Sc=0 then 7 else if nxR x.Sb 3<=99999/\nxR (scA x) 2<=99999 then (if apB x.Ba (ruS x m) (Ytg x s) then 0 else 6) else 8
def Yob (x:YE) (m:Int) (s:YS_):YS_:=if Ymv x m s=0 then Ykw (Yn2 (scI x)) (apY x.Ba (ruS x m) (Ytg x s)) else zY
section
abbrev Y1yg (n:Int):SV:=.one (.val (.cap (.int .i64 n)))
abbrev Y1y1 (f:FuncId) (n:Int):SV:=.one (.val (.clo f (.int .i64 n)))
abbrev Z87 (L:List Int) (n:Int):Ct:=⟨125,[],[Ag L,li n],[.Aa (Yl7 n L)],.sv (.r 0)⟩
def Z7d (L:List Int) (n:Int):Lp Nat:=.mk 41 0 (λx=>[(1,li n),(5,.r 0),(6,hs x 1),(9,Ag L),(10,li (L.map Yke).length),(11,hs x 0)]) (λx=>[ho x 2]) (λk=>[.s (li k),.s (lb (plN n (L.take k))),.o (.Aa (Yp0 n L k))]) (λk=>k<=L.length/\L.length<=9223372036854775807) (λk=>L.length - k) [.mk True (.exit 0) (λx=>[(1,li n),(5,.r 0),(6,hs x 0)]) (λx=>[ho x 1]) [.s (lb (plN n (List.take L.length L))),.o (.Aa (Yp0 n L L.length))]]
theorem Zi2 (L:List Int) (n:Int) (h:L.length<=2147483600):Lp.Sem prog (Yks f125 0) (Z7d L n):=Yl0 (λk=>let v5:=Yp0 n L k;let v2:=((v5.map Yke).length+1) * 8<=140737488355328;let v4:=(k:Int)+1;let v3:Ob:=.y 1 (v5.map Yke++[[cI (L.getD k 0)]]);let v1:Tq _ _:=.p v2 (.r v4 (.g [2] (k+1) [.s (li v4),.s (lb (plN n (L.take k))),.o v3]));.i ((k:Int)<(L.map Yke).length) (.x (k:Int) (L.map Yke) [cI (L.getD k 0)] (.b (!plN n (L.take k)) (.i (n<=L.getD k 0) (.i (L.getD k (0:Int)≠n) (.p v2 (.p (((v5.map Yke++[[cI n]]).length+1) * 8<=140737488355328) (.r v4 (.g [4] (k+1) [.s (li v4),.s (lb true),.o (.y 1 (v5.map Yke++[[cI n]]++[[cI (L.getD k 0)]]))])))) (.p v2 (.r v4 (.g [2] (k+1) [.s (li v4),.s (lb true),.o v3])))) v1) (.y false v1))) (.o 0 [0] [.s (lb (plN n (L.take k))),.o (.Aa v5)])) (by
 intro k h;try dsimp only[Ykd,Yko,Z7d]at h|-
 have g1:=@Yw2 n L k
 have g2:=@Y1wu n L k
 have g3:=@Y1xe n L k
 have g4:=@Y1w7 n L k
 have g5:=@Y1r3 n L k
 have g6:=Y1bv n L k
 exact z07)
theorem Zbb (L:List Int) (n:Int) (h:L.length<=2147483600):Z87 L n:=Ykr call125 func125 (let v1:=(Yp0 n L L.length).map Yke;.z Yke L (.w (.g (.nilreg 5 true 1)) (.l (Z7d L n) (Zi2 L n h) [0] [.s (li 0),.s (lb false),.o (.y 1 [])] 0 (.t (.b (!plN n (List.take L.length L)) (.p ((v1.length+1) * 8<=140737488355328) (.f [2] [.y 1 ((Yp0 n L L.length).map Yke++[[cI n]])] (.sv (.r 0)))) (.f [0] [.y 1 v1] (.sv (.r 0)))) .q)))) (by
 dsimp only[Ykd,Z87,Yko,Z7d]
 have g1:=@Y1rl n L L.length
 have g2:Yp0 n L 0=[]:=rfl
 have g3:plN n (L.take 0)=false:=rfl
 have g4:=Y1bv n L L.length
 exact z07)
def Ys9 (n:Int) (L:List Int):List Int:=L.filter λx=>decide (x≠n)
theorem Y1m9 {n:Int}{L:List Int}{k:Nat}(h:k<L.length):Ys9 n (L.take (k+1))=if L.getD k 0=n then Ys9 n (L.take k) else Ys9 n (L.take k)++[L.getD k 0]:=by
 have e:=Yku h
 unfold Ys9;rw[e,dx]
 show _++List.filter _ [L.getD k 0]=_
 generalize L.getD k 0=y
 by_cases hx:y=n
 ·rw[ae hx];simp[hx]
 ·rw[ab hx];simp[hx]
theorem Y1sp (n:Int) (L:List Int) (k:Nat):(Ys9 n (L.take k)).length<=L.length:=by
 have h1:=cN (λx=>decide (x≠n)) (L.take k)
 have h2:(L.take k).length<=L.length:=by rw[au];omega
 unfold Ys9;omega
theorem Y1vv {n:Int}{L:List Int}(h:n∈L):Yn2 n L=Ys9 n L:=ae h
theorem Y1tl {n:Int}{L:List Int}(h:¬ n∈L):Yn2 n L=Yl7 n L:=ab h
abbrev Z96 (L:List Int) (n:Int):Ct:=⟨168,[],[Ag L,li n],[.Aa (Ys9 n L)],.sv (.r 0)⟩
def Z5u (L:List Int) (n:Int):Lp Nat:=.mk 23 0 (λx=>[(1,li n),(5,.r 0),(8,Ag L),(9,li (L.map Yke).length),(10,hs x 0)]) (λx=>[ho x 1]) (λk=>[.s (li k),.o (.Aa (Ys9 n (L.take k)))]) (λk=>k<=L.length/\L.length<=9223372036854775807) (λk=>L.length - k) [.mk True (.exit 0) (λx=>[(5,.r 0)]) (λx=>[ho x 0]) [.o (.Aa (Ys9 n L))]]
theorem Zgs (L:List Int) (n:Int) (h:L.length<=2147483600):Lp.Sem prog (Yks f168 0) (Z5u L n):=Yl0 (λk=>let v1:=(Ys9 n (L.take k)).map Yke;let v2:=(k:Int)+1;.i ((k:Int)<(L.map Yke).length) (.x (k:Int) (L.map Yke) [cI (L.getD k 0)] (.i (L.getD k (0:Int)≠n) (.p ((v1.length+1) * 8<=140737488355328) (.r v2 (.g [2] (k+1) [.s (li v2),.o (.y 1 ((Ys9 n (L.take k)).map Yke++[[cI (L.getD k 0)]]))]))) (.r v2 (.g [0] (k+1) [.s (li v2),.o (.y 1 v1)])))) (.o 0 [0] [.o (.y 1 v1)])) (by
 intro k h;try dsimp only[Ykd,Yko,Z5u]at h|-
 have g1:=@Y1m9 n L k
 have g2:=Y1sp n L k
 have g3:L.length<=k->L.take k=L:=λh=>av h
 exact z07)
theorem Zg3 (L:List Int) (n:Int) (h:L.length<=2147483600):Z96 L n:=Ykr call168 func168 (.z Yke L (.w (.g (.nilreg 5 true 1)) (.l (Z5u L n) (Zgs L n h) [0] [.s (li 0),.o (.y 1 [])] 0 (.t (.f [0] [.Aa (Ys9 n L)] (.sv (.r 0))) .q)))) (by
 dsimp only[Ykd,Z96,Yko,Z5u]
 have g3:Ys9 n (L.take 0)=[]:=rfl
 exact z07)
abbrev Z97 (L:List Int) (n:Int):Ct:=⟨123,[],[Ag L,li n],[.Aa (Yn2 n L)],.sv (.r 0)⟩
theorem Zg4 (L:List Int) (n:Int) (h:L.length<=2147483600/\Ymz L/\1<=n/\n<=99999):Z97 L n:=Ykr call123 func123 (let v2:AV:=.sv (.r 0);let v1:Tq _ _:=.d [.rd] (Z5 L) (.f [0] [.Aa L] v2);.c [.rd] (Z6 L) (.b (!Ymz L) (.y true v1) (.c [.rd] (Z9r n) (.i (Yna n=0) v1 (.c [.rd,.rd] (Zg2 L n) (.i (n∈L) (.d [.rd,.rd] (Z96 L n) (.f [0] [.Aa (Ys9 n L)] v2)) (.d [.rd,.rd] (Z87 L n) (.f [0] [.Aa (Yl7 n L)] v2)))))))) (by
 dsimp only[Ykd,Z97]
 have g1:=@Y1vv n L
 have g2:=@Y1tl n L
 have g3:1<=n->n<=99999->Yna n≠0:=λa b=>by unfold Yna;rw[ae ⟨a,b⟩];split<;>omega
 exact z04)
abbrev Zam (L:List Int) (n:Int):Ct:=⟨124,[],[Ag L,Y1yg n],[.Aa (Yl7 n L)],.sv (.r 0)⟩
theorem Z98 (L:List Int) (n:Int) (h:L.length<=2147483600):Zam L n:=Ykr call124 func124 (.d [.rd,.rd] (Z87 L n) (.f [0] [.Aa (Yl7 n L)] (.sv (.r 0)))) (by
 dsimp only[Ykd,Zam]
 exact z04)
abbrev Zan (L:List Int) (n:Int):Ct:=⟨122,[],[Ag L,Y1yg n],[.Aa (Yn2 n L)],.sv (.r 0)⟩
theorem Z99 (L:List Int) (n:Int) (h:L.length<=2147483600/\Ymz L/\1<=n/\n<=99999):Zan L n:=Ykr call122 func122 (.d [.rd,.rd] (Z97 L n) (.f [0] [.Aa (Yn2 n L)] (.sv (.r 0)))) (by
 dsimp only[Ykd,Zan]
 exact z04)
theorem Y1fj {g:List Int->List Int}{s:YS_}:(Ykw g s).Ka=s.Ka/\(Ykw g s).Na=s.Na/\(Ykw g s).Ta=s.Ta/\(Ykw g s).Ia=s.Ia.map (Ykw g)/\(s.Ka=1->(Ykw g s).Sa=g s.Sa)/\(¬ s.Ka=1->(Ykw g s).Sa=s.Sa):=by
 rw[Yq4];exact⟨rfl,rfl,rfl,rfl,λh=>ae h,λh=>ab h⟩
theorem Y11o {g:List Int->List Int}{L:List YS_}{k:Nat}(h:k<L.length):(L.take (k+1)).map (Ykw g)=(L.take k).map (Ykw g)++[Ykw g (L.g k)]:=by
 rw[Yku h];simp
theorem Yt0 {s:YS_}(h:okY s):Ymz s.Sa:=by
 rw[Yow,af]at h
 have:=h.2
 simp only[Ypd,af]at this
 exact this.1.2
abbrev Z1h (s:YS_) (n:Int):Ct:=⟨65,[],[Ykx s,Y1y1 124 n],Yo8 (Ykw (Yl7 n) s),.sv (Yo7 (Ykw (Yl7 n) s) 0)⟩
def Z25 (s:YS_) (n:Int):Lp Nat:=let v4:Cell:=.y;let v1:=[vI 0,vI 0,vS (mkS []),.val v4,.val v4];let v2:Ob:=.Aa (Ykw (Yl7 n) s).Sa;let v3:=[vI s.Ka,vI s.Na,vS s.Ta,.ref 2,.ref 3];.mk 43 0 (λx=>[(1,.one (.val (.clo 124 (.int .i64 n)))),(4,.y 0),(5,.y 1),(27,Af s.Ia),(28,li (s.Ia.map Ykb).length),(29,hs x 0)]) (λx=>[.box v1,.box v3,ho x 2,ho x 1]) (λk=>[.s (li k),.o (.Ae (List.map (Ykw (Yl7 n)) (s.Ia.take k))),.o v2]) (λk=>k<=s.Ia.length/\s.Ia.length<=9223372036854775807) (λk=>s.Ia.length - k) [.mk True (.exit 0) (λx=>[(4,.y 0),(5,.y 1)]) (λx=>[.box v1,.box v3,ho x 1,ho x 0]) [.o (.Ae (List.map (Ykw (Yl7 n)) s.Ia)),.o v2]]
theorem Z9a (s:YS_) (n:Int) (h:wY s<=1000000000) (ih:∀ (z:YS_),z∈s.Ia->∀ (n:Int),wY z<=1000000000->OK (Z1h z n)):Lp.Sem prog (Yks f65 0) (Z25 s n):=Yl0 (λk=>let v1:=List.map (Ykw (Yl7 n)) (s.Ia.take k);let v2:Ob:=.Aa (Ykw (Yl7 n) s).Sa;let v3:=s.Ia.g k;.i ((k:Int)<(s.Ia.map Ykb).length) (.x (k:Int) (s.Ia.map Ykb) (Yki v3) (.w (.draw [(5,[9,10]),(6,[3,17]),(8,[1])]) (.d [.rd,.rd] (Z1h v3 n) (.p (((v1.map Ykb).length+1) * 80<=140737488355328) (.r ((k:Int)+1) (.g [0,1,2,18] (k+1) [.s (li ((k:Int)+1)),.o (.y 5 (v1.map Ykb++[Yki (Ykw (Yl7 n) v3)])),.o v2])))))) (.o 0 [0,1,2,3] [.o (.Ae v1),.o v2])) (by
 intro k h;try dsimp only[Ykd,Yko,Z25]at h|-
 have g1:=Ylo s
 have g2:=@Yl3 _ wY s.Ia (s.Ia.g k)
 have g3:=@Y11o (Yl7 n) s.Ia k
 exact z0e)
theorem Zi3 (s:YS_) (n:Int) (h:wY s<=1000000000) (ih:∀ z∈s.Ia,∀ (n:Int) (h:wY z<=1000000000),Z1h z n):Z1h s n:=Ykr call65 func65 (let v1:Tq _ _:=.t (.f [2,3] [.Aa (Ykw (Yl7 n) s).Sa,.Ae (List.map (Ykw (Yl7 n)) s.Ia)] (.sv (.agg [vI s.Ka,vI s.Na,vS s.Ta,.ref 0,.ref 1]))) .q;.w (.draw [(11,[18])]) (.d [.rd] (Z5 s.Sa) (.i (s.Ka=1) (.d [.rd,.rd] (Zam s.Sa n) (.z Ykb s.Ia (.w (.g (.nilbox 18 4 true 5)) (.l (Z25 s n) (Z9a s n h ih) [1,18,19,20] [.s (li 0),.o (.y 5 []),.o (.Aa (Yl7 n s.Sa))] 0 v1)))) (.z Ykb s.Ia (.w (.g (.nilbox 18 4 true 5)) (.l (Z25 s n) (Z9a s n h ih) [1,18,10,19] [.s (li 0),.o (.y 5 []),.o (.Aa s.Sa)] 0 v1)))))) (by
 dsimp only[Ykd,Z1h,Yko,Z25]
 have g1:=Ylo s
 have g2:=@Y1fj (Yl7 n) s
 exact z0f)
theorem Zg5 (s:YS_):∀ (n:Int) (h:wY s<=1000000000),Z1h s n:=YS_.ind (P:=λs=>∀ (n:Int) (h:wY s<=1000000000),Z1h s n) (λs ih n h=>Zi3 s n h ih) s
abbrev Z1i (s:YS_) (n:Int):Ct:=⟨65,[],[Ykx s,Y1y1 122 n],Yo8 (Ykw (Yn2 n) s),.sv (Yo7 (Ykw (Yn2 n) s) 0)⟩
def Z26 (s:YS_) (n:Int):Lp Nat:=let v4:Cell:=.y;let v1:=[vI 0,vI 0,vS (mkS []),.val v4,.val v4];let v2:Ob:=.Aa (Ykw (Yn2 n) s).Sa;let v3:=[vI s.Ka,vI s.Na,vS s.Ta,.ref 2,.ref 3];.mk 43 0 (λx=>[(1,.one (.val (.clo 122 (.int .i64 n)))),(4,.y 0),(5,.y 1),(27,Af s.Ia),(28,li (s.Ia.map Ykb).length),(29,hs x 0)]) (λx=>[.box v1,.box v3,ho x 2,ho x 1]) (λk=>[.s (li k),.o (.Ae (List.map (Ykw (Yn2 n)) (s.Ia.take k))),.o v2]) (λk=>k<=s.Ia.length/\s.Ia.length<=9223372036854775807) (λk=>s.Ia.length - k) [.mk True (.exit 0) (λx=>[(4,.y 0),(5,.y 1)]) (λx=>[.box v1,.box v3,ho x 1,ho x 0]) [.o (.Ae (List.map (Ykw (Yn2 n)) s.Ia)),.o v2]]
theorem Z9b (s:YS_) (n:Int) (h:wY s<=1000000000/\okY s/\1<=n/\n<=99999) (ih:∀ (z:YS_),z∈s.Ia->∀ (n:Int),wY z<=1000000000/\okY z/\1<=n/\n<=99999->OK (Z1i z n)):Lp.Sem prog (Yks f65 0) (Z26 s n):=Yl0 (λk=>let v1:=List.map (Ykw (Yn2 n)) (s.Ia.take k);let v2:Ob:=.Aa (Ykw (Yn2 n) s).Sa;let v3:=s.Ia.g k;.i ((k:Int)<(s.Ia.map Ykb).length) (.x (k:Int) (s.Ia.map Ykb) (Yki v3) (.w (.draw [(5,[9,10]),(6,[3,17]),(8,[1])]) (.d [.rd,.rd] (Z1i v3 n) (.p (((v1.map Ykb).length+1) * 80<=140737488355328) (.r ((k:Int)+1) (.g [0,1,2,18] (k+1) [.s (li ((k:Int)+1)),.o (.y 5 (v1.map Ykb++[Yki (Ykw (Yn2 n) v3)])),.o v2])))))) (.o 0 [0,1,2,3] [.o (.Ae v1),.o v2])) (by
 intro k h;try dsimp only[Ykd,Yko,Z26]at h|-
 have g1:=Ylo s
 have g2:=@Yl3 _ wY s.Ia (s.Ia.g k)
 have g3:=@Y11o (Yn2 n) s.Ia k
 have g4:=λh=>@Yns s h (s.Ia.g k)
 exact z0e)
theorem Zi4 (s:YS_) (n:Int) (h:wY s<=1000000000/\okY s/\1<=n/\n<=99999) (ih:∀ z∈s.Ia,∀ (n:Int) (h:wY z<=1000000000/\okY z/\1<=n/\n<=99999),Z1i z n):Z1i s n:=Ykr call65 func65 (let v1:Tq _ _:=.t (.f [2,3] [.Aa (Ykw (Yn2 n) s).Sa,.Ae (List.map (Ykw (Yn2 n)) s.Ia)] (.sv (.agg [vI s.Ka,vI s.Na,vS s.Ta,.ref 0,.ref 1]))) .q;.w (.draw [(11,[18])]) (.d [.rd] (Z5 s.Sa) (.i (s.Ka=1) (.d [.rd,.rd] (Zan s.Sa n) (.z Ykb s.Ia (.w (.g (.nilbox 18 4 true 5)) (.l (Z26 s n) (Z9b s n h ih) [1,18,19,20] [.s (li 0),.o (.y 5 []),.o (.Aa (Yn2 n s.Sa))] 0 v1)))) (.z Ykb s.Ia (.w (.g (.nilbox 18 4 true 5)) (.l (Z26 s n) (Z9b s n h ih) [1,18,10,19] [.s (li 0),.o (.y 5 []),.o (.Aa s.Sa)] 0 v1)))))) (by
 dsimp only[Ykd,Z1i,Yko,Z26]
 have g1:=Ylo s
 have g2:=@Y1fj (Yn2 n) s
 have g3:=@Yt0 s
 exact z0f)
theorem Zg6 (s:YS_):∀ (n:Int) (h:wY s<=1000000000/\okY s/\1<=n/\n<=99999),Z1i s n:=YS_.ind (P:=λs=>∀ (n:Int) (h:wY s<=1000000000/\okY s/\1<=n/\n<=99999),Z1i s n) (λs ih n h=>Zi4 s n h ih) s
abbrev Z5a (s:YS_) (n:Int):Ct:=⟨75,[],[Ykx s,li n],Yo8 (Ykw (Yl7 n) s),.sv (Yo7 (Ykw (Yl7 n) s) 0)⟩
theorem Zb (s:YS_) (n:Int) (h:wY s<=1000000000):Z5a s n:=Ykr call75 func75 (let v1:=Ykw (Yl7 n) s;.w (.g (.cap 3 1)) (.d [.rd,.rd] (Z1h s n) (.f [3,4] [.Aa v1.Sa,.Ae v1.Ia] (.sv (.agg [vI v1.Ka,vI v1.Na,vS v1.Ta,.ref 0,.ref 1]))))) (by
 dsimp only[Ykd,Z5a]
 exact z04)
abbrev Z7e (s:YS_) (n:Int):Ct:=⟨74,[],[Ykx s,li n],Yo8 (Ykw (Yn2 n) s),.sv (Yo7 (Ykw (Yn2 n) s) 0)⟩
theorem Zg7 (s:YS_) (n:Int) (h:wY s<=1000000000/\okY s/\1<=n/\n<=99999):Z7e s n:=Ykr call74 func74 (let v1:=Ykw (Yn2 n) s;.w (.g (.cap 3 1)) (.d [.rd,.rd] (Z1i s n) (.f [3,4] [.Aa v1.Sa,.Ae v1.Ia] (.sv (.agg [vI v1.Ka,vI v1.Na,vS v1.Ta,.ref 0,.ref 1]))))) (by
 dsimp only[Ykd,Z7e]
 exact z04)
def cdN (s k:Int):Int:=if nxR s k<=99999 then 0 else 8
abbrev Zad (x:YE) (z:Int) (Ka:Int):Ct:=⟨72,stI x z,[.y 0,li Ka],[.box [.ref 1,.ref 2,vI (nxS x.Sb Ka),vI x.Va,vI x.Sc,vI z],.Ac x.Ba,.Ad x.Ma],.tup [li (nxt x.Sb Ka),li (cdN x.Sb Ka)]⟩
theorem Zi5 (x:YE) (z Ka:Int) (h:0<=x.Sb/\x.Sb<=99999/\1<=Ka/\Ka<=3):Zad x z Ka:=Ykr call72 func72 (.d [.rd,.rd] (Z91 x.Sb Ka) (.i (nxt x.Sb Ka=0) (.f [] [.box [.ref 1,.ref 2,vI x.Sb,vI x.Va,vI x.Sc,vI z],.Ac x.Ba,.Ad x.Ma] (.tup [li 0,li 8])) (.f [] [.box [.ref 1,.ref 2,vI (nxt x.Sb Ka),vI x.Va,vI x.Sc,vI z],.Ac x.Ba,.Ad x.Ma] (.tup [li (nxt x.Sb Ka),li 0])))) (by
 dsimp only[Ykd,Zad]
 have g2:=@Yrg x.Sb Ka
 with_reducible repeat' (first|apply ah|exact zR|(intro)|apply Zg0)
 all_goals ((try simp only[std,inj]at *);with_reducible and_intros)
 all_goals try with_reducible first|apply Zg0
 all_goals try first|exact zw|grind[nxt,nxS,cdN,Ykl,Ykm,Ykf])
abbrev Zbc (x:YE) (z:Int) (s:YS_):Ct:=⟨29,stI x z,[.y 0,Ykx s],stI x z,.sv (li (hdM x s))⟩
theorem Zj5 (x:YE) (z:Int) (s:YS_) (h:x.Ba.length<=1000000001/\sumBy wB x.Ba<=1000000001):Zbc x z s:=Ykr call29 func29 (let v1:List Ob:=[.box [.ref 1,.ref 2,vI x.Sb,vI x.Va,vI x.Sc,vI z],.Ac x.Ba,.Ad x.Ma];let v2:=s.Ia.g 0;let v3:AV:=.sv (li (-1:Int));let v4:=(0:Int)<=0/\(s.Ia.map Ykb)[0]? = some (Yki v2);let v5:=rsB x.Ba v2.Ta v2.Sa;let v6:Tq _ _:=.y true (.f [] v1 v3);.i (s.Ka≠0) (.y true v6) (.z Ykb s.Ia (.i (((s.Ia.map Ykb).length:Int)=0) v6 (.w (.cells (Yki v2)) (.p v4 (.i (v2.Ka≠1) (.f [] v1 v3) (.w (.draw [(14,[18])]) (.w (.cells (Yki v2)) (.p v4 (.d [.rd,.rd] (Z3e x.Ba v2) (.i (rsC x.Ba v2.Ta v2.Sa≠1) v6 (.i (v5.Ka≠4) (.f [] v1 v3) (.f [] v1 (.sv (li v5.Na))))))))))))))) (by
 dsimp only[Ykd,Zbc]
 with_reducible repeat' (first|apply ah|exact zR|(intro)|apply Z59)
 all_goals ((try simp only[std,inj]at *);with_reducible and_intros)
 all_goals try with_reducible first|apply Z59
 all_goals try first|exact zw|grind[hdM,hdF,hdR,hdS,Ykl,Ykm,Ykf])
theorem Y1zi {x:YE}{s:YS_}(h:wY s<=900000000) (h2:Ykp s<=2000):wY (Ykw (Yl7 (scU x)) s)<=900002000/\wY (Ytg x s)<=1000000000:=by
 have h3:=Y1pw (Yz6 (scU x)) s
 have h4:=Y1pw (Y1t5 (scI x)) (Ykw (Yl7 (scU x)) s)
 have h5:=Y1af (Yl7 (scU x)) s
 unfold Ytg;omega
theorem Yvv {s Ka:Int}(h0:0<=s) (h:nxR s Ka<=99999):1<=nxt s Ka/\nxt s Ka<=99999/\nxt s Ka=nxR s Ka/\nxS s Ka=nxR s Ka:=by
 have h1:=@Yrg s Ka
 have e1:nxt s Ka=nxR s Ka:=ae h
 have e2:nxS s Ka=nxR s Ka:=ae h
 omega
theorem Y1tr {B:List YB}{r:YR_}{f:YS_}(h:apB B r f):Ykk (apY B r f):=by
 unfold apB at h
 rw[af]at h
 unfold apY;rw[ae h.1]
 unfold Yxx;rw[ae h.2]
 have h2:=h.2
 simp only[Yuw,af]at h2
 exact h2.2
theorem Y1ap {k n:Int}{t:ByteArray}{i:Int}(h:Yp4 k n t i):t.size<=99999:=by
 have e:∀ u:ByteArray,u.data.toList=[]->u.size=0:=λu hu=>by
  have:u.data.toList.length=0:=by rw[hu];rfl
  simpa using this
 simp only[Yp4,aG,ak]at h
 rcases h with (((h|h)|h)|h)|h
 ·have:=e t h.2.2;omega
 ·have h2:=h.2.2.1
  unfold Yo1 at h2;simp only[af,ak]at h2
  have:=h2.1.1.1.2;omega
 ·have:=e t h.2.2.2.1;omega
 ·have:=e t h.2.2.2.1;omega
 ·have h2:=h.2.2.1
  unfold Ypc at h2;simp only[af,ak]at h2
  have:=h2.1;omega
theorem Y18c {L:List Int}(h:Ymz L):L.length<=99999:=by
 have h1:=(Yrd L).1 h
 have:∀ (L:List Int) (m:Int),srt L->(∀ y∈L,m<y)->0<=m->(L.length:Int)+m<=99999\/L=[]:=by
  intro L
  induction L with
  | nil=>intro m _ _ _;exact .inr rfl
  | cons x r ih=>
   intro m hs hm h0
   obtain⟨a1,a2,a3⟩:=hs
   have hx:=hm x aj
   left
   rcases ih x a3 a2 oW with h|h
   ·simp only[aE];omega
   ·subst h;simp;omega
 rcases this L 0 h1 (λy hy=>by
  have:∀ L:List Int,srt L->∀ y∈L,0<y:=by
   intro L
   induction L with
   | nil=>intro _ y hy;cases hy
   | cons x r ih=>
    intro hs y hy
    rcases List.mem_cons.1 hy with rfl|hy
    ·have:=hs.1;omega
    ·exact ih hs.2.2 y hy
  exact this L h1 y hy) oW with h|h
 ·omega
 ·subst h;simp
theorem Y1zw:∀ s:YS_,okY s->wY s+1<=200000 * Ykp s:=by
 refine YS_.ind λs ih h => ?_
 have h0:=Yt0 h
 rw[Yow,af,am]at h
 have h1:=Y18c h0
 have h2:∀ L:List YS_,(∀ x∈L,wY x+1<=200000 * Ykp x)->L.length+sumBy wY L<=200000 * sumBy Ykp L:=by
  intro L
  induction L with
  | nil=>intro _;simp[sumBy]
  | cons x r ihr=>
   intro hL
   have a:=hL x aj
   have b:=ihr λy hy=>hL y (ai _ hy)
   have c:=Yli x
   simp only[sumBy,aE];omega
 have h3:=h2 s.Ia λx hx=>ih x hx (h.1 x hx)
 have h4:s.Ta.size<=99999:=by
  have:=h.2
  simp only[Ypd,af]at this
  exact Y1ap this.1.1
 rw[Ylo,Yli];omega
theorem Ymh {s:YS_}(h:Ykk s):wY s<=400000000/\Ykp s<=2000/\okY s:=by
 simp only[Ykk,af,ak]at h
 have:=Y1zw s h.2
 exact⟨by omega,by omega,h.2⟩
theorem Y1z1:zY.Ka=0/\zY.Na=0/\zY.Ta=mkS []/\zY.Sa=[]/\zY.Ia=[]:=⟨rfl,rfl,rfl,rfl,rfl⟩
theorem Y1qg {x:YE}{m:Int}{s:YS_}(h:x.Sc=0):Ymv x m s=7/\Yob x m s=zY:=by
 have e:Ymv x m s=7:=ae h
 exact⟨e,ab (by rw[e];decide)⟩
theorem Y1p4 {x:YE}{m:Int}{s:YS_}(h:¬ x.Sc=0) (h2:¬ (nxR x.Sb 3<=99999/\nxR (nxS x.Sb 3) 2<=99999)):Ymv x m s=8/\Yob x m s=zY:=by
 have e:Ymv x m s=8:=by unfold Ymv;rw[ab h,ab (show ¬ (nxR x.Sb 3<=99999/\nxR (scA x) 2<=99999) from h2)]
 exact⟨e,ab (by rw[e];decide)⟩
theorem Y1sa {x:YE}{m:Int}{s:YS_}(h:¬ x.Sc=0) (h2:nxR x.Sb 3<=99999/\nxR (nxS x.Sb 3) 2<=99999) (h3:apB x.Ba (ruS x m) (Ytg x s)=false):Ymv x m s=6/\Yob x m s=zY:=by
 have e:Ymv x m s=6:=by unfold Ymv;rw[ab h,ae (show nxR x.Sb 3<=99999/\nxR (scA x) 2<=99999 from h2),ab (by rw[h3];decide)]
 exact⟨e,ab (by rw[e];decide)⟩
theorem Y20c {x:YE}{m:Int}{s:YS_}(h:¬ x.Sc=0) (h2:nxR x.Sb 3<=99999/\nxR (nxS x.Sb 3) 2<=99999) (h3:apB x.Ba (ruS x m) (Ytg x s)):Ymv x m s=0/\Yob x m s=Ykw (Yn2 (nxt (nxS x.Sb 3) 2)) (apY x.Ba (ruS x m) (Ytg x s)):=by
 have e:Ymv x m s=0:=by unfold Ymv;rw[ab h,ae (show nxR x.Sb 3<=99999/\nxR (scA x) 2<=99999 from h2),ae h3]
 exact⟨e,ae e⟩
theorem Y213 {s k:Int}(h0:0<=s) (h1:s<=99999):0<=nxS s k/\nxS s k<=99999:=by
 unfold nxS nxR;split<;>omega
theorem Y1yf {s k:Int}(h:¬ nxR s k<=99999):nxS s k=s:=ab h
theorem Y23b (e:Int):cdF 0 e=e:=rfl
theorem Y1w8 {r:List Cell}{k:Nat}(h:k<1):[r][k]? = some r:=by
 obtain rfl:k=0:=by omega
 rfl
def xsB (x:YE) (s:YS_):Bool:=Ylg x&&Ykk s&&blw x.Sb s
theorem Y1j9 {x:YE}{s:YS_}(hF:hdF x s):hdR x s∈x.Ba:=by
 simp only[hdF,af,ak]at hF
 have e2:hdR x s=Ynh (cnd x.Ba (s.Ia.g 0).Ta (s.Ia.g 0).Sa):=by
  unfold hdR;rw[ae hF.1];exact ae hF.2
 have hne:cnd x.Ba (s.Ia.g 0).Ta (s.Ia.g 0).Sa≠[]:=by
  intro he
  have:=hF.2
  unfold rsC at this;rw[ae he]at this;omega
 rw[e2];exact(List.mem_filter.1 (Y151 hne)).1
theorem Y1s9 {x:YE}{m:Int}{s:YS_}(h:Ymv x m s=0):¬ x.Sc=0/\nxR x.Sb 3<=99999:=by
 unfold Ymv at h
 split at h
 ·omega
 ·rename_i h1
  split at h
  ·rename_i h2;exact⟨h1,h2.1⟩
  ·omega
end
section
def Ytx (L:List Int) (n:Int):List Int:=if n∈L then L else L++[n]
def Ylz (S:List Int) (n:Int):Int:=if n∈S then 1 else 0
def Ym4 (b:List Int) (n:Int):Int:=(b.count n:Int)
theorem Y150:zI=Ylz []:=by funext m;simp[zI,Ylz]
theorem Y11m {S:List Int}{n:Int}:Yoy (Ylz S) n 1=Ylz (S++[n]):=by
 funext m;simp only[Yoy,Ylz,aA,ao];grind
theorem Y1tj {b:List Int}{n:Int}:Yoy (Ym4 b) n (Ym4 b n+1)=Ym4 (b++[n]):=by
 funext m;simp only[Yoy,Ym4,List.count_append,List.count_singleton];grind
theorem Y1rn {b p:List Int}{n:Int}:Yoy (Ym4 (b++n :: p)) n (Ym4 (b++n :: p) n - 1)=Ym4 (b++p):=by
 funext m;simp only[Yoy,Ym4,List.count_append,List.count_cons];grind
theorem Y1pz {b:List Int}{n:Int}:Ym4 b n=0 ↔ n∉b:=by
 simp only[Ym4];rw[<- List.count_eq_zero];omega
theorem Y12j {b:List Int}{n:Int}:0<=Ym4 b n/\Ym4 b n<=b.length:=by
 have:=List.count_le_length (a:=n) (l:=b)
 simp only[Ym4];omega
theorem Y19f {b:List Int}{n:Int}:Ylz b n=0 ↔ n∉b:=by
 simp only[Ylz];grind
theorem Y1en (L:List Int) (n:Int):(Ytx L n).length<=L.length+1:=by
 unfold Ytx;split<;>simp
mutual
def fre:Yc->List Int->List Int->List Int
 | ⟨k,n,p,_,l⟩,b,o=>Y1cg l (b++p) (if (k=2\/k=4)/\n∉b then Ytx o n else o)
def Y1cg:List Yc->List Int->List Int->List Int
 | [],_,o=>o
 | x :: r,b,o=>Y1cg r b (fre x b o)
end
theorem Y1hz:∀ (l:List Yc) (b o:List Int),Y1cg l b o=l.foldl (λo x=>fre x b o) o
 | [],_,_=>by rw[Y1cg];rfl
 | x :: r,b,o=>by rw[Y1cg,Y1hz r];rfl
def Yox (c:Yc) (b o:List Int):List Int:=if (c.Ka=2\/c.Ka=4)/\c.Na∉b then Ytx o c.Na else o
theorem Y11k (c:Yc) (b o:List Int):fre c b o=c.Kb.foldl (λo x=>fre x (b++c.Pa) o) (Yox c b o):=by cases c;simp only[fre,Y1hz,Yox]
theorem Y1ho:∀ c b o,(fre c b o).length<=o.length+1+wC c:=by
 refine Yc.ind λc ih b o => ?_
 rw[Y11k,Y131]
 have h:∀ (L:List Yc),(∀ y∈L,∀ b o,(fre y b o).length<=o.length+1+wC y)->∀ o,(L.foldl (λo x=>fre x (b++c.Pa) o) o).length<=o.length+L.length+sumBy wC L:=by
  intro L
  induction L with
  | nil=>intro _ o;simp[sumBy]
  | cons x r ihr=>
   intro hL o
   have h1:=hL x aj (b++c.Pa) o
   have h2:=ihr (λy hy=>hL y (ai _ hy)) (fre x (b++c.Pa) o)
   simp only[bL,sumBy,aE];omega
 have h1:=h c.Kb ih (Yox c b o)
 have h2:(Yox c b o).length<=o.length+1:=by
  unfold Yox;split
  ·exact Y1en _ _
  ·omega
 omega
theorem Y1ro (c:Yc) (b o:List Int):(Yox c b o).length<=o.length+1:=by
 unfold Yox;split
 ·exact Y1en _ _
 ·omega
abbrev Z88 (S:List Int) (n:Int):Ct:=⟨136,[.box [.ref 1,.mref 2],.Aa S,.map (decide (S=[])) kI (mI (Ylz S))],[.y 0,li n],[.box [.ref 3,.mref 4],.dead,.dead,.Aa (Ytx S n),.map (decide (Ytx S n=[])) kI (mI (Ylz (Ytx S n)))],.tup []⟩
theorem Zn (S:List Int) (n:Int) (h:S.length<2147483647):Z88 S n:=Ykr call136 func136 (let v1:Value:=.int .i64 n;let v2:=((S.map Yke).length+1) * 8<=140737488355328;let v3:=mI (Yoy (Ylz S) n 1);let v4:List AC:=[.ref 3,.mref 4];let v5:=mI (Yoy zI n 1);.i (S=[]) (.w (.mkmap kI) (.w (.cells [cI (zI n)]) (.p (Yp3 (Value.int IntKind.i64 0) (mI zI) v1 (cI 0)) (.y true (.w (.upd v5) (.p (false=false) (.p (Ypy kI.d (mI zI) v5 v1 (some (cI 1))) (.p v2 (.w (.m 2) (.f [5,3] [.box v4,.dead,.dead,.y 1 (S.map Yke++[[cI n]]),.map false kI v5] (.tup []))))))))))) (.w (.cells [cI (Ylz S n)]) (.p (Yp3 (Value.int IntKind.i64 0) (mI (Ylz S)) v1 (cI (Ylz S n))) (.i (Ylz S n=0) (.w (.upd v3) (.p (decide (S=[])=false) (.p (Ypy kI.d (mI (Ylz S)) v3 v1 (some (cI 1))) (.p v2 (.w (.m 2) (.f [4,5] [.box v4,.dead,.dead,.y 1 (S.map Yke++[[cI n]]),.map (decide (S=[])) kI v3] (.tup []))))))) (.w (.m 1) (.w (.m 2) (.f [3,4] [.box v4,.dead,.dead,.Aa S,.map (decide (S=[])) kI (mI (Ylz S))] (.tup [])))))))) (by
 dsimp only[Ykd,Z88]
 with_reducible repeat' (first|apply ah|exact zR|(intro)|apply mIc|apply mOc|apply mSc|apply mLc)
 all_goals ((try simp only[std,inj]at *);with_reducible and_intros)
 all_goals try first|exact z|exact zM|grind[Ytx,Y19f,Y11m,Y150,List.append_eq_nil_iff,Ykl,Ykm,Ykf])
abbrev Zh (c:Yc) (b:List Int) (S:List Int):Ct:=⟨85,[.map false kI (mI (Ym4 b)),.box [.ref 2,.mref 3],.Aa S,.map (decide (S=[])) kI (mI (Ylz S))],[Yt3 c,.one (.mref 0),.y 1],[.map false kI (mI (Ym4 b)),.box [.ref 4,.mref 5],.dead,.dead,.Aa (fre c b S),.map (decide (fre c b S=[])) kI (mI (Ylz (fre c b S)))],.tup []⟩
def Z33 (c:Yc) (b:List Int) (S:List Int):Lp Nat:=.mk 67 4 (λx=>[(1,.one (.mref 0)),(56,Ag c.Pa),(57,li (c.Pa.map Yke).length),(58,hs x 0)]) (λx=>[ho x 1,.box [.ref 4,.mref 5],.dead,.dead,.Aa (fre c b S),.map (decide (fre c b S=[])) kI (mI (Ylz (fre c b S)))]) (λk=>[.s (li k),.o (.map false kI (mI (Ym4 (b++c.Pa.drop k))))]) (λk=>k<=c.Pa.length/\c.Pa.length<=9223372036854775807) (λk=>c.Pa.length - k) [.mk True (.exit 4) (λx=>[]) (λx=>[ho x 0,.box [.ref 4,.mref 5],.dead,.dead,.Aa (fre c b S),.map (decide (fre c b S=[])) kI (mI (Ylz (fre c b S)))]) [.o (.map false kI (mI (Ym4 b)))]]
def Z34 (c:Yc) (b:List Int) (S:List Int):Lp Nat:=let v1:=b++c.Pa;.mk 67 4 (λx=>[(1,.one (.mref 0)),(2,.y 1),(3,.y 4),(44,Av c.Kb),(45,li (c.Kb.map Ykz).length),(46,hs x 0)]) (λx=>[.map false kI (mI (Ym4 v1)),.box [.ref 5,.mref 6],.dead,.dead,.box (vals (Ymg c)),ho x 1,ho x 2]) (λk=>[.s (li k),.o (.Aa (List.foldl (λo x=>fre x v1 o) (Yox c b S) (c.Kb.take k))),.o (.map (decide (List.foldl (λo x=>fre x v1 o) (Yox c b S) (c.Kb.take k)=[])) kI (mI (Ylz (List.foldl (λo x=>fre x v1 o) (Yox c b S) (c.Kb.take k)))))]) (λk=>k<=c.Kb.length/\c.Kb.length<=9223372036854775807) (λk=>c.Kb.length - k) [.mk True (.exit 2) (λx=>[(1,.one (.mref 0)),(3,.y 4)]) (λx=>[.map false kI (mI (Ym4 v1)),.box [.ref 5,.mref 6],.dead,.dead,.box (vals (Ymg c)),ho x 0,ho x 1]) [.o (.Aa (fre c b S)),.o (.map (decide (fre c b S=[])) kI (mI (Ylz (fre c b S))))]]
def Z35 (c:Yc) (b:List Int) (S:List Int):Lp Nat:=let v1:Ob:=.map (decide (Yox c b S=[])) kI (mI (Ylz (Yox c b S)));let v2:Ob:=.Aa (Yox c b S);.mk 67 4 (λx=>[(1,.one (.mref 0)),(2,.y 1),(3,.y 4),(32,Ag c.Pa),(33,li (c.Pa.map Yke).length),(34,hs x 0)]) (λx=>[ho x 1,.box [.ref 5,.mref 6],.dead,.dead,.box (vals (Ymg c)),ho x 2,ho x 3]) (λk=>[.s (li k),.o (.map false kI (mI (Ym4 (b++c.Pa.take k)))),.o v2,.o v1]) (λk=>k<=c.Pa.length/\c.Pa.length<=9223372036854775807) (λk=>c.Pa.length - k) [.mk True (.exit 0) (λx=>[(1,.one (.mref 0)),(2,.y 1),(3,.y 4)]) (λx=>[ho x 0,.box [.ref 5,.mref 6],.dead,.dead,.box (vals (Ymg c)),ho x 1,ho x 2]) [.o (.map false kI (mI (Ym4 (b++c.Pa)))),.o v2,.o v1]]
theorem Zdd (c:Yc) (b:List Int) (S:List Int) (h:b.length+S.length+wC c+1<=2147483647) (ih:∀ (z:Yc),z∈c.Kb->∀ (b S:List Int),b.length+S.length+wC z+1<=2147483647->OK (Zh z b S)):Lp.Sem prog (Yks f85 2) (Z33 c b S):=Yl0 (λk=>let v1:=b++c.Pa.drop k;let v2:=c.Pa.getD k 0;let v3:=mI (Yoy (Ym4 v1) v2 (Ym4 v1 v2 - 1));.i ((k:Int)<(c.Pa.map Yke).length) (.x (k:Int) (c.Pa.map Yke) [cI v2] (.w (.cells [cI (Ym4 v1 v2)]) (.p (Yp3 (Value.int IntKind.i64 0) (mI (Ym4 v1)) (Value.int IntKind.i64 v2) (cI (Ym4 v1 v2))) (.r (Ym4 v1 v2 - 1) (.w (.upd v3) (.p (false=false) (.p (Ypy kI.d (mI (Ym4 v1)) v3 (Value.int IntKind.i64 v2) (some (cI (Ym4 v1 v2 - 1)))) (.r ((k:Int)+1) (.g [0,1,2,3,4,5] (k+1) [.s (li ((k:Int)+1)),.o (.map false kI v3)]))))))))) (.o 0 [0,1,2,3,4,5] [.o (.map false kI (mI (Ym4 v1)))])) (by
 intro k h;try dsimp only[Ykd,Yko,Z33]at h|-
 have g:=λL n=>(Y12j (b:=L) (n:=n)).2
 have g':=λL n=>(Y12j (b:=L) (n:=n)).1
 have g4:=Y131 c
 have b1:=g (b++c.Pa.drop k) (c.Pa.getD k 0)
 have b2:=g' (b++c.Pa.drop k) (c.Pa.getD k 0)
 have b3:(b++c.Pa.drop k).length<=b.length+c.Pa.length:=by rw[ax,ay];omega
 have b4 : -9223372036854775808<=Ym4 (b++c.Pa.drop k) (c.Pa.getD k 0) - 1:=by omega
 have b5:Ym4 (b++c.Pa.drop k) (c.Pa.getD k 0) - 1<=9223372036854775807:=by omega
 with_reducible repeat' (first|apply ah|exact zR|exact ih|(intro)|apply mIc|apply mOc|apply mSc|apply mLc|apply Zn)
 all_goals ((try simp only[std,inj]at *);with_reducible and_intros)
 all_goals try first|with_reducible (first|apply Zn|apply ih)|(simp only[<- ar];with_reducible first|apply Zn|apply ih)
 all_goals try first|exact z|exact zM|grind[Y1rn,Ynk,Ykl,Ykm,Ykf])
theorem Zde (c:Yc) (b:List Int) (S:List Int) (h:b.length+S.length+wC c+1<=2147483647) (ih:∀ (z:Yc),z∈c.Kb->∀ (b S:List Int),b.length+S.length+wC z+1<=2147483647->OK (Zh z b S)):Lp.Sem prog (Yks f85 1) (Z34 c b S):=Yl0 (λk=>let v1:=b++c.Pa;let v2:=c.Kb.take k;let v3:=c.Kb.g k;let v4:=Yox c b S;.i ((k:Int)<(c.Kb.map Ykz).length) (.x (k:Int) (c.Kb.map Ykz) (Ymg v3) (.d [.rd,.map,.ptr] (Zh v3 v1 (List.foldl (λo x=>fre x v1 o) v4 v2)) (.r ((k:Int)+1) (.g [0,1,2,3,4,12,13] (k+1) [.s (li ((k:Int)+1)),.o (.Aa (fre v3 v1 (List.foldl (λo x=>fre x v1 o) v4 v2))),.o (.map (decide (fre v3 v1 (List.foldl (λo x=>fre x v1 o) v4 v2)=[])) kI (mI (Ylz (fre v3 v1 (List.foldl (λo x=>fre x v1 o) v4 v2)))))])))) (.o 0 [0,1,2,3,4,5,6] [.o (.Aa (List.foldl (λo x=>fre x v1 o) v4 v2)),.o (.map (decide (List.foldl (λo x=>fre x v1 o) v4 v2=[])) kI (mI (Ylz (List.foldl (λo x=>fre x v1 o) v4 v2))))])) (by
 intro k h;try dsimp only[Ykd,Yko,Z34]at h|-
 have g1:=Y1a6 (λo x=>fre x (b++c.Pa) o) wC (c.Kb.take k) (λy _ o=>Y1ho y _ o) (Yox c b S)
 have g2:=Y1ro c b S
 have g3:=Ym2 wC c.Kb (k+1)
 have g4:=Y131 c
 with_reducible repeat' (first|apply ah|exact zR|exact ih|(intro)|apply mIc|apply mOc|apply mSc|apply mLc|apply Zn|apply ih)
 all_goals ((try simp only[std,inj]at *);with_reducible and_intros)
 all_goals try first|with_reducible (first|apply Zn|apply ih)|(simp only[<- ar];with_reducible first|apply Zn|apply ih)
 all_goals try first|exact z|exact zM|grind[Y11k,Yrk,Ykg,Ynp,Ykl,Ykm,Ykf])
theorem Zdf (c:Yc) (b:List Int) (S:List Int) (h:b.length+S.length+wC c+1<=2147483647) (ih:∀ (z:Yc),z∈c.Kb->∀ (b S:List Int),b.length+S.length+wC z+1<=2147483647->OK (Zh z b S)):Lp.Sem prog (Yks f85 0) (Z35 c b S):=Yl0 (λk=>let v1:=b++c.Pa.take k;let v2:=c.Pa.getD k 0;let v3:Ob:=.map (decide (Yox c b S=[])) kI (mI (Ylz (Yox c b S)));let v4:Ob:=.Aa (Yox c b S);let v5:=mI (Yoy (Ym4 v1) v2 (Ym4 v1 v2+1));.i ((k:Int)<(c.Pa.map Yke).length) (.x (k:Int) (c.Pa.map Yke) [cI v2] (.w (.cells [cI (Ym4 v1 v2)]) (.p (Yp3 (Value.int IntKind.i64 0) (mI (Ym4 v1)) (Value.int IntKind.i64 v2) (cI (Ym4 v1 v2))) (.r (Ym4 v1 v2+1) (.w (.upd v5) (.p (false=false) (.p (Ypy kI.d (mI (Ym4 v1)) v5 (Value.int IntKind.i64 v2) (some (cI (Ym4 v1 v2+1)))) (.r ((k:Int)+1) (.g [0,1,2,3,4,5,6] (k+1) [.s (li ((k:Int)+1)),.o (.map false kI v5),.o v4,.o v3]))))))))) (.o 0 [0,1,2,3,4,5,6] [.o (.map false kI (mI (Ym4 v1))),.o v4,.o v3])) (by
 intro k h;try dsimp only[Ykd,Yko,Z35]at h|-
 have g:=λL n=>(Y12j (b:=L) (n:=n)).2
 have g':=λL n=>(Y12j (b:=L) (n:=n)).1
 have g4:=Y131 c
 have b1:=g (b++c.Pa.take k) (c.Pa.getD k 0)
 have b2:=g' (b++c.Pa.take k) (c.Pa.getD k 0)
 have b3:(b++c.Pa.take k).length<=b.length+c.Pa.length:=by rw[ax,au];omega
 have b4 : -9223372036854775808<=Ym4 (b++c.Pa.take k) (c.Pa.getD k 0)+1:=by omega
 have b5:Ym4 (b++c.Pa.take k) (c.Pa.getD k 0)+1<=9223372036854775807:=by omega
 with_reducible repeat' (first|apply ah|exact zR|exact ih|(intro)|apply mIc|apply mOc|apply mSc|apply mLc|apply Zn)
 all_goals ((try simp only[std,inj]at *);with_reducible and_intros)
 all_goals try first|with_reducible (first|apply Zn|apply ih)|(simp only[<- ar];with_reducible first|apply Zn|apply ih)
 all_goals try first|exact z|exact zM|grind[Y1tj,Yku,Ykl,Ykm,Ykf])
theorem Zgt (c:Yc) (b S:List Int) (h:b.length+S.length+wC c+1<=2147483647) (ih:∀ z∈c.Kb,∀ (b:List Int) (S:List Int) (h:b.length+S.length+wC z+1<=2147483647),Zh z b S):Zh c b S:=Ykr call85 func85 (let v1:Tq _ _:=.t (.z Ykz c.Kb (.l (Z34 c b S) (Zde c b S h ih) [0,1,2,3,4,5,6] [.s (li 0),.o (.Aa (Yox c b S)),.o (.map (decide (Yox c b S=[])) kI (mI (Ylz (Yox c b S))))] 0 (.t (.z Yke c.Pa (.l (Z33 c b S) (Zdd c b S h ih) [0,1,2,3,5,6] [.s (li 0),.o (.map false kI (mI (Ym4 (b++c.Pa))))] 0 (.t (.f [4,5] [.map false kI (mI (Ym4 b)),.box [.ref 4,.mref 5],.dead,.dead,.Aa (fre c b S),.map (decide (fre c b S=[])) kI (mI (Ylz (fre c b S)))] (.tup [])) .q))) .q))) .q;let v2:Ob:=.map false kI (mI (Ym4 b));let v3:=Yp3 (.int .i64 0) (mI (Ym4 b)) (.int .i64 c.Na) (cI (Ym4 b c.Na));let v4:=Zdf c b S h ih;let v5:Ob:=.map (decide (S=[])) kI (mI (Ylz S));let v6:Ob:=.map (decide (Ytx S c.Na=[])) kI (mI (Ylz (Ytx S c.Na)));let v7:=Z35 c b S;let v8:Ob:=.Aa S;let v10:Tq _ _:=.z Yke c.Pa (.w (.m 2) (.w (.m 3) (.l v7 v4 [0,1,2,3,4,5,6] [.s (li 0),.o v2,.o v8,.o v5] 0 v1)));let v9:Tq _ _:=.w (.cells [cI (Ym4 b c.Na)]) (.p v3 (.i (Ym4 b c.Na=0) (.d [.ptr,.rd] (Z88 S c.Na) (.z Yke c.Pa (.l v7 v4 [0,1,2,3,4,8,9] [.s (li 0),.o v2,.o (.Aa (Ytx S c.Na)),.o v6] 0 v1))) v10));.i (c.Ka=2) (.y true v9) (.i (c.Ka=4) v9 (.y false v10))) (by
 dsimp only[Ykd,Zh,Yko,Z35,Z34,Z33]
 with_reducible repeat' (first|apply ah|exact zR|exact ih|(intro)|apply mIc|apply mOc|apply mSc|apply mLc|apply Zn)
 all_goals ((try simp only[std,inj]at *);with_reducible and_intros)
 all_goals try first|with_reducible (first|apply Zn|apply ih)|(simp only[<- ar];with_reducible first|apply Zn|apply ih)
 all_goals try first|exact z|exact zM|grind[Y1pz,Yox,Ykl,Ykm,Ykf])
theorem Zei (c:Yc):∀ (b:List Int) (S:List Int) (h:b.length+S.length+wC c+1<=2147483647),Zh c b S:=Yc.ind (P:=λc=>∀ (b:List Int) (S:List Int) (h:b.length+S.length+wC c+1<=2147483647),Zh c b S) (λc ih b S h=>Zgt c b S h ih) c
abbrev Z9c (c:Yc):Ct:=⟨36,[],[Yt3 c],[.Aa (fre c [] [])],.sv (.r 0)⟩
theorem Z66 (c:Yc) (h:wC c<=2147483600):Z9c c:=Ykr call36 func36 (.w (.mkmap kI) (.w (.g (.nilbox 1 0 true 1)) (.w (.g (.nilmbox 1 1 kI)) (.d [.rd,.map,.ptr] (Zh c [] []) (.f [9] [.Aa (fre c [] [])] (.sv (.r 0))))))) (by
 dsimp only[Ykd,Z9c]
 with_reducible repeat' (first|apply ah|exact zR|(intro)|apply mIc|apply mOc|apply mSc|apply mLc|apply Zei)
 all_goals ((try simp only[std,inj]at *);with_reducible and_intros)
 all_goals try with_reducible first|apply Zei
 all_goals try first|exact z|exact zM|grind[Ykl,Ykm,Ykf])
end
section
def Yud (l:List Int):List Cell:=[.list (l.map Yke)]
def Y23n (l:List Int):List Cell:=[.list (l.map Yke)]
instance:Row (List Int) Yud Y23n 1:=⟨λ_=>rfl,λ_=>rfl⟩
theorem Y22q {L:List Int}{k:Nat}(h:k<L.length):L.take (k+1)=L.take k++[L.getD k 0]:=Yku h
theorem Y1c0 {L:List (List Int)}{k:Nat}(h:k<L.length):(L.take (k+1)).flatten=(L.take k).flatten++L.getD k []:=by
 rw[Yku h,dM];simp;rfl
theorem Y1sf {L:List (List Int)}{k:Nat}(h:okU L.flatten):okU (L.take k).flatten:=by
 rw[<- bf k L,dM]at h;exact Y1di h
theorem Y1qk {L:List (List Int)}{k j:Nat}(hk:k<L.length) (h:okU L.flatten):okU ((L.take k).flatten++(L.getD k []).take j):=by
 have h1:=Y1sf (k:=k+1) h
 rw[Y1c0 hk]at h1
 have h2:(L.take k).flatten++L.getD k []=((L.take k).flatten++(L.getD k []).take j)++(L.getD k []).drop j:=by rw[aI,bf]
 rw[h2]at h1;exact Y1di h1
theorem Y1t9 {S:List Int}{n:Int}:Ylz S n=1 ↔ n∈S:=by simp only[Ylz];grind
mutual
def bnd:Yc->List Int
 | ⟨_,_,p,_,l⟩=>p++bnds l
def bnds:List Yc->List Int
 | []=>[]
 | x :: r=>bnd x++bnds r
end
theorem Y1hf:∀ l,bnds l=l.flatMap bnd
 | []=>by simp[bnds]
 | x :: r=>by rw[bnds,Y1hf r];simp
theorem Ywb (x:Yc):bnd x=x.Pa++x.Kb.flatMap bnd:=by cases x;simp only[bnd,Y1hf]
theorem Y1yu:∀ c:Yc,(bnd c).length<=wC c:=by
 refine Yc.ind λc ih => ?_
 have h:∀ L:List Yc,(∀ y∈L,(bnd y).length<=wC y)->(L.flatMap bnd).length<=sumBy wC L:=by
  intro L
  induction L with
  | nil=>intro _;simp
  | cons x r ihr=>
   intro hL
   have h1:=hL x aj
   have h2:=ihr λy hy=>hL y (ai _ hy)
   simp only[bV,ax,sumBy];omega
 have:=h c.Kb ih
 rw[Ywb,Y131,ax];omega
mutual
def Yoj:Yc->Nat
 | ⟨_,_,_,_,l⟩=>Y16l l+1
def Y16l:List Yc->Nat
 | []=>0
 | c :: r=>max (Yoj c) (Y16l r)
end
theorem Y1cv:∀ l,Y16l l=Yll Yoj l
 | []=>by simp[Y16l,Yll]
 | c :: r=>by rw[Y16l,Yll,Y1cv r]
theorem Y12e (c:Yc):Yoj c=Yll Yoj c.Kb+1:=by cases c;simp only[Yoj,Y1cv]
mutual
def Yl9:Yc->Nat
 | ⟨_,_,_,_,l⟩=>Y11z l+1
def Y11z:List Yc->Nat
 | []=>0
 | c :: r=>Yl9 c+Y11z r
end
theorem Y19j:∀ l,Y11z l=sumBy Yl9 l
 | []=>by simp[Y11z,sumBy]
 | c :: r=>by rw[Y11z,sumBy,Y19j r]
theorem Yoh (c:Yc):Yl9 c=sumBy Yl9 c.Kb+1:=by cases c;simp only[Yl9,Y19j]
theorem Y1wt:∀ c:Yc,Yoj c<=Yl9 c:=by
 refine Yc.ind λc ih => ?_
 have:=Yx8 ih
 rw[Yoh,Y12e];omega
def shC (c:Yc):Bool:=
 (decide (c.Ka=1)||decide (c.Da=⟨0,0,mkS [],[]⟩))&&(decide (c.Na=0)||decide (c.Ka=2\/c.Ka=4)||decide (c.Ka=3)) &&
 (if c.Ka=1 then decide ((c.Kb.length:Int)=0)&&decide ((c.Pa.length:Int)=0)&&Yn6 c.Da else if c.Ka=2 then decide ((c.Kb.length:Int)=0)&&decide ((c.Pa.length:Int)=0) else if c.Ka=3 then decide ((c.Kb.length:Int)=0)&&decide ((c.Pa.length:Int)=0)&&decide (0<=c.Na/\c.Na<=13) else if c.Ka=4 then decide ((c.Kb.length:Int)=1)&&decide ((c.Pa.length:Int)=0) else if c.Ka=5 then decide ((c.Kb.length:Int)=1)&&decide ((c.Pa.length:Int)<=8) else if c.Ka=6 then decide (1<=(c.Kb.length:Int)/\(c.Kb.length:Int)<=9)&&decide ((c.Pa.length:Int)=0) else if c.Ka=7 then decide ((c.Kb.length:Int)=3)&&decide ((c.Pa.length:Int)=0) else if c.Ka=8 then decide (2<=(c.Kb.length:Int)/\(c.Kb.length:Int)<=60)&&decide ((c.Pa.length:Int)=0) else if c.Ka=9 then decide (1<=(c.Kb.length:Int)/\(c.Kb.length:Int)<=60)&&decide (1<=(c.Pa.length:Int)/\(c.Pa.length:Int)<=60) else if c.Ka=10 then decide ((c.Kb.length:Int)=1)&&decide ((c.Pa.length:Int)=0) else if c.Ka=11 then decide ((c.Kb.length:Int)=1)&&decide ((c.Pa.length:Int)=1) else false)
def sqC (c x:Yc):Bool := !(decide (c.Ka=8)&&decide (x.Ka=8))
def shI (c:Yc):Bool:=shC c&&c.Kb.all (sqC c)
mutual
def okC:Yc->Bool
 | c@⟨_,_,_,_,l⟩=>Y1g2 l&&shI c
def Y1g2:List Yc->Bool
 | []=>true
 | c :: r=>okC c&&Y1g2 r
end
theorem Y1iw:∀ l,Y1g2 l=l.all okC
 | []=>by simp[Y1g2]
 | c :: r=>by rw[Y1g2,Y1iw r];rfl
theorem Yyr (c:Yc):okC c=(c.Kb.all okC&&shI c):=by cases c;simp only[okC,Y1iw]
mutual
def Ynj:Yc->Int->Int->Bool×Int
 | c@⟨_,_,_,_,l⟩,deep,m=>if deep<=150/\m+1<=3000/\shI c then Y17h l (deep+1) (m+1) else (false,m+1)
def Y17h:List Yc->Int->Int->Bool×Int
 | [],_,m=>(true,m)
 | x :: r,deep,m=>if (Ynj x deep m).1 then Y17h r deep (Ynj x deep m).2 else (false,(Ynj x deep m).2)
end
theorem Y1cx:∀ l deep m,Y17h l deep m=Yl8 (λx m=>Ynj x deep m) l m
 | [],_,_=>by simp[Y17h,Yl8]
 | x :: r,deep,m=>by simp only[Y17h,Yl8,Y1cx r]
theorem Y1id (c:Yc) (deep m:Int):Ynj c deep m=if deep<=150/\m+1<=3000/\shI c then Yl8 (λx m=>Ynj x (deep+1) m) c.Kb (m+1) else (false,m+1):=by cases c;simp only[Ynj,Y1cx]
theorem Y1ik:∀ (c:Yc) (deep m:Int),m<=3000->((Ynj c deep m).1 ↔ (m+Yl9 c<=3000/\(deep+Yoj c<=151/\okC c)))/\((Ynj c deep m).1->(Ynj c deep m).2=m+Yl9 c):=by
 refine Yc.ind λc ih deep m hm => ?_
 rw[Y1id,Yoh,Y12e,Yyr,af,am]
 by_cases h:deep<=150/\m+1<=3000/\shI c
 ·rw[ae h]
  have h1:=Y133 (λx m=>Ynj x (deep+1) m) Yl9 (λx=>deep+1+Yoj x<=151/\okC x) 3000 c.Kb (λx hx m hm=>ih x hx (deep+1) m hm) (m+1) h.2.1
  have h2:=Yzx Yoj (m:=(150 - deep).toNat) (L:=c.Kb)
  constructor
  ·rw[h1.1]
   constructor
   ·rintro⟨a,b⟩
    have:=h2.2 λx hx=>by have:=(b x hx).1;omega
    exact⟨by omega,by omega,λx hx=>(b x hx).2,h.2.2⟩
   ·rintro⟨a,b,d,e⟩
    have:=h2.1 oW
    exact⟨by omega,λx hx=>⟨by have:=this x hx;omega,d x hx⟩⟩
  ·intro ht;rw[h1.2 ht];omega
 ·rw[ab h]
  refine⟨⟨λe=>Bool.noConfusion e,?_⟩,λe=>Bool.noConfusion e⟩
  rintro⟨a,b,d,e⟩
  exact absurd ⟨by omega,by omega,e⟩ h
def smC (c:Yc):Bool:=decide (Yl9 c<=3000)&&decide (Yoj c<=150)&&okC c
theorem Y1vg (c:Yc):(Ynj c 1 0).1=smC c:=by
 have h:=(Y1ik c 1 0 dW).1
 rw[cm,h]
 simp only[smC,af,ak,dw]
 constructor
 ·rintro⟨a,b,e⟩;exact⟨by omega,by omega,e⟩
 ·rintro⟨a,b,e⟩;exact⟨by omega,by omega,e⟩
def Yws (c:Yc) (G:List Int):Bool:=smC c&&okU (G++bnd c)&&(fre c [] []).all λn=>decide (n∈G)
abbrev Z18 (a:Yd) (b:Yd):Ct:=⟨134,[],[Yq3 a,Yq3 b],[],.sv (lb (decide (a=b)))⟩
def Z2k (a:Yd) (b:Yd):Lp Nat:=.mk 53 0 (λx=>[(2,.y 0),(3,.y 1),(36,li (a.Ia.map Ykq).length),(37,hs x 0)]) (λx=>[.box (vals (Yld a)),.box (vals (Yld b))]) (λk=>[.s (li k)]) (λk=>k<=a.Ia.length/\a.Ia.length<=9223372036854775807/\a.Ia.length=b.Ia.length/\a.Ia.take k=b.Ia.take k) (λk=>a.Ia.length - k) [.mk (a.Ia=b.Ia) (.exit 0) (λx=>[]) (λx=>[]) [],.mk (a.Ia≠b.Ia) .ret (λx=>[(4,hs x 0)]) (λx=>[]) [.s (lb false)]]
theorem Zbz (a:Yd) (b:Yd) (ih:∀ (z:Yd),z∈a.Ia->∀ (b:Yd),OK (Z18 z b)):Lp.Sem prog (Yks f134 0) (Z2k a b):=Yl0 (λk=>.i ((k:Int)<(a.Ia.map Ykq).length) (.w (.draw []) (.x (k:Int) (a.Ia.map Ykq) (Yld (a.Ia.g k)) (.x (k:Int) (b.Ia.map Ykq) (Yld (b.Ia.g k)) (.d [.rd,.rd] (Z18 (a.Ia.g k) (b.Ia.g k)) (.b (!decide (a.Ia.g k=b.Ia.g k)) (.o 1 [] [.s (lb false)]) (.r ((k:Int)+1) (.g [0,1] (k+1) [.s (li ((k:Int)+1))]))))))) (.o 0 [] [])) (by
 intro k h;try dsimp only[Ykd,Yko,Z2k]at h|-
 with_reducible repeat' (first|apply ah|exact zR|exact ih|(intro)|apply mIc|apply mOc|apply mSc|apply mLc|apply ih)
 all_goals ((try simp only[std,inj]at *);with_reducible and_intros)
 all_goals try with_reducible first|apply ih
 all_goals try first|exact z|exact zM|grind[Yu8,Ykg,Ykl,Ykm,Ykf])
theorem Zfh (a b:Yd) (ih:∀ z∈a.Ia,∀ (b:Yd),Z18 z b):Z18 a b:=Ykr call134 func134 (let v1:Tq _ _:=.y true (.s (lb false));.i (a.Ka≠b.Ka) (.y true (.y true v1)) (.i (a.Na≠b.Na) (.y true v1) (.i (a.Ta.data.toList≠b.Ta.data.toList) v1 (.z Ykq a.Ia (.z Ykq b.Ia (.i (((a.Ia.map Ykq).length:Int)≠((b.Ia.map Ykq).length:Int)) (.s (lb false)) (.z Ykq a.Ia (.l (Z2k a b) (Zbz a b ih) [0,1] [.s (li 0)] 0 (.t (.s (lb true)) (.t (.s (lb false)) .q)))))))))) (by
 dsimp only[Ykd,Z18,Yko,Z2k]
 simp only[Y1tp]
 with_reducible repeat' (first|apply ah|exact zR|exact ih|(intro)|apply mIc|apply mOc|apply mSc|apply mLc)
 all_goals ((try simp only[std,inj]at *);with_reducible and_intros)
 all_goals try with_reducible first|apply ih
 all_goals try first|exact z|exact zM|grind[Yo9,Ykl,Ykm,Ykf])
theorem Zi6 (a:Yd):∀ (b:Yd),Z18 a b:=Yd.ind (P:=λa=>∀ (b:Yd),Z18 a b) (λa ih b=>Zfh a b ih) a
abbrev Zs (c:Yc) (A:List Int):Ct:=⟨43,[.Aa A],[Yt3 c,.r 0],[.dead,.Aa (A++bnd c)],.sv (.r 1)⟩
def Z36 (c:Yc) (A:List Int):Lp Nat:=.mk 23 1 (λx=>[(1,.r 1),(12,Av c.Kb),(13,li (c.Kb.map Ykz).length),(14,hs x 0)]) (λx=>[.dead,ho x 1]) (λk=>[.s (li k),.o (.Aa (A++c.Pa++List.flatMap bnd (c.Kb.take k)))]) (λk=>k<=c.Kb.length/\c.Kb.length<=9223372036854775807) (λk=>c.Kb.length - k) [.mk True (.exit 0) (λx=>[(1,.r 1)]) (λx=>[.dead,ho x 0]) [.o (.Aa (A++bnd c))]]
theorem Zdg (c:Yc) (A:List Int) (h:A.length+(bnd c).length<=2147483647) (ih:∀ (z:Yc),z∈c.Kb->∀ (A:List Int),A.length+(bnd z).length<=2147483647->OK (Zs z A)):Lp.Sem prog (Yks f43 0) (Z36 c A):=Yl0 (λk=>let v1:=A++c.Pa++List.flatMap bnd (c.Kb.take k);let v2:=c.Kb.g k;.i ((k:Int)<(c.Kb.map Ykz).length) (.x (k:Int) (c.Kb.map Ykz) (Ymg v2) (.d [.rd,.own true 1] (Zs v2 v1) (.r ((k:Int)+1) (.g [0,4] (k+1) [.s (li ((k:Int)+1)),.o (.Aa (A++c.Pa++List.flatMap bnd (c.Kb.take k)++bnd v2))])))) (.o 0 [0,1] [.o (.Aa v1)])) (by
 intro k h;try dsimp only[Ykd,Yko,Z36]at h|-
 have g0:=Y13y bnd c.Kb (k+1)
 with_reducible repeat' (first|apply ah|exact zR|exact ih|(intro)|apply mIc|apply mOc|apply mSc|apply mLc|apply ih)
 all_goals ((try simp only[std,inj]at *);with_reducible and_intros)
 all_goals try first|with_reducible (first|apply ih)|(simp only[<- ar];with_reducible first|apply ih)
 all_goals try first|exact z|exact zM|grind[Y19x,Ykg,Ywb,Ykl,Ykm,Ykf])
theorem Zgu (c:Yc) (A:List Int) (h:A.length+(bnd c).length<=2147483647) (ih:∀ z∈c.Kb,∀ (A:List Int) (h:A.length+(bnd z).length<=2147483647),Zs z A):Zs c A:=Ykr call43 func43 (.p (∀ (e0:List Cell),e0∈c.Pa.map Yke->∀ (c0:Cell),c0∈e0->∃ v0,c0=Cell.lit v0) (.p (∀ (x0:List Cell),x0∈c.Pa.map Yke->x0.length=1) (.p (((A.map Yke).length+(c.Pa.map Yke).length) * 8<=140737488355328) (.z Ykz c.Kb (.l (Z36 c A) (Zdg c A h ih) [0,2] [.s (li 0),.o (.y 1 (A.map Yke++c.Pa.map Yke))] 0 (.t (.f [1] [.dead,.Aa (A++bnd c)] (.sv (.r 1))) .q)))))) (by
 dsimp only[Ykd,Zs,Yko,Z36]
 with_reducible repeat' (first|apply ah|exact zR|exact ih|(intro)|apply mIc|apply mOc|apply mSc|apply mLc)
 all_goals ((try simp only[std,inj]at *);with_reducible and_intros)
 all_goals try first|with_reducible (first|apply ih)|(simp only[<- ar];with_reducible first|apply ih)
 all_goals try first|exact z|exact zM|grind[Ywb,Ykl,Ykm,Ykf])
theorem Z4h (c:Yc):∀ (A:List Int) (h:A.length+(bnd c).length<=2147483647),Zs c A:=Yc.ind (P:=λc=>∀ (A:List Int) (h:A.length+(bnd c).length<=2147483647),Zs c A) (λc ih A h=>Zgu c A h ih) c
abbrev Z1v (c:Yc):Ct:=⟨17,[],[Yt3 c],[.Aa (bnd c)],.sv (.r 0)⟩
theorem Z2o (c:Yc) (h:(bnd c).length<=2147483647):Z1v c:=Ykr call17 func17 (.d [.rd,.own true 1] (Zs c []) (.f [2] [.Aa (bnd c)] (.sv (.r 0)))) (by
 dsimp only[Ykd,Z1v]
 exact z11)
abbrev Z6h (c:Yc):Ct:=⟨17,[],[Yt3 c],[],.sv (Ag (bnd c))⟩
theorem Z2l (c:Yc) (h:(bnd c).length<=2147483647):Z6h c:=Ykr call17 func17 (.d [.rd,.own true 1] (Zs c []) (.w (.g (.lock 2)) (.s (Ag (bnd c))))) (by
 dsimp only[Ykd,Z6h]
 exact z11)
abbrev Zbd (c:Yc):Ct:=⟨84,[],[Yt3 c],[],.sv (lb (shI c))⟩
def Z51 (c:Yc):Lp Nat:=.mk 175 0 (λx=>[(133,Av c.Kb),(134,li (c.Kb.map Ykz).length),(135,hs x 0)]) (λx=>[]) (λk=>[.s (li k)]) (λk=>k<=c.Kb.length/\c.Kb.length<=9223372036854775807/\((c.Kb.take k).all λx => !decide (x.Ka=8))=true) (λk=>c.Kb.length - k) [.mk ((c.Kb.all λx => !decide (x.Ka=8))=true) (.exit 1) (λx=>[]) (λx=>[]) [],.mk ((c.Kb.all λx => !decide (x.Ka=8))=false) .ret (λx=>[(2,hs x 0)]) (λx=>[]) [.s (lb false)]]
theorem Zfi (c:Yc):Lp.Sem prog (Yks f84 0) (Z51 c):=Yl0 (λk=>.i ((k:Int)<(c.Kb.map Ykz).length) (.x (k:Int) (c.Kb.map Ykz) (Ymg (c.Kb.g k)) (.i ((c.Kb.g k).Ka=8) (.o 1 [] [.s (lb false)]) (.r ((k:Int)+1) (.g [] (k+1) [.s (li ((k:Int)+1))])))) (.o 0 [] [])) (by
 intro k h;try dsimp only[Ykd,Yko,Z51]at h|-
 with_reducible repeat' (first|apply ah|exact zR|(intro)|apply mIc|apply mOc|apply mSc|apply mLc)
 all_goals ((try simp only[std,inj]at *);with_reducible and_intros)
 all_goals try first|exact z|exact zM|grind[Yku,Ykl,Ykm,Ykf])
theorem Zj6 (c:Yc):Zbd c:=Ykr call84 func84 (let v3:=((c.Pa.map Yke).length:Int);let v2:=((c.Kb.map Ykz).length:Int);let v6:=lb false;let v5:Tq _ _:=.y false (.s v6);let v7:=lb (decide (v2=1));let v1:Tq _ _:=.i (c.Ka=1) (.i (v3=0) (.i (v2=0) (.c [.rd] (Z3p c.Da) (.s (lb (Yn6 c.Da)))) (.s v6)) v5) (.i (c.Ka=2) (.i (v3=0) (.s (lb (decide (v2=0)))) (.s v6)) (.i (c.Ka=3) (.w (.draw []) (.i (v3=0) (.i (v2=0) (.i (0<=c.Na) (.c [] Z5f (.h (14<=9223372036854775807) (.s (lb (decide (c.Na<14)))))) (.s v6)) v5) (.y false v5))) (.i (c.Ka=4) (.i (v3=0) (.s v7) (.s v6)) (.i (c.Ka=5) (.i (v3<=8) (.s v7) (.s v6)) (.i (c.Ka=6) (.i (v3=0) (.i (1<=v2) (.s (lb (decide (v2<=9)))) (.s v6)) v5) (.i (c.Ka=7) (.i (v3=0) (.s (lb (decide (v2=3)))) (.s v6)) (.i (c.Ka=8) (.i (v3≠0) (.y true (.y true (.s v6))) (.i (v2<2) (.y true (.s v6)) (.i (60<v2) (.s v6) (.z Ykz c.Kb (.l (Z51 c) (Zfi c) [] [.s (li 0)] 0 (.t (.s (lb true)) (.t (.s v6) .q))))))) (.i (c.Ka=9) (.i (1<=v3) (.i (v3<=60) (.i (1<=v2) (.s (lb (decide (v2<=60)))) (.s v6)) v5) (.y false v5)) (.i (c.Ka=10) (.i (v3=0) (.s v7) (.s v6)) (.i (c.Ka=11) (.i (v3=1) (.s v7) (.s v6)) (.s v6)))))))))));let v4:Tq _ _:=.i (c.Na≠0) (.i (c.Ka≠2) (.i (c.Ka≠3) (.i (c.Ka≠4) (.s v6) v1) (.y false v1)) (.y false (.y false v1))) (.y false (.y false (.y false v1)));.w (.draw []) (.z Yke c.Pa (.z Ykz c.Kb (.i (c.Ka≠1) (.c [.rd,.rd] (Zi6 c.Da (Yd.mk 0 0 (mkS []) [])) (.b (!decide (c.Da=Yd.mk 0 0 (mkS []) [])) (.s v6) v4)) (.y false v4))))) (by
 dsimp only[Ykd,Zbd,Yko,Z51]
 have e:Ynu.length=14:=rfl
 with_reducible repeat' (first|apply ah|exact zR|(intro)|apply mIc|apply mOc|apply mSc|apply mLc)
 all_goals ((try simp only[std,inj]at *);with_reducible and_intros)
 all_goals try first|exact z|exact zM|grind[shC,shI,sqC,Ykl,Ykm,Ykf])
abbrev Z1j (c:Yc) (deep:Int) (q:Int):Ct:=⟨34,[.box [vI q]],[Yt3 c,li deep,.y 0],[.box [vI (Ynj c deep q).2]],.sv (lb (Ynj c deep q).1)⟩
def Z44 (c:Yc) (deep:Int) (q:Int):Lp Nat:=let v1:=deep+1;.mk 41 1 (λx=>[(1,li deep),(2,.y 0),(28,Av c.Kb),(29,li (c.Kb.map Ykz).length),(30,hs x 0)]) (λx=>[.box [ha x 1]]) (λk=>[.s (li k),.a (vI (Yl8 (λx m=>Ynj x v1 m) (c.Kb.take k) (q+1)).2)]) (λk=>k<=c.Kb.length/\c.Kb.length<=9223372036854775807/\deep<=150/\(Yl8 (λx m=>Ynj x v1 m) (c.Kb.take k) (q+1)).1/\q<=(Yl8 (λx m=>Ynj x v1 m) (c.Kb.take k) (q+1)).2/\(Yl8 (λx m=>Ynj x v1 m) (c.Kb.take k) (q+1)).2<=3000) (λk=>c.Kb.length - k) [.mk ((Yl8 (λx m=>Ynj x v1 m) c.Kb (q+1)).1) (.exit 0) (λx=>[]) (λx=>[.box [ha x 0]]) [.a (vI (Yl8 (λx m=>Ynj x v1 m) c.Kb (q+1)).2)],.mk ((Yl8 (λx m=>Ynj x v1 m) c.Kb (q+1)).1=false) .ret (λx=>[(6,hs x 0)]) (λx=>[.box [ha x 1]]) [.s (lb false),.a (vI (Yl8 (λx m=>Ynj x v1 m) c.Kb (q+1)).2)]]
theorem Zej (c:Yc) (deep:Int) (q:Int) (h:0<=deep/\deep<=151/\0<=q/\q<=3000) (ih:∀ (z:Yc),z∈c.Kb->∀ (deep q:Int),0<=deep/\deep<=151/\0<=q/\q<=3000->OK (Z1j z deep q)):Lp.Sem prog (Yks f34 0) (Z44 c deep q):=Yl0 (λk=>let v1:=c.Kb.g k;let v2:=c.Kb.take k;let v3:=deep+1;.i ((k:Int)<(c.Kb.map Ykz).length) (.x (k:Int) (c.Kb.map Ykz) (Ymg v1) (.r v3 (.d [.rd,.rd,.ptr] (Z1j v1 v3 (Yl8 (λx m=>Ynj x v3 m) v2 (q+1)).2) (.b (!(Ynj v1 v3 (Yl8 (λx m=>Ynj x v3 m) v2 (q+1)).2).1) (.o 1 [0] [.s (lb false),.a (vI (Ynj v1 v3 (Yl8 (λx m=>Ynj x v3 m) v2 (q+1)).2).2)]) (.r ((k:Int)+1) (.g [0] (k+1) [.s (li ((k:Int)+1)),.a (vI (Ynj v1 v3 (Yl8 (λx m=>Ynj x v3 m) v2 (q+1)).2).2)])))))) (.o 0 [0] [.a (vI (Yl8 (λx m=>Ynj x v3 m) v2 (q+1)).2)])) (by
 intro k h;try dsimp only[Ykd,Yko,Z44]at h|-
 have g1:=λx m=>Y1ik x (deep+1) m
 with_reducible repeat' (first|apply ah|exact zR|exact ih|(intro)|apply mIc|apply mOc|apply mSc|apply mLc|apply ih)
 all_goals ((try simp only[std,inj]at *);with_reducible and_intros)
 all_goals try with_reducible first|apply ih
 all_goals try first|exact z|exact zM|grind[Yx6,Y116,Ykg,Ykl,Ykm,Ykf])
theorem Zi7 (c:Yc) (deep q:Int) (h:0<=deep/\deep<=151/\0<=q/\q<=3000) (ih:∀ z∈c.Kb,∀ (deep:Int) (q:Int) (h:0<=deep/\deep<=151/\0<=q/\q<=3000),Z1j z deep q):Z1j c deep q:=Ykr call34 func34 (let v1:Tq _ _:=.f [] [.box [vI (q+1)]] (.sv (lb false));.r (q+1) (.i (150<deep) (.y true (.y true v1)) (.i (3000<q+1) (.y true v1) (.c [.rd] (Zj6 c) (.b (!shI c) v1 (.z Ykz c.Kb (.l (Z44 c deep q) (Zej c deep q h ih) [0] [.s (li 0),.a (vI (q+1))] 0 (.t (.f [] [.box [vI (Yl8 (λx m=>Ynj x (deep+1) m) c.Kb (q+1)).2]] (.sv (lb true))) (.t (.f [] [.box [vI (Yl8 (λx m=>Ynj x (deep+1) m) c.Kb (q+1)).2]] (.sv (lb false))) .q))))))))) (by
 dsimp only[Ykd,Z1j,Yko,Z44]
 with_reducible repeat' (first|apply ah|exact zR|exact ih|(intro)|apply mIc|apply mOc|apply mSc|apply mLc)
 all_goals ((try simp only[std,inj]at *);with_reducible and_intros)
 all_goals try with_reducible first|apply ih
 all_goals try first|exact z|exact zM|grind[Y1id,Yl8,Ykl,Ykm,Ykf])
theorem Z67 (c:Yc):∀ (deep:Int) (q:Int) (h:0<=deep/\deep<=151/\0<=q/\q<=3000),Z1j c deep q:=Yc.ind (P:=λc=>∀ (deep:Int) (q:Int) (h:0<=deep/\deep<=151/\0<=q/\q<=3000),Z1j c deep q) (λc ih deep q h=>Zi7 c deep q h ih) c
abbrev Zcu (Ls:List (List Int)):Ct:=⟨35,[],[ll (Ls.map Yud)],[],.sv (lb (okU Ls.flatten))⟩
def Z5v (Ls:List (List Int)) (k:Nat):Lp Nat:=let v1:=Ls.getD k [];let v2:=(10,li (Ls.map Yud).length);.mk 37 0 (λx=>[(3,.one (.mref 0)),(9,ll (Ls.map Yud)),v2,(11,li k),(15,Ag v1),(16,li (v1.map Yke).length),(17,hs x 0)]) (λx=>[ho x 1]) (λk1=>[.s (li (k1:Int)),.o (.map false kI (mI (Ylz ((Ls.take k).flatten++v1.take k1))))]) (λk1=>k1<=v1.length/\v1.length<=9223372036854775807/\k<Ls.length/\okU ((Ls.take k).flatten++v1.take k1)) (λk1=>v1.length - k1) [.mk (okU (List.take (k+1) Ls).flatten) (.exit 2) (λx=>[(3,.one (.mref 0)),(9,ll (Ls.map Yud)),v2,(11,li k)]) (λx=>[ho x 0]) [.o (.map false kI (mI (Ylz (List.take (k+1) Ls).flatten)))],.mk (okU Ls.flatten=false) .ret (λx=>[(2,hs x 0)]) (λx=>[]) [.s (lb false)]]
def Z5w (Ls:List (List Int)):Lp Nat:=.mk 37 0 (λx=>[(3,.one (.mref 0)),(9,ll (Ls.map Yud)),(10,li (Ls.map Yud).length),(11,hs x 0)]) (λx=>[ho x 1]) (λk=>[.s (li k),.o (.map false kI (mI (Ylz (Ls.take k).flatten)))]) (λk=>k<=Ls.length/\Ls.length<=9223372036854775807/\okU (Ls.take k).flatten) (λk=>Ls.length - k) [.mk (okU Ls.flatten) (.exit 0) (λx=>[]) (λx=>[]) [],.mk (okU Ls.flatten=false) .ret (λx=>[(2,hs x 0)]) (λx=>[]) [.s (lb false)]]
theorem Zgv (Ls:List (List Int)) (k:Nat):Lp.Sem prog (Yks f35 1) (Z5v Ls k):=Yl0 (λk1=>let v3:=Ls.getD k [];let v1:=(Ls.take k).flatten++v3.take k1;let v2:=v3.getD k1 0;let v4:=mI (Yoy (Ylz v1) v2 1);.i ((k1:Int)<((v3.map Yke).length:Int)) (.x (k1:Int) (v3.map Yke) [cI v2] (.i (v3.getD k1 (0:Int)<0) (.y true (.y true (.o 1 [] [.s (lb false)]))) (.i (99999<v3.getD k1 0) (.y true (.o 1 [] [.s (lb false)])) (.w (.cells [cI (Ylz v1 v2)]) (.p (Yp3 (Value.int IntKind.i64 0) (mI (Ylz v1)) (Value.int IntKind.i64 v2) (cI (Ylz v1 v2))) (.i (Ylz v1 v2=1) (.o 1 [] [.s (lb false)]) (.w (.upd v4) (.p (false=false) (.p (Ypy kI.d (mI (Ylz v1)) v4 (Value.int IntKind.i64 v2) (some (cI 1))) (.r ((k1:Int)+1) (.g [0] (k1+1) [.s (li ((k1:Int)+1)),.o (.map false kI v4)]))))))))))) (.o 0 [0] [.o (.map false kI (mI (Ylz v1)))])) (by
 intro k1 h;try dsimp only[Ykd,Yko,Z5v]at h|-
 have g1:=@Y1qk Ls k (k1+1)
 have g2:=@Y22q (Ls.getD k []) k1
 have g3:=@Y1qz ((Ls.take k).flatten++(Ls.getD k []).take k1) ((Ls.getD k []).getD k1 0)
 have g4:=@Y1t9 ((Ls.take k).flatten++(Ls.getD k []).take k1) ((Ls.getD k []).getD k1 0)
 have g5:∀ j,(Ls.getD k []).length<=j->(Ls.getD k []).take j=Ls.getD k []:=λj h=>av h
 with_reducible repeat' (first|apply ah|exact zR|(intro)|apply mIc|apply mOc|apply mSc|apply mLc)
 all_goals ((try simp only[std,inj]at *);with_reducible and_intros)
 all_goals try first|exact z|exact zM|grind[Y1c0,Y11m,List.append_assoc,Ykl,Ykm,Ykf])
theorem Zgw (Ls:List (List Int)):Lp.Sem prog (Yks f35 0) (Z5w Ls):=Yl0 (λk=>.i ((k:Int)<(Ls.map Yud).length) (.x (k:Int) (Ls.map Yud) [.Ao (Ls.getD k [])] (.z Yke (Ls.getD k []) (.l (Z5v Ls k) (Zgv Ls k) [0] [.s (li 0),.o (.map false kI (mI (Ylz (Ls.take k).flatten)))] 0 (.t (.r ((k:Int)+1) (.g [0] (k+1) [.s (li ((k:Int)+1)),.o (.map false kI (mI (Ylz (List.take (k+1) Ls).flatten)))])) (.t (.o 1 [] [.s (lb false)]) .q))))) (.o 0 [] [])) (by
 intro k h;try dsimp only[Ykd,Yko,Z5w,Z5v]at h|-
 with_reducible repeat' (first|apply ah|exact zR|(intro)|apply mIc|apply mOc|apply mSc|apply mLc)
 all_goals ((try simp only[std,inj]at *);with_reducible and_intros)
 all_goals try first|exact z|exact zM|grind[Y1c0,Ykl,Ykm,Ykf])
theorem Zjr (Ls:List (List Int)):Zcu Ls:=Ykr call35 func35 (.w (.mkmap kI) (.z Yud Ls (.l (Z5w Ls) (Zgw Ls) [0] [.s (li 0),.o (.map false kI (mI zI))] 0 (.t (.s (lb true)) (.t (.s (lb false)) .q))))) (by
 dsimp only[Ykd,Zcu,Yko,Z5w]
 with_reducible repeat' (first|apply ah|exact zR|(intro)|apply mIc|apply mOc|apply mSc|apply mLc)
 all_goals ((try simp only[std,inj]at *);with_reducible and_intros)
 all_goals try first|exact z|exact zM|grind[Y150,Y1vx,Ykl,Ykm,Ykf])
abbrev Z7u (c:Yc) (G:List Int):Ct:=⟨12,[],[Yt3 c,Ag G],[],.sv (lb (Yws c G))⟩
def Z45 (c:Yc) (G:List Int):Lp Nat:=let v1:=fre c [] [];.mk 44 0 (λx=>[(6,.one (.mref 0)),(33,.r 1),(34,li (v1.map Yke).length),(35,hs x 0)]) (λx=>[.map false kI (mI (Ylz G)),.Aa v1]) (λk=>[.s (li k)]) (λk=>k<=v1.length/\v1.length<=9223372036854775807/\((v1.take k).all λn=>decide (n∈G))=true) (λk=>v1.length - k) [.mk ((v1.all λn=>decide (n∈G))=true) (.exit 2) (λx=>[]) (λx=>[]) [],.mk ((v1.all λn=>decide (n∈G))=false) .ret (λx=>[(4,hs x 0)]) (λx=>[]) [.s (lb false)]]
def Z46 (c:Yc) (G:List Int):Lp Nat:=.mk 44 0 (λx=>[(2,.y 0),(6,.one (.mref 1)),(23,Ag G),(24,li (G.map Yke).length),(25,hs x 0)]) (λx=>[.box (vals (Ymg c)),ho x 1]) (λk=>[.s (li k),.o (.map false kI (mI (Ylz (G.take k))))]) (λk=>k<=G.length/\G.length<=9223372036854775807) (λk=>G.length - k) [.mk True (.exit 0) (λx=>[(2,.y 0),(6,.one (.mref 1))]) (λx=>[.box (vals (Ymg c)),ho x 0]) [.o (.map false kI (mI (Ylz G)))]]
theorem Zek (c:Yc) (G:List Int) (h:wC c<=100000000/\G.length<=200000000):Lp.Sem prog (Yks f12 1) (Z45 c G):=Yl0 (λk=>let v2:=fre c [] [];let v1:=v2.getD (k:Int).toNat 0;.i ((k:Int)<(v2.map Yke).length) (.p (0<=(k:Int)/\(k:Int).toNat<(v2.map Yke).length) (.w (.cells (Yke (v2.g (k:Int).toNat))) (.p ((v2.map Yke)[(k:Int).toNat]? = some [cI v1]) (.w (.cells [cI (Ylz G v1)]) (.p (Yp3 (Value.int IntKind.i64 0) (mI (Ylz G)) (Value.int IntKind.i64 v1) (cI (Ylz G v1))) (.i (Ylz G v1=0) (.o 1 [] [.s (lb false)]) (.r ((k:Int)+1) (.g [0,1] (k+1) [.s (li ((k:Int)+1))])))))))) (.o 0 [] [])) (by
 intro k h;try dsimp only[Ykd,Yko,Z45]at h|-
 with_reducible repeat' (first|apply ah|exact zR|(intro)|apply mIc|apply mOc|apply mSc|apply mLc|apply Z67|apply Z2l|apply Z66)
 all_goals ((try simp only[std,inj]at *);with_reducible and_intros)
 all_goals try with_reducible first|apply Z67|apply Z2l|apply Z66
 all_goals try first|exact z|exact zM|grind[Yku,Y19f,Ykl,Ykm,Ykf])
theorem Zel (c:Yc) (G:List Int) (h:wC c<=100000000/\G.length<=200000000):Lp.Sem prog (Yks f12 0) (Z46 c G):=Yl0 (λk=>let v2:=Ylz (G.take k);let v1:=mI (Yoy v2 (G.getD k 0) 1);.i ((k:Int)<(G.map Yke).length) (.x (k:Int) (G.map Yke) [cI (G.getD k 0)] (.w (.upd v1) (.p (false=false) (.p (Ypy kI.d (mI v2) v1 (Value.int IntKind.i64 (G.getD k 0)) (some (cI 1))) (.r ((k:Int)+1) (.g [0,1] (k+1) [.s (li ((k:Int)+1)),.o (.map false kI v1)])))))) (.o 0 [0,1] [.o (.map false kI (mI v2))])) (by
 intro k h;try dsimp only[Ykd,Yko,Z46]at h|-
 with_reducible repeat' (first|apply ah|exact zR|(intro)|apply mIc|apply mOc|apply mSc|apply mLc|apply Z67|apply Z2l|apply Z66)
 all_goals ((try simp only[std,inj]at *);with_reducible and_intros)
 all_goals try with_reducible first|apply Z67|apply Z2l|apply Z66
 all_goals try first|exact z|exact zM|grind[Yku,Y11m,Ykl,Ykm,Ykf,Ykg])
theorem Z9d (c:Yc) (G:List Int) (h:wC c<=100000000/\G.length<=200000000):Z7u c G:=Ykr call12 func12 (.d [.rd,.rd,.ptr] (Z1j c 1 0) (.b (!(Ynj c 1 0).1) (.y true (.s (lb false))) (.d [.rd] (Z6h c) (.c [.rd] (Zjr [G,bnd c]) (.b (!okU [G,bnd c].flatten) (.s (lb false)) (.w (.mkmap kI) (.z Yke G (.l (Z46 c G) (Zel c G h) [0,3] [.s (li 0),.o (.map false kI (mI zI))] 0 (.t (.d [.rd] (Z9c c) (.z Yke (fre c [] []) (.l (Z45 c G) (Zek c G h) [1,2] [.s (li 0)] 0 (.t (.s (lb true)) (.t (.s (lb false)) .q))))) .q))))))))) (by
 dsimp only[Ykd,Z7u,Yko,Z46,Z45]
 have g1:=Y1yu c
 have g2:=Y1ho c [] []
 with_reducible repeat' (first|apply ah|exact zR|(intro)|apply mIc|apply mOc|apply mSc|apply mLc|apply Z67|apply Z2l|apply Z66)
 all_goals ((try simp only[std,inj]at *);with_reducible and_intros)
 all_goals try with_reducible first|apply Z67|apply Z2l|apply Z66
 all_goals try first|exact z|exact zM|grind[Yws,Y1vg,Y150,Ykl,Ykm,Ykf])
def Y24t (u:Unit) (G:List Int):Bool:=Y22j u.name&&okU (G++u.globals)&&Yws u.body (G++u.globals)
end
section
abbrev globals (L:List Unit):List Int:=L.flatMap Unit.globals
end
section
instance memDec (s:ByteArray) (L:List ByteArray):Decidable (s∈L):=@List.instDecidableMemOfLawfulBEq ByteArray instBEqOfDecidableEq _ s L
def inS (L:List ByteArray) (s:ByteArray):Bool:=decide (s∈L)
def Y1q8 (s:ByteArray):Yd:=⟨1,0,s,[]⟩
theorem Y1td {s:ByteArray}:Yo1 s->(s.size:Int)<=16:=by
 unfold Yo1;simp only[af,ak];intro h;exact h.1.1.1.2
end
def Y1z9 (L:List Unit):List ByteArray:=L.map Unit.name
def prt (u:Unit):Nat:=if u.body.Ka=8 then u.body.Kb.length else 1
def uOK (L:List Unit) (k:Nat):Bool := !inS (Y1z9 (L.take k)) (L.g k).name&&Y24t (L.g k) (globals (L.take k))&&decide (Yoj (L.g k).body<150)
def okT (L:List Unit) (k:Nat):Bool:=(List.range k).all (uOK L)
def apart (L:List Unit):List Int:=L.flatMap λu=>u.globals++bnd u.body
def szU (u:Unit):Nat:=Yl9 u.body
def Y24r (L:List Unit):Bool:=okT L L.length&&decide (L.length<=12)&&decide ((globals L).length<=60)&&decide (sumBy szU L+1<=3000)&&decide (sumBy prt L<=60)&&okU (apart L)
theorem Y1ri {o:List Int}{m n:Int}:n∈Ytx o m ↔ n∈o\/n=m:=by unfold Ytx;grind
theorem Y145 {c:Yc}{b o:List Int}{n:Int}:n∈Yox c b o ↔ n∈o\/((c.Ka=2\/c.Ka=4)/\n=c.Na/\n∉b):=by
 unfold Yox;split
 ·rename_i h;rw[Y1ri];constructor
  ·rintro(a|a)
   ·exact .inl a
   ·exact .inr ⟨h.1,a,by rw[a];exact h.2⟩
  ·rintro(a|a)
   ·exact .inl a
   ·exact .inr a.2.1
 ·rename_i h;constructor
  ·exact .inl
  ·rintro(a|a)
   ·exact a
   ·exact absurd ⟨a.1,by rw[<- a.2.1];exact a.2.2⟩ h
theorem Ywz {B:List Int}:∀ (L:List Yc),(∀ x∈L,∀ b o n,n∈fre x b o ↔ n∈o\/(n∉b/\n∈fre x [] []))->∀ o n,n∈L.foldl (λo x=>fre x B o) o ↔ n∈o\/∃ x∈L,n∉B/\n∈fre x [] []
 | [],_,o,n=>by simp
 | x :: r,h,o,n=>by
  rw[bL,Ywz r (λy hy=>h y (ai _ hy)),h x aj]
  constructor
  ·rintro((a|a)|⟨y,hy,a⟩)
   ·exact .inl a
   ·exact .inr ⟨x,aj,a⟩
   ·exact .inr ⟨y,ai _ hy,a⟩
  ·rintro(a|⟨y,hy,a⟩)
   ·exact .inl (.inl a)
   ·rcases List.mem_cons.1 hy with rfl|hy
    ·exact .inl (.inr a)
    ·exact .inr ⟨y,hy,a⟩
theorem Y1va:∀ (c:Yc) (b o:List Int) (n:Int),n∈fre c b o ↔ n∈o\/(n∉b/\n∈fre c [] []):=by
 refine Yc.ind λc ih b o n => ?_
 rw[Y11k,Y11k c [] [],Ywz c.Kb ih,Ywz c.Kb ih,Y145,Y145]
 simp only[aA,bt,cV,false_or,not_false_eq_true,dQ,not_or]
 constructor
 ·rintro((a|a)|⟨x,hx,a⟩)
  ·exact .inl a
  ·exact .inr ⟨a.2.2,.inl ⟨a.1,a.2.1⟩⟩
  ·exact .inr ⟨a.1.1,.inr ⟨x,hx,a.1.2,a.2⟩⟩
 ·rintro(a|⟨nb,a|⟨x,hx,a⟩⟩)
  ·exact .inl (.inl a)
  ·exact .inl (.inr ⟨a.1,a.2,nb⟩)
  ·exact .inr ⟨x,hx,⟨nb,a.1⟩,a.2⟩
theorem Yt4 (c:Yc) (n:Int):n∈fre c [] [] ↔ ((c.Ka=2\/c.Ka=4)/\n=c.Na)\/∃ x∈c.Kb,n∉c.Pa/\n∈fre x [] []:=by
 rw[Y11k,Ywz c.Kb (λx _=>Y1va x),Y145];simp
abbrev d0:Yd:=⟨0,0,mkS [],[]⟩
def Yr4 (x:Yc):List Yc:=if x.Ka=8 then x.Kb else [x]
def Yls (K:List Yc):List Yc:=K.flatMap Yr4
def Yxg (K:List Yc):Yc:=if (Yls K).length=1 then (Yls K).g 0 else ⟨8,0,[],d0,Yls K⟩
theorem Y1zx {x:Yc}(h:okC x) (hk:x.Ka=8):x.Pa=[]/\2<=x.Kb.length/\(∀ y∈x.Kb,okC y/\¬ y.Ka=8):=by
 rw[Yyr]at h
 simp only[shI,shC,sqC,hk,af,am]at h
 simp at h
 refine⟨?_,by omega,λy hy=>⟨h.1 y hy,h.2.2 y hy⟩⟩
 have:=h.2.1.2
 simpa using this.2
theorem Y1vf {x:Yc}(h:okC x):1<=(Yr4 x).length/\(∀ y∈Yr4 x,okC y/\¬ y.Ka=8/\Yoj y<=Yoj x/\∀ n∈fre y [] [],n∈fre x [] [])/\sumBy Yl9 (Yr4 x)<=Yl9 x/\(Yr4 x).flatMap bnd=bnd x:=by
 unfold Yr4
 split
 ·rename_i hk
  obtain⟨hp,hl,hy⟩:=Y1zx h hk
  refine⟨by omega,λy m=>⟨(hy y m).1,(hy y m).2,?_,λn hn => ?_⟩,?_,?_⟩
  ·have:=Ysl Yoj m
   have e:=Y12e x
   omega
  ·rw[Yt4 x];exact .inr ⟨y,m,by rw[hp];simp,hn⟩
  ·rw[Yoh];omega
  ·rw[Ywb,hp];simp
 ·rename_i hk
  refine⟨by simp,λy m => ?_,by simp[sumBy],by simp⟩
  simp only[ao]at m;subst m
  exact⟨h,hk,aD _,λn hn=>hn⟩
theorem Y1im:∀ (K:List Yc),(∀ x∈K,okC x)->K.length<=(Yls K).length/\(∀ y∈Yls K,okC y/\¬ y.Ka=8/\∃ x∈K,Yoj y<=Yoj x/\∀ n∈fre y [] [],n∈fre x [] [])/\sumBy Yl9 (Yls K)<=sumBy Yl9 K/\(Yls K).flatMap bnd=K.flatMap bnd
 | [],_=>by simp[Yls,sumBy]
 | x :: r,h=>by
  obtain⟨a1,a2,a3,a4⟩:=Y1vf (h x aj)
  obtain⟨b1,b2,b3,b4⟩:=Y1im r λy hy=>h y (ai _ hy)
  have e:Yls (x :: r)=Yr4 x++Yls r:=by simp[Yls]
  rw[e]
  refine⟨by simp only[aE,ax];omega,λy hy => ?_,by rw[Yo4];simp only[sumBy];omega,by rw[List.flatMap_append,a4,b4];simp⟩
  rcases List.mem_append.1 hy with m|m
  ·obtain⟨c1,c2,c3,c4⟩:=a2 y m
   exact⟨c1,c2,x,aj,c3,c4⟩
  ·obtain⟨c1,c2,z,hz,c3⟩:=b2 y m
   exact⟨c1,c2,z,ai _ hz,c3⟩
theorem Y1la {K:List Yc}{k:Nat}(hk:k<K.length):Yls (K.take (k+1))=Yls (K.take k)++Yr4 (K.g k):=Y19x Yr4 hk
theorem Y1f9 (K:List Yc) (k:Nat):(Yls (K.take k)).length<=(Yls K).length:=Y13y Yr4 K k
abbrev Y16g (x:Yc):List Cell:=[cI x.Ka,cI x.Na,.any,cI x.Da.Ka,cI x.Da.Na,cS x.Da.Ta,.any,.any]
abbrev Yzg (K:List Yc) (u:Nat):List (List Cell):=(K.take u).map Y16g++(K.drop u).map Ykz
theorem Y1mf (K:List Yc):Yzg K 0=K.map Ykz:=by simp[Yzg]
theorem Y1q5 (K:List Yc) (u:Nat):(Yzg K u).length=K.length:=by simp[Yzg,au,ay];omega
theorem Y1ss {K:List Yc}{u:Nat}(h:u<K.length):(Yzg K u)[u]? = some (Ykz (K.g u)):=by
 simp[Yzg,aq,bZ,au,aX,h,bU (dh h)]
theorem Y1o1 {K:List Yc}{u:Nat}(h:u<K.length):(Yzg K u).set u (Y16g (K.g u))=Yzg K (u+1):=by
 apply cE
 intro j
 simp only[Yzg,bO,bZ,aN,au,ax,ay,bc,aV,aX,aq,bU (dh h),bU (show u+1<=K.length from h)]
 by_cases h1:u=j
 ·subst h1;simp[h];omega
 ·rw[ab h1]
  by_cases h2:j<u
  ·rw[ae h2,ae h2,ae oW,ae oW]
  ·rw[ab h2,ab oW];congr 2;omega
theorem Y22e (K:List Yc):Yls (K.take 0)=[]:=rfl
theorem Y1pq {K:List Yc}{u:Nat}(h:u<K.length):((K.take u).map Y16g++(K.drop u).map Ykz)[u]? = some (Ymg (K.g u)):=by
 rw[<- Row.eq (C:=Ykz) (F:=Ymg)];exact Y1ss h
attribute [irreducible] Y24r
theorem Y1se {n:Nat}(h:n<9223372036854775808):IntKind.wrap .i64 (n:Int)=n:=by
 apply Yth;rw[Y1j4];omega
theorem Y158 {x:Int}{m:Nat}(hm:m<9223372036854775808):0<=Ys6 .i64 x m/\Ys6 .i64 x m<=m:=by
 unfold Ys6
 have h1:(BitVec.ofInt (IntKind.bits .i64) x &&& BitVec.ofInt (IntKind.bits .i64) (m:Int)).toNat<=m:=by
  rw[BitVec.toNat_and]
  refine a9 Nat.and_le_right ?_
  rw[BitVec.toNat_ofInt]
  have e:((m:Int) % ((2 ^ IntKind.bits .i64:Nat):Int)).toNat=m:=by
   have:((2 ^ IntKind.bits .i64:Nat):Int)=18446744073709551616:=by decide
   rw[this];omega
  rw[e];exact aD _
 rw[Y1se oW]
 omega
structure Cr where
 b:List UInt8
 i:Nat
 h:Int
instance:Inhabited Cr:=⟨⟨[],0,0⟩⟩
def crO (c:Cr):Ob:=.box [vL (c.b.map Ym0),vI (c.i:Nat),vI c.h]
def hN (b:List UInt8):Nat->Int
 | 0=>3220+(b.length:Int)
 | k+1=>Ys6 .i64 (hN b k * 1103+((b.getD k 0).toNat:Int)+7) 1073741823
theorem Y23d {b:List UInt8}(h:b.length<=1048576):∀ k,0<=hN b k/\hN b k<=1073741823
 | 0=>by unfold hN;omega
 | k+1=>by unfold hN;exact Y158 (m:=1073741823) dW
def Yxt (b:List UInt8):Cr:=⟨b,0,hN b (min b.length 4000)⟩
def nxH (c:Cr):Int:=wI .i64 (wI .i64 (c.h * 6364136223846793005)+1442695040888963407)
def nwR (c:Cr):Int:=Ys6 .i64 (Y1f4 .i64 (Y10y .i64 (nxH c) 33) (Y10y .i64 (nxH c) 45)) 255
def Ysb {α:Type}(x:α):α:=if System.Platform.numBits=64 then x else x
theorem Ynv {α:Type}(x:α):Ysb x=x:=by unfold Ysb;split<;>rfl
def Y1l0 (c:Cr):Int:=if (c.i:Int)<(c.b.length:Int) then Ys6 .i64 (nwR c+((c.b.getD c.i 0).toNat:Int)) 255 else nwR c
def Y20k (c:Cr):Cr:=⟨c.b,if (c.i:Int)<(c.b.length:Int) then c.i+1 else c.i,nxH c⟩
def nxX (c:Cr):Int:=Ysb (Y1l0 c)
def nxC (c:Cr):Cr:=Ysb (Y20k c)
theorem Y1nx (c:Cr):nxX c=Y1l0 c:=Ynv _
theorem Y1cz (c:Cr):nxC c=Y20k c:=Ynv _
theorem Y1ph (c:Cr):0<=nwR c/\nwR c<=255:=Y158 (m:=255) dW
theorem Yus (c:Cr):0<=nxX c/\nxX c<=255:=by
 rw[Y1nx];unfold Y1l0;split
 ·exact Y158 (m:=255) dW
 ·exact Y1ph c
def okK (c:Cr):Prop:=c.b.length<=1048576
theorem Yyh {c:Cr}(h:okK c):okK (nxC c):=by rw[Y1cz];exact h
theorem Y1ie {b:List UInt8}(h:b.length<=1048576):okK (Yxt b):=h
def Y204 (c:Cr):Int:=nxX c * 16777216+nxX (nxC c) * 65536+nxX (nxC (nxC c)) * 256+nxX (nxC (nxC (nxC c)))
def Y1f5 (c:Cr) (n:Int):Int:=if n<=0 then 0 else if n<=256 then (nxX c).tmod n else (Y204 c).tmod n
def Y1dn (c:Cr) (n:Int):Cr:=if n<=0 then c else if n<=256 then nxC c else nxC (nxC (nxC (nxC c)))
def beX (c:Cr) (n:Int):Int:=Ysb (Y1f5 c n)
def beC (c:Cr) (n:Int):Cr:=Ysb (Y1dn c n)
theorem Y15f (c:Cr) (n:Int):beX c n=Y1f5 c n:=Ynv _
theorem Y17l (c:Cr) (n:Int):beC c n=Y1dn c n:=Ynv _
theorem Ylv {c:Cr}{n:Int}(h:okK c):okK (beC c n):=by
 rw[Y17l];unfold Y1dn;split
 ·exact h
 ·split
  ·exact Yyh h
  ·exact Yyh (Yyh (Yyh (Yyh h)))
theorem Y1he {a n:Int}(ha:0<=a) (hn:0<n):0<=a.tmod n/\a.tmod n<n:=⟨Int.tmod_nonneg _ ha,Int.tmod_lt_of_pos _ hn⟩
theorem Yri (c:Cr) {n:Int}(hn:0<n):0<=beX c n/\beX c n<n:=by
 have h1:=Yus c;have h2:=Yus (nxC c);have h3:=Yus (nxC (nxC c));have h4:=Yus (nxC (nxC (nxC c)))
 rw[Y15f];unfold Y1f5;rw[ab oW];split
 ·exact Y1he h1.1 hn
 ·exact Y1he (by unfold Y204;omega) hn
theorem Y1rh {c:Cr}{n:Int}(hn:n<=0):beX c n=0:=by rw[Y15f];exact ae hn
theorem Y24h {c:Cr}{n:Int}(hn:n<=0):beX c n=0/\beC c n=c:=⟨Y1rh hn,by rw[Y17l];exact ae hn⟩
theorem Y25f {c:Cr}{n:Int}(h0:¬ n<=0) (hn:n<=256):beX c n=(nxX c).tmod n/\beC c n=nxC c:=
 ⟨by rw[Y15f];unfold Y1f5;rw[ab h0,ae hn],by rw[Y17l];unfold Y1dn;rw[ab h0,ae hn]⟩
theorem Y257 {c:Cr}{n:Int}(h0:¬ n<=0) (hn:¬ n<=256):beX c n=(nxX c * 16777216+nxX (nxC c) * 65536+nxX (nxC (nxC c)) * 256+nxX (nxC (nxC (nxC c)))).tmod n/\beC c n=nxC (nxC (nxC (nxC c))):=
 ⟨by rw[Y15f];unfold Y1f5;rw[ab h0,ab hn];rfl,by rw[Y17l];unfold Y1dn;rw[ab h0,ab hn]⟩
structure YS where
 Ba:List YB
 Ma:List YR_
 Sb:Int
 Va:Int
 Sc:Int
 z:Int
instance:Inhabited YS:=⟨⟨[],[],0,0,0,0⟩⟩
abbrev YS.x (m:YS):YE:=⟨m.Ba,m.Ma,m.Sb,m.Va,m.Sc⟩
structure YR (α:Type) where
 v:α
 e:Int
 m:YS
mutual
/-- a syntax object as a Da -/
def yDt:YS_->Yd
 | ⟨k,n,t,_,l⟩=>⟨k,n,t,Y1ez l⟩
def Y1ez:List YS_->List Yd
 | []=>[]
 | x :: r=>yDt x :: Y1ez r
end
theorem Y1in:∀ l,Y1ez l=l.map yDt
 | []=>by simp[Y1ez]
 | x :: r=>by rw[Y1ez,Y1in r];rfl
theorem Y1m8 (s:YS_):yDt s=⟨s.Ka,s.Na,s.Ta,s.Ia.map yDt⟩:=by cases s;simp only[yDt,Y1in]
def yN:Yc:=⟨0,0,[],⟨0,0,mkS [],[]⟩,[]⟩
abbrev yK (k n:Int) (P:List Int) (K:List Yc):Yc:=⟨k,n,P,⟨0,0,mkS [],[]⟩,K⟩
abbrev yCn (m:YS):YS:=⟨m.Ba,m.Ma,m.Sb,m.Va,m.Sc,m.z+1⟩
abbrev ySc (k:Int) (m:YS):YS:=⟨m.Ba,m.Ma,nxS m.Sb k,m.Va,m.Sc,m.z⟩
def yVr (id:YS_) (m:YS):YR Int:=
 if bvE m.x id=0 then ⟨m.Va+1,0,⟨m.Ba++[⟨id.Ta,id.Sa,3,m.Va+1⟩],m.Ma,m.Sb,m.Va+1,m.Sc,m.z⟩⟩ else ⟨0,bvE m.x id,m⟩
def yMc (id:YS_) (r:YR_) (m:YS):YR Int:=
 if bmE m.x id=0 then ⟨0,0,⟨m.Ba++[⟨id.Ta,id.Sa,4,(m.Ma.length:Int)⟩],m.Ma++[r],m.Sb,m.Va,m.Sc,m.z⟩⟩ else ⟨0,bmE m.x id,m⟩
def ySt (n:Int) (s:YS_) (m:YS):YR YS_:=⟨Yob m.x n s,Ymv m.x n s,
 ⟨m.Ba,m.Ma,if m.Sc=0 then m.Sb else if nxR m.Sb 3<=99999 then nxS (scA m.x) 2 else m.Sb,m.Va,if m.Sc=0 then 0 else m.Sc - 1,m.z⟩⟩
def yRe (L:List YB) (t:ByteArray) (s:List Int):Int:=if rsC L t s=0 then 2 else if rsC L t s=2 then 3 else 0
section
variable {α β:Type}
def Yoi (f:α->YS->YR β) (a:YR (List β)) (s:α):YR (List β):=
 if a.e=0 then (if (f s a.m).e=0 then ⟨a.v++[(f s a.m).v],0,(f s a.m).m⟩ else ⟨[],(f s a.m).e,(f s a.m).m⟩) else a
def Ykj (f:α->YS->YR β) (L:List α) (m:YS):YR (List β):=L.foldl (Yoi f) ⟨[],0,m⟩
end
def Yqn (L:List YS_):Bool:=L.all λs=>decide (s.Ka=1)
def yAd (n:Int) (L:List YS_):List YS_:=L.map (Ykw (Yl7 n))
def yPr (P:List YS_) (most:Int) (B:List YS_) (m:YS):YR (List Int×List YS_):=
 if Yqn P=false then ⟨([],[]),1,m⟩ else if most<(P.length:Int) then ⟨([],[]),8,m⟩
 else if cdN m.Sb 1=0 then
  (if (Ykj yVr (yAd (nxt m.Sb 1) P) (ySc 1 m)).e=0 then ⟨((Ykj yVr (yAd (nxt m.Sb 1) P) (ySc 1 m)).v,yAd (nxt m.Sb 1) B),0,(Ykj yVr (yAd (nxt m.Sb 1) P) (ySc 1 m)).m⟩ else ⟨([],[]),(Ykj yVr (yAd (nxt m.Sb 1) P) (ySc 1 m)).e,(Ykj yVr (yAd (nxt m.Sb 1) P) (ySc 1 m)).m⟩)
 else ⟨([],[]),cdN m.Sb 1,ySc 1 m⟩
def yPc (b:List YS_->YS->YR Yc) (k:Int) (P B:List YS_) (m:YS):YR Yc:=
 if (yPr P 8 B m).e=0 then
  (if (b (yPr P 8 B m).v.2 (yPr P 8 B m).m).e=0 then ⟨yK k 0 (yPr P 8 B m).v.1 [(b (yPr P 8 B m).v.2 (yPr P 8 B m).m).v],0,(b (yPr P 8 B m).v.2 (yPr P 8 B m).m).m⟩ else ⟨yN,(b (yPr P 8 B m).v.2 (yPr P 8 B m).m).e,(b (yPr P 8 B m).v.2 (yPr P 8 B m).m).m⟩)
 else ⟨yN,(yPr P 8 B m).e,(yPr P 8 B m).m⟩
def sqE (K:List Yc):Int:=if 60<((Yls K).length:Int) then 8 else 0
def sqV (K:List Yc):Yc:=if sqE K=0 then Yxg K else yN
def yLo (B:List YB) (x:YS_):Bool:=decide (x.Ka=0)&&decide ((x.Ia.length:Int)=2)&&decide ((x.Ia.g 0).Ka=1)&&Ym5 B (x.Ia.g 1)
def yM1 (n:Int) (x:YS_) (m:YS):YR Int:=yMc (Ykw (Yl7 n) (x.Ia.g 0)) (Ylb (x.Ia.g 1)) m
def yLs (b:List YS_->YS->YR Yc) (L B:List YS_) (m:YS):YR Yc:=
 if cdN m.Sb 1=0 then
  (if L.all (yLo m.Ba) then
   (if (Ykj (yM1 (nxt m.Sb 1)) L (ySc 1 m)).e=0 then b (yAd (nxt m.Sb 1) B) (Ykj (yM1 (nxt m.Sb 1)) L (ySc 1 m)).m else ⟨yN,(Ykj (yM1 (nxt m.Sb 1)) L (ySc 1 m)).e,(Ykj (yM1 (nxt m.Sb 1)) L (ySc 1 m)).m⟩) else ⟨yN,1,ySc 1 m⟩)
 else ⟨yN,cdN m.Sb 1,ySc 1 m⟩
def yTo {α:Type}(g:α->Yc) (r:YR α):YR Yc:=if r.e=0 then ⟨g r.v,0,r.m⟩ else ⟨yN,r.e,r.m⟩
def yFm (f:YS_->YS->YR Yc) (b:List YS_->YS->YR Yc) (k:Int) (s:YS_) (m:YS):YR Yc:=
 if k=0 then (if (s.Ia.length:Int)=2 then (if Yn6 (yDt (s.Ia.g 1)) then ⟨⟨1,0,[],yDt (s.Ia.g 1),[]⟩,0,m⟩ else ⟨yN,8,m⟩) else ⟨yN,1,m⟩)
 else if k=2 then (if (s.Ia.length:Int)=4 then yTo (yK 7 0 []) (Ykj f (s.Ia.drop 1) m) else ⟨yN,1,m⟩)
 else if k=4 then (if (s.Ia.length:Int)<2 then ⟨yN,1,m⟩
  else if (Ykj f (s.Ia.drop 1) m).e=0 then ⟨sqV (Ykj f (s.Ia.drop 1) m).v,sqE (Ykj f (s.Ia.drop 1) m).v,(Ykj f (s.Ia.drop 1) m).m⟩ else ⟨yN,(Ykj f (s.Ia.drop 1) m).e,(Ykj f (s.Ia.drop 1) m).m⟩)
 else if k=1 then (if (s.Ia.length:Int)<3\/¬ (s.Ia.g 1).Ka=0 then ⟨yN,1,m⟩ else yPc b 5 (s.Ia.g 1).Ia (s.Ia.drop 2) m)
 else if k=6 then (if (s.Ia.length:Int)<3 then ⟨yN,1,m⟩ else yPc b 11 ((s.Ia.drop 1).take 1) (s.Ia.drop 2) m)
 else if k=11 then (if (s.Ia.length:Int)<3\/¬ (s.Ia.g 1).Ka=0\/(s.Ia.g 1).Ia.length=0 then ⟨yN,1,m⟩
  else if (yPr (s.Ia.g 1).Ia 60 (s.Ia.drop 2) m).e=0 then
   (if (Ykj f (yPr (s.Ia.g 1).Ia 60 (s.Ia.drop 2) m).v.2 (yPr (s.Ia.g 1).Ia 60 (s.Ia.drop 2) m).m).e=0 then
    (if 60<((Ykj f (yPr (s.Ia.g 1).Ia 60 (s.Ia.drop 2) m).v.2 (yPr (s.Ia.g 1).Ia 60 (s.Ia.drop 2) m).m).v.length:Int) then
     ⟨yN,8,(Ykj f (yPr (s.Ia.g 1).Ia 60 (s.Ia.drop 2) m).v.2 (yPr (s.Ia.g 1).Ia 60 (s.Ia.drop 2) m).m).m⟩ else ⟨yK 9 0 (yPr (s.Ia.g 1).Ia 60 (s.Ia.drop 2) m).v.1 (Ykj f (yPr (s.Ia.g 1).Ia 60 (s.Ia.drop 2) m).v.2 (yPr (s.Ia.g 1).Ia 60 (s.Ia.drop 2) m).m).v,0,
     (Ykj f (yPr (s.Ia.g 1).Ia 60 (s.Ia.drop 2) m).v.2 (yPr (s.Ia.g 1).Ia 60 (s.Ia.drop 2) m).m).m⟩) else ⟨yN,(Ykj f (yPr (s.Ia.g 1).Ia 60 (s.Ia.drop 2) m).v.2 (yPr (s.Ia.g 1).Ia 60 (s.Ia.drop 2) m).m).e,(Ykj f (yPr (s.Ia.g 1).Ia 60 (s.Ia.drop 2) m).v.2 (yPr (s.Ia.g 1).Ia 60 (s.Ia.drop 2) m).m).m⟩)
  else ⟨yN,(yPr (s.Ia.g 1).Ia 60 (s.Ia.drop 2) m).e,(yPr (s.Ia.g 1).Ia 60 (s.Ia.drop 2) m).m⟩)
 else if k=3 then (if ¬ (s.Ia.length:Int)=3\/¬ (s.Ia.g 1).Ka=1 then ⟨yN,1,m⟩
  else if yRe m.Ba (s.Ia.g 1).Ta (s.Ia.g 1).Sa=0 then
   (if (rsB m.Ba (s.Ia.g 1).Ta (s.Ia.g 1).Sa).Ka=3 then
    yTo (λc=>yK 4 (rsB m.Ba (s.Ia.g 1).Ta (s.Ia.g 1).Sa).Na [] [c]) (f (s.Ia.g 2) m) else ⟨yN,1,m⟩)
  else ⟨yN,yRe m.Ba (s.Ia.g 1).Ta (s.Ia.g 1).Sa,m⟩)
 else if k=5 then (if (s.Ia.length:Int)<2 then ⟨yN,1,m⟩ else yTo (λc=>yK 10 0 [] [c]) (b (s.Ia.drop 1) m))
 else if k=9 then (if (s.Ia.length:Int)<3\/¬ (s.Ia.g 1).Ka=0 then ⟨yN,1,m⟩ else yLs b (s.Ia.g 1).Ia (s.Ia.drop 2) m)
 else if k=7\/k=8 then ⟨yN,5,m⟩
 else ⟨yN,1,m⟩
def hdN (x:YE) (s:YS_):Int:=if s.Ka=0/\¬ s.Ia.length=0 then frm x.Ba (s.Ia.g 0) else -1
def yEx (f:YS_->YS->YR Yc) (b:List YS_->YS->YR Yc) (s:YS_) (m:YS):YR Yc:=
 if 3000<m.z+1 then ⟨yN,8,yCn m⟩
 else if s.Ka=1 then
  (if yRe m.Ba s.Ta s.Sa=0 then
   (if (rsB m.Ba s.Ta s.Sa).Ka=3 then ⟨yK 2 (rsB m.Ba s.Ta s.Sa).Na [] [],0,yCn m⟩ else if (rsB m.Ba s.Ta s.Sa).Ka=2 then ⟨yK 3 (rsB m.Ba s.Ta s.Sa).Na [] [],0,yCn m⟩ else ⟨yN,1,yCn m⟩) else ⟨yN,yRe m.Ba s.Ta s.Sa,yCn m⟩)
 else if s.Ka=2\/s.Ka=3\/s.Ka=4 then ⟨⟨1,0,[],yDt s,[]⟩,0,yCn m⟩
 else if s.Ia.length=0 then ⟨yN,1,yCn m⟩
 else if 0<=hdM m.x s then
  (if (ySt (hdM m.x s) s (yCn m)).e=0 then f (ySt (hdM m.x s) s (yCn m)).v (ySt (hdM m.x s) s (yCn m)).m else ⟨yN,(ySt (hdM m.x s) s (yCn m)).e,(ySt (hdM m.x s) s (yCn m)).m⟩)
 else if 0<=hdN m.x s then yFm f b (hdN m.x s) s (yCn m)
 else if (Ykj f s.Ia (yCn m)).e=0 then
  (if 9<((Ykj f s.Ia (yCn m)).v.length:Int) then ⟨yN,8,(Ykj f s.Ia (yCn m)).m⟩ else ⟨yK 6 0 [] (Ykj f s.Ia (yCn m)).v,0,(Ykj f s.Ia (yCn m)).m⟩)
 else ⟨yN,(Ykj f s.Ia (yCn m)).e,(Ykj f s.Ia (yCn m)).m⟩
def Ylm (L:List Int):List Int:=L.filter λx=>decide (¬ Yna x=3)
structure YP where
 d:Bool
 n:Int
 s:YS_
 p:Bool
 P:List YS_
 B:List YS_
instance:Inhabited YP:=⟨⟨false,0,zY,false,[],[]⟩⟩
def nlC (b:Bool) (L:List (List Cell)):Cell:=if b then .lit (.slice none 0 0) else .list L
def yPF (p:YP):List Cell:=[cB p.d,cI p.n,cI p.s.Ka,cI p.s.Na,cS p.s.Ta,.list (p.s.Sa.map Yke),.list (p.s.Ia.map Ykb),nlC (!p.p) (p.P.map Ykb),nlC (!p.p) (p.B.map Ykb)]
def yPC (p:YP):List Cell:=yPF p
instance:Row YP yPC yPF 9:=⟨λ_=>rfl,λ_=>rfl⟩
def yPT (p:YP):List Cell:=[cB p.d,cI p.n,cI p.s.Ka,cI p.s.Na,cS p.s.Ta,.list (p.s.Sa.map Yke),.list (p.s.Ia.map Ykb),.list (p.P.map Ykb),.list (p.B.map Ykb)]
def yPN (p:YP):List Cell:=[cB p.d,cI p.n,cI p.s.Ka,cI p.s.Na,cS p.s.Ta,.list (p.s.Sa.map Yke),.list (p.s.Ia.map Ykb),.lit (.slice none 0 0),.lit (.slice none 0 0)]
theorem Y1l8 {p:YP}(h:p.p):yPF p=yPT p:=by unfold yPF yPT nlC;rw[h];rfl
theorem Y1lq {p:YP}(h:p.p=false):yPF p=yPN p:=by unfold yPF yPN nlC;rw[h];rfl
def yDf (s:YS_) (m:YS):YR YP:=
 if (s.Ia.length:Int)<3 then ⟨default,1,m⟩
 else if (s.Ia.g 1).Ka=1/\(s.Ia.length:Int)=3 then
  ⟨⟨true,(yVr (Ykw Ylm (s.Ia.g 1)) m).v,s.Ia.g 2,false,[],[]⟩,(yVr (Ykw Ylm (s.Ia.g 1)) m).e,(yVr (Ykw Ylm (s.Ia.g 1)) m).m⟩
 else if (s.Ia.g 1).Ka=0/\¬ (s.Ia.g 1).Ia.length=0/\Yqn (s.Ia.g 1).Ia then
  ⟨⟨true,(yVr (Ykw Ylm ((s.Ia.g 1).Ia.g 0)) m).v,zY,true,(s.Ia.g 1).Ia.drop 1,s.Ia.drop 2⟩,(yVr (Ykw Ylm ((s.Ia.g 1).Ia.g 0)) m).e,(yVr (Ykw Ylm ((s.Ia.g 1).Ia.g 0)) m).m⟩
 else ⟨default,1,m⟩
def ySy (s:YS_) (m:YS):YR Int:=
 if (s.Ia.length:Int)=3/\(s.Ia.g 1).Ka=1/\Ym5 m.Ba (s.Ia.g 2) then yMc (Ykw Ylm (s.Ia.g 1)) (Ylb (s.Ia.g 2)) m
 else ⟨0,1,m⟩
def yLk:Nat->List YS_->List YP->YS->YR (List YP)
 | _,[],o,m=>⟨o,0,m⟩
 | 0,_ :: _,o,m=>⟨[],8,yCn m⟩
 | n+1,s :: q,o,m=>
  if 3000<m.z+1 then ⟨[],8,yCn m⟩
  else if 0<=hdM m.x s then
   (if (ySt (hdM m.x s) s (yCn m)).e=0 then yLk n ((ySt (hdM m.x s) s (yCn m)).v :: q) o (ySt (hdM m.x s) s (yCn m)).m else ⟨[],(ySt (hdM m.x s) s (yCn m)).e,(ySt (hdM m.x s) s (yCn m)).m⟩)
  else if hdN m.x s=4 then yLk n (s.Ia.drop 1++q) o (yCn m)
  else if hdN m.x s=7 then (if (yDf s (yCn m)).e=0 then yLk n q (o++[(yDf s (yCn m)).v]) (yDf s (yCn m)).m else ⟨[],(yDf s (yCn m)).e,(yDf s (yCn m)).m⟩)
  else if hdN m.x s=8 then (if (ySy s (yCn m)).e=0 then yLk n q o (ySy s (yCn m)).m else ⟨[],(ySy s (yCn m)).e,(ySy s (yCn m)).m⟩)
  else yLk n q (o++[⟨false,0,s,false,[],[]⟩]) (yCn m)
def yPt (f:YS_->YS->YR Yc) (b:List YS_->YS->YR Yc) (p:YP) (m:YS):YR Yc:=
 if p.d then yTo (λc=>yK 4 p.n [] [c]) (if p.p then yPc b 5 p.P p.B m else f p.s m) else if p.p then yPc b 5 p.P p.B m else f p.s m
def yDv (L:List YP):List Int:=(L.filter (·.d)).map (·.n)
def yEn (V:List Int) (r:YR (List Yc)):YR Yc:=
 if r.e=0 then
  (if V.length=0 then ⟨sqV r.v,sqE r.v,r.m⟩ else if 60<(V.length:Int)\/60<(r.v.length:Int) then ⟨yN,8,r.m⟩ else ⟨yK 9 0 V r.v,0,r.m⟩)
 else ⟨yN,r.e,r.m⟩
def yB1 (f:YS_->YS->YR Yc) (b:List YS_->YS->YR Yc) (r:YR (List YP)):YR Yc:=
 if r.e=0 then
  (if r.v.length=0\/(r.v.g (r.v.length - 1)).d then ⟨yN,1,r.m⟩ else yEn (yDv r.v) (Ykj (yPt f b) r.v r.m))
 else ⟨yN,r.e,r.m⟩
def yBo (f:YS_->YS->YR Yc) (b:List YS_->YS->YR Yc) (n:Nat) (L:List YS_) (m:YS):YR Yc:=
 if cdN m.Sb 1=0 then yB1 f b (yLk n (yAd (nxt m.Sb 1) L) [] (ySc 1 m)) else ⟨yN,cdN m.Sb 1,ySc 1 m⟩
def Yxy:Nat->(YS_->YS->YR Yc)×(List YS_->YS->YR Yc)
 | 0=>(λ_ m=>⟨yN,8,yCn m⟩,yBo (λ_ m=>⟨yN,8,yCn m⟩) (λ_ m=>⟨yN,8,m⟩) 0)
 | n+1=>(yEx (Yxy n).1 (Yxy n).2,yBo (Yxy n).1 (Yxy n).2 (n+1))
def yE (n:Nat) (s:YS_) (m:YS):YR Yc:=Ysb ((Yxy n).1 s m)
def yB (n:Nat) (L:List YS_) (m:YS):YR Yc:=Ysb ((Yxy n).2 L m)
end Go.Proofs.YtcbodhkhppgkiaaGreat
end
