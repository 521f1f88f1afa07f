/- Part 5 of a proof. No condition. -/
import Derived.Test.YtcbodhkhppgkiaaGreatClo4
set_option maxHeartbeats 4000000
set_option linter.unusedVariables false
set_option linter.unusedSimpArgs false
section
namespace Go.Proofs.YtcbodhkhppgkiaaGreat
open Go Ab Proofs.Tryz
section
abbrev nlA:AC:=.val (.lit (.slice none 0 0))
abbrev nlB:Ob:=.box [vI 0,vI 0,nlA,vI 0,vI 0,vS (mkS []),nlA,nlA]
def psV (L:List YP) (m:YS):List Int:=if (Ykj (yPt yX yZ) L m).e=0 then yDv L else []
theorem Y1e3 {L:List YP}{k:Nat}(h:k<L.length):yDv (L.take (k+1))=if (L.g k).d then yDv (L.take k)++[(L.g k).n] else yDv (L.take k):=by
 have e:=Yku h
 unfold yDv;rw[e,dx,ar]
 show _++List.map _ (List.filter _ [L.g k])=_
 generalize L.g k=y
 by_cases hx:y.d
 ·rw[ae hx];simp[hx]
 ·rw[ab hx];simp[hx]
theorem Y1xi (L:List YP) (k:Nat):(yDv (L.take k)).length<=L.length:=by
 have h1:=cN (λx:YP=>x.d) (L.take k)
 have h2:(L.take k).length<=L.length:=by rw[au];omega
 unfold yDv;rw[aN];omega
theorem Y1xp {B:List YB}{L:List YS_}{k:Nat}(h:k<L.length):(L.take (k+1)).all (yLo B)=((L.take k).all (yLo B)&&yLo B (L.g k)):=by
 rw[Yku h,cC];simp
theorem Y1b5 {B:List YB}{L:List YS_}{k:Nat}(h:k<L.length) (e:yLo B (L.g k)=false):L.all (yLo B)=false:=by
 rw[bX];exact⟨_,Ykg h,by rw[e];decide⟩
section
variable {b:List YS_->YS->YR Yc}{k:Int}{P B:List YS_}{m:YS}
theorem Y253 (h:¬ (yPr P 8 B m).e=0):yPc yZ k P B m=⟨yN,(yPr P 8 B m).e,(yPr P 8 B m).m⟩:=ab h
theorem Y24a (h:(yPr P 8 B m).e=0) (h2:¬ (yZ (yPr P 8 B m).v.2 (yPr P 8 B m).m).e=0):yPc yZ k P B m=⟨yN,(yZ (yPr P 8 B m).v.2 (yPr P 8 B m).m).e,(yZ (yPr P 8 B m).v.2 (yPr P 8 B m).m).m⟩:=by
 unfold yPc;rw[ae h,ab h2]
theorem Y1z6 (h:(yPr P 8 B m).e=0) (h2:(yZ (yPr P 8 B m).v.2 (yPr P 8 B m).m).e=0):yPc yZ k P B m=⟨yK k 0 (yPr P 8 B m).v.1 [(yZ (yPr P 8 B m).v.2 (yPr P 8 B m).m).v],0,(yZ (yPr P 8 B m).v.2 (yPr P 8 B m).m).m⟩:=by
 unfold yPc;rw[ae h,ae h2]
end
theorem Y14t:∀ K:List Yc,K.length<=sumBy Yl9 K
 | []=>aD 0
 | x :: r=>by have:=Y14t r;have:=Yoh x;simp only[sumBy,aE];omega
theorem Y21s {L:List YP}{m:YS}(hm:Yl4 m) (hL:∀ p∈L,Yrw p) (hl:L.length<=3000) (e:(Ykj (yPt yX yZ) L m).e=0):(Yls (Ykj (yPt yX yZ) L m).v).length<=2147483647/\(Ykj (yPt yX yZ) L m).v.length<=2147483647:=by
 have g:=Yvs (Y16r Yzf L m e) hL hm
 have h1:=g.siz
 have h2:=g.ok.2
 have h3:=hm.2
 have h4:=Y12s (Ykj (yPt yX yZ) L m).v
 have h5:=Y14t (Yls (Ykj (yPt yX yZ) L m).v)
 have h6:=Yof (f:=yPt yX yZ) L m e
 exact⟨by omega,by omega⟩
section
variable {L:List YS_}{m:YS}(hm:Yl4 m) (hL:∀ x∈L,Ykk x)
include hm hL
theorem Y24c (h:¬ cdN m.Sb 1=0):yZ L m=⟨yN,cdN m.Sb 1,ySc 1 m⟩:=by rw[Y168 hm hL,ab h]
theorem Y240 (h:cdN m.Sb 1=0) (e:¬ (yLX (yAd (nxt m.Sb 1) L) [] (ySc 1 m)).e=0):yZ L m=⟨yN,(yLX (yAd (nxt m.Sb 1) L) [] (ySc 1 m)).e,(yLX (yAd (nxt m.Sb 1) L) [] (ySc 1 m)).m⟩:=by rw[Y168 hm hL,ae h];exact ab e
theorem Y25d (h:cdN m.Sb 1=0) (e:(yLX (yAd (nxt m.Sb 1) L) [] (ySc 1 m)).e=0) (l:((yLX (yAd (nxt m.Sb 1) L) [] (ySc 1 m)).v.length:Int)=0):yZ L m=⟨yN,1,(yLX (yAd (nxt m.Sb 1) L) [] (ySc 1 m)).m⟩:=by
 rw[Y168 hm hL,ae h];unfold yB1;rw[ae e,ae (.inl oW)]
theorem Y259 (h:cdN m.Sb 1=0) (e:(yLX (yAd (nxt m.Sb 1) L) [] (ySc 1 m)).e=0) (d:((yLX (yAd (nxt m.Sb 1) L) [] (ySc 1 m)).v.g (((yLX (yAd (nxt m.Sb 1) L) [] (ySc 1 m)).v.length:Int) - 1).toNat).d):yZ L m=⟨yN,1,(yLX (yAd (nxt m.Sb 1) L) [] (ySc 1 m)).m⟩:=by
 have i:(((yLX (yAd (nxt m.Sb 1) L) [] (ySc 1 m)).v.length:Int) - 1).toNat=(yLX (yAd (nxt m.Sb 1) L) [] (ySc 1 m)).v.length - 1:=by omega
 rw[i]at d
 rw[Y168 hm hL,ae h];unfold yB1;rw[ae e,ae (.inr d)]
section
variable (h:cdN m.Sb 1=0) (e:(yLX (yAd (nxt m.Sb 1) L) [] (ySc 1 m)).e=0) (l:¬ ((yLX (yAd (nxt m.Sb 1) L) [] (ySc 1 m)).v.length:Int)=0) (d:((yLX (yAd (nxt m.Sb 1) L) [] (ySc 1 m)).v.g (((yLX (yAd (nxt m.Sb 1) L) [] (ySc 1 m)).v.length:Int) - 1).toNat).d=false)
include h e l d
theorem Y1dk:yZ L m=yEn (yDv (yLX (yAd (nxt m.Sb 1) L) [] (ySc 1 m)).v) (Ykj (yPt yX yZ) (yLX (yAd (nxt m.Sb 1) L) [] (ySc 1 m)).v (yLX (yAd (nxt m.Sb 1) L) [] (ySc 1 m)).m):=by
 have i:(((yLX (yAd (nxt m.Sb 1) L) [] (ySc 1 m)).v.length:Int) - 1).toNat=(yLX (yAd (nxt m.Sb 1) L) [] (ySc 1 m)).v.length - 1:=by omega
 rw[i]at d
 rw[Y168 hm hL,ae h];unfold yB1;rw[ae e,ab (λc=>c.elim (λc=>l oW) (λc=>by rw[d]at c;cases c))]
theorem Y23s (p:¬ (Ykj (yPt yX yZ) (yLX (yAd (nxt m.Sb 1) L) [] (ySc 1 m)).v (yLX (yAd (nxt m.Sb 1) L) [] (ySc 1 m)).m).e=0):yZ L m=⟨yN,(Ykj (yPt yX yZ) (yLX (yAd (nxt m.Sb 1) L) [] (ySc 1 m)).v (yLX (yAd (nxt m.Sb 1) L) [] (ySc 1 m)).m).e,(Ykj (yPt yX yZ) (yLX (yAd (nxt m.Sb 1) L) [] (ySc 1 m)).v (yLX (yAd (nxt m.Sb 1) L) [] (ySc 1 m)).m).m⟩:=by
 rw[Y1dk hm hL h e l d];exact ab p
theorem Y258 (p:(Ykj (yPt yX yZ) (yLX (yAd (nxt m.Sb 1) L) [] (ySc 1 m)).v (yLX (yAd (nxt m.Sb 1) L) [] (ySc 1 m)).m).e=0) (v:((psV (yLX (yAd (nxt m.Sb 1) L) [] (ySc 1 m)).v (yLX (yAd (nxt m.Sb 1) L) [] (ySc 1 m)).m).length:Int)=0):yZ L m=⟨sqV (Ykj (yPt yX yZ) (yLX (yAd (nxt m.Sb 1) L) [] (ySc 1 m)).v (yLX (yAd (nxt m.Sb 1) L) [] (ySc 1 m)).m).v,sqE (Ykj (yPt yX yZ) (yLX (yAd (nxt m.Sb 1) L) [] (ySc 1 m)).v (yLX (yAd (nxt m.Sb 1) L) [] (ySc 1 m)).m).v,(Ykj (yPt yX yZ) (yLX (yAd (nxt m.Sb 1) L) [] (ySc 1 m)).v (yLX (yAd (nxt m.Sb 1) L) [] (ySc 1 m)).m).m⟩:=by
 have i:psV (yLX (yAd (nxt m.Sb 1) L) [] (ySc 1 m)).v (yLX (yAd (nxt m.Sb 1) L) [] (ySc 1 m)).m=yDv (yLX (yAd (nxt m.Sb 1) L) [] (ySc 1 m)).v:=ae p
 rw[i]at v
 rw[Y1dk hm hL h e l d];unfold yEn;rw[ae p,ae oW]
theorem Y24n (p:(Ykj (yPt yX yZ) (yLX (yAd (nxt m.Sb 1) L) [] (ySc 1 m)).v (yLX (yAd (nxt m.Sb 1) L) [] (ySc 1 m)).m).e=0) (v:¬ ((psV (yLX (yAd (nxt m.Sb 1) L) [] (ySc 1 m)).v (yLX (yAd (nxt m.Sb 1) L) [] (ySc 1 m)).m).length:Int)=0) (w:60<((psV (yLX (yAd (nxt m.Sb 1) L) [] (ySc 1 m)).v (yLX (yAd (nxt m.Sb 1) L) [] (ySc 1 m)).m).length:Int)):yZ L m=⟨yN,8,(Ykj (yPt yX yZ) (yLX (yAd (nxt m.Sb 1) L) [] (ySc 1 m)).v (yLX (yAd (nxt m.Sb 1) L) [] (ySc 1 m)).m).m⟩:=by
 have i:psV (yLX (yAd (nxt m.Sb 1) L) [] (ySc 1 m)).v (yLX (yAd (nxt m.Sb 1) L) [] (ySc 1 m)).m=yDv (yLX (yAd (nxt m.Sb 1) L) [] (ySc 1 m)).v:=ae p
 rw[i]at v w
 rw[Y1dk hm hL h e l d];unfold yEn;rw[ae p,ab oW,ae (.inl w)]
theorem Y245 (p:(Ykj (yPt yX yZ) (yLX (yAd (nxt m.Sb 1) L) [] (ySc 1 m)).v (yLX (yAd (nxt m.Sb 1) L) [] (ySc 1 m)).m).e=0) (v:¬ ((psV (yLX (yAd (nxt m.Sb 1) L) [] (ySc 1 m)).v (yLX (yAd (nxt m.Sb 1) L) [] (ySc 1 m)).m).length:Int)=0) (w:60<((Ykj (yPt yX yZ) (yLX (yAd (nxt m.Sb 1) L) [] (ySc 1 m)).v (yLX (yAd (nxt m.Sb 1) L) [] (ySc 1 m)).m).v.length:Int)):yZ L m=⟨yN,8,(Ykj (yPt yX yZ) (yLX (yAd (nxt m.Sb 1) L) [] (ySc 1 m)).v (yLX (yAd (nxt m.Sb 1) L) [] (ySc 1 m)).m).m⟩:=by
 have i:psV (yLX (yAd (nxt m.Sb 1) L) [] (ySc 1 m)).v (yLX (yAd (nxt m.Sb 1) L) [] (ySc 1 m)).m=yDv (yLX (yAd (nxt m.Sb 1) L) [] (ySc 1 m)).v:=ae p
 rw[i]at v
 rw[Y1dk hm hL h e l d];unfold yEn;rw[ae p,ab oW,ae (.inr w)]
theorem Y250 (p:(Ykj (yPt yX yZ) (yLX (yAd (nxt m.Sb 1) L) [] (ySc 1 m)).v (yLX (yAd (nxt m.Sb 1) L) [] (ySc 1 m)).m).e=0) (v:¬ ((psV (yLX (yAd (nxt m.Sb 1) L) [] (ySc 1 m)).v (yLX (yAd (nxt m.Sb 1) L) [] (ySc 1 m)).m).length:Int)=0) (w:¬ 60<((psV (yLX (yAd (nxt m.Sb 1) L) [] (ySc 1 m)).v (yLX (yAd (nxt m.Sb 1) L) [] (ySc 1 m)).m).length:Int)) (x:¬ 60<((Ykj (yPt yX yZ) (yLX (yAd (nxt m.Sb 1) L) [] (ySc 1 m)).v (yLX (yAd (nxt m.Sb 1) L) [] (ySc 1 m)).m).v.length:Int)):yZ L m=⟨yK 9 0 (psV (yLX (yAd (nxt m.Sb 1) L) [] (ySc 1 m)).v (yLX (yAd (nxt m.Sb 1) L) [] (ySc 1 m)).m) (Ykj (yPt yX yZ) (yLX (yAd (nxt m.Sb 1) L) [] (ySc 1 m)).v (yLX (yAd (nxt m.Sb 1) L) [] (ySc 1 m)).m).v,0,(Ykj (yPt yX yZ) (yLX (yAd (nxt m.Sb 1) L) [] (ySc 1 m)).v (yLX (yAd (nxt m.Sb 1) L) [] (ySc 1 m)).m).m⟩:=by
 have i:psV (yLX (yAd (nxt m.Sb 1) L) [] (ySc 1 m)).v (yLX (yAd (nxt m.Sb 1) L) [] (ySc 1 m)).m=yDv (yLX (yAd (nxt m.Sb 1) L) [] (ySc 1 m)).v:=ae p
 rw[i]at v w;rw[i]
 rw[Y1dk hm hL h e l d];unfold yEn;rw[ae p,ab oW,ab oW]
end
theorem Y22z (h:cdN m.Sb 1=0) (e:(yLX (yAd (nxt m.Sb 1) L) [] (ySc 1 m)).e=0):Yl4 (yLX (yAd (nxt m.Sb 1) L) [] (ySc 1 m)).m/\(∀ p∈(yLX (yAd (nxt m.Sb 1) L) [] (ySc 1 m)).v,Yrw p)/\(yLX (yAd (nxt m.Sb 1) L) [] (ySc 1 m)).v.length<=3000/\(¬ ((yLX (yAd (nxt m.Sb 1) L) [] (ySc 1 m)).v.length:Int)=0->m.z<(yLX (yAd (nxt m.Sb 1) L) [] (ySc 1 m)).m.z):=by
 have hn:=@Ypb m.Sb 1 (Yqi hm.1).2.2.1.1 h
 have k:=Yva (fuY (ySc 1 m)) (yAd (nxt m.Sb 1) L) [] (ySc 1 m) (Yr7 ⟨hn.1,hn.2.1⟩ hL) (λp hp=>absurd hp sW) ⟨Yra 1 hm.1,hm.2⟩ (by rw[<- Ywp];exact e)
 rw[<- Ywp]at k
 have z:=hm.2
 have z2:=k.1.2
 have k2:=k.2.2.2
 have kz:(ySc 1 m).z=m.z:=rfl
 simp only[bp]at k2
 rw[kz]at k2
 refine⟨k.1,k.2.2.1,by omega,λa=>by omega⟩
end
theorem Y12v {z:Int}(h:Ymb z=0):¬ 3000<z+1:=by
 intro c
 have:Ymb z=8:=ae c
 rw[h]at this;cases this
section
variable {s:YS_}{m q:YS}{x:YS_}(hm:Yl4 q)
include hm
theorem Y219 (e:¬ Ymb q.z=0):yLq x q=⟨false,⟨yN,8,yCn q⟩,x,q⟩:=by
 have z:3000<q.z+1:=by by_cases c:3000<q.z+1;exact c;exact absurd (ab c) e
 rw[Yy7 hm,ae z]
theorem Y1lw {z:Ymb q.z=0}(k:x.Ka=1):yLq x q=⟨false,yNm x q,x,q⟩:=by
 have z:¬ 3000<q.z+1:=Y12v z
 rw[Yy7 hm,ab z,ae k]
theorem Y243 (z:Ymb q.z=0) (k:x.Ka=1) (r:¬ yRe q.Ba x.Ta x.Sa=0):yLq x q=⟨false,⟨yN,yRe q.Ba x.Ta x.Sa,yCn q⟩,x,q⟩:=by
 rw[Y1lw hm (z:=z) k];unfold yNm;rw[ab r]
theorem Y25b (z:Ymb q.z=0) (k:x.Ka=1) (r:yRe q.Ba x.Ta x.Sa=0) (b:(rsB q.Ba x.Ta x.Sa).Ka=3):yLq x q=⟨false,⟨yK 2 (rsB q.Ba x.Ta x.Sa).Na [] [],0,yCn q⟩,x,q⟩:=by
 rw[Y1lw hm (z:=z) k];unfold yNm;rw[ae r,ae b]
theorem Y25c (z:Ymb q.z=0) (k:x.Ka=1) (r:yRe q.Ba x.Ta x.Sa=0) (b:¬ (rsB q.Ba x.Ta x.Sa).Ka=3) (c:(rsB q.Ba x.Ta x.Sa).Ka=2):yLq x q=⟨false,⟨yK 3 (rsB q.Ba x.Ta x.Sa).Na [] [],0,yCn q⟩,x,q⟩:=by
 rw[Y1lw hm (z:=z) k];unfold yNm;rw[ae r,ab b,ae c]
theorem Y24d (z:Ymb q.z=0) (k:x.Ka=1) (r:yRe q.Ba x.Ta x.Sa=0) (b:¬ (rsB q.Ba x.Ta x.Sa).Ka=3) (c:¬ (rsB q.Ba x.Ta x.Sa).Ka=2):yLq x q=⟨false,⟨yN,1,yCn q⟩,x,q⟩:=by
 rw[Y1lw hm (z:=z) k];unfold yNm;rw[ae r,ab b,ab c]
theorem Y1rd (z:Ymb q.z=0) (k:¬ x.Ka=1) (r:x.Ka=2\/x.Ka=3\/x.Ka=4):yLq x q=⟨false,⟨⟨1,0,[],yDt x,[]⟩,0,yCn q⟩,x,q⟩:=by
 have z:¬ 3000<q.z+1:=Y12v z
 rw[Yy7 hm,ab z,ab k,ae r]
theorem Y1ko {z:Ymb q.z=0}(k:¬ x.Ka=1) (k2:¬ x.Ka=2) (k3:¬ x.Ka=3) (k4:¬ x.Ka=4):yLq x q=if x.Ia.length=0 then ⟨false,⟨yN,1,yCn q⟩,x,q⟩
  else if 0<=hdM q.x x then
   (if (ySt (hdM q.x x) x (yCn q)).e=0 then yLq (ySt (hdM q.x x) x (yCn q)).v (ySt (hdM q.x x) x (yCn q)).m else ⟨false,⟨yN,(ySt (hdM q.x x) x (yCn q)).e,(ySt (hdM q.x x) x (yCn q)).m⟩,x,q⟩)
  else ⟨true,⟨yN,0,q⟩,x,yCn q⟩:=by
 have z:¬ 3000<q.z+1:=Y12v z
 rw[Yy7 hm,ab z,ab k,ab (λc=>c.elim k2 (λc=>c.elim k3 k4))]
theorem Y23v (z:Ymb q.z=0) (k:¬ x.Ka=1) (k2:¬ x.Ka=2) (k3:¬ x.Ka=3) (k4:¬ x.Ka=4) (l:(x.Ia.length:Int)=0):yLq x q=⟨false,⟨yN,1,yCn q⟩,x,q⟩:=by
 rw[Y1ko hm (z:=z) k k2 k3 k4,ae oW]
theorem Y249 (z:Ymb q.z=0) (k:¬ x.Ka=1) (k2:¬ x.Ka=2) (k3:¬ x.Ka=3) (k4:¬ x.Ka=4) (l:¬ (x.Ia.length:Int)=0) (d:hdM (yCn q).x x<0):yLq x q=⟨true,⟨yN,0,q⟩,x,yCn q⟩:=by
 rw[Y1ko hm (z:=z) k k2 k3 k4,ab oW,ab (show ¬ 0<=hdM (yCn q).x x by omega)]
theorem Y24f (z:Ymb q.z=0) (k:¬ x.Ka=1) (k2:¬ x.Ka=2) (k3:¬ x.Ka=3) (k4:¬ x.Ka=4) (l:¬ (x.Ia.length:Int)=0) (d:¬ hdM (yCn q).x x<0) (g:¬ Ymv (yCn q).x (hdM (yCn q).x x) x=0):yLq x q=⟨false,⟨yN,Ymv (yCn q).x (hdM (yCn q).x x) x,(ySt (hdM (yCn q).x x) x (yCn q)).m⟩,x,q⟩:=by
 rw[Y1ko hm (z:=z) k k2 k3 k4,ab oW,ae (show 0<=hdM (yCn q).x x by omega)];exact ab g
theorem Y22p (z:Ymb q.z=0) (k:¬ x.Ka=1) (k2:¬ x.Ka=2) (k3:¬ x.Ka=3) (k4:¬ x.Ka=4) (l:¬ (x.Ia.length:Int)=0) (d:¬ hdM (yCn q).x x<0) (g:Ymv (yCn q).x (hdM (yCn q).x x) x=0):yLq x q=yLq (Yob (yCn q).x (hdM (yCn q).x x) x) (ySt (hdM (yCn q).x x) x (yCn q)).m:=by
 rw[Y1ko hm (z:=z) k k2 k3 k4,ab oW,ae (show 0<=hdM (yCn q).x x by omega)];exact ae g
end
section
variable {s:YS_}{m:YS}(hm:Yl4 m) (hs:Ykk s)
include hm hs
theorem Y248 (g:(yLq s m).g=false):yX s m=(yLq s m).r:=by rw[(Y12b hm hs).2,g];exact ab dW
theorem Y24u (g:(yLq s m).g) (d:0<=hdN (yLq s m).m.x (yLq s m).s):yX s m=yFm yX yZ (hdN (yLq s m).m.x (yLq s m).s) (yLq s m).s (yLq s m).m:=by rw[(Y12b hm hs).2,ae g];exact ae d
theorem Y24m (g:(yLq s m).g) (d:¬ 0<=hdN (yLq s m).m.x (yLq s m).s) (e:¬ (Ykj yX (yLq s m).s.Ia (yLq s m).m).e=0):yX s m=⟨yN,(Ykj yX (yLq s m).s.Ia (yLq s m).m).e,(Ykj yX (yLq s m).s.Ia (yLq s m).m).m⟩:=by rw[(Y12b hm hs).2,ae g];unfold yE2;rw[ab d,ab e]
theorem Y24e (g:(yLq s m).g) (d:¬ 0<=hdN (yLq s m).m.x (yLq s m).s) (e:(Ykj yX (yLq s m).s.Ia (yLq s m).m).e=0) (l:9<((Ykj yX (yLq s m).s.Ia (yLq s m).m).v.length:Int)):yX s m=⟨yN,8,(Ykj yX (yLq s m).s.Ia (yLq s m).m).m⟩:=by rw[(Y12b hm hs).2,ae g];unfold yE2;rw[ab d,ae e,ae l]
theorem Y23t (g:(yLq s m).g) (d:¬ 0<=hdN (yLq s m).m.x (yLq s m).s) (e:(Ykj yX (yLq s m).s.Ia (yLq s m).m).e=0) (l:¬ 9<((Ykj yX (yLq s m).s.Ia (yLq s m).m).v.length:Int)):yX s m=⟨yK 6 0 [] (Ykj yX (yLq s m).s.Ia (yLq s m).m).v,0,(Ykj yX (yLq s m).s.Ia (yLq s m).m).m⟩:=by rw[(Y12b hm hs).2,ae g];unfold yE2;rw[ab d,ae e,ab l]
end
theorem Y1zr {z:Int}(h:¬ Ymb z=0):Ymb z=8:=by
 unfold Ymb at *
 by_cases d:3000<z+1
 ·rw[ae d]
 ·rw[ab d]at h;exact absurd rfl h
theorem Y24g {q:YS}(hq:Yl4 q) (h:Ymb q.z=0):Yl4 (yCn q):=Yy6 hq (by have:=Y12v h;omega)
section
variable {L:List YP}{m:YS}{k:Nat}{r:YR Yc}(hr:yPt yX yZ (L.g k) (Ykj (yPt yX yZ) (L.take k) m).m=if (L.g k).d then yTo (λc=>yK 4 (L.g k).n [] [c]) r else r) (hk:k<L.length) (e:(Ykj (yPt yX yZ) (L.take k) m).e=0)
include hr hk e
theorem Y1hv (c:¬ r.e=0):(Ykj (yPt yX yZ) L m)=⟨[],r.e,r.m⟩:=by
 have q:(yPt yX yZ (L.g k) (Ykj (yPt yX yZ) (L.take k) m).m).e=r.e/\(yPt yX yZ (L.g k) (Ykj (yPt yX yZ) (L.take k) m).m).m=r.m:=by
  rw[hr];split
  ·unfold yTo;rw[ab c];exact⟨rfl,rfl⟩
  ·exact⟨rfl,rfl⟩
 rw[Yz7 hk e (by rw[q.1];exact c),q.1,q.2]
theorem Y1ba (d:(L.g k).d) (c:r.e=0):(Ykj (yPt yX yZ) (L.take (k+1)) m)=⟨(Ykj (yPt yX yZ) (L.take k) m).v++[yK 4 (L.g k).n [] [r.v]],0,r.m⟩:=by
 have q:yPt yX yZ (L.g k) (Ykj (yPt yX yZ) (L.take k) m).m=⟨yK 4 (L.g k).n [] [r.v],0,r.m⟩:=by rw[hr,ae d];exact ae c
 rw[Yyn hk e (by rw[q]),q]
theorem Y1b4 (d:(L.g k).d=false) (c:r.e=0):(Ykj (yPt yX yZ) (L.take (k+1)) m)=⟨(Ykj (yPt yX yZ) (L.take k) m).v++[r.v],0,r.m⟩:=by
 have q:yPt yX yZ (L.g k) (Ykj (yPt yX yZ) (L.take k) m).m=r:=by rw[hr,ab (by rw[d];decide)]
 rw[Yyn hk e (by rw[q];exact c),q]
end
theorem Y1bm {f:YS_->YS->YR Yc}{b:List YS_->YS->YR Yc}{p:YP}{m:YS}(h:p.p):yPt f b p m=if p.d then yTo (λc=>yK 4 p.n [] [c]) (yPc b 5 p.P p.B m) else yPc b 5 p.P p.B m:=by unfold yPt;rw[ae h]
theorem Y1cl {f:YS_->YS->YR Yc}{b:List YS_->YS->YR Yc}{p:YP}{m:YS}(h:p.p=false):yPt f b p m=if p.d then yTo (λc=>yK 4 p.n [] [c]) (f p.s m) else f p.s m:=by
 have n:¬ p.p:=by rw[h];decide
 unfold yPt;rw[ab n]
theorem Y16i {B:List YB}{s:YS_}(h:(!Ym5 B s)=false):Ymw B s=Ylb s:=by
 have:Ym5 B s:=by simpa using h
 unfold Ymw;rw[ae this]
theorem Y22u {B:List YB}{x:YS_}(h:¬ x.Ka=0):yLo B x=false:=by simp[yLo,h]
theorem Y23p {B:List YB}{x:YS_}(h:¬ (x.Ia.length:Int)=2):yLo B x=false:=by
 have:decide ((x.Ia.length:Int)=2)=false:=bK h
 unfold yLo;rw[this];simp
theorem Y23l {B:List YB}{x:YS_}(h:¬ (x.Ia.g 0).Ka=1):yLo B x=false:=by
 have:decide ((x.Ia.g 0).Ka=1)=false:=bK h
 unfold yLo;rw[this];simp
theorem Y23c {B:List YB}{x:YS_}(h:(!Ym5 B (x.Ia.g 1))):yLo B x=false:=by
 have:Ym5 B (x.Ia.g 1)=false:=by simpa using h
 unfold yLo;rw[this];simp
theorem Y24o {B:List YB}{x:YS_}(h:x.Ka=0) (h2:(x.Ia.length:Int)=2) (h3:(x.Ia.g 0).Ka=1) (h4:(!Ym5 B (x.Ia.g 1))=false):yLo B x:=by
 have e2:decide ((x.Ia.length:Int)=2):=bM h2
 have e3:decide ((x.Ia.g 0).Ka=1):=bM h3
 have e4:Ym5 B (x.Ia.g 1):=by simpa using h4
 unfold yLo;rw[e2,e3,e4,bM h];rfl
section
variable {L:List YS_}{m:YS}{k:Nat}(hk:k<L.length) (e:(Ykj (yM1 (nxt m.Sb 1)) (L.take k) (ySc 1 m)).e=0)
include hk e
theorem Y1z3 (c:¬ (yMc (Ykw (Yl7 (nxt m.Sb 1)) ((L.g k).Ia.g 0)) (Ylb ((L.g k).Ia.g 1)) (Ykj (yM1 (nxt m.Sb 1)) (L.take k) (ySc 1 m)).m).e=0):(Ykj (yM1 (nxt m.Sb 1)) L (ySc 1 m))=⟨[],(yMc (Ykw (Yl7 (nxt m.Sb 1)) ((L.g k).Ia.g 0)) (Ylb ((L.g k).Ia.g 1)) (Ykj (yM1 (nxt m.Sb 1)) (L.take k) (ySc 1 m)).m).e,(yMc (Ykw (Yl7 (nxt m.Sb 1)) ((L.g k).Ia.g 0)) (Ylb ((L.g k).Ia.g 1)) (Ykj (yM1 (nxt m.Sb 1)) (L.take k) (ySc 1 m)).m).m⟩:=Yz7 hk e c
theorem Y21x (c:(yMc (Ykw (Yl7 (nxt m.Sb 1)) ((L.g k).Ia.g 0)) (Ylb ((L.g k).Ia.g 1)) (Ykj (yM1 (nxt m.Sb 1)) (L.take k) (ySc 1 m)).m).e=0):(Ykj (yM1 (nxt m.Sb 1)) (L.take (k+1)) (ySc 1 m))=⟨(Ykj (yM1 (nxt m.Sb 1)) (L.take k) (ySc 1 m)).v++[(yMc (Ykw (Yl7 (nxt m.Sb 1)) ((L.g k).Ia.g 0)) (Ylb ((L.g k).Ia.g 1)) (Ykj (yM1 (nxt m.Sb 1)) (L.take k) (ySc 1 m)).m).v],0,(yMc (Ykw (Yl7 (nxt m.Sb 1)) ((L.g k).Ia.g 0)) (Ylb ((L.g k).Ia.g 1)) (Ykj (yM1 (nxt m.Sb 1)) (L.take k) (ySc 1 m)).m).m⟩:=Yyn hk e c
end
theorem Y1pt {L:List YS_}{m:YS}(hm:okX m.x) (hL:∀ x∈L,Ykk x) (ha:L.all (yLo m.Ba)) (hc:cdN m.Sb 1=0):∀ x∈L,Ykk (Ykw (Yl7 (nxt m.Sb 1)) (x.Ia.g 0))/\Ym8 (Ylb (x.Ia.g 1))/\wR (Ylb (x.Ia.g 1))<=900000000:=by
 intro x hx
 have hn:=@Ypb m.Sb 1 (Yqi hm).2.2.1.1 hc
 have r:=Y17n (hL x hx) (List.all_eq_true.1 ha x hx)
 exact⟨Y12f r.2.2.1 ⟨hn.1,hn.2.1⟩,r.2.2.2.2.1,r.2.2.2.2.2⟩
theorem Y1uy {L M:List YS_}{m:YS}(hm:okX m.x) (hL:∀ x∈L,Ykk x) (ha:L.all (yLo m.Ba)) (hc:cdN m.Sb 1=0) (hM:∀ x∈M,x∈L) (e:(Ykj (yM1 (nxt m.Sb 1)) M (ySc 1 m)).e=0) :
  okX (Ykj (yM1 (nxt m.Sb 1)) M (ySc 1 m)).m.x/\(Ykj (yM1 (nxt m.Sb 1)) M (ySc 1 m)).m.z=m.z:=
 have g:=Y18a (Yra 1 hm) (λx hx=>Y1pt hm hL ha hc x (hM x hx)) e
 ⟨g.1,g.2.2.2.2⟩
section
variable {L B:List YS_}{m:YS}
theorem Y24i (h:¬ cdN m.Sb 1=0):yLs yZ L B m=⟨yN,cdN m.Sb 1,ySc 1 m⟩:=ab h
theorem Y24l (h:cdN m.Sb 1=0) (a:L.all (yLo m.Ba)=false):yLs yZ L B m=⟨yN,1,ySc 1 m⟩:=by unfold yLs;rw[ae h,ab (by rw[a];decide)]
theorem Y25e (h:cdN m.Sb 1=0) (a:L.all (yLo m.Ba)) (e:¬ (Ykj (yM1 (nxt m.Sb 1)) L (ySc 1 m)).e=0):yLs yZ L B m=⟨yN,(Ykj (yM1 (nxt m.Sb 1)) L (ySc 1 m)).e,(Ykj (yM1 (nxt m.Sb 1)) L (ySc 1 m)).m⟩:=by unfold yLs;rw[ae h,ae a,ab e]
theorem Y242 (h:cdN m.Sb 1=0) (a:L.all (yLo m.Ba)) (e:(Ykj (yM1 (nxt m.Sb 1)) L (ySc 1 m)).e=0):yLs yZ L B m=yZ (yAd (nxt m.Sb 1) B) (Ykj (yM1 (nxt m.Sb 1)) L (ySc 1 m)).m:=by unfold yLs;rw[ae h,ae a,ae e]
end
structure OkL (m n:YS) (q:List YS_) (o:List YP):Prop where
 ok:Yl4 n
 qs:∀ x∈q,Ykk x
 os:∀ p∈o,Yrw p
 z:m.z<=n.z
 ql:(q.length:Int)<=2000+2000 * (n.z - m.z)
 ol:(o.length:Int)<=n.z - m.z
theorem lkT {q:List YS_}(h:0<(q.length:Int)):(q.g 0) :: (List.take (q.length - 1) (List.drop 1 q))=q:=by
 cases q with
 | nil=>simp at h
 | cons a r=>simp
theorem Yy3 {q:List YS_}(h:0<(q.length:Int)):(List.take (q.length - 1) (List.drop 1 q)).length+1=q.length:=by
 have:=cu List.length (lkT h);rw[aE]at this;exact this
theorem Y1um (L:List YS_):List.take (L.length - 1) (List.drop 1 L)=L.drop 1:=av (by rw[ay];omega)
theorem Y25a (M:List YS_) (e:List Cell) (h:e∈M.map Ykb):e.length=5:=by
 obtain⟨x,_,rfl⟩:=List.mem_map.1 h
 rw[Yvb];rfl
section
variable {q:List YS_}{o:List YP}{n:YS}(hm:Yl4 n) (hq:0<(q.length:Int))
include hm hq
theorem Y189 (z:Ymb n.z=0):yLX q o n =
  if 0<=(hdM (yCn n).x (q.g 0)) then
   (if Ymv (yCn n).x (hdM (yCn n).x (q.g 0)) (q.g 0)=0 then yLX (Yob (yCn n).x (hdM (yCn n).x (q.g 0)) (q.g 0) :: (List.take (q.length - 1) (List.drop 1 q))) o (ySt (hdM (yCn n).x (q.g 0)) (q.g 0) (yCn n)).m else ⟨[],Ymv (yCn n).x (hdM (yCn n).x (q.g 0)) (q.g 0),(ySt (hdM (yCn n).x (q.g 0)) (q.g 0) (yCn n)).m⟩)
  else if hdN (yCn n).x (q.g 0)=4 then yLX ((List.take ((q.g 0).Ia.length - 1) (List.drop 1 (q.g 0).Ia))++(List.take (q.length - 1) (List.drop 1 q))) o (yCn n)
  else if hdN (yCn n).x (q.g 0)=7 then (if (yDf (q.g 0) (yCn n)).e=0 then yLX (List.take (q.length - 1) (List.drop 1 q)) (o++[(yDf (q.g 0) (yCn n)).v]) (yDf (q.g 0) (yCn n)).m else ⟨[],(yDf (q.g 0) (yCn n)).e,(yDf (q.g 0) (yCn n)).m⟩)
  else if hdN (yCn n).x (q.g 0)=8 then (if (ySy (q.g 0) (yCn n)).e=0 then yLX (List.take (q.length - 1) (List.drop 1 q)) o (ySy (q.g 0) (yCn n)).m else ⟨[],(ySy (q.g 0) (yCn n)).e,(ySy (q.g 0) (yCn n)).m⟩)
  else yLX (List.take (q.length - 1) (List.drop 1 q)) (o++[⟨false,0,(q.g 0),false,[],[]⟩]) (yCn n):=by
 have e:=Y1bs (s:=(q.g 0)) (q:=(List.take (q.length - 1) (List.drop 1 q))) (o:=o) hm
 rw[lkT hq,ab (Y12v z)]at e
 rw[e,Y1um (q.g 0).Ia];rfl
theorem Y23y (z:¬ Ymb n.z=0):yLX q o n=⟨[],Ymb n.z,yCn n⟩:=by
 have e:=Y1bs (s:=(q.g 0)) (q:=(List.take (q.length - 1) (List.drop 1 q))) (o:=o) hm
 have c:3000<n.z+1:=by by_cases c:3000<n.z+1;exact c;exact absurd (ab c) z
 rw[lkT hq,ae c]at e
 rw[e,Y1zr z]
theorem Y23x (z:Ymb n.z=0) (d:0<=(hdM (yCn n).x (q.g 0))) (g:¬ Ymv (yCn n).x (hdM (yCn n).x (q.g 0)) (q.g 0)=0):yLX q o n=⟨[],Ymv (yCn n).x (hdM (yCn n).x (q.g 0)) (q.g 0),(ySt (hdM (yCn n).x (q.g 0)) (q.g 0) (yCn n)).m⟩:=by rw[Y189 hm hq z,ae d,ab g]
theorem Y251 (z:Ymb n.z=0) (d:0<=(hdM (yCn n).x (q.g 0))) (g:Ymv (yCn n).x (hdM (yCn n).x (q.g 0)) (q.g 0)=0):yLX q o n=yLX (Yob (yCn n).x (hdM (yCn n).x (q.g 0)) (q.g 0) :: (List.take (q.length - 1) (List.drop 1 q))) o (ySt (hdM (yCn n).x (q.g 0)) (q.g 0) (yCn n)).m:=by rw[Y189 hm hq z,ae d,ae g]
theorem Y24p (z:Ymb n.z=0) (d:¬ 0<=(hdM (yCn n).x (q.g 0))) (f:hdN (yCn n).x (q.g 0)=4):yLX q o n=yLX ((List.take ((q.g 0).Ia.length - 1) (List.drop 1 (q.g 0).Ia))++(List.take (q.length - 1) (List.drop 1 q))) o (yCn n):=by rw[Y189 hm hq z,ab d,ae f]
theorem Y1r5 (z:Ymb n.z=0) (d:¬ 0<=(hdM (yCn n).x (q.g 0))) (f:hdN (yCn n).x (q.g 0)=7):yLX q o n=if (yDf (q.g 0) (yCn n)).e=0 then yLX (List.take (q.length - 1) (List.drop 1 q)) (o++[(yDf (q.g 0) (yCn n)).v]) (yDf (q.g 0) (yCn n)).m else ⟨[],(yDf (q.g 0) (yCn n)).e,(yDf (q.g 0) (yCn n)).m⟩:=by rw[Y189 hm hq z,ab d,ab (by rw[f];decide),ae f]
theorem Y254 (z:Ymb n.z=0) (d:¬ 0<=(hdM (yCn n).x (q.g 0))) (f:hdN (yCn n).x (q.g 0)=7) (g:¬ (yDf (q.g 0) (yCn n)).e=0):yLX q o n=⟨[],(yDf (q.g 0) (yCn n)).e,(yDf (q.g 0) (yCn n)).m⟩:=by rw[Y1r5 hm hq z d f,ab g]
theorem Y24j (z:Ymb n.z=0) (d:¬ 0<=(hdM (yCn n).x (q.g 0))) (f:hdN (yCn n).x (q.g 0)=7) (g:(yDf (q.g 0) (yCn n)).e=0) (p:(yDf (q.g 0) (yCn n)).v.p):yLX q o n=yLX (List.take (q.length - 1) (List.drop 1 q)) (o++[⟨(yDf (q.g 0) (yCn n)).v.d,(yDf (q.g 0) (yCn n)).v.n,(yDf (q.g 0) (yCn n)).v.s,true,(yDf (q.g 0) (yCn n)).v.P,(yDf (q.g 0) (yCn n)).v.B⟩]) (yDf (q.g 0) (yCn n)).m:=by
 rw[Y1r5 hm hq z d f,ae g,<- p]
theorem Y23k (z:Ymb n.z=0) (d:¬ 0<=(hdM (yCn n).x (q.g 0))) (f:hdN (yCn n).x (q.g 0)=7) (g:(yDf (q.g 0) (yCn n)).e=0) (p:(yDf (q.g 0) (yCn n)).v.p=false):yLX q o n=yLX (List.take (q.length - 1) (List.drop 1 q)) (o++[⟨(yDf (q.g 0) (yCn n)).v.d,(yDf (q.g 0) (yCn n)).v.n,(yDf (q.g 0) (yCn n)).v.s,false,[],[]⟩]) (yDf (q.g 0) (yCn n)).m:=by
 have e:(⟨(yDf (q.g 0) (yCn n)).v.d,(yDf (q.g 0) (yCn n)).v.n,(yDf (q.g 0) (yCn n)).v.s,false,[],[]⟩:YP)=(yDf (q.g 0) (yCn n)).v:=by
  have a:=Y1u2 p
  calc (⟨(yDf (q.g 0) (yCn n)).v.d,(yDf (q.g 0) (yCn n)).v.n,(yDf (q.g 0) (yCn n)).v.s,false,[],[]⟩:YP)=⟨(yDf (q.g 0) (yCn n)).v.d,(yDf (q.g 0) (yCn n)).v.n,(yDf (q.g 0) (yCn n)).v.s,(yDf (q.g 0) (yCn n)).v.p,(yDf (q.g 0) (yCn n)).v.P,(yDf (q.g 0) (yCn n)).v.B⟩:=by rw[a.1,a.2,p]
   _=(yDf (q.g 0) (yCn n)).v:=rfl
 rw[Y1r5 hm hq z d f,ae g,e]
theorem Y1yp (z:Ymb n.z=0) (d:¬ 0<=(hdM (yCn n).x (q.g 0))) (f:hdN (yCn n).x (q.g 0)=8):yLX q o n=if (ySy (q.g 0) (yCn n)).e=0 then yLX (List.take (q.length - 1) (List.drop 1 q)) o (ySy (q.g 0) (yCn n)).m else ⟨[],(ySy (q.g 0) (yCn n)).e,(ySy (q.g 0) (yCn n)).m⟩:=by rw[Y189 hm hq z,ab d,ab (by rw[f];decide),ab (by rw[f];decide),ae f]
theorem Y1lr (z:Ymb n.z=0) (d:¬ 0<=(hdM (yCn n).x (q.g 0))) (f:hdN (yCn n).x (q.g 0)=8) (c:¬ (((q.g 0).Ia.length:Int)=3/\((q.g 0).Ia.g 1).Ka=1/\Ym5 n.Ba ((q.g 0).Ia.g 2))):yLX q o n=⟨[],1,yCn n⟩:=by
 have e:ySy (q.g 0) (yCn n)=⟨0,1,yCn n⟩:=ab c
 rw[Y1yp hm hq z d f,e];rfl
theorem Y1tt (z:Ymb n.z=0) (d:¬ 0<=(hdM (yCn n).x (q.g 0))) (f:hdN (yCn n).x (q.g 0)=8) (c1:((q.g 0).Ia.length:Int)=3) (c2:((q.g 0).Ia.g 1).Ka=1) (c3:(!Ym5 n.Ba ((q.g 0).Ia.g 2))=false):yLX q o n=if (yMc (Ykw Ylm ((q.g 0).Ia.g 1)) (Ymw n.Ba ((q.g 0).Ia.g 2)) (yCn n)).e=0 then yLX (List.take (q.length - 1) (List.drop 1 q)) o (yMc (Ykw Ylm ((q.g 0).Ia.g 1)) (Ymw n.Ba ((q.g 0).Ia.g 2)) (yCn n)).m else ⟨[],(yMc (Ykw Ylm ((q.g 0).Ia.g 1)) (Ymw n.Ba ((q.g 0).Ia.g 2)) (yCn n)).e,(yMc (Ykw Ylm ((q.g 0).Ia.g 1)) (Ymw n.Ba ((q.g 0).Ia.g 2)) (yCn n)).m⟩:=by
 have c4:Ym5 n.Ba ((q.g 0).Ia.g 2):=by simpa using c3
 have e:ySy (q.g 0) (yCn n)=(yMc (Ykw Ylm ((q.g 0).Ia.g 1)) (Ymw n.Ba ((q.g 0).Ia.g 2)) (yCn n)):=by rw[Y16i c3];exact ae ⟨c1,c2,c4⟩
 rw[Y1yp hm hq z d f,e]
theorem Y1ye (z:Ymb n.z=0) (d:¬ 0<=(hdM (yCn n).x (q.g 0))) (f4:¬ hdN (yCn n).x (q.g 0)=4) (f7:¬ hdN (yCn n).x (q.g 0)=7) (f8:¬ hdN (yCn n).x (q.g 0)=8):yLX q o n=yLX (List.take (q.length - 1) (List.drop 1 q)) (o++[⟨false,0,(q.g 0),false,[],[]⟩]) (yCn n):=by rw[Y189 hm hq z,ab d,ab f4,ab f7,ab f8]
end
section
variable {m n:YS}{q:List YS_}{o:List YP}(hl:OkL m n q o) (hq:0<(q.length:Int)) (z:Ymb n.z=0)
include hl hq z
theorem Y134:Ykk (q.g 0):=have _:=z;hl.qs _ (Ykg oW)
theorem Y16j {p:YS}{r:List YS_}{w:List YP}(hp:okX p.x) (hz:p.z=n.z+1) (hr:∀ x∈r,Ykk x) (hw:∀ p∈w,Yrw p) (lr:r.length<=q.length+2000) (lw:w.length<=o.length+1):OkL m p r w:=by
 have _:=hq
 have a:=hl.ok.2
 have b:=hl.z
 have c:=hl.ql
 have d:=hl.ol
 have e:=Y12v z
 exact⟨⟨hp,by omega,by omega⟩,hr,hw,by omega,by rw[hz];omega,by rw[hz];omega⟩
theorem Y16e:∀ x∈(List.take (q.length - 1) (List.drop 1 q)),Ykk x:=have _:=hq;have _:=z;λx hx=>hl.qs x (aH (bu hx))
theorem Y20e (g:Ymv (yCn n).x (hdM (yCn n).x (q.g 0)) (q.g 0)=0):OkL m (ySt (hdM (yCn n).x (q.g 0)) (q.g 0) (yCn n)).m (Yob (yCn n).x (hdM (yCn n).x (q.g 0)) (q.g 0) :: (List.take (q.length - 1) (List.drop 1 q))) o:=
 Y16j hl hq z (Yyk hl.ok.1) rfl (λx hx=>by
  rcases List.mem_cons.1 hx with rfl|hx
  ·exact Ytq (x:=(yCn n).x) hl.ok.1.Sb g
  ·exact Y16e hl hq z x hx) hl.os (by have:=Yy3 hq;rw[aE];omega) oW
theorem Y225:OkL m (yCn n) ((List.take ((q.g 0).Ia.length - 1) (List.drop 1 (q.g 0).Ia))++(List.take (q.length - 1) (List.drop 1 q))) o:=
 Y16j hl hq z hl.ok.1 rfl (λx hx=>by
  rcases List.mem_append.1 hx with hx|hx
  ·exact Ymm (Y134 hl hq z) (aH (bu hx))
  ·exact Y16e hl hq z x hx) hl.os (by have:=Yy3 hq;have:=Ysm (Y134 hl hq z);rw[ax,au,ay];omega) oW
theorem Y21y:OkL m (yCn n) (List.take (q.length - 1) (List.drop 1 q)) (o++[⟨false,0,(q.g 0),false,[],[]⟩]):=
 Y16j hl hq z hl.ok.1 rfl (Y16e hl hq z) (λp hp=>by
  rcases List.mem_append.1 hp with hp|hp
  ·exact hl.os p hp
  ·rw[List.mem_singleton.1 hp];exact⟨λh=>absurd (show false from h) dW,λ_=>Y134 hl hq z⟩) (by have:=Yy3 hq;omega) sW
theorem Y1u8 {w:YP}(g:(yDf (q.g 0) (yCn n)).e=0) (e:w=(yDf (q.g 0) (yCn n)).v):OkL m (yDf (q.g 0) (yCn n)).m (List.take (q.length - 1) (List.drop 1 q)) (o++[w]):=by
 have k:=Y1cc (Y134 hl hq z) (m:=yCn n) hl.ok.1 g
 refine Y16j hl hq z k.1 k.2.1 (Y16e hl hq z) (λp hp => ?_) (by have:=Yy3 hq;omega) sW
 rcases List.mem_append.1 hp with hp|hp
 ·exact hl.os p hp
 ·rw[List.mem_singleton.1 hp,e];exact k.2.2
theorem Y22h (c1:((q.g 0).Ia.length:Int)=3) (c2:((q.g 0).Ia.g 1).Ka=1) (c3:(!Ym5 n.Ba ((q.g 0).Ia.g 2))=false) (g:(yMc (Ykw Ylm ((q.g 0).Ia.g 1)) (Ymw n.Ba ((q.g 0).Ia.g 2)) (yCn n)).e=0):OkL m (yMc (Ykw Ylm ((q.g 0).Ia.g 1)) (Ymw n.Ba ((q.g 0).Ia.g 2)) (yCn n)).m (List.take (q.length - 1) (List.drop 1 q)) o:=by
 have c4:Ym5 n.Ba ((q.g 0).Ia.g 2):=by simpa using c3
 have e:ySy (q.g 0) (yCn n)=(yMc (Ykw Ylm ((q.g 0).Ia.g 1)) (Ymw n.Ba ((q.g 0).Ia.g 2)) (yCn n)):=by rw[Y16i c3];exact ae ⟨c1,c2,c4⟩
 have k:=Y1mv (Y134 hl hq z) (m:=yCn n) hl.ok.1 (by rw[e];exact g)
 rw[e]at k
 exact Y16j hl hq z k.1 k.2 (Y16e hl hq z) hl.os (by have:=Yy3 hq;omega) oW
end
theorem Y1yi {B:List YB}{s:YS_}(hs:Ykk s) (h:(!Ym5 B s)=false):wR (Ylb s)<=900000000:=by
 have h5:Ym5 B s:=by simpa using h
 simp only[Ym5,af,ak]at h5
 have w:=Ymh hs
 have:=Y11p (s:=s) oW h5.1.2
 omega
theorem Y24y {v:YP}(h:v.p=false) (a:v.P=[]/\v.B=[]):(⟨v.d,v.n,v.s,false,[],[]⟩:YP)=v:=by
 obtain⟨d,n,s,p,P,B⟩:=v
 simp only at h a
 rw[h,a.1,a.2]
theorem Y20r {q:List YS_}{o:List YP}{n:YS}(h:¬ 0<(q.length:Int)):yLX q o n=⟨o,0,n⟩:=by
 cases q with
 | nil=>exact Y1xy _ _
 | cons a r=>exact absurd (by simp only[aE];omega) h
theorem Y22v {i:Int}(h:0<=i/\i<=11):((Ym1.g i.toNat).data.toList=[98,101,103,105,110] ↔ i=4)/\((Ym1.g i.toNat).data.toList=[100,101,102,105,110,101] ↔ i=7)/\((Ym1.g i.toNat).data.toList=[100,101,102,105,110,101,45,115,121,110,116,97,120] ↔ i=8):=by
 have:i=0\/i=1\/i=2\/i=3\/i=4\/i=5\/i=6\/i=7\/i=8\/i=9\/i=10\/i=11:=by omega
 rcases this with rfl|rfl|rfl|rfl|rfl|rfl|rfl|rfl|rfl|rfl|rfl|rfl<;>decide +kernel
theorem nb {b:Bool}(h:(!b)):¬ b:=by revert h;cases b<;>decide
theorem tb {b:Bool}(h:(!b)=false):b:=by revert h;cases b<;>decide
theorem fnE {i:Int}(h:0<=i/\i<=11) (l:List UInt8) (k:Int) (e:((List.range 12).all λj=>decide ((Ym1.g j).data.toList=l) == decide ((j:Int)=k))=true):((Ym1.g i.toNat).data.toList=l)=(i=k):=by
 have:=List.all_eq_true.1 e _ (List.mem_range.2 (show i.toNat<12 by omega))
 rw[beq_iff_eq,decide_eq_decide]at this
 exact propext (this.trans ⟨λa=>by omega,λa=>by omega⟩)
theorem no2 {a b:Prop}(h:¬ a) (g:b):¬ (a\/¬ b):=λx=>x.elim h λx=>x g
theorem no3 {a b c:Prop}(h:¬ a) (g:b) (f:¬ c):¬ (a\/¬ b\/c):=λx=>x.elim h λx=>x.elim (λx=>x g) f
theorem no4 {a b:Prop}(h:a) (g:b):¬ (¬ a\/¬ b):=λx=>x.elim (λx=>x h) λx=>x g
theorem td2 (L:List YS_):List.take (L.length - 2) (List.drop 2 L)=L.drop 2:=av (by rw[ay];omega)
theorem Y20v {L:List YS_}{m:YS}(hm:Yl4 m) (hL:∀ x∈L,Ykk x) (hl:L.length<=3000) (e:(Ykj yX L m).e=0):(Yls (Ykj yX L m).v).length<=2147483647/\(Ykj yX L m).v.length<=2147483647:=by
 have g:=Yyl (Y10d Yzf L m e) hL hm
 have h1:=g.siz
 have h2:=g.ok.2
 have h3:=hm.2
 have h4:=Y12s (Ykj yX L m).v
 have h5:=Y14t (Yls (Ykj yX L m).v)
 have h6:=Yof (f:=yX) L m e
 exact⟨by omega,by omega⟩
theorem Y1xu {x:YE}{s:YS_}(h:0<=hdN x s):1<=s.Ia.length:=by
 unfold hdN at h;split at h
 ·rename_i c;omega
 ·omega
abbrev Z4k (L:List YS_) (m:YS):Ct:=⟨81,stY m,[.y 0,Af L],stZ (Ykj yX L m).m++[.Ak (Ykj yX L m).v],.tup [.r 5,li (Ykj yX L m).e]⟩
abbrev Zo (s:YS_) (m:YS):Ct:=⟨32,stY m,[.y 0,Ykx s],stZ (yX s m).m++Yzn (yX s m).v,.tup [Y10c (yX s m).v 5,li (yX s m).e]⟩
def Z8c (L:List YS_) (m:YS):Lp Nat:=let v1:=Ykj yX L m;let v2:Ob:=.Ac v1.m.Ba;let v3:Ob:=.Ad v1.m.Ma;.mk 32 3 (λx=>[(0,.y 0),(6,.r 3),(11,Af L),(12,li (L.map Ykb).length),(13,hs x 0)]) (λx=>[.box [.ref 4,.ref 5,ha x 3,ha x 4,ha x 5,ha x 6],.dead,.dead,ho x 7,ho x 1,ho x 2]) (λk=>[.s (li k),.o (.Ac (Ykj yX (L.take k) m).m.Ba),.o (.Ad (Ykj yX (L.take k) m).m.Ma),.a (vI (Ykj yX (L.take k) m).m.Sb),.a (vI (Ykj yX (L.take k) m).m.Va),.a (vI (Ykj yX (L.take k) m).m.Sc),.a (vI (Ykj yX (L.take k) m).m.z),.o (.Ak (Ykj yX (L.take k) m).v)]) (λk=>k<=L.length/\L.length<=9223372036854775807/\(Ykj yX (L.take k) m).e=0) (λk=>L.length - k) [.mk (v1.e=0) (.exit 0) (λx=>[(6,.r 3)]) (λx=>[.box [.ref 4,.ref 5,ha x 2,ha x 3,ha x 4,ha x 5],.dead,.dead,ho x 6,ho x 0,ho x 1]) [.o v2,.o v3,.a (vI v1.m.Sb),.a (vI v1.m.Va),.a (vI v1.m.Sc),.a (vI v1.m.z),.o (.Ak v1.v)],.mk (¬(Ykj yX L m).e=0) .ret (λx=>[(4,hs x 6),(5,hs x 7)]) (λx=>[.box [.ref 3,.ref 4,ha x 2,ha x 3,ha x 4,ha x 5],.dead,.dead,ho x 0,ho x 1]) [.o v2,.o v3,.a (vI v1.m.Sb),.a (vI v1.m.Va),.a (vI v1.m.Sc),.a (vI v1.m.z),.s (.one nlA),.s (li v1.e)]]
theorem Zj8 (L:List YS_) (m:YS) (h:Yl4 m/\(∀ (x:YS_),x∈L->Ykk x)/\L.length<=2000) (ih:∀ (s:YS_) (q:YS),Yl4 q/\Ykk s/\m.z<=q.z->OK (Zo s q)):Lp.Sem prog (Yks f81 0) (Z8c L m):=Yl0 (λk=>let v6:=L.g k;let v3:=Ykj yX (L.take k) m;let v1:=yX v6 v3.m;let v2:=v3.v.map Ykz;let v4:Ob:=.Ac v1.m.Ba;let v5:Ob:=.Ad v1.m.Ma;.i ((k:Int)<(L.map Ykb).length) (.x (k:Int) (L.map Ykb) (Yki v6) (.d [.ptr,.rd] (Zo v6 v3.m) (.i (v1.e≠0) (.o 1 [0,1,2,10,11] [.o v4,.o v5,.a (vI v1.m.Sb),.a (vI v1.m.Va),.a (vI v1.m.Sc),.a (vI v1.m.z),.s (.one (.val (.y))),.s (li v1.e)]) (.p ((v2.length+1) * 120<=140737488355328) (.r ((k:Int)+1) (.g [0,1,2,17,10,11] (k+1) [.s (li ((k:Int)+1)),.o v4,.o v5,.a (vI v1.m.Sb),.a (vI v1.m.Va),.a (vI v1.m.Sc),.a (vI v1.m.z),.o (.y 8 (v3.v.map Ykz++[Ymg v1.v]))])))))) (.o 0 [0,1,2,3,4,5] [.o (.Ac v3.m.Ba),.o (.Ad v3.m.Ma),.a (vI v3.m.Sb),.a (vI v3.m.Va),.a (vI v3.m.Sc),.a (vI v3.m.z),.o (.y 8 v2)])) (by
 intro k h;try dsimp only[Ykd,Yko,Z8c]at h|-
 have hh := ‹Yl4 m/\(∀ x∈L,Ykk x)/\L.length<=2000›
 have g1:=kdX (k:=k) hh.1 hh.2.1 h.2.2
 have g2:k<L.length->Ykk (L.g k):=λa=>hh.2.1 _ (Ykg a)
 have g3:=λa b=>Yyn (f:=yX) (L:=L) (m:=m) (k:=k) a h.2.2 b
 have g4:=λa b=>Yz7 (f:=yX) (L:=L) (m:=m) (k:=k) a h.2.2 b
 have g5:=λa=>Yyv (f:=yX) (L:=L) (m:=m) (k:=k) a
 exact z12)
theorem Z52 (L:List YS_) (m:YS) (h:Yl4 m/\(∀ x∈L,Ykk x)/\L.length<=2000) (ih:∀ (s:YS_) (q:YS),Yl4 q/\Ykk s/\m.z<=q.z->Zo s q):Z4k L m:=Ykr call81 func81 (let v1:=Ykj yX L m;let v2:List AC:=[.ref 3,.ref 4,vI v1.m.Sb,vI v1.m.Va,vI v1.m.Sc,vI v1.m.z];let v3:=v1.m.Ba.map Ykc;.z Ykb L (.w (.m 1) (.w (.m 2) (.w (.g (.nilreg 6 true 8)) (.l (Z8c L m) (Zj8 L m h ih) [0,1,2,5,3,4] [.s (li 0),.o (.Ac m.Ba),.o (.Ad m.Ma),.a (vI m.Sb),.a (vI m.Va),.a (vI m.Sc),.a (vI m.z),.o (.y 8 [])] 0 (.t (.f [4,5,3] [.box v2,.dead,.dead,.y 4 v3,.Ad v1.m.Ma,.Ak v1.v] (.tup [.r 5,li 0])) (.t (.w (.g (.nilreg 4 true 8)) (.f [3,4,5] [.box v2,.dead,.dead,.y 4 v3,.Ad v1.m.Ma,.y 8 []] (.tup [.r 5,li v1.e]))) .q))))))) (by
 dsimp only[Ykd,Z4k,Yko,Z8c]
 have g0:=Y10r (f:=yX) (L:=L) (m:=m)
 have g1:=λa=>Y10z (f:=yX) L m a
 exact z12)
abbrev Z6a (kd:Int) (P:List YS_) (B:List YS_) (m:YS):Ct:=⟨130,stY m,[.y 0,li kd,Af P,Af B],stZ (yPc yZ kd P B m).m++Yzn (yPc yZ kd P B m).v,.tup [Y10c (yPc yZ kd P B m).v 5,li (yPc yZ kd P B m).e]⟩
abbrev Z9 (L:List YS_) (m:YS):Ct:=⟨132,stY m,[.y 0,Af L],stZ (yZ L m).m++Yzn (yZ L m).v,.tup [Y10c (yZ L m).v 5,li (yZ L m).e]⟩
theorem Z48 (kd:Int) (P B:List YS_) (m:YS) (h:Yl4 m/\(∀ x∈P,Ykk x)/\(∀ x∈B,Ykk x)/\P.length<=2000/\B.length<=2000) (ihb:∀ (L:List YS_) (q:YS),Yl4 q/\(∀ x∈L,Ykk x)/\L.length<=2000/\m.z<=q.z->Z9 L q):Z6a kd P B m:=Ykr call130 func130 (let v4:=yPr P 8 B m;let v1:=yZ v4.v.2 v4.m;let v2:=[vI 0,vI 0,.ref 5,vI 0,vI 0,vS (mkS []),.ref 6,.ref 7];let v3:Orc:=.ghost (.nilbox 3 6 true 4);let v5:List AC:=[.ref 3,.ref 4,vI v1.m.Sb,vI v1.m.Va,vI v1.m.Sc,vI v1.m.z];let v6:=v1.m.Ba.map Ykc;.d [.ptr,.rd,.rd,.rd] (Z6n m P 8 B) (.i (v4.e≠0) (.w (.g (.nilbox 3 2 true 1)) (.w v3 (.w (.g (.nilbox 3 7 true 8)) (.w (.m 2) (.f [7,13,10,11,12] [.box [.ref 3,.ref 4,vI v4.m.Sb,vI v4.m.Va,vI v4.m.Sc,vI v4.m.z],.dead,.dead,.Ac v4.m.Ba,.Ad v4.m.Ma,.y 1 [],.y 4 [],.y 8 []] (.tup [.agg v2,li v4.e])))))) (.d [.ptr,.rd] (Z9 v4.v.2 v4.m) (.i (v1.e≠0) (.w (.g (.nilbox 3 2 true 1)) (.w v3 (.w (.g (.nilbox 3 7 true 8)) (.f [13,14,19,20,21] [.box v5,.dead,.dead,.y 4 v6,.Ad v1.m.Ma,.y 1 [],.y 4 [],.y 8 []] (.tup [.agg v2,li v1.e]))))) (.w v3 (.f [13,14,8,20,19] [.box v5,.dead,.dead,.y 4 v6,.Ad v1.m.Ma,.Aa v4.v.1,.y 4 [],.y 8 [Ymg v1.v]] (.tup [.agg [vI kd,vI 0,.ref 5,vI 0,vI 0,vS (mkS []),.ref 6,.ref 7],li 0]))))))) (by
 dsimp only[Ykd,Z6a]
 have g1:=Yvl (most:=8) h.1.1 h.2.1 h.2.2.1
 have g2:(yPr P 8 B m).e=0->Yl4 (yPr P 8 B m).m/\(∀ x∈(yPr P 8 B m).v.2,Ykk x)/\(yPr P 8 B m).v.2.length<=2000/\m.z<=(yPr P 8 B m).m.z:=λa=>by
  have k:=g1 a;have hz:=h.1.2
  exact⟨⟨k.1,by omega,by omega⟩,k.2.2.1,by omega,by omega⟩
 with_reducible repeat' (first|apply ah|exact zR|(intro)|apply Z6o)
 all_goals ((try simp only[std,inj]at *);with_reducible and_intros)
 all_goals try first|with_reducible (first|apply Z6o)|(simp only[<- ar];with_reducible first|apply Z6o)
 all_goals (try simp only[aL]at *)
 all_goals first
  | exact cb|exact h.1.1|omega
  | exact h.2.1 _ aW|exact h.2.2.1 _ aW
  | exact ihb _ _ (g2 aW)
  | (rw[Y253 aW]<;>rfl)
  | (rw[Y24a aW aW]<;>rfl)
  | (rw[Y1z6 aW aW]<;>rfl)
  | (rw[Y1z6 aW aW,<- Ypw]<;>rfl))
abbrev Za1 (L:List YS_) (B:List YS_) (m:YS):Ct:=⟨133,stY m,[.y 0,Af L,Af B],stZ (yLs yZ L B m).m++Yzn (yLs yZ L B m).v,.tup [Y10c (yLs yZ L B m).v 5,li (yLs yZ L B m).e]⟩
def Z8d (L:List YS_) (B:List YS_) (m:YS):Lp Nat:=let v4:=yM1 (nxt m.Sb 1);let v8:=ySc 1 m;let v1:=Ykj v4 L v8;let v5:Cell:=.y;let v2:=[vI 0,vI 0,.val v5,vI 0,vI 0,vS (mkS []),.val v5,.val v5];let v3:=(6,.y 3);let v6:Ob:=.Ac v1.m.Ba;let v7:Ob:=.Ad v1.m.Ma;.mk 103 3 (λx=>[(0,.y 0),(2,Af B),v3,(8,li (nxt m.Sb 1)),(10,.r 4),(72,Af L),(73,li (L.map Ykb).length),(74,hs x 0)]) (λx=>[.box [.ref 5,.ref 6,ha x 3,ha x 4,ha x 5,ha x 6],.dead,.dead,.box v2,.Ad (List.map (λx=>Ylb (x.Ia.g 1)) L),ho x 1,ho x 2]) (λk=>[.s (li k),.o (.Ac (Ykj v4 (L.take k) v8).m.Ba),.o (.Ad (Ykj v4 (L.take k) v8).m.Ma),.a (vI (Ykj v4 (L.take k) v8).m.Sb),.a (vI (Ykj v4 (L.take k) v8).m.Va),.a (vI (Ykj v4 (L.take k) v8).m.Sc),.a (vI (Ykj v4 (L.take k) v8).m.z)]) (λk=>k<=L.length/\L.length<=9223372036854775807/\L.all (yLo m.Ba)/\cdN m.Sb (1:Int)=0/\(Ykj v4 (L.take k) v8).e=0) (λk=>L.length - k) [.mk (v1.e=0) (.exit 2) (λx=>[(0,.y 0),(2,Af B),v3,(8,li (nxt m.Sb 1))]) (λx=>[.box [.ref 4,.ref 5,ha x 2,ha x 3,ha x 4,ha x 5],.dead,.dead,.box v2,ho x 0,ho x 1]) [.o v6,.o v7,.a (vI v1.m.Sb),.a (vI v1.m.Va),.a (vI v1.m.Sc),.a (vI v1.m.z)],.mk (¬(Ykj v4 L v8).e=0) .ret (λx=>[v3,(7,hs x 7)]) (λx=>[.box [.ref 4,.ref 5,ha x 2,ha x 3,ha x 4,ha x 5],.dead,.dead,ho x 6,ho x 0,ho x 1]) [.o v6,.o v7,.a (vI v1.m.Sb),.a (vI v1.m.Va),.a (vI v1.m.Sc),.a (vI v1.m.z),.o nlB,.s (li v1.e)]]
def Z8e (L:List YS_) (B:List YS_) (m:YS):Lp Nat:=let v7:Cell:=.y;let v1:=[vI 0,vI 0,.val v7,vI 0,vI 0,vS (mkS []),.val v7,.val v7];let v8:=ySc 1 m;let v2:List AC:=[.ref 5,.ref 6,vI v8.Sb,vI v8.Va,vI v8.Sc,vI v8.z];let v3:=v8.Ba.map Ykc;let v4:=v8.Ma.map Ykn;let v5:=(6,.y 3);let v6:=L.map Ykb;.mk 103 3 (λx=>[(0,.y 0),(1,ll v6),(2,Af B),v5,(8,li (nxt m.Sb 1)),(10,.r 4),(27,ll v6),(28,li (L.map Ykb).length),(29,hs x 0)]) (λx=>[.box v2,.dead,.dead,.box v1,ho x 1,.y 4 v3,.y 3 v4]) (λk=>[.s (li k),.o (.Ad (List.map (λx=>Ylb (x.Ia.g 1)) (L.take k)))]) (λk=>k<=L.length/\L.length<=9223372036854775807/\(L.take k).all (yLo m.Ba)/\cdN m.Sb (1:Int)=0) (λk=>L.length - k) [.mk (L.all (yLo m.Ba)) (.exit 0) (λx=>[(0,.y 0),(1,ll v6),(2,Af B),v5,(8,li (nxt m.Sb 1)),(10,.r 4)]) (λx=>[.box v2,.dead,.dead,.box v1,ho x 0,.y 4 v3,.y 3 v4]) [.o (.Ad (List.map (λx=>Ylb (x.Ia.g 1)) L))],.mk (L.all (yLo m.Ba)=false) .ret (λx=>[v5,(7,hs x 1)]) (λx=>[.box [.ref 4,.ref 5,vI v8.Sb,vI v8.Va,vI v8.Sc,vI v8.z],.dead,.dead,ho x 0,.y 4 v3,.y 3 v4]) [.o nlB,.s (li 1)]]
theorem Zj9 (L:List YS_) (B:List YS_) (m:YS) (h:Yl4 m/\(∀ (x:YS_),x∈L->Ykk x)/\(∀ (x:YS_),x∈B->Ykk x)/\L.length<=2000/\B.length<=2000) (ihb:∀ (L:List YS_) (q:YS),Yl4 q/\(∀ (x:YS_),x∈L->Ykk x)/\L.length<=2000/\m.z<=q.z->OK (Z9 L q)):Lp.Sem prog (Yks f133 1) (Z8d L B m):=Yl0 (λk=>let v1:=Ykj (yM1 (nxt m.Sb 1)) (L.take k) (ySc 1 m);let v6:=L.g k;let v5:=v6.Ia.g 0;let v2:=Ykw (Yl7 (nxt m.Sb 1)) v5;let v3:Cell:=.y;let v4:=Yki v5;.i ((k:Int)<(L.map Ykb).length) (.x (k:Int) (L.map Ykb) (Yki v6) (.w (.draw [(11,[0,5,6])]) (.w (.cells v4) (.p ((0:Int)<=0/\(v6.Ia.map Ykb)[0]? = some v4) (.d [.rd,.rd] (Z5a v5 (nxt m.Sb 1)) (.p (0<=(k:Int)/\(k:Int).toNat<((List.map (λx=>Ylb (x.Ia.g 1)) L).map Ykn).length) (.w (.cells (Ynw ((List.map (λx=>Ylb (x.Ia.g 1)) L).g (k:Int).toNat))) (.p (((List.map (λx=>Ylb (x.Ia.g 1)) L).map Ykn)[(k:Int).toNat]? = some (Ynw ((List.map (λx=>Ylb (x.Ia.g 1)) L).g (k:Int).toNat))) (.d [.ptr,.rd,.rd] (Z6k v1.m v2 ((List.map (λx=>Ylb (x.Ia.g 1)) L).g (k:Int).toNat)) (.i ((yMc v2 ((List.map (λx=>Ylb (x.Ia.g 1)) L).g (k:Int).toNat) v1.m).e≠0) (.o 1 [0,1,2,3,25,26] [.o (.Ac (yMc v2 ((List.map (λx=>Ylb (x.Ia.g 1)) L).g (k:Int).toNat) v1.m).m.Ba),.o (.Ad (yMc v2 ((List.map (λx=>Ylb (x.Ia.g 1)) L).g (k:Int).toNat) v1.m).m.Ma),.a (vI (yMc v2 ((List.map (λx=>Ylb (x.Ia.g 1)) L).g (k:Int).toNat) v1.m).m.Sb),.a (vI (yMc v2 ((List.map (λx=>Ylb (x.Ia.g 1)) L).g (k:Int).toNat) v1.m).m.Va),.a (vI (yMc v2 ((List.map (λx=>Ylb (x.Ia.g 1)) L).g (k:Int).toNat) v1.m).m.Sc),.a (vI (yMc v2 ((List.map (λx=>Ylb (x.Ia.g 1)) L).g (k:Int).toNat) v1.m).m.z),.o (.box [vI 0,vI 0,.val v3,vI 0,vI 0,vS (mkS []),.val v3,.val v3]),.s (li (yMc v2 ((List.map (λx=>Ylb (x.Ia.g 1)) L).g (k:Int).toNat) v1.m).e)]) (.r ((k:Int)+1) (.g [0,1,2,3,4,25,26] (k+1) [.s (li ((k:Int)+1)),.o (.Ac (yMc v2 ((List.map (λx=>Ylb (x.Ia.g 1)) L).g (k:Int).toNat) v1.m).m.Ba),.o (.Ad (yMc v2 ((List.map (λx=>Ylb (x.Ia.g 1)) L).g (k:Int).toNat) v1.m).m.Ma),.a (vI (yMc v2 ((List.map (λx=>Ylb (x.Ia.g 1)) L).g (k:Int).toNat) v1.m).m.Sb),.a (vI (yMc v2 ((List.map (λx=>Ylb (x.Ia.g 1)) L).g (k:Int).toNat) v1.m).m.Va),.a (vI (yMc v2 ((List.map (λx=>Ylb (x.Ia.g 1)) L).g (k:Int).toNat) v1.m).m.Sc),.a (vI (yMc v2 ((List.map (λx=>Ylb (x.Ia.g 1)) L).g (k:Int).toNat) v1.m).m.z)])))))))))))) (.o 0 [0,1,2,3,5,6] [.o (.Ac v1.m.Ba),.o (.Ad v1.m.Ma),.a (vI v1.m.Sb),.a (vI v1.m.Va),.a (vI v1.m.Sc),.a (vI v1.m.z)])) (by
 intro k h;try dsimp only[Ykd,Yko,Z8d]at h|-
 have hh := ‹Yl4 m/\(∀ x∈L,Ykk x)/\_›
 have ha:=h.2.2.1
 have hc:=h.2.2.2.1
 have he:=h.2.2.2.2
 have gk:=Y1uy hh.1.1 hh.2.1 ha hc (M:=L.take k) (λx hx=>bu hx) he
 have gr:=λa:k<L.length=>Y1pt hh.1.1 hh.2.1 ha hc _ (Ykg a)
 have gi:=λa:k<L.length=>Y17n (hh.2.1 _ (Ykg a)) (List.all_eq_true.1 ha _ (Ykg a))
 have gm:k<L.length->(L.map λx=>Ylb (x.Ia.g 1)).g k=Ylb ((L.g k).Ia.g 1):=λa=>by simp[aq,a]
 have gw:k<L.length->(List.map Ykn (L.map λx=>Ylb (x.Ia.g 1)))[k]? = some (Ynw (Ylb ((L.g k).Ia.g 1))):=λa=>by rw[<- gm a];exact Yqp (by rw[aN];exact a)
 have hl:=hh.2.2.2.1
 with_reducible repeat' (first|apply ah|exact zR|(intro)|apply Z8|apply Z4|apply Zb|apply Zw|apply Zd)
 all_goals ((try simp only[std,inj]at *);with_reducible and_intros)
 all_goals try first|with_reducible (first|apply Z8|apply Z4|apply Zb|apply Zw|apply Zd)|(simp only[<- ar];with_reducible first|apply Z8|apply Z4|apply Zb|apply Zw|apply Zd)
 all_goals (try simp only[aL]at *)
 all_goals (try (have hk:k<L.length:=by omega);try rw[gm hk]at *)
 all_goals first
  | exact cb|omega|exact Yqp oW|exact gw oW|exact gk.1|exact ha|exact hc|exact he
  | (have:=(gi oW).1;exact Yqp oW)
  | exact a9 (Ymh (gr oW).1).1 oW|exact a9 (Ymh (gi oW).2.2.1).1 oW|exact(gr oW).2.2
  | (rw[Y1z3 oW he aW];first|done|exact aW|rfl)
  | (rw[Y21x oW he aW]<;>rfl)
  | (rw[<- Yyv (f:=yM1 (nxt m.Sb 1)) (L:=L) (m:=ySc 1 m) (k:=k) oW];first|done|exact he)
  | skip)
theorem Zja (L:List YS_) (B:List YS_) (m:YS) (h:Yl4 m/\(∀ (x:YS_),x∈L->Ykk x)/\(∀ (x:YS_),x∈B->Ykk x)/\L.length<=2000/\B.length<=2000) (ihb:∀ (L:List YS_) (q:YS),Yl4 q/\(∀ (x:YS_),x∈L->Ykk x)/\L.length<=2000/\m.z<=q.z->OK (Z9 L q)):Lp.Sem prog (Yks f133 0) (Z8e L B m):=Yl0 (λk=>let v4:Cell:=.y;let v1:Ob:=.box [vI 0,vI 0,.val v4,vI 0,vI 0,vS (mkS []),.val v4,.val v4];let v2:=L.g k;let v3:=v2.Ia.g 1;let v5:=v2.Ia.g 0;let v6:Tq _ _:=.y true (.o 1 [0,1,2,3,5,6] [.o v1,.s (li 1)]);.i ((k:Int)<(L.map Ykb).length) (.x (k:Int) (L.map Ykb) (Yki v2) (.i (v2.Ka≠0) (.y true v6) (.z Ykb v2.Ia (.i (((v2.Ia.map Ykb).length:Int)≠2) v6 (.w (.cells (Yki v5)) (.p ((0:Int)<=0/\(v2.Ia.map Ykb)[0]? = some (Yki v5)) (.i (v5.Ka≠1) (.o 1 [0,1,2,3,5,6] [.o v1,.s (li 1)]) (.w (.draw [(14,[22])]) (.w (.cells (Yki v3)) (.p ((0:Int)<=1/\(v2.Ia.map Ykb)[1]? = some (Yki v3)) (.d [.rd,.rd] (Z2q (ySc 1 m).Ba v3) (.b (!Ym5 (ySc 1 m).Ba v3) (.o 1 [0,1,2,3,5,6] [.o v1,.s (li 1)]) (.p ((((List.map (λx=>Ylb (x.Ia.g 1)) (L.take k)).map Ykn).length+1) * 72<=140737488355328) (.r ((k:Int)+1) (.g [0,1,2,3,24,5,6] (k+1) [.s (li ((k:Int)+1)),.o (.y 3 ((List.map (λx=>Ylb (x.Ia.g 1)) (L.take k)).map Ykn++[Ynw (Ymw (ySc 1 m).Ba v3)]))]))))))))))))))) (.o 0 [0,1,2,3,4,5,6] [.o (.Ad (List.map (λx=>Ylb (x.Ia.g 1)) (L.take k)))])) (by
 intro k h;try dsimp only[Ykd,Yko,Z8e]at h|-
 have hh := ‹Yl4 m/\(∀ x∈L,Ykk x)/\_›
 have w:=Yqi hh.1.1
 have w1:=w.1
 have w2:=w.2.1
 have hs0:k<L.length->Ykk (L.g k):=λa=>hh.2.1 _ (Ykg a)
 have tk:(L.take k).length<=L.length:=by rw[au];omega
 have hl:=hh.2.2.2.1
 with_reducible repeat' (first|apply ah|exact zR|(intro)|apply Z8|apply Z4|apply Zb|apply Zw|apply Zd)
 all_goals ((try simp only[std,inj]at *);with_reducible and_intros)
 all_goals try first|with_reducible (first|apply Z8|apply Z4|apply Zb|apply Zw|apply Zd)|(simp only[<- ar];with_reducible first|apply Z8|apply Z4|apply Zb|apply Zw|apply Zd)
 all_goals (try simp only[aL]at *)
 all_goals first
  | exact cb|omega|exact Yqp oW|exact h.2.2.1|exact h.2.2.2
  | exact a9 (Ymh (Ynm (hs0 oW) oW)).1 oW
  | exact Y1b5 (k:=k) oW (Y22u aW)|exact Y1b5 (k:=k) oW (Y23p aW)|exact Y1b5 (k:=k) oW (Y23l aW)|exact Y1b5 (k:=k) oW (Y23c aW)
  | (rw[Y1xp oW,h.2.2.1,Y24o aW aW aW aW]<;>rfl)
  | (rw[Yku oW,ar,ar,Y16i aW]<;>rfl)
  | (rw[<- h.2.2.1,av (l:=L) (i:=k) oW];done)
  | (rw[av (l:=L) (i:=k) oW];done)
  | skip)
theorem Zdl (L B:List YS_) (m:YS) (h:Yl4 m/\(∀ x∈L,Ykk x)/\(∀ x∈B,Ykk x)/\L.length<=2000/\B.length<=2000) (ihb:∀ (L:List YS_) (q:YS),Yl4 q/\(∀ x∈L,Ykk x)/\L.length<=2000/\m.z<=q.z->Z9 L q):Za1 L B m:=Ykr call133 func133 (let v11:=nxt m.Sb 1;let v10:=ySc 1 m;let v7:=Ykj (yM1 v11) L v10;let v1:=yZ (yAd v11 B) v7.m;let v8:=v10.Ba.map Ykc;let v9:=v10.Ma.map Ykn;let v2:List Ob:=[.box [.ref 3,.ref 4,vI v10.Sb,vI v10.Va,vI v10.Sc,vI v10.z],.dead,.dead,.y 4 v8,.y 3 v9,.y 1 [],.y 4 [],.y 8 []];let v3:=[vI 0,vI 0,.ref 5,vI 0,vI 0,vS (mkS []),.ref 6,.ref 7];let v4:Orc:=.ghost (.nilbox 3 7 true 8);let v5:Orc:=.ghost (.nilbox 3 6 true 4);let v6:Orc:=.ghost (.nilbox 3 2 true 1);.d [.ptr,.rd] (Z4i m 1) (.i (cdN m.Sb (1:Int)≠0) (.w v6 (.w v5 (.w v4 (.w (.m 1) (.w (.m 2) (.f [7,8,4,5,6] v2 (.tup [.agg [vI 0,vI 0,.ref 5,vI 0,vI 0,vS (mkS []),.ref 6,.ref 7],li (cdN m.Sb 1)]))))))) (.z Ykb L (.w (.g (.nilreg 10 true 3)) (.w (.m 1) (.w (.m 2) (.l (Z8e L B m) (Zja L B m h ihb) [0,1,2,3,4,5,6] [.s (li 0),.o (.y 3 [])] 0 (.t (.z Ykb L (.l (Z8d L B m) (Zj9 L B m h ihb) [0,1,2,3,4,5,6] [.s (li 0),.o (.y 4 v8),.o (.y 3 v9),.a (vI v10.Sb),.a (vI v10.Va),.a (vI v10.Sc),.a (vI v10.z)] 0 (.t (.d [.rd,.rd] (Z4j B v11) (.d [.ptr,.rd] (Z9 (yAd v11 B) v7.m) (.f [10,11,12,13,14] [.box [.ref 3,.ref 4,vI v1.m.Sb,vI v1.m.Va,vI v1.m.Sc,vI v1.m.z],.dead,.dead,.Ac v1.m.Ba,.Ad v1.m.Ma,.Aa v1.v.Pa,.Ah v1.v.Da.Ia,.Ak v1.v.Kb] (.tup [.agg [vI v1.v.Ka,vI v1.v.Na,.ref 5,vI v1.v.Da.Ka,vI v1.v.Da.Na,vS v1.v.Da.Ta,.ref 6,.ref 7],li v1.e])))) (.t (.w v6 (.w v5 (.w v4 (.f [4,5,6,7,8] [.box [.ref 3,.ref 4,vI v7.m.Sb,vI v7.m.Va,vI v7.m.Sc,vI v7.m.z],.dead,.dead,.Ac v7.m.Ba,.Ad v7.m.Ma,.y 1 [],.y 4 [],.y 8 []] (.tup [.agg v3,li v7.e]))))) .q)))) (.t (.w v6 (.w v5 (.w v4 (.f [4,5,6,7,8] v2 (.tup [.agg v3,li 1]))))) .q))))))))) (by
 dsimp only[Ykd,Za1,Yko,Z8e,Z8d]
 have hn:=@Ypb m.Sb 1 (Yqi h.1.1).2.2.1.1
 have hA:cdN m.Sb 1=0->∀ x∈yAd (nxt m.Sb 1) B,Ykk x:=λa=>Yr7 ⟨(hn a).1,(hn a).2.1⟩ h.2.2.1
 have hl:(yAd (nxt m.Sb 1) B).length=B.length:=by simp[yAd]
 have gk:=λa b=>Y1uy (L:=L) h.1.1 h.2.1 a b (M:=L) (λ_ hx=>hx)
 have gy:cdN m.Sb 1=0->L.all (yLo m.Ba)->(Ykj (yM1 (nxt m.Sb 1)) L (ySc 1 m)).e=0->OK (Z9 (yAd (nxt m.Sb 1) B) (Ykj (yM1 (nxt m.Sb 1)) L (ySc 1 m)).m):=λa b c=>ihb _ _ ⟨⟨(gk b a c).1,by rw[(gk b a c).2];exact h.1.2⟩,hA a,by rw[hl];exact h.2.2.2.2,by rw[(gk b a c).2];omega⟩
 have hl2:=h.2.2.2.1
 have hl3:=h.2.2.2.2
 with_reducible repeat' (first|apply ah|exact zR|(intro)|apply Z8|apply Z4|apply Zb|apply Zw|apply Zd)
 all_goals ((try simp only[std,inj]at *);with_reducible and_intros)
 all_goals try first|with_reducible (first|apply Z8|apply Z4|apply Zb|apply Zw|apply Zd)|(simp only[<- ar];with_reducible first|apply Z8|apply Z4|apply Zb|apply Zw|apply Zd)
 all_goals (try simp only[aL]at *)
 all_goals first
  | exact cb|omega|rfl|exact h.1.1|exact aW|exact gy aW aW aW|exact h.2.2.1 _ aW
  | (rw[Y24i aW]<;>rfl)
  | (rw[Y24l aW aW]<;>rfl)
  | (rw[Y25e aW aW aW]<;>rfl)
  | (rw[Y242 aW aW aW]<;>rfl)
  | skip)
abbrev Zc0 (s:YS_) (k0:Int) (m:YS):Ct:=⟨80,stY m,[.y 0,Ykx s,li k0],stZ (yFm yX yZ k0 s m).m++Yzn (yFm yX yZ k0 s m).v,.tup [Y10c (yFm yX yZ k0 s m).v 5,li (yFm yX yZ k0 s m).e]⟩
theorem Za2 (s:YS_) (k0:Int) (m:YS) (h:Yl4 m/\Ykk s/\0<=k0/\k0<=11/\1<=s.Ia.length) (ih:∀ (s:YS_) (q:YS),Yl4 q/\Ykk s/\m.z<=q.z->Zo s q) (ihb:∀ (L:List YS_) (q:YS),Yl4 q/\(∀ x∈L,Ykk x)/\L.length<=2000/\m.z<=q.z->Z9 L q):Zc0 s k0 m:=Ykr call80 func80 (let v10:=s.Ia.map Ykb;let v1:=List.take (v10.length - 2) (s.Ia.drop 2);let v20:Orc:=.ghost (.nilbox 4 2 true 1);let v19:Orc:=.ghost (.nilbox 4 6 true 4);let v33:Orc:=.ghost (.nilbox 4 7 true 8);let v46:List AC:=[.ref 3,.ref 4,vI m.Sb,vI m.Va,vI m.Sc,vI m.z];let v49:=m.Ba.map Ykc;let v51:=m.Ma.map Ykn;let v11:List Ob:=[.box v46,.dead,.dead,.y 4 v49,.y 3 v51,.y 1 [],.y 4 [],.y 8 []];let v47:=mkS [];let v12:=[vI 0,vI 0,.ref 5,vI 0,vI 0,vS v47,.ref 6,.ref 7];let v2:Tq _ _:=.w v20 (.w v19 (.w v33 (.w (.m 1) (.w (.m 2) (.f [9,10,6,7,8] v11 (.tup [.agg v12,li 1]))))));let v3:=List.take (v10.length - 1) (s.Ia.drop 1);let v4:=s.Ia.g 1;let v5:List Ob:=[.box [.ref 1,.ref 2,vI m.Sb,vI m.Va,vI m.Sc,vI m.z],.y 4 v49,.y 3 v51];let v6:=List.take 1 (s.Ia.drop 1);let v7:Tq _ _:=.w v20 (.w v19 (.w v33 (.w (.m 1) (.w (.m 2) (.f [9,10,6,7,8] v11 (.tup [.agg v12,li 5]))))));let v44:=s.Ia.g 2;let v8:=yX v44 m;let v17:=yPr v4.Ia 60 v1 m;let v9:=Ykj yX v17.v.2 v17.m;let v34:=Ykj yX v3 m;let v13:List AC:=[.ref 3,.ref 4,vI v34.m.Sb,vI v34.m.Va,vI v34.m.Sc,vI v34.m.z];let v14:=yPc yZ 5 v4.Ia v1 m;let v15:=yLs yZ v4.Ia v1 m;let v27:=yPc yZ 11 v6 v1 m;let v16:List Ob:=[.box [.ref 3,.ref 4,vI v27.m.Sb,vI v27.m.Va,vI v27.m.Sc,vI v27.m.z],.dead,.dead,.Ac v27.m.Ba,.Ad v27.m.Ma,.Aa v27.v.Pa,.Ah v27.v.Da.Ia,.Ak v27.v.Kb];let v38:=Yki v4;let v18:=(0:Int)<=1/\v10[1]? = some v38;let v21:=Ym1.g k0.toNat;let v54:AC:=.ptr 0 0;let v43:List SV:=[.one v54,ll (List.take (v10.length - 1) (v10.drop 1))];let v41:=v34.m.Ba.map Ykc;let v42:=v34.m.Ma.map Ykn;let v22:=Yn4 prog 81 v5 v43 [.box v13,.dead,.dead,.y 4 v41,.y 3 v42,.Ak v34.v] (.tup [.r 5,li v34.e]);let v23:List Ob:=[.box [.ref 3,.ref 4,vI v15.m.Sb,vI v15.m.Va,vI v15.m.Sc,vI v15.m.z],.dead,.dead,.Ac v15.m.Ba,.Ad v15.m.Ma,.Aa v15.v.Pa,.Ah v15.v.Da.Ia,.Ak v15.v.Kb];let v24:List Ob:=[.box [.ref 3,.ref 4,vI v14.m.Sb,vI v14.m.Va,vI v14.m.Sc,vI v14.m.z],.dead,.dead,.Ac v14.m.Ba,.Ad v14.m.Ma,.Aa v14.v.Pa,.Ah v14.v.Da.Ia,.Ak v14.v.Kb];let v25:Tq _ _:=.w v20 (.w v19 (.w v33 (.f [9,10,12,13,14] [.box v13,.dead,.dead,.y 4 v41,.y 3 v42,.y 1 [],.y 4 [],.y 8 []] (.tup [.agg v12,li v34.e]))));let v26:=((s.Ia.map Ykb).length:Int);let v39:List AC:=[.ref 3,.ref 4,vI v9.m.Sb,vI v9.m.Va,vI v9.m.Sc,vI v9.m.z];let v57:=v9.m.Ba.map Ykc;let v28:List Ob:=[.box v39,.dead,.dead,.y 4 v57,.Ad v9.m.Ma,.y 1 [],.y 4 [],.y 8 []];let v37:=yZ v3 m;let v29:List AC:=[.ref 3,.ref 4,vI v37.m.Sb,vI v37.m.Va,vI v37.m.Sc,vI v37.m.z];let v30:AV:=.tup [.agg [vI v15.v.Ka,vI v15.v.Na,.ref 5,vI v15.v.Da.Ka,vI v15.v.Da.Na,vS v15.v.Da.Ta,.ref 6,.ref 7],li v15.e];let v31:AV:=.tup [.agg [vI v14.v.Ka,vI v14.v.Na,.ref 5,vI v14.v.Da.Ka,vI v14.v.Da.Na,vS v14.v.Da.Ta,.ref 6,.ref 7],li v14.e];let v32:=sqV v34.v;let v35:AV:=.tup [.agg [vI v27.v.Ka,vI v27.v.Na,.ref 5,vI v27.v.Da.Ka,vI v27.v.Da.Na,vS v27.v.Da.Ta,.ref 6,.ref 7],li v27.e];let v36:=List.take (v10.length - 2) (v10.drop 2);let v40:List AC:=[.ref 3,.ref 4,vI v8.m.Sb,vI v8.m.Va,vI v8.m.Sc,vI v8.m.z];let v45:=v37.m.Ba.map Ykc;let v48:=v37.m.Ma.map Ykn;let v50:=v4.Ia.map Ykb;let v52:=(0:Int)<=2;let v53:=(0:Int)<=1;let v55:=rsB m.Ba v4.Ta v4.Sa;let v56:=v17.m.Ba.map Ykc;let v58:=v8.m.Ba.map Ykc;.z Ykb s.Ia (.c [] Zv (.p (0<=k0/\k0.toNat<12) (.w (.cells (Ylu v21)) (.p ((Ym1.map Ylu)[k0.toNat]? = some [cS v21]) (.i (v21.data.toList=[113,117,111,116,101]) (.i (v26≠2) v2 (.w (.cells v38) (.p v18 (.d [.rd] (Z2m v4) (.c [.rd] (Z3p (yDt v4)) (.b (!Yn6 (yDt v4)) (.w v20 (.w v19 (.w v33 (.w (.m 1) (.w (.m 2) (.f [11,12,8,9,10] v11 (.tup [.agg v12,li 8]))))))) (.w v20 (.w v33 (.w (.m 1) (.w (.m 2) (.f [10,11,8,6,9] [.box v46,.dead,.dead,.y 4 v49,.y 3 v51,.y 1 [],.Ah (yDt v4).Ia,.y 8 []] (.tup [.agg [vI 1,vI 0,.ref 5,vI (yDt v4).Ka,vI (yDt v4).Na,vS (yDt v4).Ta,.ref 6,.ref 7],li 0])))))))))))) (.i (v21.data.toList=[105,102]) (.i (v26≠4) v2 (.p v53 (.p (1<=v10.length/\v10.length<=v10.length/\∀ (x0:List Cell),x0∈s.Ia.map Ykb->x0.length=5) (.u [.ptr,.rd] (Z4k v3 m) (.p v22 (.i (v34.e≠0) v25 (.w v20 (.w v19 (.f [9,10,12,13,11] [.box v13,.dead,.dead,.y 4 v41,.y 3 v42,.y 1 [],.y 4 [],.Ak v34.v] (.tup [.agg [vI 7,vI 0,.ref 5,vI 0,vI 0,vS v47,.ref 6,.ref 7],li 0])))))))))) (.i (v21.data.toList=[98,101,103,105,110]) (.i (v26<2) v2 (.p v53 (.p (1<=v10.length/\v10.length<=v10.length/\∀ (x0:List Cell),x0∈s.Ia.map Ykb->x0.length=5) (.u [.ptr,.rd] (Z4k v3 m) (.p v22 (.i (v34.e≠0) v25 (.d [.own true 8] (Z9z v34.v) (.f [9,10,13,14,15] [.box v13,.dead,.dead,.y 4 v41,.y 3 v42,.Aa v32.Pa,.Ah v32.Da.Ia,.Ak v32.Kb] (.tup [.agg [vI v32.Ka,vI v32.Na,.ref 5,vI v32.Da.Ka,vI v32.Da.Na,vS v32.Da.Ta,.ref 6,.ref 7],li (sqE v34.v)]))))))))) (.i (v21.data.toList=[108,97,109,98,100,97]) (.i (v26<3) (.y true v2) (.w (.cells v38) (.p v18 (.i (v4.Ka≠0) v2 (.w (.draw [(9,[0,1,2]),(12,[4])]) (.w (.cells v38) (.p v18 (.p v52 (.p (2<=v10.length/\v10.length<=v10.length/\∀ (x0:List Cell),x0∈s.Ia.map Ykb->x0.length=5) (.u [.ptr,.rd,.rd,.rd] (Z6a 5 v4.Ia v1 m) (.p (Yn4 prog 130 v5 [SV.one v54,li 5,ll v50,ll v36] v24 v31) (.f [15,16,17,18,19] v24 v31)))))))))))) (.i (v21.data.toList=[115,104,105,102,116]) (.i (v26<3) v2 (.w (.draw [(7,[0,1,2]),(10,[4])]) (.p v53 (.p v52 (.p (1<=2/\2<=v10.length/\∀ (x0:List Cell),x0∈s.Ia.map Ykb->x0.length=5) (.p v52 (.p (2<=v10.length/\v10.length<=v10.length/\∀ (x0:List Cell),x0∈s.Ia.map Ykb->x0.length=5) (.u [.ptr,.rd,.rd,.rd] (Z6a 11 v6 v1 m) (.p (Yn4 prog 130 v5 [SV.one v54,li 11,ll (List.take 1 (v10.drop 1)),ll v36] v16 v35) (.f [13,14,15,16,17] v16 v35)))))))))) (.i (v21.data.toList=[108,111,99,97,108]) (.i (v26<3) (.y true (.y true v2)) (.w (.cells v38) (.p v18 (.i (v4.Ka≠0) (.y true v2) (.w (.cells v38) (.p v18 (.z Ykb v4.Ia (.i (((v4.Ia.map Ykb).length:Int)=0) v2 (.w (.draw [(9,[0,1,2])]) (.w (.cells v38) (.p v18 (.p v52 (.p (2<=v10.length/\v10.length<=v10.length/\∀ (x0:List Cell),x0∈s.Ia.map Ykb->x0.length=5) (.u [.ptr,.rd,.rd,.rd] (Z6n m v4.Ia 60 v1) (.p (Yn4 prog 131 v5 [SV.one v54,ll v50,li 60,ll v36] [Ob.box [AC.ref 3,AC.ref 2,vI v17.m.Sb,vI v17.m.Va,vI v17.m.Sc,vI v17.m.z],Ob.dead,Ob.arr true 3 (v17.m.Ma.map Ykn),Ob.arr true 4 v56,Ob.arr true 1 (v17.v.1.map Yke),Ob.arr true 5 (v17.v.2.map Ykb)] (AV.tup [SV.one (AC.ref 4),SV.one (AC.ref 5),li v17.e])) (.i (v17.e≠0) (.w v20 (.w v19 (.w v33 (.w (.m 2) (.f [15,21,18,19,20] [.box [.ref 3,.ref 4,vI v17.m.Sb,vI v17.m.Va,vI v17.m.Sc,vI v17.m.z],.dead,.dead,.y 4 v56,.Ad v17.m.Ma,.y 1 [],.y 4 [],.y 8 []] (.tup [.agg v12,li v17.e])))))) (.d [.ptr,.rd] (Z4k v17.v.2 v17.m) (.i (v9.e≠0) (.w v20 (.w v19 (.w v33 (.f [21,22,24,25,26] v28 (.tup [.agg v12,li v9.e]))))) (.z Ykz v9.v (.i (60<((v9.v.map Ykz).length:Int)) (.w v20 (.w v19 (.w v33 (.f [21,22,24,25,26] v28 (.tup [.agg v12,li 8]))))) (.w v19 (.f [21,22,16,24,23] [.box v39,.dead,.dead,.y 4 v57,.Ad v9.m.Ma,.Aa v17.v.1,.y 4 [],.Ak v9.v] (.tup [.agg [vI 9,vI 0,.ref 5,vI 0,vI 0,vS v47,.ref 6,.ref 7],li 0]))))))))))))))))))))))) (.i (v21.data.toList=[115,101,116,33]) (.i (v26≠3) (.y true v2) (.w (.cells v38) (.p v18 (.i (v4.Ka≠1) v2 (.w (.cells v38) (.p v18 (.d [.ptr,.rd] (Z8a m v4) (.i (yRe m.Ba v4.Ta v4.Sa≠0) (.w v20 (.w v19 (.w v33 (.w (.m 1) (.w (.m 2) (.f [10,11,7,8,9] v11 (.tup [.agg v12,li (yRe m.Ba v4.Ta v4.Sa)]))))))) (.i (v55.Ka≠3) (.w v20 (.w v19 (.w v33 (.w (.m 1) (.w (.m 2) (.f [10,11,7,8,9] v11 (.tup [.agg v12,li 1]))))))) (.w (.cells (Yki v44)) (.p ((0:Int)<=2/\v10[2]? = some (Yki v44)) (.d [.ptr,.rd] (Zo v44 m) (.i (v8.e≠0) (.w v20 (.w v19 (.w v33 (.f [10,11,16,17,18] [.box v40,.dead,.dead,.y 4 v58,.Ad v8.m.Ma,.y 1 [],.y 4 [],.y 8 []] (.tup [.agg v12,li v8.e]))))) (.w v20 (.w v19 (.f [10,11,17,18,16] [.box v40,.dead,.dead,.y 4 v58,.Ad v8.m.Ma,.y 1 [],.y 4 [],.y 8 [Ymg v8.v]] (.tup [.agg [vI 4,vI v55.Na,.ref 5,vI 0,vI 0,vS v47,.ref 6,.ref 7],li 0]))))))))))))))))) (.i (v21.data.toList=[114,101,115,101,116]) (.i (v26<2) v2 (.p v53 (.p (1<=v10.length/\v10.length<=v10.length/\∀ (x0:List Cell),x0∈s.Ia.map Ykb->x0.length=5) (.u [.ptr,.rd] (Z9 v3 m) (.p (Yn4 prog 132 v5 v43 [Ob.box v29,Ob.dead,Ob.dead,Ob.arr true 4 v45,Ob.arr true 3 v48,Ob.arr true 1 (v37.v.Pa.map Yke),Ob.arr true 4 (v37.v.Da.Ia.map Ykq),Ob.arr true 8 (v37.v.Kb.map Ykz)] (AV.tup [SV.agg [vI v37.v.Ka,vI v37.v.Na,AC.ref 5,vI v37.v.Da.Ka,vI v37.v.Da.Na,vS v37.v.Da.Ta,AC.ref 6,AC.ref 7],li v37.e])) (.i (v37.e≠0) (.w v20 (.w v19 (.w v33 (.f [9,10,15,16,17] [.box v29,.dead,.dead,.y 4 v45,.y 3 v48,.y 1 [],.y 4 [],.y 8 []] (.tup [.agg v12,li v37.e]))))) (.w v20 (.w v19 (.f [9,10,16,17,15] [.box v29,.dead,.dead,.y 4 v45,.y 3 v48,.y 1 [],.y 4 [],.y 8 [Ymg v37.v]] (.tup [.agg [vI 10,vI 0,.ref 5,vI 0,vI 0,vS v47,.ref 6,.ref 7],li 0])))))))))) (.i (v21.data.toList=[108,101,116,45,115,121,110,116,97,120]) (.i (v26<3) (.y true v2) (.w (.cells v38) (.p v18 (.i (v4.Ka≠0) v2 (.w (.draw [(9,[0,1,2]),(12,[4])]) (.w (.cells v38) (.p v18 (.p v52 (.p (2<=v10.length/\v10.length<=v10.length/\∀ (x0:List Cell),x0∈s.Ia.map Ykb->x0.length=5) (.u [.ptr,.rd,.rd] (Za1 v4.Ia v1 m) (.p (Yn4 prog 133 v5 [SV.one v54,ll v50,ll v36] v23 v30) (.f [15,16,17,18,19] v23 v30)))))))))))) (.i (v21.data.toList=[100,101,102,105,110,101]) (.y true v7) (.i (v21.data.toList=[100,101,102,105,110,101,45,115,121,110,116,97,120]) v7 v2)))))))))))))))) (by
 dsimp only[Ykd,Zc0]
 have hm:=h.1
 have hs:=h.2.1
 have hk:0<=k0/\k0<=11:=⟨h.2.2.1,h.2.2.2.1⟩
 have hl:=Ysm hs
 have h5:=h.2.2.2.2
 have w:=Yqi hm.1
 have w1:=w.1
 have w2:=w.2.1
 have hI:=λ(i:Nat) (c:i<s.Ia.length)=>Ynm hs c
 have hJ:=λ(i:Nat) (c:i<s.Ia.length)=>Ysm (hI i c)
 have d1:∀ x∈s.Ia.drop 1,Ykk x:=λx hx=>Ymm hs (aH hx)
 have d2:∀ x∈s.Ia.drop 2,Ykk x:=λx hx=>Ymm hs (aH hx)
 have dt:∀ x∈(s.Ia.drop 1).take 1,Ykk x:=λx hx=>Ymm hs (aH (bu hx))
 have da:1<s.Ia.length->∀ x∈(s.Ia.g 1).Ia,Ykk x:=λc x hx=>Ymm (hI 1 c) hx
 have l1:(s.Ia.drop 1).length=s.Ia.length - 1:=ay
 have l2:(s.Ia.drop 2).length=s.Ia.length - 2:=ay
 have l3:((s.Ia.drop 1).take 1).length<=1:=by rw[au];omega
 have gP:=λ(c:1<s.Ia.length) (a:(yPr (s.Ia.g 1).Ia 60 (s.Ia.drop 2) m).e=0)=>Yvl (most:=60) hm.1 (da c) d2 a
 have gM:1<s.Ia.length->(yPr (s.Ia.g 1).Ia 60 (s.Ia.drop 2) m).e=0->Yl4 (yPr (s.Ia.g 1).Ia 60 (s.Ia.drop 2) m).m:=λc a=>⟨(gP c a).1,by have:=(gP c a).2.1;have:=hm.2;omega,by have:=(gP c a).2.1;have:=hm.2;omega⟩
 have iP:1<s.Ia.length->(yPr (s.Ia.g 1).Ia 60 (s.Ia.drop 2) m).e=0->∀ (s1:YS_) (q:YS),Yl4 q/\Ykk s1/\(yPr (s.Ia.g 1).Ia 60 (s.Ia.drop 2) m).m.z<=q.z->Yl4 q/\Ykk s1/\m.z<=q.z:=λc a s1 q d=>⟨d.1,d.2.1,by have:=(gP c a).2.1;have:=d.2.2;omega⟩
 have c1:=Z52 (s.Ia.drop 1) m ⟨hm,d1,by omega⟩ ih
 have c2:=λa:1<s.Ia.length=>Z48 5 (s.Ia.g 1).Ia (s.Ia.drop 2) m ⟨hm,da a,d2,by have:=hJ 1 a;omega,by omega⟩ ihb
 have c3:=Z48 11 ((s.Ia.drop 1).take 1) (s.Ia.drop 2) m ⟨hm,dt,d2,by omega,by omega⟩ ihb
 have c4:=λa:1<s.Ia.length=>Z6o m (s.Ia.g 1).Ia 60 (s.Ia.drop 2) ⟨hm.1,da a,d2,by have:=hJ 1 a;omega,by omega⟩
 have c5:=ihb (s.Ia.drop 1) m ⟨hm,d1,by omega,aJ _⟩
 have c6:=λa:1<s.Ia.length=>Zdl (s.Ia.g 1).Ia (s.Ia.drop 2) m ⟨hm,da a,d2,by have:=hJ 1 a;omega,by omega⟩ ihb
 dsimp only[Z4k,Z6a,Z6n,Z9,Za1,List.cons_append,List.nil_append]at c1 c2 c3 c4 c5 c6
 have k1:=λa=>Y20v (L:=s.Ia.drop 1) hm d1 oW a
 with_reducible repeat' (first|apply ah|exact zR|exact ih|(intro)|apply Zv|apply Z5y|apply Z3p|apply Z52|apply Za0|apply Z48|apply Z6o|apply Z47|apply Zdl)
 all_goals ((try simp only[std,inj]at *);with_reducible and_intros)
 all_goals try first|with_reducible (first|apply Zv|apply Z5y|apply Z3p|apply Z52|apply Za0|apply Z48|apply Z6o|apply Z47|apply Zdl|apply ih)|(simp only[<- ar];with_reducible first|apply Zv|apply Z5y|apply Z3p|apply Z52|apply Za0|apply Z48|apply Z6o|apply Z47|apply Zdl|apply ih)
 all_goals (try simp only[aL,Y1um,td2,fnE hk [113,117,111,116,101] 0 (by decide +kernel),fnE hk [105,102] 2 (by decide +kernel),fnE hk [98,101,103,105,110] 4 (by decide +kernel),fnE hk [108,97,109,98,100,97] 1 (by decide +kernel),fnE hk [115,104,105,102,116] 6 (by decide +kernel),fnE hk [108,111,99,97,108] 11 (by decide +kernel),fnE hk [115,101,116,33] 3 (by decide +kernel),fnE hk [114,101,115,101,116] 5 (by decide +kernel),fnE hk [108,101,116,45,115,121,110,116,97,120] 9 (by decide +kernel),fnE hk [100,101,102,105,110,101] 7 (by decide +kernel),fnE hk [100,101,102,105,110,101,45,115,121,110,116,97,120] 8 (by decide +kernel)]at *)
 all_goals first
  | exact cb|omega|rfl|exact hm|exact hm.1|exact Yqp (show _<12 by omega)|exact Yqp oW|exact d1|exact d2|exact dt|exact d1 _ aW|exact d2 _ aW|exact dt _ aW
  | exact da oW|exact da oW _ aW|exact hI _ oW|exact a9 (Ymh (hI _ oW)).1 oW
  | exact(k1 aW).1|exact(k1 aW).2
  | exact gM oW aW|exact(gP oW aW).1|exact(gP oW aW).2.2.1|exact(gP oW aW).2.2.1 _ aW
  | (have:=(gP oW aW).2.2.2.1;omega)|(have:=hJ 1 oW;omega)
  | (rw[yFm,ae aW];first|(rw[ab aW]<;>rfl)|(rw[ae aW,ab (nb aW)]<;>rfl)|(rw[ae aW,ae (tb aW)]<;>rfl))
  | (rw[yFm,ab aW,ae aW];first|(rw[ab aW]<;>rfl)|(rw[ae aW,yTo,ab aW]<;>rfl)|(rw[ae aW,yTo,ae aW]<;>rfl)|(rw[ae aW,yTo,ae aW,<- Ypw]<;>rfl))
  | (rw[yFm,ab aW,ab aW,ae aW];first|(rw[ae aW]<;>rfl)|(rw[ab aW,ab aW]<;>rfl)|(rw[ab aW,ae aW]<;>rfl))
  | (rw[yFm,ab aW,ab aW,ab aW,ae aW];first|(rw[ae (.inl aW)]<;>rfl)|(rw[ae (.inr aW)]<;>rfl)|(rw[ab (no2 aW aW)]<;>rfl))
  | (rw[yFm,ab aW,ab aW,ab aW,ab aW,ae aW];first|(rw[ae aW]<;>rfl)|(rw[ab aW]<;>rfl))
  | (rw[yFm,ab aW,ab aW,ab aW,ab aW,ab aW,ae aW];first|(rw[ae (.inl aW)]<;>rfl)|(rw[ae (.inr (.inl aW))]<;>rfl)|(rw[ae (.inr (.inr oW))]<;>rfl)|(rw[ab (no3 aW aW oW)];first|(rw[ab aW]<;>rfl)|(rw[ae aW,ab aW]<;>rfl)|(rw[ae aW,ae aW,ae aW]<;>rfl)|(rw[ae aW,ae aW,ab aW]<;>rfl)|(rw[ae aW,ae aW,ab aW,<- Ypw]<;>rfl)))
  | (rw[yFm,ab aW,ab aW,ab aW,ab aW,ab aW,ab aW,ae aW];first|(rw[ae (.inl aW)]<;>rfl)|(rw[ae (.inr aW)]<;>rfl)|(rw[ab (no4 aW aW)];first|(rw[ab aW]<;>rfl)|(rw[ae aW,ab aW]<;>rfl)|(rw[ae aW,ae aW,yTo,ab aW]<;>rfl)|(rw[ae aW,ae aW,yTo,ae aW]<;>rfl)|(rw[ae aW,ae aW,yTo,ae aW,<- Ypw]<;>rfl)))
  | (rw[yFm,ab aW,ab aW,ab aW,ab aW,ab aW,ab aW,ab aW,ae aW];first|(rw[ae aW]<;>rfl)|(rw[ab aW,yTo,ab aW]<;>rfl)|(rw[ab aW,yTo,ae aW]<;>rfl)|(rw[ab aW,yTo,ae aW,<- Ypw]<;>rfl))
  | (rw[yFm,ab aW,ab aW,ab aW,ab aW,ab aW,ab aW,ab aW,ab aW,ae aW];first|(rw[ae (.inl aW)]<;>rfl)|(rw[ae (.inr aW)]<;>rfl)|(rw[ab (no2 aW aW)]<;>rfl))
  | (rw[yFm,ab aW,ab aW,ab aW,ab aW,ab aW,ab aW,ab aW,ab aW,ab aW];first|(rw[ae (.inl aW)]<;>rfl)|(rw[ae (.inr aW)]<;>rfl)|(rw[ab (λx=>x.elim aW aW)]<;>rfl))
  | exact Yxj (show _<12 by omega) rfl|exact iP oW aW _ _ aW|exact⟨hm,hI 2 oW,aJ _⟩
  | with_reducible exact c1|with_reducible exact c2 oW|with_reducible exact c3|with_reducible exact c4 oW|with_reducible exact c5|with_reducible exact c6 oW
  | skip)
abbrev Zc1 (L:List YS_) (m:YS):Ct:=⟨173,stY m,[.y 0,Af L],stZ (yLX L [] m).m++[.arr false 9 ((yLX L [] m).v.map yPC)],.tup [.r 5,li (yLX L [] m).e]⟩
def Z6p (L:List YS_) (m:YS):Lp (List YS_×List YP×YS):=let v1:=yLX L [] m;let v2:Ob:=.Ac v1.m.Ba;let v3:Ob:=.Ad v1.m.Ma;.mk 133 3 (λx=>[(0,.y 0),(6,.r 3),(7,hs x 0)]) (λx=>[.box [.ref 4,.ref 5,ha x 3,ha x 4,ha x 5,ha x 6],.dead,.dead,ho x 7,ho x 1,ho x 2]) (λk=>[.s (Af k.1),.o (.Ac k.2.2.Ba),.o (.Ad k.2.2.Ma),.a (vI k.2.2.Sb),.a (vI k.2.2.Va),.a (vI k.2.2.Sc),.a (vI k.2.2.z),.o (.arr false 9 (k.2.1.map yPC))]) (λk=>OkL m k.2.2 k.1 k.2.1/\yLX k.1 k.2.1 k.2.2=yLX L [] m) (λk=>(3001 - k.2.2.z).toNat) [.mk (v1.e=0) (.exit 0) (λx=>[(6,.r 3)]) (λx=>[.box [.ref 4,.ref 5,ha x 2,ha x 3,ha x 4,ha x 5],.dead,.dead,ho x 6,ho x 0,ho x 1]) [.o v2,.o v3,.a (vI v1.m.Sb),.a (vI v1.m.Va),.a (vI v1.m.Sc),.a (vI v1.m.z),.o (.arr false 9 (v1.v.map yPC))],.mk (¬(yLX L [] m).e=0) .ret (λx=>[(4,hs x 6),(5,hs x 7)]) (λx=>[.box [.ref 3,.ref 4,ha x 2,ha x 3,ha x 4,ha x 5],.dead,.dead,ho x 0,ho x 1]) [.o v2,.o v3,.a (vI v1.m.Sb),.a (vI v1.m.Va),.a (vI v1.m.Sc),.a (vI v1.m.z),.s (.one nlA),.s (li v1.e)]]
theorem Zjb (L:List YS_) (m:YS) (h:Yl4 m/\(∀ (x:YS_),x∈L->Ykk x)/\L.length<=2000):Lp.Sem prog (Yks f173 0) (Z6p L m):=
 Y1tz (λk=>(yDf (k.1.g 0) (yCn k.2.2)).v.p) (λk=>let v1:=(k.1.g 0);let v25:=(List.map Ykb k.1);let v2:=(v25.length - 1);let v28:=
 (Value.slice none 0 0);let v3:=(SV.one (AC.val (Cell.lit v28)));let v4:=(Ob.arr true 4 (List.map Ykc (yCn k.2.2).Ba));let v5:=(List.drop 1 v25);let v6:=
 (Ob.arr true 3 (List.map Ykn (yCn k.2.2).Ma));let v14:=(v1.Ia.g 1);let v16:=(v1.Ia.g 2);let v7:=(yMc (Ykw Ylm v14) (Ymw (yCn
 k.2.2).Ba v16) (yCn k.2.2));let v23:=(hdM (yCn k.2.2).x v1);let v8:=(ySt v23 v1 (yCn k.2.2));let v9:=(yDf v1 (yCn k.2.2));let v10:=(List.map
 Ykb v1.Ia);let v11:=(Ym1.g (hdN (yCn k.2.2).x v1).toNat);let v12:=[0,1,2,4,5];let v13:=(Ob.arr false 9 (List.map yPC k.2.1++[[cB
 false,cI 0,cI v1.Ka,cI v1.Na,cS v1.Ta,Cell.list (List.map Yke v1.Sa),Cell.list v10,Cell.lit v28,Cell.lit v28]]));let v15:=(((List.map yPC k.2.1).length
 + 1) * 144<=140737488355328);let v17:=(Ob.arr false 9 (List.map yPC k.2.1));let v18:=(vI (yCn k.2.2).Sc);let v19:=(vI (yCn k.2.2).Sb);let v20:=(vI
 (yCn k.2.2).Va);let v21:=(List.drop 1 k.1);let v22:=[0,1,2,3,4,5];let v24:=(vI (yCn k.2.2).z);let v26:=(List.take v2 v21,k.2.1++[YP.mk false 0
 v1 false [] []],yCn k.2.2);let v27:=(v10.length - 1);.z Ykb k.1 (.i (0<((List.map Ykb k.1).length:Int)) (.w (.cells (Yki v1)) (.p ((0:Int)<=0 /\
 v25[0]? = some (Yki v1)) (.p ((0:Int)<=1) (.p (1<=v25.length/\v25.length<=v25.length/\∀ (e:List Cell),e∈List.map Ykb k.1->e.length=5) (.d [.ptr] (Z6m
 k.2.2) (.i (Ymb k.2.2.z≠0) (.o 1 v12 [.o v4,.o v6,.a v19,.a v20,.a v18,.a v24,.s v3,.s (li (Ymb k.2.2.z))]) (.d [.ptr,.rd] (Z89 (yCn k.2.2) v1)
 (.i (0<=hdM (yCn k.2.2).x v1) (.d [.ptr,.rd,.rd] (Z7x (yCn k.2.2) v23 v1) (.i (Ymv (yCn k.2.2).x v23 v1≠0) (.o 1 v12 [.o (Ob.arr true 4 (List.map Ykc
 v8.m.Ba)),.o (Ob.arr true 3 (List.map Ykn v8.m.Ma)),.a (vI v8.m.Sb),.a (vI v8.m.Va),.a (vI v8.m.Sc),.a (vI v8.m.z),.s v3,.s (li (Ymv (yCn k.2.2).x
 v23 v1))]) (.p (∀ (e:List Cell),e∈List.take v2 v5->e.length=5) (.p ((1+(List.take v2 v5).length) * 80<=140737488355328) (.w (.g (.lock 9)) (.g v22 (Yob (yCn
 k.2.2).x v23 v1 :: List.take v2 v21,k.2.1,v8.m) [.s (ll (Yki (Yob (yCn k.2.2).x v23 v1) :: List.take v2 v5)),.o (Ob.arr true 4 (List.map Ykc
 v8.m.Ba)),.o (Ob.arr true 3 (List.map Ykn v8.m.Ma)),.a (vI v8.m.Sb),.a (vI v8.m.Va),.a (vI v8.m.Sc),.a (vI v8.m.z),.o v17])))))) (.d [.ptr,.rd]
 (Z6l (yCn k.2.2) v1) (.i (0<=hdN (yCn k.2.2).x v1) (.c [] Zv (.p (0<=hdN (yCn k.2.2).x v1/\(hdN (yCn k.2.2).x v1).toNat<12) (.w (.cells (Ylu
 v11)) (.p ((List.map Ylu Ym1)[(hdN (yCn k.2.2).x v1).toNat]? = some [cS v11]) (.i (v11.data.toList=[98,101,103,105,110]) (.p ((0:Int)<=1) (.p (1<=v10.length/\v10.length<=v10.length/\∀ (e:List Cell),e∈List.map Ykb v1.Ia->e.length=5) (.w (.bool false) (.p (∀ (e:List
 Cell),e∈List.take v27 (List.drop 1 v10)->e.length=5) (.p ((0+(List.take v27 (List.drop 1 v10)).length) * 80<=140737488355328) (.p (∀ (e:List Cell),e∈List.take v2 v5
 -> e.length=5) (.p (((List.take v27 (List.drop 1 v10)).length+(List.take v2 v5).length) * 80<=140737488355328) (.w (.g (.lock 9)) (.g v22 (List.take v27 (List.drop 1
 v1.Ia)++List.take v2 v21,k.2.1,yCn k.2.2) [.s (ll (List.take v27 (List.drop 1 v10)++List.take v2 v5)),.o v4,.o v6,.a v19,.a v20,.a v18,.a v24,.o
 v17]))))))))) (.i (v11.data.toList=[100,101,102,105,110,101]) (.d [.ptr,.rd] (Z9g v1 (yCn k.2.2)) (.i
 (v9.e≠0) (.o 1 [0,1,2,11,5] [.o (Ob.arr true 4 (List.map Ykc v9.m.Ba)),.o (Ob.arr true 3 (List.map Ykn v9.m.Ma)),.a (vI v9.m.Sb),.a (vI v9.m.Va),
 .a (vI v9.m.Sc),.a (vI v9.m.z),.s v3,.s (li v9.e)]) (.p v15 (.g [0,1,2,14,11,5] (List.take v2 v21,k.2.1++[YP.mk v9.v.d v9.v.n v9.v.s true v9.v.P v9.v.B],v9.m)
 [.s (ll (List.take v2 v5)),.o (Ob.arr true 4 (List.map Ykc v9.m.Ba)),.o (Ob.arr true 3 (List.map Ykn v9.m.Ma)),.a (vI v9.m.Sb),.a (vI v9.m.Va),.a (vI
 v9.m.Sc),.a (vI v9.m.z),.o (Ob.arr false 9 (List.map yPC k.2.1++[[cB v9.v.d,cI v9.v.n,cI v9.v.s.Ka,cI v9.v.s.Na,cS v9.v.s.Ta,Cell.list (List.map Yke
 v9.v.s.Sa),Cell.list (List.map Ykb v9.v.s.Ia),Cell.list (List.map Ykb v9.v.P),Cell.list (List.map Ykb v9.v.B)]]))])))) (.i (v11.data.toList=[100,
 101,102,105,110,101,45,115,121,110,116,97,120])
 (.z Ykb v1.Ia (.i (((List.map Ykb v1.Ia).length:Int)≠3) (.y true (.o 1 v12 [.o v4,.o v6,.a v19,.a v20,.a v18,.a v24,.s v3,.s (li 1)])) (.w (.cells
 (Yki v14)) (.p ((0:Int)<=1/\v10[1]? = some (Yki v14)) (.i (v14.Ka≠1) (.o 1 v12 [.o v4,.o v6,.a v19,.a v20,.a v18,.a v24,.s v3,.s (li 1)]) (.w (.draw [(14,
 [22])]) (.w (.cells (Yki v16)) (.p ((0:Int)<=2/\v10[2]? = some (Yki v16)) (.d [.rd,.rd] (Z2q (yCn k.2.2).Ba v16) (.b (!Ym5 (yCn
 k.2.2).Ba v16) (.o 1 v12 [.o v4,.o v6,.a v19,.a v20,.a v18,.a v24,.s v3,.s (li 1)]) (.w (.draw [(7,[0,4,5])]) (.w (.cells (Yki v14)) (.p ((0:Int)<=1 /\
 v10[1]? = some (Yki v14)) (.d [.rd,.rd] (Zj v14) (.d [.ptr,.rd,.rd] (Z6k (yCn k.2.2) (Ykw Ylm v14) (Ymw (yCn k.2.2).Ba v16)) (.i (v7.e≠0)
 (.o 1 [0,1,2,40,41] [.o (Ob.arr true 4 (List.map Ykc v7.m.Ba)),.o (Ob.arr true 3 (List.map Ykn v7.m.Ma)),.a (vI v7.m.Sb),.a (vI v7.m.Va),.a (vI
 v7.m.Sc),.a (vI v7.m.z),.s v3,.s (li v7.e)]) (.g [0,1,2,3,40,41] (List.take v2 v21,k.2.1,v7.m) [.s (ll (List.take v2 v5)),.o (Ob.arr true 4 (List.map Ykc
 v7.m.Ba)),.o (Ob.arr true 3 (List.map Ykn v7.m.Ma)),.a (vI v7.m.Sb),.a (vI v7.m.Va),.a (vI v7.m.Sc),.a (vI v7.m.z),.o v17]))))))))))))))))) (.p v15 (.g
 [0,1,2,9,4,5] v26 [.s (ll (List.take v2 v5)),.o v4,.o v6,.a v19,.a v20,.a v18,.a v24,.o v13]))))))))) (.y false (.y false (.y false (.p v15 (.g [0,1,2,8,4,5] v26
 [.s (ll (List.take v2 v5)),.o v4,.o v6,.a v19,.a v20,.a v18,.a v24,.o v13]))))))))))))))) (.o 0 v22 [.o (Ob.arr true 4 (List.map Ykc k.2.2.Ba)),.o (Ob.arr
 true 3 (List.map Ykn k.2.2.Ma)),.a (vI k.2.2.Sb),.a (vI k.2.2.Va),.a (vI k.2.2.Sc),.a (vI k.2.2.z),.o v17]))) (λk=>let v1:=
 (k.1.g 0);let v26:=(List.map Ykb k.1);let v2:=(v26.length - 1);let v3:=(Value.slice none 0 0);let v4:=(Ob.arr true 4 (List.map Ykc (yCn
 k.2.2).Ba));let v5:=(List.drop 1 v26);let v6:=(Ob.arr true 3 (List.map Ykn (yCn k.2.2).Ma));let v13:=(v1.Ia.g 1);let v17:=
 (v1.Ia.g 2);let v7:=(yMc (Ykw Ylm v13) (Ymw (yCn k.2.2).Ba v17) (yCn k.2.2));let v24:=(hdM (yCn k.2.2).x v1);let v8:=(ySt v24 v1 (yCn
 k.2.2));let v9:=(yDf v1 (yCn k.2.2));let v10:=(List.map Ykb v1.Ia);let v11:=(Ym1.g (hdN (yCn k.2.2).x v1).toNat);let v12:=[0,1,2,
 4,5];let v14:=(Ob.arr false 9 (List.map yPC k.2.1++[[cB false,cI 0,cI v1.Ka,cI v1.Na,cS v1.Ta,Cell.list (List.map Yke v1.Sa),Cell.list v10,Cell.lit
 v3,Cell.lit v3]]));let v15:=(((List.map yPC k.2.1).length+1) * 144<=140737488355328);let v16:=(SV.one (AC.val (Cell.lit v3)));let v18:=(Ob.arr false 9 (List.map
 yPC k.2.1));let v19:=(vI (yCn k.2.2).Sc);let v20:=(vI (yCn k.2.2).Sb);let v21:=(vI (yCn k.2.2).Va);let v22:=(List.drop 1 k.1);let v23:=[0,
 1,2,3,4,5];let v25:=(vI (yCn k.2.2).z);let v27:=(List.take v2 v22,k.2.1++[YP.mk false 0 v1 false [] []],yCn k.2.2);let v28:=(v10.length - 1);.z
 Ykb k.1 (.i (0<((List.map Ykb k.1).length:Int)) (.w (.cells (Yki v1)) (.p ((0:Int)<=0/\v26[0]? = some (Yki v1)) (.p ((0:Int)<=1) (.p (1 <=
 v26.length/\v26.length<=v26.length/\∀ (e:List Cell),e∈List.map Ykb k.1->e.length=5) (.d [.ptr] (Z6m k.2.2) (.i (Ymb k.2.2.z≠0) (.o 1 v12 [.o v4,
 .o v6,.a v20,.a v21,.a v19,.a v25,.s v16,.s (li (Ymb k.2.2.z))]) (.d [.ptr,.rd] (Z89 (yCn k.2.2) v1) (.i (0<=hdM (yCn k.2.2).x v1) (.d [.ptr,.rd,.rd]
 (Z7x (yCn k.2.2) v24 v1) (.i (Ymv (yCn k.2.2).x v24 v1≠0) (.o 1 v12 [.o (Ob.arr true 4 (List.map Ykc v8.m.Ba)),.o (Ob.arr true 3 (List.map Ykn
 v8.m.Ma)),.a (vI v8.m.Sb),.a (vI v8.m.Va),.a (vI v8.m.Sc),.a (vI v8.m.z),.s v16,.s (li (Ymv (yCn k.2.2).x v24 v1))]) (.p (∀ (e:List Cell),e∈List.take
 v2 v5->e.length=5) (.p ((1+(List.take v2 v5).length) * 80<=140737488355328) (.w (.g (.lock 9)) (.g v23 (Yob (yCn k.2.2).x v24 v1 :: List.take v2 v22,k.2.1,
 v8.m) [.s (ll (Yki (Yob (yCn k.2.2).x v24 v1) :: List.take v2 v5)),.o (Ob.arr true 4 (List.map Ykc v8.m.Ba)),.o (Ob.arr true 3 (List.map Ykn
 v8.m.Ma)),.a (vI v8.m.Sb),.a (vI v8.m.Va),.a (vI v8.m.Sc),.a (vI v8.m.z),.o v18])))))) (.d [.ptr,.rd] (Z6l (yCn k.2.2) v1) (.i (0<=hdN (yCn
 k.2.2).x v1) (.c [] Zv (.p (0<=hdN (yCn k.2.2).x v1/\(hdN (yCn k.2.2).x v1).toNat<12) (.w (.cells (Ylu v11)) (.p ((List.map Ylu Ym1)[(hdN (yCn
 k.2.2).x v1).toNat]? = some [cS v11]) (.i (v11.data.toList=[98,101,103,105,110]) (.p ((0:Int)<=1) (.p (1 <=
 v10.length/\v10.length<=v10.length/\∀ (e:List Cell),e∈List.map Ykb v1.Ia->e.length=5) (.w (.bool false) (.p (∀ (e:List Cell),e∈List.take v28 (List.drop 1
 v10)->e.length=5) (.p ((0+(List.take v28 (List.drop 1 v10)).length) * 80<=140737488355328) (.p (∀ (e:List Cell),e∈List.take v2 v5->e.length=5) (.p (((List.take v28
 (List.drop 1 v10)).length+(List.take v2 v5).length) * 80<=140737488355328) (.w (.g (.lock 9)) (.g v23 (List.take v28 (List.drop 1 v1.Ia)++List.take v2 v22,k.2.1,
 yCn k.2.2) [.s (ll (List.take v28 (List.drop 1 v10)++List.take v2 v5)),.o v4,.o v6,.a v20,.a v21,.a v19,.a v25,.o v18]))))))))) (.i (v11.data.toList=[100,
 101,102,105,110,101]) (.d [.ptr,.rd] (Z9h v1 (yCn k.2.2)) (.i (v9.e≠0) (.o 1 [0,1,2,11,5] [.o (Ob.arr true 4
 (List.map Ykc v9.m.Ba)),.o (Ob.arr true 3 (List.map Ykn v9.m.Ma)),.a (vI v9.m.Sb),.a (vI v9.m.Va),.a (vI v9.m.Sc),.a (vI v9.m.z),.s v16,.s (li
 v9.e)]) (.p v15 (.g [0,1,2,14,11,5] (List.take v2 v22,k.2.1++[YP.mk v9.v.d v9.v.n v9.v.s false [] []],v9.m) [.s (ll (List.take v2 v5)),.o (Ob.arr true 4 (List.map
 Ykc v9.m.Ba)),.o (Ob.arr true 3 (List.map Ykn v9.m.Ma)),.a (vI v9.m.Sb),.a (vI v9.m.Va),.a (vI v9.m.Sc),.a (vI v9.m.z),.o (Ob.arr false 9 (List.map
 yPC k.2.1++[[cB v9.v.d,cI v9.v.n,cI v9.v.s.Ka,cI v9.v.s.Na,cS v9.v.s.Ta,Cell.list (List.map Yke v9.v.s.Sa),Cell.list (List.map Ykb v9.v.s.Ia),
 Cell.lit v3,Cell.lit v3]]))])))) (.i (v11.data.toList=[100,101,102,105,110,101,45,115,
 121,110,116,97,120]) (.z Ykb v1.Ia (.i (((List.map Ykb v1.Ia).length:Int)≠3) (.y true (.o 1 v12 [.o v4,.o
 v6,.a v20,.a v21,.a v19,.a v25,.s v16,.s (li 1)])) (.w (.cells (Yki v13)) (.p ((0:Int)<=1/\v10[1]? = some (Yki v13)) (.i (v13.Ka≠1) (.o 1 v12 [.o v4,.o v6,
 .a v20,.a v21,.a v19,.a v25,.s v16,.s (li 1)]) (.w (.draw [(14,[22])]) (.w (.cells (Yki v17)) (.p ((0:Int)<=2/\v10[2]? = some (Yki v17)) (.d [.rd,.rd]
 (Z2q (yCn k.2.2).Ba v17) (.b (!Ym5 (yCn k.2.2).Ba v17) (.o 1 v12 [.o v4,.o v6,.a v20,.a v21,.a v19,.a v25,.s v16,.s (li 1)]) (.w (.draw [(7,
 [0,4,5])]) (.w (.cells (Yki v13)) (.p ((0:Int)<=1/\v10[1]? = some (Yki v13)) (.d [.rd,.rd] (Zj v13) (.d [.ptr,.rd,.rd] (Z6k (yCn k.2.2) (Ykw Ylm
 v13) (Ymw (yCn k.2.2).Ba v17)) (.i (v7.e≠0) (.o 1 [0,1,2,40,41] [.o (Ob.arr true 4 (List.map Ykc v7.m.Ba)),.o (Ob.arr true 3 (List.map Ykn
 v7.m.Ma)),.a (vI v7.m.Sb),.a (vI v7.m.Va),.a (vI v7.m.Sc),.a (vI v7.m.z),.s v16,.s (li v7.e)]) (.g [0,1,2,3,40,41] (List.take v2 v22,k.2.1,v7.m) [.s
 (ll (List.take v2 v5)),.o (Ob.arr true 4 (List.map Ykc v7.m.Ba)),.o (Ob.arr true 3 (List.map Ykn v7.m.Ma)),.a (vI v7.m.Sb),.a (vI v7.m.Va),.a (vI
 v7.m.Sc),.a (vI v7.m.z),.o v18]))))))))))))))))) (.p v15 (.g [0,1,2,9,4,5] v27 [.s (ll (List.take v2 v5)),.o v4,.o v6,.a v20,.a v21,.a v19,.a v25,.o v14])))))))))
 (.y false (.y false (.y false (.p v15 (.g [0,1,2,8,4,5] v27 [.s (ll (List.take v2 v5)),.o v4,.o v6,.a v20,.a v21,.a v19,.a v25,.o v14]))))))))))))))) (.o 0 v23 [.o
 (Ob.arr true 4 (List.map Ykc k.2.2.Ba)),.o (Ob.arr true 3 (List.map Ykn k.2.2.Ma)),.a (vI k.2.2.Sb),.a (vI k.2.2.Va),.a (vI
 k.2.2.Sc),.a (vI k.2.2.z),.o v18]))) (by
 intro k h;try dsimp only[Ykd,Yko,Z6p]at h
 have hl:=h.1
 have he:=h.2
 have hm:=hl.ok
 have w:=Yqi hm.1
 have w1:=w.1
 have w2:=w.2.1
 have hX:=λa=>Y134 (q:=k.1) hl a
 have hW:=λa b=>Ymh (hX a b)
 have hI:=λ(a:0<(k.1.length:Int)) (b:Ymb k.2.2.z=0) (i:Nat) (c:i<(k.1.g 0).Ia.length)=>Ymh (Ynm (hX a b) c)
 have hd:=λa:0<=hdN (yCn k.2.2).x (k.1.g 0)=>Y1nc (x:=(yCn k.2.2).x) hm.1 a
 have hf:=λ(a:0<=hdN (yCn k.2.2).x (k.1.g 0))=>Y22v ⟨a,hd a⟩
 have h0:=@Y1mj (yCn k.2.2).x (k.1.g 0) hm.1
 have hs0:=hm.2
 have hm0:=(‹Yl4 m/\(∀ x∈L,Ykk x)/\_›).1.2
 have lT:(List.take (k.1.length - 1) (List.drop 1 k.1)).length<=7000000:=by have:=hl.ql;have:=hl.z;rw[au];omega
 have lX:0<(k.1.length:Int)->Ymb k.2.2.z=0->(List.take ((k.1.g 0).Ia.length - 1) (List.drop 1 (k.1.g 0).Ia)).length<=2000:=λa b=>by have:=Ysm (hX a b);rw[au,ay];omega
 have lo:=hl.ol
 have lz:=hl.z
 have h1:0<=hdN (yCn k.2.2).x (k.1.g 0)->1<=(k.1.g 0).Ia.length:=λa=>Y1xu a
 have hG:=λ(a:0<(k.1.length:Int)) (b:Ymb k.2.2.z=0) (i:Nat) (c:i<(k.1.g 0).Ia.length)=>Ynm (hX a b) c
 have zm:(yMc (Ykw Ylm ((k.1.g 0).Ia.g 1)) (Ymw k.2.2.Ba ((k.1.g 0).Ia.g 2)) (yCn k.2.2)).e=0->(yMc (Ykw Ylm ((k.1.g 0).Ia.g 1)) (Ymw k.2.2.Ba ((k.1.g 0).Ia.g 2)) (yCn k.2.2)).m.z=k.2.2.z+1:=λg=>by rw[Yxe g]
 have zd:=λa b (g:(yDf (k.1.g 0) (yCn k.2.2)).e=0)=>(Y1cc (hX a b) (m:=yCn k.2.2) hm.1 g).2.1
 have z1:(ySt (hdM (yCn k.2.2).x (k.1.g 0)) (k.1.g 0) (yCn k.2.2)).m.z=k.2.2.z+1:=rfl
 refine⟨λhs => ?_,λhs => ?_⟩<;>try dsimp only[Ykd,Yko,Z6p]at h|-
 with_reducible repeat' (first|apply ah|exact zR|(intro)|apply Z1t|apply Z1r|apply Z38|apply Z1s|apply Z68|apply Z69|apply Z4|apply Z3j|apply Zw)
 all_goals ((try simp only[std,inj]at *);with_reducible and_intros)
 all_goals try first|with_reducible (first|apply Z1t|apply Z1r|apply Z38|apply Z1s|apply Z68|apply Z69|apply Z4|apply Z3j|apply Zw)|(simp only[<- ar];with_reducible first|apply Z1t|apply Z1r|apply Z38|apply Z1s|apply Z68|apply Z69|apply Z4|apply Z3j|apply Zw)
 all_goals (try simp only[aL]at *)
 all_goals first
  | exact cb|omega|exact hm.1|exact hl.ok.1|exact Yqp oW|exact hX aW aW
  | exact Y25a _ _ aW|exact(h0 aW).1|exact(h0 aW).2.1|exact(h0 aW).2.2
  | exact Y20e hl aW aW aW|exact Y225 hl aW aW|exact Y21y hl aW aW
  | (rw[z1];omega)
  | (have l1:=lX aW aW;omega)
  | (rw[bP,Yvb];done)|(rw[ar]<;>rfl)
  | (have l2:=zd aW aW aW;rw[l2];omega)
  | exact Y1u8 hl aW aW aW (Y24y hs (Y1u2 hs))|exact Y1u8 hl aW aW aW (by rw[<- hs])
  | (have l3:=hd aW;exact Yxj (show _<12 by omega) rfl)
  | exact Y22h hl aW aW aW aW aW aW
  | (rw[<- he,Y23y (q:=k.1) (o:=k.2.1) (n:=k.2.2) hm aW aW];first|done|exact aW|rfl)
  | (rw[<- he,Y23x (q:=k.1) (o:=k.2.1) (n:=k.2.2) hm aW aW aW aW];first|done|exact aW|rfl)
  | (rw[<- he,Y251 (q:=k.1) (o:=k.2.1) (n:=k.2.2) hm aW aW aW aW];first|done|exact aW|rfl)
  | (rw[<- he,Y24p (q:=k.1) (o:=k.2.1) (n:=k.2.2) hm aW aW aW ((hf aW).1.1 aW)]<;>rfl)
  | (rw[<- he,Y254 (q:=k.1) (o:=k.2.1) (n:=k.2.2) hm aW aW aW ((hf aW).2.1.1 aW) aW];first|done|exact aW|rfl)
  | (rw[<- he,Y24j (q:=k.1) (o:=k.2.1) (n:=k.2.2) hm aW aW aW ((hf aW).2.1.1 aW) aW hs]<;>rfl)
  | (rw[<- he,Y23k (q:=k.1) (o:=k.2.1) (n:=k.2.2) hm aW aW aW ((hf aW).2.1.1 aW) aW hs]<;>rfl)
  | (have:=h1 aW;omega)
  | exact a9 (hI aW aW 1 oW).1 oW
  | exact a9 (hI aW aW 2 oW).1 oW
  | exact(hI aW aW 1 oW).2.2
  | exact a9 (Ymh (Yy0 (hG aW aW 1 oW))).1 oW
  | (rw[Y16i aW];exact Y1yi (B:=k.2.2.Ba) (hG aW aW 2 oW) aW)
  | (rw[zm aW];omega)
  | (rw[<- he,Y1lr (q:=k.1) (o:=k.2.1) (n:=k.2.2) hm aW aW aW ((hf aW).2.2.1 aW) (λc=>absurd c.1 aW)];first|done|rfl|exact Int.one_ne_zero)
  | (rw[<- he,Y1lr (q:=k.1) (o:=k.2.1) (n:=k.2.2) hm aW aW aW ((hf aW).2.2.1 aW) (λc=>absurd c.2.1 aW)];first|done|rfl|exact Int.one_ne_zero)
  | (rw[<- he,Y1lr (q:=k.1) (o:=k.2.1) (n:=k.2.2) hm aW aW aW ((hf aW).2.2.1 aW) (λc=>nb aW c.2.2)];first|done|rfl|exact Int.one_ne_zero)
  | (rw[<- he,Y1tt (q:=k.1) (o:=k.2.1) (n:=k.2.2) hm aW aW aW ((hf aW).2.2.1 aW) aW aW aW,ab aW];first|done|exact aW|rfl)
  | (rw[<- he,Y1tt (q:=k.1) (o:=k.2.1) (n:=k.2.2) hm aW aW aW ((hf aW).2.2.1 aW) aW aW aW,ae aW];first|done|exact aW|rfl)
  | (rw[<- he,Y1ye (q:=k.1) (o:=k.2.1) (n:=k.2.2) hm aW aW aW (_root_.mt (hf aW).1.2 aW) (_root_.mt (hf aW).2.1.2 aW) (_root_.mt (hf aW).2.2.2 aW)]<;>rfl)
  | (rw[<- he,Y1ye (q:=k.1) (o:=k.2.1) (n:=k.2.2) hm aW aW aW oW oW oW]<;>rfl)
  | (rw[<- he,Y20r (q:=k.1) (o:=k.2.1) (n:=k.2.2) oW]<;>rfl)
  | skip)
theorem Zgz (L:List YS_) (m:YS) (h:Yl4 m/\(∀ x∈L,Ykk x)/\L.length<=2000):Zc1 L m:=Ykr call173 func173 (let v4:=yLX L [] m;let v1:List AC:=[.ref 3,.ref 4,vI v4.m.Sb,vI v4.m.Va,vI v4.m.Sc,vI v4.m.z];let v2:=v4.m.Ba.map Ykc;let v3:=v4.m.Ma.map Ykn;.w (.bool false) (.p (∀ (x0:List Cell),x0∈L.map Ykb->x0.length=5) (.p ((0+(L.map Ykb).length) * 80<=140737488355328) (.w (.m 1) (.w (.m 2) (.w (.g (.nilreg 6 false 9)) (.w (.g (.lock 3)) (.l (Z6p L m) (Zjb L m h) [0,1,2,6,4,5] [.s (Af L),.o (.Ac m.Ba),.o (.Ad m.Ma),.a (vI m.Sb),.a (vI m.Va),.a (vI m.Sc),.a (vI m.z),.o (.arr false 9 [])] (L,[],m) (.t (.f [4,5,3] [.box v1,.dead,.dead,.y 4 v2,.y 3 v3,.arr false 9 (v4.v.map yPC)] (.tup [.r 5,li 0])) (.t (.w (.g (.nilreg 4 false 9)) (.f [3,4,5] [.box v1,.dead,.dead,.y 4 v2,.y 3 v3,.arr false 9 []] (.tup [.r 5,li v4.e]))) .q)))))))))) (by
 dsimp only[Ykd,Zc1,Yko,Z6p]
 have w:=Yqi h.1.1
 have g0:OkL m m L []:=⟨h.1,h.2.1,λp hp=>absurd hp cV,aJ _,by have:=h.2.2;omega,by simp⟩
 with_reducible repeat' (first|apply ah|exact zR|(intro)|apply Z1t|apply Z1r|apply Z38|apply Z1s|apply Z68|apply Z69|apply Z4|apply Z3j|apply Zw)
 all_goals ((try simp only[std,inj]at *);with_reducible and_intros)
 all_goals try first|with_reducible (first|apply Z1t|apply Z1r|apply Z38|apply Z1s|apply Z68|apply Z69|apply Z4|apply Z3j|apply Zw)|(simp only[<- ar];with_reducible first|apply Z1t|apply Z1r|apply Z38|apply Z1s|apply Z68|apply Z69|apply Z4|apply Z3j|apply Zw)
 all_goals (try simp only[aL]at *)
 all_goals first
  | exact cb|omega|exact h.1.1|exact g0|rfl
  | (rw[Y1te aW]<;>rfl)
  | skip)
abbrev Zc2 (L:List YP) (m:YS):Ct:=⟨174,stY m,[.y 0,ll (L.map yPC)],stZ (Ykj (yPt yX yZ) L m).m++[.Ak (Ykj (yPt yX yZ) L m).v,.Aa (psV L m)],.tup [.r 5,.r 6,li (Ykj (yPt yX yZ) L m).e]⟩
def Z6q (L:List YP) (m:YS):Lp Nat:=let v2:=yPt yX yZ;let v1:=Ykj v2 L m;let v3:Ob:=.Ac v1.m.Ba;let v4:Ob:=.Ad v1.m.Ma;.mk 60 3 (λx=>[(0,.y 0),(7,.r 3),(8,.r 4),(13,ll (L.map yPC)),(14,li (L.map yPC).length),(15,hs x 0)]) (λx=>[.box [.ref 5,.ref 6,ha x 3,ha x 4,ha x 5,ha x 6],.dead,.dead,ho x 7,ho x 8,ho x 1,ho x 2]) (λk=>[.s (li k),.o (.Ac (Ykj v2 (L.take k) m).m.Ba),.o (.Ad (Ykj v2 (L.take k) m).m.Ma),.a (vI (Ykj v2 (L.take k) m).m.Sb),.a (vI (Ykj v2 (L.take k) m).m.Va),.a (vI (Ykj v2 (L.take k) m).m.Sc),.a (vI (Ykj v2 (L.take k) m).m.z),.o (.Ak (Ykj v2 (L.take k) m).v),.o (.Aa (yDv (L.take k)))]) (λk=>k<=L.length/\L.length<=9223372036854775807/\(Ykj v2 (L.take k) m).e=0) (λk=>L.length - k) [.mk (v1.e=0) (.exit 0) (λx=>[(7,.r 3),(8,.r 4)]) (λx=>[.box [.ref 5,.ref 6,ha x 2,ha x 3,ha x 4,ha x 5],.dead,.dead,ho x 6,ho x 7,ho x 0,ho x 1]) [.o v3,.o v4,.a (vI v1.m.Sb),.a (vI v1.m.Va),.a (vI v1.m.Sc),.a (vI v1.m.z),.o (.Ak v1.v),.o (.Aa (yDv L))],.mk (¬(Ykj v2 L m).e=0) .ret (λx=>[(4,hs x 6),(5,hs x 7),(6,hs x 8)]) (λx=>[.box [.ref 3,.ref 4,ha x 2,ha x 3,ha x 4,ha x 5],.dead,.dead,ho x 0,ho x 1]) [.o v3,.o v4,.a (vI v1.m.Sb),.a (vI v1.m.Va),.a (vI v1.m.Sc),.a (vI v1.m.z),.s (.one nlA),.s (.one nlA),.s (li v1.e)]]
theorem Zjc (L:List YP) (m:YS) (h:Yl4 m/\(∀ (p:YP),p∈L->Yrw p)/\L.length<=4000) (ih:∀ (s:YS_) (q:YS),Yl4 q/\Ykk s/\m.z<=q.z->OK (Zo s q)) (ihb:∀ (L:List YS_) (q:YS),Yl4 q/\(∀ (x:YS_),x∈L->Ykk x)/\L.length<=2000/\m.z<=q.z->OK (Z9 L q)):Lp.Sem prog (Yks f174 0) (Z6q L m):=Y1tz (λk=>(L.g k).p) (λk=>let v8:=L.g k;let v7:=Ykj (yPt yX yZ) (L.take k) m;let v1:=yPc yZ 5 v8.P v8.B v7.m;let v2:=v7.v.map Ykz;let v3:=(yDv (L.take k)).map Yke;let v4:SV:=.one (.val (.y));let v5:=(k:Int)+1;let v6:=v8.B.map Ykb;let v9:Ob:=.Ac v1.m.Ba;let v10:Ob:=.Ad v1.m.Ma;let v11:=(v2.length+1) * 120<=140737488355328;.i ((k:Int)<(L.map yPC).length) (.x (k:Int) (L.map yPC) [cB v8.d,cI v8.n,cI v8.s.Ka,cI v8.s.Na,cS v8.s.Ta,.Ao v8.s.Sa,.Au v8.s.Ia,.Au v8.P,.list v6] (.p (0<v6.length) (.y true (.d [.ptr,.rd,.rd,.rd] (Z6a 5 v8.P v8.B v7.m) (.i (v1.e≠0) (.o 1 [0,1,2,12,13] [.o v9,.o v10,.a (vI v1.m.Sb),.a (vI v1.m.Va),.a (vI v1.m.Sc),.a (vI v1.m.z),.s v4,.s v4,.s (li v1.e)]) (.b v8.d (.p ((v3.length+1) * 8<=140737488355328) (.p v11 (.r v5 (.g [0,1,2,21,18,12,13] (k+1) [.s (li v5),.o v9,.o v10,.a (vI v1.m.Sb),.a (vI v1.m.Va),.a (vI v1.m.Sc),.a (vI v1.m.z),.o (.y 8 (v7.v.map Ykz++[[cI 4,cI v8.n,.list [],cI 0,cI 0,cS (mkS []),.list [],.list [Ymg v1.v]]])),.o (.y 1 ((yDv (L.take k)).map Yke++[[cI v8.n]]))])))) (.p v11 (.r v5 (.g [0,1,2,18,4,12,13] (k+1) [.s (li v5),.o v9,.o v10,.a (vI v1.m.Sb),.a (vI v1.m.Va),.a (vI v1.m.Sc),.a (vI v1.m.z),.o (.y 8 (v7.v.map Ykz++[Ymg v1.v])),.o (.y 1 v3)]))))))))) (.o 0 [0,1,2,3,4,5,6] [.o (.Ac v7.m.Ba),.o (.Ad v7.m.Ma),.a (vI v7.m.Sb),.a (vI v7.m.Va),.a (vI v7.m.Sc),.a (vI v7.m.z),.o (.y 8 v2),.o (.y 1 v3)])) (λk=>let v7:=L.g k;let v6:=Ykj (yPt yX yZ) (L.take k) m;let v1:=yX v7.s v6.m;let v2:=v6.v.map Ykz;let v3:=(yDv (L.take k)).map Yke;let v4:Value:=.slice none 0 0;let v5:=(k:Int)+1;let v8:Ob:=.Ac v1.m.Ba;let v9:Ob:=.Ad v1.m.Ma;let v10:=(v2.length+1) * 120<=140737488355328;.i ((k:Int)<(L.map yPC).length) (.x (k:Int) (L.map yPC) [cB v7.d,cI v7.n,cI v7.s.Ka,cI v7.s.Na,cS v7.s.Ta,.Ao v7.s.Sa,.Au v7.s.Ia,.lit v4,.lit v4] (.y false (.d [.ptr,.rd] (Zo v7.s v6.m) (.i (v1.e≠0) (.o 1 [0,1,2,12,13] [.o v8,.o v9,.a (vI v1.m.Sb),.a (vI v1.m.Va),.a (vI v1.m.Sc),.a (vI v1.m.z),.s (.one (.val (.lit v4))),.s (.one (.val (.lit v4))),.s (li v1.e)]) (.b v7.d (.p ((v3.length+1) * 8<=140737488355328) (.p v10 (.r v5 (.g [0,1,2,21,18,12,13] (k+1) [.s (li v5),.o v8,.o v9,.a (vI v1.m.Sb),.a (vI v1.m.Va),.a (vI v1.m.Sc),.a (vI v1.m.z),.o (.y 8 (v6.v.map Ykz++[[cI 4,cI v7.n,.list [],cI 0,cI 0,cS (mkS []),.list [],.list [Ymg v1.v]]])),.o (.y 1 ((yDv (L.take k)).map Yke++[[cI v7.n]]))])))) (.p v10 (.r v5 (.g [0,1,2,18,4,12,13] (k+1) [.s (li v5),.o v8,.o v9,.a (vI v1.m.Sb),.a (vI v1.m.Va),.a (vI v1.m.Sc),.a (vI v1.m.z),.o (.y 8 (v6.v.map Ykz++[Ymg v1.v])),.o (.y 1 v3)])))))))) (.o 0 [0,1,2,3,4,5,6] [.o (.Ac v6.m.Ba),.o (.Ad v6.m.Ma),.a (vI v6.m.Sb),.a (vI v6.m.Va),.a (vI v6.m.Sc),.a (vI v6.m.z),.o (.y 8 v2),.o (.y 1 v3)])) (by
 intro k h;try dsimp only[Ykd,Yko,Z6q]at h
 have hh := ‹Yl4 m/\(∀ p∈L,Yrw p)/\L.length<=4000›
 have hx:=psX (k:=k) hh.1 hh.2.1 h.2.2
 have hp:k<L.length->Yrw (L.g k):=λa=>hh.2.1 _ (Ykg a)
 have g7:=Y1xi L k
 have b1:(Ykj (yPt yX yZ) (L.take k) m).v.length<=4000:=by have:=hx.2.2;have:=h.1;have:=hh.2.2;omega
 have b2:(yDv (L.take k)).length<=4000:=by have:=hh.2.2;omega
 have ihx:=λ(s:YS_) (q:YS) (a:Yl4 q/\Ykk s/\(Ykj (yPt yX yZ) (L.take k) m).m.z<=q.z)=>ih s q ⟨a.1,a.2.1,cd hx.2.1 a.2.2⟩
 have ihy:=λ(B:List YS_) (q:YS) (a:Yl4 q/\(∀ x∈B,Ykk x)/\B.length<=2000/\(Ykj (yPt yX yZ) (L.take k) m).m.z<=q.z)=>ihb B q ⟨a.1,a.2.1,a.2.2.1,cd hx.2.1 a.2.2.2⟩
 refine⟨λhs => ?_,λhs => ?_⟩<;>try dsimp only[Ykd,Yko,Z6q]at h|-
 with_reducible repeat' (first|apply ah|exact zR|exact ih|(intro)|apply Z48)
 all_goals ((try simp only[std,inj]at *);with_reducible and_intros)
 all_goals try first|with_reducible (first|apply Z48|apply ih)|(simp only[<- ar];with_reducible first|apply Z48|apply ih)
 all_goals (try simp only[aL]at *)
 all_goals first
  | exact cb|omega|exact hx.1|exact hx.2.1
  | exact(Yqp oW).trans (cu some (Y1l8 hs))
  | exact(Yqp oW).trans (cu some (Y1lq hs))
  | exact((hp oW).1 hs).1 _ aW|exact((hp oW).1 hs).2.1 _ aW
  | exact((hp oW).1 hs).2.2.1|exact((hp oW).1 hs).2.2.2.1|exact((hp oW).1 hs).2.2.2.2
  | exact(hp oW).2 hs|exact⟨hx.1,(hp oW).2 hs,hx.2.1⟩|exact ihy _ _ aW
  | (rw[Y1hv (Y1bm hs) oW h.2.2 aW];first|done|exact aW|rfl)
  | (rw[Y1ba (Y1bm hs) oW h.2.2 aW aW]<;>rfl)
  | (rw[Y1ba (Y1bm hs) oW h.2.2 aW aW,ar,<- Ypw]<;>rfl)
  | (rw[Y1b4 (Y1bm hs) oW h.2.2 aW aW]<;>rfl)
  | (rw[Y1b4 (Y1bm hs) oW h.2.2 aW aW,ar,<- Ypw]<;>rfl)
  | (rw[Y1hv (Y1cl hs) oW h.2.2 aW];first|done|exact aW|rfl)
  | (rw[Y1ba (Y1cl hs) oW h.2.2 aW aW]<;>rfl)
  | (rw[Y1ba (Y1cl hs) oW h.2.2 aW aW,ar,<- Ypw]<;>rfl)
  | (rw[Y1b4 (Y1cl hs) oW h.2.2 aW aW]<;>rfl)
  | (rw[Y1b4 (Y1cl hs) oW h.2.2 aW aW,ar,<- Ypw]<;>rfl)
  | (rw[Y1e3 oW,ae aW,ar]<;>rfl)
  | (rw[Y1e3 oW,ab (by rw[‹(L.g k).d=false›];decide)])
  | (rw[<- Yyv (f:=yPt yX yZ) (L:=L) (m:=m) (k:=k) oW];first|done|exact h.2.2)
  | (rw[av (l:=L) (i:=k) oW];done)
  | skip)
theorem Zh0 (L:List YP) (m:YS) (h:Yl4 m/\(∀ p∈L,Yrw p)/\L.length<=4000) (ih:∀ (s:YS_) (q:YS),Yl4 q/\Ykk s/\m.z<=q.z->Zo s q) (ihb:∀ (L:List YS_) (q:YS),Yl4 q/\(∀ x∈L,Ykk x)/\L.length<=2000/\m.z<=q.z->Z9 L q):Zc2 L m:=Ykr call174 func174 (let v1:=Ykj (yPt yX yZ) L m;let v2:List AC:=[.ref 3,.ref 4,vI v1.m.Sb,vI v1.m.Va,vI v1.m.Sc,vI v1.m.z];let v3:=v1.m.Ba.map Ykc;.z yPC L (.w (.m 1) (.w (.m 2) (.w (.g (.nilreg 7 true 8)) (.w (.g (.nilreg 8 true 1)) (.l (Z6q L m) (Zjc L m h ih ihb) [0,1,2,5,6,3,4] [.s (li 0),.o (.Ac m.Ba),.o (.Ad m.Ma),.a (vI m.Sb),.a (vI m.Va),.a (vI m.Sc),.a (vI m.z),.o (.y 8 []),.o (.y 1 [])] 0 (.t (.f [5,6,3,4] [.box v2,.dead,.dead,.y 4 v3,.Ad v1.m.Ma,.Ak v1.v,.Aa (yDv L)] (.tup [.r 5,.r 6,li 0])) (.t (.w (.g (.nilreg 4 true 8)) (.w (.g (.nilreg 5 true 1)) (.f [3,4,5,6] [.box v2,.dead,.dead,.y 4 v3,.Ad v1.m.Ma,.y 8 [],.y 1 []] (.tup [.r 5,.r 6,li v1.e])))) .q)))))))) (by
 dsimp only[Ykd,Zc2,Yko,Z6q]
 have g0:=Y10r (f:=yPt yX yZ) (L:=L) (m:=m)
 have g1:=λa=>Y10z (f:=yPt yX yZ) L m a
 have g2:(Ykj (yPt yX yZ) L m).e=0->psV L m=yDv L:=λa=>ae a
 have g3:¬ (Ykj (yPt yX yZ) L m).e=0->psV L m=[]:=λa=>ab a
 with_reducible repeat' (first|apply ah|exact zR|exact ih|(intro)|apply Z48)
 all_goals ((try simp only[std,inj]at *);with_reducible and_intros)
 all_goals try first|with_reducible (first|apply Z48|apply ih)|(simp only[<- ar];with_reducible first|apply Z48|apply ih)
 all_goals (try simp only[aL]at *)
 all_goals first
  | exact cb|omega|rfl
  | (rw[g2 aW]<;>rfl)|(rw[g1 aW,g3 aW]<;>rfl)
  | skip)
theorem Zk6 (L:List YS_) (m:YS) (h:Yl4 m/\(∀ x∈L,Ykk x)/\L.length<=2000) (ih:∀ (s:YS_) (q:YS),Yl4 q/\Ykk s/\m.z<q.z->Zo s q) (ihb:∀ (L:List YS_) (q:YS),Yl4 q/\(∀ x∈L,Ykk x)/\L.length<=2000/\m.z<q.z->Z9 L q):Z9 L m:=Ykr call132 func132 (let v12:=ySc 1 m;let v1:=yLX (yAd (nxt m.Sb 1) L) [] v12;let v2:=[vI 0,vI 0,.ref 5,vI 0,vI 0,vS (mkS []),.ref 6,.ref 7];let v3:=yPt yX yZ;let v4:Orc:=.ghost (.nilbox 3 6 true 4);let v5:Orc:=.ghost (.nilbox 3 7 true 8);let v6:Orc:=.ghost (.nilbox 3 2 true 1);let v13:=Ykj v3 v1.v v1.m;let v18:List AC:=[.ref 3,.ref 4,vI v13.m.Sb,vI v13.m.Va,vI v13.m.Sc,vI v13.m.z];let v19:=v13.m.Ba.map Ykc;let v20:=v13.m.Ma.map Ykn;let v7:List Ob:=[.box v18,.dead,.dead,.y 4 v19,.y 3 v20,.y 1 [],.y 4 [],.y 8 []];let v8:List Ob:=[.box [.ref 3,.ref 4,vI v1.m.Sb,vI v1.m.Va,vI v1.m.Sc,vI v1.m.z],.dead,.dead,.Ac v1.m.Ba,.Ad v1.m.Ma,.y 1 [],.y 4 [],.y 8 []];let v9:=((v1.v.map yPC).length:Int);let v10:=sqV v13.v;let v11:=psV v1.v v1.m;let v14:Tq _ _:=.w v6 (.w v4 (.w v5 (.f [14,15,18,19,20] v7 (.tup [.agg v2,li 8]))));let v15:Tq _ _:=.w v6 (.w v4 (.w v5 (.f [8,9,11,12,13] v8 (.tup [.agg v2,li 1]))));let v16:=v1.v.g (v9 - 1).toNat;let v17:=((v11.map Yke).length:Int);.d [.ptr,.rd] (Z4i m 1) (.i (cdN m.Sb (1:Int)≠0) (.w v6 (.w v4 (.w v5 (.w (.m 1) (.w (.m 2) (.f [7,8,4,5,6] [.box [.ref 3,.ref 4,vI v12.Sb,vI v12.Va,vI v12.Sc,vI v12.z],.dead,.dead,.Ac v12.Ba,.Ad v12.Ma,.y 1 [],.y 4 [],.y 8 []] (.tup [.agg v2,li (cdN m.Sb 1)]))))))) (.d [.rd,.rd] (Z4j L (nxt m.Sb 1)) (.w (.g (.lock 4)) (.d [.ptr,.rd] (Zc1 (yAd (nxt m.Sb 1) L) v12) (.i (v1.e≠0) (.w v6 (.w v4 (.w v5 (.f [8,9,11,12,13] v8 (.tup [.agg v2,li v1.e]))))) (.z yPC v1.v (.i (v9=0) (.y true v15) (.z yPC v1.v (.r (v9 - 1) (.p (0<=v9 - 1/\(v9 - 1).toNat<(v1.v.map yPC).length) (.w (.cells (yPF v16)) (.p ((v1.v.map yPC)[(v9 - 1).toNat]? = some (yPF v16)) (.b v16.d v15 (.d [.ptr,.rd] (Zc2 v1.v v1.m) (.i (v13.e≠0) (.w v6 (.w v4 (.w v5 (.f [14,15,18,19,20] v7 (.tup [.agg v2,li v13.e]))))) (.z Yke v11 (.i (v17=0) (.d [.own true 8] (Z9z v13.v) (.f [14,15,19,20,21] [.box v18,.dead,.dead,.y 4 v19,.y 3 v20,.Aa v10.Pa,.Ah v10.Da.Ia,.Ak v10.Kb] (.tup [.agg [vI v10.Ka,vI v10.Na,.ref 5,vI v10.Da.Ka,vI v10.Da.Na,vS v10.Da.Ta,.ref 6,.ref 7],li (sqE v13.v)]))) (.z Yke v11 (.i (60<v17) (.y true v14) (.z Ykz v13.v (.i (60<((v13.v.map Ykz).length:Int)) v14 (.w v4 (.f [14,15,17,18,16] [.box v18,.dead,.dead,.y 4 v19,.y 3 v20,.Aa v11,.y 4 [],.Ak v13.v] (.tup [.agg [vI 9,vI 0,.ref 5,vI 0,vI 0,vS (mkS []),.ref 6,.ref 7],li 0]))))))))))))))))))))))))) (by
 dsimp only[Ykd,Z9]
 have hm:=h.1
 have hL:=h.2.1
 have hn:=@Ypb m.Sb 1 (Yqi hm.1).2.2.1.1
 have hA:cdN m.Sb 1=0->∀ x∈yAd (nxt m.Sb 1) L,Ykk x:=λa=>Yr7 ⟨(hn a).1,(hn a).2.1⟩ hL
 have hl:(yAd (nxt m.Sb 1) L).length=L.length:=by simp[yAd]
 have k0:=@Y22z L m hm hL
 have hi:cdN m.Sb 1=0->(yLX (yAd (nxt m.Sb 1) L) [] (ySc 1 m)).e=0->¬ ((yLX (yAd (nxt m.Sb 1) L) [] (ySc 1 m)).v.length:Int)=0->∀ (s:YS_) (q:YS),Yl4 q/\Ykk s/\(yLX (yAd (nxt m.Sb 1) L) [] (ySc 1 m)).m.z<=q.z->Yl4 q/\Ykk s/\m.z<q.z:=λa b c s q d=>⟨d.1,d.2.1,by have:=(k0 a b).2.2.2 c;have:=d.2.2;omega⟩
 have hb:cdN m.Sb 1=0->(yLX (yAd (nxt m.Sb 1) L) [] (ySc 1 m)).e=0->¬ ((yLX (yAd (nxt m.Sb 1) L) [] (ySc 1 m)).v.length:Int)=0->∀ (B:List YS_) (q:YS),Yl4 q/\(∀ x∈B,Ykk x)/\B.length<=2000/\(yLX (yAd (nxt m.Sb 1) L) [] (ySc 1 m)).m.z<=q.z->OK (Z9 B q):=λa b c B q d=>ihb B q ⟨d.1,d.2.1,d.2.2.1,by have:=(k0 a b).2.2.2 c;have:=d.2.2.2;omega⟩
 have hf:cdN m.Sb 1=0->(yLX (yAd (nxt m.Sb 1) L) [] (ySc 1 m)).e=0->(Ykj (yPt yX yZ) (yLX (yAd (nxt m.Sb 1) L) [] (ySc 1 m)).v (yLX (yAd (nxt m.Sb 1) L) [] (ySc 1 m)).m).e=0->(Yls (Ykj (yPt yX yZ) (yLX (yAd (nxt m.Sb 1) L) [] (ySc 1 m)).v (yLX (yAd (nxt m.Sb 1) L) [] (ySc 1 m)).m).v).length<=2147483647/\(Ykj (yPt yX yZ) (yLX (yAd (nxt m.Sb 1) L) [] (ySc 1 m)).v (yLX (yAd (nxt m.Sb 1) L) [] (ySc 1 m)).m).v.length<=2147483647:=λa b c=>Y21s (k0 a b).1 (k0 a b).2.1 (k0 a b).2.2.1 c
 with_reducible repeat' (first|apply ah|exact zR|exact ih|(intro)|apply Z8|apply Zd|apply Zgz|apply Zh0|apply Za0)
 all_goals ((try simp only[std,inj]at *);with_reducible and_intros)
 all_goals try first|with_reducible (first|apply Z8|apply Zd|apply Zgz|apply Zh0|apply Za0|apply ih)|(simp only[<- ar];with_reducible first|apply Z8|apply Zd|apply Zgz|apply Zh0|apply Za0|apply ih)
 all_goals (try simp only[aL]at *)
 all_goals first
  | exact cb|exact hm.1|omega
  | exact⟨Yra 1 hm.1,hm.2⟩
  | exact hL _ aW|exact hA aW _ aW
  | exact(k0 aW aW).1|exact(k0 aW aW).2.1 _ aW
  | exact a9 (k0 aW aW).2.2.1 oW
  | exact hi aW aW aW _ _ aW
  | exact hb aW aW aW _ _ aW
  | exact Yqp oW
  | exact(hf aW aW aW).1|exact(hf aW aW aW).2
  | (rw[Y24c hm hL aW]<;>rfl)
  | (rw[Y240 hm hL aW aW]<;>rfl)
  | (rw[Y25d hm hL aW aW aW]<;>rfl)
  | (rw[Y259 hm hL aW aW aW]<;>rfl)
  | (rw[Y23s hm hL aW aW aW aW aW]<;>rfl)
  | (rw[Y258 hm hL aW aW aW aW aW aW]<;>rfl)
  | (rw[Y24n hm hL aW aW aW aW aW aW aW]<;>rfl)
  | (rw[Y245 hm hL aW aW aW aW aW aW aW]<;>rfl)
  | (rw[Y250 hm hL aW aW aW aW aW aW aW aW]<;>rfl)
  | skip)
def Z7j (s:YS_) (m:YS):Lp (YS_×YS):=let v4:Cell:=.y;let v1:=[vI 0,vI 0,.val v4,vI 0,vI 0,vS (mkS []),.val v4,.val v4];let v2:=yLq s m;let v3:=[(0,.y 0),(3,.y 3),(4,.y 4)];.mk 105 3 (λx=>v3) (λx=>[.box [.ref 5,.ref 6,ha x 7,ha x 8,ha x 9,ha x 10],.dead,.dead,.box [ha x 0,ha x 1,ha x 2,ha x 3,ha x 4],.box v1,ho x 5,ho x 6]) (λk=>[.a (vI k.1.Ka),.a (vI k.1.Na),.a (vS k.1.Ta),.a (At k.1.Sa),.a (Am k.1.Ia),.o (.Ac k.2.Ba),.o (.Ad k.2.Ma),.a (vI k.2.Sb),.a (vI k.2.Va),.a (vI k.2.Sc),.a (vI k.2.z)]) (λk=>(okX k.2.x/\0<=k.2.z/\k.2.z<=3000)/\Ykk k.1/\m.z<=k.2.z/\yLq k.1 k.2=yLq s m) (λk=>(3001 - k.2.z).toNat) [.mk (v2.g) (.exit 0) (λx=>v3) (λx=>[.box [.ref 5,.ref 6,ha x 7,ha x 8,ha x 9,ha x 10],.dead,.dead,.box [ha x 0,ha x 1,ha x 2,ha x 3,ha x 4],.box v1,ho x 5,ho x 6]) [.a (vI v2.s.Ka),.a (vI v2.s.Na),.a (vS v2.s.Ta),.a (At v2.s.Sa),.a (Am v2.s.Ia),.o (.Ac v2.m.Ba),.o (.Ad v2.m.Ma),.a (vI v2.m.Sb),.a (vI v2.m.Va),.a (vI v2.m.Sc),.a (vI v2.m.z)],.mk (v2.g=false) .ret (λx=>[(4,.y 3),(5,hs x 14)]) (λx=>[.box [.ref 4,.ref 5,ha x 2,ha x 3,ha x 4,ha x 5],.dead,.dead,.box [ha x 6,ha x 7,.ref 6,ha x 9,ha x 10,ha x 11,.ref 7,.ref 8],ho x 0,ho x 1,ho x 8,ho x 12,ho x 13]) [.o (.Ac v2.r.m.Ba),.o (.Ad v2.r.m.Ma),.a (vI v2.r.m.Sb),.a (vI v2.r.m.Va),.a (vI v2.r.m.Sc),.a (vI v2.r.m.z),.a (vI v2.r.v.Ka),.a (vI v2.r.v.Na),.o (.Aa v2.r.v.Pa),.a (vI v2.r.v.Da.Ka),.a (vI v2.r.v.Da.Na),.a (vS v2.r.v.Da.Ta),.o (.Ah v2.r.v.Da.Ia),.o (.Ak v2.r.v.Kb),.s (li v2.r.e)]]
theorem Zie (s:YS_) (m:YS) (h:Yl4 m/\Ykk s) (ih:∀ (s:YS_) (q:YS),Yl4 q/\Ykk s/\m.z<q.z->OK (Zo s q)) (ihb:∀ (L:List YS_) (q:YS),Yl4 q/\(∀ (x:YS_),x∈L->Ykk x)/\L.length<=2000/\m.z<q.z->OK (Z9 L q)):Lp.Sem prog (Yks f32 0) (Z7j s m):=Yl0 (λk=>let v10:Orc:=.ghost (.nilbox 4 2 true 1);let v9:Orc:=.ghost (.nilbox 4 7 true 8);let v8:=yCn k.2;let v15:Ob:=.Ac v8.Ba;let v16:Ob:=.Ad v8.Ma;let v18:=vI v8.Sb;let v20:=vI v8.Va;let v17:=vI v8.Sc;let v21:=vI v8.z;let v12:Ob:=.y 1 [];let v11:Ob:=.y 8 [];let v1:Tq _ _:=.d [.rd] (Z2m k.1) (.w v10 (.w v9 (.o 1 [0,1,2,4,5,6,8,7,9] [.o v15,.o v16,.a v18,.a v20,.a v17,.a v21,.a (vI 1),.a (vI 0),.o v12,.a (vI (yDt k.1).Ka),.a (vI (yDt k.1).Na),.a (vS (yDt k.1).Ta),.o (.Ah (yDt k.1).Ia),.o v11,.s (li 0)])));let v19:=hdM v8.x k.1;let v2:=ySt v19 k.1 v8;let v3:=Yob v8.x v19 k.1;let v4:Orc:=.ghost (.nilbox 4 6 true 4);let v5:=rsB v8.Ba k.1.Ta k.1.Sa;let v6:=vS (mkS []);let v7:Ob:=.y 4 [];let v13:Ob:=.Ac v2.m.Ba;let v14:Ob:=.Ad v2.m.Ma;.d [.ptr] (Z6m k.2) (.i (Ymb k.2.z≠0) (.w v10 (.w v4 (.w v9 (.o 1 [0,1,2,4,5,6,7,8,9] [.o v15,.o v16,.a v18,.a v20,.a v17,.a v21,.a (vI 0),.a (vI 0),.o v12,.a (vI 0),.a (vI 0),.a v6,.o v7,.o v11,.s (li (Ymb k.2.z))])))) (.i (k.1.Ka=1) (.d [.ptr,.rd] (Z8a v8 k.1) (.i (yRe v8.Ba k.1.Ta k.1.Sa≠0) (.w v10 (.w v4 (.w v9 (.o 1 [0,1,2,4,5,6,8,9,10] [.o v15,.o v16,.a v18,.a v20,.a v17,.a v21,.a (vI 0),.a (vI 0),.o v12,.a (vI 0),.a (vI 0),.a v6,.o v7,.o v11,.s (li (yRe v8.Ba k.1.Ta k.1.Sa))])))) (.i (v5.Ka=3) (.w v10 (.w v4 (.w v9 (.o 1 [0,1,2,4,5,6,8,9,10] [.o v15,.o v16,.a v18,.a v20,.a v17,.a v21,.a (vI 2),.a (vI v5.Na),.o v12,.a (vI 0),.a (vI 0),.a v6,.o v7,.o v11,.s (li 0)])))) (.i (v5.Ka=2) (.w v10 (.w v4 (.w v9 (.o 1 [0,1,2,4,5,6,8,9,10] [.o v15,.o v16,.a v18,.a v20,.a v17,.a v21,.a (vI 3),.a (vI v5.Na),.o v12,.a (vI 0),.a (vI 0),.a v6,.o v7,.o v11,.s (li 0)])))) (.w v10 (.w v4 (.w v9 (.o 1 [0,1,2,4,5,6,8,9,10] [.o v15,.o v16,.a v18,.a v20,.a v17,.a v21,.a (vI 0),.a (vI 0),.o v12,.a (vI 0),.a (vI 0),.a v6,.o v7,.o v11,.s (li 1)])))))))) (.i (k.1.Ka=2) (.y true v1) (.i (k.1.Ka=3) (.y true v1) (.i (k.1.Ka=4) v1 (.z Ykb k.1.Ia (.i (((k.1.Ia.map Ykb).length:Int)=0) (.w v10 (.w v4 (.w v9 (.o 1 [0,1,2,4,5,6,7,8,9] [.o v15,.o v16,.a v18,.a v20,.a v17,.a v21,.a (vI 0),.a (vI 0),.o v12,.a (vI 0),.a (vI 0),.a v6,.o v7,.o v11,.s (li 1)])))) (.d [.ptr,.rd] (Z89 v8 k.1) (.i (hdM v8.x k.1<0) (.o 0 [0,1,2,3,4,5,6] [.a (vI k.1.Ka),.a (vI k.1.Na),.a (vS k.1.Ta),.a (At k.1.Sa),.a (Am k.1.Ia),.o v15,.o v16,.a v18,.a v20,.a v17,.a v21]) (.d [.ptr,.rd,.rd] (Z7x v8 v19 k.1) (.i (Ymv v8.x v19 k.1≠0) (.w v10 (.w v4 (.w v9 (.o 1 [0,1,2,4,5,6,8,9,10] [.o v13,.o v14,.a (vI v2.m.Sb),.a (vI v2.m.Va),.a (vI v2.m.Sc),.a (vI v2.m.z),.a (vI 0),.a (vI 0),.o v12,.a (vI 0),.a (vI 0),.a v6,.o v7,.o v11,.s (li (Ymv v8.x v19 k.1))])))) (.g [0,1,2,3,4,5,6] (Yob v8.x v19 k.1,v2.m) [.a (vI v3.Ka),.a (vI v3.Na),.a (vS v3.Ta),.a (At v3.Sa),.a (Am v3.Ia),.o v13,.o v14,.a (vI v2.m.Sb),.a (vI v2.m.Va),.a (vI v2.m.Sc),.a (vI v2.m.z)]))))))))))))) (by
 intro k h;try dsimp only[Ykd,Yko,Z7j]at h|-
 have hm:Yl4 k.2:=h.1
 have hs:=h.2.1
 have hw:=(Ymh hs).1
 have w0:=@Y24g k.2 hm
 have w1:=@Y1mj (yCn k.2).x k.1 hm.1
 have z1:(ySt (hdM (yCn k.2).x k.1) k.1 (yCn k.2)).m.z=k.2.z+1:=rfl
 have cz:Ymb k.2.z=0->k.2.z+1<=3000:=λa=>(w0 a).2.2
 have hz:=h.2.2.1
 have hz0:=hm.2.1
 with_reducible repeat' (first|apply ah|exact zR|exact ih|(intro)|apply Z1t|apply Z47|apply Z5y|apply Z1r|apply Z38|apply Z1s|apply Za2|apply Z52)
 all_goals ((try simp only[std,inj]at *);with_reducible and_intros)
 all_goals try first|with_reducible (first|apply Z1t|apply Z47|apply Z5y|apply Z1r|apply Z38|apply Z1s|apply Za2|apply Z52|apply ih)|(simp only[<- ar];with_reducible first|apply Z1t|apply Z47|apply Z5y|apply Z1r|apply Z38|apply Z1s|apply Za2|apply Z52|apply ih)
 all_goals (try simp only[aL]at *)
 all_goals first
  | exact cb|exact hm.1|exact h.1|omega
  | exact(w0 aW).1|exact w0 aW
  | exact a9 hw oW
  | exact(w1 oW).2.1|exact(w1 oW).2.2|exact Yyk (w0 aW).1
  | exact Ytq (x:=(yCn k.2).x) hm.1.Sb aW
  | (rw[z1];have:=cz aW;omega)
  | (rw[<- h.2.2.2,Y219 (x:=k.1) hm aW]<;>rfl)
  | (rw[<- h.2.2.2,Y219 (x:=k.1) hm aW];exact Y1zr aW)
  | (rw[<- h.2.2.2,Y243 (x:=k.1) hm aW aW aW]<;>rfl)
  | (rw[<- h.2.2.2,Y25b (x:=k.1) hm aW aW aW aW]<;>rfl)
  | (rw[<- h.2.2.2,Y25c (x:=k.1) hm aW aW aW aW aW]<;>rfl)
  | (rw[<- h.2.2.2,Y24d (x:=k.1) hm aW aW aW aW aW]<;>rfl)
  | (rw[<- h.2.2.2,Y1rd (x:=k.1) hm aW aW (.inl aW)]<;>rfl)
  | (rw[<- h.2.2.2,Y1rd (x:=k.1) hm aW aW (.inr (.inl aW))]<;>rfl)
  | (rw[<- h.2.2.2,Y1rd (x:=k.1) hm aW aW (.inr (.inr aW))]<;>rfl)
  | (rw[<- h.2.2.2,Y23v (x:=k.1) hm aW aW aW aW aW aW]<;>rfl)
  | (rw[<- h.2.2.2,Y249 (x:=k.1) hm aW aW aW aW aW aW aW]<;>rfl)
  | (rw[<- h.2.2.2,Y24f (x:=k.1) hm aW aW aW aW aW aW aW aW]<;>rfl)
  | (rw[<- h.2.2.2,Y22p (x:=k.1) hm aW aW aW aW aW aW aW aW]<;>rfl)
  | skip)
theorem Zk7 (s:YS_) (m:YS) (h:Yl4 m/\Ykk s) (ih:∀ (s:YS_) (q:YS),Yl4 q/\Ykk s/\m.z<q.z->Zo s q) (ihb:∀ (L:List YS_) (q:YS),Yl4 q/\(∀ x∈L,Ykk x)/\L.length<=2000/\m.z<q.z->Z9 L q):Zo s m:=Ykr call32 func32 (let v7:=yLq s m;let v1:=yFm yX yZ (hdN v7.m.x v7.s) v7.s v7.m;let v2:=Ykj yX v7.s.Ia v7.m;let v3:=[vI 0,vI 0,.ref 5,vI 0,vI 0,vS (mkS []),.ref 6,.ref 7];let v4:Orc:=.ghost (.nilbox 4 6 true 4);let v5:Orc:=.ghost (.nilbox 4 2 true 1);let v8:List AC:=[.ref 3,.ref 4,vI v2.m.Sb,vI v2.m.Va,vI v2.m.Sc,vI v2.m.z];let v9:=v2.m.Ba.map Ykc;let v6:List Ob:=[.box v8,.dead,.dead,.y 4 v9,.Ad v2.m.Ma,.y 1 [],.y 4 [],.y 8 []];.w (.m 1) (.w (.m 2) (.l (Z7j s m) (Zie s m h ih ihb) [0,1,2,3,4,5,6] [.a (vI s.Ka),.a (vI s.Na),.a (vS s.Ta),.a (At s.Sa),.a (Am s.Ia),.o (.Ac m.Ba),.o (.Ad m.Ma),.a (vI m.Sb),.a (vI m.Va),.a (vI m.Sc),.a (vI m.z)] (s,m) (.t (.d [.ptr,.rd] (Z6l v7.m v7.s) (.i (0<=hdN v7.m.x v7.s) (.d [.ptr,.rd,.rd] (Zc0 v7.s (hdN v7.m.x v7.s) v7.m) (.f [10,11,12,13,14] [.box [.ref 3,.ref 4,vI v1.m.Sb,vI v1.m.Va,vI v1.m.Sc,vI v1.m.z],.dead,.dead,.Ac v1.m.Ba,.Ad v1.m.Ma,.Aa v1.v.Pa,.Ah v1.v.Da.Ia,.Ak v1.v.Kb] (.tup [.agg [vI v1.v.Ka,vI v1.v.Na,.ref 5,vI v1.v.Da.Ka,vI v1.v.Da.Na,vS v1.v.Da.Ta,.ref 6,.ref 7],li v1.e]))) (.d [.ptr,.rd] (Z4k v7.s.Ia v7.m) (.i (v2.e≠0) (.w v5 (.w v4 (.w (.g (.nilbox 4 7 true 8)) (.f [10,11,13,14,15] v6 (.tup [.agg v3,li v2.e]))))) (.z Ykz v2.v (.i (9<((v2.v.map Ykz).length:Int)) (.w v5 (.w v4 (.w (.g (.nilbox 4 7 true 8)) (.f [10,11,13,14,15] v6 (.tup [.agg v3,li 8]))))) (.w v5 (.w v4 (.f [10,11,13,14,12] [.box v8,.dead,.dead,.y 4 v9,.Ad v2.m.Ma,.y 1 [],.y 4 [],.Ak v2.v] (.tup [.agg [vI 6,vI 0,.ref 5,vI 0,vI 0,vS (mkS []),.ref 6,.ref 7],li 0])))))))))) (.t (.f [4,5,6,7,8] [.box [.ref 3,.ref 4,vI v7.r.m.Sb,vI v7.r.m.Va,vI v7.r.m.Sc,vI v7.r.m.z],.dead,.dead,.Ac v7.r.m.Ba,.Ad v7.r.m.Ma,.Aa v7.r.v.Pa,.Ah v7.r.v.Da.Ia,.Ak v7.r.v.Kb] (.tup [.agg [vI v7.r.v.Ka,vI v7.r.v.Na,.ref 5,vI v7.r.v.Da.Ka,vI v7.r.v.Da.Na,vS v7.r.v.Da.Ta,.ref 6,.ref 7],li v7.r.e])) .q))))) (by
 dsimp only[Ykd,Zo,Yko,Z7j]
 have hm:=h.1
 have hs:=h.2
 have hq:=(Y12b h.1 h.2).1
 have ihx:(yLq s m).g->∀ (x:YS_) (q:YS),Yl4 q/\Ykk x/\(yLq s m).m.z<=q.z->Yl4 q/\Ykk x/\m.z<q.z:=λa x q d=>⟨d.1,d.2.1,by have:=(hq a).2.2.1;have:=d.2.2;omega⟩
 have ihy:(yLq s m).g->∀ (B:List YS_) (q:YS),Yl4 q/\(∀ x∈B,Ykk x)/\B.length<=2000/\(yLq s m).m.z<=q.z->OK (Z9 B q):=λa B q d=>ihb B q ⟨d.1,d.2.1,d.2.2.1,by have:=(hq a).2.2.1;have:=d.2.2.2;omega⟩
 have hl:(yLq s m).g->(yLq s m).s.Ia.length<=2000:=λa=>Ysm (hq a).2.1
 with_reducible repeat' (first|apply ah|exact zR|exact ih|(intro)|apply Z1t|apply Z47|apply Z5y|apply Z1r|apply Z38|apply Z1s|apply Za2|apply Z52)
 all_goals ((try simp only[std,inj]at *);with_reducible and_intros)
 all_goals try first|with_reducible (first|apply Z1t|apply Z47|apply Z5y|apply Z1r|apply Z38|apply Z1s|apply Za2|apply Z52|apply ih)|(simp only[<- ar];with_reducible first|apply Z1t|apply Z47|apply Z5y|apply Z1r|apply Z38|apply Z1s|apply Za2|apply Z52|apply ih)
 all_goals (try simp only[aL]at *)
 all_goals first
  | exact cb|omega|rfl|exact hm.1|exact hm.2.1|exact hm.2.2
  | exact(hq aW).1|exact(hq aW).2.1|exact(hq aW).1.1
  | exact Ymm (hq aW).2.1 aW|exact hl aW
  | exact Y1nc (hq aW).1.1 aW
  | exact Nat.pos_of_ne_zero (hq aW).2.2.2
  | exact ihx aW _ _ aW|exact ihy aW _ _ aW
  | (rw[Y248 hm hs aW]<;>rfl)
  | (rw[Y24u hm hs aW aW]<;>rfl)
  | (rw[Y24m hm hs aW aW aW]<;>rfl)
  | (rw[Y24e hm hs aW aW aW aW]<;>rfl)
  | (rw[Y23t hm hs aW aW aW aW]<;>rfl)
  | skip)
theorem Y20z:∀ n:Nat,(∀ (s:YS_) (q:YS),Yl4 q->Ykk s->(3001 - q.z).toNat<=n->OK (Zo s q))/\(∀ (L:List YS_) (q:YS),Yl4 q->(∀ x∈L,Ykk x)->L.length<=2000->(3001 - q.z).toNat<=n->OK (Z9 L q))
 | 0=>⟨λs q hq _ hn=>by have:=hq.2;omega,λL q hq _ _ hn=>by have:=hq.2;omega⟩
 | n+1=>by
  have ih:=Y20z n
  have f:=λ(z:Int) (hn:(3001 - z).toNat<=n+1) (s':YS_) (q':YS) (d:Yl4 q'/\Ykk s'/\z<q'.z)=>ih.1 s' q' d.1 d.2.1 (by have:=d.2.2;omega)
  have g:=λ(z:Int) (hn:(3001 - z).toNat<=n+1) (L':List YS_) (q':YS) (d:Yl4 q'/\(∀ x∈L',Ykk x)/\L'.length<=2000/\z<q'.z)=>ih.2 L' q' d.1 d.2.1 d.2.2.1 (by have:=d.2.2.2;omega)
  exact⟨λs q hq hs hn=>Zk7 s q ⟨hq,hs⟩ (f q.z hn) (g q.z hn),λL q hq hL hl hn=>Zk6 L q ⟨hq,hL,hl⟩ (f q.z hn) (g q.z hn)⟩
theorem Zjd (s:YS_) (m:YS) (h:Yl4 m/\Ykk s):Zo s m:=(Y20z _).1 s m h.1 h.2 (aD _)
end
mutual
/-- the names in the forms of a capture -/
def nmP:YC->List YS_
 | ⟨_,_,f,e⟩=>nmZ f++Y1d3 e
def Y1d3:List YC->List YS_
 | []=>[]
 | x :: r=>nmP x++Y1d3 r
end
theorem Y1hj:∀ l,Y1d3 l=l.flatMap nmP
 | []=>by simp[Y1d3]
 | x :: r=>by rw[Y1d3,Y1hj r];simp
theorem Yy1 (x:YC):nmP x=nmZ x.form++x.each.flatMap nmP:=by cases x;simp only[nmP,Y1hj]
theorem Y1gf:nmP (default:YC)=[]:=by
 rw[Yy1];show nmZ ⟨0,0,.empty,[],[]⟩++[]=[]
 rw[Yoc];simp
def Ysq (Y:List YS_) (C:List YC):Prop:=∀ z∈C,∀ y∈nmP z,y∈Y
theorem Yx5 {Y:List YS_}{C:List YC}(h:Ysq Y C) (i:Nat):∀ y∈nmP (C.g i),y∈Y:=by
 intro y hy
 rcases bH i C.length with h3|h3
 ·exact h _ (Ykg h3) y hy
 ·have e:C.g i=default:=by simp[h3]
  rw[e,Y1gf]at hy;cases hy
theorem Y1pg {Y:List YS_}{C:List YC}(h:Ysq Y C) (i:Nat):Ysq Y (C.g i).each:=by
 intro z hz y hy
 refine Yx5 h i y ?_
 rw[Yy1];exact bd _ (List.mem_flatMap.2 ⟨z,hz,hy⟩)
theorem Y1iy {Y:List YS_}{C:List YC}(h:Ysq Y C) (a:Nat):∀ I,Ysq Y (Yzi C a I)
 | []=>h
 | x :: r=>by
  have ih:=Y1iy h a r
  simp only[Yzi]
  split
  ·intro z hz
   rcases bT hz with hz|rfl
   ·exact ih z hz
   ·exact Yx5 (Y1pg h _) a
  ·exact ih
theorem Y1pk {f:Nat->Int->YS_×Bool×Int}{R:YS_->Prop}(hf:∀ j q,(f j q).2.1->R (f j q).1):∀ (j:Nat) (q:Int) (O:List YS_),(itr f j q O).2.1->∀ z∈(itr f j q O).1,z∈O\/R z
 | 0,q,O,_,z,hz=>.inl hz
 | j+1,q,O,h,z,hz=>by
  have h0:=Y1e6 h
  rw[Ytl f j q O h0]at h hz
  simp only at h hz
  rcases List.mem_append.1 hz with hz|hz
  ·exact Y1pk hf j q O h0 z hz
  ·rw[List.mem_singleton.1 hz];exact .inr (hf _ _ h)
def inR (l:List YS_) (Y:List YS_) (z:YS_):Prop:=∀ y∈nmZ z,(∃ x∈l,y∈nmZ x)\/y∈Y
theorem Yz2 {l l' Y:List YS_}{z:YS_}(h:inR l Y z) (hl:∀ x∈l,x∈l'):inR l' Y z:=λy hy=>(h y hy).imp (λ⟨x,hx,e⟩=>⟨x,hl x hx,e⟩) id
theorem Y18d {Y:List YS_}:∀ (l:List YS_),(∀ x∈l,∀ C q,Ysq Y C->(bld x C q).2.1->inR [x] Y (bld x C q).1)->∀ C q O,Ysq Y C->(Yoa l C q O).2.1->∀ z∈(Yoa l C q O).1,z∈O\/inR l Y z
 | [],_,C,q,O,_,_,z,hz=>by rw[Ytw]at hz;exact .inl hz
 | [x],hx,C,q,O,hC,h,z,hz=>by
  rw[Y154]at h hz
  by_cases e:(bld x C q).2.1
  ·rw[ae e,Ytw]at hz
   rcases List.mem_append.1 hz with hz|hz
   ·exact .inl hz
   ·rw[List.mem_singleton.1 hz];exact .inr (hx x aj C q hC e)
  ·rw[ab e]at h;cases h
 | x :: y :: r,hx,C,q,O,hC,h,z,hz=>by
  rw[Y10v]at h hz
  by_cases d:Ykt y
  ·rw[ae d]at h hz
   by_cases e:(bR C x q O).2.1
   ·rw[ae e]at h hz
    rcases Y18d r (λz hz=>hx z (by simp[hz])) C _ (bR C x q O).1 hC h z hz with h1|h1
    ·have:z∈O\/inR [x] Y z:=by
      unfold bR bJ at e h1
      by_cases c:cnB C x
      ·rw[ae c]at e h1
       exact Y1pk (λj q hq=>hx x aj _ q (Y1iy hC j _) hq) _ q O e z h1
      ·rw[ab c]at e;cases e
     exact this.imp id λhr=>Yz2 hr λw hw=>by rw[List.mem_singleton.1 hw];exact aj
    ·exact .inr (Yz2 h1 λw hw=>by simp[hw])
   ·rw[ab e]at h;exact absurd h e
  ·rw[ab d]at h hz
   by_cases e:(bld x C q).2.1
   ·rw[ae e]at h hz
    rcases Y18d (y :: r) (λz hz=>hx z (ai _ hz)) C _ (O++[(bld x C q).1]) hC h z hz with h1|h1
    ·rcases List.mem_append.1 h1 with h1|h1
     ·exact .inl h1
     ·rw[List.mem_singleton.1 h1]
      exact .inr (Yz2 (hx x aj C q hC e) λw hw=>by rw[List.mem_singleton.1 hw];exact aj)
    ·exact .inr (Yz2 h1 λw hw=>ai _ hw)
   ·rw[ab e]at h;cases h
theorem Y1ym {Y:List YS_}:∀ (t:YS_) (C:List YC) (q:Int),Ysq Y C->(bld t C q).2.1->inR [t] Y (bld t C q).1:=by
 refine YS_.ind λt ih C q hC h => ?_
 rw[Y1ds]at h|-
 by_cases c1:q - 1<0
 ·rw[ae c1]at h;cases h
 rw[ab c1]at h|-
 by_cases c2:t.Ka=1
 ·rw[ae c2]at h|-
  by_cases c3:Ykt t\/fnd C t<0
  ·rw[ae c3];exact λy hy=>.inl ⟨t,List.mem_singleton.2 rfl,hy⟩
  ·rw[ab c3]at h|-
   by_cases c4:(Ylt C t).depth≠0
   ·rw[ae c4]at h;cases h
   ·rw[ab c4]at h|-
    by_cases c5:(Ykp (Ylt C t).form:Int)<=q
    ·rw[ae c5]
     intro y hy
     refine .inr (Yx5 hC (fnd C t).toNat y ?_)
     rw[Yy1];exact aY _ hy
    ·rw[ab c5]at h;cases h
 ·rw[ab c2]at h|-
  by_cases c6:(Yoa t.Ia C (q - 1) []).2.1
  ·rw[ae c6]
   intro y hy
   rw[Yoc,ab c2,bt,bm]at hy
   obtain⟨z,hz,hy⟩:=hy
   rcases Y18d t.Ia ih C (q - 1) [] hC c6 z hz with h1|h1
   ·cases h1
   ·rcases h1 y hy with ⟨x,hx,e⟩|e
    ·exact .inl ⟨t,List.mem_singleton.2 rfl,by rw[Yoc];exact bd _ (List.mem_flatMap.2 ⟨x,hx,e⟩)⟩
    ·exact .inr e
  ·rw[ab c6]at h;cases h
theorem Y1fi {H:YS_->Bool}{A:List YS_->Int}:∀ (l:List YS_),(∀ x∈l,∀ d,∀ z∈nm H A x d,nmP z=[])->∀ i a d,∀ z∈nms H A l i a d,nmP z=[]
 | [],_,i,a,d,z,hz=>by simp[nms]at hz
 | x :: r,h,i,a,d,z,hz=>by
  simp only[nms,aA]at hz
  rcases hz with hz|hz
  ·split at hz
   ·cases hz
   ·exact h x aj _ z hz
  ·exact Y1fi r (λy hy=>h y (ai _ hy)) _ _ _ z hz
theorem Y1xx {H:YS_->Bool}{A:List YS_->Int}:∀ (p:YS_) (d:Int),∀ z∈nm H A p d,nmP z=[]:=by
 refine YS_.ind λp ih d z hz => ?_
 rw[Yr1]at hz
 split at hz
 ·split at hz
  ·cases hz
  ·simp only[ao]at hz;subst hz
   rw[Yy1];show nmZ ⟨0,0,mkS [],[],[]⟩++[]=[]
   rw[Yoc];simp
 ·split at hz
  ·exact Y1fi p.Ia ih _ _ _ z hz
  ·cases hz
theorem Y237 {V:List YC}{R:List (List YC)}{Y:List YS_}(hV:∀ z∈V,nmP z=[]) (hR:∀ c∈R,Ysq Y c):Ysq Y (rp V R):=by
 intro z hz y hy
 simp only[rp,ba,be]at hz
 obtain⟨i,hi,rfl⟩:=hz
 have h1:=hV _ (Ykg hi)
 rw[Yy1]at h1 hy
 simp only at hy
 rw[List.flatMap_append,<- aI,h1,bt,bm]at hy
 obtain⟨w,hw,hy⟩:=hy
 obtain⟨c,hc,rfl⟩:=List.mem_map.1 hw
 exact Yx5 (hR c hc) i y hy
theorem Y1v3 {Y fs:List YS_}(h:∀ f∈fs,∀ y∈nmZ f,y∈Y) (k:Nat):∀ y∈nmZ (fs.g k),y∈Y:=by
 intro y hy
 rcases bH k fs.length with h3|h3
 ·exact h _ (Ykg h3) y hy
 ·have e:fs.g k=default:=by simp[h3]
  rw[e]at hy
  have e2:nmZ (default:YS_)=[]:=by show nmZ ⟨0,0,.empty,[],[]⟩=[];rw[Yoc];simp
  rw[e2]at hy;cases hy
theorem Y1mt {M:YS_->YS_->Bool}{H:YS_->Bool}{A:List YS_->Int}{Y:List YS_}:∀ l:List YS_,(∀ x∈l,∀ f c,mt M H A x f=some c->(∀ y∈nmZ f,y∈Y)->Ysq Y c)->∀ i a k fs c,mts M H A l i a k fs=some c->(∀ f∈fs,∀ y∈nmZ f,y∈Y)->Ysq Y c
 | [],_,i,a,k,fs,c,e,_,z,hz=>by simp only[mts,aa]at e;subst e;cases hz
 | x :: r,h,i,a,k,fs,c,e,hf,z,hz=>by
  have ih:=Y1mt r (λy hy=>h y (ai _ hy)) (i+1) a k
  have hd:∀ n,∀ f∈fs.drop n,∀ y∈nmZ f,y∈Y:=λn f hm=>hf f (aH hm)
  simp only[mts]at e
  split at e
  ·exact ih _ _ e hf z hz
  ·split at e
   ·split at e
    ·cases e
    ·rename_i R hR
     split at e
     ·cases e
     ·rename_i c' hc
      simp only[aa]at e;subst e
      obtain⟨r1,r2⟩:=Y1bt _ _ hR
      rcases List.mem_append.1 hz with hz|hz
      ·refine Y237 (λz hz=>Y1xx x 1 z hz) (λc hc => ?_) z hz
       obtain⟨f',h1,h2⟩:=r2 c hc
       exact h x aj f' c h2 (hf f' (bu h1))
      ·exact ih _ _ hc (hd k) z hz
   ·split at e
    ·cases e
    ·rename_i c1 h1
     split at e
     ·cases e
     ·rename_i c' hc
      simp only[aa]at e;subst e
      rcases List.mem_append.1 hz with hz|hz
      ·exact h x aj _ _ h1 (Y1v3 hf 0) z hz
      ·exact ih _ _ hc (hd 1) z hz
theorem Y22d {M:YS_->YS_->Bool}{H:YS_->Bool}{A:List YS_->Int}{Y:List YS_}:∀ (p f:YS_) (c:List YC),mt M H A p f=some c->(∀ y∈nmZ f,y∈Y)->Ysq Y c:=by
 refine YS_.ind λp ih f c e hm z hz => ?_
 rw[Yr2]at e
 split at e
 ·split at e
  ·simp only[aa]at e;subst e;cases hz
  ·split at e
   ·split at e
    ·simp only[aa]at e;subst e;cases hz
    ·cases e
   ·simp only[aa]at e;subst e
    rw[List.mem_singleton.1 hz]
    intro y hy
    rw[Yy1]at hy
    simp only[Yzs,List.flatMap_nil,bw]at hy
    exact hm y hy
 ·split at e
  ·split at e
   ·refine Y1mt p.Ia ih _ _ _ _ _ e (λg hg y hy=>hm y ?_) z hz
    rw[Yoc];exact bd _ (List.mem_flatMap.2 ⟨g,hg,hy⟩)
   ·cases e
  ·split at e
   ·simp only[aa]at e;subst e;cases hz
   ·cases e
theorem Y214 (f:YS_):∀ y∈nmZ (tlY f),y∈nmZ f:=by
 intro y hy
 rw[Yoc]at hy
 have e:(tlY f).Ka≠1:=by show (0:Int)≠1;decide
 rw[ab e,bt,bm]at hy
 obtain⟨z,hz,hy⟩:=hy
 rw[Yoc]
 exact bd _ (List.mem_flatMap.2 ⟨z,aH hz,hy⟩)
theorem Y1cm:∀ {L:List Int},srt L->∀ y∈L,y<=L.getD ((L.length:Int) - 1).toNat 0
 | [],_,y,hy=>by cases hy
 | [x],_,y,hy=>by rw[List.mem_singleton.1 hy];exact aJ _
 | x :: z :: r,h,y,hy=>by
  have ih:=Y1cm (L:=z :: r) h.2.2
  have e:(x :: z :: r).getD (((x :: z :: r).length:Int) - 1).toNat 0=(z :: r).getD (((z :: r).length:Int) - 1).toNat 0:=by
   have:((((x :: z :: r).length:Int) - 1).toNat)=(((z :: r).length:Int) - 1).toNat+1:=by simp only[aE];omega
   rw[this];rfl
  rw[e]
  rcases List.mem_cons.1 hy with rfl|hy
  ·have h1:=h.2.1 z aj
   have h2:=ih z aj
   omega
  ·exact ih y hy
theorem Ysc {x:YE}{b:YB}:Ytf x b ↔ (0<b.Sa.length->b.Sa.getD ((b.Sa.length:Int) - 1).toNat 0<=x.Sb)/\(b.Ka=3->b.Na<=x.Va)/\(b.Ka=4->b.Na<(x.Ma.length:Int)):=by
 simp only[Ytf,af,aM,df,aP]
 omega
structure exF (x:YE):Prop where
 areb:Ywk x.Ba
 nm:(x.Ma.length:Int)<=200
 Sb:0<=x.Sb/\x.Sb<=99999
 Va:0<=x.Va/\x.Va<=99999
 Sc:0<=x.Sc/\x.Sc<=200
 macs:∀ r∈x.Ma,Ym8 r/\Ytj x.Sb r
 bnds:∀ b∈x.Ba,Ytf x b
theorem Ymy (x:YE):Ylg x ↔ exF x:=by
 constructor
 ·intro h
  simp only[Ylg,af,ak,am,ruX]at h
  obtain⟨⟨⟨⟨⟨⟨a,b⟩,c⟩,d⟩,e⟩,f⟩,g⟩:=h
  exact⟨a,b,c,d,e,f,g⟩
 ·rintro⟨a,b,c,d,e,f,g⟩
  simp only[Ylg,af,ak,am,ruX]
  exact⟨⟨⟨⟨⟨⟨a,b⟩,c⟩,d⟩,e⟩,f⟩,g⟩
theorem Y15i {n n':Int}(h:n<=n'):∀ s:YS_,blw n s->blw n' s:=by
 refine YS_.ind λs ih hs => ?_
 rw[Ysv,af,am]at hs|-
 refine⟨?_,λx hx=>ih x hx (hs.2 x hx)⟩
 simp only[scB,am,ak]at hs|-
 exact λx hx=>cd (hs.1 x hx) h
theorem Y1hy {n n':Int}(h:n<=n') {r:YR_}(hr:Ytj n r):Ytj n' r:=by
 simp only[Y136,Ys7,af,am]at hr|-
 exact⟨⟨λx hx=>Y15i h x (hr.1.1 x hx),λx hx=>Y15i h x (hr.1.2 x hx)⟩,λx hx=>Y15i h x (hr.2 x hx)⟩
theorem Y19u (L M:List YB):∀ k,k<=L.length->Yok (L++M) k=Yok L k
 | 0,_=>rfl
 | k+1,h=>by
  have e:(L++M).g k=L.g k:=by simp[aq,bh (show k<L.length by omega)]
  simp only[Yok,Y19u L M k oW,e,dd (show k<=L.length by omega)]
theorem Y1nl {L:List YB}{b:YB}(h:Ywk L) (hb:Yoz b) (hc:Ymo L b.Ta b.Sa=false) (hl:(L.length:Int)<1000):Ywk (L++[b]):=by
 simp only[Ywk,af,ak,ax,bk]at h|-
 have e:(L++[b]).g L.length=b:=by simp[aq]
 refine⟨?_,by omega⟩
 simp only[Yok,Y19u L [b] L.length (aD _),e,dd (aD _),b9,h.1,hb,hc,Bool.not_false,Bool.and_self]
theorem Y12w {L:List YB}(h:Ywk L) {b:YB}(hb:b∈L):Yoz b:=by
 simp only[Ywk,af]at h
 obtain⟨k,hk,e⟩:=List.mem_iff_getElem.1 hb
 have h1:=Yzz L L.length (k+1) hk h.1
 simp only[Yok,af]at h1
 have e2:L.g k=b:=by simp[hk,e]
 rw[e2]at h1;exact h1.2.1
theorem Y1tm {b:YB}(h:Yoz b):srt b.Sa:=by
 simp only[Yoz,af]at h;exact(Yrd _).1 h.1.2
theorem Y167 {x:YE}(h:Ylg x) {n k:Int}(hn:x.Sb<=n/\n<=99999) (hk:0<=k/\k<=200):Ylg ⟨x.Ba,x.Ma,n,x.Va,k⟩=true:=by
 rw[Ymy]at h|-
 refine⟨h.areb,h.nm,⟨cd h.Sb.1 hn.1,hn.2⟩,h.Va,hk,λr hr=>⟨(h.macs r hr).1,Y1hy hn.1 (h.macs r hr).2⟩,λb hb => ?_⟩
 have:=Ysc.1 (h.bnds b hb)
 exact Ysc.2 ⟨λa=>cd (this.1 a) hn.1,this.2⟩
theorem Y1if {x:YE}(h:Ylg x) {b:YB}(hb:Yoz b) (hc:Ymo x.Ba b.Ta b.Sa=false) (hl:(x.Ba.length:Int)<1000) (hs:∀ j∈b.Sa,j<=x.Sb) {v:Int}(hv:x.Va<=v/\v<=99999)
  {M:List YR_} (hM:∀ r∈M,Ym8 r/\Ytj x.Sb r) (hm:((x.Ma++M).length:Int)<=200) (h3:b.Ka=3->b.Na<=v) (h4:b.Ka=4->b.Na<((x.Ma++M).length:Int)):Ylg ⟨x.Ba++[b],x.Ma++M,x.Sb,v,x.Sc⟩=true:=by
 rw[Ymy]at h|-
 refine⟨Y1nl h.areb hb hc hl,hm,h.Sb,⟨cd h.Va.1 hv.1,hv.2⟩,h.Sc,λr hr => ?_,λc hc => ?_⟩
 ·rcases List.mem_append.1 hr with hr|hr
  ·exact h.macs r hr
  ·exact hM r hr
 ·rcases List.mem_append.1 hc with hc|hc
  ·have:=Ysc.1 (h.bnds c hc)
   refine Ysc.2 ⟨this.1,λa=>cd (this.2.1 a) hv.1,λa => ?_⟩
   have:=this.2.2 a
   simp only[ax];omega
  ·rw[List.mem_singleton.1 hc]
   refine Ysc.2 ⟨λa=>hs _ ?_,h3,h4⟩
   have e:((b.Sa.length:Int) - 1).toNat<b.Sa.length:=by omega
   rw[aq,aw e];exact di e
theorem Y1wm {x:YE}(h:Ylg x) {b:YB}(hb:b∈x.Ba):∀ j∈b.Sa,j<=x.Sb:=by
 intro j hj
 have h:=(Ymy x).1 h
 have h1:=Y1cm (Y1tm (Y12w h.areb hb)) j hj
 have h2:=(Ysc.1 (h.bnds b hb)).1 (List.length_pos_of_mem hj)
 omega
def fmI (n:Int) (s:YS_):Prop:=Ykk s/\blw n s
theorem Yma {n:Int}{s x:YS_}(h:fmI n s) (hx:x∈s.Ia):fmI n x:=by
 obtain⟨h1,h2⟩:=h
 rw[Ysv,af,am]at h2
 simp only[Ykk,af,ak]at h1
 refine⟨?_,h2.2 x hx⟩
 have a:=Yli s
 have b:=Yl3 Ykp hx
 have c:=Ypk s
 have d:=Ysl Yl5 hx
 simp only[Ykk,af,ak]
 exact⟨⟨by omega,by omega⟩,Yns h1.2 x hx⟩
theorem Y11j {n n':Int}(h:n<=n') {s:YS_}(hs:fmI n s):fmI n' s:=⟨hs.1,Y15i h s hs.2⟩
theorem Y1jf {g:List Int->List Int}{n n':Int}(hg:∀ L,Ymz L->Ymz (g L)) (hn:∀ L,scB n L->scB n' (g L)) (h0:n<=n') {s:YS_}(h:fmI n s):fmI n' (Ykw g s):=by
 refine⟨Yv5 hg h.1,?_⟩
 have:∀ s:YS_,blw n s->blw n' (Ykw g s):=by
  refine YS_.ind λs ih hs => ?_
  rw[Ysv,af,am]at hs
  rw[Ysv,af,am,Yq4]
  refine⟨?_,λx hx => ?_⟩
  ·show scB n' (if s.Ka=1 then g s.Sa else s.Sa)=true
   split
   ·exact hn _ hs.1
   ·simp only[scB,am,ak]at hs|-
    exact λx hx=>cd (hs.1 x hx) h0
  ·obtain⟨y,hy,rfl⟩:=List.mem_map.1 hx
   exact ih y hy (hs.2 y hy)
 exact this s h.2
theorem Yvg {n y:Int}:∀ {L:List Int},y∈Yl7 n L->y=n\/y∈L
 | [],h=>by simpa[Yl7] using h
 | x :: r,h=>by
  simp only[Yl7]at h
  split at h
  ·split at h
   ·exact .inr h
   ·rcases List.mem_cons.1 h with rfl|h
    ·exact .inl rfl
    ·exact .inr h
  ·rcases List.mem_cons.1 h with rfl|h
   ·exact .inr aj
   ·exact(Yvg h).imp id (ai _)
theorem Y130 {n:Int}:∀ {L:List Int},n∈Yl7 n L
 | []=>by simp[Yl7]
 | x :: r=>by
  simp only[Yl7]
  split
  ·split
   ·rename_i h1 h2
    have:x=n:=by omega
    rw[this];exact aj
   ·exact aj
  ·exact ai _ Y130
theorem Y192 {n y:Int}:∀ {L:List Int},y∈L->y∈Yl7 n L
 | x :: r,h=>by
  simp only[Yl7]
  split
  ·split
   ·exact h
   ·exact ai _ h
  ·rcases List.mem_cons.1 h with rfl|h
   ·exact aj
   ·exact ai _ (Y192 h)
theorem Yyg {n k:Int}(hn:n<=k) (hk:1<=k/\k<=99999) {s:YS_}(h:fmI n s):fmI k (Ykw (Yl7 k) s):=by
 refine Y1jf (Y1co hk) (λL hL => ?_) hn h
 simp only[scB,am,ak]at hL|-
 intro x hx
 rcases Yvg hx with rfl|hx
 ·exact aJ _
 ·exact cd (hL x hx) hn
theorem Y18o {n:Int}{s:YS_}(h:fmI n s):fmI n (Ykw Ylm s):=by
 refine Y1jf Y1po (λL hL => ?_) (aJ _) h
 simp only[scB,am,ak]at hL|-
 exact λx hx=>hL x (List.mem_filter.1 hx).1
theorem Y1pr {n:Int}{s:YS_}(h:fmI n s) (hk:s.Ka=1):Yo1 s.Ta/\Ymz s.Sa/\∀ j∈s.Sa,j<=n:=by
 obtain⟨h1,h2⟩:=h
 have h3:=Ymh h1
 have h4:=h3.2.2
 rw[Yow,af]at h4
 have h5:=h4.2
 rw[Ysv,af]at h2
 simp only[scB,am,ak]at h2
 refine⟨?_,Yt0 h3.2.2,h2.1⟩
 simp only[Ypd,Yp4,hk,af,aG,ak]at h5
 rcases h5.1.1 with (((a|a)|a)|a)|a
 ·exact absurd a.1 dW
 ·exact a.2.2.1
 ·exact absurd a.1 dW
 ·exact absurd a.1 dW
 ·exact absurd a.1 dW
def scN (G:Int->Prop) (s:YS_):Prop:=∀ y∈nmZ s,∀ j∈y.Sa,G j
def mkd (z:Int) (s:YS_):Prop:=∀ y∈nmZ s,∃ j∈y.Sa,z<j/\¬ Yna j=3
theorem Y127 {s x:YS_}(hx:x∈s.Ia):∀ y∈nmZ x,y∈nmZ s:=λy hy=>by
 rw[Yoc];exact bd _ (List.mem_flatMap.2 ⟨x,hx,hy⟩)
theorem Yvi {s:YS_}(h:s.Ka=1):s∈nmZ s:=by rw[Yoc,ae h];exact aY _ (List.mem_singleton.2 rfl)
theorem Yxz {g:List Int->List Int}:∀ (s:YS_),∀ y∈nmZ (Ykw g s),∃ z∈nmZ s,y.Ta=z.Ta/\y.Sa=g z.Sa:=by
 refine YS_.ind λs ih y hy => ?_
 rw[Yq4,Yoc,aA,bm]at hy
 simp only at hy
 rcases hy with hy|⟨z,hz,hy⟩
 ·by_cases h:s.Ka=1
  ·rw[ae h,ae h,ao]at hy
   subst hy;exact⟨s,Yvi h,rfl,rfl⟩
  ·rw[ab h]at hy;cases hy
 ·obtain⟨w,hw,rfl⟩:=List.mem_map.1 hz
  obtain⟨v,hv,e⟩:=ih w hw y hy
  exact⟨v,Y127 hw v hv,e⟩
theorem Ymu {G:Int->Prop}{s x:YS_}(h:scN G s) (hx:x∈s.Ia):scN G x:=λy hy=>h y (Y127 hx y hy)
theorem Y19a {G:Int->Prop}{s x:YS_}(h:scN G s) (hx:inD s x):scN G x:=by
 rcases hx with hx|⟨y,hy,hx⟩
 ·exact Ymu h hx
 ·exact Ymu (Ymu h hy) hx
theorem Yw8 {z:Int}{s x:YS_}(h:mkd z s) (hx:x∈s.Ia):mkd z x:=λy hy=>h y (Y127 hx y hy)
theorem Yvm {G G':Int->Prop}(h:∀ j,G j->G' j) {s:YS_}(hs:scN G s):scN G' s:=λy hy j hj=>h j (hs y hy j hj)
theorem Y197 {G:Int->Prop}{n:Int}{s:YS_}(h:scN G s):scN (λj=>G j\/j=n) (Ykw (Yl7 n) s):=λy hy j hj=>by
 obtain⟨z,hz,_,e⟩:=Yxz s y hy
 rw[e]at hj
 exact(Yvg hj).elim .inr λhj=>.inl (h z hz j hj)
theorem Y193 {z n:Int}(hn:z<n) (hk:¬ Yna n=3) (s:YS_):mkd z (Ykw (Yl7 n) s):=λy hy=>by
 obtain⟨w,hw,_,e⟩:=Yxz s y hy
 exact⟨n,by rw[e];exact Y130,hn,hk⟩
theorem Y18i {z:Int}{s:YS_}(h:mkd z s):mkd z (Ykw Ylm s):=λy hy=>by
 obtain⟨w,hw,_,e⟩:=Yxz s y hy
 obtain⟨j,hj,h1,h2⟩:=h w hw
 exact⟨j,by rw[e];exact List.mem_filter.2 ⟨hj,bM h2⟩,h1,h2⟩
theorem Y1o0 {n:Int}:∀ s:YS_,okY s->(blw n s ↔ scN (λj=>j<=n) s):=by
 refine YS_.ind λs ih h => ?_
 rw[Ysv,af,am]
 have h0:=h
 rw[Yow,af]at h0
 have h1:=h0.2
 simp only[Ypd,af,aG,ak]at h1
 constructor
 ·rintro⟨a,b⟩ y hy
  rw[Yoc,aA,bm]at hy
  rcases hy with hy|⟨z,hz,hy⟩
  ·split at hy
   ·rw[List.mem_singleton.1 hy];simpa[scB] using a
   ·cases hy
  ·exact(ih z hz (Yns h z hz)).1 (b z hz) y hy
 ·intro a
  refine⟨?_,λx hx=>(ih x hx (Yns h x hx)).2 (Ymu a hx)⟩
  rcases h1.2 with e|e
  ·have:s.Sa=[]:=List.length_eq_zero_iff.1 oW
   rw[this];rfl
  ·have:=a s (Yvi e)
   simpa[scB] using this
theorem Y1pi {n:Int}{s:YS_}(h:Ykk s) (h2:scN (λj=>j<=n) s):fmI n s:=⟨h,(Y1o0 s (Ymh h).2.2).2 h2⟩
theorem Y1ms {n:Int}{s:YS_}(h:fmI n s):scN (λj=>j<=n) s:=(Y1o0 s (Ymh h.1).2.2).1 h.2
theorem Y21b {B:List YB}{r:YR_}{f:YS_}(h:apB B r f) (hr:Ym8 r):∀ y∈nmZ (apY B r f),(∃ t∈r.Tb,y∈nmZ t)\/y∈nmZ f:=by
 simp only[apB,af]at h
 obtain⟨hg,hi⟩:=h
 have hk:apN B r f<r.Pb.length:=by simp only[apG,af,ak]at hg;exact hg.2
 obtain⟨_,_,_,hkt,_⟩:=Yz0 hr hk
 have hi2:=hi
 simp only[Yuw,af]at hi2
 have eZ:apY B r f=(bld (r.Tb.g (apN B r f)) (apC B r f (apN B r f)) 2000).1:=by unfold apY;rw[ae hg];unfold Yxx;rw[ae hi]
 have hC:Ysq (nmZ f) (apC B r f (apN B r f)):=by
  unfold apC
  cases e:gS B r.La (tlY (r.Pb.g (apN B r f))) (tlY f) with
  | none=>intro z hz;cases hz
  | some c=>exact Y22d _ _ _ e (Y214 f)
 rw[eZ]
 intro y hy
 rcases Y1ym _ _ _ hC hi2.1.2 y hy with ⟨x,hx,hxy⟩|hyf
 ·rw[List.mem_singleton.1 hx]at hxy
  exact .inl ⟨_,Ykg hkt,hxy⟩
 ·exact .inr hyf
theorem Y14v {n j:Int}{L:List Int}:j∈Yn2 n L ↔ (n∈L/\j∈L/\¬ j=n)\/(n∉L/\(j=n\/j∈L)):=by
 unfold Yn2
 split
 ·rename_i h;rw[cj];simp[h]
 ·rename_i h
  constructor
  ·intro a;exact .inr ⟨h,Yvg a⟩
  ·rintro(a|⟨_,rfl|a⟩)
   ·exact absurd a.1 h
   ·exact Y130
   ·exact Y192 a
theorem Y21r {x:YE}{n:Int}{s:YS_}(hx:Ylg x) (h:Ymv x n s=0) (hs:fmI x.Sb s) (hn:n<x.Ma.length) (hr:Ym8 (ruS x n)) (ht:∀ t∈(ruS x n).Tb,scN (λj=>j<=x.Sb) t) :
  (x.Sb<scU x/\scU x<scI x/\scI x<=99999/\Yna (scU x)=3/\Yna (scI x)=2/\nxS (scA x) 2=scI x) /\
  ∀ y∈nmZ (Yob x n s),(∃ t∈(ruS x n).Tb,∃ z∈nmZ t,∀ j,j∈y.Sa ↔ j=scI x\/j∈z.Sa)\/(∃ z∈nmZ s,∀ j,j∈y.Sa ↔ j=scU x\/j∈z.Sa):=by
 have e:Yob x n s=Ykw (Yn2 (scI x)) (apY x.Ba (ruS x n) (Ytg x s)):=ae h
 have hsc:=((Ymy x).1 hx).Sb
 unfold Ymv at h
 split at h
 ·cases h
 split at h
 rotate_left
 ·cases h
 rename_i h2
 split at h
 rotate_left
 ·cases h
 rename_i h3
 have a1:=@Yvv x.Sb 3 hsc.1 h2.1
 have a2:=@Yrg x.Sb 3
 have eA:scA x=nxt x.Sb 3:=by show nxS x.Sb 3=_;omega
 have a3:=@Yvv (scA x) 2 oW h2.2
 have a4:=@Yrg (scA x) 2
 have k3:Yna (nxt x.Sb 3)=3:=by
  have:=(@Yyy x.Sb 3 (nxt x.Sb 3) hsc.1 dW oW).2 a1.2.2.1
  exact this
 have k2:Yna (nxt (scA x) 2)=2:=by
  have:=(@Yyy (scA x) 2 (nxt (scA x) 2) oW dW oW).2 a3.2.2.1
  exact this
 have eU:scU x=nxt x.Sb 3:=rfl
 have eI:scI x=nxt (scA x) 2:=rfl
 refine⟨⟨by omega,by omega,by omega,by rw[eU];exact k3,by rw[eI];exact k2,by omega⟩,λy hy => ?_⟩
 rw[e]at hy
 obtain⟨w,hw,_,ew⟩:=Yxz _ y hy
 rcases Y21b h3 hr w hw with ⟨t,htm,hwt⟩|hwf
 ·left
  refine⟨t,htm,w,hwt,λj => ?_⟩
  have:scI x∉w.Sa:=λhm=>by have:=ht t htm w hwt _ hm;simp only at this;omega
  rw[ew,Y14v]
  constructor
  ·rintro(a|a)
   ·exact absurd a.1 this
   ·exact a.2
  ·exact λa=>.inr ⟨this,a⟩
 ·right
  obtain⟨v,hv,_,ev⟩:=Yxz _ w hwf
  obtain⟨z,hz,_,ez⟩:=Yxz _ v hv
  refine⟨z,hz,λj => ?_⟩
  have hzs:=Y1ms hs z hz
  have n1:scI x∉Yl7 (scU x) z.Sa:=λhm=>by
   rcases Yvg hm with hm|hm
   ·omega
   ·have:=hzs _ hm;simp only at this;omega
  have hw1:∀ j,j∈w.Sa ↔ j=scI x\/j∈Yl7 (scU x) z.Sa:=λj=>by
   rw[ev,ez,Y14v]
   constructor
   ·rintro(a|a)
    ·exact absurd a.1 n1
    ·exact a.2
   ·exact λa=>.inr ⟨n1,a⟩
  rw[ew,Y14v]
  constructor
  ·rintro(a|a)
   ·rcases(hw1 j).1 a.2.1 with b|b
    ·exact absurd b a.2.2
    ·exact Yvg b
   ·exact absurd ((hw1 _).2 (.inl rfl)) a.1
  ·intro a
   have a':j∈Yl7 (scU x) z.Sa:=a.elim (λe=>e ▸ Y130) Y192
   exact .inl ⟨(hw1 _).2 (.inl rfl),(hw1 j).2 (.inr a'),λe=>n1 (e ▸ a')⟩
structure Up (z:Int) (m q:YS):Prop where
 sc:m.Sb<=q.Sb
 va:m.Va<=q.Va
 bi:∃ B,q.Ba=m.Ba++B/\∀ b∈B,∃ j∈b.Sa,z<j/\¬ Yna j=3
 ma:∃ M,q.Ma=m.Ma++M
theorem Up.rfl' (z:Int) (m:YS):Up z m m:=⟨aJ _,aJ _,⟨[],by simp,by simp⟩,⟨[],by simp⟩⟩
theorem Up.trans {z z':Int}{m u q:YS}(h:Up z m u) (h':Up z' u q) (hz:z<=z'):Up z m q:=by
 obtain⟨B,e1,hB⟩:=h.bi
 obtain⟨B',e2,hB'⟩:=h'.bi
 obtain⟨M,e3⟩:=h.ma
 obtain⟨M',e4⟩:=h'.ma
 refine⟨cd h.sc h'.sc,cd h.va h'.va,⟨B++B',by rw[e2,e1,aI],λb hb => ?_⟩,⟨M++M',by rw[e4,e3,aI]⟩⟩
 rcases List.mem_append.1 hb with hb|hb
 ·exact hB b hb
 ·obtain⟨j,hj,h1,h2⟩:=hB' b hb
  exact⟨j,hj,by omega,h2⟩
structure nwB (a b:Int) (l:List Int):Prop where
 nd:l.Nodup
 mem:∀ n∈l,a<n/\n<=b
 len:(l.length:Int)=b - a
theorem Ysh (a:Int):nwB a a []:=⟨List.nodup_nil,by simp,by simp⟩
theorem Yrs {a b c:Int}{l l':List Int}(h:nwB a b l) (h':nwB b c l'):nwB a c (l++l'):=by
 refine⟨List.nodup_append.2 ⟨h.nd,h'.nd,λx hx y hy e => ?_⟩,λn hn => ?_,by rw[ax];have:=h.len;have:=h'.len;omega⟩
 ·have:=(h.mem x hx).2;have:=(h'.mem y hy).1;omega
 ·have h1:=h.len
  have h2:=h'.len
  rcases List.mem_append.1 hn with hn|hn
  ·have:=h.mem n hn;exact⟨this.1,by omega⟩
  ·have:=h'.mem n hn;exact⟨by omega,this.2⟩
structure Cx (G V:Int->Prop) (m:YS):Prop where
 le:∀ j,G j->j<=m.Sb
 va:∀ b∈m.Ba,(∀ j∈b.Sa,G j)->b.Ka=3->V b.Na
 ma:∀ b∈m.Ba,(∀ j∈b.Sa,G j)->b.Ka=4->∀ t∈(m.Ma.g b.Na.toNat).Tb,scN G t
theorem Y19n {α:Type}[Inhabited α] {A B:List α}{k:Nat}(h:k<A.length):(A++B).g k=A.g k:=by
 simp[aq,bh h]
theorem Yyi {x:YE}(hx:Ylg x) {b:YB}(hb:b∈x.Ba) (hk:b.Ka=4):0<=b.Na/\b.Na<(x.Ma.length:Int):=by
 have h:=(Ymy x).1 hx
 have h1:=Y12w h.areb hb
 simp only[Yoz,af,ak]at h1
 exact⟨h1.2.1,(Ysc.1 (h.bnds b hb)).2.2 hk⟩
theorem Cx.up {G V:Int->Prop}{m q:YS}(hx:Ylg m.x) (c:Cx G V m) (u:Up m.Sb m q):Cx G V q:=by
 obtain⟨B,e1,hB⟩:=u.bi
 obtain⟨M,e2⟩:=u.ma
 have old:∀ b∈q.Ba,(∀ j∈b.Sa,G j)->b∈m.Ba:=λb hb hj=>by
  rw[e1]at hb
  rcases List.mem_append.1 hb with hb|hb
  ·exact hb
  ·obtain⟨j,h1,h2,_⟩:=hB b hb
   have:=c.le j (hj j h1);omega
 refine⟨λj hj=>cd (c.le j hj) u.sc,λb hb hj hk=>c.va b (old b hb hj) hj hk,λb hb hj hk => ?_⟩
 have h1:=Yyi hx (old b hb hj) hk
 have h2:b.Na<(m.Ma.length:Int):=h1.2
 rw[e2,Y19n oW]
 exact c.ma b (old b hb hj) hj hk
theorem Cx.more {G V:Int->Prop}{m q:YS}(hx:Ylg m.x) (c:Cx G V m) {N:Int->Prop}(hN:∀ j,N j->m.Sb<j/\j<=q.Sb) (hs:m.Sb<=q.Sb) (hb:q.Ba=m.Ba) (hm:q.Ma=m.Ma):Cx (λj=>G j\/N j) V q:=by
 have old:∀ b∈m.Ba,(∀ j∈b.Sa,G j\/N j)->∀ j∈b.Sa,G j:=λb hb h j hj=>by
  rcases h j hj with a|a
  ·exact a
  ·have h1:j<=m.Sb:=Y1wm hx hb j hj
   have:=(hN j a).1;omega
 refine⟨λj hj => ?_,λb h1 h2 hk => ?_,λb h1 h2 hk t ht => ?_⟩
 ·rcases hj with a|a
  ·exact cd (c.le j a) hs
  ·exact(hN j a).2
 ·rw[hb]at h1;exact c.va b h1 (old b h1 h2) hk
 ·rw[hb]at h1;rw[hm]at ht
  exact Yvm (λ_ a=>.inl a) (c.ma b h1 (old b h1 h2) hk t ht)
theorem Cx.bind {G V V':Int->Prop}{m q:YS}(hx:Ylg m.x) (c:Cx G V m) {b:YB}{M:List YR_}(hs:q.Sb=m.Sb) (hb:q.Ba=m.Ba++[b]) (hm:q.Ma=m.Ma++M) (hV:∀ n,V n->V' n)
  (h3:b.Ka=3->V' b.Na) (h4:b.Ka=4->∀ t∈(q.Ma.g b.Na.toNat).Tb,scN G t):Cx G V' q:=by
 refine⟨λj hj=>by rw[hs];exact c.le j hj,λd h1 h2 hk => ?_,λd h1 h2 hk => ?_⟩
 ·rw[hb]at h1
  rcases List.mem_append.1 h1 with h1|h1
  ·exact hV _ (c.va d h1 h2 hk)
  ·rw[ao]at h1;subst h1;exact h3 hk
 ·rw[hb]at h1
  rcases List.mem_append.1 h1 with h1|h1
  ·have h5:=Yyi hx h1 hk
   have h6:d.Na<(m.Ma.length:Int):=h5.2
   rw[hm,Y19n oW]
   exact c.ma d h1 h2 hk
  ·rw[ao]at h1;subst h1;exact h4 hk
theorem Y1ni {x:YE}(h:Ylg x) (hw:∀ r∈x.Ma,wR r<=900000000):okX x:=by
 have f:=(Ymy x).1 h
 have fl:=f.areb
 simp only[Ywk,af,ak]at fl
 refine⟨f.Sb,f.Va,f.Sc,⟨fl.2,λb hb => ?_⟩,⟨f.nm,λr hr=>⟨(f.macs r hr).1,hw r hr⟩⟩⟩
 have h1:=Y12w f.areb hb
 simp only[Yoz,af,ak,Yo1]at h1
 have h2:=Y18c h1.1.2
 have h3:=h1.1.1
 refine⟨?_,λk=>⟨h1.2.1,?_⟩,λk=>Yyi h hb k⟩
 ·have e:wB b=b.Ta.size+b.Sa.length:=rfl
  have:=h3.1.1.1.2
  rw[e];omega
 ·have:=h1.2.2
  rw[k]at this;exact this
theorem Y15a {s k:Int}(h0:0<=s) (hk:1<=k/\k<=3) (h:cdN s k=0):Yna (nxt s k)=k:=by
 have h1:=Y1v0 h
 have h2:=@Yvv s k h0 h1
 have h3:=@Yrg s k
 exact(@Yyy s k (nxt s k) h0 hk oW).2 h2.2.2.1
theorem Y1lk {z:Int}{id:YS_}{m:YS}(hx:Ylg m.x) (hi:fmI m.Sb id) (hk:id.Ka=1) (hm:mkd z id) (e:(yVr id m).e=0) :
  Ylg (yVr id m).m.x/\Up z m (yVr id m).m/\(yVr id m).m.Sb=m.Sb/\(yVr id m).v=m.Va+1/\(yVr id m).m.Va=m.Va+1:=by
 have g:=Y1up ((Y1bj id m).symm.trans e)
 have i:=Y1pr hi hk
 have hv:=((Ymy m.x).1 hx).Va
 have g1:m.Va<99999:=g.1
 rw[Yv8 e]
 have hb:Yoz ⟨id.Ta,id.Sa,3,m.Va+1⟩=true:=by
  simp only[Yoz,i.1,i.2.1,dl,ak]
  have:Y1lh 3=99999:=rfl
  have h0:0<=m.Va:=hv.1
  omega
 have h:=Y1if hx hb g.2.1 g.2.2 i.2.2 (v:=m.Va+1) (show m.Va<=m.Va+1/\m.Va+1<=99999 by omega) (M:=[]) sW (by simpa using ((Ymy m.x).1 hx).nm) (λ_=>aJ _) (λe=>absurd (show (3:Int)=4 from e) dW)
 rw[bw]at h
 refine⟨h,⟨aJ _,by show m.Va<=m.Va+1;omega,⟨[⟨id.Ta,id.Sa,3,m.Va+1⟩],rfl,λb hb => ?_⟩,⟨[],by simp⟩⟩,rfl,rfl,rfl⟩
 rw[ao]at hb;subst hb
 exact hm id (Yvi hk)
theorem Y1uf {z:Int}{id:YS_}{r:YR_}{m:YS}(hx:Ylg m.x) (hi:fmI m.Sb id) (hk:id.Ka=1) (hm:mkd z id) (hr:Ym8 r/\Ytj m.Sb r) (e:(yMc id r m).e=0) :
  Ylg (yMc id r m).m.x/\Up z m (yMc id r m).m/\(yMc id r m).m.Sb=m.Sb/\(yMc id r m).m.Va=m.Va:=by
 have g:=Y1tu ((Y1bl id r m).symm.trans e)
 have i:=Y1pr hi hk
 have g1:(m.Ma.length:Int)<200:=g.1
 have hl:((m.Ma++[r]).length:Int)=m.Ma.length+1:=by simp
 rw[Yxe e]
 have hb:Yoz ⟨id.Ta,id.Sa,4,(m.Ma.length:Int)⟩=true:=by
  simp only[Yoz,i.1,i.2.1,dl,ak]
  have:Y1lh 4=99999:=rfl
  omega
 have hv:=((Ymy m.x).1 hx).Va
 have h:=Y1if hx hb g.2.1 g.2.2 i.2.2 (v:=m.Va) (show m.Va<=m.Va/\m.Va<=99999 from ⟨aJ _,hv.2⟩) (M:=[r]) (λq hq=>by rw[List.mem_singleton.1 hq];exact hr) (by show ((m.Ma++[r]).length:Int)<=200;omega)
  (λe=>absurd (show (4:Int)=3 from e) dW) (λ_=>by show (m.Ma.length:Int)<((m.Ma++[r]).length:Int);omega)
 refine⟨h,⟨aJ _,aJ _,⟨[⟨id.Ta,id.Sa,4,(m.Ma.length:Int)⟩],rfl,λb hb => ?_⟩,⟨[r],rfl⟩⟩,rfl,rfl⟩
 rw[ao]at hb;subst hb
 exact hm id (Yvi hk)
theorem Y1tv {z:Int}:∀ (L:List YS_) (m:YS),Ylg m.x->(∀ x∈L,fmI m.Sb x/\x.Ka=1/\mkd z x)->(Ykj yVr L m).e=0 ->
  Ylg (Ykj yVr L m).m.x/\Up z m (Ykj yVr L m).m/\(Ykj yVr L m).m.Sb=m.Sb/\nwB m.Va (Ykj yVr L m).m.Va (Ykj yVr L m).v/\∀ G V,Cx G V m->Cx G (λn=>V n\/n∈(Ykj yVr L m).v) (Ykj yVr L m).m
 | [],m,hx,_,_=>⟨hx,Up.rfl' z m,rfl,Ysh _,λG V c=>⟨c.le,λb h1 h2 h3=>.inl (c.va b h1 h2 h3),c.ma⟩⟩
 | x :: r,m,hx,hL,e=>by
  rw[Ynt]at e|-
  by_cases c:(yVr x m).e=0
  ·rw[ae c]at e|-
   have hh:=hL x aj
   obtain⟨a1,a2,a3,a4,a5⟩:=Y1lk (z:=z) hx hh.1 hh.2.1 hh.2.2 c
   by_cases d:(Ykj yVr r (yVr x m).m).e=0
   ·rw[ae d]
    obtain⟨b1,b2,b3,b4,b5⟩:=Y1tv r (yVr x m).m a1 (λy hy=>by rw[a3];exact hL y (ai _ hy)) d
    have n1:nwB m.Va (yVr x m).m.Va [(yVr x m).v]:=⟨by simp,λn hn=>by rw[ao]at hn;omega,by rw[a5];simp only[bk];omega⟩
    refine⟨b1,a2.trans b2 (aJ _),b3.trans a3,Yrs n1 b4,λG V c => ?_⟩
    have c1:Cx G (λn=>V n\/n=(yVr x m).v) (yVr x m).m:=by
     rw[a4]
     have e0:=Yv8 ‹(yVr x m).e=0›
     refine c.bind hx (b:=⟨x.Ta,x.Sa,3,m.Va+1⟩) (M:=[]) a3 (by rw[e0]) (by rw[e0,bw]) (λn h=>.inl h) (λ_=>.inr rfl) (λe=>absurd (show (3:Int)=4 from e) dW)
    have c2:=b5 G _ c1
    refine⟨c2.le,λb h1 h2 h3 => ?_,c2.ma⟩
    rcases c2.va b h1 h2 h3 with (h|h)|h
    ·exact .inl h
    ·exact .inr (by rw[h];exact aj)
    ·exact .inr (ai _ h)
   ·rw[ab d]at e;exact absurd e d
  ·rw[ab c]at e;exact absurd e c
theorem Y1ub {P B:List YS_}{most:Int}{m:YS}(hx:Ylg m.x) (hP:∀ x∈P,fmI m.Sb x) (hB:∀ x∈B,fmI m.Sb x) (e:(yPr P most B m).e=0) :
  Ylg (yPr P most B m).m.x/\Up m.Sb m (yPr P most B m).m/\nwB m.Va (yPr P most B m).m.Va (yPr P most B m).v.1/\(yPr P most B m).v.1.length=P.length/\(∀ x∈(yPr P most B m).v.2,fmI (yPr P most B m).m.Sb x) /\
  ∀ G V,Cx G V m->(∀ x∈B,scN G x)->∃ G',Cx G' (λn=>V n\/n∈(yPr P most B m).v.1) (yPr P most B m).m/\∀ x∈(yPr P most B m).v.2,scN G' x:=by
 obtain⟨a1,a2,a3,a4,a5⟩:=Y173 e
 have f:=(Ymy m.x).1 hx
 have hn:=@Ypb m.Sb 1 f.Sb.1 a3
 have hk:=@Y15a m.Sb 1 f.Sb.1 dW a3
 have x1:Ylg (ySc 1 m).x:=Y167 hx (by show m.Sb<=nxS m.Sb 1/\nxS m.Sb 1<=99999;omega) f.Sc
 have s1:(ySc 1 m).Sb=nxt m.Sb 1:=hn.2.2.1
 have u1:Up m.Sb m (ySc 1 m):=⟨by rw[s1];omega,aJ _,⟨[],by simp,by simp⟩,⟨[],by simp⟩⟩
 have ids:∀ x∈yAd (nxt m.Sb 1) P,fmI (ySc 1 m).Sb x/\x.Ka=1/\mkd m.Sb x:=by
  intro x hx'
  obtain⟨y,hy,rfl⟩:=List.mem_map.1 hx'
  have k1:y.Ka=1:=by simp only[Yqn,am,ak]at a1;exact a1 y hy
  refine⟨by rw[s1];exact Yyg oW ⟨hn.1,hn.2.1⟩ (hP y hy),by rw[Yq4];exact k1,Y193 oW oW y⟩
 obtain⟨b1,b2,b3,b4,b5⟩:=Y1tv (z:=m.Sb) _ (ySc 1 m) x1 ids a4
 rw[a5]
 refine⟨b1,u1.trans b2 (aJ _),b4,?_,λx hx' => ?_,λG V c hG => ?_⟩
 ·show (Ykj yVr (yAd _ P) _).v.length=_
  rw[Yof _ _ a4];simp[yAd]
 ·obtain⟨y,hy,rfl⟩:=List.mem_map.1 hx'
  show fmI (Ykj yVr _ _).m.Sb _
  rw[b3,s1];exact Yyg oW ⟨hn.1,hn.2.1⟩ (hB y hy)
 ·refine⟨λj=>G j\/j=nxt m.Sb 1,b5 _ _ (c.more hx (N:=λj=>j=nxt m.Sb 1) (λj hj=>by rw[s1,hj];omega) (by rw[s1];omega) rfl rfl),λx hx' => ?_⟩
  obtain⟨y,hy,rfl⟩:=List.mem_map.1 hx'
  exact Y197 (hG y hy)
theorem Y1fl {B:List YB}{s:YS_}(h:Ym5 B s):Ym8 (Ylb s)/\∀ x,(x∈(Ylb s).La\/x∈(Ylb s).Pb\/x∈(Ylb s).Tb)->inD s x:=by
 simp only[Ym5,af,ak,am,Ypq]at h
 obtain⟨⟨⟨⟨⟨_,h2⟩,_⟩,_⟩,hc⟩,hr⟩:=h
 have cl:∀ i,i<2->∀ x∈Yo3 s i,inD s x:=by
  intro i hi x hx
  obtain⟨y,hy,rfl⟩:=List.mem_map.1 hx
  have hl:=(hc y hy).2
  exact .inr ⟨y,aH hy,Ykg oW⟩
 refine⟨hr,λx hx => ?_⟩
 rcases hx with hx|hx|hx
 ·exact .inr ⟨_,Ykg (show 1<s.Ia.length by omega),hx⟩
 ·exact cl 0 dW x hx
 ·exact cl 1 dW x hx
theorem Yvj {n:Int}{s x:YS_}(h:fmI n s) (hx:inD s x):fmI n x:=by
 rcases hx with hx|⟨y,hy,hx⟩
 ·exact Yma h hx
 ·exact Yma (Yma h hy) hx
theorem Y1hh {B:List YB}{s:YS_}{n:Int}(h:Ym5 B s) (hs:fmI n s):Ym8 (Ylb s)/\Ytj n (Ylb s):=by
 have i:=Y1fl h
 refine⟨i.1,?_⟩
 simp only[Y136,Ys7,af,am]
 exact⟨⟨λx hx=>(Yvj hs (i.2 x (.inl hx))).2,λx hx=>(Yvj hs (i.2 x (.inr (.inl hx)))).2⟩,λx hx=>(Yvj hs (i.2 x (.inr (.inr hx)))).2⟩
theorem Y1us {z n:Int}:∀ (L:List YS_) (m:YS),Ylg m.x->(∀ x∈L,fmI m.Sb (Ykw (Yl7 n) (x.Ia.g 0))/\(Ykw (Yl7 n) (x.Ia.g 0)).Ka=1/\mkd z (Ykw (Yl7 n) (x.Ia.g 0))/\Ym8 (Ylb (x.Ia.g 1))/\Ytj m.Sb (Ylb (x.Ia.g 1)))->(Ykj (yM1 n) L m).e=0 ->
  Ylg (Ykj (yM1 n) L m).m.x/\Up z m (Ykj (yM1 n) L m).m/\(Ykj (yM1 n) L m).m.Sb=m.Sb/\(Ykj (yM1 n) L m).m.Va=m.Va/\∀ G V,Cx G V m->(∀ x∈L,∀ t∈(Ylb (x.Ia.g 1)).Tb,scN G t)->Cx G V (Ykj (yM1 n) L m).m
 | [],m,hx,_,_=>⟨hx,Up.rfl' z m,rfl,rfl,λG V c _=>c⟩
 | x :: r,m,hx,hL,e=>by
  rw[Ynt]at e|-
  by_cases c:(yM1 n x m).e=0
  ·rw[ae c]at e|-
   have hh:=hL x aj
   obtain⟨a1,a2,a3,a4⟩:=Y1uf (z:=z) hx hh.1 hh.2.1 hh.2.2.1 hh.2.2.2 (show (yMc _ _ m).e=0 from c)
   have f1:Ylg (yM1 n x m).m.x:=a1
   have f3:(yM1 n x m).m.Sb=m.Sb:=a3
   by_cases d:(Ykj (yM1 n) r (yM1 n x m).m).e=0
   ·rw[ae d]
    obtain⟨b1,b2,b3,b4,b5⟩:=Y1us r (yM1 n x m).m f1 (λy hy=>by rw[f3];exact hL y (ai _ hy)) d
    refine⟨b1,a2.trans b2 (aJ _),b3.trans f3,b4.trans a4,λG V c hG=>b5 G V ?_ λy hy=>hG y (ai _ hy)⟩
    have e0:=Yxe (show (yMc _ _ m).e=0 from ‹(yM1 n x m).e=0›)
    refine c.bind hx (b:=⟨(Ykw (Yl7 n) (x.Ia.g 0)).Ta,(Ykw (Yl7 n) (x.Ia.g 0)).Sa,4,(m.Ma.length:Int)⟩) (M:=[Ylb (x.Ia.g 1)]) f3 (by show (yMc _ _ m).m.Ba=_;rw[e0]) (by show (yMc _ _ m).m.Ma=_;rw[e0]) (λ_ h=>h) (λe=>absurd (show (4:Int)=3 from e) dW) (λ_ => ?_)
    show ∀ t∈((yMc _ _ m).m.Ma.g _).Tb,_
    rw[e0]
    have:(m.Ma++[Ylb (x.Ia.g 1)]).g (m.Ma.length:Int).toNat=Ylb (x.Ia.g 1):=by simp[aq]
    rw[this]
    exact hG x aj
   ·rw[ab d]at e;exact absurd e d
  ·rw[ab c]at e;exact absurd e c
theorem Y1ts {s:YS_}{m:YS}(hx:Ylg m.x) (hs:fmI m.Sb s) (h:0<=hdM m.x s) (e:Ymv m.x (hdM m.x s) s=0) :
  Ylg (ySt (hdM m.x s) s m).m.x/\(∀ z,Up z m (ySt (hdM m.x s) s m).m)/\(ySt (hdM m.x s) s m).m.Va=m.Va/\fmI (ySt (hdM m.x s) s m).m.Sb (Yob m.x (hdM m.x s) s)/\(∀ z,z<=m.Sb->mkd z s->mkd z (Yob m.x (hdM m.x s) s)) /\
  ∀ G V,Cx G V m->scN G s->∃ G',Cx G' V (ySt (hdM m.x s) s m).m/\scN G' (Yob m.x (hdM m.x s) s)/\∀ j,G j->G' j:=by
 have f:=(Ymy m.x).1 hx
 have hM:=h
 unfold hdM at hM
 by_cases c:hdF m.x s/\(hdR m.x s).Ka=4
 rotate_left
 ·rw[ab c]at hM;omega
 have eM:hdM m.x s=(hdR m.x s).Na:=ae c
 have hb:=Y1j9 c.1
 have hn:=Yyi hx hb c.2
 have hn':hdM m.x s<(m.Ma.length:Int):=by rw[eM];exact hn.2
 have hr:=f.macs (ruS m.x (hdM m.x s)) (Ykg (show (hdM m.x s).toNat<m.Ma.length by omega))
 have hrt:∀ t∈(ruS m.x (hdM m.x s)).Tb,scN (λj=>j<=m.Sb) t:=by
  have h2:=hr.2
  simp only[Y136,Ys7,af,am]at h2
  intro t ht y hy j hj
  have:∀ (s:YS_),blw m.Sb s->scN (λj=>j<=m.Sb) s:=by
   refine YS_.ind λs ih hs y hy => ?_
   rw[Ysv,af,am]at hs
   rw[Yoc,aA,bm]at hy
   rcases hy with hy|⟨z,hz,hy⟩
   ·split at hy
    ·rw[List.mem_singleton.1 hy];simpa[scB] using hs.1
    ·cases hy
   ·exact ih z hz (hs.2 z hz) y hy
  exact this t (h2.2 t ht) y hy j hj
 obtain⟨⟨q1,q2,q3,q4,q5,q6⟩,q7⟩:=Y21r hx e hs hn' hr.1 hrt
 have e0:=Y1s9 e
 have h0:¬ m.Sc=0:=e0.1
 have es:(ySt (hdM m.x s) s m).m=⟨m.Ba,m.Ma,scI m.x,m.Va,m.Sc - 1,m.z⟩:=by
  have e1:nxR m.Sb 3<=99999:=e0.2
  show (⟨m.Ba,m.Ma,if m.Sc=0 then m.Sb else if nxR m.Sb 3<=99999 then nxS (scA m.x) 2 else m.Sb,m.Va,if m.Sc=0 then 0 else m.Sc - 1,m.z⟩:YS)=_
  rw[ab h0,ae e1,ab h0,q6]
 have sx:m.x.Sb=m.Sb:=rfl
 have st:=f.Sc
 have stx:m.x.Sc=m.Sc:=rfl
 rw[es]
 refine⟨Y167 hx (show m.Sb<=scI m.x/\scI m.x<=99999 from ⟨by omega,q3⟩) (show 0<=m.Sc - 1/\m.Sc - 1<=200 from ⟨by omega,by omega⟩),λz=>⟨by show m.Sb<=scI m.x;omega,aJ _,⟨[],by simp,by simp⟩,⟨[],by simp⟩⟩,rfl,Y1pi (Ytq f.Sb e) λy hy j hj => ?_,λz hz hm y hy => ?_,λG V cx hG => ?_⟩
 ·show j<=scI m.x
  rcases q7 y hy with ⟨t,ht,w,hw,hj2⟩|⟨w,hw,hj2⟩
  ·rcases(hj2 j).1 hj with a|a
   ·omega
   ·have:=hrt t ht w hw j a;simp only at this;omega
  ·rcases(hj2 j).1 hj with a|a
   ·omega
   ·have:=Y1ms hs w hw j a;simp only at this;omega
 ·rcases q7 y hy with ⟨t,ht,w,hw,hj2⟩|⟨w,hw,hj2⟩
  ·exact⟨scI m.x,(hj2 _).2 (.inl rfl),by omega,by omega⟩
  ·obtain⟨j,hj,h1,h2⟩:=hm w hw
   exact⟨j,(hj2 j).2 (.inr hj),h1,h2⟩
 ·have hid:hdS s/\rsC m.Ba (s.Ia.g 0).Ta (s.Ia.g 0).Sa=1:=by
   have:=c.1
   simp only[hdF,af,ak]at this;exact this
  have eR:hdR m.x s=rsB m.Ba (s.Ia.g 0).Ta (s.Ia.g 0).Sa:=ae hid.1
  have hc:=(Y164 hid.2).2.2
  rw[<- eR]at hc
  simp only[Yr5,Yog,af,ak,am]at hc
  have hh:=hid.1
  simp only[hdS,af,aM,ak,aP]at hh
  have h0m:s.Ia.g 0∈s.Ia:=Ykg oW
  have hsc:∀ j∈(hdR m.x s).Sa,G j:=λj hj=>hG _ (Y127 h0m _ (Yvi hh.2)) j (hc.2 j hj)
  have ht:=cx.ma _ hb hsc c.2
  refine⟨λj=>G j\/(j=scU m.x\/j=scI m.x),cx.more hx (N:=λj=>j=scU m.x\/j=scI m.x) (λj hj=>by show m.Sb<j/\j<=scI m.x;omega) (by show m.Sb<=scI m.x;omega) rfl rfl,λy hy j hj => ?_,λj a=>.inl a⟩
  rcases q7 y hy with ⟨t,htm,w,hw,hj2⟩|⟨w,hw,hj2⟩
  ·rcases(hj2 j).1 hj with a|a
   ·exact .inr (.inr a)
   ·refine .inl (ht t ?_ w hw j a)
    have:ruS m.x (hdM m.x s)=m.Ma.g (hdR m.x s).Na.toNat:=by rw[eM];rfl
    rw[this]at htm;exact htm
  ·rcases(hj2 j).1 hj with a|a
   ·exact .inr (.inl a)
   ·exact .inl (hG w hw j a)
def fmP (n:Int) (p:YP):Prop:=(p.p->(∀ x∈p.P,fmI n x)/\∀ x∈p.B,fmI n x)/\(p.p=false->fmI n p.s)
def scQ (G:Int->Prop) (p:YP):Prop:=(p.p->(∀ x∈p.P,scN G x)/\∀ x∈p.B,scN G x)/\(p.p=false->scN G p.s)
theorem Y1ed {n n':Int}(h:n<=n') {p:YP}(hp:fmP n p):fmP n' p:=⟨λe=>⟨λx hx=>Y11j h ((hp.1 e).1 x hx),λx hx=>Y11j h ((hp.1 e).2 x hx)⟩,λe=>Y11j h (hp.2 e)⟩
theorem Y1xl {G G':Int->Prop}(h:∀ j,G j->G' j) {p:YP}(hp:scQ G p):scQ G' p:=⟨λe=>⟨λx hx=>Yvm h ((hp.1 e).1 x hx),λx hx=>Yvm h ((hp.1 e).2 x hx)⟩,λe=>Yvm h (hp.2 e)⟩
theorem Y16b {P:Prop}(h:false):P:=absurd h dW
theorem Y1u5 {P:Prop}(h:true=false):P:=absurd h dW
theorem Y238 {z:Int}{s:YS_}{m:YS}(hx:Ylg m.x) (hs:fmI m.Sb s) (hm:mkd z s) (e:(yDf s m).e=0) :
  Ylg (yDf s m).m.x/\Up z m (yDf s m).m/\(yDf s m).m.Sb=m.Sb/\(yDf s m).m.Va=m.Va+1/\(yDf s m).v.d/\(yDf s m).v.n=m.Va+1/\fmP m.Sb (yDf s m).v /\
  ∀ G V,Cx G V m->scN G s->Cx G (λn=>V n\/n=m.Va+1) (yDf s m).m/\scQ G (yDf s m).v:=by
 have hl:=Ysm hs.1
 have bindC:∀ {id:YS_},Ylg m.x->(yVr id m).e=0->∀ G V,Cx G V m->Cx G (λn=>V n\/n=m.Va+1) (yVr id m).m:=λhx c G V cx=>by
  rw[Yv8 c]
  exact cx.bind hx (M:=[]) rfl rfl (bw _).symm (λ_ a=>.inl a) (λ_=>.inr rfl) (λe=>absurd (show (3:Int)=4 from e) dW)
 have kstr:∀ {x:YS_},x.Ka=1->(Ykw Ylm x).Ka=1:=λh=>by rw[Yq4];exact h
 unfold yDf at e|-
 by_cases c0:(s.Ia.length:Int)<3
 ·rw[ae c0]at e;cases e
 rw[ab c0]at e|-
 have m1:s.Ia.g 1∈s.Ia:=Ykg oW
 have m2:s.Ia.g 2∈s.Ia:=Ykg oW
 by_cases c1:(s.Ia.g 1).Ka=1/\(s.Ia.length:Int)=3
 ·rw[ae c1]at e|-
  have a:=Y1lk (z:=z) hx (Y18o (Yma hs m1)) (kstr c1.1) (Y18i (Yw8 hm m1)) e
  exact⟨a.1,a.2.1,a.2.2.1,a.2.2.2.2,rfl,a.2.2.2.1,⟨λh=>Y16b h,λ_=>Yma hs m2⟩,λG V cx hG=>⟨bindC hx e G V cx,⟨λh=>Y16b h,λ_=>Ymu hG m2⟩⟩⟩
 rw[ab c1]at e|-
 by_cases c2:(s.Ia.g 1).Ka=0/\¬ (s.Ia.g 1).Ia.length=0/\Yqn (s.Ia.g 1).Ia
 ·rw[ae c2]at e|-
  have m0:(s.Ia.g 1).Ia.g 0∈(s.Ia.g 1).Ia:=Ykg (by have:=c2.2.1;omega)
  have k0:((s.Ia.g 1).Ia.g 0).Ka=1:=by
   have:=c2.2.2
   simp only[Yqn,am,ak]at this;exact this _ m0
  have a:=Y1lk (z:=z) hx (Y18o (Yma (Yma hs m1) m0)) (kstr k0) (Y18i (Yw8 (Yw8 hm m1) m0)) e
  exact⟨a.1,a.2.1,a.2.2.1,a.2.2.2.2,rfl,a.2.2.2.1,⟨λ_=>⟨λx hx=>Yma (Yma hs m1) (aH hx),λx hx=>Yma hs (aH hx)⟩,λh=>Y1u5 h⟩,
   λG V cx hG=>⟨bindC hx e G V cx,⟨λ_=>⟨λx hx=>Ymu (Ymu hG m1) (aH hx),λx hx=>Ymu hG (aH hx)⟩,λh=>Y1u5 h⟩⟩⟩
 ·rw[ab c2]at e;cases e
theorem Y23g {z:Int}{s:YS_}{m:YS}(hx:Ylg m.x) (hs:fmI m.Sb s) (hm:mkd z s) (e:(ySy s m).e=0) :
  Ylg (ySy s m).m.x/\Up z m (ySy s m).m/\(ySy s m).m.Sb=m.Sb/\(ySy s m).m.Va=m.Va/\∀ G V,Cx G V m->scN G s->Cx G V (ySy s m).m:=by
 unfold ySy at e|-
 split at e
 rotate_left
 ·cases e
 rename_i c
 rw[ae c]
 have m1:s.Ia.g 1∈s.Ia:=Ykg oW
 have m2:s.Ia.g 2∈s.Ia:=Ykg oW
 have k1:(Ykw Ylm (s.Ia.g 1)).Ka=1:=by rw[Yq4];exact c.2.1
 have a:=Y1uf (z:=z) hx (Y18o (Yma hs m1)) k1 (Y18i (Yw8 hm m1)) (Y1hh c.2.2 (Yma hs m2)) e
 refine⟨a.1,a.2.1,a.2.2.1,a.2.2.2,λG V cx hG => ?_⟩
 rw[Yxe e]
 refine cx.bind hx (M:=[Ylb (s.Ia.g 2)]) rfl rfl rfl (λ_ h=>h) (λe=>absurd (show (4:Int)=3 from e) dW) (λ_ => ?_)
 have:(m.Ma++[Ylb (s.Ia.g 2)]).g (m.Ma.length:Int).toNat=Ylb (s.Ia.g 2):=by simp[aq]
 show ∀ t∈((m.Ma++[Ylb (s.Ia.g 2)]).g (m.Ma.length:Int).toNat).Tb,scN G t
 rw[this]
 intro t ht
 exact Y19a (Ymu hG m2) ((Y1fl c.2.2).2 t (.inr (.inr ht)))
theorem Y1ja (A B:List YP):yDv (A++B)=yDv A++yDv B:=by simp[yDv]
theorem Y137 {z:Int}:∀ (n:Nat) (q:List YS_) (o:List YP) (m:YS),Ylg m.x->z<=m.Sb->(∀ x∈q,fmI m.Sb x/\mkd z x)->(∀ p∈o,fmP m.Sb p)->(yLk n q o m).e=0 ->
  Ylg (yLk n q o m).m.x/\Up z m (yLk n q o m).m/\(∀ p∈(yLk n q o m).v,fmP (yLk n q o m).m.Sb p)/\∃ D,yDv (yLk n q o m).v=yDv o++D/\nwB m.Va (yLk n q o m).m.Va D /\
  ∀ G V,Cx G V m->(∀ x∈q,scN G x)->(∀ p∈o,scQ G p/\(p.d->V p.n))->∃ G' V',Cx G' V' (yLk n q o m).m/\(∀ p∈(yLk n q o m).v,scQ G' p/\(p.d->V' p.n))/\∀ i,V' i->V i\/i∈D
 | n,[],o,m,hx,hz,_,ho,_=>by
  have e:yLk n [] o m=⟨o,0,m⟩:=by cases n<;>rfl
  rw[e]
  exact⟨hx,Up.rfl' z m,ho,[],by simp,Ysh _,λG V cx _ hp=>⟨G,V,cx,hp,λi h=>.inl h⟩⟩
 | 0,_ :: _,_,_,_,_,_,_,e=>by cases e
 | n+1,s :: q,o,m,hx,hz,hq,ho,e=>by
  have hs:=hq s aj
  have hr:∀ x∈q,fmI m.Sb x/\mkd z x:=λx hx=>hq x (ai _ hx)
  simp only[yLk]at e|-
  by_cases z3:3000<m.z+1
  ·rw[ae z3]at e;cases e
  rw[ab z3]at e|-
  have u0:Up z m (yCn m):=⟨aJ _,aJ _,⟨[],by simp,by simp⟩,⟨[],by simp⟩⟩
  have cx0:∀ {G V},Cx G V m->Cx G V (yCn m):=λc=>⟨c.le,c.va,c.ma⟩
  by_cases c1:0<=hdM m.x s
  ·rw[ae c1]at e|-
   by_cases d:(ySt (hdM m.x s) s (yCn m)).e=0
   ·rw[ae d]at e|-
    obtain⟨a1,a2,a3,a4,a5,a6⟩:=Y1ts (m:=yCn m) hx hs.1 c1 d
    have hsc:=(a2 z).sc
    obtain⟨b1,b2,b3,D,b4,b5,b6⟩:=Y137 n ((ySt (hdM m.x s) s (yCn m)).v :: q) o (ySt (hdM m.x s) s (yCn m)).m a1 (cd hz hsc)
     (λx hx=>(List.mem_cons.1 hx).elim (λe=>e ▸ ⟨a4,a5 z hz hs.2⟩) (λh=>⟨Y11j hsc (hr x h).1,(hr x h).2⟩)) (λp hp=>Y1ed hsc (ho p hp)) e
    refine⟨b1,(u0.trans (a2 z) (aJ _)).trans b2 (aJ _),b3,D,b4,by rw[a3]at b5;exact b5,λG V cx hG hp => ?_⟩
    obtain⟨G1,g1,g2,g3⟩:=a6 G V (cx0 cx) (hG s aj)
    exact b6 G1 V g1 (λx hx=>(List.mem_cons.1 hx).elim (λe=>e ▸ g2) (λh=>Yvm g3 (hG x (ai _ h)))) (λp h=>⟨Y1xl g3 (hp p h).1,(hp p h).2⟩)
   ·rw[ab d]at e;exact absurd e d
  rw[ab c1]at e|-
  by_cases c4:hdN m.x s=4
  ·rw[ae c4]at e|-
   obtain⟨b1,b2,b3,D,b4,b5,b6⟩:=Y137 n (s.Ia.drop 1++q) o (yCn m) hx hz
    (λx hx=>(List.mem_append.1 hx).elim (λh=>⟨Yma hs.1 (aH h),Yw8 hs.2 (aH h)⟩) (hr x)) ho e
   exact⟨b1,u0.trans b2 (aJ _),b3,D,b4,b5,λG V cx hG hp=>b6 G V (cx0 cx) (λx hx=>(List.mem_append.1 hx).elim (λh=>Ymu (hG s aj) (aH h)) (λh=>hG x (ai _ h))) hp⟩
  rw[ab c4]at e|-
  by_cases c7:hdN m.x s=7
  ·rw[ae c7]at e|-
   by_cases d:(yDf s (yCn m)).e=0
   ·rw[ae d]at e|-
    obtain⟨a1,a2,a3,a4,a5,a6,a7,a8⟩:=Y238 (m:=yCn m) (z:=z) hx hs.1 hs.2 d
    have a3':(yDf s (yCn m)).m.Sb=m.Sb:=a3
    obtain⟨b1,b2,b3,D,b4,b5,b6⟩:=Y137 n q (o++[(yDf s (yCn m)).v]) (yDf s (yCn m)).m a1 (by rw[a3'];exact hz) (by rw[a3'];exact hr)
     (λp hp=>by rw[a3'];exact(List.mem_append.1 hp).elim (ho p) (λh=>List.mem_singleton.1 h ▸ a7)) e
    have eD:yDv (o++[(yDf s (yCn m)).v])=yDv o++[m.Va+1]:=by rw[Y1ja];simp[yDv,a5,a6]
    have n1:nwB m.Va (yDf s (yCn m)).m.Va [m.Va+1]:=by
     have a4':(yDf s (yCn m)).m.Va=m.Va+1:=a4
     exact⟨by simp,λi hi=>by rw[ao]at hi;omega,by rw[a4'];simp only[bk];omega⟩
    refine⟨b1,(u0.trans a2 (aJ _)).trans b2 (aJ _),b3,[m.Va+1]++D,by rw[b4,eD,aI],Yrs n1 b5,λG V cx hG hp => ?_⟩
    obtain⟨g1,g2⟩:=a8 G V (cx0 cx) (hG s aj)
    obtain⟨G',V',h1,h2,h3⟩:=b6 G _ g1 (λx hx=>hG x (ai _ hx)) (λp h=>(List.mem_append.1 h).elim (λh=>⟨(hp p h).1,λe=>.inl ((hp p h).2 e)⟩) (λh=>List.mem_singleton.1 h ▸ ⟨g2,λ_=>.inr a6⟩))
    refine⟨G',V',h1,h2,λi hi => ?_⟩
    rcases h3 i hi with (h|h)|h
    ·exact .inl h
    ·exact .inr (by rw[show i=m.Va+1 from h];exact aj)
    ·exact .inr (ai _ h)
   ·rw[ab d]at e;exact absurd e d
  rw[ab c7]at e|-
  by_cases c8:hdN m.x s=8
  ·rw[ae c8]at e|-
   by_cases d:(ySy s (yCn m)).e=0
   ·rw[ae d]at e|-
    obtain⟨a1,a2,a3,a4,a5⟩:=Y23g (m:=yCn m) (z:=z) hx hs.1 hs.2 d
    have a3':(ySy s (yCn m)).m.Sb=m.Sb:=a3
    have a4':(ySy s (yCn m)).m.Va=m.Va:=a4
    obtain⟨b1,b2,b3,D,b4,b5,b6⟩:=Y137 n q o (ySy s (yCn m)).m a1 (by rw[a3'];exact hz) (by rw[a3'];exact hr) (by rw[a3'];exact ho) e
    exact⟨b1,(u0.trans a2 (aJ _)).trans b2 (aJ _),b3,D,b4,by rw[a4']at b5;exact b5,λG V cx hG hp=>b6 G V (a5 G V (cx0 cx) (hG s aj)) (λx hx=>hG x (ai _ hx)) hp⟩
   ·rw[ab d]at e;exact absurd e d
  rw[ab c8]at e|-
  obtain⟨b1,b2,b3,D,b4,b5,b6⟩:=Y137 n q (o++[⟨false,0,s,false,[],[]⟩]) (yCn m) hx hz hr (λp hp=>(List.mem_append.1 hp).elim (ho p) (λh=>List.mem_singleton.1 h ▸ ⟨λh=>Y16b h,λ_=>hs.1⟩)) e
  have eD:yDv (o++[⟨false,0,s,false,[],[]⟩])=yDv o:=by rw[Y1ja];simp[yDv]
  exact⟨b1,u0.trans b2 (aJ _),b3,D,by rw[b4,eD],b5,λG V cx hG hp=>b6 G V (cx0 cx) (λx hx=>hG x (ai _ hx)) (λp h=>(List.mem_append.1 h).elim (hp p) (λh=>List.mem_singleton.1 h ▸ ⟨⟨λh=>Y16b h,λ_=>hG s aj⟩,λh=>Y16b h⟩))⟩
def fv (c:Yc) (n:Int):Prop:=n∈fre c [] []
structure Hy (m:YS) (I:(Int->Prop)->(Int->Prop)->Prop) (bs:List Int) (F:Int->Prop) (q:YS):Prop where
 ex:Ylg q.x
 up:Up m.Sb m q
 num:nwB m.Va q.Va bs
 fr:∀ G V,Cx G V m->I G V->∀ n,F n->V n
theorem Yyu {k n:Int}{P:List Int}{K:List Yc}{i:Int}:fv (yK k n P K) i ↔ ((k=2\/k=4)/\i=n)\/∃ x∈K,i∉P/\fv x i:=Yt4 _ i
theorem Yvc (k n:Int) (P:List Int) (K:List Yc):bnd (yK k n P K)=P++K.flatMap bnd:=Ywb _
theorem Y22c (k n:Int) (P:List Int) (K:List Yc):okC (yK k n P K)=(K.all okC&&(shC (yK k n P K)&&K.all (sqC (yK k n P K)))):=Yyr _
theorem Y1yb {c x:Yc}(h:¬ c.Ka=8):sqC c x:=by simp[sqC,h]
theorem Ytc {k n:Int}{P:List Int}{K:List Yc}(h8:¬ k=8) (hK:∀ x∈K,okC x) (hs:shC (yK k n P K)):okC (yK k n P K):=by
 rw[Y22c,hs,dl,af,am,am]
 exact⟨hK,λx _=>Y1yb (c:=yK k n P K) h8⟩
theorem Y1oj {K:List Yc}(hK:∀ x∈K,okC x) (h1:1<=K.length) (e:sqE K=0):okC (sqV K)/\bnd (sqV K)=K.flatMap bnd/\∀ n,fv (sqV K) n->∃ x∈K,fv x n:=by
 have eV:sqV K=Yxg K:=ae e
 obtain⟨a1,a2,a3,a4⟩:=Y1im K hK
 have h60:¬ 60<((Yls K).length:Int):=λh=>by unfold sqE at e;rw[ae h]at e;cases e
 rw[eV]
 unfold Yxg
 by_cases c:(Yls K).length=1
 ·rw[ae c]
  have hm:(Yls K).g 0∈Yls K:=Ykg oW
  obtain⟨b1,b2,x,hx,_,b3⟩:=a2 _ hm
  have e1:Yls K=[(Yls K).g 0]:=by
   match h:Yls K,c with
   | [y],_=>rfl
  refine⟨b1,?_,λn hn=>⟨x,hx,b3 n hn⟩⟩
  rw[<- a4];conv=>rhs;rw[e1]
  simp
 ·rw[ab c]
  refine⟨?_,by rw[Ywb];simpa using a4,λn hn => ?_⟩
  ·rw[Yyr,af,am]
   refine⟨λy hy=>(a2 y hy).1,?_⟩
   simp only[shI,shC,af,am,sqC]
   refine⟨?_,λy hy=>by simp[(a2 y hy).2.1]⟩
   simp[d0]
   omega
  ·have hn':=(Yt4 ⟨8,0,[],d0,Yls K⟩ n).1 hn
   rcases hn' with h|⟨y,hy,_,h⟩
   ·rcases h.1 with h|h<;>exact absurd (show (8:Int)=_ from h) dW
   ·obtain⟨_,_,x,hx,_,b3⟩:=a2 y hy
    exact⟨x,hx,b3 n h⟩
theorem Y1ks {s:YS_}(h:Ykk s) (k:s.Ka=2\/s.Ka=3\/s.Ka=4):Yn6 (yDt s):=by
 have h3:=(Ymh h).2.2
 rw[Yow,af]at h3
 have h4:=h3.2
 simp only[Ypd,af]at h4
 have h5:=h4.1.1
 have hi:s.Ia=[]:=by
  simp only[Yp4,aG,ak]at h5
  refine List.length_eq_zero_iff.1 ?_
  omega
 rw[Y1m8,hi]
 rw[hi]at h5
 have e1:=Yos ⟨s.Ka,s.Na,s.Ta,[]⟩
 have e2:=Y132 ⟨s.Ka,s.Na,s.Ta,[]⟩
 simp only[Yn6,af,ak,List.map_nil]
 refine⟨⟨by rw[e1];simp[sumBy],by rw[e2];simp[Yll]⟩,?_⟩
 rw[Y17d];simpa using h5
theorem Y1ns {d:Yd}(h:Yn6 d):okC ⟨1,0,[],d,[]⟩=true/\bnd ⟨1,0,[],d,[]⟩=[]/\∀ n,¬ fv ⟨1,0,[],d,[]⟩ n:=by
 refine⟨by rw[Yyr];simp[shI,shC,h],by rw[Ywb];simp,λn hn => ?_⟩
 rcases(Yt4 ⟨1,0,[],d,[]⟩ n).1 hn with a|⟨x,hx,_⟩
 ·rcases a.1 with b|b<;>exact absurd (show (1:Int)=_ from b) dW
 ·cases hx
theorem Y1nw {L:List YB}{s:YS_}{G:Int->Prop}(hk:s.Ka=1) (h:rsC L s.Ta s.Sa=1) (hG:scN G s):rsB L s.Ta s.Sa∈L/\∀ j∈(rsB L s.Ta s.Sa).Sa,G j:=by
 have r:=Y164 h
 have hc:=r.2.2
 simp only[Yr5,Yog,af,ak,am]at hc
 exact⟨r.2.1,λj hj=>hG s (Yvi hk) j (hc.2 j hj)⟩
theorem Y1u9 {n:Nat}{L:List YS_}{m:YS}(hx:Ylg m.x) (hL:∀ x∈L,fmI m.Sb x) (h:cdN m.Sb 1=0) (l:(yLk n (yAd (nxt m.Sb 1) L) [] (ySc 1 m)).e=0) :
  Ylg (yLk n (yAd (nxt m.Sb 1) L) [] (ySc 1 m)).m.x/\Up m.Sb m (yLk n (yAd (nxt m.Sb 1) L) [] (ySc 1 m)).m/\(∀ p∈(yLk n (yAd (nxt m.Sb 1) L) [] (ySc 1 m)).v,fmP (yLk n (yAd (nxt m.Sb 1) L) [] (ySc 1 m)).m.Sb p) /\
  ∃ D,yDv (yLk n (yAd (nxt m.Sb 1) L) [] (ySc 1 m)).v=D/\nwB m.Va (yLk n (yAd (nxt m.Sb 1) L) [] (ySc 1 m)).m.Va D /\
  ∀ G V,Cx G V m->(∀ x∈L,scN G x)->∃ G' V',Cx G' V' (yLk n (yAd (nxt m.Sb 1) L) [] (ySc 1 m)).m/\(∀ p∈(yLk n (yAd (nxt m.Sb 1) L) [] (ySc 1 m)).v,scQ G' p/\(p.d->V' p.n))/\∀ i,V' i->V i\/i∈D:=by
 have f:=(Ymy m.x).1 hx
 have hn:=@Ypb m.Sb 1 f.Sb.1 h
 have hk:=@Y15a m.Sb 1 f.Sb.1 dW h
 have s1:(ySc 1 m).Sb=nxt m.Sb 1:=hn.2.2.1
 have x1:Ylg (ySc 1 m).x:=Y167 hx (by show m.Sb<=nxS m.Sb 1/\nxS m.Sb 1<=99999;omega) f.Sc
 have u1:Up m.Sb m (ySc 1 m):=⟨by rw[s1];omega,aJ _,⟨[],by simp,by simp⟩,⟨[],by simp⟩⟩
 obtain⟨b1,b2,b3,D,b4,b5,b6⟩:=Y137 (z:=m.Sb) n _ [] (ySc 1 m) x1 (by rw[s1];omega) (λx hx'=>by
  obtain⟨y,hy,rfl⟩:=List.mem_map.1 hx'
  exact⟨by rw[s1];exact Yyg oW ⟨hn.1,hn.2.1⟩ (hL y hy),Y193 oW oW y⟩) sW l
 refine⟨b1,u1.trans b2 (aJ _),b3,D,by simpa[yDv] using b4,b5,λG V cx hG => ?_⟩
 exact b6 _ V (cx.more hx (N:=λj=>j=nxt m.Sb 1) (λj hj=>by rw[s1,hj];omega) (by rw[s1];omega) rfl rfl) (λx hx'=>by
  obtain⟨y,hy,rfl⟩:=List.mem_map.1 hx'
  exact Y197 (hG y hy)) sW
mutual
theorem Y16u:∀ {s:YS_}{m q:YS}{c:Yc},EvY s m c q->(Ylg m.x)->(fmI m.Sb s)->Hy m (λG _=>scN G s) (bnd c) (fv c) q/\okC c
 | s,m,_,_,.mk z r,hx,hs=>by
  have g:=Y220 r (m:=yCn m) hx hs
  have u0:Up m.Sb m (yCn m):=⟨aJ _,aJ _,⟨[],by simp,by simp⟩,⟨[],by simp⟩⟩
  exact⟨⟨g.1.ex,u0.trans g.1.up (aJ _),g.1.num,λG V cx=>g.1.fr G V ⟨cx.le,cx.va,cx.ma⟩⟩,g.2⟩
theorem Y220:∀ {s:YS_}{m q:YS}{c:Yc},EfY s m c q->(Ylg m.x)->(fmI m.Sb s)->Hy m (λG _=>scN G s) (bnd c) (fv c) q/\okC c
 | s,m,_,_,.va k r b,hx,hs=>by
  refine⟨⟨hx,Up.rfl' _ _,by rw[Yvc];exact Ysh _,λG V cx hG n hn => ?_⟩,Ytc dW sW (by simp[shC,yK])⟩
  have v:=Y1nw k r hG
  rcases Yyu.1 hn with a|⟨x,hx,_⟩
  ·rw[a.2];exact cx.va _ v.1 v.2 b
  ·cases hx
 | s,m,_,_,.pm k r b,hx,hs=>by
  have hb:=Y12w ((Ymy m.x).1 hx).areb (Y164 r).2.1
  simp only[Yoz,af,ak]at hb
  have hn:=hb.2
  rw[b]at hn
  have hn2:(rsB m.Ba s.Ta s.Sa).Na<=13:=hn.2
  refine⟨⟨hx,Up.rfl' _ _,by rw[Yvc];exact Ysh _,λG V cx hG n hn => ?_⟩,Ytc dW sW (by simp[shC,yK];(try simp only[af,ak]);omega)⟩
  rcases Yyu.1 hn with a|⟨x,hx,_⟩
  ·rcases a.1 with a|a<;>exact absurd a dW
  ·cases hx
 | s,m,_,_,.qa k,hx,hs=>by
  have d:=Y1ns (Y1ks hs.1 k)
  exact⟨⟨hx,Up.rfl' _ _,by rw[d.2.1];exact Ysh _,λG V cx hG n hn=>absurd hn (d.2.2 n)⟩,d.1⟩
 | s,m,_,_,.qu h,hx,hs=>by
  have d:=Y1ns h
  exact⟨⟨hx,Up.rfl' _ _,by rw[d.2.1];exact Ysh _,λG V cx hG n hn=>absurd hn (d.2.2 n)⟩,d.1⟩
 | s,m,_,_,.st h e r,hx,hs=>by
  obtain⟨a1,a2,a3,a4,a5,a6⟩:=Y1ts hx hs h e
  have g:=Y16u r a1 a4
  refine⟨⟨g.1.ex,(a2 m.Sb).trans g.1.up (a2 0).sc,by have:=g.1.num;rw[a3]at this;exact this,λG V cx hG n hn => ?_⟩,g.2⟩
  obtain⟨G',g1,g2,_⟩:=a6 G V cx hG
  exact g.1.fr G' V g1 g2 n hn
 | s,m,_,_,.ls hL r g,hx,hs=>by
  have i:=Y1b3 r hx (λx hx'=>Yma hs (hL x hx'))
  refine⟨⟨i.1.ex,i.1.up,by rw[Yvc];exact i.1.num,λG V cx hG n hn => ?_⟩,Ytc oW i.2 ?_⟩
  ·rcases Yyu.1 hn with a|⟨x,hx',_,a⟩
   ·have:=a.1;omega
   ·exact i.1.fr G V cx (λx hx'=>Ymu hG (hL x hx')) n ⟨x,hx',a⟩
  ·rcases g with ⟨g1,g2,g3⟩|⟨g1,g2⟩<;>subst g1<;>simp[shC,yK]<;>(try simp only[af,ak])<;>omega
 | s,m,_,_,.sq hL r e n,hx,hs=>by
  have i:=Y1b3 r hx (λx hx'=>Yma hs (hL x hx'))
  have v:=Y1oj i.2 n e
  exact⟨⟨i.1.ex,i.1.up,by rw[v.2.1];exact i.1.num,λG V cx hG n hn=>i.1.fr G V cx (λx hx'=>Ymu hG (hL x hx')) n (v.2.2 n hn)⟩,v.1⟩
 | s,m,_,_,.pc hP hB g r,hx,hs=>by
  have i:=Y1tw r g hx (λx hx'=>Yvj hs (hP x hx')) (λx hx'=>Yma hs (hB x hx'))
  exact⟨⟨i.1.ex,i.1.up,i.1.num,λG V cx hG=>i.1.fr G V cx (λx hx'=>Ymu hG (hB x hx'))⟩,i.2⟩
 | s,m,_,_,.lo (P:=P) (B:=B) (K:=K) hP hB n e r g,hx,hs=>by
  obtain⟨a1,a2,a3,a4,a5,a6⟩:=Y1ub hx (λx hx'=>Yvj hs (hP x hx')) (λx hx'=>Yma hs (hB x hx')) e
  have i:=Y1b3 r a1 a5
  have hm:=(Y173 e).2.1
  refine⟨⟨i.1.ex,a2.trans i.1.up a2.sc,by rw[Yvc];exact Yrs a3 i.1.num,λG V cx hG j hj => ?_⟩,Ytc dW i.2 (by simp[shC,yK];(try simp only[af,ak]);omega)⟩
  rcases Yyu.1 hj with a|⟨x,hx',np,a⟩
  ·rcases a.1 with a|a<;>exact absurd a dW
  ·obtain⟨G',g1,g2⟩:=a6 G V cx (λx hx'=>Ymu hG (hB x hx'))
   exact(i.1.fr G' _ g1 g2 j ⟨x,hx',a⟩).resolve_right np
 | s,m,_,_,.sg ht k r b hx' v,hx,hs=>by
  have i:=Y16u v hx (Yma hs hx')
  refine⟨⟨i.1.ex,i.1.up,by rw[Yvc];simpa using i.1.num,λG V cx hG j hj => ?_⟩,Ytc dW (by simpa using i.2) (by simp[shC,yK])⟩
  have w:=Y1nw k r (Ymu hG ht)
  rcases Yyu.1 hj with a|⟨x,hx2,_,a⟩
  ·rw[a.2];exact cx.va _ w.1 w.2 b
  ·rw[ao]at hx2;subst hx2
   exact i.1.fr G V cx (Ymu hG hx') j a
 | s,m,_,_,.re hL r,hx,hs=>by
  have i:=Y1kk r hx (λx hx'=>Yma hs (hL x hx'))
  refine⟨⟨i.1.ex,i.1.up,by rw[Yvc];simpa using i.1.num,λG V cx hG j hj => ?_⟩,Ytc dW (by simpa using i.2) (by simp[shC,yK])⟩
  rcases Yyu.1 hj with a|⟨x,hx2,_,a⟩
  ·rcases a.1 with a|a<;>exact absurd a dW
  ·rw[ao]at hx2;subst hx2
   exact i.1.fr G V cx (λx hx'=>Ymu hG (hL x hx')) j a
 | s,m,_,_,.lx (L:=L) (B:=B) hL hB n a e r,hx,hs=>by
  have f:=(Ymy m.x).1 hx
  have hn:=@Ypb m.Sb 1 f.Sb.1 n
  have hk:=@Y15a m.Sb 1 f.Sb.1 dW n
  have s1:(ySc 1 m).Sb=nxt m.Sb 1:=hn.2.2.1
  have x1:Ylg (ySc 1 m).x:=Y167 hx (by show m.Sb<=nxS m.Sb 1/\nxS m.Sb 1<=99999;omega) f.Sc
  have u1:Up m.Sb m (ySc 1 m):=⟨by rw[s1];omega,aJ _,⟨[],by simp,by simp⟩,⟨[],by simp⟩⟩
  have lo:∀ x∈L,x.Ia.length=2/\(x.Ia.g 0).Ka=1/\Ym5 m.Ba (x.Ia.g 1):=by
   intro x hx'
   have:=List.all_eq_true.1 a x hx'
   simp only[yLo,af,ak]at this
   exact⟨by omega,this.1.2,this.2⟩
  obtain⟨b1,b2,b3,b4,b5⟩:=Y1us (z:=m.Sb) L (ySc 1 m) x1 (λx hx'=>by
   obtain⟨l1,l2,l3⟩:=lo x hx'
   have fx:=Yvj hs (hL x hx')
   have i0:x.Ia.g 0∈x.Ia:=Ykg oW
   have i1:x.Ia.g 1∈x.Ia:=Ykg oW
   have pr:=Y1hh l3 (Yma fx i1)
   exact⟨by rw[s1];exact Yyg oW ⟨hn.1,hn.2.1⟩ (Yma fx i0),by rw[Yq4];exact l2,Y193 oW oW _,pr.1,by rw[s1];exact Y1hy oW pr.2⟩) e
  have i:=Y1kk r b1 (λx hx'=>by
   obtain⟨y,hy,rfl⟩:=List.mem_map.1 hx'
   rw[b3,s1];exact Yyg oW ⟨hn.1,hn.2.1⟩ (Yma hs (hB y hy)))
  refine⟨⟨i.1.ex,(u1.trans b2 (aJ _)).trans i.1.up (by rw[b3,s1];omega),by have:=i.1.num;rw[b4]at this;exact this,λG V cx hG => ?_⟩,i.2⟩
  refine i.1.fr (λj=>G j\/j=nxt m.Sb 1) V (b5 _ V (cx.more hx (N:=λj=>j=nxt m.Sb 1) (λj hj=>by rw[s1,hj];omega) (by rw[s1];omega) rfl rfl) λx hx' t ht => ?_) λx hx' => ?_
  ·obtain⟨l1,l2,l3⟩:=lo x hx'
   have i1:x.Ia.g 1∈x.Ia:=Ykg oW
   exact Yvm (λ_ h=>.inl h) (Y19a (Ymu (Y19a hG (hL x hx')) i1) ((Y1fl l3).2 t (.inr (.inr ht))))
  ·obtain⟨y,hy,rfl⟩:=List.mem_map.1 hx'
   exact Y197 (Ymu hG (hB y hy))
theorem Y1b3:∀ {L:List YS_}{m q:YS}{K:List Yc},KdY L m K q->(Ylg m.x)->(∀ x∈L,fmI m.Sb x)->Hy m (λG _=>∀ x∈L,scN G x) (K.flatMap bnd) (λn=>∃ x∈K,fv x n) q/\∀ x∈K,okC x
 | _,m,_,_,.nil,hx,hL=>⟨⟨hx,Up.rfl' _ _,Ysh _,λG V cx _ n hn=>by obtain⟨x,h,_⟩:=hn;cases h⟩,by simp⟩
 | _,m,_,_,.cons h t,hx,hL=>by
  have a:=Y16u h hx (hL _ aj)
  have b:=Y1b3 t a.1.ex (λx hx'=>Y11j a.1.up.sc (hL x (ai _ hx')))
  refine⟨⟨b.1.ex,a.1.up.trans b.1.up a.1.up.sc,by rw[bV];exact Yrs a.1.num b.1.num,λG V cx hG n hn => ?_⟩,λx hx'=>(List.mem_cons.1 hx').elim (λe=>e ▸ a.2) (b.2 x)⟩
  obtain⟨x,hx',hv⟩:=hn
  rcases List.mem_cons.1 hx' with rfl|hx'
  ·exact a.1.fr G V cx (hG _ aj) n hv
  ·exact b.1.fr G V (cx.up hx a.1.up) (λy hy=>hG y (ai _ hy)) n ⟨x,hx',hv⟩
theorem Y1tw:∀ {k:Int}{P B:List YS_}{m q:YS}{c:Yc},PcY k P B m c q->(k=5\/k=11/\P.length=1)->(Ylg m.x)->(∀ x∈P,fmI m.Sb x)->(∀ x∈B,fmI m.Sb x)->Hy m (λG _=>∀ x∈B,scN G x) (bnd c) (fv c) q/\okC c
 | k,P,B,m,_,_,.mk e r,g,hx,hP,hB=>by
  obtain⟨a1,a2,a3,a4,a5,a6⟩:=Y1ub hx hP hB e
  have i:=Y1kk r a1 a5
  have hm:=(Y173 e).2.1
  refine⟨⟨i.1.ex,a2.trans i.1.up a2.sc,by rw[Yvc];exact Yrs a3 (by simpa using i.1.num),λG V cx hG j hj => ?_⟩,Ytc oW (by simpa using i.2) ?_⟩
  ·rcases Yyu.1 hj with a|⟨x,hx',np,a⟩
   ·have:=a.1;omega
   ·rw[ao]at hx';subst hx'
    obtain⟨G',g1,g2⟩:=a6 G V cx hG
    exact(i.1.fr G' _ g1 g2 j a).resolve_right np
  ·rcases g with g|⟨g,g2⟩<;>subst g<;>simp[shC,yK]<;>(try simp only[af,ak])<;>omega
theorem Y1ut:∀ {p:YP}{m q:YS}{c:Yc},PtY p m c q->(Ylg m.x)->(fmP m.Sb p)->Hy m (λG _=>scQ G p) (bnd c) (fv c) q/\okC c
 | p,m,_,_,.pc e r,hx,hp=>by
  have i:=Y1tw r (.inl rfl) hx (hp.1 e).1 (hp.1 e).2
  exact⟨⟨i.1.ex,i.1.up,i.1.num,λG V cx hG=>i.1.fr G V cx (hG.1 e).2⟩,i.2⟩
 | p,m,_,_,.ex e r,hx,hp=>by
  have i:=Y16u r hx (hp.2 e)
  exact⟨⟨i.1.ex,i.1.up,i.1.num,λG V cx hG=>i.1.fr G V cx (hG.2 e)⟩,i.2⟩
theorem Y1bh:∀ {L:List YP}{m q:YS}{K:List Yc},PsY L m K q->(Ylg m.x)->(∀ p∈L,fmP m.Sb p)->Hy m (λG V=>∀ p∈L,scQ G p/\(p.d->V p.n)) (K.flatMap bnd) (λn=>∃ x∈K,fv x n) q/\∀ x∈K,okC x
 | _,m,_,_,.nil,hx,hL=>⟨⟨hx,Up.rfl' _ _,Ysh _,λG V cx _ n hn=>by obtain⟨x,h,_⟩:=hn;cases h⟩,by simp⟩
 | _,m,_,_,.de d h t,hx,hL=>by
  have a:=Y1ut h hx (hL _ aj)
  have b:=Y1bh t a.1.ex (λx hx'=>Y1ed a.1.up.sc (hL x (ai _ hx')))
  refine⟨⟨b.1.ex,a.1.up.trans b.1.up a.1.up.sc,by rw[bV,Yvc];exact Yrs (by simpa using a.1.num) b.1.num,λG V cx hG n hn => ?_⟩,
   λx hx'=>(List.mem_cons.1 hx').elim (λe=>e ▸ Ytc dW (by simpa using a.2) (by simp[shC,yK])) (b.2 x)⟩
  obtain⟨x,hx',hv⟩:=hn
  rcases List.mem_cons.1 hx' with rfl|hx'
  ·rcases Yyu.1 hv with e|⟨x,hx2,_,e⟩
   ·rw[e.2];exact(hG _ aj).2 d
   ·rw[ao]at hx2;subst hx2
    exact a.1.fr G V cx (hG _ aj).1 n e
  ·exact b.1.fr G V (cx.up hx a.1.up) (λy hy=>hG y (ai _ hy)) n ⟨x,hx',hv⟩
 | _,m,_,_,.ex d h t,hx,hL=>by
  have a:=Y1ut h hx (hL _ aj)
  have b:=Y1bh t a.1.ex (λx hx'=>Y1ed a.1.up.sc (hL x (ai _ hx')))
  refine⟨⟨b.1.ex,a.1.up.trans b.1.up a.1.up.sc,by rw[bV];exact Yrs a.1.num b.1.num,λG V cx hG n hn => ?_⟩,λx hx'=>(List.mem_cons.1 hx').elim (λe=>e ▸ a.2) (b.2 x)⟩
  obtain⟨x,hx',hv⟩:=hn
  rcases List.mem_cons.1 hx' with rfl|hx'
  ·exact a.1.fr G V cx (hG _ aj).1 n hv
  ·exact b.1.fr G V (cx.up hx a.1.up) (λy hy=>hG y (ai _ hy)) n ⟨x,hx',hv⟩
theorem Y1kk:∀ {L:List YS_}{m q:YS}{c:Yc},BdY L m c q->(Ylg m.x)->(∀ x∈L,fmI m.Sb x)->Hy m (λG _=>∀ x∈L,scN G x) (bnd c) (fv c) q/\okC c
 | L,m,_,_,.sq h l r g v e,hx,hL=>by
  obtain⟨a1,a2,a3,D,a4,a5,a6⟩:=Y1u9 hx hL h l
  have i:=Y1bh r a1 a3
  have w:=Y1oj i.2 g e
  have eD:D=[]:=by rw[v]at a4;simpa[yDv] using a4.symm
  subst eD
  refine⟨⟨i.1.ex,a2.trans i.1.up a2.sc,by rw[w.2.1];exact Yrs a5 i.1.num,λG V cx hG j hj => ?_⟩,w.1⟩
  obtain⟨G',V',h1,h2,h3⟩:=a6 G V cx hG
  exact(h3 j (i.1.fr G' V' h1 h2 j (w.2.2 j hj))).resolve_right sW
 | L,m,_,_,.lo h l r g v,hx,hL=>by
  obtain⟨a1,a2,a3,D,a4,a5,a6⟩:=Y1u9 hx hL h l
  have i:=Y1bh r a1 a3
  rw[a4]at v|-
  refine⟨⟨i.1.ex,a2.trans i.1.up a2.sc,by rw[Yvc];exact Yrs a5 i.1.num,λG V cx hG j hj => ?_⟩,Ytc dW i.2 (by simp[shC,yK];(try simp only[af,ak]);omega)⟩
  obtain⟨G',V',h1,h2,h3⟩:=a6 G V cx hG
  rcases Yyu.1 hj with a|⟨x,hx',np,a⟩
  ·rcases a.1 with a|a<;>exact absurd a dW
  ·exact(h3 j (i.1.fr G' V' h1 h2 j ⟨x,hx',a⟩)).resolve_right np
end
theorem Y1sb {d:Yd}(h:Yn6 d):wD d<=24000:=by
 have:∀ d:Yd,okD d->wD d+1<=40 * sizeD d:=by
  refine Yd.ind λd ih h => ?_
  rw[Y17d,af,am]at h
  have h2:∀ L:List Yd,(∀ x∈L,wD x+1<=40 * sizeD x)->L.length+sumBy wD L<=40 * sumBy sizeD L:=by
   intro L
   induction L with
   | nil=>intro _;simp[sumBy]
   | cons x r ihr=>
    intro hL
    have a:=hL x aj
    have b:=ihr λy hy=>hL y (ai _ hy)
    simp only[sumBy,aE];omega
  have h3:=h2 d.Ia λx hx=>ih x hx (h.1 x hx)
  have h4:d.Ta.size<=30:=by
   have e:∀ u:ByteArray,u.data.toList=[]->u.size=0:=λu hu=>by
    have:u.data.toList.length=0:=by rw[hu];rfl
    simpa using this
   have h5:=h.2
   simp only[Yp4,aG,ak]at h5
   rcases h5 with (((h|h)|h)|h)|h
   ·have:=e d.Ta h.2.2;omega
   ·have h2:=h.2.2.1
    unfold Yo1 at h2;simp only[af,ak]at h2
    have:=h2.1.1.1.2;omega
   ·have:=e d.Ta h.2.2.2.1;omega
   ·have:=e d.Ta h.2.2.2.1;omega
   ·have h2:=h.2.2.1
    unfold Ypc at h2;simp only[af,ak]at h2
    have:=h2.1;omega
  rw[Yuh,Yos];omega
 simp only[Yn6,af,ak]at h
 have:=this d h.2
 omega
theorem Y20s:∀ c:Yc,okC c->wC c+1<=24100 * Yl9 c:=by
 refine Yc.ind λc ih h => ?_
 rw[Yyr,af,am]at h
 have h2:∀ L:List Yc,(∀ x∈L,wC x+1<=24100 * Yl9 x)->L.length+sumBy wC L<=24100 * sumBy Yl9 L:=by
  intro L
  induction L with
  | nil=>intro _;simp[sumBy]
  | cons x r ihr=>
   intro hL
   have a:=hL x aj
   have b:=ihr λy hy=>hL y (ai _ hy)
   simp only[sumBy,aE];omega
 have h3:=h2 c.Kb λx hx=>ih x hx (h.1 x hx)
 have h4:=h.2
 simp only[shI,shC,af,aG,ak]at h4
 have hd:wD c.Da<=24000/\c.Pa.length<=60:=by
  obtain⟨⟨⟨h5,_⟩,h6⟩,_⟩:=h4
  constructor
  ·rcases h5 with h5|h5
   ·rw[ae h5]at h6
    simp only[af]at h6
    exact Y1sb h6.2
   ·rw[h5];decide
  ·repeat' (split at h6)
   all_goals first
    | (simp only[af,ak]at h6;omega)
    | cases h6
 rw[Y131,Yoh]
 have:=hd.1
 have:=hd.2
 omega
structure isB0 (x:YE):Prop where
 ex:Ylg x
 mw:∀ r∈x.Ma,wR r<=900000000
 va:∀ b∈x.Ba,¬ b.Ka=3
 ma:∀ r∈x.Ma,∀ t∈r.Tb,∀ y∈nmZ t,y.Sa=[]
theorem Y21e {x:YE}{s:YS_}(hx:isB0 x) (hs:Ykk s) (h0:∀ y∈nmZ s,y.Sa=[]) {r:YR Yc}(hr:r=yX s ⟨x.Ba,x.Ma,x.Sb,x.Va,x.Sc,0⟩) (e:r.e=0) (h1:Yl9 r.v<=3000) (h2:Yoj r.v<=150) :
  Yws r.v []/\Ylg r.m.x/\x.Sb<=r.m.Sb/\r.m.Va=x.Va+((bnd r.v).length:Int)/\x.Ba.length<=r.m.Ba.length/\wC r.v<=100000000:=by
 subst hr
 have v:=Yzf.f s _ e
 have nos:∀ G:Int->Prop,scN G s:=λG y hy j hj=>by rw[h0 y hy]at hj;cases hj
 have hf:=(Ymy x).1 hx.ex
 have g:=Y16u v hx.ex (Y1pi hs (nos _))
 have cx:Cx (λ_=>False) (λ_=>False) ⟨x.Ba,x.Ma,x.Sb,x.Va,x.Sc,0⟩:=by
  refine⟨λj h=>h.elim,λb hb _ hk=>hx.va b hb hk,λb hb _ hk t ht y hy j hj => ?_⟩
  have n:=Yyi hx.ex hb hk
  have:=hx.ma _ (Ykg (L:=x.Ma) (k:=b.Na.toNat) oW) t ht y hy
  rw[this]at hj;cases hj
 have fr:=g.1.fr _ _ cx (nos _)
 have hv:=((Ymy _).1 g.1.ex).Va
 have nb:=g.1.num
 have hfr:fre (yX s ⟨x.Ba,x.Ma,x.Sb,x.Va,x.Sc,0⟩).v [] []=[]:=by
  rw[List.eq_nil_iff_forall_not_mem]
  exact λn hn=>fr n hn
 refine⟨?_,g.1.ex,g.1.up.sc,?_,?_,?_⟩
 ·simp only[Yws,smC,af,ak,bt,hfr,List.all_nil,dQ]
  refine⟨⟨⟨h1,h2⟩,g.2⟩,?_⟩
  rw[Y194]
  refine⟨nb.nd,λn hn => ?_⟩
  have a:=nb.mem n hn
  have b:0<=x.Va:=hf.Va.1
  have a1:x.Va<n:=a.1
  have c:=hv.2
  have a2:=a.2
  have c2:(yX s ⟨x.Ba,x.Ma,x.Sb,x.Va,x.Sc,0⟩).m.Va<=99999:=c
  exact⟨by omega,by omega⟩
 ·have:=nb.len
  have e2:(⟨x.Ba,x.Ma,x.Sb,x.Va,x.Sc,0⟩:YS).Va=x.Va:=rfl
  rw[e2]at this;omega
 ·obtain⟨B,e2,_⟩:=g.1.up.bi
  rw[e2];simp
 ·have:=Y20s _ g.2;omega
end Go.Proofs.YtcbodhkhppgkiaaGreat
end
