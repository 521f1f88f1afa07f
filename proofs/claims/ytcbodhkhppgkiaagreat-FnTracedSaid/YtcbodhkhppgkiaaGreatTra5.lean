/- Part 5 of a proof. No condition. -/
import Derived.Test.YtcbodhkhppgkiaaGreatTra4
set_option maxHeartbeats 4000000
set_option linter.unusedVariables false
set_option linter.unusedSimpArgs false
section
namespace Go.Proofs.YtcbodhkhppgkiaaGreat
open Go Ab Proofs.Tryz
section
abbrev nlA:AC:=.val (.lit (.slice none 0 0))
abbrev nlB:Ob:=.box [vI 0,vI 0,nlA,vI 0,vI 0,vS (mkS []),nlA,nlA]
def psV (L:List YP) (m:YS):List Int:=if (Yl9 (yPt yX yZ) L m).e=0 then yDv L else []
theorem Y1f7 {L:List YP}{k:Nat}(h:k<L.length):yDv (L.take (k+1))=if (L.g k).d then yDv (L.take k)++[(L.g k).n] else yDv (L.take k):=by
 have e:=Ylk h
 unfold yDv;rw[e,dw,aq]
 show _++List.map _ (List.filter _ [L.g k])=_
 generalize L.g k=y
 by_cases hx:y.d
 ·rw[ae hx];simp[hx]
 ·rw[ab hx];simp[hx]
theorem Y1yq (L:List YP) (k:Nat):(yDv (L.take k)).length<=L.length:=by
 have h1:=cN (λx:YP=>x.d) (L.take k)
 have h2:(L.take k).length<=L.length:=by rw[au];omega
 unfold yDv;rw[aO];omega
theorem Y1yx {B:List YB}{L:List YS_}{k:Nat}(h:k<L.length):(L.take (k+1)).all (yLo B)=((L.take k).all (yLo B)&&yLo B (L.g k)):=by
 rw[Ylk h,cA];simp
theorem Y1c7 {B:List YB}{L:List YS_}{k:Nat}(h:k<L.length) (e:yLo B (L.g k)=false):L.all (yLo B)=false:=by
 rw[bW];exact⟨_,Yl6 h,by rw[e];decide⟩
section
variable {b:List YS_->YS->YR Yc}{k:Int}{P B:List YS_}{m:YS}
theorem Y264 (h:¬ (yPr P 8 B m).e=0):yPc yZ k P B m=⟨yN,(yPr P 8 B m).e,(yPr P 8 B m).m⟩:=ab h
theorem Y25d (h:(yPr P 8 B m).e=0) (h2:¬ (yZ (yPr P 8 B m).v.2 (yPr P 8 B m).m).e=0):yPc yZ k P B m=⟨yN,(yZ (yPr P 8 B m).v.2 (yPr P 8 B m).m).e,(yZ (yPr P 8 B m).v.2 (yPr P 8 B m).m).m⟩:=by
 unfold yPc;rw[ae h,ab h2]
theorem Y20b (h:(yPr P 8 B m).e=0) (h2:(yZ (yPr P 8 B m).v.2 (yPr P 8 B m).m).e=0):yPc yZ k P B m=⟨yK k 0 (yPr P 8 B m).v.1 [(yZ (yPr P 8 B m).v.2 (yPr P 8 B m).m).v],0,(yZ (yPr P 8 B m).v.2 (yPr P 8 B m).m).m⟩:=by
 unfold yPc;rw[ae h,ae h2]
end
theorem Y15r:∀ K:List Yc,K.length<=sumBy Yly K
 | []=>aC 0
 | x :: r=>by have:=Y15r r;have:=Yp9 x;simp only[sumBy,aD];omega
theorem Y22p {L:List YP}{m:YS}(hm:Ylt m) (hL:∀ p∈L,Ysq p) (hl:L.length<=3000) (e:(Yl9 (yPt yX yZ) L m).e=0):(Ymh (Yl9 (yPt yX yZ) L m).v).length<=2147483647/\(Yl9 (yPt yX yZ) L m).v.length<=2147483647:=by
 have g:=Ywr (Y17p Y109 L m e) hL hm
 have h1:=g.siz
 have h2:=g.ok.2
 have h3:=hm.2
 have h4:=Y13p (Yl9 (yPt yX yZ) L m).v
 have h5:=Y15r (Ymh (Yl9 (yPt yX yZ) L m).v)
 have h6:=Yp7 (f:=yPt yX yZ) L m e
 exact⟨by omega,by omega⟩
section
variable {L:List YS_}{m:YS}(hm:Ylt m) (hL:∀ x∈L,Yld x)
include hm hL
theorem Y26c (h:cdN m.Sb 1=0) (e:(yLX (yAd (nxt m.Sb 1) L) [] (ySc 1 m)).e=0) (d:((yLX (yAd (nxt m.Sb 1) L) [] (ySc 1 m)).v.g (((yLX (yAd (nxt m.Sb 1) L) [] (ySc 1 m)).v.length:Int) - 1).toNat).d):yZ L m=⟨yN,1,(yLX (yAd (nxt m.Sb 1) L) [] (ySc 1 m)).m⟩:=by
 have i:(((yLX (yAd (nxt m.Sb 1) L) [] (ySc 1 m)).v.length:Int) - 1).toNat=(yLX (yAd (nxt m.Sb 1) L) [] (ySc 1 m)).v.length - 1:=by omega
 rw[i]at d
 rw[Y175 hm hL,ae h];unfold yB1;rw[ae e,ae (.inr d)]
section
variable (h:cdN m.Sb 1=0) (e:(yLX (yAd (nxt m.Sb 1) L) [] (ySc 1 m)).e=0) (l:¬ ((yLX (yAd (nxt m.Sb 1) L) [] (ySc 1 m)).v.length:Int)=0) (d:((yLX (yAd (nxt m.Sb 1) L) [] (ySc 1 m)).v.g (((yLX (yAd (nxt m.Sb 1) L) [] (ySc 1 m)).v.length:Int) - 1).toNat).d=false)
include h e l d
theorem Y1ep:yZ L m=yEn (yDv (yLX (yAd (nxt m.Sb 1) L) [] (ySc 1 m)).v) (Yl9 (yPt yX yZ) (yLX (yAd (nxt m.Sb 1) L) [] (ySc 1 m)).v (yLX (yAd (nxt m.Sb 1) L) [] (ySc 1 m)).m):=by
 have i:(((yLX (yAd (nxt m.Sb 1) L) [] (ySc 1 m)).v.length:Int) - 1).toNat=(yLX (yAd (nxt m.Sb 1) L) [] (ySc 1 m)).v.length - 1:=by omega
 rw[i]at d
 rw[Y175 hm hL,ae h];unfold yB1;rw[ae e,ab (λc=>c.elim (λc=>l oW) (λc=>by rw[d]at c;cases c))]
theorem Y24x (p:¬ (Yl9 (yPt yX yZ) (yLX (yAd (nxt m.Sb 1) L) [] (ySc 1 m)).v (yLX (yAd (nxt m.Sb 1) L) [] (ySc 1 m)).m).e=0):yZ L m=⟨yN,(Yl9 (yPt yX yZ) (yLX (yAd (nxt m.Sb 1) L) [] (ySc 1 m)).v (yLX (yAd (nxt m.Sb 1) L) [] (ySc 1 m)).m).e,(Yl9 (yPt yX yZ) (yLX (yAd (nxt m.Sb 1) L) [] (ySc 1 m)).v (yLX (yAd (nxt m.Sb 1) L) [] (ySc 1 m)).m).m⟩:=by
 rw[Y1ep hm hL h e l d];exact ab p
theorem Y26b (p:(Yl9 (yPt yX yZ) (yLX (yAd (nxt m.Sb 1) L) [] (ySc 1 m)).v (yLX (yAd (nxt m.Sb 1) L) [] (ySc 1 m)).m).e=0) (v:((psV (yLX (yAd (nxt m.Sb 1) L) [] (ySc 1 m)).v (yLX (yAd (nxt m.Sb 1) L) [] (ySc 1 m)).m).length:Int)=0):yZ L m=⟨sqV (Yl9 (yPt yX yZ) (yLX (yAd (nxt m.Sb 1) L) [] (ySc 1 m)).v (yLX (yAd (nxt m.Sb 1) L) [] (ySc 1 m)).m).v,sqE (Yl9 (yPt yX yZ) (yLX (yAd (nxt m.Sb 1) L) [] (ySc 1 m)).v (yLX (yAd (nxt m.Sb 1) L) [] (ySc 1 m)).m).v,(Yl9 (yPt yX yZ) (yLX (yAd (nxt m.Sb 1) L) [] (ySc 1 m)).v (yLX (yAd (nxt m.Sb 1) L) [] (ySc 1 m)).m).m⟩:=by
 have i:psV (yLX (yAd (nxt m.Sb 1) L) [] (ySc 1 m)).v (yLX (yAd (nxt m.Sb 1) L) [] (ySc 1 m)).m=yDv (yLX (yAd (nxt m.Sb 1) L) [] (ySc 1 m)).v:=ae p
 rw[i]at v
 rw[Y1ep hm hL h e l d];unfold yEn;rw[ae p,ae oW]
theorem Y25q (p:(Yl9 (yPt yX yZ) (yLX (yAd (nxt m.Sb 1) L) [] (ySc 1 m)).v (yLX (yAd (nxt m.Sb 1) L) [] (ySc 1 m)).m).e=0) (v:¬ ((psV (yLX (yAd (nxt m.Sb 1) L) [] (ySc 1 m)).v (yLX (yAd (nxt m.Sb 1) L) [] (ySc 1 m)).m).length:Int)=0) (w:60<((psV (yLX (yAd (nxt m.Sb 1) L) [] (ySc 1 m)).v (yLX (yAd (nxt m.Sb 1) L) [] (ySc 1 m)).m).length:Int)):yZ L m=⟨yN,8,(Yl9 (yPt yX yZ) (yLX (yAd (nxt m.Sb 1) L) [] (ySc 1 m)).v (yLX (yAd (nxt m.Sb 1) L) [] (ySc 1 m)).m).m⟩:=by
 have i:psV (yLX (yAd (nxt m.Sb 1) L) [] (ySc 1 m)).v (yLX (yAd (nxt m.Sb 1) L) [] (ySc 1 m)).m=yDv (yLX (yAd (nxt m.Sb 1) L) [] (ySc 1 m)).v:=ae p
 rw[i]at v w
 rw[Y1ep hm hL h e l d];unfold yEn;rw[ae p,ab oW,ae (.inl w)]
theorem Y258 (p:(Yl9 (yPt yX yZ) (yLX (yAd (nxt m.Sb 1) L) [] (ySc 1 m)).v (yLX (yAd (nxt m.Sb 1) L) [] (ySc 1 m)).m).e=0) (v:¬ ((psV (yLX (yAd (nxt m.Sb 1) L) [] (ySc 1 m)).v (yLX (yAd (nxt m.Sb 1) L) [] (ySc 1 m)).m).length:Int)=0) (w:60<((Yl9 (yPt yX yZ) (yLX (yAd (nxt m.Sb 1) L) [] (ySc 1 m)).v (yLX (yAd (nxt m.Sb 1) L) [] (ySc 1 m)).m).v.length:Int)):yZ L m=⟨yN,8,(Yl9 (yPt yX yZ) (yLX (yAd (nxt m.Sb 1) L) [] (ySc 1 m)).v (yLX (yAd (nxt m.Sb 1) L) [] (ySc 1 m)).m).m⟩:=by
 have i:psV (yLX (yAd (nxt m.Sb 1) L) [] (ySc 1 m)).v (yLX (yAd (nxt m.Sb 1) L) [] (ySc 1 m)).m=yDv (yLX (yAd (nxt m.Sb 1) L) [] (ySc 1 m)).v:=ae p
 rw[i]at v
 rw[Y1ep hm hL h e l d];unfold yEn;rw[ae p,ab oW,ae (.inr w)]
theorem Y262 (p:(Yl9 (yPt yX yZ) (yLX (yAd (nxt m.Sb 1) L) [] (ySc 1 m)).v (yLX (yAd (nxt m.Sb 1) L) [] (ySc 1 m)).m).e=0) (v:¬ ((psV (yLX (yAd (nxt m.Sb 1) L) [] (ySc 1 m)).v (yLX (yAd (nxt m.Sb 1) L) [] (ySc 1 m)).m).length:Int)=0) (w:¬ 60<((psV (yLX (yAd (nxt m.Sb 1) L) [] (ySc 1 m)).v (yLX (yAd (nxt m.Sb 1) L) [] (ySc 1 m)).m).length:Int)) (x:¬ 60<((Yl9 (yPt yX yZ) (yLX (yAd (nxt m.Sb 1) L) [] (ySc 1 m)).v (yLX (yAd (nxt m.Sb 1) L) [] (ySc 1 m)).m).v.length:Int)):yZ L m=⟨yK 9 0 (psV (yLX (yAd (nxt m.Sb 1) L) [] (ySc 1 m)).v (yLX (yAd (nxt m.Sb 1) L) [] (ySc 1 m)).m) (Yl9 (yPt yX yZ) (yLX (yAd (nxt m.Sb 1) L) [] (ySc 1 m)).v (yLX (yAd (nxt m.Sb 1) L) [] (ySc 1 m)).m).v,0,(Yl9 (yPt yX yZ) (yLX (yAd (nxt m.Sb 1) L) [] (ySc 1 m)).v (yLX (yAd (nxt m.Sb 1) L) [] (ySc 1 m)).m).m⟩:=by
 have i:psV (yLX (yAd (nxt m.Sb 1) L) [] (ySc 1 m)).v (yLX (yAd (nxt m.Sb 1) L) [] (ySc 1 m)).m=yDv (yLX (yAd (nxt m.Sb 1) L) [] (ySc 1 m)).v:=ae p
 rw[i]at v w;rw[i]
 rw[Y1ep hm hL h e l d];unfold yEn;rw[ae p,ab oW,ab oW]
end
theorem Y241 (h:cdN m.Sb 1=0) (e:(yLX (yAd (nxt m.Sb 1) L) [] (ySc 1 m)).e=0):Ylt (yLX (yAd (nxt m.Sb 1) L) [] (ySc 1 m)).m/\(∀ p∈(yLX (yAd (nxt m.Sb 1) L) [] (ySc 1 m)).v,Ysq p)/\(yLX (yAd (nxt m.Sb 1) L) [] (ySc 1 m)).v.length<=3000/\(¬ ((yLX (yAd (nxt m.Sb 1) L) [] (ySc 1 m)).v.length:Int)=0->m.z<(yLX (yAd (nxt m.Sb 1) L) [] (ySc 1 m)).m.z):=by
 have hn:=@Yq4 m.Sb 1 (Yrd hm.1).2.2.1.1 h
 have k:=Yw8 (fuY (ySc 1 m)) (yAd (nxt m.Sb 1) L) [] (ySc 1 m) (Ys2 ⟨hn.1,hn.2.1⟩ hL) (λp hp=>absurd hp sW) ⟨Ys5 1 hm.1,hm.2⟩ (by rw[<- Yxn];exact e)
 rw[<- Yxn]at k
 have z:=hm.2
 have z2:=k.1.2
 have k2:=k.2.2.2
 have kz:(ySc 1 m).z=m.z:=rfl
 simp only[bo]at k2
 rw[kz]at k2
 refine⟨k.1,k.2.2.1,by omega,λa=>by omega⟩
end
theorem Y13s {z:Int}(h:Ynh z=0):¬ 3000<z+1:=by
 intro c
 have:Ynh z=8:=ae c
 rw[h]at this;cases this
section
variable {s:YS_}{m q:YS}{x:YS_}(hm:Ylt q)
include hm
theorem Y266 (e:¬ Ynh q.z=0):yLq x q=⟨false,⟨yN,8,yCn q⟩,x,q⟩:=by
 have z:3000<q.z+1:=by by_cases c:3000<q.z+1;exact c;exact absurd (ab c) e
 rw[Yz2 hm,ae z]
theorem Y268 {z:Ynh q.z=0}(k:x.Ka=1):yLq x q=⟨false,yNm x q,x,q⟩:=by
 have z:¬ 3000<q.z+1:=Y13s z
 rw[Yz2 hm,ab z,ae k]
theorem Y25g (z:Ynh q.z=0) (k:¬ x.Ka=1) (r:x.Ka=2\/x.Ka=3\/x.Ka=4):yLq x q=⟨false,⟨⟨1,0,[],yDt x,[]⟩,0,yCn q⟩,x,q⟩:=by
 have z:¬ 3000<q.z+1:=Y13s z
 rw[Yz2 hm,ab z,ab k,ae r]
theorem Y1m0 {z:Ynh q.z=0}(k:¬ x.Ka=1) (k2:¬ x.Ka=2) (k3:¬ x.Ka=3) (k4:¬ x.Ka=4):yLq x q=if x.Ia.length=0 then ⟨false,⟨yN,1,yCn q⟩,x,q⟩
  else if 0<=hdM q.x x then
   (if (ySt (hdM q.x x) x (yCn q)).e=0 then yLq (ySt (hdM q.x x) x (yCn q)).v (ySt (hdM q.x x) x (yCn q)).m else ⟨false,⟨yN,(ySt (hdM q.x x) x (yCn q)).e,(ySt (hdM q.x x) x (yCn q)).m⟩,x,q⟩)
  else ⟨true,⟨yN,0,q⟩,x,yCn q⟩:=by
 have z:¬ 3000<q.z+1:=Y13s z
 rw[Yz2 hm,ab z,ab k,ab (λc=>c.elim k2 (λc=>c.elim k3 k4))]
theorem Y250 (z:Ynh q.z=0) (k:¬ x.Ka=1) (k2:¬ x.Ka=2) (k3:¬ x.Ka=3) (k4:¬ x.Ka=4) (l:(x.Ia.length:Int)=0):yLq x q=⟨false,⟨yN,1,yCn q⟩,x,q⟩:=by
 rw[Y1m0 hm (z:=z) k k2 k3 k4,ae oW]
theorem Y25c (z:Ynh q.z=0) (k:¬ x.Ka=1) (k2:¬ x.Ka=2) (k3:¬ x.Ka=3) (k4:¬ x.Ka=4) (l:¬ (x.Ia.length:Int)=0) (d:hdM (yCn q).x x<0):yLq x q=⟨true,⟨yN,0,q⟩,x,yCn q⟩:=by
 rw[Y1m0 hm (z:=z) k k2 k3 k4,ab oW,ab (show ¬ 0<=hdM (yCn q).x x by omega)]
theorem Y25h (z:Ynh q.z=0) (k:¬ x.Ka=1) (k2:¬ x.Ka=2) (k3:¬ x.Ka=3) (k4:¬ x.Ka=4) (l:¬ (x.Ia.length:Int)=0) (d:¬ hdM (yCn q).x x<0) (g:¬ Yn3 (yCn q).x (hdM (yCn q).x x) x=0):yLq x q=⟨false,⟨yN,Yn3 (yCn q).x (hdM (yCn q).x x) x,(ySt (hdM (yCn q).x x) x (yCn q)).m⟩,x,q⟩:=by
 rw[Y1m0 hm (z:=z) k k2 k3 k4,ab oW,ae (show 0<=hdM (yCn q).x x by omega)];exact ab g
theorem Y23q (z:Ynh q.z=0) (k:¬ x.Ka=1) (k2:¬ x.Ka=2) (k3:¬ x.Ka=3) (k4:¬ x.Ka=4) (l:¬ (x.Ia.length:Int)=0) (d:¬ hdM (yCn q).x x<0) (g:Yn3 (yCn q).x (hdM (yCn q).x x) x=0):yLq x q=yLq (Yo7 (yCn q).x (hdM (yCn q).x x) x) (ySt (hdM (yCn q).x x) x (yCn q)).m:=by
 rw[Y1m0 hm (z:=z) k k2 k3 k4,ab oW,ae (show 0<=hdM (yCn q).x x by omega)];exact ae g
end
section
variable {s:YS_}{m:YS}(hm:Ylt m) (hs:Yld s)
include hm hs
theorem Y25b (g:(yLq s m).g=false):yX s m=(yLq s m).r:=by rw[(Y138 hm hs).2,g];exact ab dW
theorem Y25w (g:(yLq s m).g) (d:0<=hdN (yLq s m).m.x (yLq s m).s):yX s m=yFm yX yZ (hdN (yLq s m).m.x (yLq s m).s) (yLq s m).s (yLq s m).m:=by rw[(Y138 hm hs).2,ae g];exact ae d
theorem Y25p (g:(yLq s m).g) (d:¬ 0<=hdN (yLq s m).m.x (yLq s m).s) (e:¬ (Yl9 yX (yLq s m).s.Ia (yLq s m).m).e=0):yX s m=⟨yN,(Yl9 yX (yLq s m).s.Ia (yLq s m).m).e,(Yl9 yX (yLq s m).s.Ia (yLq s m).m).m⟩:=by rw[(Y138 hm hs).2,ae g];unfold yE2;rw[ab d,ab e]
theorem Y25f (g:(yLq s m).g) (d:¬ 0<=hdN (yLq s m).m.x (yLq s m).s) (e:(Yl9 yX (yLq s m).s.Ia (yLq s m).m).e=0) (l:9<((Yl9 yX (yLq s m).s.Ia (yLq s m).m).v.length:Int)):yX s m=⟨yN,8,(Yl9 yX (yLq s m).s.Ia (yLq s m).m).m⟩:=by rw[(Y138 hm hs).2,ae g];unfold yE2;rw[ab d,ae e,ae l]
theorem Y24y (g:(yLq s m).g) (d:¬ 0<=hdN (yLq s m).m.x (yLq s m).s) (e:(Yl9 yX (yLq s m).s.Ia (yLq s m).m).e=0) (l:¬ 9<((Yl9 yX (yLq s m).s.Ia (yLq s m).m).v.length:Int)):yX s m=⟨yK 6 0 [] (Yl9 yX (yLq s m).s.Ia (yLq s m).m).v,0,(Yl9 yX (yLq s m).s.Ia (yLq s m).m).m⟩:=by rw[(Y138 hm hs).2,ae g];unfold yE2;rw[ab d,ae e,ab l]
end
theorem Y20t {z:Int}(h:¬ Ynh z=0):Ynh z=8:=by
 unfold Ynh at *
 by_cases d:3000<z+1
 ·rw[ae d]
 ·rw[ab d]at h;exact absurd rfl h
theorem Y25i {q:YS}(hq:Ylt q) (h:Ynh q.z=0):Ylt (yCn q):=Yz1 hq (by have:=Y13s h;omega)
section
variable {L:List YP}{m:YS}{k:Nat}{r:YR Yc}(hr:yPt yX yZ (L.g k) (Yl9 (yPt yX yZ) (L.take k) m).m=if (L.g k).d then yTo (λc=>yK 4 (L.g k).n [] [c]) r else r) (hk:k<L.length) (e:(Yl9 (yPt yX yZ) (L.take k) m).e=0)
include hr hk e
theorem Y1j6 (c:¬ r.e=0):(Yl9 (yPt yX yZ) L m)=⟨[],r.e,r.m⟩:=by
 have q:(yPt yX yZ (L.g k) (Yl9 (yPt yX yZ) (L.take k) m).m).e=r.e/\(yPt yX yZ (L.g k) (Yl9 (yPt yX yZ) (L.take k) m).m).m=r.m:=by
  rw[hr];split
  ·unfold yTo;rw[ab c];exact⟨rfl,rfl⟩
  ·exact⟨rfl,rfl⟩
 rw[Y101 hk e (by rw[q.1];exact c),q.1,q.2]
theorem Y1cc (d:(L.g k).d) (c:r.e=0):(Yl9 (yPt yX yZ) (L.take (k+1)) m)=⟨(Yl9 (yPt yX yZ) (L.take k) m).v++[yK 4 (L.g k).n [] [r.v]],0,r.m⟩:=by
 have q:yPt yX yZ (L.g k) (Yl9 (yPt yX yZ) (L.take k) m).m=⟨yK 4 (L.g k).n [] [r.v],0,r.m⟩:=by rw[hr,ae d];exact ae c
 rw[Yzh hk e (by rw[q]),q]
theorem Y1c6 (d:(L.g k).d=false) (c:r.e=0):(Yl9 (yPt yX yZ) (L.take (k+1)) m)=⟨(Yl9 (yPt yX yZ) (L.take k) m).v++[r.v],0,r.m⟩:=by
 have q:yPt yX yZ (L.g k) (Yl9 (yPt yX yZ) (L.take k) m).m=r:=by rw[hr,ab (by rw[d];decide)]
 rw[Yzh hk e (by rw[q];exact c),q]
end
theorem Y1cp {f:YS_->YS->YR Yc}{b:List YS_->YS->YR Yc}{p:YP}{m:YS}(h:p.p):yPt f b p m=if p.d then yTo (λc=>yK 4 p.n [] [c]) (yPc b 5 p.P p.B m) else yPc b 5 p.P p.B m:=by unfold yPt;rw[ae h]
theorem Y1dr {f:YS_->YS->YR Yc}{b:List YS_->YS->YR Yc}{p:YP}{m:YS}(h:p.p=false):yPt f b p m=if p.d then yTo (λc=>yK 4 p.n [] [c]) (f p.s m) else f p.s m:=by
 have n:¬ p.p:=by rw[h];decide
 unfold yPt;rw[ab n]
theorem Y17g {B:List YB}{s:YS_}(h:(!Ymt B s)=false):Yno B s=Ym2 s:=by
 have:Ymt B s:=by simpa using h
 unfold Yno;rw[ae this]
theorem Y23u {B:List YB}{x:YS_}(h:¬ x.Ka=0):yLo B x=false:=by simp[yLo,h]
theorem Y24u {B:List YB}{x:YS_}(h:¬ (x.Ia.length:Int)=2):yLo B x=false:=by
 have:decide ((x.Ia.length:Int)=2)=false:=bK h
 unfold yLo;rw[this];simp
theorem Y24q {B:List YB}{x:YS_}(h:¬ (x.Ia.g 0).Ka=1):yLo B x=false:=by
 have:decide ((x.Ia.g 0).Ka=1)=false:=bK h
 unfold yLo;rw[this];simp
theorem Y24f {B:List YB}{x:YS_}(h:(!Ymt B (x.Ia.g 1))):yLo B x=false:=by
 have:Ymt B (x.Ia.g 1)=false:=by simpa using h
 unfold yLo;rw[this];simp
theorem Y25r {B:List YB}{x:YS_}(h:x.Ka=0) (h2:(x.Ia.length:Int)=2) (h3:(x.Ia.g 0).Ka=1) (h4:(!Ymt B (x.Ia.g 1))=false):yLo B x:=by
 have e2:decide ((x.Ia.length:Int)=2):=bF h2
 have e3:decide ((x.Ia.g 0).Ka=1):=bF h3
 have e4:Ymt B (x.Ia.g 1):=by simpa using h4
 unfold yLo;rw[e2,e3,e4,bF h];rfl
section
variable {L:List YS_}{m:YS}{k:Nat}(hk:k<L.length) (e:(Yl9 (yM1 (nxt m.Sb 1)) (L.take k) (ySc 1 m)).e=0)
include hk e
theorem Y208 (c:¬ (yMc (Ylm (Ylu (nxt m.Sb 1)) ((L.g k).Ia.g 0)) (Ym2 ((L.g k).Ia.g 1)) (Yl9 (yM1 (nxt m.Sb 1)) (L.take k) (ySc 1 m)).m).e=0):(Yl9 (yM1 (nxt m.Sb 1)) L (ySc 1 m))=⟨[],(yMc (Ylm (Ylu (nxt m.Sb 1)) ((L.g k).Ia.g 0)) (Ym2 ((L.g k).Ia.g 1)) (Yl9 (yM1 (nxt m.Sb 1)) (L.take k) (ySc 1 m)).m).e,(yMc (Ylm (Ylu (nxt m.Sb 1)) ((L.g k).Ia.g 0)) (Ym2 ((L.g k).Ia.g 1)) (Yl9 (yM1 (nxt m.Sb 1)) (L.take k) (ySc 1 m)).m).m⟩:=Y101 hk e c
theorem Y22w (c:(yMc (Ylm (Ylu (nxt m.Sb 1)) ((L.g k).Ia.g 0)) (Ym2 ((L.g k).Ia.g 1)) (Yl9 (yM1 (nxt m.Sb 1)) (L.take k) (ySc 1 m)).m).e=0):(Yl9 (yM1 (nxt m.Sb 1)) (L.take (k+1)) (ySc 1 m))=⟨(Yl9 (yM1 (nxt m.Sb 1)) (L.take k) (ySc 1 m)).v++[(yMc (Ylm (Ylu (nxt m.Sb 1)) ((L.g k).Ia.g 0)) (Ym2 ((L.g k).Ia.g 1)) (Yl9 (yM1 (nxt m.Sb 1)) (L.take k) (ySc 1 m)).m).v],0,(yMc (Ylm (Ylu (nxt m.Sb 1)) ((L.g k).Ia.g 0)) (Ym2 ((L.g k).Ia.g 1)) (Yl9 (yM1 (nxt m.Sb 1)) (L.take k) (ySc 1 m)).m).m⟩:=Yzh hk e c
end
theorem Y1r9 {L:List YS_}{m:YS}(hm:okX m.x) (hL:∀ x∈L,Yld x) (ha:L.all (yLo m.Ba)) (hc:cdN m.Sb 1=0):∀ x∈L,Yld (Ylm (Ylu (nxt m.Sb 1)) (x.Ia.g 0))/\Ymr (Ym2 (x.Ia.g 1))/\wR (Ym2 (x.Ia.g 1))<=900000000:=by
 intro x hx
 have hn:=@Yq4 m.Sb 1 (Yrd hm).2.2.1.1 hc
 have r:=Y18l (hL x hx) (List.all_eq_true.1 ha x hx)
 exact⟨Y13e r.2.2.1 ⟨hn.1,hn.2.1⟩,r.2.2.2.2.1,r.2.2.2.2.2⟩
theorem Y1w8 {L M:List YS_}{m:YS}(hm:okX m.x) (hL:∀ x∈L,Yld x) (ha:L.all (yLo m.Ba)) (hc:cdN m.Sb 1=0) (hM:∀ x∈M,x∈L) (e:(Yl9 (yM1 (nxt m.Sb 1)) M (ySc 1 m)).e=0) :
  okX (Yl9 (yM1 (nxt m.Sb 1)) M (ySc 1 m)).m.x/\(Yl9 (yM1 (nxt m.Sb 1)) M (ySc 1 m)).m.z=m.z:=
 have g:=Y198 (Ys5 1 hm) (λx hx=>Y1r9 hm hL ha hc x (hM x hx)) e
 ⟨g.1,g.2.2.2.2⟩
section
variable {L B:List YS_}{m:YS}
theorem Y25l (h:¬ cdN m.Sb 1=0):yLs yZ L B m=⟨yN,cdN m.Sb 1,ySc 1 m⟩:=ab h
theorem Y25o (h:cdN m.Sb 1=0) (a:L.all (yLo m.Ba)=false):yLs yZ L B m=⟨yN,1,ySc 1 m⟩:=by unfold yLs;rw[ae h,ab (by rw[a];decide)]
theorem Y26e (h:cdN m.Sb 1=0) (a:L.all (yLo m.Ba)) (e:¬ (Yl9 (yM1 (nxt m.Sb 1)) L (ySc 1 m)).e=0):yLs yZ L B m=⟨yN,(Yl9 (yM1 (nxt m.Sb 1)) L (ySc 1 m)).e,(Yl9 (yM1 (nxt m.Sb 1)) L (ySc 1 m)).m⟩:=by unfold yLs;rw[ae h,ae a,ab e]
theorem Y256 (h:cdN m.Sb 1=0) (a:L.all (yLo m.Ba)) (e:(Yl9 (yM1 (nxt m.Sb 1)) L (ySc 1 m)).e=0):yLs yZ L B m=yZ (yAd (nxt m.Sb 1) B) (Yl9 (yM1 (nxt m.Sb 1)) L (ySc 1 m)).m:=by unfold yLs;rw[ae h,ae a,ae e]
end
structure OkL (m n:YS) (q:List YS_) (o:List YP):Prop where
 ok:Ylt n
 qs:∀ x∈q,Yld x
 os:∀ p∈o,Ysq p
 z:m.z<=n.z
 ql:(q.length:Int)<=2000+2000 * (n.z - m.z)
 ol:(o.length:Int)<=n.z - m.z
theorem lkT {q:List YS_}(h:0<(q.length:Int)):(q.g 0) :: (List.take (q.length - 1) (List.drop 1 q))=q:=by
 cases q with
 | nil=>simp at h
 | cons a r=>simp
theorem Yyy {q:List YS_}(h:0<(q.length:Int)):(List.take (q.length - 1) (List.drop 1 q)).length+1=q.length:=by
 have:=ci List.length (lkT h);rw[aD]at this;exact this
theorem Y1vw (L:List YS_):List.take (L.length - 1) (List.drop 1 L)=L.drop 1:=ar (by rw[ax];omega)
theorem Y26d (M:List YS_) (e:List Cell) (h:e∈M.map Yl1):e.length=5:=by
 obtain⟨x,_,rfl⟩:=List.mem_map.1 h
 rw[Yw9];rfl
section
variable {q:List YS_}{o:List YP}{n:YS}(hm:Ylt n) (hq:0<(q.length:Int))
include hm hq
theorem Y1lu (z:Ynh n.z=0):yLX q o n =
  if 0<=(hdM (yCn n).x (q.g 0)) then
   (if Yn3 (yCn n).x (hdM (yCn n).x (q.g 0)) (q.g 0)=0 then yLX (Yo7 (yCn n).x (hdM (yCn n).x (q.g 0)) (q.g 0) :: (List.take (q.length - 1) (List.drop 1 q))) o (ySt (hdM (yCn n).x (q.g 0)) (q.g 0) (yCn n)).m else ⟨[],Yn3 (yCn n).x (hdM (yCn n).x (q.g 0)) (q.g 0),(ySt (hdM (yCn n).x (q.g 0)) (q.g 0) (yCn n)).m⟩)
  else if hdN (yCn n).x (q.g 0)=4 then yLX ((List.take ((q.g 0).Ia.length - 1) (List.drop 1 (q.g 0).Ia))++(List.take (q.length - 1) (List.drop 1 q))) o (yCn n)
  else if hdN (yCn n).x (q.g 0)=7 then (if (yDf (q.g 0) (yCn n)).e=0 then yLX (List.take (q.length - 1) (List.drop 1 q)) (o++[(yDf (q.g 0) (yCn n)).v]) (yDf (q.g 0) (yCn n)).m else ⟨[],(yDf (q.g 0) (yCn n)).e,(yDf (q.g 0) (yCn n)).m⟩)
  else if hdN (yCn n).x (q.g 0)=8 then (if (ySy (q.g 0) (yCn n)).e=0 then yLX (List.take (q.length - 1) (List.drop 1 q)) o (ySy (q.g 0) (yCn n)).m else ⟨[],(ySy (q.g 0) (yCn n)).e,(ySy (q.g 0) (yCn n)).m⟩)
  else yLX (List.take (q.length - 1) (List.drop 1 q)) (o++[⟨false,0,(q.g 0),false,[],[]⟩]) (yCn n):=by
 have e:=Y1cw (s:=(q.g 0)) (q:=(List.take (q.length - 1) (List.drop 1 q))) (o:=o) hm
 rw[lkT hq,ab (Y13s z)]at e
 rw[e,Y1vw (q.g 0).Ia];rfl
theorem Y253 (z:¬ Ynh n.z=0):yLX q o n=⟨[],Ynh n.z,yCn n⟩:=by
 have e:=Y1cw (s:=(q.g 0)) (q:=(List.take (q.length - 1) (List.drop 1 q))) (o:=o) hm
 have c:3000<n.z+1:=by by_cases c:3000<n.z+1;exact c;exact absurd (ab c) z
 rw[lkT hq,ae c]at e
 rw[e,Y20t z]
theorem Y1si (z:Ynh n.z=0) (d:¬ 0<=(hdM (yCn n).x (q.g 0))) (f:hdN (yCn n).x (q.g 0)=7):yLX q o n=if (yDf (q.g 0) (yCn n)).e=0 then yLX (List.take (q.length - 1) (List.drop 1 q)) (o++[(yDf (q.g 0) (yCn n)).v]) (yDf (q.g 0) (yCn n)).m else ⟨[],(yDf (q.g 0) (yCn n)).e,(yDf (q.g 0) (yCn n)).m⟩:=by rw[Y1lu hm hq z,ab d,ab (by rw[f];decide),ae f]
theorem Y265 (z:Ynh n.z=0) (d:¬ 0<=(hdM (yCn n).x (q.g 0))) (f:hdN (yCn n).x (q.g 0)=7) (g:¬ (yDf (q.g 0) (yCn n)).e=0):yLX q o n=⟨[],(yDf (q.g 0) (yCn n)).e,(yDf (q.g 0) (yCn n)).m⟩:=by rw[Y1si hm hq z d f,ab g]
theorem Y25m (z:Ynh n.z=0) (d:¬ 0<=(hdM (yCn n).x (q.g 0))) (f:hdN (yCn n).x (q.g 0)=7) (g:(yDf (q.g 0) (yCn n)).e=0) (p:(yDf (q.g 0) (yCn n)).v.p):yLX q o n=yLX (List.take (q.length - 1) (List.drop 1 q)) (o++[⟨(yDf (q.g 0) (yCn n)).v.d,(yDf (q.g 0) (yCn n)).v.n,(yDf (q.g 0) (yCn n)).v.s,true,(yDf (q.g 0) (yCn n)).v.P,(yDf (q.g 0) (yCn n)).v.B⟩]) (yDf (q.g 0) (yCn n)).m:=by
 rw[Y1si hm hq z d f,ae g,<- p]
theorem Y24p (z:Ynh n.z=0) (d:¬ 0<=(hdM (yCn n).x (q.g 0))) (f:hdN (yCn n).x (q.g 0)=7) (g:(yDf (q.g 0) (yCn n)).e=0) (p:(yDf (q.g 0) (yCn n)).v.p=false):yLX q o n=yLX (List.take (q.length - 1) (List.drop 1 q)) (o++[⟨(yDf (q.g 0) (yCn n)).v.d,(yDf (q.g 0) (yCn n)).v.n,(yDf (q.g 0) (yCn n)).v.s,false,[],[]⟩]) (yDf (q.g 0) (yCn n)).m:=by
 have e:(⟨(yDf (q.g 0) (yCn n)).v.d,(yDf (q.g 0) (yCn n)).v.n,(yDf (q.g 0) (yCn n)).v.s,false,[],[]⟩:YP)=(yDf (q.g 0) (yCn n)).v:=by
  have a:=Y1vc p
  calc (⟨(yDf (q.g 0) (yCn n)).v.d,(yDf (q.g 0) (yCn n)).v.n,(yDf (q.g 0) (yCn n)).v.s,false,[],[]⟩:YP)=⟨(yDf (q.g 0) (yCn n)).v.d,(yDf (q.g 0) (yCn n)).v.n,(yDf (q.g 0) (yCn n)).v.s,(yDf (q.g 0) (yCn n)).v.p,(yDf (q.g 0) (yCn n)).v.P,(yDf (q.g 0) (yCn n)).v.B⟩:=by rw[a.1,a.2,p]
   _=(yDf (q.g 0) (yCn n)).v:=rfl
 rw[Y1si hm hq z d f,ae g,e]
theorem Y1zw (z:Ynh n.z=0) (d:¬ 0<=(hdM (yCn n).x (q.g 0))) (f:hdN (yCn n).x (q.g 0)=8):yLX q o n=if (ySy (q.g 0) (yCn n)).e=0 then yLX (List.take (q.length - 1) (List.drop 1 q)) o (ySy (q.g 0) (yCn n)).m else ⟨[],(ySy (q.g 0) (yCn n)).e,(ySy (q.g 0) (yCn n)).m⟩:=by rw[Y1lu hm hq z,ab d,ab (by rw[f];decide),ab (by rw[f];decide),ae f]
theorem Y1n5 (z:Ynh n.z=0) (d:¬ 0<=(hdM (yCn n).x (q.g 0))) (f:hdN (yCn n).x (q.g 0)=8) (c:¬ (((q.g 0).Ia.length:Int)=3/\((q.g 0).Ia.g 1).Ka=1/\Ymt n.Ba ((q.g 0).Ia.g 2))):yLX q o n=⟨[],1,yCn n⟩:=by
 have e:ySy (q.g 0) (yCn n)=⟨0,1,yCn n⟩:=ab c
 rw[Y1zw hm hq z d f,e];rfl
theorem Y1uz (z:Ynh n.z=0) (d:¬ 0<=(hdM (yCn n).x (q.g 0))) (f:hdN (yCn n).x (q.g 0)=8) (c1:((q.g 0).Ia.length:Int)=3) (c2:((q.g 0).Ia.g 1).Ka=1) (c3:(!Ymt n.Ba ((q.g 0).Ia.g 2))=false):yLX q o n=if (yMc (Ylm Ymb ((q.g 0).Ia.g 1)) (Yno n.Ba ((q.g 0).Ia.g 2)) (yCn n)).e=0 then yLX (List.take (q.length - 1) (List.drop 1 q)) o (yMc (Ylm Ymb ((q.g 0).Ia.g 1)) (Yno n.Ba ((q.g 0).Ia.g 2)) (yCn n)).m else ⟨[],(yMc (Ylm Ymb ((q.g 0).Ia.g 1)) (Yno n.Ba ((q.g 0).Ia.g 2)) (yCn n)).e,(yMc (Ylm Ymb ((q.g 0).Ia.g 1)) (Yno n.Ba ((q.g 0).Ia.g 2)) (yCn n)).m⟩:=by
 have c4:Ymt n.Ba ((q.g 0).Ia.g 2):=by simpa using c3
 have e:ySy (q.g 0) (yCn n)=(yMc (Ylm Ymb ((q.g 0).Ia.g 1)) (Yno n.Ba ((q.g 0).Ia.g 2)) (yCn n)):=by rw[Y17g c3];exact ae ⟨c1,c2,c4⟩
 rw[Y1zw hm hq z d f,e]
theorem Y1zn (z:Ynh n.z=0) (d:¬ 0<=(hdM (yCn n).x (q.g 0))) (f4:¬ hdN (yCn n).x (q.g 0)=4) (f7:¬ hdN (yCn n).x (q.g 0)=7) (f8:¬ hdN (yCn n).x (q.g 0)=8):yLX q o n=yLX (List.take (q.length - 1) (List.drop 1 q)) (o++[⟨false,0,(q.g 0),false,[],[]⟩]) (yCn n):=by rw[Y1lu hm hq z,ab d,ab f4,ab f7,ab f8]
end
section
variable {m n:YS}{q:List YS_}{o:List YP}
theorem Y141 (hl:OkL m n q o) (hq:0<(q.length:Int)) (z:Ynh n.z=0):Yld (q.g 0):=hl.qs _ (Yl6 oW)
theorem Y17h (hl:OkL m n q o) (hq:0<(q.length:Int)) (z:Ynh n.z=0) {p:YS}{r:List YS_}{w:List YP}(hp:okX p.x) (hz:p.z=n.z+1) (hr:∀ x∈r,Yld x) (hw:∀ p∈w,Ysq p) (lr:r.length<=q.length+2000) (lw:w.length<=o.length+1):OkL m p r w:=by
 have a:=hl.ok.2
 have b:=hl.z
 have c:=hl.ql
 have d:=hl.ol
 have e:=Y13s z
 exact⟨⟨hp,by omega,by omega⟩,hr,hw,by omega,by rw[hz];omega,by rw[hz];omega⟩
theorem Y17b (hl:OkL m n q o) (hq:0<(q.length:Int)) (z:Ynh n.z=0):∀ x∈(List.take (q.length - 1) (List.drop 1 q)),Yld x:=λx hx=>hl.qs x (aG (bt hx))
variable (hl:OkL m n q o) (hq:0<(q.length:Int)) (z:Ynh n.z=0)
include hl hq z
theorem Y21d (g:Yn3 (yCn n).x (hdM (yCn n).x (q.g 0)) (q.g 0)=0):OkL m (ySt (hdM (yCn n).x (q.g 0)) (q.g 0) (yCn n)).m (Yo7 (yCn n).x (hdM (yCn n).x (q.g 0)) (q.g 0) :: (List.take (q.length - 1) (List.drop 1 q))) o:=
 Y17h hl hq z (Yx5 hl.ok.1) rfl (λx hx=>by
  rcases List.mem_cons.1 hx with rfl|hx
  ·exact Yuo (x:=(yCn n).x) hl.ok.1.Sb g
  ·exact Y17b hl hq z x hx) hl.os (by have:=Yyy hq;rw[aD];omega) oW
theorem Y234:OkL m (yCn n) ((List.take ((q.g 0).Ia.length - 1) (List.drop 1 (q.g 0).Ia))++(List.take (q.length - 1) (List.drop 1 q))) o:=
 Y17h hl hq z hl.ok.1 rfl (λx hx=>by
  rcases List.mem_append.1 hx with hx|hx
  ·exact Ynf (Y141 hl hq z) (aG (bt hx))
  ·exact Y17b hl hq z x hx) hl.os (by have:=Yyy hq;have:=Ytk (Y141 hl hq z);rw[aw,au,ax];omega) oW
theorem Y22x:OkL m (yCn n) (List.take (q.length - 1) (List.drop 1 q)) (o++[⟨false,0,(q.g 0),false,[],[]⟩]):=
 Y17h hl hq z hl.ok.1 rfl (Y17b hl hq z) (λp hp=>by
  rcases List.mem_append.1 hp with hp|hp
  ·exact hl.os p hp
  ·rw[List.mem_singleton.1 hp];exact⟨λh=>absurd (show false from h) dW,λ_=>Y141 hl hq z⟩) (by have:=Yyy hq;omega) sW
theorem Y1vj {w:YP}(g:(yDf (q.g 0) (yCn n)).e=0) (e:w=(yDf (q.g 0) (yCn n)).v):OkL m (yDf (q.g 0) (yCn n)).m (List.take (q.length - 1) (List.drop 1 q)) (o++[w]):=by
 have k:=Y1di (Y141 hl hq z) (m:=yCn n) hl.ok.1 g
 refine Y17h hl hq z k.1 k.2.1 (Y17b hl hq z) (λp hp => ?_) (by have:=Yyy hq;omega) sW
 rcases List.mem_append.1 hp with hp|hp
 ·exact hl.os p hp
 ·rw[List.mem_singleton.1 hp,e];exact k.2.2
theorem Y23i (c1:((q.g 0).Ia.length:Int)=3) (c2:((q.g 0).Ia.g 1).Ka=1) (c3:(!Ymt n.Ba ((q.g 0).Ia.g 2))=false) (g:(yMc (Ylm Ymb ((q.g 0).Ia.g 1)) (Yno n.Ba ((q.g 0).Ia.g 2)) (yCn n)).e=0):OkL m (yMc (Ylm Ymb ((q.g 0).Ia.g 1)) (Yno n.Ba ((q.g 0).Ia.g 2)) (yCn n)).m (List.take (q.length - 1) (List.drop 1 q)) o:=by
 have c4:Ymt n.Ba ((q.g 0).Ia.g 2):=by simpa using c3
 have e:ySy (q.g 0) (yCn n)=(yMc (Ylm Ymb ((q.g 0).Ia.g 1)) (Yno n.Ba ((q.g 0).Ia.g 2)) (yCn n)):=by rw[Y17g c3];exact ae ⟨c1,c2,c4⟩
 have k:=Y1oe (Y141 hl hq z) (m:=yCn n) hl.ok.1 (by rw[e];exact g)
 rw[e]at k
 exact Y17h hl hq z k.1 k.2 (Y17b hl hq z) hl.os (by have:=Yyy hq;omega) oW
end
theorem Y1zq {B:List YB}{s:YS_}(hs:Yld s) (h:(!Ymt B s)=false):wR (Ym2 s)<=900000000:=by
 have h5:Ymt B s:=by simpa using h
 simp only[Ymt,af,ak]at h5
 have w:=Ymx hs
 have:=Y12m (s:=s) oW h5.1.2
 omega
theorem Y260 {v:YP}(h:v.p=false) (a:v.P=[]/\v.B=[]):(⟨v.d,v.n,v.s,false,[],[]⟩:YP)=v:=by
 obtain⟨d,n,s,p,P,B⟩:=v
 simp only at h a
 rw[h,a.1,a.2]
theorem Y21p {q:List YS_}{o:List YP}{n:YS}(h:¬ 0<(q.length:Int)):yLX q o n=⟨o,0,n⟩:=by
 cases q with
 | nil=>exact Y1z7 _ _
 | cons a r=>exact absurd (by simp only[aD];omega) h
theorem Y23x {i:Int}(h:0<=i/\i<=11):((Yms.g i.toNat).data.toList=[98,101,103,105,110] ↔ i=4)/\((Yms.g i.toNat).data.toList=[100,101,102,105,110,101] ↔ i=7)/\((Yms.g i.toNat).data.toList=[100,101,102,105,110,101,45,115,121,110,116,97,120] ↔ i=8):=by
 have:i=0\/i=1\/i=2\/i=3\/i=4\/i=5\/i=6\/i=7\/i=8\/i=9\/i=10\/i=11:=by omega
 rcases this with rfl|rfl|rfl|rfl|rfl|rfl|rfl|rfl|rfl|rfl|rfl|rfl<;>decide +kernel
theorem nb {b:Bool}(h:(!b)):¬ b:=by revert h;cases b<;>decide
theorem tb {b:Bool}(h:(!b)=false):b:=by revert h;cases b<;>decide
theorem fnE {i:Int}(h:0<=i/\i<=11) (l:List UInt8) (k:Int) (e:((List.range 12).all λj=>decide ((Yms.g j).data.toList=l) == decide ((j:Int)=k))=true):((Yms.g i.toNat).data.toList=l)=(i=k):=by
 have:=List.all_eq_true.1 e _ (List.mem_range.2 (show i.toNat<12 by omega))
 rw[beq_iff_eq,decide_eq_decide]at this
 exact propext (this.trans ⟨λa=>by omega,λa=>by omega⟩)
theorem no2 {a b:Prop}(h:¬ a) (g:b):¬ (a\/¬ b):=λx=>x.elim h λx=>x g
theorem no3 {a b c:Prop}(h:¬ a) (g:b) (f:¬ c):¬ (a\/¬ b\/c):=λx=>x.elim h λx=>x.elim (λx=>x g) f
theorem no4 {a b:Prop}(h:a) (g:b):¬ (¬ a\/¬ b):=λx=>x.elim (λx=>x h) λx=>x g
theorem td2 (L:List YS_):List.take (L.length - 2) (List.drop 2 L)=L.drop 2:=ar (by rw[ax];omega)
theorem Y21t {L:List YS_}{m:YS}(hm:Ylt m) (hL:∀ x∈L,Yld x) (hl:L.length<=3000) (e:(Yl9 yX L m).e=0):(Ymh (Yl9 yX L m).v).length<=2147483647/\(Yl9 yX L m).v.length<=2147483647:=by
 have g:=Yzf (Y118 Y109 L m e) hL hm
 have h1:=g.siz
 have h2:=g.ok.2
 have h3:=hm.2
 have h4:=Y13p (Yl9 yX L m).v
 have h5:=Y15r (Ymh (Yl9 yX L m).v)
 have h6:=Yp7 (f:=yX) L m e
 exact⟨by omega,by omega⟩
theorem Y1z2 {x:YE}{s:YS_}(h:0<=hdN x s):1<=s.Ia.length:=by
 unfold hdN at h;split at h
 ·rename_i c;omega
 ·omega
abbrev Z4q (L:List YS_) (m:YS):Ct:=⟨81,stY m,[.y 0,Af L],stZ (Yl9 yX L m).m++[.Ak (Yl9 yX L m).v],.tup [.r 5,li (Yl9 yX L m).e]⟩
abbrev Zr (s:YS_) (m:YS):Ct:=⟨32,stY m,[.y 0,Yln s],stZ (yX s m).m++Y10h (yX s m).v,.tup [Y117 (yX s m).v 5,li (yX s m).e]⟩
def Z8r (L:List YS_) (m:YS):Lp Nat:=let v1:=Yl9 yX L m;let v2:Ob:=.Ac v1.m.Ba;let v3:Ob:=.Ad v1.m.Ma;.mk 32 3 (λx=>[(0,.y 0),(6,.r 3),(11,Af L),(12,li (L.map Yl1).length),(13,hs x 0)]) (λx=>[.box [.ref 4,.ref 5,ha x 3,ha x 4,ha x 5,ha x 6],.dead,.dead,ho x 7,ho x 1,ho x 2]) (λk=>[.s (li k),.o (.Ac (Yl9 yX (L.take k) m).m.Ba),.o (.Ad (Yl9 yX (L.take k) m).m.Ma),.a (vI (Yl9 yX (L.take k) m).m.Sb),.a (vI (Yl9 yX (L.take k) m).m.Va),.a (vI (Yl9 yX (L.take k) m).m.Sc),.a (vI (Yl9 yX (L.take k) m).m.z),.o (.Ak (Yl9 yX (L.take k) m).v)]) (λk=>k<=L.length/\L.length<=9223372036854775807/\(Yl9 yX (L.take k) m).e=0) (λk=>L.length - k) [.mk (v1.e=0) (.exit 0) (λx=>[(6,.r 3)]) (λx=>[.box [.ref 4,.ref 5,ha x 2,ha x 3,ha x 4,ha x 5],.dead,.dead,ho x 6,ho x 0,ho x 1]) [.o v2,.o v3,.a (vI v1.m.Sb),.a (vI v1.m.Va),.a (vI v1.m.Sc),.a (vI v1.m.z),.o (.Ak v1.v)],.mk (¬(Yl9 yX L m).e=0) .ret (λx=>[(4,hs x 6),(5,hs x 7)]) (λx=>[.box [.ref 3,.ref 4,ha x 2,ha x 3,ha x 4,ha x 5],.dead,.dead,ho x 0,ho x 1]) [.o v2,.o v3,.a (vI v1.m.Sb),.a (vI v1.m.Va),.a (vI v1.m.Sc),.a (vI v1.m.z),.s (.one nlA),.s (li v1.e)]]
theorem Zk0 (L:List YS_) (m:YS) (h:Ylt m/\(∀ (x:YS_),x∈L->Yld x)/\L.length<=2000) (ih:∀ (s:YS_) (q:YS),Ylt q/\Yld s/\m.z<=q.z->OK (Zr s q)):Lp.Sem prog (Yli f81 0) (Z8r L m):=Ylp (λk=>let v6:=L.g k;let v3:=Yl9 yX (L.take k) m;let v1:=yX v6 v3.m;let v2:=v3.v.map Ylo;let v4:Ob:=.Ac v1.m.Ba;let v5:Ob:=.Ad v1.m.Ma;.i ((k:Int)<(L.map Yl1).length) (.x (k:Int) (L.map Yl1) (Yl8 v6) (.d [.ptr,.rd] (Zr v6 v3.m) (.i (v1.e≠0) (.o 1 [0,1,2,10,11] [.o v4,.o v5,.a (vI v1.m.Sb),.a (vI v1.m.Va),.a (vI v1.m.Sc),.a (vI v1.m.z),.s (.one (.val (.y))),.s (li v1.e)]) (.p ((v2.length+1) * 120<=140737488355328) (.r ((k:Int)+1) (.g [0,1,2,17,10,11] (k+1) [.s (li ((k:Int)+1)),.o v4,.o v5,.a (vI v1.m.Sb),.a (vI v1.m.Va),.a (vI v1.m.Sc),.a (vI v1.m.z),.o (.y 8 (v3.v.map Ylo++[Ymz v1.v]))])))))) (.o 0 [0,1,2,3,4,5] [.o (.Ac v3.m.Ba),.o (.Ad v3.m.Ma),.a (vI v3.m.Sb),.a (vI v3.m.Va),.a (vI v3.m.Sc),.a (vI v3.m.z),.o (.y 8 v2)])) (by
 intro k h;try dsimp only[Yl3,Yle,Z8r]at h|-
 have hh := ‹Ylt m/\(∀ x∈L,Yld x)/\L.length<=2000›
 have g1:=kdX (k:=k) hh.1 hh.2.1 h.2.2
 have g2:k<L.length->Yld (L.g k):=λa=>hh.2.1 _ (Yl6 a)
 have g3:=λa b=>Yzh (f:=yX) (L:=L) (m:=m) (k:=k) a h.2.2 b
 have g4:=λa b=>Y101 (f:=yX) (L:=L) (m:=m) (k:=k) a h.2.2 b
 have g5:=λa=>Yzp (f:=yX) (L:=L) (m:=m) (k:=k) a
 exact z17)
theorem Z5a (L:List YS_) (m:YS) (h:Ylt m/\(∀ x∈L,Yld x)/\L.length<=2000) (ih:∀ (s:YS_) (q:YS),Ylt q/\Yld s/\m.z<=q.z->Zr s q):Z4q L m:=Ylh call81 func81 (let v1:=Yl9 yX L m;let v2:List AC:=[.ref 3,.ref 4,vI v1.m.Sb,vI v1.m.Va,vI v1.m.Sc,vI v1.m.z];let v3:=v1.m.Ba.map Yl2;.z Yl1 L (.w (.m 1) (.w (.m 2) (.w (.g (.nilreg 6 true 8)) (.l (Z8r L m) (Zk0 L m h ih) [0,1,2,5,3,4] [.s (li 0),.o (.Ac m.Ba),.o (.Ad m.Ma),.a (vI m.Sb),.a (vI m.Va),.a (vI m.Sc),.a (vI m.z),.o (.y 8 [])] 0 (.t (.f [4,5,3] [.box v2,.dead,.dead,.y 4 v3,.Ad v1.m.Ma,.Ak v1.v] (.tup [.r 5,li 0])) (.t (.w (.g (.nilreg 4 true 8)) (.f [3,4,5] [.box v2,.dead,.dead,.y 4 v3,.Ad v1.m.Ma,.y 8 []] (.tup [.r 5,li v1.e]))) .q))))))) (by
 dsimp only[Yl3,Z4q,Yle,Z8r]
 have g0:=Y11m (f:=yX) (L:=L) (m:=m)
 have g1:=λa=>Y11u (f:=yX) L m a
 exact z17)
abbrev Z6h (kd:Int) (P:List YS_) (B:List YS_) (m:YS):Ct:=⟨130,stY m,[.y 0,li kd,Af P,Af B],stZ (yPc yZ kd P B m).m++Y10h (yPc yZ kd P B m).v,.tup [Y117 (yPc yZ kd P B m).v 5,li (yPc yZ kd P B m).e]⟩
abbrev Zb (L:List YS_) (m:YS):Ct:=⟨132,stY m,[.y 0,Af L],stZ (yZ L m).m++Y10h (yZ L m).v,.tup [Y117 (yZ L m).v 5,li (yZ L m).e]⟩
theorem Z4g (kd:Int) (P B:List YS_) (m:YS) (h:Ylt m/\(∀ x∈P,Yld x)/\(∀ x∈B,Yld x)/\P.length<=2000/\B.length<=2000) (ihb:∀ (L:List YS_) (q:YS),Ylt q/\(∀ x∈L,Yld x)/\L.length<=2000/\m.z<=q.z->Zb L q):Z6h kd P B m:=Ylh call130 func130 (let v4:=yPr P 8 B m;let v1:=yZ v4.v.2 v4.m;let v2:=[vI 0,vI 0,.ref 5,vI 0,vI 0,vS (mkS []),.ref 6,.ref 7];let v3:Orc:=.ghost (.nilbox 3 6 true 4);let v5:List AC:=[.ref 3,.ref 4,vI v1.m.Sb,vI v1.m.Va,vI v1.m.Sc,vI v1.m.z];let v6:=v1.m.Ba.map Yl2;.d [.ptr,.rd,.rd,.rd] (Z6v m P 8 B) (.i (v4.e≠0) (.w (.g (.nilbox 3 2 true 1)) (.w v3 (.w (.g (.nilbox 3 7 true 8)) (.w (.m 2) (.f [7,13,10,11,12] [.box [.ref 3,.ref 4,vI v4.m.Sb,vI v4.m.Va,vI v4.m.Sc,vI v4.m.z],.dead,.dead,.Ac v4.m.Ba,.Ad v4.m.Ma,.y 1 [],.y 4 [],.y 8 []] (.tup [.agg v2,li v4.e])))))) (.d [.ptr,.rd] (Zb v4.v.2 v4.m) (.i (v1.e≠0) (.w (.g (.nilbox 3 2 true 1)) (.w v3 (.w (.g (.nilbox 3 7 true 8)) (.f [13,14,19,20,21] [.box v5,.dead,.dead,.y 4 v6,.Ad v1.m.Ma,.y 1 [],.y 4 [],.y 8 []] (.tup [.agg v2,li v1.e]))))) (.w v3 (.f [13,14,8,20,19] [.box v5,.dead,.dead,.y 4 v6,.Ad v1.m.Ma,.Aa v4.v.1,.y 4 [],.y 8 [Ymz v1.v]] (.tup [.agg [vI kd,vI 0,.ref 5,vI 0,vI 0,vS (mkS []),.ref 6,.ref 7],li 0]))))))) (by
 dsimp only[Yl3,Z6h]
 have g1:=Ywj (most:=8) h.1.1 h.2.1 h.2.2.1
 have g2:(yPr P 8 B m).e=0->Ylt (yPr P 8 B m).m/\(∀ x∈(yPr P 8 B m).v.2,Yld x)/\(yPr P 8 B m).v.2.length<=2000/\m.z<=(yPr P 8 B m).m.z:=λa=>by
  have k:=g1 a;have hz:=h.1.2
  exact⟨⟨k.1,by omega,by omega⟩,k.2.2.1,by omega,by omega⟩
 with_reducible repeat' (first|apply ah|exact zR|(intro)|apply Z6w)
 all_goals ((try simp only[std,inj]at *);with_reducible and_intros)
 all_goals try first|with_reducible (first|apply Z6w)|(simp only[<- aq];with_reducible first|apply Z6w)
 all_goals (try simp only[aI]at *)
 all_goals first
  | exact b9|exact h.1.1|omega
  | exact h.2.1 _ aW|exact h.2.2.1 _ aW
  | exact ihb _ _ (g2 aW)
  | (rw[Y264 aW]<;>rfl)
  | (rw[Y25d aW aW]<;>rfl)
  | (rw[Y20b aW aW]<;>rfl)
  | (rw[Y20b aW aW,<- Yqp]<;>rfl))
abbrev Zam (L:List YS_) (B:List YS_) (m:YS):Ct:=⟨133,stY m,[.y 0,Af L,Af B],stZ (yLs yZ L B m).m++Y10h (yLs yZ L B m).v,.tup [Y117 (yLs yZ L B m).v 5,li (yLs yZ L B m).e]⟩
def Z8s (L:List YS_) (B:List YS_) (m:YS):Lp Nat:=let v4:=yM1 (nxt m.Sb 1);let v8:=ySc 1 m;let v1:=Yl9 v4 L v8;let v5:Cell:=.y;let v2:=[vI 0,vI 0,.val v5,vI 0,vI 0,vS (mkS []),.val v5,.val v5];let v3:=(6,.y 3);let v6:Ob:=.Ac v1.m.Ba;let v7:Ob:=.Ad v1.m.Ma;.mk 103 3 (λx=>[(0,.y 0),(2,Af B),v3,(8,li (nxt m.Sb 1)),(10,.r 4),(72,Af L),(73,li (L.map Yl1).length),(74,hs x 0)]) (λx=>[.box [.ref 5,.ref 6,ha x 3,ha x 4,ha x 5,ha x 6],.dead,.dead,.box v2,.Ad (List.map (λx=>Ym2 (x.Ia.g 1)) L),ho x 1,ho x 2]) (λk=>[.s (li k),.o (.Ac (Yl9 v4 (L.take k) v8).m.Ba),.o (.Ad (Yl9 v4 (L.take k) v8).m.Ma),.a (vI (Yl9 v4 (L.take k) v8).m.Sb),.a (vI (Yl9 v4 (L.take k) v8).m.Va),.a (vI (Yl9 v4 (L.take k) v8).m.Sc),.a (vI (Yl9 v4 (L.take k) v8).m.z)]) (λk=>k<=L.length/\L.length<=9223372036854775807/\L.all (yLo m.Ba)/\cdN m.Sb (1:Int)=0/\(Yl9 v4 (L.take k) v8).e=0) (λk=>L.length - k) [.mk (v1.e=0) (.exit 2) (λx=>[(0,.y 0),(2,Af B),v3,(8,li (nxt m.Sb 1))]) (λx=>[.box [.ref 4,.ref 5,ha x 2,ha x 3,ha x 4,ha x 5],.dead,.dead,.box v2,ho x 0,ho x 1]) [.o v6,.o v7,.a (vI v1.m.Sb),.a (vI v1.m.Va),.a (vI v1.m.Sc),.a (vI v1.m.z)],.mk (¬(Yl9 v4 L v8).e=0) .ret (λx=>[v3,(7,hs x 7)]) (λx=>[.box [.ref 4,.ref 5,ha x 2,ha x 3,ha x 4,ha x 5],.dead,.dead,ho x 6,ho x 0,ho x 1]) [.o v6,.o v7,.a (vI v1.m.Sb),.a (vI v1.m.Va),.a (vI v1.m.Sc),.a (vI v1.m.z),.o nlB,.s (li v1.e)]]
def Z8t (L:List YS_) (B:List YS_) (m:YS):Lp Nat:=let v7:Cell:=.y;let v1:=[vI 0,vI 0,.val v7,vI 0,vI 0,vS (mkS []),.val v7,.val v7];let v8:=ySc 1 m;let v2:List AC:=[.ref 5,.ref 6,vI v8.Sb,vI v8.Va,vI v8.Sc,vI v8.z];let v3:=v8.Ba.map Yl2;let v4:=v8.Ma.map Ylc;let v5:=(6,.y 3);let v6:=L.map Yl1;.mk 103 3 (λx=>[(0,.y 0),(1,ll v6),(2,Af B),v5,(8,li (nxt m.Sb 1)),(10,.r 4),(27,ll v6),(28,li (L.map Yl1).length),(29,hs x 0)]) (λx=>[.box v2,.dead,.dead,.box v1,ho x 1,.y 4 v3,.y 3 v4]) (λk=>[.s (li k),.o (.Ad (List.map (λx=>Ym2 (x.Ia.g 1)) (L.take k)))]) (λk=>k<=L.length/\L.length<=9223372036854775807/\(L.take k).all (yLo m.Ba)/\cdN m.Sb (1:Int)=0) (λk=>L.length - k) [.mk (L.all (yLo m.Ba)) (.exit 0) (λx=>[(0,.y 0),(1,ll v6),(2,Af B),v5,(8,li (nxt m.Sb 1)),(10,.r 4)]) (λx=>[.box v2,.dead,.dead,.box v1,ho x 0,.y 4 v3,.y 3 v4]) [.o (.Ad (List.map (λx=>Ym2 (x.Ia.g 1)) L))],.mk (L.all (yLo m.Ba)=false) .ret (λx=>[v5,(7,hs x 1)]) (λx=>[.box [.ref 4,.ref 5,vI v8.Sb,vI v8.Va,vI v8.Sc,vI v8.z],.dead,.dead,ho x 0,.y 4 v3,.y 3 v4]) [.o nlB,.s (li 1)]]
theorem Zk1 (L:List YS_) (B:List YS_) (m:YS) (h:Ylt m/\(∀ (x:YS_),x∈L->Yld x)/\(∀ (x:YS_),x∈B->Yld x)/\L.length<=2000/\B.length<=2000) (ihb:∀ (L:List YS_) (q:YS),Ylt q/\(∀ (x:YS_),x∈L->Yld x)/\L.length<=2000/\m.z<=q.z->OK (Zb L q)):Lp.Sem prog (Yli f133 1) (Z8s L B m):=Ylp (λk=>let v1:=Yl9 (yM1 (nxt m.Sb 1)) (L.take k) (ySc 1 m);let v6:=L.g k;let v5:=v6.Ia.g 0;let v2:=Ylm (Ylu (nxt m.Sb 1)) v5;let v3:Cell:=.y;let v4:=Yl8 v5;.i ((k:Int)<(L.map Yl1).length) (.x (k:Int) (L.map Yl1) (Yl8 v6) (.w (.draw [(11,[0,5,6])]) (.w (.cells v4) (.p ((0:Int)<=0/\(v6.Ia.map Yl1)[0]? = some v4) (.d [.rd,.rd] (Z3q v5 (nxt m.Sb 1)) (.p (0<=(k:Int)/\(k:Int).toNat<((List.map (λx=>Ym2 (x.Ia.g 1)) L).map Ylc).length) (.w (.cells (Yod ((List.map (λx=>Ym2 (x.Ia.g 1)) L).g (k:Int).toNat))) (.p (((List.map (λx=>Ym2 (x.Ia.g 1)) L).map Ylc)[(k:Int).toNat]? = some (Yod ((List.map (λx=>Ym2 (x.Ia.g 1)) L).g (k:Int).toNat))) (.d [.ptr,.rd,.rd] (Z6s v1.m v2 ((List.map (λx=>Ym2 (x.Ia.g 1)) L).g (k:Int).toNat)) (.i ((yMc v2 ((List.map (λx=>Ym2 (x.Ia.g 1)) L).g (k:Int).toNat) v1.m).e≠0) (.o 1 [0,1,2,3,25,26] [.o (.Ac (yMc v2 ((List.map (λx=>Ym2 (x.Ia.g 1)) L).g (k:Int).toNat) v1.m).m.Ba),.o (.Ad (yMc v2 ((List.map (λx=>Ym2 (x.Ia.g 1)) L).g (k:Int).toNat) v1.m).m.Ma),.a (vI (yMc v2 ((List.map (λx=>Ym2 (x.Ia.g 1)) L).g (k:Int).toNat) v1.m).m.Sb),.a (vI (yMc v2 ((List.map (λx=>Ym2 (x.Ia.g 1)) L).g (k:Int).toNat) v1.m).m.Va),.a (vI (yMc v2 ((List.map (λx=>Ym2 (x.Ia.g 1)) L).g (k:Int).toNat) v1.m).m.Sc),.a (vI (yMc v2 ((List.map (λx=>Ym2 (x.Ia.g 1)) L).g (k:Int).toNat) v1.m).m.z),.o (.box [vI 0,vI 0,.val v3,vI 0,vI 0,vS (mkS []),.val v3,.val v3]),.s (li (yMc v2 ((List.map (λx=>Ym2 (x.Ia.g 1)) L).g (k:Int).toNat) v1.m).e)]) (.r ((k:Int)+1) (.g [0,1,2,3,4,25,26] (k+1) [.s (li ((k:Int)+1)),.o (.Ac (yMc v2 ((List.map (λx=>Ym2 (x.Ia.g 1)) L).g (k:Int).toNat) v1.m).m.Ba),.o (.Ad (yMc v2 ((List.map (λx=>Ym2 (x.Ia.g 1)) L).g (k:Int).toNat) v1.m).m.Ma),.a (vI (yMc v2 ((List.map (λx=>Ym2 (x.Ia.g 1)) L).g (k:Int).toNat) v1.m).m.Sb),.a (vI (yMc v2 ((List.map (λx=>Ym2 (x.Ia.g 1)) L).g (k:Int).toNat) v1.m).m.Va),.a (vI (yMc v2 ((List.map (λx=>Ym2 (x.Ia.g 1)) L).g (k:Int).toNat) v1.m).m.Sc),.a (vI (yMc v2 ((List.map (λx=>Ym2 (x.Ia.g 1)) L).g (k:Int).toNat) v1.m).m.z)])))))))))))) (.o 0 [0,1,2,3,5,6] [.o (.Ac v1.m.Ba),.o (.Ad v1.m.Ma),.a (vI v1.m.Sb),.a (vI v1.m.Va),.a (vI v1.m.Sc),.a (vI v1.m.z)])) (by
 intro k h;try dsimp only[Yl3,Yle,Z8s]at h|-
 have hh := ‹Ylt m/\(∀ x∈L,Yld x)/\_›
 have ha:=h.2.2.1
 have hc:=h.2.2.2.1
 have he:=h.2.2.2.2
 have gk:=Y1w8 hh.1.1 hh.2.1 ha hc (M:=L.take k) (λx hx=>bt hx) he
 have gr:=λa:k<L.length=>Y1r9 hh.1.1 hh.2.1 ha hc _ (Yl6 a)
 have gi:=λa:k<L.length=>Y18l (hh.2.1 _ (Yl6 a)) (List.all_eq_true.1 ha _ (Yl6 a))
 have gm:k<L.length->(L.map λx=>Ym2 (x.Ia.g 1)).g k=Ym2 ((L.g k).Ia.g 1):=λa=>by simp[ao,a]
 have gw:k<L.length->(List.map Ylc (L.map λx=>Ym2 (x.Ia.g 1)))[k]? = some (Yod (Ym2 ((L.g k).Ia.g 1))):=λa=>by rw[<- gm a];exact Yqu (by rw[aO];exact a)
 have hl:=hh.2.2.2.1
 with_reducible repeat' (first|apply ah|exact zR|(intro)|apply Za|apply Z5|apply Z8|apply Zz|apply Ze)
 all_goals ((try simp only[std,inj]at *);with_reducible and_intros)
 all_goals try first|with_reducible (first|apply Za|apply Z5|apply Z8|apply Zz|apply Ze)|(simp only[<- aq];with_reducible first|apply Za|apply Z5|apply Z8|apply Zz|apply Ze)
 all_goals (try simp only[aI]at *)
 all_goals (try (have hk:k<L.length:=by omega);try rw[gm hk]at *)
 all_goals first
  | exact b9|omega|exact Yqu oW|exact gw oW|exact gk.1|exact ha|exact hc|exact he
  | (have:=(gi oW).1;exact Yqu oW)
  | exact aN (Ymx (gr oW).1).1 oW|exact aN (Ymx (gi oW).2.2.1).1 oW|exact(gr oW).2.2
  | (rw[Y208 oW he aW];first|done|exact aW|rfl)
  | (rw[Y22w oW he aW]<;>rfl)
  | (rw[<- Yzp (f:=yM1 (nxt m.Sb 1)) (L:=L) (m:=ySc 1 m) (k:=k) oW];first|done|exact he)
  | skip)
theorem Zk2 (L:List YS_) (B:List YS_) (m:YS) (h:Ylt m/\(∀ (x:YS_),x∈L->Yld x)/\(∀ (x:YS_),x∈B->Yld x)/\L.length<=2000/\B.length<=2000) (ihb:∀ (L:List YS_) (q:YS),Ylt q/\(∀ (x:YS_),x∈L->Yld x)/\L.length<=2000/\m.z<=q.z->OK (Zb L q)):Lp.Sem prog (Yli f133 0) (Z8t L B m):=Ylp (λk=>let v4:Cell:=.y;let v1:Ob:=.box [vI 0,vI 0,.val v4,vI 0,vI 0,vS (mkS []),.val v4,.val v4];let v2:=L.g k;let v3:=v2.Ia.g 1;let v5:=v2.Ia.g 0;let v6:Tq _ _:=.y true (.o 1 [0,1,2,3,5,6] [.o v1,.s (li 1)]);.i ((k:Int)<(L.map Yl1).length) (.x (k:Int) (L.map Yl1) (Yl8 v2) (.i (v2.Ka≠0) (.y true v6) (.z Yl1 v2.Ia (.i (((v2.Ia.map Yl1).length:Int)≠2) v6 (.w (.cells (Yl8 v5)) (.p ((0:Int)<=0/\(v2.Ia.map Yl1)[0]? = some (Yl8 v5)) (.i (v5.Ka≠1) (.o 1 [0,1,2,3,5,6] [.o v1,.s (li 1)]) (.w (.draw [(14,[22])]) (.w (.cells (Yl8 v3)) (.p ((0:Int)<=1/\(v2.Ia.map Yl1)[1]? = some (Yl8 v3)) (.d [.rd,.rd] (Z2x (ySc 1 m).Ba v3) (.b (!Ymt (ySc 1 m).Ba v3) (.o 1 [0,1,2,3,5,6] [.o v1,.s (li 1)]) (.p ((((List.map (λx=>Ym2 (x.Ia.g 1)) (L.take k)).map Ylc).length+1) * 72<=140737488355328) (.r ((k:Int)+1) (.g [0,1,2,3,24,5,6] (k+1) [.s (li ((k:Int)+1)),.o (.y 3 ((List.map (λx=>Ym2 (x.Ia.g 1)) (L.take k)).map Ylc++[Yod (Yno (ySc 1 m).Ba v3)]))]))))))))))))))) (.o 0 [0,1,2,3,4,5,6] [.o (.Ad (List.map (λx=>Ym2 (x.Ia.g 1)) (L.take k)))])) (by
 intro k h;try dsimp only[Yl3,Yle,Z8t]at h|-
 have hh := ‹Ylt m/\(∀ x∈L,Yld x)/\_›
 have w:=Yrd hh.1.1
 have w1:=w.1
 have w2:=w.2.1
 have hs0:k<L.length->Yld (L.g k):=λa=>hh.2.1 _ (Yl6 a)
 have tk:(L.take k).length<=L.length:=by rw[au];omega
 have hl:=hh.2.2.2.1
 with_reducible repeat' (first|apply ah|exact zR|(intro)|apply Za|apply Z5|apply Z8|apply Zz|apply Ze)
 all_goals ((try simp only[std,inj]at *);with_reducible and_intros)
 all_goals try first|with_reducible (first|apply Za|apply Z5|apply Z8|apply Zz|apply Ze)|(simp only[<- aq];with_reducible first|apply Za|apply Z5|apply Z8|apply Zz|apply Ze)
 all_goals (try simp only[aI]at *)
 all_goals first
  | exact b9|omega|exact Yqu oW|exact h.2.2.1|exact h.2.2.2
  | exact aN (Ymx (Yoh (hs0 oW) oW)).1 oW
  | exact Y1c7 (k:=k) oW (Y23u aW)|exact Y1c7 (k:=k) oW (Y24u aW)|exact Y1c7 (k:=k) oW (Y24q aW)|exact Y1c7 (k:=k) oW (Y24f aW)
  | (rw[Y1yx oW,h.2.2.1,Y25r aW aW aW aW]<;>rfl)
  | (rw[Ylk oW,aq,aq,Y17g aW]<;>rfl)
  | (rw[<- h.2.2.1,ar (l:=L) (i:=k) oW];done)
  | (rw[ar (l:=L) (i:=k) oW];done)
  | skip)
theorem Zec (L B:List YS_) (m:YS) (h:Ylt m/\(∀ x∈L,Yld x)/\(∀ x∈B,Yld x)/\L.length<=2000/\B.length<=2000) (ihb:∀ (L:List YS_) (q:YS),Ylt q/\(∀ x∈L,Yld x)/\L.length<=2000/\m.z<=q.z->Zb L q):Zam L B m:=Ylh call133 func133 (let v11:=nxt m.Sb 1;let v10:=ySc 1 m;let v7:=Yl9 (yM1 v11) L v10;let v1:=yZ (yAd v11 B) v7.m;let v8:=v10.Ba.map Yl2;let v9:=v10.Ma.map Ylc;let v2:List Ob:=[.box [.ref 3,.ref 4,vI v10.Sb,vI v10.Va,vI v10.Sc,vI v10.z],.dead,.dead,.y 4 v8,.y 3 v9,.y 1 [],.y 4 [],.y 8 []];let v3:=[vI 0,vI 0,.ref 5,vI 0,vI 0,vS (mkS []),.ref 6,.ref 7];let v4:Orc:=.ghost (.nilbox 3 7 true 8);let v5:Orc:=.ghost (.nilbox 3 6 true 4);let v6:Orc:=.ghost (.nilbox 3 2 true 1);.d [.ptr,.rd] (Z4o m 1) (.i (cdN m.Sb (1:Int)≠0) (.w v6 (.w v5 (.w v4 (.w (.m 1) (.w (.m 2) (.f [7,8,4,5,6] v2 (.tup [.agg [vI 0,vI 0,.ref 5,vI 0,vI 0,vS (mkS []),.ref 6,.ref 7],li (cdN m.Sb 1)]))))))) (.z Yl1 L (.w (.g (.nilreg 10 true 3)) (.w (.m 1) (.w (.m 2) (.l (Z8t L B m) (Zk2 L B m h ihb) [0,1,2,3,4,5,6] [.s (li 0),.o (.y 3 [])] 0 (.t (.z Yl1 L (.l (Z8s L B m) (Zk1 L B m h ihb) [0,1,2,3,4,5,6] [.s (li 0),.o (.y 4 v8),.o (.y 3 v9),.a (vI v10.Sb),.a (vI v10.Va),.a (vI v10.Sc),.a (vI v10.z)] 0 (.t (.d [.rd,.rd] (Z4p B v11) (.d [.ptr,.rd] (Zb (yAd v11 B) v7.m) (.f [10,11,12,13,14] [.box [.ref 3,.ref 4,vI v1.m.Sb,vI v1.m.Va,vI v1.m.Sc,vI v1.m.z],.dead,.dead,.Ac v1.m.Ba,.Ad v1.m.Ma,.Aa v1.v.Pa,.Ah v1.v.Da.Ia,.Ak v1.v.Kb] (.tup [.agg [vI v1.v.Ka,vI v1.v.Na,.ref 5,vI v1.v.Da.Ka,vI v1.v.Da.Na,vS v1.v.Da.Ta,.ref 6,.ref 7],li v1.e])))) (.t (.w v6 (.w v5 (.w v4 (.f [4,5,6,7,8] [.box [.ref 3,.ref 4,vI v7.m.Sb,vI v7.m.Va,vI v7.m.Sc,vI v7.m.z],.dead,.dead,.Ac v7.m.Ba,.Ad v7.m.Ma,.y 1 [],.y 4 [],.y 8 []] (.tup [.agg v3,li v7.e]))))) .q)))) (.t (.w v6 (.w v5 (.w v4 (.f [4,5,6,7,8] v2 (.tup [.agg v3,li 1]))))) .q))))))))) (by
 dsimp only[Yl3,Zam,Yle,Z8t,Z8s]
 have hn:=@Yq4 m.Sb 1 (Yrd h.1.1).2.2.1.1
 have hA:cdN m.Sb 1=0->∀ x∈yAd (nxt m.Sb 1) B,Yld x:=λa=>Ys2 ⟨(hn a).1,(hn a).2.1⟩ h.2.2.1
 have hl:(yAd (nxt m.Sb 1) B).length=B.length:=by simp[yAd]
 have gk:=λa b=>Y1w8 (L:=L) h.1.1 h.2.1 a b (M:=L) (λ_ hx=>hx)
 have gy:cdN m.Sb 1=0->L.all (yLo m.Ba)->(Yl9 (yM1 (nxt m.Sb 1)) L (ySc 1 m)).e=0->OK (Zb (yAd (nxt m.Sb 1) B) (Yl9 (yM1 (nxt m.Sb 1)) L (ySc 1 m)).m):=λa b c=>ihb _ _ ⟨⟨(gk b a c).1,by rw[(gk b a c).2];exact h.1.2⟩,hA a,by rw[hl];exact h.2.2.2.2,by rw[(gk b a c).2];omega⟩
 have hl2:=h.2.2.2.1
 have hl3:=h.2.2.2.2
 with_reducible repeat' (first|apply ah|exact zR|(intro)|apply Za|apply Z5|apply Z8|apply Zz|apply Ze)
 all_goals ((try simp only[std,inj]at *);with_reducible and_intros)
 all_goals try first|with_reducible (first|apply Za|apply Z5|apply Z8|apply Zz|apply Ze)|(simp only[<- aq];with_reducible first|apply Za|apply Z5|apply Z8|apply Zz|apply Ze)
 all_goals (try simp only[aI]at *)
 all_goals first
  | exact b9|omega|rfl|exact h.1.1|exact aW|exact gy aW aW aW|exact h.2.2.1 _ aW
  | (rw[Y25l aW]<;>rfl)
  | (rw[Y25o aW aW]<;>rfl)
  | (rw[Y26e aW aW aW]<;>rfl)
  | (rw[Y256 aW aW aW]<;>rfl)
  | skip)
abbrev Zcp (s:YS_) (k0:Int) (m:YS):Ct:=⟨80,stY m,[.y 0,Yln s,li k0],stZ (yFm yX yZ k0 s m).m++Y10h (yFm yX yZ k0 s m).v,.tup [Y117 (yFm yX yZ k0 s m).v 5,li (yFm yX yZ k0 s m).e]⟩
theorem Zan (s:YS_) (k0:Int) (m:YS) (h:Ylt m/\Yld s/\0<=k0/\k0<=11/\1<=s.Ia.length) (ih:∀ (s:YS_) (q:YS),Ylt q/\Yld s/\m.z<=q.z->Zr s q) (ihb:∀ (L:List YS_) (q:YS),Ylt q/\(∀ x∈L,Yld x)/\L.length<=2000/\m.z<=q.z->Zb L q):Zcp s k0 m:=Ylh call80 func80 (let v10:=s.Ia.map Yl1;let v1:=List.take (v10.length - 2) (s.Ia.drop 2);let v20:Orc:=.ghost (.nilbox 4 2 true 1);let v19:Orc:=.ghost (.nilbox 4 6 true 4);let v33:Orc:=.ghost (.nilbox 4 7 true 8);let v46:List AC:=[.ref 3,.ref 4,vI m.Sb,vI m.Va,vI m.Sc,vI m.z];let v49:=m.Ba.map Yl2;let v51:=m.Ma.map Ylc;let v11:List Ob:=[.box v46,.dead,.dead,.y 4 v49,.y 3 v51,.y 1 [],.y 4 [],.y 8 []];let v47:=mkS [];let v12:=[vI 0,vI 0,.ref 5,vI 0,vI 0,vS v47,.ref 6,.ref 7];let v2:Tq _ _:=.w v20 (.w v19 (.w v33 (.w (.m 1) (.w (.m 2) (.f [9,10,6,7,8] v11 (.tup [.agg v12,li 1]))))));let v3:=List.take (v10.length - 1) (s.Ia.drop 1);let v4:=s.Ia.g 1;let v5:List Ob:=[.box [.ref 1,.ref 2,vI m.Sb,vI m.Va,vI m.Sc,vI m.z],.y 4 v49,.y 3 v51];let v6:=List.take 1 (s.Ia.drop 1);let v7:Tq _ _:=.w v20 (.w v19 (.w v33 (.w (.m 1) (.w (.m 2) (.f [9,10,6,7,8] v11 (.tup [.agg v12,li 5]))))));let v44:=s.Ia.g 2;let v8:=yX v44 m;let v17:=yPr v4.Ia 60 v1 m;let v9:=Yl9 yX v17.v.2 v17.m;let v34:=Yl9 yX v3 m;let v13:List AC:=[.ref 3,.ref 4,vI v34.m.Sb,vI v34.m.Va,vI v34.m.Sc,vI v34.m.z];let v14:=yPc yZ 5 v4.Ia v1 m;let v15:=yLs yZ v4.Ia v1 m;let v27:=yPc yZ 11 v6 v1 m;let v16:List Ob:=[.box [.ref 3,.ref 4,vI v27.m.Sb,vI v27.m.Va,vI v27.m.Sc,vI v27.m.z],.dead,.dead,.Ac v27.m.Ba,.Ad v27.m.Ma,.Aa v27.v.Pa,.Ah v27.v.Da.Ia,.Ak v27.v.Kb];let v38:=Yl8 v4;let v18:=(0:Int)<=1/\v10[1]? = some v38;let v21:=Yms.g k0.toNat;let v54:AC:=.ptr 0 0;let v43:List SV:=[.one v54,ll (List.take (v10.length - 1) (v10.drop 1))];let v41:=v34.m.Ba.map Yl2;let v42:=v34.m.Ma.map Ylc;let v22:=Ynw prog 81 v5 v43 [.box v13,.dead,.dead,.y 4 v41,.y 3 v42,.Ak v34.v] (.tup [.r 5,li v34.e]);let v23:List Ob:=[.box [.ref 3,.ref 4,vI v15.m.Sb,vI v15.m.Va,vI v15.m.Sc,vI v15.m.z],.dead,.dead,.Ac v15.m.Ba,.Ad v15.m.Ma,.Aa v15.v.Pa,.Ah v15.v.Da.Ia,.Ak v15.v.Kb];let v24:List Ob:=[.box [.ref 3,.ref 4,vI v14.m.Sb,vI v14.m.Va,vI v14.m.Sc,vI v14.m.z],.dead,.dead,.Ac v14.m.Ba,.Ad v14.m.Ma,.Aa v14.v.Pa,.Ah v14.v.Da.Ia,.Ak v14.v.Kb];let v25:Tq _ _:=.w v20 (.w v19 (.w v33 (.f [9,10,12,13,14] [.box v13,.dead,.dead,.y 4 v41,.y 3 v42,.y 1 [],.y 4 [],.y 8 []] (.tup [.agg v12,li v34.e]))));let v26:=((s.Ia.map Yl1).length:Int);let v39:List AC:=[.ref 3,.ref 4,vI v9.m.Sb,vI v9.m.Va,vI v9.m.Sc,vI v9.m.z];let v57:=v9.m.Ba.map Yl2;let v28:List Ob:=[.box v39,.dead,.dead,.y 4 v57,.Ad v9.m.Ma,.y 1 [],.y 4 [],.y 8 []];let v37:=yZ v3 m;let v29:List AC:=[.ref 3,.ref 4,vI v37.m.Sb,vI v37.m.Va,vI v37.m.Sc,vI v37.m.z];let v30:AV:=.tup [.agg [vI v15.v.Ka,vI v15.v.Na,.ref 5,vI v15.v.Da.Ka,vI v15.v.Da.Na,vS v15.v.Da.Ta,.ref 6,.ref 7],li v15.e];let v31:AV:=.tup [.agg [vI v14.v.Ka,vI v14.v.Na,.ref 5,vI v14.v.Da.Ka,vI v14.v.Da.Na,vS v14.v.Da.Ta,.ref 6,.ref 7],li v14.e];let v32:=sqV v34.v;let v35:AV:=.tup [.agg [vI v27.v.Ka,vI v27.v.Na,.ref 5,vI v27.v.Da.Ka,vI v27.v.Da.Na,vS v27.v.Da.Ta,.ref 6,.ref 7],li v27.e];let v36:=List.take (v10.length - 2) (v10.drop 2);let v40:List AC:=[.ref 3,.ref 4,vI v8.m.Sb,vI v8.m.Va,vI v8.m.Sc,vI v8.m.z];let v45:=v37.m.Ba.map Yl2;let v48:=v37.m.Ma.map Ylc;let v50:=v4.Ia.map Yl1;let v52:=(0:Int)<=2;let v53:=(0:Int)<=1;let v55:=rsB m.Ba v4.Ta v4.Sa;let v56:=v17.m.Ba.map Yl2;let v58:=v8.m.Ba.map Yl2;.z Yl1 s.Ia (.c [] Zx (.p (0<=k0/\k0.toNat<12) (.w (.cells (Ymj v21)) (.p ((Yms.map Ymj)[k0.toNat]? = some [cS v21]) (.i (v21.data.toList=[113,117,111,116,101]) (.i (v26≠2) v2 (.w (.cells v38) (.p v18 (.d [.rd] (Z2t v4) (.c [.rd] (Z3y (yDt v4)) (.b (!Ynp (yDt v4)) (.w v20 (.w v19 (.w v33 (.w (.m 1) (.w (.m 2) (.f [11,12,8,9,10] v11 (.tup [.agg v12,li 8]))))))) (.w v20 (.w v33 (.w (.m 1) (.w (.m 2) (.f [10,11,8,6,9] [.box v46,.dead,.dead,.y 4 v49,.y 3 v51,.y 1 [],.Ah (yDt v4).Ia,.y 8 []] (.tup [.agg [vI 1,vI 0,.ref 5,vI (yDt v4).Ka,vI (yDt v4).Na,vS (yDt v4).Ta,.ref 6,.ref 7],li 0])))))))))))) (.i (v21.data.toList=[105,102]) (.i (v26≠4) v2 (.p v53 (.p (1<=v10.length/\v10.length<=v10.length/\∀ (x0:List Cell),x0∈s.Ia.map Yl1->x0.length=5) (.u [.ptr,.rd] (Z4q v3 m) (.p v22 (.i (v34.e≠0) v25 (.w v20 (.w v19 (.f [9,10,12,13,11] [.box v13,.dead,.dead,.y 4 v41,.y 3 v42,.y 1 [],.y 4 [],.Ak v34.v] (.tup [.agg [vI 7,vI 0,.ref 5,vI 0,vI 0,vS v47,.ref 6,.ref 7],li 0])))))))))) (.i (v21.data.toList=[98,101,103,105,110]) (.i (v26<2) v2 (.p v53 (.p (1<=v10.length/\v10.length<=v10.length/\∀ (x0:List Cell),x0∈s.Ia.map Yl1->x0.length=5) (.u [.ptr,.rd] (Z4q v3 m) (.p v22 (.i (v34.e≠0) v25 (.d [.own true 8] (Zak v34.v) (.f [9,10,13,14,15] [.box v13,.dead,.dead,.y 4 v41,.y 3 v42,.Aa v32.Pa,.Ah v32.Da.Ia,.Ak v32.Kb] (.tup [.agg [vI v32.Ka,vI v32.Na,.ref 5,vI v32.Da.Ka,vI v32.Da.Na,vS v32.Da.Ta,.ref 6,.ref 7],li (sqE v34.v)]))))))))) (.i (v21.data.toList=[108,97,109,98,100,97]) (.i (v26<3) (.y true v2) (.w (.cells v38) (.p v18 (.i (v4.Ka≠0) v2 (.w (.draw [(9,[0,1,2]),(12,[4])]) (.w (.cells v38) (.p v18 (.p v52 (.p (2<=v10.length/\v10.length<=v10.length/\∀ (x0:List Cell),x0∈s.Ia.map Yl1->x0.length=5) (.u [.ptr,.rd,.rd,.rd] (Z6h 5 v4.Ia v1 m) (.p (Ynw prog 130 v5 [SV.one v54,li 5,ll v50,ll v36] v24 v31) (.f [15,16,17,18,19] v24 v31)))))))))))) (.i (v21.data.toList=[115,104,105,102,116]) (.i (v26<3) v2 (.w (.draw [(7,[0,1,2]),(10,[4])]) (.p v53 (.p v52 (.p (1<=2/\2<=v10.length/\∀ (x0:List Cell),x0∈s.Ia.map Yl1->x0.length=5) (.p v52 (.p (2<=v10.length/\v10.length<=v10.length/\∀ (x0:List Cell),x0∈s.Ia.map Yl1->x0.length=5) (.u [.ptr,.rd,.rd,.rd] (Z6h 11 v6 v1 m) (.p (Ynw prog 130 v5 [SV.one v54,li 11,ll (List.take 1 (v10.drop 1)),ll v36] v16 v35) (.f [13,14,15,16,17] v16 v35)))))))))) (.i (v21.data.toList=[108,111,99,97,108]) (.i (v26<3) (.y true (.y true v2)) (.w (.cells v38) (.p v18 (.i (v4.Ka≠0) (.y true v2) (.w (.cells v38) (.p v18 (.z Yl1 v4.Ia (.i (((v4.Ia.map Yl1).length:Int)=0) v2 (.w (.draw [(9,[0,1,2])]) (.w (.cells v38) (.p v18 (.p v52 (.p (2<=v10.length/\v10.length<=v10.length/\∀ (x0:List Cell),x0∈s.Ia.map Yl1->x0.length=5) (.u [.ptr,.rd,.rd,.rd] (Z6v m v4.Ia 60 v1) (.p (Ynw prog 131 v5 [SV.one v54,ll v50,li 60,ll v36] [Ob.box [AC.ref 3,AC.ref 2,vI v17.m.Sb,vI v17.m.Va,vI v17.m.Sc,vI v17.m.z],Ob.dead,Ob.arr true 3 (v17.m.Ma.map Ylc),Ob.arr true 4 v56,Ob.arr true 1 (v17.v.1.map Yl4),Ob.arr true 5 (v17.v.2.map Yl1)] (AV.tup [SV.one (AC.ref 4),SV.one (AC.ref 5),li v17.e])) (.i (v17.e≠0) (.w v20 (.w v19 (.w v33 (.w (.m 2) (.f [15,21,18,19,20] [.box [.ref 3,.ref 4,vI v17.m.Sb,vI v17.m.Va,vI v17.m.Sc,vI v17.m.z],.dead,.dead,.y 4 v56,.Ad v17.m.Ma,.y 1 [],.y 4 [],.y 8 []] (.tup [.agg v12,li v17.e])))))) (.d [.ptr,.rd] (Z4q v17.v.2 v17.m) (.i (v9.e≠0) (.w v20 (.w v19 (.w v33 (.f [21,22,24,25,26] v28 (.tup [.agg v12,li v9.e]))))) (.z Ylo v9.v (.i (60<((v9.v.map Ylo).length:Int)) (.w v20 (.w v19 (.w v33 (.f [21,22,24,25,26] v28 (.tup [.agg v12,li 8]))))) (.w v19 (.f [21,22,16,24,23] [.box v39,.dead,.dead,.y 4 v57,.Ad v9.m.Ma,.Aa v17.v.1,.y 4 [],.Ak v9.v] (.tup [.agg [vI 9,vI 0,.ref 5,vI 0,vI 0,vS v47,.ref 6,.ref 7],li 0]))))))))))))))))))))))) (.i (v21.data.toList=[115,101,116,33]) (.i (v26≠3) (.y true v2) (.w (.cells v38) (.p v18 (.i (v4.Ka≠1) v2 (.w (.cells v38) (.p v18 (.d [.ptr,.rd] (Z8p m v4) (.i (yRe m.Ba v4.Ta v4.Sa≠0) (.w v20 (.w v19 (.w v33 (.w (.m 1) (.w (.m 2) (.f [10,11,7,8,9] v11 (.tup [.agg v12,li (yRe m.Ba v4.Ta v4.Sa)]))))))) (.i (v55.Ka≠3) (.w v20 (.w v19 (.w v33 (.w (.m 1) (.w (.m 2) (.f [10,11,7,8,9] v11 (.tup [.agg v12,li 1]))))))) (.w (.cells (Yl8 v44)) (.p ((0:Int)<=2/\v10[2]? = some (Yl8 v44)) (.d [.ptr,.rd] (Zr v44 m) (.i (v8.e≠0) (.w v20 (.w v19 (.w v33 (.f [10,11,16,17,18] [.box v40,.dead,.dead,.y 4 v58,.Ad v8.m.Ma,.y 1 [],.y 4 [],.y 8 []] (.tup [.agg v12,li v8.e]))))) (.w v20 (.w v19 (.f [10,11,17,18,16] [.box v40,.dead,.dead,.y 4 v58,.Ad v8.m.Ma,.y 1 [],.y 4 [],.y 8 [Ymz v8.v]] (.tup [.agg [vI 4,vI v55.Na,.ref 5,vI 0,vI 0,vS v47,.ref 6,.ref 7],li 0]))))))))))))))))) (.i (v21.data.toList=[114,101,115,101,116]) (.i (v26<2) v2 (.p v53 (.p (1<=v10.length/\v10.length<=v10.length/\∀ (x0:List Cell),x0∈s.Ia.map Yl1->x0.length=5) (.u [.ptr,.rd] (Zb v3 m) (.p (Ynw prog 132 v5 v43 [Ob.box v29,Ob.dead,Ob.dead,Ob.arr true 4 v45,Ob.arr true 3 v48,Ob.arr true 1 (v37.v.Pa.map Yl4),Ob.arr true 4 (v37.v.Da.Ia.map Ylf),Ob.arr true 8 (v37.v.Kb.map Ylo)] (AV.tup [SV.agg [vI v37.v.Ka,vI v37.v.Na,AC.ref 5,vI v37.v.Da.Ka,vI v37.v.Da.Na,vS v37.v.Da.Ta,AC.ref 6,AC.ref 7],li v37.e])) (.i (v37.e≠0) (.w v20 (.w v19 (.w v33 (.f [9,10,15,16,17] [.box v29,.dead,.dead,.y 4 v45,.y 3 v48,.y 1 [],.y 4 [],.y 8 []] (.tup [.agg v12,li v37.e]))))) (.w v20 (.w v19 (.f [9,10,16,17,15] [.box v29,.dead,.dead,.y 4 v45,.y 3 v48,.y 1 [],.y 4 [],.y 8 [Ymz v37.v]] (.tup [.agg [vI 10,vI 0,.ref 5,vI 0,vI 0,vS v47,.ref 6,.ref 7],li 0])))))))))) (.i (v21.data.toList=[108,101,116,45,115,121,110,116,97,120]) (.i (v26<3) (.y true v2) (.w (.cells v38) (.p v18 (.i (v4.Ka≠0) v2 (.w (.draw [(9,[0,1,2]),(12,[4])]) (.w (.cells v38) (.p v18 (.p v52 (.p (2<=v10.length/\v10.length<=v10.length/\∀ (x0:List Cell),x0∈s.Ia.map Yl1->x0.length=5) (.u [.ptr,.rd,.rd] (Zam v4.Ia v1 m) (.p (Ynw prog 133 v5 [SV.one v54,ll v50,ll v36] v23 v30) (.f [15,16,17,18,19] v23 v30)))))))))))) (.i (v21.data.toList=[100,101,102,105,110,101]) (.y true v7) (.i (v21.data.toList=[100,101,102,105,110,101,45,115,121,110,116,97,120]) v7 v2)))))))))))))))) (by
 dsimp only[Yl3,Zcp]
 have hm:=h.1
 have hs:=h.2.1
 have hk:0<=k0/\k0<=11:=⟨h.2.2.1,h.2.2.2.1⟩
 have hl:=Ytk hs
 have h5:=h.2.2.2.2
 have w:=Yrd hm.1
 have w1:=w.1
 have w2:=w.2.1
 have hI:=λ(i:Nat) (c:i<s.Ia.length)=>Yoh hs c
 have hJ:=λ(i:Nat) (c:i<s.Ia.length)=>Ytk (hI i c)
 have d1:∀ x∈s.Ia.drop 1,Yld x:=λx hx=>Ynf hs (aG hx)
 have d2:∀ x∈s.Ia.drop 2,Yld x:=λx hx=>Ynf hs (aG hx)
 have dt:∀ x∈(s.Ia.drop 1).take 1,Yld x:=λx hx=>Ynf hs (aG (bt hx))
 have da:1<s.Ia.length->∀ x∈(s.Ia.g 1).Ia,Yld x:=λc x hx=>Ynf (hI 1 c) hx
 have l1:(s.Ia.drop 1).length=s.Ia.length - 1:=ax
 have l2:(s.Ia.drop 2).length=s.Ia.length - 2:=ax
 have l3:((s.Ia.drop 1).take 1).length<=1:=by rw[au];omega
 have gP:=λ(c:1<s.Ia.length) (a:(yPr (s.Ia.g 1).Ia 60 (s.Ia.drop 2) m).e=0)=>Ywj (most:=60) hm.1 (da c) d2 a
 have gM:1<s.Ia.length->(yPr (s.Ia.g 1).Ia 60 (s.Ia.drop 2) m).e=0->Ylt (yPr (s.Ia.g 1).Ia 60 (s.Ia.drop 2) m).m:=λc a=>⟨(gP c a).1,by have:=(gP c a).2.1;have:=hm.2;omega,by have:=(gP c a).2.1;have:=hm.2;omega⟩
 have iP:1<s.Ia.length->(yPr (s.Ia.g 1).Ia 60 (s.Ia.drop 2) m).e=0->∀ (s1:YS_) (q:YS),Ylt q/\Yld s1/\(yPr (s.Ia.g 1).Ia 60 (s.Ia.drop 2) m).m.z<=q.z->Ylt q/\Yld s1/\m.z<=q.z:=λc a s1 q d=>⟨d.1,d.2.1,by have:=(gP c a).2.1;have:=d.2.2;omega⟩
 have c1:=Z5a (s.Ia.drop 1) m ⟨hm,d1,by omega⟩ ih
 have c2:=λa:1<s.Ia.length=>Z4g 5 (s.Ia.g 1).Ia (s.Ia.drop 2) m ⟨hm,da a,d2,by have:=hJ 1 a;omega,by omega⟩ ihb
 have c3:=Z4g 11 ((s.Ia.drop 1).take 1) (s.Ia.drop 2) m ⟨hm,dt,d2,by omega,by omega⟩ ihb
 have c4:=λa:1<s.Ia.length=>Z6w m (s.Ia.g 1).Ia 60 (s.Ia.drop 2) ⟨hm.1,da a,d2,by have:=hJ 1 a;omega,by omega⟩
 have c5:=ihb (s.Ia.drop 1) m ⟨hm,d1,by omega,aJ _⟩
 have c6:=λa:1<s.Ia.length=>Zec (s.Ia.g 1).Ia (s.Ia.drop 2) m ⟨hm,da a,d2,by have:=hJ 1 a;omega,by omega⟩ ihb
 dsimp only[Z4q,Z6h,Z6v,Zb,Zam,List.cons_append,List.nil_append]at c1 c2 c3 c4 c5 c6
 have k1:=λa=>Y21t (L:=s.Ia.drop 1) hm d1 oW a
 with_reducible repeat' (first|apply ah|exact zR|exact ih|(intro)|apply Zx|apply Z65|apply Z3y|apply Z5a|apply Zal|apply Z4g|apply Z6w|apply Z4f|apply Zec)
 all_goals ((try simp only[std,inj]at *);with_reducible and_intros)
 all_goals try first|with_reducible (first|apply Zx|apply Z65|apply Z3y|apply Z5a|apply Zal|apply Z4g|apply Z6w|apply Z4f|apply Zec|apply ih)|(simp only[<- aq];with_reducible first|apply Zx|apply Z65|apply Z3y|apply Z5a|apply Zal|apply Z4g|apply Z6w|apply Z4f|apply Zec|apply ih)
 all_goals (try simp only[aI,Y1vw,td2,fnE hk [113,117,111,116,101] 0 (by decide +kernel),fnE hk [105,102] 2 (by decide +kernel),fnE hk [98,101,103,105,110] 4 (by decide +kernel),fnE hk [108,97,109,98,100,97] 1 (by decide +kernel),fnE hk [115,104,105,102,116] 6 (by decide +kernel),fnE hk [108,111,99,97,108] 11 (by decide +kernel),fnE hk [115,101,116,33] 3 (by decide +kernel),fnE hk [114,101,115,101,116] 5 (by decide +kernel),fnE hk [108,101,116,45,115,121,110,116,97,120] 9 (by decide +kernel),fnE hk [100,101,102,105,110,101] 7 (by decide +kernel),fnE hk [100,101,102,105,110,101,45,115,121,110,116,97,120] 8 (by decide +kernel)]at *)
 all_goals first
  | exact b9|omega|rfl|exact hm|exact hm.1|exact Yqu (show _<12 by omega)|exact Yqu oW|exact d1|exact d2|exact dt|exact d1 _ aW|exact d2 _ aW|exact dt _ aW
  | exact da oW|exact da oW _ aW|exact hI _ oW|exact aN (Ymx (hI _ oW)).1 oW
  | exact(k1 aW).1|exact(k1 aW).2
  | exact gM oW aW|exact(gP oW aW).1|exact(gP oW aW).2.2.1|exact(gP oW aW).2.2.1 _ aW
  | (have:=(gP oW aW).2.2.2.1;omega)|(have:=hJ 1 oW;omega)
  | (rw[yFm,ae aW];first|(rw[ab aW]<;>rfl)|(rw[ae aW,ab (nb aW)]<;>rfl)|(rw[ae aW,ae (tb aW)]<;>rfl))
  | (rw[yFm,ab aW,ae aW];first|(rw[ab aW]<;>rfl)|(rw[ae aW,yTo,ab aW]<;>rfl)|(rw[ae aW,yTo,ae aW]<;>rfl)|(rw[ae aW,yTo,ae aW,<- Yqp]<;>rfl))
  | (rw[yFm,ab aW,ab aW,ae aW];first|(rw[ae aW]<;>rfl)|(rw[ab aW,ab aW]<;>rfl)|(rw[ab aW,ae aW]<;>rfl))
  | (rw[yFm,ab aW,ab aW,ab aW,ae aW];first|(rw[ae (.inl aW)]<;>rfl)|(rw[ae (.inr aW)]<;>rfl)|(rw[ab (no2 aW aW)]<;>rfl))
  | (rw[yFm,ab aW,ab aW,ab aW,ab aW,ae aW];first|(rw[ae aW]<;>rfl)|(rw[ab aW]<;>rfl))
  | (rw[yFm,ab aW,ab aW,ab aW,ab aW,ab aW,ae aW];first|(rw[ae (.inl aW)]<;>rfl)|(rw[ae (.inr (.inl aW))]<;>rfl)|(rw[ae (.inr (.inr oW))]<;>rfl)|(rw[ab (no3 aW aW oW)];first|(rw[ab aW]<;>rfl)|(rw[ae aW,ab aW]<;>rfl)|(rw[ae aW,ae aW,ae aW]<;>rfl)|(rw[ae aW,ae aW,ab aW]<;>rfl)|(rw[ae aW,ae aW,ab aW,<- Yqp]<;>rfl)))
  | (rw[yFm,ab aW,ab aW,ab aW,ab aW,ab aW,ab aW,ae aW];first|(rw[ae (.inl aW)]<;>rfl)|(rw[ae (.inr aW)]<;>rfl)|(rw[ab (no4 aW aW)];first|(rw[ab aW]<;>rfl)|(rw[ae aW,ab aW]<;>rfl)|(rw[ae aW,ae aW,yTo,ab aW]<;>rfl)|(rw[ae aW,ae aW,yTo,ae aW]<;>rfl)|(rw[ae aW,ae aW,yTo,ae aW,<- Yqp]<;>rfl)))
  | (rw[yFm,ab aW,ab aW,ab aW,ab aW,ab aW,ab aW,ab aW,ae aW];first|(rw[ae aW]<;>rfl)|(rw[ab aW,yTo,ab aW]<;>rfl)|(rw[ab aW,yTo,ae aW]<;>rfl)|(rw[ab aW,yTo,ae aW,<- Yqp]<;>rfl))
  | (rw[yFm,ab aW,ab aW,ab aW,ab aW,ab aW,ab aW,ab aW,ab aW,ae aW];first|(rw[ae (.inl aW)]<;>rfl)|(rw[ae (.inr aW)]<;>rfl)|(rw[ab (no2 aW aW)]<;>rfl))
  | (rw[yFm,ab aW,ab aW,ab aW,ab aW,ab aW,ab aW,ab aW,ab aW,ab aW];first|(rw[ae (.inl aW)]<;>rfl)|(rw[ae (.inr aW)]<;>rfl)|(rw[ab (λx=>x.elim aW aW)]<;>rfl))
  | exact Yyi (show _<12 by omega) rfl|exact iP oW aW _ _ aW|exact⟨hm,hI 2 oW,aJ _⟩
  | with_reducible exact c1|with_reducible exact c2 oW|with_reducible exact c3|with_reducible exact c4 oW|with_reducible exact c5|with_reducible exact c6 oW
  | skip)
abbrev Zcq (L:List YS_) (m:YS):Ct:=⟨173,stY m,[.y 0,Af L],stZ (yLX L [] m).m++[.arr false 9 ((yLX L [] m).v.map yPC)],.tup [.r 5,li (yLX L [] m).e]⟩
def Z6x (L:List YS_) (m:YS):Lp (List YS_×List YP×YS):=let v1:=yLX L [] m;let v2:Ob:=.Ac v1.m.Ba;let v3:Ob:=.Ad v1.m.Ma;.mk 133 3 (λx=>[(0,.y 0),(6,.r 3),(7,hs x 0)]) (λx=>[.box [.ref 4,.ref 5,ha x 3,ha x 4,ha x 5,ha x 6],.dead,.dead,ho x 7,ho x 1,ho x 2]) (λk=>[.s (Af k.1),.o (.Ac k.2.2.Ba),.o (.Ad k.2.2.Ma),.a (vI k.2.2.Sb),.a (vI k.2.2.Va),.a (vI k.2.2.Sc),.a (vI k.2.2.z),.o (.arr false 9 (k.2.1.map yPC))]) (λk=>OkL m k.2.2 k.1 k.2.1/\yLX k.1 k.2.1 k.2.2=yLX L [] m) (λk=>(3001 - k.2.2.z).toNat) [.mk (v1.e=0) (.exit 0) (λx=>[(6,.r 3)]) (λx=>[.box [.ref 4,.ref 5,ha x 2,ha x 3,ha x 4,ha x 5],.dead,.dead,ho x 6,ho x 0,ho x 1]) [.o v2,.o v3,.a (vI v1.m.Sb),.a (vI v1.m.Va),.a (vI v1.m.Sc),.a (vI v1.m.z),.o (.arr false 9 (v1.v.map yPC))],.mk (¬(yLX L [] m).e=0) .ret (λx=>[(4,hs x 6),(5,hs x 7)]) (λx=>[.box [.ref 3,.ref 4,ha x 2,ha x 3,ha x 4,ha x 5],.dead,.dead,ho x 0,ho x 1]) [.o v2,.o v3,.a (vI v1.m.Sb),.a (vI v1.m.Va),.a (vI v1.m.Sc),.a (vI v1.m.z),.s (.one nlA),.s (li v1.e)]]
theorem Zk3 (L:List YS_) (m:YS) (h:Ylt m/\(∀ (x:YS_),x∈L->Yld x)/\L.length<=2000):Lp.Sem prog (Yli f173 0) (Z6x L m):=
 Y1v8 (λk=>(yDf (k.1.g 0) (yCn k.2.2)).v.p) (λk=>let v1:=(k.1.g 0);let v25:=(List.map Yl1 k.1);let v2:=(v25.length - 1);let v28:=
 (Value.slice none 0 0);let v3:=(SV.one (AC.val (Cell.lit v28)));let v4:=(Ob.arr true 4 (List.map Yl2 (yCn k.2.2).Ba));let v5:=(List.drop 1 v25);let v6:=
 (Ob.arr true 3 (List.map Ylc (yCn k.2.2).Ma));let v14:=(v1.Ia.g 1);let v16:=(v1.Ia.g 2);let v7:=(yMc (Ylm Ymb v14) (Yno (yCn
 k.2.2).Ba v16) (yCn k.2.2));let v23:=(hdM (yCn k.2.2).x v1);let v8:=(ySt v23 v1 (yCn k.2.2));let v9:=(yDf v1 (yCn k.2.2));let v10:=(List.map
 Yl1 v1.Ia);let v11:=(Yms.g (hdN (yCn k.2.2).x v1).toNat);let v12:=[0,1,2,4,5];let v13:=(Ob.arr false 9 (List.map yPC k.2.1++[[cB
 false,cI 0,cI v1.Ka,cI v1.Na,cS v1.Ta,Cell.list (List.map Yl4 v1.Sa),Cell.list v10,Cell.lit v28,Cell.lit v28]]));let v15:=(((List.map yPC k.2.1).length
 + 1) * 144<=140737488355328);let v17:=(Ob.arr false 9 (List.map yPC k.2.1));let v18:=(vI (yCn k.2.2).Sc);let v19:=(vI (yCn k.2.2).Sb);let v20:=(vI
 (yCn k.2.2).Va);let v21:=(List.drop 1 k.1);let v22:=[0,1,2,3,4,5];let v24:=(vI (yCn k.2.2).z);let v26:=(List.take v2 v21,k.2.1++[YP.mk false 0
 v1 false [] []],yCn k.2.2);let v27:=(v10.length - 1);.z Yl1 k.1 (.i (0<((List.map Yl1 k.1).length:Int)) (.w (.cells (Yl8 v1)) (.p ((0:Int)<=0 /\
 v25[0]? = some (Yl8 v1)) (.p ((0:Int)<=1) (.p (1<=v25.length/\v25.length<=v25.length/\∀ (e:List Cell),e∈List.map Yl1 k.1->e.length=5) (.d [.ptr] (Z6u
 k.2.2) (.i (Ynh k.2.2.z≠0) (.o 1 v12 [.o v4,.o v6,.a v19,.a v20,.a v18,.a v24,.s v3,.s (li (Ynh k.2.2.z))]) (.d [.ptr,.rd] (Z8o (yCn k.2.2) v1)
 (.i (0<=hdM (yCn k.2.2).x v1) (.d [.ptr,.rd,.rd] (Z87 (yCn k.2.2) v23 v1) (.i (Yn3 (yCn k.2.2).x v23 v1≠0) (.o 1 v12 [.o (Ob.arr true 4 (List.map Yl2
 v8.m.Ba)),.o (Ob.arr true 3 (List.map Ylc v8.m.Ma)),.a (vI v8.m.Sb),.a (vI v8.m.Va),.a (vI v8.m.Sc),.a (vI v8.m.z),.s v3,.s (li (Yn3 (yCn k.2.2).x
 v23 v1))]) (.p (∀ (e:List Cell),e∈List.take v2 v5->e.length=5) (.p ((1+(List.take v2 v5).length) * 80<=140737488355328) (.w (.g (.lock 9)) (.g v22 (Yo7 (yCn
 k.2.2).x v23 v1 :: List.take v2 v21,k.2.1,v8.m) [.s (ll (Yl8 (Yo7 (yCn k.2.2).x v23 v1) :: List.take v2 v5)),.o (Ob.arr true 4 (List.map Yl2
 v8.m.Ba)),.o (Ob.arr true 3 (List.map Ylc v8.m.Ma)),.a (vI v8.m.Sb),.a (vI v8.m.Va),.a (vI v8.m.Sc),.a (vI v8.m.z),.o v17])))))) (.d [.ptr,.rd]
 (Z6t (yCn k.2.2) v1) (.i (0<=hdN (yCn k.2.2).x v1) (.c [] Zx (.p (0<=hdN (yCn k.2.2).x v1/\(hdN (yCn k.2.2).x v1).toNat<12) (.w (.cells (Ymj
 v11)) (.p ((List.map Ymj Yms)[(hdN (yCn k.2.2).x v1).toNat]? = some [cS v11]) (.i (v11.data.toList=[98,101,103,105,110]) (.p ((0:Int)<=1) (.p (1<=v10.length/\v10.length<=v10.length/\∀ (e:List Cell),e∈List.map Yl1 v1.Ia->e.length=5) (.w (.bool false) (.p (∀ (e:List
 Cell),e∈List.take v27 (List.drop 1 v10)->e.length=5) (.p ((0+(List.take v27 (List.drop 1 v10)).length) * 80<=140737488355328) (.p (∀ (e:List Cell),e∈List.take v2 v5
 -> e.length=5) (.p (((List.take v27 (List.drop 1 v10)).length+(List.take v2 v5).length) * 80<=140737488355328) (.w (.g (.lock 9)) (.g v22 (List.take v27 (List.drop 1
 v1.Ia)++List.take v2 v21,k.2.1,yCn k.2.2) [.s (ll (List.take v27 (List.drop 1 v10)++List.take v2 v5)),.o v4,.o v6,.a v19,.a v20,.a v18,.a v24,.o
 v17]))))))))) (.i (v11.data.toList=[100,101,102,105,110,101]) (.d [.ptr,.rd] (Z9v v1 (yCn k.2.2)) (.i
 (v9.e≠0) (.o 1 [0,1,2,11,5] [.o (Ob.arr true 4 (List.map Yl2 v9.m.Ba)),.o (Ob.arr true 3 (List.map Ylc v9.m.Ma)),.a (vI v9.m.Sb),.a (vI v9.m.Va),
 .a (vI v9.m.Sc),.a (vI v9.m.z),.s v3,.s (li v9.e)]) (.p v15 (.g [0,1,2,14,11,5] (List.take v2 v21,k.2.1++[YP.mk v9.v.d v9.v.n v9.v.s true v9.v.P v9.v.B],v9.m)
 [.s (ll (List.take v2 v5)),.o (Ob.arr true 4 (List.map Yl2 v9.m.Ba)),.o (Ob.arr true 3 (List.map Ylc v9.m.Ma)),.a (vI v9.m.Sb),.a (vI v9.m.Va),.a (vI
 v9.m.Sc),.a (vI v9.m.z),.o (Ob.arr false 9 (List.map yPC k.2.1++[[cB v9.v.d,cI v9.v.n,cI v9.v.s.Ka,cI v9.v.s.Na,cS v9.v.s.Ta,Cell.list (List.map Yl4
 v9.v.s.Sa),Cell.list (List.map Yl1 v9.v.s.Ia),Cell.list (List.map Yl1 v9.v.P),Cell.list (List.map Yl1 v9.v.B)]]))])))) (.i (v11.data.toList=[100,
 101,102,105,110,101,45,115,121,110,116,97,120])
 (.z Yl1 v1.Ia (.i (((List.map Yl1 v1.Ia).length:Int)≠3) (.y true (.o 1 v12 [.o v4,.o v6,.a v19,.a v20,.a v18,.a v24,.s v3,.s (li 1)])) (.w (.cells
 (Yl8 v14)) (.p ((0:Int)<=1/\v10[1]? = some (Yl8 v14)) (.i (v14.Ka≠1) (.o 1 v12 [.o v4,.o v6,.a v19,.a v20,.a v18,.a v24,.s v3,.s (li 1)]) (.w (.draw [(14,
 [22])]) (.w (.cells (Yl8 v16)) (.p ((0:Int)<=2/\v10[2]? = some (Yl8 v16)) (.d [.rd,.rd] (Z2x (yCn k.2.2).Ba v16) (.b (!Ymt (yCn
 k.2.2).Ba v16) (.o 1 v12 [.o v4,.o v6,.a v19,.a v20,.a v18,.a v24,.s v3,.s (li 1)]) (.w (.draw [(7,[0,4,5])]) (.w (.cells (Yl8 v14)) (.p ((0:Int)<=1 /\
 v10[1]? = some (Yl8 v14)) (.d [.rd,.rd] (Zm v14) (.d [.ptr,.rd,.rd] (Z6s (yCn k.2.2) (Ylm Ymb v14) (Yno (yCn k.2.2).Ba v16)) (.i (v7.e≠0)
 (.o 1 [0,1,2,40,41] [.o (Ob.arr true 4 (List.map Yl2 v7.m.Ba)),.o (Ob.arr true 3 (List.map Ylc v7.m.Ma)),.a (vI v7.m.Sb),.a (vI v7.m.Va),.a (vI
 v7.m.Sc),.a (vI v7.m.z),.s v3,.s (li v7.e)]) (.g [0,1,2,3,40,41] (List.take v2 v21,k.2.1,v7.m) [.s (ll (List.take v2 v5)),.o (Ob.arr true 4 (List.map Yl2
 v7.m.Ba)),.o (Ob.arr true 3 (List.map Ylc v7.m.Ma)),.a (vI v7.m.Sb),.a (vI v7.m.Va),.a (vI v7.m.Sc),.a (vI v7.m.z),.o v17]))))))))))))))))) (.p v15 (.g
 [0,1,2,9,4,5] v26 [.s (ll (List.take v2 v5)),.o v4,.o v6,.a v19,.a v20,.a v18,.a v24,.o v13]))))))))) (.y false (.y false (.y false (.p v15 (.g [0,1,2,8,4,5] v26
 [.s (ll (List.take v2 v5)),.o v4,.o v6,.a v19,.a v20,.a v18,.a v24,.o v13]))))))))))))))) (.o 0 v22 [.o (Ob.arr true 4 (List.map Yl2 k.2.2.Ba)),.o (Ob.arr
 true 3 (List.map Ylc k.2.2.Ma)),.a (vI k.2.2.Sb),.a (vI k.2.2.Va),.a (vI k.2.2.Sc),.a (vI k.2.2.z),.o v17]))) (λk=>let v1:=
 (k.1.g 0);let v26:=(List.map Yl1 k.1);let v2:=(v26.length - 1);let v3:=(Value.slice none 0 0);let v4:=(Ob.arr true 4 (List.map Yl2 (yCn
 k.2.2).Ba));let v5:=(List.drop 1 v26);let v6:=(Ob.arr true 3 (List.map Ylc (yCn k.2.2).Ma));let v13:=(v1.Ia.g 1);let v17:=
 (v1.Ia.g 2);let v7:=(yMc (Ylm Ymb v13) (Yno (yCn k.2.2).Ba v17) (yCn k.2.2));let v24:=(hdM (yCn k.2.2).x v1);let v8:=(ySt v24 v1 (yCn
 k.2.2));let v9:=(yDf v1 (yCn k.2.2));let v10:=(List.map Yl1 v1.Ia);let v11:=(Yms.g (hdN (yCn k.2.2).x v1).toNat);let v12:=[0,1,2,
 4,5];let v14:=(Ob.arr false 9 (List.map yPC k.2.1++[[cB false,cI 0,cI v1.Ka,cI v1.Na,cS v1.Ta,Cell.list (List.map Yl4 v1.Sa),Cell.list v10,Cell.lit
 v3,Cell.lit v3]]));let v15:=(((List.map yPC k.2.1).length+1) * 144<=140737488355328);let v16:=(SV.one (AC.val (Cell.lit v3)));let v18:=(Ob.arr false 9 (List.map
 yPC k.2.1));let v19:=(vI (yCn k.2.2).Sc);let v20:=(vI (yCn k.2.2).Sb);let v21:=(vI (yCn k.2.2).Va);let v22:=(List.drop 1 k.1);let v23:=[0,
 1,2,3,4,5];let v25:=(vI (yCn k.2.2).z);let v27:=(List.take v2 v22,k.2.1++[YP.mk false 0 v1 false [] []],yCn k.2.2);let v28:=(v10.length - 1);.z
 Yl1 k.1 (.i (0<((List.map Yl1 k.1).length:Int)) (.w (.cells (Yl8 v1)) (.p ((0:Int)<=0/\v26[0]? = some (Yl8 v1)) (.p ((0:Int)<=1) (.p (1 <=
 v26.length/\v26.length<=v26.length/\∀ (e:List Cell),e∈List.map Yl1 k.1->e.length=5) (.d [.ptr] (Z6u k.2.2) (.i (Ynh k.2.2.z≠0) (.o 1 v12 [.o v4,
 .o v6,.a v20,.a v21,.a v19,.a v25,.s v16,.s (li (Ynh k.2.2.z))]) (.d [.ptr,.rd] (Z8o (yCn k.2.2) v1) (.i (0<=hdM (yCn k.2.2).x v1) (.d [.ptr,.rd,.rd]
 (Z87 (yCn k.2.2) v24 v1) (.i (Yn3 (yCn k.2.2).x v24 v1≠0) (.o 1 v12 [.o (Ob.arr true 4 (List.map Yl2 v8.m.Ba)),.o (Ob.arr true 3 (List.map Ylc
 v8.m.Ma)),.a (vI v8.m.Sb),.a (vI v8.m.Va),.a (vI v8.m.Sc),.a (vI v8.m.z),.s v16,.s (li (Yn3 (yCn k.2.2).x v24 v1))]) (.p (∀ (e:List Cell),e∈List.take
 v2 v5->e.length=5) (.p ((1+(List.take v2 v5).length) * 80<=140737488355328) (.w (.g (.lock 9)) (.g v23 (Yo7 (yCn k.2.2).x v24 v1 :: List.take v2 v22,k.2.1,
 v8.m) [.s (ll (Yl8 (Yo7 (yCn k.2.2).x v24 v1) :: List.take v2 v5)),.o (Ob.arr true 4 (List.map Yl2 v8.m.Ba)),.o (Ob.arr true 3 (List.map Ylc
 v8.m.Ma)),.a (vI v8.m.Sb),.a (vI v8.m.Va),.a (vI v8.m.Sc),.a (vI v8.m.z),.o v18])))))) (.d [.ptr,.rd] (Z6t (yCn k.2.2) v1) (.i (0<=hdN (yCn
 k.2.2).x v1) (.c [] Zx (.p (0<=hdN (yCn k.2.2).x v1/\(hdN (yCn k.2.2).x v1).toNat<12) (.w (.cells (Ymj v11)) (.p ((List.map Ymj Yms)[(hdN (yCn
 k.2.2).x v1).toNat]? = some [cS v11]) (.i (v11.data.toList=[98,101,103,105,110]) (.p ((0:Int)<=1) (.p (1 <=
 v10.length/\v10.length<=v10.length/\∀ (e:List Cell),e∈List.map Yl1 v1.Ia->e.length=5) (.w (.bool false) (.p (∀ (e:List Cell),e∈List.take v28 (List.drop 1
 v10)->e.length=5) (.p ((0+(List.take v28 (List.drop 1 v10)).length) * 80<=140737488355328) (.p (∀ (e:List Cell),e∈List.take v2 v5->e.length=5) (.p (((List.take v28
 (List.drop 1 v10)).length+(List.take v2 v5).length) * 80<=140737488355328) (.w (.g (.lock 9)) (.g v23 (List.take v28 (List.drop 1 v1.Ia)++List.take v2 v22,k.2.1,
 yCn k.2.2) [.s (ll (List.take v28 (List.drop 1 v10)++List.take v2 v5)),.o v4,.o v6,.a v20,.a v21,.a v19,.a v25,.o v18]))))))))) (.i (v11.data.toList=[100,
 101,102,105,110,101]) (.d [.ptr,.rd] (Z9w v1 (yCn k.2.2)) (.i (v9.e≠0) (.o 1 [0,1,2,11,5] [.o (Ob.arr true 4
 (List.map Yl2 v9.m.Ba)),.o (Ob.arr true 3 (List.map Ylc v9.m.Ma)),.a (vI v9.m.Sb),.a (vI v9.m.Va),.a (vI v9.m.Sc),.a (vI v9.m.z),.s v16,.s (li
 v9.e)]) (.p v15 (.g [0,1,2,14,11,5] (List.take v2 v22,k.2.1++[YP.mk v9.v.d v9.v.n v9.v.s false [] []],v9.m) [.s (ll (List.take v2 v5)),.o (Ob.arr true 4 (List.map
 Yl2 v9.m.Ba)),.o (Ob.arr true 3 (List.map Ylc v9.m.Ma)),.a (vI v9.m.Sb),.a (vI v9.m.Va),.a (vI v9.m.Sc),.a (vI v9.m.z),.o (Ob.arr false 9 (List.map
 yPC k.2.1++[[cB v9.v.d,cI v9.v.n,cI v9.v.s.Ka,cI v9.v.s.Na,cS v9.v.s.Ta,Cell.list (List.map Yl4 v9.v.s.Sa),Cell.list (List.map Yl1 v9.v.s.Ia),
 Cell.lit v3,Cell.lit v3]]))])))) (.i (v11.data.toList=[100,101,102,105,110,101,45,115,
 121,110,116,97,120]) (.z Yl1 v1.Ia (.i (((List.map Yl1 v1.Ia).length:Int)≠3) (.y true (.o 1 v12 [.o v4,.o
 v6,.a v20,.a v21,.a v19,.a v25,.s v16,.s (li 1)])) (.w (.cells (Yl8 v13)) (.p ((0:Int)<=1/\v10[1]? = some (Yl8 v13)) (.i (v13.Ka≠1) (.o 1 v12 [.o v4,.o v6,
 .a v20,.a v21,.a v19,.a v25,.s v16,.s (li 1)]) (.w (.draw [(14,[22])]) (.w (.cells (Yl8 v17)) (.p ((0:Int)<=2/\v10[2]? = some (Yl8 v17)) (.d [.rd,.rd]
 (Z2x (yCn k.2.2).Ba v17) (.b (!Ymt (yCn k.2.2).Ba v17) (.o 1 v12 [.o v4,.o v6,.a v20,.a v21,.a v19,.a v25,.s v16,.s (li 1)]) (.w (.draw [(7,
 [0,4,5])]) (.w (.cells (Yl8 v13)) (.p ((0:Int)<=1/\v10[1]? = some (Yl8 v13)) (.d [.rd,.rd] (Zm v13) (.d [.ptr,.rd,.rd] (Z6s (yCn k.2.2) (Ylm Ymb
 v13) (Yno (yCn k.2.2).Ba v17)) (.i (v7.e≠0) (.o 1 [0,1,2,40,41] [.o (Ob.arr true 4 (List.map Yl2 v7.m.Ba)),.o (Ob.arr true 3 (List.map Ylc
 v7.m.Ma)),.a (vI v7.m.Sb),.a (vI v7.m.Va),.a (vI v7.m.Sc),.a (vI v7.m.z),.s v16,.s (li v7.e)]) (.g [0,1,2,3,40,41] (List.take v2 v22,k.2.1,v7.m) [.s
 (ll (List.take v2 v5)),.o (Ob.arr true 4 (List.map Yl2 v7.m.Ba)),.o (Ob.arr true 3 (List.map Ylc v7.m.Ma)),.a (vI v7.m.Sb),.a (vI v7.m.Va),.a (vI
 v7.m.Sc),.a (vI v7.m.z),.o v18]))))))))))))))))) (.p v15 (.g [0,1,2,9,4,5] v27 [.s (ll (List.take v2 v5)),.o v4,.o v6,.a v20,.a v21,.a v19,.a v25,.o v14])))))))))
 (.y false (.y false (.y false (.p v15 (.g [0,1,2,8,4,5] v27 [.s (ll (List.take v2 v5)),.o v4,.o v6,.a v20,.a v21,.a v19,.a v25,.o v14]))))))))))))))) (.o 0 v23 [.o
 (Ob.arr true 4 (List.map Yl2 k.2.2.Ba)),.o (Ob.arr true 3 (List.map Ylc k.2.2.Ma)),.a (vI k.2.2.Sb),.a (vI k.2.2.Va),.a (vI
 k.2.2.Sc),.a (vI k.2.2.z),.o v18]))) (by
 intro k h;try dsimp only[Yl3,Yle,Z6x]at h
 have hl:=h.1
 have he:=h.2
 have hm:=hl.ok
 have w:=Yrd hm.1
 have w1:=w.1
 have w2:=w.2.1
 have hX:=λa=>Y141 (q:=k.1) hl a
 have hW:=λa b=>Ymx (hX a b)
 have hI:=λ(a:0<(k.1.length:Int)) (b:Ynh k.2.2.z=0) (i:Nat) (c:i<(k.1.g 0).Ia.length)=>Ymx (Yoh (hX a b) c)
 have hd:=λa:0<=hdN (yCn k.2.2).x (k.1.g 0)=>Y1ou (x:=(yCn k.2.2).x) hm.1 a
 have hf:=λ(a:0<=hdN (yCn k.2.2).x (k.1.g 0))=>Y23x ⟨a,hd a⟩
 have h0:=@Y1o1 (yCn k.2.2).x (k.1.g 0) hm.1
 have hs0:=hm.2
 have hm0:=(‹Ylt m/\(∀ x∈L,Yld x)/\_›).1.2
 have lT:(List.take (k.1.length - 1) (List.drop 1 k.1)).length<=7000000:=by have:=hl.ql;have:=hl.z;rw[au];omega
 have lX:0<(k.1.length:Int)->Ynh k.2.2.z=0->(List.take ((k.1.g 0).Ia.length - 1) (List.drop 1 (k.1.g 0).Ia)).length<=2000:=λa b=>by have:=Ytk (hX a b);rw[au,ax];omega
 have lo:=hl.ol
 have lz:=hl.z
 have h1:0<=hdN (yCn k.2.2).x (k.1.g 0)->1<=(k.1.g 0).Ia.length:=λa=>Y1z2 a
 have hG:=λ(a:0<(k.1.length:Int)) (b:Ynh k.2.2.z=0) (i:Nat) (c:i<(k.1.g 0).Ia.length)=>Yoh (hX a b) c
 have zm:(yMc (Ylm Ymb ((k.1.g 0).Ia.g 1)) (Yno k.2.2.Ba ((k.1.g 0).Ia.g 2)) (yCn k.2.2)).e=0->(yMc (Ylm Ymb ((k.1.g 0).Ia.g 1)) (Yno k.2.2.Ba ((k.1.g 0).Ia.g 2)) (yCn k.2.2)).m.z=k.2.2.z+1:=λg=>by rw[Yyd g]
 have zd:=λa b (g:(yDf (k.1.g 0) (yCn k.2.2)).e=0)=>(Y1di (hX a b) (m:=yCn k.2.2) hm.1 g).2.1
 have z1:(ySt (hdM (yCn k.2.2).x (k.1.g 0)) (k.1.g 0) (yCn k.2.2)).m.z=k.2.2.z+1:=rfl
 refine⟨λhs => ?_,λhs => ?_⟩<;>try dsimp only[Yl3,Yle,Z6x]at h|-
 with_reducible repeat' (first|apply ah|exact zR|(intro)|apply Z1y|apply Z1w|apply Z3f|apply Z1x|apply Z6f|apply Z6g|apply Z5|apply Z3s|apply Zz)
 all_goals ((try simp only[std,inj]at *);with_reducible and_intros)
 all_goals try first|with_reducible (first|apply Z1y|apply Z1w|apply Z3f|apply Z1x|apply Z6f|apply Z6g|apply Z5|apply Z3s|apply Zz)|(simp only[<- aq];with_reducible first|apply Z1y|apply Z1w|apply Z3f|apply Z1x|apply Z6f|apply Z6g|apply Z5|apply Z3s|apply Zz)
 all_goals (try simp only[aI]at *)
 all_goals first
  | exact b9|omega|exact hm.1|exact hl.ok.1|exact Yqu oW|exact hX aW aW
  | exact Y26d _ _ aW|exact(h0 aW).1|exact(h0 aW).2.1|exact(h0 aW).2.2
  | exact Y21d hl aW aW aW|exact Y234 hl aW aW|exact Y22x hl aW aW
  | (rw[z1];omega)
  | (have l1:=lX aW aW;omega)
  | (rw[bO,Yw9];done)|(rw[aq]<;>rfl)
  | (have l2:=zd aW aW aW;rw[l2];omega)
  | exact Y1vj hl aW aW aW (Y260 hs (Y1vc hs))|exact Y1vj hl aW aW aW (by rw[<- hs])
  | (have l3:=hd aW;exact Yyi (show _<12 by omega) rfl)
  | exact Y23i hl aW aW aW aW aW aW
  | (rw[<- he,Y253 (q:=k.1) (o:=k.2.1) (n:=k.2.2) hm aW aW];first|done|exact aW|rfl)
  | (rw[<- he,Y1lu (q:=k.1) (o:=k.2.1) (n:=k.2.2) hm aW aW];first|(rw[ae aW,ab aW];first|done|exact aW|rfl)|(rw[ae aW,ae aW]<;>rfl)|(rw[ab aW,ae ((hf aW).1.1 aW)]<;>rfl))
  | (rw[<- he,Y265 (q:=k.1) (o:=k.2.1) (n:=k.2.2) hm aW aW aW ((hf aW).2.1.1 aW) aW];first|done|exact aW|rfl)
  | (rw[<- he,Y25m (q:=k.1) (o:=k.2.1) (n:=k.2.2) hm aW aW aW ((hf aW).2.1.1 aW) aW hs]<;>rfl)
  | (rw[<- he,Y24p (q:=k.1) (o:=k.2.1) (n:=k.2.2) hm aW aW aW ((hf aW).2.1.1 aW) aW hs]<;>rfl)
  | (have:=h1 aW;omega)
  | exact aN (hI aW aW 1 oW).1 oW
  | exact aN (hI aW aW 2 oW).1 oW
  | exact(hI aW aW 1 oW).2.2
  | exact aN (Ymx (Yyw (hG aW aW 1 oW))).1 oW
  | (rw[Y17g aW];exact Y1zq (B:=k.2.2.Ba) (hG aW aW 2 oW) aW)
  | (rw[zm aW];omega)
  | (rw[<- he,Y1n5 (q:=k.1) (o:=k.2.1) (n:=k.2.2) hm aW aW aW ((hf aW).2.2.1 aW) (λc=>absurd c.1 aW)];first|done|rfl|exact Int.one_ne_zero)
  | (rw[<- he,Y1n5 (q:=k.1) (o:=k.2.1) (n:=k.2.2) hm aW aW aW ((hf aW).2.2.1 aW) (λc=>absurd c.2.1 aW)];first|done|rfl|exact Int.one_ne_zero)
  | (rw[<- he,Y1n5 (q:=k.1) (o:=k.2.1) (n:=k.2.2) hm aW aW aW ((hf aW).2.2.1 aW) (λc=>nb aW c.2.2)];first|done|rfl|exact Int.one_ne_zero)
  | (rw[<- he,Y1uz (q:=k.1) (o:=k.2.1) (n:=k.2.2) hm aW aW aW ((hf aW).2.2.1 aW) aW aW aW,ab aW];first|done|exact aW|rfl)
  | (rw[<- he,Y1uz (q:=k.1) (o:=k.2.1) (n:=k.2.2) hm aW aW aW ((hf aW).2.2.1 aW) aW aW aW,ae aW];first|done|exact aW|rfl)
  | (rw[<- he,Y1zn (q:=k.1) (o:=k.2.1) (n:=k.2.2) hm aW aW aW (_root_.mt (hf aW).1.2 aW) (_root_.mt (hf aW).2.1.2 aW) (_root_.mt (hf aW).2.2.2 aW)]<;>rfl)
  | (rw[<- he,Y1zn (q:=k.1) (o:=k.2.1) (n:=k.2.2) hm aW aW aW oW oW oW]<;>rfl)
  | (rw[<- he,Y21p (q:=k.1) (o:=k.2.1) (n:=k.2.2) oW]<;>rfl)
  | skip)
theorem Zhp (L:List YS_) (m:YS) (h:Ylt m/\(∀ x∈L,Yld x)/\L.length<=2000):Zcq L m:=Ylh call173 func173 (let v4:=yLX L [] m;let v1:List AC:=[.ref 3,.ref 4,vI v4.m.Sb,vI v4.m.Va,vI v4.m.Sc,vI v4.m.z];let v2:=v4.m.Ba.map Yl2;let v3:=v4.m.Ma.map Ylc;.w (.bool false) (.p (∀ (x0:List Cell),x0∈L.map Yl1->x0.length=5) (.p ((0+(L.map Yl1).length) * 80<=140737488355328) (.w (.m 1) (.w (.m 2) (.w (.g (.nilreg 6 false 9)) (.w (.g (.lock 3)) (.l (Z6x L m) (Zk3 L m h) [0,1,2,6,4,5] [.s (Af L),.o (.Ac m.Ba),.o (.Ad m.Ma),.a (vI m.Sb),.a (vI m.Va),.a (vI m.Sc),.a (vI m.z),.o (.arr false 9 [])] (L,[],m) (.t (.f [4,5,3] [.box v1,.dead,.dead,.y 4 v2,.y 3 v3,.arr false 9 (v4.v.map yPC)] (.tup [.r 5,li 0])) (.t (.w (.g (.nilreg 4 false 9)) (.f [3,4,5] [.box v1,.dead,.dead,.y 4 v2,.y 3 v3,.arr false 9 []] (.tup [.r 5,li v4.e]))) .q)))))))))) (by
 dsimp only[Yl3,Zcq,Yle,Z6x]
 have w:=Yrd h.1.1
 have g0:OkL m m L []:=⟨h.1,h.2.1,λp hp=>absurd hp cV,aJ _,by have:=h.2.2;omega,by simp⟩
 with_reducible repeat' (first|apply ah|exact zR|(intro)|apply Z1y|apply Z1w|apply Z3f|apply Z1x|apply Z6f|apply Z6g|apply Z5|apply Z3s|apply Zz)
 all_goals ((try simp only[std,inj]at *);with_reducible and_intros)
 all_goals try first|with_reducible (first|apply Z1y|apply Z1w|apply Z3f|apply Z1x|apply Z6f|apply Z6g|apply Z5|apply Z3s|apply Zz)|(simp only[<- aq];with_reducible first|apply Z1y|apply Z1w|apply Z3f|apply Z1x|apply Z6f|apply Z6g|apply Z5|apply Z3s|apply Zz)
 all_goals (try simp only[aI]at *)
 all_goals first
  | exact b9|omega|exact h.1.1|exact g0|rfl
  | (rw[Y1un aW]<;>rfl)
  | skip)
abbrev Zcr (L:List YP) (m:YS):Ct:=⟨174,stY m,[.y 0,ll (L.map yPC)],stZ (Yl9 (yPt yX yZ) L m).m++[.Ak (Yl9 (yPt yX yZ) L m).v,.Aa (psV L m)],.tup [.r 5,.r 6,li (Yl9 (yPt yX yZ) L m).e]⟩
def Z6y (L:List YP) (m:YS):Lp Nat:=let v2:=yPt yX yZ;let v1:=Yl9 v2 L m;let v3:Ob:=.Ac v1.m.Ba;let v4:Ob:=.Ad v1.m.Ma;.mk 60 3 (λx=>[(0,.y 0),(7,.r 3),(8,.r 4),(13,ll (L.map yPC)),(14,li (L.map yPC).length),(15,hs x 0)]) (λx=>[.box [.ref 5,.ref 6,ha x 3,ha x 4,ha x 5,ha x 6],.dead,.dead,ho x 7,ho x 8,ho x 1,ho x 2]) (λk=>[.s (li k),.o (.Ac (Yl9 v2 (L.take k) m).m.Ba),.o (.Ad (Yl9 v2 (L.take k) m).m.Ma),.a (vI (Yl9 v2 (L.take k) m).m.Sb),.a (vI (Yl9 v2 (L.take k) m).m.Va),.a (vI (Yl9 v2 (L.take k) m).m.Sc),.a (vI (Yl9 v2 (L.take k) m).m.z),.o (.Ak (Yl9 v2 (L.take k) m).v),.o (.Aa (yDv (L.take k)))]) (λk=>k<=L.length/\L.length<=9223372036854775807/\(Yl9 v2 (L.take k) m).e=0) (λk=>L.length - k) [.mk (v1.e=0) (.exit 0) (λx=>[(7,.r 3),(8,.r 4)]) (λx=>[.box [.ref 5,.ref 6,ha x 2,ha x 3,ha x 4,ha x 5],.dead,.dead,ho x 6,ho x 7,ho x 0,ho x 1]) [.o v3,.o v4,.a (vI v1.m.Sb),.a (vI v1.m.Va),.a (vI v1.m.Sc),.a (vI v1.m.z),.o (.Ak v1.v),.o (.Aa (yDv L))],.mk (¬(Yl9 v2 L m).e=0) .ret (λx=>[(4,hs x 6),(5,hs x 7),(6,hs x 8)]) (λx=>[.box [.ref 3,.ref 4,ha x 2,ha x 3,ha x 4,ha x 5],.dead,.dead,ho x 0,ho x 1]) [.o v3,.o v4,.a (vI v1.m.Sb),.a (vI v1.m.Va),.a (vI v1.m.Sc),.a (vI v1.m.z),.s (.one nlA),.s (.one nlA),.s (li v1.e)]]
theorem Zk4 (L:List YP) (m:YS) (h:Ylt m/\(∀ (p:YP),p∈L->Ysq p)/\L.length<=4000) (ih:∀ (s:YS_) (q:YS),Ylt q/\Yld s/\m.z<=q.z->OK (Zr s q)) (ihb:∀ (L:List YS_) (q:YS),Ylt q/\(∀ (x:YS_),x∈L->Yld x)/\L.length<=2000/\m.z<=q.z->OK (Zb L q)):Lp.Sem prog (Yli f174 0) (Z6y L m):=Y1v8 (λk=>(L.g k).p) (λk=>let v8:=L.g k;let v7:=Yl9 (yPt yX yZ) (L.take k) m;let v1:=yPc yZ 5 v8.P v8.B v7.m;let v2:=v7.v.map Ylo;let v3:=(yDv (L.take k)).map Yl4;let v4:SV:=.one (.val (.y));let v5:=(k:Int)+1;let v6:=v8.B.map Yl1;let v9:Ob:=.Ac v1.m.Ba;let v10:Ob:=.Ad v1.m.Ma;let v11:=(v2.length+1) * 120<=140737488355328;.i ((k:Int)<(L.map yPC).length) (.x (k:Int) (L.map yPC) [cB v8.d,cI v8.n,cI v8.s.Ka,cI v8.s.Na,cS v8.s.Ta,.Ao v8.s.Sa,.Au v8.s.Ia,.Au v8.P,.list v6] (.p (0<v6.length) (.y true (.d [.ptr,.rd,.rd,.rd] (Z6h 5 v8.P v8.B v7.m) (.i (v1.e≠0) (.o 1 [0,1,2,12,13] [.o v9,.o v10,.a (vI v1.m.Sb),.a (vI v1.m.Va),.a (vI v1.m.Sc),.a (vI v1.m.z),.s v4,.s v4,.s (li v1.e)]) (.b v8.d (.p ((v3.length+1) * 8<=140737488355328) (.p v11 (.r v5 (.g [0,1,2,21,18,12,13] (k+1) [.s (li v5),.o v9,.o v10,.a (vI v1.m.Sb),.a (vI v1.m.Va),.a (vI v1.m.Sc),.a (vI v1.m.z),.o (.y 8 (v7.v.map Ylo++[[cI 4,cI v8.n,.list [],cI 0,cI 0,cS (mkS []),.list [],.list [Ymz v1.v]]])),.o (.y 1 ((yDv (L.take k)).map Yl4++[[cI v8.n]]))])))) (.p v11 (.r v5 (.g [0,1,2,18,4,12,13] (k+1) [.s (li v5),.o v9,.o v10,.a (vI v1.m.Sb),.a (vI v1.m.Va),.a (vI v1.m.Sc),.a (vI v1.m.z),.o (.y 8 (v7.v.map Ylo++[Ymz v1.v])),.o (.y 1 v3)]))))))))) (.o 0 [0,1,2,3,4,5,6] [.o (.Ac v7.m.Ba),.o (.Ad v7.m.Ma),.a (vI v7.m.Sb),.a (vI v7.m.Va),.a (vI v7.m.Sc),.a (vI v7.m.z),.o (.y 8 v2),.o (.y 1 v3)])) (λk=>let v7:=L.g k;let v6:=Yl9 (yPt yX yZ) (L.take k) m;let v1:=yX v7.s v6.m;let v2:=v6.v.map Ylo;let v3:=(yDv (L.take k)).map Yl4;let v4:Value:=.slice none 0 0;let v5:=(k:Int)+1;let v8:Ob:=.Ac v1.m.Ba;let v9:Ob:=.Ad v1.m.Ma;let v10:=(v2.length+1) * 120<=140737488355328;.i ((k:Int)<(L.map yPC).length) (.x (k:Int) (L.map yPC) [cB v7.d,cI v7.n,cI v7.s.Ka,cI v7.s.Na,cS v7.s.Ta,.Ao v7.s.Sa,.Au v7.s.Ia,.lit v4,.lit v4] (.y false (.d [.ptr,.rd] (Zr v7.s v6.m) (.i (v1.e≠0) (.o 1 [0,1,2,12,13] [.o v8,.o v9,.a (vI v1.m.Sb),.a (vI v1.m.Va),.a (vI v1.m.Sc),.a (vI v1.m.z),.s (.one (.val (.lit v4))),.s (.one (.val (.lit v4))),.s (li v1.e)]) (.b v7.d (.p ((v3.length+1) * 8<=140737488355328) (.p v10 (.r v5 (.g [0,1,2,21,18,12,13] (k+1) [.s (li v5),.o v8,.o v9,.a (vI v1.m.Sb),.a (vI v1.m.Va),.a (vI v1.m.Sc),.a (vI v1.m.z),.o (.y 8 (v6.v.map Ylo++[[cI 4,cI v7.n,.list [],cI 0,cI 0,cS (mkS []),.list [],.list [Ymz v1.v]]])),.o (.y 1 ((yDv (L.take k)).map Yl4++[[cI v7.n]]))])))) (.p v10 (.r v5 (.g [0,1,2,18,4,12,13] (k+1) [.s (li v5),.o v8,.o v9,.a (vI v1.m.Sb),.a (vI v1.m.Va),.a (vI v1.m.Sc),.a (vI v1.m.z),.o (.y 8 (v6.v.map Ylo++[Ymz v1.v])),.o (.y 1 v3)])))))))) (.o 0 [0,1,2,3,4,5,6] [.o (.Ac v6.m.Ba),.o (.Ad v6.m.Ma),.a (vI v6.m.Sb),.a (vI v6.m.Va),.a (vI v6.m.Sc),.a (vI v6.m.z),.o (.y 8 v2),.o (.y 1 v3)])) (by
 intro k h;try dsimp only[Yl3,Yle,Z6y]at h
 have hh := ‹Ylt m/\(∀ p∈L,Ysq p)/\L.length<=4000›
 have hx:=psX (k:=k) hh.1 hh.2.1 h.2.2
 have hp:k<L.length->Ysq (L.g k):=λa=>hh.2.1 _ (Yl6 a)
 have g7:=Y1yq L k
 have b1:(Yl9 (yPt yX yZ) (L.take k) m).v.length<=4000:=by have:=hx.2.2;have:=h.1;have:=hh.2.2;omega
 have b2:(yDv (L.take k)).length<=4000:=by have:=hh.2.2;omega
 have ihx:=λ(s:YS_) (q:YS) (a:Ylt q/\Yld s/\(Yl9 (yPt yX yZ) (L.take k) m).m.z<=q.z)=>ih s q ⟨a.1,a.2.1,cc hx.2.1 a.2.2⟩
 have ihy:=λ(B:List YS_) (q:YS) (a:Ylt q/\(∀ x∈B,Yld x)/\B.length<=2000/\(Yl9 (yPt yX yZ) (L.take k) m).m.z<=q.z)=>ihb B q ⟨a.1,a.2.1,a.2.2.1,cc hx.2.1 a.2.2.2⟩
 refine⟨λhs => ?_,λhs => ?_⟩<;>try dsimp only[Yl3,Yle,Z6y]at h|-
 with_reducible repeat' (first|apply ah|exact zR|exact ih|(intro)|apply Z4g)
 all_goals ((try simp only[std,inj]at *);with_reducible and_intros)
 all_goals try first|with_reducible (first|apply Z4g|apply ih)|(simp only[<- aq];with_reducible first|apply Z4g|apply ih)
 all_goals (try simp only[aI]at *)
 all_goals first
  | exact b9|omega|exact hx.1|exact hx.2.1
  | exact(Yqu oW).trans (ci some (Y1ml hs))
  | exact(Yqu oW).trans (ci some (Y1n4 hs))
  | exact((hp oW).1 hs).1 _ aW|exact((hp oW).1 hs).2.1 _ aW
  | exact((hp oW).1 hs).2.2.1|exact((hp oW).1 hs).2.2.2.1|exact((hp oW).1 hs).2.2.2.2
  | exact(hp oW).2 hs|exact⟨hx.1,(hp oW).2 hs,hx.2.1⟩|exact ihy _ _ aW
  | (rw[Y1j6 (Y1cp hs) oW h.2.2 aW];first|done|exact aW|rfl)
  | (rw[Y1cc (Y1cp hs) oW h.2.2 aW aW]<;>rfl)
  | (rw[Y1cc (Y1cp hs) oW h.2.2 aW aW,aq,<- Yqp]<;>rfl)
  | (rw[Y1c6 (Y1cp hs) oW h.2.2 aW aW]<;>rfl)
  | (rw[Y1c6 (Y1cp hs) oW h.2.2 aW aW,aq,<- Yqp]<;>rfl)
  | (rw[Y1j6 (Y1dr hs) oW h.2.2 aW];first|done|exact aW|rfl)
  | (rw[Y1cc (Y1dr hs) oW h.2.2 aW aW]<;>rfl)
  | (rw[Y1cc (Y1dr hs) oW h.2.2 aW aW,aq,<- Yqp]<;>rfl)
  | (rw[Y1c6 (Y1dr hs) oW h.2.2 aW aW]<;>rfl)
  | (rw[Y1c6 (Y1dr hs) oW h.2.2 aW aW,aq,<- Yqp]<;>rfl)
  | (rw[Y1f7 oW,ae aW,aq]<;>rfl)
  | (rw[Y1f7 oW,ab (by rw[‹(L.g k).d=false›];decide)])
  | (rw[<- Yzp (f:=yPt yX yZ) (L:=L) (m:=m) (k:=k) oW];first|done|exact h.2.2)
  | (rw[ar (l:=L) (i:=k) oW];done)
  | skip)
theorem Zhq (L:List YP) (m:YS) (h:Ylt m/\(∀ p∈L,Ysq p)/\L.length<=4000) (ih:∀ (s:YS_) (q:YS),Ylt q/\Yld s/\m.z<=q.z->Zr s q) (ihb:∀ (L:List YS_) (q:YS),Ylt q/\(∀ x∈L,Yld x)/\L.length<=2000/\m.z<=q.z->Zb L q):Zcr L m:=Ylh call174 func174 (let v1:=Yl9 (yPt yX yZ) L m;let v2:List AC:=[.ref 3,.ref 4,vI v1.m.Sb,vI v1.m.Va,vI v1.m.Sc,vI v1.m.z];let v3:=v1.m.Ba.map Yl2;.z yPC L (.w (.m 1) (.w (.m 2) (.w (.g (.nilreg 7 true 8)) (.w (.g (.nilreg 8 true 1)) (.l (Z6y L m) (Zk4 L m h ih ihb) [0,1,2,5,6,3,4] [.s (li 0),.o (.Ac m.Ba),.o (.Ad m.Ma),.a (vI m.Sb),.a (vI m.Va),.a (vI m.Sc),.a (vI m.z),.o (.y 8 []),.o (.y 1 [])] 0 (.t (.f [5,6,3,4] [.box v2,.dead,.dead,.y 4 v3,.Ad v1.m.Ma,.Ak v1.v,.Aa (yDv L)] (.tup [.r 5,.r 6,li 0])) (.t (.w (.g (.nilreg 4 true 8)) (.w (.g (.nilreg 5 true 1)) (.f [3,4,5,6] [.box v2,.dead,.dead,.y 4 v3,.Ad v1.m.Ma,.y 8 [],.y 1 []] (.tup [.r 5,.r 6,li v1.e])))) .q)))))))) (by
 dsimp only[Yl3,Zcr,Yle,Z6y]
 have g0:=Y11m (f:=yPt yX yZ) (L:=L) (m:=m)
 have g1:=λa=>Y11u (f:=yPt yX yZ) L m a
 have g2:(Yl9 (yPt yX yZ) L m).e=0->psV L m=yDv L:=λa=>ae a
 have g3:¬ (Yl9 (yPt yX yZ) L m).e=0->psV L m=[]:=λa=>ab a
 with_reducible repeat' (first|apply ah|exact zR|exact ih|(intro)|apply Z4g)
 all_goals ((try simp only[std,inj]at *);with_reducible and_intros)
 all_goals try first|with_reducible (first|apply Z4g|apply ih)|(simp only[<- aq];with_reducible first|apply Z4g|apply ih)
 all_goals (try simp only[aI]at *)
 all_goals first
  | exact b9|omega|rfl
  | (rw[g2 aW]<;>rfl)|(rw[g1 aW,g3 aW]<;>rfl)
  | skip)
theorem Zkw (L:List YS_) (m:YS) (h:Ylt m/\(∀ x∈L,Yld x)/\L.length<=2000) (ih:∀ (s:YS_) (q:YS),Ylt q/\Yld s/\m.z<q.z->Zr s q) (ihb:∀ (L:List YS_) (q:YS),Ylt q/\(∀ x∈L,Yld x)/\L.length<=2000/\m.z<q.z->Zb L q):Zb L m:=Ylh call132 func132 (let v12:=ySc 1 m;let v1:=yLX (yAd (nxt m.Sb 1) L) [] v12;let v2:=[vI 0,vI 0,.ref 5,vI 0,vI 0,vS (mkS []),.ref 6,.ref 7];let v3:=yPt yX yZ;let v4:Orc:=.ghost (.nilbox 3 6 true 4);let v5:Orc:=.ghost (.nilbox 3 7 true 8);let v6:Orc:=.ghost (.nilbox 3 2 true 1);let v13:=Yl9 v3 v1.v v1.m;let v18:List AC:=[.ref 3,.ref 4,vI v13.m.Sb,vI v13.m.Va,vI v13.m.Sc,vI v13.m.z];let v19:=v13.m.Ba.map Yl2;let v20:=v13.m.Ma.map Ylc;let v7:List Ob:=[.box v18,.dead,.dead,.y 4 v19,.y 3 v20,.y 1 [],.y 4 [],.y 8 []];let v8:List Ob:=[.box [.ref 3,.ref 4,vI v1.m.Sb,vI v1.m.Va,vI v1.m.Sc,vI v1.m.z],.dead,.dead,.Ac v1.m.Ba,.Ad v1.m.Ma,.y 1 [],.y 4 [],.y 8 []];let v9:=((v1.v.map yPC).length:Int);let v10:=sqV v13.v;let v11:=psV v1.v v1.m;let v14:Tq _ _:=.w v6 (.w v4 (.w v5 (.f [14,15,18,19,20] v7 (.tup [.agg v2,li 8]))));let v15:Tq _ _:=.w v6 (.w v4 (.w v5 (.f [8,9,11,12,13] v8 (.tup [.agg v2,li 1]))));let v16:=v1.v.g (v9 - 1).toNat;let v17:=((v11.map Yl4).length:Int);.d [.ptr,.rd] (Z4o m 1) (.i (cdN m.Sb (1:Int)≠0) (.w v6 (.w v4 (.w v5 (.w (.m 1) (.w (.m 2) (.f [7,8,4,5,6] [.box [.ref 3,.ref 4,vI v12.Sb,vI v12.Va,vI v12.Sc,vI v12.z],.dead,.dead,.Ac v12.Ba,.Ad v12.Ma,.y 1 [],.y 4 [],.y 8 []] (.tup [.agg v2,li (cdN m.Sb 1)]))))))) (.d [.rd,.rd] (Z4p L (nxt m.Sb 1)) (.w (.g (.lock 4)) (.d [.ptr,.rd] (Zcq (yAd (nxt m.Sb 1) L) v12) (.i (v1.e≠0) (.w v6 (.w v4 (.w v5 (.f [8,9,11,12,13] v8 (.tup [.agg v2,li v1.e]))))) (.z yPC v1.v (.i (v9=0) (.y true v15) (.z yPC v1.v (.r (v9 - 1) (.p (0<=v9 - 1/\(v9 - 1).toNat<(v1.v.map yPC).length) (.w (.cells (yPF v16)) (.p ((v1.v.map yPC)[(v9 - 1).toNat]? = some (yPF v16)) (.b v16.d v15 (.d [.ptr,.rd] (Zcr v1.v v1.m) (.i (v13.e≠0) (.w v6 (.w v4 (.w v5 (.f [14,15,18,19,20] v7 (.tup [.agg v2,li v13.e]))))) (.z Yl4 v11 (.i (v17=0) (.d [.own true 8] (Zak v13.v) (.f [14,15,19,20,21] [.box v18,.dead,.dead,.y 4 v19,.y 3 v20,.Aa v10.Pa,.Ah v10.Da.Ia,.Ak v10.Kb] (.tup [.agg [vI v10.Ka,vI v10.Na,.ref 5,vI v10.Da.Ka,vI v10.Da.Na,vS v10.Da.Ta,.ref 6,.ref 7],li (sqE v13.v)]))) (.z Yl4 v11 (.i (60<v17) (.y true v14) (.z Ylo v13.v (.i (60<((v13.v.map Ylo).length:Int)) v14 (.w v4 (.f [14,15,17,18,16] [.box v18,.dead,.dead,.y 4 v19,.y 3 v20,.Aa v11,.y 4 [],.Ak v13.v] (.tup [.agg [vI 9,vI 0,.ref 5,vI 0,vI 0,vS (mkS []),.ref 6,.ref 7],li 0]))))))))))))))))))))))))) (by
 dsimp only[Yl3,Zb]
 have hm:=h.1
 have hL:=h.2.1
 have hn:=@Yq4 m.Sb 1 (Yrd hm.1).2.2.1.1
 have hA:cdN m.Sb 1=0->∀ x∈yAd (nxt m.Sb 1) L,Yld x:=λa=>Ys2 ⟨(hn a).1,(hn a).2.1⟩ hL
 have hl:(yAd (nxt m.Sb 1) L).length=L.length:=by simp[yAd]
 have k0:=@Y241 L m hm hL
 have hi:cdN m.Sb 1=0->(yLX (yAd (nxt m.Sb 1) L) [] (ySc 1 m)).e=0->¬ ((yLX (yAd (nxt m.Sb 1) L) [] (ySc 1 m)).v.length:Int)=0->∀ (s:YS_) (q:YS),Ylt q/\Yld s/\(yLX (yAd (nxt m.Sb 1) L) [] (ySc 1 m)).m.z<=q.z->Ylt q/\Yld s/\m.z<q.z:=λa b c s q d=>⟨d.1,d.2.1,by have:=(k0 a b).2.2.2 c;have:=d.2.2;omega⟩
 have hb:cdN m.Sb 1=0->(yLX (yAd (nxt m.Sb 1) L) [] (ySc 1 m)).e=0->¬ ((yLX (yAd (nxt m.Sb 1) L) [] (ySc 1 m)).v.length:Int)=0->∀ (B:List YS_) (q:YS),Ylt q/\(∀ x∈B,Yld x)/\B.length<=2000/\(yLX (yAd (nxt m.Sb 1) L) [] (ySc 1 m)).m.z<=q.z->OK (Zb B q):=λa b c B q d=>ihb B q ⟨d.1,d.2.1,d.2.2.1,by have:=(k0 a b).2.2.2 c;have:=d.2.2.2;omega⟩
 have hf:cdN m.Sb 1=0->(yLX (yAd (nxt m.Sb 1) L) [] (ySc 1 m)).e=0->(Yl9 (yPt yX yZ) (yLX (yAd (nxt m.Sb 1) L) [] (ySc 1 m)).v (yLX (yAd (nxt m.Sb 1) L) [] (ySc 1 m)).m).e=0->(Ymh (Yl9 (yPt yX yZ) (yLX (yAd (nxt m.Sb 1) L) [] (ySc 1 m)).v (yLX (yAd (nxt m.Sb 1) L) [] (ySc 1 m)).m).v).length<=2147483647/\(Yl9 (yPt yX yZ) (yLX (yAd (nxt m.Sb 1) L) [] (ySc 1 m)).v (yLX (yAd (nxt m.Sb 1) L) [] (ySc 1 m)).m).v.length<=2147483647:=λa b c=>Y22p (k0 a b).1 (k0 a b).2.1 (k0 a b).2.2.1 c
 with_reducible repeat' (first|apply ah|exact zR|exact ih|(intro)|apply Za|apply Ze|apply Zhp|apply Zhq|apply Zal)
 all_goals ((try simp only[std,inj]at *);with_reducible and_intros)
 all_goals try first|with_reducible (first|apply Za|apply Ze|apply Zhp|apply Zhq|apply Zal|apply ih)|(simp only[<- aq];with_reducible first|apply Za|apply Ze|apply Zhp|apply Zhq|apply Zal|apply ih)
 all_goals (try simp only[aI]at *)
 all_goals first
  | exact b9|exact hm.1|omega
  | exact⟨Ys5 1 hm.1,hm.2⟩
  | exact hL _ aW|exact hA aW _ aW
  | exact(k0 aW aW).1|exact(k0 aW aW).2.1 _ aW
  | exact aN (k0 aW aW).2.2.1 oW
  | exact hi aW aW aW _ _ aW
  | exact hb aW aW aW _ _ aW
  | exact Yqu oW
  | exact(hf aW aW aW).1|exact(hf aW aW aW).2
  | (rw[Y175 hm hL,ab aW]<;>rfl)|(rw[Y175 hm hL,ae aW,yB1,ab aW]<;>rfl)|(rw[Y175 hm hL,ae aW,yB1,ae aW,ae (.inl oW)]<;>rfl)
  | (rw[Y26c hm hL aW aW aW]<;>rfl)
  | (rw[Y24x hm hL aW aW aW aW aW]<;>rfl)
  | (rw[Y26b hm hL aW aW aW aW aW aW]<;>rfl)
  | (rw[Y25q hm hL aW aW aW aW aW aW aW]<;>rfl)
  | (rw[Y258 hm hL aW aW aW aW aW aW aW]<;>rfl)
  | (rw[Y262 hm hL aW aW aW aW aW aW aW aW]<;>rfl)
  | skip)
def Z7q (s:YS_) (m:YS):Lp (YS_×YS):=let v4:Cell:=.y;let v1:=[vI 0,vI 0,.val v4,vI 0,vI 0,vS (mkS []),.val v4,.val v4];let v2:=yLq s m;let v3:=[(0,.y 0),(3,.y 3),(4,.y 4)];.mk 105 3 (λx=>v3) (λx=>[.box [.ref 5,.ref 6,ha x 7,ha x 8,ha x 9,ha x 10],.dead,.dead,.box [ha x 0,ha x 1,ha x 2,ha x 3,ha x 4],.box v1,ho x 5,ho x 6]) (λk=>[.a (vI k.1.Ka),.a (vI k.1.Na),.a (vS k.1.Ta),.a (Ap k.1.Sa),.a (Am k.1.Ia),.o (.Ac k.2.Ba),.o (.Ad k.2.Ma),.a (vI k.2.Sb),.a (vI k.2.Va),.a (vI k.2.Sc),.a (vI k.2.z)]) (λk=>(okX k.2.x/\0<=k.2.z/\k.2.z<=3000)/\Yld k.1/\m.z<=k.2.z/\yLq k.1 k.2=yLq s m) (λk=>(3001 - k.2.z).toNat) [.mk (v2.g) (.exit 0) (λx=>v3) (λx=>[.box [.ref 5,.ref 6,ha x 7,ha x 8,ha x 9,ha x 10],.dead,.dead,.box [ha x 0,ha x 1,ha x 2,ha x 3,ha x 4],.box v1,ho x 5,ho x 6]) [.a (vI v2.s.Ka),.a (vI v2.s.Na),.a (vS v2.s.Ta),.a (Ap v2.s.Sa),.a (Am v2.s.Ia),.o (.Ac v2.m.Ba),.o (.Ad v2.m.Ma),.a (vI v2.m.Sb),.a (vI v2.m.Va),.a (vI v2.m.Sc),.a (vI v2.m.z)],.mk (v2.g=false) .ret (λx=>[(4,.y 3),(5,hs x 14)]) (λx=>[.box [.ref 4,.ref 5,ha x 2,ha x 3,ha x 4,ha x 5],.dead,.dead,.box [ha x 6,ha x 7,.ref 6,ha x 9,ha x 10,ha x 11,.ref 7,.ref 8],ho x 0,ho x 1,ho x 8,ho x 12,ho x 13]) [.o (.Ac v2.r.m.Ba),.o (.Ad v2.r.m.Ma),.a (vI v2.r.m.Sb),.a (vI v2.r.m.Va),.a (vI v2.r.m.Sc),.a (vI v2.r.m.z),.a (vI v2.r.v.Ka),.a (vI v2.r.v.Na),.o (.Aa v2.r.v.Pa),.a (vI v2.r.v.Da.Ka),.a (vI v2.r.v.Da.Na),.a (vS v2.r.v.Da.Ta),.o (.Ah v2.r.v.Da.Ia),.o (.Ak v2.r.v.Kb),.s (li v2.r.e)]]
theorem Zj5 (s:YS_) (m:YS) (h:Ylt m/\Yld s) (ih:∀ (s:YS_) (q:YS),Ylt q/\Yld s/\m.z<q.z->OK (Zr s q)) (ihb:∀ (L:List YS_) (q:YS),Ylt q/\(∀ (x:YS_),x∈L->Yld x)/\L.length<=2000/\m.z<q.z->OK (Zb L q)):Lp.Sem prog (Yli f32 0) (Z7q s m):=Ylp (λk=>let v10:Orc:=.ghost (.nilbox 4 2 true 1);let v9:Orc:=.ghost (.nilbox 4 7 true 8);let v8:=yCn k.2;let v15:Ob:=.Ac v8.Ba;let v16:Ob:=.Ad v8.Ma;let v18:=vI v8.Sb;let v20:=vI v8.Va;let v17:=vI v8.Sc;let v21:=vI v8.z;let v12:Ob:=.y 1 [];let v11:Ob:=.y 8 [];let v1:Tq _ _:=.d [.rd] (Z2t k.1) (.w v10 (.w v9 (.o 1 [0,1,2,4,5,6,8,7,9] [.o v15,.o v16,.a v18,.a v20,.a v17,.a v21,.a (vI 1),.a (vI 0),.o v12,.a (vI (yDt k.1).Ka),.a (vI (yDt k.1).Na),.a (vS (yDt k.1).Ta),.o (.Ah (yDt k.1).Ia),.o v11,.s (li 0)])));let v19:=hdM v8.x k.1;let v2:=ySt v19 k.1 v8;let v3:=Yo7 v8.x v19 k.1;let v4:Orc:=.ghost (.nilbox 4 6 true 4);let v5:=rsB v8.Ba k.1.Ta k.1.Sa;let v6:=vS (mkS []);let v7:Ob:=.y 4 [];let v13:Ob:=.Ac v2.m.Ba;let v14:Ob:=.Ad v2.m.Ma;.d [.ptr] (Z6u k.2) (.i (Ynh k.2.z≠0) (.w v10 (.w v4 (.w v9 (.o 1 [0,1,2,4,5,6,7,8,9] [.o v15,.o v16,.a v18,.a v20,.a v17,.a v21,.a (vI 0),.a (vI 0),.o v12,.a (vI 0),.a (vI 0),.a v6,.o v7,.o v11,.s (li (Ynh k.2.z))])))) (.i (k.1.Ka=1) (.d [.ptr,.rd] (Z8p v8 k.1) (.i (yRe v8.Ba k.1.Ta k.1.Sa≠0) (.w v10 (.w v4 (.w v9 (.o 1 [0,1,2,4,5,6,8,9,10] [.o v15,.o v16,.a v18,.a v20,.a v17,.a v21,.a (vI 0),.a (vI 0),.o v12,.a (vI 0),.a (vI 0),.a v6,.o v7,.o v11,.s (li (yRe v8.Ba k.1.Ta k.1.Sa))])))) (.i (v5.Ka=3) (.w v10 (.w v4 (.w v9 (.o 1 [0,1,2,4,5,6,8,9,10] [.o v15,.o v16,.a v18,.a v20,.a v17,.a v21,.a (vI 2),.a (vI v5.Na),.o v12,.a (vI 0),.a (vI 0),.a v6,.o v7,.o v11,.s (li 0)])))) (.i (v5.Ka=2) (.w v10 (.w v4 (.w v9 (.o 1 [0,1,2,4,5,6,8,9,10] [.o v15,.o v16,.a v18,.a v20,.a v17,.a v21,.a (vI 3),.a (vI v5.Na),.o v12,.a (vI 0),.a (vI 0),.a v6,.o v7,.o v11,.s (li 0)])))) (.w v10 (.w v4 (.w v9 (.o 1 [0,1,2,4,5,6,8,9,10] [.o v15,.o v16,.a v18,.a v20,.a v17,.a v21,.a (vI 0),.a (vI 0),.o v12,.a (vI 0),.a (vI 0),.a v6,.o v7,.o v11,.s (li 1)])))))))) (.i (k.1.Ka=2) (.y true v1) (.i (k.1.Ka=3) (.y true v1) (.i (k.1.Ka=4) v1 (.z Yl1 k.1.Ia (.i (((k.1.Ia.map Yl1).length:Int)=0) (.w v10 (.w v4 (.w v9 (.o 1 [0,1,2,4,5,6,7,8,9] [.o v15,.o v16,.a v18,.a v20,.a v17,.a v21,.a (vI 0),.a (vI 0),.o v12,.a (vI 0),.a (vI 0),.a v6,.o v7,.o v11,.s (li 1)])))) (.d [.ptr,.rd] (Z8o v8 k.1) (.i (hdM v8.x k.1<0) (.o 0 [0,1,2,3,4,5,6] [.a (vI k.1.Ka),.a (vI k.1.Na),.a (vS k.1.Ta),.a (Ap k.1.Sa),.a (Am k.1.Ia),.o v15,.o v16,.a v18,.a v20,.a v17,.a v21]) (.d [.ptr,.rd,.rd] (Z87 v8 v19 k.1) (.i (Yn3 v8.x v19 k.1≠0) (.w v10 (.w v4 (.w v9 (.o 1 [0,1,2,4,5,6,8,9,10] [.o v13,.o v14,.a (vI v2.m.Sb),.a (vI v2.m.Va),.a (vI v2.m.Sc),.a (vI v2.m.z),.a (vI 0),.a (vI 0),.o v12,.a (vI 0),.a (vI 0),.a v6,.o v7,.o v11,.s (li (Yn3 v8.x v19 k.1))])))) (.g [0,1,2,3,4,5,6] (Yo7 v8.x v19 k.1,v2.m) [.a (vI v3.Ka),.a (vI v3.Na),.a (vS v3.Ta),.a (Ap v3.Sa),.a (Am v3.Ia),.o v13,.o v14,.a (vI v2.m.Sb),.a (vI v2.m.Va),.a (vI v2.m.Sc),.a (vI v2.m.z)]))))))))))))) (by
 intro k h;try dsimp only[Yl3,Yle,Z7q]at h|-
 have hm:Ylt k.2:=h.1
 have hs:=h.2.1
 have hw:=(Ymx hs).1
 have w0:=@Y25i k.2 hm
 have w1:=@Y1o1 (yCn k.2).x k.1 hm.1
 have z1:(ySt (hdM (yCn k.2).x k.1) k.1 (yCn k.2)).m.z=k.2.z+1:=rfl
 have cz:Ynh k.2.z=0->k.2.z+1<=3000:=λa=>(w0 a).2.2
 have hz:=h.2.2.1
 have hz0:=hm.2.1
 with_reducible repeat' (first|apply ah|exact zR|exact ih|(intro)|apply Z1y|apply Z4f|apply Z65|apply Z1w|apply Z3f|apply Z1x|apply Zan|apply Z5a)
 all_goals ((try simp only[std,inj]at *);with_reducible and_intros)
 all_goals try first|with_reducible (first|apply Z1y|apply Z4f|apply Z65|apply Z1w|apply Z3f|apply Z1x|apply Zan|apply Z5a|apply ih)|(simp only[<- aq];with_reducible first|apply Z1y|apply Z4f|apply Z65|apply Z1w|apply Z3f|apply Z1x|apply Zan|apply Z5a|apply ih)
 all_goals (try simp only[aI]at *)
 all_goals first
  | exact b9|exact hm.1|exact h.1|omega
  | exact(w0 aW).1|exact w0 aW
  | exact aN hw oW
  | exact(w1 oW).2.1|exact(w1 oW).2.2|exact Yx5 (w0 aW).1
  | exact Yuo (x:=(yCn k.2).x) hm.1.Sb aW
  | (rw[z1];have:=cz aW;omega)
  | (rw[<- h.2.2.2,Y266 (x:=k.1) hm aW];first|done|rfl|exact Y20t aW)
  | (rw[<- h.2.2.2,Y268 (x:=k.1) hm (z:=aW) aW];first|done|(rw[yNm];first|(rw[ab aW]<;>rfl)|(rw[ae aW,ae aW]<;>rfl)|(rw[ae aW,ab aW,ae aW]<;>rfl)|(rw[ae aW,ab aW,ab aW]<;>rfl))|rfl)
  | (rw[<- h.2.2.2,Y25g (x:=k.1) hm aW aW oW]<;>rfl)
  | (rw[<- h.2.2.2,Y250 (x:=k.1) hm aW aW aW aW aW aW]<;>rfl)
  | (rw[<- h.2.2.2,Y25c (x:=k.1) hm aW aW aW aW aW aW aW]<;>rfl)
  | (rw[<- h.2.2.2,Y25h (x:=k.1) hm aW aW aW aW aW aW aW aW]<;>rfl)
  | (rw[<- h.2.2.2,Y23q (x:=k.1) hm aW aW aW aW aW aW aW aW]<;>rfl)
  | skip)
theorem Zkx (s:YS_) (m:YS) (h:Ylt m/\Yld s) (ih:∀ (s:YS_) (q:YS),Ylt q/\Yld s/\m.z<q.z->Zr s q) (ihb:∀ (L:List YS_) (q:YS),Ylt q/\(∀ x∈L,Yld x)/\L.length<=2000/\m.z<q.z->Zb L q):Zr s m:=Ylh call32 func32 (let v7:=yLq s m;let v1:=yFm yX yZ (hdN v7.m.x v7.s) v7.s v7.m;let v2:=Yl9 yX v7.s.Ia v7.m;let v3:=[vI 0,vI 0,.ref 5,vI 0,vI 0,vS (mkS []),.ref 6,.ref 7];let v4:Orc:=.ghost (.nilbox 4 6 true 4);let v5:Orc:=.ghost (.nilbox 4 2 true 1);let v8:List AC:=[.ref 3,.ref 4,vI v2.m.Sb,vI v2.m.Va,vI v2.m.Sc,vI v2.m.z];let v9:=v2.m.Ba.map Yl2;let v6:List Ob:=[.box v8,.dead,.dead,.y 4 v9,.Ad v2.m.Ma,.y 1 [],.y 4 [],.y 8 []];.w (.m 1) (.w (.m 2) (.l (Z7q s m) (Zj5 s m h ih ihb) [0,1,2,3,4,5,6] [.a (vI s.Ka),.a (vI s.Na),.a (vS s.Ta),.a (Ap s.Sa),.a (Am s.Ia),.o (.Ac m.Ba),.o (.Ad m.Ma),.a (vI m.Sb),.a (vI m.Va),.a (vI m.Sc),.a (vI m.z)] (s,m) (.t (.d [.ptr,.rd] (Z6t v7.m v7.s) (.i (0<=hdN v7.m.x v7.s) (.d [.ptr,.rd,.rd] (Zcp v7.s (hdN v7.m.x v7.s) v7.m) (.f [10,11,12,13,14] [.box [.ref 3,.ref 4,vI v1.m.Sb,vI v1.m.Va,vI v1.m.Sc,vI v1.m.z],.dead,.dead,.Ac v1.m.Ba,.Ad v1.m.Ma,.Aa v1.v.Pa,.Ah v1.v.Da.Ia,.Ak v1.v.Kb] (.tup [.agg [vI v1.v.Ka,vI v1.v.Na,.ref 5,vI v1.v.Da.Ka,vI v1.v.Da.Na,vS v1.v.Da.Ta,.ref 6,.ref 7],li v1.e]))) (.d [.ptr,.rd] (Z4q v7.s.Ia v7.m) (.i (v2.e≠0) (.w v5 (.w v4 (.w (.g (.nilbox 4 7 true 8)) (.f [10,11,13,14,15] v6 (.tup [.agg v3,li v2.e]))))) (.z Ylo v2.v (.i (9<((v2.v.map Ylo).length:Int)) (.w v5 (.w v4 (.w (.g (.nilbox 4 7 true 8)) (.f [10,11,13,14,15] v6 (.tup [.agg v3,li 8]))))) (.w v5 (.w v4 (.f [10,11,13,14,12] [.box v8,.dead,.dead,.y 4 v9,.Ad v2.m.Ma,.y 1 [],.y 4 [],.Ak v2.v] (.tup [.agg [vI 6,vI 0,.ref 5,vI 0,vI 0,vS (mkS []),.ref 6,.ref 7],li 0])))))))))) (.t (.f [4,5,6,7,8] [.box [.ref 3,.ref 4,vI v7.r.m.Sb,vI v7.r.m.Va,vI v7.r.m.Sc,vI v7.r.m.z],.dead,.dead,.Ac v7.r.m.Ba,.Ad v7.r.m.Ma,.Aa v7.r.v.Pa,.Ah v7.r.v.Da.Ia,.Ak v7.r.v.Kb] (.tup [.agg [vI v7.r.v.Ka,vI v7.r.v.Na,.ref 5,vI v7.r.v.Da.Ka,vI v7.r.v.Da.Na,vS v7.r.v.Da.Ta,.ref 6,.ref 7],li v7.r.e])) .q))))) (by
 dsimp only[Yl3,Zr,Yle,Z7q]
 have hm:=h.1
 have hs:=h.2
 have hq:=(Y138 h.1 h.2).1
 have ihx:(yLq s m).g->∀ (x:YS_) (q:YS),Ylt q/\Yld x/\(yLq s m).m.z<=q.z->Ylt q/\Yld x/\m.z<q.z:=λa x q d=>⟨d.1,d.2.1,by have:=(hq a).2.2.1;have:=d.2.2;omega⟩
 have ihy:(yLq s m).g->∀ (B:List YS_) (q:YS),Ylt q/\(∀ x∈B,Yld x)/\B.length<=2000/\(yLq s m).m.z<=q.z->OK (Zb B q):=λa B q d=>ihb B q ⟨d.1,d.2.1,d.2.2.1,by have:=(hq a).2.2.1;have:=d.2.2.2;omega⟩
 have hl:(yLq s m).g->(yLq s m).s.Ia.length<=2000:=λa=>Ytk (hq a).2.1
 with_reducible repeat' (first|apply ah|exact zR|exact ih|(intro)|apply Z1y|apply Z4f|apply Z65|apply Z1w|apply Z3f|apply Z1x|apply Zan|apply Z5a)
 all_goals ((try simp only[std,inj]at *);with_reducible and_intros)
 all_goals try first|with_reducible (first|apply Z1y|apply Z4f|apply Z65|apply Z1w|apply Z3f|apply Z1x|apply Zan|apply Z5a|apply ih)|(simp only[<- aq];with_reducible first|apply Z1y|apply Z4f|apply Z65|apply Z1w|apply Z3f|apply Z1x|apply Zan|apply Z5a|apply ih)
 all_goals (try simp only[aI]at *)
 all_goals first
  | exact b9|omega|rfl|exact hm.1|exact hm.2.1|exact hm.2.2
  | exact(hq aW).1|exact(hq aW).2.1|exact(hq aW).1.1
  | exact Ynf (hq aW).2.1 aW|exact hl aW
  | exact Y1ou (hq aW).1.1 aW
  | exact Nat.pos_of_ne_zero (hq aW).2.2.2
  | exact ihx aW _ _ aW|exact ihy aW _ _ aW
  | (rw[Y25b hm hs aW]<;>rfl)
  | (rw[Y25w hm hs aW aW]<;>rfl)
  | (rw[Y25p hm hs aW aW aW]<;>rfl)
  | (rw[Y25f hm hs aW aW aW aW]<;>rfl)
  | (rw[Y24y hm hs aW aW aW aW]<;>rfl)
  | skip)
theorem Y21x:∀ n:Nat,(∀ (s:YS_) (q:YS),Ylt q->Yld s->(3001 - q.z).toNat<=n->OK (Zr s q))/\(∀ (L:List YS_) (q:YS),Ylt q->(∀ x∈L,Yld x)->L.length<=2000->(3001 - q.z).toNat<=n->OK (Zb L q))
 | 0=>⟨λs q hq _ hn=>by have:=hq.2;omega,λL q hq _ _ hn=>by have:=hq.2;omega⟩
 | n+1=>by
  have ih:=Y21x n
  have f:=λ(z:Int) (hn:(3001 - z).toNat<=n+1) (s':YS_) (q':YS) (d:Ylt q'/\Yld s'/\z<q'.z)=>ih.1 s' q' d.1 d.2.1 (by have:=d.2.2;omega)
  have g:=λ(z:Int) (hn:(3001 - z).toNat<=n+1) (L':List YS_) (q':YS) (d:Ylt q'/\(∀ x∈L',Yld x)/\L'.length<=2000/\z<q'.z)=>ih.2 L' q' d.1 d.2.1 d.2.2.1 (by have:=d.2.2.2;omega)
  exact⟨λs q hq hs hn=>Zkx s q ⟨hq,hs⟩ (f q.z hn) (g q.z hn),λL q hq hL hl hn=>Zkw L q ⟨hq,hL,hl⟩ (f q.z hn) (g q.z hn)⟩
theorem Zk5 (s:YS_) (m:YS) (h:Ylt m/\Yld s):Zr s m:=(Y21x _).1 s m h.1 h.2 (aC _)
end
mutual
def nmP:YC->List YS_
 | ⟨_,_,f,e⟩=>nmZ f++Y1e8 e
def Y1e8:List YC->List YS_
 | []=>[]
 | x :: r=>nmP x++Y1e8 r
end
theorem Y1it:∀ l,Y1e8 l=l.flatMap nmP
 | []=>by simp[Y1e8]
 | x :: r=>by rw[Y1e8,Y1it r];simp
theorem Yyx (x:YC):nmP x=nmZ x.form++x.each.flatMap nmP:=by cases x;simp only[nmP,Y1it]
theorem Y1hp:nmP (default:YC)=[]:=by
 rw[Yyx];show nmZ ⟨0,0,.empty,[],[]⟩++[]=[]
 rw[Yp4];simp
def Yto (Y:List YS_) (C:List YC):Prop:=∀ z∈C,∀ y∈nmP z,y∈Y
theorem Yy3 {Y:List YS_}{C:List YC}(h:Yto Y C) (i:Nat):∀ y∈nmP (C.g i),y∈Y:=by
 intro y hy
 rcases bH i C.length with h3|h3
 ·exact h _ (Yl6 h3) y hy
 ·have e:C.g i=default:=by simp[h3]
  rw[e,Y1hp]at hy;cases hy
theorem Y1qy {Y:List YS_}{C:List YC}(h:Yto Y C) (i:Nat):Yto Y (C.g i).each:=by
 intro z hz y hy
 refine Yy3 h i y ?_
 rw[Yyx];exact bc _ (List.mem_flatMap.2 ⟨z,hz,hy⟩)
theorem Y1k8 {Y:List YS_}{C:List YC}(h:Yto Y C) (a:Nat):∀ I,Yto Y (Y10c C a I)
 | []=>h
 | x :: r=>by
  have ih:=Y1k8 h a r
  simp only[Y10c]
  split
  ·intro z hz
   rcases bS hz with hz|rfl
   ·exact ih z hz
   ·exact Yy3 (Y1qy h _) a
  ·exact ih
theorem Y1r2 {f:Nat->Int->YS_×Bool×Int}{R:YS_->Prop}(hf:∀ j q,(f j q).2.1->R (f j q).1):∀ (j:Nat) (q:Int) (O:List YS_),(itr f j q O).2.1->∀ z∈(itr f j q O).1,z∈O\/R z
 | 0,q,O,_,z,hz=>.inl hz
 | j+1,q,O,h,z,hz=>by
  have h0:=Y1fa h
  rw[Yuj f j q O h0]at h hz
  simp only at h hz
  rcases List.mem_append.1 hz with hz|hz
  ·exact Y1r2 hf j q O h0 z hz
  ·rw[List.mem_singleton.1 hz];exact .inr (hf _ _ h)
def inR (l:List YS_) (Y:List YS_) (z:YS_):Prop:=∀ y∈nmZ z,(∃ x∈l,y∈nmZ x)\/y∈Y
theorem Yzw {l l' Y:List YS_}{z:YS_}(h:inR l Y z) (hl:∀ x∈l,x∈l'):inR l' Y z:=λy hy=>(h y hy).imp (λ⟨x,hx,e⟩=>⟨x,hl x hx,e⟩) id
theorem Y19b {Y:List YS_}:∀ (l:List YS_),(∀ x∈l,∀ C q,Yto Y C->(bld x C q).2.1->inR [x] Y (bld x C q).1)->∀ C q O,Yto Y C->(Yp3 l C q O).2.1->∀ z∈(Yp3 l C q O).1,z∈O\/inR l Y z
 | [],_,C,q,O,_,_,z,hz=>by rw[Yut]at hz;exact .inl hz
 | [x],hx,C,q,O,hC,h,z,hz=>by
  rw[Y162]at h hz
  by_cases e:(bld x C q).2.1
  ·rw[ae e,Yut]at hz
   rcases List.mem_append.1 hz with hz|hz
   ·exact .inl hz
   ·rw[List.mem_singleton.1 hz];exact .inr (hx x aj C q hC e)
  ·rw[ab e]at h;cases h
 | x :: y :: r,hx,C,q,O,hC,h,z,hz=>by
  rw[Y11q]at h hz
  by_cases d:Ylj y
  ·rw[ae d]at h hz
   by_cases e:(bR C x q O).2.1
   ·rw[ae e]at h hz
    rcases Y19b r (λz hz=>hx z (by simp[hz])) C _ (bR C x q O).1 hC h z hz with h1|h1
    ·have:z∈O\/inR [x] Y z:=by
      unfold bR bJ at e h1
      by_cases c:cnB C x
      ·rw[ae c]at e h1
       exact Y1r2 (λj q hq=>hx x aj _ q (Y1k8 hC j _) hq) _ q O e z h1
      ·rw[ab c]at e;cases e
     exact this.imp id λhr=>Yzw hr λw hw=>by rw[List.mem_singleton.1 hw];exact aj
    ·exact .inr (Yzw h1 λw hw=>by simp[hw])
   ·rw[ab e]at h;exact absurd h e
  ·rw[ab d]at h hz
   by_cases e:(bld x C q).2.1
   ·rw[ae e]at h hz
    rcases Y19b (y :: r) (λz hz=>hx z (ai _ hz)) C _ (O++[(bld x C q).1]) hC h z hz with h1|h1
    ·rcases List.mem_append.1 h1 with h1|h1
     ·exact .inl h1
     ·rw[List.mem_singleton.1 h1]
      exact .inr (Yzw (hx x aj C q hC e) λw hw=>by rw[List.mem_singleton.1 hw];exact aj)
    ·exact .inr (Yzw h1 λw hw=>ai _ hw)
   ·rw[ab e]at h;cases h
theorem Y1zu {Y:List YS_}:∀ (t:YS_) (C:List YC) (q:Int),Yto Y C->(bld t C q).2.1->inR [t] Y (bld t C q).1:=by
 refine YS_.ind λt ih C q hC h => ?_
 rw[Y1ex]at h|-
 by_cases c1:q - 1<0
 ·rw[ae c1]at h;cases h
 rw[ab c1]at h|-
 by_cases c2:t.Ka=1
 ·rw[ae c2]at h|-
  by_cases c3:Ylj t\/fnd C t<0
  ·rw[ae c3];exact λy hy=>.inl ⟨t,List.mem_singleton.2 rfl,hy⟩
  ·rw[ab c3]at h|-
   by_cases c4:(Ymi C t).depth≠0
   ·rw[ae c4]at h;cases h
   ·rw[ab c4]at h|-
    by_cases c5:(Ylg (Ymi C t).form:Int)<=q
    ·rw[ae c5]
     intro y hy
     refine .inr (Yy3 hC (fnd C t).toNat y ?_)
     rw[Yyx];exact aY _ hy
    ·rw[ab c5]at h;cases h
 ·rw[ab c2]at h|-
  by_cases c6:(Yp3 t.Ia C (q - 1) []).2.1
  ·rw[ae c6]
   intro y hy
   rw[Yp4,ab c2,bq,bk]at hy
   obtain⟨z,hz,hy⟩:=hy
   rcases Y19b t.Ia ih C (q - 1) [] hC c6 z hz with h1|h1
   ·cases h1
   ·rcases h1 y hy with ⟨x,hx,e⟩|e
    ·exact .inl ⟨t,List.mem_singleton.2 rfl,by rw[Yp4];exact bc _ (List.mem_flatMap.2 ⟨x,hx,e⟩)⟩
    ·exact .inr e
  ·rw[ab c6]at h;cases h
theorem Y1gq {H:YS_->Bool}{A:List YS_->Int}:∀ (l:List YS_),(∀ x∈l,∀ d,∀ z∈nm H A x d,nmP z=[])->∀ i a d,∀ z∈nms H A l i a d,nmP z=[]
 | [],_,i,a,d,z,hz=>by simp[nms]at hz
 | x :: r,h,i,a,d,z,hz=>by
  simp only[nms,az]at hz
  rcases hz with hz|hz
  ·split at hz
   ·cases hz
   ·exact h x aj _ z hz
  ·exact Y1gq r (λy hy=>h y (ai _ hy)) _ _ _ z hz
theorem Y1z6 {H:YS_->Bool}{A:List YS_->Int}:∀ (p:YS_) (d:Int),∀ z∈nm H A p d,nmP z=[]:=by
 refine YS_.ind λp ih d z hz => ?_
 rw[Yrw]at hz
 split at hz
 ·split at hz
  ·cases hz
  ·simp only[an]at hz;subst hz
   rw[Yyx];show nmZ ⟨0,0,mkS [],[],[]⟩++[]=[]
   rw[Yp4];simp
 ·split at hz
  ·exact Y1gq p.Ia ih _ _ _ z hz
  ·cases hz
theorem Y24b {V:List YC}{R:List (List YC)}{Y:List YS_}(hV:∀ z∈V,nmP z=[]) (hR:∀ c∈R,Yto Y c):Yto Y (rp V R):=by
 intro z hz y hy
 simp only[rp,a9,bd]at hz
 obtain⟨i,hi,rfl⟩:=hz
 have h1:=hV _ (Yl6 hi)
 rw[Yyx]at h1 hy
 simp only at hy
 rw[List.flatMap_append,<- aH,h1,bq,bk]at hy
 obtain⟨w,hw,hy⟩:=hy
 obtain⟨c,hc,rfl⟩:=List.mem_map.1 hw
 exact Yy3 (hR c hc) i y hy
theorem Y1wf {Y fs:List YS_}(h:∀ f∈fs,∀ y∈nmZ f,y∈Y) (k:Nat):∀ y∈nmZ (fs.g k),y∈Y:=by
 intro y hy
 rcases bH k fs.length with h3|h3
 ·exact h _ (Yl6 h3) y hy
 ·have e:fs.g k=default:=by simp[h3]
  rw[e]at hy
  have e2:nmZ (default:YS_)=[]:=by show nmZ ⟨0,0,.empty,[],[]⟩=[];rw[Yp4];simp
  rw[e2]at hy;cases hy
theorem Y1oc {M:YS_->YS_->Bool}{H:YS_->Bool}{A:List YS_->Int}{Y:List YS_}:∀ l:List YS_,(∀ x∈l,∀ f c,mt M H A x f=some c->(∀ y∈nmZ f,y∈Y)->Yto Y c)->∀ i a k fs c,mts M H A l i a k fs=some c->(∀ f∈fs,∀ y∈nmZ f,y∈Y)->Yto Y c
 | [],_,i,a,k,fs,c,e,_,z,hz=>by simp only[mts,aa]at e;subst e;cases hz
 | x :: r,h,i,a,k,fs,c,e,hf,z,hz=>by
  have ih:=Y1oc r (λy hy=>h y (ai _ hy)) (i+1) a k
  have hd:∀ n,∀ f∈fs.drop n,∀ y∈nmZ f,y∈Y:=λn f hm=>hf f (aG hm)
  simp only[mts]at e
  split at e
  ·exact ih _ _ e hf z hz
  ·split at e
   ·split at e
    ·cases e
    ·rename_i R hR
     split at e
     ·cases e
     ·rename_i c' hc
      simp only[aa]at e;subst e
      obtain⟨r1,r2⟩:=Y1cx _ _ hR
      rcases List.mem_append.1 hz with hz|hz
      ·refine Y24b (λz hz=>Y1z6 x 1 z hz) (λc hc => ?_) z hz
       obtain⟨f',h1,h2⟩:=r2 c hc
       exact h x aj f' c h2 (hf f' (bt h1))
      ·exact ih _ _ hc (hd k) z hz
   ·split at e
    ·cases e
    ·rename_i c1 h1
     split at e
     ·cases e
     ·rename_i c' hc
      simp only[aa]at e;subst e
      rcases List.mem_append.1 hz with hz|hz
      ·exact h x aj _ _ h1 (Y1wf hf 0) z hz
      ·exact ih _ _ hc (hd 1) z hz
theorem Y23e {M:YS_->YS_->Bool}{H:YS_->Bool}{A:List YS_->Int}{Y:List YS_}:∀ (p f:YS_) (c:List YC),mt M H A p f=some c->(∀ y∈nmZ f,y∈Y)->Yto Y c:=by
 refine YS_.ind λp ih f c e hm z hz => ?_
 rw[Yrx]at e
 split at e
 ·split at e
  ·simp only[aa]at e;subst e;cases hz
  ·split at e
   ·split at e
    ·simp only[aa]at e;subst e;cases hz
    ·cases e
   ·simp only[aa]at e;subst e
    rw[List.mem_singleton.1 hz]
    intro y hy
    rw[Yyx]at hy
    simp only[Y10m,List.flatMap_nil,bv]at hy
    exact hm y hy
 ·split at e
  ·split at e
   ·refine Y1oc p.Ia ih _ _ _ _ _ e (λg hg y hy=>hm y ?_) z hz
    rw[Yp4];exact bc _ (List.mem_flatMap.2 ⟨g,hg,hy⟩)
   ·cases e
  ·split at e
   ·simp only[aa]at e;subst e;cases hz
   ·cases e
theorem Y221 (f:YS_):∀ y∈nmZ (tlY f),y∈nmZ f:=by
 intro y hy
 rw[Yp4]at hy
 have e:(tlY f).Ka≠1:=by show (0:Int)≠1;decide
 rw[ab e,bq,bk]at hy
 obtain⟨z,hz,hy⟩:=hy
 rw[Yp4]
 exact bc _ (List.mem_flatMap.2 ⟨z,aG hz,hy⟩)
theorem Y1ds:∀ {L:List Int},srt L->∀ y∈L,y<=L.getD ((L.length:Int) - 1).toNat 0
 | [],_,y,hy=>by cases hy
 | [x],_,y,hy=>by rw[List.mem_singleton.1 hy];exact aJ _
 | x :: z :: r,h,y,hy=>by
  have ih:=Y1ds (L:=z :: r) h.2.2
  have e:(x :: z :: r).getD (((x :: z :: r).length:Int) - 1).toNat 0=(z :: r).getD (((z :: r).length:Int) - 1).toNat 0:=by
   have:((((x :: z :: r).length:Int) - 1).toNat)=(((z :: r).length:Int) - 1).toNat+1:=by simp only[aD];omega
   rw[this];rfl
  rw[e]
  rcases List.mem_cons.1 hy with rfl|hy
  ·have h1:=h.2.1 z aj
   have h2:=ih z aj
   omega
  ·exact ih y hy
theorem Ytb {x:YE}{b:YB}:Yrq x b ↔ (0<b.Sa.length->b.Sa.getD ((b.Sa.length:Int) - 1).toNat 0<=x.Sb)/\(b.Ka=3->b.Na<=x.Va)/\(b.Ka=4->b.Na<(x.Ma.length:Int)):=by
 simp only[Yrq,af,aL,cL,aM]
 omega
structure exF (x:YE):Prop where
 areb:Yv1 x.Ba
 nm:(x.Ma.length:Int)<=200
 Sb:0<=x.Sb/\x.Sb<=99999
 Va:0<=x.Va/\x.Va<=99999
 Sc:0<=x.Sc/\x.Sc<=200
 macs:∀ r∈x.Ma,Ymr r/\Yt7 x.Sb r
 bnds:∀ b∈x.Ba,Yrq x b
theorem Ynr (x:YE):Ym0 x ↔ exF x:=by
 constructor
 ·intro h
  simp only[Ym0,af,ak,am,ruX]at h
  obtain⟨⟨⟨⟨⟨⟨a,b⟩,c⟩,d⟩,e⟩,f⟩,g⟩:=h
  exact⟨a,b,c,d,e,f,g⟩
 ·rintro⟨a,b,c,d,e,f,g⟩
  simp only[Ym0,af,ak,am,ruX]
  exact⟨⟨⟨⟨⟨⟨a,b⟩,c⟩,d⟩,e⟩,f⟩,g⟩
theorem Y16f {n n':Int}(h:n<=n'):∀ s:YS_,blw n s->blw n' s:=by
 refine YS_.ind λs ih hs => ?_
 rw[Ytt,af,am]at hs|-
 refine⟨?_,λx hx=>ih x hx (hs.2 x hx)⟩
 simp only[scB,am,ak]at hs|-
 exact λx hx=>cc (hs.1 x hx) h
theorem Y1j9 {n n':Int}(h:n<=n') {r:YR_}(hr:Yt7 n r):Yt7 n' r:=by
 simp only[Y143,Yt4,af,am]at hr|-
 exact⟨⟨λx hx=>Y16f h x (hr.1.1 x hx),λx hx=>Y16f h x (hr.1.2 x hx)⟩,λx hx=>Y16f h x (hr.2 x hx)⟩
theorem Y1au (L M:List YB):∀ k,k<=L.length->Ypb (L++M) k=Ypb L k
 | 0,_=>rfl
 | k+1,h=>by
  have e:(L++M).g k=L.g k:=by simp[ao,bg (show k<L.length by omega)]
  simp only[Ypb,Y1au L M k oW,e,dd (show k<=L.length by omega)]
theorem Y1p3 {L:List YB}{b:YB}(h:Yv1 L) (hb:Ypr b) (hc:Yni L b.Ta b.Sa=false) (hl:(L.length:Int)<1000):Yv1 (L++[b]):=by
 simp only[Yv1,af,ak,aw,bh]at h|-
 have e:(L++[b]).g L.length=b:=by simp[ao]
 refine⟨?_,by omega⟩
 simp only[Ypb,Y1au L [b] L.length (aC _),e,dd (aC _),b8,h.1,hb,hc,Bool.not_false,Bool.and_self]
theorem Y13t {L:List YB}(h:Yv1 L) {b:YB}(hb:b∈L):Ypr b:=by
 simp only[Yv1,af]at h
 obtain⟨k,hk,e⟩:=List.mem_iff_getElem.1 hb
 have h1:=Y10u L L.length (k+1) hk h.1
 simp only[Ypb,af]at h1
 have e2:L.g k=b:=by simp[hk,e]
 rw[e2]at h1;exact h1.2.1
theorem Y1uv {b:YB}(h:Ypr b):srt b.Sa:=by
 simp only[Ypr,af]at h;exact(Ys8 _).1 h.1.2
theorem Y174 {x:YE}(h:Ym0 x) {n k:Int}(hn:x.Sb<=n/\n<=99999) (hk:0<=k/\k<=200):Ym0 ⟨x.Ba,x.Ma,n,x.Va,k⟩=true:=by
 rw[Ynr]at h|-
 refine⟨h.areb,h.nm,⟨cc h.Sb.1 hn.1,hn.2⟩,h.Va,hk,λr hr=>⟨(h.macs r hr).1,Y1j9 hn.1 (h.macs r hr).2⟩,λb hb => ?_⟩
 have:=Ytb.1 (h.bnds b hb)
 exact Ytb.2 ⟨λa=>cc (this.1 a) hn.1,this.2⟩
theorem Y1jp {x:YE}(h:Ym0 x) {b:YB}(hb:Ypr b) (hc:Yni x.Ba b.Ta b.Sa=false) (hl:(x.Ba.length:Int)<1000) (hs:∀ j∈b.Sa,j<=x.Sb) {v:Int}(hv:x.Va<=v/\v<=99999)
  {M:List YR_} (hM:∀ r∈M,Ymr r/\Yt7 x.Sb r) (hm:((x.Ma++M).length:Int)<=200) (h3:b.Ka=3->b.Na<=v) (h4:b.Ka=4->b.Na<((x.Ma++M).length:Int)):Ym0 ⟨x.Ba++[b],x.Ma++M,x.Sb,v,x.Sc⟩=true:=by
 rw[Ynr]at h|-
 refine⟨Y1p3 h.areb hb hc hl,hm,h.Sb,⟨cc h.Va.1 hv.1,hv.2⟩,h.Sc,λr hr => ?_,λc hc => ?_⟩
 ·rcases List.mem_append.1 hr with hr|hr
  ·exact h.macs r hr
  ·exact hM r hr
 ·rcases List.mem_append.1 hc with hc|hc
  ·have:=Ytb.1 (h.bnds c hc)
   refine Ytb.2 ⟨this.1,λa=>cc (this.2.1 a) hv.1,λa => ?_⟩
   have:=this.2.2 a
   simp only[aw];omega
  ·rw[List.mem_singleton.1 hc]
   refine Ytb.2 ⟨λa=>hs _ ?_,h3,h4⟩
   have e:((b.Sa.length:Int) - 1).toNat<b.Sa.length:=by omega
   rw[ao,av e];exact dh e
theorem Y1xt {x:YE}(h:Ym0 x) {b:YB}(hb:b∈x.Ba):∀ j∈b.Sa,j<=x.Sb:=by
 intro j hj
 have h:=(Ynr x).1 h
 have h1:=Y1ds (Y1uv (Y13t h.areb hb)) j hj
 have h2:=(Ytb.1 (h.bnds b hb)).1 (List.length_pos_of_mem hj)
 omega
def fmI (n:Int) (s:YS_):Prop:=Yld s/\blw n s
theorem Yn2 {n:Int}{s x:YS_}(h:fmI n s) (hx:x∈s.Ia):fmI n x:=by
 obtain⟨h1,h2⟩:=h
 rw[Ytt,af,am]at h2
 simp only[Yld,af,ak]at h1
 refine⟨?_,h2.2 x hx⟩
 have a:=Ym7 s
 have b:=Yls Ylg hx
 have c:=Yqd s
 have d:=Ytj Ylw hx
 simp only[Yld,af,ak]
 exact⟨⟨by omega,by omega⟩,Yop h1.2 x hx⟩
theorem Y12f {n n':Int}(h:n<=n') {s:YS_}(hs:fmI n s):fmI n' s:=⟨hs.1,Y16f h s hs.2⟩
theorem Y1ko {g:List Int->List Int}{n n':Int}(hg:∀ L,Yns L->Yns (g L)) (hn:∀ L,scB n L->scB n' (g L)) (h0:n<=n') {s:YS_}(h:fmI n s):fmI n' (Ylm g s):=by
 refine⟨Yw3 hg h.1,?_⟩
 have:∀ s:YS_,blw n s->blw n' (Ylm g s):=by
  refine YS_.ind λs ih hs => ?_
  rw[Ytt,af,am]at hs
  rw[Ytt,af,am,Yqy]
  refine⟨?_,λx hx => ?_⟩
  ·show scB n' (if s.Ka=1 then g s.Sa else s.Sa)=true
   split
   ·exact hn _ hs.1
   ·simp only[scB,am,ak]at hs|-
    exact λx hx=>cc (hs.1 x hx) h0
  ·obtain⟨y,hy,rfl⟩:=List.mem_map.1 hx
   exact ih y hy (hs.2 y hy)
 exact this s h.2
theorem Ywe {n y:Int}:∀ {L:List Int},y∈Ylu n L->y=n\/y∈L
 | [],h=>by simpa[Ylu] using h
 | x :: r,h=>by
  simp only[Ylu]at h
  split at h
  ·split at h
   ·exact .inr h
   ·rcases List.mem_cons.1 h with rfl|h
    ·exact .inl rfl
    ·exact .inr h
  ·rcases List.mem_cons.1 h with rfl|h
   ·exact .inr aj
   ·exact(Ywe h).imp id (ai _)
theorem Y13x {n:Int}:∀ {L:List Int},n∈Ylu n L
 | []=>by simp[Ylu]
 | x :: r=>by
  simp only[Ylu]
  split
  ·split
   ·rename_i h1 h2
    have:x=n:=by omega
    rw[this];exact aj
   ·exact aj
  ·exact ai _ Y13x
theorem Y1a1 {n y:Int}:∀ {L:List Int},y∈L->y∈Ylu n L
 | x :: r,h=>by
  simp only[Ylu]
  split
  ·split
   ·exact h
   ·exact ai _ h
  ·rcases List.mem_cons.1 h with rfl|h
   ·exact aj
   ·exact ai _ (Y1a1 h)
theorem Yzb {n k:Int}(hn:n<=k) (hk:1<=k/\k<=99999) {s:YS_}(h:fmI n s):fmI k (Ylm (Ylu k) s):=by
 refine Y1ko (Y16n hk) (λL hL => ?_) hn h
 simp only[scB,am,ak]at hL|-
 intro x hx
 rcases Ywe hx with rfl|hx
 ·exact aJ _
 ·exact cc (hL x hx) hn
theorem Y19m {n:Int}{s:YS_}(h:fmI n s):fmI n (Ylm Ymb s):=by
 refine Y1ko Y1r5 (λL hL => ?_) (aJ _) h
 simp only[scB,am,ak]at hL|-
 exact λx hx=>hL x (List.mem_filter.1 hx).1
theorem Y1r7 {n:Int}{s:YS_}(h:fmI n s) (hk:s.Ka=1):Yox s.Ta/\Yns s.Sa/\∀ j∈s.Sa,j<=n:=by
 obtain⟨h1,h2⟩:=h
 have h3:=Ymx h1
 have h4:=h3.2.2
 rw[Ypo,af]at h4
 have h5:=h4.2
 rw[Ytt,af]at h2
 simp only[scB,am,ak]at h2
 refine⟨?_,Yu0 h3.2.2,h2.1⟩
 simp only[Yq6,Ypx,hk,af,aF,ak]at h5
 rcases h5.1.1 with (((a|a)|a)|a)|a
 ·exact absurd a.1 dW
 ·exact a.2.2.1
 ·exact absurd a.1 dW
 ·exact absurd a.1 dW
 ·exact absurd a.1 dW
def scN (G:Int->Prop) (s:YS_):Prop:=∀ y∈nmZ s,∀ j∈y.Sa,G j
def mkd (z:Int) (s:YS_):Prop:=∀ y∈nmZ s,∃ j∈y.Sa,z<j/\¬ Yo1 j=3
theorem Y134 {s x:YS_}(hx:x∈s.Ia):∀ y∈nmZ x,y∈nmZ s:=λy hy=>by
 rw[Yp4];exact bc _ (List.mem_flatMap.2 ⟨x,hx,hy⟩)
theorem Ywg {s:YS_}(h:s.Ka=1):s∈nmZ s:=by rw[Yp4,ae h];exact aY _ (List.mem_singleton.2 rfl)
theorem Yyv {g:List Int->List Int}:∀ (s:YS_),∀ y∈nmZ (Ylm g s),∃ z∈nmZ s,y.Ta=z.Ta/\y.Sa=g z.Sa:=by
 refine YS_.ind λs ih y hy => ?_
 rw[Yqy,Yp4,az,bk]at hy
 simp only at hy
 rcases hy with hy|⟨z,hz,hy⟩
 ·by_cases h:s.Ka=1
  ·rw[ae h,ae h,an]at hy
   subst hy;exact⟨s,Ywg h,rfl,rfl⟩
  ·rw[ab h]at hy;cases hy
 ·obtain⟨w,hw,rfl⟩:=List.mem_map.1 hz
  obtain⟨v,hv,e⟩:=ih w hw y hy
  exact⟨v,Y134 hw v hv,e⟩
theorem Ynn {G:Int->Prop}{s x:YS_}(h:scN G s) (hx:x∈s.Ia):scN G x:=λy hy=>h y (Y134 hx y hy)
theorem Y1a9 {G:Int->Prop}{s x:YS_}(h:scN G s) (hx:inD s x):scN G x:=by
 rcases hx with hx|⟨y,hy,hx⟩
 ·exact Ynn h hx
 ·exact Ynn (Ynn h hy) hx
theorem Yx8 {z:Int}{s x:YS_}(h:mkd z s) (hx:x∈s.Ia):mkd z x:=λy hy=>h y (Y134 hx y hy)
theorem Ywk {G G':Int->Prop}(h:∀ j,G j->G' j) {s:YS_}(hs:scN G s):scN G' s:=λy hy j hj=>h j (hs y hy j hj)
theorem Y1a6 {G:Int->Prop}{n:Int}{s:YS_}(h:scN G s):scN (λj=>G j\/j=n) (Ylm (Ylu n) s):=λy hy j hj=>by
 obtain⟨z,hz,_,e⟩:=Yyv s y hy
 rw[e]at hj
 exact(Ywe hj).elim .inr λhj=>.inl (h z hz j hj)
theorem Y1a2 {z n:Int}(hn:z<n) (hk:¬ Yo1 n=3) (s:YS_):mkd z (Ylm (Ylu n) s):=λy hy=>by
 obtain⟨w,hw,_,e⟩:=Yyv s y hy
 exact⟨n,by rw[e];exact Y13x,hn,hk⟩
theorem Y19g {z:Int}{s:YS_}(h:mkd z s):mkd z (Ylm Ymb s):=λy hy=>by
 obtain⟨w,hw,_,e⟩:=Yyv s y hy
 obtain⟨j,hj,h1,h2⟩:=h w hw
 exact⟨j,by rw[e];exact List.mem_filter.2 ⟨hj,bF h2⟩,h1,h2⟩
theorem Y1pk {n:Int}:∀ s:YS_,okY s->(blw n s ↔ scN (λj=>j<=n) s):=by
 refine YS_.ind λs ih h => ?_
 rw[Ytt,af,am]
 have h0:=h
 rw[Ypo,af]at h0
 have h1:=h0.2
 simp only[Yq6,af,aF,ak]at h1
 constructor
 ·rintro⟨a,b⟩ y hy
  rw[Yp4,az,bk]at hy
  rcases hy with hy|⟨z,hz,hy⟩
  ·split at hy
   ·rw[List.mem_singleton.1 hy];simpa[scB] using a
   ·cases hy
  ·exact(ih z hz (Yop h z hz)).1 (b z hz) y hy
 ·intro a
  refine⟨?_,λx hx=>(ih x hx (Yop h x hx)).2 (Ynn a hx)⟩
  rcases h1.2 with e|e
  ·have:s.Sa=[]:=List.length_eq_zero_iff.1 oW
   rw[this];rfl
  ·have:=a s (Ywg e)
   simpa[scB] using this
theorem Y1r0 {n:Int}{s:YS_}(h:Yld s) (h2:scN (λj=>j<=n) s):fmI n s:=⟨h,(Y1pk s (Ymx h).2.2).2 h2⟩
theorem Y1ob {n:Int}{s:YS_}(h:fmI n s):scN (λj=>j<=n) s:=(Y1pk s (Ymx h.1).2.2).1 h.2
theorem Y227 {B:List YB}{r:YR_}{f:YS_}(h:apB B r f) (hr:Ymr r):∀ y∈nmZ (apY B r f),(∃ t∈r.Tb,y∈nmZ t)\/y∈nmZ f:=by
 simp only[apB,af]at h
 obtain⟨hg,hi⟩:=h
 have hk:apN B r f<r.Pb.length:=by simp only[apG,af,ak]at hg;exact hg.2
 obtain⟨_,_,_,hkt,_⟩:=Yzu hr hk
 have hi2:=hi
 simp only[Yvu,af]at hi2
 have eZ:apY B r f=(bld (r.Tb.g (apN B r f)) (apC B r f (apN B r f)) 2000).1:=by unfold apY;rw[ae hg];unfold Yyu;rw[ae hi]
 have hC:Yto (nmZ f) (apC B r f (apN B r f)):=by
  unfold apC
  cases e:gS B r.La (tlY (r.Pb.g (apN B r f))) (tlY f) with
  | none=>intro z hz;cases hz
  | some c=>exact Y23e _ _ _ e (Y221 f)
 rw[eZ]
 intro y hy
 rcases Y1zu _ _ _ hC hi2.1.2 y hy with ⟨x,hx,hxy⟩|hyf
 ·rw[List.mem_singleton.1 hx]at hxy
  exact .inl ⟨_,Yl6 hkt,hxy⟩
 ·exact .inr hyf
theorem Y15t {n j:Int}{L:List Int}:j∈Yne n L ↔ (n∈L/\j∈L/\¬ j=n)\/(n∉L/\(j=n\/j∈L)):=by
 unfold Yne
 split
 ·rename_i h;rw[cf];simp[h]
 ·rename_i h
  constructor
  ·intro a;exact .inr ⟨h,Ywe a⟩
  ·rintro(a|⟨_,rfl|a⟩)
   ·exact absurd a.1 h
   ·exact Y13x
   ·exact Y1a1 a
theorem Y22o {x:YE}{n:Int}{s:YS_}(hx:Ym0 x) (h:Yn3 x n s=0) (hs:fmI x.Sb s) (hn:n<x.Ma.length) (hr:Ymr (ruS x n)) (ht:∀ t∈(ruS x n).Tb,scN (λj=>j<=x.Sb) t) :
  (x.Sb<scU x/\scU x<scI x/\scI x<=99999/\Yo1 (scU x)=3/\Yo1 (scI x)=2/\nxS (scA x) 2=scI x) /\
  ∀ y∈nmZ (Yo7 x n s),(∃ t∈(ruS x n).Tb,∃ z∈nmZ t,∀ j,j∈y.Sa ↔ j=scI x\/j∈z.Sa)\/(∃ z∈nmZ s,∀ j,j∈y.Sa ↔ j=scU x\/j∈z.Sa):=by
 have e:Yo7 x n s=Ylm (Yne (scI x)) (apY x.Ba (ruS x n) (Yrr x s)):=ae h
 have hsc:=((Ynr x).1 hx).Sb
 unfold Yn3 at h
 split at h
 ·cases h
 split at h
 rotate_left
 ·cases h
 rename_i h2
 split at h
 rotate_left
 ·cases h
 rename_i h3
 have a1:=@Ytw x.Sb 3 hsc.1 h2.1
 have a2:=@Yqx x.Sb 3
 have eA:scA x=nxt x.Sb 3:=by show nxS x.Sb 3=_;omega
 have a3:=@Ytw (scA x) 2 oW h2.2
 have a4:=@Yqx (scA x) 2
 have k3:Yo1 (nxt x.Sb 3)=3:=by
  have:=(@Yzs x.Sb 3 (nxt x.Sb 3) hsc.1 dW oW).2 a1.2.2.1
  exact this
 have k2:Yo1 (nxt (scA x) 2)=2:=by
  have:=(@Yzs (scA x) 2 (nxt (scA x) 2) oW dW oW).2 a3.2.2.1
  exact this
 have eU:scU x=nxt x.Sb 3:=rfl
 have eI:scI x=nxt (scA x) 2:=rfl
 refine⟨⟨by omega,by omega,by omega,by rw[eU];exact k3,by rw[eI];exact k2,by omega⟩,λy hy => ?_⟩
 rw[e]at hy
 obtain⟨w,hw,_,ew⟩:=Yyv _ y hy
 rcases Y227 h3 hr w hw with ⟨t,htm,hwt⟩|hwf
 ·left
  refine⟨t,htm,w,hwt,λj => ?_⟩
  have:scI x∉w.Sa:=λhm=>by have:=ht t htm w hwt _ hm;simp only at this;omega
  rw[ew,Y15t]
  constructor
  ·rintro(a|a)
   ·exact absurd a.1 this
   ·exact a.2
  ·exact λa=>.inr ⟨this,a⟩
 ·right
  obtain⟨v,hv,_,ev⟩:=Yyv _ w hwf
  obtain⟨z,hz,_,ez⟩:=Yyv _ v hv
  refine⟨z,hz,λj => ?_⟩
  have hzs:=Y1ob hs z hz
  have n1:scI x∉Ylu (scU x) z.Sa:=λhm=>by
   rcases Ywe hm with hm|hm
   ·omega
   ·have:=hzs _ hm;simp only at this;omega
  have hw1:∀ j,j∈w.Sa ↔ j=scI x\/j∈Ylu (scU x) z.Sa:=λj=>by
   rw[ev,ez,Y15t]
   constructor
   ·rintro(a|a)
    ·exact absurd a.1 n1
    ·exact a.2
   ·exact λa=>.inr ⟨n1,a⟩
  rw[ew,Y15t]
  constructor
  ·rintro(a|a)
   ·rcases(hw1 j).1 a.2.1 with b|b
    ·exact absurd b a.2.2
    ·exact Ywe b
   ·exact absurd ((hw1 _).2 (.inl rfl)) a.1
  ·intro a
   have a':j∈Ylu (scU x) z.Sa:=a.elim (λe=>e ▸ Y13x) Y1a1
   exact .inl ⟨(hw1 _).2 (.inl rfl),(hw1 j).2 (.inr a'),λe=>n1 (e ▸ a')⟩
structure Up (z:Int) (m q:YS):Prop where
 sc:m.Sb<=q.Sb
 va:m.Va<=q.Va
 bi:∃ B,q.Ba=m.Ba++B/\∀ b∈B,∃ j∈b.Sa,z<j/\¬ Yo1 j=3
 ma:∃ M,q.Ma=m.Ma++M
theorem Up.rfl' (z:Int) (m:YS):Up z m m:=⟨aJ _,aJ _,⟨[],by simp,by simp⟩,⟨[],by simp⟩⟩
theorem Up.trans {z z':Int}{m u q:YS}(h:Up z m u) (h':Up z' u q) (hz:z<=z'):Up z m q:=by
 obtain⟨B,e1,hB⟩:=h.bi
 obtain⟨B',e2,hB'⟩:=h'.bi
 obtain⟨M,e3⟩:=h.ma
 obtain⟨M',e4⟩:=h'.ma
 refine⟨cc h.sc h'.sc,cc h.va h'.va,⟨B++B',by rw[e2,e1,aH],λb hb => ?_⟩,⟨M++M',by rw[e4,e3,aH]⟩⟩
 rcases List.mem_append.1 hb with hb|hb
 ·exact hB b hb
 ·obtain⟨j,hj,h1,h2⟩:=hB' b hb
  exact⟨j,hj,by omega,h2⟩
structure nwB (a b:Int) (l:List Int):Prop where
 nd:l.Nodup
 mem:∀ n∈l,a<n/\n<=b
 len:(l.length:Int)=b - a
theorem Ytg (a:Int):nwB a a []:=⟨List.nodup_nil,by simp,by simp⟩
theorem Ysl {a b c:Int}{l l':List Int}(h:nwB a b l) (h':nwB b c l'):nwB a c (l++l'):=by
 refine⟨List.nodup_append.2 ⟨h.nd,h'.nd,λx hx y hy e => ?_⟩,λn hn => ?_,by rw[aw];have:=h.len;have:=h'.len;omega⟩
 ·have:=(h.mem x hx).2;have:=(h'.mem y hy).1;omega
 ·have h1:=h.len
  have h2:=h'.len
  rcases List.mem_append.1 hn with hn|hn
  ·have:=h.mem n hn;exact⟨this.1,by omega⟩
  ·have:=h'.mem n hn;exact⟨by omega,this.2⟩
structure Cx (G V:Int->Prop) (m:YS):Prop where
 le:∀ j,G j->j<=m.Sb
 va:∀ b∈m.Ba,(∀ j∈b.Sa,G j)->b.Ka=3->V b.Na
 ma:∀ b∈m.Ba,(∀ j∈b.Sa,G j)->b.Ka=4->∀ t∈(m.Ma.g b.Na.toNat).Tb,scN G t
theorem Y1an {α:Type}[Inhabited α] {A B:List α}{k:Nat}(h:k<A.length):(A++B).g k=A.g k:=by
 simp[ao,bg h]
theorem Yzd {x:YE}(hx:Ym0 x) {b:YB}(hb:b∈x.Ba) (hk:b.Ka=4):0<=b.Na/\b.Na<(x.Ma.length:Int):=by
 have h:=(Ynr x).1 hx
 have h1:=Y13t h.areb hb
 simp only[Ypr,af,ak]at h1
 exact⟨h1.2.1,(Ytb.1 (h.bnds b hb)).2.2 hk⟩
theorem Cx.up {G V:Int->Prop}{m q:YS}(hx:Ym0 m.x) (c:Cx G V m) (u:Up m.Sb m q):Cx G V q:=by
 obtain⟨B,e1,hB⟩:=u.bi
 obtain⟨M,e2⟩:=u.ma
 have old:∀ b∈q.Ba,(∀ j∈b.Sa,G j)->b∈m.Ba:=λb hb hj=>by
  rw[e1]at hb
  rcases List.mem_append.1 hb with hb|hb
  ·exact hb
  ·obtain⟨j,h1,h2,_⟩:=hB b hb
   have:=c.le j (hj j h1);omega
 refine⟨λj hj=>cc (c.le j hj) u.sc,λb hb hj hk=>c.va b (old b hb hj) hj hk,λb hb hj hk => ?_⟩
 have h1:=Yzd hx (old b hb hj) hk
 have h2:b.Na<(m.Ma.length:Int):=h1.2
 rw[e2,Y1an oW]
 exact c.ma b (old b hb hj) hj hk
theorem Cx.more {G V:Int->Prop}{m q:YS}(hx:Ym0 m.x) (c:Cx G V m) {N:Int->Prop}(hN:∀ j,N j->m.Sb<j/\j<=q.Sb) (hs:m.Sb<=q.Sb) (hb:q.Ba=m.Ba) (hm:q.Ma=m.Ma):Cx (λj=>G j\/N j) V q:=by
 have old:∀ b∈m.Ba,(∀ j∈b.Sa,G j\/N j)->∀ j∈b.Sa,G j:=λb hb h j hj=>by
  rcases h j hj with a|a
  ·exact a
  ·have h1:j<=m.Sb:=Y1xt hx hb j hj
   have:=(hN j a).1;omega
 refine⟨λj hj => ?_,λb h1 h2 hk => ?_,λb h1 h2 hk t ht => ?_⟩
 ·rcases hj with a|a
  ·exact cc (c.le j a) hs
  ·exact(hN j a).2
 ·rw[hb]at h1;exact c.va b h1 (old b h1 h2) hk
 ·rw[hb]at h1;rw[hm]at ht
  exact Ywk (λ_ a=>.inl a) (c.ma b h1 (old b h1 h2) hk t ht)
theorem Cx.bind {G V V':Int->Prop}{m q:YS}(hx:Ym0 m.x) (c:Cx G V m) {b:YB}{M:List YR_}(hs:q.Sb=m.Sb) (hb:q.Ba=m.Ba++[b]) (hm:q.Ma=m.Ma++M) (hV:∀ n,V n->V' n)
  (h3:b.Ka=3->V' b.Na) (h4:b.Ka=4->∀ t∈(q.Ma.g b.Na.toNat).Tb,scN G t):Cx G V' q:=by
 refine⟨λj hj=>by rw[hs];exact c.le j hj,λd h1 h2 hk => ?_,λd h1 h2 hk => ?_⟩
 ·rw[hb]at h1
  rcases List.mem_append.1 h1 with h1|h1
  ·exact hV _ (c.va d h1 h2 hk)
  ·rw[an]at h1;subst h1;exact h3 hk
 ·rw[hb]at h1
  rcases List.mem_append.1 h1 with h1|h1
  ·have h5:=Yzd hx h1 hk
   have h6:d.Na<(m.Ma.length:Int):=h5.2
   rw[hm,Y1an oW]
   exact c.ma d h1 h2 hk
  ·rw[an]at h1;subst h1;exact h4 hk
theorem Y1p0 {x:YE}(h:Ym0 x) (hw:∀ r∈x.Ma,wR r<=900000000):okX x:=by
 have f:=(Ynr x).1 h
 have fl:=f.areb
 simp only[Yv1,af,ak]at fl
 refine⟨f.Sb,f.Va,f.Sc,⟨fl.2,λb hb => ?_⟩,⟨f.nm,λr hr=>⟨(f.macs r hr).1,hw r hr⟩⟩⟩
 have h1:=Y13t f.areb hb
 simp only[Ypr,af,ak,Yox]at h1
 have h2:=Y19a h1.1.2
 have h3:=h1.1.1
 refine⟨?_,λk=>⟨h1.2.1,?_⟩,λk=>Yzd h hb k⟩
 ·have e:wB b=b.Ta.size+b.Sa.length:=rfl
  have:=h3.1.1.1.2
  rw[e];omega
 ·have:=h1.2.2
  rw[k]at this;exact this
theorem Y168 {s k:Int}(h0:0<=s) (hk:1<=k/\k<=3) (h:cdN s k=0):Yo1 (nxt s k)=k:=by
 have h1:=Y1wb h
 have h2:=@Ytw s k h0 h1
 have h3:=@Yqx s k
 exact(@Yzs s k (nxt s k) h0 hk oW).2 h2.2.2.1
theorem Y1mw {z:Int}{id:YS_}{m:YS}(hx:Ym0 m.x) (hi:fmI m.Sb id) (hk:id.Ka=1) (hm:mkd z id) (e:(yVr id m).e=0) :
  Ym0 (yVr id m).m.x/\Up z m (yVr id m).m/\(yVr id m).m.Sb=m.Sb/\(yVr id m).v=m.Va+1/\(yVr id m).m.Va=m.Va+1:=by
 have g:=Y1vz ((Y1nf id m).symm.trans e)
 have i:=Y1r7 hi hk
 have hv:=((Ynr m.x).1 hx).Va
 have g1:m.Va<99999:=g.1
 rw[Yw6 e]
 have hb:Ypr ⟨id.Ta,id.Sa,3,m.Va+1⟩=true:=by
  simp only[Ypr,i.1,i.2.1,dk,ak]
  have:Y1mt 3=99999:=rfl
  have h0:0<=m.Va:=hv.1
  omega
 have h:=Y1jp hx hb g.2.1 g.2.2 i.2.2 (v:=m.Va+1) (show m.Va<=m.Va+1/\m.Va+1<=99999 by omega) (M:=[]) sW (by simpa using ((Ynr m.x).1 hx).nm) (λ_=>aJ _) (λe=>absurd (show (3:Int)=4 from e) dW)
 rw[bv]at h
 refine⟨h,⟨aJ _,by show m.Va<=m.Va+1;omega,⟨[⟨id.Ta,id.Sa,3,m.Va+1⟩],rfl,λb hb => ?_⟩,⟨[],by simp⟩⟩,rfl,rfl,rfl⟩
 rw[an]at hb;subst hb
 exact hm id (Ywg hk)
theorem Y1vp {z:Int}{id:YS_}{r:YR_}{m:YS}(hx:Ym0 m.x) (hi:fmI m.Sb id) (hk:id.Ka=1) (hm:mkd z id) (hr:Ymr r/\Yt7 m.Sb r) (e:(yMc id r m).e=0) :
  Ym0 (yMc id r m).m.x/\Up z m (yMc id r m).m/\(yMc id r m).m.Sb=m.Sb/\(yMc id r m).m.Va=m.Va:=by
 have g:=Y1v0 ((Y1nn id r m).symm.trans e)
 have i:=Y1r7 hi hk
 have g1:(m.Ma.length:Int)<200:=g.1
 have hl:((m.Ma++[r]).length:Int)=m.Ma.length+1:=by simp
 rw[Yyd e]
 have hb:Ypr ⟨id.Ta,id.Sa,4,(m.Ma.length:Int)⟩=true:=by
  simp only[Ypr,i.1,i.2.1,dk,ak]
  have:Y1mt 4=99999:=rfl
  omega
 have hv:=((Ynr m.x).1 hx).Va
 have h:=Y1jp hx hb g.2.1 g.2.2 i.2.2 (v:=m.Va) (show m.Va<=m.Va/\m.Va<=99999 from ⟨aJ _,hv.2⟩) (M:=[r]) (λq hq=>by rw[List.mem_singleton.1 hq];exact hr) (by show ((m.Ma++[r]).length:Int)<=200;omega)
  (λe=>absurd (show (4:Int)=3 from e) dW) (λ_=>by show (m.Ma.length:Int)<((m.Ma++[r]).length:Int);omega)
 refine⟨h,⟨aJ _,aJ _,⟨[⟨id.Ta,id.Sa,4,(m.Ma.length:Int)⟩],rfl,λb hb => ?_⟩,⟨[r],rfl⟩⟩,rfl,rfl⟩
 rw[an]at hb;subst hb
 exact hm id (Ywg hk)
theorem Y1v1 {z:Int}:∀ (L:List YS_) (m:YS),Ym0 m.x->(∀ x∈L,fmI m.Sb x/\x.Ka=1/\mkd z x)->(Yl9 yVr L m).e=0 ->
  Ym0 (Yl9 yVr L m).m.x/\Up z m (Yl9 yVr L m).m/\(Yl9 yVr L m).m.Sb=m.Sb/\nwB m.Va (Yl9 yVr L m).m.Va (Yl9 yVr L m).v/\∀ G V,Cx G V m->Cx G (λn=>V n\/n∈(Yl9 yVr L m).v) (Yl9 yVr L m).m
 | [],m,hx,_,_=>⟨hx,Up.rfl' z m,rfl,Ytg _,λG V c=>⟨c.le,λb h1 h2 h3=>.inl (c.va b h1 h2 h3),c.ma⟩⟩
 | x :: r,m,hx,hL,e=>by
  rw[Yoi]at e|-
  by_cases c:(yVr x m).e=0
  ·rw[ae c]at e|-
   have hh:=hL x aj
   obtain⟨a1,a2,a3,a4,a5⟩:=Y1mw (z:=z) hx hh.1 hh.2.1 hh.2.2 c
   by_cases d:(Yl9 yVr r (yVr x m).m).e=0
   ·rw[ae d]
    obtain⟨b1,b2,b3,b4,b5⟩:=Y1v1 r (yVr x m).m a1 (λy hy=>by rw[a3];exact hL y (ai _ hy)) d
    have n1:nwB m.Va (yVr x m).m.Va [(yVr x m).v]:=⟨by simp,λn hn=>by rw[an]at hn;omega,by rw[a5];simp only[bh];omega⟩
    refine⟨b1,a2.trans b2 (aJ _),b3.trans a3,Ysl n1 b4,λG V c => ?_⟩
    have c1:Cx G (λn=>V n\/n=(yVr x m).v) (yVr x m).m:=by
     rw[a4]
     have e0:=Yw6 ‹(yVr x m).e=0›
     refine c.bind hx (b:=⟨x.Ta,x.Sa,3,m.Va+1⟩) (M:=[]) a3 (by rw[e0]) (by rw[e0,bv]) (λn h=>.inl h) (λ_=>.inr rfl) (λe=>absurd (show (3:Int)=4 from e) dW)
    have c2:=b5 G _ c1
    refine⟨c2.le,λb h1 h2 h3 => ?_,c2.ma⟩
    rcases c2.va b h1 h2 h3 with (h|h)|h
    ·exact .inl h
    ·exact .inr (by rw[h];exact aj)
    ·exact .inr (ai _ h)
   ·rw[ab d]at e;exact absurd e d
  ·rw[ab c]at e;exact absurd e c
theorem Y1vm {P B:List YS_}{most:Int}{m:YS}(hx:Ym0 m.x) (hP:∀ x∈P,fmI m.Sb x) (hB:∀ x∈B,fmI m.Sb x) (e:(yPr P most B m).e=0) :
  Ym0 (yPr P most B m).m.x/\Up m.Sb m (yPr P most B m).m/\nwB m.Va (yPr P most B m).m.Va (yPr P most B m).v.1/\(yPr P most B m).v.1.length=P.length/\(∀ x∈(yPr P most B m).v.2,fmI (yPr P most B m).m.Sb x) /\
  ∀ G V,Cx G V m->(∀ x∈B,scN G x)->∃ G',Cx G' (λn=>V n\/n∈(yPr P most B m).v.1) (yPr P most B m).m/\∀ x∈(yPr P most B m).v.2,scN G' x:=by
 obtain⟨a1,a2,a3,a4,a5⟩:=Y180 e
 have f:=(Ynr m.x).1 hx
 have hn:=@Yq4 m.Sb 1 f.Sb.1 a3
 have hk:=@Y168 m.Sb 1 f.Sb.1 dW a3
 have x1:Ym0 (ySc 1 m).x:=Y174 hx (by show m.Sb<=nxS m.Sb 1/\nxS m.Sb 1<=99999;omega) f.Sc
 have s1:(ySc 1 m).Sb=nxt m.Sb 1:=hn.2.2.1
 have u1:Up m.Sb m (ySc 1 m):=⟨by rw[s1];omega,aJ _,⟨[],by simp,by simp⟩,⟨[],by simp⟩⟩
 have ids:∀ x∈yAd (nxt m.Sb 1) P,fmI (ySc 1 m).Sb x/\x.Ka=1/\mkd m.Sb x:=by
  intro x hx'
  obtain⟨y,hy,rfl⟩:=List.mem_map.1 hx'
  have k1:y.Ka=1:=by simp only[Yr0,am,ak]at a1;exact a1 y hy
  refine⟨by rw[s1];exact Yzb oW ⟨hn.1,hn.2.1⟩ (hP y hy),by rw[Yqy];exact k1,Y1a2 oW oW y⟩
 obtain⟨b1,b2,b3,b4,b5⟩:=Y1v1 (z:=m.Sb) _ (ySc 1 m) x1 ids a4
 rw[a5]
 refine⟨b1,u1.trans b2 (aJ _),b4,?_,λx hx' => ?_,λG V c hG => ?_⟩
 ·show (Yl9 yVr (yAd _ P) _).v.length=_
  rw[Yp7 _ _ a4];simp[yAd]
 ·obtain⟨y,hy,rfl⟩:=List.mem_map.1 hx'
  show fmI (Yl9 yVr _ _).m.Sb _
  rw[b3,s1];exact Yzb oW ⟨hn.1,hn.2.1⟩ (hB y hy)
 ·refine⟨λj=>G j\/j=nxt m.Sb 1,b5 _ _ (c.more hx (N:=λj=>j=nxt m.Sb 1) (λj hj=>by rw[s1,hj];omega) (by rw[s1];omega) rfl rfl),λx hx' => ?_⟩
  obtain⟨y,hy,rfl⟩:=List.mem_map.1 hx'
  exact Y1a6 (hG y hy)
theorem Y1gt {B:List YB}{s:YS_}(h:Ymt B s):Ymr (Ym2 s)/\∀ x,(x∈(Ym2 s).La\/x∈(Ym2 s).Pb\/x∈(Ym2 s).Tb)->inD s x:=by
 simp only[Ymt,af,ak,am,Yqj]at h
 obtain⟨⟨⟨⟨⟨_,h2⟩,_⟩,_⟩,hc⟩,hr⟩:=h
 have cl:∀ i,i<2->∀ x∈Yoz s i,inD s x:=by
  intro i hi x hx
  obtain⟨y,hy,rfl⟩:=List.mem_map.1 hx
  have hl:=(hc y hy).2
  exact .inr ⟨y,aG hy,Yl6 oW⟩
 refine⟨hr,λx hx => ?_⟩
 rcases hx with hx|hx|hx
 ·exact .inr ⟨_,Yl6 (show 1<s.Ia.length by omega),hx⟩
 ·exact cl 0 dW x hx
 ·exact cl 1 dW x hx
theorem Ywh {n:Int}{s x:YS_}(h:fmI n s) (hx:inD s x):fmI n x:=by
 rcases hx with hx|⟨y,hy,hx⟩
 ·exact Yn2 h hx
 ·exact Yn2 (Yn2 h hy) hx
theorem Y1ir {B:List YB}{s:YS_}{n:Int}(h:Ymt B s) (hs:fmI n s):Ymr (Ym2 s)/\Yt7 n (Ym2 s):=by
 have i:=Y1gt h
 refine⟨i.1,?_⟩
 simp only[Y143,Yt4,af,am]
 exact⟨⟨λx hx=>(Ywh hs (i.2 x (.inl hx))).2,λx hx=>(Ywh hs (i.2 x (.inr (.inl hx)))).2⟩,λx hx=>(Ywh hs (i.2 x (.inr (.inr hx)))).2⟩
theorem Y1w2 {z n:Int}:∀ (L:List YS_) (m:YS),Ym0 m.x->(∀ x∈L,fmI m.Sb (Ylm (Ylu n) (x.Ia.g 0))/\(Ylm (Ylu n) (x.Ia.g 0)).Ka=1/\mkd z (Ylm (Ylu n) (x.Ia.g 0))/\Ymr (Ym2 (x.Ia.g 1))/\Yt7 m.Sb (Ym2 (x.Ia.g 1)))->(Yl9 (yM1 n) L m).e=0 ->
  Ym0 (Yl9 (yM1 n) L m).m.x/\Up z m (Yl9 (yM1 n) L m).m/\(Yl9 (yM1 n) L m).m.Sb=m.Sb/\(Yl9 (yM1 n) L m).m.Va=m.Va/\∀ G V,Cx G V m->(∀ x∈L,∀ t∈(Ym2 (x.Ia.g 1)).Tb,scN G t)->Cx G V (Yl9 (yM1 n) L m).m
 | [],m,hx,_,_=>⟨hx,Up.rfl' z m,rfl,rfl,λG V c _=>c⟩
 | x :: r,m,hx,hL,e=>by
  rw[Yoi]at e|-
  by_cases c:(yM1 n x m).e=0
  ·rw[ae c]at e|-
   have hh:=hL x aj
   obtain⟨a1,a2,a3,a4⟩:=Y1vp (z:=z) hx hh.1 hh.2.1 hh.2.2.1 hh.2.2.2 (show (yMc _ _ m).e=0 from c)
   have f1:Ym0 (yM1 n x m).m.x:=a1
   have f3:(yM1 n x m).m.Sb=m.Sb:=a3
   by_cases d:(Yl9 (yM1 n) r (yM1 n x m).m).e=0
   ·rw[ae d]
    obtain⟨b1,b2,b3,b4,b5⟩:=Y1w2 r (yM1 n x m).m f1 (λy hy=>by rw[f3];exact hL y (ai _ hy)) d
    refine⟨b1,a2.trans b2 (aJ _),b3.trans f3,b4.trans a4,λG V c hG=>b5 G V ?_ λy hy=>hG y (ai _ hy)⟩
    have e0:=Yyd (show (yMc _ _ m).e=0 from ‹(yM1 n x m).e=0›)
    refine c.bind hx (b:=⟨(Ylm (Ylu n) (x.Ia.g 0)).Ta,(Ylm (Ylu n) (x.Ia.g 0)).Sa,4,(m.Ma.length:Int)⟩) (M:=[Ym2 (x.Ia.g 1)]) f3 (by show (yMc _ _ m).m.Ba=_;rw[e0]) (by show (yMc _ _ m).m.Ma=_;rw[e0]) (λ_ h=>h) (λe=>absurd (show (4:Int)=3 from e) dW) (λ_ => ?_)
    show ∀ t∈((yMc _ _ m).m.Ma.g _).Tb,_
    rw[e0]
    have:(m.Ma++[Ym2 (x.Ia.g 1)]).g (m.Ma.length:Int).toNat=Ym2 (x.Ia.g 1):=by simp[ao]
    rw[this]
    exact hG x aj
   ·rw[ab d]at e;exact absurd e d
  ·rw[ab c]at e;exact absurd e c
theorem Y1l1 {s:YS_}{m:YS}(hx:Ym0 m.x) (hs:fmI m.Sb s) (h:0<=hdM m.x s) (e:Yn3 m.x (hdM m.x s) s=0) :
  Ym0 (ySt (hdM m.x s) s m).m.x/\(∀ z,Up z m (ySt (hdM m.x s) s m).m)/\(ySt (hdM m.x s) s m).m.Va=m.Va/\fmI (ySt (hdM m.x s) s m).m.Sb (Yo7 m.x (hdM m.x s) s)/\(∀ z,z<=m.Sb->mkd z s->mkd z (Yo7 m.x (hdM m.x s) s)) /\
  ∀ G V,Cx G V m->scN G s->∃ G',Cx G' V (ySt (hdM m.x s) s m).m/\scN G' (Yo7 m.x (hdM m.x s) s)/\∀ j,G j->G' j:=by
 have f:=(Ynr m.x).1 hx
 have hM:=h
 unfold hdM at hM
 by_cases c:hdF m.x s/\(hdR m.x s).Ka=4
 rotate_left
 ·rw[ab c]at hM;omega
 have eM:hdM m.x s=(hdR m.x s).Na:=ae c
 have hb:=Y1kj c.1
 have hn:=Yzd hx hb c.2
 have hn':hdM m.x s<(m.Ma.length:Int):=by rw[eM];exact hn.2
 have hr:=f.macs (ruS m.x (hdM m.x s)) (Yl6 (show (hdM m.x s).toNat<m.Ma.length by omega))
 have hrt:∀ t∈(ruS m.x (hdM m.x s)).Tb,scN (λj=>j<=m.Sb) t:=by
  have h2:=hr.2
  simp only[Y143,Yt4,af,am]at h2
  intro t ht y hy j hj
  have:∀ (s:YS_),blw m.Sb s->scN (λj=>j<=m.Sb) s:=by
   refine YS_.ind λs ih hs y hy => ?_
   rw[Ytt,af,am]at hs
   rw[Yp4,az,bk]at hy
   rcases hy with hy|⟨z,hz,hy⟩
   ·split at hy
    ·rw[List.mem_singleton.1 hy];simpa[scB] using hs.1
    ·cases hy
   ·exact ih z hz (hs.2 z hz) y hy
  exact this t (h2.2 t ht) y hy j hj
 obtain⟨⟨q1,q2,q3,q4,q5,q6⟩,q7⟩:=Y22o hx e hs hn' hr.1 hrt
 have e0:=Y15v e
 have h0:¬ m.Sc=0:=e0.1
 have es:(ySt (hdM m.x s) s m).m=⟨m.Ba,m.Ma,scI m.x,m.Va,m.Sc - 1,m.z⟩:=by
  have e1:nxR m.Sb 3<=99999:=e0.2
  show (⟨m.Ba,m.Ma,if m.Sc=0 then m.Sb else if nxR m.Sb 3<=99999 then nxS (scA m.x) 2 else m.Sb,m.Va,if m.Sc=0 then 0 else m.Sc - 1,m.z⟩:YS)=_
  rw[ab h0,ae e1,ab h0,q6]
 have sx:m.x.Sb=m.Sb:=rfl
 have st:=f.Sc
 have stx:m.x.Sc=m.Sc:=rfl
 rw[es]
 refine⟨Y174 hx (show m.Sb<=scI m.x/\scI m.x<=99999 from ⟨by omega,q3⟩) (show 0<=m.Sc - 1/\m.Sc - 1<=200 from ⟨by omega,by omega⟩),λz=>⟨by show m.Sb<=scI m.x;omega,aJ _,⟨[],by simp,by simp⟩,⟨[],by simp⟩⟩,rfl,Y1r0 (Yuo f.Sb e) λy hy j hj => ?_,λz hz hm y hy => ?_,λG V cx hG => ?_⟩
 ·show j<=scI m.x
  rcases q7 y hy with ⟨t,ht,w,hw,hj2⟩|⟨w,hw,hj2⟩
  ·rcases(hj2 j).1 hj with a|a
   ·omega
   ·have:=hrt t ht w hw j a;simp only at this;omega
  ·rcases(hj2 j).1 hj with a|a
   ·omega
   ·have:=Y1ob hs w hw j a;simp only at this;omega
 ·rcases q7 y hy with ⟨t,ht,w,hw,hj2⟩|⟨w,hw,hj2⟩
  ·exact⟨scI m.x,(hj2 _).2 (.inl rfl),by omega,by omega⟩
  ·obtain⟨j,hj,h1,h2⟩:=hm w hw
   exact⟨j,(hj2 j).2 (.inr hj),h1,h2⟩
 ·have hid:hdS s/\rsC m.Ba (s.Ia.g 0).Ta (s.Ia.g 0).Sa=1:=by
   have:=c.1
   simp only[hdF,af,ak]at this;exact this
  have eR:hdR m.x s=rsB m.Ba (s.Ia.g 0).Ta (s.Ia.g 0).Sa:=ae hid.1
  have hc:=(Y171 hid.2).2.2
  rw[<- eR]at hc
  simp only[Ys0,Yp8,af,ak,am]at hc
  have hh:=hid.1
  simp only[hdS,af,aL,ak,aM]at hh
  have h0m:s.Ia.g 0∈s.Ia:=Yl6 oW
  have hsc:∀ j∈(hdR m.x s).Sa,G j:=λj hj=>hG _ (Y134 h0m _ (Ywg hh.2)) j (hc.2 j hj)
  have ht:=cx.ma _ hb hsc c.2
  refine⟨λj=>G j\/(j=scU m.x\/j=scI m.x),cx.more hx (N:=λj=>j=scU m.x\/j=scI m.x) (λj hj=>by show m.Sb<j/\j<=scI m.x;omega) (by show m.Sb<=scI m.x;omega) rfl rfl,λy hy j hj => ?_,λj a=>.inl a⟩
  rcases q7 y hy with ⟨t,htm,w,hw,hj2⟩|⟨w,hw,hj2⟩
  ·rcases(hj2 j).1 hj with a|a
   ·exact .inr (.inr a)
   ·refine .inl (ht t ?_ w hw j a)
    have:ruS m.x (hdM m.x s)=m.Ma.g (hdR m.x s).Na.toNat:=by rw[eM];rfl
    rw[this]at htm;exact htm
  ·rcases(hj2 j).1 hj with a|a
   ·exact .inr (.inl a)
   ·exact .inl (hG w hw j a)
def fmP (n:Int) (p:YP):Prop:=(p.p->(∀ x∈p.P,fmI n x)/\∀ x∈p.B,fmI n x)/\(p.p=false->fmI n p.s)
def scQ (G:Int->Prop) (p:YP):Prop:=(p.p->(∀ x∈p.P,scN G x)/\∀ x∈p.B,scN G x)/\(p.p=false->scN G p.s)
theorem Y1fi {n n':Int}(h:n<=n') {p:YP}(hp:fmP n p):fmP n' p:=⟨λe=>⟨λx hx=>Y12f h ((hp.1 e).1 x hx),λx hx=>Y12f h ((hp.1 e).2 x hx)⟩,λe=>Y12f h (hp.2 e)⟩
theorem Y1yt {G G':Int->Prop}(h:∀ j,G j->G' j) {p:YP}(hp:scQ G p):scQ G' p:=⟨λe=>⟨λx hx=>Ywk h ((hp.1 e).1 x hx),λx hx=>Ywk h ((hp.1 e).2 x hx)⟩,λe=>Ywk h (hp.2 e)⟩
theorem Y178 {P:Prop}(h:false):P:=absurd h dW
theorem Y1vf {P:Prop}(h:true=false):P:=absurd h dW
theorem Y24c {z:Int}{s:YS_}{m:YS}(hx:Ym0 m.x) (hs:fmI m.Sb s) (hm:mkd z s) (e:(yDf s m).e=0) :
  Ym0 (yDf s m).m.x/\Up z m (yDf s m).m/\(yDf s m).m.Sb=m.Sb/\(yDf s m).m.Va=m.Va+1/\(yDf s m).v.d/\(yDf s m).v.n=m.Va+1/\fmP m.Sb (yDf s m).v /\
  ∀ G V,Cx G V m->scN G s->Cx G (λn=>V n\/n=m.Va+1) (yDf s m).m/\scQ G (yDf s m).v:=by
 have hl:=Ytk hs.1
 have bindC:∀ {id:YS_},Ym0 m.x->(yVr id m).e=0->∀ G V,Cx G V m->Cx G (λn=>V n\/n=m.Va+1) (yVr id m).m:=λhx c G V cx=>by
  rw[Yw6 c]
  exact cx.bind hx (M:=[]) rfl rfl (bv _).symm (λ_ a=>.inl a) (λ_=>.inr rfl) (λe=>absurd (show (3:Int)=4 from e) dW)
 have kstr:∀ {x:YS_},x.Ka=1->(Ylm Ymb x).Ka=1:=λh=>by rw[Yqy];exact h
 unfold yDf at e|-
 by_cases c0:(s.Ia.length:Int)<3
 ·rw[ae c0]at e;cases e
 rw[ab c0]at e|-
 have m1:s.Ia.g 1∈s.Ia:=Yl6 oW
 have m2:s.Ia.g 2∈s.Ia:=Yl6 oW
 by_cases c1:(s.Ia.g 1).Ka=1/\(s.Ia.length:Int)=3
 ·rw[ae c1]at e|-
  have a:=Y1mw (z:=z) hx (Y19m (Yn2 hs m1)) (kstr c1.1) (Y19g (Yx8 hm m1)) e
  exact⟨a.1,a.2.1,a.2.2.1,a.2.2.2.2,rfl,a.2.2.2.1,⟨λh=>Y178 h,λ_=>Yn2 hs m2⟩,λG V cx hG=>⟨bindC hx e G V cx,⟨λh=>Y178 h,λ_=>Ynn hG m2⟩⟩⟩
 rw[ab c1]at e|-
 by_cases c2:(s.Ia.g 1).Ka=0/\¬ (s.Ia.g 1).Ia.length=0/\Yr0 (s.Ia.g 1).Ia
 ·rw[ae c2]at e|-
  have m0:(s.Ia.g 1).Ia.g 0∈(s.Ia.g 1).Ia:=Yl6 (by have:=c2.2.1;omega)
  have k0:((s.Ia.g 1).Ia.g 0).Ka=1:=by
   have:=c2.2.2
   simp only[Yr0,am,ak]at this;exact this _ m0
  have a:=Y1mw (z:=z) hx (Y19m (Yn2 (Yn2 hs m1) m0)) (kstr k0) (Y19g (Yx8 (Yx8 hm m1) m0)) e
  exact⟨a.1,a.2.1,a.2.2.1,a.2.2.2.2,rfl,a.2.2.2.1,⟨λ_=>⟨λx hx=>Yn2 (Yn2 hs m1) (aG hx),λx hx=>Yn2 hs (aG hx)⟩,λh=>Y1vf h⟩,
   λG V cx hG=>⟨bindC hx e G V cx,⟨λ_=>⟨λx hx=>Ynn (Ynn hG m1) (aG hx),λx hx=>Ynn hG (aG hx)⟩,λh=>Y1vf h⟩⟩⟩
 ·rw[ab c2]at e;cases e
theorem Y24k {z:Int}{s:YS_}{m:YS}(hx:Ym0 m.x) (hs:fmI m.Sb s) (hm:mkd z s) (e:(ySy s m).e=0) :
  Ym0 (ySy s m).m.x/\Up z m (ySy s m).m/\(ySy s m).m.Sb=m.Sb/\(ySy s m).m.Va=m.Va/\∀ G V,Cx G V m->scN G s->Cx G V (ySy s m).m:=by
 unfold ySy at e|-
 split at e
 rotate_left
 ·cases e
 rename_i c
 rw[ae c]
 have m1:s.Ia.g 1∈s.Ia:=Yl6 oW
 have m2:s.Ia.g 2∈s.Ia:=Yl6 oW
 have k1:(Ylm Ymb (s.Ia.g 1)).Ka=1:=by rw[Yqy];exact c.2.1
 have a:=Y1vp (z:=z) hx (Y19m (Yn2 hs m1)) k1 (Y19g (Yx8 hm m1)) (Y1ir c.2.2 (Yn2 hs m2)) e
 refine⟨a.1,a.2.1,a.2.2.1,a.2.2.2,λG V cx hG => ?_⟩
 rw[Yyd e]
 refine cx.bind hx (M:=[Ym2 (s.Ia.g 2)]) rfl rfl rfl (λ_ h=>h) (λe=>absurd (show (4:Int)=3 from e) dW) (λ_ => ?_)
 have:(m.Ma++[Ym2 (s.Ia.g 2)]).g (m.Ma.length:Int).toNat=Ym2 (s.Ia.g 2):=by simp[ao]
 show ∀ t∈((m.Ma++[Ym2 (s.Ia.g 2)]).g (m.Ma.length:Int).toNat).Tb,scN G t
 rw[this]
 intro t ht
 exact Y1a9 (Ynn hG m2) ((Y1gt c.2.2).2 t (.inr (.inr ht)))
theorem Y1kk (A B:List YP):yDv (A++B)=yDv A++yDv B:=by simp[yDv]
theorem Y144 {z:Int}:∀ (n:Nat) (q:List YS_) (o:List YP) (m:YS),Ym0 m.x->z<=m.Sb->(∀ x∈q,fmI m.Sb x/\mkd z x)->(∀ p∈o,fmP m.Sb p)->(yLk n q o m).e=0 ->
  Ym0 (yLk n q o m).m.x/\Up z m (yLk n q o m).m/\(∀ p∈(yLk n q o m).v,fmP (yLk n q o m).m.Sb p)/\∃ D,yDv (yLk n q o m).v=yDv o++D/\nwB m.Va (yLk n q o m).m.Va D /\
  ∀ G V,Cx G V m->(∀ x∈q,scN G x)->(∀ p∈o,scQ G p/\(p.d->V p.n))->∃ G' V',Cx G' V' (yLk n q o m).m/\(∀ p∈(yLk n q o m).v,scQ G' p/\(p.d->V' p.n))/\∀ i,V' i->V i\/i∈D
 | n,[],o,m,hx,hz,_,ho,_=>by
  have e:yLk n [] o m=⟨o,0,m⟩:=by cases n<;>rfl
  rw[e]
  exact⟨hx,Up.rfl' z m,ho,[],by simp,Ytg _,λG V cx _ hp=>⟨G,V,cx,hp,λi h=>.inl h⟩⟩
 | 0,_ :: _,_,_,_,_,_,_,e=>by cases e
 | n+1,s :: q,o,m,hx,hz,hq,ho,e=>by
  have hs:=hq s aj
  have hr:∀ x∈q,fmI m.Sb x/\mkd z x:=λx hx=>hq x (ai _ hx)
  simp only[yLk]at e|-
  by_cases z3:3000<m.z+1
  ·rw[ae z3]at e;cases e
  rw[ab z3]at e|-
  have u0:Up z m (yCn m):=⟨aJ _,aJ _,⟨[],by simp,by simp⟩,⟨[],by simp⟩⟩
  have cx0:∀ {G V},Cx G V m->Cx G V (yCn m):=λc=>⟨c.le,c.va,c.ma⟩
  by_cases c1:0<=hdM m.x s
  ·rw[ae c1]at e|-
   by_cases d:(ySt (hdM m.x s) s (yCn m)).e=0
   ·rw[ae d]at e|-
    obtain⟨a1,a2,a3,a4,a5,a6⟩:=Y1l1 (m:=yCn m) hx hs.1 c1 d
    have hsc:=(a2 z).sc
    obtain⟨b1,b2,b3,D,b4,b5,b6⟩:=Y144 n ((ySt (hdM m.x s) s (yCn m)).v :: q) o (ySt (hdM m.x s) s (yCn m)).m a1 (cc hz hsc)
     (λx hx=>(List.mem_cons.1 hx).elim (λe=>e ▸ ⟨a4,a5 z hz hs.2⟩) (λh=>⟨Y12f hsc (hr x h).1,(hr x h).2⟩)) (λp hp=>Y1fi hsc (ho p hp)) e
    refine⟨b1,(u0.trans (a2 z) (aJ _)).trans b2 (aJ _),b3,D,b4,by rw[a3]at b5;exact b5,λG V cx hG hp => ?_⟩
    obtain⟨G1,g1,g2,g3⟩:=a6 G V (cx0 cx) (hG s aj)
    exact b6 G1 V g1 (λx hx=>(List.mem_cons.1 hx).elim (λe=>e ▸ g2) (λh=>Ywk g3 (hG x (ai _ h)))) (λp h=>⟨Y1yt g3 (hp p h).1,(hp p h).2⟩)
   ·rw[ab d]at e;exact absurd e d
  rw[ab c1]at e|-
  by_cases c4:hdN m.x s=4
  ·rw[ae c4]at e|-
   obtain⟨b1,b2,b3,D,b4,b5,b6⟩:=Y144 n (s.Ia.drop 1++q) o (yCn m) hx hz
    (λx hx=>(List.mem_append.1 hx).elim (λh=>⟨Yn2 hs.1 (aG h),Yx8 hs.2 (aG h)⟩) (hr x)) ho e
   exact⟨b1,u0.trans b2 (aJ _),b3,D,b4,b5,λG V cx hG hp=>b6 G V (cx0 cx) (λx hx=>(List.mem_append.1 hx).elim (λh=>Ynn (hG s aj) (aG h)) (λh=>hG x (ai _ h))) hp⟩
  rw[ab c4]at e|-
  by_cases c7:hdN m.x s=7
  ·rw[ae c7]at e|-
   by_cases d:(yDf s (yCn m)).e=0
   ·rw[ae d]at e|-
    obtain⟨a1,a2,a3,a4,a5,a6,a7,a8⟩:=Y24c (m:=yCn m) (z:=z) hx hs.1 hs.2 d
    have a3':(yDf s (yCn m)).m.Sb=m.Sb:=a3
    obtain⟨b1,b2,b3,D,b4,b5,b6⟩:=Y144 n q (o++[(yDf s (yCn m)).v]) (yDf s (yCn m)).m a1 (by rw[a3'];exact hz) (by rw[a3'];exact hr)
     (λp hp=>by rw[a3'];exact(List.mem_append.1 hp).elim (ho p) (λh=>List.mem_singleton.1 h ▸ a7)) e
    have eD:yDv (o++[(yDf s (yCn m)).v])=yDv o++[m.Va+1]:=by rw[Y1kk];simp[yDv,a5,a6]
    have n1:nwB m.Va (yDf s (yCn m)).m.Va [m.Va+1]:=by
     have a4':(yDf s (yCn m)).m.Va=m.Va+1:=a4
     exact⟨by simp,λi hi=>by rw[an]at hi;omega,by rw[a4'];simp only[bh];omega⟩
    refine⟨b1,(u0.trans a2 (aJ _)).trans b2 (aJ _),b3,[m.Va+1]++D,by rw[b4,eD,aH],Ysl n1 b5,λG V cx hG hp => ?_⟩
    obtain⟨g1,g2⟩:=a8 G V (cx0 cx) (hG s aj)
    obtain⟨G',V',h1,h2,h3⟩:=b6 G _ g1 (λx hx=>hG x (ai _ hx)) (λp h=>(List.mem_append.1 h).elim (λh=>⟨(hp p h).1,λe=>.inl ((hp p h).2 e)⟩) (λh=>List.mem_singleton.1 h ▸ ⟨g2,λ_=>.inr a6⟩))
    refine⟨G',V',h1,h2,λi hi => ?_⟩
    rcases h3 i hi with (h|h)|h
    ·exact .inl h
    ·exact .inr (by rw[show i=m.Va+1 from h];exact aj)
    ·exact .inr (ai _ h)
   ·rw[ab d]at e;exact absurd e d
  rw[ab c7]at e|-
  by_cases c8:hdN m.x s=8
  ·rw[ae c8]at e|-
   by_cases d:(ySy s (yCn m)).e=0
   ·rw[ae d]at e|-
    obtain⟨a1,a2,a3,a4,a5⟩:=Y24k (m:=yCn m) (z:=z) hx hs.1 hs.2 d
    have a3':(ySy s (yCn m)).m.Sb=m.Sb:=a3
    have a4':(ySy s (yCn m)).m.Va=m.Va:=a4
    obtain⟨b1,b2,b3,D,b4,b5,b6⟩:=Y144 n q o (ySy s (yCn m)).m a1 (by rw[a3'];exact hz) (by rw[a3'];exact hr) (by rw[a3'];exact ho) e
    exact⟨b1,(u0.trans a2 (aJ _)).trans b2 (aJ _),b3,D,b4,by rw[a4']at b5;exact b5,λG V cx hG hp=>b6 G V (a5 G V (cx0 cx) (hG s aj)) (λx hx=>hG x (ai _ hx)) hp⟩
   ·rw[ab d]at e;exact absurd e d
  rw[ab c8]at e|-
  obtain⟨b1,b2,b3,D,b4,b5,b6⟩:=Y144 n q (o++[⟨false,0,s,false,[],[]⟩]) (yCn m) hx hz hr (λp hp=>(List.mem_append.1 hp).elim (ho p) (λh=>List.mem_singleton.1 h ▸ ⟨λh=>Y178 h,λ_=>hs.1⟩)) e
  have eD:yDv (o++[⟨false,0,s,false,[],[]⟩])=yDv o:=by rw[Y1kk];simp[yDv]
  exact⟨b1,u0.trans b2 (aJ _),b3,D,by rw[b4,eD],b5,λG V cx hG hp=>b6 G V (cx0 cx) (λx hx=>hG x (ai _ hx)) (λp h=>(List.mem_append.1 h).elim (hp p) (λh=>List.mem_singleton.1 h ▸ ⟨⟨λh=>Y178 h,λ_=>hG s aj⟩,λh=>Y178 h⟩))⟩
def fv (c:Yc) (n:Int):Prop:=n∈fre c [] []
structure Hy (m:YS) (I:(Int->Prop)->(Int->Prop)->Prop) (bs:List Int) (F:Int->Prop) (q:YS):Prop where
 ex:Ym0 q.x
 up:Up m.Sb m q
 num:nwB m.Va q.Va bs
 fr:∀ G V,Cx G V m->I G V->∀ n,F n->V n
theorem Yzo {k n:Int}{P:List Int}{K:List Yc}{i:Int}:fv (yK k n P K) i ↔ ((k=2\/k=4)/\i=n)\/∃ x∈K,i∉P/\fv x i:=Yu3 _ i
theorem Ywa (k n:Int) (P:List Int) (K:List Yc):bnd (yK k n P K)=P++K.flatMap bnd:=Yxb _
theorem Y23d (k n:Int) (P:List Int) (K:List Yc):okC (yK k n P K)=(K.all okC&&(shC (yK k n P K)&&K.all (sqC (yK k n P K)))):=Yzl _
theorem Y1zk {c x:Yc}(h:¬ c.Ka=8):sqC c x:=by simp[sqC,h]
theorem Yuc {k n:Int}{P:List Int}{K:List Yc}(h8:¬ k=8) (hK:∀ x∈K,okC x) (hs:shC (yK k n P K)):okC (yK k n P K):=by
 rw[Y23d,hs,dk,af,am,am]
 exact⟨hK,λx _=>Y1zk (c:=yK k n P K) h8⟩
theorem Y1pz {K:List Yc}(hK:∀ x∈K,okC x) (h1:1<=K.length) (e:sqE K=0):okC (sqV K)/\bnd (sqV K)=K.flatMap bnd/\∀ n,fv (sqV K) n->∃ x∈K,fv x n:=by
 have eV:sqV K=Yyf K:=ae e
 obtain⟨a1,a2,a3,a4⟩:=Y1jw K hK
 have h60:¬ 60<((Ymh K).length:Int):=λh=>by unfold sqE at e;rw[ae h]at e;cases e
 rw[eV]
 unfold Yyf
 by_cases c:(Ymh K).length=1
 ·rw[ae c]
  have hm:(Ymh K).g 0∈Ymh K:=Yl6 oW
  obtain⟨b1,b2,x,hx,_,b3⟩:=a2 _ hm
  have e1:Ymh K=[(Ymh K).g 0]:=by
   match h:Ymh K,c with
   | [y],_=>rfl
  refine⟨b1,?_,λn hn=>⟨x,hx,b3 n hn⟩⟩
  rw[<- a4];conv=>rhs;rw[e1]
  simp
 ·rw[ab c]
  refine⟨?_,by rw[Yxb];simpa using a4,λn hn => ?_⟩
  ·rw[Yzl,af,am]
   refine⟨λy hy=>(a2 y hy).1,?_⟩
   simp only[shI,shC,af,am,sqC]
   refine⟨?_,λy hy=>by simp[(a2 y hy).2.1]⟩
   simp[d0]
   omega
  ·have hn':=(Yu3 ⟨8,0,[],d0,Ymh K⟩ n).1 hn
   rcases hn' with h|⟨y,hy,_,h⟩
   ·rcases h.1 with h|h<;>exact absurd (show (8:Int)=_ from h) dW
   ·obtain⟨_,_,x,hx,_,b3⟩:=a2 y hy
    exact⟨x,hx,b3 n h⟩
theorem Y1m4 {s:YS_}(h:Yld s) (k:s.Ka=2\/s.Ka=3\/s.Ka=4):Ynp (yDt s):=by
 have h3:=(Ymx h).2.2
 rw[Ypo,af]at h3
 have h4:=h3.2
 simp only[Yq6,af]at h4
 have h5:=h4.1.1
 have hi:s.Ia=[]:=by
  simp only[Ypx,aF,ak]at h5
  refine List.length_eq_zero_iff.1 ?_
  omega
 rw[Y1no,hi]
 rw[hi]at h5
 have e1:=Ypj ⟨s.Ka,s.Na,s.Ta,[]⟩
 have e2:=Y13z ⟨s.Ka,s.Na,s.Ta,[]⟩
 simp only[Ynp,af,ak,List.map_nil]
 refine⟨⟨by rw[e1];simp[sumBy],by rw[e2];simp[Yma]⟩,?_⟩
 rw[Y18b];simpa using h5
theorem Y1pa {d:Yd}(h:Ynp d):okC ⟨1,0,[],d,[]⟩=true/\bnd ⟨1,0,[],d,[]⟩=[]/\∀ n,¬ fv ⟨1,0,[],d,[]⟩ n:=by
 refine⟨by rw[Yzl];simp[shI,shC,h],by rw[Yxb];simp,λn hn => ?_⟩
 rcases(Yu3 ⟨1,0,[],d,[]⟩ n).1 hn with a|⟨x,hx,_⟩
 ·rcases a.1 with b|b<;>exact absurd (show (1:Int)=_ from b) dW
 ·cases hx
theorem Y1pe {L:List YB}{s:YS_}{G:Int->Prop}(hk:s.Ka=1) (h:rsC L s.Ta s.Sa=1) (hG:scN G s):rsB L s.Ta s.Sa∈L/\∀ j∈(rsB L s.Ta s.Sa).Sa,G j:=by
 have r:=Y171 h
 have hc:=r.2.2
 simp only[Ys0,Yp8,af,ak,am]at hc
 exact⟨r.2.1,λj hj=>hG s (Ywg hk) j (hc.2 j hj)⟩
theorem Y1vk {n:Nat}{L:List YS_}{m:YS}(hx:Ym0 m.x) (hL:∀ x∈L,fmI m.Sb x) (h:cdN m.Sb 1=0) (l:(yLk n (yAd (nxt m.Sb 1) L) [] (ySc 1 m)).e=0) :
  Ym0 (yLk n (yAd (nxt m.Sb 1) L) [] (ySc 1 m)).m.x/\Up m.Sb m (yLk n (yAd (nxt m.Sb 1) L) [] (ySc 1 m)).m/\(∀ p∈(yLk n (yAd (nxt m.Sb 1) L) [] (ySc 1 m)).v,fmP (yLk n (yAd (nxt m.Sb 1) L) [] (ySc 1 m)).m.Sb p) /\
  ∃ D,yDv (yLk n (yAd (nxt m.Sb 1) L) [] (ySc 1 m)).v=D/\nwB m.Va (yLk n (yAd (nxt m.Sb 1) L) [] (ySc 1 m)).m.Va D /\
  ∀ G V,Cx G V m->(∀ x∈L,scN G x)->∃ G' V',Cx G' V' (yLk n (yAd (nxt m.Sb 1) L) [] (ySc 1 m)).m/\(∀ p∈(yLk n (yAd (nxt m.Sb 1) L) [] (ySc 1 m)).v,scQ G' p/\(p.d->V' p.n))/\∀ i,V' i->V i\/i∈D:=by
 have f:=(Ynr m.x).1 hx
 have hn:=@Yq4 m.Sb 1 f.Sb.1 h
 have hk:=@Y168 m.Sb 1 f.Sb.1 dW h
 have s1:(ySc 1 m).Sb=nxt m.Sb 1:=hn.2.2.1
 have x1:Ym0 (ySc 1 m).x:=Y174 hx (by show m.Sb<=nxS m.Sb 1/\nxS m.Sb 1<=99999;omega) f.Sc
 have u1:Up m.Sb m (ySc 1 m):=⟨by rw[s1];omega,aJ _,⟨[],by simp,by simp⟩,⟨[],by simp⟩⟩
 obtain⟨b1,b2,b3,D,b4,b5,b6⟩:=Y144 (z:=m.Sb) n _ [] (ySc 1 m) x1 (by rw[s1];omega) (λx hx'=>by
  obtain⟨y,hy,rfl⟩:=List.mem_map.1 hx'
  exact⟨by rw[s1];exact Yzb oW ⟨hn.1,hn.2.1⟩ (hL y hy),Y1a2 oW oW y⟩) sW l
 refine⟨b1,u1.trans b2 (aJ _),b3,D,by simpa[yDv] using b4,b5,λG V cx hG => ?_⟩
 exact b6 _ V (cx.more hx (N:=λj=>j=nxt m.Sb 1) (λj hj=>by rw[s1,hj];omega) (by rw[s1];omega) rfl rfl) (λx hx'=>by
  obtain⟨y,hy,rfl⟩:=List.mem_map.1 hx'
  exact Y1a6 (hG y hy)) sW
mutual
theorem Y17s:∀ {s:YS_}{m q:YS}{c:Yc},EvY s m c q->(Ym0 m.x)->(fmI m.Sb s)->Hy m (λG _=>scN G s) (bnd c) (fv c) q/\okC c
 | s,m,_,_,.mk z r,hx,hs=>by
  have g:=Y22z r (m:=yCn m) hx hs
  have u0:Up m.Sb m (yCn m):=⟨aJ _,aJ _,⟨[],by simp,by simp⟩,⟨[],by simp⟩⟩
  exact⟨⟨g.1.ex,u0.trans g.1.up (aJ _),g.1.num,λG V cx=>g.1.fr G V ⟨cx.le,cx.va,cx.ma⟩⟩,g.2⟩
theorem Y22z:∀ {s:YS_}{m q:YS}{c:Yc},EfY s m c q->(Ym0 m.x)->(fmI m.Sb s)->Hy m (λG _=>scN G s) (bnd c) (fv c) q/\okC c
 | s,m,_,_,.va k r b,hx,hs=>by
  refine⟨⟨hx,Up.rfl' _ _,by rw[Ywa];exact Ytg _,λG V cx hG n hn => ?_⟩,Yuc dW sW (by simp[shC,yK])⟩
  have v:=Y1pe k r hG
  rcases Yzo.1 hn with a|⟨x,hx,_⟩
  ·rw[a.2];exact cx.va _ v.1 v.2 b
  ·cases hx
 | s,m,_,_,.pm k r b,hx,hs=>by
  have hb:=Y13t ((Ynr m.x).1 hx).areb (Y171 r).2.1
  simp only[Ypr,af,ak]at hb
  have hn:=hb.2
  rw[b]at hn
  have hn2:(rsB m.Ba s.Ta s.Sa).Na<=13:=hn.2
  refine⟨⟨hx,Up.rfl' _ _,by rw[Ywa];exact Ytg _,λG V cx hG n hn => ?_⟩,Yuc dW sW (by simp[shC,yK];(try simp only[af,ak]);omega)⟩
  rcases Yzo.1 hn with a|⟨x,hx,_⟩
  ·rcases a.1 with a|a<;>exact absurd a dW
  ·cases hx
 | s,m,_,_,.qa k,hx,hs=>by
  have d:=Y1pa (Y1m4 hs.1 k)
  exact⟨⟨hx,Up.rfl' _ _,by rw[d.2.1];exact Ytg _,λG V cx hG n hn=>absurd hn (d.2.2 n)⟩,d.1⟩
 | s,m,_,_,.qu h,hx,hs=>by
  have d:=Y1pa h
  exact⟨⟨hx,Up.rfl' _ _,by rw[d.2.1];exact Ytg _,λG V cx hG n hn=>absurd hn (d.2.2 n)⟩,d.1⟩
 | s,m,_,_,.st h e r,hx,hs=>by
  obtain⟨a1,a2,a3,a4,a5,a6⟩:=Y1l1 hx hs h e
  have g:=Y17s r a1 a4
  refine⟨⟨g.1.ex,(a2 m.Sb).trans g.1.up (a2 0).sc,by have:=g.1.num;rw[a3]at this;exact this,λG V cx hG n hn => ?_⟩,g.2⟩
  obtain⟨G',g1,g2,_⟩:=a6 G V cx hG
  exact g.1.fr G' V g1 g2 n hn
 | s,m,_,_,.ls hL r g,hx,hs=>by
  have i:=Y1c4 r hx (λx hx'=>Yn2 hs (hL x hx'))
  refine⟨⟨i.1.ex,i.1.up,by rw[Ywa];exact i.1.num,λG V cx hG n hn => ?_⟩,Yuc oW i.2 ?_⟩
  ·rcases Yzo.1 hn with a|⟨x,hx',_,a⟩
   ·have:=a.1;omega
   ·exact i.1.fr G V cx (λx hx'=>Ynn hG (hL x hx')) n ⟨x,hx',a⟩
  ·rcases g with ⟨g1,g2,g3⟩|⟨g1,g2⟩<;>subst g1<;>simp[shC,yK]<;>(try simp only[af,ak])<;>omega
 | s,m,_,_,.sq hL r e n,hx,hs=>by
  have i:=Y1c4 r hx (λx hx'=>Yn2 hs (hL x hx'))
  have v:=Y1pz i.2 n e
  exact⟨⟨i.1.ex,i.1.up,by rw[v.2.1];exact i.1.num,λG V cx hG n hn=>i.1.fr G V cx (λx hx'=>Ynn hG (hL x hx')) n (v.2.2 n hn)⟩,v.1⟩
 | s,m,_,_,.pc hP hB g r,hx,hs=>by
  have i:=Y1v3 r g hx (λx hx'=>Ywh hs (hP x hx')) (λx hx'=>Yn2 hs (hB x hx'))
  exact⟨⟨i.1.ex,i.1.up,i.1.num,λG V cx hG=>i.1.fr G V cx (λx hx'=>Ynn hG (hB x hx'))⟩,i.2⟩
 | s,m,_,_,.lo (P:=P) (B:=B) (K:=K) hP hB n e r g,hx,hs=>by
  obtain⟨a1,a2,a3,a4,a5,a6⟩:=Y1vm hx (λx hx'=>Ywh hs (hP x hx')) (λx hx'=>Yn2 hs (hB x hx')) e
  have i:=Y1c4 r a1 a5
  have hm:=(Y180 e).2.1
  refine⟨⟨i.1.ex,a2.trans i.1.up a2.sc,by rw[Ywa];exact Ysl a3 i.1.num,λG V cx hG j hj => ?_⟩,Yuc dW i.2 (by simp[shC,yK];(try simp only[af,ak]);omega)⟩
  rcases Yzo.1 hj with a|⟨x,hx',np,a⟩
  ·rcases a.1 with a|a<;>exact absurd a dW
  ·obtain⟨G',g1,g2⟩:=a6 G V cx (λx hx'=>Ynn hG (hB x hx'))
   exact(i.1.fr G' _ g1 g2 j ⟨x,hx',a⟩).resolve_right np
 | s,m,_,_,.sg ht k r b hx' v,hx,hs=>by
  have i:=Y17s v hx (Yn2 hs hx')
  refine⟨⟨i.1.ex,i.1.up,by rw[Ywa];simpa using i.1.num,λG V cx hG j hj => ?_⟩,Yuc dW (by simpa using i.2) (by simp[shC,yK])⟩
  have w:=Y1pe k r (Ynn hG ht)
  rcases Yzo.1 hj with a|⟨x,hx2,_,a⟩
  ·rw[a.2];exact cx.va _ w.1 w.2 b
  ·rw[an]at hx2;subst hx2
   exact i.1.fr G V cx (Ynn hG hx') j a
 | s,m,_,_,.re hL r,hx,hs=>by
  have i:=Y1lw r hx (λx hx'=>Yn2 hs (hL x hx'))
  refine⟨⟨i.1.ex,i.1.up,by rw[Ywa];simpa using i.1.num,λG V cx hG j hj => ?_⟩,Yuc dW (by simpa using i.2) (by simp[shC,yK])⟩
  rcases Yzo.1 hj with a|⟨x,hx2,_,a⟩
  ·rcases a.1 with a|a<;>exact absurd a dW
  ·rw[an]at hx2;subst hx2
   exact i.1.fr G V cx (λx hx'=>Ynn hG (hL x hx')) j a
 | s,m,_,_,.lx (L:=L) (B:=B) hL hB n a e r,hx,hs=>by
  have f:=(Ynr m.x).1 hx
  have hn:=@Yq4 m.Sb 1 f.Sb.1 n
  have hk:=@Y168 m.Sb 1 f.Sb.1 dW n
  have s1:(ySc 1 m).Sb=nxt m.Sb 1:=hn.2.2.1
  have x1:Ym0 (ySc 1 m).x:=Y174 hx (by show m.Sb<=nxS m.Sb 1/\nxS m.Sb 1<=99999;omega) f.Sc
  have u1:Up m.Sb m (ySc 1 m):=⟨by rw[s1];omega,aJ _,⟨[],by simp,by simp⟩,⟨[],by simp⟩⟩
  have lo:∀ x∈L,x.Ia.length=2/\(x.Ia.g 0).Ka=1/\Ymt m.Ba (x.Ia.g 1):=by
   intro x hx'
   have:=List.all_eq_true.1 a x hx'
   simp only[yLo,af,ak]at this
   exact⟨by omega,this.1.2,this.2⟩
  obtain⟨b1,b2,b3,b4,b5⟩:=Y1w2 (z:=m.Sb) L (ySc 1 m) x1 (λx hx'=>by
   obtain⟨l1,l2,l3⟩:=lo x hx'
   have fx:=Ywh hs (hL x hx')
   have i0:x.Ia.g 0∈x.Ia:=Yl6 oW
   have i1:x.Ia.g 1∈x.Ia:=Yl6 oW
   have pr:=Y1ir l3 (Yn2 fx i1)
   exact⟨by rw[s1];exact Yzb oW ⟨hn.1,hn.2.1⟩ (Yn2 fx i0),by rw[Yqy];exact l2,Y1a2 oW oW _,pr.1,by rw[s1];exact Y1j9 oW pr.2⟩) e
  have i:=Y1lw r b1 (λx hx'=>by
   obtain⟨y,hy,rfl⟩:=List.mem_map.1 hx'
   rw[b3,s1];exact Yzb oW ⟨hn.1,hn.2.1⟩ (Yn2 hs (hB y hy)))
  refine⟨⟨i.1.ex,(u1.trans b2 (aJ _)).trans i.1.up (by rw[b3,s1];omega),by have:=i.1.num;rw[b4]at this;exact this,λG V cx hG => ?_⟩,i.2⟩
  refine i.1.fr (λj=>G j\/j=nxt m.Sb 1) V (b5 _ V (cx.more hx (N:=λj=>j=nxt m.Sb 1) (λj hj=>by rw[s1,hj];omega) (by rw[s1];omega) rfl rfl) λx hx' t ht => ?_) λx hx' => ?_
  ·obtain⟨l1,l2,l3⟩:=lo x hx'
   have i1:x.Ia.g 1∈x.Ia:=Yl6 oW
   exact Ywk (λ_ h=>.inl h) (Y1a9 (Ynn (Y1a9 hG (hL x hx')) i1) ((Y1gt l3).2 t (.inr (.inr ht))))
  ·obtain⟨y,hy,rfl⟩:=List.mem_map.1 hx'
   exact Y1a6 (Ynn hG (hB y hy))
theorem Y1c4:∀ {L:List YS_}{m q:YS}{K:List Yc},KdY L m K q->(Ym0 m.x)->(∀ x∈L,fmI m.Sb x)->Hy m (λG _=>∀ x∈L,scN G x) (K.flatMap bnd) (λn=>∃ x∈K,fv x n) q/\∀ x∈K,okC x
 | _,m,_,_,.nil,hx,hL=>⟨⟨hx,Up.rfl' _ _,Ytg _,λG V cx _ n hn=>by obtain⟨x,h,_⟩:=hn;cases h⟩,by simp⟩
 | _,m,_,_,.cons h t,hx,hL=>by
  have a:=Y17s h hx (hL _ aj)
  have b:=Y1c4 t a.1.ex (λx hx'=>Y12f a.1.up.sc (hL x (ai _ hx')))
  refine⟨⟨b.1.ex,a.1.up.trans b.1.up a.1.up.sc,by rw[bU];exact Ysl a.1.num b.1.num,λG V cx hG n hn => ?_⟩,λx hx'=>(List.mem_cons.1 hx').elim (λe=>e ▸ a.2) (b.2 x)⟩
  obtain⟨x,hx',hv⟩:=hn
  rcases List.mem_cons.1 hx' with rfl|hx'
  ·exact a.1.fr G V cx (hG _ aj) n hv
  ·exact b.1.fr G V (cx.up hx a.1.up) (λy hy=>hG y (ai _ hy)) n ⟨x,hx',hv⟩
theorem Y1v3:∀ {k:Int}{P B:List YS_}{m q:YS}{c:Yc},PcY k P B m c q->(k=5\/k=11/\P.length=1)->(Ym0 m.x)->(∀ x∈P,fmI m.Sb x)->(∀ x∈B,fmI m.Sb x)->Hy m (λG _=>∀ x∈B,scN G x) (bnd c) (fv c) q/\okC c
 | k,P,B,m,_,_,.mk e r,g,hx,hP,hB=>by
  obtain⟨a1,a2,a3,a4,a5,a6⟩:=Y1vm hx hP hB e
  have i:=Y1lw r a1 a5
  have hm:=(Y180 e).2.1
  refine⟨⟨i.1.ex,a2.trans i.1.up a2.sc,by rw[Ywa];exact Ysl a3 (by simpa using i.1.num),λG V cx hG j hj => ?_⟩,Yuc oW (by simpa using i.2) ?_⟩
  ·rcases Yzo.1 hj with a|⟨x,hx',np,a⟩
   ·have:=a.1;omega
   ·rw[an]at hx';subst hx'
    obtain⟨G',g1,g2⟩:=a6 G V cx hG
    exact(i.1.fr G' _ g1 g2 j a).resolve_right np
  ·rcases g with g|⟨g,g2⟩<;>subst g<;>simp[shC,yK]<;>(try simp only[af,ak])<;>omega
theorem Y1w3:∀ {p:YP}{m q:YS}{c:Yc},PtY p m c q->(Ym0 m.x)->(fmP m.Sb p)->Hy m (λG _=>scQ G p) (bnd c) (fv c) q/\okC c
 | p,m,_,_,.pc e r,hx,hp=>by
  have i:=Y1v3 r (.inl rfl) hx (hp.1 e).1 (hp.1 e).2
  exact⟨⟨i.1.ex,i.1.up,i.1.num,λG V cx hG=>i.1.fr G V cx (hG.1 e).2⟩,i.2⟩
 | p,m,_,_,.ex e r,hx,hp=>by
  have i:=Y17s r hx (hp.2 e)
  exact⟨⟨i.1.ex,i.1.up,i.1.num,λG V cx hG=>i.1.fr G V cx (hG.2 e)⟩,i.2⟩
theorem Y1cl:∀ {L:List YP}{m q:YS}{K:List Yc},PsY L m K q->(Ym0 m.x)->(∀ p∈L,fmP m.Sb p)->Hy m (λG V=>∀ p∈L,scQ G p/\(p.d->V p.n)) (K.flatMap bnd) (λn=>∃ x∈K,fv x n) q/\∀ x∈K,okC x
 | _,m,_,_,.nil,hx,hL=>⟨⟨hx,Up.rfl' _ _,Ytg _,λG V cx _ n hn=>by obtain⟨x,h,_⟩:=hn;cases h⟩,by simp⟩
 | _,m,_,_,.de d h t,hx,hL=>by
  have a:=Y1w3 h hx (hL _ aj)
  have b:=Y1cl t a.1.ex (λx hx'=>Y1fi a.1.up.sc (hL x (ai _ hx')))
  refine⟨⟨b.1.ex,a.1.up.trans b.1.up a.1.up.sc,by rw[bU,Ywa];exact Ysl (by simpa using a.1.num) b.1.num,λG V cx hG n hn => ?_⟩,
   λx hx'=>(List.mem_cons.1 hx').elim (λe=>e ▸ Yuc dW (by simpa using a.2) (by simp[shC,yK])) (b.2 x)⟩
  obtain⟨x,hx',hv⟩:=hn
  rcases List.mem_cons.1 hx' with rfl|hx'
  ·rcases Yzo.1 hv with e|⟨x,hx2,_,e⟩
   ·rw[e.2];exact(hG _ aj).2 d
   ·rw[an]at hx2;subst hx2
    exact a.1.fr G V cx (hG _ aj).1 n e
  ·exact b.1.fr G V (cx.up hx a.1.up) (λy hy=>hG y (ai _ hy)) n ⟨x,hx',hv⟩
 | _,m,_,_,.ex d h t,hx,hL=>by
  have a:=Y1w3 h hx (hL _ aj)
  have b:=Y1cl t a.1.ex (λx hx'=>Y1fi a.1.up.sc (hL x (ai _ hx')))
  refine⟨⟨b.1.ex,a.1.up.trans b.1.up a.1.up.sc,by rw[bU];exact Ysl a.1.num b.1.num,λG V cx hG n hn => ?_⟩,λx hx'=>(List.mem_cons.1 hx').elim (λe=>e ▸ a.2) (b.2 x)⟩
  obtain⟨x,hx',hv⟩:=hn
  rcases List.mem_cons.1 hx' with rfl|hx'
  ·exact a.1.fr G V cx (hG _ aj).1 n hv
  ·exact b.1.fr G V (cx.up hx a.1.up) (λy hy=>hG y (ai _ hy)) n ⟨x,hx',hv⟩
theorem Y1lw:∀ {L:List YS_}{m q:YS}{c:Yc},BdY L m c q->(Ym0 m.x)->(∀ x∈L,fmI m.Sb x)->Hy m (λG _=>∀ x∈L,scN G x) (bnd c) (fv c) q/\okC c
 | L,m,_,_,.sq h l r g v e,hx,hL=>by
  obtain⟨a1,a2,a3,D,a4,a5,a6⟩:=Y1vk hx hL h l
  have i:=Y1cl r a1 a3
  have w:=Y1pz i.2 g e
  have eD:D=[]:=by rw[v]at a4;simpa[yDv] using a4.symm
  subst eD
  refine⟨⟨i.1.ex,a2.trans i.1.up a2.sc,by rw[w.2.1];exact Ysl a5 i.1.num,λG V cx hG j hj => ?_⟩,w.1⟩
  obtain⟨G',V',h1,h2,h3⟩:=a6 G V cx hG
  exact(h3 j (i.1.fr G' V' h1 h2 j (w.2.2 j hj))).resolve_right sW
 | L,m,_,_,.lo h l r g v,hx,hL=>by
  obtain⟨a1,a2,a3,D,a4,a5,a6⟩:=Y1vk hx hL h l
  have i:=Y1cl r a1 a3
  rw[a4]at v|-
  refine⟨⟨i.1.ex,a2.trans i.1.up a2.sc,by rw[Ywa];exact Ysl a5 i.1.num,λG V cx hG j hj => ?_⟩,Yuc dW i.2 (by simp[shC,yK];(try simp only[af,ak]);omega)⟩
  obtain⟨G',V',h1,h2,h3⟩:=a6 G V cx hG
  rcases Yzo.1 hj with a|⟨x,hx',np,a⟩
  ·rcases a.1 with a|a<;>exact absurd a dW
  ·exact(h3 j (i.1.fr G' V' h1 h2 j ⟨x,hx',a⟩)).resolve_right np
end
theorem Y1tm {d:Yd}(h:Ynp d):wD d<=24000:=by
 have:∀ d:Yd,okD d->wD d+1<=40 * sizeD d:=by
  refine Yd.ind λd ih h => ?_
  rw[Y18b,af,am]at h
  have h2:∀ L:List Yd,(∀ x∈L,wD x+1<=40 * sizeD x)->L.length+sumBy wD L<=40 * sumBy sizeD L:=by
   intro L
   induction L with
   | nil=>intro _;simp[sumBy]
   | cons x r ihr=>
    intro hL
    have a:=hL x aj
    have b:=ihr λy hy=>hL y (ai _ hy)
    simp only[sumBy,aD];omega
  have h3:=h2 d.Ia λx hx=>ih x hx (h.1 x hx)
  have h4:d.Ta.size<=30:=by
   have e:∀ u:ByteArray,u.data.toList=[]->u.size=0:=λu hu=>by
    have:u.data.toList.length=0:=by rw[hu];rfl
    simpa using this
   have h5:=h.2
   simp only[Ypx,aF,ak]at h5
   rcases h5 with (((h|h)|h)|h)|h
   ·have:=e d.Ta h.2.2;omega
   ·have h2:=h.2.2.1
    unfold Yox at h2;simp only[af,ak]at h2
    have:=h2.1.1.1.2;omega
   ·have:=e d.Ta h.2.2.2.1;omega
   ·have:=e d.Ta h.2.2.2.1;omega
   ·have h2:=h.2.2.1
    unfold Yq5 at h2;simp only[af,ak]at h2
    have:=h2.1;omega
  rw[Yve,Ypj];omega
 simp only[Ynp,af,ak]at h
 have:=this d h.2
 omega
theorem Y21q:∀ c:Yc,okC c->wC c+1<=24100 * Yly c:=by
 refine Yc.ind λc ih h => ?_
 rw[Yzl,af,am]at h
 have h2:∀ L:List Yc,(∀ x∈L,wC x+1<=24100 * Yly x)->L.length+sumBy wC L<=24100 * sumBy Yly L:=by
  intro L
  induction L with
  | nil=>intro _;simp[sumBy]
  | cons x r ihr=>
   intro hL
   have a:=hL x aj
   have b:=ihr λy hy=>hL y (ai _ hy)
   simp only[sumBy,aD];omega
 have h3:=h2 c.Kb λx hx=>ih x hx (h.1 x hx)
 have h4:=h.2
 simp only[shI,shC,af,aF,ak]at h4
 have hd:wD c.Da<=24000/\c.Pa.length<=60:=by
  obtain⟨⟨⟨h5,_⟩,h6⟩,_⟩:=h4
  constructor
  ·rcases h5 with h5|h5
   ·rw[ae h5]at h6
    simp only[af]at h6
    exact Y1tm h6.2
   ·rw[h5];decide
  ·repeat' (split at h6)
   all_goals first
    | (simp only[af,ak]at h6;omega)
    | cases h6
 rw[Y13y,Yp9]
 have:=hd.1
 have:=hd.2
 omega
structure isB0 (x:YE):Prop where
 ex:Ym0 x
 mw:∀ r∈x.Ma,wR r<=900000000
 va:∀ b∈x.Ba,¬ b.Ka=3
 ma:∀ r∈x.Ma,∀ t∈r.Tb,∀ y∈nmZ t,y.Sa=[]
theorem Y22a {x:YE}{s:YS_}(hx:isB0 x) (hs:Yld s) (h0:∀ y∈nmZ s,y.Sa=[]) {r:YR Yc}(hr:r=yX s ⟨x.Ba,x.Ma,x.Sb,x.Va,x.Sc,0⟩) (e:r.e=0) (h1:Yly r.v<=3000) (h2:Ypa r.v<=150) :
  Yxq r.v []/\Ym0 r.m.x/\x.Sb<=r.m.Sb/\r.m.Va=x.Va+((bnd r.v).length:Int)/\x.Ba.length<=r.m.Ba.length/\wC r.v<=100000000:=by
 subst hr
 have v:=Y109.f s _ e
 have nos:∀ G:Int->Prop,scN G s:=λG y hy j hj=>by rw[h0 y hy]at hj;cases hj
 have hf:=(Ynr x).1 hx.ex
 have g:=Y17s v hx.ex (Y1r0 hs (nos _))
 have cx:Cx (λ_=>False) (λ_=>False) ⟨x.Ba,x.Ma,x.Sb,x.Va,x.Sc,0⟩:=by
  refine⟨λj h=>h.elim,λb hb _ hk=>hx.va b hb hk,λb hb _ hk t ht y hy j hj => ?_⟩
  have n:=Yzd hx.ex hb hk
  have:=hx.ma _ (Yl6 (L:=x.Ma) (k:=b.Na.toNat) oW) t ht y hy
  rw[this]at hj;cases hj
 have fr:=g.1.fr _ _ cx (nos _)
 have hv:=((Ynr _).1 g.1.ex).Va
 have nb:=g.1.num
 have hfr:fre (yX s ⟨x.Ba,x.Ma,x.Sb,x.Va,x.Sc,0⟩).v [] []=[]:=by
  rw[List.eq_nil_iff_forall_not_mem]
  exact λn hn=>fr n hn
 refine⟨?_,g.1.ex,g.1.up.sc,?_,?_,?_⟩
 ·simp only[Yxq,smC,af,ak,bq,hfr,List.all_nil,dP]
  refine⟨⟨⟨h1,h2⟩,g.2⟩,?_⟩
  rw[Y1a3]
  refine⟨nb.nd,λn hn => ?_⟩
  have a:=nb.mem n hn
  have b:0<=x.Va:=hf.Va.1
  have a1:x.Va<n:=a.1
  have c:=hv.2
  have a2:=a.2
  have c2:(yX s ⟨x.Ba,x.Ma,x.Sb,x.Va,x.Sc,0⟩).m.Va<=99999:=c
  exact⟨by omega,by omega⟩
 ·have:=nb.len
  have e2:(⟨x.Ba,x.Ma,x.Sb,x.Va,x.Sc,0⟩:YS).Va=x.Va:=rfl
  rw[e2]at this;omega
 ·obtain⟨B,e2,_⟩:=g.1.up.bi
  rw[e2];simp
 ·have:=Y21q _ g.2;omega
section
abbrev Z2e (c:Yc):Ct:=⟨83,[],[Yt0 c],[],.sv (li (Ypa c))⟩
def Z5b (c:Yc):Lp Nat:=.mk 20 0 (λx=>[(3,hs x 1),(7,Aw c.Kb),(8,li (c.Kb.map Ylo).length),(9,hs x 0)]) (λx=>[]) (λk=>[.s (li k),.s (li (↑(Yma Ypa (c.Kb.take k)):Int))]) (λk=>k<=c.Kb.length/\c.Kb.length<=9223372036854775807) (λk=>c.Kb.length - k) [.mk True (.exit 0) (λx=>[(3,hs x 0)]) (λx=>[]) [.s (li (↑(Yma Ypa c.Kb):Int))]]
theorem Zga (c:Yc) (h:Yly c<=2147483647) (ih:∀ (z:Yc),z∈c.Kb->Yly z<=2147483647->OK (Z2e z)):Lp.Sem prog (Yli f83 0) (Z5b c):=Ylp (λk=>let v1:=(↑(Yma Ypa (c.Kb.take k)):Int);let v2:=c.Kb.g k;.i ((k:Int)<(c.Kb.map Ylo).length) (.x (k:Int) (c.Kb.map Ylo) (Ymz v2) (.d [.rd] (Z2e v2) (.r ((k:Int)+1) (.g [] (k+1) [.s (li ((k:Int)+1)),.s (li (max v1 (↑(Ypa v2):Int)))])))) (.o 0 [] [.s (li v1)])) (by
 intro k h;try dsimp only[Yl3,Yle,Z5b]at h|-
 have g1:=Yp9 c
 have g2:=@Yls _ Yly c.Kb (c.Kb.g k)
 exact z0b)
theorem Zk6 (c:Yc) (h:Yly c<=2147483647) (ih:∀ z∈c.Kb,∀ (h:Yly z<=2147483647),Z2e z):Z2e c:=Ylh call83 func83 (let v1:=(↑(Yma Ypa c.Kb):Int)+1;.z Ylo c.Kb (.l (Z5b c) (Zga c h ih) [] [.s (li 0),.s (li 0)] 0 (.t (.r v1 (.s (li v1))) .q))) (by
 dsimp only[Yl3,Z2e,Yle,Z5b]
 have h1:=Y1y1 c
 have g2:Yma Ypa (c.Kb.take 0)=0:=rfl
 with_reducible repeat' (first|apply ah|exact zR|exact ih|(intro))
 all_goals ((try simp only[std,inj]at *);with_reducible and_intros)
 all_goals try with_reducible first|apply ih
 all_goals try first|exact z|grind[Y13c,Yla,Ylb,Yl5])
theorem Zj6 (c:Yc):∀ (h:Yly c<=2147483647),Z2e c:=Yc.ind (P:=λc=>∀ (h:Yly c<=2147483647),Z2e c) (λc ih h=>Zk6 c h ih) c
abbrev Z2f (c:Yc):Ct:=⟨82,[],[Yt0 c],[],.sv (li (Yly c))⟩
def Z5c (c:Yc):Lp Nat:=.mk 19 0 (λx=>[(3,hs x 1),(7,Aw c.Kb),(8,li (c.Kb.map Ylo).length),(9,hs x 0)]) (λx=>[]) (λk=>[.s (li k),.s (li (↑(1+sumBy Yly (c.Kb.take k)):Int))]) (λk=>k<=c.Kb.length/\c.Kb.length<=9223372036854775807) (λk=>c.Kb.length - k) [.mk True (.exit 0) (λx=>[(3,hs x 0)]) (λx=>[]) [.s (li (↑(1+sumBy Yly c.Kb):Int))]]
theorem Zgb (c:Yc) (h:Yly c<=2147483647) (ih:∀ (z:Yc),z∈c.Kb->Yly z<=2147483647->OK (Z2f z)):Lp.Sem prog (Yli f82 0) (Z5c c):=Ylp (λk=>let v2:=(↑(1+sumBy Yly (c.Kb.take k)):Int);let v3:=c.Kb.g k;let v1:=v2+(↑(Yly v3):Int);.i ((k:Int)<(c.Kb.map Ylo).length) (.x (k:Int) (c.Kb.map Ylo) (Ymz v3) (.d [.rd] (Z2f v3) (.r v1 (.r ((k:Int)+1) (.g [] (k+1) [.s (li ((k:Int)+1)),.s (li v1)]))))) (.o 0 [] [.s (li v2)])) (by
 intro k h;try dsimp only[Yl3,Yle,Z5c]at h|-
 have g1:=Yp9 c
 have g2:=@Yls _ Yly c.Kb (c.Kb.g k)
 have g3:=@Yom _ _ Yly c.Kb k
 have g4:=Ymu Yly c.Kb (k+1)
 have g5:c.Kb.length<=k->c.Kb.take k=c.Kb:=λh=>ar h
 exact z01)
theorem Zk7 (c:Yc) (h:Yly c<=2147483647) (ih:∀ z∈c.Kb,∀ (h:Yly z<=2147483647),Z2f z):Z2f c:=Ylh call82 func82 (.z Ylo c.Kb (.l (Z5c c) (Zgb c h ih) [] [.s (li 0),.s (li 1)] 0 (.t (.s (li (↑(1+sumBy Yly c.Kb):Int))) .q))) (by
 dsimp only[Yl3,Z2f,Yle,Z5c]
 have g1:=Yp9 c
 have g2:sumBy Yly (c.Kb.take 0)=0:=rfl
 exact z02)
theorem Zj7 (c:Yc):∀ (h:Yly c<=2147483647),Z2f c:=Yc.ind (P:=λc=>∀ (h:Yly c<=2147483647),Z2f c) (λc ih h=>Zk7 c h ih) c
def Yuh (c:Yc) (e:Int):Int:=if e=0/\(3000<Yly c\/150<Ypa c) then 8 else e
abbrev Zbc (c:Yc) (e:Int):Ct:=⟨33,[],[Yt0 c,li e],[],.sv (li (Yuh c e))⟩
theorem Zff (c:Yc) (e:Int) (h:e=0->Yly c<=1000000):Zbc c e:=Ylh call33 func33 (.i (e=0) (.d [.rd] (Z2f c) (.i (3000<(↑(Yly c):Int)) (.y true (.s (li 8))) (.d [.rd] (Z2e c) (.i (150<(↑(Ypa c):Int)) (.s (li 8)) (.s (li e)))))) (.y false (.s (li e)))) (by
 dsimp only[Yl3,Zbc]
 with_reducible repeat' (first|apply ah|exact zR|(intro)|apply Zj7|apply Zj6)
 all_goals ((try simp only[std,inj]at *);with_reducible and_intros)
 all_goals try with_reducible first|apply Zj7|apply Zj6
 all_goals try first|exact z|grind[Yuh,Yla,Ylb,Yl5])
abbrev Zbd (x:YE):Ct:=⟨16,[],[Ypu x],[],.sv (lb (Ym0 x))⟩
def Z7r (x:YE):Lp Nat:=.mk 115 0 (λx_1=>[(1,.y 0),(66,Aj x.Ba),(67,li (x.Ba.map Yl2).length),(68,hs x_1 0)]) (λx_1=>[.box (vals (Yn6 x))]) (λk=>[.s (li k)]) (λk=>k<=x.Ba.length/\x.Ba.length<=9223372036854775807/\(x.Ba.take k).all (Yrq x)) (λk=>x.Ba.length - k) [.mk (x.Ba.all (Yrq x)) (.exit 2) (λx=>[]) (λx=>[]) [],.mk (x.Ba.all (Yrq x)=false) .ret (λx=>[(2,hs x 0)]) (λx=>[]) [.s (lb false)]]
def Z7s (x:YE):Lp Nat:=.mk 115 0 (λx_1=>[(1,.y 0),(48,ll (x.Ma.map Ylc)),(49,li (x.Ma.map Ylc).length),(50,hs x_1 0)]) (λx_1=>[.box (vals (Yn6 x))]) (λk=>[.s (li k)]) (λk=>k<=x.Ma.length/\x.Ma.length<=9223372036854775807/\(x.Ma.take k).all (ruX x)) (λk=>x.Ma.length - k) [.mk (x.Ma.all (ruX x)) (.exit 0) (λx=>[(1,.y 0)]) (λx_1=>[.box (vals (Yn6 x))]) [],.mk (x.Ma.all (ruX x)=false) .ret (λx=>[(2,hs x 0)]) (λx=>[]) [.s (lb false)]]
theorem Zj8 (x:YE) (h:okX x):Lp.Sem prog (Yli f16 1) (Z7r x):=Ylp (λk=>let v1:=x.Ba.g k;let v2:Tq _ _:=.r ((k:Int)+1) (.g [0] (k+1) [.s (li ((k:Int)+1))]);let v3:=((x.Ma.map Ylc).length:Int);let v4:Tq _ _:=.y true (.o 1 [] [.s (lb false)]);let v5:Tq _ _:=.z Yl4 v1.Sa (.z Ylc x.Ma (.i (v3<=v1.Na) (.o 1 [] [.s (lb false)]) v2));let v6:=((v1.Sa.map Yl4).length:Int);let v7:Tq _ _:=.z Yl4 v1.Sa (.y false v2);let v8:Tq _ _:=.z Yl4 v1.Sa (.z Yl4 v1.Sa v4);let v9:Tq _ _:=.i (v1.Ka=4) (.z Yl4 v1.Sa v5) (.z Yl4 v1.Sa v7);.i ((k:Int)<(x.Ba.map Yl2).length) (.x (k:Int) (x.Ba.map Yl2) (Ylv v1) (.w (.draw []) (.i (0<v6) (.r (v6 - 1) (.x (v6 - 1) (v1.Sa.map Yl4) [cI (v1.Sa.getD (v6 - 1).toNat 0)] (.i (x.Sb<v1.Sa.getD (v6 - 1).toNat 0) (.y true v8) (.i (v1.Ka=3) (.i (x.Va<v1.Na) v8 v9) (.y false v9))))) (.y false (.i (v1.Ka=3) (.i (x.Va<v1.Na) (.z Yl4 v1.Sa v4) (.i (v1.Ka=4) v5 v7)) (.y false (.i (v1.Ka=4) v5 v7))))))) (.o 0 [] [])) (by
 intro k h;try dsimp only[Yl3,Yle,Z7r]at h|-
 have hh := ‹okX x›
 have g0:=hh.macs.1
 have g1:=hh.binds.1
 have g2:k<x.Ba.length->wB (x.Ba.g k)<=199999:=λa=>(hh.binds.2 _ (Yl6 a)).1
 have g3:=@Y1br x k
 have g4:=@Y1j1 x k
 have g5:Yrq x (x.Ba.g k)=(!(decide (0<((x.Ba.g k).Sa.length:Int))&&decide (x.Sb<(x.Ba.g k).Sa.getD (((x.Ba.g k).Sa.length:Int) - 1).toNat 0)) && !(decide ((x.Ba.g k).Ka=3)&&decide (x.Va<(x.Ba.g k).Na)) && !(decide ((x.Ba.g k).Ka=4)&&decide ((x.Ma.length:Int)<=(x.Ba.g k).Na))):=rfl
 have g6:x.Ba.length<=k->x.Ba.take k=x.Ba:=λh=>ar h
 have g7:=Y1cf (x.Ba.g k)
 exact z18)
theorem Zj9 (x:YE) (h:okX x):Lp.Sem prog (Yli f16 0) (Z7s x):=Ylp (λk=>let v1:=x.Ma.g k;.i ((k:Int)<(x.Ma.map Ylc).length) (.x (k:Int) (x.Ma.map Ylc) (Yod v1) (.d [.rd] (Z27 v1) (.b (!Ymr v1) (.y true (.o 1 [] [.s (lb false)])) (.c [.rd,.rd] (Zgq v1 x.Sb) (.b (!Yt7 x.Sb v1) (.o 1 [] [.s (lb false)]) (.r ((k:Int)+1) (.g [0] (k+1) [.s (li ((k:Int)+1))]))))))) (.o 0 [0] [])) (by
 intro k h;try dsimp only[Yl3,Yle,Z7s]at h|-
 have hh := ‹okX x›
 have g1:=hh.macs.1
 have g2:k<x.Ma.length->wR (x.Ma.g k)<=1000000000:=λa=>by have:=(hh.macs.2 _ (Yl6 a)).2;omega
 have g3:=@Y1g8 x k
 have g4:=@Y1qg x k
 have g5:ruX x (x.Ma.g k)=(Ymr (x.Ma.g k)&&Yt7 x.Sb (x.Ma.g k)):=rfl
 have g6:x.Ma.length<=k->x.Ma.take k=x.Ma:=λh=>ar h
 exact z18)
theorem Zc1 (x:YE) (h:okX x):Zbd x:=Ylh call16 func16 (let v2:Tq _ _:=.y true (.s (lb false));let v1:Tq _ _:=.y true (.y true v2);.c [.rd] (Zig x.Ba) (.b (!Yv1 x.Ba) (.y true (.y true (.y true (.y true v1)))) (.z Ylc x.Ma (.i (200<((x.Ma.map Ylc).length:Int)) (.y true (.y true (.y true v1))) (.i (x.Sb<0) (.y true (.y true v1)) (.i (99999<x.Sb) (.y true v1) (.i (x.Va<0) v1 (.i (99999<x.Va) (.y true v2) (.i (x.Sc<0) v2 (.i (200<x.Sc) (.s (lb false)) (.z Ylc x.Ma (.l (Z7s x) (Zj9 x h) [0] [.s (li 0)] 0 (.t (.z Yl2 x.Ba (.l (Z7r x) (Zj8 x h) [0] [.s (li 0)] 0 (.t (.s (lb true)) (.t (.s (lb false)) .q)))) (.t (.s (lb false)) .q)))))))))))))) (by
 dsimp only[Yl3,Zbd,Yle,Z7s,Z7r]
 with_reducible repeat' (first|apply ah|exact zR|(intro)|apply Z3)
 all_goals ((try simp only[std,inj]at *);with_reducible and_intros)
 all_goals try with_reducible first|apply Z3
 all_goals try first|exact z|grind[Ym0,Yla,Ylb,Yl5])
abbrev Zbe (x:YE) (s:YS_):Ct:=⟨28,[],[Ypu x,ll [[cI s.Ka,cI s.Na,cS s.Ta,.Ao s.Sa,.Au s.Ia]]],[],.sv (lb (xsB x s))⟩
def Z7t (x:YE) (s:YS_):Lp Nat:=.mk 27 0 (λx=>[(2,.y 0),(10,ll [Yl8 s]),(11,li 1),(12,hs x 0)]) (λx_1=>[.box (vals (Yn6 x))]) (λk=>[.s (li k)]) (λk=>k<=1/\Ym0 x/\(k=0\/(Yld s&&blw x.Sb s))) (λk=>1 - k) [.mk (xsB x s) (.exit 0) (λx=>[]) (λx=>[]) [],.mk (xsB x s=false) .ret (λx=>[(4,hs x 0)]) (λx=>[]) [.s (lb false)]]
theorem Zja (x:YE) (s:YS_) (h:okX x):Lp.Sem prog (Yli f28 0) (Z7t x s):=Ylp (λk=>.i ((k:Int)<1) (.x (k:Int) [Yl8 s] (Yl8 s) (.c [.rd] (Zv s) (.b (!Yld s) (.y true (.o 1 [] [.s (lb false)])) (.c [.rd,.rd] (Zy s x.Sb) (.b (!blw x.Sb s) (.o 1 [] [.s (lb false)]) (.r ((k:Int)+1) (.g [0] (k+1) [.s (li ((k:Int)+1))]))))))) (.o 0 [] [])) (by
 intro k h;try dsimp only[Yl3,Yle,Z7t]at h|-
 exact z14)
theorem Zfg (x:YE) (s:YS_) (h:okX x):Zbe x s:=Ylh call28 func28 (.d [.rd] (Zbd x) (.b (!Ym0 x) (.s (lb false)) (.h (1<=9223372036854775807) (.l (Z7t x s) (Zja x s h) [0] [.s (li 0)] 0 (.t (.s (lb true)) (.t (.s (lb false)) .q)))))) (by
 dsimp only[Yl3,Zbe,Yle,Z7t]
 with_reducible repeat' (first|apply ah|exact zR|(intro)|apply Zc1|apply Zy)
 all_goals ((try simp only[std,inj]at *);with_reducible and_intros)
 all_goals try with_reducible first|apply Zc1|apply Zy
 all_goals try first|exact zw|grind[xsB,Yla,Ylb,Yl5])
abbrev ys0 (x:YE):YS:=⟨x.Ba,x.Ma,x.Sb,x.Va,x.Sc,0⟩
def yrE (b:Bool) (r:YR Yc):Int:=if b then Yuh r.v r.e else 1
def yrC (b:Bool) (r:YR Yc):Yc:=if yrE b r=0 then r.v else yN
def yrX (x:YE) (b:Bool) (r:YR Yc):YE:=if yrE b r=0 then r.m.x else x
section
variable {x:YE}{b:Bool}{r:YR Yc}
theorem Y1lz (h:(!b)):yrE b r=1:=ab (nb h)
theorem Y1w5 (h:(!b)):yrC b r=yN:=ab (by rw[Y1lz h];decide)
theorem Y1vy (h:(!b)):yrX x b r=x:=ab (by rw[Y1lz h];decide)
theorem Y18k (h:(!b)=false):yrE b r=Yuh r.v r.e:=ae (tb h)
theorem Y1w6 (h:(!b)=false) (g:¬ Yuh r.v r.e=0):yrC b r=yN:=ab (by rw[Y18k h];exact g)
theorem Y1v5 (h:(!b)=false) (g:¬ Yuh r.v r.e=0):yrX x b r=x:=ab (by rw[Y18k h];exact g)
theorem Y1vt (h:(!b)=false) (g:Yuh r.v r.e=0):yrC b r=r.v:=ae (by rw[Y18k h];exact g)
theorem Y1v9 (h:(!b)=false) (g:Yuh r.v r.e=0):yrX x b r=r.m.x:=ae (by rw[Y18k h];exact g)
end
theorem Y13o {x:YE}{s:YS_}(h:xsB x s):Yld s:=by
 simp only[xsB,af]at h;exact h.1.2
theorem Y201 {s:YS_}{m:YS}(hm:Ylt m) (hs:Yld s) (e:(yX s m).e=0):Yly (yX s m).v<=1000000:=by
 have g:=Ywm (Y109.f s m e) hs hm
 have h1:=g.siz
 have h2:=g.ok.2
 have h3:=hm.2
 omega
abbrev Z8u (x:YE) (s:YS_):Ct:=⟨11,[],[Ypu x,Yln s],Y10h (yrC (xsB x s) (yX s (ys0 x)))++Y1bj (yrX x (xsB x s) (yX s (ys0 x))),.tup [Y117 (yrC (xsB x s) (yX s (ys0 x))) 0,Y1ad (yrX x (xsB x s) (yX s (ys0 x))) 3,li (yrE (xsB x s) (yX s (ys0 x)))]⟩
theorem Z9x (x:YE) (s:YS_) (h:okX x/\wX x<=1048576/\wY s<=1000000000):Z8u x s:=Ylh call11 func11 (let v5:=YS.mk x.Ba x.Ma x.Sb x.Va x.Sc 0;let v1:=yX s v5;let v2:List Ob:=[.y 1 [],.y 4 [],.y 8 [],.Ac x.Ba,.Ad x.Ma];let v3:=[vI 0,vI 0,.ref 0,vI 0,vI 0,vS (mkS []),.ref 1,.ref 2];let v4:List AC:=[.ref 3,.ref 4,vI x.Sb,vI x.Va,vI x.Sc];.d [.rd] (Z2q x) (.d [.rd,.rd] (Zbe x s) (.b (!xsB x s) (.w (.draw [(3,[2]),(4,[3])]) (.w (.g (.nilbox 2 2 true 1)) (.w (.g (.nilbox 2 6 true 4)) (.w (.g (.nilbox 2 7 true 8)) (.f [8,9,10,4,5] v2 (.tup [.agg v3,.agg v4,li 1])))))) (.d [.ptr,.rd] (Zr s v5) (.d [.rd,.rd] (Zbc v1.v v1.e) (.i (Yuh v1.v v1.e≠0) (.d [.rd] (Z2q x) (.w (.g (.nilbox 2 2 true 1)) (.w (.g (.nilbox 2 6 true 4)) (.w (.g (.nilbox 2 7 true 8)) (.f [19,20,21,17,18] v2 (.tup [.agg v3,.agg v4,li (Yuh v1.v v1.e)])))))) (.w (.draw [(3,[2]),(4,[3])]) (.f [13,14,15,11,12] [.Aa v1.v.Pa,.Ah v1.v.Da.Ia,.Ak v1.v.Kb,.Ac v1.m.Ba,.Ad v1.m.Ma] (.tup [.agg [vI v1.v.Ka,vI v1.v.Na,.ref 0,vI v1.v.Da.Ka,vI v1.v.Da.Na,vS v1.v.Da.Ta,.ref 1,.ref 2],.agg [.ref 3,.ref 4,vI v1.m.Sb,vI v1.m.Va,vI v1.m.Sc],li 0]))))))))) (by
 dsimp only[Yl3,Z8u]
 have g0:Ylt (ys0 x):=⟨h.1,aJ _,by show (0:Int)<=3000;decide⟩
 have g1:=λa:(!xsB x s)=false=>Y201 g0 (Y13o (tb a))
 with_reducible repeat' (first|apply ah|exact zR|(intro)|apply Z6o|apply Zfg|apply Zk5|apply Zff)
 all_goals ((try simp only[std,inj]at *);with_reducible and_intros)
 all_goals try first|with_reducible (first|apply Z6o|apply Zfg|apply Zk5|apply Zff)|(simp only[<- aq];with_reducible first|apply Z6o|apply Zfg|apply Zk5|apply Zff)
 all_goals (try simp only[aI]at *)
 all_goals first
  | exact b9|omega|rfl|exact h.1|exact g0|exact g1 aW aW|exact⟨g0,Y13o (tb aW)⟩|exact Y13o (tb aW)|exact h.2.1|exact h.2.2
  | (rw[Y1w5 aW,Y1vy aW]<;>rfl)|(rw[Y1lz aW];done)|(rw[Y1w5 aW]<;>rfl)|(rw[Y1vy aW]<;>rfl)
  | (rw[Y1w6 aW aW,Y1v5 aW aW]<;>rfl)|(rw[Y18k aW];first|done|exact Eq.symm aW|rfl)|(rw[Y1w6 aW aW]<;>rfl)|(rw[Y1v5 aW aW]<;>rfl)
  | (rw[Y1vt aW aW,Y1v9 aW aW]<;>rfl)|(rw[Y1vt aW aW]<;>rfl)|(rw[Y1v9 aW aW]<;>rfl)
  | skip)
end
end Go.Proofs.YtcbodhkhppgkiaaGreat
end
