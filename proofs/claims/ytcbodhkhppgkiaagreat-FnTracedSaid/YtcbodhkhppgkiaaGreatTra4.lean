/- Part 4 of a proof. No condition. -/
import Derived.Test.YtcbodhkhppgkiaaGreatTra3
set_option maxHeartbeats 4000000
set_option linter.unusedVariables false
set_option linter.unusedSimpArgs false
section
namespace Go.Proofs.YtcbodhkhppgkiaaGreat
open Go Ab Proofs.Tryz
section
set_option linter.unusedSectionVars false
theorem Y12g (n:Nat):yE n=(Yub n).1:=funext λs=>funext λm=>Yos _
theorem Y1fb (n:Nat):yB n=(Yub n).2:=funext λs=>funext λm=>Yos _
theorem Y1xq (s:YS_) (m:YS):yE 0 s m=⟨yN,8,yCn m⟩:=Yos _
theorem Y13f (n:Nat) (s:YS_) (m:YS):yE (n+1) s m=yEx (yE n) (yB n) s m:=by rw[Y12g,Y12g,Y1fb];rfl
theorem Y1yf (L:List YS_) (m:YS):yB 0 L m=yBo (λ_ m=>⟨yN,8,yCn m⟩) (λ_ m=>⟨yN,8,m⟩) 0 L m:=Yos _
theorem Y137 (n:Nat) (L:List YS_) (m:YS):yB (n+1) L m=yBo (yE n) (yB n) (n+1) L m:=by rw[Y1fb,Y12g,Y1fb];rfl
section
variable {α β:Type}[Inhabited α] {f:α->YS->YR β}{L:List α}{m:YS}{k:Nat}
theorem Y11a {a:YR (List β)}(h:¬ a.e=0):∀ L:List α,L.foldl (Ypm f) a=a
 | []=>rfl
 | x :: r=>by
  have e:Ypm f a x=a:=ab h
  rw[bL,e];exact Y11a h r
theorem Y1bv (h:k<L.length):Yl9 f (L.take (k+1)) m=Ypm f (Yl9 f (L.take k) m) (L.g k):=Yse _ _ h
theorem Y1q0 (h:¬ (Yl9 f (L.take k) m).e=0):Yl9 f L m=Yl9 f (L.take k) m:=by
 have e:Yl9 f L m=(L.drop k).foldl (Ypm f) (Yl9 f (L.take k) m):=by
  show List.foldl _ _ L=_
  conv=>lhs;rw[<- be k L]
  rw[cO];rfl
 rw[e];exact Y11a h _
theorem Yzh (h:k<L.length) (h0:(Yl9 f (L.take k) m).e=0) (h1:(f (L.g k) (Yl9 f (L.take k) m).m).e=0) :
  Yl9 f (L.take (k+1)) m=⟨(Yl9 f (L.take k) m).v++[(f (L.g k) (Yl9 f (L.take k) m).m).v],0,(f (L.g k) (Yl9 f (L.take k) m).m).m⟩:=by
 rw[Y1bv h];unfold Ypm;rw[ae h0,ae h1]
theorem Y101 (h:k<L.length) (h0:(Yl9 f (L.take k) m).e=0) (h1:¬ (f (L.g k) (Yl9 f (L.take k) m).m).e=0) :
  Yl9 f L m=⟨[],(f (L.g k) (Yl9 f (L.take k) m).m).e,(f (L.g k) (Yl9 f (L.take k) m).m).m⟩:=by
 have e:Yl9 f (L.take (k+1)) m=⟨[],(f (L.g k) (Yl9 f (L.take k) m).m).e,(f (L.g k) (Yl9 f (L.take k) m).m).m⟩:=by
  rw[Y1bv h];unfold Ypm;rw[ae h0,ab h1]
 rw[Y1q0 (k:=k+1) (by rw[e];exact h1),e]
theorem Y11m:Yl9 f (L.take 0) m=⟨[],0,m⟩:=rfl
theorem Yzp (h:L.length<=k):Yl9 f (L.take k) m=Yl9 f L m:=by rw[ar h]
theorem Y1cq (x:List β):∀ (L:List α) (a:YR (List β)),a.e=0->L.foldl (Ypm f) ⟨x++a.v,0,a.m⟩=(if (L.foldl (Ypm f) a).e=0 then ⟨x++(L.foldl (Ypm f) a).v,0,(L.foldl (Ypm f) a).m⟩ else L.foldl (Ypm f) a)
 | [],a,h=>by rw[List.foldl_nil,List.foldl_nil,ae h]
 | s :: r,a,h=>by
  rw[bL,bL]
  by_cases c:(f s a.m).e=0
  ·have e1:Ypm f ⟨x++a.v,0,a.m⟩ s=⟨x++(a.v++[(f s a.m).v]),0,(f s a.m).m⟩:=by unfold Ypm;rw[ae rfl,ae c,aH]
   have e2:Ypm f a s=⟨a.v++[(f s a.m).v],0,(f s a.m).m⟩:=by unfold Ypm;rw[ae h,ae c]
   rw[e1,e2]
   exact Y1cq x r ⟨a.v++[(f s a.m).v],0,(f s a.m).m⟩ rfl
  ·have e1:Ypm f ⟨x++a.v,0,a.m⟩ s=⟨[],(f s a.m).e,(f s a.m).m⟩:=by unfold Ypm;rw[ae rfl,ab c]
   have e2:Ypm f a s=⟨[],(f s a.m).e,(f s a.m).m⟩:=by unfold Ypm;rw[ae h,ab c]
   rw[e1,e2,Y11a c,ab c]
theorem Yoi (x:α) (r:List α):Yl9 f (x :: r) m=if (f x m).e=0 then (if (Yl9 f r (f x m).m).e=0 then ⟨(f x m).v :: (Yl9 f r (f x m).m).v,0,(Yl9 f r (f x m).m).m⟩ else Yl9 f r (f x m).m) else ⟨[],(f x m).e,(f x m).m⟩:=by
 show List.foldl _ (Ypm f ⟨[],0,m⟩ x) r=_
 by_cases c:(f x m).e=0
 ·have e1:Ypm f ⟨[],0,m⟩ x=⟨[(f x m).v]++[],0,(f x m).m⟩:=by unfold Ypm;rw[ae rfl,ae c];rfl
  rw[e1,ae c]
  exact Y1cq [(f x m).v] r ⟨[],0,(f x m).m⟩ rfl
 ·have e1:Ypm f ⟨[],0,m⟩ x=⟨[],(f x m).e,(f x m).m⟩:=by unfold Ypm;rw[ae rfl,ab c]
  rw[e1,Y11a c,ab c]
theorem Y158 {I:YS->Prop}{Q:YS->List β->YS->Prop}(h0:∀ m,I m->Q m [] m):∀ (L:List α),(∀ x∈L,∀ m,I m->(f x m).e=0->I (f x m).m/\∀ K q,I q->Q (f x m).m K q->Q m ((f x m).v :: K) q)->∀ m,I m->(Yl9 f L m).e=0->I (Yl9 f L m).m/\Q m (Yl9 f L m).v (Yl9 f L m).m
 | [],_,m,hm,_=>⟨hm,h0 m hm⟩
 | x :: r,hx,m,hm,e=>by
  rw[Yoi]at e|-
  by_cases c:(f x m).e=0
  ·rw[ae c]at e|-
   by_cases d:(Yl9 f r (f x m).m).e=0
   ·rw[ae d]
    obtain⟨a1,a2⟩:=hx x aj m hm c
    obtain⟨b1,b2⟩:=Y158 h0 r (λy hy=>hx y (ai _ hy)) (f x m).m a1 d
    exact⟨b1,a2 _ _ b1 b2⟩
   ·rw[ab d]at e;exact absurd e d
  ·rw[ab c]at e;exact absurd e c
theorem Yp7:∀ (L:List α) (m:YS),(Yl9 f L m).e=0->(Yl9 f L m).v.length=L.length
 | [],_,_=>rfl
 | x :: r,m,e=>by
  rw[Yoi]at e|-
  by_cases c:(f x m).e=0
  ·rw[ae c]at e|-
   by_cases d:(Yl9 f r (f x m).m).e=0
   ·rw[ae d];simp only[aD,Yp7 r _ d]
   ·rw[ab d]at e;exact absurd e d
  ·rw[ab c]at e;exact absurd e c
end
def Y21r (M:Nat) (b:YB):Prop:=wB b<=199999/\(b.Ka=1->0<=b.Na/\b.Na<=11)/\(b.Ka=4->0<=b.Na/\b.Na<(M:Int))
structure okX (x:YE):Prop where
 Sb:0<=x.Sb/\x.Sb<=99999
 Va:0<=x.Va/\x.Va<=99999
 Sc:0<=x.Sc/\x.Sc<=200
 binds:(x.Ba.length:Int)<=1000/\∀ b∈x.Ba,Y21r x.Ma.length b
 macs:(x.Ma.length:Int)<=200/\∀ r∈x.Ma,Ymr r/\wR r<=900000000
def Ylt (m:YS):Prop:=okX m.x/\0<=m.z/\m.z<=3000
theorem Y1mq {x:YE}(h:okX x):x.Ba.length<=1000000001/\sumBy wB x.Ba<=1000000000:=by
 have h1:=h.binds
 have:∀ L:List YB,(∀ b∈L,Y21r x.Ma.length b)->sumBy wB L<=199999 * L.length:=by
  intro L
  induction L with
  | nil=>intro _;simp[sumBy]
  | cons x r ih=>
   intro hL
   have a:=(hL x aj).1
   have b:=ih λy hy=>hL y (ai _ hy)
   simp only[sumBy,aD];omega
 have:=this _ h1.2
 omega
theorem Y1ca {s k:Int}(h:0<=s/\s<=99999):0<=nxS s k/\nxS s k<=99999:=by
 have:=@Yqx s k
 unfold nxS;split<;>omega
theorem Y1wb {s k:Int}(h:cdN s k=0):nxR s k<=99999:=by
 unfold cdN at h;split at h
 ·assumption
 ·cases h
theorem Yq4 {s k:Int}(h0:0<=s) (h:cdN s k=0):1<=nxt s k/\nxt s k<=99999/\nxS s k=nxt s k/\s<nxt s k:=by
 have h1:=Y1wb h
 have h2:=@Ytw s k h0 h1
 have h3:=@Yqx s k
 omega
theorem Y1fw {x:YE}(h:okX x) {n k:Int}(hn:0<=n/\n<=99999) (hk:0<=k/\k<=200):okX ⟨x.Ba,x.Ma,n,x.Va,k⟩:=⟨hn,h.Va,hk,h.binds,h.macs⟩
theorem Y1is {x:YE}(h:okX x) {b:YB}{v:Int}{M:List YR_}(hb:wB b<=199999) (hk:¬ b.Ka=1) (h4:b.Ka=4->0<=b.Na/\b.Na<((x.Ma++M).length:Int)) (hl:(x.Ba.length:Int)<1000)
  (hv:0<=v/\v<=99999) (hM:∀ r∈M,Ymr r/\wR r<=900000000) (hm:((x.Ma++M).length:Int)<=200):okX ⟨x.Ba++[b],x.Ma++M,x.Sb,v,x.Sc⟩:=by
 refine⟨h.Sb,hv,h.Sc,⟨by rw[aw,bh];omega,λc hc => ?_⟩,hm,λr hr => ?_⟩
 ·rcases List.mem_append.1 hc with hc|hc
  ·obtain⟨a1,a2,a3⟩:=h.binds.2 c hc
   exact⟨a1,a2,λe=>by have:=a3 e;rw[aw];omega⟩
  ·rw[List.mem_singleton.1 hc];exact⟨hb,λe=>absurd e hk,h4⟩
 ·rcases List.mem_append.1 hr with hr|hr
  ·exact h.macs.2 r hr
  ·exact hM r hr
theorem Ynf {s x:YS_}(h:Yld s) (hx:x∈s.Ia):Yld x:=by
 simp only[Yld,af,ak]at h|-
 have a:=Ym7 s
 have b:=Yls Ylg hx
 have c:=Yqd s
 have d:=Ytj Ylw hx
 exact⟨⟨by omega,by omega⟩,Yop h.2 x hx⟩
theorem Ytk {s:YS_}(h:Yld s):s.Ia.length<=2000:=by
 have h1:=(Ymx h).2.1
 have h2:∀ L:List YS_,L.length<=sumBy Ylg L:=by
  intro L
  induction L with
  | nil=>exact aC _
  | cons x r ih=>
   have:=Ym7 x
   simp only[aD,sumBy];omega
 have:=h2 s.Ia
 have:=Ym7 s
 omega
theorem Y13e {s:YS_}{n:Int}(h:Yld s) (hn:1<=n/\n<=99999):Yld (Ylm (Ylu n) s):=Yw3 (Y16n hn) h
theorem Y1r5 (L:List Int) (h:Yns L):Yns (Ymb L):=(Ys8 _).2 (Yw2 _ L ((Ys8 L).1 h))
theorem Yyw {s:YS_}(h:Yld s):Yld (Ylm Ymb s):=Yw3 Y1r5 h
theorem Y1q3 {s:YS_}(h:Yld s) (k n:Int):wB ⟨s.Ta,s.Sa,k,n⟩<=199999:=by
 have h3:=Ymx h
 have h1:=Y19a (Yu0 h3.2.2)
 have h4:=h3.2.2
 rw[Ypo,af]at h4
 have h2:=h4.2
 simp only[Yq6,af]at h2
 have:=Y1bq h2.1.1
 show s.Ta.size+s.Sa.length<=_;omega
theorem Y1w0 {x:YE}{t:ByteArray}{s:List Int}(h:bdE x t s=0):Yni x.Ba t s=false/\(x.Ba.length:Int)<1000:=by
 unfold bdE at h;split at h
 ·cases h
 ·split at h
  ·cases h
  ·rename_i a b
   exact⟨by simpa using a,by omega⟩
theorem Y1vz {x:YE}{id:YS_}(h:bvE x id=0):x.Va<99999/\Yni x.Ba id.Ta id.Sa=false/\(x.Ba.length:Int)<1000:=by
 unfold bvE at h;split at h
 ·cases h
 ·exact⟨by omega,Y1w0 h⟩
theorem Y1v0 {x:YE}{id:YS_}(h:bmE x id=0):(x.Ma.length:Int)<200/\Yni x.Ba id.Ta id.Sa=false/\(x.Ba.length:Int)<1000:=by
 unfold bmE at h;split at h
 ·cases h
 ·exact⟨by omega,Y1w0 h⟩
theorem Y1nf (id:YS_) (m:YS):(yVr id m).e=bvE m.x id:=by unfold yVr;split<;>simp_all
theorem Yw6 {id:YS_}{m:YS}(h:(yVr id m).e=0):yVr id m=⟨m.Va+1,0,⟨m.Ba++[⟨id.Ta,id.Sa,3,m.Va+1⟩],m.Ma,m.Sb,m.Va+1,m.Sc,m.z⟩⟩:=ae ((Y1nf id m).symm.trans h)
theorem Y1nn (id:YS_) (r:YR_) (m:YS):(yMc id r m).e=bmE m.x id:=by unfold yMc;split<;>simp_all
theorem Yyd {id:YS_}{r:YR_}{m:YS}(h:(yMc id r m).e=0):yMc id r m=⟨0,0,⟨m.Ba++[⟨id.Ta,id.Sa,4,(m.Ma.length:Int)⟩],m.Ma++[r],m.Sb,m.Va,m.Sc,m.z⟩⟩:=ae ((Y1nn id r m).symm.trans h)
theorem Ys5 {m:YS}(k:Int) (h:okX m.x):okX (ySc k m).x:=Y1fw h (Y1ca h.Sb) h.Sc
theorem Y1dx {m:YS}{id:YS_}(h:okX m.x) (hi:Yld id) (e:(yVr id m).e=0):okX (yVr id m).m.x:=by
 have g:=Y1vz ((Y1nf id m).symm.trans e)
 rw[Yw6 e]
 have:=Y1is (M:=[]) (v:=m.Va+1) h (Y1q3 hi 3 (m.Va+1)) (λe=>absurd (show (3:Int)=1 from e) dW) (λe=>absurd (show (3:Int)=4 from e) dW) g.2.2 (by have:=h.Va;have:=g.1;simp only at *;omega) (λr hr=>by cases hr) (by rw[bv];exact h.macs.1)
 rw[bv]at this
 exact this
theorem Y1nx {m:YS}{id:YS_}{r:YR_}(h:okX m.x) (hi:Yld id) (hr:Ymr r/\wR r<=900000000) (e:(yMc id r m).e=0):okX (yMc id r m).m.x:=by
 have g:=Y1v0 ((Y1nn id r m).symm.trans e)
 rw[Yyd e]
 have hl:((m.Ma++[r]).length:Int)=m.Ma.length+1:=by simp
 have h1:(m.Ma.length:Int)<200:=g.1
 exact Y1is (M:=[r]) h (Y1q3 hi 4 _) (λe=>absurd (show (4:Int)=1 from e) dW) (λ_=>by show 0<=(m.Ma.length:Int)/\(m.Ma.length:Int)<((m.Ma++[r]).length:Int);omega) g.2.2 h.Va
  (λq hq=>by rw[List.mem_singleton.1 hq];exact hr) (by show ((m.Ma++[r]).length:Int)<=200;omega)
theorem Yx5 {m:YS}{n:Int}{s:YS_}(h:okX m.x):okX (ySt n s m).m.x:=by
 refine Y1fw h ?_ ?_
 ·show 0<=(if m.Sc=0 then m.Sb else if nxR m.Sb 3<=99999 then nxS (scA m.x) 2 else m.Sb)/\(if m.Sc=0 then m.Sb else if nxR m.Sb 3<=99999 then nxS (scA m.x) 2 else m.Sb)<=99999
  split
  ·exact h.Sb
  ·split
   ·exact Y1ca (Y1ca h.Sb)
   ·exact h.Sb
 ·have:=h.Sc
  show 0<=(if m.Sc=0 then 0 else m.Sc - 1)/\(if m.Sc=0 then 0 else m.Sc - 1)<=200
  split<;>simp only at *<;>omega
theorem Yz1 {m:YS}(h:Ylt m) (hz:m.z+1<=3000):Ylt (yCn m):=⟨h.1,by show 0<=m.z+1;have:=h.2;omega,hz⟩
theorem Y1ix {P:List YS_}{m:YS}(h:okX m.x) (hP:∀ x∈P,Yld x) (e:(Yl9 yVr P m).e=0) :
  okX (Yl9 yVr P m).m.x/\(Yl9 yVr P m).m.Ma=m.Ma/\(Yl9 yVr P m).m.Sb=m.Sb/\(Yl9 yVr P m).m.Sc=m.Sc/\(Yl9 yVr P m).m.z=m.z:=by
 have:=Y158 (f:=yVr) (I:=λq=>okX q.x/\q.Ma=m.Ma/\q.Sb=m.Sb/\q.Sc=m.Sc/\q.z=m.z) (Q:=λ_ _ _=>True) (λ_ _=>trivial) P (λx hx q hq c=>by
  have a:=Y1dx hq.1 (hP x hx) c
  refine⟨⟨a,?_⟩,λ_ _ _ _=>trivial⟩
  rw[Yw6 c];exact hq.2) m ⟨h,rfl,rfl,rfl,rfl⟩ e
 exact this.1
theorem Y198 {n:Int}{L:List YS_}{m:YS}(h:okX m.x) (hL:∀ x∈L,Yld (Ylm (Ylu n) (x.Ia.g 0))/\Ymr (Ym2 (x.Ia.g 1))/\wR (Ym2 (x.Ia.g 1))<=900000000) (e:(Yl9 (yM1 n) L m).e=0) :
  okX (Yl9 (yM1 n) L m).m.x/\(Yl9 (yM1 n) L m).m.Va=m.Va/\(Yl9 (yM1 n) L m).m.Sb=m.Sb/\(Yl9 (yM1 n) L m).m.Sc=m.Sc/\(Yl9 (yM1 n) L m).m.z=m.z:=by
 have:=Y158 (f:=yM1 n) (I:=λq=>okX q.x/\q.Va=m.Va/\q.Sb=m.Sb/\q.Sc=m.Sc/\q.z=m.z) (Q:=λ_ _ _=>True) (λ_ _=>trivial) L (λx hx q hq c=>by
  have a:=Y1nx hq.1 (hL x hx).1 (hL x hx).2 c
  refine⟨⟨a,?_⟩,λ_ _ _ _=>trivial⟩
  rw[yM1,Yyd c];exact hq.2) m ⟨h,rfl,rfl,rfl,rfl⟩ e
 exact this.1
theorem Yuo {x:YE}{n:Int}{s:YS_}(h0:0<=x.Sb/\x.Sb<=99999) (h:Yn3 x n s=0):Yld (Yo7 x n s):=by
 have e:Yo7 x n s=Ylm (Yne (scI x)) (apY x.Ba (ruS x n) (Yrr x s)):=ae h
 rw[e]
 unfold Yn3 at h
 split at h
 ·cases h
 ·split at h
  ·rename_i h2
   split at h
   ·rename_i h3
    have:=@Ytw (scA x) 2 (Y1ca h0).1 h2.2
    exact Yw3 (Y1x4 ⟨this.1,this.2.1⟩) (Y1c5 h3)
   ·cases h
  ·cases h
theorem Y1o1 {x:YE}{s:YS_}(hx:okX x) (h:0<=hdM x s):hdM x s<x.Ma.length/\Ymr (ruS x (hdM x s))/\wR (ruS x (hdM x s))<=900000000:=by
 unfold hdM at h|-
 by_cases c:hdF x s/\(hdR x s).Ka=4
 ·rw[ae c]
  have h1:=(hx.binds.2 _ (Y1kj c.1)).2.2 c.2
  exact⟨h1.2,hx.macs.2 _ (Yl6 oW)⟩
 ·rw[ab c]at h;omega
theorem Y171 {L:List YB}{t:ByteArray}{s:List Int}(h:rsC L t s=1):rsB L t s∈cnd L t s/\rsB L t s∈L/\Ys0 t s (rsB L t s):=by
 have e:rsB L t s=Yo6 (cnd L t s):=ae h
 have hne:cnd L t s≠[]:=by
  intro he
  unfold rsC at h;rw[ae he]at h;cases h
 have:=Y10p hne
 rw[e]
 exact⟨this,(List.mem_filter.1 this).1,(List.mem_filter.1 this).2⟩
theorem Y1ze {x:YE}{s:YS_}(hx:okX x) (h:0<=frm x.Ba s):frm x.Ba s<=11:=by
 unfold frm at h|-
 by_cases c:s.Ka=1/\rsC x.Ba s.Ta s.Sa=1/\(rsB x.Ba s.Ta s.Sa).Ka=1
 ·rw[ae c];exact((hx.binds.2 _ (Y171 c.2.1).2.1).2.1 c.2.2).2
 ·rw[ab c]at h;omega
theorem Y1ou {x:YE}{s:YS_}(hx:okX x) (h:0<=hdN x s):hdN x s<=11:=by
 unfold hdN at h|-
 split at h
 ·rename_i c;rw[ae c];exact Y1ze hx h
 ·omega
theorem Y1nd {L:List YB}{t:ByteArray}{s:List Int}(h:yRe L t s=0):rsC L t s=1:=by
 unfold yRe at h
 have h3:rsC L t s=0\/rsC L t s=1\/rsC L t s=2:=by
  unfold rsC;split
  ·exact .inl rfl
  ·split
   ·exact .inr (.inl rfl)
   ·exact .inr (.inr rfl)
 rcases h3 with e|e|e<;>rw[e]at h
 ·cases h
 ·exact e
 ·cases h
theorem Y180 {P B:List YS_}{most:Int}{m:YS}(h:(yPr P most B m).e=0):Yr0 P/\(P.length:Int)<=most/\cdN m.Sb 1=0/\(Yl9 yVr (yAd (nxt m.Sb 1) P) (ySc 1 m)).e=0 /\
  yPr P most B m=⟨((Yl9 yVr (yAd (nxt m.Sb 1) P) (ySc 1 m)).v,yAd (nxt m.Sb 1) B),0,(Yl9 yVr (yAd (nxt m.Sb 1) P) (ySc 1 m)).m⟩:=by
 unfold yPr at h|-
 by_cases a:Yr0 P=false
 ·rw[ae a]at h;cases h
 rw[ab a]at h|-
 by_cases b:most<(P.length:Int)
 ·rw[ae b]at h;cases h
 rw[ab b]at h|-
 by_cases c:cdN m.Sb 1=0
 ·rw[ae c]at h|-
  by_cases d:(Yl9 yVr (yAd (nxt m.Sb 1) P) (ySc 1 m)).e=0
  ·rw[ae d];exact⟨by simpa using a,by omega,c,d,rfl⟩
  ·rw[ab d]at h;exact absurd h d
 ·rw[ab c]at h;exact absurd h c
def inD (s x:YS_):Prop:=x∈s.Ia\/∃ y∈s.Ia,x∈y.Ia
mutual
inductive EvY:YS_->YS->Yc->YS->Prop
 | mk {s:YS_} {m q:YS} {c:Yc} (z:m.z+1<=3000) (r:EfY s (yCn m) c q):EvY s m c q
inductive EfY:YS_->YS->Yc->YS->Prop
 | va {s:YS_} {m:YS} (k:s.Ka=1) (r:rsC m.Ba s.Ta s.Sa=1) (b:(rsB m.Ba s.Ta s.Sa).Ka=3):EfY s m (yK 2 (rsB m.Ba s.Ta s.Sa).Na [] []) m
 | pm {s:YS_} {m:YS} (k:s.Ka=1) (r:rsC m.Ba s.Ta s.Sa=1) (b:(rsB m.Ba s.Ta s.Sa).Ka=2):EfY s m (yK 3 (rsB m.Ba s.Ta s.Sa).Na [] []) m
 | qa {s:YS_} {m:YS} (k:s.Ka=2\/s.Ka=3\/s.Ka=4):EfY s m ⟨1,0,[],yDt s,[]⟩ m
 | qu {s:YS_} {m:YS} {d:Yd} (h:Ynp d):EfY s m ⟨1,0,[],d,[]⟩ m
 | st {s:YS_} {m q:YS} {c:Yc} (h:0<=hdM m.x s) (e:Yn3 m.x (hdM m.x s) s=0) (r:EvY (Yo7 m.x (hdM m.x s) s) (ySt (hdM m.x s) s m).m c q):EfY s m c q
 | ls {s:YS_} {m q:YS} {k:Int} {L:List YS_} {K:List Yc} (hL:∀ x∈L,x∈s.Ia) (r:KdY L m K q) (g:k=6/\1<=K.length/\K.length<=9\/k=7/\K.length=3):EfY s m (yK k 0 [] K) q
 | sq {s:YS_} {m q:YS} {L:List YS_} {K:List Yc} (hL:∀ x∈L,x∈s.Ia) (r:KdY L m K q) (e:sqE K=0) (n:1<=K.length):EfY s m (sqV K) q
 | pc {s:YS_} {m q:YS} {k:Int} {P B:List YS_} {c:Yc} (hP:∀ x∈P,inD s x) (hB:∀ x∈B,x∈s.Ia) (g:k=5\/k=11/\P.length=1) (r:PcY k P B m c q):EfY s m c q
 | lo {s:YS_} {m q:YS} {P B:List YS_} {K:List Yc} (hP:∀ x∈P,inD s x) (hB:∀ x∈B,x∈s.Ia) (n:1<=P.length) (e:(yPr P 60 B m).e=0) (r:KdY (yPr P 60 B m).v.2 (yPr P 60 B m).m K q) (g:1<=K.length/\K.length<=60):EfY s m (yK 9 0 (yPr P 60 B m).v.1 K) q
 | sg {s t x:YS_} {m q:YS} {c:Yc} (ht:t∈s.Ia) (k:t.Ka=1) (r:rsC m.Ba t.Ta t.Sa=1) (b:(rsB m.Ba t.Ta t.Sa).Ka=3) (hx:x∈s.Ia) (v:EvY x m c q):EfY s m (yK 4 (rsB m.Ba t.Ta t.Sa).Na [] [c]) q
 | re {s:YS_} {m q:YS} {L:List YS_} {c:Yc} (hL:∀ x∈L,x∈s.Ia) (r:BdY L m c q):EfY s m (yK 10 0 [] [c]) q
 | lx {s:YS_} {m q:YS} {L B:List YS_} {c:Yc} (hL:∀ x∈L,inD s x) (hB:∀ x∈B,x∈s.Ia) (n:cdN m.Sb 1=0) (a:L.all (yLo m.Ba)) (e:(Yl9 (yM1 (nxt m.Sb 1)) L (ySc 1 m)).e=0)
   (r:BdY (yAd (nxt m.Sb 1) B) (Yl9 (yM1 (nxt m.Sb 1)) L (ySc 1 m)).m c q):EfY s m c q
inductive KdY:List YS_->YS->List Yc->YS->Prop
 | nil {m:YS}:KdY [] m [] m
 | cons {x:YS_} {r:List YS_} {m p q:YS} {c:Yc} {K:List Yc} (h:EvY x m c p) (t:KdY r p K q):KdY (x :: r) m (c :: K) q
inductive PcY:Int->List YS_->List YS_->YS->Yc->YS->Prop
 | mk {k:Int} {P B:List YS_} {m q:YS} {c:Yc} (e:(yPr P 8 B m).e=0) (r:BdY (yPr P 8 B m).v.2 (yPr P 8 B m).m c q):PcY k P B m (yK k 0 (yPr P 8 B m).v.1 [c]) q
inductive PtY:YP->YS->Yc->YS->Prop
 | pc {p:YP} {m q:YS} {c:Yc} (h:p.p) (r:PcY 5 p.P p.B m c q):PtY p m c q
 | ex {p:YP} {m q:YS} {c:Yc} (h:p.p=false) (r:EvY p.s m c q):PtY p m c q
inductive PsY:List YP->YS->List Yc->YS->Prop
 | nil {m:YS}:PsY [] m [] m
 | de {p:YP} {r:List YP} {m u q:YS} {c:Yc} {K:List Yc} (d:p.d) (h:PtY p m c u) (t:PsY r u K q):PsY (p :: r) m (yK 4 p.n [] [c] :: K) q
 | ex {p:YP} {r:List YP} {m u q:YS} {c:Yc} {K:List Yc} (d:p.d=false) (h:PtY p m c u) (t:PsY r u K q):PsY (p :: r) m (c :: K) q
inductive BdY:List YS_->YS->Yc->YS->Prop
 | sq {L:List YS_} {m q:YS} {K:List Yc} {n:Nat} (h:cdN m.Sb 1=0) (l:(yLk n (yAd (nxt m.Sb 1) L) [] (ySc 1 m)).e=0) (r:PsY (yLk n (yAd (nxt m.Sb 1) L) [] (ySc 1 m)).v (yLk n (yAd (nxt m.Sb 1) L) [] (ySc 1 m)).m K q) (g:1<=K.length)
   (v:yDv (yLk n (yAd (nxt m.Sb 1) L) [] (ySc 1 m)).v=[]) (e:sqE K=0):BdY L m (sqV K) q
 | lo {L:List YS_} {m q:YS} {K:List Yc} {n:Nat} (h:cdN m.Sb 1=0) (l:(yLk n (yAd (nxt m.Sb 1) L) [] (ySc 1 m)).e=0) (r:PsY (yLk n (yAd (nxt m.Sb 1) L) [] (ySc 1 m)).v (yLk n (yAd (nxt m.Sb 1) L) [] (ySc 1 m)).m K q) (g:1<=K.length/\K.length<=60)
   (v:1<=(yDv (yLk n (yAd (nxt m.Sb 1) L) [] (ySc 1 m)).v).length/\(yDv (yLk n (yAd (nxt m.Sb 1) L) [] (ySc 1 m)).v).length<=60):BdY L m (yK 9 0 (yDv (yLk n (yAd (nxt m.Sb 1) L) [] (ySc 1 m)).v) K) q
end
theorem Y1co {α:Type}{g:α->Yc}{r:YR α}(h:(yTo g r).e=0):r.e=0/\yTo g r=⟨g r.v,0,r.m⟩:=by
 unfold yTo at h|-;split at h
 ·rename_i e;exact⟨e,ae e⟩
 ·rename_i e;exact absurd h e
structure isE (f:YS_->YS->YR Yc) (b:List YS_->YS->YR Yc):Prop where
 f:∀ s m,(f s m).e=0->EvY s m (f s m).v (f s m).m
 b:∀ L m,(b L m).e=0->BdY L m (b L m).v (b L m).m
theorem Y118 {f:YS_->YS->YR Yc}{b:List YS_->YS->YR Yc}(h:isE f b):∀ (L:List YS_) (m:YS),(Yl9 f L m).e=0->KdY L m (Yl9 f L m).v (Yl9 f L m).m
 | [],_,_=>.nil
 | x :: r,m,e=>by
  rw[Yoi]at e|-
  by_cases c:(f x m).e=0
  ·rw[ae c]at e|-
   by_cases d:(Yl9 f r (f x m).m).e=0
   ·rw[ae d];exact .cons (h.f x m c) (Y118 h r _ d)
   ·rw[ab d]at e;exact absurd e d
  ·rw[ab c]at e;exact absurd e c
theorem Y1mi {f:YS_->YS->YR Yc}{b:List YS_->YS->YR Yc}(h:isE f b) {k:Int}{P B:List YS_}{m:YS}(e:(yPc b k P B m).e=0):PcY k P B m (yPc b k P B m).v (yPc b k P B m).m:=by
 unfold yPc at e|-
 by_cases c:(yPr P 8 B m).e=0
 ·rw[ae c]at e|-
  by_cases d:(b (yPr P 8 B m).v.2 (yPr P 8 B m).m).e=0
  ·rw[ae d];exact .mk c (h.b _ _ d)
  ·rw[ab d]at e;exact absurd e d
 ·rw[ab c]at e;exact absurd e c
theorem Y17p {f:YS_->YS->YR Yc}{b:List YS_->YS->YR Yc}(h:isE f b):∀ (L:List YP) (m:YS),(Yl9 (yPt f b) L m).e=0->PsY L m (Yl9 (yPt f b) L m).v (Yl9 (yPt f b) L m).m
 | [],_,_=>.nil
 | p :: r,m,e=>by
  rw[Yoi]at e|-
  by_cases c:(yPt f b p m).e=0
  ·rw[ae c]at e|-
   by_cases d:(Yl9 (yPt f b) r (yPt f b p m).m).e=0
   ·rw[ae d]
    have t:=Y17p h r _ d
    have g:∀ u:YR Yc,u=(if p.p then yPc b 5 p.P p.B m else f p.s m)->u.e=0->PtY p m u.v u.m:=by
     intro u hu e
     by_cases i:p.p
     ·rw[ae i]at hu;rw[hu]at e|-;exact .pc i (Y1mi h e)
     ·rw[ab i]at hu;rw[hu]at e|-;exact .ex (by simpa using i) (h.f _ _ e)
    by_cases j:p.d
    ·have e2:yPt f b p m=yTo (λc=>yK 4 p.n [] [c]) (if p.p then yPc b 5 p.P p.B m else f p.s m):=ae j
     rw[e2]at c
     obtain⟨c1,c2⟩:=Y1co c
     rw[e2,c2]at t|-
     exact .de j (g _ rfl c1) t
    ·have e2:yPt f b p m=(if p.p then yPc b 5 p.P p.B m else f p.s m):=ab j
     rw[e2]at c t|-
     exact .ex (by simpa using j) (g _ rfl c) t
   ·rw[ab d]at e;exact absurd e d
  ·rw[ab c]at e;exact absurd e c
theorem Ysb {s x:YS_}{n:Nat}(h:x∈s.Ia.drop n):x∈s.Ia:=aG h
theorem Y130 {s:YS_}{k:Nat}(h:k<s.Ia.length):s.Ia.g k∈s.Ia:=Yl6 h
theorem Y106 (s:YS_) (n:Nat):(s.Ia.drop n).length=s.Ia.length - n:=ax
theorem Y24i {f:YS_->YS->YR Yc}{b:List YS_->YS->YR Yc}(h:isE f b) {k:Int}{s:YS_}{m:YS}(e:(yFm f b k s m).e=0):EfY s m (yFm f b k s m).v (yFm f b k s m).m:=by
 have no:∀ {z:Int} {q:YS} {P:Prop},¬ z=0->(⟨yN,z,q⟩:YR Yc).e=0->P:=λa b=>absurd b a
 unfold yFm at e|-
 by_cases k0:k=0
 ·rw[ae k0]at e|-
  by_cases c:(s.Ia.length:Int)=2
  ·rw[ae c]at e|-
   by_cases d:Ynp (yDt (s.Ia.g 1))
   ·rw[ae d];exact .qu d
   ·rw[ab d]at e;cases e
  ·rw[ab c]at e;cases e
 rw[ab k0]at e|-
 by_cases k2:k=2
 ·rw[ae k2]at e|-
  by_cases c:(s.Ia.length:Int)=4
  ·rw[ae c]at e|-
   obtain⟨d,d2⟩:=Y1co e
   rw[d2]
   exact .ls (λx hx=>Ysb hx) (Y118 h _ _ d) (.inr ⟨rfl,by rw[Yp7 _ _ d,Y106];omega⟩)
  ·rw[ab c]at e;cases e
 rw[ab k2]at e|-
 by_cases k4:k=4
 ·rw[ae k4]at e|-
  by_cases c:(s.Ia.length:Int)<2
  ·rw[ae c]at e;cases e
  ·rw[ab c]at e|-
   by_cases d:(Yl9 f (s.Ia.drop 1) m).e=0
   ·rw[ae d]at e|-
    exact .sq (λx hx=>Ysb hx) (Y118 h _ _ d) e (by rw[Yp7 _ _ d,Y106];omega)
   ·rw[ab d]at e;exact absurd e d
 rw[ab k4]at e|-
 by_cases k1:k=1
 ·rw[ae k1]at e|-
  by_cases c:(s.Ia.length:Int)<3\/¬ (s.Ia.g 1).Ka=0
  ·rw[ae c]at e;cases e
  ·rw[ab c]at e|-
   have c2:1<s.Ia.length:=by have:¬ (s.Ia.length:Int)<3:=λa=>c (.inl a);omega
   exact .pc (λx hx=>.inr ⟨_,Y130 c2,hx⟩) (λx hx=>Ysb hx) (.inl rfl) (Y1mi h e)
 rw[ab k1]at e|-
 by_cases k6:k=6
 ·rw[ae k6]at e|-
  by_cases c:(s.Ia.length:Int)<3
  ·rw[ae c]at e;cases e
  ·rw[ab c]at e|-
   exact .pc (λx hx=>.inl (Ysb (bt hx))) (λx hx=>Ysb hx) (.inr ⟨rfl,by rw[au,Y106];omega⟩) (Y1mi h e)
 rw[ab k6]at e|-
 by_cases k11:k=11
 ·rw[ae k11]at e|-
  by_cases c:(s.Ia.length:Int)<3\/¬ (s.Ia.g 1).Ka=0\/(s.Ia.g 1).Ia.length=0
  ·rw[ae c]at e;cases e
  ·rw[ab c]at e|-
   have c1:¬ (s.Ia.length:Int)<3:=λa=>c (.inl a)
   have c2:¬ (s.Ia.g 1).Ia.length=0:=λa=>c (.inr (.inr a))
   by_cases d:(yPr (s.Ia.g 1).Ia 60 (s.Ia.drop 2) m).e=0
   ·rw[ae d]at e|-
    by_cases g:(Yl9 f (yPr (s.Ia.g 1).Ia 60 (s.Ia.drop 2) m).v.2 (yPr (s.Ia.g 1).Ia 60 (s.Ia.drop 2) m).m).e=0
    ·rw[ae g]at e|-
     by_cases i:60<((Yl9 f (yPr (s.Ia.g 1).Ia 60 (s.Ia.drop 2) m).v.2 (yPr (s.Ia.g 1).Ia 60 (s.Ia.drop 2) m).m).v.length:Int)
     ·rw[ae i]at e;cases e
     ·rw[ab i]
      refine .lo (λx hx=>.inr ⟨_,Y130 oW,hx⟩) (λx hx=>Ysb hx) oW d (Y118 h _ _ g) ⟨?_,by omega⟩
      rw[Yp7 _ _ g,(Y180 d).2.2.2.2]
      show 1<=(yAd _ _).length
      unfold yAd;rw[aO,Y106];omega
    ·rw[ab g]at e;exact absurd e g
   ·rw[ab d]at e;exact absurd e d
 rw[ab k11]at e|-
 by_cases k3:k=3
 ·rw[ae k3]at e|-
  by_cases c:¬ (s.Ia.length:Int)=3\/¬ (s.Ia.g 1).Ka=1
  ·rw[ae c]at e;cases e
  ·rw[ab c]at e|-
   have c1:(s.Ia.length:Int)=3:=Classical.not_not.1 λa=>c (.inl a)
   by_cases d:yRe m.Ba (s.Ia.g 1).Ta (s.Ia.g 1).Sa=0
   ·rw[ae d]at e|-
    by_cases g:(rsB m.Ba (s.Ia.g 1).Ta (s.Ia.g 1).Sa).Ka=3
    ·rw[ae g]at e|-
     obtain⟨i,i2⟩:=Y1co e
     rw[i2]
     exact .sg (Y130 oW) (Classical.not_not.1 λa=>c (.inr a)) (Y1nd d) g (Y130 oW) (h.f _ _ i)
    ·rw[ab g]at e;cases e
   ·rw[ab d]at e;exact absurd e d
 rw[ab k3]at e|-
 by_cases k5:k=5
 ·rw[ae k5]at e|-
  by_cases c:(s.Ia.length:Int)<2
  ·rw[ae c]at e;cases e
  ·rw[ab c]at e|-
   obtain⟨d,d2⟩:=Y1co e
   rw[d2]
   exact .re (λx hx=>Ysb hx) (h.b _ _ d)
 rw[ab k5]at e|-
 by_cases k9:k=9
 ·rw[ae k9]at e|-
  by_cases c:(s.Ia.length:Int)<3\/¬ (s.Ia.g 1).Ka=0
  ·rw[ae c]at e;cases e
  ·rw[ab c]at e|-
   have c1:¬ (s.Ia.length:Int)<3:=λa=>c (.inl a)
   unfold yLs at e|-
   by_cases d:cdN m.Sb 1=0
   ·rw[ae d]at e|-
    by_cases g:(s.Ia.g 1).Ia.all (yLo m.Ba)
    ·rw[ae g]at e|-
     by_cases i:(Yl9 (yM1 (nxt m.Sb 1)) (s.Ia.g 1).Ia (ySc 1 m)).e=0
     ·rw[ae i]at e|-
      exact .lx (λx hx=>.inr ⟨_,Y130 oW,hx⟩) (λx hx=>Ysb hx) d g i (h.b _ _ e)
     ·rw[ab i]at e;exact absurd e i
    ·rw[ab g]at e;cases e
   ·rw[ab d]at e;exact absurd e d
 rw[ab k9]at e|-
 by_cases k7:k=7\/k=8
 ·rw[ae k7]at e;cases e
 ·rw[ab k7]at e;cases e
theorem Y24w {f:YS_->YS->YR Yc}{b:List YS_->YS->YR Yc}(h:isE f b) {s:YS_}{m:YS}(e:(yEx f b s m).e=0):EvY s m (yEx f b s m).v (yEx f b s m).m:=by
 unfold yEx at e|-
 by_cases z:3000<m.z+1
 ·rw[ae z]at e;cases e
 rw[ab z]at e|-
 refine .mk oW ?_
 by_cases k1:s.Ka=1
 ·rw[ae k1]at e|-
  by_cases c:yRe m.Ba s.Ta s.Sa=0
  ·rw[ae c]at e|-
   by_cases d:(rsB m.Ba s.Ta s.Sa).Ka=3
   ·rw[ae d];exact .va (m:=yCn m) k1 (Y1nd c) d
   ·rw[ab d]at e|-
    by_cases g:(rsB m.Ba s.Ta s.Sa).Ka=2
    ·rw[ae g];exact .pm (m:=yCn m) k1 (Y1nd c) g
    ·rw[ab g]at e;cases e
  ·rw[ab c]at e;exact absurd e c
 rw[ab k1]at e|-
 by_cases k2:s.Ka=2\/s.Ka=3\/s.Ka=4
 ·rw[ae k2];exact .qa k2
 rw[ab k2]at e|-
 by_cases c:s.Ia.length=0
 ·rw[ae c]at e;cases e
 rw[ab c]at e|-
 by_cases d:0<=hdM m.x s
 ·rw[ae d]at e|-
  by_cases g:(ySt (hdM m.x s) s (yCn m)).e=0
  ·rw[ae g]at e|-;exact .st (m:=yCn m) d g (h.f _ _ e)
  ·rw[ab g]at e;exact absurd e g
 rw[ab d]at e|-
 by_cases g:0<=hdN m.x s
 ·rw[ae g]at e|-;exact Y24i h e
 rw[ab g]at e|-
 by_cases i:(Yl9 f s.Ia (yCn m)).e=0
 ·rw[ae i]at e|-
  by_cases j:9<((Yl9 f s.Ia (yCn m)).v.length:Int)
  ·rw[ae j]at e;cases e
  ·rw[ab j]
   exact .ls (λx hx=>hx) (Y118 h _ _ i) (.inl ⟨rfl,by rw[Yp7 _ _ i];omega,by omega⟩)
 ·rw[ab i]at e;exact absurd e i
theorem Y23a {f:YS_->YS->YR Yc}{b:List YS_->YS->YR Yc}(h:isE f b) {n:Nat}{L:List YS_}{m:YS}(e:(yBo f b n L m).e=0):BdY L m (yBo f b n L m).v (yBo f b n L m).m:=by
 unfold yBo at e|-
 by_cases c:cdN m.Sb 1=0
 ·rw[ae c]at e|-
  unfold yB1 at e|-
  by_cases d:(yLk n (yAd (nxt m.Sb 1) L) [] (ySc 1 m)).e=0
  ·rw[ae d]at e|-
   by_cases g:(yLk n (yAd (nxt m.Sb 1) L) [] (ySc 1 m)).v.length=0\/((yLk n (yAd (nxt m.Sb 1) L) [] (ySc 1 m)).v.g ((yLk n (yAd (nxt m.Sb 1) L) [] (ySc 1 m)).v.length - 1)).d
   ·rw[ae g]at e;cases e
   ·rw[ab g]at e|-
    have g1:¬ (yLk n (yAd (nxt m.Sb 1) L) [] (ySc 1 m)).v.length=0:=λa=>g (.inl a)
    unfold yEn at e|-
    by_cases i:(Yl9 (yPt f b) (yLk n (yAd (nxt m.Sb 1) L) [] (ySc 1 m)).v (yLk n (yAd (nxt m.Sb 1) L) [] (ySc 1 m)).m).e=0
    ·have t:=Y17p h _ _ i
     have tl:=Yp7 _ _ i
     rw[ae i]at e|-
     by_cases j:(yDv (yLk n (yAd (nxt m.Sb 1) L) [] (ySc 1 m)).v).length=0
     ·rw[ae j]at e|-
      exact .sq c d t oW (List.length_eq_zero_iff.1 j) e
     ·rw[ab j]at e|-
      split at e
      ·cases e
      ·rename_i l
       rw[ab l]
       exact .lo c d t ⟨by omega,by omega⟩ ⟨by omega,by omega⟩
    ·rw[ab i]at e;exact absurd e i
  ·rw[ab d]at e;exact absurd e d
 ·rw[ab c]at e;exact absurd e c
theorem Y147:∀ n,isE (yE n) (yB n)
 | 0=>⟨λs m e=>absurd (show (8:Int)=0 by rw[Y1xq]at e;exact e) dW,λL m e=>by
   rw[Y1yf]at e|-
   unfold yBo at e|-
   by_cases c:cdN m.Sb 1=0
   ·rw[ae c]at e
    cases hq:yAd (nxt m.Sb 1) L with
    | nil=>rw[hq]at e;simp[yLk,yB1]at e
    | cons x r=>rw[hq]at e;simp[yLk,yB1]at e
   ·rw[ab c]at e;exact absurd e c⟩
 | n+1=>⟨λs m e=>by
   rw[Y13f]at e|-
   exact Y24w (Y147 n) e,λL m e=>by
   rw[Y137]at e|-
   exact Y23a (Y147 n) e⟩
theorem Ys2 {n:Int}(hn:1<=n/\n<=99999) {L:List YS_}(h:∀ x∈L,Yld x):∀ x∈yAd n L,Yld x:=by
 intro x hx
 obtain⟨y,hy,rfl⟩:=List.mem_map.1 hx
 exact Y13e (h y hy) hn
theorem Y1a7 {s x:YS_}(h:Yld s) (hx:inD s x):Yld x:=by
 rcases hx with hx|⟨y,hy,hx⟩
 ·exact Ynf h hx
 ·exact Ynf (Ynf h hy) hx
theorem Yoh {s:YS_}{k:Nat}(h:Yld s) (hk:k<s.Ia.length):Yld (s.Ia.g k):=Ynf h (Yl6 hk)
theorem Ywj {P B:List YS_}{most:Int}{m:YS}(h:okX m.x) (hP:∀ x∈P,Yld x) (hB:∀ x∈B,Yld x) (e:(yPr P most B m).e=0) :
  okX (yPr P most B m).m.x/\(yPr P most B m).m.z=m.z/\(∀ x∈(yPr P most B m).v.2,Yld x)/\(yPr P most B m).v.2.length=B.length/\(yPr P most B m).v.1.length=P.length:=by
 obtain⟨a1,a2,a3,a4,a5⟩:=Y180 e
 have hn:=@Yq4 m.Sb 1 h.Sb.1 a3
 have g:=Y1ix (Ys5 1 h) (Ys2 ⟨hn.1,hn.2.1⟩ hP) a4
 rw[a5]
 refine⟨g.1,g.2.2.2.2,Ys2 ⟨hn.1,hn.2.1⟩ hB,by simp[yAd],?_⟩
 show (Yl9 yVr (yAd _ P) _).v.length=_
 rw[Yp7 _ _ a4];simp[yAd]
theorem Y18l {B:List YB}{x:YS_}(hx:Yld x) (h:yLo B x):x.Ia.length=2/\(x.Ia.g 0).Ka=1/\Yld (x.Ia.g 0)/\Yld (x.Ia.g 1)/\Ymr (Ym2 (x.Ia.g 1))/\wR (Ym2 (x.Ia.g 1))<=900000000:=by
 simp only[yLo,af,ak]at h
 obtain⟨⟨⟨_,h2⟩,h3⟩,h4⟩:=h
 have i1:=Yoh hx (k:=1) oW
 have w:=Ymx i1
 have h5:=h4
 simp only[Ymt,af,ak]at h5
 have:=Y12m (s:=x.Ia.g 1) oW h5.1.2
 exact⟨by omega,h3,Yoh hx oW,i1,h5.2,by omega⟩
theorem Y1yw (x:Yc):sumBy Yly (Yrz x)<=Yly x:=by
 unfold Yrz;split
 ·rw[Yp9];omega
 ·simp[sumBy]
theorem Y13p:∀ K:List Yc,sumBy Yly (Ymh K)<=sumBy Yly K
 | []=>aC _
 | x :: r=>by
  have h1:=Y13p r
  have h2:=Y1yw x
  have:Ymh (x :: r)=Yrz x++Ymh r:=rfl
  rw[this,Yp0];simp only[sumBy];omega
theorem Y1uj (K:List Yc):Yly (Yyf K)<=sumBy Yly K+1:=by
 have h:=Y13p K
 unfold Yyf;split
 ·rename_i e
  have:=Yls Yly (Yl6 (L:=Ymh K) (show 0<(Ymh K).length by omega))
  omega
 ·rw[Yp9];simp only;omega
theorem Y1vo {K:List Yc}(e:sqE K=0):Yly (sqV K)<=sumBy Yly K+1:=by
 have:sqV K=Yyf K:=ae e
 rw[this];exact Y1uj K
theorem Ysm (k n:Int) (P:List Int) (K:List Yc):Yly (yK k n P K)=sumBy Yly K+1:=Yp9 _
def Ysq (p:YP):Prop:=(p.p->(∀ x∈p.P,Yld x)/\(∀ x∈p.B,Yld x)/\p.P.length<=2000/\p.B.length<=2000/\1<=p.B.length)/\(p.p=false->Yld p.s)
theorem Y1di {s:YS_}{m:YS}(hs:Yld s) (hx:okX m.x) (e:(yDf s m).e=0):okX (yDf s m).m.x/\(yDf s m).m.z=m.z/\Ysq (yDf s m).v:=by
 have hl:=Ytk hs
 unfold yDf at e|-
 split at e
 ·cases e
 rename_i c0
 rw[ab c0]
 have i1:=Yoh hs (k:=1) oW
 by_cases c1:(s.Ia.g 1).Ka=1/\(s.Ia.length:Int)=3
 ·rw[ae c1]at e|-
  have a:=Y1dx hx (Yyw i1) e
  refine⟨a,?_,λh=>absurd (show false from h) dW,λ_=>Yoh hs oW⟩
  show (yVr _ m).m.z=m.z
  rw[Yw6 e]
 ·rw[ab c1]at e|-
  by_cases c2:(s.Ia.g 1).Ka=0/\¬ (s.Ia.g 1).Ia.length=0/\Yr0 (s.Ia.g 1).Ia
  ·rw[ae c2]at e|-
   have hl2:=Ytk i1
   have c3:=c2.2.1
   have a:=Y1dx hx (Yyw (Yoh i1 (k:=0) oW)) e
   refine⟨a,?_,λ_=>⟨λx hx=>Ynf i1 (aG hx),λx hx=>Ynf hs (aG hx),by simp only[ax];omega,by simp only[ax];omega,by simp only[ax];omega⟩,λh=>absurd (show true=false from h) dW⟩
   show (yVr _ m).m.z=m.z
   rw[Yw6 e]
  ·rw[ab c2]at e;cases e
theorem Y1oe {s:YS_}{m:YS}(hs:Yld s) (hx:okX m.x) (e:(ySy s m).e=0):okX (ySy s m).m.x/\(ySy s m).m.z=m.z:=by
 unfold ySy at e|-
 split at e
 ·rename_i c
  rw[ae c]
  have i2:=Yoh hs (k:=2) oW
  have w:=Ymx i2
  have h5:=c.2.2
  simp only[Ymt,af,ak]at h5
  have:=Y12m (s:=s.Ia.g 2) oW h5.1.2
  refine⟨Y1nx hx (Yyw (Yoh hs oW)) ⟨h5.2,by omega⟩ e,?_⟩
  rw[Yyd e]
 ·cases e
theorem Yw8:∀ (n:Nat) (q:List YS_) (o:List YP) (m:YS),(∀ x∈q,Yld x)->(∀ p∈o,Ysq p)->Ylt m->(yLk n q o m).e=0 ->
  Ylt (yLk n q o m).m/\m.z<=(yLk n q o m).m.z/\(∀ p∈(yLk n q o m).v,Ysq p)/\((yLk n q o m).v.length:Int)+m.z<=o.length+(yLk n q o m).m.z
 | n,[],o,m,_,ho,hm,_=>by
  have e:yLk n [] o m=⟨o,0,m⟩:=by cases n<;>rfl
  rw[e];exact⟨hm,aJ _,ho,by simp only;omega⟩
 | 0,_ :: _,o,m,_,_,_,e=>by cases e
 | n+1,s :: q,o,m,hq,ho,hm,e=>by
  have hs:=hq s aj
  have hr:∀ x∈q,Yld x:=λx hx=>hq x (ai _ hx)
  simp only[yLk]at e|-
  by_cases z:3000<m.z+1
  ·rw[ae z]at e;cases e
  rw[ab z]at e|-
  have h1:=Yz1 hm oW
  have ez:(yCn m).z=m.z+1:=rfl
  by_cases c1:0<=hdM m.x s
  ·rw[ae c1]at e|-
   by_cases d:(ySt (hdM m.x s) s (yCn m)).e=0
   ·rw[ae d]at e|-
    have hy:=Yuo (x:=(yCn m).x) hm.1.Sb d
    have g:=Yw8 n ((ySt (hdM m.x s) s (yCn m)).v :: q) o (ySt (hdM m.x s) s (yCn m)).m (λx hx=>(List.mem_cons.1 hx).elim (λe=>e ▸ hy) (hr x)) ho ⟨Yx5 h1.1,h1.2⟩ e
    have e2:(ySt (hdM m.x s) s (yCn m)).m.z=m.z+1:=rfl
    exact⟨g.1,by omega,g.2.2.1,by omega⟩
   ·rw[ab d]at e;exact absurd e d
  rw[ab c1]at e|-
  by_cases c4:hdN m.x s=4
  ·rw[ae c4]at e|-
   have g:=Yw8 n (s.Ia.drop 1++q) o (yCn m) (λx hx=>(List.mem_append.1 hx).elim (λh=>Ynf hs (aG h)) (hr x)) ho h1 e
   exact⟨g.1,by omega,g.2.2.1,by omega⟩
  rw[ab c4]at e|-
  by_cases c7:hdN m.x s=7
  ·rw[ae c7]at e|-
   by_cases d:(yDf s (yCn m)).e=0
   ·rw[ae d]at e|-
    obtain⟨a1,a2,a3⟩:=Y1di hs h1.1 d
    have g:=Yw8 n q (o++[(yDf s (yCn m)).v]) (yDf s (yCn m)).m hr (λp hp=>(List.mem_append.1 hp).elim (ho p) (λh=>List.mem_singleton.1 h ▸ a3)) ⟨a1,by rw[a2];exact h1.2⟩ e
    have:=g.2.2.2
    simp only[aw,bh]at this
    exact⟨g.1,by omega,g.2.2.1,by omega⟩
   ·rw[ab d]at e;exact absurd e d
  rw[ab c7]at e|-
  by_cases c8:hdN m.x s=8
  ·rw[ae c8]at e|-
   by_cases d:(ySy s (yCn m)).e=0
   ·rw[ae d]at e|-
    obtain⟨a1,a2⟩:=Y1oe hs h1.1 d
    have g:=Yw8 n q o (ySy s (yCn m)).m hr ho ⟨a1,by rw[a2];exact h1.2⟩ e
    exact⟨g.1,by omega,g.2.2.1,by omega⟩
   ·rw[ab d]at e;exact absurd e d
  rw[ab c8]at e|-
  have g:=Yw8 n q (o++[⟨false,0,s,false,[],[]⟩]) (yCn m) hr (λp hp=>(List.mem_append.1 hp).elim (ho p) (λh=>List.mem_singleton.1 h ▸ ⟨λh=>absurd (show false from h) dW,λ_=>hs⟩)) h1 e
  have:=g.2.2.2
  simp only[aw,bh]at this
  exact⟨g.1,by omega,g.2.2.1,by omega⟩
structure gdY (m:YS) (w:Int) (q:YS):Prop where
 ok:Ylt q
 siz:w+3 * m.z<=3 * q.z
theorem Y13k:∀ {L:List YP}{m q:YS}{K:List Yc},PsY L m K q->K.length=L.length
 | _,_,_,_,.nil=>rfl
 | _,_,_,_,.de _ _ t=>by simp only[aD,Y13k t]
 | _,_,_,_,.ex _ _ t=>by simp only[aD,Y13k t]
mutual
theorem Ywm:∀ {s:YS_}{m q:YS}{c:Yc},EvY s m c q->(Yld s)->(Ylt m)->gdY m (Yly c) q
 | s,m,_,_,.mk z r,hs,hm=>by
  have g:=Y22b r hs (Yz1 hm z)
  have e:(yCn m).z=m.z+1:=rfl
  exact⟨g.ok,by have:=g.siz;omega⟩
theorem Y22b:∀ {s:YS_}{m q:YS}{c:Yc},EfY s m c q->(Yld s)->(Ylt m)->gdY m (Yly c - 2) q
 | s,m,_,_,.va k r b,hs,hm=>⟨hm,by rw[Ysm];simp[sumBy];omega⟩
 | s,m,_,_,.pm k r b,hs,hm=>⟨hm,by rw[Ysm];simp[sumBy];omega⟩
 | s,m,_,_,.qa k,hs,hm=>⟨hm,by rw[Yp9];simp[sumBy];omega⟩
 | s,m,_,_,.qu h,hs,hm=>⟨hm,by rw[Yp9];simp[sumBy];omega⟩
 | s,m,_,_,.st h e r,hs,hm=>by
  have g:=Ywm r (Yuo hm.1.Sb e) ⟨Yx5 hm.1,hm.2⟩
  have e:(ySt (hdM m.x s) s m).m.z=m.z:=rfl
  exact⟨g.ok,by have:=g.siz;omega⟩
 | s,m,_,_,.ls hL r g,hs,hm=>by
  have g:=Yzf r (λx hx=>Ynf hs (hL x hx)) hm
  exact⟨g.ok,by rw[Ysm];have:=g.siz;omega⟩
 | s,m,_,_,.sq hL r e n,hs,hm=>by
  have g:=Yzf r (λx hx=>Ynf hs (hL x hx)) hm
  exact⟨g.ok,by have:=Y1vo e;have:=g.siz;omega⟩
 | s,m,_,_,.pc hP hB g r,hs,hm=>by
  have g:=Y1o8 r (λx hx=>Y1a7 hs (hP x hx)) (λx hx=>Ynf hs (hB x hx)) hm
  exact⟨g.ok,by have:=g.siz;omega⟩
 | s,m,_,_,.lo hP hB n e r g,hs,hm=>by
  have k:=Ywj hm.1 (λx hx=>Y1a7 hs (hP x hx)) (λx hx=>Ynf hs (hB x hx)) e
  have g:=Yzf r k.2.2.1 ⟨k.1,by rw[k.2.1];exact hm.2⟩
  exact⟨g.ok,by rw[Ysm];have:=g.siz;have:=k.2.1;omega⟩
 | s,m,_,_,.sg ht k r b hx v,hs,hm=>by
  have g:=Ywm v (Ynf hs hx) hm
  exact⟨g.ok,by rw[Ysm];have:=g.siz;simp only[sumBy];omega⟩
 | s,m,_,_,.re hL r,hs,hm=>by
  have g:=Y1fp r (λx hx=>Ynf hs (hL x hx)) hm
  exact⟨g.ok,by rw[Ysm];have:=g.siz;simp only[sumBy];omega⟩
 | s,m,_,_,.lx hL hB n a e r,hs,hm=>by
  have hn:=@Yq4 m.Sb 1 hm.1.Sb.1 n
  have k:=Y198 (Ys5 1 hm.1) (λx hx=>by
   have i:=Y18l (Y1a7 hs (hL x hx)) (List.all_eq_true.1 a x hx)
   exact⟨Y13e i.2.2.1 ⟨hn.1,hn.2.1⟩,i.2.2.2.2⟩) e
  have e2:(ySc 1 m).z=m.z:=rfl
  have g:=Y1fp r (Ys2 ⟨hn.1,hn.2.1⟩ λx hx=>Ynf hs (hB x hx)) ⟨k.1,by rw[k.2.2.2.2];exact hm.2⟩
  exact⟨g.ok,by have:=g.siz;have:=k.2.2.2.2;omega⟩
theorem Yzf:∀ {L:List YS_}{m q:YS}{K:List Yc},KdY L m K q->(∀ x∈L,Yld x)->(Ylt m)->gdY m (sumBy Yly K) q
 | _,m,_,_,.nil,hL,hm=>⟨hm,by simp[sumBy]⟩
 | _,m,_,_,.cons h t,hL,hm=>by
  have a:=Ywm h (hL _ aj) hm
  have b:=Yzf t (λx hx=>hL x (ai _ hx)) a.ok
  exact⟨b.ok,by have:=a.siz;have:=b.siz;simp only[sumBy];omega⟩
theorem Y1o8:∀ {k:Int}{P B:List YS_}{m q:YS}{c:Yc},PcY k P B m c q->(∀ x∈P,Yld x)->(∀ x∈B,Yld x)->(Ylt m)->gdY m (Yly c - 1) q
 | k,P,B,m,_,_,.mk e r,hP,hB,hm=>by
  have k:=Ywj hm.1 hP hB e
  have g:=Y1fp r k.2.2.1 ⟨k.1,by rw[k.2.1];exact hm.2⟩
  exact⟨g.ok,by rw[Ysm];have:=g.siz;have:=k.2.1;simp only[sumBy];omega⟩
theorem Y187:∀ {p:YP}{m q:YS}{c:Yc},PtY p m c q->(Ysq p)->(Ylt m)->gdY m (Yly c - 1) q
 | p,m,_,_,.pc h r,hp,hm=>Y1o8 r (hp.1 h).1 (hp.1 h).2.1 hm
 | p,m,_,_,.ex h r,hp,hm=>by
  have g:=Ywm r (hp.2 h) hm
  exact⟨g.ok,by have:=g.siz;omega⟩
theorem Ywr:∀ {L:List YP}{m q:YS}{K:List Yc},PsY L m K q->(∀ p∈L,Ysq p)->(Ylt m)->gdY m (sumBy Yly K - 2 * L.length) q
 | _,m,_,_,.nil,hL,hm=>⟨hm,by simp[sumBy]⟩
 | _,m,_,_,.de d h t,hL,hm=>by
  have a:=Y187 h (hL _ aj) hm
  have b:=Ywr t (λx hx=>hL x (ai _ hx)) a.ok
  exact⟨b.ok,by have:=a.siz;have:=b.siz;simp only[sumBy,Ysm,aD];omega⟩
 | _,m,_,_,.ex d h t,hL,hm=>by
  have a:=Y187 h (hL _ aj) hm
  have b:=Ywr t (λx hx=>hL x (ai _ hx)) a.ok
  exact⟨b.ok,by have:=a.siz;have:=b.siz;simp only[sumBy,aD];omega⟩
theorem Y1fp:∀ {L:List YS_}{m q:YS}{c:Yc},BdY L m c q->(∀ x∈L,Yld x)->(Ylt m)->gdY m (Yly c) q
 | L,m,_,_,.sq h l r g v e,hL,hm=>by
  have hn:=@Yq4 m.Sb 1 hm.1.Sb.1 h
  have k:=Yw8 _ _ [] (ySc 1 m) (Ys2 ⟨hn.1,hn.2.1⟩ hL) sW ⟨Ys5 1 hm.1,hm.2⟩ l
  have w:=Ywr r k.2.2.1 k.1
  have:=Y13k r
  have e2:(ySc 1 m).z=m.z:=rfl
  exact⟨w.ok,by have:=Y1vo e;have:=w.siz;have:=k.2.2.2;simp only[bo]at this;omega⟩
 | L,m,_,_,.lo h l r g v,hL,hm=>by
  have hn:=@Yq4 m.Sb 1 hm.1.Sb.1 h
  have k:=Yw8 _ _ [] (ySc 1 m) (Ys2 ⟨hn.1,hn.2.1⟩ hL) sW ⟨Ys5 1 hm.1,hm.2⟩ l
  have w:=Ywr r k.2.2.1 k.1
  have:=Y13k r
  have e2:(ySc 1 m).z=m.z:=rfl
  exact⟨w.ok,by rw[Ysm];have:=w.siz;have:=k.2.2.2;simp only[bo]at this;omega⟩
end
theorem Y1cg:∀ {L:List YP}{m q:YS}{K:List Yc},PsY L m K q->(∀ p∈L,Ysq p)->Ylt m->m.z<=q.z
 | _,_,_,_,.nil,_,_=>aJ _
 | _,_,_,_,.de _ h t,hL,hm=>by
  have a:=Y187 h (hL _ aj) hm
  have b:=Y1cg t (λx hx=>hL x (ai _ hx)) a.ok
  have:=a.siz;omega
 | _,_,_,_,.ex _ h t,hL,hm=>by
  have a:=Y187 h (hL _ aj) hm
  have b:=Y1cg t (λx hx=>hL x (ai _ hx)) a.ok
  have:=a.siz;omega
end
theorem Y1w7 {m q:YS}{w:Nat}(h:gdY m (w:Int) q):m.z<=q.z:=by have:=h.siz;omega
structure agE (N:Int) (f f':YS_->YS->YR Yc) (b b':List YS_->YS->YR Yc):Prop where
 e:isE f b
 f:∀ s m,Ylt m->Yld s->N<=m.z->f s m=f' s m
 b:∀ L m,Ylt m->(∀ x∈L,Yld x)->N<=m.z->b L m=b' L m
section
variable {N:Int}{f f':YS_->YS->YR Yc}{b b':List YS_->YS->YR Yc}
theorem Y18q (h:agE N f f' b b'):∀ (L:List YS_),(∀ x∈L,Yld x)->∀ m,Ylt m->N<=m.z->Yl9 f L m=Yl9 f' L m
 | [],_,_,_,_=>rfl
 | x :: r,hL,m,hm,hN=>by
  have hx:=hL x aj
  rw[Yoi,Yoi,<- h.f x m hm hx hN]
  by_cases c:(f x m).e=0
  ·have g:=Ywm (h.e.f x m c) hx hm
   rw[ae c,ae c,Y18q h r (λy hy=>hL y (ai _ hy)) (f x m).m g.ok (by have:=Y1w7 g;omega)]
  ·rw[ab c,ab c]
theorem Y1m2 (h:agE N f f' b b') {k:Int}{P B:List YS_}{m:YS}(hP:∀ x∈P,Yld x) (hB:∀ x∈B,Yld x) (hm:Ylt m) (hN:N<=m.z):yPc b k P B m=yPc b' k P B m:=by
 unfold yPc
 by_cases c:(yPr P 8 B m).e=0
 ·have g:=Ywj hm.1 hP hB c
  rw[ae c,ae c,h.b _ (yPr P 8 B m).m ⟨g.1,by rw[g.2.1];exact hm.2⟩ g.2.2.1 (by rw[g.2.1];exact hN)]
 ·rw[ab c,ab c]
theorem Y1vg (h:agE N f f' b b'):∀ (L:List YP),(∀ p∈L,Ysq p)->∀ m,Ylt m->N<=m.z->Yl9 (yPt f b) L m=Yl9 (yPt f' b') L m
 | [],_,_,_,_=>rfl
 | p :: r,hL,m,hm,hN=>by
  have hp:=hL p aj
  have e:yPt f b p m=yPt f' b' p m:=by
   unfold yPt
   by_cases i:p.p
   ·simp only[ae i,Y1m2 h (hp.1 i).1 (hp.1 i).2.1 hm hN]
   ·simp only[ab i,h.f p.s m hm (hp.2 (by simpa using i)) hN]
  rw[Yoi,Yoi,<- e]
  by_cases c:(yPt f b p m).e=0
  ·have q:=Y17p h.e [p] m (by rw[Yoi,ae c];rfl)
   have e2:Yl9 (yPt f b) [p] m=⟨[(yPt f b p m).v],0,(yPt f b p m).m⟩:=by rw[Yoi,ae c];rfl
   rw[e2]at q
   have g:=Ywr q (λx hx=>List.mem_singleton.1 hx ▸ hp) hm
   have z:m.z<=(yPt f b p m).m.z:=Y1cg q (λx hx=>List.mem_singleton.1 hx ▸ hp) hm
   rw[ae c,ae c,Y1vg h r (λy hy=>hL y (ai _ hy)) (yPt f b p m).m g.ok oW]
  ·rw[ab c,ab c]
theorem Y245 (h:agE N f f' b b') {k:Int}{s:YS_}{m:YS}(hs:Yld s) (hm:Ylt m) (hN:N<=m.z):yFm f b k s m=yFm f' b' k s m:=by
 have hd:∀ n,∀ x∈s.Ia.drop n,Yld x:=λn x hx=>Ynf hs (aG hx)
 have hi:¬ (s.Ia.length:Int)<3->∀ x∈(s.Ia.g 1).Ia,Yld x:=λa x hx=>Ynf (Yoh hs oW) hx
 unfold yFm
 rw[Y18q h (s.Ia.drop 1) (hd 1) m hm hN]
 by_cases k0:k=0
 ·rw[ae k0,ae k0]
 rw[ab k0,ab k0]
 by_cases k2:k=2
 ·rw[ae k2,ae k2]
 rw[ab k2,ab k2]
 by_cases k4:k=4
 ·rw[ae k4,ae k4]
 rw[ab k4,ab k4]
 by_cases k1:k=1
 ·rw[ae k1,ae k1]
  by_cases c:(s.Ia.length:Int)<3\/¬ (s.Ia.g 1).Ka=0
  ·rw[ae c,ae c]
  ·rw[ab c,ab c,Y1m2 h (hi λa=>c (.inl a)) (hd 2) hm hN]
 rw[ab k1,ab k1]
 by_cases k6:k=6
 ·rw[ae k6,ae k6,Y1m2 h (λx hx=>hd 1 x (bt hx)) (hd 2) hm hN]
 rw[ab k6,ab k6]
 by_cases k11:k=11
 ·rw[ae k11,ae k11]
  by_cases c:(s.Ia.length:Int)<3\/¬ (s.Ia.g 1).Ka=0\/(s.Ia.g 1).Ia.length=0
  ·rw[ae c,ae c]
  ·rw[ab c,ab c]
   by_cases d:(yPr (s.Ia.g 1).Ia 60 (s.Ia.drop 2) m).e=0
   ·have g:=Ywj hm.1 (hi λa=>c (.inl a)) (hd 2) d
    rw[ae d,ae d,Y18q h _ g.2.2.1 (yPr (s.Ia.g 1).Ia 60 (s.Ia.drop 2) m).m ⟨g.1,by rw[g.2.1];exact hm.2⟩ (by rw[g.2.1];exact hN)]
   ·rw[ab d,ab d]
 rw[ab k11,ab k11]
 by_cases k3:k=3
 ·rw[ae k3,ae k3]
  by_cases c:¬ (s.Ia.length:Int)=3\/¬ (s.Ia.g 1).Ka=1
  ·rw[ae c,ae c]
  ·rw[ab c,ab c,h.f (s.Ia.g 2) m hm (Yoh hs (by have:(s.Ia.length:Int)=3:=Classical.not_not.1 λa=>c (.inl a);omega)) hN]
 rw[ab k3,ab k3]
 by_cases k5:k=5
 ·rw[ae k5,ae k5,h.b (s.Ia.drop 1) m hm (hd 1) hN]
 rw[ab k5,ab k5]
 by_cases k9:k=9
 ·rw[ae k9,ae k9]
  by_cases c:(s.Ia.length:Int)<3\/¬ (s.Ia.g 1).Ka=0
  ·rw[ae c,ae c]
  ·rw[ab c,ab c]
   unfold yLs
   by_cases d:cdN m.Sb 1=0
   ·rw[ae d,ae d]
    by_cases g:(s.Ia.g 1).Ia.all (yLo m.Ba)
    ·rw[ae g,ae g]
     by_cases i:(Yl9 (yM1 (nxt m.Sb 1)) (s.Ia.g 1).Ia (ySc 1 m)).e=0
     ·have hn:=@Yq4 m.Sb 1 hm.1.Sb.1 d
      have q:=Y198 (Ys5 1 hm.1) (λx hx=>by
       have j:=Y18l (hi (λa=>c (.inl a)) x hx) (List.all_eq_true.1 g x hx)
       exact⟨Y13e j.2.2.1 ⟨hn.1,hn.2.1⟩,j.2.2.2.2⟩) i
      rw[ae i,ae i,h.b _ (Yl9 (yM1 (nxt m.Sb 1)) (s.Ia.g 1).Ia (ySc 1 m)).m ⟨q.1,by rw[q.2.2.2.2];exact hm.2⟩ (Ys2 ⟨hn.1,hn.2.1⟩ (hd 2)) (by rw[q.2.2.2.2];exact hN)]
     ·rw[ab i,ab i]
    ·rw[ab g,ab g]
   ·rw[ab d,ab d]
 rw[ab k9,ab k9]
theorem Y1w1 {s:YS_}{m:YS}(h:agE (m.z+1) f f' b b') (hs:Yld s) (hm:Ylt m):yEx f b s m=yEx f' b' s m:=by
 unfold yEx
 by_cases z:3000<m.z+1
 ·rw[ae z,ae z]
 rw[ab z,ab z]
 have h1:=Yz1 hm oW
 have ez:(yCn m).z=m.z+1:=rfl
 by_cases k1:s.Ka=1
 ·rw[ae k1,ae k1]
 rw[ab k1,ab k1]
 by_cases k2:s.Ka=2\/s.Ka=3\/s.Ka=4
 ·rw[ae k2,ae k2]
 rw[ab k2,ab k2]
 by_cases c:s.Ia.length=0
 ·rw[ae c,ae c]
 rw[ab c,ab c]
 by_cases d:0<=hdM m.x s
 ·rw[ae d,ae d]
  by_cases g:(ySt (hdM m.x s) s (yCn m)).e=0
  ·rw[ae g,ae g,h.f (ySt (hdM m.x s) s (yCn m)).v (ySt (hdM m.x s) s (yCn m)).m ⟨Yx5 h1.1,h1.2⟩ (Yuo (x:=(yCn m).x) hm.1.Sb g) (aJ _)]
  ·rw[ab g,ab g]
 rw[ab d,ab d]
 by_cases g:0<=hdN m.x s
 ·rw[ae g,ae g,Y245 h hs h1 (aJ _)]
 rw[ab g,ab g,Y18q h s.Ia (λx hx=>Ynf hs hx) (yCn m) h1 (aJ _)]
theorem Y1v7 {n:Nat}{L:List YS_}{m:YS}(h:agE (m.z+1) f f' b b') (hL:∀ x∈L,Yld x) (hm:Ylt m):yBo f b n L m=yBo f' b' n L m:=by
 unfold yBo
 by_cases c:cdN m.Sb 1=0
 ·rw[ae c,ae c]
  have hn:=@Yq4 m.Sb 1 hm.1.Sb.1 c
  unfold yB1
  by_cases d:(yLk n (yAd (nxt m.Sb 1) L) [] (ySc 1 m)).e=0
  ·rw[ae d,ae d]
   by_cases g:(yLk n (yAd (nxt m.Sb 1) L) [] (ySc 1 m)).v.length=0\/((yLk n (yAd (nxt m.Sb 1) L) [] (ySc 1 m)).v.g ((yLk n (yAd (nxt m.Sb 1) L) [] (ySc 1 m)).v.length - 1)).d
   ·rw[ae g,ae g]
   ·have g1:¬ (yLk n (yAd (nxt m.Sb 1) L) [] (ySc 1 m)).v.length=0:=λa=>g (.inl a)
    have k:=Yw8 n _ [] (ySc 1 m) (Ys2 ⟨hn.1,hn.2.1⟩ hL) sW ⟨Ys5 1 hm.1,hm.2⟩ d
    have e2:(ySc 1 m).z=m.z:=rfl
    rw[ab g,ab g,Y1vg h _ k.2.2.1 (yLk n (yAd (nxt m.Sb 1) L) [] (ySc 1 m)).m k.1 (by have:=k.2.2.2;simp only[bo]at this;omega)]
  ·rw[ab d,ab d]
 ·rw[ab c,ab c]
end
theorem Y1zj {s:YS_}{m:YS}(e:(yDf s m).e=0):(yDf s m).m.z=m.z:=by
 unfold yDf at e|-
 by_cases c0:(s.Ia.length:Int)<3
 ·rw[ae c0]at e;cases e
 rw[ab c0]at e|-
 by_cases c1:(s.Ia.g 1).Ka=1/\(s.Ia.length:Int)=3
 ·rw[ae c1]at e|-
  show (yVr _ _).m.z=_
  rw[Yw6 e]
 rw[ab c1]at e|-
 by_cases c2:(s.Ia.g 1).Ka=0/\¬ (s.Ia.g 1).Ia.length=0/\Yr0 (s.Ia.g 1).Ia
 ·rw[ae c2]at e|-
  show (yVr _ _).m.z=_
  rw[Yw6 e]
 ·rw[ab c2]at e;cases e
theorem Y225 {s:YS_}{m:YS}(e:(ySy s m).e=0):(ySy s m).m.z=m.z:=by
 unfold ySy at e|-
 split at e
 ·rename_i c
  rw[ae c,Yyd e]
 ·cases e
theorem Y1j0:∀ (n k:Nat) (q:List YS_) (o:List YP) (m:YS),m.z<=3000->3001 - m.z<=(n:Int)->3001 - m.z<=(k:Int)->yLk n q o m=yLk k q o m
 | n,k,[],o,m,_,_,_=>by cases n<;>cases k<;>rfl
 | 0,_,_ :: _,_,m,_,h,_=>by omega
 | _+1,0,_ :: _,_,m,_,_,h=>by omega
 | n+1,k+1,s :: q,o,m,hm,hn,hk=>by
  simp only[yLk]
  by_cases z:3000<m.z+1
  ·rw[ae z,ae z]
  rw[ab z,ab z]
  have ih:∀ (q:List YS_) (o:List YP) (p:YS),p.z=m.z+1->yLk n q o p=yLk k q o p:=λq o p e=>Y1j0 n k q o p oW oW oW
  by_cases c1:0<=hdM m.x s
  ·rw[ae c1,ae c1,ih _ _ _ rfl]
  rw[ab c1,ab c1]
  by_cases c4:hdN m.x s=4
  ·rw[ae c4,ae c4,ih _ _ _ rfl]
  rw[ab c4,ab c4]
  by_cases c7:hdN m.x s=7
  ·rw[ae c7,ae c7]
   by_cases d:(yDf s (yCn m)).e=0
   ·rw[ae d,ae d,ih _ _ _ (Y1zj d)]
   ·rw[ab d,ab d]
  rw[ab c7,ab c7]
  by_cases c8:hdN m.x s=8
  ·rw[ae c8,ae c8]
   by_cases d:(ySy s (yCn m)).e=0
   ·rw[ae d,ae d,ih _ _ _ (Y225 d)]
   ·rw[ab d,ab d]
  rw[ab c8,ab c8,ih _ _ _ rfl]
theorem Y164:∀ n k:Nat,(∀ s m,Ylt m->Yld s->3001 - m.z<=(n:Int)->3001 - m.z<=(k:Int)->yE n s m=yE k s m)/\(∀ L m,Ylt m->(∀ x∈L,Yld x)->3001 - m.z<=(n:Int)->3001 - m.z<=(k:Int)->yB n L m=yB k L m)
 | 0,_=>⟨λs m hm _ h _=>by have:=hm.2;omega,λL m hm _ h _=>by have:=hm.2;omega⟩
 | _+1,0=>⟨λs m hm _ _ h=>by have:=hm.2;omega,λL m hm _ _ h=>by have:=hm.2;omega⟩
 | n+1,k+1=>by
  have ih:=Y164 n k
  have ag:∀ m:YS,3001 - m.z<=((n+1:Nat):Int)->3001 - m.z<=((k+1:Nat):Int)->agE (m.z+1) (yE n) (yE k) (yB n) (yB k):=λm h1 h2=>
   ⟨Y147 n,λs q hq hs hz=>ih.1 s q hq hs oW oW,λL q hq hL hz=>ih.2 L q hq hL oW oW⟩
  refine⟨λs m hm hs h1 h2 => ?_,λL m hm hL h1 h2 => ?_⟩
  ·rw[Y13f,Y13f];exact Y1w1 (ag m h1 h2) hs hm
  ·rw[Y137,Y137,Y1v7 (ag m h1 h2) hL hm]
   unfold yBo
   rw[Y1j0 (n+1) (k+1) (yAd (nxt m.Sb 1) L) [] (ySc 1 m) (show m.z<=3000 from hm.2.2) (show 3001 - m.z<=_ from h1) (show 3001 - m.z<=_ from h2)]
def fuY (m:YS):Nat:=(3001 - m.z).toNat
def yX (s:YS_) (m:YS):YR Yc:=Yta (yE (fuY m) s m)
def yZ (L:List YS_) (m:YS):YR Yc:=Yta (yB (fuY m) L m)
def yLX (q:List YS_) (o:List YP) (m:YS):YR (List YP):=Yta (yLk (fuY m) q o m)
theorem Y17k (s:YS_) (m:YS):yX s m=yE (fuY m) s m:=Yos _
theorem Y1l5 (L:List YS_) (m:YS):yZ L m=yB (fuY m) L m:=Yos _
theorem Yxn (q:List YS_) (o:List YP) (m:YS):yLX q o m=yLk (fuY m) q o m:=Yos _
theorem Y109:isE yX yZ:=⟨λs m e=>by rw[Y17k]at e|-;exact(Y147 _).f s m e,λL m e=>by rw[Y1l5]at e|-;exact(Y147 _).b L m e⟩
theorem Y13j {m:YS}(h:Ylt m):∃ n,fuY m=n+1/\(n:Int)=3000 - m.z:=⟨(3000 - m.z).toNat,by have:=h.2;unfold fuY;omega,by have:=h.2;omega⟩
theorem Y1zs {m:YS}{n:Nat}(h:(n:Int)=3000 - m.z):agE (m.z+1) (yE n) yX (yB n) yZ:=
 ⟨Y147 n,λs q hq hs hz=>by rw[Y17k];exact(Y164 n _).1 s q hq hs oW (by unfold fuY;omega),λL q hq hL hz=>by rw[Y1l5];exact(Y164 n _).2 L q hq hL oW (by unfold fuY;omega)⟩
theorem Y1my {s:YS_}{m:YS}(hm:Ylt m) (hs:Yld s):yX s m=yEx yX yZ s m:=by
 obtain⟨n,e,hn⟩:=Y13j hm
 rw[Y17k,e,Y13f];exact Y1w1 (Y1zs hn) hs hm
theorem Y175 {L:List YS_}{m:YS}(hm:Ylt m) (hL:∀ x∈L,Yld x):yZ L m=if cdN m.Sb 1=0 then yB1 yX yZ (yLX (yAd (nxt m.Sb 1) L) [] (ySc 1 m)) else ⟨yN,cdN m.Sb 1,ySc 1 m⟩:=by
 obtain⟨n,e,hn⟩:=Y13j hm
 rw[Y1l5,e,Y137,Y1v7 (Y1zs hn) hL hm,Yxn]
 show yBo yX yZ (n+1) L m=_
 have e2:fuY (ySc 1 m)=n+1:=e
 rw[e2];rfl
theorem Y1z7 (o:List YP) (m:YS):yLX [] o m=⟨o,0,m⟩:=by
 rw[Yxn];cases fuY m<;>rfl
theorem Y1cw {s:YS_}{q:List YS_}{o:List YP}{m:YS}(hm:Ylt m):yLX (s :: q) o m =
  if 3000<m.z+1 then ⟨[],8,yCn m⟩
  else if 0<=hdM m.x s then
   (if (ySt (hdM m.x s) s (yCn m)).e=0 then yLX ((ySt (hdM m.x s) s (yCn m)).v :: q) o (ySt (hdM m.x s) s (yCn m)).m else ⟨[],(ySt (hdM m.x s) s (yCn m)).e,(ySt (hdM m.x s) s (yCn m)).m⟩)
  else if hdN m.x s=4 then yLX (s.Ia.drop 1++q) o (yCn m)
  else if hdN m.x s=7 then (if (yDf s (yCn m)).e=0 then yLX q (o++[(yDf s (yCn m)).v]) (yDf s (yCn m)).m else ⟨[],(yDf s (yCn m)).e,(yDf s (yCn m)).m⟩)
  else if hdN m.x s=8 then (if (ySy s (yCn m)).e=0 then yLX q o (ySy s (yCn m)).m else ⟨[],(ySy s (yCn m)).e,(ySy s (yCn m)).m⟩)
  else yLX q (o++[⟨false,0,s,false,[],[]⟩]) (yCn m):=by
 obtain⟨n,e,hn⟩:=Y13j hm
 have f:∀ (q:List YS_) (o:List YP) (p:YS),p.z=m.z+1->3000 >= p.z->yLk n q o p=yLX q o p:=λq o p e h=>by
  rw[Yxn]
  have:fuY p=n:=by unfold fuY;omega
  rw[this]
 rw[Yxn,e]
 simp only[yLk]
 by_cases z:3000<m.z+1
 ·rw[ae z,ae z]
 rw[ab z,ab z]
 by_cases c1:0<=hdM m.x s
 ·rw[ae c1,ae c1,f _ _ (ySt (hdM m.x s) s (yCn m)).m rfl (by show 3000 >= m.z+1;omega)]
 rw[ab c1,ab c1]
 by_cases c4:hdN m.x s=4
 ·rw[ae c4,ae c4,f _ _ (yCn m) rfl (by show 3000 >= m.z+1;omega)]
 rw[ab c4,ab c4]
 by_cases c7:hdN m.x s=7
 ·rw[ae c7,ae c7]
  by_cases d:(yDf s (yCn m)).e=0
  ·have ez:(yDf s (yCn m)).m.z=m.z+1:=Y1zj d
   rw[ae d,ae d,f _ _ _ ez oW]
  ·rw[ab d,ab d]
 rw[ab c7,ab c7]
 by_cases c8:hdN m.x s=8
 ·rw[ae c8,ae c8]
  by_cases d:(ySy s (yCn m)).e=0
  ·have ez:(ySy s (yCn m)).m.z=m.z+1:=Y225 d
   rw[ae d,ae d,f _ _ _ ez oW]
  ·rw[ab d,ab d]
 rw[ab c8,ab c8,f _ _ (yCn m) rfl (by show 3000 >= m.z+1;omega)]
structure YL where
 g:Bool
 r:YR Yc
 s:YS_
 m:YS
def yNm (s:YS_) (m:YS):YR Yc:=
 if yRe m.Ba s.Ta s.Sa=0 then
  (if (rsB m.Ba s.Ta s.Sa).Ka=3 then ⟨yK 2 (rsB m.Ba s.Ta s.Sa).Na [] [],0,yCn m⟩ else if (rsB m.Ba s.Ta s.Sa).Ka=2 then ⟨yK 3 (rsB m.Ba s.Ta s.Sa).Na [] [],0,yCn m⟩ else ⟨yN,1,yCn m⟩)
 else ⟨yN,yRe m.Ba s.Ta s.Sa,yCn m⟩
def yLp:Nat->YS_->YS->YL
 | 0,s,m=>⟨false,⟨yN,8,yCn m⟩,s,m⟩
 | n+1,s,m=>
  if 3000<m.z+1 then ⟨false,⟨yN,8,yCn m⟩,s,m⟩
  else if s.Ka=1 then ⟨false,yNm s m,s,m⟩
  else if s.Ka=2\/s.Ka=3\/s.Ka=4 then ⟨false,⟨⟨1,0,[],yDt s,[]⟩,0,yCn m⟩,s,m⟩
  else if s.Ia.length=0 then ⟨false,⟨yN,1,yCn m⟩,s,m⟩
  else if 0<=hdM m.x s then
   (if (ySt (hdM m.x s) s (yCn m)).e=0 then yLp n (ySt (hdM m.x s) s (yCn m)).v (ySt (hdM m.x s) s (yCn m)).m else ⟨false,⟨yN,(ySt (hdM m.x s) s (yCn m)).e,(ySt (hdM m.x s) s (yCn m)).m⟩,s,m⟩)
  else ⟨true,⟨yN,0,m⟩,s,yCn m⟩
def yLq (s:YS_) (m:YS):YL:=Yta (yLp (fuY m) s m)
theorem Y1qs (s:YS_) (m:YS):yLq s m=yLp (fuY m) s m:=Yos _
def yE2 (s:YS_) (m:YS):YR Yc:=
 if 0<=hdN m.x s then yFm yX yZ (hdN m.x s) s m
 else if (Yl9 yX s.Ia m).e=0 then (if 9<((Yl9 yX s.Ia m).v.length:Int) then ⟨yN,8,(Yl9 yX s.Ia m).m⟩ else ⟨yK 6 0 [] (Yl9 yX s.Ia m).v,0,(Yl9 yX s.Ia m).m⟩)
 else ⟨yN,(Yl9 yX s.Ia m).e,(Yl9 yX s.Ia m).m⟩
theorem Yz2 {s:YS_}{m:YS}(hm:Ylt m):yLq s m =
  if 3000<m.z+1 then ⟨false,⟨yN,8,yCn m⟩,s,m⟩
  else if s.Ka=1 then ⟨false,yNm s m,s,m⟩
  else if s.Ka=2\/s.Ka=3\/s.Ka=4 then ⟨false,⟨⟨1,0,[],yDt s,[]⟩,0,yCn m⟩,s,m⟩
  else if s.Ia.length=0 then ⟨false,⟨yN,1,yCn m⟩,s,m⟩
  else if 0<=hdM m.x s then
   (if (ySt (hdM m.x s) s (yCn m)).e=0 then yLq (ySt (hdM m.x s) s (yCn m)).v (ySt (hdM m.x s) s (yCn m)).m else ⟨false,⟨yN,(ySt (hdM m.x s) s (yCn m)).e,(ySt (hdM m.x s) s (yCn m)).m⟩,s,m⟩)
  else ⟨true,⟨yN,0,m⟩,s,yCn m⟩:=by
 obtain⟨n,e,hn⟩:=Y13j hm
 have e2:fuY (ySt (hdM m.x s) s (yCn m)).m=n:=by
  have:(ySt (hdM m.x s) s (yCn m)).m.z=m.z+1:=rfl
  unfold fuY;omega
 rw[Y1qs,e,Y1qs,e2];rfl
theorem Y246:∀ (n:Nat) (s:YS_) (m:YS),Ylt m->Yld s->(n:Int)=3000 - m.z ->
  ((yLq s m).g->Ylt (yLq s m).m/\Yld (yLq s m).s/\m.z<(yLq s m).m.z/\¬ (yLq s m).s.Ia.length=0)/\yX s m=if (yLq s m).g then yE2 (yLq s m).s (yLq s m).m else (yLq s m).r:=by
 intro n
 induction n with
 | zero=>
  intro s m hm hs hn
  rw[Y1my hm hs,Yz2 hm]
  unfold yEx
  rw[ae oW,ae oW]
  exact⟨λh=>absurd (show false from h) dW,rfl⟩
 | succ n ih=>
  intro s m hm hs hn
  have no:∀ {P:Prop},(false)->P:=λh=>absurd h dW
  rw[Y1my hm hs,Yz2 hm]
  unfold yEx
  by_cases z:3000<m.z+1
  ·rw[ae z,ae z];exact⟨λh=>no h,rfl⟩
  rw[ab z,ab z]
  have h1:=Yz1 hm oW
  by_cases k1:s.Ka=1
  ·rw[ae k1,ae k1];exact⟨λh=>no h,rfl⟩
  rw[ab k1,ab k1]
  by_cases k2:s.Ka=2\/s.Ka=3\/s.Ka=4
  ·rw[ae k2,ae k2];exact⟨λh=>no h,rfl⟩
  rw[ab k2,ab k2]
  by_cases c:s.Ia.length=0
  ·rw[ae c,ae c];exact⟨λh=>no h,rfl⟩
  rw[ab c,ab c]
  by_cases d:0<=hdM m.x s
  ·rw[ae d,ae d]
   by_cases g:(ySt (hdM m.x s) s (yCn m)).e=0
   ·rw[ae g,ae g]
    have i:=ih (ySt (hdM m.x s) s (yCn m)).v (ySt (hdM m.x s) s (yCn m)).m ⟨Yx5 h1.1,h1.2⟩ (Yuo (x:=(yCn m).x) hm.1.Sb g) (by show (n:Int)=3000 - (m.z+1);omega)
    refine⟨λh => ?_,i.2⟩
    have j:=i.1 h
    have e:(ySt (hdM m.x s) s (yCn m)).m.z=m.z+1:=rfl
    exact⟨j.1,j.2.1,by omega,j.2.2.2⟩
   ·rw[ab g,ab g];exact⟨λh=>no h,rfl⟩
  rw[ab d,ab d]
  exact⟨λ_=>⟨h1,hs,by show m.z<m.z+1;omega,c⟩,rfl⟩
theorem Y138 {s:YS_}{m:YS}(hm:Ylt m) (hs:Yld s):((yLq s m).g->Ylt (yLq s m).m/\Yld (yLq s m).s/\m.z<(yLq s m).m.z/\¬ (yLq s m).s.Ia.length=0)/\yX s m=if (yLq s m).g then yE2 (yLq s m).s (yLq s m).m else (yLq s m).r:=
 Y246 (3000 - m.z).toNat s m hm hs (by have:=hm.2;omega)
theorem kdX {L:List YS_}{m:YS}{k:Nat}(hm:Ylt m) (hL:∀ x∈L,Yld x) (e:(Yl9 yX (L.take k) m).e=0) :
  Ylt (Yl9 yX (L.take k) m).m/\m.z<=(Yl9 yX (L.take k) m).m.z/\(Yl9 yX (L.take k) m).v.length<=k/\sumBy Yly (Yl9 yX (L.take k) m).v<=9000:=by
 have g:=Yzf (Y118 Y109 (L.take k) m e) (λx hx=>hL x (bt hx)) hm
 have l:=Yp7 (L.take k) m e
 have z:=Y1w7 g
 have s:=g.siz
 have o:=g.ok.2
 have o2:=hm.2
 rw[au]at l
 exact⟨g.ok,z,by omega,by omega⟩
theorem psX {L:List YP}{m:YS}{k:Nat}(hm:Ylt m) (hL:∀ p∈L,Ysq p) (e:(Yl9 (yPt yX yZ) (L.take k) m).e=0) :
  Ylt (Yl9 (yPt yX yZ) (L.take k) m).m/\m.z<=(Yl9 (yPt yX yZ) (L.take k) m).m.z/\(Yl9 (yPt yX yZ) (L.take k) m).v.length<=k:=by
 have r:=Y17p Y109 (L.take k) m e
 have g:=Ywr r (λx hx=>hL x (bt hx)) hm
 have l:=Yp7 (L.take k) m e
 rw[au]at l
 refine⟨g.ok,Y1cg r (λx hx=>hL x (bt hx)) hm,by omega⟩
section
abbrev Z1a (x:Yd):Ct:=⟨159,[],[Yq0 x],Y17n x,.sv (Yud x 0)⟩
def Z3e (x:Yd):Lp Nat:=let v1:=[vI 0,vI 0,vS (mkS []),.val (.y)];.mk 29 0 (λx_1=>[(2,.y 0),(3,.y 1),(14,Aq x.Ia),(15,li (x.Ia.map Ylf).length),(16,hs x_1 0)]) (λx_1=>[.box v1,.box [vI x.Ka,vI x.Na,vS x.Ta,.ref 2],ho x_1 1]) (λk=>[.s (li k),.o (.Ah (x.Ia.take k))]) (λk=>k<=x.Ia.length/\x.Ia.length<=9223372036854775807) (λk=>x.Ia.length - k) [.mk True (.exit 0) (λx=>[(2,.y 0),(3,.y 1)]) (λx_1=>[.box v1,.box [vI x.Ka,vI x.Na,vS x.Ta,.ref 2],ho x_1 0]) [.o (.Ah x.Ia)]]
theorem Ze7 (x:Yd) (h:wD x<=1048576) (ih:∀ (z:Yd),z∈x.Ia->wD z<=1048576->OK (Z1a z)):Lp.Sem prog (Yli f159 0) (Z3e x):=Ylp (λk=>let v1:=x.Ia.g k;let v2:=(x.Ia.take k).map Ylf;.i ((k:Int)<(x.Ia.map Ylf).length) (.x (k:Int) (x.Ia.map Ylf) (Ym1 v1) (.w (.draw [(4,[8]),(5,[2,16]),(7,[1])]) (.d [.rd] (Z1a v1) (.p ((v2.length+1) * 56<=140737488355328) (.r ((k:Int)+1) (.g [0,1,17] (k+1) [.s (li ((k:Int)+1)),.o (.y 4 ((x.Ia.take k).map Ylf++[Ym1 v1]))])))))) (.o 0 [0,1,2] [.o (.y 4 v2)])) (by
 intro k h;try dsimp only[Yl3,Yle,Z3e]at h|-
 have g1:=Yve x
 have g2:=@Yls _ wD x.Ia (x.Ia.g k)
 exact z05)
theorem Zhn (x:Yd) (h:wD x<=1048576) (ih:∀ z∈x.Ia,∀ (h:wD z<=1048576),Z1a z):Z1a x:=Ylh call159 func159 (.z Ylf x.Ia (.w (.g (.nilbox 2 3 true 4)) (.l (Z3e x) (Ze7 x h ih) [1,2,3] [.s (li 0),.o (.y 4 [])] 0 (.t (.f [2] [.Ah x.Ia] (.sv (.agg [vI x.Ka,vI x.Na,vS x.Ta,.ref 0]))) .q)))) (by
 dsimp only[Yl3,Z1a,Yle,Z3e]
 exact z02)
theorem Z6q (x:Yd):∀ (h:wD x<=1048576),Z1a x:=Yd.ind (P:=λx=>∀ (h:wD x<=1048576),Z1a x) (λx ih h=>Zhn x h ih) x
end
section
theorem Yrd {m:YS}(h:okX m.x):(m.Ba.length:Int)<=1000/\sumBy wB m.Ba<=1000000000/\(0<=m.Sb/\m.Sb<=99999)/\(0<=m.Va/\m.Va<=99999)/\(0<=m.Sc/\m.Sc<=200)/\(m.Ma.length:Int)<=200/\∀ r∈m.Ma,Ymr r/\wR r<=900000000:=
 ⟨h.binds.1,(Y1mq h).2,h.Sb,h.Va,h.Sc,h.macs⟩
abbrev stY (m:YS):List Ob:=[.box [.ref 1,.ref 2,vI m.Sb,vI m.Va,vI m.Sc,vI m.z],.arr true 4 (m.Ba.map Yl2),.arr true 3 (m.Ma.map Ylc)]
abbrev stW (m:YS):List Ob:=[.box [.ref 3,.ref 2,vI m.Sb,vI m.Va,vI m.Sc,vI m.z],.dead,.arr true 3 (m.Ma.map Ylc),.arr true 4 (m.Ba.map Yl2)]
abbrev stZ (m:YS):List Ob:=[.box [.ref 3,.ref 4,vI m.Sb,vI m.Va,vI m.Sc,vI m.z],.dead,.dead,.arr true 4 (m.Ba.map Yl2),.arr true 3 (m.Ma.map Ylc)]
abbrev Z6r (m:YS) (id:YS_):Ct:=⟨172,stY m,[.y 0,Yln id],stW (yVr id m).m,.tup [li (yVr id m).v,li (yVr id m).e]⟩
theorem Z5j (m:YS) (id:YS_) (h:okX m.x/\wY id<=1000000000):Z6r m id:=Ylh call172 func172 (let v1:List Ob:=[.box [.ref 3,.ref 2,vI m.Sb,vI m.Va,vI m.Sc,vI m.z],.dead,.Ad m.Ma,.Ac m.Ba];let v2:Tq _ _:=.w (.m 1) (.f [4] v1 (.tup [li 0,li 8]));.i (99999<=m.Va) v2 (.w (.draw []) (.c [.rd,.rd,.rd] (Zex m.Ba id.Ta id.Sa) (.b (Yni m.Ba id.Ta id.Sa) (.w (.m 1) (.f [4] v1 (.tup [li 0,li 4]))) (.z Yl2 m.Ba (.i (1000<=((m.Ba.map Yl2).length:Int)) v2 (.r (m.Va+1) (.w (.draw [(17,[10]),(18,[1,20]),(22,[0])]) (.d [.rd] (Z6 id.Sa) (.p (((m.Ba.map Yl2).length+1) * 56<=140737488355328) (.f [21] [.box [.ref 3,.ref 2,vI m.Sb,vI (m.Va+1),vI m.Sc,vI m.z],.dead,.Ad m.Ma,.y 4 (m.Ba.map Yl2++[[cS id.Ta,.Ao id.Sa,cI 3,cI (m.Va+1)]])] (.tup [li (m.Va+1),li 0])))))))))))) (by
 dsimp only[Yl3,Z6r]
 have g1:=Yrd h.1
 have g2:=Ymd id
 have g3:m.Ba.map Yl2++[[cS id.Ta,Cell.list (id.Sa.map Yl4),cI 3,cI (m.Va+1)]]=(m.Ba++[(⟨id.Ta,id.Sa,3,m.Va+1⟩:YB)]).map Yl2:=Yl5 (C:=Yl2) m.Ba ⟨id.Ta,id.Sa,3,m.Va+1⟩
 with_reducible repeat' (first|apply ah|exact zR|(intro)|apply Z0)
 all_goals ((try simp only[std,inj]at *);with_reducible and_intros)
 all_goals try first|with_reducible (first|apply Z0)|(simp only[<- aq];with_reducible first|apply Z0)
 all_goals try first|exact z|grind[yVr,bvE,bdE,Yla,Ylb,Yl5])
abbrev Z6s (m:YS) (id:YS_) (r:YR_):Ct:=⟨176,stY m,[.y 0,Yln id,Yvj r],stZ (yMc id r m).m,.sv (li (yMc id r m).e)⟩
theorem Zz (m:YS) (id:YS_) (r:YR_) (h:okX m.x/\wY id<=1000000000/\wR r<=900000000):Z6s m id r:=Ylh call176 func176 (let v4:List AC:=[.ref 3,.ref 4,vI m.Sb,vI m.Va,vI m.Sc,vI m.z];let v1:List Ob:=[.box v4,.dead,.dead,.Ac m.Ba,.Ad m.Ma];let v2:=((m.Ma.map Ylc).length:Int);let v3:Tq _ _:=.w (.m 1) (.w (.m 2) (.f [5,6] v1 (.sv (li 8))));.z Ylc m.Ma (.i (200<=v2) v3 (.w (.draw []) (.c [.rd,.rd,.rd] (Zex m.Ba id.Ta id.Sa) (.b (Yni m.Ba id.Ta id.Sa) (.w (.m 1) (.w (.m 2) (.f [5,6] v1 (.sv (li 4))))) (.z Yl2 m.Ba (.i (1000<=((m.Ba.map Yl2).length:Int)) v3 (.w (.draw [(18,[11]),(19,[1,21]),(23,[0])]) (.d [.rd] (Z6 id.Sa) (.p (((m.Ba.map Yl2).length+1) * 56<=140737488355328) (.z Ylc m.Ma (.w (.draw [(8,[27,28,29]),(9,[2,35]),(13,[0])]) (.d [.rd] (Z5w r) (.p (((m.Ma.map Ylc).length+1) * 72<=140737488355328) (.f [22,36] [.box v4,.dead,.dead,.y 4 (m.Ba.map Yl2++[[cS id.Ta,.Ao id.Sa,cI 4,cI v2]]),.y 3 (m.Ma.map Ylc++[Yod r])] (.sv (li 0))))))))))))))))) (by
 dsimp only[Yl3,Z6s]
 have g1:=Yrd h.1
 have g2:=Ymd id
 have g3:m.Ba.map Yl2++[[cS id.Ta,Cell.list (id.Sa.map Yl4),cI 4,cI (m.Ma.length:Int)]]=(m.Ba++[(⟨id.Ta,id.Sa,4,(m.Ma.length:Int)⟩:YB)]).map Yl2:=Yl5 (C:=Yl2) m.Ba ⟨id.Ta,id.Sa,4,(m.Ma.length:Int)⟩
 with_reducible repeat' (first|apply ah|exact zR|(intro)|apply Z0|apply Z29)
 all_goals ((try simp only[std,inj]at *);with_reducible and_intros)
 all_goals try first|with_reducible (first|apply Z0|apply Z29)|(simp only[<- aq];with_reducible first|apply Z0|apply Z29)
 all_goals try first|exact z|grind[yMc,bmE,bdE,Yla,Ylb,Yl5])
abbrev Z4o (m:YS) (Ka:Int):Ct:=⟨72,stY m,[.y 0,li Ka],stY (ySc Ka m),.tup [li (nxt m.Sb Ka),li (cdN m.Sb Ka)]⟩
theorem Za (m:YS) (Ka:Int) (h:okX m.x/\1<=Ka/\Ka<=3):OK (Z4o m Ka):=Z9r m.x m.z Ka ⟨h.1.Sb.1,h.1.Sb.2,h.2⟩
abbrev Z8o (m:YS) (s:YS_):Ct:=⟨29,stY m,[.y 0,Yln s],stY m,.sv (li (hdM m.x s))⟩
theorem Z1w (m:YS) (s:YS_) (h:okX m.x):OK (Z8o m s):=Zb8 m.x m.z s ⟨(Y1mq h).1,aN (Y1mq h).2 oW⟩
theorem Y1cs (z:YS_):vals (Yl8 z)=[vI z.Ka,vI z.Na,vS z.Ta,vL (z.Sa.map Yl4),vL (z.Ia.map Yl1)]:=rfl
abbrev Z87 (m:YS) (n:Int) (s:YS_):Ct:=⟨30,stY m,[.y 0,Yln s,li n],stY (ySt n s m).m,.tup [.agg [vI (Yo7 m.x n s).Ka,vI (Yo7 m.x n s).Na,vS (Yo7 m.x n s).Ta,Ap (Yo7 m.x n s).Sa,Am (Yo7 m.x n s).Ia],li (Yn3 m.x n s)]⟩
theorem Z3f (m:YS) (n:Int) (s:YS_) (h:okX m.x/\Yld s/\0<=n/\n<m.Ma.length) (hr:Ymr (ruS m.x n)/\wR (ruS m.x n)<=900000000):Z87 m n s:=Ylh call30 func30 (let v9:=YS.mk m.Ba m.Ma m.Sb m.Va (m.Sc - 1) m.z;let v1:=ySc 3 v9;let v2:=[vI 0,vI 0,vS (mkS []),vL [],vL []];let v3:=Ylm (Ylu (nxt m.Sb 3)) s;let v4:Orc:=.ghost (.nilbox 4 4 true 1);let v5:Orc:=.ghost (.nilbox 4 3 true 1);let v10:=ySc 2 v1;let v12:=v10.Ma.map Ylc;let v6:List Ob:=[.box [.ref 1,.ref 2,vI v10.Sb,vI v10.Va,vI v10.Sc,vI v10.z],.Ac v10.Ba,.y 3 v12];let v7:=v10.Ma.g n.toNat;let v11:=nxt v1.Sb 2;let v8:=Ylm (Yne v11) v3;.i (m.Sc=0) (.w v5 (.w v4 (.w (.g (.lock 5)) (.w (.g (.lock 6)) (.f [] [.box [.ref 1,.ref 2,vI m.Sb,vI m.Va,vI m.Sc,vI m.z],.Ac m.Ba,.Ad m.Ma] (.tup [.agg v2,li 7])))))) (.r (m.Sc - 1) (.d [.ptr,.rd] (Z4o v9 3) (.i (cdN m.Sb (3:Int)≠0) (.w v5 (.w v4 (.w (.g (.lock 5)) (.w (.g (.lock 6)) (.f [] [.box [.ref 1,.ref 2,vI v1.Sb,vI v1.Va,vI v1.Sc,vI v1.z],.Ac v1.Ba,.Ad v1.Ma] (.tup [.agg v2,li (cdN m.Sb 3)])))))) (.d [.ptr,.rd] (Z4o v1 2) (.i (cdN v1.Sb (2:Int)≠0) (.w v5 (.w v4 (.w (.g (.lock 5)) (.w (.g (.lock 6)) (.f [] v6 (.tup [.agg v2,li (cdN v1.Sb 2)])))))) (.w (.draw [(23,[37])]) (.p (0<=n/\n.toNat<v12.length) (.w (.cells (Yod v7)) (.p (v12[n.toNat]? = some (Yod v7)) (.d [.rd,.rd] (Z3q s (nxt m.Sb 3)) (.d [.rd,.rd] (Z3r v3 v11) (.d [.rd,.rd,.rd] (Z8j v10.Ba v7 v8) (.b (!apB v10.Ba v7 v8) (.w v5 (.w v4 (.w (.g (.lock 38)) (.w (.g (.lock 39)) (.f [] v6 (.tup [.agg v2,li 6])))))) (.d [.rd,.rd] (Z3r (apY v10.Ba v7 v8) v11) (.w (.g (.lock 38)) (.w (.g (.lock 39)) (.f [] v6 (.tup [.agg (vals (Yl8 (Ylm (Yne v11) (apY v10.Ba v7 v8)))),li 0]))))))))))))))))))) (by
 dsimp only[Yl3,Z87]
 have w2:=Yrd h.1
 have g0:=@Ymx s h.2.1
 have g1:=@Y1ph m.x s
 have g2:=@Ytw m.Sb 3 h.1.Sb.1
 have g10:=@Ytw (scA m.x) 2
 have g3:=@Yqx m.Sb 3
 have g4:=@Yqx (scA m.x) 2
 have g5:scU m.x=nxt m.Sb 3/\scA m.x=nxS m.Sb 3/\scI m.x=nxt (scA m.x) 2/\Yrr m.x s=Ylm (Yne (scI m.x)) (Ylm (Ylu (scU m.x)) s)/\ruS m.x n=m.Ma.g n.toNat:=⟨rfl,rfl,rfl,rfl,rfl⟩
 have g8:=@Y1c5 m.Ba (ruS m.x n) (Yrr m.x s)
 have g9:=@Ymx (apY m.Ba (ruS m.x n) (Yrr m.x s))
 have g11:1<=scU m.x->scU m.x<=99999->okY (Ylm (Ylu (scU m.x)) s):=λa b=>Y1aa (Y16n ⟨a,b⟩) s g0.2.2
 have c1:cdN m.Sb 3=if nxR m.Sb 3<=99999 then 0 else 8:=rfl
 have c2:cdN (nxS m.Sb 3) 2=if nxR (nxS m.Sb 3) 2<=99999 then 0 else 8:=rfl
 have q1:=@Y1d8 m.x n s
 have q7:=@Y1qm m.Sb 3
 have q8:=@Y1nz m.Sb 3
 have q2:=@Y1bk m.x n s
 have q3:=@Y1ff m.x n s
 have q4:=@Y1q1 m.x n s
 have qz:=Y1lt
 have o1:¬ m.Sc=0->okX (YS.x ⟨m.Ba,m.Ma,m.Sb,m.Va,m.Sc - 1,m.z⟩):=λe=>Y1fw h.1 w2.2.2.1 (by have:=w2.2.2.2.2.1;show 0<=m.Sc - 1/\m.Sc - 1<=200;omega)
 have o2:¬ m.Sc=0->okX (ySc 3 ⟨m.Ba,m.Ma,m.Sb,m.Va,m.Sc - 1,m.z⟩).x:=λe=>Ys5 3 (o1 e)
 have q6:=Y1cs
 have q5:Yrr m.x s=Ylm (Yne (nxt (nxS m.Sb 3) 2)) (Ylm (Ylu (nxt m.Sb 3)) s)/\ruS m.x n=m.Ma.g n.toNat/\scA m.x=nxS m.Sb 3:=⟨rfl,rfl,rfl⟩
 with_reducible repeat' (first|apply ah|exact zR|(intro)|apply Za|apply Z8|apply Zaj|apply Zby)
 all_goals ((try simp only[std,inj]at *);with_reducible and_intros)
 all_goals try with_reducible first|apply Za|apply Z8|apply Zaj|apply Zby
 all_goals try first|exact zw|grind[Y1vq,Yl6,ySt,Y1cs,Yla,Ylb,Yl5])
abbrev Z8p (m:YS) (s:YS_):Ct:=⟨77,stY m,[.y 0,Yln s],stY m,.tup [.agg [vS (rsB m.Ba s.Ta s.Sa).Ta,.top,vI (rsB m.Ba s.Ta s.Sa).Ka,vI (rsB m.Ba s.Ta s.Sa).Na],li (yRe m.Ba s.Ta s.Sa)]⟩
theorem Z4f (m:YS) (s:YS_) (h:okX m.x):Z8p m s:=Ylh call77 func77 (let v1:List Ob:=[.box [.ref 1,.ref 2,vI m.Sb,vI m.Va,vI m.Sc,vI m.z],.Ac m.Ba,.Ad m.Ma];let v2:=rsB m.Ba s.Ta s.Sa;let v3:=[vS (mkS []),.top,vI 0,vI 0];.w (.draw [(11,[17])]) (.d [.rd,.rd] (Z3l m.Ba s) (.i (rsC m.Ba s.Ta s.Sa=0) (.w (.g (.blank 4 1)) (.f [] v1 (.tup [.agg v3,li 2]))) (.i (rsC m.Ba s.Ta s.Sa=2) (.w (.g (.blank 4 1)) (.f [] v1 (.tup [.agg v3,li 3]))) (.w (.g (.blank 4 1)) (.f [] v1 (.tup [.agg [vS v2.Ta,.top,vI v2.Ka,vI v2.Na],li 0]))))))) (by
 dsimp only[Yl3,Z8p]
 have w2:=Yrd h
 have g6:¬ rsC m.Ba s.Ta s.Sa=1->rsB m.Ba s.Ta s.Sa=⟨mkS [],[],0,0⟩:=λh=>ab h
 with_reducible repeat' (first|apply ah|exact zR|(intro)|apply Z5h)
 all_goals ((try simp only[std,inj]at *);with_reducible and_intros)
 all_goals try with_reducible first|apply Z5h
 all_goals try first|exact z|grind[yRe,Yla,Ylb,Yl5])
abbrev Z6t (m:YS) (s:YS_):Ct:=⟨79,stY m,[.y 0,Yln s],stY m,.sv (li (hdN m.x s))⟩
theorem Z1x (m:YS) (s:YS_) (h:okX m.x):Z6t m s:=Ylh call79 func79 (let v1:List Ob:=[.box [.ref 1,.ref 2,vI m.Sb,vI m.Va,vI m.Sc,vI m.z],.Ac m.Ba,.Ad m.Ma];let v2:=s.Ia.g 0;.i (s.Ka≠0) (.y true (.f [] v1 (.sv (li (-1:Int))))) (.z Yl1 s.Ia (.i (((s.Ia.map Yl1).length:Int)=0) (.f [] v1 (.sv (li (-1:Int)))) (.w (.draw []) (.w (.cells (Yl8 v2)) (.p ((0:Int)<=0/\(s.Ia.map Yl1)[0]? = some (Yl8 v2)) (.d [.rd,.rd] (Z7h m.Ba v2) (.f [] v1 (.sv (li (frm m.Ba v2))))))))))) (by
 dsimp only[Yl3,Z6t]
 have w2:=Yrd h
 with_reducible repeat' (first|apply ah|exact zR|(intro)|apply Z4m)
 all_goals ((try simp only[std,inj]at *);with_reducible and_intros)
 all_goals try with_reducible first|apply Z4m
 all_goals try first|exact z|grind[hdN,Yla,Ylb,Yl5])
def Ynh (z:Int):Int:=if 3000<z+1 then 8 else 0
abbrev Z6u (m:YS):Ct:=⟨76,stY m,[.y 0],stY (yCn m),.sv (li (Ynh m.z))⟩
theorem Z1y (m:YS) (h:0<=m.z/\m.z<=3000):Z6u m:=Ylh call76 func76 (let v1:List Ob:=[.box [.ref 1,.ref 2,vI m.Sb,vI m.Va,vI m.Sc,vI (m.z+1)],.Ac m.Ba,.Ad m.Ma];.r (m.z+1) (.i (3000<m.z+1) (.f [] v1 (.sv (li 8))) (.f [] v1 (.sv (li 0))))) (by
 dsimp only[Yl3,Z6u]
 with_reducible repeat' (first|apply ah|exact zR|(intro))
 all_goals ((try simp only[std,inj]at *);with_reducible and_intros)
 all_goals try first|exact z|grind[Ynh,Yla,Ylb,Yl5])
abbrev Z2t (s:YS_):Ct:=⟨78,[],[Yln s],[.Ah (yDt s).Ia],.sv (Yud (yDt s) 0)⟩
def Z64 (s:YS_):Lp Nat:=let v1:=[vI 0,vI 0,vS (mkS []),.val (.y)];let v2:=[vI s.Ka,vI s.Na,vS s.Ta,.ref 2];.mk 29 0 (λx=>[(2,.y 0),(3,.y 1),(14,Af s.Ia),(15,li (s.Ia.map Yl1).length),(16,hs x 0)]) (λx=>[.box v1,.box v2,ho x 1]) (λk=>[.s (li k),.o (.Ah ((s.Ia.take k).map yDt))]) (λk=>k<=s.Ia.length/\s.Ia.length<=9223372036854775807) (λk=>s.Ia.length - k) [.mk True (.exit 0) (λx=>[(2,.y 0),(3,.y 1)]) (λx=>[.box v1,.box v2,ho x 0]) [.o (.Ah (s.Ia.map yDt))]]
theorem Zho (s:YS_) (h:wY s<=1000000000) (ih:∀ (z:YS_),z∈s.Ia->wY z<=1000000000->OK (Z2t z)):Lp.Sem prog (Yli f78 0) (Z64 s):=Ylp (λk=>let v1:=(s.Ia.take k).map yDt;let v2:=s.Ia.g k;.i ((k:Int)<(s.Ia.map Yl1).length) (.x (k:Int) (s.Ia.map Yl1) (Yl8 v2) (.w (.draw [(4,[8]),(5,[2,16]),(7,[1])]) (.d [.rd] (Z2t v2) (.p (((v1.map Ylf).length+1) * 56<=140737488355328) (.r ((k:Int)+1) (.g [0,1,17] (k+1) [.s (li ((k:Int)+1)),.o (.y 4 (v1.map Ylf++[Ym1 (yDt v2)]))])))))) (.o 0 [0,1,2] [.o (.Ah v1)])) (by
 intro k h;try dsimp only[Yl3,Yle,Z64]at h|-
 have g1:=Ymd s
 have g2:=@Yls _ wY s.Ia (s.Ia.g k)
 exact z05)
theorem Zkj (s:YS_) (h:wY s<=1000000000) (ih:∀ z∈s.Ia,∀ (h:wY z<=1000000000),Z2t z):Z2t s:=Ylh call78 func78 (.z Yl1 s.Ia (.w (.g (.nilbox 2 3 true 4)) (.l (Z64 s) (Zho s h ih) [1,2,3] [.s (li 0),.o (.y 4 [])] 0 (.t (.f [2] [.Ah (s.Ia.map yDt)] (.sv (.agg [vI s.Ka,vI s.Na,vS s.Ta,.ref 0]))) .q)))) (by
 dsimp only[Yl3,Z2t,Yle,Z64]
 have g1:=Ymd s
 have g2:=Y1no s
 exact z02)
theorem Z65 (s:YS_):∀ (h:wY s<=1000000000),Z2t s:=YS_.ind (P:=λs=>∀ (h:wY s<=1000000000),Z2t s) (λs ih h=>Zkj s h ih) s
abbrev Z4p (L:List YS_) (n:Int):Ct:=⟨171,[],[Af L,li n],[.Ae (yAd n L)],.sv (.r 0)⟩
def Z7m (L:List YS_) (n:Int):Lp Nat:=.mk 22 0 (λx=>[(1,li n),(5,.r 0),(8,Af L),(9,li (L.map Yl1).length),(10,hs x 0)]) (λx=>[ho x 1]) (λk=>[.s (li k),.o (.Ae (yAd n (L.take k)))]) (λk=>k<=L.length/\L.length<=9223372036854775807) (λk=>L.length - k) [.mk True (.exit 0) (λx=>[(5,.r 0)]) (λx=>[ho x 0]) [.o (.Ae (yAd n L))]]
theorem Ziz (L:List YS_) (n:Int) (h:L.length<=100000000/\∀ (x:YS_),x∈L->Yld x):Lp.Sem prog (Yli f171 0) (Z7m L n):=Ylp (λk=>let v1:=yAd n (L.take k);let v2:=L.g k;.i ((k:Int)<(L.map Yl1).length) (.x (k:Int) (L.map Yl1) (Yl8 v2) (.d [.rd,.rd] (Z3q v2 n) (.p (((v1.map Yl1).length+1) * 80<=140737488355328) (.r ((k:Int)+1) (.g [5] (k+1) [.s (li ((k:Int)+1)),.o (.y 5 (v1.map Yl1++[Yl8 (Ylm (Ylu n) v2)]))]))))) (.o 0 [0] [.o (.Ae v1)])) (by
 intro k h;try dsimp only[Yl3,Yle,Z7m]at h|-
 have hh := ‹_/\∀ x∈L,Yld x›
 have g1:k<L.length->wY (L.g k)<=400000000:=λa=>(Ymx (hh.2 _ (Yl6 a))).1
 have g2:k<L.length->yAd n (L.take (k+1))=yAd n (L.take k)++[Ylm (Ylu n) (L.g k)]:=λa=>by unfold yAd;rw[Ylk a];simp
 have g3:(yAd n (L.take k)).length<=k:=by unfold yAd;rw[aO,au];omega
 with_reducible repeat' (first|apply ah|exact zR|(intro)|apply Z8)
 all_goals ((try simp only[std,inj]at *);with_reducible and_intros)
 all_goals try first|with_reducible (first|apply Z8)|(simp only[<- aq];with_reducible first|apply Z8)
 all_goals try first|exact z|grind[Yla,Ylb,Yl5,Yl6])
theorem Ze (L:List YS_) (n:Int) (h:L.length<=100000000/\∀ x∈L,Yld x):Z4p L n:=Ylh call171 func171 (.z Yl1 L (.w (.g (.nilreg 5 true 5)) (.l (Z7m L n) (Ziz L n h) [0] [.s (li 0),.o (.y 5 [])] 0 (.t (.f [0] [.Ae (yAd n L)] (.sv (.r 0))) .q)))) (by
 dsimp only[Yl3,Z4p,Yle,Z7m]
 have g1:yAd n (L.take 0)=[]:=rfl
 exact z00)
abbrev Zfe (L:List YS_):Ct:=⟨170,[],[Af L],[],.sv (lb (Yr0 L))⟩
def Z7n (L:List YS_):Lp Nat:=.mk 15 0 (λx=>[(5,Af L),(6,li (L.map Yl1).length),(7,hs x 0)]) (λx=>[]) (λk=>[.s (li k)]) (λk=>k<=L.length/\L.length<=9223372036854775807/\Yr0 (L.take k)) (λk=>L.length - k) [.mk (Yr0 L) (.exit 0) (λx=>[]) (λx=>[]) [],.mk (Yr0 L=false) .ret (λx=>[(2,hs x 0)]) (λx=>[]) [.s (lb false)]]
theorem Zj0 (L:List YS_):Lp.Sem prog (Yli f170 0) (Z7n L):=Ylp (λk=>.i ((k:Int)<(L.map Yl1).length) (.x (k:Int) (L.map Yl1) (Yl8 (L.g k)) (.i ((L.g k).Ka≠1) (.o 1 [] [.s (lb false)]) (.r ((k:Int)+1) (.g [] (k+1) [.s (li ((k:Int)+1))])))) (.o 0 [] [])) (by
 intro k h;try dsimp only[Yl3,Yle,Z7n]at h|-
 with_reducible repeat' (first|apply ah|exact zR|(intro))
 all_goals ((try simp only[std,inj]at *);with_reducible and_intros)
 all_goals try first|exact z|grind[Ylk,Yl6,Yr0,Yla,Ylb,Yl5])
theorem Zj1 (L:List YS_):Zfe L:=Ylh call170 func170 (.z Yl1 L (.l (Z7n L) (Zj0 L) [] [.s (li 0)] 0 (.t (.s (lb true)) (.t (.s (lb false)) .q)))) (by
 dsimp only[Yl3,Zfe,Yle,Z7n]
 with_reducible repeat' (first|apply ah|exact zR|(intro))
 all_goals ((try simp only[std,inj]at *);with_reducible and_intros)
 all_goals try first|exact z|grind[Yr0,Yla,Ylb,Yl5])
theorem Y1px {L:List Int}{k:Nat}(h:k<L.length):Ymb (L.take (k+1))=if Yo1 (L.getD k 0)=3 then Ymb (L.take k) else Ymb (L.take k)++[L.getD k 0]:=by
 have e:=Ylk h
 unfold Ymb;rw[e,dw]
 show _++List.filter _ [L.getD k 0]=_
 generalize L.getD k 0=y
 by_cases hx:Yo1 y=3
 ·rw[ae hx];simp[hx]
 ·rw[ab hx];simp[hx]
theorem Y1sr (L:List Int) (k:Nat):(Ymb (L.take k)).length<=L.length:=by
 have h1:=cN (λx=>decide (¬ Yo1 x=3)) (L.take k)
 have h2:(L.take k).length<=L.length:=by rw[au];omega
 unfold Ymb;omega
abbrev Zbb (L:List Int):Ct:=⟨200,[],[Ag L],[.Aa (Ymb L)],.sv (.r 0)⟩
def Z7o (L:List Int):Lp Nat:=.mk 26 0 (λx=>[(3,.r 0),(11,Ag L),(12,li (L.map Yl4).length),(13,hs x 0)]) (λx=>[ho x 1]) (λk=>[.s (li k),.o (.Aa (Ymb (L.take k)))]) (λk=>k<=L.length/\L.length<=9223372036854775807) (λk=>L.length - k) [.mk True (.exit 0) (λx=>[(3,.r 0)]) (λx=>[ho x 0]) [.o (.Aa (Ymb L))]]
theorem Zj2 (L:List Int) (h:L.length<=2147483600/\Yns L):Lp.Sem prog (Yli f200 0) (Z7o L):=Ylp (λk=>let v1:=(Ymb (L.take k)).map Yl4;let v2:=(k:Int)+1;.i ((k:Int)<(L.map Yl4).length) (.x (k:Int) (L.map Yl4) [cI (L.getD k 0)] (.c [.rd] (Zab (L.getD k 0)) (.i (Yo1 (L.getD k 0)≠3) (.p ((v1.length+1) * 8<=140737488355328) (.r v2 (.g [2] (k+1) [.s (li v2),.o (.y 1 ((Ymb (L.take k)).map Yl4++[[cI (L.getD k 0)]]))]))) (.r v2 (.g [0] (k+1) [.s (li v2),.o (.y 1 v1)]))))) (.o 0 [0] [.o (.y 1 v1)])) (by
 intro k h;try dsimp only[Yl3,Yle,Z7o]at h|-
 have g1:=@Y1px L k
 have g2:=Y1sr L k
 have g3:L.length<=k->L.take k=L:=λh=>ar h
 exact z0a)
theorem Z9t (L:List Int) (h:L.length<=2147483600/\Yns L):Zbb L:=Ylh call200 func200 (.c [.rd] (Z7 L) (.b (!Yns L) (.d [.rd] (Z6 L) (.f [0] [.Aa L] (.sv (.r 0)))) (.z Yl4 L (.w (.g (.nilreg 3 true 1)) (.l (Z7o L) (Zj2 L h) [0] [.s (li 0),.o (.y 1 [])] 0 (.t (.f [0] [.Aa (Ymb L)] (.sv (.r 0))) .q)))))) (by
 dsimp only[Yl3,Zbb,Yle,Z7o]
 have g3:Ymb (L.take 0)=[]:=rfl
 exact z00)
abbrev Zm (s:YS_):Ct:=⟨65,[],[Yln s,fnA 200],Yp2 (Ylm Ymb s),.sv (Yoq (Ylm Ymb s) 0)⟩
def Z2d (s:YS_):Lp Nat:=let v4:Cell:=.y;let v1:=[vI 0,vI 0,vS (mkS []),.val v4,.val v4];let v2:=[vI s.Ka,vI s.Na,vS s.Ta,.ref 2,.ref 3];let v3:Ob:=.Aa (Ylm Ymb s).Sa;.mk 43 0 (λx=>[(1,.one (.val (.lit (.func (Fn.func 200) #[] #[])))),(4,.y 0),(5,.y 1),(27,Af s.Ia),(28,li (s.Ia.map Yl1).length),(29,hs x 0)]) (λx=>[.box v1,.box v2,ho x 2,ho x 1]) (λk=>[.s (li k),.o (.Ae (List.map (Ylm Ymb) (s.Ia.take k))),.o v3]) (λk=>k<=s.Ia.length/\s.Ia.length<=9223372036854775807) (λk=>s.Ia.length - k) [.mk True (.exit 0) (λx=>[(4,.y 0),(5,.y 1)]) (λx=>[.box v1,.box v2,ho x 1,ho x 0]) [.o (.Ae (List.map (Ylm Ymb) s.Ia)),.o v3]]
theorem Z9u (s:YS_) (h:wY s<=1000000000/\okY s) (ih:∀ (z:YS_),z∈s.Ia->wY z<=1000000000/\okY z->OK (Zm z)):Lp.Sem prog (Yli f65 0) (Z2d s):=Ylp (λk=>let v1:=List.map (Ylm Ymb) (s.Ia.take k);let v2:Ob:=.Aa (Ylm Ymb s).Sa;let v3:=s.Ia.g k;.i ((k:Int)<(s.Ia.map Yl1).length) (.x (k:Int) (s.Ia.map Yl1) (Yl8 v3) (.w (.draw [(5,[9,10]),(6,[3,17]),(8,[1])]) (.d [.rd,.rd] (Zm v3) (.p (((v1.map Yl1).length+1) * 80<=140737488355328) (.r ((k:Int)+1) (.g [0,1,2,18] (k+1) [.s (li ((k:Int)+1)),.o (.y 5 (v1.map Yl1++[Yl8 (Ylm Ymb v3)])),.o v2])))))) (.o 0 [0,1,2,3] [.o (.Ae v1),.o v2])) (by
 intro k h;try dsimp only[Yl3,Yle,Z2d]at h|-
 have g1:=Ymd s
 have g2:=@Yls _ wY s.Ia (s.Ia.g k)
 have g3:=@Y12l Ymb s.Ia k
 have g4:=λh=>@Yop s h (s.Ia.g k)
 exact z0g)
theorem Zj3 (s:YS_) (h:wY s<=1000000000/\okY s) (ih:∀ z∈s.Ia,∀ (h:wY z<=1000000000/\okY z),Zm z):Zm s:=Ylh call65 func65 (let v1:Tq _ _:=.t (.f [2,3] [.Aa (Ylm Ymb s).Sa,.Ae (List.map (Ylm Ymb) s.Ia)] (.sv (.agg [vI s.Ka,vI s.Na,vS s.Ta,.ref 0,.ref 1]))) .q;.w (.draw [(11,[18])]) (.d [.rd] (Z6 s.Sa) (.i (s.Ka=1) (.d [.rd] (Zbb s.Sa) (.z Yl1 s.Ia (.w (.g (.nilbox 18 4 true 5)) (.l (Z2d s) (Z9u s h ih) [1,18,19,20] [.s (li 0),.o (.y 5 []),.o (.Aa (Ymb s.Sa))] 0 v1)))) (.z Yl1 s.Ia (.w (.g (.nilbox 18 4 true 5)) (.l (Z2d s) (Z9u s h ih) [1,18,10,19] [.s (li 0),.o (.y 5 []),.o (.Aa s.Sa)] 0 v1)))))) (by
 dsimp only[Yl3,Zm,Yle,Z2d]
 have g1:=Ymd s
 have g2:=@Y1gr Ymb s
 have g3:=@Yu0 s
 exact z0h)
theorem Z3s (s:YS_):∀ (h:wY s<=1000000000/\okY s),Zm s:=YS_.ind (P:=λs=>∀ (h:wY s<=1000000000/\okY s),Zm s) (λs ih h=>Zj3 s h ih) s
abbrev Zak (K:List Yc):Ct:=⟨129,[.Ak K],[.r 0],.dead :: Y10h (sqV K),.tup [Y117 (sqV K) 1,li (sqE K)]⟩
def Z8q (K:List Yc):Lp Nat:=let v2:Cell:=.y;let v1:=[vI 0,vI 0,.val v2,vI 0,vI 0,vS (mkS []),.val v2,.val v2];.mk 39 1 (λx=>[(2,.y 1),(4,.r 2),(7,.r 3),(8,li (K.map Ylo).length),(9,hs x 0)]) (λx=>[.dead,.box v1,ho x 2,ho x 1]) (λk=>[.s (li k),.o (.y 8 ((K.take k).map Y17d++(K.drop k).map Ylo)),.o (.Ak (Ymh (K.take k)))]) (λk=>k<=K.length/\K.length<=9223372036854775807) (λk=>K.length - k) [.mk True (.exit 0) (λx=>[(2,.y 1),(4,.r 2)]) (λx=>[.dead,.box v1,ho x 0]) [.o (.Ak (Ymh K))]]
theorem Zjz (K:List Yc) (h:(Ymh K).length<=2147483647/\K.length<=2147483647):Lp.Sem prog (Yli f129 0) (Z8q K):=Ylp (λk=>let v7:=(K.take k).map Y17d++(K.drop k).map Ylo;let v6:=K.g k;let v1:Ob:=.y 8 (v7.set (k:Int).toNat [cI v6.Ka,cI v6.Na,.any,cI v6.Da.Ka,cI v6.Da.Na,cS v6.Da.Ta,.any,.any]);let v2:=v7[(k:Int).toNat]? = some (Ymz v6);let v3:=Ymh (K.take k);let v4:=(k:Int).toNat=(k:Int).toNat;let v5:=(k:Int)+1;let v8:=v3.map Ylo;.i ((k:Int)<(K.map Ylo).length) (.p (0<=(k:Int)/\(k:Int).toNat<v7.length) (.w (.subs (Ymz v6)) (.p v2 (.w (.g (.pull 4 (Ymz v6) [(2,1),(6,4),(7,8)])) (.p v2 (.p v4 (.p (∀ (x0:List Cell),x0∈v6.Pa.map Yl4->x0.length=1) (.p v4 (.p (∀ (x0:List Cell),x0∈v6.Da.Ia.map Ylf->x0.length=4) (.p v4 (.p (∀ (x0:List Cell),x0∈v6.Kb.map Ylo->x0.length=8) (.i (v6.Ka=8) (.p ((v8.length+(v6.Kb.map Ylo).length) * 120<=140737488355328) (.r v5 (.g [0,1,8,3] (k+1) [.s (li v5),.o v1,.o (.y 8 (v3.map Ylo++v6.Kb.map Ylo))]))) (.p ((v8.length+1) * 120<=140737488355328) (.r v5 (.g [0,1,9,3] (k+1) [.s (li v5),.o v1,.o (.y 8 (v3.map Ylo++[Ymz v6]))]))))))))))))))) (.o 0 [0,1,2] [.o (.y 8 v8)])) (by
 intro k h;try dsimp only[Yl3,Yle,Z8q]at h|-
 have g1:=@Y1pl K k
 have g2:=@Y1r6 K k
 have g3:=Y1rk K k
 have g4:=@Y1mn K k
 have g5:=Y1gf K (k+1)
 have g6:Yrz (K.g k)=if (K.g k).Ka=8 then (K.g k).Kb else [K.g k]:=rfl
 exact zV)
theorem Zal (K:List Yc) (h:(Ymh K).length<=2147483647/\K.length<=2147483647):Zak K:=Ylh call129 func129 (let v1:=(Ymh K).g 0;let v2:=(Ymh K).map Ylo;let v3:=(((Ymh K).map Ylo).length:Int);.z Ylo K (.w (.m 0) (.w (.g (.nilreg 4 true 8)) (.l (Z8q K) (Zjz K h) [0,1,3,2] [.s (li 0),.o (.Ak K),.o (.y 8 [])] 0 (.t (.z Ylo (Ymh K) (.i (v3=1) (.p ((0:Int)<=0/\0<v2.length) (.w (.subs (Ymz v1)) (.p (v2[0]? = some (Ymz v1)) (.w (.g (.pull 1 (Ymz v1) [(2,1),(6,4),(7,8)])) (.p (v2[0]? = some (Ymz v1)) (.p (0=0) (.p (∀ (x0:List Cell),x0∈v1.Pa.map Yl4->x0.length=1) (.p (0=0) (.p (∀ (x0:List Cell),x0∈v1.Da.Ia.map Ylf->x0.length=4) (.p (0=0) (.p (∀ (x0:List Cell),x0∈v1.Kb.map Ylo->x0.length=8) (.f [3,4,5] [.dead,.Aa v1.Pa,.Ah v1.Da.Ia,.Ak v1.Kb] (.tup [.agg [vI v1.Ka,vI v1.Na,.ref 1,vI v1.Da.Ka,vI v1.Da.Na,vS v1.Da.Ta,.ref 2,.ref 3],li 0]))))))))))))) (.z Ylo (Ymh K) (.i (60<v3) (.w (.g (.nilbox 1 2 true 1)) (.w (.g (.nilbox 1 6 true 4)) (.w (.g (.nilbox 1 7 true 8)) (.f [3,4,5] [.dead,.y 1 [],.y 4 [],.y 8 []] (.tup [.agg [vI 0,vI 0,.ref 1,vI 0,vI 0,vS (mkS []),.ref 2,.ref 3],li 8]))))) (.w (.g (.nilbox 1 2 true 1)) (.w (.g (.nilbox 1 6 true 4)) (.f [3,4,2] [.dead,.y 1 [],.y 4 [],.y 8 v2] (.tup [.agg [vI 8,vI 0,.ref 1,vI 0,vI 0,vS (mkS []),.ref 2,.ref 3],li 0])))))))) .q))))) (by
 dsimp only[Yl3,Zak,Yle,Z8q]
 have g1:=Y1nw K
 have g2:=Y23f K
 have q1:sqE K=if 60<((Ymh K).length:Int) then 8 else 0:=rfl
 have q2:sqE K=0->sqV K=Yyf K:=λe=>ae e
 have q3:¬ sqE K=0->sqV K=yN:=λe=>ab e
 have q4:yN=⟨0,0,[],⟨0,0,mkS [],[]⟩,[]⟩:=rfl
 with_reducible repeat' (first|apply ah|exact zR|(intro))
 all_goals ((try simp only[std,inj]at *);with_reducible and_intros)
 all_goals try first|exact z|grind[Yyf,Yla,Ylb,Yl5])
theorem Y11u {α β:Type}[Inhabited α] {f:α->YS->YR β}:∀ (L:List α) (m:YS),¬ (Yl9 f L m).e=0->(Yl9 f L m).v=[]
 | [],_,h=>absurd rfl h
 | x :: r,m,h=>by
  rw[Yoi]at h|-
  by_cases c:(f x m).e=0
  ·rw[ae c]at h|-
   by_cases d:(Yl9 f r (f x m).m).e=0
   ·rw[ae d]at h;exact absurd rfl h
   ·rw[ab d];exact Y11u r _ d
  ·rw[ab c]
theorem pvX {P:List YS_}{m:YS}{k:Nat}(h:okX m.x) (hP:∀ x∈P,Yld x) (e:(Yl9 yVr (P.take k) m).e=0) :
  okX (Yl9 yVr (P.take k) m).m.x/\(Yl9 yVr (P.take k) m).m.Ma=m.Ma/\(Yl9 yVr (P.take k) m).m.Sb=m.Sb/\(Yl9 yVr (P.take k) m).m.Sc=m.Sc/\(Yl9 yVr (P.take k) m).m.z=m.z/\(Yl9 yVr (P.take k) m).v.length<=k:=by
 have g:=Y1ix h (λx hx=>hP x (bt hx)) e
 have l:=Yp7 (P.take k) m e
 rw[au]at l
 exact⟨g.1,g.2.1,g.2.2.1,g.2.2.2.1,g.2.2.2.2,by omega⟩
abbrev Z6v (m:YS) (P:List YS_) (most:Int) (B:List YS_):Ct:=⟨131,stY m,[.y 0,Af P,li most,Af B],stW (yPr P most B m).m++[.Aa (yPr P most B m).v.1,.Ae (yPr P most B m).v.2],.tup [.r 4,.r 5,li (yPr P most B m).e]⟩
def Z7p (m:YS) (P:List YS_) (most:Int) (B:List YS_):Lp Nat:=let v3:=yAd (nxt m.Sb 1) P;let v4:=ySc 1 m;let v1:=Yl9 yVr v3 v4;let v2:SV:=.one (.val (.y));let v5:Ob:=.Ac v1.m.Ba;let v6:Ob:=.Ad v1.m.Ma;.mk 59 3 (λx=>[(0,.y 0),(3,Af B),(11,li (nxt m.Sb 1)),(13,.r 3),(35,.r 4),(36,li (v3.map Yl1).length),(37,hs x 0)]) (λx=>[.box [.ref 5,.ref 2,ha x 3,ha x 4,ha x 5,ha x 6],.dead,ho x 2,ho x 7,.Ae v3,ho x 1]) (λk=>[.s (li k),.o (.Ac (Yl9 yVr (v3.take k) v4).m.Ba),.o (.Ad (Yl9 yVr (v3.take k) v4).m.Ma),.a (vI (Yl9 yVr (v3.take k) v4).m.Sb),.a (vI (Yl9 yVr (v3.take k) v4).m.Va),.a (vI (Yl9 yVr (v3.take k) v4).m.Sc),.a (vI (Yl9 yVr (v3.take k) v4).m.z),.o (.Aa (Yl9 yVr (v3.take k) v4).v)]) (λk=>k<=v3.length/\cdN m.Sb (1:Int)=0/\(Yl9 yVr (v3.take k) v4).e=0) (λk=>v3.length - k) [.mk (v1.e=0) (.exit 0) (λx=>[(3,Af B),(11,li (nxt m.Sb 1)),(13,.r 3)]) (λx=>[.box [.ref 4,.ref 2,ha x 2,ha x 3,ha x 4,ha x 5],.dead,ho x 1,ho x 6,ho x 0]) [.o v5,.o v6,.a (vI v1.m.Sb),.a (vI v1.m.Va),.a (vI v1.m.Sc),.a (vI v1.m.z),.o (.Aa v1.v)],.mk (¬(Yl9 yVr v3 v4).e=0) .ret (λx=>[(8,hs x 6),(9,hs x 7),(10,hs x 8)]) (λx=>[.box [.ref 3,.ref 2,ha x 2,ha x 3,ha x 4,ha x 5],.dead,ho x 1,ho x 0]) [.o v5,.o v6,.a (vI v1.m.Sb),.a (vI v1.m.Va),.a (vI v1.m.Sc),.a (vI v1.m.z),.s v2,.s v2,.s (li v1.e)]]
theorem Zj4 (m:YS) (P:List YS_) (most:Int) (B:List YS_) (h:okX m.x/\(∀ (x:YS_),x∈P->Yld x)/\(∀ (x:YS_),x∈B->Yld x)/\P.length<=100000000/\B.length<=100000000):Lp.Sem prog (Yli f131 0) (Z7p m P most B):=Ylp (λk=>let v10:=yAd (nxt m.Sb 1) P;let v7:=v10.g (k:Int).toNat;let v6:=Yl9 yVr (v10.take k) (ySc 1 m);let v1:=yVr v7 v6.m;let v2:=v6.v.map Yl4;let v3:=Yl8 v7;let v4:SV:=.one (.val (.y));let v5:=v10.map Yl1;let v8:Ob:=.Ac v1.m.Ba;let v9:Ob:=.Ad v1.m.Ma;.i ((k:Int)<(v10.map Yl1).length) (.p (0<=(k:Int)/\(k:Int).toNat<v5.length) (.w (.cells v3) (.p (v5[(k:Int).toNat]? = some v3) (.d [.ptr,.rd] (Z6r v6.m v7) (.i (v1.e≠0) (.o 1 [0,1,2,10] [.o v8,.o v9,.a (vI v1.m.Sb),.a (vI v1.m.Va),.a (vI v1.m.Sc),.a (vI v1.m.z),.s v4,.s v4,.s (li v1.e)]) (.p ((v2.length+1) * 8<=140737488355328) (.r ((k:Int)+1) (.g [0,1,2,12,4,10] (k+1) [.s (li ((k:Int)+1)),.o v8,.o v9,.a (vI v1.m.Sb),.a (vI v1.m.Va),.a (vI v1.m.Sc),.a (vI v1.m.z),.o (.y 1 (v6.v.map Yl4++[[cI v1.v]]))])))))))) (.o 0 [0,1,2,3,5] [.o (.Ac v6.m.Ba),.o (.Ad v6.m.Ma),.a (vI v6.m.Sb),.a (vI v6.m.Va),.a (vI v6.m.Sc),.a (vI v6.m.z),.o (.y 1 v2)])) (by
 intro k h;try dsimp only[Yl3,Yle,Z7p]at h|-
 have hh := ‹okX m.x/\(∀ x∈P,Yld x)/\_›
 have hc:=Yq4 (Yrd hh.1).2.2.1.1 h.2.1
 have hP:=Ys2 ⟨hc.1,hc.2.1⟩ hh.2.1
 have hl:(yAd (nxt m.Sb 1) P).length=P.length:=by simp[yAd]
 have g1:=pvX (k:=k) (Ys5 1 hh.1) hP h.2.2
 have g2:k<(yAd (nxt m.Sb 1) P).length->wY ((yAd (nxt m.Sb 1) P).g k)<=1000000000:=λa=>by have:=(Ymx (hP _ (Yl6 a))).1;omega
 have g3:=λa b=>Yzh (f:=yVr) (L:=yAd (nxt m.Sb 1) P) (m:=ySc 1 m) (k:=k) a h.2.2 b
 have g4:=λa b=>Y101 (f:=yVr) (L:=yAd (nxt m.Sb 1) P) (m:=ySc 1 m) (k:=k) a h.2.2 b
 have g5:=λa=>Yzp (f:=yVr) (L:=yAd (nxt m.Sb 1) P) (m:=ySc 1 m) (k:=k) a
 exact z16)
theorem Z6w (m:YS) (P:List YS_) (most:Int) (B:List YS_) (h:okX m.x/\(∀ x∈P,Yld x)/\(∀ x∈B,Yld x)/\P.length<=100000000/\B.length<=100000000):Z6v m P most B:=Ylh call131 func131 (let v9:=nxt m.Sb 1;let v8:=ySc 1 m;let v1:=Yl9 yVr (yAd v9 P) v8;let v2:List Ob:=[.box [.ref 3,.ref 2,vI m.Sb,vI m.Va,vI m.Sc,vI m.z],.dead,.Ad m.Ma,.Ac m.Ba,.y 1 [],.y 5 []];let v3:Orc:=.ghost (.nilreg 9 true 5);let v4:Orc:=.ghost (.nilreg 8 true 1);let v5:=v8.Ba.map Yl2;let v6:=v8.Ma.map Ylc;let v7:List AC:=[.ref 3,.ref 2,vI v1.m.Sb,vI v1.m.Va,vI v1.m.Sc,vI v1.m.z];let v10:=v1.m.Ba.map Yl2;.c [.rd] (Zj1 P) (.b (!Yr0 P) (.w v4 (.w v3 (.w (.m 1) (.f [5,3,4] v2 (.tup [.r 4,.r 5,li 1]))))) (.z Yl1 P (.i (most<((P.map Yl1).length:Int)) (.w v4 (.w v3 (.w (.m 1) (.f [5,3,4] v2 (.tup [.r 4,.r 5,li 8]))))) (.d [.ptr,.rd] (Z4o m 1) (.i (cdN m.Sb (1:Int)≠0) (.w v4 (.w v3 (.w (.m 1) (.f [5,3,4] [.box [.ref 3,.ref 2,vI v8.Sb,vI v8.Va,vI v8.Sc,vI v8.z],.dead,.y 3 v6,.y 4 v5,.y 1 [],.y 5 []] (.tup [.r 4,.r 5,li (cdN m.Sb 1)]))))) (.d [.rd,.rd] (Z4p P v9) (.z Yl1 (yAd v9 P) (.w (.m 1) (.w (.g (.nilreg 13 true 1)) (.l (Z7p m P most B) (Zj4 m P most B h) [0,1,2,5,3,4] [.s (li 0),.o (.y 4 v5),.o (.y 3 v6),.a (vI v8.Sb),.a (vI v8.Va),.a (vI v8.Sc),.a (vI v8.z),.o (.y 1 [])] 0 (.t (.d [.rd,.rd] (Z4p B v9) (.f [4,3,5] [.box v7,.dead,.Ad v1.m.Ma,.y 4 v10,.Aa v1.v,.Ae (yAd v9 B)] (.tup [.r 4,.r 5,li 0]))) (.t (.w v4 (.w v3 (.f [3,4,5] [.box v7,.dead,.Ad v1.m.Ma,.y 4 v10,.y 1 [],.y 5 []] (.tup [.r 4,.r 5,li v1.e])))) .q))))))))))))) (by
 dsimp only[Yl3,Z6v,Yle,Z7p]
 have hl:(yAd (nxt m.Sb 1) P).length=P.length:=by simp[yAd]
 have hn:=@Yq4 m.Sb 1 (Yrd h.1).2.2.1.1
 have g0:=Y11m (f:=yVr) (L:=yAd (nxt m.Sb 1) P) (m:=ySc 1 m)
 have g1:∀ x:YS_,Yld x->True:=λ_ _=>trivial
 with_reducible repeat' (first|apply ah|exact zR|(intro)|apply Za|apply Ze|apply Z5j)
 all_goals ((try simp only[std,inj]at *);with_reducible and_intros)
 all_goals try first|with_reducible (first|apply Za|apply Ze|apply Z5j)|(simp only[<- aq];with_reducible first|apply Za|apply Ze|apply Z5j)
 all_goals try first|exact zw|grind[yPr,Yla,Ylb,Yl5])
end
section
theorem Y1jq {s:YS_}(h:Yld s):wY (Ylm Ymb s)<=1000000000:=by have:=(Ymx (Yyw h)).1;omega
theorem Y1vc {s:YS_}{m:YS}(h:(yDf s m).v.p=false):(yDf s m).v.P=[]/\(yDf s m).v.B=[]:=by
 revert h;unfold yDf;split
 ·exact λ_=>⟨rfl,rfl⟩
 split
 ·exact λ_=>⟨rfl,rfl⟩
 split
 ·exact λh=>absurd (show true=false from h) dW
 ·exact λ_=>⟨rfl,rfl⟩
theorem Y1xe {p:YP}(h:p.p):vals (yPF p)=[vB p.d,vI p.n,vI p.s.Ka,vI p.s.Na,vS p.s.Ta,vL (p.s.Sa.map Yl4),vL (p.s.Ia.map Yl1),vL (p.P.map Yl1),vL (p.B.map Yl1)]:=by rw[Y1ml h];rfl
theorem Y1z4 {p:YP}(h:p.p=false):vals (yPF p)=[vB p.d,vI p.n,vI p.s.Ka,vI p.s.Na,vS p.s.Ta,vL (p.s.Sa.map Yl4),vL (p.s.Ia.map Yl1),.val (.lit (.slice none 0 0)),.val (.lit (.slice none 0 0))]:=by rw[Y1n4 h];rfl
theorem Y25s {s:YS_}{m:YS}(h:(s.Ia.length:Int)<3):yDf s m=⟨default,1,m⟩:=ae h
theorem Y257 {s:YS_}{m:YS}(h:¬ (s.Ia.length:Int)<3) (h2:(s.Ia.g 1).Ka=1) (h3:(s.Ia.length:Int)=3):yDf s m =
  ⟨⟨true,(yVr (Ylm Ymb (s.Ia.g 1)) m).v,s.Ia.g 2,false,[],[]⟩,(yVr (Ylm Ymb (s.Ia.g 1)) m).e,(yVr (Ylm Ymb (s.Ia.g 1)) m).m⟩:=by
 unfold yDf;rw[ab h,ae ⟨h2,h3⟩]
theorem Y259 {s:YS_}{m:YS}(h:¬ (s.Ia.length:Int)<3) (h2:(s.Ia.g 1).Ka=0) (h3:¬ (s.Ia.g 1).Ia.length=0) (h4:Yr0 (s.Ia.g 1).Ia):yDf s m =
  ⟨⟨true,(yVr (Ylm Ymb ((s.Ia.g 1).Ia.g 0)) m).v,zY,true,(s.Ia.g 1).Ia.drop 1,s.Ia.drop 2⟩,(yVr (Ylm Ymb ((s.Ia.g 1).Ia.g 0)) m).e,(yVr (Ylm Ymb ((s.Ia.g 1).Ia.g 0)) m).m⟩:=by
 unfold yDf;rw[ab h,ab (by rw[h2];exact λh=>absurd h.1 dW),ae ⟨h2,h3,h4⟩]
theorem Y25y {s:YS_}{m:YS}(h:¬ (s.Ia.length:Int)<3) (h2:¬ ((s.Ia.g 1).Ka=1/\(s.Ia.length:Int)=3)) (h3:¬ ((s.Ia.g 1).Ka=0/\¬ (s.Ia.g 1).Ia.length=0/\Yr0 (s.Ia.g 1).Ia)):yDf s m=⟨default,1,m⟩:=by
 unfold yDf;rw[ab h,ab h2,ab h3]
theorem Y20s:(default:YP)=⟨false,0,zY,false,[],[]⟩:=rfl
abbrev Zgy (s:YS_) (m:YS):Ct:=⟨199,stY m,[.y 0,Yln s],stW (yDf s m).m,.tup [.agg (vals (yPF (yDf s m).v)),li (yDf s m).e]⟩
theorem Zkb (s:YS_) (m:YS) (h:okX m.x/\Yld s):Zgy s m:=Ylh call199 func199 (let v14:Orc:=.ghost (.nilbox 4 5 true 1);let v13:Orc:=.ghost (.nilbox 4 6 true 1);let v12:List Ob:=[.box [.ref 3,.ref 2,vI m.Sb,vI m.Va,vI m.Sc,vI m.z],.dead,.Ad m.Ma,.Ac m.Ba];let v17:Cell:=.y;let v11:AV:=.tup [.agg [vB false,vI 0,vI 0,vI 0,vS (mkS []),vL [],vL [],.val v17,.val v17],li 1];let v1:Tq _ _:=.w (.m 1) (.w v14 (.w v13 (.w (.g (.lock 8)) (.w (.g (.lock 9)) (.f [7] v12 v11)))));let v9:=s.Ia.g 1;let v19:=v9.Ia.g 0;let v18:=Yl8 v19;let v16:=v9.Ia.map Yl1;let v15:=yVr (Ylm Ymb v19) m;let v10:=s.Ia.map Yl1;let v2:Tq _ _:=.w (.cells v18) (.p ((0:Int)<=0/\v16[0]? = some v18) (.d [.rd,.rd] (Zm v19) (.d [.ptr,.rd] (Z6r m (Ylm Ymb v19)) (.w v14 (.w v13 (.w (.g (.lock 13)) (.w (.g (.lock 14)) (.f [12] [.box [.ref 3,.ref 2,vI v15.m.Sb,vI v15.m.Va,vI v15.m.Sc,vI v15.m.z],.dead,.Ad v15.m.Ma,.Ac v15.m.Ba] (.tup [.agg [vB true,vI v15.v,vI 0,vI 0,vS (mkS []),vL [],vL [],vL (List.take (v16.length - 1) (v16.drop 1)),vL (List.take (v10.length - 2) (v10.drop 2))],li v15.e])))))))));let v3:=yVr (Ylm Ymb v9) m;let v4:=s.Ia.g 2;let v5:=0<((v9.Ia.map Yl1).length:Int);let v6:=((s.Ia.map Yl1).length:Int);let v7:=Zj1 v9.Ia;let v8:=Yr0 v9.Ia;.z Yl1 s.Ia (.i (v6<3) (.w (.m 1) (.w v14 (.w v13 (.w (.g (.lock 6)) (.w (.g (.lock 7)) (.f [5] v12 v11)))))) (.w (.cells (Yl8 v9)) (.p ((0:Int)<=1/\v10[1]? = some (Yl8 v9)) (.i (v9.Ka=1) (.z Yl1 s.Ia (.i (v6=3) (.w (.cells (Yl8 v4)) (.p ((0:Int)<=2/\v10[2]? = some (Yl8 v4)) (.d [.rd,.rd] (Zm v9) (.d [.ptr,.rd] (Z6r m (Ylm Ymb v9)) (.f [12] [.box [.ref 3,.ref 2,vI v3.m.Sb,vI v3.m.Va,vI v3.m.Sc,vI v3.m.z],.dead,.Ad v3.m.Ma,.Ac v3.m.Ba] (.tup [.agg [vB true,vI v3.v,vI v4.Ka,vI v4.Na,vS v4.Ta,Ap v4.Sa,Am v4.Ia,.val v17,.val v17],li v3.e])))))) (.i (v9.Ka=0) (.z Yl1 v9.Ia (.i v5 (.c [.rd] v7 (.b v8 (.p ((0:Int)<=1) (.p (1<=v16.length/\v16.length<=v16.length/\∀ (x0:List Cell),x0∈v9.Ia.map Yl1->x0.length=5) (.p ((0:Int)<=2) (.p (2<=v10.length/\v10.length<=v10.length/\∀ (x0:List Cell),x0∈s.Ia.map Yl1->x0.length=5) v2)))) v1)) (.y false v1))) (.y false (.y false v1))))) (.y false (.i (v9.Ka=0) (.z Yl1 v9.Ia (.i v5 (.c [.rd] v7 (.b v8 (.p ((0:Int)<=1) (.p (1<=v16.length/\v16.length<=v16.length/\∀ (x0:List Cell),x0∈v9.Ia.map Yl1->x0.length=5) (.p ((0:Int)<=2) (.p (2<=v10.length/\v10.length<=v10.length/\∀ (x0:List Cell),x0∈s.Ia.map Yl1->x0.length=5) v2)))) v1)) (.y false v1))) (.y false (.y false v1))))))))) (by
 dsimp only[Yl3,Zgy]
 have g1:=λk=>@Yoh s k h.2
 have g2:=λk (hk:k<s.Ia.length)=>(Ymx (g1 k hk))
 have g3:=λk (hk:k<(s.Ia.g 1).Ia.length) (h1:1<s.Ia.length)=>Ymx (Yoh (g1 1 h1) hk)
 have e1:=@Y25s s m
 have e2:=@Y257 s m
 have e3:=@Y259 s m
 have e4:=@Y25y s m
 have e5:=@Y1xe (yDf s m).v
 have e6:=@Y1z4 (yDf s m).v
 have e7:=Y20s
 have e8:zY.Ka=0/\zY.Na=0/\zY.Ta=mkS []/\zY.Sa=[]/\zY.Ia=[]:=⟨rfl,rfl,rfl,rfl,rfl⟩
 have e11:List.take ((s.Ia.g 1).Ia.length - 1) (List.drop 1 (s.Ia.g 1).Ia)=List.drop 1 (s.Ia.g 1).Ia:=ar (by rw[ax];omega)
 have e12:List.take (s.Ia.length - 2) (List.drop 2 s.Ia)=List.drop 2 s.Ia:=ar (by rw[ax];omega)
 have e9:=λ(k:Nat) (a:k<s.Ia.length)=>Y1jq (g1 k a)
 have e10:=λk (hk:k<(s.Ia.g 1).Ia.length) (h1:1<s.Ia.length)=>Y1jq (Yoh (g1 1 h1) hk)
 exact z03)
abbrev Z9v (s:YS_) (m:YS):Ct:=⟨199,stY m,[.y 0,Yln s],stW (yDf s m).m,.tup [.agg (vals (yPT (yDf s m).v)),li (yDf s m).e]⟩
theorem Z6f (s:YS_) (m:YS) (h:okX m.x/\Yld s/\(yDf s m).v.p):OK (Z9v s m):=by
 have e:vals (yPT (yDf s m).v)=vals (yPF (yDf s m).v):=by rw[Y1ml h.2.2]
 unfold Z9v;rw[e];exact Zkb s m ⟨h.1,h.2.1⟩
abbrev Z9w (s:YS_) (m:YS):Ct:=⟨199,stY m,[.y 0,Yln s],stW (yDf s m).m,.tup [.agg (vals (yPN (yDf s m).v)),li (yDf s m).e]⟩
theorem Z6g (s:YS_) (m:YS) (h:okX m.x/\Yld s/\(yDf s m).v.p=false):OK (Z9w s m):=by
 have e:vals (yPN (yDf s m).v)=vals (yPF (yDf s m).v):=by rw[Y1n4 h.2.2]
 unfold Z9w;rw[e];exact Zkb s m ⟨h.1,h.2.1⟩
end
theorem Yuy:∀ (n:Nat) (q:List YS_) (o:List YP) (m:YS),¬ (yLk n q o m).e=0->(yLk n q o m).v=[]
 | n,[],o,m=>by unfold yLk;exact λh=>absurd rfl h
 | 0,s :: q,o,m=>by unfold yLk;exact λ_=>rfl
 | n+1,s :: q,o,m=>by
  have key:∀ {c:Prop} [Decidable c] {a b:YR (List YP)},(¬ a.e=0->a.v=[])->(¬ b.e=0->b.v=[])->(¬ (if c then a else b).e=0->(if c then a else b).v=[]):=by
   intro c _ a b ha hb;split<;>assumption
  unfold yLk
  exact key (λ_=>rfl) (key (key (Yuy n _ _ _) (λ_=>rfl)) (key (Yuy n _ _ _) (key (key (Yuy n _ _ _) (λ_=>rfl)) (key (key (Yuy n _ _ _) (λ_=>rfl)) (Yuy n _ _ _)))))
theorem Y1un {q:List YS_}{o:List YP}{m:YS}(h:¬ (yLX q o m).e=0):(yLX q o m).v=[]:=by rw[Yxn]at h|-;exact Yuy _ _ _ _ h
end Go.Proofs.YtcbodhkhppgkiaaGreat
end
