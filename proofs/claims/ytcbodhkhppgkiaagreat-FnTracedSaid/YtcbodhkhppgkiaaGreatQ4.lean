/- Part 4 of the machine. No condition. -/
import Derived.Test.YtcbodhkhppgkiaaGreatQ3
set_option linter.unusedVariables false
set_option linter.unusedSimpArgs false
section
namespace Go.Proofs.YtcbodhkhppgkiaaGreat.Ab
open Go
inductive Hv where
 | s (x:SV)
 | o (x:Ob)
 | a (x:AC)
def hs (l:List Hv) (i:Nat):SV:=match l[i]? with|some (.s x)=>x|_=>.one .top
def ho (l:List Hv) (i:Nat):Ob:=match l[i]? with|some (.o x)=>x|_=>.free
def ha (l:List Hv) (i:Nat):AC:=match l[i]? with|some (.a x)=>x|_=>.top
structure Ct where
 f:FuncId
 o:List Ob
 a:List SV
 o1:List Ob
 r:AV
abbrev OKP (P:Program) (c:Ct):Prop:=Ynw P c.f c.o c.a c.o1 c.r
def Y1vd (n:Nat) (l:List (Nat×SV)):List AV:=(List.range n).map λt=>match l.lookup t with|some v=>.sv v|none=>Yu5
structure Wy where
 p:Prop
 ex:AEx
 R:List Hv->List (Nat×SV)
 O:List Hv->List Ob
 y:List Hv
instance:Inhabited Wy:=⟨⟨False,.normal,λ_=>[],λ_=>[],[]⟩⟩
structure Lp (σ:Type) where
 n:Nat
 m:Nat
 R:List Hv->List (Nat×SV)
 O:List Hv->List Ob
 v:σ->List Hv
 inv:σ->Prop
 meas:σ->Nat
 ways:List Wy
section
variable {σ:Type}
def Lp.T (l:Lp σ) (x:List Hv):St:=⟨Y1vd l.n (l.R x),l.O x,l.m⟩
def Lp.W (l:Lp σ) (w:Wy) (x:List Hv):St:=⟨Y1vd l.n (w.R x),w.O x,l.m⟩
def Lp.I (l:Lp σ):Nat->St->Prop:=Y1gu (λk=>l.T (l.v k)) l.inv l.meas
def Lp.Y (l:Lp σ):Y19q:=l.ways.map λw=>(w.p,w.ex,l.W w w.y)
def Lp.Sem (P:Program) (c:Code) (l:Lp σ):Prop:=Yv3 P c l.I l.Y
def Y1mb (R:List Hv->List (Nat×SV)):List Nat:=(R []).map λp=>p.1
def Yle:List Wy->Nat->Wy
 | [],_=>default
 | w :: _,0=>w
 | _ :: r,n+1=>Yle r n
end
class Row (α:Type) (C:α->List Cell) (F:outParam (α->List Cell)) (n:outParam Nat):Prop where
 eq:∀ x,C x=F x
 len:∀ x,(F x).length=n
theorem Y1yb {α:Type}[Inhabited α] {C F:α->List Cell}{n:Nat}[Row α C F n] {L:List α}{i:Nat}(h:i<L.length):(L.map C)[i]? = some (F (L.getD i default)):=by
 rw[<- Row.eq (C:=C) (F:=F)];simp[h]
inductive Lf (σ:Type) where
 | fn (o:List Ob) (r:AV)
 | lp (l:Lp σ) (k:σ)
inductive Tq (P:Program) (σ:Type):Type 1 where
 | w (q:Orc) (n:Tq P σ)
 | p (p:Prop) (n:Tq P σ)
 | h (p:Prop) (n:Tq P σ)
 | y (b:Bool) (n:Tq P σ)
 | r (x:Int) (n:Tq P σ)
 | c (ms:List Mode) {K:Ct} (pf:OKP P K) (n:Tq P σ)
 | d (ms:List Mode) (K:Ct) (n:Tq P σ)
 | u (ms:List Mode) (K:Ct) (n:Tq P σ)
 | v {K:Ct} (pf:OKP P K) (n:Tq P σ)
 | b (c:Bool) (x y:Tq P σ)
 | i (p:Prop) [hd:Decidable p] (x y:Tq P σ)
 | x (k:Int) (es:List (List Cell)) (cl:List Cell) (n:Tq P σ)
 | e {α:Type} [hi:Inhabited α] (C:α->List Cell) {F:α->List Cell} {m:Nat} [hr:Row α C F m] (L:List α) (k:Nat) (n:Tq P σ)
 | z {α:Type} (C:α->List Cell) (L:List α) (n:Tq P σ)
 | l {τ:Type} (L:Lp τ) {c:Code} (pf:L.Sem P c) (ids:List Nat) (x:List Hv) (k:τ) (outs:Tq P σ)
 | t (x n:Tq P σ)
 | q
 | f (ids:List Nat) (x:List Ob) (r:AV)
 | s (r:SV)
 | o (i:Nat) (ids:List Nat) (x:List Hv)
 | g (ids:List Nat) (k:σ) (x:List Hv)
section
variable {P:Program}{σ:Type}
def unL:List Orc->Y19r
 | [.loop _ _ _ o]=>o
 | _=>[]
def mkL (o:Y19r):List Orc:=[.loop 0 ⟨[],[],0⟩ (λ_ _=>True) o]
def Yp6:Tq P σ->(Wy->St)->List Wy->Lf σ->List Orc
 | .w q n,W,ws,lf=>q :: Yp6 n W ws lf
 | .p _ n,W,ws,lf=>Yp6 n W ws lf
 | .h _ n,W,ws,lf=>Yp6 n W ws lf
 | .y b n,W,ws,lf=>.bool b :: Yp6 n W ws lf
 | .r _ n,W,ws,lf=>Yp6 n W ws lf
 | .c ms (K:=K) _ n,W,ws,lf=>.call ms K.o1 K.r :: Yp6 n W ws lf
 | .d ms K n,W,ws,lf=>.call ms K.o1 K.r :: Yp6 n W ws lf
 | .u ms K n,W,ws,lf=>.call ms K.o1 K.r :: Yp6 n W ws lf
 | .v _ n,W,ws,lf=>Yp6 n W ws lf
 | .b _ x y,W,ws,lf=>[.br (Yp6 x W ws lf) (Yp6 y W ws lf)]
 | @Tq.i _ _ _ _ x y,W,ws,lf=>[.br (Yp6 x W ws lf) (Yp6 y W ws lf)]
 | .x _ _ cl n,W,ws,lf=>.cells cl :: Yp6 n W ws lf
 | @Tq.e _ _ _ hi _ F _ _ L k n,W,ws,lf=>.cells (F (L.getD k (@default _ hi))) :: Yp6 n W ws lf
 | .z _ _ n,W,ws,lf=>Yp6 n W ws lf
 | .l L _ ids _ k outs,_,_,lf=>[.ghost (.sel ids (Y1mb L.R)),.loop (L.meas k) (L.T (L.v k)) L.I (unL (Yp6 outs (λw=>L.W w w.y) L.ways lf))]
 | .t x n,W,w :: ws,lf=>mkL ((w.p,w.ex,W w,Yp6 x W [] lf) :: unL (Yp6 n W ws lf))
 | .t _ _,_,[],_=>mkL []
 | .q,_,_,_=>mkL []
 | .f ids _ _,_,_,_=>[.fin ids]
 | .s _,_,_,_=>[.fin []]
 | .o i ids _,_,_,.lp L _=>[.ghost (.sel ids (Y1mb (Yle L.ways i).R)),.out i]
 | .o _ _ _,_,_,_=>[]
 | .g ids k _,_,_,.lp L _=>[.ghost (.sel ids (Y1mb L.R)),.goto (L.meas k) (L.T (L.v k))]
 | .g _ _ _,_,_,_=>[]
def Yoj:Tq P σ->List Wy->Lf σ->Prop
 | .w _ n,ws,lf=>Yoj n ws lf
 | .p p n,ws,lf=>p/\Yoj n ws lf
 | .h p n,ws,lf=>p->Yoj n ws lf
 | .y b n,ws,lf=>b=b/\Yoj n ws lf
 | .r x n,ws,lf=>rng .i64 x/\Yoj n ws lf
 | .c _ (K:=K) _ n,ws,lf=>Ynw P K.f K.o K.a K.o1 K.r/\Yoj n ws lf
 | .d _ K n,ws,lf=>Ynw P K.f K.o K.a K.o1 K.r/\Yoj n ws lf
 | .u _ _ n,ws,lf=>Yoj n ws lf
 | .v (K:=K) _ n,ws,lf=>Ynw P K.f K.o K.a K.o1 K.r/\Yoj n ws lf
 | .b c x y,ws,lf=>(c->Yoj x ws lf)/\(c=false->Yoj y ws lf)
 | @Tq.i _ _ p hd x y,ws,lf=>(@decide p hd->Yoj x ws lf)/\(@decide p hd=false->Yoj y ws lf)
 | .x k es cl n,ws,lf=>(0<=k/\es[k.toNat]? = some cl)/\Yoj n ws lf
 | @Tq.e _ _ _ hi C F _ _ L k n,ws,lf=>(0<=(k:Int)/\(L.map C)[(k:Int).toNat]? = some (F (L.getD k (@default _ hi))))/\Yoj n ws lf
 | .z C L n,ws,lf=>(L.map C).length<=maxLen->Yoj n ws lf
 | .l L (c:=c) _ _ x k outs,_,lf=>L.T x=L.T (L.v k)/\L.I (L.meas k) (L.T (L.v k))/\Yv3 P c L.I L.Y/\Yoj outs L.ways lf
 | .t x n,w :: ws,lf=>(w.p->Yoj x [] lf)/\Yoj n ws lf
 | .t _ _,[],_=>True
 | .q,_,_=>True
 | .f _ x r,_,.fn o1 r1=>Y142 x o1/\r=r1
 | .f _ _ _,_,_=>False
 | .s x,_,.fn o1 r1=>Y142 [] o1/\.sv x=r1
 | .s _,_,_=>False
 | .o i _ x,_,.lp L _=>(Yle L.ways i).p/\L.W (Yle L.ways i) x=L.W (Yle L.ways i) (Yle L.ways i).y
 | .o _ _ _,_,_=>False
 | .g _ k' x,_,.lp L k=>L.meas k'<L.meas k/\L.T x=L.T (L.v k')/\L.I (L.meas k') (L.T (L.v k'))
 | .g _ _ _,_,_=>False
def Yl3:Tq P σ->List Wy->Lf σ->Prop
 | .w _ n,ws,lf=>Yl3 n ws lf
 | .p p n,ws,lf=>p/\Yl3 n ws lf
 | .h p n,ws,lf=>p->Yl3 n ws lf
 | .y _ n,ws,lf=>Yl3 n ws lf
 | .r x n,ws,lf=>rng .i64 x/\Yl3 n ws lf
 | .c _ _ n,ws,lf=>Yl3 n ws lf
 | .d _ K n,ws,lf=>OKP P K/\Yl3 n ws lf
 | .u _ _ n,ws,lf=>Yl3 n ws lf
 | .v _ n,ws,lf=>Yl3 n ws lf
 | .b c x y,ws,lf=>(c->Yl3 x ws lf)/\(c=false->Yl3 y ws lf)
 | @Tq.i _ _ p _ x y,ws,lf=>(p->Yl3 x ws lf)/\(¬ p->Yl3 y ws lf)
 | .x k es cl n,ws,lf=>0<=k/\es[k.toNat]? = some cl/\Yl3 n ws lf
 | @Tq.e _ _ _ _ _ _ _ _ L k n,ws,lf=>k<L.length/\Yl3 n ws lf
 | .z _ L n,ws,lf=>L.length<=9223372036854775807->Yl3 n ws lf
 | .l L _ _ x k outs,_,lf=>x=L.v k/\L.inv k/\Yl3 outs L.ways lf
 | .t x n,w :: ws,lf=>(w.p->Yl3 x [] lf)/\Yl3 n ws lf
 | .t _ _,[],_=>True
 | .q,_,_=>True
 | .f _ x r,_,.fn o1 r1=>x=o1/\r=r1
 | .f _ _ _,_,_=>False
 | .s x,_,.fn o1 r1=>[]=o1/\.sv x=r1
 | .s _,_,_=>False
 | .o i _ x,_,.lp L _=>(Yle L.ways i).p/\x=(Yle L.ways i).y
 | .o _ _ _,_,_=>False
 | .g _ k' x,_,.lp L k=>L.meas k'<L.meas k/\x=L.v k'/\L.inv k'
 | .g _ _ _,_,_=>False
theorem Yn8:∀ (t:Tq P σ) (ws:List Wy) (lf:Lf σ),Yl3 t ws lf->Yoj t ws lf
 | .w _ n,ws,lf,h=>Yn8 n ws lf h
 | .p _ n,ws,lf,h=>⟨h.1,Yn8 n ws lf h.2⟩
 | .h p n,ws,lf,h=>λhp=>Yn8 n ws lf ((show p->Yl3 n ws lf from h) hp)
 | .y _ n,ws,lf,h=>⟨rfl,Yn8 n ws lf h⟩
 | .r _ n,ws,lf,h=>⟨h.1,Yn8 n ws lf h.2⟩
 | .c _ pf n,ws,lf,h=>⟨pf,Yn8 n ws lf h⟩
 | .d _ _ n,ws,lf,h=>⟨h.1,Yn8 n ws lf h.2⟩
 | .u _ _ n,ws,lf,h=>Yn8 n ws lf h
 | .v pf n,ws,lf,h=>⟨pf,Yn8 n ws lf h⟩
 | .b _ x y,ws,lf,h=>⟨λe=>Yn8 x ws lf (h.1 e),λe=>Yn8 y ws lf (h.2 e)⟩
 | @Tq.i _ _ p hd x y,ws,lf,h=>⟨λe=>Yn8 x ws lf (h.1 (dB e)),λe=>Yn8 y ws lf (h.2 (of_decide_eq_false e))⟩
 | .x _ _ _ n,ws,lf,h=>⟨⟨h.1,h.2.1⟩,Yn8 n ws lf h.2.2⟩
 | @Tq.e _ _ _ hi C F _ hr L k n,ws,lf,h=>⟨⟨Int.natCast_nonneg _,@Y1yb _ hi C F _ hr L k h.1⟩,Yn8 n ws lf h.2⟩
 | .z _ L n,ws,lf,h=>λhl=>Yn8 n ws lf ((show L.length<=9223372036854775807->Yl3 n ws lf from h) (by rw[aO]at hl;exact hl))
 | .l L pf _ _ _ outs,_,lf,h=>⟨ci L.T h.1,Y1gu.mk h.2.1,pf,Yn8 outs L.ways lf h.2.2⟩
 | .t x n,_ :: ws,lf,h=>⟨λhp=>Yn8 x [] lf (h.1 hp),Yn8 n ws lf h.2⟩
 | .t _ _,[],_,_=>trivial
 | .q,_,_,_=>trivial
 | .f _ _ _,_,.fn _ _,h=>h
 | .f _ _ _,_,.lp _ _,h=>h
 | .s _,_,.fn _ _,h=>h
 | .s _,_,.lp _ _,h=>h
 | .o _ _ _,_,.lp L _,h=>⟨h.1,ci (L.W _) h.2⟩
 | .o _ _ _,_,.fn _ _,h=>h
 | .g _ _ _,_,.lp L _,h=>⟨h.1,ci L.T h.2.1,Y1gu.mk h.2.2⟩
 | .g _ _ _,_,.fn _ _,h=>h
def noW:Wy->St:=λ_=>⟨[],[],0⟩
theorem OKP.of (hm:P.follows .mixedOrders) {K:Ct}{fn:Func}(hc:∀ xs w,(callFunc K.f xs).run P w=.ok (.enter K.f xs) w) (hf:P.funcs[K.f]? = some fn) (hb:fn.body=some (fn.body.getD .skip)) (t:Tq P Unit)
  (hr:Yq8 P (fn.body.getD .skip) (Y13n K.o K.a fn.ntmps) (Yp6 t noW [] (.fn K.o1 K.r)) (Y1uf P fn.results.toList K.o1 K.r)=Yoj t [] (.fn K.o1 K.r)) (he:Yl3 t [] (.fn K.o1 K.r)):OKP P K:=
 Ynw.intro hm (Yp6 t noW [] (.fn K.o1 K.r)) hc hf hb rfl rfl (by rw[hr];exact Yn8 t _ _ he)
theorem Lp.Sem.of (hm:P.follows .mixedOrders) {c:Code}{L:Lp σ}(t:σ->Tq P σ)
  (hr:∀ k,Yq8 P c (L.T (L.v k)) (Yp6 (t k) noW [] (.lp L k)) (Y17t L.I L.Y (L.meas k))=Yoj (t k) [] (.lp L k)) (he:∀ k,L.inv k->Yl3 (t k) [] (.lp L k)):L.Sem P c:=
 Yv3.intro hm λ_ _ ⟨k,hk,e1,e2⟩=>⟨Yp6 (t k) noW [] (.lp L k),by rw[e1,e2];exact(hr k) ▸ Yn8 (t k) _ _ (he k hk)⟩
end
end Go.Proofs.YtcbodhkhppgkiaaGreat.Ab
end
