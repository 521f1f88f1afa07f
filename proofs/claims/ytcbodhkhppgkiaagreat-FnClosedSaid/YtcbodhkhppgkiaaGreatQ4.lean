/- Part 4 of the machine. No condition. -/
import Derived.Test.YtcbodhkhppgkiaaGreatQ3
set_option linter.unusedVariables false
set_option linter.unusedSimpArgs false
section
namespace Go.Proofs.YtcbodhkhppgkiaaGreat.Ab
open Go
inductive Hv where
 | s (x:SV)
 | o (x:Ob)
 | a (x:AC)
def hs (l:List Hv) (i:Nat):SV:=match l[i]? with|some (.s x)=>x|_=>.one .top
def ho (l:List Hv) (i:Nat):Ob:=match l[i]? with|some (.o x)=>x|_=>.free
def ha (l:List Hv) (i:Nat):AC:=match l[i]? with|some (.a x)=>x|_=>.top
structure Ct where
 f:FuncId
 o:List Ob
 a:List SV
 o1:List Ob
 r:AV
abbrev OKP (P:Program) (c:Ct):Prop:=Yn4 P c.f c.o c.a c.o1 c.r
def Y1u3 (n:Nat) (l:List (Nat×SV)):List AV:=(List.range n).map λt=>match l.lookup t with|some v=>.sv v|none=>Yt6
structure Wy where
 p:Prop
 ex:AEx
 R:List Hv->List (Nat×SV)
 O:List Hv->List Ob
 y:List Hv
instance:Inhabited Wy:=⟨⟨False,.normal,λ_=>[],λ_=>[],[]⟩⟩
structure Lp (σ:Type) where
 n:Nat
 m:Nat
 R:List Hv->List (Nat×SV)
 O:List Hv->List Ob
 v:σ->List Hv
 inv:σ->Prop
 meas:σ->Nat
 ways:List Wy
section
variable {σ:Type}
def Lp.T (l:Lp σ) (x:List Hv):St:=⟨Y1u3 l.n (l.R x),l.O x,l.m⟩
def Lp.W (l:Lp σ) (w:Wy) (x:List Hv):St:=⟨Y1u3 l.n (w.R x),w.O x,l.m⟩
def Lp.I (l:Lp σ):Nat->St->Prop:=Y1fm (λk=>l.T (l.v k)) l.inv l.meas
def Lp.Y (l:Lp σ):Y18r:=l.ways.map λw=>(w.p,w.ex,l.W w w.y)
def Lp.Sem (P:Program) (c:Code) (l:Lp σ):Prop:=Yu5 P c l.I l.Y
def Y1ky (R:List Hv->List (Nat×SV)):List Nat:=(R []).map λp=>p.1
def Yko:List Wy->Nat->Wy
 | [],_=>default
 | w :: _,0=>w
 | _ :: r,n+1=>Yko r n
end
class Row (α:Type) (C:α->List Cell) (F:outParam (α->List Cell)) (n:outParam Nat):Prop where
 eq:∀ x,C x=F x
 len:∀ x,(F x).length=n
theorem Y1x3 {α:Type}[Inhabited α] {C F:α->List Cell}{n:Nat}[Row α C F n] {L:List α}{i:Nat}(h:i<L.length):(L.map C)[i]? = some (F (L.getD i default)):=by
 rw[<- Row.eq (C:=C) (F:=F)];simp[h]
inductive Lf (σ:Type) where
 | fn (o:List Ob) (r:AV)
 | lp (l:Lp σ) (k:σ)
inductive Tq (P:Program) (σ:Type):Type 1 where
 | w (q:Orc) (n:Tq P σ)
 | p (p:Prop) (n:Tq P σ)
 | h (p:Prop) (n:Tq P σ)
 | y (b:Bool) (n:Tq P σ)
 | r (x:Int) (n:Tq P σ)
 | c (ms:List Mode) {K:Ct} (pf:OKP P K) (n:Tq P σ)
 | d (ms:List Mode) (K:Ct) (n:Tq P σ)
 | u (ms:List Mode) (K:Ct) (n:Tq P σ)
 | v {K:Ct} (pf:OKP P K) (n:Tq P σ)
 | b (c:Bool) (x y:Tq P σ)
 | i (p:Prop) [hd:Decidable p] (x y:Tq P σ)
 | x (k:Int) (es:List (List Cell)) (cl:List Cell) (n:Tq P σ)
 | e {α:Type} [hi:Inhabited α] (C:α->List Cell) {F:α->List Cell} {m:Nat} [hr:Row α C F m] (L:List α) (k:Nat) (n:Tq P σ)
 | z {α:Type} (C:α->List Cell) (L:List α) (n:Tq P σ)
 | l {τ:Type} (L:Lp τ) {c:Code} (pf:L.Sem P c) (ids:List Nat) (x:List Hv) (k:τ) (outs:Tq P σ)
 | t (x n:Tq P σ)
 | q
 | f (ids:List Nat) (x:List Ob) (r:AV)
 | s (r:SV)
 | o (i:Nat) (ids:List Nat) (x:List Hv)
 | g (ids:List Nat) (k:σ) (x:List Hv)
section
variable {P:Program}{σ:Type}
def unL:List Orc->Y18s
 | [.loop _ _ _ o]=>o
 | _=>[]
def mkL (o:Y18s):List Orc:=[.loop 0 ⟨[],[],0⟩ (λ_ _=>True) o]
def Yoe:Tq P σ->(Wy->St)->List Wy->Lf σ->List Orc
 | .w q n,W,ws,lf=>q :: Yoe n W ws lf
 | .p _ n,W,ws,lf=>Yoe n W ws lf
 | .h _ n,W,ws,lf=>Yoe n W ws lf
 | .y b n,W,ws,lf=>.bool b :: Yoe n W ws lf
 | .r _ n,W,ws,lf=>Yoe n W ws lf
 | .c ms (K:=K) _ n,W,ws,lf=>.call ms K.o1 K.r :: Yoe n W ws lf
 | .d ms K n,W,ws,lf=>.call ms K.o1 K.r :: Yoe n W ws lf
 | .u ms K n,W,ws,lf=>.call ms K.o1 K.r :: Yoe n W ws lf
 | .v _ n,W,ws,lf=>Yoe n W ws lf
 | .b _ x y,W,ws,lf=>[.br (Yoe x W ws lf) (Yoe y W ws lf)]
 | @Tq.i _ _ _ _ x y,W,ws,lf=>[.br (Yoe x W ws lf) (Yoe y W ws lf)]
 | .x _ _ cl n,W,ws,lf=>.cells cl :: Yoe n W ws lf
 | @Tq.e _ _ _ hi _ F _ _ L k n,W,ws,lf=>.cells (F (L.getD k (@default _ hi))) :: Yoe n W ws lf
 | .z _ _ n,W,ws,lf=>Yoe n W ws lf
 | .l L _ ids _ k outs,_,_,lf=>[.ghost (.sel ids (Y1ky L.R)),.loop (L.meas k) (L.T (L.v k)) L.I (unL (Yoe outs (λw=>L.W w w.y) L.ways lf))]
 | .t x n,W,w :: ws,lf=>mkL ((w.p,w.ex,W w,Yoe x W [] lf) :: unL (Yoe n W ws lf))
 | .t _ _,_,[],_=>mkL []
 | .q,_,_,_=>mkL []
 | .f ids _ _,_,_,_=>[.fin ids]
 | .s _,_,_,_=>[.fin []]
 | .o i ids _,_,_,.lp L _=>[.ghost (.sel ids (Y1ky (Yko L.ways i).R)),.out i]
 | .o _ _ _,_,_,_=>[]
 | .g ids k _,_,_,.lp L _=>[.ghost (.sel ids (Y1ky L.R)),.goto (L.meas k) (L.T (L.v k))]
 | .g _ _ _,_,_,_=>[]
def Ynn:Tq P σ->List Wy->Lf σ->Prop
 | .w _ n,ws,lf=>Ynn n ws lf
 | .p p n,ws,lf=>p/\Ynn n ws lf
 | .h p n,ws,lf=>p->Ynn n ws lf
 | .y b n,ws,lf=>b=b/\Ynn n ws lf
 | .r x n,ws,lf=>rng .i64 x/\Ynn n ws lf
 | .c _ (K:=K) _ n,ws,lf=>Yn4 P K.f K.o K.a K.o1 K.r/\Ynn n ws lf
 | .d _ K n,ws,lf=>Yn4 P K.f K.o K.a K.o1 K.r/\Ynn n ws lf
 | .u _ _ n,ws,lf=>Ynn n ws lf
 | .v (K:=K) _ n,ws,lf=>Yn4 P K.f K.o K.a K.o1 K.r/\Ynn n ws lf
 | .b c x y,ws,lf=>(c->Ynn x ws lf)/\(c=false->Ynn y ws lf)
 | @Tq.i _ _ p hd x y,ws,lf=>(@decide p hd->Ynn x ws lf)/\(@decide p hd=false->Ynn y ws lf)
 | .x k es cl n,ws,lf=>(0<=k/\es[k.toNat]? = some cl)/\Ynn n ws lf
 | @Tq.e _ _ _ hi C F _ _ L k n,ws,lf=>(0<=(k:Int)/\(L.map C)[(k:Int).toNat]? = some (F (L.getD k (@default _ hi))))/\Ynn n ws lf
 | .z C L n,ws,lf=>(L.map C).length<=maxLen->Ynn n ws lf
 | .l L (c:=c) _ _ x k outs,_,lf=>L.T x=L.T (L.v k)/\L.I (L.meas k) (L.T (L.v k))/\Yu5 P c L.I L.Y/\Ynn outs L.ways lf
 | .t x n,w :: ws,lf=>(w.p->Ynn x [] lf)/\Ynn n ws lf
 | .t _ _,[],_=>True
 | .q,_,_=>True
 | .f _ x r,_,.fn o1 r1=>Y135 x o1/\r=r1
 | .f _ _ _,_,_=>False
 | .s x,_,.fn o1 r1=>Y135 [] o1/\.sv x=r1
 | .s _,_,_=>False
 | .o i _ x,_,.lp L _=>(Yko L.ways i).p/\L.W (Yko L.ways i) x=L.W (Yko L.ways i) (Yko L.ways i).y
 | .o _ _ _,_,_=>False
 | .g _ k' x,_,.lp L k=>L.meas k'<L.meas k/\L.T x=L.T (L.v k')/\L.I (L.meas k') (L.T (L.v k'))
 | .g _ _ _,_,_=>False
def Ykd:Tq P σ->List Wy->Lf σ->Prop
 | .w _ n,ws,lf=>Ykd n ws lf
 | .p p n,ws,lf=>p/\Ykd n ws lf
 | .h p n,ws,lf=>p->Ykd n ws lf
 | .y _ n,ws,lf=>Ykd n ws lf
 | .r x n,ws,lf=>rng .i64 x/\Ykd n ws lf
 | .c _ _ n,ws,lf=>Ykd n ws lf
 | .d _ K n,ws,lf=>OKP P K/\Ykd n ws lf
 | .u _ _ n,ws,lf=>Ykd n ws lf
 | .v _ n,ws,lf=>Ykd n ws lf
 | .b c x y,ws,lf=>(c->Ykd x ws lf)/\(c=false->Ykd y ws lf)
 | @Tq.i _ _ p _ x y,ws,lf=>(p->Ykd x ws lf)/\(¬ p->Ykd y ws lf)
 | .x k es cl n,ws,lf=>0<=k/\es[k.toNat]? = some cl/\Ykd n ws lf
 | @Tq.e _ _ _ _ _ _ _ _ L k n,ws,lf=>k<L.length/\Ykd n ws lf
 | .z _ L n,ws,lf=>L.length<=9223372036854775807->Ykd n ws lf
 | .l L _ _ x k outs,_,lf=>x=L.v k/\L.inv k/\Ykd outs L.ways lf
 | .t x n,w :: ws,lf=>(w.p->Ykd x [] lf)/\Ykd n ws lf
 | .t _ _,[],_=>True
 | .q,_,_=>True
 | .f _ x r,_,.fn o1 r1=>x=o1/\r=r1
 | .f _ _ _,_,_=>False
 | .s x,_,.fn o1 r1=>[]=o1/\.sv x=r1
 | .s _,_,_=>False
 | .o i _ x,_,.lp L _=>(Yko L.ways i).p/\x=(Yko L.ways i).y
 | .o _ _ _,_,_=>False
 | .g _ k' x,_,.lp L k=>L.meas k'<L.meas k/\x=L.v k'/\L.inv k'
 | .g _ _ _,_,_=>False
theorem Yme:∀ (t:Tq P σ) (ws:List Wy) (lf:Lf σ),Ykd t ws lf->Ynn t ws lf
 | .w _ n,ws,lf,h=>Yme n ws lf h
 | .p _ n,ws,lf,h=>⟨h.1,Yme n ws lf h.2⟩
 | .h p n,ws,lf,h=>λhp=>Yme n ws lf ((show p->Ykd n ws lf from h) hp)
 | .y _ n,ws,lf,h=>⟨rfl,Yme n ws lf h⟩
 | .r _ n,ws,lf,h=>⟨h.1,Yme n ws lf h.2⟩
 | .c _ pf n,ws,lf,h=>⟨pf,Yme n ws lf h⟩
 | .d _ _ n,ws,lf,h=>⟨h.1,Yme n ws lf h.2⟩
 | .u _ _ n,ws,lf,h=>Yme n ws lf h
 | .v pf n,ws,lf,h=>⟨pf,Yme n ws lf h⟩
 | .b _ x y,ws,lf,h=>⟨λe=>Yme x ws lf (h.1 e),λe=>Yme y ws lf (h.2 e)⟩
 | @Tq.i _ _ p hd x y,ws,lf,h=>⟨λe=>Yme x ws lf (h.1 (dC e)),λe=>Yme y ws lf (h.2 (of_decide_eq_false e))⟩
 | .x _ _ _ n,ws,lf,h=>⟨⟨h.1,h.2.1⟩,Yme n ws lf h.2.2⟩
 | @Tq.e _ _ _ hi C F _ hr L k n,ws,lf,h=>⟨⟨Int.natCast_nonneg _,@Y1x3 _ hi C F _ hr L k h.1⟩,Yme n ws lf h.2⟩
 | .z _ L n,ws,lf,h=>λhl=>Yme n ws lf ((show L.length<=9223372036854775807->Ykd n ws lf from h) (by rw[aN]at hl;exact hl))
 | .l L pf _ _ _ outs,_,lf,h=>⟨cu L.T h.1,Y1fm.mk h.2.1,pf,Yme outs L.ways lf h.2.2⟩
 | .t x n,_ :: ws,lf,h=>⟨λhp=>Yme x [] lf (h.1 hp),Yme n ws lf h.2⟩
 | .t _ _,[],_,_=>trivial
 | .q,_,_,_=>trivial
 | .f _ _ _,_,.fn _ _,h=>h
 | .f _ _ _,_,.lp _ _,h=>h
 | .s _,_,.fn _ _,h=>h
 | .s _,_,.lp _ _,h=>h
 | .o _ _ _,_,.lp L _,h=>⟨h.1,cu (L.W _) h.2⟩
 | .o _ _ _,_,.fn _ _,h=>h
 | .g _ _ _,_,.lp L _,h=>⟨h.1,cu L.T h.2.1,Y1fm.mk h.2.2⟩
 | .g _ _ _,_,.fn _ _,h=>h
def noW:Wy->St:=λ_=>⟨[],[],0⟩
theorem OKP.of (hm:P.follows .mixedOrders) {K:Ct}{fn:Func}(hc:∀ xs w,(callFunc K.f xs).run P w=.ok (.enter K.f xs) w) (hf:P.funcs[K.f]? = some fn) (hb:fn.body=some (fn.body.getD .skip)) (t:Tq P Unit)
  (hr:Ypf P (fn.body.getD .skip) (Y12q K.o K.a fn.ntmps) (Yoe t noW [] (.fn K.o1 K.r)) (Y1t6 P fn.results.toList K.o1 K.r)=Ynn t [] (.fn K.o1 K.r)) (he:Ykd t [] (.fn K.o1 K.r)):OKP P K:=
 Yn4.intro hm (Yoe t noW [] (.fn K.o1 K.r)) hc hf hb rfl rfl (by rw[hr];exact Yme t _ _ he)
theorem Lp.Sem.of (hm:P.follows .mixedOrders) {c:Code}{L:Lp σ}(t:σ->Tq P σ)
  (hr:∀ k,Ypf P c (L.T (L.v k)) (Yoe (t k) noW [] (.lp L k)) (Y16v L.I L.Y (L.meas k))=Ynn (t k) [] (.lp L k)) (he:∀ k,L.inv k->Ykd (t k) [] (.lp L k)):L.Sem P c:=
 Yu5.intro hm λ_ _ ⟨k,hk,e1,e2⟩=>⟨Yoe (t k) noW [] (.lp L k),by rw[e1,e2];exact(hr k) ▸ Yme (t k) _ _ (he k hk)⟩
end
end Go.Proofs.YtcbodhkhppgkiaaGreat.Ab
end
