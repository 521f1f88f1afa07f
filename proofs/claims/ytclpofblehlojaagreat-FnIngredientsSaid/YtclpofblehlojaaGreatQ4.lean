/- Part 4 of the machine. No condition. -/
import Derived.Test.YtclpofblehlojaaGreatQ3
set_option linter.unusedVariables false
set_option linter.unusedSimpArgs false
section
namespace Go.Proofs.YtclpofblehlojaaGreat.Ab
open Go Go.MapKept
def kS:MK:=⟨.string,some (.int .i64 0)⟩
def kL:MK:=⟨.string,some (.slice none 0 0)⟩
def Yx5:Value->Int
 | .int _ n=>n
 | _=>0
def Yt8:Value->ByteArray
 | .string s=>s
 | _=>⟨#[]⟩
def mI (g:Int->Int):Value->Option Cell:=fun v=>some (cI (g (Yx5 v)))
def mO (g:Int->Option Int):Value->Option Cell:=fun v=>(g (Yx5 v)).map cI
def mS (g:ByteArray->Int):Value->Option Cell:=fun v=>some (cI (g (Yt8 v)))
def mL (g:ByteArray->List Int):Value->Option Cell:=fun v=>some (.list ((g (Yt8 v)).map Yfr))
def mLt (g:ByteArray->List Int) (s:ByteArray):Value->Option Cell:=fun v=>match decide (Yt8 v=s) with | true=>some .any | false=>some (.list ((g (Yt8 v)).map Yfr))
def Y1g1:Value->ByteArray × ByteArray
 | .agg cs=>match cs.toList with
  | [.string a,.string b]=>(a,b)
  | _=>(⟨#[]⟩,⟨#[]⟩)
 | _=>(⟨#[]⟩,⟨#[]⟩)
def mP (g:ByteArray × ByteArray->Int):Value->Option Cell:=fun v=>some (cI (g (Y1g1 v)))
def zL:ByteArray->List Int:=fun _=>[]
def Ynp {α β:Type} [DecidableEq α] (g:α->β) (n:α) (x:β):α->β:=fun m=>if m=n then x else g m
theorem Yn1 {α β:Type} [DecidableEq α] (g:α->β) (n:α) (x:β):Ynp g n x n=x:=if_pos rfl
theorem Ypn {α β:Type} [DecidableEq α] (g:α->β) {n m:α} (x:β) (h:m≠n):Ynp g n x m=g m:=if_neg h
theorem Y10p {k:Value} {n:Int} (h:Yil (.int .i64) k) (hn:k≠.int .i64 n):Yx5 k≠n:=by
 cases k <;> simp_all [Yil,IsKey,Yx5]
theorem Yvh {k:Value} {s:ByteArray} (h:Yil .string k) (hn:k≠.string s):Yt8 k≠s:=by
 cases k <;> simp_all [Yil,IsKey,Yt8]
theorem Y1li {z:Value} {g:Int->Int} {n:Int}:Ynf z (mI g) (.int .i64 n) (cI (g n)):=.inl rfl
theorem Y1jv {z:Value} {g:ByteArray->Int} {s:ByteArray}:Ynf z (mS g) (.string s) (cI (g s)):=.inl rfl
theorem Y1kh {z:Value} {g:ByteArray->List Int} {s:ByteArray}:Ynf z (mL g) (.string s) (.list ((g s).map Yfr)):=.inl rfl
theorem Y1js {g:Int->Option Int} {n:Int}:(mO g (.int .i64 n)=some (cI ((g n).getD 0))/\(g n).isSome=true) ∨ (mO g (.int .i64 n)=none/\cI ((g n).getD 0)=normLit (.int .i64 0)/\(g n).isSome=false):=by
 show ((g n).map cI=_/\_) ∨ ((g n).map cI=_/\_)
 cases g n with
 | none=>exact .inr ⟨rfl,rfl,rfl⟩
 | some x=>exact .inl ⟨rfl,rfl⟩
theorem Y1i2 {g:Int->Option Int} {n:Int}:Ynf (.int .i64 0) (mO g) (.int .i64 n) (cI ((g n).getD 0)):=by
 show (g n).map cI=_ ∨ ((g n).map cI=_/\_)
 cases g n with
 | none=>exact .inr ⟨rfl,rfl⟩
 | some x=>exact .inl rfl
theorem Y1mf {g:Int->Int} {n x:Int}:Ylt (.int .i64) (mI g) (mI (Ynp g n x)) (.int .i64 n) (some (cI x)):=by
 refine ⟨?_,fun k hk hn => ?_⟩
 ·simp only [mI,Yx5,Yn1]
 ·simp only [mI,Ypn g x (Y10p hk hn)]
theorem Y1mo {g:Int->Option Int} {n x:Int}:Ylt (.int .i64) (mO g) (mO (Ynp g n (some x))) (.int .i64 n) (some (cI x)):=by
 refine ⟨?_,fun k hk hn => ?_⟩
 ·simp only [mO,Yx5,Yn1,Option.map_some]
 ·simp only [mO,Ypn g (some x) (Y10p hk hn)]
theorem Y1np {g:Int->Option Int} {n:Int}:Ylt (.int .i64) (mO g) (mO (Ynp g n none)) (.int .i64 n) none:=by
 refine ⟨?_,fun k hk hn => ?_⟩
 ·simp only [mO,Yx5,Yn1,Option.map_none]
 ·simp only [mO,Ypn g none (Y10p hk hn)]
theorem Y1on {g:ByteArray->Int} {s:ByteArray} {x:Int}:Ylt .string (mS g) (mS (Ynp g s x)) (.string s) (some (cI x)):=by
 refine ⟨?_,fun k hk hn => ?_⟩
 ·simp only [mS,Yt8,Yn1]
 ·simp only [mS,Ypn g x (Yvh hk hn)]
theorem Y1ll {g:ByteArray->List Int} {s:ByteArray}:Ylt .string (mL g) (mLt g s) (.string s) (some .any):=by
 refine ⟨?_,fun k hk hn => ?_⟩
 ·simp [mLt,Yt8]
 ·simp only [mL,mLt,decide_eq_false (Yvh hk hn)]
theorem Y1e1 {g:ByteArray->List Int} {s:ByteArray} {L:List Int} {es:List (List Cell)} (h:es=L.map Yfr):Ylt .string (mLt g s) (mL (Ynp g s L)) (.string s) (some (.list es)):=by
 subst h
 refine ⟨?_,fun k hk hn => ?_⟩
 ·simp only [mL,Yt8,Yn1]
 ·simp only [mL,mLt,decide_eq_false (Yvh hk hn),Ypn g L (Yvh hk hn)]
theorem Y1hk {t:TypeId} {k:Value} {a b:ByteArray} (h:Yil (.array 2 t) k) (hn:k≠.agg #[.string a,.string b]):Y1g1 k≠(a,b):=by
 obtain ⟨_,c,d,rfl⟩:=h
 intro e
 apply hn
 simp only [Y1g1,Prod.mk.injEq] at e
 rw [e.1,e.2]
theorem Y1lz {z:Value} {g:ByteArray × ByteArray->Int} {a b:ByteArray}:Ynf z (mP g) (.agg #[.string a,.string b]) (cI (g (a,b))):=.inl rfl
theorem Y1o5 {t:TypeId} {g:ByteArray × ByteArray->Int} {a b:ByteArray} {x:Int}:Ylt (.array 2 t) (mP g) (mP (Ynp g (a,b) x)) (.agg #[.string a,.string b]) (some (cI x)):=by
 refine ⟨?_,fun k hk hn => ?_⟩
 ·show some (cI (Ynp g (a,b) x (a,b)))=_
  rw [Yn1]
 ·simp only [mP,Ypn g x (Y1hk hk hn)]
end Go.Proofs.YtclpofblehlojaaGreat.Ab
end
section
namespace Go.Proofs.YtclpofblehlojaaGreat.Ab
open Go
inductive Hv where
 | s (x:SV)
 | o (x:Ob)
 | a (x:AC)
def hs (l:List Hv) (i:Nat):SV:=match l[i]? with | some (.s x)=>x | _=>.one .top
def ho (l:List Hv) (i:Nat):Ob:=match l[i]? with | some (.o x)=>x | _=>.free
def ha (l:List Hv) (i:Nat):AC:=match l[i]? with | some (.a x)=>x | _=>.top
structure Ct where
 f:FuncId
 o:List Ob
 a:List SV
 o1:List Ob
 r:AV
abbrev OKP (P:Program) (c:Ct):Prop:=Yjg P c.f c.o c.a c.o1 c.r
def Y1iw (n:Nat) (l:List (Nat × SV)):List AV:=(List.range n).map fun t=>match l.lookup t with | some v=>.sv v | none=>Ynn
structure Wy where
 p:Prop
 ex:AEx
 R:List Hv->List (Nat × SV)
 O:List Hv->List Ob
 y:List Hv
instance:Inhabited Wy:=⟨⟨False,.normal,fun _=>[],fun _=>[],[]⟩⟩
structure Lp (σ:Type) where
 n:Nat
 m:Nat
 R:List Hv->List (Nat × SV)
 O:List Hv->List Ob
 v:σ->List Hv
 inv:σ->Prop
 meas:σ->Nat
 ways:List Wy
section
variable {σ:Type}
def Lp.T (l:Lp σ) (x:List Hv):St:=⟨Y1iw l.n (l.R x),l.O x,l.m⟩
def Lp.W (l:Lp σ) (w:Wy) (x:List Hv):St:=⟨Y1iw l.n (w.R x),w.O x,l.m⟩
def Lp.I (l:Lp σ):Nat->St->Prop:=Y135 (fun k=>l.T (l.v k)) l.inv l.meas
def Lp.Y (l:Lp σ):Y10b:=l.ways.map fun w=>(w.p,w.ex,l.W w w.y)
def Lp.Sem (P:Program) (c:Code) (l:Lp σ):Prop:=Yo2 P c l.I l.Y
def Y1b1 (R:List Hv->List (Nat × SV)):List Nat:=(R []).map fun p=>p.1
def Yg0:List Wy->Nat->Wy
 | [],_=>default
 | w :: _,0=>w
 | _ :: r,n+1=>Yg0 r n
end
class Row (α:Type) (C:α->List Cell) (F:outParam (α->List Cell)) (n:outParam Nat):Prop where
 eq:∀ x,C x=F x
 len:∀ x,(F x).length=n
theorem Y1l4 {α:Type} [Inhabited α] {C F:α->List Cell} {n:Nat} [Row α C F n] {L:List α} {i:Nat} (h:i<L.length):(L.map C)[i]? = some (F (L.getD i default)):=by
 rw [<- Row.eq (C:=C) (F:=F)]; simp [h]
inductive Lf (σ:Type) where
 | fn (o:List Ob) (r:AV)
 | lp (l:Lp σ) (k:σ)
inductive Tq (P:Program) (σ:Type):Type 1 where
 | w (q:Orc) (n:Tq P σ)
 | p (p:Prop) (n:Tq P σ)
 | h (p:Prop) (n:Tq P σ)
 | y (b:Bool) (n:Tq P σ)
 | r (x:Int) (n:Tq P σ)
 | c (ms:List Mode) {K:Ct} (pf:OKP P K) (n:Tq P σ)
 | d (ms:List Mode) (K:Ct) (n:Tq P σ)
 | u (ms:List Mode) (K:Ct) (n:Tq P σ)
 | v {K:Ct} (pf:OKP P K) (n:Tq P σ)
 | b (c:Bool) (x y:Tq P σ)
 | i (p:Prop) [hd:Decidable p] (x y:Tq P σ)
 | x (k:Int) (es:List (List Cell)) (cl:List Cell) (n:Tq P σ)
 | e {α:Type} [hi:Inhabited α] (C:α->List Cell) {F:α->List Cell} {m:Nat} [hr:Row α C F m] (L:List α) (k:Nat) (n:Tq P σ)
 | z {α:Type} (C:α->List Cell) (L:List α) (n:Tq P σ)
 | l {τ:Type} (L:Lp τ) {c:Code} (pf:L.Sem P c) (ids:List Nat) (x:List Hv) (k:τ) (outs:Tq P σ)
 | t (x n:Tq P σ)
 | q
 | f (ids:List Nat) (x:List Ob) (r:AV)
 | s (r:SV)
 | o (i:Nat) (ids:List Nat) (x:List Hv)
 | g (ids:List Nat) (k:σ) (x:List Hv)
section
variable {P:Program} {σ:Type}
def unL:List Orc->Y113
 | [.loop _ _ _ o]=>o
 | _=>[]
def mkL (o:Y113):List Orc:=[.loop 0 ⟨[],[],0⟩ (fun _ _=>True) o]
def Yja:Tq P σ->(Wy->St)->List Wy->Lf σ->List Orc
 | .w q n,W,ws,lf=>q :: Yja n W ws lf
 | .p _ n,W,ws,lf=>Yja n W ws lf
 | .h _ n,W,ws,lf=>Yja n W ws lf
 | .y b n,W,ws,lf=>.bool b :: Yja n W ws lf
 | .r _ n,W,ws,lf=>Yja n W ws lf
 | .c ms (K:=K) _ n,W,ws,lf=>.call ms K.o1 K.r :: Yja n W ws lf
 | .d ms K n,W,ws,lf=>.call ms K.o1 K.r :: Yja n W ws lf
 | .u ms K n,W,ws,lf=>.call ms K.o1 K.r :: Yja n W ws lf
 | .v _ n,W,ws,lf=>Yja n W ws lf
 | .b _ x y,W,ws,lf=>[.br (Yja x W ws lf) (Yja y W ws lf)]
 | @Tq.i _ _ _ _ x y,W,ws,lf=>[.br (Yja x W ws lf) (Yja y W ws lf)]
 | .x _ _ cl n,W,ws,lf=>.cells cl :: Yja n W ws lf
 | @Tq.e _ _ _ hi _ F _ _ L k n,W,ws,lf=>.cells (F (L.getD k (@default _ hi))) :: Yja n W ws lf
 | .z _ _ n,W,ws,lf=>Yja n W ws lf
 | .l L _ ids _ k outs,_,_,lf=>[.ghost (.sel ids (Y1b1 L.R)),.loop (L.meas k) (L.T (L.v k)) L.I (unL (Yja outs (fun w=>L.W w w.y) L.ways lf))]
 | .t x n,W,w :: ws,lf=>mkL ((w.p,w.ex,W w,Yja x W [] lf) :: unL (Yja n W ws lf))
 | .t _ _,_,[],_=>mkL []
 | .q,_,_,_=>mkL []
 | .f ids _ _,_,_,_=>[.fin ids]
 | .s _,_,_,_=>[.fin []]
 | .o i ids _,_,_,.lp L _=>[.ghost (.sel ids (Y1b1 (Yg0 L.ways i).R)),.out i]
 | .o _ _ _,_,_,_=>[]
 | .g ids k _,_,_,.lp L _=>[.ghost (.sel ids (Y1b1 L.R)),.goto (L.meas k) (L.T (L.v k))]
 | .g _ _ _,_,_,_=>[]
def Yin:Tq P σ->List Wy->Lf σ->Prop
 | .w _ n,ws,lf=>Yin n ws lf
 | .p p n,ws,lf=>p/\Yin n ws lf
 | .h p n,ws,lf=>p->Yin n ws lf
 | .y b n,ws,lf=>b=b/\Yin n ws lf
 | .r x n,ws,lf=>rng .i64 x/\Yin n ws lf
 | .c _ (K:=K) _ n,ws,lf=>Yjg P K.f K.o K.a K.o1 K.r/\Yin n ws lf
 | .d _ K n,ws,lf=>Yjg P K.f K.o K.a K.o1 K.r/\Yin n ws lf
 | .u _ _ n,ws,lf=>Yin n ws lf
 | .v (K:=K) _ n,ws,lf=>Yjg P K.f K.o K.a K.o1 K.r/\Yin n ws lf
 | .b c x y,ws,lf=>(c=true->Yin x ws lf)/\(c=false->Yin y ws lf)
 | @Tq.i _ _ p hd x y,ws,lf=>(@decide p hd=true->Yin x ws lf)/\(@decide p hd=false->Yin y ws lf)
 | .x k es cl n,ws,lf=>(0<=k/\es[k.toNat]? = some cl)/\Yin n ws lf
 | @Tq.e _ _ _ hi C F _ _ L k n,ws,lf=>(0<=(k:Int)/\(L.map C)[(k:Int).toNat]? = some (F (L.getD k (@default _ hi))))/\Yin n ws lf
 | .z C L n,ws,lf=>(L.map C).length<=maxLen->Yin n ws lf
 | .l L (c:=c) _ _ x k outs,_,lf=>L.T x=L.T (L.v k)/\L.I (L.meas k) (L.T (L.v k))/\Yo2 P c L.I L.Y/\Yin outs L.ways lf
 | .t x n,w :: ws,lf=>(w.p->Yin x [] lf)/\Yin n ws lf
 | .t _ _,[],_=>True
 | .q,_,_=>True
 | .f _ x r,_,.fn o1 r1=>Yvm x o1/\r=r1
 | .f _ _ _,_,_=>False
 | .s x,_,.fn o1 r1=>Yvm [] o1/\.sv x=r1
 | .s _,_,_=>False
 | .o i _ x,_,.lp L _=>(Yg0 L.ways i).p/\L.W (Yg0 L.ways i) x=L.W (Yg0 L.ways i) (Yg0 L.ways i).y
 | .o _ _ _,_,_=>False
 | .g _ k' x,_,.lp L k=>L.meas k'<L.meas k/\L.T x=L.T (L.v k')/\L.I (L.meas k') (L.T (L.v k'))
 | .g _ _ _,_,_=>False
def Yfp:Tq P σ->List Wy->Lf σ->Prop
 | .w _ n,ws,lf=>Yfp n ws lf
 | .p p n,ws,lf=>p/\Yfp n ws lf
 | .h p n,ws,lf=>p->Yfp n ws lf
 | .y _ n,ws,lf=>Yfp n ws lf
 | .r x n,ws,lf=>rng .i64 x/\Yfp n ws lf
 | .c _ _ n,ws,lf=>Yfp n ws lf
 | .d _ K n,ws,lf=>OKP P K/\Yfp n ws lf
 | .u _ _ n,ws,lf=>Yfp n ws lf
 | .v _ n,ws,lf=>Yfp n ws lf
 | .b c x y,ws,lf=>(c=true->Yfp x ws lf)/\(c=false->Yfp y ws lf)
 | @Tq.i _ _ p _ x y,ws,lf=>(p->Yfp x ws lf)/\(¬ p->Yfp y ws lf)
 | .x k es cl n,ws,lf=>0<=k/\es[k.toNat]? = some cl/\Yfp n ws lf
 | @Tq.e _ _ _ _ _ _ _ _ L k n,ws,lf=>k<L.length/\Yfp n ws lf
 | .z _ L n,ws,lf=>L.length<=9223372036854775807->Yfp n ws lf
 | .l L _ _ x k outs,_,lf=>x=L.v k/\L.inv k/\Yfp outs L.ways lf
 | .t x n,w :: ws,lf=>(w.p->Yfp x [] lf)/\Yfp n ws lf
 | .t _ _,[],_=>True
 | .q,_,_=>True
 | .f _ x r,_,.fn o1 r1=>x=o1/\r=r1
 | .f _ _ _,_,_=>False
 | .s x,_,.fn o1 r1=>[]=o1/\.sv x=r1
 | .s _,_,_=>False
 | .o i _ x,_,.lp L _=>(Yg0 L.ways i).p/\x=(Yg0 L.ways i).y
 | .o _ _ _,_,_=>False
 | .g _ k' x,_,.lp L k=>L.meas k'<L.meas k/\x=L.v k'/\L.inv k'
 | .g _ _ _,_,_=>False
theorem Yhk:∀ (t:Tq P σ) (ws:List Wy) (lf:Lf σ),Yfp t ws lf->Yin t ws lf
 | .w _ n,ws,lf,h=>Yhk n ws lf h
 | .p _ n,ws,lf,h=>⟨h.1,Yhk n ws lf h.2⟩
 | .h p n,ws,lf,h=>fun hp=>Yhk n ws lf ((show p->Yfp n ws lf from h) hp)
 | .y _ n,ws,lf,h=>⟨rfl,Yhk n ws lf h⟩
 | .r _ n,ws,lf,h=>⟨h.1,Yhk n ws lf h.2⟩
 | .c _ pf n,ws,lf,h=>⟨pf,Yhk n ws lf h⟩
 | .d _ _ n,ws,lf,h=>⟨h.1,Yhk n ws lf h.2⟩
 | .u _ _ n,ws,lf,h=>Yhk n ws lf h
 | .v pf n,ws,lf,h=>⟨pf,Yhk n ws lf h⟩
 | .b _ x y,ws,lf,h=>⟨fun e=>Yhk x ws lf (h.1 e),fun e=>Yhk y ws lf (h.2 e)⟩
 | @Tq.i _ _ p hd x y,ws,lf,h=>⟨fun e=>Yhk x ws lf (h.1 (of_decide_eq_true e)),fun e=>Yhk y ws lf (h.2 (of_decide_eq_false e))⟩
 | .x _ _ _ n,ws,lf,h=>⟨⟨h.1,h.2.1⟩,Yhk n ws lf h.2.2⟩
 | @Tq.e _ _ _ hi C F _ hr L k n,ws,lf,h=>⟨⟨Int.natCast_nonneg _,@Y1l4 _ hi C F _ hr L k h.1⟩,Yhk n ws lf h.2⟩
 | .z _ L n,ws,lf,h=>fun hl=>Yhk n ws lf ((show L.length<=9223372036854775807->Yfp n ws lf from h) (by rw [List.length_map] at hl; exact hl))
 | .l L pf _ _ _ outs,_,lf,h=>⟨congrArg L.T h.1,Y135.mk h.2.1,pf,Yhk outs L.ways lf h.2.2⟩
 | .t x n,_ :: ws,lf,h=>⟨fun hp=>Yhk x [] lf (h.1 hp),Yhk n ws lf h.2⟩
 | .t _ _,[],_,_=>trivial
 | .q,_,_,_=>trivial
 | .f _ _ _,_,.fn _ _,h=>h
 | .f _ _ _,_,.lp _ _,h=>h
 | .s _,_,.fn _ _,h=>h
 | .s _,_,.lp _ _,h=>h
 | .o _ _ _,_,.lp L _,h=>⟨h.1,congrArg (L.W _) h.2⟩
 | .o _ _ _,_,.fn _ _,h=>h
 | .g _ _ _,_,.lp L _,h=>⟨h.1,congrArg L.T h.2.1,Y135.mk h.2.2⟩
 | .g _ _ _,_,.fn _ _,h=>h
def noW:Wy->St:=fun _=>⟨[],[],0⟩
theorem OKP.of (hm:P.follows .mixedOrders=true) {K:Ct} {fn:Func} (hc:∀ xs w,(callFunc K.f xs).run P w=.ok (.enter K.f xs) w) (hf:P.funcs[K.f]? = some fn) (hb:fn.body=some (fn.body.getD .skip)) (t:Tq P Unit)
  (hr:Ykd P (fn.body.getD .skip) (Yvl K.o K.a fn.ntmps) (Yja t noW [] (.fn K.o1 K.r)) (Y1gn P fn.results.toList K.o1 K.r)=Yin t [] (.fn K.o1 K.r)) (he:Yfp t [] (.fn K.o1 K.r)):OKP P K:=
 Yjg.intro hm (Yja t noW [] (.fn K.o1 K.r)) hc hf hb rfl rfl (by rw [hr]; exact Yhk t _ _ he)
theorem Lp.Sem.of (hm:P.follows .mixedOrders=true) {c:Code} {L:Lp σ} (t:σ->Tq P σ)
  (hr:∀ k,Ykd P c (L.T (L.v k)) (Yja (t k) noW [] (.lp L k)) (Y1b4 L.I L.Y (L.meas k))=Yin (t k) [] (.lp L k)) (he:∀ k,L.inv k->Yfp (t k) [] (.lp L k)):L.Sem P c:=
 Yo2.intro hm fun _ _ ⟨k,hk,e1,e2⟩=>⟨Yja (t k) noW [] (.lp L k),by rw [e1,e2]; exact (hr k) ▸ Yhk (t k) _ _ (he k hk)⟩
end
end Go.Proofs.YtclpofblehlojaaGreat.Ab
end
