/- Part 5 of the machine. No condition. -/
import Derived.Test.YtcbodhkhppgkiaaGreatQ4
import Derived.Test.YtcbodhkhppgkiaaGreatRows
import Derived.ChangeStays
import Derived.ChangeOld
import Derived.Deep.Slices
set_option linter.unusedVariables false
set_option linter.unusedSimpArgs false
section
namespace Go.Proofs.YtcbodhkhppgkiaaGreat
open Go Ab
theorem wide:Tryz.prog.follows .mixedOrders:=by kernel_rfl
abbrev OK (c:Ct):Prop:=OKP Tryz.prog c
instance:CoeSort Ct Prop:=⟨OK⟩
instance:Coe Ct Prop:=⟨OK⟩
theorem Ykr {K:Ct}{fn:Func}(hc:∀ xs w,(callFunc K.f xs).run Tryz.prog w=.ok (.enter K.f xs) w) (hf:Tryz.prog.funcs[K.f]? = some fn) (t:Tq Tryz.prog Unit) (he:Ykd t [] (.fn K.o1 K.r))
  (hb:fn.body=some (fn.body.getD .skip):=by kernel_rfl) (hr:Ypf Tryz.prog (fn.body.getD .skip) (Y12q K.o K.a fn.ntmps) (Yoe t noW [] (.fn K.o1 K.r)) (Y1t6 Tryz.prog fn.results.toList K.o1 K.r)=Ynn t [] (.fn K.o1 K.r):=by kernel_rfl):OK K:=
 OKP.of wide hc hf hb t hr he
theorem Yl0 {σ:Type}{c:Code}{L:Lp σ}(t:σ->Tq Tryz.prog σ) (he:∀ k,L.inv k->Ykd (t k) [] (.lp L k))
  (hr:∀ k,Ypf Tryz.prog c (L.T (L.v k)) (Yoe (t k) noW [] (.lp L k)) (Y16v L.I L.Y (L.meas k))=Ynn (t k) [] (.lp L k):=by intro k;kernel_rfl):L.Sem Tryz.prog c:=
 Lp.Sem.of wide t hr he
theorem Y1tz {σ:Type}{c:Code}{L:Lp σ}(b:σ->Bool) (t u:σ->Tq Tryz.prog σ) (he:∀ k,L.inv k->(b k->Ykd (t k) [] (.lp L k))/\(b k=false->Ykd (u k) [] (.lp L k)))
  (ht:∀ k,Ypf Tryz.prog c (L.T (L.v k)) (Yoe (t k) noW [] (.lp L k)) (Y16v L.I L.Y (L.meas k))=Ynn (t k) [] (.lp L k):=by intro k;kernel_rfl)
  (hu:∀ k,Ypf Tryz.prog c (L.T (L.v k)) (Yoe (u k) noW [] (.lp L k)) (Y16v L.I L.Y (L.meas k))=Ynn (u k) [] (.lp L k):=by intro k;kernel_rfl):L.Sem Tryz.prog c:=
 Lp.Sem.of wide (λk=>bif b k then t k else u k) (λk=>by cases b k<;>first|exact ht k|exact hu k) (λk hk=>by
  have h:=he k hk
  cases e:b k with
  | true=>exact h.1 e
  | false=>exact h.2 e)
theorem Ynk {α:Type}[Inhabited α] {L:List α}{k:Nat}(h:k<L.length):L.drop k=L.g k :: L.drop (k+1):=by
 rw[du h];simp[h]
theorem Yku {α:Type}[Inhabited α] {L:List α}{k:Nat}(h:k<L.length):L.take (k+1)=L.take k++[L.g k]:=by
 rw[List.take_succ_eq_append_getElem h];simp[h]
theorem Ykg {α:Type}[Inhabited α] {L:List α}{k:Nat}(h:k<L.length):L.g k∈L:=by simp[h]
theorem Y1ps (s:ByteArray):s.data.toList.length=s.size:=rfl
theorem Y23q {n:Int}:rng .i64 n ↔ -9223372036854775808<=n/\n<=9223372036854775807:=Y1j4
theorem Y1nr (a b:List Ob):Y135 a b ↔ a=b:=dR
theorem mIc {g g':Int->Int}(h:g=g'):mI g=mI g':=by rw[h]
theorem mOc {g g':Int->Option Int}(h:g=g'):mO g=mO g':=by rw[h]
theorem mSc {g g':ByteArray->Int}(h:g=g'):mS g=mS g':=by rw[h]
theorem mLc {g g':ByteArray->List Int}(h:g=g'):mL g=mL g':=by rw[h]
theorem Ykl (S:List Int) (n:Int):S.map Yke++[[cI n]]=(S++[n]).map Yke:=by simp[Yke]
theorem Ykm (S:List ByteArray) (n:ByteArray):S.map Ylu++[[cS n]]=(S++[n]).map Ylu:=by simp[Ylu]
theorem Y223 {L:List Int}:∀ e∈L.map Yke,∀ c∈e,∃ v,c=Cell.lit v:=by
 intro e he c hc
 obtain⟨x,_,rfl⟩:=List.mem_map.1 he
 rw[List.mem_singleton.1 hc];exact⟨_,rfl⟩
theorem Y21z {L:List ByteArray}:∀ e∈L.map Ylu,∀ c∈e,∃ v,c=Cell.lit v:=by
 intro e he c hc
 obtain⟨x,_,rfl⟩:=List.mem_map.1 he
 rw[List.mem_singleton.1 hc];exact⟨_,rfl⟩
theorem Yxj {α:Type}[Inhabited α] {f:α->List Cell}{L:List α}{i:Nat}{x:List Cell}(h:i<L.length) (hx:f (L.g i)=x):(L.map f)[i]? = some x:=by
 subst hx;simp[h]
theorem Yu8 {α:Type}[Inhabited α] {A B:List α}{k:Nat}(h:k<A.length) (hl:A.length=B.length):A.take (k+1)=B.take (k+1) ↔ A.take k=B.take k/\A.g k=B.g k:=by
 rw[Yku h,Yku (by omega:k<B.length)]
 constructor
 ·intro e
  have:=List.append_inj e (by simp;omega)
  exact⟨this.1,by simpa using this.2⟩
 ·rintro⟨e1,e2⟩;rw[e1,e2]
theorem Yo9 (a b:ByteArray):a.data.toList=b.data.toList ↔ a=b:=by
 constructor
 ·intro h;cases a;cases b;simp at h;subst h;rfl
 ·intro h;rw[h]
theorem Y21h (a b:Bool):AV.sv (lb a)=AV.sv (lb b) ↔ a=b:=by simp[lb,vB,cB]
theorem Y20u (a b:Int):AV.sv (li a)=AV.sv (li b) ↔ a=b:=by simp[li,vI,cI]
theorem Y21c (a b:ByteArray):AV.sv (ls a)=AV.sv (ls b) ↔ a=b:=by simp[ls,vS,cS]
def Y1dy {α:Type}[Inhabited α] (L:List α) (k:Nat):List α:=L.take k++List.replicate (L.length - k) default
theorem Y1kp {α:Type}[Inhabited α] (L:List α) (k:Nat):(Y1dy L k).length=L.length:=by simp[Y1dy];omega
def Y23z (n:Int):List Cell:=[cI n]
def Y24v (n:ByteArray):List Cell:=[cS n]
instance:Row Int Yke Y23z 1:=⟨λ_=>rfl,λ_=>rfl⟩
instance:Row ByteArray Ylu Y24v 1:=⟨λ_=>rfl,λ_=>rfl⟩
section
variable {α:Type}{C F:α->List Cell}{n:Nat}
theorem Yqp [Row α C F n] [Inhabited α] {L:List α}{i:Nat}(h:i<L.length):(L.map C)[i]? = some (F (L.g i)):=Yxj h (Row.eq _)
theorem Ykf [Row α C F n] (L:List α) (x:α):L.map C++[F x]=(L++[x]).map C:=by simp[Row.eq (C:=C) (F:=F)]
theorem Y1vr [Row α C F n] {L:List α}:∀ e∈L.map C,e.length=n:=by
 intro e he
 obtain⟨x,_,rfl⟩:=List.mem_map.1 he;rw[Row.eq (C:=C) (F:=F)];exact Row.len (C:=C) x
end
abbrev tx (s:ByteArray):List UInt8:=s.data.toList
def mkS (l:List UInt8):ByteArray:=⟨l.toArray⟩
theorem Y1k4 (l:List UInt8):ByteArray.mk l.toArray=mkS l:=rfl
theorem Y1on (l:List UInt8):(mkS l).data.toList=l:=rfl
theorem Y1vn (a b:List UInt8):mkS a=mkS b ↔ a=b:=by
 constructor
 ·intro h;have:=cu (λs:ByteArray=>s.data.toList) h;simpa[mkS] using this
 ·intro h;rw[h]
theorem Y1sd (l:List UInt8):(mkS l).size=l.length:=rfl
theorem std:(∀ s:ByteArray,s.data.toList.length=s.size)/\(∀ {α β:Type}(f:α->β) (L:List α),(L.map f).length=L.length)/\(∀ n:Nat,(n:Int).toNat=n) /\
  (∀ n:Int,rng .i64 n ↔ -9223372036854775808<=n/\n<=9223372036854775807)/\(∀ a b:List Ob,Y135 a b ↔ a=b)/\(∀ {α:Type} (a b:List α),(a++b).length=a.length+b.length) /\
  (∀ {α:Type} (n:Nat) (a:α),(List.replicate n a).length=n)/\(∀ {α:Type} [Inhabited α] (L:List α) (k:Nat),(Y1dy L k).length=L.length)/\(∀ (p:Prop) [Decidable p],(decide p=true)=p) /\
  (∀ (p:Prop) [Decidable p],(decide p=false)=¬ p)/\(∀ {α:Type} (a b:α),(a≠b)=¬ a=b)/\(∀ a b:Bool,(AV.sv (lb a)=AV.sv (lb b)) ↔ a=b)/\(∀ a b:Int,(AV.sv (li a)=AV.sv (li b)) ↔ a=b) /\
  (∀ a b:ByteArray,(AV.sv (ls a)=AV.sv (ls b)) ↔ a=b)/\(∀ l:List UInt8,ByteArray.mk l.toArray=mkS l)/\(∀ l:List UInt8,(mkS l).data.toList=l)/\(∀ a b:List UInt8,mkS a=mkS b ↔ a=b) /\
  (∀ l:List UInt8,(mkS l).size=l.length)/\(∀ {α β:Type} (f:α->β) (L:List α) (n:Nat),(L.map f).take n=(L.take n).map f)/\(∀ {α β:Type} (f:α->β) (L:List α) (n:Nat),(L.map f).drop n=(L.drop n).map f) /\
  (∀ n:Nat,n - 0=n)/\(∀ {α:Type} (L:List α),L.drop 0=L):=
 ⟨Y1ps,λ_ _=>aN _,cF,@Y23q,Y1nr,λ_ _=>ax,λ_ _=>List.length_replicate,Y1kp,@ak,λp _=>propext (aP (p:=p)),λa b=>rfl,Y21h,Y20u,Y21c,Y1k4,Y1on,Y1vn,Y1sd,λ_ _ _=>List.map_take.symm,λ_ _ _=>List.map_drop.symm,Nat.sub_zero,λ_=>cQ⟩
theorem inj:(∀ a b:SV,(AV.sv a=AV.sv b)=(a=b))/\(∀ l m:List SV,(AV.tup l=AV.tup m)=(l=m))/\(∀ l m:List AC,(SV.agg l=SV.agg m)=(l=m)) /\
  (∀ a b:AC,(SV.one a=SV.one b)=(a=b))/\(∀ a b:Int,(li a=li b)=(a=b))/\(∀ a b:Bool,(lb a=lb b)=(a=b))/\(∀ a b:ByteArray,(ls a=ls b)=(a=b)) /\
  (∀ a b:List (List Cell),(ll a=ll b)=(a=b))/\(∀ a b:Int,(vI a=vI b)=(a=b))/\(∀ a b:Bool,(vB a=vB b)=(a=b))/\(∀ a b:ByteArray,(vS a=vS b)=(a=b))/\(∀ a b:List (List Cell),(vL a=vL b)=(a=b)) /\
  (∀ o z x y,(Ob.arr o z x=Ob.arr o z y)=(x=y))/\(∀ l m,(Ob.box l=Ob.box m)=(l=m))/\(∀ (a b:AC) l m,(a :: l=b :: m)=(a=b/\l=m))/\(∀ (a b:SV) l m,(a :: l=b :: m)=(a=b/\l=m))/\(∀ (a b:Ob) l m,(a :: l=b :: m)=(a=b/\l=m)) /\
  (∀ (a b:Hv) l m,(a :: l=b :: m)=(a=b/\l=m))/\(∀ a b,(Hv.s a=Hv.s b)=(a=b))/\(∀ a b,(Hv.o a=Hv.o b)=(a=b))/\(∀ a b,(Hv.a a=Hv.a b)=(a=b)):=by
 refine⟨?_,?_,?_,?_,?_,?_,?_,?_,?_,?_,?_,?_,?_,?_,?_,?_,?_,?_,?_,?_,?_⟩<;>intros<;>(try apply propext)<;>simp[li,lb,ls,ll,vI,vB,vS,vL,cI,cB,cS]
theorem dT {p:Prop}[Decidable p] (h:p):true=decide p:=(bM h).symm
theorem dF {p:Prop}[Decidable p] (h:¬ p):false=decide p:=(bK h).symm
theorem z {p:Prop}(h:p:=by first|with_reducible rfl|omega|assumption|exact dT ‹_› | exact dF ‹_› | ((first|refine Yqp ?_|refine Yxj ?_ rfl);(first|omega|(simp only[std];omega)|grind))):p:=h
theorem zR {p:Prop}(h:p:=by first|exact Y223|exact Y21z|exact Y1vr):p:=h
theorem zM {p:Prop}(h:p:=by first|exact Y1xn|exact Y1wd|exact Y1si|exact Y1xb|exact Y1wq|exact Y1wg|exact Y1yv|exact Y1zv|exact Y21d|exact Y1zf|exact Y201|exact Y1w9|(refine Y1oy ?_;grind)):p:=h
def sumBy {α:Type}(f:α->Nat):List α->Nat
 | []=>0
 | x :: r=>f x+sumBy f r
theorem Yo4 {α:Type}(f:α->Nat):∀ (a b:List α),sumBy f (a++b)=sumBy f a+sumBy f b
 | [],b=>by simp[sumBy]
 | x :: a,b=>by simp only[bF,sumBy,Yo4 f a b];omega
theorem Yrn {α:Type}[Inhabited α] (f:α->Nat) {L:List α}{k:Nat}(h:k<L.length):sumBy f (L.drop k)=f (L.g k)+sumBy f (L.drop (k+1)):=by
 rw[Ynk h,sumBy]
theorem Yl3 {α:Type}(f:α->Nat):∀ {L:List α}{x:α},x∈L->f x<=sumBy f L
 | y :: r,x,h=>by
  rcases List.mem_cons.1 h with rfl|h
  ·simp only[sumBy];omega
  ·have:=Yl3 f h;simp only[sumBy];omega
theorem Ynp {α:Type}[Inhabited α] (c:α->Nat) {L:List α}{i:Nat}(h:i<L.length):sumBy c (L.take (i+1))=sumBy c (L.take i)+c (L.g i):=by
 rw[Yku h,Yo4];simp[sumBy]
theorem Ym2 {α:Type}(c:α->Nat) (L:List α) (i:Nat):sumBy c (L.take i)<=sumBy c L:=by
 have:=Yo4 c (L.take i) (L.drop i)
 rw[bf]at this;omega
theorem Yrk {α β:Type}[Inhabited β] (f:α->β->α) (a:α) {L:List β}{k:Nat}(h:k<L.length):(L.take (k+1)).foldl f a=f ((L.take k).foldl f a) (L.g k):=by
 rw[Yku h,cO];rfl
theorem Y1a6 {α β:Type}(f:List α->β->List α) (w:β->Nat):∀ (L:List β),(∀ y∈L,∀ o,(f o y).length<=o.length+1+w y)->∀ o,(L.foldl f o).length<=o.length+L.length+sumBy w L
 | [],_,o=>by simp[sumBy]
 | x :: r,hL,o=>by
  have h1:=hL x aj o
  have h2:=Y1a6 f w r (λy hy=>hL y (ai _ hy)) (f o x)
  simp only[bL,sumBy,aE];omega
structure Yd where
 Ka:Int
 Na:Int
 Ta:ByteArray
 Ia:List Yd
instance:Inhabited Yd:=⟨⟨0,0,.empty,[]⟩⟩
mutual
def Ykq:Yd->List Cell
 | ⟨kind',number',text',items'⟩=>[cI kind',cI number',cS text',.list (Yyo items')]
def Yyo:List Yd->List (List Cell)
 | []=>[]
 | x :: r=>Ykq x :: Yyo r
end
theorem Y13i:∀ l:List Yd,Yyo l=l.map Ykq
 | []=>by rw[Yyo];rfl
 | x :: r=>by rw[Yyo,Y13i r];rfl
def Yld (x:Yd):List Cell:=[cI x.Ka,cI x.Na,cS x.Ta,.list (x.Ia.map Ykq)]
theorem Y1an (x:Yd):Ykq x=Yld x:=by cases x;simp only[Ykq,Yld,Y13i]
mutual
def Y191:Yd->Yd->Bool
 | ⟨kind1,number1,text1,items1⟩,⟨kind2,number2,text2,items2⟩=>decide (kind1=kind2)&&decide (number1=number2)&&decide (text1=text2)&&Ys8 items1 items2
def Ys8:List Yd->List Yd->Bool
 | [],[]=>true
 | x :: r,y :: t=>Y191 x y&&Ys8 r t
 | _,_=>false
end
mutual
theorem Y13q:∀ a b:Yd,Y191 a b ↔ a=b
 | ⟨kind1,number1,text1,items1⟩,⟨kind2,number2,text2,items2⟩=>by rw[Y191];simp only[af,ak,Y11h items1 items2,Yd.mk.injEq,dw]
theorem Y11h:∀ a b:List Yd,Ys8 a b ↔ a=b
 | [],[]=>by simp[Ys8]
 | [],_ :: _=>by simp[Ys8]
 | _ :: _,[]=>by simp[Ys8]
 | x :: r,y :: t=>by rw[Ys8,af,Y13q x y,Y11h r t,cM]
end
instance:DecidableEq Yd:=λa b=>decidable_of_iff _ (Y13q a b)
mutual
theorem Yd.ind {P:Yd->Prop}(h:∀ x,(∀ y∈x.Ia,P y)->P x):∀ x,P x
 | ⟨kind',number',text',items'⟩=>h _ (λy hy=>Yd.inds h items' y hy)
theorem Yd.inds {P:Yd->Prop}(h:∀ x,(∀ y∈x.Ia,P y)->P x):∀ (l:List Yd),∀ y∈l,P y
 | [],y,hy=>by cases hy
 | x :: r,y,hy=>(List.mem_cons.1 hy).elim (λe=>e ▸ Yd.ind h x) (λhy=>Yd.inds h r y hy)
end
theorem Y1tp (a b:Yd):a=b ↔ a.Ka=b.Ka/\a.Na=b.Na/\a.Ta=b.Ta/\a.Ia=b.Ia:=by cases a;cases b;simp only[Yd.mk.injEq]
instance:Row Yd Ykq Yld 4:=⟨Y1an,λ_=>rfl⟩
abbrev Yq3 (x:Yd):SV:=.agg (vals (Yld x))
abbrev Ytd (x:Yd) (i:Nat):SV:=.agg [vI x.Ka,vI x.Na,vS x.Ta,.ref (i+0)]
abbrev Y16p (x:Yd):List Ob:=[.arr true 4 (x.Ia.map Ykq)]
mutual
def wD:Yd->Nat
 | ⟨_,_,text',items'⟩=>text'.size+wDs items'
def wDs:List Yd->Nat
 | []=>0
 | d :: r=>1+wD d+wDs r
end
theorem Y1pv:∀ l,wDs l=l.length+sumBy wD l
 | []=>by simp[wDs,sumBy]
 | d :: r=>by rw[wDs,Y1pv r];simp only[sumBy,aE];omega
theorem Yuh (x:Yd):wD x=x.Ta.size+(x.Ia.length+sumBy wD x.Ia):=by cases x;simp only[wD,Y1pv]
structure Yc where
 Ka:Int
 Na:Int
 Pa:List Int
 Da:Yd
 Kb:List Yc
instance:Inhabited Yc:=⟨⟨0,0,[],(default:Yd),[]⟩⟩
mutual
def Ykz:Yc->List Cell
 | ⟨kind',number',params',datum',kids'⟩=>[cI kind',cI number',.list (params'.map Yke),cI datum'.Ka,cI datum'.Na,cS datum'.Ta,.list (datum'.Ia.map Ykq),.list (Y11g kids')]
def Y11g:List Yc->List (List Cell)
 | []=>[]
 | x :: r=>Ykz x :: Y11g r
end
theorem Y165:∀ l:List Yc,Y11g l=l.map Ykz
 | []=>by rw[Y11g];rfl
 | x :: r=>by rw[Y11g,Y165 r];rfl
def Ymg (x:Yc):List Cell:=[cI x.Ka,cI x.Na,.list (x.Pa.map Yke),cI x.Da.Ka,cI x.Da.Na,cS x.Da.Ta,.list (x.Da.Ia.map Ykq),.list (x.Kb.map Ykz)]
theorem Ypw (x:Yc):Ykz x=Ymg x:=by cases x;simp only[Ykz,Ymg,Y165]
mutual
def Y1g6:Yc->Yc->Bool
 | ⟨kind1,number1,params1,datum1,kids1⟩,⟨kind2,number2,params2,datum2,kids2⟩=>decide (kind1=kind2)&&decide (number1=number2)&&decide (params1=params2)&&decide (datum1=datum2)&&Ytu kids1 kids2
def Ytu:List Yc->List Yc->Bool
 | [],[]=>true
 | x :: r,y :: t=>Y1g6 x y&&Ytu r t
 | _,_=>false
end
mutual
theorem Y15w:∀ a b:Yc,Y1g6 a b ↔ a=b
 | ⟨kind1,number1,params1,datum1,kids1⟩,⟨kind2,number2,params2,datum2,kids2⟩=>by rw[Y1g6];simp only[af,ak,Y13u kids1 kids2,Yc.mk.injEq,dw]
theorem Y13u:∀ a b:List Yc,Ytu a b ↔ a=b
 | [],[]=>by simp[Ytu]
 | [],_ :: _=>by simp[Ytu]
 | _ :: _,[]=>by simp[Ytu]
 | x :: r,y :: t=>by rw[Ytu,af,Y15w x y,Y13u r t,cM]
end
instance:DecidableEq Yc:=λa b=>decidable_of_iff _ (Y15w a b)
mutual
theorem Yc.ind {P:Yc->Prop}(h:∀ x,(∀ y∈x.Kb,P y)->P x):∀ x,P x
 | ⟨kind',number',params',datum',kids'⟩=>h _ (λy hy=>Yc.inds h kids' y hy)
theorem Yc.inds {P:Yc->Prop}(h:∀ x,(∀ y∈x.Kb,P y)->P x):∀ (l:List Yc),∀ y∈l,P y
 | [],y,hy=>by cases hy
 | x :: r,y,hy=>(List.mem_cons.1 hy).elim (λe=>e ▸ Yc.ind h x) (λhy=>Yc.inds h r y hy)
end
instance:Row Yc Ykz Ymg 8:=⟨Ypw,λ_=>rfl⟩
abbrev Yt3 (x:Yc):SV:=.agg (vals (Ymg x))
abbrev Y10c (x:Yc) (i:Nat):SV:=.agg [vI x.Ka,vI x.Na,.ref (i+0),vI x.Da.Ka,vI x.Da.Na,vS x.Da.Ta,.ref (i+1),.ref (i+2)]
abbrev Yzn (x:Yc):List Ob:=[.arr true 1 (x.Pa.map Yke),.arr true 4 (x.Da.Ia.map Ykq),.arr true 8 (x.Kb.map Ykz)]
mutual
def wC:Yc->Nat
 | ⟨_,_,params',datum',kids'⟩=>params'.length+wD datum'+wCs kids'
def wCs:List Yc->Nat
 | []=>0
 | d :: r=>1+wC d+wCs r
end
theorem Y1ne:∀ l,wCs l=l.length+sumBy wC l
 | []=>by simp[wCs,sumBy]
 | d :: r=>by rw[wCs,Y1ne r];simp only[sumBy,aE];omega
theorem Y131 (x:Yc):wC x=x.Pa.length+wD x.Da+(x.Kb.length+sumBy wC x.Kb):=by cases x;simp only[wC,Y1ne]
structure YS_ where
 Ka:Int
 Na:Int
 Ta:ByteArray
 Sa:List Int
 Ia:List YS_
instance:Inhabited YS_:=⟨⟨0,0,.empty,[],[]⟩⟩
mutual
def Ykb:YS_->List Cell
 | ⟨kind',number',text',scopes',items'⟩=>[cI kind',cI number',cS text',.list (scopes'.map Yke),.list (Yvr items')]
def Yvr:List YS_->List (List Cell)
 | []=>[]
 | x :: r=>Ykb x :: Yvr r
end
theorem Y11f:∀ l:List YS_,Yvr l=l.map Ykb
 | []=>by rw[Yvr];rfl
 | x :: r=>by rw[Yvr,Y11f r];rfl
def Yki (x:YS_):List Cell:=[cI x.Ka,cI x.Na,cS x.Ta,.list (x.Sa.map Yke),.list (x.Ia.map Ykb)]
theorem Yvb (x:YS_):Ykb x=Yki x:=by cases x;simp only[Ykb,Yki,Y11f]
mutual
def Y14g:YS_->YS_->Bool
 | ⟨kind1,number1,text1,scopes1,items1⟩,⟨kind2,number2,text2,scopes2,items2⟩=>decide (kind1=kind2)&&decide (number1=number2)&&decide (text1=text2)&&decide (scopes1=scopes2)&&Yrj items1 items2
def Yrj:List YS_->List YS_->Bool
 | [],[]=>true
 | x :: r,y :: t=>Y14g x y&&Yrj r t
 | _,_=>false
end
mutual
theorem Y10o:∀ a b:YS_,Y14g a b ↔ a=b
 | ⟨kind1,number1,text1,scopes1,items1⟩,⟨kind2,number2,text2,scopes2,items2⟩=>by rw[Y14g];simp only[af,ak,Y10j items1 items2,YS_.mk.injEq,dw]
theorem Y10j:∀ a b:List YS_,Yrj a b ↔ a=b
 | [],[]=>by simp[Yrj]
 | [],_ :: _=>by simp[Yrj]
 | _ :: _,[]=>by simp[Yrj]
 | x :: r,y :: t=>by rw[Yrj,af,Y10o x y,Y10j r t,cM]
end
instance:DecidableEq YS_:=λa b=>decidable_of_iff _ (Y10o a b)
mutual
theorem YS_.ind {P:YS_->Prop}(h:∀ x,(∀ y∈x.Ia,P y)->P x):∀ x,P x
 | ⟨kind',number',text',scopes',items'⟩=>h _ (λy hy=>YS_.inds h items' y hy)
theorem YS_.inds {P:YS_->Prop}(h:∀ x,(∀ y∈x.Ia,P y)->P x):∀ (l:List YS_),∀ y∈l,P y
 | [],y,hy=>by cases hy
 | x :: r,y,hy=>(List.mem_cons.1 hy).elim (λe=>e ▸ YS_.ind h x) (λhy=>YS_.inds h r y hy)
end
theorem Y1oc (a b:YS_):a=b ↔ a.Ka=b.Ka/\a.Na=b.Na/\a.Ta=b.Ta/\a.Sa=b.Sa/\a.Ia=b.Ia:=by cases a;cases b;simp only[YS_.mk.injEq]
instance:Row YS_ Ykb Yki 5:=⟨Yvb,λ_=>rfl⟩
abbrev Ykx (x:YS_):SV:=.agg (vals (Yki x))
abbrev Yo7 (x:YS_) (i:Nat):SV:=.agg [vI x.Ka,vI x.Na,vS x.Ta,.ref (i+0),.ref (i+1)]
abbrev Yo8 (x:YS_):List Ob:=[.arr true 1 (x.Sa.map Yke),.arr true 5 (x.Ia.map Ykb)]
theorem Y1al {L:List YS_}{i:Nat}(h:i<L.length):(L.map Ykb)[i]? = some (Yki (L.g i)):=Yxj h (Yvb _)
mutual
def wY:YS_->Nat
 | ⟨_,_,text',scopes',items'⟩=>text'.size+scopes'.length+wYs items'
def wYs:List YS_->Nat
 | []=>0
 | d :: r=>1+wY d+wYs r
end
theorem Y1ol:∀ l,wYs l=l.length+sumBy wY l
 | []=>by simp[wYs,sumBy]
 | d :: r=>by rw[wYs,Y1ol r];simp only[sumBy,aE];omega
theorem Ylo (x:YS_):wY x=x.Ta.size+x.Sa.length+(x.Ia.length+sumBy wY x.Ia):=by cases x;simp only[wY,Y1ol]
structure YB where
 Ta:ByteArray
 Sa:List Int
 Ka:Int
 Na:Int
instance:Inhabited YB:=⟨⟨.empty,[],0,0⟩⟩
def Yl6 (x:YB):List Cell:=[cS x.Ta,.list (x.Sa.map Yke),cI x.Ka,cI x.Na]
def Ykc (x:YB):List Cell:=Yl6 x
theorem Y1gh (x:YB):Ykc x=Yl6 x:=rfl
instance:DecidableEq YB:=λa b=>by cases a;cases b;rw[YB.mk.injEq];infer_instance
theorem Y1ke (a b:YB):a=b ↔ a.Ta=b.Ta/\a.Sa=b.Sa/\a.Ka=b.Ka/\a.Na=b.Na:=by cases a;cases b;simp only[YB.mk.injEq]
instance:Row YB Ykc Yl6 4:=⟨Y1gh,λ_=>rfl⟩
abbrev Yw1 (x:YB):SV:=.agg (vals (Yl6 x))
abbrev Y1de (x:YB) (i:Nat):SV:=.agg [vS x.Ta,.ref (i+0),vI x.Ka,vI x.Na]
abbrev Y1dm (x:YB):List Ob:=[.arr true 1 (x.Sa.map Yke)]
def wB (x:YB):Nat:=x.Ta.size+x.Sa.length
theorem Y1lb (x:YB):wB x=x.Ta.size+x.Sa.length:=rfl
structure YR_ where
 La:List YS_
 Pb:List YS_
 Tb:List YS_
instance:Inhabited YR_:=⟨⟨[],[],[]⟩⟩
def Ynw (x:YR_):List Cell:=[.list (x.La.map Ykb),.list (x.Pb.map Ykb),.list (x.Tb.map Ykb)]
def Ykn (x:YR_):List Cell:=Ynw x
theorem Y1p3 (x:YR_):Ykn x=Ynw x:=rfl
instance:DecidableEq YR_:=λa b=>by cases a;cases b;rw[YR_.mk.injEq];infer_instance
theorem Y1tk (a b:YR_):a=b ↔ a.La=b.La/\a.Pb=b.Pb/\a.Tb=b.Tb:=by cases a;cases b;simp only[YR_.mk.injEq]
instance:Row YR_ Ykn Ynw 3:=⟨Y1p3,λ_=>rfl⟩
abbrev Yum (x:YR_):SV:=.agg (vals (Ynw x))
abbrev Y1g3 (x:YR_) (i:Nat):SV:=.agg [.ref (i+0),.ref (i+1),.ref (i+2)]
abbrev Y1eo (x:YR_):List Ob:=[.arr true 5 (x.La.map Ykb),.arr true 5 (x.Pb.map Ykb),.arr true 5 (x.Tb.map Ykb)]
def wR (x:YR_):Nat:=(x.La.length+sumBy wY x.La)+(x.Pb.length+sumBy wY x.Pb)+(x.Tb.length+sumBy wY x.Tb)
theorem Y15q (x:YR_):wR x=(x.La.length+sumBy wY x.La)+(x.Pb.length+sumBy wY x.Pb)+(x.Tb.length+sumBy wY x.Tb):=rfl
structure YC where
 name:YS_
 depth:Int
 form:YS_
 each:List YC
instance:Inhabited YC:=⟨⟨(default:YS_),0,(default:YS_),[]⟩⟩
mutual
def Ykh:YC->List Cell
 | ⟨name',depth',form',each'⟩=>[cI name'.Ka,cI name'.Na,cS name'.Ta,.list (name'.Sa.map Yke),.list (name'.Ia.map Ykb),cI depth',cI form'.Ka,cI form'.Na,cS form'.Ta,.list (form'.Sa.map Yke),.list (form'.Ia.map Ykb),.list (Yuk each')]
def Yuk:List YC->List (List Cell)
 | []=>[]
 | x :: r=>Ykh x :: Yuk r
end
theorem Y10i:∀ l:List YC,Yuk l=l.map Ykh
 | []=>by rw[Yuk];rfl
 | x :: r=>by rw[Yuk,Y10i r];rfl
def Ylc (x:YC):List Cell:=[cI x.name.Ka,cI x.name.Na,cS x.name.Ta,.list (x.name.Sa.map Yke),.list (x.name.Ia.map Ykb),cI x.depth,cI x.form.Ka,cI x.form.Na,cS x.form.Ta,.list (x.form.Sa.map Yke),.list (x.form.Ia.map Ykb),.list (x.each.map Ykh)]
theorem Yuf (x:YC):Ykh x=Ylc x:=by cases x;simp only[Ykh,Ylc,Y10i]
mutual
def Y110:YC->YC->Bool
 | ⟨name1,depth1,form1,each1⟩,⟨name2,depth2,form2,each2⟩=>decide (name1=name2)&&decide (depth1=depth2)&&decide (form1=form2)&&Yqk each1 each2
def Yqk:List YC->List YC->Bool
 | [],[]=>true
 | x :: r,y :: t=>Y110 x y&&Yqk r t
 | _,_=>false
end
mutual
theorem Y10g:∀ a b:YC,Y110 a b ↔ a=b
 | ⟨name1,depth1,form1,each1⟩,⟨name2,depth2,form2,each2⟩=>by rw[Y110];simp only[af,ak,Yyc each1 each2,YC.mk.injEq,dw]
theorem Yyc:∀ a b:List YC,Yqk a b ↔ a=b
 | [],[]=>by simp[Yqk]
 | [],_ :: _=>by simp[Yqk]
 | _ :: _,[]=>by simp[Yqk]
 | x :: r,y :: t=>by rw[Yqk,af,Y10g x y,Yyc r t,cM]
end
instance:DecidableEq YC:=λa b=>decidable_of_iff _ (Y10g a b)
instance:Row YC Ykh Ylc 12:=⟨Yuf,λ_=>rfl⟩
structure YE where
 Ba:List YB
 Ma:List YR_
 Sb:Int
 Va:Int
 Sc:Int
instance:Inhabited YE:=⟨⟨[],[],0,0,0⟩⟩
def Yp1 (x:YE):List Cell:=[.list (x.Ba.map Ykc),.list (x.Ma.map Ykn),cI x.Sb,cI x.Va,cI x.Sc]
def Y19k (x:YE):List Cell:=Yp1 x
theorem Y1cj (x:YE):Y19k x=Yp1 x:=rfl
instance:DecidableEq YE:=λa b=>by cases a;cases b;rw[YE.mk.injEq];infer_instance
theorem Y1g8 (a b:YE):a=b ↔ a.Ba=b.Ba/\a.Ma=b.Ma/\a.Sb=b.Sb/\a.Va=b.Va/\a.Sc=b.Sc:=by cases a;cases b;simp only[YE.mk.injEq]
instance:Row YE Y19k Yp1 5:=⟨Y1cj,λ_=>rfl⟩
abbrev Ysi (x:YE):SV:=.agg (vals (Yp1 x))
abbrev Y19d (x:YE) (i:Nat):SV:=.agg [.ref (i+0),.ref (i+1),vI x.Sb,vI x.Va,vI x.Sc]
abbrev Y1aj (x:YE):List Ob:=[.arr true 4 (x.Ba.map Ykc),.arr true 3 (x.Ma.map Ykn)]
def wX (x:YE):Nat:=(x.Ba.length+sumBy wB x.Ba)+(x.Ma.length+sumBy wR x.Ma)
theorem Y12h (x:YE):wX x=(x.Ba.length+sumBy wB x.Ba)+(x.Ma.length+sumBy wR x.Ma):=rfl
structure Module where
 name:ByteArray
 imports:List ByteArray
 exports:List ByteArray
 body:List Yd
instance:Inhabited Module:=⟨⟨.empty,[],[],[]⟩⟩
def Y17y (x:Module):List Cell:=[cS x.name,.list (x.imports.map Ylu),.list (x.exports.map Ylu),.list (x.body.map Ykq)]
def Y1ih (x:Module):List Cell:=Y17y x
theorem Y1ka (x:Module):Y1ih x=Y17y x:=rfl
instance:DecidableEq Module:=λa b=>by cases a;cases b;rw[Module.mk.injEq];infer_instance
instance:Row Module Y1ih Y17y 4:=⟨Y1ka,λ_=>rfl⟩
structure Export where
 modul:ByteArray
 Ta:ByteArray
 Ka:Int
 Na:Int
instance:Inhabited Export:=⟨⟨.empty,.empty,0,0⟩⟩
def Y190 (x:Export):List Cell:=[cS x.modul,cS x.Ta,cI x.Ka,cI x.Na]
def Y18x (x:Export):List Cell:=Y190 x
theorem Y1k7 (x:Export):Y18x x=Y190 x:=rfl
instance:DecidableEq Export:=λa b=>by cases a;cases b;rw[Export.mk.injEq];infer_instance
instance:Row Export Y18x Y190 4:=⟨Y1k7,λ_=>rfl⟩
structure Unit where
 name:ByteArray
 globals:List Int
 body:Yc
instance:Inhabited Unit:=⟨⟨.empty,[],(default:Yc)⟩⟩
def Y1kb (x:Unit):List Cell:=[cS x.name,.list (x.globals.map Yke),cI x.body.Ka,cI x.body.Na,.list (x.body.Pa.map Yke),cI x.body.Da.Ka,cI x.body.Da.Na,cS x.body.Da.Ta,.list (x.body.Da.Ia.map Ykq),.list (x.body.Kb.map Ykz)]
def Y1ly (x:Unit):List Cell:=Y1kb x
theorem Y1t0 (x:Unit):Y1ly x=Y1kb x:=rfl
instance:DecidableEq Unit:=λa b=>by cases a;cases b;rw[Unit.mk.injEq];infer_instance
instance:Row Unit Y1ly Y1kb 10:=⟨Y1t0,λ_=>rfl⟩
structure World where
 expander:YE
 units:List Unit
 exports:List Export
instance:Inhabited World:=⟨⟨(default:YE),[],[]⟩⟩
def Y1d9 (x:World):List Cell:=[.list (x.expander.Ba.map Ykc),.list (x.expander.Ma.map Ykn),cI x.expander.Sb,cI x.expander.Va,cI x.expander.Sc,.list (x.units.map Y1ly),.list (x.exports.map Y18x)]
def Y1py (x:World):List Cell:=Y1d9 x
theorem Y1na (x:World):Y1py x=Y1d9 x:=rfl
instance:DecidableEq World:=λa b=>by cases a;cases b;rw[World.mk.injEq];infer_instance
instance:Row World Y1py Y1d9 7:=⟨Y1na,λ_=>rfl⟩
def sz (w:Nat) (left:Int):Int:=if (w:Int)<=left then left - w else -1
def Yll {α:Type}(f:α->Nat):List α->Nat
 | []=>0
 | x :: r=>max (f x) (Yll f r)
theorem Yvz {α:Type}(f:α->Nat):∀ (a b:List α),Yll f (a++b)=max (Yll f a) (Yll f b)
 | [],b=>by simp[Yll]
 | x :: a,b=>by simp only[bF,Yll,Yvz f a b];omega
theorem Y108 {α:Type}[Inhabited α] (c:α->Nat) {L:List α}{i:Nat}(h:i<L.length):Yll c (L.take (i+1))=max (Yll c (L.take i)) (c (L.g i)):=by
 rw[Yku h,Yvz];simp[Yll]
theorem Ysl {α:Type}(f:α->Nat):∀ {L:List α}{x:α},x∈L->f x<=Yll f L
 | y :: r,x,h=>by
  rcases List.mem_cons.1 h with rfl|h
  ·simp only[Yll];omega
  ·have:=Ysl f h;simp only[Yll];omega
theorem Yzx {α:Type}(f:α->Nat) {m:Nat}:∀ {L:List α},Yll f L<=m ↔ ∀ x∈L,f x<=m
 | []=>by simp[Yll]
 | x :: r=>by
  have h:=Yzx f (m:=m) (L:=r)
  simp only[Yll,List.forall_mem_cons,<- h];omega
def Yl8 {α:Type}(f:α->Int->Bool×Int):List α->Int->Bool×Int
 | [],m=>(true,m)
 | x :: r,m=>if (f x m).1 then Yl8 f r (f x m).2 else (false,(f x m).2)
theorem Yxm {α:Type}(f:α->Int->Bool×Int):∀ (a b:List α) (m:Int),Yl8 f (a++b) m=if (Yl8 f a m).1 then Yl8 f b (Yl8 f a m).2 else Yl8 f a m
 | [],b,m=>by simp[Yl8]
 | x :: a,b,m=>by
  simp only[bF,Yl8]
  by_cases e:(f x m).1
  ·simp only[ae e];exact Yxm f a b _
  ·simp only[ab e];rfl
theorem Yx6 {α:Type}[Inhabited α] (f:α->Int->Bool×Int) {L:List α}{k:Nat}(h:k<L.length) (m:Int) (ht:(Yl8 f (L.take k) m).1):Yl8 f (L.take (k+1)) m=f (L.g k) (Yl8 f (L.take k) m).2:=by
 rw[Yku h,Yxm,ae ht]
 simp only[Yl8]
 cases e:(f (L.g k) (Yl8 f (L.take k) m).2).1 with
 | true=>simp only[bz];rw[<- e]
 | false=>simp only[cv,cT];rw[<- e]
theorem Y116 {α:Type}[Inhabited α] (f:α->Int->Bool×Int) {L:List α}{k:Nat}(h:k<L.length) (m:Int) (ht:(Yl8 f (L.take k) m).1) (hf:(f (L.g k) (Yl8 f (L.take k) m).2).1=false):Yl8 f L m=f (L.g k) (Yl8 f (L.take k) m).2:=by
 have h1:=Yx6 f h m ht
 have h2:=Yxm f (L.take (k+1)) (L.drop (k+1)) m
 rw[bf,h1,hf]at h2
 rw[h2];rfl
theorem Y133 {α:Type}(f:α->Int->Bool×Int) (w:α->Nat) (P:α->Prop) (M:Int):∀ (L:List α),(∀ x∈L,∀ m,m<=M->((f x m).1 ↔ (m+w x<=M/\P x))/\((f x m).1->(f x m).2=m+w x)) ->
  ∀ m,m<=M->((Yl8 f L m).1 ↔ (m+sumBy w L<=M/\∀ x∈L,P x))/\((Yl8 f L m).1->(Yl8 f L m).2=m+sumBy w L)
 | [],_,m,hm=>by simp[Yl8,sumBy,hm]
 | x :: r,hL,m,hm=>by
  have h1:=hL x aj m hm
  simp only[Yl8,sumBy,List.forall_mem_cons]
  cases e:(f x m).1 with
  | true=>
   have h2:=h1.1.1 e
   have h3:=h1.2 e
   have h4:=Y133 f w P M r (λy hy=>hL y (ai _ hy)) (m+w x) h2.1
   simp only[bz,h3]
   constructor
   ·rw[h4.1];constructor
    ·rintro⟨a,b⟩;exact⟨by omega,h2.2,b⟩
    ·rintro⟨a,_,b⟩;exact⟨by omega,b⟩
   ·intro ht;rw[h4.2 ht];omega
  | false=>
   simp only[cv,cT,false_iff]
   refine⟨?_,False.elim⟩
   rintro⟨a,b,_⟩
   have:=h1.1.2 ⟨by omega,b⟩
   rw[e]at this;exact Bool.noConfusion this
theorem Y22t {L:List UInt8}{k:Nat}(h:k<L.length):L.take (k+1)=L.take k++[L.getD k 0]:=by
 rw[List.take_succ_eq_append_getElem h];simp[h]
theorem Y19x {α β:Type}[Inhabited α] (f:α->List β) {L:List α}{k:Nat}(h:k<L.length):(L.take (k+1)).flatMap f=(L.take k).flatMap f++f (L.g k):=by
 rw[Yku h];simp
theorem Y144 {α β:Type}(f:α->List β):∀ L:List α,(L.flatMap f).length=sumBy (λx=>(f x).length) L
 | []=>rfl
 | x :: r=>by simp only[bV,ax,Y144 f r,sumBy]
theorem Y13y {α β:Type}(f:α->List β) (L:List α) (k:Nat):((L.take k).flatMap f).length<=(L.flatMap f).length:=by
 rw[Y144,Y144];exact Ym2 _ _ _
theorem Yx8 {α:Type}{f g:α->Nat}:∀ {L:List α},(∀ x∈L,f x<=g x)->Yll f L<=sumBy g L
 | [],_=>aD _
 | x :: l,h=>by
  have h1:=h x aj
  have h2:=Yx8 (L:=l) λy hy=>h y (ai _ hy)
  simp only[sumBy,Yll];omega
def okU (L:List Int):Bool:=decide (L.Nodup/\∀ n∈L,0<=n/\n<=99999)
theorem Y194 {L:List Int}:okU L ↔ L.Nodup/\∀ n∈L,0<=n/\n<=99999:=decide_eq_true_iff
theorem Y1vx:okU []:=rfl
theorem Y1qz {L:List Int}{n:Int}:okU (L++[n]) ↔ okU L/\0<=n/\n<=99999/\n∉L:=by
 simp only[Y194];rw[dB]
 simp only[aA,ao]
 grind
theorem Y1di {A B:List Int}(h:okU (A++B)):okU A:=by
 rw[Y194]at h|-
 exact⟨(List.nodup_append.1 h.1).1,λn hn=>h.2 n (aY _ hn)⟩
end Go.Proofs.YtcbodhkhppgkiaaGreat
end
section
namespace Go.Proofs.YtcbodhkhppgkiaaGreat
open Go Go.Proofs.YtcbodhkhppgkiaaGreat.Ab Go.ChangeShapes
section
variable {H:Type}{enc:TypeId×Value->H}{P:Program}{w:Go.World}{sp:Nat->Bool}{hd:Bool}{fuel:Nat}{cs:List Value}{x:DataW H×List MemPlace}
abbrev Old (w:Go.World) (b:Nat):Prop:=b<w.heap.size
theorem Y1wf {t:TypeId}(ht:P.underlying t=some (.int .u8)) (h:DataW.trod enc P w 0 sp hd fuel t cs=some x):∃ b:UInt8,Yky (Rd w (Old w)) cs (Ym0 b):=by
 obtain⟨n,rfl,_,hw⟩:=DataW.trod_int ht h
 have hn:0<=n/\n<=255:=by
  simp only[Lit.wf,af,ak]at hw
  exact⟨hw.1,hw.2⟩
 have e:((UInt8.ofNat n.toNat).toNat:Int)=n:=by
  rw[UInt8.toNat_ofNat_of_lt' (by show n.toNat<256;omega)];omega
 refine⟨UInt8.ofNat n.toNat,?_⟩
 unfold Ym0
 rw[e]
 exact⟨.lit trivial,trivial⟩
theorem Y1to {α:Type}[Inhabited α] {C:α->List Cell}{t e:TypeId}(ht:P.underlying t=some (.slice e)) (hpos:0<P.cellsOf e)
  (hC:∀ a,(C a).length=P.cellsOf e)
  (hel:∀ n,n<fuel->∀ (cs:List Value) (x:DataW H×List MemPlace),DataW.trod enc P w 0 sp hd n e cs=some x->∃ a,Yky (Rd w (Old w)) cs (C a))
  (h:DataW.trod enc P w 0 sp hd fuel t cs=some x):∃ L:List α,Yky (Rd w (Old w)) cs [.list (L.map C)]:=by
 rcases DataW.trod_slice ht h with ⟨rfl,_⟩|⟨a,len,cap,elems,rest,n,hn,rfl,_,_,hl,hm,hlen,hel2,_,_⟩
 ·exact⟨[],Rd.nil,trivial⟩
 have hone:∀ i,i<len->∃ p:List Value×α,w.cells? 0 (a.add (i * P.cellsOf e)) (P.cellsOf e)=some p.1/\Yky (Rd w (Old w)) p.1 (C p.2):=by
  intro i hi
  have hb:=hel2 i hi
  rw[aw oW]at hb
  obtain⟨cs',h1,h2⟩:=Option.bind_eq_some_iff.1 hb
  obtain⟨y,hy⟩:=hel n oW cs' _ h2
  exact⟨(cs',y),h1,hy⟩
 obtain⟨f,hf⟩:=Go.Deep.choose_lt hone
 let L:List α:=(List.range len).map λi=>(f i).2
 have hL:L.length=len:=by simp[L]
 rcases cZ len with h0|h0
 ·subst h0
  have:L=[]:=by simp[L]
  exact⟨[],Rd.nil,trivial⟩
 have hcell:∀ i k,i<len->k<P.cellsOf e->∃ v c,w.cell? (a.add (i * P.cellsOf e+k))=some v/\(C (f i).2)[k]? = some c/\Rd w (Old w) v c:=by
  intro i k hi hk
  obtain⟨h1,h2⟩:=hf i hi
  obtain⟨_,h3,h4⟩:=Go.World.cells?_some h1
  have h5:=h4 k hk
  rw[Go.Deep.add_add]at h5
  have h6:k<(f i).1.length:=by omega
  rw[aw h6]at h5
  have h7:k<(C (f i).2).length:=by rw[hC];exact hk
  exact⟨_,_,h5,aw h7,h2.get (aw h6) (aw h7)⟩
 have hspot:a.spot=none:=by
  obtain⟨v,_,h1,_⟩:=hcell 0 0 h0 hpos
  simp only[Nat.zero_mul,cR,Addr.add,bz]at h1
  unfold Go.World.cell? at h1
  split at h1
  ·split at h1
   ·cases h1
   ·rename_i hs;simpa using hs
  ·cases h1
 have haddr:∀ j,a.add j=⟨a.block,a.off+j,none⟩:=by
  intro j
  unfold Addr.add
  split
  ·rename_i hj;subst hj;cases a;simp_all
  ·rfl
 have hblk:a.block<w.heap.size:=by
  obtain⟨v,_,h1,_⟩:=hcell 0 0 h0 hpos
  unfold Go.World.cell? at h1
  rw[haddr]at h1
  simp only at h1
  cases hh:w.heap[a.block]? with
  | none=>rw[hh]at h1;cases h1
  | some o=>exact(Array.getElem?_eq_some_iff.1 hh).1
 refine⟨L,?_,trivial⟩
 have hval:(Value.slice (some a) len cap)=.slice (some ⟨a.block,a.off,none⟩) (L.map C).length cap:=by
  rw[aN,hL];cases a;simp_all
 rw[hval]
 have hszL:∀ es∈L.map C,es.length=P.cellsOf e:=by
  intro es hes;obtain⟨y,_,rfl⟩:=List.mem_map.1 hes;exact hC y
 have hflat:(L.map C).flatten.length=len * P.cellsOf e:=by rw[Ym6 hszL,aN,hL]
 refine Rd.slice (sz:=P.cellsOf e) (xs:=(List.range (len * P.cellsOf e)).map λj=>(w.cell? (a.add j)).getD undef) hblk (by rw[aN,hL];exact hl) hm hszL (by rw[hflat];simp) ?_ ?_
 ·intro j u hu
  have hj:j<len * P.cellsOf e:=by
   have:=(List.getElem?_eq_some_iff.1 hu).1;simpa using this
  simp only[bc,dO hj,aO,aa]at hu
  obtain⟨v,_,h1,_⟩:=hcell (j / P.cellsOf e) (j % P.cellsOf e) (Nat.div_lt_of_lt_mul (by rw[dS];exact hj)) (Nat.mod_lt _ hpos)
  have hdm:j / P.cellsOf e * P.cellsOf e+j % P.cellsOf e=j:=by rw[dS];exact Nat.div_add_mod j _
  rw[hdm]at h1
  rw[h1]at hu
  rw[<- haddr,h1]
  simpa using hu
 ·intro j u c hu hc
  have hj:j<len * P.cellsOf e:=by
   have:=(List.getElem?_eq_some_iff.1 hu).1;simpa using this
  simp only[bc,dO hj,aO,aa]at hu
  have hi:j / P.cellsOf e<len:=Nat.div_lt_of_lt_mul (by rw[dS];exact hj)
  obtain⟨v,c',h1,h2,h3⟩:=hcell (j / P.cellsOf e) (j % P.cellsOf e) hi (Nat.mod_lt _ hpos)
  have hdm:j / P.cellsOf e * P.cellsOf e+j % P.cellsOf e=j:=by rw[dS];exact Nat.div_add_mod j _
  rw[hdm]at h1
  rw[h1]at hu
  have hLi:(L.map C)[j / P.cellsOf e]? = some (C (f (j / P.cellsOf e)).2):=by simp[L,hi]
  have:=Yom hszL hLi h2
  rw[hdm,hc]at this
  simp only[aa]at this
  subst this
  simp only[cJ]at hu
  subst hu
  exact h3
theorem Y1gr {W W':Go.World}(hk:W.kept W') {p:MemPlace}(hp:p.block<W.heap.size):W.sameAt W' p:=by
 cases p with
 | cell b off=>exact Yp7 (hk.2.2 b hp)
 | map b=>exact hk.2.2 b hp
theorem Y11s {W W':Go.World}(hl:laidOutB P) (hmr:mapsRowed P) (hsz:((List.range P.types.size).all λt=>match P.underlying t with|some (.slice e)=>decide (0<P.cellsOf e)|_=>true)=true)
  (hk:W.kept W') {sp:Nat->Bool}:∀ {ts:List TypeId} {vs:List Value} {ds:List (DataW H)} {ps:List MemPlace},(∀ t∈ts,t<P.types.size)->DataW.TrodAll enc P W 0 (λ_=>true) true ts vs ds ps->(∀ p∈ps,sp p.block) ->
   DataW.TrodAll enc P W' 0 sp true ts vs ds ps
 | [],[],[],ps,_,h,_=>h
 | t :: ts,v :: vs,d :: ds,ps,ht,⟨p,q,⟨fuel,hf⟩,h2,e⟩,hs=>by
  subst e
  have hlt:=DataW.trod_lt _ _ _ _ hf
  refine⟨p,q,⟨fuel,DataW.trod_stays (kids_rows hl hmr) (λ{t e} ht hu => ?_) (λhh=>by cases hh) (ht t aj) hf (λy hy=>Y1gr hk (hlt y hy)) (λy hy=>hs y (aY _ hy))⟩,
   Y11s hl hmr hsz hk (λt ht'=>ht t (ai _ ht')) h2 (λy hy=>hs y (bd _ hy)),rfl⟩
  have:=List.all_eq_true.1 hsz t (List.mem_range.2 ht)
  rw[hu]at this
  simpa using this
 | [],_ :: _,_,_,_,h,_=>h.elim
 | [],[],_ :: _,_,_,h,_=>h.elim
 | _ :: _,[],_,_,_,h,_=>h.elim
 | _ :: _,_ :: _,[],_,_,h,_=>h.elim
theorem Y1x0 {W:Go.World}{v:Value}{c:Cell}(hv:v.cells=#[v]) (hc:Yky (Rd W (Old W)) v.cells.toList [c]):Ylx W (Y18p W) (Yml []) (.one (.val c)) v:=by
 rw[hv]at hc
 exact⟨hc.1,λ_=>hc.1.one⟩
end
end Go.Proofs.YtcbodhkhppgkiaaGreat
end
section
namespace Go.Proofs.YtcbodhkhppgkiaaGreat
open Go
set_option maxRecDepth 100000
def Y1ag:List Char:=(List.map Char.ofNat [104,97,114,110,101,115,115,32,102,50,51,98,97,49,53,53,54,56,50,49,52,55,57,102,99,51,57,56,48,97,97,53,102,99,51,53,99,98,55,53,102,49,99,48,56,55,52,55,102,56,53,48,100,48,55,51,101,56,57,57,50,51,101,55,97,52,48,48,54,51,57,56,32,99,117,116,32,97,116,32,108,111,111,112,46,101,120,97,109,112,108,101,47,103,48,51,50,50,48,47,108,97,119,115,46,70,110,84,114,97,99,101,100,32,108,111,111,112,46,101,120,97,109,112,108,101,47,103,48,51,50,50,48,47,108,97,119,115,46,70,110,67,108,111,115,101,100])
def Ypp:List (List Char):=[(List.map Char.ofNat [104,97,114,110,101,115,115]),
 (List.map Char.ofNat [102,50,51,98,97,49,53,53,54,56,50,49,52,55,57,102,99,51,57,56,48,97,97,53,102,99,51,53,99,98,55,53,102,49,99,48,56,55,52,55,102,56,53,48,100,48,55,51,101,56,57,57,50,51,101,55,97,52,48,48,54,51,57,56]),
 (List.map Char.ofNat [99,117,116]),
 (List.map Char.ofNat [97,116]),
 (List.map Char.ofNat [108,111,111,112,46,101,120,97,109,112,108,101,47,103,48,51,50,50,48,47,108,97,119,115,46,70,110,84,114,97,99,101,100]),
 (List.map Char.ofNat [108,111,111,112,46,101,120,97,109,112,108,101,47,103,48,51,50,50,48,47,108,97,119,115,46,70,110,67,108,111,115,101,100])]
theorem Y1oq:Tryz.pinned.checked.prog.initOrder=String.ofList Y1ag:=by kernel_rfl
theorem Y1jt:wordsSigns Y1ag=Ypp:=by kernel_rfl
theorem Y1kf:wordsSigns Tryz.pinned.checked.prog.initOrder.toList=Ypp:=by rw[Y1oq,String.toList_ofList];exact Y1jt
theorem Y1jq:stripLifts liftWords (behindMainWord Ypp)=([],behindMainWord Ypp):=by kernel_rfl
theorem Y1n0 (P:Program) (h:wordsSigns P.initOrder.toList=Ypp) (h1:P.laysLater=false) (h2:P.bearsReflect=false) (h3:P.doorFits []):P.mayEnter:=by
 have e:behindMainWord Ypp=(List.map Char.ofNat [99,117,116]) :: (behindMainWord Ypp).tail:=by kernel_rfl
 have t:=Y1jq
 unfold Program.mayEnter;rw[h]
 rw[e]at t|-
 simp only[t,h1,h2,h3]
 decide +kernel
theorem Y1th (P:Program) (h:wordsSigns P.initOrder.toList=Ypp):P.make=some .cut:=by
 unfold Program.make;rw[h];kernel_rfl
theorem Y1sn (P:Program) (h:wordsSigns P.initOrder.toList=Ypp):P.liftsFinal=false:=by
 unfold Program.liftsFinal Program.headLifts;rw[h];kernel_rfl
theorem Y23a {a b:Bool}(h:a) (g:b):(a&&b):=by rw[h,g];rfl
theorem Y206:Tryz.pinned.checked.prog.mayEnter:=Y1n0 _ Y1kf (by kernel_rfl) (by kernel_rfl) (by kernel_rfl)
theorem Y22f:Tryz.pinned.checked.prog.make=some .cut:=Y1th _ Y1kf
theorem Y23j:Tryz.pinned.checked.prog.liftsFinal=false:=Y1sn _ Y1kf
end Go.Proofs.YtcbodhkhppgkiaaGreat
end
