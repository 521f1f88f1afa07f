/- Part 5 of the machine. No condition. -/
import Derived.Test.YtcbodhkhppgkiaaGreatQ4
import Derived.Test.YtcbodhkhppgkiaaGreatRows
import Derived.ChangeStays
import Derived.ChangeOld
import Derived.Deep.Slices
set_option linter.unusedVariables false
set_option linter.unusedSimpArgs false
section
namespace Go.Proofs.YtcbodhkhppgkiaaGreat
open Go Ab
theorem wide:Tryz.prog.follows .mixedOrders:=by kernel_rfl
abbrev OK (c:Ct):Prop:=OKP Tryz.prog c
instance:CoeSort Ct Prop:=⟨OK⟩
instance:Coe Ct Prop:=⟨OK⟩
theorem Ylh {K:Ct}{fn:Func}(hc:∀ xs w,(callFunc K.f xs).run Tryz.prog w=.ok (.enter K.f xs) w) (hf:Tryz.prog.funcs[K.f]? = some fn) (t:Tq Tryz.prog Unit) (he:Yl3 t [] (.fn K.o1 K.r))
  (hb:fn.body=some (fn.body.getD .skip):=by kernel_rfl) (hr:Yq8 Tryz.prog (fn.body.getD .skip) (Y13n K.o K.a fn.ntmps) (Yp6 t noW [] (.fn K.o1 K.r)) (Y1uf Tryz.prog fn.results.toList K.o1 K.r)=Yoj t [] (.fn K.o1 K.r):=by kernel_rfl):OK K:=
 OKP.of wide hc hf hb t hr he
theorem Ylp {σ:Type}{c:Code}{L:Lp σ}(t:σ->Tq Tryz.prog σ) (he:∀ k,L.inv k->Yl3 (t k) [] (.lp L k))
  (hr:∀ k,Yq8 Tryz.prog c (L.T (L.v k)) (Yp6 (t k) noW [] (.lp L k)) (Y17t L.I L.Y (L.meas k))=Yoj (t k) [] (.lp L k):=by intro k;kernel_rfl):L.Sem Tryz.prog c:=
 Lp.Sem.of wide t hr he
theorem Y1v8 {σ:Type}{c:Code}{L:Lp σ}(b:σ->Bool) (t u:σ->Tq Tryz.prog σ) (he:∀ k,L.inv k->(b k->Yl3 (t k) [] (.lp L k))/\(b k=false->Yl3 (u k) [] (.lp L k)))
  (ht:∀ k,Yq8 Tryz.prog c (L.T (L.v k)) (Yp6 (t k) noW [] (.lp L k)) (Y17t L.I L.Y (L.meas k))=Yoj (t k) [] (.lp L k):=by intro k;kernel_rfl)
  (hu:∀ k,Yq8 Tryz.prog c (L.T (L.v k)) (Yp6 (u k) noW [] (.lp L k)) (Y17t L.I L.Y (L.meas k))=Yoj (u k) [] (.lp L k):=by intro k;kernel_rfl):L.Sem Tryz.prog c:=
 Lp.Sem.of wide (λk=>bif b k then t k else u k) (λk=>by cases b k<;>first|exact ht k|exact hu k) (λk hk=>by
  have h:=he k hk
  cases e:b k with
  | true=>exact h.1 e
  | false=>exact h.2 e)
theorem Yof {α:Type}[Inhabited α] {L:List α}{k:Nat}(h:k<L.length):L.drop k=L.g k :: L.drop (k+1):=by
 rw[dr h];simp[h]
theorem Ylk {α:Type}[Inhabited α] {L:List α}{k:Nat}(h:k<L.length):L.take (k+1)=L.take k++[L.g k]:=by
 rw[List.take_succ_eq_append_getElem h];simp[h]
theorem Yl6 {α:Type}[Inhabited α] {L:List α}{k:Nat}(h:k<L.length):L.g k∈L:=by simp[h]
theorem Y1r8 (s:ByteArray):s.data.toList.length=s.size:=rfl
theorem Y24v {n:Int}:rng .i64 n ↔ -9223372036854775808<=n/\n<=9223372036854775807:=Y1ke
theorem Y1p9 (a b:List Ob):Y142 a b ↔ a=b:=dQ
theorem mIc {g g':Int->Int}(h:g=g'):mI g=mI g':=by rw[h]
theorem mOc {g g':Int->Option Int}(h:g=g'):mO g=mO g':=by rw[h]
theorem mSc {g g':ByteArray->Int}(h:g=g'):mS g=mS g':=by rw[h]
theorem mLc {g g':ByteArray->List Int}(h:g=g'):mL g=mL g':=by rw[h]
theorem Yla (S:List Int) (n:Int):S.map Yl4++[[cI n]]=(S++[n]).map Yl4:=by simp[Yl4]
theorem Ylb (S:List ByteArray) (n:ByteArray):S.map Ymj++[[cS n]]=(S++[n]).map Ymj:=by simp[Ymj]
theorem Y232 {L:List Int}:∀ e∈L.map Yl4,∀ c∈e,∃ v,c=Cell.lit v:=by
 intro e he c hc
 obtain⟨x,_,rfl⟩:=List.mem_map.1 he
 rw[List.mem_singleton.1 hc];exact⟨_,rfl⟩
theorem Y22y {L:List ByteArray}:∀ e∈L.map Ymj,∀ c∈e,∃ v,c=Cell.lit v:=by
 intro e he c hc
 obtain⟨x,_,rfl⟩:=List.mem_map.1 he
 rw[List.mem_singleton.1 hc];exact⟨_,rfl⟩
theorem Yyi {α:Type}[Inhabited α] {f:α->List Cell}{L:List α}{i:Nat}{x:List Cell}(h:i<L.length) (hx:f (L.g i)=x):(L.map f)[i]? = some x:=by
 subst hx;simp[h]
theorem Yso {α:Type}[Inhabited α] {A B:List α}{k:Nat}(h:k<A.length) (hl:A.length=B.length):A.take (k+1)=B.take (k+1) ↔ A.take k=B.take k/\A.g k=B.g k:=by
 rw[Ylk h,Ylk (by omega:k<B.length)]
 constructor
 ·intro e
  have:=List.append_inj e (by simp;omega)
  exact⟨this.1,by simpa using this.2⟩
 ·rintro⟨e1,e2⟩;rw[e1,e2]
theorem Yok (a b:ByteArray):a.data.toList=b.data.toList ↔ a=b:=by
 constructor
 ·intro h;cases a;cases b;simp at h;subst h;rfl
 ·intro h;rw[h]
theorem Y22e (a b:Bool):AV.sv (lb a)=AV.sv (lb b) ↔ a=b:=by simp[lb,vB,cB]
theorem Y21s (a b:Int):AV.sv (li a)=AV.sv (li b) ↔ a=b:=by simp[li,vI,cI]
theorem Y228 (a b:ByteArray):AV.sv (ls a)=AV.sv (ls b) ↔ a=b:=by simp[ls,vS,cS]
def Y1f2 {α:Type}[Inhabited α] (L:List α) (k:Nat):List α:=L.take k++List.replicate (L.length - k) default
theorem Y1m1 {α:Type}[Inhabited α] (L:List α) (k:Nat):(Y1f2 L k).length=L.length:=by simp[Y1f2];omega
def Y254 (n:Int):List Cell:=[cI n]
def Y25x (n:ByteArray):List Cell:=[cS n]
instance:Row Int Yl4 Y254 1:=⟨λ_=>rfl,λ_=>rfl⟩
instance:Row ByteArray Ymj Y25x 1:=⟨λ_=>rfl,λ_=>rfl⟩
section
variable {α:Type}{C F:α->List Cell}{n:Nat}
theorem Yqu [Row α C F n] [Inhabited α] {L:List α}{i:Nat}(h:i<L.length):(L.map C)[i]? = some (F (L.g i)):=Yyi h (Row.eq _)
theorem Yl5 [Row α C F n] (L:List α) (x:α):L.map C++[F x]=(L++[x]).map C:=by simp[Row.eq (C:=C) (F:=F)]
theorem Y1x2 [Row α C F n] {L:List α}:∀ e∈L.map C,e.length=n:=by
 intro e he
 obtain⟨x,_,rfl⟩:=List.mem_map.1 he;rw[Row.eq (C:=C) (F:=F)];exact Row.len (C:=C) x
end
abbrev tx (s:ByteArray):List UInt8:=s.data.toList
def mkS (l:List UInt8):ByteArray:=⟨l.toArray⟩
theorem Y1le (l:List UInt8):ByteArray.mk l.toArray=mkS l:=rfl
theorem Y1q4 (l:List UInt8):(mkS l).data.toList=l:=rfl
theorem Y1wy (a b:List UInt8):mkS a=mkS b ↔ a=b:=by
 constructor
 ·intro h;have:=ci (λs:ByteArray=>s.data.toList) h;simpa[mkS] using this
 ·intro h;rw[h]
theorem Y1to (l:List UInt8):(mkS l).size=l.length:=rfl
theorem std:(∀ s:ByteArray,s.data.toList.length=s.size)/\(∀ {α β:Type}(f:α->β) (L:List α),(L.map f).length=L.length)/\(∀ n:Nat,(n:Int).toNat=n) /\
  (∀ n:Int,rng .i64 n ↔ -9223372036854775808<=n/\n<=9223372036854775807)/\(∀ a b:List Ob,Y142 a b ↔ a=b)/\(∀ {α:Type} (a b:List α),(a++b).length=a.length+b.length) /\
  (∀ {α:Type} (n:Nat) (a:α),(List.replicate n a).length=n)/\(∀ {α:Type} [Inhabited α] (L:List α) (k:Nat),(Y1f2 L k).length=L.length)/\(∀ (p:Prop) [Decidable p],(decide p=true)=p) /\
  (∀ (p:Prop) [Decidable p],(decide p=false)=¬ p)/\(∀ {α:Type} (a b:α),(a≠b)=¬ a=b)/\(∀ a b:Bool,(AV.sv (lb a)=AV.sv (lb b)) ↔ a=b)/\(∀ a b:Int,(AV.sv (li a)=AV.sv (li b)) ↔ a=b) /\
  (∀ a b:ByteArray,(AV.sv (ls a)=AV.sv (ls b)) ↔ a=b)/\(∀ l:List UInt8,ByteArray.mk l.toArray=mkS l)/\(∀ l:List UInt8,(mkS l).data.toList=l)/\(∀ a b:List UInt8,mkS a=mkS b ↔ a=b) /\
  (∀ l:List UInt8,(mkS l).size=l.length)/\(∀ {α β:Type} (f:α->β) (L:List α) (n:Nat),(L.map f).take n=(L.take n).map f)/\(∀ {α β:Type} (f:α->β) (L:List α) (n:Nat),(L.map f).drop n=(L.drop n).map f) /\
  (∀ n:Nat,n - 0=n)/\(∀ {α:Type} (L:List α),L.drop 0=L):=
 ⟨Y1r8,λ_ _=>aO _,cE,@Y24v,Y1p9,λ_ _=>aw,λ_ _=>List.length_replicate,Y1m1,@ak,λp _=>propext (aM (p:=p)),λa b=>rfl,Y22e,Y21s,Y228,Y1le,Y1q4,Y1wy,Y1to,λ_ _ _=>List.map_take.symm,λ_ _ _=>List.map_drop.symm,Nat.sub_zero,λ_=>cQ⟩
theorem inj:(∀ a b:SV,(AV.sv a=AV.sv b)=(a=b))/\(∀ l m:List SV,(AV.tup l=AV.tup m)=(l=m))/\(∀ l m:List AC,(SV.agg l=SV.agg m)=(l=m)) /\
  (∀ a b:AC,(SV.one a=SV.one b)=(a=b))/\(∀ a b:Int,(li a=li b)=(a=b))/\(∀ a b:Bool,(lb a=lb b)=(a=b))/\(∀ a b:ByteArray,(ls a=ls b)=(a=b)) /\
  (∀ a b:List (List Cell),(ll a=ll b)=(a=b))/\(∀ a b:Int,(vI a=vI b)=(a=b))/\(∀ a b:Bool,(vB a=vB b)=(a=b))/\(∀ a b:ByteArray,(vS a=vS b)=(a=b))/\(∀ a b:List (List Cell),(vL a=vL b)=(a=b)) /\
  (∀ o z x y,(Ob.arr o z x=Ob.arr o z y)=(x=y))/\(∀ l m,(Ob.box l=Ob.box m)=(l=m))/\(∀ (a b:AC) l m,(a :: l=b :: m)=(a=b/\l=m))/\(∀ (a b:SV) l m,(a :: l=b :: m)=(a=b/\l=m))/\(∀ (a b:Ob) l m,(a :: l=b :: m)=(a=b/\l=m)) /\
  (∀ (a b:Hv) l m,(a :: l=b :: m)=(a=b/\l=m))/\(∀ a b,(Hv.s a=Hv.s b)=(a=b))/\(∀ a b,(Hv.o a=Hv.o b)=(a=b))/\(∀ a b,(Hv.a a=Hv.a b)=(a=b)):=by
 refine⟨?_,?_,?_,?_,?_,?_,?_,?_,?_,?_,?_,?_,?_,?_,?_,?_,?_,?_,?_,?_,?_⟩<;>intros<;>(try apply propext)<;>simp[li,lb,ls,ll,vI,vB,vS,vL,cI,cB,cS]
theorem dT {p:Prop}[Decidable p] (h:p):true=decide p:=(bF h).symm
theorem dF {p:Prop}[Decidable p] (h:¬ p):false=decide p:=(bK h).symm
theorem z {p:Prop}(h:p:=by first|with_reducible rfl|omega|assumption|exact dT ‹_› | exact dF ‹_› | ((first|refine Yqu ?_|refine Yyi ?_ rfl);(first|omega|(simp only[std];omega)|grind))):p:=h
theorem zR {p:Prop}(h:p:=by first|exact Y232|exact Y22y|exact Y1x2):p:=h
theorem zM {p:Prop}(h:p:=by first|exact Y1yv|exact Y1xl|exact Y1tt|exact Y1yi|exact Y1xy|exact Y1xo|exact Y203|exact Y20x|exact Y229|exact Y20j|exact Y213|exact Y1xh|(refine Y1qe ?_;grind)):p:=h
def sumBy {α:Type}(f:α->Nat):List α->Nat
 | []=>0
 | x :: r=>f x+sumBy f r
theorem Yp0 {α:Type}(f:α->Nat):∀ (a b:List α),sumBy f (a++b)=sumBy f a+sumBy f b
 | [],b=>by simp[sumBy]
 | x :: a,b=>by simp only[bE,sumBy,Yp0 f a b];omega
theorem Ysh {α:Type}[Inhabited α] (f:α->Nat) {L:List α}{k:Nat}(h:k<L.length):sumBy f (L.drop k)=f (L.g k)+sumBy f (L.drop (k+1)):=by
 rw[Yof h,sumBy]
theorem Yls {α:Type}(f:α->Nat):∀ {L:List α}{x:α},x∈L->f x<=sumBy f L
 | y :: r,x,h=>by
  rcases List.mem_cons.1 h with rfl|h
  ·simp only[sumBy];omega
  ·have:=Yls f h;simp only[sumBy];omega
theorem Yom {α:Type}[Inhabited α] (c:α->Nat) {L:List α}{i:Nat}(h:i<L.length):sumBy c (L.take (i+1))=sumBy c (L.take i)+c (L.g i):=by
 rw[Ylk h,Yp0];simp[sumBy]
theorem Ymu {α:Type}(c:α->Nat) (L:List α) (i:Nat):sumBy c (L.take i)<=sumBy c L:=by
 have:=Yp0 c (L.take i) (L.drop i)
 rw[be]at this;omega
theorem Yse {α β:Type}[Inhabited β] (f:α->β->α) (a:α) {L:List β}{k:Nat}(h:k<L.length):(L.take (k+1)).foldl f a=f ((L.take k).foldl f a) (L.g k):=by
 rw[Ylk h,cO];rfl
theorem Y1b6 {α β:Type}(f:List α->β->List α) (w:β->Nat):∀ (L:List β),(∀ y∈L,∀ o,(f o y).length<=o.length+1+w y)->∀ o,(L.foldl f o).length<=o.length+L.length+sumBy w L
 | [],_,o=>by simp[sumBy]
 | x :: r,hL,o=>by
  have h1:=hL x aj o
  have h2:=Y1b6 f w r (λy hy=>hL y (ai _ hy)) (f o x)
  simp only[bL,sumBy,aD];omega
structure Yd where
 Ka:Int
 Na:Int
 Ta:ByteArray
 Ia:List Yd
instance:Inhabited Yd:=⟨⟨0,0,.empty,[]⟩⟩
mutual
def Ylf:Yd->List Cell
 | ⟨kind',number',text',items'⟩=>[cI kind',cI number',cS text',.list (Yzi items')]
def Yzi:List Yd->List (List Cell)
 | []=>[]
 | x :: r=>Ylf x :: Yzi r
end
theorem Y14f:∀ l:List Yd,Yzi l=l.map Ylf
 | []=>by rw[Yzi];rfl
 | x :: r=>by rw[Yzi,Y14f r];rfl
def Ym1 (x:Yd):List Cell:=[cI x.Ka,cI x.Na,cS x.Ta,.list (x.Ia.map Ylf)]
theorem Y1bo (x:Yd):Ylf x=Ym1 x:=by cases x;simp only[Ylf,Ym1,Y14f]
mutual
def Y1a0:Yd->Yd->Bool
 | ⟨kind1,number1,text1,items1⟩,⟨kind2,number2,text2,items2⟩=>decide (kind1=kind2)&&decide (number1=number2)&&decide (text1=text2)&&Yt5 items1 items2
def Yt5:List Yd->List Yd->Bool
 | [],[]=>true
 | x :: r,y :: t=>Y1a0 x y&&Yt5 r t
 | _,_=>false
end
mutual
theorem Y14n:∀ a b:Yd,Y1a0 a b ↔ a=b
 | ⟨kind1,number1,text1,items1⟩,⟨kind2,number2,text2,items2⟩=>by rw[Y1a0];simp only[af,ak,Y12d items1 items2,Yd.mk.injEq,dv]
theorem Y12d:∀ a b:List Yd,Yt5 a b ↔ a=b
 | [],[]=>by simp[Yt5]
 | [],_ :: _=>by simp[Yt5]
 | _ :: _,[]=>by simp[Yt5]
 | x :: r,y :: t=>by rw[Yt5,af,Y14n x y,Y12d r t,cM]
end
instance:DecidableEq Yd:=λa b=>decidable_of_iff _ (Y14n a b)
mutual
theorem Yd.ind {P:Yd->Prop}(h:∀ x,(∀ y∈x.Ia,P y)->P x):∀ x,P x
 | ⟨kind',number',text',items'⟩=>h _ (λy hy=>Yd.inds h items' y hy)
theorem Yd.inds {P:Yd->Prop}(h:∀ x,(∀ y∈x.Ia,P y)->P x):∀ (l:List Yd),∀ y∈l,P y
 | [],y,hy=>by cases hy
 | x :: r,y,hy=>(List.mem_cons.1 hy).elim (λe=>e ▸ Yd.ind h x) (λhy=>Yd.inds h r y hy)
end
theorem Y1he (a b:Yd):a=b ↔ a.Ka=b.Ka/\a.Na=b.Na/\a.Ta=b.Ta/\a.Ia=b.Ia:=by cases a;cases b;simp only[Yd.mk.injEq]
instance:Row Yd Ylf Ym1 4:=⟨Y1bo,λ_=>rfl⟩
abbrev Yq0 (x:Yd):SV:=.agg (vals (Ym1 x))
abbrev Yud (x:Yd) (i:Nat):SV:=.agg [vI x.Ka,vI x.Na,vS x.Ta,.ref (i+0)]
abbrev Y17n (x:Yd):List Ob:=[.arr true 4 (x.Ia.map Ylf)]
mutual
def wD:Yd->Nat
 | ⟨_,_,text',items'⟩=>text'.size+wDs items'
def wDs:List Yd->Nat
 | []=>0
 | d :: r=>1+wD d+wDs r
end
theorem Y1rb:∀ l,wDs l=l.length+sumBy wD l
 | []=>by simp[wDs,sumBy]
 | d :: r=>by rw[wDs,Y1rb r];simp only[sumBy,aD];omega
theorem Yve (x:Yd):wD x=x.Ta.size+(x.Ia.length+sumBy wD x.Ia):=by cases x;simp only[wD,Y1rb]
structure Yc where
 Ka:Int
 Na:Int
 Pa:List Int
 Da:Yd
 Kb:List Yc
instance:Inhabited Yc:=⟨⟨0,0,[],(default:Yd),[]⟩⟩
mutual
def Ylo:Yc->List Cell
 | ⟨kind',number',params',datum',kids'⟩=>[cI kind',cI number',.list (params'.map Yl4),cI datum'.Ka,cI datum'.Na,cS datum'.Ta,.list (datum'.Ia.map Ylf),.list (Y12c kids')]
def Y12c:List Yc->List (List Cell)
 | []=>[]
 | x :: r=>Ylo x :: Y12c r
end
theorem Y172:∀ l:List Yc,Y12c l=l.map Ylo
 | []=>by rw[Y12c];rfl
 | x :: r=>by rw[Y12c,Y172 r];rfl
def Ymz (x:Yc):List Cell:=[cI x.Ka,cI x.Na,.list (x.Pa.map Yl4),cI x.Da.Ka,cI x.Da.Na,cS x.Da.Ta,.list (x.Da.Ia.map Ylf),.list (x.Kb.map Ylo)]
theorem Yqp (x:Yc):Ylo x=Ymz x:=by cases x;simp only[Ylo,Ymz,Y172]
mutual
def Y1hg:Yc->Yc->Bool
 | ⟨kind1,number1,params1,datum1,kids1⟩,⟨kind2,number2,params2,datum2,kids2⟩=>decide (kind1=kind2)&&decide (number1=number2)&&decide (params1=params2)&&decide (datum1=datum2)&&Yur kids1 kids2
def Yur:List Yc->List Yc->Bool
 | [],[]=>true
 | x :: r,y :: t=>Y1hg x y&&Yur r t
 | _,_=>false
end
mutual
theorem Y16t:∀ a b:Yc,Y1hg a b ↔ a=b
 | ⟨kind1,number1,params1,datum1,kids1⟩,⟨kind2,number2,params2,datum2,kids2⟩=>by rw[Y1hg];simp only[af,ak,Y14r kids1 kids2,Yc.mk.injEq,dv]
theorem Y14r:∀ a b:List Yc,Yur a b ↔ a=b
 | [],[]=>by simp[Yur]
 | [],_ :: _=>by simp[Yur]
 | _ :: _,[]=>by simp[Yur]
 | x :: r,y :: t=>by rw[Yur,af,Y16t x y,Y14r r t,cM]
end
instance:DecidableEq Yc:=λa b=>decidable_of_iff _ (Y16t a b)
mutual
theorem Yc.ind {P:Yc->Prop}(h:∀ x,(∀ y∈x.Kb,P y)->P x):∀ x,P x
 | ⟨kind',number',params',datum',kids'⟩=>h _ (λy hy=>Yc.inds h kids' y hy)
theorem Yc.inds {P:Yc->Prop}(h:∀ x,(∀ y∈x.Kb,P y)->P x):∀ (l:List Yc),∀ y∈l,P y
 | [],y,hy=>by cases hy
 | x :: r,y,hy=>(List.mem_cons.1 hy).elim (λe=>e ▸ Yc.ind h x) (λhy=>Yc.inds h r y hy)
end
theorem Y1yl (a b:Yc):a=b ↔ a.Ka=b.Ka/\a.Na=b.Na/\a.Pa=b.Pa/\a.Da=b.Da/\a.Kb=b.Kb:=by cases a;cases b;simp only[Yc.mk.injEq]
instance:Row Yc Ylo Ymz 8:=⟨Yqp,λ_=>rfl⟩
abbrev Yt0 (x:Yc):SV:=.agg (vals (Ymz x))
abbrev Y117 (x:Yc) (i:Nat):SV:=.agg [vI x.Ka,vI x.Na,.ref (i+0),vI x.Da.Ka,vI x.Da.Na,vS x.Da.Ta,.ref (i+1),.ref (i+2)]
abbrev Y10h (x:Yc):List Ob:=[.arr true 1 (x.Pa.map Yl4),.arr true 4 (x.Da.Ia.map Ylf),.arr true 8 (x.Kb.map Ylo)]
mutual
def wC:Yc->Nat
 | ⟨_,_,params',datum',kids'⟩=>params'.length+wD datum'+wCs kids'
def wCs:List Yc->Nat
 | []=>0
 | d :: r=>1+wC d+wCs r
end
theorem Y1ow:∀ l,wCs l=l.length+sumBy wC l
 | []=>by simp[wCs,sumBy]
 | d :: r=>by rw[wCs,Y1ow r];simp only[sumBy,aD];omega
theorem Y13y (x:Yc):wC x=x.Pa.length+wD x.Da+(x.Kb.length+sumBy wC x.Kb):=by cases x;simp only[wC,Y1ow]
structure YS_ where
 Ka:Int
 Na:Int
 Ta:ByteArray
 Sa:List Int
 Ia:List YS_
instance:Inhabited YS_:=⟨⟨0,0,.empty,[],[]⟩⟩
mutual
def Yl1:YS_->List Cell
 | ⟨kind',number',text',scopes',items'⟩=>[cI kind',cI number',cS text',.list (scopes'.map Yl4),.list (Ywp items')]
def Ywp:List YS_->List (List Cell)
 | []=>[]
 | x :: r=>Yl1 x :: Ywp r
end
theorem Y12b:∀ l:List YS_,Ywp l=l.map Yl1
 | []=>by rw[Ywp];rfl
 | x :: r=>by rw[Ywp,Y12b r];rfl
def Yl8 (x:YS_):List Cell:=[cI x.Ka,cI x.Na,cS x.Ta,.list (x.Sa.map Yl4),.list (x.Ia.map Yl1)]
theorem Yw9 (x:YS_):Yl1 x=Yl8 x:=by cases x;simp only[Yl1,Yl8,Y12b]
mutual
def Y15e:YS_->YS_->Bool
 | ⟨kind1,number1,text1,scopes1,items1⟩,⟨kind2,number2,text2,scopes2,items2⟩=>decide (kind1=kind2)&&decide (number1=number2)&&decide (text1=text2)&&decide (scopes1=scopes2)&&Ysd items1 items2
def Ysd:List YS_->List YS_->Bool
 | [],[]=>true
 | x :: r,y :: t=>Y15e x y&&Ysd r t
 | _,_=>false
end
mutual
theorem Y11j:∀ a b:YS_,Y15e a b ↔ a=b
 | ⟨kind1,number1,text1,scopes1,items1⟩,⟨kind2,number2,text2,scopes2,items2⟩=>by rw[Y15e];simp only[af,ak,Y11e items1 items2,YS_.mk.injEq,dv]
theorem Y11e:∀ a b:List YS_,Ysd a b ↔ a=b
 | [],[]=>by simp[Ysd]
 | [],_ :: _=>by simp[Ysd]
 | _ :: _,[]=>by simp[Ysd]
 | x :: r,y :: t=>by rw[Ysd,af,Y11j x y,Y11e r t,cM]
end
instance:DecidableEq YS_:=λa b=>decidable_of_iff _ (Y11j a b)
mutual
theorem YS_.ind {P:YS_->Prop}(h:∀ x,(∀ y∈x.Ia,P y)->P x):∀ x,P x
 | ⟨kind',number',text',scopes',items'⟩=>h _ (λy hy=>YS_.inds h items' y hy)
theorem YS_.inds {P:YS_->Prop}(h:∀ x,(∀ y∈x.Ia,P y)->P x):∀ (l:List YS_),∀ y∈l,P y
 | [],y,hy=>by cases hy
 | x :: r,y,hy=>(List.mem_cons.1 hy).elim (λe=>e ▸ YS_.ind h x) (λhy=>YS_.inds h r y hy)
end
theorem Y1pu (a b:YS_):a=b ↔ a.Ka=b.Ka/\a.Na=b.Na/\a.Ta=b.Ta/\a.Sa=b.Sa/\a.Ia=b.Ia:=by cases a;cases b;simp only[YS_.mk.injEq]
instance:Row YS_ Yl1 Yl8 5:=⟨Yw9,λ_=>rfl⟩
abbrev Yln (x:YS_):SV:=.agg (vals (Yl8 x))
abbrev Yoq (x:YS_) (i:Nat):SV:=.agg [vI x.Ka,vI x.Na,vS x.Ta,.ref (i+0),.ref (i+1)]
abbrev Yp2 (x:YS_):List Ob:=[.arr true 1 (x.Sa.map Yl4),.arr true 5 (x.Ia.map Yl1)]
theorem Y1bm {L:List YS_}{i:Nat}(h:i<L.length):(L.map Yl1)[i]? = some (Yl8 (L.g i)):=Yyi h (Yw9 _)
mutual
def wY:YS_->Nat
 | ⟨_,_,text',scopes',items'⟩=>text'.size+scopes'.length+wYs items'
def wYs:List YS_->Nat
 | []=>0
 | d :: r=>1+wY d+wYs r
end
theorem Y1q2:∀ l,wYs l=l.length+sumBy wY l
 | []=>by simp[wYs,sumBy]
 | d :: r=>by rw[wYs,Y1q2 r];simp only[sumBy,aD];omega
theorem Ymd (x:YS_):wY x=x.Ta.size+x.Sa.length+(x.Ia.length+sumBy wY x.Ia):=by cases x;simp only[wY,Y1q2]
structure YB where
 Ta:ByteArray
 Sa:List Int
 Ka:Int
 Na:Int
instance:Inhabited YB:=⟨⟨.empty,[],0,0⟩⟩
def Ylv (x:YB):List Cell:=[cS x.Ta,.list (x.Sa.map Yl4),cI x.Ka,cI x.Na]
def Yl2 (x:YB):List Cell:=Ylv x
theorem Y1hr (x:YB):Yl2 x=Ylv x:=rfl
instance:DecidableEq YB:=λa b=>by cases a;cases b;rw[YB.mk.injEq];infer_instance
theorem Y1lo (a b:YB):a=b ↔ a.Ta=b.Ta/\a.Sa=b.Sa/\a.Ka=b.Ka/\a.Na=b.Na:=by cases a;cases b;simp only[YB.mk.injEq]
instance:Row YB Yl2 Ylv 4:=⟨Y1hr,λ_=>rfl⟩
abbrev Yx0 (x:YB):SV:=.agg (vals (Ylv x))
abbrev Y1ej (x:YB) (i:Nat):SV:=.agg [vS x.Ta,.ref (i+0),vI x.Ka,vI x.Na]
abbrev Y1er (x:YB):List Ob:=[.arr true 1 (x.Sa.map Yl4)]
def wB (x:YB):Nat:=x.Ta.size+x.Sa.length
theorem Y1cf (x:YB):wB x=x.Ta.size+x.Sa.length:=rfl
structure YR_ where
 La:List YS_
 Pb:List YS_
 Tb:List YS_
instance:Inhabited YR_:=⟨⟨[],[],[]⟩⟩
def Yod (x:YR_):List Cell:=[.list (x.La.map Yl1),.list (x.Pb.map Yl1),.list (x.Tb.map Yl1)]
def Ylc (x:YR_):List Cell:=Yod x
theorem Y1ql (x:YR_):Ylc x=Yod x:=rfl
instance:DecidableEq YR_:=λa b=>by cases a;cases b;rw[YR_.mk.injEq];infer_instance
theorem Y1ut (a b:YR_):a=b ↔ a.La=b.La/\a.Pb=b.Pb/\a.Tb=b.Tb:=by cases a;cases b;simp only[YR_.mk.injEq]
instance:Row YR_ Ylc Yod 3:=⟨Y1ql,λ_=>rfl⟩
abbrev Yvj (x:YR_):SV:=.agg (vals (Yod x))
abbrev Y1hb (x:YR_) (i:Nat):SV:=.agg [.ref (i+0),.ref (i+1),.ref (i+2)]
abbrev Y1ft (x:YR_):List Ob:=[.arr true 5 (x.La.map Yl1),.arr true 5 (x.Pb.map Yl1),.arr true 5 (x.Tb.map Yl1)]
def wR (x:YR_):Nat:=(x.La.length+sumBy wY x.La)+(x.Pb.length+sumBy wY x.Pb)+(x.Tb.length+sumBy wY x.Tb)
theorem Y16m (x:YR_):wR x=(x.La.length+sumBy wY x.La)+(x.Pb.length+sumBy wY x.Pb)+(x.Tb.length+sumBy wY x.Tb):=rfl
structure YC where
 name:YS_
 depth:Int
 form:YS_
 each:List YC
instance:Inhabited YC:=⟨⟨(default:YS_),0,(default:YS_),[]⟩⟩
mutual
def Yl7:YC->List Cell
 | ⟨name',depth',form',each'⟩=>[cI name'.Ka,cI name'.Na,cS name'.Ta,.list (name'.Sa.map Yl4),.list (name'.Ia.map Yl1),cI depth',cI form'.Ka,cI form'.Na,cS form'.Ta,.list (form'.Sa.map Yl4),.list (form'.Ia.map Yl1),.list (Yvh each')]
def Yvh:List YC->List (List Cell)
 | []=>[]
 | x :: r=>Yl7 x :: Yvh r
end
theorem Y11d:∀ l:List YC,Yvh l=l.map Yl7
 | []=>by rw[Yvh];rfl
 | x :: r=>by rw[Yvh,Y11d r];rfl
def Ym3 (x:YC):List Cell:=[cI x.name.Ka,cI x.name.Na,cS x.name.Ta,.list (x.name.Sa.map Yl4),.list (x.name.Ia.map Yl1),cI x.depth,cI x.form.Ka,cI x.form.Na,cS x.form.Ta,.list (x.form.Sa.map Yl4),.list (x.form.Ia.map Yl1),.list (x.each.map Yl7)]
theorem Yvc (x:YC):Yl7 x=Ym3 x:=by cases x;simp only[Yl7,Ym3,Y11d]
mutual
def Y11v:YC->YC->Bool
 | ⟨name1,depth1,form1,each1⟩,⟨name2,depth2,form2,each2⟩=>decide (name1=name2)&&decide (depth1=depth2)&&decide (form1=form2)&&Yrf each1 each2
def Yrf:List YC->List YC->Bool
 | [],[]=>true
 | x :: r,y :: t=>Y11v x y&&Yrf r t
 | _,_=>false
end
mutual
theorem Y11b:∀ a b:YC,Y11v a b ↔ a=b
 | ⟨name1,depth1,form1,each1⟩,⟨name2,depth2,form2,each2⟩=>by rw[Y11v];simp only[af,ak,Yz7 each1 each2,YC.mk.injEq,dv]
theorem Yz7:∀ a b:List YC,Yrf a b ↔ a=b
 | [],[]=>by simp[Yrf]
 | [],_ :: _=>by simp[Yrf]
 | _ :: _,[]=>by simp[Yrf]
 | x :: r,y :: t=>by rw[Yrf,af,Y11b x y,Yz7 r t,cM]
end
instance:DecidableEq YC:=λa b=>decidable_of_iff _ (Y11b a b)
instance:Row YC Yl7 Ym3 12:=⟨Yvc,λ_=>rfl⟩
structure YE where
 Ba:List YB
 Ma:List YR_
 Sb:Int
 Va:Int
 Sc:Int
instance:Inhabited YE:=⟨⟨[],[],0,0,0⟩⟩
def Yn6 (x:YE):List Cell:=[.list (x.Ba.map Yl2),.list (x.Ma.map Ylc),cI x.Sb,cI x.Va,cI x.Sc]
def Y1ak (x:YE):List Cell:=Yn6 x
theorem Y1dp (x:YE):Y1ak x=Yn6 x:=rfl
instance:DecidableEq YE:=λa b=>by cases a;cases b;rw[YE.mk.injEq];infer_instance
theorem Y1hi (a b:YE):a=b ↔ a.Ba=b.Ba/\a.Ma=b.Ma/\a.Sb=b.Sb/\a.Va=b.Va/\a.Sc=b.Sc:=by cases a;cases b;simp only[YE.mk.injEq]
instance:Row YE Y1ak Yn6 5:=⟨Y1dp,λ_=>rfl⟩
abbrev Ypu (x:YE):SV:=.agg (vals (Yn6 x))
abbrev Y1ad (x:YE) (i:Nat):SV:=.agg [.ref (i+0),.ref (i+1),vI x.Sb,vI x.Va,vI x.Sc]
abbrev Y1bj (x:YE):List Ob:=[.arr true 4 (x.Ba.map Yl2),.arr true 3 (x.Ma.map Ylc)]
def wX (x:YE):Nat:=(x.Ba.length+sumBy wB x.Ba)+(x.Ma.length+sumBy wR x.Ma)
theorem Ysy (x:YE):wX x=(x.Ba.length+sumBy wB x.Ba)+(x.Ma.length+sumBy wR x.Ma):=rfl
structure Module where
 name:ByteArray
 imports:List ByteArray
 exports:List ByteArray
 body:List Yd
instance:Inhabited Module:=⟨⟨.empty,[],[],[]⟩⟩
def Y18w (x:Module):List Cell:=[cS x.name,.list (x.imports.map Ymj),.list (x.exports.map Ymj),.list (x.body.map Ylf)]
def Y1jr (x:Module):List Cell:=Y18w x
theorem Y1lk (x:Module):Y1jr x=Y18w x:=rfl
instance:DecidableEq Module:=λa b=>by cases a;cases b;rw[Module.mk.injEq];infer_instance
instance:Row Module Y1jr Y18w 4:=⟨Y1lk,λ_=>rfl⟩
structure Export where
 modul:ByteArray
 Ta:ByteArray
 Ka:Int
 Na:Int
instance:Inhabited Export:=⟨⟨.empty,.empty,0,0⟩⟩
def Y19z (x:Export):List Cell:=[cS x.modul,cS x.Ta,cI x.Ka,cI x.Na]
def Y19w (x:Export):List Cell:=Y19z x
theorem Y1lh (x:Export):Y19w x=Y19z x:=rfl
instance:DecidableEq Export:=λa b=>by cases a;cases b;rw[Export.mk.injEq];infer_instance
instance:Row Export Y19w Y19z 4:=⟨Y1lh,λ_=>rfl⟩
structure Unit where
 name:ByteArray
 globals:List Int
 body:Yc
instance:Inhabited Unit:=⟨⟨.empty,[],(default:Yc)⟩⟩
def Y1ll (x:Unit):List Cell:=[cS x.name,.list (x.globals.map Yl4),cI x.body.Ka,cI x.body.Na,.list (x.body.Pa.map Yl4),cI x.body.Da.Ka,cI x.body.Da.Na,cS x.body.Da.Ta,.list (x.body.Da.Ia.map Ylf),.list (x.body.Kb.map Ylo)]
def Y1nc (x:Unit):List Cell:=Y1ll x
theorem Y1ua (x:Unit):Y1nc x=Y1ll x:=rfl
instance:DecidableEq Unit:=λa b=>by cases a;cases b;rw[Unit.mk.injEq];infer_instance
instance:Row Unit Y1nc Y1ll 10:=⟨Y1ua,λ_=>rfl⟩
structure World where
 expander:YE
 units:List Unit
 exports:List Export
instance:Inhabited World:=⟨⟨(default:YE),[],[]⟩⟩
def Y1ee (x:World):List Cell:=[.list (x.expander.Ba.map Yl2),.list (x.expander.Ma.map Ylc),cI x.expander.Sb,cI x.expander.Va,cI x.expander.Sc,.list (x.units.map Y1nc),.list (x.exports.map Y19w)]
def Y1rd (x:World):List Cell:=Y1ee x
theorem Y1os (x:World):Y1rd x=Y1ee x:=rfl
instance:DecidableEq World:=λa b=>by cases a;cases b;rw[World.mk.injEq];infer_instance
instance:Row World Y1rd Y1ee 7:=⟨Y1os,λ_=>rfl⟩
def sz (w:Nat) (left:Int):Int:=if (w:Int)<=left then left - w else -1
def Yma {α:Type}(f:α->Nat):List α->Nat
 | []=>0
 | x :: r=>max (f x) (Yma f r)
theorem Ywy {α:Type}(f:α->Nat):∀ (a b:List α),Yma f (a++b)=max (Yma f a) (Yma f b)
 | [],b=>by simp[Yma]
 | x :: a,b=>by simp only[bE,Yma,Ywy f a b];omega
theorem Y113 {α:Type}[Inhabited α] (c:α->Nat) {L:List α}{i:Nat}(h:i<L.length):Yma c (L.take (i+1))=max (Yma c (L.take i)) (c (L.g i)):=by
 rw[Ylk h,Ywy];simp[Yma]
theorem Ytj {α:Type}(f:α->Nat):∀ {L:List α}{x:α},x∈L->f x<=Yma f L
 | y :: r,x,h=>by
  rcases List.mem_cons.1 h with rfl|h
  ·simp only[Yma];omega
  ·have:=Ytj f h;simp only[Yma];omega
theorem Y10s {α:Type}(f:α->Nat) {m:Nat}:∀ {L:List α},Yma f L<=m ↔ ∀ x∈L,f x<=m
 | []=>by simp[Yma]
 | x :: r=>by
  have h:=Y10s f (m:=m) (L:=r)
  simp only[Yma,List.forall_mem_cons,<- h];omega
def Ylx {α:Type}(f:α->Int->Bool×Int):List α->Int->Bool×Int
 | [],m=>(true,m)
 | x :: r,m=>if (f x m).1 then Ylx f r (f x m).2 else (false,(f x m).2)
theorem Yyk {α:Type}(f:α->Int->Bool×Int):∀ (a b:List α) (m:Int),Ylx f (a++b) m=if (Ylx f a m).1 then Ylx f b (Ylx f a m).2 else Ylx f a m
 | [],b,m=>by simp[Ylx]
 | x :: a,b,m=>by
  simp only[bE,Ylx]
  by_cases e:(f x m).1
  ·simp only[ae e];exact Yyk f a b _
  ·simp only[ab e];rfl
theorem Yy4 {α:Type}[Inhabited α] (f:α->Int->Bool×Int) {L:List α}{k:Nat}(h:k<L.length) (m:Int) (ht:(Ylx f (L.take k) m).1):Ylx f (L.take (k+1)) m=f (L.g k) (Ylx f (L.take k) m).2:=by
 rw[Ylk h,Yyk,ae ht]
 simp only[Ylx]
 cases e:(f (L.g k) (Ylx f (L.take k) m).2).1 with
 | true=>simp only[bx];rw[<- e]
 | false=>simp only[cu,cT];rw[<- e]
theorem Y122 {α:Type}[Inhabited α] (f:α->Int->Bool×Int) {L:List α}{k:Nat}(h:k<L.length) (m:Int) (ht:(Ylx f (L.take k) m).1) (hf:(f (L.g k) (Ylx f (L.take k) m).2).1=false):Ylx f L m=f (L.g k) (Ylx f (L.take k) m).2:=by
 have h1:=Yy4 f h m ht
 have h2:=Yyk f (L.take (k+1)) (L.drop (k+1)) m
 rw[be,h1,hf]at h2
 rw[h2];rfl
theorem Y140 {α:Type}(f:α->Int->Bool×Int) (w:α->Nat) (P:α->Prop) (M:Int):∀ (L:List α),(∀ x∈L,∀ m,m<=M->((f x m).1 ↔ (m+w x<=M/\P x))/\((f x m).1->(f x m).2=m+w x)) ->
  ∀ m,m<=M->((Ylx f L m).1 ↔ (m+sumBy w L<=M/\∀ x∈L,P x))/\((Ylx f L m).1->(Ylx f L m).2=m+sumBy w L)
 | [],_,m,hm=>by simp[Ylx,sumBy,hm]
 | x :: r,hL,m,hm=>by
  have h1:=hL x aj m hm
  simp only[Ylx,sumBy,List.forall_mem_cons]
  cases e:(f x m).1 with
  | true=>
   have h2:=h1.1.1 e
   have h3:=h1.2 e
   have h4:=Y140 f w P M r (λy hy=>hL y (ai _ hy)) (m+w x) h2.1
   simp only[bx,h3]
   constructor
   ·rw[h4.1];constructor
    ·rintro⟨a,b⟩;exact⟨by omega,h2.2,b⟩
    ·rintro⟨a,_,b⟩;exact⟨by omega,b⟩
   ·intro ht;rw[h4.2 ht];omega
  | false=>
   simp only[cu,cT,false_iff]
   refine⟨?_,False.elim⟩
   rintro⟨a,b,_⟩
   have:=h1.1.2 ⟨by omega,b⟩
   rw[e]at this;exact Bool.noConfusion this
theorem Y23v {L:List UInt8}{k:Nat}(h:k<L.length):L.take (k+1)=L.take k++[L.getD k 0]:=by
 rw[List.take_succ_eq_append_getElem h];simp[h]
theorem Y1ax {α β:Type}[Inhabited α] (f:α->List β) {L:List α}{k:Nat}(h:k<L.length):(L.take (k+1)).flatMap f=(L.take k).flatMap f++f (L.g k):=by
 rw[Ylk h];simp
theorem Y152 {α β:Type}(f:α->List β):∀ L:List α,(L.flatMap f).length=sumBy (λx=>(f x).length) L
 | []=>rfl
 | x :: r=>by simp only[bU,aw,Y152 f r,sumBy]
theorem Y14v {α β:Type}(f:α->List β) (L:List α) (k:Nat):((L.take k).flatMap f).length<=(L.flatMap f).length:=by
 rw[Y152,Y152];exact Ymu _ _ _
theorem Yy6 {α:Type}{f g:α->Nat}:∀ {L:List α},(∀ x∈L,f x<=g x)->Yma f L<=sumBy g L
 | [],_=>aC _
 | x :: l,h=>by
  have h1:=h x aj
  have h2:=Yy6 (L:=l) λy hy=>h y (ai _ hy)
  simp only[sumBy,Yma];omega
def okU (L:List Int):Bool:=decide (L.Nodup/\∀ n∈L,0<=n/\n<=99999)
theorem Y1a3 {L:List Int}:okU L ↔ L.Nodup/\∀ n∈L,0<=n/\n<=99999:=decide_eq_true_iff
theorem Y1x8:okU []:=rfl
theorem Y1sc {L:List Int}{n:Int}:okU (L++[n]) ↔ okU L/\0<=n/\n<=99999/\n∉L:=by
 simp only[Y1a3];rw[dA]
 simp only[az,an]
 grind
theorem Y1en {A B:List Int}(h:okU (A++B)):okU A:=by
 rw[Y1a3]at h|-
 exact⟨(List.nodup_append.1 h.1).1,λn hn=>h.2 n (aY _ hn)⟩
end Go.Proofs.YtcbodhkhppgkiaaGreat
end
section
namespace Go.Proofs.YtcbodhkhppgkiaaGreat
open Go Go.Proofs.YtcbodhkhppgkiaaGreat.Ab Go.ChangeShapes
section
variable {H:Type}{enc:TypeId×Value->H}{P:Program}{w:Go.World}{sp:Nat->Bool}{hd:Bool}{fuel:Nat}{cs:List Value}{x:DataW H×List MemPlace}
abbrev Old (w:Go.World) (b:Nat):Prop:=b<w.heap.size
theorem Y1xn {t:TypeId}(ht:P.underlying t=some (.int .u8)) (h:DataW.trod enc P w 0 sp hd fuel t cs=some x):∃ b:UInt8,Ylq (Rd w (Old w)) cs (Yml b):=by
 obtain⟨n,rfl,_,hw⟩:=DataW.trod_int ht h
 have hn:0<=n/\n<=255:=by
  simp only[Lit.wf,af,ak]at hw
  exact⟨hw.1,hw.2⟩
 have e:((UInt8.ofNat n.toNat).toNat:Int)=n:=by
  rw[UInt8.toNat_ofNat_of_lt' (by show n.toNat<256;omega)];omega
 refine⟨UInt8.ofNat n.toNat,?_⟩
 unfold Yml
 rw[e]
 exact⟨.lit trivial,trivial⟩
theorem Y1ux {α:Type}[Inhabited α] {C:α->List Cell}{t e:TypeId}(ht:P.underlying t=some (.slice e)) (hpos:0<P.cellsOf e)
  (hC:∀ a,(C a).length=P.cellsOf e)
  (hel:∀ n,n<fuel->∀ (cs:List Value) (x:DataW H×List MemPlace),DataW.trod enc P w 0 sp hd n e cs=some x->∃ a,Ylq (Rd w (Old w)) cs (C a))
  (h:DataW.trod enc P w 0 sp hd fuel t cs=some x):∃ L:List α,Ylq (Rd w (Old w)) cs [.list (L.map C)]:=by
 rcases DataW.trod_slice ht h with ⟨rfl,_⟩|⟨a,len,cap,elems,rest,n,hn,rfl,_,_,hl,hm,hlen,hel2,_,_⟩
 ·exact⟨[],Rd.nil,trivial⟩
 have hone:∀ i,i<len->∃ p:List Value×α,w.cells? 0 (a.add (i * P.cellsOf e)) (P.cellsOf e)=some p.1/\Ylq (Rd w (Old w)) p.1 (C p.2):=by
  intro i hi
  have hb:=hel2 i hi
  rw[av oW]at hb
  obtain⟨cs',h1,h2⟩:=Option.bind_eq_some_iff.1 hb
  obtain⟨y,hy⟩:=hel n oW cs' _ h2
  exact⟨(cs',y),h1,hy⟩
 obtain⟨f,hf⟩:=Go.Deep.choose_lt hone
 let L:List α:=(List.range len).map λi=>(f i).2
 have hL:L.length=len:=by simp[L]
 rcases cZ len with h0|h0
 ·subst h0
  have:L=[]:=by simp[L]
  exact⟨[],Rd.nil,trivial⟩
 have hcell:∀ i k,i<len->k<P.cellsOf e->∃ v c,w.cell? (a.add (i * P.cellsOf e+k))=some v/\(C (f i).2)[k]? = some c/\Rd w (Old w) v c:=by
  intro i k hi hk
  obtain⟨h1,h2⟩:=hf i hi
  obtain⟨_,h3,h4⟩:=Go.World.cells?_some h1
  have h5:=h4 k hk
  rw[Go.Deep.add_add]at h5
  have h6:k<(f i).1.length:=by omega
  rw[av h6]at h5
  have h7:k<(C (f i).2).length:=by rw[hC];exact hk
  exact⟨_,_,h5,av h7,h2.get (av h6) (av h7)⟩
 have hspot:a.spot=none:=by
  obtain⟨v,_,h1,_⟩:=hcell 0 0 h0 hpos
  simp only[Nat.zero_mul,cR,Addr.add,bx]at h1
  unfold Go.World.cell? at h1
  split at h1
  ·split at h1
   ·cases h1
   ·rename_i hs;simpa using hs
  ·cases h1
 have haddr:∀ j,a.add j=⟨a.block,a.off+j,none⟩:=by
  intro j
  unfold Addr.add
  split
  ·rename_i hj;subst hj;cases a;simp_all
  ·rfl
 have hblk:a.block<w.heap.size:=by
  obtain⟨v,_,h1,_⟩:=hcell 0 0 h0 hpos
  unfold Go.World.cell? at h1
  rw[haddr]at h1
  simp only at h1
  cases hh:w.heap[a.block]? with
  | none=>rw[hh]at h1;cases h1
  | some o=>exact(Array.getElem?_eq_some_iff.1 hh).1
 refine⟨L,?_,trivial⟩
 have hval:(Value.slice (some a) len cap)=.slice (some ⟨a.block,a.off,none⟩) (L.map C).length cap:=by
  rw[aO,hL];cases a;simp_all
 rw[hval]
 have hszL:∀ es∈L.map C,es.length=P.cellsOf e:=by
  intro es hes;obtain⟨y,_,rfl⟩:=List.mem_map.1 hes;exact hC y
 have hflat:(L.map C).flatten.length=len * P.cellsOf e:=by rw[Ymy hszL,aO,hL]
 refine Rd.slice (sz:=P.cellsOf e) (xs:=(List.range (len * P.cellsOf e)).map λj=>(w.cell? (a.add j)).getD undef) hblk (by rw[aO,hL];exact hl) hm hszL (by rw[hflat];simp) ?_ ?_
 ·intro j u hu
  have hj:j<len * P.cellsOf e:=by
   have:=(List.getElem?_eq_some_iff.1 hu).1;simpa using this
  simp only[bb,dN hj,aP,aa]at hu
  obtain⟨v,_,h1,_⟩:=hcell (j / P.cellsOf e) (j % P.cellsOf e) (Nat.div_lt_of_lt_mul (by rw[dR];exact hj)) (Nat.mod_lt _ hpos)
  have hdm:j / P.cellsOf e * P.cellsOf e+j % P.cellsOf e=j:=by rw[dR];exact Nat.div_add_mod j _
  rw[hdm]at h1
  rw[h1]at hu
  rw[<- haddr,h1]
  simpa using hu
 ·intro j u c hu hc
  have hj:j<len * P.cellsOf e:=by
   have:=(List.getElem?_eq_some_iff.1 hu).1;simpa using this
  simp only[bb,dN hj,aP,aa]at hu
  have hi:j / P.cellsOf e<len:=Nat.div_lt_of_lt_mul (by rw[dR];exact hj)
  obtain⟨v,c',h1,h2,h3⟩:=hcell (j / P.cellsOf e) (j % P.cellsOf e) hi (Nat.mod_lt _ hpos)
  have hdm:j / P.cellsOf e * P.cellsOf e+j % P.cellsOf e=j:=by rw[dR];exact Nat.div_add_mod j _
  rw[hdm]at h1
  rw[h1]at hu
  have hLi:(L.map C)[j / P.cellsOf e]? = some (C (f (j / P.cellsOf e)).2):=by simp[L,hi]
  have:=Ypd hszL hLi h2
  rw[hdm,hc]at this
  simp only[aa]at this
  subst this
  simp only[cH]at hu
  subst hu
  exact h3
theorem Y1i1 {W W':Go.World}(hk:W.kept W') {p:MemPlace}(hp:p.block<W.heap.size):W.sameAt W' p:=by
 cases p with
 | cell b off=>exact Yq1 (hk.2.2 b hp)
 | map b=>exact hk.2.2 b hp
theorem Y12p {W W':Go.World}(hl:laidOutB P) (hmr:mapsRowed P) (hsz:((List.range P.types.size).all λt=>match P.underlying t with|some (.slice e)=>decide (0<P.cellsOf e)|_=>true)=true)
  (hk:W.kept W') {sp:Nat->Bool}:∀ {ts:List TypeId} {vs:List Value} {ds:List (DataW H)} {ps:List MemPlace},(∀ t∈ts,t<P.types.size)->DataW.TrodAll enc P W 0 (λ_=>true) true ts vs ds ps->(∀ p∈ps,sp p.block) ->
   DataW.TrodAll enc P W' 0 sp true ts vs ds ps
 | [],[],[],ps,_,h,_=>h
 | t :: ts,v :: vs,d :: ds,ps,ht,⟨p,q,⟨fuel,hf⟩,h2,e⟩,hs=>by
  subst e
  have hlt:=DataW.trod_lt _ _ _ _ hf
  refine⟨p,q,⟨fuel,DataW.trod_stays (kids_rows hl hmr) (λ{t e} ht hu => ?_) (λhh=>by cases hh) (ht t aj) hf (λy hy=>Y1i1 hk (hlt y hy)) (λy hy=>hs y (aY _ hy))⟩,
   Y12p hl hmr hsz hk (λt ht'=>ht t (ai _ ht')) h2 (λy hy=>hs y (bc _ hy)),rfl⟩
  have:=List.all_eq_true.1 hsz t (List.mem_range.2 ht)
  rw[hu]at this
  simpa using this
 | [],_ :: _,_,_,_,h,_=>h.elim
 | [],[],_ :: _,_,_,h,_=>h.elim
 | _ :: _,[],_,_,_,h,_=>h.elim
 | _ :: _,_ :: _,[],_,_,h,_=>h.elim
theorem Y1y8 {W:Go.World}{v:Value}{c:Cell}(hv:v.cells=#[v]) (hc:Ylq (Rd W (Old W)) v.cells.toList [c]):Ymo W (Y19o W) (Ynd []) (.one (.val c)) v:=by
 rw[hv]at hc
 exact⟨hc.1,λ_=>hc.1.one⟩
end
end Go.Proofs.YtcbodhkhppgkiaaGreat
end
section
namespace Go.Proofs.YtcbodhkhppgkiaaGreat
open Go
set_option maxRecDepth 100000
def Y1bg:List Char:=(List.map Char.ofNat [104,97,114,110,101,115,115,32,102,50,51,98,97,49,53,53,54,56,50,49,52,55,57,102,99,51,57,56,48,97,97,53,102,99,51,53,99,98,55,53,102,49,99,48,56,55,52,55,102,56,53,48,100,48,55,51,101,56,57,57,50,51,101,55,97,52,48,48,54,51,57,56,32,99,117,116,32,97,116,32,108,111,111,112,46,101,120,97,109,112,108,101,47,103,48,51,50,50,48,47,108,97,119,115,46,70,110,84,114,97,99,101,100,32,108,111,111,112,46,101,120,97,109,112,108,101,47,103,48,51,50,50,48,47,108,97,119,115,46,70,110,67,108,111,115,101,100])
def Yqi:List (List Char):=[(List.map Char.ofNat [104,97,114,110,101,115,115]),
 (List.map Char.ofNat [102,50,51,98,97,49,53,53,54,56,50,49,52,55,57,102,99,51,57,56,48,97,97,53,102,99,51,53,99,98,55,53,102,49,99,48,56,55,52,55,102,56,53,48,100,48,55,51,101,56,57,57,50,51,101,55,97,52,48,48,54,51,57,56]),
 (List.map Char.ofNat [99,117,116]),
 (List.map Char.ofNat [97,116]),
 (List.map Char.ofNat [108,111,111,112,46,101,120,97,109,112,108,101,47,103,48,51,50,50,48,47,108,97,119,115,46,70,110,84,114,97,99,101,100]),
 (List.map Char.ofNat [108,111,111,112,46,101,120,97,109,112,108,101,47,103,48,51,50,50,48,47,108,97,119,115,46,70,110,67,108,111,115,101,100])]
theorem Y1q7:Tryz.pinned.checked.prog.initOrder=String.ofList Y1bg:=by kernel_rfl
theorem Y1l3:wordsSigns Y1bg=Yqi:=by kernel_rfl
theorem Y1lp:wordsSigns Tryz.pinned.checked.prog.initOrder.toList=Yqi:=by rw[Y1q7,String.toList_ofList];exact Y1l3
theorem Y1kz:stripLifts liftWords (behindMainWord Yqi)=([],behindMainWord Yqi):=by kernel_rfl
theorem Y1oj (P:Program) (h:wordsSigns P.initOrder.toList=Yqi) (h1:P.laysLater=false) (h2:P.bearsReflect=false) (h3:P.doorFits []):P.mayEnter:=by
 have e:behindMainWord Yqi=(List.map Char.ofNat [99,117,116]) :: (behindMainWord Yqi).tail:=by kernel_rfl
 have t:=Y1kz
 unfold Program.mayEnter;rw[h]
 rw[e]at t|-
 simp only[t,h1,h2,h3]
 decide +kernel
theorem Y1uq (P:Program) (h:wordsSigns P.initOrder.toList=Yqi):P.make=some .cut:=by
 unfold Program.make;rw[h];kernel_rfl
theorem Y1ty (P:Program) (h:wordsSigns P.initOrder.toList=Yqi):P.liftsFinal=false:=by
 unfold Program.liftsFinal Program.headLifts;rw[h];kernel_rfl
theorem Y24e {a b:Bool}(h:a) (g:b):(a&&b):=by rw[h,g];rfl
theorem Y217:Tryz.pinned.checked.prog.mayEnter:=Y1oj _ Y1lp (by kernel_rfl) (by kernel_rfl) (by kernel_rfl)
theorem Y23g:Tryz.pinned.checked.prog.make=some .cut:=Y1uq _ Y1lp
theorem Y24n:Tryz.pinned.checked.prog.liftsFinal=false:=Y1ty _ Y1lp
end Go.Proofs.YtcbodhkhppgkiaaGreat
end
