/- Part 5 of the machine. No condition. -/
import Derived.Test.YtclpofblehlojaaGreatQ4
import Derived.Test.YtclpofblehlojaaGreatRows
import Derived.ChangeStays
import Derived.ChangeOld
import Derived.Deep.Slices
set_option linter.unusedVariables false
set_option linter.unusedSimpArgs false
section
namespace Go.Proofs.YtclpofblehlojaaGreat
open Go Ab
theorem wide:Tryz.prog.follows .mixedOrders=true:=by kernel_rfl
abbrev OK (c:Ct):Prop:=OKP Tryz.prog c
instance:CoeSort Ct Prop:=⟨OK⟩
instance:Coe Ct Prop:=⟨OK⟩
theorem Yg4 {K:Ct} {fn:Func} (hc:∀ xs w,(callFunc K.f xs).run Tryz.prog w=.ok (.enter K.f xs) w) (hf:Tryz.prog.funcs[K.f]? = some fn) (t:Tq Tryz.prog Unit) (he:Yfp t [] (.fn K.o1 K.r))
  (hb:fn.body=some (fn.body.getD .skip):=by kernel_rfl) (hr:Ykd Tryz.prog (fn.body.getD .skip) (Yvl K.o K.a fn.ntmps) (Yja t noW [] (.fn K.o1 K.r)) (Y1gn Tryz.prog fn.results.toList K.o1 K.r)=Yin t [] (.fn K.o1 K.r):=by kernel_rfl):OK K:=
 OKP.of wide hc hf hb t hr he
theorem Ygf {σ:Type} {c:Code} {L:Lp σ} (t:σ->Tq Tryz.prog σ) (he:∀ k,L.inv k->Yfp (t k) [] (.lp L k))
  (hr:∀ k,Ykd Tryz.prog c (L.T (L.v k)) (Yja (t k) noW [] (.lp L k)) (Y1b4 L.I L.Y (L.meas k))=Yin (t k) [] (.lp L k):=by intro k; kernel_rfl):L.Sem Tryz.prog c:=
 Lp.Sem.of wide t hr he
theorem Yhg {α:Type} [Inhabited α] {L:List α} {k:Nat} (h:k<L.length):L.drop k=L.getD k default :: L.drop (k+1):=by
 rw [List.drop_eq_getElem_cons h]; simp [h]
theorem Ygg {α:Type} [Inhabited α] {L:List α} {k:Nat} (h:k<L.length):L.take (k+1)=L.take k++[L.getD k default]:=by
 rw [List.take_succ_eq_append_getElem h]; simp [h]
theorem Yfx {α:Type} [Inhabited α] {L:List α} {k:Nat} (h:k<L.length):L.getD k default∈L:=by simp [h]
theorem Y1fe (s:ByteArray):s.data.toList.length=s.size:=rfl
theorem Y1qv {n:Int}:rng .i64 n ↔ -9223372036854775808<=n/\n<=9223372036854775807:=Y19q
theorem Y1e4 (a b:List Ob):Yvm a b ↔ a=b:=Iff.rfl
theorem mIc {g g':Int->Int} (h:g=g'):mI g=mI g':=by rw [h]
theorem mOc {g g':Int->Option Int} (h:g=g'):mO g=mO g':=by rw [h]
theorem mSc {g g':ByteArray->Int} (h:g=g'):mS g=mS g':=by rw [h]
theorem mLc {g g':ByteArray->List Int} (h:g=g'):mL g=mL g':=by rw [h]
theorem Yfy (S:List Int) (n:Int):S.map Yfr++[[cI n]]=(S++[n]).map Yfr:=by simp [Yfr]
theorem Yfz (S:List ByteArray) (n:ByteArray):S.map Yi1++[[cS n]]=(S++[n]).map Yi1:=by simp [Yi1]
theorem Y1pk {L:List Int}:∀ e∈L.map Yfr,∀ c∈e,∃ v,c=Cell.lit v:=by
 intro e he c hc
 obtain ⟨x,_,rfl⟩:=List.mem_map.1 he
 rw [List.mem_singleton.1 hc]; exact ⟨_,rfl⟩
theorem Y1qh {L:List ByteArray}:∀ e∈L.map Yi1,∀ c∈e,∃ v,c=Cell.lit v:=by
 intro e he c hc
 obtain ⟨x,_,rfl⟩:=List.mem_map.1 he
 rw [List.mem_singleton.1 hc]; exact ⟨_,rfl⟩
theorem Yu9 {α:Type} [Inhabited α] {f:α->List Cell} {L:List α} {i:Nat} {x:List Cell} (h:i<L.length) (hx:f (L.getD i default)=x):(L.map f)[i]? = some x:=by
 subst hx; simp [h]
theorem Y18i {α:Type} [Inhabited α] {A B:List α} {k:Nat} (h:k<A.length) (hl:A.length=B.length):A.take (k+1)=B.take (k+1) ↔ A.take k=B.take k/\A.getD k default=B.getD k default:=by
 rw [Ygg h,Ygg (by omega:k<B.length)]
 constructor
 ·intro e
  have:=List.append_inj e (by simp; omega)
  exact ⟨this.1,by simpa using this.2⟩
 ·rintro ⟨e1,e2⟩; rw [e1,e2]
theorem Ykr (a b:ByteArray):a.data.toList=b.data.toList ↔ a=b:=by
 constructor
 ·intro h; cases a; cases b; simp at h; subst h; rfl
 ·intro h; rw [h]
theorem Y1or (a b:Bool):AV.sv (lb a)=AV.sv (lb b) ↔ a=b:=by simp [lb,vB,cB]
theorem Y1ml (a b:Int):AV.sv (li a)=AV.sv (li b) ↔ a=b:=by simp [li,vI,cI]
theorem Y1p8 (a b:ByteArray):AV.sv (ls a)=AV.sv (ls b) ↔ a=b:=by simp [ls,vS,cS]
def Y16q {α:Type} [Inhabited α] (L:List α) (k:Nat):List α:=L.take k++List.replicate (L.length - k) default
theorem Y1as {α:Type} [Inhabited α] (L:List α) (k:Nat):(Y16q L k).length=L.length:=by simp [Y16q]; omega
def Y1ra (n:Int):List Cell:=[cI n]
def Y1r7 (n:ByteArray):List Cell:=[cS n]
instance:Row Int Yfr Y1ra 1:=⟨fun _=>rfl,fun _=>rfl⟩
instance:Row ByteArray Yi1 Y1r7 1:=⟨fun _=>rfl,fun _=>rfl⟩
section
variable {α:Type} {C F:α->List Cell} {n:Nat}
theorem Y1dm [Row α C F n] [Inhabited α] {L:List α} {i:Nat} (h:i<L.length):(L.map C)[i]? = some (F (L.getD i default)):=Yu9 h (Row.eq _)
theorem Yfs [Row α C F n] (L:List α) (x:α):L.map C++[F x]=(L++[x]).map C:=by simp [Row.eq (C:=C) (F:=F)]
theorem Y1k4 [Row α C F n] {L:List α}:∀ e∈L.map C,e.length=n:=by
 intro e he
 obtain ⟨x,_,rfl⟩:=List.mem_map.1 he; rw [Row.eq (C:=C) (F:=F)]; exact Row.len (C:=C) x
end
abbrev tx (s:ByteArray):List UInt8:=s.data.toList
def mkS (l:List UInt8):ByteArray:=⟨l.toArray⟩
theorem Y1bx (l:List UInt8):ByteArray.mk l.toArray=mkS l:=rfl
theorem Y1er (l:List UInt8):(mkS l).data.toList=l:=rfl
theorem Y1lb (a b:List UInt8):mkS a=mkS b ↔ a=b:=by
 constructor
 ·intro h; have:=congrArg (fun s:ByteArray=>s.data.toList) h; simpa [mkS] using this
 ·intro h; rw [h]
theorem Y1ig (l:List UInt8):(mkS l).size=l.length:=rfl
theorem std:(∀ s:ByteArray,s.data.toList.length=s.size)/\(∀ {α β:Type} (f:α->β) (L:List α),(L.map f).length=L.length)/\(∀ n:Nat,(n:Int).toNat=n) /\
  (∀ n:Int,rng .i64 n ↔ -9223372036854775808<=n/\n<=9223372036854775807)/\(∀ a b:List Ob,Yvm a b ↔ a=b)/\(∀ {α:Type} (a b:List α),(a++b).length=a.length+b.length) /\
  (∀ {α:Type} (n:Nat) (a:α),(List.replicate n a).length=n)/\(∀ {α:Type} [Inhabited α] (L:List α) (k:Nat),(Y16q L k).length=L.length)/\(∀ (p:Prop) [Decidable p],(decide p=true)=p) /\
  (∀ (p:Prop) [Decidable p],(decide p=false)=¬ p)/\(∀ {α:Type} (a b:α),(a≠b)=¬ a=b)/\(∀ a b:Bool,(AV.sv (lb a)=AV.sv (lb b)) ↔ a=b)/\(∀ a b:Int,(AV.sv (li a)=AV.sv (li b)) ↔ a=b) /\
  (∀ a b:ByteArray,(AV.sv (ls a)=AV.sv (ls b)) ↔ a=b)/\(∀ l:List UInt8,ByteArray.mk l.toArray=mkS l)/\(∀ l:List UInt8,(mkS l).data.toList=l)/\(∀ a b:List UInt8,mkS a=mkS b ↔ a=b) /\
  (∀ l:List UInt8,(mkS l).size=l.length)/\(∀ {α β:Type} (f:α->β) (L:List α) (n:Nat),(L.map f).take n=(L.take n).map f)/\(∀ {α β:Type} (f:α->β) (L:List α) (n:Nat),(L.map f).drop n=(L.drop n).map f) /\
  (∀ n:Nat,n - 0=n)/\(∀ {α:Type} (L:List α),L.drop 0=L):=
 ⟨Y1fe,fun _ _=>List.length_map _,Int.toNat_natCast,@Y1qv,Y1e4,fun _ _=>List.length_append,fun _ _=>List.length_replicate,Y1as,@decide_eq_true_eq,fun p _=>propext (decide_eq_false_iff_not (p:=p)),fun a b=>rfl,Y1or,Y1ml,Y1p8,Y1bx,Y1er,Y1lb,Y1ig,fun _ _ _=>List.map_take.symm,fun _ _ _=>List.map_drop.symm,Nat.sub_zero,fun _=>List.drop_zero⟩
theorem inj:(∀ a b:SV,(AV.sv a=AV.sv b)=(a=b))/\(∀ l m:List SV,(AV.tup l=AV.tup m)=(l=m))/\(∀ l m:List AC,(SV.agg l=SV.agg m)=(l=m)) /\
  (∀ a b:AC,(SV.one a=SV.one b)=(a=b))/\(∀ a b:Int,(li a=li b)=(a=b))/\(∀ a b:Bool,(lb a=lb b)=(a=b))/\(∀ a b:ByteArray,(ls a=ls b)=(a=b)) /\
  (∀ a b:List (List Cell),(ll a=ll b)=(a=b))/\(∀ a b:Int,(vI a=vI b)=(a=b))/\(∀ a b:Bool,(vB a=vB b)=(a=b))/\(∀ a b:ByteArray,(vS a=vS b)=(a=b))/\(∀ a b:List (List Cell),(vL a=vL b)=(a=b)) /\
  (∀ o z x y,(Ob.arr o z x=Ob.arr o z y)=(x=y))/\(∀ l m,(Ob.box l=Ob.box m)=(l=m))/\(∀ (a b:AC) l m,(a :: l=b :: m)=(a=b/\l=m))/\(∀ (a b:SV) l m,(a :: l=b :: m)=(a=b/\l=m))/\(∀ (a b:Ob) l m,(a :: l=b :: m)=(a=b/\l=m)) /\
  (∀ (a b:Hv) l m,(a :: l=b :: m)=(a=b/\l=m))/\(∀ a b,(Hv.s a=Hv.s b)=(a=b))/\(∀ a b,(Hv.o a=Hv.o b)=(a=b))/\(∀ a b,(Hv.a a=Hv.a b)=(a=b)):=by
 refine ⟨?_,?_,?_,?_,?_,?_,?_,?_,?_,?_,?_,?_,?_,?_,?_,?_,?_,?_,?_,?_,?_⟩ <;> intros <;> (try apply propext) <;> simp [li,lb,ls,ll,vI,vB,vS,vL,cI,cB,cS]
theorem dT {p:Prop} [Decidable p] (h:p):true=decide p:=(decide_eq_true h).symm
theorem dF {p:Prop} [Decidable p] (h:¬ p):false=decide p:=(decide_eq_false h).symm
theorem z {p:Prop} (h:p:=by first | with_reducible rfl | omega | assumption | exact dT ‹_› | exact dF ‹_› | ((first | refine Y1dm ?_ | refine Yu9 ?_ rfl); (first | omega | (simp only [std]; omega) | grind))):p:=h
theorem zR {p:Prop} (h:p:=by first | exact Y1pk | exact Y1qh | exact Y1k4):p:=h
theorem zM {p:Prop} (h:p:=by first | exact Y1li | exact Y1js | exact Y1i2 | exact Y1jv | exact Y1kh | exact Y1lz | exact Y1mf | exact Y1mo | exact Y1np | exact Y1on | exact Y1o5 | exact Y1ll | (refine Y1e1 ?_; grind)):p:=h
end Go.Proofs.YtclpofblehlojaaGreat
end
section
namespace Go.Proofs.YtclpofblehlojaaGreat
open Go Ab
def sumBy {α:Type} (f:α->Nat):List α->Nat
 | []=>0
 | x :: r=>f x+sumBy f r
theorem Yha {α:Type} (f:α->Nat):∀ (a b:List α),sumBy f (a++b)=sumBy f a+sumBy f b
 | [],b=>by simp [sumBy]
 | x :: a,b=>by simp only [List.cons_append,sumBy,Yha f a b]; omega
theorem Yyi {α:Type} [Inhabited α] (f:α->Nat) {L:List α} {k:Nat} (h:k<L.length):sumBy f (L.drop k)=f (L.getD k default)+sumBy f (L.drop (k+1)):=by
 rw [Yhg h,sumBy]
theorem Ygt {α:Type} (f:α->Nat):∀ {L:List α} {x:α},x∈L->f x<=sumBy f L
 | y :: r,x,h=>by
  rcases List.mem_cons.1 h with rfl | h
  ·simp only [sumBy]; omega
  ·have:=Ygt f h; simp only [sumBy]; omega
theorem Yih {α:Type} [Inhabited α] (c:α->Nat) {L:List α} {i:Nat} (h:i<L.length):sumBy c (L.take (i+1))=sumBy c (L.take i)+c (L.getD i default):=by
 rw [Ygg h,Yha]; simp [sumBy]
theorem Yhj {α:Type} (c:α->Nat) (L:List α) (i:Nat):sumBy c (L.take i)<=sumBy c L:=by
 have:=Yha c (L.take i) (L.drop i)
 rw [List.take_append_drop] at this; omega
theorem Ymc {α β:Type} [Inhabited β] (f:α->β->α) (a:α) {L:List β} {k:Nat} (h:k<L.length):(L.take (k+1)).foldl f a=f ((L.take k).foldl f a) (L.getD k default):=by
 rw [Ygg h,List.foldl_append]; rfl
structure Datum where
 kind:Int
 number:Int
 text:ByteArray
 items:List Datum
instance:Inhabited Datum:=⟨⟨0,0,.empty,[]⟩⟩
mutual
def Yg2:Datum->List Cell
 | ⟨kind',number',text',items'⟩=>[cI kind',cI number',cS text',.list (Yrq items')]
def Yrq:List Datum->List (List Cell)
 | []=>[]
 | x :: r=>Yg2 x :: Yrq r
end
theorem Ywk:∀ l:List Datum,Yrq l=l.map Yg2
 | []=>by rw [Yrq]; rfl
 | x :: r=>by rw [Yrq,Ywk r]; rfl
def Yh9 (x:Datum):List Cell:=[cI x.kind,cI x.number,cS x.text,.list (x.items.map Yg2)]
theorem Yts (x:Datum):Yg2 x=Yh9 x:=by cases x; simp only [Yg2,Yh9,Ywk]
mutual
def Y10t:Datum->Datum->Bool
 | ⟨kind1,number1,text1,items1⟩,⟨kind2,number2,text2,items2⟩=>decide (kind1=kind2)&&decide (number1=number2)&&decide (text1=text2)&&Yms items1 items2
def Yms:List Datum->List Datum->Bool
 | [],[]=>true
 | x :: r,y :: t=>Y10t x y&&Yms r t
 | _,_=>false
end
mutual
theorem Ywh:∀ a b:Datum,Y10t a b=true ↔ a=b
 | ⟨kind1,number1,text1,items1⟩,⟨kind2,number2,text2,items2⟩=>by rw [Y10t]; simp only [Bool.and_eq_true,decide_eq_true_eq,Yud items1 items2,Datum.mk.injEq,and_assoc]
theorem Yud:∀ a b:List Datum,Yms a b=true ↔ a=b
 | [],[]=>by simp [Yms]
 | [],_ :: _=>by simp [Yms]
 | _ :: _,[]=>by simp [Yms]
 | x :: r,y :: t=>by rw [Yms,Bool.and_eq_true,Ywh x y,Yud r t,List.cons.injEq]
end
instance:DecidableEq Datum:=fun a b=>decidable_of_iff _ (Ywh a b)
mutual
theorem Datum.ind {P:Datum->Prop} (h:∀ x,(∀ y∈x.items,P y)->P x):∀ x,P x
 | ⟨kind',number',text',items'⟩=>h _ (fun y hy=>Datum.inds h items' y hy)
theorem Datum.inds {P:Datum->Prop} (h:∀ x,(∀ y∈x.items,P y)->P x):∀ (l:List Datum),∀ y∈l,P y
 | [],y,hy=>by cases hy
 | x :: r,y,hy=>(List.mem_cons.1 hy).elim (fun e=>e ▸ Datum.ind h x) (fun hy=>Datum.inds h r y hy)
end
instance:Row Datum Yg2 Yh9 4:=⟨Yts,fun _=>rfl⟩
abbrev Ys0 (x:Datum):SV:=.agg (vals (Yh9 x))
abbrev Yua (x:Datum) (i:Nat):SV:=.agg [vI x.kind,vI x.number,vS x.text,.ref (i+0)]
abbrev Y169 (x:Datum):List Ob:=[.arr true 4 (x.items.map Yg2)]
mutual
def wD:Datum->Nat
 | ⟨_,_,text',items'⟩=>text'.size+wDs items'
def wDs:List Datum->Nat
 | []=>0
 | d :: r=>1+wD d+wDs r
end
theorem Y1dp:∀ l,wDs l=l.length+sumBy wD l
 | []=>by simp [wDs,sumBy]
 | d :: r=>by rw [wDs,Y1dp r]; simp only [sumBy,List.length_cons]; omega
theorem Yl4 (x:Datum):wD x=x.text.size+(x.items.length+sumBy wD x.items):=by cases x; simp only [wD,Y1dp]
structure Core where
 kind:Int
 number:Int
 params:List Int
 datum:Datum
 kids:List Core
instance:Inhabited Core:=⟨⟨0,0,[],(default:Datum),[]⟩⟩
mutual
def Ys4:Core->List Cell
 | ⟨kind',number',params',datum',kids'⟩=>[cI kind',cI number',.list (params'.map Yfr),cI datum'.kind,cI datum'.number,cS datum'.text,.list (datum'.items.map Yg2),.list (Ytr kids')]
def Ytr:List Core->List (List Cell)
 | []=>[]
 | x :: r=>Ys4 x :: Ytr r
end
theorem Yyl:∀ l:List Core,Ytr l=l.map Ys4
 | []=>by rw [Ytr]; rfl
 | x :: r=>by rw [Ytr,Yyl r]; rfl
def Y1aj (x:Core):List Cell:=[cI x.kind,cI x.number,.list (x.params.map Yfr),cI x.datum.kind,cI x.datum.number,cS x.datum.text,.list (x.datum.items.map Yg2),.list (x.kids.map Ys4)]
theorem Y1hp (x:Core):Ys4 x=Y1aj x:=by cases x; simp only [Ys4,Y1aj,Yyl]
mutual
def Y14m:Core->Core->Bool
 | ⟨kind1,number1,params1,datum1,kids1⟩,⟨kind2,number2,params2,datum2,kids2⟩=>decide (kind1=kind2)&&decide (number1=number2)&&decide (params1=params2)&&decide (datum1=datum2)&&Yob kids1 kids2
def Yob:List Core->List Core->Bool
 | [],[]=>true
 | x :: r,y :: t=>Y14m x y&&Yob r t
 | _,_=>false
end
mutual
theorem Yzj:∀ a b:Core,Y14m a b=true ↔ a=b
 | ⟨kind1,number1,params1,datum1,kids1⟩,⟨kind2,number2,params2,datum2,kids2⟩=>by rw [Y14m]; simp only [Bool.and_eq_true,decide_eq_true_eq,Ywl kids1 kids2,Core.mk.injEq,and_assoc]
theorem Ywl:∀ a b:List Core,Yob a b=true ↔ a=b
 | [],[]=>by simp [Yob]
 | [],_ :: _=>by simp [Yob]
 | _ :: _,[]=>by simp [Yob]
 | x :: r,y :: t=>by rw [Yob,Bool.and_eq_true,Yzj x y,Ywl r t,List.cons.injEq]
end
instance:DecidableEq Core:=fun a b=>decidable_of_iff _ (Yzj a b)
instance:Row Core Ys4 Y1aj 8:=⟨Y1hp,fun _=>rfl⟩
structure YS where
 kind:Int
 number:Int
 text:ByteArray
 scopes:List Int
 items:List YS
instance:Inhabited YS:=⟨⟨0,0,.empty,[],[]⟩⟩
mutual
def Yfn:YS->List Cell
 | ⟨kind',number',text',scopes',items'⟩=>[cI kind',cI number',cS text',.list (scopes'.map Yfr),.list (Yqp items')]
def Yqp:List YS->List (List Cell)
 | []=>[]
 | x :: r=>Yfn x :: Yqp r
end
theorem Yuf:∀ l:List YS,Yqp l=l.map Yfn
 | []=>by rw [Yqp]; rfl
 | x :: r=>by rw [Yqp,Yuf r]; rfl
def Yfu (x:YS):List Cell:=[cI x.kind,cI x.number,cS x.text,.list (x.scopes.map Yfr),.list (x.items.map Yfn)]
theorem Ymh (x:YS):Yfn x=Yfu x:=by cases x; simp only [Yfn,Yfu,Yuf]
mutual
def Yx1:YS->YS->Bool
 | ⟨kind1,number1,text1,scopes1,items1⟩,⟨kind2,number2,text2,scopes2,items2⟩=>decide (kind1=kind2)&&decide (number1=number2)&&decide (text1=text2)&&decide (scopes1=scopes2)&&Ylx items1 items2
def Ylx:List YS->List YS->Bool
 | [],[]=>true
 | x :: r,y :: t=>Yx1 x y&&Ylx r t
 | _,_=>false
end
mutual
theorem Yv5:∀ a b:YS,Yx1 a b=true ↔ a=b
 | ⟨kind1,number1,text1,scopes1,items1⟩,⟨kind2,number2,text2,scopes2,items2⟩=>by rw [Yx1]; simp only [Bool.and_eq_true,decide_eq_true_eq,Ytl items1 items2,YS.mk.injEq,and_assoc]
theorem Ytl:∀ a b:List YS,Ylx a b=true ↔ a=b
 | [],[]=>by simp [Ylx]
 | [],_ :: _=>by simp [Ylx]
 | _ :: _,[]=>by simp [Ylx]
 | x :: r,y :: t=>by rw [Ylx,Bool.and_eq_true,Yv5 x y,Ytl r t,List.cons.injEq]
end
instance:DecidableEq YS:=fun a b=>decidable_of_iff _ (Yv5 a b)
mutual
theorem YS.ind {P:YS->Prop} (h:∀ x,(∀ y∈x.items,P y)->P x):∀ x,P x
 | ⟨kind',number',text',scopes',items'⟩=>h _ (fun y hy=>YS.inds h items' y hy)
theorem YS.inds {P:YS->Prop} (h:∀ x,(∀ y∈x.items,P y)->P x):∀ (l:List YS),∀ y∈l,P y
 | [],y,hy=>by cases hy
 | x :: r,y,hy=>(List.mem_cons.1 hy).elim (fun e=>e ▸ YS.ind h x) (fun hy=>YS.inds h r y hy)
end
instance:Row YS Yfn Yfu 5:=⟨Ymh,fun _=>rfl⟩
abbrev Ygb (x:YS):SV:=.agg (vals (Yfu x))
abbrev Yhp (x:YS) (i:Nat):SV:=.agg [vI x.kind,vI x.number,vS x.text,.ref (i+0),.ref (i+1)]
abbrev Yhl (x:YS):List Ob:=[.arr true 1 (x.scopes.map Yfr),.arr true 5 (x.items.map Yfn)]
mutual
def wY:YS->Nat
 | ⟨_,_,text',scopes',items'⟩=>text'.size+scopes'.length+wYs items'
def wYs:List YS->Nat
 | []=>0
 | d :: r=>1+wY d+wYs r
end
theorem Y1dh:∀ l,wYs l=l.length+sumBy wY l
 | []=>by simp [wYs,sumBy]
 | d :: r=>by rw [wYs,Y1dh r]; simp only [sumBy,List.length_cons]; omega
theorem Yhn (x:YS):wY x=x.text.size+x.scopes.length+(x.items.length+sumBy wY x.items):=by cases x; simp only [wY,Y1dh]
structure YB where
 text:ByteArray
 scopes:List Int
 kind:Int
 number:Int
instance:Inhabited YB:=⟨⟨.empty,[],0,0⟩⟩
def Ygi (x:YB):List Cell:=[cS x.text,.list (x.scopes.map Yfr),cI x.kind,cI x.number]
def Yfq (x:YB):List Cell:=Ygi x
theorem Y17o (x:YB):Yfq x=Ygi x:=rfl
instance:DecidableEq YB:=fun a b=>by cases a; cases b; rw [YB.mk.injEq]; infer_instance
instance:Row YB Yfq Ygi 4:=⟨Y17o,fun _=>rfl⟩
abbrev Yqj (x:YB):SV:=.agg (vals (Ygi x))
abbrev Y15f (x:YB) (i:Nat):SV:=.agg [vS x.text,.ref (i+0),vI x.kind,vI x.number]
abbrev Y15h (x:YB):List Ob:=[.arr true 1 (x.scopes.map Yfr)]
def wB (x:YB):Nat:=x.text.size+x.scopes.length
theorem Yt0 (x:YB):wB x=x.text.size+x.scopes.length:=rfl
structure YR where
 literals:List YS
 patterns:List YS
 templates:List YS
instance:Inhabited YR:=⟨⟨[],[],[]⟩⟩
def Yox (x:YR):List Cell:=[.list (x.literals.map Yfn),.list (x.patterns.map Yfn),.list (x.templates.map Yfn)]
def Yyc (x:YR):List Cell:=Yox x
theorem Y1di (x:YR):Yyc x=Yox x:=rfl
instance:DecidableEq YR:=fun a b=>by cases a; cases b; rw [YR.mk.injEq]; infer_instance
instance:Row YR Yyc Yox 3:=⟨Y1di,fun _=>rfl⟩
abbrev Yrk (x:YR):SV:=.agg (vals (Yox x))
abbrev Y1fb (x:YR) (i:Nat):SV:=.agg [.ref (i+0),.ref (i+1),.ref (i+2)]
abbrev Y1cx (x:YR):List Ob:=[.arr true 5 (x.literals.map Yfn),.arr true 5 (x.patterns.map Yfn),.arr true 5 (x.templates.map Yfn)]
def wR (x:YR):Nat:=(x.literals.length+sumBy wY x.literals)+(x.patterns.length+sumBy wY x.patterns)+(x.templates.length+sumBy wY x.templates)
theorem Yvc (x:YR):wR x=(x.literals.length+sumBy wY x.literals)+(x.patterns.length+sumBy wY x.patterns)+(x.templates.length+sumBy wY x.templates):=rfl
structure YC where
 name:YS
 depth:Int
 form:YS
 each:List YC
instance:Inhabited YC:=⟨⟨(default:YS),0,(default:YS),[]⟩⟩
mutual
def Yfo:YC->List Cell
 | ⟨name',depth',form',each'⟩=>[cI name'.kind,cI name'.number,cS name'.text,.list (name'.scopes.map Yfr),.list (name'.items.map Yfn),cI depth',cI form'.kind,cI form'.number,cS form'.text,.list (form'.scopes.map Yfr),.list (form'.items.map Yfn),.list (Yp0 each')]
def Yp0:List YC->List (List Cell)
 | []=>[]
 | x :: r=>Yfo x :: Yp0 r
end
theorem Yto:∀ l:List YC,Yp0 l=l.map Yfo
 | []=>by rw [Yp0]; rfl
 | x :: r=>by rw [Yp0,Yto r]; rfl
def Yg7 (x:YC):List Cell:=[cI x.name.kind,cI x.name.number,cS x.name.text,.list (x.name.scopes.map Yfr),.list (x.name.items.map Yfn),cI x.depth,cI x.form.kind,cI x.form.number,cS x.form.text,.list (x.form.scopes.map Yfr),.list (x.form.items.map Yfn),.list (x.each.map Yfo)]
theorem Ymm (x:YC):Yfo x=Yg7 x:=by cases x; simp only [Yfo,Yg7,Yto]
mutual
def Ytz:YC->YC->Bool
 | ⟨name1,depth1,form1,each1⟩,⟨name2,depth2,form2,each2⟩=>decide (name1=name2)&&decide (depth1=depth2)&&decide (form1=form2)&&Yky each1 each2
def Yky:List YC->List YC->Bool
 | [],[]=>true
 | x :: r,y :: t=>Ytz x y&&Yky r t
 | _,_=>false
end
mutual
theorem Ytk:∀ a b:YC,Ytz a b=true ↔ a=b
 | ⟨name1,depth1,form1,each1⟩,⟨name2,depth2,form2,each2⟩=>by rw [Ytz]; simp only [Bool.and_eq_true,decide_eq_true_eq,Ys1 each1 each2,YC.mk.injEq,and_assoc]
theorem Ys1:∀ a b:List YC,Yky a b=true ↔ a=b
 | [],[]=>by simp [Yky]
 | [],_ :: _=>by simp [Yky]
 | _ :: _,[]=>by simp [Yky]
 | x :: r,y :: t=>by rw [Yky,Bool.and_eq_true,Ytk x y,Ys1 r t,List.cons.injEq]
end
instance:DecidableEq YC:=fun a b=>decidable_of_iff _ (Ytk a b)
instance:Row YC Yfo Yg7 12:=⟨Ymm,fun _=>rfl⟩
structure YE where
 bindings:List YB
 macros:List YR
 scope:Int
 vari:Int
 steps:Int
instance:Inhabited YE:=⟨⟨[],[],0,0,0⟩⟩
def Yul (x:YE):List Cell:=[.list (x.bindings.map Yfq),.list (x.macros.map Yyc),cI x.scope,cI x.vari,cI x.steps]
def Y12j (x:YE):List Cell:=Yul x
theorem Y16n (x:YE):Y12j x=Yul x:=rfl
instance:DecidableEq YE:=fun a b=>by cases a; cases b; rw [YE.mk.injEq]; infer_instance
instance:Row YE Y12j Yul 5:=⟨Y16n,fun _=>rfl⟩
structure Module where
 name:ByteArray
 imports:List ByteArray
 exports:List ByteArray
 body:List Datum
instance:Inhabited Module:=⟨⟨.empty,[],[],[]⟩⟩
def Y116 (x:Module):List Cell:=[cS x.name,.list (x.imports.map Yi1),.list (x.exports.map Yi1),.list (x.body.map Yg2)]
def Y19c (x:Module):List Cell:=Y116 x
theorem Y1ap (x:Module):Y19c x=Y116 x:=rfl
instance:DecidableEq Module:=fun a b=>by cases a; cases b; rw [Module.mk.injEq]; infer_instance
instance:Row Module Y19c Y116 4:=⟨Y1ap,fun _=>rfl⟩
structure Export where
 modul:ByteArray
 text:ByteArray
 kind:Int
 number:Int
instance:Inhabited Export:=⟨⟨.empty,.empty,0,0⟩⟩
def Y10m (x:Export):List Cell:=[cS x.modul,cS x.text,cI x.kind,cI x.number]
def Yzr (x:Export):List Cell:=Y10m x
theorem Y1bz (x:Export):Yzr x=Y10m x:=rfl
instance:DecidableEq Export:=fun a b=>by cases a; cases b; rw [Export.mk.injEq]; infer_instance
instance:Row Export Yzr Y10m 4:=⟨Y1bz,fun _=>rfl⟩
structure Unit where
 name:ByteArray
 globals:List Int
 body:Core
instance:Inhabited Unit:=⟨⟨.empty,[],(default:Core)⟩⟩
def Y1at (x:Unit):List Cell:=[cS x.name,.list (x.globals.map Yfr),cI x.body.kind,cI x.body.number,.list (x.body.params.map Yfr),cI x.body.datum.kind,cI x.body.datum.number,cS x.body.datum.text,.list (x.body.datum.items.map Yg2),.list (x.body.kids.map Ys4)]
def Y1ax (x:Unit):List Cell:=Y1at x
theorem Y1in (x:Unit):Y1ax x=Y1at x:=rfl
instance:DecidableEq Unit:=fun a b=>by cases a; cases b; rw [Unit.mk.injEq]; infer_instance
instance:Row Unit Y1ax Y1at 10:=⟨Y1in,fun _=>rfl⟩
structure World where
 expander:YE
 units:List Unit
 exports:List Export
instance:Inhabited World:=⟨⟨(default:YE),[],[]⟩⟩
def Y16u (x:World):List Cell:=[.list (x.expander.bindings.map Yfq),.list (x.expander.macros.map Yyc),cI x.expander.scope,cI x.expander.vari,cI x.expander.steps,.list (x.units.map Y1ax),.list (x.exports.map Yzr)]
def Y1fu (x:World):List Cell:=Y16u x
theorem Y1dq (x:World):Y1fu x=Y16u x:=rfl
instance:DecidableEq World:=fun a b=>by cases a; cases b; rw [World.mk.injEq]; infer_instance
instance:Row World Y1fu Y16u 7:=⟨Y1dq,fun _=>rfl⟩
def sz (w:Nat) (left:Int):Int:=if (w:Int)<=left then left - w else -1
def Yh2 {α:Type} (f:α->Nat):List α->Nat
 | []=>0
 | x :: r=>max (f x) (Yh2 f r)
theorem Yq9 {α:Type} (f:α->Nat):∀ (a b:List α),Yh2 f (a++b)=max (Yh2 f a) (Yh2 f b)
 | [],b=>by simp [Yh2]
 | x :: a,b=>by simp only [List.cons_append,Yh2,Yq9 f a b]; omega
theorem Yz1 {α:Type} [Inhabited α] (c:α->Nat) {L:List α} {i:Nat} (h:i<L.length):Yh2 c (L.take (i+1))=max (Yh2 c (L.take i)) (c (L.getD i default)):=by
 rw [Ygg h,Yq9]; simp [Yh2]
theorem Yu6 {α:Type} (f:α->Nat):∀ {L:List α} {x:α},x∈L->f x<=Yh2 f L
 | y :: r,x,h=>by
  rcases List.mem_cons.1 h with rfl | h
  ·simp only [Yh2]; omega
  ·have:=Yu6 f h; simp only [Yh2]; omega
theorem Y13b {α:Type} (f:α->Nat) {m:Nat}:∀ {L:List α},Yh2 f L<=m ↔ ∀ x∈L,f x<=m
 | []=>by simp [Yh2]
 | x :: r=>by
  have h:=Y13b f (m:=m) (L:=r)
  simp only [Yh2,List.forall_mem_cons,<- h]; omega
def Yhi {α:Type} (f:α->Int->Bool × Int):List α->Int->Bool × Int
 | [],m=>(true,m)
 | x :: r,m=>if (f x m).1 then Yhi f r (f x m).2 else (false,(f x m).2)
theorem Yrc {α:Type} (f:α->Int->Bool × Int):∀ (a b:List α) (m:Int),Yhi f (a++b) m=if (Yhi f a m).1 then Yhi f b (Yhi f a m).2 else Yhi f a m
 | [],b,m=>by simp [Yhi]
 | x :: a,b,m=>by
  simp only [List.cons_append,Yhi]
  by_cases e:(f x m).1=true
  ·simp only [if_pos e]; exact Yrc f a b _
  ·simp only [if_neg e]; rfl
theorem Y128 {α:Type} [Inhabited α] (f:α->Int->Bool × Int) {L:List α} {k:Nat} (h:k<L.length) (m:Int) (ht:(Yhi f (L.take k) m).1=true):Yhi f (L.take (k+1)) m=f (L.getD k default) (Yhi f (L.take k) m).2:=by
 rw [Ygg h,Yrc,if_pos ht]
 simp only [Yhi]
 cases e:(f (L.getD k default) (Yhi f (L.take k) m).2).1 with
 | true=>simp only [if_true]; rw [<- e]
 | false=>simp only [Bool.false_eq_true,if_false]; rw [<- e]
theorem Y1ep {α:Type} [Inhabited α] (f:α->Int->Bool × Int) {L:List α} {k:Nat} (h:k<L.length) (m:Int) (ht:(Yhi f (L.take k) m).1=true) (hf:(f (L.getD k default) (Yhi f (L.take k) m).2).1=false):Yhi f L m=f (L.getD k default) (Yhi f (L.take k) m).2:=by
 have h1:=Y128 f h m ht
 have h2:=Yrc f (L.take (k+1)) (L.drop (k+1)) m
 rw [List.take_append_drop,h1,hf] at h2
 rw [h2]; rfl
theorem Y18y {α:Type} (f:α->Int->Bool × Int) (w:α->Nat) (P:α->Prop) (M:Int):∀ (L:List α),(∀ x∈L,∀ m,m<=M->((f x m).1=true ↔ (m+w x<=M/\P x))/\((f x m).1=true->(f x m).2=m+w x)) ->
  ∀ m,m<=M->((Yhi f L m).1=true ↔ (m+sumBy w L<=M/\∀ x∈L,P x))/\((Yhi f L m).1=true->(Yhi f L m).2=m+sumBy w L)
 | [],_,m,hm=>by simp [Yhi,sumBy,hm]
 | x :: r,hL,m,hm=>by
  have h1:=hL x List.mem_cons_self m hm
  simp only [Yhi,sumBy,List.forall_mem_cons]
  cases e:(f x m).1 with
  | true=>
   have h2:=h1.1.1 e
   have h3:=h1.2 e
   have h4:=Y18y f w P M r (fun y hy=>hL y (List.mem_cons_of_mem _ hy)) (m+w x) h2.1
   simp only [if_true,h3]
   constructor
   ·rw [h4.1]; constructor
    ·rintro ⟨a,b⟩; exact ⟨by omega,h2.2,b⟩
    ·rintro ⟨a,_,b⟩; exact ⟨by omega,b⟩
   ·intro ht; rw [h4.2 ht]; omega
  | false=>
   simp only [Bool.false_eq_true,if_false,false_iff]
   refine ⟨?_,False.elim⟩
   rintro ⟨a,b,_⟩
   have:=h1.1.2 ⟨by omega,b⟩
   rw [e] at this; exact Bool.noConfusion this
theorem Y1pr {L:List UInt8} {k:Nat} (h:k<L.length):L.take (k+1)=L.take k++[L.getD k 0]:=by
 rw [List.take_succ_eq_append_getElem h]; simp [h]
theorem Yup {α:Type} {f g:α->Nat}:∀ {L:List α},(∀ x∈L,f x<=g x)->Yh2 f L<=sumBy g L
 | [],_=>Nat.le_refl _
 | x :: l,h=>by
  have h1:=h x List.mem_cons_self
  have h2:=Yup (L:=l) fun y hy=>h y (List.mem_cons_of_mem _ hy)
  simp only [sumBy,Yh2]; omega
end Go.Proofs.YtclpofblehlojaaGreat
end
section
namespace Go.Proofs.YtclpofblehlojaaGreat
open Go Go.Proofs.YtclpofblehlojaaGreat.Ab Go.ChangeShapes
section
variable {H:Type} {enc:TypeId × Value->H} {P:Program} {w:Go.World} {sp:Nat->Bool} {hd:Bool} {fuel:Nat} {cs:List Value} {x:DataW H × List MemPlace}
abbrev Old (w:Go.World) (b:Nat):Prop:=b<w.heap.size
theorem Y1lc {t:TypeId} (ht:P.underlying t=some (.int .u8)) (h:DataW.trod enc P w 0 sp hd fuel t cs=some x):∃ b:UInt8,Yg8 (Rd w (Old w)) cs (Yg9 b):=by
 obtain ⟨n,rfl,_,hw⟩:=DataW.trod_int ht h
 have hn:0<=n/\n<=255:=by
  simp only [Lit.wf,Bool.and_eq_true,decide_eq_true_eq] at hw
  exact ⟨hw.1,hw.2⟩
 have e:((UInt8.ofNat n.toNat).toNat:Int)=n:=by
  rw [UInt8.toNat_ofNat_of_lt' (by show n.toNat<256; omega)]; omega
 refine ⟨UInt8.ofNat n.toNat,?_⟩
 unfold Yg9
 rw [e]
 exact ⟨.lit trivial,trivial⟩
theorem Y1gj {α:Type} [Inhabited α] {C:α->List Cell} {t e:TypeId} (ht:P.underlying t=some (.slice e)) (hpos:0<P.cellsOf e)
  (hC:∀ a,(C a).length=P.cellsOf e)
  (hel:∀ n,n<fuel->∀ (cs:List Value) (x:DataW H × List MemPlace),DataW.trod enc P w 0 sp hd n e cs=some x->∃ a,Yg8 (Rd w (Old w)) cs (C a))
  (h:DataW.trod enc P w 0 sp hd fuel t cs=some x):∃ L:List α,Yg8 (Rd w (Old w)) cs [.list (L.map C)]:=by
 rcases DataW.trod_slice ht h with ⟨rfl,_⟩ | ⟨a,len,cap,elems,rest,n,hn,rfl,_,_,hl,hm,hlen,hel2,_,_⟩
 ·exact ⟨[],Rd.nil,trivial⟩
 have hone:∀ i,i<len->∃ p:List Value × α,w.cells? 0 (a.add (i * P.cellsOf e)) (P.cellsOf e)=some p.1/\Yg8 (Rd w (Old w)) p.1 (C p.2):=by
  intro i hi
  have hb:=hel2 i hi
  rw [List.getElem?_eq_getElem (by omega)] at hb
  obtain ⟨cs',h1,h2⟩:=Option.bind_eq_some_iff.1 hb
  obtain ⟨y,hy⟩:=hel n (by omega) cs' _ h2
  exact ⟨(cs',y),h1,hy⟩
 obtain ⟨f,hf⟩:=Go.Deep.choose_lt hone
 let L:List α:=(List.range len).map fun i=>(f i).2
 have hL:L.length=len:=by simp [L]
 rcases Nat.eq_zero_or_pos len with h0 | h0
 ·subst h0
  have:L=[]:=by simp [L]
  exact ⟨[],Rd.nil,trivial⟩
 have hcell:∀ i k,i<len->k<P.cellsOf e->∃ v c,w.cell? (a.add (i * P.cellsOf e+k))=some v/\(C (f i).2)[k]? = some c/\Rd w (Old w) v c:=by
  intro i k hi hk
  obtain ⟨h1,h2⟩:=hf i hi
  obtain ⟨_,h3,h4⟩:=Go.World.cells?_some h1
  have h5:=h4 k hk
  rw [Go.Deep.add_add] at h5
  have h6:k<(f i).1.length:=by omega
  rw [List.getElem?_eq_getElem h6] at h5
  have h7:k<(C (f i).2).length:=by rw [hC]; exact hk
  exact ⟨_,_,h5,List.getElem?_eq_getElem h7,h2.get (List.getElem?_eq_getElem h6) (List.getElem?_eq_getElem h7)⟩
 have hspot:a.spot=none:=by
  obtain ⟨v,_,h1,_⟩:=hcell 0 0 h0 hpos
  simp only [Nat.zero_mul,Nat.add_zero,Addr.add,if_true] at h1
  unfold Go.World.cell? at h1
  split at h1
  ·split at h1
   ·cases h1
   ·rename_i hs; simpa using hs
  ·cases h1
 have haddr:∀ j,a.add j=⟨a.block,a.off+j,none⟩:=by
  intro j
  unfold Addr.add
  split
  ·rename_i hj; subst hj; cases a; simp_all
  ·rfl
 have hblk:a.block<w.heap.size:=by
  obtain ⟨v,_,h1,_⟩:=hcell 0 0 h0 hpos
  unfold Go.World.cell? at h1
  rw [haddr] at h1
  simp only at h1
  cases hh:w.heap[a.block]? with
  | none=>rw [hh] at h1; cases h1
  | some o=>exact (Array.getElem?_eq_some_iff.1 hh).1
 refine ⟨L,?_,trivial⟩
 have hval:(Value.slice (some a) len cap)=.slice (some ⟨a.block,a.off,none⟩) (L.map C).length cap:=by
  rw [List.length_map,hL]; cases a; simp_all
 rw [hval]
 have hszL:∀ es∈L.map C,es.length=P.cellsOf e:=by
  intro es hes; obtain ⟨y,_,rfl⟩:=List.mem_map.1 hes; exact hC y
 have hflat:(L.map C).flatten.length=len * P.cellsOf e:=by rw [Yh6 hszL,List.length_map,hL]
 refine Rd.slice (sz:=P.cellsOf e) (xs:=(List.range (len * P.cellsOf e)).map fun j=>(w.cell? (a.add j)).getD undef) hblk (by rw [List.length_map,hL]; exact hl) hm hszL (by rw [hflat]; simp) ?_ ?_
 ·intro j u hu
  have hj:j<len * P.cellsOf e:=by
   have:=(List.getElem?_eq_some_iff.1 hu).1; simpa using this
  simp only [List.getElem?_map,List.getElem?_range hj,Option.map_some,Option.some.injEq] at hu
  obtain ⟨v,_,h1,_⟩:=hcell (j / P.cellsOf e) (j % P.cellsOf e) (Nat.div_lt_of_lt_mul (by rw [Nat.mul_comm]; exact hj)) (Nat.mod_lt _ hpos)
  have hdm:j / P.cellsOf e * P.cellsOf e+j % P.cellsOf e=j:=by rw [Nat.mul_comm]; exact Nat.div_add_mod j _
  rw [hdm] at h1
  rw [h1] at hu
  rw [<- haddr,h1]
  simpa using hu
 ·intro j u c hu hc
  have hj:j<len * P.cellsOf e:=by
   have:=(List.getElem?_eq_some_iff.1 hu).1; simpa using this
  simp only [List.getElem?_map,List.getElem?_range hj,Option.map_some,Option.some.injEq] at hu
  have hi:j / P.cellsOf e<len:=Nat.div_lt_of_lt_mul (by rw [Nat.mul_comm]; exact hj)
  obtain ⟨v,c',h1,h2,h3⟩:=hcell (j / P.cellsOf e) (j % P.cellsOf e) hi (Nat.mod_lt _ hpos)
  have hdm:j / P.cellsOf e * P.cellsOf e+j % P.cellsOf e=j:=by rw [Nat.mul_comm]; exact Nat.div_add_mod j _
  rw [hdm] at h1
  rw [h1] at hu
  have hLi:(L.map C)[j / P.cellsOf e]? = some (C (f (j / P.cellsOf e)).2):=by simp [L,hi]
  have:=Yiq hszL hLi h2
  rw [hdm,hc] at this
  simp only [Option.some.injEq] at this
  subst this
  simp only [Option.getD_some] at hu
  subst hu
  exact h3
theorem Y17s {W W':Go.World} (hk:W.kept W') {p:MemPlace} (hp:p.block<W.heap.size):W.sameAt W' p:=by
 cases p with
 | cell b off=>exact Yjp (hk.2.2 b hp)
 | map b=>exact hk.2.2 b hp
theorem Yu3 {W W':Go.World} (hl:laidOutB P=true) (hmr:mapsRowed P=true) (hsz:((List.range P.types.size).all fun t=>match P.underlying t with | some (.slice e)=>decide (0<P.cellsOf e) | _=>true)=true)
  (hk:W.kept W') {sp:Nat->Bool}:∀ {ts:List TypeId} {vs:List Value} {ds:List (DataW H)} {ps:List MemPlace},(∀ t∈ts,t<P.types.size)->DataW.TrodAll enc P W 0 (fun _=>true) true ts vs ds ps->(∀ p∈ps,sp p.block=true) ->
   DataW.TrodAll enc P W' 0 sp true ts vs ds ps
 | [],[],[],ps,_,h,_=>h
 | t :: ts,v :: vs,d :: ds,ps,ht,⟨p,q,⟨fuel,hf⟩,h2,e⟩,hs=>by
  subst e
  have hlt:=DataW.trod_lt _ _ _ _ hf
  refine ⟨p,q,⟨fuel,DataW.trod_stays (kids_rows hl hmr) (fun {t e} ht hu => ?_) (fun hh=>by cases hh) (ht t List.mem_cons_self) hf (fun y hy=>Y17s hk (hlt y hy)) (fun y hy=>hs y (List.mem_append_left _ hy))⟩,
   Yu3 hl hmr hsz hk (fun t ht'=>ht t (List.mem_cons_of_mem _ ht')) h2 (fun y hy=>hs y (List.mem_append_right _ hy)),rfl⟩
  have:=List.all_eq_true.1 hsz t (List.mem_range.2 ht)
  rw [hu] at this
  simpa using this
 | [],_ :: _,_,_,_,h,_=>h.elim
 | [],[],_ :: _,_,_,h,_=>h.elim
 | _ :: _,[],_,_,_,h,_=>h.elim
 | _ :: _,_ :: _,[],_,_,h,_=>h.elim
theorem Y1jq {W:Go.World} {v:Value} {c:Cell} (hv:v.cells=#[v]) (hc:Yg8 (Rd W (Old W)) v.cells.toList [c]):Yh5 W (Y10s W) (Yhq []) (.one (.val c)) v:=by
 rw [hv] at hc
 exact ⟨hc.1,fun _=>hc.1.one⟩
end
end Go.Proofs.YtclpofblehlojaaGreat
end
section
namespace Go.Proofs.YtclpofblehlojaaGreat
open Go
set_option maxRecDepth 100000
def Y11v:List Char:=(List.map Char.ofNat [104,97,114,110,101,115,115,32,98,99,101,52,102,99,53,100,97,55,49,48,98,102,48,57,49,99,51,100,101,53,102,102,52,57,51,99,98,49,57,99,51,102,50,56,51,52,48,100,51,102,51,50,54,51,98,100,98,57,100,102,56,57,50,56,55,53,55,101,52,51,54,99,32,99,117,116,32,97,116,32,108,111,111,112,46,101,120,97,109,112,108,101,47,103,48,51,50,50,48,47,108,97,119,115,46,70,110,82,101,98,117,105,108,116,32,108,111,111,112,46,101,120,97,109,112,108,101,47,103,48,51,50,50,48,47,108,97,119,115,46,70,110,73,110,103,114,101,100,105,101,110,116,115,32,108,111,111,112,46,101,120,97,109,112,108,101,47,103,48,51,50,50,48,47,108,97,119,115,46,70,110,69,120,97,99,116,73,115,87,111,114,108,100])
def Yk4:List (List Char):=[(List.map Char.ofNat [104,97,114,110,101,115,115]),
 (List.map Char.ofNat [98,99,101,52,102,99,53,100,97,55,49,48,98,102,48,57,49,99,51,100,101,53,102,102,52,57,51,99,98,49,57,99,51,102,50,56,51,52,48,100,51,102,51,50,54,51,98,100,98,57,100,102,56,57,50,56,55,53,55,101,52,51,54,99]),
 (List.map Char.ofNat [99,117,116]),
 (List.map Char.ofNat [97,116]),
 (List.map Char.ofNat [108,111,111,112,46,101,120,97,109,112,108,101,47,103,48,51,50,50,48,47,108,97,119,115,46,70,110,82,101,98,117,105,108,116]),
 (List.map Char.ofNat [108,111,111,112,46,101,120,97,109,112,108,101,47,103,48,51,50,50,48,47,108,97,119,115,46,70,110,73,110,103,114,101,100,105,101,110,116,115]),
 (List.map Char.ofNat [108,111,111,112,46,101,120,97,109,112,108,101,47,103,48,51,50,50,48,47,108,97,119,115,46,70,110,69,120,97,99,116,73,115,87,111,114,108,100])]
theorem Y1dl:Tryz.pinned.checked.prog.initOrder=String.ofList Y11v:=by kernel_rfl
theorem Y1ac:wordsSigns Y11v=Yk4:=by kernel_rfl
theorem Y1ci:wordsSigns Tryz.pinned.checked.prog.initOrder.toList=Yk4:=by rw [Y1dl,String.toList_ofList]; exact Y1ac
theorem Y1a9:stripLifts liftWords (behindMainWord Yk4)=([],behindMainWord Yk4):=by kernel_rfl
theorem Y1eo (P:Program) (h:wordsSigns P.initOrder.toList=Yk4) (h1:P.laysLater=false) (h2:P.bearsReflect=false) (h3:P.doorFits []=true):P.mayEnter=true:=by
 have e:behindMainWord Yk4=(List.map Char.ofNat [99,117,116]) :: (behindMainWord Yk4).tail:=by kernel_rfl
 have t:=Y1a9
 unfold Program.mayEnter; rw [h]
 rw [e] at t ⊢
 simp only [t,h1,h2,h3]
 decide +kernel
theorem Y1h9 (P:Program) (h:wordsSigns P.initOrder.toList=Yk4):P.make=some .cut:=by
 unfold Program.make; rw [h]; kernel_rfl
theorem Y1gt (P:Program) (h:wordsSigns P.initOrder.toList=Yk4):P.liftsFinal=false:=by
 unfold Program.liftsFinal Program.headLifts; rw [h]; kernel_rfl
theorem Y1qw {a b:Bool} (h:a=true) (g:b=true):(a&&b)=true:=by rw [h,g]; rfl
theorem Y1mu:Tryz.pinned.checked.prog.mayEnter=true:=Y1eo _ Y1ci (by kernel_rfl) (by kernel_rfl) (by kernel_rfl)
theorem Y1pe:Tryz.pinned.checked.prog.make=some .cut:=Y1h9 _ Y1ci
theorem Y1qt:Tryz.pinned.checked.prog.liftsFinal=false:=Y1gt _ Y1ci
end Go.Proofs.YtclpofblehlojaaGreat
end
