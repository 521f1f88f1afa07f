/- Part 3 of the machine. No condition. -/
import Derived.Test.YtcbodhkhppgkiaaGreatQ2
import Derived.Orders
import Derived.ProofKit
import Derived.OpenShut
set_option linter.unusedVariables false
set_option linter.unusedSimpArgs false
section
namespace Go.Proofs.YtcbodhkhppgkiaaGreat.Ab
open Go
def Ytr:List Nat->Nat->Option Nat
 | [],_=>none
 | x :: l,i=>match Nat.beq x i with
  | true=>some 0
  | false=>match Ytr l i with
   | some j=>some (j+1)
   | none=>none
theorem Yqm:∀ {l:List Nat}{i j:Nat},Ytr l i=some j->l[j]? = some i
 | [],i,j,h=>by simp[Ytr]at h
 | x :: l,i,j,h=>by
  unfold Ytr at h
  split at h
  ·rename_i hb
   simp only[aa]at h;subst h
   have:=aA hb
   simp[this]
  ·split at h
   ·rename_i j' hj
    simp only[aa]at h;subst h
    simpa using Yqm hj
   ·cases h
def AC.sel (ids:List Nat):AC->AC
 | .ref i=>match Ytr ids i with|some j=>.ref j|none=>.top
 | .bor i c=>match Ytr ids i with|some j=>.bor j c|none=>.top
 | .ptr i o=>match Ytr ids i with|some j=>.ptr j o|none=>.top
 | .eptr i k o=>match Ytr ids i with|some j=>.eptr j k o|none=>.top
 | .iptr (some i) cs=>match Ytr ids i with|some j=>.iptr (some j) cs|none=>.top
 | .sub i k p=>match Ytr ids i with|some j=>.sub j k p|none=>.top
 | .mref i=>match Ytr ids i with|some j=>.mref j|none=>.top
 | c=>c
def SV.sel (ids:List Nat):SV->SV
 | .one c=>.one (c.sel ids)
 | .agg cs=>.agg (cs.map (AC.sel ids))
def AV.sel (ids:List Nat):AV->AV
 | .sv x=>.sv (x.sel ids)
 | .tup l=>.tup (l.map (SV.sel ids))
def Ob.sel (ids:List Nat):Ob->Ob
 | .box cs=>.box (cs.map (AC.sel ids))
 | o=>o
def Yu5:AV:=.sv (.one .top)
def Yrn (ids keep:List Nat):Nat->List AV->List AV
 | _,[]=>[]
 | n,v :: l=>(match keep.elem n with|true=>v.sel ids|false=>Yu5) :: Yrn ids keep (n+1) l
def St.sel (s:St) (ids keep:List Nat):St:={ regs:=Yrn ids keep 0 s.regs,objs:=ids.map λi=>(s.obj i).sel ids,m:=s.m }
def Y16e:List Nat->Bool
 | []=>true
 | x :: l => !l.elem x&&Y16e l
def Y16g (m:Nat) (ids:List Nat):Bool:=Y16e ids&&(ids.take m == List.range m)
section
variable {P:Program}{E:Ent P}{s:St}{ι:Interp}{a:Act}{w:World}
theorem Y14t:∀ {l:List Nat},Y16e l->∀ {i j x:Nat},l[i]? = some x->l[j]? = some x->i=j
 | [],_,i,j,x,hi,_=>by simp at hi
 | y :: l,h,i,j,x,hi,hj=>by
  simp only[Y16e,af,aL,List.elem_eq_contains]at h
  have hn:y∉l:=by simpa using h.1
  cases i with
  | zero=>cases j with
   | zero=>rfl
   | succ j=>
    simp only[bX,aa]at hi;subst hi
    exact absurd (aE (by simpa using hj)) hn
  | succ i=>cases j with
   | zero=>
    simp only[bX,aa]at hj;subst hj
    exact absurd (aE (by simpa using hi)) hn
   | succ j=>rw[Y14t (l:=l) h.2 (i:=i) (j:=j) (x:=x) (by simpa using hi) (by simpa using hj)]
def Ypl (ι:Interp) (ids:List Nat):Interp:=
 { G:=ι.G,blk:=λj=>ι.blk (ids.getD j 0),sl:=λj=>ι.sl (ids.getD j 0),fp:=λj b=>∃ i,ids[j]? = some i/\ι.fp i b }
structure Sel (ids:List Nat) (ob ob':Nat->Ob):Prop where
 o:∀ j i,ids[j]? = some i->ob' j=(ob i).sel ids
variable {ids:List Nat}{ob ob':Nat->Ob}
theorem Sel.notFree (h:Sel ids ob ob') {i j:Nat}(hj:ids[j]? = some i) (hn:Ab.notFree ob i):Ab.notFree ob' j:=by
 unfold Ab.notFree at *
 rw[h.o j i hj]
 cases e:ob i<;>simp_all[Ob.sel]
theorem Sel.arr (h:Sel ids ob ob') {i j:Nat}(hj:ids[j]? = some i) {own:Bool}{sz:Nat}{es:List (List Cell)}(e:ob' j=.arr own sz es):ob i=.arr own sz es:=by
 rw[h.o j i hj]at e
 cases e':ob i<;>simp_all[Ob.sel]
theorem Sel.box (h:Sel ids ob ob') {i j:Nat}(hj:ids[j]? = some i) {cs:List AC}(e:ob' j=.box cs):∃ cs1,ob i=.box cs1:=by
 rw[h.o j i hj]at e
 cases e':ob i<;>simp_all[Ob.sel]
theorem Sel.map (h:Sel ids ob ob') {i j:Nat}(hj:ids[j]? = some i) {nn:Bool}{k:MK}{f:Value->Option Cell}(e:ob' j=.map nn k f):ob i=.map nn k f:=by
 rw[h.o j i hj]at e
 cases e':ob i<;>simp_all[Ob.sel]
theorem Sel.reads (h:Sel ids ob ob') {i j:Nat}(hj:ids[j]? = some i) (e:(ob' j).reads):(ob i).reads:=by
 rw[h.o j i hj]at e
 cases e':ob i<;>simp_all[Ob.sel,Ob.reads]
theorem Sel.rdSet (h:Sel ids ob ob') {i j:Nat}(hj:ids[j]? = some i):∀ b,Ab.rdSet ι (some i) b->Ab.rdSet (Ypl ι ids) (some j) b:=
 λb hb=>hb.imp id λhb=>⟨i,hj,hb⟩
theorem Ysk {j i:Nat}(hj:ids[j]? = some i):ids.getD j 0=i:=by simp[hj]
theorem Ymf.sel (h:Sel ids ob ob') {c:AC}{v:Value}(r:Ymf w ι ob c v):Ymf w (Ypl ι ids) ob' (c.sel ids) v:=by
 cases c with
 | top=>trivial
 | val c=>exact r
 | ref i=>
  simp only[AC.sel]
  split
  ·rename_i j hj
   have hj:=Yqm hj
   refine⟨h.notFree hj r.1,λown sz es e => ?_⟩
   simp only[Ypl,Ysk hj]
   exact r.2 _ _ _ (h.arr hj e)
  ·trivial
 | bor i c=>
  simp only[AC.sel]
  split
  ·rename_i j hj
   have hj:=Yqm hj
   refine⟨h.notFree hj r.1,λe => ?_⟩
   exact Rd.mono (λ_ _=>rfl) (h.rdSet hj) (r.2 (h.reads hj e))
  ·trivial
 | ptr i o=>
  simp only[AC.sel]
  split
  ·rename_i j hj
   have hj:=Yqm hj
   refine⟨h.notFree hj r.1,λcs e => ?_⟩
   obtain⟨cs1,e1⟩:=h.box hj e
   simp only[Ypl,Ysk hj]
   exact r.2 _ e1
  ·trivial
 | eptr i k o=>
  simp only[AC.sel]
  split
  ·rename_i j hj
   have hj:=Yqm hj
   refine⟨h.notFree hj r.1,λown sz es e => ?_⟩
   simp only[Ypl,Ysk hj]
   exact r.2 _ _ _ (h.arr hj e)
  ·trivial
 | iptr src cs=>
  cases src with
  | none=>exact⟨λid e=>(by cases e),λhl=>r.2 trivial⟩
  | some i=>
   simp only[AC.sel]
   split
   ·rename_i j hj
    have hj:=Yqm hj
    refine⟨λid e=>by cases e;exact h.notFree hj (r.1 i rfl),λhl => ?_⟩
    obtain⟨b,o,xs,e,hb,hx,ha⟩:=r.2 (h.reads hj hl)
    exact⟨b,o,xs,e,h.rdSet hj b hb,hx,ha.imp λx c hc=>Rd.mono (λ_ _=>rfl) (h.rdSet hj) hc⟩
   ·trivial
 | sub i k p=>
  simp only[AC.sel]
  split
  ·rename_i j hj
   have hj:=Yqm hj
   refine⟨h.notFree hj r.1,λown sz es e => ?_⟩
   obtain⟨b,h1,h2,h3⟩:=r.2 _ _ _ (h.arr hj e)
   refine⟨b,?_,h.rdSet hj b h2,h3⟩
   simp only[Ypl,Ysk hj];exact h1
  ·trivial
 | mref i=>
  simp only[AC.sel]
  split
  ·rename_i j hj
   have hj:=Yqm hj
   refine⟨h.notFree hj r.1,λnn k f e => ?_⟩
   simp only[Ypl,Ysk hj]
   exact r.2 _ _ _ (h.map hj e)
  ·trivial
theorem Ymo.sel (h:Sel ids ob ob') {x:SV}{v:Value}(r:Ymo w ι ob x v):Ymo w (Ypl ι ids) ob' (x.sel ids) v:=by
 cases x with
 | one c=>
  refine⟨Ymf.sel h r.1,λhn=>r.2 λe=>hn ?_⟩
  subst e;rfl
 | agg cs=>
  obtain⟨arr,e,ha⟩:=r
  exact⟨arr,e,Ylq.map_left _ (ha.imp λc u hc=>⟨Ymf.sel h hc.1,hc.2⟩)⟩
theorem Ymg.sel (h:Sel ids ob ob') {x:AV}{v:Value}(r:Ymg w ι ob x v):Ymg w (Ypl ι ids) ob' (x.sel ids) v:=by
 cases x with
 | sv x=>exact Ymo.sel h r
 | tup l=>
  obtain⟨arr,e,ha⟩:=r
  exact⟨arr,e,Ylq.map_left _ (ha.imp λc u hc=>Ymo.sel h hc)⟩
theorem Yov.sel (h:Sel ids ob ob') {i j:Nat}(hj:ids[j]? = some i) (r:Yov w ι ob i (ob i)):Yov w (Ypl ι ids) ob' j (ob' j):=by
 have hf:∀ b,(Ypl ι ids).fp j b ↔ ι.fp i b:=λb=>⟨λ⟨i',e,k⟩=>by rw[hj]at e;cases e;exact k,λk=>⟨i,hj,k⟩⟩
 rw[h.o j i hj]
 cases e:ob i with
 | free=>rw[e]at r;exact λb hb=>r b ((hf b).1 hb)
 | dead=>rw[e]at r;exact λb hb=>r b ((hf b).1 hb)
 | box cs=>
  rw[e]at r
  obtain⟨r1,arr,ty,r2,r3⟩:=r
  refine⟨(hf _).2 (by simp only[Ypl,Ysk hj];exact r1),arr,ty,by simp only[Ypl,Ysk hj];exact r2,Ylq.map_left _ (r3.imp λc v hc=>⟨Ymf.sel h hc.1,hc.2⟩)⟩
 | arr own sz es=>
  rw[e]at r
  have hf':(Ypl ι ids).fp j=ι.fp i:=funext λb=>propext (hf b)
  show Ym8 w (Yna w ι.G own) sz ((Ypl ι ids).fp j) ((Ypl ι ids).sl j) es
  rw[hf']
  simp only[Ypl,Ysk hj]
  exact r
 | map nn k f=>
  rw[e]at r
  cases nn with
  | true=>exact⟨λb hb=>r.1 b ((hf b).1 hb),r.2⟩
  | false=>
   show Yol w k ((Ypl ι ids).fp j) ((Ypl ι ids).blk j) f
   simp only[Ypl,Ysk hj]
   exact Yol.mono (show Yol w k (ι.fp i) (ι.blk i) f from r) (λx hx=>⟨i,hj,hx⟩) λ_ _=>rfl
theorem Yz4 (ids keep:List Nat):∀ (l:List AV) (n:Nat),(Yrn ids keep n l).length=l.length
 | [],_=>rfl
 | v :: l,n=>by simp[Yrn,Yz4 ids keep l]
theorem Y14j (ids keep:List Nat):∀ (l:List AV) (n t:Nat),(Yrn ids keep n l).getD t Yu5=(l.getD t Yu5).sel ids\/(Yrn ids keep n l).getD t Yu5=Yu5
 | [],_,_=>.inr rfl
 | v :: l,n,0=>by
  simp only[Yrn,cq]
  split
  ·exact .inl rfl
  ·exact .inr rfl
 | v :: l,n,t+1=>by
  simp only[Yrn,dM]
  exact Y14j ids keep l (n+1) t
theorem Rel.sel (h:Rel E s ι a w) {ids:List Nat}(keep:List Nat) (hok:Y16g s.m ids):Rel E (s.sel ids keep) (Ypl ι ids) a w:=by
 simp only[Y16g,af,beq_iff_eq]at hok
 obtain⟨hnd,htake⟩:=hok
 have hinj:∀ {i j x:Nat},ids[i]? = some x->ids[j]? = some x->i=j:=λh1 h2=>Y14t hnd h1 h2
 have hm:∀ i,i<s.m->ids[i]? = some i:=λi hi=>by
  have:(ids.take s.m)[i]? = some i:=by rw[htake];simp[hi]
  rwa [aV,ae hi]at this
 have hobj:∀ j,(s.sel ids keep).obj j=match ids[j]? with|some i=>(s.obj i).sel ids|none=>.free:=by
  intro j
  simp only[St.sel,St.obj,ao,bb]
  cases ids[j]?<;>rfl
 have hs:Sel ids s.obj (s.sel ids keep).obj:=⟨λj i e=>by rw[hobj,e]⟩
 refine { len:=by simp only[St.sel,Yz4];exact h.len,defers:=h.defers,regs:=λt => ?_,objs:=λj => ?_,disj:=λi j b hij hi hj => ?_,gfp:=λi b hi => ?_,own:=λi b hi => ?_,lt:=λi b hi => ?_,glt:=h.glt,frame:=h.frame,size:=h.size,os:=h.os,out:=h.out,ent:=λi => ?_,gg:=h.gg,gown:=h.gown,ment:=h.ment }
 ·rcases Y14j ids keep s.regs 0 t with e|e
  ·show Ymg w (Ypl ι ids) _ ((Yrn ids keep 0 s.regs).getD t Yu5) _
   rw[e];exact Ymg.sel hs (h.regs t)
  ·show Ymg w (Ypl ι ids) _ ((Yrn ids keep 0 s.regs).getD t Yu5) _
   rw[e];exact Yum
 ·cases e:ids[j]? with
  | none=>
   rw[hobj,e]
   rintro b ⟨i,hi,_⟩
   rw[e]at hi;cases hi
  | some i=>exact Yov.sel hs e (h.objs i)
 ·obtain⟨i',e1,f1⟩:=hi
  obtain⟨j',e2,f2⟩:=hj
  refine h.disj i' j' b (λe=>hij ?_) f1 f2
  subst e;exact hinj e1 e2
 ·obtain⟨i',e1,f1⟩:=hi;exact h.gfp i' b f1
 ·obtain⟨i',e1,f1⟩:=hi;exact h.own i' b f1
 ·obtain⟨i',e1,f1⟩:=hi;exact h.lt i' b f1
 ·rcases bH i s.m with hi|hi
  ·have hid:=hm i hi
   rw[hobj,hid]
   have:=h.ent i
   cases e1:E.ob i<;>cases e2:s.obj i<;>simp_all[Ync,Ob.sel,Ypl]
  ·rw[h.ment i hi];trivial
def AC.lock (id:Nat) (es:List (List Cell)):AC->AC
 | .ref i=>match Nat.beq i id with|true=>.val (.list es)|false=>.ref i
 | .bor i c=>match Nat.beq i id with|true=>.val c|false=>.bor i c
 | .eptr i k o=>match Nat.beq i id with|true=>.top|false=>.eptr i k o
 | .iptr (some i) cs=>match Nat.beq i id with|true=>.iptr none cs|false=>.iptr (some i) cs
 | .sub i k p=>match Nat.beq i id with|true=>.top|false=>.sub i k p
 | c=>c
def SV.lock (id:Nat) (es:List (List Cell)):SV->SV
 | .one c=>.one (c.lock id es)
 | .agg cs=>.agg (cs.map (AC.lock id es))
def AV.lock (id:Nat) (es:List (List Cell)):AV->AV
 | .sv x=>.sv (x.lock id es)
 | .tup l=>.tup (l.map (SV.lock id es))
def Ob.lock (id:Nat) (es:List (List Cell)):Ob->Ob
 | .box cs=>.box (cs.map (AC.lock id es))
 | o=>o
def Yv4 (id:Nat) (es:List (List Cell)):Nat->List Ob->List Ob
 | _,[]=>[]
 | n,o :: l=>(match Nat.beq n id with|true=>.dead|false=>o.lock id es) :: Yv4 id es (n+1) l
def St.lock (s:St) (id:Nat) (es:List (List Cell)):St:={ s with regs:=s.regs.map (AV.lock id es),objs:=Yv4 id es 0 s.objs }
theorem Y14c (id:Nat) (es:List (List Cell)):∀ (l:List Ob) (n i:Nat),(Yv4 id es n l).getD i .free=if n+i=id/\i<l.length then .dead else (l.getD i .free).lock id es
 | [],n,i=>by simp[Yv4,Ob.lock]
 | o :: l,n,0=>by
  simp only[Yv4,cq,cR,aD,Nat.zero_lt_succ,dP]
  by_cases h:n=id
  ·subst h;simp
  ·have:Nat.beq n id=false:=by rw[<- bn];exact λe=>h (aA e)
   rw[this,ab h]
 | o :: l,n,i+1=>by
  simp only[Yv4,dM,aD]
  rw[Y14c id es l (n+1) i]
  congr 1
  simp only[eq_iff_iff];constructor<;>(rintro⟨h1,h2⟩;exact⟨by omega,by omega⟩)
theorem Rel.lock (h:Rel E s ι a w) {id:Nat}{own:Bool}{sz:Nat}{es:List (List Cell)}(ho:s.obj id=.arr own sz es):∃ ι',Rel E (s.lock id es) ι' a w:=by
 let ι':Interp:={ ι with G:=λb=>ι.G b\/ι.fp id b,fp:=λi b=>i≠id/\ι.fp i b }
 have hlt:id<s.objs.length:=Ym6 ho sW
 have hobj:∀ i,(s.lock id es).obj i=if i=id then .dead else (s.obj i).lock id es:=by
  intro i
  show (Yv4 id es 0 s.objs).getD i .free=_
  rw[Y14c]
  by_cases hi:i=id
  ·subst hi;simp[hlt]
  ·rw[ab oW,ab hi];rfl
 have hx:Ext (λ_=>True) w ι s.obj w ι' (s.lock id es).obj:=by
  refine⟨λb hb=>⟨.inl hb,rfl⟩,λi => ?_⟩
  rw[hobj]
  by_cases hi:i=id
  ·subst hi;rw[ae rfl,ho];trivial
  ·rw[ab hi]
   cases e:s.obj i with
   | free=>trivial
   | dead=>trivial
   | box cs=>rfl
   | arr o1 s1 e1=>exact⟨rfl,rfl,λ_ b hb=>⟨.inl ⟨hi,hb⟩,rfl⟩⟩
   | map _ _ _=>exact⟨rfl,rfl,rfl,λ_ b hb=>⟨.inl ⟨hi,hb⟩,rfl⟩⟩
 have hrow:Rd w ι'.G (ι.sl id) (.list es):=by
  have:=h.objs id
  rw[ho]at this
  exact Ym8.rd this
 have hac:∀ {c:AC} {v:Value},Ymf w ι s.obj c v->Ymf w ι' (s.lock id es).obj (c.lock id es) v:=by
  intro c v r
  have hdef:=Ymf.ext hx (λ_ _=>trivial) r
  cases c with
  | top=>exact hdef
  | val c=>exact hdef
  | ptr i o=>exact hdef
  | mref i=>exact hdef
  | ref i=>
   simp only[AC.lock]
   split
   ·rename_i hb
    have:=aA hb
    subst this
    rw[r.2 _ _ _ ho];exact hrow
   ·exact hdef
  | bor i c=>
   simp only[AC.lock]
   split
   ·rename_i hb
    have:=aA hb
    subst this
    exact Rd.mono (λ_ _=>rfl) (λb hb=>hb) (r.2 (by show (s.obj _).reads;rw[ho];trivial))
   ·exact hdef
  | eptr i k o=>
   simp only[AC.lock]
   split
   ·trivial
   ·exact hdef
  | iptr src cs=>
   cases src with
   | none=>exact hdef
   | some i=>
    simp only[AC.lock]
    split
    ·rename_i hb
     have:=aA hb
     subst this
     refine⟨λ_ e=>(by cases e),λ_ => ?_⟩
     obtain⟨b,o,xs,e,hb,hx,ha⟩:=r.2 (by show (s.obj _).reads;rw[ho];trivial)
     exact⟨b,o,xs,e,hb,hx,ha.imp λx c hc=>Rd.mono (λ_ _=>rfl) (λb hb=>hb) hc⟩
    ·exact hdef
  | sub i k p=>
   simp only[AC.lock]
   split
   ·trivial
   ·exact hdef
 have hc:∀ {cs:List AC} {vs:List Value},Ylq (Ynt w ι s.obj) cs vs->Ylq (Ynt w ι' (s.lock id es).obj) (cs.map (AC.lock id es)) vs:=
  λha=>Ylq.map_left _ (ha.imp λc v hcv=>⟨hac hcv.1,hcv.2⟩)
 have hsv:∀ {x:SV} {v:Value},Ymo w ι s.obj x v->Ymo w ι' (s.lock id es).obj (x.lock id es) v:=by
  intro x v r
  cases x with
  | one c=>
   refine⟨hac r.1,λhn=>r.2 λe=>hn ?_⟩
   subst e;rfl
  | agg cs=>obtain⟨arr,e,ha⟩:=r;exact⟨arr,e,hc ha⟩
 have hav:∀ {x:AV} {v:Value},Ymg w ι s.obj x v->Ymg w ι' (s.lock id es).obj (x.lock id es) v:=by
  intro x v r
  cases x with
  | sv x=>exact hsv r
  | tup l=>obtain⟨arr,e,ha⟩:=r;exact⟨arr,e,Ylq.map_left _ (ha.imp λc v hcv=>hsv hcv)⟩
 refine⟨ι',Rel.step h hx (λt=>.inr ?_) (by simp[St.lock]) rfl (λi=>.inr ?_) ?_ ?_ ?_ ?_ ?_ (λ_ _ _=>rfl) (aC _) rfl rfl (hG := ?_)⟩
 ·have:(s.lock id es).reg t=(s.reg t).lock id es:=by
   show (s.regs.map (AV.lock id es)).getD t _=_
   simp only[ao,bb,St.reg]
   cases s.regs[t]?<;>rfl
  rw[this];exact hav (h.regs t)
 ·rw[hobj]
  by_cases hi:i=id
  ·rw[ae hi];rintro b ⟨h1,_⟩;exact h1 hi
  ·rw[ab hi]
   have:=h.objs i
   cases e:s.obj i with
   | free=>rw[e]at this;exact λb hb=>this b hb.2
   | dead=>rw[e]at this;exact λb hb=>this b hb.2
   | box cs=>
    rw[e]at this
    obtain⟨r1,arr,ty,r2,r3⟩:=this
    exact⟨⟨hi,r1⟩,arr,ty,r2,hc r3⟩
   | arr o1 s1 e1=>
    rw[e]at this
    have hf:ι'.fp i=ι.fp i:=by funext b;simp[ι',hi]
    show Ym8 w (Yna w ι'.G o1) s1 (ι'.fp i) (ι.sl i) e1
    rw[hf]
    exact Ym8.mono this (λb hb=>⟨.inl hb,rfl⟩) λ_ _=>rfl
   | map nn k f=>
    rw[e]at this
    cases nn with
    | true=>exact⟨λb hb=>this.1 b hb.2,this.2⟩
    | false=>exact Yol.mono this (λx hx=>⟨hi,hx⟩) λ_ _=>rfl
 ·exact λi j b hij hi hj=>h.disj i j b hij hi.2 hj.2
 ·rintro i b hi (hg|hg)
  ·exact h.gfp i b hi.2 hg
  ·exact h.disj i id b hi.1 hi.2 hg
 ·exact λi b hi=>h.own i b hi.2
 ·exact λi b hi=>h.lt i b hi.2
 ·rintro b (hb|hb)
  ·exact h.glt b hb
  ·exact h.lt id b hb
 ·rintro b (hb|hb)
  ·exact .inl hb
  ·exact .inr (.inl ⟨id,hb⟩)
theorem Rel.nilArr (h:Rel E s ι a w) (own:Bool) (sz:Nat):∃ ι',Rel E ((s.grow 1).setOb s.objs.length (.arr own sz [])) ι' a w /\
  Ymo w ι' ((s.grow 1).setOb s.objs.length (.arr own sz [])).obj (.one (.ref s.objs.length)) (.slice none 0 0):=by
 have hroom:=Yye s 1 s.objs.length (aC _) oW
 exact Rel.makeArr (h.grow 1) (n:=s.objs.length) hroom.1 hroom.2 (ids:=[]) sW (own:=own) (sz:=sz) (es:=[]) (w':=w) (v':=.slice none 0 0) (F':=λ_=>False)
  (λ_ _ _=>rfl) (aC _) rfl rfl (λ_ hb=>hb.elim)
  ⟨0,[],λ_ _=>False,⟨by simp,.inl ⟨rfl,rfl⟩⟩,by simp,λb hb=>by simp[Value.ownBlock]at hb,λ_ _ hb=>hb,λ_ _ _ hb=>hb,λ_ _ _ _ hb=>hb.elim,λj u c hu=>by simp at hu,λ_=>⟨none,rfl⟩⟩ rfl
def Y1fr (s:St) (t:Nat) (own:Bool) (sz:Nat):Option St:=
 match s.reg t with
 | .sv (.one (.val (.lit (.slice none 0 0))))=>some (((s.grow 1).setOb s.objs.length (.arr own sz [])).put (some t) (.sv (.one (.ref s.objs.length))))
 | _=>none
theorem Y1lc (h:Rel E s ι a w) {t:Nat}{own:Bool}{sz:Nat}{s':St}(e:Y1fr s t own sz=some s'):∃ ι',Rel E s' ι' a w:=by
 unfold Y1fr at e
 split at e
 ·rename_i ht
  simp only[aa]at e;subst e
  have hr:=h.regs t
  rw[ht]at hr
  have hv:=(Rd.lit_inv (show Rd w ι.G _ (.lit (.slice none 0 0)) from hr.1)).1
  obtain⟨ι',h1,h2⟩:=h.nilArr own sz
  have:=Rel.put h1 (some t) (x:=.sv (.one (.ref s.objs.length))) (v:=a.tmps.getD t undef) (by rw[hv];exact h2)
  rw[Yv0]at this
  exact⟨ι',this⟩
 ·cases e
theorem Ylq.set {α β:Type}{R:α->β->Prop}:∀ {as:List α}{bs:List β}{k:Nat}{a':α},Ylq R as bs->(∀ b,bs[k]? = some b->R a' b)->Ylq R (as.set k a') bs
 | [],[],_,_,_,_=>trivial
 | _ :: _,_ :: _,0,_,h,hr=>⟨hr _ rfl,h.2⟩
 | _ :: _,_ :: _,k+1,_,h,hr=>⟨h.1,h.2.set λb hb=>hr b (by simpa using hb)⟩
 | [],_ :: _,_,_,h,_=>h.elim
 | _ :: _,[],_,_,h,_=>h.elim
theorem Rel.recell (h:Rel E s ι a w) {id k:Nat}{cs:List AC}(ho:s.obj id=.box cs) {c c':AC}(hc:cs[k]? = some c)
  (hv:∀ v,Ynt w ι s.obj c v->Ymf w ι s.obj c' v):Rel E (s.setOb id (.box (cs.set k c'))) ι a w:=by
 have hlt:id<s.objs.length:=Ym6 ho sW
 have hx:Ext (λ_=>True) w ι s.obj w ι (s.setOb id (.box (cs.set k c'))).obj:=Y10b λi=>by
  rw[Yll hlt]
  by_cases hi:i=id
  ·subst hi;rw[ae rfl,ho];rfl
  ·rw[ab hi];cases s.obj i<;>simp[Ync]<;>exact λb hb=>.inl hb
 refine Rel.step h hx (λt=>.inl ⟨rfl,λ_ _ _ _=>trivial⟩) rfl rfl (λi => ?_) h.disj h.gfp h.own h.lt h.glt (λ_ _ _=>rfl) (aC _) rfl rfl
 by_cases hi:i=id
 ·subst hi
  right
  rw[Yll hlt,ae rfl]
  have:=h.objs i
  rw[ho]at this
  obtain⟨r1,arr,ty,r2,r3⟩:=this
  have r4:Ylq (Ynt w ι s.obj) (cs.set k c') arr.toList:=r3.set λv hvk=>by
   have:=r3.get hc hvk
   exact⟨hv v this,this.2⟩
  exact⟨r1,arr,ty,r2,r4.imp λc v hcv=>⟨Ymf.ext hx (λ_ _=>trivial) hcv.1,hcv.2⟩⟩
 ·left
  exact⟨by rw[Yll hlt,ab hi],⟨rfl,rfl,λb=>dQ,λb _=>rfl⟩,λ_ _ _ _=>trivial⟩
def Y1gp (s:St) (id k:Nat) (own:Bool) (sz:Nat):Option St:=
 match s.obj id with
 | .box cs=>match cs[k]? with
  | some (.val (.lit (.slice none 0 0)))=>some (((s.grow 1).setOb s.objs.length (.arr own sz [])).setOb id (.box (cs.set k (.ref s.objs.length))))
  | _=>none
 | _=>none
theorem Y1me (h:Rel E s ι a w) {id k:Nat}{own:Bool}{sz:Nat}{s':St}(e:Y1gp s id k own sz=some s'):∃ ι',Rel E s' ι' a w:=by
 unfold Y1gp at e
 split at e
 ·rename_i cs ho
  split at e
  ·rename_i hk
   simp only[aa]at e;subst e
   have hlt:id<s.objs.length:=Ym6 ho sW
   obtain⟨ι',h1,h2⟩:=h.nilArr own sz
   refine⟨ι',Rel.recell h1 ?_ hk λv hv => ?_⟩
   ·rw[Yll (by simp[St.grow])]
    rw[ab oW,Yqs];exact ho
   ·have:=(Rd.lit_inv (show Rd w ι'.G _ (.lit (.slice none 0 0)) from hv.1)).1
    rw[this];exact h2.1
  ·cases e
 ·cases e
end
structure Le (s s':St):Prop where
 reg:∀ t,s.reg t=.sv (.agg [])\/s'.reg t=s.reg t
 obj:∀ i,(s.obj i=.free\/s.obj i=.dead)\/s'.obj i=s.obj i
section
variable {P:Program}{s s':St}
theorem Le.ev (h:Le s s') {x:Operand}{v:AV}(e:s.ev x=some v):s'.ev x=some v:=by
 cases x with
 | tmp t=>
  simp only[St.ev]at e|-
  rcases h.reg t with h1|h1
  ·rw[h1]at e;cases e
  ·rw[h1];exact e
 | _=>exact e
theorem Le.ac (h:Le s s') {x:Operand}{v:AC}(e:s.ac x=some v):s'.ac x=some v:=by
 unfold St.ac at e|-
 split at e
 ·rename_i c hc;rw[h.ev hc];exact e
 ·cases e
theorem Le.lit (h:Le s s') {x:Operand}{v:Value}(e:s.lit x=some v):s'.lit x=some v:=by
 unfold St.lit at e|-
 split at e
 ·rename_i c hc;rw[h.ac hc];exact e
 ·cases e
theorem Le.int (h:Le s s') {x:Operand}{v:IntKind×Int}(e:s.int x=some v):s'.int x=some v:=by
 unfold St.int at e|-
 split at e
 ·rename_i c hc;rw[h.lit hc];exact e
 ·cases e
theorem Le.litS (h:Le s s') {x:Operand}{v:List UInt8}(e:Ab.litS s x=some v):Ab.litS s' x=some v:=by
 unfold Ab.litS at e|-
 split at e
 ·rename_i c hc;rw[h.lit hc];exact e
 ·cases e
theorem Le.arr (h:Le s s') {i:Nat}{own:Bool}{sz:Nat}{es:List (List Cell)}(e:s.obj i=.arr own sz es):s'.obj i=.arr own sz es:=by
 rcases h.obj i with (h1|h1)|h1
 ·rw[h1]at e;cases e
 ·rw[h1]at e;cases e
 ·rw[h1];exact e
theorem Le.box (h:Le s s') {i:Nat}{cs:List AC}(e:s.obj i=.box cs):s'.obj i=.box cs:=by
 rcases h.obj i with (h1|h1)|h1
 ·rw[h1]at e;cases e
 ·rw[h1]at e;cases e
 ·rw[h1];exact e
theorem Le.map (h:Le s s') {i:Nat}{nn:Bool}{k:MK}{f:Value->Option Cell}(e:s.obj i=.map nn k f):s'.obj i=.map nn k f:=by
 rcases h.obj i with (h1|h1)|h1
 ·rw[h1]at e;cases e
 ·rw[h1]at e;cases e
 ·rw[h1];exact e
theorem Le.live (h:Le s s') {src:Option Nat}(e:Yt1 s src):Yt1 s' src:=by
 unfold Yt1 at e|-
 cases src with
 | none=>rfl
 | some id=>
  simp only at e|-
  split at e
  ·rename_i hb;rw[h.arr hb]
  ·rename_i hb;rw[h.map hb]
  ·cases e
theorem Le.ptrLive (h:Le s s') {c:AC}(e:Ab.ptrLive s c):Ab.ptrLive s' c:=by
 unfold Ab.ptrLive at e|-
 cases c with
 | ptr id o=>
  simp only at e|-
  split at e
  ·rename_i hb;rw[h.box hb]
  ·cases e
 | eptr id i o=>
  simp only at e|-
  split at e
  ·rename_i hb;rw[h.arr hb]
  ·cases e
 | iptr src cs=>exact h.live e
 | _=>cases e
theorem Le.readAt (h:Le s s') {x:AC}{n:Nat}{q:List Orc}{r:List AC×List Item×List Orc}(e:Ab.readAt s x n q=some r):Ab.readAt s' x n q=some r:=by
 unfold Ab.readAt at e|-
 cases x with
 | ptr id o=>
  simp only at e|-
  split at e
  ·rename_i hb;rw[h.box hb];exact e
  ·cases e
 | iptr src cs=>
  simp only at e|-
  split at e
  ·rename_i hc;rw[ae ⟨h.live hc.1,hc.2⟩];exact e
  ·cases e
 | eptr id i o=>
  simp only at e|-
  split at e
  ·rename_i hb;rw[h.arr hb];exact e
  ·cases e
 | val c=>cases c<;>first|exact e|cases e
 | _=>cases e
theorem Le.idxAddr (h:Le s s') {sz:Nat}{n:Int}{q:List Orc}{c:AC}{r:AC×List Item×List Orc}(e:Ab.idxAddr s sz n q c=some r):Ab.idxAddr s' sz n q c=some r:=by
 unfold Ab.idxAddr at e|-
 split at e
 ·exact e
 ·split at e
  ·split at e
   ·rename_i hc;(try simp only);rw[ae ⟨hc.1,h.live hc.2⟩];exact e
   ·cases e
  ·cases e
 ·split at e
  ·rename_i hb;(try simp only);rw[h.arr hb];exact e
  ·cases e
 ·cases e
theorem Le.elems (h:Le s s') {c:AC}{r:Option Nat×List (List Cell)}(e:Ab.elems s c=some r):Ab.elems s' c=some r:=by
 unfold Ab.elems at e|-
 split at e
 ·exact e
 ·exact e
 ·split at e
  ·rename_i hc;(try simp only);rw[ae (h.live hc)];exact e
  ·cases e
 ·split at e
  ·rename_i hb;(try simp only);rw[h.arr hb];exact e
  ·cases e
 ·cases e
theorem Le.bound (h:Le s s') {d:Nat}{x:Option Operand}{r:Nat×List Item}(e:Ab.bound s d x=some r):Ab.bound s' d x=some r:=by
 cases x with
 | none=>exact e
 | some x=>
  simp only[Ab.bound]at e|-
  split at e
  ·rename_i hb;rw[h.int hb];exact e
  ·cases e
theorem Le.vSlice (h:Le s s') {T:TypeId}{x:Operand}{lo hi mx:Option Operand}{q:List Orc}{r:AV×List Item×List Orc}(e:Ab.vSlice P s T x lo hi mx q=some r):Ab.vSlice P s' T x lo hi mx q=some r:=by
 unfold Ab.vSlice at e|-
 cases mx with
 | some _=>cases e
 | none=>
  simp only at e|-
  split at e
  ·split at e
   ·rename_i hl
    split at e
    ·rename_i h1 h2;rw[h.litS hl];(try simp only);rw[h.bound h1,h.bound h2];exact e
    ·cases e
   ·cases e
  ·split at e
   ·rename_i hc ht
    rw[h.ac hc,ht];(try simp only)
    split at e
    ·rename_i h1 h2
     rw[h.elems h1,h2];(try simp only)
     split at e
     ·rename_i h3 h4;rw[h.bound h3,h.bound h4];exact e
     ·cases e
    ·cases e
   ·cases e
theorem Le.vBuiltin (h:Le s s') {b:Builtin}{args:Array Operand}{tys:Array TypeId}{q:List Orc}{r:AV×List Item×List Orc}(e:Ab.vBuiltin P s b args tys q=some r):Ab.vBuiltin P s' b args tys q=some r:=by
 unfold Ab.vBuiltin at e|-
 split at e
 ·(try simp only)
  split at e
  ·rename_i h1 h2
   split at e
   ·rename_i ht;(try rw[ht]);(try simp only)
    split at e
    ·rename_i hl;rw[h.litS hl];exact e
    ·cases e
   ·rename_i ht;(try rw[ht]);(try simp only)
    split at e
    ·rename_i hc hs
     rw[h.ac hc,hs];(try simp only)
     unfold Y1d0 at e|-
     split at e
     ·rename_i hob;rw[h.arr hob];exact e
     ·cases e
    ·rename_i c hne hc hs
     rw[h.ac hc,hs]
     cases c with
     | sub id i p=>exact(hne id i p rfl).elim
     | _=>
     (try simp only)
     obtain⟨y,hy,rfl⟩:=Option.map_eq_some_iff.1 e
     rw[h.elems hy];rfl
    ·cases e
  ·cases e
 ·(try simp only)
  split at e
  ·rename_i h1
   split at e
   ·rename_i h2 h3;rw[h.int h2,h.int h3];exact e
   ·cases e
  ·cases e
 ·(try simp only)
  split at e
  ·rename_i h1
   split at e
   ·rename_i h2 h3;rw[h.int h2,h.int h3];exact e
   ·cases e
  ·cases e
 ·cases e
theorem Y176 (h:Le s s') {α:Type}{x:Operand}{f:AV->α}{r:α}(e:(s.ev x).map f=some r):(s'.ev x).map f=some r:=by
 obtain⟨y,hy,rfl⟩:=Option.map_eq_some_iff.1 e
 rw[h.ev hy];rfl
theorem Le.mkClo (h:Le s s') {fn:Fn}{fi ca:Array Operand}{q:List Orc}{r:AV×List Item×List Orc}(e:Ab.mkClo s fn fi ca q=some r):Ab.mkClo s' fn fi ca q=some r:=by
 unfold Ab.mkClo at e|-
 cases fn with
 | func f=>
  simp only at e|-
  cases h1:fi.toList with
  | cons y l=>simp[h1]at e
  | nil=>
   simp only[h1]at e|-
   cases h2:ca.toList with
   | nil=>simp[h2]at e
   | cons y l=>
    cases l with
    | cons z l=>simp[h2]at e
    | nil=>
     simp only[h2]at e|-
     cases h3:s.ac y with
     | none=>simp[h3]at e
     | some c=>rw[h.ac h3];rw[h3]at e;exact e
 | _=>cases e
theorem Le.vop (h:Le s s') {o:Oper}{q:List Orc}{r:AV×List Item×List Orc}(e:Ab.vop P s o q=some r):Ab.vop P s' o q=some r:=by
 unfold Ab.vop at e|-
 split at e
 ·rename_i ho;exact Y176 h e
 ·rename_i ho;exact Y176 h e
 ·rename_i ho;(try simp only)
  split at e
  ·rename_i hc;rw[h.lit hc];exact Y176 h e
  ·rename_i hc;rw[h.lit hc];exact Y176 h e
  ·cases e
 ·rename_i ho;(try simp only)
  split at e
  ·rename_i h1 h2 h3;rw[h.ac h1,h2,h3];(try simp only)
   split at e
   ·rename_i hr;rw[h.readAt hr];exact e
   ·cases e
  ·cases e
 ·rename_i ho;(try simp only)
  split at e
  ·rename_i hc;rw[h.ac hc];(try simp only)
   split at e
   ·rename_i hp;rw[ae (h.ptrLive hp)];exact e
   ·cases e
  ·cases e
 ·rename_i ho;(try simp only)
  split at e
  ·rename_i h1 h2;rw[h.lit h1,h.lit h2];exact e
  ·cases e
 ·rename_i ho;(try simp only)
  split at e
  ·rename_i h1;rw[h.lit h1];exact e
  ·cases e
 ·rename_i ho;(try simp only)
  split at e
  ·rename_i h1;rw[h.int h1];exact e
  ·cases e
 ·rename_i ho;(try simp only)
  split at e
  ·rename_i hT;(try simp only)
   split at e
   ·rename_i hc;rw[h.ac hc];(try simp only)
    split at e
    ·rename_i hel;rw[h.elems hel];exact e
    ·cases e
   ·cases e
  ·rename_i hT;(try simp only)
   split at e
   ·rename_i h1 h2 h3;rw[h.int h1,h2,h3];exact e
   ·cases e
 ·rename_i ho;(try simp only)
  split at e
  ·rename_i h1 h2;rw[h.ac h1,h2];(try simp only)
   split at e
   ·rename_i hc;rw[ae ⟨hc.1,h.ptrLive hc.2⟩];exact e
   ·cases e
  ·cases e
 ·rename_i ho;(try simp only)
  split at e
  ·rename_i h1 h2 h3;rw[h.ac h1,h.int h2,h3];(try simp only)
   split at e
   ·rename_i ht;(try rw[ht]);(try simp only)
    obtain⟨y,hy,rfl⟩:=Option.map_eq_some_iff.1 e
    rw[h.idxAddr hy];rfl
   ·cases e
  ·cases e
 ·rename_i ho;(try simp only)
  split at e
  ·rename_i h1 h2 h3;rw[h1,h.litS h2,h.int h3];exact e
  ·cases e
 ·rename_i ho;exact h.vSlice e
 ·rename_i ho;(try simp only)
  split at e
  ·rename_i h1;rw[h.ev h1];exact e
  ·cases e
 ·rename_i ho;exact h.vBuiltin e
 ·rename_i ho;exact h.mkClo e
 ·cases e
theorem Le.eBox (h:Le s s') {x:Operand}{n:Nat}{r:Res}(e:Ab.eBox s x n=some r):Ab.eBox s' x n=some r:=by
 unfold Ab.eBox at e|-
 split at e
 ·rename_i hv;rw[h.ev hv];exact e
 ·cases e
theorem Le.partCells (h:Le s s'):∀ {l:List (Nat×Operand)}{r:List (Nat×List AC)},Ab.partCells s l=some r->Ab.partCells s' l=some r
 | [],r,e=>e
 | (i,x) :: l,r,e=>by
  simp only[Ab.partCells]at e|-
  split at e
  ·split at e
   ·rename_i h2;rw[h.partCells h2];exact e
   ·cases e
  ·split at e
   ·rename_i hv
    rw[h.ev hv];(try simp only)
    split at e
    ·rename_i h1 h2;rw[h1,h.partCells h2];exact e
    ·cases e
   ·cases e
theorem Le.eBuild (h:Le s s') {T:TypeId}{ps:Array (Nat×Operand)}{r:Res}(e:Ab.eBuild P s T ps=some r):Ab.eBuild P s' T ps=some r:=by
 unfold Ab.eBuild at e|-
 split at e
 ·(try simp only)
  split at e
  ·rename_i h1 h2 h3;rw[h1,h2,h.partCells h3];exact e
  ·cases e
 ·(try simp only)
  split at e
  ·rename_i h1 h2 h3
   rw[h1,h2,h.partCells h3]
   exact e
  ·cases e
 ·cases e
theorem Le.eStoreBox (h:Le s s') {T:TypeId}{ad x:Operand}{r:Res}(e:Ab.eStoreBox P s T ad x=some r):Ab.eStoreBox P s' T ad x=some r:=by
 unfold Ab.eStoreBox at e|-
 split at e
 ·rename_i h1 h2
  rw[h.ac h1,h.ev h2];(try simp only)
  split at e
  ·rename_i h3 h4 h5;rw[h.box h3,h4,h5];exact e
  ·cases e
 ·cases e
theorem Le.absorbOwn (h:Le s s'):∀ {l:List AC}{r:List Cell×List Nat},Ab.absorbOwn s l=some r->Ab.absorbOwn s' l=some r
 | [],r,e=>e
 | c :: l,r,e=>by
  simp only[Ab.absorbOwn]at e|-
  split at e
  ·cases e
  ·rename_i cs ids hl
   rw[h.absorbOwn hl];(try simp only)
   split at e
   ·exact e
   ·split at e
    ·rename_i ho;rw[h.arr ho];exact e
    ·cases e
   ·cases e
theorem Y11f (s s':St):∀ {l:List AC}{cs:List Cell},Yr5 l=some cs->absorbOwn s l=absorbOwn s' l
 | [],cs,e=>rfl
 | c :: l,cs,e=>by
  simp only[Yr5]at e
  split at e
  ·cases e
  ·rename_i cs' hl
   have ih:=Y11f s s' hl
   simp only[absorbOwn,ih]
   split at e
   ·rfl
   ·rename_i c1 _
    cases absorbOwn s' l with
    | none=>rfl
    | some _=>cases c1<;>rfl
   ·cases e
theorem Le.absorb (h:Le s s') {l:List AC}{sh:Bool}{r:Bool×List Cell×List Nat}(e:Ab.absorb s l sh=some r):Ab.absorb s' l sh=some r:=by
 unfold Ab.absorb at e|-
 cases sh with
 | true=>exact e
 | false=>
  simp only[cu,cT]at e|-
  split at e
  ·rename_i ho;rw[h.absorbOwn ho];exact e
  ·rename_i ho
   split at e
   ·rename_i hs
    rw[<- Y11f s s' hs,ho];(try simp only);exact e
   ·cases e
theorem Le.absorbZ (h:Le s s') {l:List AC}{sh:Bool}{z:Nat}{r:Bool×List Cell×List Nat}(e:Ab.absorbZ s l sh z=some r):Ab.absorbZ s' l sh z=some r:=by
 unfold Ab.absorbZ at e|-
 split at e
 ·rename_i hz;rw[ae hz];exact e
 ·rename_i hz;rw[ab hz];exact h.absorb e
theorem Le.srcElems (h:Le s s') {own:Bool}{sz:Nat}{c:AC}{r:List (List Cell)×List Nat×List Item}(e:Ab.srcElems s own sz c=some r):Ab.srcElems s' own sz c=some r:=by
 unfold Ab.srcElems at e|-
 split at e
 ·exact e
 ·exact e
 ·exact e
 ·(try simp only)
  split at e
  ·rename_i hc;rw[ae ⟨h.live hc.1,hc.2⟩];exact e
  ·cases e
 ·(try simp only)
  split at e
  ·rename_i ho;rw[h.arr ho];exact e
  ·cases e
 ·cases e
theorem Le.target (h:Le s s') {sz:Nat}{q:List Orc}{c:AC}{r:Bool×List (List Cell)×List Nat×List Orc}(e:Ab.target s sz q c=some r):Ab.target s' sz q c=some r:=by
 unfold Ab.target at e|-
 split at e
 ·exact e
 ·(try simp only)
  split at e
  ·rename_i ho;rw[h.arr ho];exact e
  ·cases e
 ·cases e
theorem Le.eAppend (h:Le s s') {args:Array Operand}{tys:Array TypeId}{n:Nat}{q:List Orc}{r:Res×List Item×List Orc}(e:Ab.eAppend P s args tys n q=some r):Ab.eAppend P s' args tys n q=some r:=by
 unfold Ab.eAppend at e|-
 split at e
 ·(try simp only)
  split at e
  ·rename_i h1 h2 h3
   rw[h1,h.ac h2,h.ac h3];(try simp only)
   split at e
   ·rename_i h4 h5
    try rw[h4,h5]
    try simp only
    split at e
    ·rename_i hc
     rw[ae hc]
     split at e
     ·rename_i ht
      rw[h.target ht];(try simp only)
      split at e
      ·rename_i hs;rw[h.srcElems hs];exact e
      ·cases e
     ·cases e
    ·cases e
   ·cases e
  ·cases e
 ·cases e
theorem Le.eBuildSlice (h:Le s s') {T:TypeId}{len:Nat}{ps:Array (Nat×Operand)}{n:Nat}{sh:Bool}{r:Res}(e:Ab.eBuildSlice P s T len ps n sh=some r):Ab.eBuildSlice P s' T len ps n sh=some r:=by
 unfold Ab.eBuildSlice at e|-
 split at e
 ·rename_i h1 h2
  rw[h1,h.partCells h2];(try simp only)
  split at e
  ·rename_i h3
   try rw[h3]
   try simp only
   split at e
   ·rename_i hc
    rw[ae hc]
    split at e
    ·rename_i ha;rw[h.absorbZ ha];exact e
    ·cases e
   ·cases e
  ·cases e
 ·cases e
theorem Le.eMake (h:Le s s') {T:TypeId}{lo co:Operand}{n:Nat}{r:Res×List Item}(e:Ab.eMake P s T lo co n=some r):Ab.eMake P s' T lo co n=some r:=by
 unfold Ab.eMake at e
 cases e
theorem Le.eStoreArr (h:Le s s') {T:TypeId}{ad x:Operand}{q:List Orc}{r:Res×List Item×List Orc}(e:Ab.eStoreArr P s T ad x q=some r):Ab.eStoreArr P s' T ad x q=some r:=by
 unfold Ab.eStoreArr at e|-
 split at e
 ·rename_i h1 h2
  rw[h.ac h1,h.ev h2];(try simp only)
  split at e
  ·rename_i own sz es l n e0 es9 q' h3 h4 h5 h6
   rw[h.arr h3,h4,h5,h6];(try simp only)
   cases own with
   | true=>
    (try simp only at e|-)
    split at e
    ·rename_i ha;rw[h.absorbOwn ha];exact e
    ·cases e
   | false=>exact e
  ·cases e
 ·cases e
theorem Le.eStoreSub (h:Le s s') {T:TypeId}{ad x:Operand}{n:Nat}{q:List Orc}{r:Res×List Item×List Orc}(e:Ab.eStoreSub P s T ad x n q=some r) :
  Ab.eStoreBox P s' T ad x=none/\Ab.eStoreArr P s' T ad x q=none/\Ab.eStoreSub P s' T ad x n q=some r:=by
 unfold Ab.eStoreSub at e
 split at e
 ·rename_i h1 h2
  split at e
  ·rename_i h3
   split at e
   ·rename_i h4 h5 h6 h7
    refine⟨?_,?_,?_⟩
    ·unfold Ab.eStoreBox
     rw[h.ac h1]
    ·unfold Ab.eStoreArr
     rw[h.ac h1,h.ev h2]
     (try simp only)
     rw[h.arr h4,h6]
     simp only[Y131,Yrp]
    ·unfold Ab.eStoreSub
     rw[h.ac h1,h.ev h2]
     (try simp only)
     rw[h3]
     (try simp only)
     rw[h.arr h4,h.arr h5,h6,h7]
     exact e
   ·cases e
  ·cases e
 ·cases e
theorem Le.eAppendSub (h:Le s s') {args:Array Operand}{tys:Array TypeId}{n:Nat}{q:List Orc}{r:Res×List Item×List Orc}(e:Ab.eAppendSub P s args tys n q=some r) :
  Ab.eAppend P s' args tys n q=none/\Ab.eAppendSub P s' args tys n q=some r:=by
 unfold Ab.eAppendSub at e
 split at e
 ·rename_i h1 h2
  split at e
  ·rename_i h3
   split at e
   ·rename_i h4
    split at e
    ·rename_i h5 h6
     split at e
     ·rename_i h7 h8 h9
      refine⟨?_,?_⟩
      ·unfold Ab.eAppend
       rw[h1,h2]
       (try simp only)
       rw[h5,h.ac h3,h.ac h6]
       (try simp only)
       rw[h7,h8]
       simp only[Ab.target]
       split<;>rfl
      ·unfold Ab.eAppendSub
       rw[h1,h2]
       (try simp only)
       rw[h.ac h3]
       (try simp only)
       rw[h.arr h4,h5,h.ac h6]
       (try simp only)
       rw[h7,h8,h.srcElems h9]
       exact e
     ·cases e
    ·cases e
   ·cases e
  ·cases e
 ·cases e
theorem Le.lendAC (h:Le s s') {c:AC}{r:Cell×List Nat}(e:Ab.lendAC s c=some r):Ab.lendAC s' c=some r:=by
 unfold Ab.lendAC at e|-
 split at e
 ·exact e
 ·exact e
 ·(try simp only)
  split at e
  ·rename_i hc;rw[ae (h.live hc)];exact e
  ·cases e
 ·(try simp only)
  split at e
  ·rename_i ho;rw[h.arr ho];exact e
  ·cases e
 ·cases e
theorem Le.lendACs (h:Le s s'):∀ {l:List AC}{r:List AC×List Nat},Ab.lendACs s l=some r->Ab.lendACs s' l=some r
 | [],r,e=>e
 | c :: l,r,e=>by
  simp only[Ab.lendACs]at e|-
  split at e
  ·rename_i h1 h2;rw[h.lendAC h1,h.lendACs h2];exact e
  ·cases e
theorem Le.passOne (h:Le s s') {c:AC}{r:Nat×Ob×(Nat->AC)}(e:Ab.passOne s c=some r):Ab.passOne s' c=some r:=by
 unfold Ab.passOne at e|-
 split at e
 ·(try simp only)
  split at e
  ·rename_i ho;rw[h.arr ho];exact e
  ·cases e
 ·(try simp only)
  split at e
  ·rename_i ho;rw[h.map ho];exact e
  ·cases e
 ·(try simp only)
  split at e
  ·rename_i ho;rw[h.box ho];exact e
  ·cases e
 ·cases e
theorem Le.passCells (h:Le s s'):∀ {l:List AC}{emb:List (Option Nat)}{r:List (Option Nat)×List Ob×List AC×List Nat},Ab.passCells s emb l=some r->Ab.passCells s' emb l=some r
 | [],emb,r,e=>e
 | c :: l,emb,r,e=>by
  simp only[Ab.passCells]at e|-
  split at e
  ·rename_i hone
   rw[h.passOne hone];(try simp only)
   split at e
   ·cases e
   ·rename_i hc
    rw[ab hc]
    split at e
    ·rename_i hp;rw[h.passCells hp];exact e
    ·cases e
  ·split at e
   ·(try simp only[Ab.passOne])
    split at e
    ·rename_i hp;rw[h.passCells hp];exact e
    ·cases e
   ·(try simp only[Ab.passOne])
    split at e
    ·rename_i hc
     rw[ae (h.live hc)]
     split at e
     ·rename_i hp;rw[h.passCells hp];exact e
     ·cases e
    ·cases e
   ·(try simp only[Ab.passOne])
    split at e
    ·rename_i hp;rw[h.passCells hp];exact e
    ·cases e
   ·cases e
theorem Le.passAgg (h:Le s s'):∀ {ms:List (Option (Bool×Nat))}{l:List AC}{emb:List (Option Nat)}{r:List (Option Nat)×List Ob×List AC×List Nat},Ab.passAgg s emb ms l=some r->Ab.passAgg s' emb ms l=some r
 | [],[],emb,r,e=>e
 | [],_ :: _,emb,r,e=>by simp[Ab.passAgg]at e
 | _ :: _,[],emb,r,e=>by simp[Ab.passAgg]at e
 | m :: ms,c :: l,emb,r,e=>by
  simp only[Ab.passAgg]at e|-
  split at e
  ·(try simp only)
   split at e
   ·rename_i hl
    rw[h.lendAC hl];(try simp only)
    split at e
    ·rename_i hp;rw[h.passAgg hp];exact e
    ·cases e
   ·cases e
  ·(try simp only)
   split at e
   ·(try simp only)
    split at e
    ·rename_i ho
     rw[h.arr ho];(try simp only)
     split at e
     ·rename_i hc
      rw[ae hc]
      split at e
      ·rename_i hp;rw[h.passAgg hp];exact e
      ·cases e
     ·cases e
    ·cases e
   ·(try simp only)
    split at e
    ·rename_i hp;rw[h.passAgg hp];exact e
    ·cases e
   ·cases e
theorem Le.add (h:Le s s') {p:Pass}{m:Mode}{x:SV}{r:Pass}(e:p.add s m x=some r):p.add s' m x=some r:=by
 unfold Pass.add at e|-
 split at e
 ·split at e
  ·(try simp only)
   split at e
   ·rename_i hl;rw[h.lendACs hl];exact e
   ·cases e
  ·(try simp only)
   split at e
   ·rename_i hl;rw[h.lendACs hl];exact e
   ·cases e
 ·split at e
  ·(try simp only)
   split at e
   ·rename_i ho;rw[h.arr ho];exact e
   ·cases e
  ·exact e
  ·cases e
 ·split at e
  ·(try simp only)
   split at e
   ·rename_i ho
    rw[h.box ho];(try simp only)
    split at e
    ·cases e
    ·rename_i hc
     rw[ab hc]
     split at e
     ·rename_i hp;rw[h.passCells hp];exact e
     ·cases e
   ·cases e
  ·cases e
 ·split at e
  ·(try simp only)
   split at e
   ·rename_i ho;rw[h.map ho];exact e
   ·cases e
  ·cases e
 ·split at e
  ·(try simp only)
   split at e
   ·rename_i hp;rw[h.passAgg hp];exact e
   ·cases e
  ·cases e
theorem Le.passAll (h:Le s s'):∀ {ms:List Mode}{xs:List AV}{p r:Pass},Ab.passAll s p ms xs=some r->Ab.passAll s' p ms xs=some r
 | [],[],p,r,e=>e
 | m :: ms,.sv x :: xs,p,r,e=>by
  simp only[Ab.passAll]at e|-
  split at e
  ·rename_i hp;rw[h.add hp];exact h.passAll e
  ·cases e
 | [],_ :: _,p,r,e=>by cases e
 | _ :: _,[],p,r,e=>by cases e
 | _ :: _,.tup _ :: _,p,r,e=>by cases e
theorem Le.evAll (h:Le s s'):∀ {l:List Operand}{r:List AV},Ab.evAll s l=some r->Ab.evAll s' l=some r
 | [],r,e=>e
 | x :: l,r,e=>by
  simp only[Ab.evAll]at e|-
  split at e
  ·rename_i h1 h2;rw[h.ev h1,h.evAll h2];exact e
  ·cases e
theorem Le.calleeOf (h:Le s s') {x:Operand}{f:FuncId}(e:Ab.calleeOf s x=some f):Ab.calleeOf s' x=some f:=by
 unfold Ab.calleeOf at e|-
 split at e
 ·rename_i hl;rw[h.lit hl];exact e
 ·cases e
theorem Le.cloOf (h:Le s s') {x:Operand}{f:FuncId}{v:Value}(e:Ab.cloOf s x=some (f,v)):Ab.cloOf s' x=some (f,v)/\Ab.calleeOf s' x=none:=by
 unfold Ab.cloOf at e
 split at e
 ·rename_i f' v' hc
  have hc':=h.ac hc
  refine⟨by unfold Ab.cloOf;rw[hc'];exact e,?_⟩
  unfold Ab.calleeOf
  have hl:s'.lit x=none:=by unfold St.lit;rw[hc']
  rw[hl]
 ·cases e
theorem Le.eCall (h:Le s s') {f:FuncId}{args:Array Operand}{ex:List AV}{n:Nat}{q:List Orc}{r:Res×List Item×List Orc}(e:Ab.eCall P s f args ex n q=some r):Ab.eCall P s' f args ex n q=some r:=by
 unfold Ab.eCall at e|-
 split at e
 ·(try simp only)
  split at e
  ·rename_i hav
   rw[h.evAll hav];(try simp only)
   split at e
   ·rename_i hp;rw[h.passAll hp];exact e
   ·cases e
  ·cases e
 ·cases e
theorem Yr3 {α β:Type}{x y:Option α}{f:α->β}{r:β}(hxy:∀ a,x=some a->y=some a) (e:x.map f=some r):y.map f=some r:=by
 obtain⟨a,ha,rfl⟩:=Option.map_eq_some_iff.1 e
 rw[hxy a ha];rfl
theorem Le.keyV (h:Le s s') {x:Operand}{v:Value}(e:s.keyV x=some v):s'.keyV x=some v:=by
 unfold St.keyV at e|-
 split at e
 ·rename_i u hev
  rw[h.ev hev];exact e
 ·rename_i l hev
  rw[h.ev hev];exact e
 ·cases e
theorem Le.eLookup (h:Le s s') {T:TypeId}{m x:Operand}{ok:Bool}{n:Nat}{q:List Orc}{r:Res×List Item×List Orc}(e:Ab.eLookup P s T m x ok n q=some r):Ab.eLookup P s' T m x ok n q=some r:=by
 unfold Ab.eLookup at e|-
 split at e
 ·rename_i id hm
  rw[h.ac hm]
  (try simp only)
  split at e
  ·rename_i hob hkey hT
   rw[h.map hob,h.keyV hkey,hT]
   exact e
  ·cases e
 ·cases e
theorem Le.eMapUpdate (h:Le s s') {T:TypeId}{m x y:Operand}{q:List Orc}{r:Res×List Item×List Orc}(e:Ab.eMapUpdate P s T m x y q=some r):Ab.eMapUpdate P s' T m x y q=some r:=by
 unfold Ab.eMapUpdate at e|-
 split at e
 ·rename_i id f' q1 hm
  rw[h.ac hm]
  (try simp only)
  split at e
  ·rename_i hob hkey hT hy
   rw[h.map hob,h.keyV hkey,hT,h.ac hy]
   (try simp only)
   split at e
   ·rename_i hc
    rw[ae hc]
    split at e
    ·rename_i hab;rw[h.absorbOwn hab];exact e
    ·cases e
   ·cases e
  ·cases e
 ·cases e
theorem Le.eMapDelete (h:Le s s') {args:Array Operand}{tys:Array TypeId}{q:List Orc}{r:Res×List Item×List Orc}(e:Ab.eMapDelete P s args tys q=some r):Ab.eMapDelete P s' args tys q=some r:=by
 unfold Ab.eMapDelete at e
 cases e
theorem Le.eSliceNil (h:Le s s') {op:BinOp}{T:TypeId}{x y:Operand}{r:Res×List Item}(e:Ab.eSliceNil P s op T x y=some r):Ab.eSliceNil P s' op T x y=some r/\(∀ (z:TypeId) (o:Oper) (q:List Orc),o.op=.binOp op T x y z->Ab.vop P s' o q=none)/\Ab.eMapNil P s' op T x y=none:=by
 unfold Ab.eSliceNil at e|-
 split at e
 ·rename_i el hT
  have hm:Ab.eMapNil P s' op T x y=none:=by unfold Ab.eMapNil;rw[hT]
  have hv:∀ (c:AC),s'.ac x=some c->s'.lit y=some (.slice none 0 0)->(∀ v,c=.val (.lit v)->v=.slice none 0 0)->∀ (z:TypeId) (o:Oper) (q:List Orc),o.op=.binOp op T x y z->Ab.vop P s' o q=none:=by
   intro c hc hu hcv z o q ho
   unfold Ab.vop
   simp only[ho]
   have:s'.lit x=none\/s'.lit x=some (.slice none 0 0):=by
    unfold St.lit
    rw[hc]
    cases c with
    | val c=>cases c with
     | lit v=>right;rw[hcv v rfl]
     | _=>left;rfl
    | _=>left;rfl
   rcases this with h1|h1
   ·rw[h1]
   ·rw[h1,hu];rfl
  (try simp only)
  split at e
  ·rename_i hy
   rw[h.lit hy]
   (try simp only)
   split at e
   ·rename_i hx
    rw[h.ac hx]
    exact⟨e,hv _ (h.ac hx) (h.lit hy) sW,hm⟩
   ·rename_i es hx
    rw[h.ac hx]
    exact⟨e,hv _ (h.ac hx) (h.lit hy) sW,hm⟩
   ·cases e
  ·cases e
 ·cases e
theorem Le.eMapNil (h:Le s s') {op:BinOp}{T:TypeId}{x y:Operand}{r:Res}(e:Ab.eMapNil P s op T x y=some r):Ab.eMapNil P s' op T x y=some r/\∀ (z:TypeId) (o:Oper) (q:List Orc),o.op=.binOp op T x y z->Ab.vop P s' o q=none:=by
 have hv:∀ (c:AC) (u:Value),s'.ac x=some c->s'.lit y=some u->u=.map none->(∀ v,c=.val (.lit v)->v=.map none)->∀ (z:TypeId) (o:Oper) (q:List Orc),o.op=.binOp op T x y z->Ab.vop P s' o q=none:=by
  intro c u hc hu he hcv z o q ho
  subst he
  unfold Ab.vop
  simp only[ho]
  have:s'.lit x=none\/s'.lit x=some (.map none):=by
   unfold St.lit
   rw[hc]
   cases c with
   | val c=>cases c with
    | lit v=>right;rw[hcv v rfl]
    | _=>left;rfl
   | _=>left;rfl
  rcases this with h1|h1
  ·rw[h1]
  ·rw[h1,hu];rfl
 unfold Ab.eMapNil at e|-
 split at e
 ·(try simp only)
  split at e
  ·rename_i hx hy
   refine⟨?_,hv _ _ (h.ac hx) (h.lit hy) rfl sW⟩
   rw[h.ac hx,h.lit hy]
   (try simp only)
   split at e
   ·rename_i hob
    rw[h.map hob];exact e
   ·cases e
  ·rename_i hx hy
   refine⟨?_,hv _ _ (h.ac hx) (h.lit hy) rfl sW⟩
   rw[h.ac hx,h.lit hy]
   exact e
  ·cases e
 ·cases e
theorem Le.eMark (h:Le s s') {x:Operand}{r:Res}(e:Ab.eMark s x=some r):Ab.eMark s' x=some r:=by
 unfold Ab.eMark at e
 cases e
theorem Le.eLoadPull (h:Le s s') {T:TypeId}{x:Operand}{n:Nat}{q:List Orc}{r:Res×List Item×List Orc}(e:Ab.eLoadPull P s T x n q=some r):Ab.eLoadPull P s' T x n q=some r:=by
 unfold Ab.eLoadPull at e|-
 split at e
 ·rename_i h1 h2 h3
  rw[h.ac h1,h2,h3]
  (try simp only)
  split at e
  ·rename_i h4
   rw[h.arr h4]
   exact e
  ·cases e
 ·cases e
theorem Y1i4 {j i off n:Nat}{e:List Cell}{zs:List Nat}{q':List Orc}{r:List AC×List Item×List Orc}(hr:Ab.readAt s (.eptr j i off) n (.pulls e zs :: q')=some r):False:=by
 unfold Ab.readAt at hr
 simp only at hr
 split at hr<;>cases hr
theorem Le.noPull (h:Le s s') {o:Oper}{T:TypeId}{x:Operand}(ho:o.op=.load T x) {n:Nat}{q:List Orc}{r:AV×List Item×List Orc}(e:Ab.vop P s o q=some r):Ab.eLoadPull P s' T x n q=none:=by
 unfold Ab.eLoadPull
 simp only[Ab.vop,ho]at e
 split at e
 ·rename_i c n1 ag h1 h2 h3
  rw[h.ac h1,h2,h3]
  split at e
  ·rename_i hr
   cases c with
   | eptr j i off=>
    cases ag with
    | false=>rfl
    | true=>
     simp only
     split
     ·split
      ·exact(Y1i4 hr).elim
      ·rfl
     ·rfl
   | _=>cases ag<;>rfl
  ·cases e
 ·cases e
theorem Le.aop (h:Le s s') {o:Oper}{n:Nat}{q:List Orc}{r:Res×List Item×List Orc}(e:Ab.aop P s o n q=some r):Ab.aop P s' o n q=some r:=by
 unfold Ab.aop at e|-
 split at e
 ·exact e
 ·exact Yr3 (λ_ ha=>h.eBox ha) e
 ·exact Yr3 (λ_ ha=>h.eBuild ha) e
 ·split at e
  ·split at e
   ·exact Yr3 (λ_ ha=>h.eBuildSlice ha) e
   ·cases e
  ·exact Yr3 (λ_ ha=>h.eBuildSlice ha) e
 ·exact Yr3 (λ_ ha=>h.eMake ha) e
 ·rename_i T ad x ho
  (try simp only)
  split at e
  ·rename_i hs;rw[h.eStoreBox hs];exact e
  ·split at e
   ·rename_i r1 hr
    have hs':Ab.eStoreBox P s' T ad x=none:=by
     unfold Ab.eStoreArr at hr
     split at hr
     ·rename_i h1 h2
      unfold Ab.eStoreBox
      rw[h.ac h1]
     ·cases hr
    rw[hs',h.eStoreArr hr]
    exact e
   ·obtain⟨h1,h2,h3⟩:=h.eStoreSub e
    rw[h1,h2]
    exact h3
 ·(try simp only)
  split at e
  ·rename_i r1 hr
   rw[h.eAppend hr];exact e
  ·obtain⟨h1,h2⟩:=h.eAppendSub e
   rw[h1];exact h2
 ·rename_i x args tys ho
  split at e
  ·rename_i f hf
   simp only[h.calleeOf hf];exact h.eCall e
  ·split at e
   ·rename_i f v hf
    simp only[(h.cloOf hf).2,(h.cloOf hf).1];exact h.eCall e
   ·cases e
 ·exact h.eMapDelete e
 ·exact h.eLookup e
 ·exact e
 ·exact h.eMapUpdate e
 ·exact h.eMapUpdate e
 ·rename_i op T x y z ho
  (try simp only)
  split at e
  ·rename_i hr;rw[h.vop hr];exact e
  ·cases hr:Ab.eMapNil P s op T x y with
   | none=>
    rw[hr]at e
    cases hr2:Ab.eSliceNil P s op T x y with
    | none=>simp[hr2]at e
    | some r'=>
     obtain⟨h1,h2,h3⟩:=h.eSliceNil hr2
     rw[hr2]at e
     rw[h2 z o q ho,h3,h1];exact e
   | some r'=>
    obtain⟨h1,h2⟩:=h.eMapNil hr
    rw[hr]at e
    rw[h2 z o q ho,h1];exact e
 ·(try simp only)
  split at e
  ·exact Yr3 (λ_ ha=>h.eMark ha) e
  ·exact Yr3 (λ_ ha=>h.vop ha) e
 ·rename_i T x ho
  (try simp only)
  split at e
  ·rename_i r1 hr
   rw[h.eLoadPull hr];exact e
  ·rename_i hr
   cases hv:Ab.vop P s o q with
   | none=>simp[hv]at e
   | some r'=>
    rw[h.noPull ho hv,h.vop hv]
    rw[hv]at e;exact e
 ·exact Yr3 (λ_ ha=>h.vop ha) e
theorem Le.bit (h:Le s s') {t:Nat}{x:Option Bool}(e:s.bit t=some x):s'.bit t=some x:=by
 unfold St.bit at e|-
 rcases h.reg t with h1|h1
 ·rw[h1]at e;simp at e
 ·rw[h1];exact e
theorem Le.wanted (h:Le s s') {ops:Array Oper}{o:Oper}{b:Bool}(e:Ysj ops s o=some b):Ysj ops s' o=some b:=by
 unfold Ysj at e|-
 split at e
 ·exact e
 ·(try simp only)
  split at e
  ·(try simp only)
   split at e
   ·rename_i hb;rw[h.bit hb];exact e
   ·rename_i hb;rw[h.bit hb];exact e
   ·cases e
  ·cases e
end
structure Eff where
 i:Nat
 dst:Option Nat
 val:AV
 n:Nat
 k:Nat
 r:Res
 it:List Item
def St.eff (s:St) (d:Eff):St:=(s.app d.n d.r).put d.dst d.val
def Y1ck:Nat->List Ob->List (Nat×Ob)
 | _,[]=>[]
 | n,o :: l=>(n,o) :: Y1ck (n+1) l
def Eff.obs (d:Eff):List (Nat×Ob):=d.r.upd++Y1ck d.n d.r.new
def AC.touch (ids:List Nat) (c:AC):Bool:=match c.src with|some id=>ids.elem id|none=>false
def AV.touch (ids:List Nat) (x:AV):Bool:=match ids with | []=>false|_=>x.acs.any (AC.touch ids)
def Ob.touch (ids:List Nat) (o:Ob):Bool:=match ids with | []=>false|_=>o.acs.any (AC.touch ids)
def Eff.apart (d e:Eff):Bool:=
 (match d.dst,e.dst with|some x,some y => !(Nat.beq x y)|_,_=>true) &&
 !(d.val.touch e.r.inv) && !(e.val.touch d.r.inv) &&
 d.obs.all (λp => !(p.2.touch e.r.inv)&&e.obs.all λp' => !(Nat.beq p.1 p'.1)) &&
 e.obs.all (λp => !(p.2.touch d.r.inv))
theorem Y1bt:∀ (l:List Ob) (n:Nat) (s:St),s.setObs n l=s.updObs (Y1ck n l)
 | [],_,_=>rfl
 | o :: l,n,s=>by rw[St.setObs,Y1ck,St.updObs];exact Y1bt l (n+1) _
theorem Yu4 (s:St) (d:Eff):s.eff d=((s.inval d.r.inv).updObs d.obs).put d.dst d.val:=by
 rw[St.eff,St.app,Y1bt,Eff.obs,Ysx]
theorem Y12k (c:AC):Ynm [] c=c:=by unfold Ynm;split<;>rfl
theorem Y1av (x:SV):Yo0 [] x=x:=by
 cases x with
 | one c=>simp[Yo0,Y12k]
 | agg cs=>simp only[Yo0];congr 1;exact(ba λc _=>Y12k c).trans (cU cs)
theorem Y123 (x:AV):Yn0 [] x=x:=by
 cases x with
 | sv x=>simp[Yn0,Y1av]
 | tup l=>simp only[Yn0];congr 1;exact(ba λc _=>Y1av c).trans (cU l)
theorem Y11p (o:Ob):Ym5 [] o=o:=by
 cases o with
 | box cs=>simp only[Ym5];congr 1;exact(ba λc _=>Y12k c).trans (cU cs)
 | _=>rfl
theorem Yoo (ids:List Nat) (s:St):s.inval ids={ s with regs:=s.regs.map (Yn0 ids),objs:=s.objs.map (Ym5 ids) }:=by
 cases ids with
 | nil=>
  show s=_
  have h1:s.regs.map (Yn0 [])=s.regs:=(ba λc _=>Y123 c).trans (cU _)
  have h2:s.objs.map (Ym5 [])=s.objs:=(ba λc _=>Y11p c).trans (cU _)
  rw[h1,h2]
 | cons=>rfl
theorem Y1dc (ids:List Nat) (c:AC):Ynm ids c=if c.touch ids then .top else c:=by
 unfold Ynm AC.touch
 cases c.src with
 | none=>simp
 | some id=>rfl
theorem Y10k (a b:List Nat) (c:AC):Ynm a (Ynm b c)=Ynm b (Ynm a c):=by
 have ht:∀ l,AC.top.touch l=false:=λ_=>rfl
 by_cases ha:c.touch a<;>by_cases hb:c.touch b<;>simp[Y1dc,ha,hb,ht]
theorem Y18a (a b:List Nat) (x:SV):Yo0 a (Yo0 b x)=Yo0 b (Yo0 a x):=by
 cases x with
 | one c=>simp[Yo0,Y10k a b]
 | agg cs=>simp only[Yo0,cr];congr 1;exact ba λc _=>Y10k a b c
theorem Y18r (a b:List Nat) (x:AV):Yn0 a (Yn0 b x)=Yn0 b (Yn0 a x):=by
 cases x with
 | sv x=>simp[Yn0,Y18a a b]
 | tup l=>simp only[Yn0,cr];congr 1;exact ba λc _=>Y18a a b c
theorem Y16z (a b:List Nat) (x:Ob):Ym5 a (Ym5 b x)=Ym5 b (Ym5 a x):=by
 cases x with
 | box cs=>simp only[Ym5,cr];congr 1;exact ba λc _=>Y10k a b c
 | _=>rfl
theorem Y110 {ids:List Nat}{c:AC}(h:c.touch ids=false):Ynm ids c=c:=by
 unfold AC.touch at h;unfold Ynm
 cases e:c.src with
 | none=>rfl
 | some id=>rw[e]at h;simp only at h|-;rw[ab (by rw[h];simp)]
theorem Y17c {ids:List Nat}{x:SV}(h:x.acs.any (AC.touch ids)=false):Yo0 ids x=x:=by
 cases x with
 | one c=>simp only[SV.acs,List.any_cons,List.any_nil,Bool.or_false]at h;simp[Yo0,Y110 h]
 | agg cs=>
  simp only[SV.acs]at h;simp only[Yo0];congr 1
  exact(ba λc hc=>Y110 (by simpa using (List.any_eq_false.1 h) c hc)).trans (cU cs)
theorem Y105 {ids:List Nat}{x:AV}(h:x.touch ids=false):Yn0 ids x=x:=by
 cases ids with
 | nil=>exact Y123 x
 | cons i ids=>
  simp only[AV.touch]at h
  cases x with
  | sv x=>simp only[AV.acs]at h;simp[Yn0,Y17c h]
  | tup l=>
   simp only[AV.acs]at h;simp only[Yn0];congr 1
   refine(ba λc hc=>Y17c ?_).trans (cU l)
   rw[bV]at h|-
   exact λa ha=>h a (List.mem_flatMap.2 ⟨c,hc,ha⟩)
theorem Y10d {ids:List Nat}{x:Ob}(h:x.touch ids=false):Ym5 ids x=x:=by
 cases ids with
 | nil=>exact Y11p x
 | cons i ids=>
  simp only[Ob.touch]at h
  cases x with
  | box cs=>
   simp only[Ob.acs]at h;simp only[Ym5];congr 1
   exact(ba λc hc=>Y110 (by simpa using (List.any_eq_false.1 h) c hc)).trans (cU cs)
  | _=>rfl
theorem Y1n9 (a b:List Nat) (s:St):(s.inval a).inval b=(s.inval b).inval a:=by
 rw[Yoo,Yoo,Yoo,Yoo]
 simp only[cr]
 congr 1
 ·exact ba λc _=>Y18r b a c
 ·exact ba λc _=>Y16z b a c
theorem Y1b9 (ids:List Nat) (s:St) (dst:Option Nat) (v:AV) (h:v.touch ids=false):(s.put dst v).inval ids=(s.inval ids).put dst v:=by
 rw[Yoo,Yoo]
 cases dst with
 | none=>rfl
 | some d=>simp only[St.put,List.map_set,Y105 h]
theorem Y1hm (ids:List Nat) (s:St) (n:Nat) (o:Ob) (h:o.touch ids=false):(s.setOb n o).inval ids=(s.inval ids).setOb n o:=by
 rw[Yoo,Yoo]
 simp only[St.setOb,List.map_set,Y10d h]
theorem Yxe (ids:List Nat):∀ (l:List (Nat×Ob)) (s:St),(∀ p∈l,p.2.touch ids=false)->(s.updObs l).inval ids=(s.inval ids).updObs l
 | [],s,_=>rfl
 | (n,o) :: l,s,h=>by
  rw[St.updObs,St.updObs,Yxe ids l _ λp hp=>h p (ai _ hp),Y1hm ids s n o (h (n,o) aj)]
theorem Y10j:∀ (l:List (Nat×Ob)) (s:St) (dst:Option Nat) (v:AV),(s.put dst v).updObs l=(s.updObs l).put dst v
 | [],s,dst,v=>rfl
 | (n,o) :: l,s,dst,v=>by
  rw[St.updObs,St.updObs,<- Y10j l]
  cases dst<;>rfl
theorem Y1mg (s:St) {i j:Nat}(h:i≠j) (o o':Ob):(s.setOb i o).setOb j o'=(s.setOb j o').setOb i o:=by
 simp only[St.setOb,List.set_comm _ _ h]
theorem Y12y:∀ (l:List (Nat×Ob)) (s:St) (i:Nat) (o:Ob),(∀ p∈l,p.1≠i)->(s.setOb i o).updObs l=(s.updObs l).setOb i o
 | [],s,i,o,_=>rfl
 | (n,x) :: l,s,i,o,h=>by
  rw[St.updObs,St.updObs,Y1mg s (cv (h (n,x) aj)),Y12y l _ i o λp hp=>h p (ai _ hp)]
theorem Y14k:∀ (l m:List (Nat×Ob)) (s:St),(∀ p∈l,∀ p'∈m,p.1≠p'.1)->(s.updObs l).updObs m=(s.updObs m).updObs l
 | [],m,s,_=>rfl
 | (n,o) :: l,m,s,h=>by
  rw[St.updObs,St.updObs,Y14k l m _ λp hp=>h p (ai _ hp),Y12y m s n o λp hp=>cv (h (n,o) aj p hp)]
theorem Y1ok (s:St) {x y:Option Nat}(v u:AV) (h:(match x,y with|some x,some y => !(Nat.beq x y)|_,_=>true)=true):(s.put x v).put y u=(s.put y u).put x v:=by
 cases x with
 | none=>rfl
 | some x=>
  cases y with
  | none=>rfl
  | some y=>
   have hne:x≠y:=by
    rintro rfl
    simp at h
   simp only[St.put,List.set_comm _ _ hne]
theorem Y1td (s:St) {d e:Eff}(h:d.apart e):(s.eff d).eff e=(s.eff e).eff d:=by
 simp only[Eff.apart,af,aL,am]at h
 obtain⟨⟨⟨⟨h1,h2⟩,h3⟩,h4⟩,h5⟩:=h
 have hne:∀ p∈d.obs,∀ p'∈e.obs,p.1≠p'.1:=λp hp p' hp'=>ct ((h4 p hp).2 p' hp')
 rw[Yu4,Yu4,Yu4,Yu4]
 rw[Y1b9 _ _ _ _ h2,Y1b9 _ _ _ _ h3,Yxe _ _ _ λp hp=>(h4 p hp).1,Yxe _ _ _ λp hp=>h5 p hp]
 rw[Y10j,Y10j,Y14k _ _ _ hne,Y1ok _ _ _ h1,Y1n9]
def Ylz (ops:Array Oper) (i:Nat):List Nat:=match ops[i]? with
 | some o=>(o.after.toList.filter λe=>Region.binds .any e).map (·.on)
 | none=>[]
def Yvo (ms:List Nat):List Nat->Nat
 | []=>0
 | p :: ps=>(Yvo ms ps ||| 1 <<< p) ||| ms.getD p 0
def Yry (ops:Array Oper):Nat->List Nat
 | 0=>[]
 | n+1=>match Yry ops n with|ms=>ms++[Yvo ms (Ylz ops n)]
theorem Y17v {ms:List Nat}:∀ {ps:List Nat}{x:Nat},(Yvo ms ps).testBit x->∃ p∈ps,x=p\/(ms.getD p 0).testBit x
 | [],x,h=>by simp[Yvo]at h
 | p :: ps,x,h=>by
  simp only[Yvo,Nat.testBit_or,aF,Nat.one_shiftLeft,Nat.testBit_two_pow,ak]at h
  rcases h with (h|h)|h
  ·obtain⟨p',h1,h2⟩:=Y17v h
   exact⟨p',ai _ h1,h2⟩
  ·exact⟨p,aj,.inl h.symm⟩
  ·exact⟨p,aj,.inr h⟩
theorem Yx6 (ops:Array Oper):∀ n,(Yry ops n).length=n
 | 0=>rfl
 | n+1=>by simp[Yry,Yx6 ops n]
def mk (ops:Array Oper) (i:Nat):Nat:=Yvo (Yry ops i) (Ylz ops i)
theorem Yte (ops:Array Oper):∀ (n i:Nat),i<n->(Yry ops n).getD i 0=mk ops i
 | 0,i,h=>by omega
 | n+1,i,h=>by
  have hl:=Yx6 ops n
  simp only[Yry,ao,bY,hl]
  by_cases hi:i<n
  ·rw[ae hi]
   have:=Yte ops n i hi
   simpa[ao] using this
  ·have:i=n:=by omega
   subst this
   rw[ab hi];simp[mk]
theorem Y1g2 {ops:Array Oper}{i x:Nat}(h:(mk ops i).testBit x):∃ p∈Ylz ops i,x=p\/(p<i/\(mk ops p).testBit x):=by
 obtain⟨p,h1,h2⟩:=Y17v h
 refine⟨p,h1,h2.imp id λh2 => ?_⟩
 by_cases hp:p<i
 ·exact⟨hp,by rwa [Yte ops i p hp]at h2⟩
 ·rw[ao,bf (by rw[Yx6];omega)]at h2
  simp at h2
theorem Y1cd {ops:Array Oper}(hp:∀ i,∀ p∈Ylz ops i,p<i):∀ (n i x:Nat),i<n->(mk ops i).testBit x->x<i
 | 0,i,x,hi,_=>by omega
 | n+1,i,x,hi,h=>by
  obtain⟨p,h1,h2⟩:=Y1g2 h
  have:=hp i p h1
  rcases h2 with rfl|⟨h2,h3⟩
  ·exact this
  ·have:=Y1cd hp n p x oW h3
   omega
theorem Yy2 {ops:Array Oper}{L:Nat->Prop}(hL:∀ j,L j->∀ p∈Ylz ops j,L p):∀ (n i x:Nat),i<n->(∀ p∈Ylz ops i,L p)->(mk ops i).testBit x->L x
 | 0,i,x,hi,_,_=>by omega
 | n+1,i,x,hi,hpre,h=>by
  obtain⟨p,h1,h2⟩:=Y1g2 h
  rcases h2 with rfl|⟨h2,h3⟩
  ·exact hpre _ h1
  ·exact Yy2 hL n p x oW (hL p (hpre p h1)) h3
def unk:AV:=.sv (.agg [])
def Yv5 (ids:List Nat):Nat->List Ob->List Ob
 | _,[]=>[]
 | n,o :: l=>(match ids.elem n||o.touch ids with|true=>.dead|false=>o) :: Yv5 ids (n+1) l
def Yz9 (ids:List Nat) (x:AV):AV:=match x.touch ids with|true=>unk|false=>x
def St.blot (s:St) (dst:Option Nat) (ids:List Nat):St:=match ids with
 | []=>s.put dst unk
 | _ :: _=>{ s with regs:=s.regs.map (Yz9 ids),objs:=Yv5 ids 0 s.objs }.put dst unk
def Yqe (s:St):List (Option Nat×List Nat)->St
 | []=>s
 | (d,ids) :: l=>Yqe (s.blot d ids) l
def Yx2 (ms:List Nat) (i j:Nat):Bool := !(Nat.beq i j) && !((ms.getD i 0).testBit j) && !((ms.getD j 0).testBit i)
def Yr9 (ms:List Nat) (bls:List (Option Nat×List Nat)) (i:Nat):List Nat->List (Option Nat×List Nat)
 | []=>[]
 | j :: l=>match Yx2 ms i j with
  | true=>bls.getD j (none,[]) :: Yr9 ms bls i l
  | false=>Yr9 ms bls i l
def Ymn (f:Nat->Bool) (s:St):List Eff->St
 | []=>s
 | d :: l=>match f d.i with
  | true=>Ymn f (s.eff d) l
  | false=>Ymn f s l
def mkS (n:Nat) (ms:List Nat) (bls:List (Option Nat×List Nat)) (s0:St) (ds:List Eff) (i:Nat):St:=
 Yqe (Ymn (λj=>(ms.getD i 0).testBit j) s0 ds) (Yr9 ms bls i (List.range n))
def Y165:List Item->Prop->Prop
 | [],K=>K
 | .asm _ :: r,K=>Y165 r K
 | .obl p :: r,K=>p/\Y165 r K
def Y1fz:List Item->Prop->Prop
 | [],K=>K
 | .asm p :: r,K=>(p->Y1fz r K)
 | .obl _ :: r,K=>Y1fz r K
def Y18s (src:Bool) (v:AV) (q:List Orc) (k:AV->List Orc->Prop):Prop:=
 match src,v with
 | true,.sv (.one (.val (.lit (.bool b))))=>match q with
  | .bool d :: q=>b=d/\k (Yyt d) q
  | .br l r :: _=>(b->k (Yyt true) l)/\(b=false->k (Yyt false) r)
  | _=>StuckB b
 | _,v=>k v q
def Yy5 (f:Nat->Bool):St->List Eff->(St->Prop)->Prop
 | s,[],k=>k s
 | s,d :: l,k=>match f d.i with
  | true=>fSt (s.eff d) λs=>Yy5 f s l k
  | false=>Yy5 f s l k
theorem Yxa (f:Nat->Bool):∀ (l:List Eff) (s:St) (k:St->Prop),Yy5 f s l k=k (Ymn f s l)
 | [],s,k=>rfl
 | d :: l,s,k=>by
  rw[Yy5,Ymn]
  cases f d.i with
  | true=>show fSt (s.eff d) (λs=>Yy5 f s l k)=k (Ymn f (s.eff d) l);rw[Yx7,Yxa f l]
  | false=>exact Yxa f l s k
def Y1u7 (n:Nat) (ms:List Nat) (bls:List (Option Nat×List Nat)) (s0:St) (ds:List Eff) (i:Nat) (k:St->Prop):Prop:=
 Yy5 (λj=>(ms.getD i 0).testBit j) s0 ds λs=>fSt (Yqe s (Yr9 ms bls i (List.range n))) k
theorem Y1x7 (n:Nat) (ms:List Nat) (bls:List (Option Nat×List Nat)) (s0:St) (ds:List Eff) (i:Nat) (k:St->Prop):Y1u7 n ms bls s0 ds i k=k (mkS n ms bls s0 ds i):=by
 unfold Y1u7 mkS;rw[Yxa,Yx7]
def Y15c (P:Program) (ops:Array Oper) (ms:List Nat) (bls:List (Option Nat×List Nat)) (s0:St):List Nat->Nat->List Eff->List Item->List Orc->(List Eff->List Item->List Orc->Prop)->Prop
 | [],n,ds,its,q,k=>k ds its q
 | i :: rest,n,ds,its,q,k=>match ops[i]? with
  | none=>False
  | some o=>Y1u7 ops.size ms bls s0 ds i λs=>match Ysj ops s o with
   | none=>StuckGuard s o
   | some false=>Yqb (n+Ynx o) λn'=>Yoy fId (ds++[⟨i,o.dst,.tup [],n,Ynx o,{},[]⟩]) λds=>Y15c P ops ms bls s0 rest n' ds its q k
   | some true=>match aop P s o n q with
    | none=>StuckOp s o n
    | some (r,it,q')=>Y165 it (Y1tl r λr=>Y18s (Y1ve ops i) r.val q' λv q''=>Yqb (n+Ynx o) λn'=>Yoy fId (its++it) λits=>Yoy fId (ds++[⟨i,o.dst,v,n,Ynx o,r,it⟩]) λds=>Y15c P ops ms bls s0 rest n' ds its q'' k)
def Y13a (ops:Array Oper) (tids:List (Nat×List Nat)):List Nat->Nat->List (Option Nat×List Nat)
 | [],_=>[]
 | i :: l,n=>match ops[i]? with
  | some o=>(o.dst,(match tids.lookup i with|some t=>t|none=>[])++List.range' n (Ynx o)) :: Y13a ops tids l (n+Ynx o)
  | none=>(none,[]) :: Y13a ops tids l n
def Y108 (ops:Array Oper):List Nat->Nat
 | []=>0
 | i :: l=>(match ops[i]? with|some o=>Ynx o|none=>0)+Y108 ops l
def Y1vh:Option Nat->Option Nat->Bool
 | none,none=>true
 | some x,some y=>Nat.beq x y
 | _,_=>false
def Y16b (ops:Array Oper) (ms:List Nat) (bls:List (Option Nat×List Nat)) (base len:Nat) (ds:List Eff):Bool:=
 (ds.map (·.i) == List.range ops.size) &&
 (List.range ops.size).all (λi=>(Ylz ops i).all λp=>Nat.blt p i) &&
 ds.all (λd=>Y1vh (bls.getD d.i (none,[])).1 d.dst&&d.obs.all (λp=>(bls.getD d.i (none,[])).2.elem p.1)&&d.r.inv.all (λx=>(bls.getD d.i (none,[])).2.elem x) &&
  Nat.ble base d.n&&Nat.ble (d.n+d.k) len &&
  ds.all λe=>(Nat.beq d.i e.i||(ms.getD e.i 0).testBit d.i||e.obs.all λp=>Nat.blt p.1 d.n||Nat.ble (d.n+d.k) p.1)&&(!(Yx2 ms d.i e.i)||d.apart e))
theorem Y16x {J ids:List Nat}{x:AV}(h:∀ i∈J,i∈ids) (k:x.touch ids=false):x.touch J=false:=by
 cases J with
 | nil=>rfl
 | cons j J=>
  have hn:ids≠[]:=λe=>by have:=h j aj;rw[e]at this;cases this
  unfold AV.touch at k|-
  cases ids with
  | nil=>exact absurd rfl hn
  | cons i ids=>
   simp only at k|-
   rw[bV]at k|-
   intro c hc hk
   refine k c hc ?_
   unfold AC.touch at hk|-
   split at hk
   ·rename_i id e
    have:id∈j :: J:=by simpa using hk
    simpa using h id this
   ·cases hk
theorem Y1b3 {J:List Nat}{x:AV}(h:∀ i∈J,x.touch [i]=false):x.touch J=false:=by
 cases J with
 | nil=>rfl
 | cons j J=>
  unfold AV.touch
  simp only
  rw[bV]
  intro c hc hk
  unfold AC.touch at hk
  split at hk
  ·rename_i id e
   have hm:id∈j :: J:=by simpa using hk
   have:=h id hm
   unfold AV.touch at this
   simp only at this
   rw[bV]at this
   refine this c hc ?_
   unfold AC.touch;rw[e];simp
  ·cases hk
theorem Y14s {J ids:List Nat}{x:Ob}(h:∀ i∈J,i∈ids) (k:x.touch ids=false):x.touch J=false:=by
 cases J with
 | nil=>rfl
 | cons j J=>
  have hn:ids≠[]:=λe=>by have:=h j aj;rw[e]at this;cases this
  unfold Ob.touch at k|-
  cases ids with
  | nil=>exact absurd rfl hn
  | cons i ids=>
   simp only at k|-
   rw[bV]at k|-
   intro c hc hk
   refine k c hc ?_
   unfold AC.touch at hk|-
   split at hk
   ·rename_i id e
    have:id∈j :: J:=by simpa using hk
    simpa using h id this
   ·cases hk
theorem Y16q {J:List Nat}{x:Ob}(h:∀ i∈J,x.touch [i]=false):x.touch J=false:=by
 cases J with
 | nil=>rfl
 | cons j J=>
  unfold Ob.touch
  simp only
  rw[bV]
  intro c hc hk
  unfold AC.touch at hk
  split at hk
  ·rename_i id e
   have hm:id∈j :: J:=by simpa using hk
   have:=h id hm
   unfold Ob.touch at this
   simp only at this
   rw[bV]at this
   refine this c hc ?_
   unfold AC.touch;rw[e];simp
  ·cases hk
theorem Ywt (a b:List Nat) (c:AC):Ynm a (Ynm b c)=Ynm (b++a) c:=by
 have ht:∀ l,AC.top.touch l=false:=λ_=>rfl
 have happ:c.touch (b++a)=(c.touch b||c.touch a):=by
  unfold AC.touch
  cases c.src with
  | none=>rfl
  | some id=>simp only[List.elem_eq_contains];rw[cp];simp
 by_cases ha:c.touch a<;>by_cases hb:c.touch b<;>simp[Y1dc,happ,ha,hb,ht]
theorem Y12n (a b:List Nat) (x:SV):Yo0 a (Yo0 b x)=Yo0 (b++a) x:=by
 cases x with
 | one c=>simp[Yo0,Ywt a b]
 | agg cs=>simp only[Yo0,cr];congr 1;exact ba λc _=>Ywt a b c
theorem Y1gx (a b:List Nat) (x:AV):Yn0 a (Yn0 b x)=Yn0 (b++a) x:=by
 cases x with
 | sv x=>simp[Yn0,Y12n a b]
 | tup l=>simp only[Yn0,cr];congr 1;exact ba λc _=>Y12n a b c
theorem Y1fd (a b:List Nat) (x:Ob):Ym5 a (Ym5 b x)=Ym5 (b++a) x:=by
 cases x with
 | box cs=>simp only[Ym5,cr];congr 1;exact ba λc _=>Ywt a b c
 | _=>rfl
theorem Y15w (s:St) (d:Eff):(s.eff d).regs.length=s.regs.length:=by
 rw[Yu4,Yoo]
 cases d.dst with
 | none=>simp[St.put,Ynq]
 | some t=>simp[St.put,Ynq]
theorem Y1u4 (s:St) (dst:Option Nat) (v:AV):(s.put dst v).objs=s.objs:=by cases dst<;>rfl
theorem Yzq (s:St) (d:Eff):(s.eff d).objs.length=s.objs.length:=by
 rw[Yu4,Yoo,Y1u4,Yon];simp
theorem Y1jt (s:St) (dst:Option Nat) (v:AV) (t:Nat):(s.put dst v).reg t=if dst=some t/\t<s.regs.length then v else s.reg t:=by
 cases dst with
 | none=>simp[St.put]
 | some d=>
  simp only[St.put,St.reg,ao,bM,aa]
  by_cases hd:d=t
  ·subst hd
   by_cases hl:d<s.regs.length
   ·simp[hl]
   ·simp[hl]
  ·simp[hd]
theorem Y1i7 (s:St) (f:AV->AV) (hf:f Yu5=Yu5) (t:Nat):({ s with regs:=s.regs.map f }:St).reg t=f (s.reg t):=by
 simp only[St.reg,ao,bb]
 cases s.regs[t]? with
 | none=>exact hf.symm
 | some x=>rfl
theorem Y1ns (s:St) (ids:List Nat) (t:Nat):(s.inval ids).reg t=Yn0 ids (s.reg t):=by
 rw[Yoo]
 exact Y1i7 s (Yn0 ids) rfl t
theorem Y1cv (s:St) (ids:List Nat) (i:Nat):(s.inval ids).obj i=Ym5 ids (s.obj i):=by
 rw[Yoo]
 simp only[St.obj,ao,bb]
 cases s.objs[i]?<;>rfl
theorem Y18u (s:St) (d:Eff) (t:Nat):(s.eff d).reg t=if d.dst=some t/\t<s.regs.length then d.val else Yn0 d.r.inv (s.reg t):=by
 rw[Yu4,Y1jt]
 have h1:((s.inval d.r.inv).updObs d.obs).regs.length=s.regs.length:=by rw[Ynq,Yoo];simp
 have h2:((s.inval d.r.inv).updObs d.obs).reg t=Yn0 d.r.inv (s.reg t):=by
  rw[<- Y1ns];simp only[St.reg,Ynq]
 rw[h1,h2]
theorem Y14g:∀ (l:List (Nat×Ob)) (s s':St) (x:Nat),s.objs.length=s'.objs.length ->
  (∃ o,(x,o)∈l/\(s.updObs l).obj x=o/\(s'.updObs l).obj x=o)\/((s.updObs l).obj x=s.obj x/\(s'.updObs l).obj x=s'.obj x)
 | [],s,s',x,_=>.inr ⟨rfl,rfl⟩
 | (n,o) :: l,s,s',x,hl=>by
  rw[St.updObs,St.updObs]
  have hl':(s.setOb n o).objs.length=(s'.setOb n o).objs.length:=by simp[St.setOb,hl]
  rcases Y14g l (s.setOb n o) (s'.setOb n o) x hl' with ⟨o1,h1,h2,h3⟩|⟨h1,h2⟩
  ·exact .inl ⟨o1,ai _ h1,h2,h3⟩
  ·by_cases hx:x=n
   ·subst hx
    by_cases hlt:x<s.objs.length
    ·left
     refine⟨o,aj,?_,?_⟩
     ·rw[h1,Yll hlt,ae rfl]
     ·rw[h2,Yll oW,ae rfl]
    ·right
     have e1:s.setOb x o=s:=by simp only[St.setOb];rw[List.set_eq_of_length_le oW]
     have e2:s'.setOb x o=s':=by simp only[St.setOb];rw[List.set_eq_of_length_le oW]
     rw[e1]at h1|-;rw[e2]at h2|-
     exact⟨h1,h2⟩
   ·right
    have e:∀ (s:St),(s.setOb n o).obj x=s.obj x:=λs=>by
     simp only[St.setOb,St.obj,ao,bM,ab (cv hx)]
    exact⟨h1.trans (e s),h2.trans (e s')⟩
theorem Y16a (s s':St) (d:Eff) (x:Nat) (hl:s.objs.length=s'.objs.length) :
  (∃ o,(x,o)∈d.obs/\(s.eff d).obj x=o/\(s'.eff d).obj x=o)\/((s.eff d).obj x=Ym5 d.r.inv (s.obj x)/\(s'.eff d).obj x=Ym5 d.r.inv (s'.obj x)):=by
 rw[Yu4,Yu4,St.obj_put,St.obj_put,<- Y1cv,<- Y1cv]
 exact Y14g d.obs _ _ x (by rw[Yoo,Yoo];simpa using hl)
structure Two (Dt Ox:Nat->Prop) (J:List Nat) (a t:St):Prop where
 rlen:a.regs.length=t.regs.length
 olen:a.objs.length=t.objs.length
 reg:∀ x,t.reg x=Yn0 J (a.reg x)\/Dt x
 obj:∀ x,t.obj x=Ym5 J (a.obj x)\/Ox x
def Y1c9 (u d:Eff):Prop:=∀ i∈u.r.inv,d.val.touch [i]=false/\∀ p∈d.obs,p.2.touch [i]=false
theorem Y10n {fA fT:Nat->Bool}(hsub:∀ j,fA j->fT j) {Dt Ox Jx:Nat->Prop} :
  ∀ (ds:List Eff) (a t:St) (J:List Nat),(∀ i∈J,Jx i)->Two Dt Ox J a t ->
   (∀ d∈ds,fA d.i->∀ i∈J,d.val.touch [i]=false/\∀ p∈d.obs,p.2.touch [i]=false) ->
   ds.Pairwise (λu d=>fT u.i->fA u.i=false->fA d.i->Y1c9 u d) ->
   (∀ d∈ds,fT d.i->fA d.i=false->(∀ x,d.dst=some x->Dt x)/\(∀ p∈d.obs,Ox p.1)/\∀ i∈d.r.inv,Jx i) ->
   ∃ J',(∀ i∈J',Jx i)/\Two Dt Ox J' (Ymn fA a ds) (Ymn fT t ds)
 | [],a,t,J,hJ,h,_,_,_=>⟨J,hJ,h⟩
 | d :: ds,a,t,J,hJ,h,hA,hP,hU=>by
  have hA':=λe he=>hA e (ai _ he)
  have hU':=λe he=>hU e (ai _ he)
  obtain⟨hP1,hP2⟩:=List.pairwise_cons.1 hP
  simp only[Ymn]
  cases ha:fA d.i with
  | true=>
   rw[hsub _ ha]
   simp only
   have hd:=hA d aj ha
   refine Y10n hsub ds _ _ J hJ ⟨by rw[Y15w,Y15w,h.rlen],by rw[Yzq,Yzq,h.olen],λx => ?_,λx => ?_⟩ hA' hP2 hU'
   ·rw[Y18u,Y18u,<- h.rlen]
    by_cases hx:d.dst=some x/\x<a.regs.length
    ·left
     rw[ae hx,ae hx]
     exact(Y105 (Y1b3 λi hi=>(hd i hi).1)).symm
    ·rw[ab hx,ab hx]
     refine(h.reg x).imp (λe => ?_) id
     rw[e,Y18r]
   ·rcases Y16a a t d x h.olen with ⟨o,ho,e1,e2⟩|⟨e1,e2⟩
    ·left
     rw[e1,e2]
     exact(Y10d (Y16q λi hi=>(hd i hi).2 (x,o) ho)).symm
    ·rw[e1,e2]
     refine(h.obj x).imp (λe => ?_) id
     rw[e,Y16z]
  | false=>
   simp only
   cases ht:fT d.i with
   | false=>exact Y10n hsub ds a t J hJ h hA' hP2 hU'
   | true=>
    simp only
    obtain⟨h1,h2,h3⟩:=hU d aj ht ha
    refine Y10n hsub ds a _ (J++d.r.inv) (λi hi=>(List.mem_append.1 hi).elim (hJ i) (h3 i)) ⟨by rw[Y15w,h.rlen],by rw[Yzq,h.olen],λx => ?_,λx => ?_⟩
     (λe he hae i hi=>(List.mem_append.1 hi).elim (hA' e he hae i) (hP1 e he ht ha hae i)) hP2 hU'
    ·rw[Y18u]
     by_cases hx:d.dst=some x/\x<t.regs.length
     ·exact .inr (h1 x hx.1)
     ·rw[ab hx]
      refine(h.reg x).imp (λe => ?_) id
      rw[e,Y1gx]
    ·rcases Y16a t t d x rfl with ⟨o,ho,e1,e2⟩|⟨e1,e2⟩
     ·exact .inr (h2 (x,o) ho)
     ·rw[e1]
      refine(h.obj x).imp (λe => ?_) id
      rw[e,Y1fd]
theorem Y1c9.of_apart {u d:Eff}(h:u.apart d):Y1c9 u d:=by
 simp only[Eff.apart,af,aL,am]at h
 obtain⟨⟨⟨⟨h1,h2⟩,h3⟩,h4⟩,h5⟩:=h
 intro x hx
 have hm:∀ k∈[x],k∈u.r.inv:=λk hk=>by rw[List.mem_singleton.1 hk];exact hx
 exact⟨Y16x hm h3,λp hp=>Y14s hm (h5 p hp)⟩
theorem Y14u (ids:List Nat):∀ (l:List Ob) (n i:Nat),(Yv5 ids n l).getD i .free=.dead\/
  ((Yv5 ids n l).getD i .free=l.getD i .free/\((ids.elem (n+i)=false/\(l.getD i .free).touch ids=false)\/l.length<=i))
 | [],n,i=>.inr ⟨rfl,.inr (cm _)⟩
 | o :: l,n,0=>by
  simp only[Yv5,cq,cR]
  cases h:(ids.elem n||o.touch ids) with
  | true=>exact .inl rfl
  | false=>exact .inr ⟨rfl,.inl (by simpa using h)⟩
 | o :: l,n,i+1=>by
  simp only[Yv5,dM]
  refine(Y14u ids l (n+1) i).imp id λ⟨h1,h2⟩=>⟨h1,h2.imp (λh => ?_) (λh => ?_)⟩
  ·rw[show n+(i+1)=n+1+i by omega];exact h
  ·simpa using h
theorem Y1pc (s:St) (dst:Option Nat) (ids:List Nat):(s.blot dst ids).regs.length=s.regs.length:=by
 cases ids<;>cases dst<;>simp[St.blot,St.put]
theorem Y1li (ids:List Nat):Yu5.touch ids=false:=by cases ids<;>rfl
theorem Y1rj (s:St) (dst:Option Nat) (ids:List Nat) (t:Nat):(s.blot dst ids).reg t=unk\/
  ((s.blot dst ids).reg t=s.reg t/\(dst≠some t\/s.regs.length<=t)/\(s.reg t).touch ids=false):=by
 have key:∀ s1:St,s1.regs.length=s.regs.length->(s1.reg t=unk\/(s1.reg t=s.reg t/\(s.reg t).touch ids=false)) ->
   (s1.put dst unk).reg t=unk\/((s1.put dst unk).reg t=s.reg t/\(dst≠some t\/s.regs.length<=t)/\(s.reg t).touch ids=false):=by
  intro s1 hl h
  rw[Y1jt]
  by_cases hd:dst=some t/\t<s1.regs.length
  ·rw[ae hd];exact .inl rfl
  ·rw[ab hd]
   refine h.imp id λ⟨h1,h2⟩=>⟨h1,?_,h2⟩
   by_cases hd1:dst=some t
   ·exact .inr (by rw[<- hl];exact cG λhlt=>hd ⟨hd1,hlt⟩)
   ·exact .inl hd1
 cases ids with
 | nil=>exact key s rfl (.inr ⟨rfl,rfl⟩)
 | cons i ids=>
  refine key _ sW ?_
  have e:(St.reg { s with regs:=s.regs.map (Yz9 (i :: ids)),objs:=Yv5 (i :: ids) 0 s.objs } t)=Yz9 (i :: ids) (s.reg t):=Y1i7 s (Yz9 (i :: ids)) (by simp[Yz9,Y1li]) t
  rw[e]
  unfold Yz9
  cases h:(s.reg t).touch (i :: ids) with
  | true=>exact .inl rfl
  | false=>exact .inr ⟨rfl,rfl⟩
theorem Y1u2 (s:St) (dst:Option Nat) (ids:List Nat) (x:Nat):(s.blot dst ids).obj x=.dead\/
  ((s.blot dst ids).obj x=s.obj x/\((ids.elem x=false/\(s.obj x).touch ids=false)\/s.obj x=.free)):=by
 cases ids with
 | nil=>
  right
  rw[St.blot,St.obj_put]
  exact⟨rfl,.inl ⟨rfl,rfl⟩⟩
 | cons i ids=>
  rw[St.blot,St.obj_put]
  refine(Y14u (i :: ids) s.objs 0 x).imp id λ⟨h1,h2⟩=>⟨h1,h2.imp (λh => ?_) λh => ?_⟩
  ·rw[ck]at h;exact h
  ·simp[St.obj,bf h]
theorem Y14w:∀ (l:List (Option Nat×List Nat)) (s:St) (t:Nat),(Yqe s l).reg t=unk\/
  ((Yqe s l).reg t=s.reg t/\∀ p∈l,(p.1≠some t\/s.regs.length<=t)/\(s.reg t).touch p.2=false)
 | [],s,t=>.inr ⟨rfl,λ_ h=>by cases h⟩
 | (d,ids) :: l,s,t=>by
  rw[Yqe]
  rcases Y14w l (s.blot d ids) t with h|⟨h1,h2⟩
  ·exact .inl h
  ·rcases Y1rj s d ids t with h3|⟨h3,h4,h5⟩
   ·exact .inl (by rw[h1,h3])
   ·refine .inr ⟨by rw[h1,h3],λp hp => ?_⟩
    rcases List.mem_cons.1 hp with rfl|hp
    ·exact⟨h4,h5⟩
    ·have:=h2 p hp
     rw[h3,Y1pc]at this
     exact this
theorem Y14l:∀ (l:List (Option Nat×List Nat)) (s:St) (x:Nat),((Yqe s l).obj x=.dead\/(Yqe s l).obj x=.free)\/
  ((Yqe s l).obj x=s.obj x/\∀ p∈l,p.2.elem x=false/\(s.obj x).touch p.2=false)
 | [],s,x=>.inr ⟨rfl,λ_ h=>by cases h⟩
 | (d,ids) :: l,s,x=>by
  rw[Yqe]
  rcases Y14l l (s.blot d ids) x with h|⟨h1,h2⟩
  ·exact .inl h
  ·rcases Y1u2 s d ids x with h3|⟨h3,h4⟩
   ·exact .inl (.inl (by rw[h1,h3]))
   ·rcases h4 with h4|h4
    ·refine .inr ⟨by rw[h1,h3],λp hp => ?_⟩
     rcases List.mem_cons.1 hp with rfl|hp
     ·exact h4
     ·have:=h2 p hp
      rw[h3]at this
      exact this
    ·exact .inl (.inr (by rw[h1,h3,h4]))
theorem Yxp {ms:List Nat}{bls:List (Option Nat×List Nat)}{i j:Nat}(h:Yx2 ms i j):∀ {l:List Nat},j∈l->bls.getD j (none,[])∈Yr9 ms bls i l
 | k :: l,hm=>by
  simp only[Yr9]
  rcases List.mem_cons.1 hm with rfl|hm
  ·rw[h];exact aj
  ·split
   ·exact ai _ (Yxp h hm)
   ·exact Yxp h hm
theorem Y1jj {s:St}{t:Nat}(h:s.regs.length<=t):s.reg t=Yu5:=by simp[St.reg,bf h,Yu5]
theorem Y220 {n:Nat}{ms:List Nat}{bls:List (Option Nat×List Nat)}{s0:St}{ds:List Eff}{i:Nat}{fT:Nat->Bool}
  (hsub:∀ j,(ms.getD i 0).testBit j->fT j)
  (hn:∀ d∈ds,d.i<n)
  (hun:∀ d∈ds,fT d.i->(ms.getD i 0).testBit d.i=false->Yx2 ms i d.i)
  (hbl:∀ d∈ds,(bls.getD d.i (none,[])).1=d.dst/\(∀ p∈d.obs,(bls.getD d.i (none,[])).2.elem p.1)/\∀ x∈d.r.inv,(bls.getD d.i (none,[])).2.elem x)
  (hap:ds.Pairwise λu d=>fT u.i->(ms.getD i 0).testBit u.i=false->(ms.getD i 0).testBit d.i->u.apart d) :
  Le (mkS n ms bls s0 ds i) (Ymn fT s0 ds):=by
 let U (d:Eff):Prop:=d∈ds/\fT d.i/\(ms.getD i 0).testBit d.i=false
 obtain⟨J,hJ,h⟩:=Y10n (fA:=λj=>(ms.getD i 0).testBit j) (fT:=fT) hsub (Dt:=λx=>∃ u,U u/\u.dst=some x) (Ox:=λx=>∃ u,U u/\∃ p∈u.obs,p.1=x) (Jx:=λx=>∃ u,U u/\x∈u.r.inv) ds s0 s0 []
  (λ_ hx=>by cases hx) ⟨rfl,rfl,λx=>.inl (Y123 _).symm,λx=>.inl (Y11p _).symm⟩
  (λ_ _ _ _ hx=>by cases hx) (hap.imp λhh h1 h2 h3=>Y1c9.of_apart (hh h1 h2 h3))
  (λd hd h1 h2=>⟨λx hx=>⟨d,⟨hd,h1,h2⟩,hx⟩,λp hp=>⟨d,⟨hd,h1,h2⟩,p,hp,rfl⟩,λx hx=>⟨d,⟨hd,h1,h2⟩,hx⟩⟩)
 have hmem:∀ u,U u->bls.getD u.i (none,[])∈Yr9 ms bls i (List.range n):=λu hu=>Yxp (hun u hu.1 hu.2.1 hu.2.2) (List.mem_range.2 (hn u hu.1))
 constructor
 ·intro t
  rcases Y14w (Yr9 ms bls i (List.range n)) (Ymn (λj=>(ms.getD i 0).testBit j) s0 ds) t with h1|⟨h1,h2⟩
  ·exact .inl h1
  ·right
   show _=(Yqe _ _).reg t
   rw[h1]
   by_cases hl:(Ymn (λj=>(ms.getD i 0).testBit j) s0 ds).regs.length<=t
   ·rw[Y1jj hl,Y1jj (by rw[<- h.rlen];exact hl)]
   ·rcases h.reg t with h3|⟨u,hu,hd⟩
    ·rw[h3]
     refine Y105 (Y1b3 λx hx => ?_)
     obtain⟨u,hu,hxu⟩:=hJ x hx
     refine Y16x (λk hk => ?_) (h2 _ (hmem u hu)).2
     rw[List.mem_singleton.1 hk]
     have:=(hbl u hu.1).2.2 x hxu
     simpa using this
    ·have:=(h2 _ (hmem u hu)).1
     rw[(hbl u hu.1).1]at this
     exact(this.elim (λk=>k hd) λk=>hl k).elim
 ·intro x
  rcases Y14l (Yr9 ms bls i (List.range n)) (Ymn (λj=>(ms.getD i 0).testBit j) s0 ds) x with h1|⟨h1,h2⟩
  ·exact .inl h1.symm
  ·right
   show _=(Yqe _ _).obj x
   rw[h1]
   rcases h.obj x with h3|⟨u,hu,p,hp,rfl⟩
   ·rw[h3]
    refine Y10d (Y16q λy hy => ?_)
    obtain⟨u,hu,hyu⟩:=hJ y hy
    refine Y14s (λk hk => ?_) (h2 _ (hmem u hu)).2
    rw[List.mem_singleton.1 hk]
    have:=(hbl u hu.1).2.2 y hyu
    simpa using this
   ·have h4:=(h2 _ (hmem u hu)).1
    have h5:=(hbl u hu.1).2.1 p hp
    rw[h4]at h5;cases h5
theorem Y1dg {ops:Array Oper}(hp:∀ i,∀ p∈Ylz ops i,p<i) {i p x:Nat}(h1:p∈Ylz ops i) (h2:x=p\/(mk ops p).testBit x):(mk ops i).testBit x:=by
 have key:∀ (ms:List Nat) (ps:List Nat),p∈ps->(x=p\/(ms.getD p 0).testBit x)->(Yvo ms ps).testBit x:=by
  intro ms ps
  induction ps with
  | nil=>intro h;cases h
  | cons q ps ih=>
   intro hm hx
   simp only[Yvo,Nat.testBit_or,aF,Nat.one_shiftLeft,Nat.testBit_two_pow,ak]
   rcases List.mem_cons.1 hm with rfl|hm
   ·rcases hx with rfl|hx
    ·exact .inl (.inr rfl)
    ·exact .inr hx
   ·exact .inl (.inl (ih hm hx))
 refine key (Yry ops i) _ h1 (h2.imp id λh => ?_)
 rw[Yte ops i p (hp i p h1)];exact h
theorem Y1ec {ops:Array Oper}(hp:∀ i,∀ p∈Ylz ops i,p<i):∀ (n i d e:Nat),i<n->(mk ops i).testBit d->(mk ops d).testBit e->(mk ops i).testBit e
 | 0,i,d,e,hi,_,_=>by omega
 | n+1,i,d,e,hi,h1,h2=>by
  obtain⟨p,hpi,h⟩:=Y1g2 h1
  rcases h with rfl|⟨hlt,h⟩
  ·exact Y1dg hp hpi (.inr h2)
  ·exact Y1dg hp hpi (.inr (Y1ec hp n p d e oW h h2))
def Yq9:List Item->Prop
 | []=>True
 | .asm p :: r=>p/\Yq9 r
 | .obl _ :: r=>Yq9 r
theorem VC.mono:∀ {it:List Item}{K K':Prop},(K->K')->VC it K->VC it K'
 | [],_,_,h,k=>h k
 | .asm _ :: _,_,_,h,k=>λp=>VC.mono h (k p)
 | .obl _ :: _,_,_,h,k=>⟨k.1,VC.mono h k.2⟩
theorem VC.of_obl:∀ {it:List Item},Y165 it True->VC it (Yq9 it)
 | [],_=>trivial
 | .asm p :: r,h=>λhp=>VC.mono (λk=>⟨hp,k⟩) (VC.of_obl (it:=r) h)
 | .obl p :: r,h=>⟨h.1,VC.of_obl (it:=r) h.2⟩
theorem Y112:∀ {it:List Item}{K:Prop},Y1fz it K->Yq9 it->K
 | [],_,h,_=>h
 | .asm _ :: r,_,h,k=>Y112 (it:=r) (h k.1) k.2
 | .obl _ :: r,_,h,k=>Y112 (it:=r) h k
theorem Yrg {f g:Nat->Bool}:∀ {ds:List Eff}{s:St},(∀ d∈ds,f d.i=g d.i)->Ymn f s ds=Ymn g s ds
 | [],_,_=>rfl
 | d :: ds,s,h=>by
  simp only[Ymn,h d aj]
  split<;>exact Yrg λe he=>h e (ai _ he)
theorem Yyp {f:Nat->Bool}{i:Nat}(hf:f i=false):∀ {ds:List Eff}{s:St}{d:Eff},d∈ds->d.i=i->(ds.map (·.i)).Nodup ->
  (ds.Pairwise λx y=>x.i=i->f y.i->x.apart y)->Ymn (λj=>Nat.beq j i||f j) s ds=(Ymn f s ds).eff d
 | x :: ds,s,d,hm,hd,hnd,hP=>by
  obtain⟨hn1,hn2⟩:=List.nodup_cons.1 (by simpa using hnd:(x.i :: ds.map (·.i)).Nodup)
  obtain⟨hP1,hP2⟩:=List.pairwise_cons.1 hP
  simp only[Ymn]
  rcases List.mem_cons.1 hm with rfl|hm'
  ·rw[hd,hf]
   simp only[bm,Bool.true_or]
   have hc:∀ e∈ds,(λj=>Nat.beq j i||f j) e.i=f e.i:=by
    intro e he
    have hne:e.i≠i:=λh=>hn1 (by rw[hd,<- h];exact dn he)
    have:Nat.beq e.i i=false:=by rw[<- bn];exact λh=>hne (aA h)
    simp[this]
   rw[Yrg hc]
   have mv:∀ (l:List Eff) (s:St),(∀ e∈l,f e.i->d.apart e)->Ymn f (s.eff d) l=(Ymn f s l).eff d:=by
    intro l
    induction l with
    | nil=>intro s _;rfl
    | cons e l ih=>
     intro s hl
     simp only[Ymn]
     cases he:f e.i with
     | false=>exact ih s λe' he'=>hl e' (ai _ he')
     | true=>
      simp only
      rw[Y1td s (hl e aj he)]
      exact ih _ λe' he'=>hl e' (ai _ he')
   exact mv ds s λe he hfe=>hP1 e he hd hfe
  ·have hne:x.i≠i:=λh=>hn1 (by rw[h,<- hd];exact dn hm')
   have:Nat.beq x.i i=false:=by rw[<- bn];exact λh=>hne (aA h)
   simp only[this,Bool.false_or]
   cases f x.i with
   | true=>exact Yyp hf hm' hd hn2 hP2
   | false=>exact Yyp hf hm' hd hn2 hP2
theorem Y11k (f:Nat->Bool):∀ (ds:List Eff) (s:St),(Ymn f s ds).objs.length=s.objs.length
 | [],_=>rfl
 | d :: ds,s=>by
  simp only[Ymn]
  split
  ·rw[Y11k f ds,Yzq]
  ·exact Y11k f ds s
theorem Y12z (f:Nat->Bool) {x:Nat}:∀ (ds:List Eff) (s:St),s.obj x=.free->(∀ d∈ds,f d.i->∀ p∈d.obs,p.1≠x)->(Ymn f s ds).obj x=.free
 | [],s,h,_=>h
 | d :: ds,s,h,hd=>by
  simp only[Ymn]
  cases hf:f d.i with
  | false=>exact Y12z f ds s h λe he=>hd e (ai _ he)
  | true=>
   refine Y12z f ds _ ?_ λe he=>hd e (ai _ he)
   rcases Y16a s s d x rfl with ⟨o,ho,_⟩|⟨e,_⟩
   ·exact absurd rfl (hd d aj hf (x,o) ho)
   ·rw[e,h];rfl
def Y1ce (P:Program) (ops:Array Oper) (ms:List Nat) (bls:List (Option Nat×List Nat)) (s0:St) (ds:List Eff) (d:Eff):Prop:=
 ∃ o,ops[d.i]? = some o/\d.dst=o.dst /\
  ((Ysj ops (mkS ops.size ms bls s0 ds d.i) o=some false/\d.val=.tup []/\d.r={}/\d.it=[])\/(Ysj ops (mkS ops.size ms bls s0 ds d.i) o=some true/\d.k=Ynx o/\d.val=d.r.val/\(∃ q q',aop P (mkS ops.size ms bls s0 ds d.i) o d.n q=some (d.r,d.it,q'))/\Y165 d.it True))
structure DPlan (P:Program) (ops:Array Oper) (ms:List Nat) (bls:List (Option Nat×List Nat)) (s0:St) (ds:List Eff):Prop where
 hms:ms=Yry ops ops.size
 good:∀ d∈ds,Y1ce P ops ms bls s0 ds d
 idx:ds.map (·.i)=List.range ops.size
 pre:∀ i,∀ p∈Ylz ops i,p<i
 bl:∀ d∈ds,(bls.getD d.i (none,[])).1=d.dst/\(∀ p∈d.obs,(bls.getD d.i (none,[])).2.elem p.1)/\∀ x∈d.r.inv,(bls.getD d.i (none,[])).2.elem x
 room:∀ d∈ds,∀ x,d.n<=x->x<d.n+d.k->s0.obj x=.free/\x<s0.objs.length
 far:∀ d∈ds,∀ e∈ds,d.i≠e.i->(ms.getD e.i 0).testBit d.i=false->∀ p∈e.obs,p.1<d.n\/d.n+d.k<=p.1
 ap:∀ d∈ds,∀ e∈ds,Yx2 ms d.i e.i->d.apart e
section
variable {P:Program}{E:Ent P}{ops:Array Oper}{ms:List Nat}{bls:List (Option Nat×List Nat)}{s0:St}{ds:List Eff}
def Lst (listed:Array Bool) (j:Nat):Bool:=listed.getD j false
theorem Yqo {i:Nat}{o:Oper}(ho:ops[i]? = some o) {p:Nat}:p∈Ylz ops i ↔ ∃ e∈o.after,Region.binds .any e/\e.on=p:=by
 simp only[Ylz,ho,a9,cf,ch]
 constructor
 ·rintro⟨e,⟨h1,h2⟩,h3⟩;exact⟨e,h1,h2,h3⟩
 ·rintro⟨e,h1,h2,h3⟩;exact⟨e,⟨h1,h2⟩,h3⟩
theorem Yo9 {listed:Array Bool}{i:Nat}(h:i∈Region.ready .any ops listed) (hsz:listed.size=ops.size):Lst listed i=false/\i<ops.size/\∀ p∈Ylz ops i,Lst listed p:=by
 obtain⟨h0,o,ho,hall⟩:=mem_ready.1 h
 have hlt:i<ops.size:=(Array.getElem?_eq_some_iff.1 ho).1
 refine⟨?_,hlt,λp hp => ?_⟩
 ·simp only[Lst,bA]at h0|-
  rw[cj oW]at h0|-
  exact h0
 ·obtain⟨e,h1,h2,rfl⟩:=(Yqo ho).1 hp
  exact hall e h1 h2
theorem Y12o {listed:Array Bool}(h:Region.ready .any ops listed=[]) (hsz:listed.size=ops.size) (hp:∀ i,∀ p∈Ylz ops i,p<i):∀ n j,j<n->j<ops.size->Lst listed j
 | 0,j,hj,_=>by omega
 | n+1,j,hj,hjs=>by
  cases hl:Lst listed j with
  | true=>rfl
  | false=>
   exfalso
   have:j∈Region.ready .any ops listed:=by
    refine mem_ready.2 ⟨?_,ops[j],cj hjs,λe he hb => ?_⟩
    ·simp only[Lst,bA]at hl|-
     rw[cj oW]at hl|-
     exact hl
    ·have hm:e.on∈Ylz ops j:=(Yqo (cj hjs)).2 ⟨e,he,hb,rfl⟩
     have:=hp j _ hm
     exact Y12o h hsz hp n e.on oW oW
   rw[h]at this;cases this
theorem Yqv {listed:Array Bool}{i:Nat}(hi:i<listed.size) (j:Nat):Lst (listed.setIfInBounds i true) j=(Nat.beq j i||Lst listed j):=by
 simp only[Lst,bA,cF]
 by_cases h:i=j
 ·subst h;simp[hi]
 ·have:Nat.beq j i=false:=by rw[<- bn];exact λe=>h (aA e).symm
  simp[h,this]
theorem Ytl {p q:Nat->Bool}{i:Nat}:∀ {l:List Nat},i∈l->p i->q i=false->(∀ j,q j->p j)->l.countP q<l.countP p
 | x :: l,hm,hp,hq,hle=>by
  have hmono:l.countP q<=l.countP p:=List.countP_mono_left λj _ h=>hle j h
  rcases List.mem_cons.1 hm with rfl|hm
  ·simp only[List.countP_cons,hp,hq];simp;omega
  ·have:=Ytl hm hp hq hle
   simp only[List.countP_cons]
   by_cases hx:q x
   ·simp[hx,hle x hx];omega
   ·have:(if q x then 1 else 0)=0:=by simp[hx]
    rw[this];split<;>omega
theorem DPlan.find (pl:DPlan P ops ms bls s0 ds) {i:Nat}(hi:i<ops.size):∃ d∈ds,d.i=i:=by
 have:i∈ds.map (·.i):=by rw[pl.idx];exact List.mem_range.2 hi
 simpa using this
theorem DPlan.lt (pl:DPlan P ops ms bls s0 ds) {d:Eff}(hd:d∈ds):d.i<ops.size:=by
 have:d.i∈ds.map (·.i):=dn hd
 rw[pl.idx]at this
 simpa using this
theorem DPlan.sorted (pl:DPlan P ops ms bls s0 ds):ds.Pairwise λx y=>x.i<y.i/\x∈ds/\y∈ds:=by
 have h:(ds.map (·.i)).Pairwise (· < ·):=by rw[pl.idx];exact List.pairwise_lt_range
 have h2:ds.Pairwise λx y=>x.i<y.i:=List.pairwise_map.1 h
 exact(List.Pairwise.and_mem.1 h2).imp λ⟨a,b,c⟩=>⟨c,a,b⟩
theorem DPlan.mkget (pl:DPlan P ops ms bls s0 ds) {i:Nat}(hi:i<ops.size):ms.getD i 0=Ab.mk ops i:=by rw[pl.hms];exact Yte ops _ _ hi
theorem Y10t {i j:Nat}:Yx2 ms i j ↔ i≠j/\(ms.getD i 0).testBit j=false/\(ms.getD j 0).testBit i=false:=by
 simp only[Yx2,af,aL,dv]
 constructor
 ·rintro⟨h1,h2⟩;exact⟨ct h1,h2⟩
 ·rintro⟨h1,h2⟩;exact⟨by rw[<- bn];exact λe=>h1 (aA e),h2⟩
theorem Yvf (pl:DPlan P ops ms bls s0 ds) {Q:Exit->Act->World->Prop}{listed:Array Bool}{ι:Interp}{a:Act}{w:World}{i:Nat}(hr:i∈Region.ready .any ops listed) (hsz:listed.size=ops.size)
  (hcl:∀ j,Lst listed j->∀ p∈Ylz ops j,Lst listed p) (h:Rel E (Ymn (Lst listed) s0 ds) ι a w) {K:Act->World->Prop}
  (hK:∀ ι' a' w',Rel E (Ymn (Lst (listed.setIfInBounds i true)) s0 ds) ι' a' w'->(∀ d∈ds,d.i=i->Yq9 d.it)->K a' w'):wpOp P ops Q i K a w:=by
 obtain⟨hni,hi,hpre⟩:=Yo9 hr hsz
 obtain⟨d,hd,hdi⟩:=pl.find hi
 have huniq:∀ e∈ds,e.i=i->e=d:=by
  intro e he hei
  have hs:=pl.sorted
  by_cases hne:e=d
  ·exact hne
  ·exfalso
   have:∀ (l:List Eff),l.Pairwise (λx y=>x.i<y.i/\x∈ds/\y∈ds)->e∈l->d∈l->e≠d->e.i≠d.i:=by
    intro l hl
    induction hl with
    | nil=>intro h;cases h
    | cons h1 _ ih=>
     intro h2 h3 h4
     rcases List.mem_cons.1 h2 with k2|k2<;>rcases List.mem_cons.1 h3 with k3|k3
     ·exact absurd (k2.trans k3.symm) h4
     ·have:=(h1 _ k3).1;rw[k2];omega
     ·have:=(h1 _ k2).1;rw[k3];omega
     ·exact ih k2 k3 h4
   exact this ds hs he hd hne (by rw[hei,hdi])
 have hcl':∀ j,(Lst listed j)->∀ p∈Ylz ops j,Lst listed p:=hcl
 have hmi:∀ x,(mk ops i).testBit x->Lst listed x:=λx hx=>Yy2 (L:=λj=>Lst listed j) hcl' (i+1) i x oW hpre hx
 have hmj:∀ j x,Lst listed j->(mk ops j).testBit x->Lst listed x:=λj x hj hx=>Yy2 (L:=λj=>Lst listed j) hcl' (j+1) j x oW (hcl j hj) hx
 have hgi:=pl.mkget hi
 have hle:Le (mkS ops.size ms bls s0 ds i) (Ymn (Lst listed) s0 ds):=by
  refine Y220 (λj hj=>hmi j (by rw[<- hgi];exact hj)) (λe he=>pl.lt he) (λe he h1 h2 => ?_) pl.bl ?_
  ·refine Y10t.2 ⟨λhh => ?_,h2,?_⟩
   ·rw[<- hh,hni]at h1;cases h1
   ·rw[pl.mkget (pl.lt he),<- bn]
    intro hb
    rw[hmj e.i i h1 hb]at hni;cases hni
  ·refine pl.sorted.imp λ{u e} ⟨hlt,hu,he⟩ h1 h2 h3=>pl.ap u hu e he (Y10t.2 ⟨by omega,?_,?_⟩)
   ·rw[pl.mkget (pl.lt hu),<- bn]
    intro hb
    have:=Y1cd pl.pre (u.i+1) u.i e.i oW hb
    omega
   ·rw[pl.mkget (pl.lt he),<- bn]
    intro hb
    rw[hgi]at h2 h3
    rw[Y1ec pl.pre (i+1) i e.i u.i oW h3 hb]at h2;cases h2
 have hset:Ymn (Lst (listed.setIfInBounds i true)) s0 ds=(Ymn (Lst listed) s0 ds).eff d:=by
  rw[Yrg (g:=λj=>Nat.beq j i||Lst listed j) λe _=>Yqv oW e.i]
  refine Yyp hni hd hdi (by rw[pl.idx];exact List.nodup_range) ?_
  refine pl.sorted.imp λ{x y} ⟨hlt,hx,hy⟩ h1 h2=>pl.ap x hx y hy (Y10t.2 ⟨by omega,?_,?_⟩)
  ·rw[pl.mkget (pl.lt hx),<- bn]
   intro hb
   have:=Y1cd pl.pre (x.i+1) x.i y.i oW hb
   omega
  ·rw[pl.mkget (pl.lt hy),<- bn]
   intro hb
   rw[h1]at hb
   rw[hmj y.i i h2 hb]at hni;cases hni
 rw[hset]at hK
 obtain⟨o,ho,hdst,hgood⟩:=pl.good d hd
 rw[hdi]at ho hgood
 unfold wpOp
 simp only[ho]
 rcases hgood with ⟨hw,hv,hr0,hit⟩|⟨hw,hk,hv,⟨q,q',he⟩,hob⟩
 ·rw[Ywd h (hle.wanted hw)]
  simp only[cu,cT]
  refine hK ι _ _ ?_ λe he hei=>by rw[huniq e he hei,hit];trivial
  have:(Ymn (Lst listed) s0 ds).eff d=(Ymn (Lst listed) s0 ds).put o.dst (.tup []):=by
   rw[St.eff,hr0,hv,hdst];rfl
  rw[this]
  exact Rel.put h o.dst Y1ae
 ·rw[Ywd h (hle.wanted hw)]
  simp only[bx]
  left
  have hroom:Yqw (Ymn (Lst listed) s0 ds) d.n (Ynx o):=by
   intro x h1 h2
   obtain⟨h3,h4⟩:=pl.room d hd x h1 (by rw[hk];exact h2)
   refine⟨Y12z _ ds s0 h3 λe hem hle p hp hpx => ?_,by rw[Y11k];exact h4⟩
   have hne:d.i≠e.i:=by
    intro hh
    rw[<- hh,hdi,hni]at hle;cases hle
   have:=pl.far d hd e hem hne (by
    rw[pl.mkget (pl.lt hem),<- bn]
    intro hb
    rw[hdi]at hb
    rw[hmj e.i i hle hb]at hni;cases hni) p hp
   rw[hk]at this
   omega
  obtain⟨h1,h2⟩:=Y12v h (hle.aop he) (VC.of_obl hob) hroom
  refine h1 _ _ λι' v w' hr' hv'=>hK ι' _ _ ?_ λe hem hei=>by rw[huniq e hem hei];exact h2
  rw[St.eff,hdst,hv]
  exact Rel.put hr' o.dst hv'
theorem Y1rw (pl:DPlan P ops ms bls s0 ds) {Q:Exit->Act->World->Prop}(hQ:∀ ι a w,Rel E (Ymn (λ_=>true) s0 ds) ι a w->(∀ d∈ds,Yq9 d.it)->Q .normal a w) :
  ∀ (fuel:Nat) (listed:Array Bool) (ι:Interp) (a:Act) (w:World),listed.size=ops.size->(∀ j,Lst listed j->∀ p∈Ylz ops j,Lst listed p) ->
   (List.range ops.size).countP (λj => !Lst listed j)<=fuel->Rel E (Ymn (Lst listed) s0 ds) ι a w->(∀ d∈ds,Lst listed d.i->Yq9 d.it)->wpAny P .any ops Q fuel listed a w:=by
 intro fuel
 have hend:∀ (listed:Array Bool) (ι:Interp) (a:Act) (w:World),listed.size=ops.size->Rel E (Ymn (Lst listed) s0 ds) ι a w->(∀ d∈ds,Lst listed d.i->Yq9 d.it) ->
   Region.ready .any ops listed=[]->Q .normal a w:=by
  intro listed ι a w hsz h hasm hnil
  have hall:∀ d∈ds,Lst listed d.i:=λd hd=>Y12o hnil hsz pl.pre (d.i+1) d.i oW (pl.lt hd)
  refine hQ ι a w ?_ λd hd=>hasm d hd (hall d hd)
  rw[Yrg (g:=λ_=>true) hall]at h
  exact h
 induction fuel with
 | zero=>
  intro listed ι a w hsz hcl hun h hasm
  have hnil:Region.ready .any ops listed=[]:=by
   cases hr:Region.ready .any ops listed with
   | nil=>rfl
   | cons i l=>
    exfalso
    obtain⟨h1,h2,_⟩:=Yo9 (ops:=ops) (i:=i) (by rw[hr];exact aj) hsz
    have h0:(List.range ops.size).countP (λj => !Lst listed j)=0:=Nat.le_zero.1 hun
    have:=List.countP_eq_zero.1 h0 i (List.mem_range.2 h2)
    simp[h1]at this
  exact⟨hnil,hend listed ι a w hsz h hasm hnil⟩
 | succ fuel ih=>
  intro listed ι a w hsz hcl hun h hasm
  refine⟨hend listed ι a w hsz h hasm,λi hi => ?_⟩
  obtain⟨hni,hlt,hpre⟩:=Yo9 hi hsz
  have hset:=λj=>Yqv (listed:=listed) (i:=i) oW j
  refine Yvf pl hi hsz hcl h λι' a' w' hr' hasm'=>ih _ ι' a' w' (by simpa using hsz) (λj hj p hp => ?_) ?_ hr' λd hd hdl => ?_
  ·rw[hset,aF]at hj|-
   right
   rcases hj with hj|hj
   ·have:=aA hj
    subst this
    exact hpre p hp
   ·exact hcl j hj p hp
  ·have:(List.range ops.size).countP (λj => !Lst (listed.setIfInBounds i true) j)<(List.range ops.size).countP (λj => !Lst listed j):=by
    refine Ytl (i:=i) (List.mem_range.2 hlt) (by simp[hni]) (by rw[hset];simp) λj hj => ?_
    rw[hset]at hj
    simp only[aL,bp]at hj|-
    exact hj.2
   omega
  ·rw[hset,aF]at hdl
   rcases hdl with hdl|hdl
   ·exact hasm' d hd (aA hdl)
   ·exact hasm d hd hdl
end
section
variable {P:Program}{E:Ent P}{ops:Array Oper}{ms:List Nat}{bls:List (Option Nat×List Nat)}{s0:St}
theorem Y14i (f:Nat->Bool):∀ (a b:List Eff) (s:St),Ymn f s (a++b)=Ymn f (Ymn f s a) b
 | [],b,s=>rfl
 | d :: a,b,s=>by
  simp only[bE,Ymn]
  split<;>exact Y14i f a b _
theorem Yxr {f:Nat->Bool}:∀ {b:List Eff}{s:St},(∀ d∈b,f d.i=false)->Ymn f s b=s
 | [],_,_=>rfl
 | d :: b,s,h=>by
  simp only[Ymn,h d aj]
  exact Yxr λe he=>h e (ai _ he)
def Y1l8 (P:Program) (ops:Array Oper) (ms:List Nat) (bls:List (Option Nat×List Nat)) (s0:St):List Eff->List Eff->Prop
 | _,[]=>True
 | pre,d :: r=>Y1ce P ops ms bls s0 pre d/\Y1l8 P ops ms bls s0 (pre++[d]) r
theorem Yw0:∀ {it:List Item}{K:Prop},Y165 it K->Y165 it True/\K
 | [],_,h=>⟨trivial,h⟩
 | .asm _ :: r,_,h=>Yw0 (it:=r) h
 | .obl _ :: r,_,h=>⟨⟨h.1,(Yw0 (it:=r) h.2).1⟩,(Yw0 (it:=r) h.2).2⟩
theorem Y1nm {src:Bool}{v:AV}{q:List Orc}{k:AV->List Orc->Prop}(h:Y18s src v q k):∃ q',k v q':=by
 unfold Y18s at h
 split at h
 ·rename_i b
  split at h
  ·obtain⟨rfl,h⟩:=h;exact⟨_,h⟩
  ·cases b
   ·exact⟨_,h.2 rfl⟩
   ·exact⟨_,h.1 rfl⟩
  ·cases h
 ·exact⟨_,h⟩
theorem Yw7:∀ {l:List Nat}{n:Nat}{pre:List Eff}{its:List Item}{q:List Orc}{k:List Eff->List Item->List Orc->Prop},Y15c P ops ms bls s0 l n pre its q k ->
  ∃ r q',Y1l8 P ops ms bls s0 pre r/\k (pre++r) (its++r.flatMap (·.it)) q'
 | [],n,pre,its,q,k,h=>⟨[],q,trivial,by simpa[Y15c] using h⟩
 | i :: l,n,pre,its,q,k,h=>by
  unfold Y15c at h
  split at h
  ·exact h.elim
  ·rename_i o ho
   rw[Y1x7]at h
   split at h
   ·cases h
   ·rename_i hw
    rw[Ypv,Ynl Y1h8]at h
    obtain⟨r,q',hc,hk⟩:=Yw7 h
    refine⟨(⟨i,o.dst,.tup [],n,Ynx o,{},[]⟩:Eff) :: r,q',⟨⟨o,ho,rfl,.inl ⟨hw,rfl,rfl,rfl⟩⟩,hc⟩,?_⟩
    rw[aH]at hk
    simpa only[bU,bq,List.singleton_append,aH] using hk
   ·rename_i hw
    split at h
    ·cases h
    ·rename_i r1 it q1 he
     obtain⟨hob,h⟩:=Yw0 h
     rw[Y1xj]at h
     obtain⟨q2,h⟩:=Y1nm h
     rw[Ypv,Ynl Y1h8,Ynl Y1h8]at h
     obtain⟨r,q',hc,hk⟩:=Yw7 h
     refine⟨(⟨i,o.dst,r1.val,n,Ynx o,r1,it⟩:Eff) :: r,q',⟨⟨o,ho,rfl,.inr ⟨hw,rfl,rfl,⟨q,q1,he⟩,hob⟩⟩,hc⟩,?_⟩
     rw[aH]at hk
     simpa only[bU,List.singleton_append,aH] using hk
theorem Y1lf {n i:Nat}{pre r:List Eff}(h:∀ d∈r,(ms.getD i 0).testBit d.i=false):mkS n ms bls s0 (pre++r) i=mkS n ms bls s0 pre i:=by
 unfold mkS
 rw[Y14i,Yxr h]
theorem Y10y (hms:ms=Yry ops ops.size) (hp:∀ i,∀ p∈Ylz ops i,p<i):∀ {r pre:List Eff},(pre++r).map (·.i)=List.range ops.size->Y1l8 P ops ms bls s0 pre r->∀ d∈r,Y1ce P ops ms bls s0 (pre++r) d
 | d :: r,pre,hr,hc,x,hx=>by
  have hassoc:pre++d :: r=(pre++[d])++r:=by simp
  rcases List.mem_cons.1 hx with rfl|hx
  ·have hpw:((pre++x :: r).map (·.i)).Pairwise (· < ·):=by rw[hr];exact List.pairwise_lt_range
   have hpw2:(x :: r).Pairwise λa b=>a.i<b.i:=(List.pairwise_append.1 (List.pairwise_map.1 hpw)).2.1
   have hxi:x.i<ops.size:=by
    have:x.i∈(pre++x :: r).map (·.i):=dn sW
    rw[hr]at this;simpa using this
   have e:mkS ops.size ms bls s0 (pre++x :: r) x.i=mkS ops.size ms bls s0 pre x.i:=by
    refine Y1lf λd hd => ?_
    rw[hms,Yte ops _ _ hxi,<- bn]
    intro hb
    have hlt:=Y1cd hp (x.i+1) x.i d.i oW hb
    rcases List.mem_cons.1 hd with rfl|hd
    ·omega
    ·have:=(List.pairwise_cons.1 hpw2).1 d hd;omega
   have hg:=hc.1
   unfold Y1ce at hg|-
   rw[e];exact hg
  ·rw[hassoc]
   exact Y10y hms hp (by rw[<- hassoc];exact hr) hc.2 x hx
theorem Y1fn:∀ {x y:Option Nat},Y1vh x y->x=y
 | none,none,_=>rfl
 | some x,some y,h=>by rw[aA h]
theorem Yyo:∀ {a b:List Item},Yq9 a->Yq9 b->Yq9 (a++b)
 | [],b,_,h=>h
 | .asm _ :: a,b,h,k=>⟨h.1,Yyo h.2 k⟩
 | .obl _ :: a,b,h,k=>Yyo (a:=a) h k
theorem Y11l:∀ {ds:List Eff},(∀ d∈ds,Yq9 d.it)->Yq9 (ds.flatMap (·.it))
 | [],_=>trivial
 | d :: ds,h=>by
  rw[bU]
  exact Yyo (h d aj) (Y11l λe he=>h e (ai _ he))
theorem Yui (n j:Nat):Lst (Array.replicate n false) j=false:=by
 simp only[Lst,bA,Array.getElem?_replicate]
 split<;>rfl
inductive StuckDraw (s:St) (ds:List Eff):Prop
def fBl (p:Option Nat×List Nat) (k:Option Nat×List Nat->Prop):Prop:=match p with
 | (d,l)=>Yoy Yqb l λl=>k (d,l)
theorem Y1qb (p:Option Nat×List Nat) (k:Option Nat×List Nat->Prop):fBl p k=k p:=by
 cases p;simp[fBl,Ynl Ypv]
def Y1ln (P:Program) (ops:Array Oper) (tids:List (Nat×List Nat)) (s:St) (q:List Orc) (k:St->List Orc->Prop):Prop:=
 Yoy Yqb (Yry ops ops.size) λms=>Yoy fBl (Y13a ops tids (List.range ops.size) s.objs.length) λbls=>fSt (s.grow (Y108 ops (List.range ops.size))) λs0=>Yqb s.objs.length λn0=>
 Y15c P ops ms bls s0 (List.range ops.size) n0 [] [] q λds its q=>
  match Y16b ops ms bls n0 (n0+Y108 ops (List.range ops.size)) ds with
  | true=>Y1fz its (Yy5 (λ_=>true) s0 ds λs=>fSt s.shrink λs=>k s q)
  | false=>StuckDraw s ds
theorem Y1i0 (hm:P.follows .mixedOrders) {id:Nat}{tids:List (Nat×List Nat)}{s:St}{q:List Orc}{k:St->List Orc->Prop}{Q:Exit->Act->World->Prop}{ι:Interp}{a:Act}{w:World}
  (hx:Y1ln P ops tids s q k) (h:Rel E s ι a w) (hk:∀ s' q' ι' a' w',k s' q'->Rel E s' ι' a' w'->Q .normal a' w'):(Code.region id ops true).wp P Q a w:=by
 unfold Y1ln at hx
 rw[Ynl Ypv,Ynl Y1qb,Yx7,Ypv]at hx
 obtain⟨ds,q',hc,hfin⟩:=Yw7 hx
 simp only[bq]at hc hfin
 split at hfin
 ·rename_i hd
  rw[Yxa,Yx7]at hfin
  simp only[Y16b,af,am,beq_iff_eq]at hd
  obtain⟨⟨hidx,hpre⟩,hall⟩:=hd
  have hp:∀ i,∀ p∈Ylz ops i,p<i:=by
   intro i p hpi
   by_cases hi:i<ops.size
   ·have h1:=hpre i (List.mem_range.2 hi) p hpi
    exact bz h1
   ·have hn:ops[i]? = none:=Array.getElem?_eq_none (cG hi)
    simp[Ylz,hn]at hpi
  have hgood:=Y10y (pre:=[]) rfl hp (by simpa using hidx) hc
  have pl:DPlan P ops (Yry ops ops.size) (Y13a ops tids (List.range ops.size) s.objs.length) (s.grow (Y108 ops (List.range ops.size))) ds:=by
   refine⟨rfl,by simpa using hgood,hidx,hp,λd hdm => ?_,λd hdm x h1 h2 => ?_,λd hdm e hem hne hnb p hpm => ?_,λd hdm e hem hu => ?_⟩
   ·obtain⟨⟨⟨⟨⟨h1,h2⟩,h3⟩,_⟩,_⟩,_⟩:=hall d hdm
    exact⟨Y1fn h1,h2,h3⟩
   ·obtain⟨⟨⟨_,h4⟩,h5⟩,_⟩:=hall d hdm
    have h4:=bz h4
    have h5:=bz h5
    refine⟨?_,by simp[St.grow];omega⟩
    rw[Yqs]
    simp[St.obj,bf (show s.objs.length<=x by omega)]
   ·have h6:=((hall d hdm).2 e hem).1
    simp only[aF,am]at h6
    rcases h6 with h6|h6
    ·rcases h6 with h6|h6
     ·exact absurd (aA h6) hne
     ·rw[hnb]at h6;cases h6
    ·rcases h6 p hpm with h7|h7
     ·exact .inl (bz h7)
     ·exact .inr (bz h7)
   ·have h6:=((hall d hdm).2 e hem).2
    rw[hu]at h6
    simpa using h6
  refine wp_region_any hm (Y1rw pl (E:=E) (λι a w hr hasm=>hk _ _ ι a w (Y112 hfin (Y11l hasm)) (Rel.shrink hr)) ops.size _ ι a _ sW (λj hj => ?_) ?_ ?_ λd hd hl => ?_)
  ·rw[Yui]at hj;cases hj
  ·exact aN List.countP_le_length sW
  ·have hnone:∀ d∈ds,Lst (Array.replicate ops.size false) d.i=false:=λd _=>Yui _ _
   rw[Yxr hnone]
   exact(h.grow _).world rfl rfl rfl
  ·exfalso
   rw[Yui]at hl;cases hl
 ·cases hfin
end
section
variable {P:Program}{E:Ent P}{s:St}{ι:Interp}{a:Act}{w:World}
theorem Y14b (w:World) {b c:Nat}(r q:Array Value) (h:b≠c):(w.setRow b r).setRow c q=(w.setRow c q).setRow b r:=by
 unfold World.setRow
 simp only[World.mk.injEq,dP]
 apply Array.ext_getElem?
 intro i
 simp only[Array.getElem?_modify]
 by_cases h1:b=i
 ·subst h1;simp[cv h]
 ·by_cases h2:c=i
  ·subst h2;simp[h1]
  ·simp[h1,h2]
def Yzg (P:Program) (s:St) (T:TypeId) (ad x:Operand):Option (Nat×Nat×List (List Cell)):=
 match s.ac ad,s.ev x,Ypc P T with
 | some (.eptr j i off),some (.sv v),some n=>match s.obj j,Yrp v with
  | .arr own sz es,some l=>(match Nat.beq l.length n&&Nat.ble (off+n) sz with
   | true=>some (j,i,es)
   | false=>none)
  | _,_=>none
 | _,_,_=>none
theorem Y184 (h:Rel E s ι a w) {T:TypeId}{ad x:Operand}{j i:Nat}{es:List (List Cell)}(e:Yzg P s T ad x=some (j,i,es)) (hi:i<es.length) :
  ∃ b row,ι.fp j b/\∀ w':World,w'.heap[b]? = w.heap[b]? -> (Instr.storeAt T (a.eval ad) (a.eval x)).run P w'=.ok () (w'.setRow b row):=by
 unfold Yzg at e
 split at e
 ·rename_i j' i' off v n hc hv hT
  split at e
  ·rename_i own sz es' l hob hl
   split at e
   ·rename_i hb
    simp only[aa,al]at e
    obtain⟨rfl,rfl,rfl⟩:=e
    simp only[af]at hb
    have h1:=aA hb.1
    have h2:=bz hb.2
    obtain⟨b,hbk,hp⟩:=(Yn7 h hc).2 _ _ _ hob
    have hor:=h.objs j'
    rw[hob]at hor
    obtain⟨ty,xs,Fs,k1,k2,k3,_⟩:=hor
    have hcs:=Yrm hl (Ypy h hv)
    have hlen:(a.eval x).cells.toList.length=n:=by rw[<- hcs.length];exact h1
    have hone:∀ u∈(a.eval x).cells.toList,u.oneCell':=by
     intro u hu
     obtain⟨k,hk⟩:=cn hu
     obtain⟨c,_,hc⟩:=hcs.flip.get_left hk
     exact hc.2
    rcases k1.2 with ⟨_,hz⟩|⟨g,cap,cur,fz,hg,hnz,hheap,hle,_,hsz,_⟩
    ·omega
    ·rw[hg]at hbk
     simp only[Value.ownBlock,aa]at hbk
     subst hbk
     refine⟨g,(splice (i' * sz+off) (a.eval x).cells.toList cur.toList).toArray,k3 g (by rw[hg];rfl),λw' hw' => ?_⟩
     rw[hp]
     refine Ytx hT (hw'.trans hheap) hnz hlen ?_ hone
     have:(i'+1) * sz<=cap * sz:=cP sz oW
     rw[bZ]at this
     omega
   ·cases e
  ·cases e
 ·cases e
theorem Yux {o:Oper}{T:TypeId}{ad x:Operand}(ho:o.op=.store T ad x) (hd:o.dst=none) {w':World}(hr:(Instr.storeAt T (a.eval ad) (a.eval x)).run P w=.ok () w') {K:Act->World->Prop}{Q:Exit->Act->World->Prop} :
  o.wp P a w K Q ↔ K a w':=by
 have he:(execOp a.eval o).run P w=.ok .skip w':=by
  simp only[execOp,ho]
  rw[aQ,hr];rfl
 unfold Oper.wp
 rw[he]
 show K (a.put o.dst undef) w' ↔ _
 rw[hd];rfl
theorem Y1ev {α:Type}(x y:Int) (sg:Bool) (c:BoundsCode) {w w1:World}{v:α}:(runtimePanic (.bounds x y sg c):Sem α).run P w≠.ok v w1:=by
 intro h
 unfold runtimePanic at h
 rw[aQ]at h
 cases h
theorem Y1j4 {α β:Type}{m:Sem β}{f:β->Sem α}(hf:∀ b w w1 v,(f b).run P w≠.ok v w1) {w w1:World}{v:α}:(m >>= f).run P w≠.ok v w1:=by
 intro h
 rw[aQ]at h
 cases hr:m.run P w with
 | ok b w2=>rw[hr]at h;exact hf b w2 w1 v h
 | halt e w2=>rw[hr]at h;cases h
theorem Y1aq {α:Type}(kd:IntKind) (x y:Int) (c:BoundsCode) {w w1:World}{v:α}:(boundsPanic kd x y c:Sem α).run P w≠.ok v w1:=by
 unfold boundsPanic
 dsimp only
 split
 ·exact Y1j4 λb w w1 v=>Y1ev _ _ _ _
 ·exact Y1j4 λb w w1 v=>Y1ev _ _ _ _
theorem Y1mp {T elem:TypeId}{x i:Value}{v:Value}{w w1:World}{sz:Nat}(hT:P.underlying T=some (.slice elem)) (hz:Ypc P elem=some sz) (h:(Instr.indexAt T x i).run P w=.ok v w1):w1=w/\∀ w',(Instr.indexAt T x i).run P w'=.ok v w':=by
 unfold Instr.indexAt at h|-
 cases i with
 | int kd n=>
  simp only[asIntOf,aQ,bC,aZ,aK hT]at h|-
  cases x with
  | slice base len cap=>
   simp only[aQ,bC,aZ,aK hT]at h|-
   cases base with
   | none=>exact absurd h (Y1aq _ _ _ _)
   | some b=>
    simp only[Bool.and_false,cu,cT]at h|-
    split at h
    ·rename_i hc
     rw[ae hc]
     simp only[aQ,Yro hz,aZ,bC,Result.ok.injEq]at h|-
     obtain⟨rfl,rfl⟩:=h
     exact⟨rfl,λ_=>⟨rfl,trivial⟩⟩
    ·exact absurd h (Y1aq _ _ _ _)
  | _=>simp[stuck]at h
 | pointer a=>cases a<;>simp[asIntOf,stuck,unsupported]at h
 | _=>simp[asIntOf,stuck]at h
def Ym9 (ops:Array Oper) (p q:Nat):Array Oper:=match ops[q]? with
 | some o=>ops.setIfInBounds q { o with after:=o.after.push ⟨p,.data⟩ }
 | none=>ops
variable {ops:Array Oper}{p q c:Nat}
theorem Yxg:(Ym9 ops p q).size=ops.size:=by unfold Ym9;split<;>simp
theorem Ysv {i:Nat}(h:i≠q):(Ym9 ops p q)[i]? = ops[i]? := by
 unfold Ym9;split
 ·rw[cF,ab (cv h)]
 ·rfl
theorem Yxz {o:Oper}(ho:ops[q]? = some o):(Ym9 ops p q)[q]? = some { o with after:=o.after.push ⟨p,.data⟩ }:=by
 have hl:q<ops.size:=(Array.getElem?_eq_some_iff.1 ho).1
 unfold Ym9;rw[ho]
 simp[hl]
theorem Ysw {i x:Nat}(h:x∈Ylz ops i):x∈Ylz (Ym9 ops p q) i:=by
 by_cases hi:i=q
 ·subst hi
  cases ho:ops[i]? with
  | none=>simp[Ylz,ho]at h
  | some o=>
   obtain⟨e,h1,h2,h3⟩:=(Yqo ho).1 h
   exact(Yqo (Yxz ho)).2 ⟨e,Array.mem_push.2 (.inl h1),h2,h3⟩
 ·unfold Ylz at h|-;rw[Ysv hi];exact h
theorem Yvs {listed:Array Bool}{i:Nat}(h:i∈Region.ready .any ops listed) (hq:i≠q\/Lst listed p):i∈Region.ready .any (Ym9 ops p q) listed:=by
 obtain⟨h0,o,ho,hall⟩:=mem_ready.1 h
 refine mem_ready.2 ⟨h0,?_⟩
 by_cases hi:i=q
 ·subst hi
  refine⟨_,Yxz ho,λe he hb => ?_⟩
  rcases Array.mem_push.1 he with he|rfl
  ·exact hall e he hb
  ·exact hq.resolve_left (λh=>h rfl)
 ·exact⟨o,by rw[Ysv hi];exact ho,hall⟩
theorem Y18g (tmps:Array Value):yielded (Ym9 ops p q) tmps=yielded ops tmps:=by
 funext j
 unfold yielded
 by_cases hj:j=q
 ·subst hj
  cases ho:ops[j]? with
  | none=>
   have:(Ym9 ops p j)[j]? = none:=by unfold Ym9;rw[ho];exact ho
   rw[this]
  | some o=>rw[Yxz ho];rfl
 ·rw[Ysv hj]
theorem Yu2 {Q:Exit->Act->World->Prop}{i:Nat}{K:Act->World->Prop}{a:Act}{w:World}:wpOp P (Ym9 ops p q) Q i K a w ↔ wpOp P ops Q i K a w:=by
 unfold wpOp
 rw[Y18g]
 by_cases hi:i=q
 ·subst hi
  cases ho:ops[i]? with
  | none=>
   have:(Ym9 ops p i)[i]? = none:=by unfold Ym9;rw[ho];exact ho
   rw[this]
  | some o=>rw[Yxz ho];exact dQ
 ·rw[Ysv hi]
theorem Y1bp {Q:Exit->Act->World->Prop}{listed:Array Bool}{a:Act}{w:World}(h:Region.ready .any ops listed=[]) (hQ:Q .normal a w):∀ f,wpAny P .any ops Q f listed a w
 | 0=>⟨h,hQ⟩
 | f+1=>⟨λ_=>hQ,λi hi=>by rw[h]at hi;cases hi⟩
theorem Y121 {Q:Exit->Act->World->Prop}{listed:Array Bool}{a:Act}{w:World}{i:Nat}{f:Nat}(h:i∈Region.ready .any ops listed) (ho:∀ j∈Region.ready .any ops listed,j=i) (hK:wpOp P ops Q i (wpAny P .any ops Q f (listed.setIfInBounds i true)) a w):wpAny P .any ops Q (f+1) listed a w:=by
 refine ah (λhn => ?_) (λj hj => ?_)
 ·rw[hn]at h;cases h
 ·have e:=ho j hj
  subst e;exact hK
structure Swap (P:Program) (ops:Array Oper) (p q c:Nat):Prop where
 st:∃ op oq oc Tp Tq Tc adp xp adq xq xc ic d elem sz,ops[p]? = some op/\ops[q]? = some oq/\ops[c]? = some oc/\op.op=.store Tp adp xp/\oq.op=.store Tq adq xq/\oc.op=.indexAddr Tc xc ic /\
  op.dst=none/\oq.dst=none/\oc.dst=some d/\op.guard=none/\oq.guard=none/\oc.guard=none/\adq≠.tmp d/\xq≠.tmp d/\P.underlying Tc=some (.slice elem)/\Ypc P elem=some sz
 ne:p≠q/\c≠q/\c≠p
 rest:∀ j,j<ops.size->j≠p->j≠q->j≠c->(mk ops q).testBit j
 prc:∀ x∈Ylz ops c,x≠p/\x≠q/\x≠c
 prp:(∀ x∈Ylz ops p,x≠q/\x≠p)/\c∈Ylz ops p
 prq:∀ x∈Ylz ops q,x≠p/\x≠c
variable {ms:List Nat}{bls:List (Option Nat×List Nat)}{s0:St}{ds:List Eff}
abbrev FQ:Exit->Act->World->Prop:=λ_ _ _=>False
theorem Y1d1 {i:Nat}{o:Oper}{K:Act->World->Prop}(ho:ops[i]? = some o) (hg:o.guard=none) (h:wpOp P ops FQ i K a w):o.wp P a w K FQ:=by
 unfold wpOp at h
 simp only[ho,Region.wanted,hg,bx]at h
 rcases h with h|⟨_,_,_,h⟩
 ·exact h
 ·exact h.elim
theorem Y13w {i:Nat}{o:Oper}{K:Act->World->Prop}{Q:Exit->Act->World->Prop}(ho:ops[i]? = some o) (hg:o.guard=none) (h:o.wp P a w K Q):wpOp P ops Q i K a w:=by
 unfold wpOp
 simp only[ho,Region.wanted,hg,bx]
 exact .inl h
def Y17o (p q:Nat) (s0:St) (ds:List Eff):St:=Ymn (λj => !(Nat.beq j p) && !(Nat.beq j q)) s0 ds
def Y1mh (P:Program) (ops:Array Oper) (p q:Nat) (s:St):Prop:=∀ op oq Tp Tq adp xp adq xq,ops[p]? = some op->ops[q]? = some oq->op.op=.store Tp adp xp->oq.op=.store Tq adq xq ->
 ∃ j1 i1 es1 j2 i2 es2,Yzg P s Tp adp xp=some (j1,i1,es1)/\Yzg P s Tq adq xq=some (j2,i2,es2)/\j1≠j2/\i1<es1.length/\i2<es2.length
theorem Y1bw (hs:Swap P ops p q c) (pl:DPlan P (Ym9 ops p q) ms bls s0 ds) (hside:Y1mh P ops p q (Y17o p q s0 ds)) {Q:Exit->Act->World->Prop}
  (hQ:∀ ι a w,Rel E (Ymn (λ_=>true) s0 ds) ι a w->(∀ d∈ds,Yq9 d.it)->Q .normal a w) {listed:Array Bool} {ι:Interp} {a:Act} {w:World} (hsz:listed.size=ops.size)
  (hcl:∀ j,Lst listed j->∀ x∈Ylz (Ym9 ops p q) j,Lst listed x) (hl:∀ j,j<ops.size->(Lst listed j ↔ j≠p/\j≠q)) (h:Rel E (Ymn (Lst listed) s0 ds) ι a w)
  (hasm:∀ d∈ds,Lst listed d.i->Yq9 d.it) {op oq:Oper} {Tp Tq:TypeId} {adp xp adq xq:Operand} (hop:ops[p]? = some op) (hoq:ops[q]? = some oq) (hp:op.op=.store Tp adp xp) (hq:oq.op=.store Tq adq xq)
  (hdp:op.dst=none) (hdq:oq.dst=none) (hgp:op.guard=none) (hgq:oq.guard=none) :
  ∃ b1 r1 b2 r2,b1≠b2/\(∀ w':World,w'.heap[b1]? = w.heap[b1]? -> (Instr.storeAt Tp (a.eval adp) (a.eval xp)).run P w'=.ok () (w'.setRow b1 r1)) /\
   (∀ w':World,w'.heap[b2]? = w.heap[b2]? -> (Instr.storeAt Tq (a.eval adq) (a.eval xq)).run P w'=.ok () (w'.setRow b2 r2))/\Q .normal a ((w.setRow b1 r1).setRow b2 r2):=by
 have hpl:p<ops.size:=(Array.getElem?_eq_some_iff.1 hop).1
 have hql:q<ops.size:=(Array.getElem?_eq_some_iff.1 hoq).1
 have hpq:=hs.ne.1
 have hszT:(Ym9 ops p q).size=ops.size:=Yxg
 obtain⟨j1,i1,es1,j2,i2,es2,e1,e2,hj,h1,h2⟩:=hside op oq Tp Tq adp xp adq xq hop hoq hp hq
 have hst:Ymn (Lst listed) s0 ds=Y17o p q s0 ds:=by
  refine Yrg λd hd => ?_
  have hdl:d.i<ops.size:=by rw[<- hszT];exact pl.lt hd
  have:=hl d.i hdl
  cases hx:Lst listed d.i with
  | true=>
   have h3:=this.1 hx
   have b1:Nat.beq d.i p=false:=by rw[<- bn];exact λe=>h3.1 (aA e)
   have b2:Nat.beq d.i q=false:=by rw[<- bn];exact λe=>h3.2 (aA e)
   simp[b1,b2]
  | false=>
   by_cases k1:d.i=p
   ·rw[k1];simp[bm]
   ·by_cases k2:d.i=q
    ·rw[k2];simp[bm]
    ·exact absurd (this.2 ⟨k1,k2⟩) (by rw[hx];decide)
 have h':=h
 rw[hst]at h'
 obtain⟨b1,r1,f1,g1⟩:=Y184 h' e1 h1
 obtain⟨b2,r2,f2,g2⟩:=Y184 h' e2 h2
 have hb:b1≠b2:=λe=>h'.disj j1 j2 b1 hj f1 (by rw[e];exact f2)
 have hnp:Lst listed p=false:=by rw[<- bn];exact λe=>((hl p hpl).1 e).1 rfl
 have hnq:Lst listed q=false:=by rw[<- bn];exact λe=>((hl q hql).1 e).2 rfl
 have hunl:∀ {L:Array Bool} {j:Nat},L.size=ops.size->j<ops.size->Lst L j=false->L.getD j true=false:=by
  intro L j hL hj hf
  simp only[Lst,bA]at hf|-
  rw[cj oW]at hf|-
  exact hf
 have hrp:p∈Region.ready .any (Ym9 ops p q) listed:=by
  refine mem_ready.2 ⟨hunl hsz hpl hnp,op,by rw[Ysv hpq];exact hop,λe he hb => ?_⟩
  have hm:e.on∈Ylz ops p:=(Yqo hop).2 ⟨e,he,hb,rfl⟩
  have hx:=hs.prp.1 _ hm
  have hm':=pl.pre p e.on (Ysw hm)
  exact(hl e.on oW).2 ⟨hx.2,hx.1⟩
 have s1:=Yvf pl (Q:=FQ) hrp (by rw[hszT];exact hsz) hcl h (K:=λa1 w1=>∃ ι1,Rel E (Ymn (Lst (listed.setIfInBounds p true)) s0 ds) ι1 a1 w1/\∀ d∈ds,d.i=p->Yq9 d.it) (λι1 a1 w1 k1 k2=>⟨ι1,k1,k2⟩)
 obtain⟨ι1,k1,k2⟩:=(Yux hp hdp (g1 w rfl)).1 (Y1d1 hop hgp (Yu2.1 s1))
 have hset:=λj=>Yqv (listed:=listed) (i:=p) oW j
 have hsz1:(listed.setIfInBounds p true).size=ops.size:=by simpa using hsz
 have hcl1:∀ j,Lst (listed.setIfInBounds p true) j->∀ x∈Ylz (Ym9 ops p q) j,Lst (listed.setIfInBounds p true) x:=by
  intro j hj x hx
  rw[hset,aF]at hj|-
  right
  rcases hj with hj|hj
  ·have:=aA hj
   subst this
   exact(Yo9 hrp (by rw[hszT];exact hsz)).2.2 x hx
  ·exact hcl j hj x hx
 have hrq:q∈Region.ready .any (Ym9 ops p q) (listed.setIfInBounds p true):=by
  refine Yvs (mem_ready.2 ⟨hunl hsz1 hql (by rw[hset,hnq,Bool.or_false,<- bn];exact λe=>hpq (aA e).symm),oq,hoq,λe he hb => ?_⟩) (.inr (by rw[hset];simp[bm]))
  have hm:e.on∈Ylz ops q:=(Yqo hoq).2 ⟨e,he,hb,rfl⟩
  have hm':=pl.pre q e.on (Ysw hm)
  have:Lst (listed.setIfInBounds p true) e.on:=by
   rw[hset,aF]
   exact .inr ((hl e.on oW).2 ⟨(hs.prq _ hm).1,by omega⟩)
  exact this
 have s2:=Yvf pl (Q:=FQ) hrq (by rw[hszT];exact hsz1) hcl1 k1 (K:=λa2 w2=>∃ ι2,Rel E (Ymn (Lst ((listed.setIfInBounds p true).setIfInBounds q true)) s0 ds) ι2 a2 w2/\∀ d∈ds,d.i=q->Yq9 d.it) (λι2 a2 w2 k1 k2=>⟨ι2,k1,k2⟩)
 have hw1:(w.setRow b1 r1).heap[b2]? = w.heap[b2]? := du w b1 b2 r1 (cv hb)
 obtain⟨ι2,m1,m2⟩:=(Yux hq hdq (g2 _ hw1)).1 (Y1d1 hoq hgq (Yu2.1 s2))
 refine⟨b1,r1,b2,r2,hb,g1,g2,hQ ι2 a _ ?_ λd hd => ?_⟩
 ·rw[Yrg (g:=λ_=>true) λd hd => ?_]at m1
  ·exact m1
  ·have hdl:d.i<ops.size:=by rw[<- hszT];exact pl.lt hd
   rw[Yqv oW,Yqv oW]
   by_cases c1:d.i=q
   ·rw[c1];simp[bm]
   ·by_cases c2:d.i=p
    ·rw[c2];simp[bm]
    ·simp[(hl d.i hdl).2 ⟨c2,c1⟩]
 ·have hdl:d.i<ops.size:=by rw[<- hszT];exact pl.lt hd
  by_cases c1:d.i=q
  ·exact m2 d hd c1
  ·by_cases c2:d.i=p
   ·exact k2 d hd c2
   ·exact hasm d hd ((hl d.i hdl).2 ⟨c2,c1⟩)
theorem Ywv {i j:Nat}(h:i≠j):Nat.beq i j=false:=by rw[<- bn];exact λe=>h (aA e)
theorem Y10q {listed:Array Bool}{i:Nat}{o:Oper}(hsz:listed.size=ops.size) (ho:ops[i]? = some o) (hn:Lst listed i=false) (hp:∀ x∈Ylz ops i,Lst listed x):i∈Region.ready .any ops listed:=by
 have hi:i<ops.size:=(Array.getElem?_eq_some_iff.1 ho).1
 refine mem_ready.2 ⟨?_,o,ho,λe he hb=>hp e.on ((Yqo ho).2 ⟨e,he,hb,rfl⟩)⟩
 simp only[Lst,bA]at hn|-
 rw[cj oW]at hn|-
 exact hn
theorem Y16y {f:Nat->Bool}{n i j:Nat}(hi:i<n) (hj:j<n) (hij:i≠j) (h1:f i) (h2:f j):2<=(List.range n).countP f:=by
 have h3:=Ytl (p:=f) (q:=λx=>f x && !(Nat.beq x i)) (i:=i) (l:=List.range n) (List.mem_range.2 hi) h1 (by simp[bm]) (λx hx=>by simp at hx;exact hx.1)
 have h4:=Ytl (p:=λx=>f x && !(Nat.beq x i)) (q:=λx=>f x && !(Nat.beq x i) && !(Nat.beq x j)) (i:=j) (l:=List.range n) (List.mem_range.2 hj) (by simp[h2,Ywv (cv hij)]) (by simp[bm]) (λx hx=>by simp at hx;simp[hx.1])
 omega
theorem Y1tu (hs:Swap P ops p q c) (pl:DPlan P (Ym9 ops p q) ms bls s0 ds) (hside:Y1mh P ops p q (Y17o p q s0 ds)) {Q:Exit->Act->World->Prop}
  (hQ:∀ ι a w,Rel E (Ymn (λ_=>true) s0 ds) ι a w->(∀ d∈ds,Yq9 d.it)->Q .normal a w) :
  ∀ (fuel:Nat) (listed:Array Bool) (ι:Interp) (a:Act) (w:World),listed.size=ops.size->(∀ j,Lst listed j->∀ x∈Ylz (Ym9 ops p q) j,Lst listed x) ->
   (List.range ops.size).countP (λj => !Lst listed j)<=fuel->Rel E (Ymn (Lst listed) s0 ds) ι a w->(∀ d∈ds,Lst listed d.i->Yq9 d.it)->wpAny P .any ops Q fuel listed a w:=by
 intro fuel
 have hszT:(Ym9 ops p q).size=ops.size:=Yxg
 have hpre:∀ i,∀ x∈Ylz ops i,x<i:=λi x hx=>pl.pre i x (Ysw hx)
 have hend:∀ (listed:Array Bool) (ι:Interp) (a:Act) (w:World),listed.size=ops.size->Rel E (Ymn (Lst listed) s0 ds) ι a w->(∀ d∈ds,Lst listed d.i->Yq9 d.it) ->
   Region.ready .any ops listed=[]->Q .normal a w:=by
  intro listed ι a w hsz h hasm hnil
  have hall:∀ d∈ds,Lst listed d.i:=λd hd=>Y12o hnil hsz hpre (d.i+1) d.i oW (by rw[<- hszT];exact pl.lt hd)
  refine hQ ι a w ?_ λd hd=>hasm d hd (hall d hd)
  rw[Yrg (g:=λ_=>true) hall]at h
  exact h
 induction fuel with
 | zero=>
  intro listed ι a w hsz hcl hun h hasm
  have hnil:Region.ready .any ops listed=[]:=by
   cases hr:Region.ready .any ops listed with
   | nil=>rfl
   | cons i l=>
    exfalso
    obtain⟨h1,h2,_⟩:=Yo9 (ops:=ops) (i:=i) (by rw[hr];exact aj) hsz
    have h0:(List.range ops.size).countP (λj => !Lst listed j)=0:=Nat.le_zero.1 hun
    have:=List.countP_eq_zero.1 h0 i (List.mem_range.2 h2)
    simp[h1]at this
  exact⟨hnil,hend listed ι a w hsz h hasm hnil⟩
 | succ fuel ih=>
  intro listed ι a w hsz hcl hun h hasm
  refine⟨hend listed ι a w hsz h hasm,λi hi => ?_⟩
  obtain⟨hni,hlt,hprd⟩:=Yo9 hi hsz
  by_cases hbad:i=q/\Lst listed p=false
  ·
   obtain⟨rfl,hnp⟩:=hbad
   obtain⟨op,oq,oc,Tp,Tq,Tc,adp,xp,adq,xq,xc,ic,d,elem,sz,hop,hoq,hoc,hp,hq,hc,hdp,hdq,hdc,hgp,hgq,hgc,hn1,hn2,hT,hz⟩:=hs.st
   obtain⟨hpq,hcq,hcp⟩:=hs.ne
   have hpl:p<ops.size:=(Array.getElem?_eq_some_iff.1 hop).1
   have hcL:c<ops.size:=(Array.getElem?_eq_some_iff.1 hoc).1
   have hclO:∀ j,Lst listed j->∀ x∈Ylz ops j,Lst listed x:=λj hj x hx=>hcl j hj x (Ysw hx)
   have hrest:∀ j,j<ops.size->j≠p->j≠i->j≠c->Lst listed j:=λj hj h1 h2 h3=>
    Yy2 (L:=λj=>Lst listed j) hclO (i+1) i j oW hprd (hs.rest j hj h1 h2 h3)
   have hset:=λj=>Yqv (listed:=listed) (i:=i) oW j
   have hsz2:(listed.setIfInBounds i true).size=ops.size:=by simpa using hsz
   have hfuel:2<=fuel+1:=aN (Y16y hpl hlt hpq (by simp[hnp]) (by simp[hni])) hun
   refine Y13w hoq hgq ?_
   cases hlc:Lst listed c with
   | true=>
    have hl:∀ j,j<ops.size->(Lst listed j ↔ j≠p/\j≠i):=λj hj=>by
     constructor
     ·intro e;exact⟨λe2=>(by rw[e2,hnp]at e;cases e),λe2=>(by rw[e2,hni]at e;cases e)⟩
     ·rintro⟨h1,h2⟩
      by_cases h3:j=c
      ·rw[h3];exact hlc
      ·exact hrest j hj h1 h2 h3
    obtain⟨b1,r1,b2,r2,hb,g1,g2,hfin⟩:=Y1bw hs pl hside hQ hsz hcl hl h hasm hop hoq hp hq hdp hdq hgp hgq
    refine(Yux hq hdq (g2 w rfl)).2 ?_
    obtain⟨f,rfl⟩:∃ f,fuel=f+1:=⟨fuel - 1,by omega⟩
    have hprp:∀ x∈Ylz ops p,Lst (listed.setIfInBounds i true) x:=λx hx=>by
     have h1:=hs.prp.1 x hx
     rw[hset,aF]
     exact .inr ((hl x (by have:=hpre p x hx;omega)).2 ⟨h1.2,h1.1⟩)
    refine Y121 (i:=p) (Y10q hsz2 hop (by rw[hset,hnp,Ywv hpq];rfl) hprp) (λj hj => ?_) ?_
    ·obtain⟨k1,k2,_⟩:=Yo9 hj hsz2
     rw[hset,bp]at k1
     by_cases hjp:j=p
     ·exact hjp
     ·exfalso
      have hji:j≠i:=λe=>by rw[e,bm]at k1;cases k1.1
      have:=(hl j k2).2 ⟨hjp,hji⟩
      rw[this]at k1;cases k1.2
    ·refine Y13w hop hgp ((Yux hp hdp (g1 _ (du w b2 b1 r2 hb))).2 ?_)
     refine Y1bp ?_ (by rw[Y14b w r2 r1 (cv hb)];exact hfin) f
     cases hr:Region.ready .any ops ((listed.setIfInBounds i true).setIfInBounds p true) with
     | nil=>rfl
     | cons j l=>
      exfalso
      obtain⟨k1,k2,_⟩:=Yo9 (ops:=ops) (i:=j) (by rw[hr];exact aj) (by simpa using hsz2)
      rw[Yqv oW,hset,bp,bp]at k1
      have hjp:j≠p:=λe=>by rw[e,bm]at k1;cases k1.1
      have hji:j≠i:=λe=>by rw[e,bm]at k1;cases k1.2.1
      have:=(hl j k2).2 ⟨hjp,hji⟩
      rw[this]at k1;cases k1.2.2
   | false=>
    have hprc:∀ x∈Ylz ops c,Lst listed x:=λx hx=>by
     have h1:=hs.prc x hx
     exact hrest x (by have:=hpre c x hx;omega) h1.1 h1.2.1 h1.2.2
    have hrc:c∈Region.ready .any (Ym9 ops p i) listed:=Yvs (Y10q hsz hoc hlc hprc) (.inl hcq)
    have s1:=Yvf pl (Q:=FQ) hrc (by rw[hszT];exact hsz) hcl h (K:=λa1 w1=>∃ ι1,Rel E (Ymn (Lst (listed.setIfInBounds c true)) s0 ds) ι1 a1 w1/\∀ d∈ds,d.i=c->Yq9 d.it) (λι1 a1 w1 k1 k2=>⟨ι1,k1,k2⟩)
    have s2:=Y1d1 hoc hgc (Yu2.1 s1)
    unfold Oper.wp at s2
    have hex:∀ w',(execOp a.eval oc).run P w'=(do pure (Next.value (<- Instr.indexAt Tc (a.eval xc) (a.eval ic))):Sem Next).run P w':=λw'=>by simp only[execOp,hc]
    rw[hex,aQ]at s2
    cases hix:(Instr.indexAt Tc (a.eval xc) (a.eval ic)).run P w with
    | halt e w1=>
     exfalso
     rw[hix]at s2
     cases e<;>exact s2
    | ok v w1=>
     rw[hix]at s2
     obtain⟨rfl,hall⟩:=Y1mp hT hz hix
     have s3:∃ ι1,Rel E (Ymn (Lst (listed.setIfInBounds c true)) s0 ds) ι1 (a.put oc.dst v) w1/\∀ d∈ds,d.i=c->Yq9 d.it:=s2
     obtain⟨ι1,k1,k2⟩:=s3
     have hsetc:=λj=>Yqv (listed:=listed) (i:=c) oW j
     have hszc:(listed.setIfInBounds c true).size=ops.size:=by simpa using hsz
     have hl:∀ j,j<ops.size->(Lst (listed.setIfInBounds c true) j ↔ j≠p/\j≠i):=λj hj=>by
      rw[hsetc,aF]
      constructor
      ·rintro(e|e)
       ·have:=aA e
        exact⟨by omega,by omega⟩
       ·exact⟨λe2=>(by rw[e2,hnp]at e;cases e),λe2=>(by rw[e2,hni]at e;cases e)⟩
      ·rintro⟨h1,h2⟩
       by_cases h3:j=c
       ·exact .inl (by rw[h3,bm])
       ·exact .inr (hrest j hj h1 h2 h3)
     have hclc:∀ j,Lst (listed.setIfInBounds c true) j->∀ x∈Ylz (Ym9 ops p i) j,Lst (listed.setIfInBounds c true) x:=by
      intro j hj x hx
      rw[hsetc,aF]at hj|-
      right
      rcases hj with hj|hj
      ·have:=aA hj
       subst this
       exact(Yo9 hrc (by rw[hszT];exact hsz)).2.2 x hx
      ·exact hcl j hj x hx
     obtain⟨b1,r1,b2,r2,hb,g1,g2,hfin⟩:=Y1bw hs pl hside hQ hszc hclc hl k1 (λd hd hdl=>by
       rw[hsetc,aF]at hdl
       rcases hdl with e|e
       ·exact k2 d hd (aA e)
       ·exact hasm d hd e) hop hoq hp hq hdp hdq hgp hgq
     have hput:∀ y:Operand,y≠.tmp d->(a.put oc.dst v).eval y=a.eval y:=λy hy=>Act.eval_put λd' hd'=>by
      rw[hdc]at hd';cases hd';exact hy
     rw[hput adq hn1,hput xq hn2]at g2
     refine(Yux hq hdq (g2 w1 rfl)).2 ?_
     obtain⟨f,rfl⟩:∃ f,fuel=f+1:=⟨fuel - 1,by omega⟩
     refine Y121 (i:=c) (Y10q hsz2 hoc (by rw[hset,hlc,Ywv hcq];rfl) λx hx=>by rw[hset,aF];exact .inr (hprc x hx)) (λj hj => ?_) ?_
     ·obtain⟨m1,m2,m3⟩:=Yo9 hj hsz2
      rw[hset,bp]at m1
      by_cases hjc:j=c
      ·exact hjc
      ·exfalso
       have hji:j≠i:=λe=>by rw[e,bm]at m1;cases m1.1
       by_cases hjp:j=p
       ·have:=m3 c (by rw[hjp];exact hs.prp.2)
        rw[hset,aF]at this
        rcases this with e|e
        ·exact hcq (aA e)
        ·rw[hlc]at e;cases e
       ·have:=hrest j m2 hjp hji hjc
        rw[this]at m1;cases m1.2
     ·have hexv:(execOp a.eval oc).run P (w1.setRow b2 r2)=.ok (.value v) (w1.setRow b2 r2):=by
       rw[hex,aQ,hall];rfl
      refine Y13w hoc hgc ?_
      unfold Oper.wp
      rw[hexv]
      show wpAny P .any ops Q f _ (a.put oc.dst v) (w1.setRow b2 r2)
      have hsz3:((listed.setIfInBounds i true).setIfInBounds c true).size=ops.size:=by simpa using hsz
      have hset3:∀ j,Lst ((listed.setIfInBounds i true).setIfInBounds c true) j=(Nat.beq j c||(Nat.beq j i||Lst listed j)):=λj=>by rw[Yqv oW,hset]
      have h3:3<=f+1+1:=by
       have h4:=Ytl (p:=λj => !Lst listed j) (q:=λj => !Lst listed j && !(Nat.beq j c)) (i:=c) (l:=List.range ops.size) (List.mem_range.2 hcL) (by simp[hlc]) (by simp[bm]) (λx hx=>by simp at hx;simp[hx.1])
       have h5:=Y16y (f:=λj => !Lst listed j && !(Nat.beq j c)) hpl hlt hpq (by simp[hnp,Ywv (cv hcp)]) (by simp[hni,Ywv (cv hcq)])
       omega
      obtain⟨f',rfl⟩:∃ f',f=f'+1:=⟨f - 1,by omega⟩
      refine Y121 (i:=p) (Y10q hsz3 hop (by rw[hset3,hnp,Ywv (cv hcp),Ywv hpq];rfl) λx hx => ?_) (λj hj => ?_) ?_
      ·have h1:=hs.prp.1 x hx
       rw[hset3,aF,aF]
       by_cases hxc:x=c
       ·exact .inl (by rw[hxc,bm])
       ·exact .inr (.inr (hrest x (by have:=hpre p x hx;omega) h1.2 h1.1 hxc))
      ·obtain⟨m1,m2,_⟩:=Yo9 hj hsz3
       rw[hset3,bp,bp]at m1
       by_cases hjp:j=p
       ·exact hjp
       ·exfalso
        have hjc:j≠c:=λe=>by rw[e,bm]at m1;cases m1.1
        have hji:j≠i:=λe=>by rw[e,bm]at m1;cases m1.2.1
        have:=hrest j m2 hjp hji hjc
        rw[this]at m1;cases m1.2.2
      ·refine Y13w hop hgp ((Yux hp hdp (g1 _ (du w1 b2 b1 r2 hb))).2 ?_)
       refine Y1bp ?_ (by rw[Y14b w1 r2 r1 (cv hb)];exact hfin) f'
       cases hr:Region.ready .any ops (((listed.setIfInBounds i true).setIfInBounds c true).setIfInBounds p true) with
       | nil=>rfl
       | cons j l=>
        exfalso
        obtain⟨m1,m2,_⟩:=Yo9 (ops:=ops) (i:=j) (by rw[hr];exact aj) (by simpa using hsz)
        rw[Yqv oW,hset3,bp,bp,bp]at m1
        have hjp:j≠p:=λe=>by rw[e,bm]at m1;cases m1.1
        have hjc:j≠c:=λe=>by rw[e,bm]at m1;cases m1.2.1
        have hji:j≠i:=λe=>by rw[e,bm]at m1;cases m1.2.2.1
        have:=hrest j m2 hjp hji hjc
        rw[this]at m1;cases m1.2.2.2
  ·have hgood:i≠q\/Lst listed p:=by
    by_cases h1:i=q
    ·right
     cases h2:Lst listed p with
     | true=>rfl
     | false=>exact absurd ⟨h1,h2⟩ hbad
    ·exact .inl h1
   have hi':=Yvs hi hgood
   have hset:=λj=>Yqv (listed:=listed) (i:=i) oW j
   refine Yu2.1 (Yvf pl hi' (by rw[hszT];exact hsz) hcl h λι' a' w' hr' hasm'=>ih _ ι' a' w' (by simpa using hsz) (λj hj x hx => ?_) ?_ hr' λd hd hdl => ?_)
   ·rw[hset,aF]at hj|-
    right
    rcases hj with hj|hj
    ·have:=aA hj
     subst this
     exact(Yo9 hi' (by rw[hszT];exact hsz)).2.2 x hx
    ·exact hcl j hj x hx
   ·have:(List.range ops.size).countP (λj => !Lst (listed.setIfInBounds i true) j)<(List.range ops.size).countP (λj => !Lst listed j):=by
     refine Ytl (i:=i) (List.mem_range.2 hlt) (by simp[hni]) (by rw[hset];simp) λj hj => ?_
     rw[hset]at hj
     simp only[aL,bp]at hj|-
     exact hj.2
    omega
   ·rw[hset,aF]at hdl
    rcases hdl with hdl|hdl
    ·exact hasm' d hd (aA hdl)
    ·exact hasm d hd hdl
end
def Y1mj (x:Operand) (d:Nat):Bool:=match x with | .tmp t => !(Nat.beq t d)|_=>true
theorem Y1iq {x:Operand}{d:Nat}(h:Y1mj x d):x≠.tmp d:=by
 rintro rfl
 simp[Y1mj]at h
def Y1k2 (P:Program) (op oq oc:Oper):Bool:=match op.op,oq.op,oc.op with
 | .store _ _ _,.store _ adq xq,.indexAddr Tc _ _=>(match op.dst,oq.dst,oc.dst with
  | none,none,some d=>(match op.guard,oq.guard,oc.guard with
   | none,none,none=>Y1mj adq d&&Y1mj xq d&&(match P.underlying Tc with
    | some (.slice elem)=>(match Ypc P elem with|some _=>true|none=>false)
    | _=>false)
   | _,_,_=>false)
  | _,_,_=>false)
 | _,_,_=>false
def Y1mc (P:Program) (ops:Array Oper) (p q c:Nat):Bool:=match ops[p]?,ops[q]?,ops[c]? with
 | some op,some oq,some oc=>Y1k2 P op oq oc&&(!(Nat.beq p q) && !(Nat.beq c q) && !(Nat.beq c p)) &&
  (List.range ops.size).all (λj=>Nat.beq j p||Nat.beq j q||Nat.beq j c||((Yry ops ops.size).getD q 0).testBit j) &&
  (Ylz ops c).all (λx => !(Nat.beq x p) && !(Nat.beq x q) && !(Nat.beq x c)) &&
  ((Ylz ops p).all (λx => !(Nat.beq x q) && !(Nat.beq x p))&&(Ylz ops p).any (Nat.beq c)) &&
  (Ylz ops q).all (λx => !(Nat.beq x p) && !(Nat.beq x c))
 | _,_,_=>false
theorem Yxl {x y:Nat}(h:Nat.beq x y=false):x≠y:=ct h
theorem Y1tk {P:Program}{ops:Array Oper}{p q c:Nat}(h:Y1mc P ops p q c):Swap P ops p q c:=by
 unfold Y1mc at h
 split at h
 ·rename_i op oq oc hop hoq hoc
  simp only[af,aL,am,cJ,aF]at h
  obtain⟨⟨⟨⟨⟨h1,⟨h2,h3⟩,h4⟩,h5⟩,h6⟩,h7,h8⟩,h9⟩:=h
  refine⟨?_,⟨Yxl h2,Yxl h3,Yxl h4⟩,λj hj e1 e2 e3 => ?_,λx hx => ?_,⟨λx hx => ?_,?_⟩,λx hx => ?_⟩
  ·unfold Y1k2 at h1
   split at h1
   ·rename_i Tp adp xp Tq adq xq Tc xc ic ep eq ec
    split at h1
    ·rename_i d dp dq dc
     split at h1
     ·rename_i gp gq gc
      simp only[af]at h1
      obtain⟨⟨k1,k2⟩,k3⟩:=h1
      split at k3
      ·rename_i elem hu
       split at k3
       ·rename_i sz hz
        exact⟨op,oq,oc,Tp,Tq,Tc,adp,xp,adq,xq,xc,ic,d,elem,sz,hop,hoq,hoc,ep,eq,ec,dp,dq,dc,gp,gq,gc,Y1iq k1,Y1iq k2,hu,hz⟩
       ·cases k3
      ·cases k3
     ·cases h1
    ·cases h1
   ·cases h1
  ·have hql:q<ops.size:=(Array.getElem?_eq_some_iff.1 hoq).1
   rcases h5 j (List.mem_range.2 hj) with ((h|h)|h)|h
   ·exact absurd (aA h) e1
   ·exact absurd (aA h) e2
   ·exact absurd (aA h) e3
   ·rwa [Yte ops _ _ hql]at h
  ·obtain⟨⟨a,b⟩,d⟩:=h6 x hx
   exact⟨Yxl a,Yxl b,Yxl d⟩
  ·obtain⟨a,b⟩:=h7 x hx
   exact⟨Yxl a,Yxl b⟩
  ·obtain⟨x,hx,e⟩:=h8
   rw[aA e];exact hx
  ·obtain⟨a,b⟩:=h9 x hx
   exact⟨Yxl a,Yxl b⟩
 ·cases h
inductive StuckReg (s:St) (ops:Array Oper):Prop
inductive StuckSide (s:St) (p q:Nat):Prop
def Y1gc (P:Program) (ops:Array Oper) (p q:Nat) (s:St) (K:Prop):Prop:=match ops[p]?,ops[q]? with
 | some op,some oq=>(match op.op,oq.op with
  | .store Tp adp xp,.store Tq adq xq=>(match Yzg P s Tp adp xp,Yzg P s Tq adq xq with
   | some (j1,i1,es1),some (j2,i2,es2)=>(match Nat.beq j1 j2 with
    | false=>i1<es1.length/\i2<es2.length/\K
    | true=>StuckSide s p q)
   | _,_=>StuckSide s p q)
  | _,_=>StuckSide s p q)
 | _,_=>StuckSide s p q
theorem Y1qp {P:Program}{ops:Array Oper}{p q:Nat}{s:St}{K:Prop}(h:Y1gc P ops p q s K):Y1mh P ops p q s/\K:=by
 unfold Y1gc at h
 split at h
 ·rename_i op oq hop hoq
  split at h
  ·rename_i Tp adp xp Tq adq xq ep eq
   split at h
   ·rename_i j1 i1 es1 j2 i2 es2 e1 e2
    split at h
    ·rename_i hb
     obtain⟨h1,h2,hK⟩:=h
     refine⟨λop' oq' Tp' Tq' adp' xp' adq' xq' g1 g2 g3 g4 => ?_,hK⟩
     rw[hop]at g1;rw[hoq]at g2
     simp only[aa]at g1 g2
     subst g1;subst g2
     rw[ep]at g3;rw[eq]at g4
     simp only[Op.store.injEq]at g3 g4
     obtain⟨rfl,rfl,rfl⟩:=g3
     obtain⟨rfl,rfl,rfl⟩:=g4
     exact⟨j1,i1,es1,j2,i2,es2,e1,e2,Yxl hb,h1,h2⟩
    ·cases h
   ·cases h
  ·cases h
 ·cases h
def Y1f6 (P:Program) (ops0:Array Oper) (p q c:Nat) (tids:List (Nat×List Nat)) (s:St) (qs:List Orc) (k:St->List Orc->Prop):Prop:=
 match Y1mc P ops0 p q c with
 | false=>StuckSide s p q
 | true=>match Ym9 ops0 p q with
  | ops=>Yoy Yqb (Yry ops ops.size) λms=>Yoy fBl (Y13a ops tids (List.range ops.size) s.objs.length) λbls=>fSt (s.grow (Y108 ops (List.range ops.size))) λs0=>Yqb s.objs.length λn0=>
   Y15c P ops ms bls s0 (List.range ops.size) n0 [] [] qs λds its qs=>
    match Y16b ops ms bls n0 (n0+Y108 ops (List.range ops.size)) ds with
    | true=>Y1gc P ops0 p q (Y17o p q s0 ds) (Y1fz its (Yy5 (λ_=>true) s0 ds λs=>fSt s.shrink λs=>k s qs))
    | false=>StuckDraw s ds
section
variable {P:Program}{E:Ent P}{ops:Array Oper}
theorem Y1e3 (hm:P.follows .mixedOrders) {id p q c:Nat}{tids:List (Nat×List Nat)}{s:St}{qs:List Orc}{k:St->List Orc->Prop}{Q:Exit->Act->World->Prop}{ι:Interp}{a:Act}{w:World}
  (hx:Y1f6 P ops p q c tids s qs k) (h:Rel E s ι a w) (hk:∀ s' q' ι' a' w',k s' q'->Rel E s' ι' a' w'->Q .normal a' w'):(Code.region id ops true).wp P Q a w:=by
 unfold Y1f6 at hx
 split at hx
 ·cases hx
 ·rename_i hsw
  have hs:=Y1tk hsw
  have hszT:(Ym9 ops p q).size=ops.size:=Yxg
  dsimp only at hx
  rw[Ynl Ypv,Ynl Y1qb,Yx7,Ypv]at hx
  obtain⟨ds,q',hc,hfin⟩:=Yw7 hx
  simp only[bq]at hc hfin
  split at hfin
  ·rename_i hd
   obtain⟨hside,hfin⟩:=Y1qp hfin
   rw[Yxa,Yx7]at hfin
   simp only[Y16b,af,am,beq_iff_eq]at hd
   obtain⟨⟨hidx,hpre⟩,hall⟩:=hd
   have hp:∀ i,∀ x∈Ylz (Ym9 ops p q) i,x<i:=by
    intro i x hpi
    by_cases hi:i<(Ym9 ops p q).size
    ·have h1:=hpre i (List.mem_range.2 hi) x hpi
     exact bz h1
    ·have hn:(Ym9 ops p q)[i]? = none:=Array.getElem?_eq_none (cG hi)
     simp[Ylz,hn]at hpi
   have hgood:=Y10y (pre:=[]) rfl hp (by simpa using hidx) hc
   have pl:DPlan P (Ym9 ops p q) (Yry (Ym9 ops p q) (Ym9 ops p q).size) (Y13a (Ym9 ops p q) tids (List.range (Ym9 ops p q).size) s.objs.length) (s.grow (Y108 (Ym9 ops p q) (List.range (Ym9 ops p q).size))) ds:=by
    refine⟨rfl,by simpa using hgood,hidx,hp,λd hdm => ?_,λd hdm x h1 h2 => ?_,λd hdm e hem hne hnb p hpm => ?_,λd hdm e hem hu => ?_⟩
    ·obtain⟨⟨⟨⟨⟨h1,h2⟩,h3⟩,_⟩,_⟩,_⟩:=hall d hdm
     exact⟨Y1fn h1,h2,h3⟩
    ·obtain⟨⟨⟨_,h4⟩,h5⟩,_⟩:=hall d hdm
     have h4:=bz h4
     have h5:=bz h5
     refine⟨?_,by simp[St.grow];omega⟩
     rw[Yqs]
     simp[St.obj,bf (show s.objs.length<=x by omega)]
    ·have h6:=((hall d hdm).2 e hem).1
     simp only[aF,am]at h6
     rcases h6 with h6|h6
     ·rcases h6 with h6|h6
      ·exact absurd (aA h6) hne
      ·rw[hnb]at h6;cases h6
     ·rcases h6 p hpm with h7|h7
      ·exact .inl (bz h7)
      ·exact .inr (bz h7)
    ·have h6:=((hall d hdm).2 e hem).2
     rw[hu]at h6
     simpa using h6
   refine wp_region_any hm (Y1tu hs pl hside (E:=E) (λι a w hr hasm=>hk _ _ ι a w (Y112 hfin (Y11l hasm)) (Rel.shrink hr)) ops.size _ ι a _ sW (λj hj => ?_) ?_ ?_ λd hd hl => ?_)
   ·rw[Yui]at hj;cases hj
   ·exact aN List.countP_le_length sW
   ·have hnone:∀ d∈ds,Lst (Array.replicate ops.size false) d.i=false:=λd _=>Yui _ _
    rw[Yxr hnone]
    exact(h.grow _).world rfl rfl rfl
   ·exfalso
    rw[Yui]at hl;cases hl
  ·cases hfin
end
def mvf (id n:Nat) (i:Nat):Nat:=match Nat.beq i id with|true=>n|false=>i
theorem Y1gh (id n:Nat):mvf id n id=n:=by unfold mvf;rw[bm]
theorem Y1aw {id n i:Nat}(h:i≠id):mvf id n i=i:=by
 unfold mvf
 split
 ·rename_i hb;exact(h (aA hb)).elim
 ·rfl
def Y1jk:Ob->Bool
 | .arr .. | .map .. => true
 | _=>false
def St.move (s:St) (id:Nat):St:=
 { s with regs:=s.regs.map (AV.ren (mvf id s.objs.length)),objs:=(s.objs.map (Ob.ren (mvf id s.objs.length))).set id .dead++[s.obj id] }
def Y1e1 (s:St) (id:Nat):Option St:=match Y1jk (s.obj id) with
 | true=>some (s.move id)
 | false=>none
section
variable {P:Program}{E:Ent P}{s:St}{ι:Interp}{a:Act}{w:World}
theorem Y10r {id:Nat}(hid:id<s.objs.length) (i:Nat):(s.move id).obj i=if i=s.objs.length then s.obj id else if i=id then .dead else (s.obj i).ren (mvf id s.objs.length):=by
 show ((s.objs.map (Ob.ren (mvf id s.objs.length))).set id .dead++[s.obj id]).getD i .free=_
 simp only[ao]
 by_cases h1:i=s.objs.length
 ·rw[ae h1,aR (by simp[h1])]
  simp[h1]
 ·rw[ab h1]
  by_cases h2:i<s.objs.length
  ·rw[bg (by simpa using h2),bM]
   by_cases h3:i=id
   ·subst h3;simp[h2]
   ·rw[ab h3]
    simp only[cv h3,cT,bb,St.obj,ao]
    rw[av h2];rfl
  ·rw[aR (by simp;omega)]
   have h3:i≠id:=by omega
   rw[ab h3]
   have:s.obj i=.free:=by simp[St.obj,bf (cG h2)]
   rw[this]
   have:([s.obj id]:List Ob)[i - ((s.objs.map (Ob.ren (mvf id s.objs.length))).set id .dead).length]? = none:=by
    rw[List.getElem?_eq_none_iff];simp;omega
   rw[this];rfl
theorem Rel.move (h:Rel E s ι a w) {id:Nat}(hm:Y1jk (s.obj id)):∃ ι',Rel E (s.move id) ι' a w:=by
 have hid:id<s.objs.length:=Ym6 (o:=s.obj id) rfl (λe=>by rw[e]at hm;cases hm)
 have hne:id≠s.objs.length:=by omega
 have hren:(s.obj id).ren (mvf id s.objs.length)=s.obj id:=by
  cases e:s.obj id<;>rw[e]at hm<;>first|rfl|cases hm
 have hfree:∀ b,¬ ι.fp s.objs.length b:=by
  have:=h.objs s.objs.length
  have e:s.obj s.objs.length=.free:=by simp[St.obj]
  rw[e]at this;exact this
 let ι':Interp:={ G:=ι.G,blk:=λi=>if i=s.objs.length then ι.blk id else ι.blk i,sl:=λi=>if i=s.objs.length then ι.sl id else ι.sl i,fp:=λi b=>if i=s.objs.length then ι.fp id b else if i=id then False else ι.fp i b }
 have htr:Tr (mvf id s.objs.length) ι s.obj ι' (s.move id).obj:=by
  refine⟨λj hj => ?_⟩
  rw[Y10r hid]
  by_cases h1:j=id
  ·subst h1
   rw[Y1gh,ae rfl,hren]
   exact⟨rfl,by simp[ι'],by simp[ι'],λb=>by simp[ι']⟩
  ·rw[Y1aw h1]
   have h2:j≠s.objs.length:=λe=>by
    unfold notFree at hj
    rw[e]at hj
    simp[St.obj]at hj
   rw[ab h2,ab h1]
   exact⟨rfl,by simp[ι',h2],by simp[ι',h2],λb=>by simp[ι',h1,h2]⟩
 have hfp:∀ i b,ι'.fp i b->(i=s.objs.length/\ι.fp id b)\/(i≠s.objs.length/\i≠id/\ι.fp i b):=by
  intro i b hb
  simp only[ι']at hb
  split at hb
  ·exact .inl ⟨‹_›,hb⟩
  ·split at hb
   ·exact hb.elim
   ·exact .inr ⟨‹_›,‹_›,hb⟩
 have hold:∀ i b,ι'.fp i b->∃ k,ι.fp k b:=λi b hb=>(hfp i b hb).elim (λh=>⟨id,h.2⟩) λh=>⟨i,h.2.2⟩
 refine⟨ι',?_⟩
 refine { len:=by simp[St.move,h.len],defers:=h.defers,regs:=λt => ?_,objs:=λi => ?_,disj := ?_,gfp := ?_,own := ?_,lt := ?_,glt:=h.glt,frame:=h.frame,size:=h.size,os:=h.os,out:=h.out,ent:=λi => ?_,gg:=h.gg,gown:=h.gown,ment:=h.ment }
 ·have e:(s.move id).reg t=(s.reg t).ren (mvf id s.objs.length):=by
   show (s.regs.map (AV.ren (mvf id s.objs.length))).getD t _=_
   simp only[ao,bb,St.reg]
   cases s.regs[t]?<;>rfl
  rw[e]
  exact Ymg.tr htr (.inr λ_ hb=>hb) (h.regs t)
 ·by_cases h1:i=s.objs.length
  ·have:=Yov.tr htr (j:=id) (by unfold notFree;cases e:s.obj id<;>rw[e]at hm<;>first|trivial|cases hm) (.inr λ_ hb=>hb) (h.objs id)
   rw[Y1gh,<- h1]at this;exact this
  ·by_cases h2:i=id
   ·rw[Y10r hid,ab h1,ae h2,h2]
    intro b hb
    simp[ι',hne]at hb
   ·by_cases h3:s.obj i=.free
    ·have e:(s.move id).obj i=.free:=by rw[Y10r hid,ab h1,ab h2,h3];rfl
     rw[e]
     have:=h.objs i
     rw[h3]at this
     intro b hb
     simp only[ι',ab h1,ab h2]at hb
     exact this b hb
    ·have:=Yov.tr htr (j:=i) (by unfold notFree;cases e:s.obj i<;>first|trivial|exact(h3 e).elim) (.inr λ_ hb=>hb) (h.objs i)
     rw[Y1aw h2]at this;exact this
 ·intro i j b hij hi hj
  rcases hfp i b hi with ⟨rfl,f1⟩|⟨n1,n2,f1⟩<;>rcases hfp j b hj with ⟨rfl,f2⟩|⟨m1,m2,f2⟩
  ·exact hij rfl
  ·exact h.disj id j b (λe=>m2 e.symm) f1 f2
  ·exact h.disj i id b n2 f1 f2
  ·exact h.disj i j b hij f1 f2
 ·intro i b hb hg
  obtain⟨k,hk⟩:=hold i b hb
  exact h.gfp k b hk hg
 ·intro i b hb
  obtain⟨k,hk⟩:=hold i b hb
  exact h.own k b hk
 ·intro i b hb
  obtain⟨k,hk⟩:=hold i b hb
  exact h.lt k b hk
 ·refine(h.ent i).trans (w':=w) (ι':=ι') (K:=False) ?_
  rw[Y10r hid]
  by_cases h1:i=s.objs.length
  ·have e:s.obj i=.free:=by rw[h1];simp[St.obj]
   rw[e];trivial
  ·rw[ab h1]
   by_cases h2:i=id
   ·rw[ae h2,h2]
    cases e:s.obj id<;>rw[e]at hm<;>first|trivial|cases hm
   ·rw[ab h2]
    cases e:s.obj i with
    | free=>trivial
    | dead=>trivial
    | box cs=>show ι'.blk i=ι.blk i;simp[ι',h1]
    | arr o z x=>exact⟨by simp[ι',h1],rfl,λk=>k.elim⟩
    | map nn k f=>exact⟨by simp[ι',h1],rfl,rfl,λk=>k.elim⟩
theorem Y1l0 (h:Rel E s ι a w) {id:Nat}{s':St}(e:Y1e1 s id=some s'):∃ ι',Rel E s' ι' a w:=by
 unfold Y1e1 at e
 split at e
 ·rename_i hm
  simp only[aa]at e;subst e
  exact h.move hm
 ·cases e
theorem Rel.nilMap (h:Rel E s ι a w) {k:MK}(hk:Y19k k):∃ ι',Rel E ((s.grow 1).setOb s.objs.length (.map true k (Yx3 k))) ι' a w /\
  Ymo w ι' ((s.grow 1).setOb s.objs.length (.map true k (Yx3 k))).obj (.one (.mref s.objs.length)) (.map none):=by
 have hroom:=Yye s 1 s.objs.length (aC _) oW
 have hf:=(h.grow 1).objs s.objs.length
 rw[hroom.1]at hf
 refine⟨ι,Rel.fresh (h.grow 1) hroom.1 hroom.2 _ rfl (λi hi=>⟨rfl,rfl,λb=>dQ⟩) (λb hb=>(hf b hb).elim) (λ_ _=>rfl) (aC _) rfl rfl ?_,⟨?_,λnn k' f' e => ?_⟩,λ_=>rfl⟩
 ·exact⟨hf,λkey _=>Y1bb hk key⟩
 ·unfold notFree;rw[Yll hroom.2,ae rfl];trivial
 ·rw[Yll hroom.2,ae rfl]at e
  cases e;rfl
def Y19c (s:St) (t:Nat) (k:MK):Option St:=
 match s.reg t with
 | .sv (.one (.val (.lit (.map none))))=>if Y19k k then some (((s.grow 1).setOb s.objs.length (.map true k (Yx3 k))).put (some t) (.sv (.one (.mref s.objs.length)))) else none
 | _=>none
theorem Y1i2 (h:Rel E s ι a w) {t:Nat}{k:MK}{s':St}(e:Y19c s t k=some s'):∃ ι',Rel E s' ι' a w:=by
 unfold Y19c at e
 split at e
 ·rename_i ht
  split at e
  ·rename_i hk
   simp only[aa]at e;subst e
   have hr:=h.regs t
   rw[ht]at hr
   have hv:=(Rd.lit_inv (show Rd w ι.G _ (.lit (.map none)) from hr.1)).1
   obtain⟨ι',h1,h2⟩:=h.nilMap hk
   have:=Rel.put h1 (some t) (x:=.sv (.one (.mref s.objs.length))) (v:=a.tmps.getD t undef) (by rw[hv];exact h2)
   rw[Yv0]at this
   exact⟨ι',this⟩
  ·cases e
 ·cases e
def Y19y (s:St) (id j:Nat) (k:MK):Option St:=
 match s.obj id with
 | .box cs=>match cs[j]? with
  | some (.val (.lit (.map none)))=>if Y19k k then some (((s.grow 1).setOb s.objs.length (.map true k (Yx3 k))).setOb id (.box (cs.set j (.mref s.objs.length)))) else none
  | _=>none
 | _=>none
theorem Y1ht (h:Rel E s ι a w) {id j:Nat}{k:MK}{s':St}(e:Y19y s id j k=some s'):∃ ι',Rel E s' ι' a w:=by
 unfold Y19y at e
 split at e
 ·rename_i cs ho
  split at e
  ·rename_i hj
   split at e
   ·rename_i hk
    simp only[aa]at e;subst e
    have hlt:id<s.objs.length:=Ym6 ho sW
    obtain⟨ι',h1,h2⟩:=h.nilMap hk
    refine⟨ι',Rel.recell h1 ?_ hj λv hv => ?_⟩
    ·rw[Yll (by simp[St.grow])]
     rw[ab oW,Yqs];exact ho
    ·have:=(Rd.lit_inv (show Rd w ι'.G _ (.lit (.map none)) from hv.1)).1
     rw[this];exact h2.1
   ·cases e
  ·cases e
 ·cases e
theorem Rel.recellAt (h:Rel E s ι a w) {id k:Nat}{cs:List AC}(ho:s.obj id=.box cs) {c c':AC}(hc:cs[k]? = some c)
  (hv:∀ arr ty,w.heap[ι.blk id]? = some (.cells arr ty (0,0))->∀ v,arr.toList[k]? = some v->Ymf w ι s.obj c' v):Rel E (s.setOb id (.box (cs.set k c'))) ι a w:=by
 have hlt:id<s.objs.length:=Ym6 ho sW
 have hx:Ext (λ_=>True) w ι s.obj w ι (s.setOb id (.box (cs.set k c'))).obj:=Y10b λi=>by
  rw[Yll hlt]
  by_cases hi:i=id
  ·subst hi;rw[ae rfl,ho];rfl
  ·rw[ab hi];cases s.obj i<;>simp[Ync]<;>exact λb hb=>.inl hb
 refine Rel.step h hx (λt=>.inl ⟨rfl,λ_ _ _ _=>trivial⟩) rfl rfl (λi => ?_) h.disj h.gfp h.own h.lt h.glt (λ_ _ _=>rfl) (aC _) rfl rfl
 by_cases hi:i=id
 ·subst hi
  right
  rw[Yll hlt,ae rfl]
  have:=h.objs i
  rw[ho]at this
  obtain⟨r1,arr,ty,r2,r3⟩:=this
  have r4:Ylq (Ynt w ι s.obj) (cs.set k c') arr.toList:=r3.set λv hvk=>by
   have:=r3.get hc hvk
   exact⟨hv arr ty r2 v hvk,this.2⟩
  exact⟨r1,arr,ty,r2,r4.imp λc v hcv=>⟨Ymf.ext hx (λ_ _=>trivial) hcv.1,hcv.2⟩⟩
 ·left
  exact⟨by rw[Yll hlt,ab hi],⟨rfl,rfl,λb=>dQ,λb _=>rfl⟩,λ_ _ _ _=>trivial⟩
def Y179 (s:St) (b j i sz:Nat) (es0:List (List Cell)) (e:List Cell) (p sz':Nat) (es':List (List Cell)) (cs:List AC) (k:Nat):St:=
 (((s.grow 1).setOb j (.arr true sz (es0.set i (e.set p .any)))).setOb s.objs.length (.arr true sz' es')).setOb b (.box (cs.set k (.ref s.objs.length)))
def Y18d (b j i sz:Nat) (es0:List (List Cell)) (cs0:List AC):List (Nat×Nat)->St->List Cell->List AC->Option (List Prop×St)
 | [],s,_,_=>some ([],s)
 | (k,sz') :: r,s,e,cs=>match cs0[k]? with
  | some (.sub j' i' p)=>(match Nat.beq j' j with
   | true=>(match e[p]? with
    | some (.list es')=>(match Y18d b j i sz es0 cs0 r (Y179 s b j i sz es0 e p sz' es' cs k) (e.set p .any) (cs.set k (.ref s.objs.length)) with
     | some (ps,s2)=>some ((i'=i) :: (∀ x∈es',x.length=sz') :: ps,s2)
     | none=>none)
    | _=>none)
   | false=>none)
  | _=>none
def Y1fk:List Prop->Prop->Prop
 | [],K=>K
 | p :: r,K=>p/\Y1fk r K
structure Held (w:World) (ι:Interp) (b j sz:Nat) (cs0:List AC):Prop where
 row:∀ (arr:Array Value) (ty:TypeId) (bj:Nat),w.heap[ι.blk b]? = some (.cells arr ty (0,0))->(ι.sl j).ownBlock=some bj->∀ (k i p:Nat),cs0[k]? = some (AC.sub j i p)->∀ v:Value,arr.toList[k]? = some v->w.cell? ⟨bj,i * sz+p,none⟩=some v
def Y237 (s:St) (j:Nat):Prop:=(∀ t,∀ c∈(s.reg t).acs,∀ k,c.src=some k->k≠j)/\∀ k,∀ c∈(s.obj k).acs,∀ k',c.src=some k'->k'≠j
theorem Y1ai {b j i sz:Nat}{es0:List (List Cell)}{cs0:List AC}(hbj:b≠j):∀ {l:List (Nat×Nat)}{s:St}{ι:Interp}{e:List Cell}{cs:List AC}{esc:List (List Cell)}{ps:List Prop}{s2:St}{K:Prop},
  Y18d b j i sz es0 cs0 l s e cs=some (ps,s2)->Y1fk ps K->Rel E s ι a w->s.obj j=.arr true sz esc->esc[i]? = some e->(∀ x,esc.set i x=es0.set i x)->s.obj b=.box cs->cs.length=cs0.length->Y237 s j->Held w ι b j sz cs0 ->
   K/\∃ ι',Rel E s2 ι' a w
 | [],s,ι,e,cs,esc,ps,s2,K,hp,hK,h,_,_,_,_,_,_,_=>by
  simp only[Y18d,aa,al]at hp
  obtain⟨rfl,rfl⟩:=hp
  exact⟨hK,ι,h⟩
 | (k,sz') :: r,s,ι,e,cs,esc,ps,s2,K,hp,hK,h,hj,he,hes,hb,hcl,hn,hh=>by
  simp only[Y18d]at hp
  split at hp
  ·rename_i j' i' p hk
   split at hp
   ·rename_i hjj
    obtain rfl:=aA hjj
    split at hp
    ·rename_i es' hep
     split at hp
     ·rename_i ps' s2' hrec
      simp only[aa,al]at hp
      obtain⟨rfl,rfl⟩:=hp
      obtain⟨rfl,hx,hK⟩:=hK
      have hg:=h.grow 1
      have hroom:=Yye s 1 s.objs.length (aC _) oW
      have hjg:(s.grow 1).obj j'=.arr true sz esc:=by rw[Yqs];exact hj
      obtain⟨ι1,h1,hsl,htk,hext,_⟩:=hg.focus hjg he hep hx hroom.1 hroom.2 (λt c hc k hk=>by
        have:c∈(s.reg t).acs:=by
         have e:(s.grow 1).reg t=s.reg t:=rfl
         rwa [e]at hc
        exact hn.1 t c this k hk) (λk c hc k' hk'=>by rw[Yqs]at hc;exact hn.2 k c hc k' hk')
      have hbl:b<s.objs.length:=Ym6 hb sW
      have hjl:j'<s.objs.length:=Ym6 hj sW
      have hbn:b≠s.objs.length:=Nat.ne_of_lt hbl
      have hjn:j'≠s.objs.length:=Nat.ne_of_lt hjl
      have hobj1:∀ x,(Ymc (s.grow 1) j' s.objs.length i' p sz esc e sz' es').obj x=if x=s.objs.length then .arr true sz' es' else if x=j' then .arr true sz (esc.set i' (e.set p .any)) else s.obj x:=by
       intro x
       unfold Ymc
       rw[Yll (by rw[Ylr];exact hroom.2),Yll (by have:=hroom.2;omega),Yqs]
      have hb1:(Ymc (s.grow 1) j' s.objs.length i' p sz esc e sz' es').obj b=.box cs:=by
       rw[hobj1,ab hbn,ab hbj];exact hb
      have hkl:k<cs.length:=by rw[hcl];exact(List.getElem?_eq_some_iff.1 hk).1
      have hblk:ι1.blk b=ι.blk b:=by
       have:=hext.o b
       rw[Yqs,hb,hb1]at this
       exact this
      have h2:=Rel.recellAt h1 hb1 (c:=cs[k]) (av hkl) (c':=.ref s.objs.length) (λarr ty hheap v hv=>by
       refine⟨?_,λown sz1 es1 ho1 => ?_⟩
       ·unfold notFree;rw[hobj1,ae rfl];trivial
       ·obtain⟨bj,hbjk,_⟩:=htk.blk
        have hcell:=htk.cell bj hbjk
        rw[hsl]at hbjk
        rw[hblk]at hheap
        have:=hh.row arr ty bj hheap hbjk k i' p hk v hv
        rw[this]at hcell
        exact ce hcell)
      have hst:(Ymc (s.grow 1) j' s.objs.length i' p sz esc e sz' es').setOb b (.box (cs.set k (.ref s.objs.length)))=Y179 s b j' i' sz es0 e p sz' es' cs k:=by
       unfold Ymc Y179;rw[hes]
      rw[hst]at h2
      have hobj2:∀ x,(Y179 s b j' i' sz es0 e p sz' es' cs k).obj x=if x=b then .box (cs.set k (.ref s.objs.length)) else if x=s.objs.length then .arr true sz' es' else if x=j' then .arr true sz (es0.set i' (e.set p .any)) else s.obj x:=by
       intro x
       rw[<- hst,Yll (by unfold Ymc;rw[Ylr,Ylr];simp[St.grow];omega),hobj1,hes]
      have hil:i'<esc.length:=(List.getElem?_eq_some_iff.1 he).1
      have hset:esc.set i' (e.set p .any)=es0.set i' (e.set p .any):=hes _
      refine Y1ai hbj hrec hK h2 (esc:=es0.set i' (e.set p .any)) ?_ ?_ ?_ ?_ ?_ ?_ ?_
      ·rw[hobj2,ab (cv hbj),ab hjn,ae rfl]
      ·rw[<- hset,db hil]
      ·intro x;rw[df]
      ·rw[hobj2,ae rfl]
      ·rw[cd];exact hcl
      ·refine⟨λt c hc k1 hk1=>hn.1 t c hc k1 hk1,λx c hc k1 hk1 => ?_⟩
       rw[hobj2]at hc
       split at hc
       ·simp only[Ob.acs]at hc
        rcases bS hc with hc|rfl
        ·exact hn.2 b c (by rw[hb];exact hc) k1 hk1
        ·cases hk1
       ·split at hc
        ·simp[Ob.acs]at hc
        ·split at hc
         ·simp[Ob.acs]at hc
         ·exact hn.2 x c hc k1 hk1
      ·refine⟨λarr ty bj hheap hbk k1 i1 p1 hk1 v hv => ?_⟩
       rw[hblk]at hheap
       rw[hsl]at hbk
       exact hh.row arr ty bj hheap hbk k1 i1 p1 hk1 v hv
     ·cases hp
    ·cases hp
   ·cases hp
  ·cases hp
def Yyb (s:St):Ghost->Option (List Prop×St)
 | .pull b e l=>match s.obj b with
  | .box cs0=>(match Y10x cs0 with
   | some (j,i)=>(match s.obj j,Nat.beq b j with
    | .arr true sz es,false=>(match Y18d b j i sz es cs0 l (s.inval [j]) e (cs0.map (Ynm [j])) with
     | some (ps,s2)=>some ((es[i]? = some e) :: ps,s2)
     | none=>none)
    | _,_=>none)
   | none=>none)
  | _=>none
 | _=>none
theorem Y11g (h:Rel E s ι a w) {g:Ghost}{ps:List Prop}{s2:St}{K:Prop}(e:Yyb s g=some (ps,s2)) (hK:Y1fk ps K):K/\∃ ι',Rel E s2 ι' a w:=by
 unfold Yyb at e
 split at e
 ·rename_i b e0 l
  split at e
  ·rename_i cs0 hb
   split at e
   ·rename_i j i hfs
    split at e
    ·rename_i sz es hj hbj
     split at e
     ·rename_i ps' s2' hp
      simp only[aa,al]at e
      obtain⟨rfl,rfl⟩:=e
      obtain⟨he,hK⟩:=hK
      have hne:b≠j:=ct hbj
      refine Y1ai hne hp hK (h.inval [j]) (esc:=es) ?_ he (λ_=>rfl) ?_ ?_ ?_ ?_
      ·rw[Ym4,hj];rfl
      ·rw[Ym4,hb];rfl
      ·rw[aO]
      ·refine⟨λt c hc k hk => ?_,λk c hc k' hk' => ?_⟩
       ·rw[Ys6]at hc
        have:=Yti _ hc hk
        simpa using this
       ·rw[Ym4]at hc
        cases hk:s.obj k with
        | box cs=>rw[hk]at hc;simp[Ym5,Ob.acs]at hc;obtain⟨y,_,rfl⟩:=hc;have:=Yr1 _ hk';simpa using this
        | free=>rw[hk]at hc;simp[Ym5,Ob.acs]at hc
        | dead=>rw[hk]at hc;simp[Ym5,Ob.acs]at hc
        | map _ _ _=>rw[hk]at hc;simp[Ym5,Ob.acs]at hc
        | arr _ _ _=>rw[hk]at hc;simp[Ym5,Ob.acs]at hc
      ·refine⟨λarr ty bj hheap hbk k i1 p1 hk v hv => ?_⟩
       have hob:=h.objs b
       rw[hb]at hob
       obtain⟨_,arr2,ty2,hheap2,r3⟩:=hob
       rw[hheap]at hheap2
       simp only[aa,Obj.cells.injEq]at hheap2
       obtain⟨rfl,_,_⟩:=hheap2
       have hc:=r3.get hk hv
       obtain⟨b2,hb2,_,hcell⟩:=hc.1.2 _ _ _ hj
       rw[hbk]at hb2
       simp only[aa]at hb2
       subst hb2
       exact hcell
     ·cases e
    ·cases e
   ·cases e
  ·cases e
 ·cases e
end
def Yu9 (s:St):Ghost->Option St
 | .sel ids keep=>match Y16g s.m ids with
  | true=>some (s.sel ids keep)
  | false=>none
 | .lock id=>match s.obj id with
  | .arr _ _ es=>some (s.lock id es)
  | _=>none
 | .nilreg t own sz=>Y1fr s t own sz
 | .nilbox id k own sz=>Y1gp s id k own sz
 | .nilmreg t k=>Y19c s t k
 | .nilmbox id j k=>Y19y s id j k
 | .move id=>Y1e1 s id
 | .blank id k=>match s.obj id with
  | .box cs=>match cs[k]? with
   | some _=>some (s.setOb id (.box (cs.set k .top)))
   | none=>none
  | _=>none
 | .cap t id=>match s.reg t with
  | .sv (.one (.ptr id' 0))=>(match Nat.beq id' id with
   | true=>(match s.obj id with
    | .box [.val (.lit v)]=>some ((s.setOb id .dead).put (some t) (.sv (.one (.val (.cap v)))))
    | _=>none)
   | false=>none)
  | _=>none
 | .pull _ _ _=>none
def Yo4:List Orc->St->(St->List Orc->Prop)->Prop
 | .ghost g :: q,s,k=>match Yu9 s g with
  | some s'=>Yo4 q s' k
  | none=>match Yyb s g with
   | some (ps,s')=>Y1fk ps (Yo4 q s' k)
   | none=>StuckGhost s g
 | q,s,k=>k s q
section
variable {P:Program}{E:Ent P}{s:St}{ι:Interp}{a:Act}{w:World}
theorem Rel.capBox (h:Rel E s ι a w) {t id:Nat}{v:Value}(ht:s.reg t=.sv (.one (.ptr id 0))) (ho:s.obj id=.box [.val (.lit v)]) :
  ∃ ι',Rel E ((s.setOb id .dead).put (some t) (.sv (.one (.val (.cap v))))) ι' a w:=by
 let ι':Interp:={ ι with G:=λb=>ι.G b\/ι.fp id b,fp:=λi b=>i≠id/\ι.fp i b }
 have hlt:id<s.objs.length:=Ym6 ho sW
 have hob:=h.objs id
 rw[ho]at hob
 obtain⟨hfp,arr,ty,hheap,ha⟩:=hob
 have hx:Ext (λ_=>True) w ι s.obj w ι' (s.setOb id .dead).obj:=by
  refine⟨λb hb=>⟨.inl hb,rfl⟩,λi => ?_⟩
  rw[Yll hlt]
  by_cases hi:i=id
  ·subst hi;rw[ae rfl,ho];trivial
  ·rw[ab hi]
   cases e:s.obj i with
   | free=>trivial
   | dead=>trivial
   | box cs=>rfl
   | arr o1 s1 e1=>exact⟨rfl,rfl,λ_ b hb=>⟨.inl ⟨hi,hb⟩,rfl⟩⟩
   | map _ _ _=>exact⟨rfl,rfl,rfl,λ_ b hb=>⟨.inl ⟨hi,hb⟩,rfl⟩⟩
 have hr:=h.regs t
 rw[ht]at hr
 have hp:=hr.1.2 _ ho
 obtain⟨u,hu,hcu⟩:∃ u,arr.toList=[u]/\Ynt w ι s.obj (.val (.lit v)) u:=by
  cases hl:arr.toList with
  | nil=>rw[hl]at ha;exact ha.elim
  | cons u r=>
   rw[hl]at ha
   cases r with
   | nil=>exact⟨u,rfl,ha.1⟩
   | cons y r=>exact ha.2.elim
 obtain⟨rfl,hlit⟩:=Rd.lit_inv (show Rd w ι.G u (.lit v) from hcu.1)
 have hcell:w.cell? ⟨ι.blk id,0,none⟩=some u:=by
  rw[cell_of_row w _ _ arr ty (0,0) hheap]
  have:arr[0]? = some u:=by rw[<- dG,hu];rfl
  simpa using this
 have hstep:Rel E (s.setOb id .dead) ι' a w:=by
  refine Rel.step h hx (λt=>.inl ⟨rfl,λ_ _ _ _=>trivial⟩) rfl rfl (λi => ?_) ?_ ?_ ?_ ?_ ?_ (λ_ _ _=>rfl) (aC _) rfl rfl (hG := ?_)
  ·right
   rw[Yll hlt]
   by_cases hi:i=id
   ·rw[ae hi];rintro b ⟨h1,_⟩;exact h1 hi
   ·rw[ab hi]
    have:=h.objs i
    cases e:s.obj i with
    | free=>rw[e]at this;exact λb hb=>this b hb.2
    | dead=>rw[e]at this;exact λb hb=>this b hb.2
    | box cs=>
     rw[e]at this
     obtain⟨r1,arr1,ty1,r2,r3⟩:=this
     exact⟨⟨hi,r1⟩,arr1,ty1,r2,r3.imp λc x hcx=>⟨Ymf.ext hx (λ_ _=>trivial) hcx.1,hcx.2⟩⟩
    | arr o1 s1 e1=>
     rw[e]at this
     have hf:ι'.fp i=ι.fp i:=by funext b;simp[ι',hi]
     show Ym8 w (Yna w ι'.G o1) s1 (ι'.fp i) (ι.sl i) e1
     rw[hf]
     exact Ym8.mono this (λb hb=>⟨.inl hb,rfl⟩) λ_ _=>rfl
    | map nn k f=>
     rw[e]at this
     cases nn with
     | true=>exact⟨λb hb=>this.1 b hb.2,this.2⟩
     | false=>exact Yol.mono this (λx hx=>⟨hi,hx⟩) λ_ _=>rfl
  ·exact λi j b hij hi hj=>h.disj i j b hij hi.2 hj.2
  ·rintro i b hi (hg|hg)
   ·exact h.gfp i b hi.2 hg
   ·exact h.disj i id b hi.1 hi.2 hg
  ·exact λi b hi=>h.own i b hi.2
  ·exact λi b hi=>h.lt i b hi.2
  ·rintro b (hb|hb)
   ·exact h.glt b hb
   ·exact h.lt id b hb
  ·rintro b (hb|hb)
   ·exact .inl hb
   ·exact .inr (.inl ⟨id,hb⟩)
 have:=Rel.put hstep (some t) (x:=.sv (.one (.val (.cap u)))) (v:=a.tmps.getD t undef) (by
  rw[hp]
  exact⟨.cap (.inr hfp) hlit hcell,λ_=>rfl⟩)
 rw[Yv0]at this
 exact⟨ι',this⟩
theorem Ynj:∀ {q:List Orc}{s:St}{k:St->List Orc->Prop}{ι:Interp},Yo4 q s k->Rel E s ι a w->∃ s' q' ι',k s' q'/\Rel E s' ι' a w
 | [],s,k,ι,hx,h=>⟨_,_,_,hx,h⟩
 | o :: q,s,k,ι,hx,h=>by
  cases o with
  | ghost g=>
   simp only[Yo4]at hx
   split at hx
   ·rename_i s' he
    cases g with
    | sel ids keep=>
     simp only[Yu9]at he
     split at he
     ·rename_i hok
      simp only[aa]at he;subst he
      exact Ynj hx (h.sel keep hok)
     ·cases he
    | lock id=>
     simp only[Yu9]at he
     split at he
     ·rename_i ho
      simp only[aa]at he;subst he
      obtain⟨ι',h'⟩:=h.lock ho
      exact Ynj hx h'
     ·cases he
    | nilreg t own sz=>
     obtain⟨ι',h'⟩:=Y1lc h he
     exact Ynj hx h'
    | nilbox id k own sz=>
     obtain⟨ι',h'⟩:=Y1me h he
     exact Ynj hx h'
    | nilmreg t k=>
     obtain⟨ι',h'⟩:=Y1i2 h he
     exact Ynj hx h'
    | nilmbox id j k=>
     obtain⟨ι',h'⟩:=Y1ht h he
     exact Ynj hx h'
    | move id=>
     obtain⟨ι',h'⟩:=Y1l0 h he
     exact Ynj hx h'
    | blank id k=>
     simp only[Yu9]at he
     split at he
     ·rename_i cs ho
      split at he
      ·rename_i c hc
       simp only[aa]at he;subst he
       exact Ynj hx (h.recell ho hc λ_ _=>trivial)
      ·cases he
     ·cases he
    | cap t id=>
     simp only[Yu9]at he
     split at he
     ·rename_i id' ht
      split at he
      ·rename_i hid
       obtain rfl:=aA hid
       split at he
       ·rename_i v ho
        simp only[aa]at he;subst he
        obtain⟨ι',h'⟩:=h.capBox ht ho
        exact Ynj hx h'
       ·cases he
      ·cases he
     ·cases he
    | pull b e l=>cases he
   ·split at hx
    ·rename_i ps s' he
     obtain⟨hx,ι',h'⟩:=Y11g h he hx
     exact Ynj hx h'
    ·cases hx
  | _=>exact⟨_,_,_,hx,h⟩
def Y177 (k:Nat):List AV->Nat
 | []=>0
 | x :: r=>match x with
  | .sv (.one (.ref j))=>(match Nat.beq j k with|true=>Y177 k r+1|false=>Y177 k r)
  | _=>Y177 k r
def Y1m6 (s:St) (o:Oper):Option (Nat×Nat×List (List Cell)):=
 match o.op with
 | .call { callee:=.builtin .append,args:=args,.. }=>match args.toList with
  | [_,.tmp t]=>match s.reg t with
   | .sv (.one (.ref k))=>match s.obj k with
    | .arr true 1 es=>(match Nat.ble 3 (Y177 k s.regs) with|true=>some (t,k,es)|false=>none)
    | _=>none
   | _=>none
  | _=>none
 | _=>none
theorem Rel.view (h:Rel E s ι a w) {t id sz:Nat}{own:Bool}{es:List (List Cell)}(ht:s.reg t=.sv (.one (.ref id))) (ho:s.obj id=.arr own sz es):Rel E (s.put (some t) (.sv (.one (.bor id (.list es))))) ι a w:=by
 have hv:=h.regs t
 rw[ht]at hv
 have hob:=h.objs id
 rw[ho]at hob
 have he:a.tmps.getD t undef=ι.sl id:=hv.1.2 _ _ _ ho
 have hr:=Ym8.rd (show Ym8 w (Yna w ι.G own) sz (ι.fp id) (ι.sl id) es from hob)
 have:=Rel.put h (some t) (x:=.sv (.one (.bor id (.list es)))) (v:=a.tmps.getD t undef) ⟨⟨hv.1.1,λ_=>by rw[he];exact hr⟩,λ_=>hv.2 sW⟩
 rw[Yv0]at this
 exact this
theorem Y1sl {o:Oper}{t k:Nat}{es:List (List Cell)}(e:Y1m6 s o=some (t,k,es)):s.reg t=.sv (.one (.ref k))/\s.obj k=.arr true 1 es:=by
 unfold Y1m6 at e
 split at e
 ·split at e
  ·split at e
   ·rename_i ht
    split at e
    ·rename_i ho
     split at e
     ·simp only[aa,al]at e
      obtain⟨rfl,rfl,rfl⟩:=e
      exact⟨ht,ho⟩
     ·cases e
    ·cases e
   ·cases e
  ·cases e
 ·cases e
def Y1s1 (o:Oper) (q:List Orc) (s:St) (k:St->List Orc->Prop):Prop:=
 match o.op with
 | .call { callee:=.value _,.. }=>Yo4 q s k
 | .makeFunc .. => Yo4 q s k
 | _=>match Y1m6 s o with
  | none=>k s q
  | some (t,id,es)=>match q with
   | .bool true :: q'=>k (s.put (some t) (.sv (.one (.bor id (.list es))))) q'
   | .bool false :: q'=>k s q'
   | _=>StuckPull s o
theorem Y1ts {o:Oper}{q:List Orc}{k:St->List Orc->Prop}(hx:Y1s1 o q s k) (h:Rel E s ι a w):∃ s' q' ι',k s' q'/\Rel E s' ι' a w:=by
 unfold Y1s1 at hx
 split at hx
 ·exact Ynj hx h
 ·exact Ynj hx h
 ·split at hx
  ·exact⟨_,_,_,hx,h⟩
  ·rename_i t id es e
   have hv:=Y1sl e
   split at hx
   ·exact⟨_,_,_,hx,h.view hv.1 hv.2⟩
   ·exact⟨_,_,_,hx,h⟩
   ·cases hx
def Y1rh (s:St) (o:Oper):Bool:=
 match o.op with
 | .store _ (.tmp p) (.tmp v)=>(match s.reg v,s.reg p with
  | .sv (.agg cs),.sv (.one (.ptr b _))=>(match Y10x cs,s.obj b with
   | some _,.box _=>true
   | _,_=>false)
  | _,_=>false)
 | _=>false
def Y1lq (o:Oper) (q:List Orc) (s:St) (k:St->List Orc->Prop):Prop:=
 match Y1rh s o with
 | false=>k s q
 | true=>match q with
  | .ghost g :: q'=>(match Yyb s g with
   | some (ps,s')=>Y1fk ps (k s' q')
   | none=>StuckGhost s g)
  | .bool _ :: q'=>k s q'
  | _=>StuckPull s o
theorem Y1qa {o:Oper}{q:List Orc}{k:St->List Orc->Prop}(hx:Y1lq o q s k) (h:Rel E s ι a w):∃ s' q' ι',k s' q'/\Rel E s' ι' a w:=by
 unfold Y1lq at hx
 split at hx
 ·exact⟨_,_,_,hx,h⟩
 ·split at hx
  ·split at hx
   ·rename_i ps s' he
    obtain⟨hx,ι',h'⟩:=Y11g h he hx
    exact⟨_,_,_,hx,h'⟩
   ·cases hx
  ·exact⟨_,_,_,hx,h⟩
  ·cases hx
def Y156 (P:Program) (ops:Array Oper):List Nat->St->List Orc->(St->List Orc->Prop)->Prop
 | [],s,q,k=>k s q
 | i :: rest,s,q,k=>match ops[i]? with
  | none=>Y156 P ops rest s q k
  | some o=>match Ysj ops s o with
   | none=>StuckGuard s o
   | some false=>Y156 P ops rest (s.put o.dst (.tup [])) q k
   | some true=>Y1s1 o q s λs q=>match Y1tx P (s.grow (Ynx o)) o s.objs.length q with
    | none=>StuckOp s o s.objs.length
    | some (r,it,q')=>VC it (fSt ((((s.grow (Ynx o)).app s.objs.length r).put o.dst r.val).shrink) λs=>Y199 (Y1ve ops i) o.dst s q' (λs q=>Y1lq o q s λs q=>Y156 P ops rest s q k))
theorem Yw5 {ops:Array Oper}{Q:Exit->Act->World->Prop}:∀ {l:List Nat}{s:St}{q:List Orc}{k:St->List Orc->Prop}{ι:Interp}{a:Act}{w:World},
  Y156 P ops l s q k->Rel E s ι a w->(∀ s' q' ι' a' w',k s' q'->Rel E s' ι' a' w'->Q .normal a' w')->wpOps P ops Q l a w
 | [],s,q,k,ι,a,w,hx,h,hk=>hk _ _ _ _ _ hx h
 | i :: rest,s,q,k,ι,a,w,hx,h,hk=>by
  unfold Y156 at hx
  unfold wpOps
  split at hx
  ·rename_i ho;simp only[ho];exact Yw5 hx h hk
  ·rename_i o ho
   simp only[ho]
   split at hx
   ·cases hx
   ·rename_i hw
    rw[Ywd h hw]
    simp only[cu,cT]
    exact Yw5 hx (Rel.put h o.dst Y1ae) hk
   ·rename_i hw
    rw[Ywd h hw]
    simp only[bx]
    obtain⟨s,q,ι,hx,h⟩:=Y1ts hx h
    split at hx
    ·cases hx
    ·rename_i r it q' he
     rw[Yx7]at hx
     obtain⟨h1,h2⟩:=Y1m7 (h.grow (Ynx o)) he hx (Yye s _)
     left
     refine h1 _ _ λι' v w' hr hv => ?_
     obtain⟨s',q'',hk',hr'⟩:=Y1hq (Rel.shrink (Rel.put hr o.dst hv)) h2
     obtain⟨s2,q2,ι2,hk2,hr2⟩:=Y1qa hk' hr'
     exact Yw5 hk2 hr2 hk
end
def AEx.to:AEx->Exit
 | .normal=>.normal
 | .exit i=>.exit i
 | .ret=>.ret
abbrev Y19r:=List (Prop×AEx×St×List Orc)
abbrev Y19q:=List (Prop×AEx×St)
def ways:Y19r->Y19q
 | []=>[]
 | (p,e,s,_) :: r=>(p,e,s) :: ways r
theorem Y1dt:∀ {l:Y19r}{o:Prop×AEx×St},o∈ways l->∃ x∈l,x.1=o.1/\x.2.1=o.2.1/\x.2.2.1=o.2.2
 | (p,e,s,q) :: r,o,h=>by
  rcases List.mem_cons.1 h with rfl|h
  ·exact⟨_,aj,rfl,rfl,rfl⟩
  ·obtain⟨x,h1,h2⟩:=Y1dt h
   exact⟨x,ai _ h1,h2⟩
def Yv3 (P:Program) (c:Code) (I:Nat->St->Prop) (outs:Y19q):Prop:=
 ∀ (E:Ent P) (m:Nat) (s:St) (ι:Interp) (a:Act) (w:World),I m s->Rel E s ι a w->c.wp P (λe a' w'=>∃ s' ι',Rel E s' ι' a' w' /\
  ((e=.normal/\∃ m',m'<m/\I m' s')\/∃ o∈outs,o.1/\e=o.2.1.to/\e≠.normal/\o.2.2=s')) a w
def Y1ky (k:AEx->St->List Orc->Prop):Y19r->Prop
 | []=>True
 | o :: r=>(o.1->k o.2.1 o.2.2.1 o.2.2.2)/\Y1ky k r
theorem Y1ay {k:AEx->St->List Orc->Prop}:∀ {l:Y19r},Y1ky k l->∀ {o},o∈l->o.1->k o.2.1 o.2.2.1 o.2.2.2
 | x :: l,h,o,hm,ho=>by
  rcases List.mem_cons.1 hm with rfl|hm
  ·exact h.1 ho
  ·exact Y1ay h.2 hm ho
def Y22l:AEx->AEx->Bool
 | .ret,.ret=>true
 | .exit i,.exit j=>Nat.beq i j
 | _,_=>false
theorem Y1i8:∀ {x y:AEx},Y22l x y->x=y
 | .ret,.ret,_=>rfl
 | .exit i,.exit j,h=>by rw[aA h]
 | .normal,_,h=>by cases h
 | .exit _,.normal,h=>by cases h
 | .exit _,.ret,h=>by cases h
 | .ret,.normal,h=>by cases h
 | .ret,.exit _,h=>by cases h
def Y17t (I:Nat->St->Prop) (outs:Y19q) (m:Nat):AEx->St->List Orc->Prop
 | .normal,s,q=>Yo4 q s λs q=>match q with
  | .goto m' t :: _=>m'<m/\s=t/\I m' t
  | _=>StuckOut .normal s
 | e,s,q=>Yo4 q s λs q=>match q with
  | .out i :: _=>match outs[i]? with
   | some o=>match Y22l o.2.1 e with
    | true=>o.1/\s=o.2.2
    | false=>False
   | none=>False
  | _=>StuckOut e s
def Y1gu {σ:Type}(head:σ->St) (inv:σ->Prop) (meas:σ->Nat) (m:Nat) (s:St):Prop:=∃ k,inv k/\m=meas k/\s=head k
theorem Y1gu.mk {σ:Type}{head:σ->St}{inv:σ->Prop}{meas:σ->Nat}{k:σ}(h:inv k):Y1gu head inv meas (meas k) (head k):=⟨k,h,rfl,rfl⟩
def Y1kx (b:Bool) (q:List Orc) (x y:List Orc->Prop):Prop:=
 match q with
 | .bool true :: q=>b/\x q
 | .bool false :: q=>b=false/\y q
 | .br l r :: _=>(b->x l)/\(b=false->y r)
 | _=>StuckB b
def Y1lv (s:St) (c:Operand) (b:Bool):St:=match c with
 | .tmp t=>s.put (some t) (Yyt b)
 | _=>s
def Yq8 (P:Program):Code->St->List Orc->(AEx->St->List Orc->Prop)->Prop
 | .skip,s,q,k=>k .normal s q
 | .region _ ops false,s,q,k=>Y156 P ops (List.range ops.size) s q (k .normal)
 | .region _ ops true,s,q,k=>match q with
  | .draw tids :: q=>Y1ln P ops tids s q (k .normal)
  | .drawT p1 q1 c1 tids :: q=>Y1f6 P ops p1 q1 c1 tids s q (k .normal)
  | _=>StuckReg s ops
 | .seq x y,s,q,k=>Yq8 P x s q λe s q=>match e with
  | .normal=>Yq8 P y s q k
  | e=>k e s q
 | .cond c x y,s,q,k=>match s.lit c with
  | some (.bool b)=>Y1kx b q (λq=>Yq8 P x (Y1lv s c true) q k) (λq=>Yq8 P y (Y1lv s c false) q k)
  | _=>StuckCond s c
 | .block id c,s,q,k=>Yq8 P c s q λe s q=>match e with
  | .exit i=>match Nat.beq i id with
   | true=>k .normal s q
   | false=>k (.exit i) s q
  | e=>k e s q
 | .exit i,s,q,k=>k (.exit i) s q
 | .ret,s,q,k=>k .ret s q
 | .loop c,s,q,k=>Yo4 q s λs q=>match q with
  | .loop m t I outs :: _=>s=t/\I m t/\Yv3 P c I (ways outs)/\Y1ky k outs
  | _=>StuckLoop s c
 | c,_,_,_=>StuckCode c
section
variable {P:Program}{E:Ent P}{s:St}{ι:Interp}{a:Act}{w:World}
theorem Y1hw {b:Bool}{q:List Orc}{x y:List Orc->Prop}(h:Y1kx b q x y):(b/\∃ q',x q')\/(b=false/\∃ q',y q'):=by
 unfold Y1kx at h
 split at h
 ·exact .inl ⟨h.1,_,h.2⟩
 ·exact .inr ⟨h.1,_,h.2⟩
 ·cases b
  ·exact .inr ⟨rfl,_,h.2 rfl⟩
  ·exact .inl ⟨rfl,_,h.1 rfl⟩
 ·cases h
theorem Y1bi (h:Rel E s ι a w) {c:Operand}{b:Bool}(hb:a.eval c=.bool b):Rel E (Y1lv s c b) ι a w:=by
 cases c with
 | tmp t=>
  have hb':a.tmps.getD t undef=.bool b:=by simpa[Act.eval] using hb
  have:=Rel.put h (some t) (x:=Yyt b) (v:=a.tmps.getD t undef) (by rw[hb'];exact⟨.lit trivial,λ_=>rfl⟩)
  rw[Yv0]at this
  exact this
 | _=>exact h
theorem Y14y {c:Code}{I:Nat->St->Prop}{outs:Y19q}(hl:Yv3 P c I outs) {Q:Exit->Act->World->Prop}
  (hQ:∀ o∈outs,o.1->∀ ι a w,o.2.1.to≠.normal->Rel E o.2.2 ι a w->Q o.2.1.to a w) :
  ∀ (N m:Nat) (s:St) (ι:Interp) (a:Act) (w:World),m<N->I m s->Rel E s ι a w->Code.rounds P c Q N a w
 | 0,m,s,ι,a,w,hm,_,_=>absurd hm (Nat.not_lt_zero _)
 | N+1,m,s,ι,a,w,hm,hI,h=>by
  rw[rounds_succ]
  refine dJ ?_ (hl E m s ι a w hI h)
  rintro e a' w' ⟨s',ι',h',(⟨rfl,m',hm',hI'⟩|⟨o,ho,hp,rfl,hn,rfl⟩)⟩
  ·exact Y14y hl hQ N m' s' ι' a' w' oW hI' h'
  ·have:=hQ o ho hp ι' a' w' hn h'
   cases e:o.2.1 with
   | normal=>rw[e]at hn;exact absurd rfl hn
   | exit i=>rw[e]at this;exact this
   | ret=>rw[e]at this;exact this
theorem Y14e (hm:P.follows .mixedOrders):∀ (c:Code) {s:St}{q:List Orc}{k:AEx->St->List Orc->Prop}{ι:Interp}{a:Act}{w:World},
  Yq8 P c s q k->Rel E s ι a w->c.wp P (λe a' w'=>∃ ex s' q' ι',e=ex.to/\k ex s' q'/\Rel E s' ι' a' w') a w:=by
 intro c
 induction c with
 | skip=>intro s q k ι a w hx h;exact wp_skip ⟨.normal,_,_,_,rfl,hx,h⟩
 | region id ops draw=>
  intro s q k ι a w hx h
  cases draw with
  | true=>
   simp only[Yq8]at hx
   split at hx
   ·exact Y1i0 hm hx h λs' q' ι' a' w' hk hr=>⟨.normal,_,_,_,rfl,hk,hr⟩
   ·exact Y1e3 hm hx h λs' q' ι' a' w' hk hr=>⟨.normal,_,_,_,rfl,hk,hr⟩
   ·cases hx
  | false=>
   exact wp_region (Yw5 (show Y156 P ops (List.range ops.size) s q (k .normal) from hx) h λs' q' ι' a' w' hk hr=>⟨.normal,_,_,_,rfl,hk,hr⟩)
 | seq x y ihx ihy=>
  intro s q k ι a w hx h
  refine wp_seq (dJ ?_ (ihx (show Yq8 P x s q _ from hx) h))
  rintro e a' w' ⟨ex,s',q',ι',rfl,hk,hr⟩
  cases ex with
  | normal=>exact ihy hk hr
  | exit i=>exact⟨.exit i,_,_,_,rfl,hk,hr⟩
  | ret=>exact⟨.ret,_,_,_,rfl,hk,hr⟩
 | cond c x y ihx ihy=>
  intro s q k ι a w hx h
  simp only[Yq8]at hx
  split at hx
  ·rename_i b hb
   have hc:=(Ypi h hb).1
   rcases Y1hw hx with ⟨rfl,q',hx⟩|⟨rfl,q',hx⟩
   ·exact wp_cond_true hc (ihx hx (Y1bi h hc))
   ·exact wp_cond_false hc (ihy hx (Y1bi h hc))
  ·cases hx
 | block id c ih=>
  intro s q k ι a w hx h
  refine wp_block (dJ ?_ (ih (show Yq8 P c s q _ from hx) h))
  rintro e a' w' ⟨ex,s',q',ι',rfl,hk,hr⟩
  cases ex with
  | normal=>exact⟨.normal,_,_,_,rfl,hk,hr⟩
  | exit i=>
   simp only[AEx.to,Exit.inBlock]
   simp only at hk
   split at hk
   ·rename_i hb
    rw[ae (aA hb)]
    exact⟨.normal,_,_,_,rfl,hk,hr⟩
   ·rename_i hb
    rw[ab (ct hb)]
    exact⟨.exit i,_,_,_,rfl,hk,hr⟩
  | ret=>exact⟨.ret,_,_,_,rfl,hk,hr⟩
 | exit i=>intro s q k ι a w hx h;exact wp_exit ⟨.exit i,_,_,_,rfl,hx,h⟩
 | ret=>intro s q k ι a w hx h;exact wp_ret ⟨.ret,_,_,_,rfl,hx,h⟩
 | loop c ih=>
  intro s q k ι a w hx h
  obtain⟨s',q',ι',hx,h⟩:=Ynj (show Yo4 q s _ from hx) h
  split at hx
  ·rename_i m t I outs q1
   obtain⟨rfl,h1,h2,h3⟩:=hx
   exact wp_loop_rounds (m+1) (Y14y h2 (λo ho hp ι a w hn hr=>by
    obtain⟨x,hx,e1,e2,e3⟩:=Y1dt ho
    rw[<- e1]at hp;rw[<- e3]at hr;rw[<- e2]
    exact⟨_,_,_,_,rfl,Y1ay h3 hx hp,hr⟩) (m+1) m s' ι' a w (Nat.lt_succ_self _) h1 h)
  ·cases hx
 | _=>intro s q k ι a w hx h;cases (show StuckCode _ from hx)
theorem Yv3.intro (hm:P.follows .mixedOrders) {c:Code}{I:Nat->St->Prop}{outs:Y19q}(h:∀ m s,I m s->∃ q,Yq8 P c s q (Y17t I outs m)):Yv3 P c I outs:=by
 intro E m s ι a w hI hr
 obtain⟨q,hx⟩:=h m s hI
 refine dJ ?_ (Y14e hm c hx hr)
 rintro e a' w' ⟨ex,s',q',ι',rfl,hk,hr'⟩
 cases ex with
 | normal=>
  obtain⟨s2,q2,ι2,hk,hr2⟩:=Ynj (show Yo4 q' s' _ from hk) hr'
  split at hk
  ·obtain⟨h1,rfl,h3⟩:=hk
   exact⟨s2,ι2,hr2,.inl ⟨rfl,_,h1,h3⟩⟩
  ·cases hk
 | exit i=>
  obtain⟨s2,q2,ι2,hk,hr2⟩:=Ynj (show Yo4 q' s' _ from hk) hr'
  split at hk
  ·split at hk
   ·rename_i o ho
    split at hk
    ·rename_i hb
     exact⟨s2,ι2,hr2,.inr ⟨o,aE ho,hk.1,by rw[Y1i8 hb],by simp[AEx.to],hk.2.symm⟩⟩
    ·cases hk
   ·cases hk
  ·cases hk
 | ret=>
  obtain⟨s2,q2,ι2,hk,hr2⟩:=Ynj (show Yo4 q' s' _ from hk) hr'
  split at hk
  ·split at hk
   ·rename_i o ho
    split at hk
    ·rename_i hb
     exact⟨s2,ι2,hr2,.inr ⟨o,aE ho,hk.1,by rw[Y1i8 hb],by simp[AEx.to],hk.2.symm⟩⟩
    ·cases hk
   ·cases hk
  ·cases hk
end
def Y1lx (P:Program) (s:St):ResultVar->Option SV
 | .tmp t=>match s.reg t with | .sv x=>some x|_=>none
 | .cell ad T=>match s.ac (.tmp ad),Ypc P T,Y161 P T with
  | some c,some n,some ag=>match readAt s c n [] with
   | some (l,[],_)=>Y1fg ag l
   | _=>none
  | _,_,_=>none
def Y163 (P:Program) (s:St):List ResultVar->Option (List SV)
 | []=>some []
 | r :: l=>match Y1lx P s r,Y163 P s l with
  | some x,some y=>some (x :: y)
  | _,_=>none
def Y1sk:List SV->AV
 | [x]=>.sv x
 | l=>.tup l
def Y142 (a b:List Ob):Prop:=a=b
def Y1uf (P:Program) (rs:List ResultVar) (objs1:List Ob) (res:AV):AEx->St->List Orc->Prop
 | .exit _,_,_=>False
 | _,s,q=>Yo4 q s λs q=>match q with
  | .fin ids :: _=>match Y16g s.m (List.range s.m++ids),Y163 P s rs with
   | true,some l=>Y142 ((List.range s.m++ids).map (λi=>(s.obj i).sel (List.range s.m++ids))) objs1/\(Y1sk l).sel (List.range s.m++ids)=res
   | _,_=>StuckFin s
  | _=>StuckFin s
section
variable {P:Program}{E:Ent P}{s:St}{ι:Interp}{a:Act}{w:World}
def Y15p (tmps:Array Value):ResultVar->Sem Value
 | .tmp t=>pure (tmps.getD t undef)
 | .cell ad t=>do loadVar t (<- asAddr (tmps.getD ad undef))
theorem Y1tr (h:Rel E s ι a w) {r:ResultVar}{x:SV}(e:Y1lx P s r=some x):∃ v,(Y15p a.tmps r).run P w=.ok v w/\Ymo w ι s.obj x v:=by
 cases r with
 | tmp t=>
  simp only[Y1lx]at e
  have hr:=h.regs t
  split at e
  ·rename_i y hy
   simp only[aa]at e;subst e
   rw[hy]at hr
   exact⟨_,by simp[Y15p],hr⟩
  ·cases e
 | cell ad T=>
  simp only[Y1lx]at e
  split at e
  ·rename_i c n ag hc hn hg
   split at e
   ·rename_i l q' hr
    obtain⟨⟨b,off,xs,hp,hl,hx,ha⟩,_⟩:=Y12t (K:=True) h hr (Yn7 h hc) trivial
    have hp':a.tmps.getD ad undef=.pointer (some ⟨b,off,none⟩):=by rw[<- hp];simp[Act.eval]
    have hlen:xs.length=n:=by rw[<- ha.length];exact hl
    rcases Y1ge e ha with ⟨rfl,hs⟩|⟨rfl,u,rfl,hs⟩
    ·refine⟨_,?_,hs⟩
     simp only[Y15p,hp',asAddr,aQ,bC,aZ]
     exact Yu7 hg hn hlen hx
    ·refine⟨_,?_,hs⟩
     simp only[Y15p,hp',asAddr,aQ,bC,aZ]
     exact Yy0 hg (hx 0 u rfl)
   ·cases e
  ·cases e
theorem Y1ez (h:Rel E s ι a w):∀ {rs:List ResultVar}{l:List SV},Y163 P s rs=some l->∃ vs,(rs.mapM (Y15p a.tmps)).run P w=.ok vs w/\Ylq (Ymo w ι s.obj) l vs
 | [],l,e=>by simp only[Y163,aa]at e;subst e;exact⟨[],by simp,trivial⟩
 | r :: rs,l,e=>by
  simp only[Y163]at e
  split at e
  ·rename_i x y hx hy
   simp only[aa]at e;subst e
   obtain⟨v,h1,h2⟩:=Y1tr h hx
   obtain⟨vs,h3,h4⟩:=Y1ez h hy
   refine⟨v :: vs,?_,h2,h4⟩
   simp only[List.mapM_cons,aQ,h1,aZ,h3,bC]
  ·cases e
theorem Y1hh (h:Rel E s ι a w) {fn:Func}{rs:List ResultVar}(hf:fn.results=rs.toArray) {l:List SV}(e:Y163 P s rs=some l) :
  ∃ v,(results fn a.tmps).run P w=.ok v w/\Ymg w ι s.obj (Y1sk l) v:=by
 obtain⟨vs,h1,h2⟩:=Y1ez h e
 have hm:(fn.results.mapM (Y15p a.tmps)).run P w=.ok vs.toArray w:=by
  rw[hf,List.mapM_toArray,map_eq_pure_bind,aQ,h1];rfl
 refine⟨if hh:vs.toArray.size=1 then vs.toArray[0] else .tuple vs.toArray,?_,?_⟩
 ·have he:results fn a.tmps=(do let vs <- fn.results.mapM (Y15p a.tmps);pure (if h:vs.size=1 then vs[0] else .tuple vs)):=by
   unfold results
   congr 1
  rw[he,aQ,hm]
  rfl
 ·match l,vs,h2 with
  | [],[],_=>exact⟨#[],rfl,trivial⟩
  | [x],[v],h2=>exact(show Ymo w ι s.obj x _ from by simpa using h2.1)
  | x :: y :: l,v :: u :: vs,h2=>exact⟨(v :: u :: vs).toArray,by simp,h2⟩
def Y13n (objs0:List Ob) (args:List SV) (n:Nat):St:={ regs:=args.map AV.sv++List.replicate (n - args.length) Yu5,objs:=objs0,m:=objs0.length }
theorem Ynw.intro (hm:P.follows .mixedOrders) {f:FuncId}{fn:Func}{c:Code}{objs0:List Ob}{args:List SV}{objs1:List Ob}{res:AV}{rs:List ResultVar}(q:List Orc)
  (hc:∀ xs w,(callFunc f xs).run P w=.ok (.enter f xs) w) (hf:P.funcs[f]? = some fn) (hb:fn.body=some c) (hr:fn.results=rs.toArray) {n:Nat} (hn:fn.ntmps=n)
  (h:Yq8 P c (Y13n objs0 args n) q (Y1uf P rs objs1 res)):Ynw P f objs0 args objs1 res:=by
 refine⟨hc,λw ι vals hp hkn => ?_⟩
 refine calls_of_wp hf hb ?_
 have hal:args.length=vals.size:=by simpa using hp.arg.length
 have hrel:Rel ⟨w,ι,Ynd objs0,hkn⟩ (Y13n objs0 args n) ι { tmps:=vals++Array.replicate (fn.ntmps - vals.size) undef,defers:=[] } w:=by
  refine { len := ?_,defers:=rfl,regs:=λt => ?_,objs:=hp.obj,disj:=hp.disj,gfp:=hp.gfp,own:=λi b hi=>.inl ⟨i,hi⟩,lt:=hp.lt,glt:=hp.glt,frame:=λ_ _ _=>rfl,size:=aC _,os:=rfl,out:=rfl,ent:=λi => ?_,gg:=λ_ hb=>hb,gown:=λ_ hb=>.inl hb,ment:=λi hi => ?_ }
  ·simp[Y13n,hal,hn]
  ·simp only[Y13n,St.reg,ao,bY,bb,aO,bA,Array.getElem?_append]
   by_cases ht:t<args.length
   ·rw[ae ht,ae oW]
    obtain⟨v,hv,hrel⟩:=hp.arg.get_left (av ht)
    rw[av ht,<- dG,hv]
    exact hrel
   ·rw[ab ht]
    rw[List.getElem?_replicate]
    split
    ·exact Yum
    ·exact Yum
  ·show Ync w w ι ι False i (Ynd objs0 i) (Ynd objs0 i)
   cases Ynd objs0 i<;>simp[Ync]
  ·show Ynd objs0 i=.free
   simp[Ynd,bf (show objs0.length<=i from hi)]
 refine dJ ?_ (Y14e hm c h hrel)
 rintro e a' w' ⟨ex,s',q',ι',rfl,hk,hr'⟩
 have main:∀ {s':St} {ι':Interp} {q':List Orc},Yo4 q' s' (λs q=>match q with
  | .fin ids :: _=>match Y16g s.m (List.range s.m++ids),Y163 P s rs with
   | true,some l=>Y142 ((List.range s.m++ids).map (λi=>(s.obj i).sel (List.range s.m++ids))) objs1/\(Y1sk l).sel (List.range s.m++ids)=res
   | _,_=>StuckFin s
  | _=>StuckFin s)->Rel ⟨w,ι,Ynd objs0,hkn⟩ s' ι' a' w' ->
   a'.defers=[]/\∃ v,(results fn a'.tmps).run P w'=.ok v w'/\∃ v1 ι',Ending.returned v=.returned v1/\PostRel w ι objs0 objs1 res w' v1 ι':=by
  intro s' ι' q' hk hr'
  obtain⟨s2,q2,ι2,hk,h2⟩:=Ynj hk hr'
  split at hk
  ·rename_i ids qq
   split at hk
   ·rename_i l hok hl
    obtain⟨rfl,rfl⟩:=hk
    obtain⟨v,h3,h4⟩:=Y1hh h2 hr hl
    refine⟨h2.defers,v,h3,v,Ypl ι2 (List.range s2.m++ids),rfl,?_⟩
    have h5:=h2.sel [] hok
    have hobj:(s2.sel (List.range s2.m++ids) []).obj=Ynd ((List.range s2.m++ids).map λi=>(s2.obj i).sel (List.range s2.m++ids)):=rfl
    have hs:Sel (List.range s2.m++ids) s2.obj (s2.sel (List.range s2.m++ids) []).obj:=⟨λj i e=>by
     rw[hobj]
     simp only[Ynd,ao,bb,e];rfl⟩
    exact { ext:=h5.ent,obj:=h5.objs,disj:=h5.disj,gfp:=h5.gfp,lt:=h5.lt,glt:=h5.glt,gg:=h5.gg,gown:=λb hb=>h5.gown b hb,own:=λj b hb=>h5.own j b hb,frame:=λb hb hn=>h5.frame b hb (λ⟨i,hi⟩=>hn i hi),size:=h5.size,os:=h5.os,out:=h5.out,val:=Ymg.sel hs h4 }
   ·cases hk
  ·cases hk
 cases ex with
 | normal=>exact main hk hr'
 | exit i=>exact hk.elim
 | ret=>exact main hk hr'
end
end Go.Proofs.YtcbodhkhppgkiaaGreat.Ab
end
section
namespace Go.Proofs.YtcbodhkhppgkiaaGreat.Ab
open Go Go.ChangeShapes
def cI (n:Int):Cell:=.lit (.int .i64 n)
def cB (b:Bool):Cell:=.lit (.bool b)
def cS (s:ByteArray):Cell:=.lit (.string s)
def vI (n:Int):AC:=.val (cI n)
def vB (b:Bool):AC:=.val (cB b)
def vS (s:ByteArray):AC:=.val (cS s)
def vL (es:List (List Cell)):AC:=.val (.list es)
def li (n:Int):SV:=.one (vI n)
def lb (b:Bool):SV:=.one (vB b)
def ls (s:ByteArray):SV:=.one (vS s)
def ll (es:List (List Cell)):SV:=.one (vL es)
def Ymj (s:ByteArray):List Cell:=[cS s]
def Yl4 (n:Int):List Cell:=[cI n]
def vals (l:List Cell):List AC:=l.map .val
def Yuz:Code->List Code
 | .seq a b=>Yuz a++Yuz b
 | .cond _ a b=>Yuz a++Yuz b
 | .block _ c=>Yuz c
 | .loop c=>c :: Yuz c
 | _=>[]
def Yli (fn:Func) (i:Nat):Code:=(Yuz (fn.body.getD .skip)).getD i .skip
def Y19o (w:World):Interp:={ G:=λb=>b<w.heap.size,blk:=λ_=>0,sl:=λ_=>.slice none 0 0,fp:=λ_ _=>False }
theorem Ynw.kept {P:Program}{f:FuncId}{args:List SV}{v:Value}(h:Ynw P f [] args [] (.sv (.one (.val (.lit v))))) {w:World}{vals:Array Value}
  (hkn:Kn P w (Y19o w)) (hv:Ylq (Ymo w (Y19o w) (Ynd [])) args vals.toList):Calls P f vals w λe w'=>e=.returned v/\w.kept w'/\w.heap.size<=w'.heap.size:=by
 have hp:PreRel w (Y19o w) [] args vals:=
  { obj:=λj=>λ_ hb=>hb,disj:=λ_ _ _ _ hb=>hb.elim,gfp:=λ_ _ hb=>hb.elim,lt:=λ_ _ hb=>hb.elim,glt:=λ_ hb=>hb,arg:=hv }
 refine(h.2 w (Y19o w) vals hp hkn).mono ?_
 rintro e w' ⟨u,ι',rfl,hpost⟩
 have hu:=(Rd.lit_inv (show Rd w' ι'.G u (.lit v) from hpost.val.1)).1
 refine⟨by rw[hu],⟨hpost.os,hpost.out,λi hi=>hpost.frame i hi λ_ hb=>hb⟩,hpost.size⟩
section
variable {P:Program}{H:Type}{enc:TypeId×Value->H}
theorem Y1hj {W W':World}(hk:W.kept W') {a:Addr}(ha:a.block<W.heap.size):W'.frozen? a=W.frozen? a:=by
 unfold World.frozen?;rw[hk.2.2 _ ha]
theorem Y1fl {f:Func}{s:ChangeSpec}{apart fresh handsOn again:Bool}{W W':World}{args:Array Value}{v:Value}{ds gs:List (DataW H)}{before pa pv:List MemPlace}
  (hW:DataW.Whole enc P f.params.toList s.vars apart W args.toList ds gs before)
  (hres:∀ (b:Nat) (sp:Nat->Bool) (hd:Bool),DataW.TrodAll enc P W' b sp hd f.resultTypes.toList (v.resultList f.resultTypes.size) (s.fn H (ds++gs)).results [])
  (hargs:∀ sp:Nat->Bool,(∀ p∈before,sp p.block)->DataW.TrodAll enc P W' 0 sp true f.params.toList args.toList (s.fn H (ds++gs)).args pa)
  (hvars:∀ sp:Nat->Bool,(∀ p∈before,sp p.block)->DataW.TrodVars enc P W' sp s.vars (s.fn H (ds++gs)).vars pv)
  (hps:before=pa++pv) (hk:W.kept W')
  (hok:∀ (j:Nat) (t:TypeId) (r:Value),f.resultTypes[j]? = some t->(v.resultList f.resultTypes.size)[j]? = some r->Value.okWide P W' .any 0 t r) :
  s.post enc P f apart fresh handsOn again W args v W':=by
 have old:∀ p∈before,decide (p.block<W.heap.size):=λp hp=>by simpa using hW.lt p hp
 have kb:W.keptBut W' (λp=>p∈before/\(p∈([]:List MemPlace)\/p∈pa\/p∈pv)):=World.keptBut_mono (λ_ f=>f.elim) (World.keptBut_none_iff.2 hk)
 refine⟨ds,gs,before,[],pa,pv,hW,hres _ _ _,hargs (λb=>decide (b<W.heap.size)) old,hvars (λb=>decide (b<W.heap.size)) old,kb,λ_ => ?_⟩
 have lt0:=hW.lt
 obtain⟨_,_,_,_,_,hz,hn⟩:=hW
 refine⟨hok,_,_,([]++pa)++pv,⟨[]++pa,pv,trodAll_append (hargs _ (λ_ _=>rfl)) (hres _ _ _),hvars _ (λ_ _=>rfl),rfl,λb off hp => ?_,λha => ?_⟩,λp hp _ => ?_⟩
 ·have hb:MemPlace.cell b off∈before:=by rw[hps];simpa using hp
  rw[Y1hj hk (lt0 _ hb)]
  exact hz b off hb
 ·have:=hn ha
  rw[hps]at this
  simpa using this
 ·rw[hps];simpa using hp
end
end Go.Proofs.YtcbodhkhppgkiaaGreat.Ab
end
section
namespace Go.Proofs.YtcbodhkhppgkiaaGreat.Ab
open Go Go.MapKept
def kI:MK:=⟨.int .i64,some (.int .i64 0)⟩
def kL:MK:=⟨.string,some (.slice none 0 0)⟩
def Y15k:Value->Int
 | .int _ n=>n
 | _=>0
def Yzn:Value->ByteArray
 | .string s=>s
 | _=>⟨#[]⟩
def mI (g:Int->Int):Value->Option Cell:=λv=>some (cI (g (Y15k v)))
def mO (g:Int->Option Int):Value->Option Cell:=λv=>(g (Y15k v)).map cI
def mS (g:ByteArray->Int):Value->Option Cell:=λv=>some (cI (g (Yzn v)))
def mL (g:ByteArray->List Int):Value->Option Cell:=λv=>some (.list ((g (Yzn v)).map Yl4))
def mLt (g:ByteArray->List Int) (s:ByteArray):Value->Option Cell:=λv=>match decide (Yzn v=s) with|true=>some .any|false=>some (.list ((g (Yzn v)).map Yl4))
def Y1st:Value->ByteArray×ByteArray
 | .agg cs=>match cs.toList with
  | [.string a,.string b]=>(a,b)
  | _=>(⟨#[]⟩,⟨#[]⟩)
 | _=>(⟨#[]⟩,⟨#[]⟩)
def mP (g:ByteArray×ByteArray->Int):Value->Option Cell:=λv=>some (cI (g (Y1st v)))
def zI:Int->Int:=λ_=>0
def zL:ByteArray->List Int:=λ_=>[]
def Ypq {α β:Type}[DecidableEq α] (g:α->β) (n:α) (x:β):α->β:=λm=>if m=n then x else g m
theorem Ytm {α β:Type}[DecidableEq α] (g:α->β) (n:α) (x:β):Ypq g n x n=x:=ae rfl
theorem Ywl {α β:Type}[DecidableEq α] (g:α->β) {n m:α}(x:β) (h:m≠n):Ypq g n x m=g m:=ab h
theorem Y19d {k:Value}{n:Int}(h:You (.int .i64) k) (hn:k≠.int .i64 n):Y15k k≠n:=by
 cases k<;>simp_all[You,IsKey,Y15k]
theorem Y13i {k:Value}{s:ByteArray}(h:You .string k) (hn:k≠.string s):Yzn k≠s:=by
 cases k<;>simp_all[You,IsKey,Yzn]
theorem Y1yv {z:Value}{g:Int->Int}{n:Int}:Ypw z (mI g) (.int .i64 n) (cI (g n)):=.inl rfl
theorem Y1yi {z:Value}{g:ByteArray->Int}{s:ByteArray}:Ypw z (mS g) (.string s) (cI (g s)):=.inl rfl
theorem Y1xy {z:Value}{g:ByteArray->List Int}{s:ByteArray}:Ypw z (mL g) (.string s) (.list ((g s).map Yl4)):=.inl rfl
theorem Y1xl {g:Int->Option Int}{n:Int}:(mO g (.int .i64 n)=some (cI ((g n).getD 0))/\(g n).isSome)\/(mO g (.int .i64 n)=none/\cI ((g n).getD 0)=normLit (.int .i64 0)/\(g n).isSome=false):=by
 show ((g n).map cI=_/\_)\/((g n).map cI=_/\_)
 cases g n with
 | none=>exact .inr ⟨rfl,rfl,rfl⟩
 | some x=>exact .inl ⟨rfl,rfl⟩
theorem Y1tt {g:Int->Option Int}{n:Int}:Ypw (.int .i64 0) (mO g) (.int .i64 n) (cI ((g n).getD 0)):=by
 show (g n).map cI=_\/((g n).map cI=_/\_)
 cases g n with
 | none=>exact .inr ⟨rfl,rfl⟩
 | some x=>exact .inl rfl
theorem Y203 {g:Int->Int}{n x:Int}:Yqr (.int .i64) (mI g) (mI (Ypq g n x)) (.int .i64 n) (some (cI x)):=by
 refine⟨?_,λk hk hn => ?_⟩
 ·simp only[mI,Y15k,Ytm]
 ·simp only[mI,Ywl g x (Y19d hk hn)]
theorem Y20x {g:Int->Option Int}{n x:Int}:Yqr (.int .i64) (mO g) (mO (Ypq g n (some x))) (.int .i64 n) (some (cI x)):=by
 refine⟨?_,λk hk hn => ?_⟩
 ·simp only[mO,Y15k,Ytm,aP]
 ·simp only[mO,Ywl g (some x) (Y19d hk hn)]
theorem Y229 {g:Int->Option Int}{n:Int}:Yqr (.int .i64) (mO g) (mO (Ypq g n none)) (.int .i64 n) none:=by
 refine⟨?_,λk hk hn => ?_⟩
 ·simp only[mO,Y15k,Ytm,Option.map_none]
 ·simp only[mO,Ywl g none (Y19d hk hn)]
theorem Y20j {g:ByteArray->Int}{s:ByteArray}{x:Int}:Yqr .string (mS g) (mS (Ypq g s x)) (.string s) (some (cI x)):=by
 refine⟨?_,λk hk hn => ?_⟩
 ·simp only[mS,Yzn,Ytm]
 ·simp only[mS,Ywl g x (Y13i hk hn)]
theorem Y1xh {g:ByteArray->List Int}{s:ByteArray}:Yqr .string (mL g) (mLt g s) (.string s) (some .any):=by
 refine⟨?_,λk hk hn => ?_⟩
 ·simp[mLt,Yzn]
 ·simp only[mL,mLt,bK (Y13i hk hn)]
theorem Y1qe {g:ByteArray->List Int}{s:ByteArray}{L:List Int}{es:List (List Cell)}(h:es=L.map Yl4):Yqr .string (mLt g s) (mL (Ypq g s L)) (.string s) (some (.list es)):=by
 subst h
 refine⟨?_,λk hk hn => ?_⟩
 ·simp only[mL,Yzn,Ytm]
 ·simp only[mL,mLt,bK (Y13i hk hn),Ywl g L (Y13i hk hn)]
theorem Y1ul {t:TypeId}{k:Value}{a b:ByteArray}(h:You (.array 2 t) k) (hn:k≠.agg #[.string a,.string b]):Y1st k≠(a,b):=by
 obtain⟨_,c,d,rfl⟩:=h
 intro e
 apply hn
 simp only[Y1st,al]at e
 rw[e.1,e.2]
theorem Y1xo {z:Value}{g:ByteArray×ByteArray->Int}{a b:ByteArray}:Ypw z (mP g) (.agg #[.string a,.string b]) (cI (g (a,b))):=.inl rfl
theorem Y213 {t:TypeId}{g:ByteArray×ByteArray->Int}{a b:ByteArray}{x:Int}:Yqr (.array 2 t) (mP g) (mP (Ypq g (a,b) x)) (.agg #[.string a,.string b]) (some (cI x)):=by
 refine⟨?_,λk hk hn => ?_⟩
 ·show some (cI (Ypq g (a,b) x (a,b)))=_
  rw[Ytm]
 ·simp only[mP,Ywl g x (Y1ul hk hn)]
end Go.Proofs.YtcbodhkhppgkiaaGreat.Ab
end
