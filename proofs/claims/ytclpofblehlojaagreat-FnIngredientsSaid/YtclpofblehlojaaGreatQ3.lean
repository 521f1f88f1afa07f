/- Part 3 of the machine. No condition. -/
import Derived.Test.YtclpofblehlojaaGreatQ2
import Derived.LoopN
import Derived.Orders
import Derived.ProofKit
import Derived.OpenShut
set_option linter.unusedVariables false
set_option linter.unusedSimpArgs false
section
namespace Go.Proofs.YtclpofblehlojaaGreat.Ab
open Go
inductive StuckOp (s:St) (o:Oper) (n:Nat):Prop
inductive StuckB (b:Bool):Prop
inductive StuckGuard (s:St) (o:Oper):Prop
inductive StuckGhost (s:St) (g:Ghost):Prop
inductive StuckLoop (s:St) (c:Code):Prop
inductive StuckFin (s:St):Prop
inductive StuckPull (s:St) (o:Oper):Prop
inductive StuckOut (e:AEx) (s:St):Prop
inductive StuckCode (c:Code):Prop
inductive StuckCond (s:St) (x:Operand):Prop
def Y132:Ob->List Ob->List Ob
 | .free,[]=>[]
 | o,acc=>o :: acc
def Y1ch:List Ob->List Ob
 | []=>[]
 | o :: l=>Y132 o (Y1ch l)
theorem Y15p (o:Ob) (l:List Ob) (i:Nat):(Y132 o l).getD i .free=(o :: l).getD i .free:=by
 cases o <;> cases l <;> first | rfl | (cases i <;> rfl)
theorem Y155:∀ (l:List Ob) (i:Nat),(Y1ch l).getD i .free=l.getD i .free
 | [],_=>rfl
 | o :: l,i=>by
  rw [Y1ch,Y15p]
  cases i with
  | zero=>rfl
  | succ i=>exact Y155 l i
def St.grow (s:St) (k:Nat):St:={ s with objs:=s.objs++List.replicate k .free }
def St.shrink (s:St):St:={ s with objs:=Y1ch s.objs }
theorem Y1b8 (s:St):s.shrink.obj=s.obj:=funext fun i=>Y155 s.objs i
theorem Ykc (s:St) (k:Nat):(s.grow k).obj=s.obj:=by
 funext i
 simp only [St.grow,St.obj,List.getD_eq_getElem?_getD,List.getElem?_append,List.getElem?_replicate]
 by_cases h:i<s.objs.length
 ·simp [h]
 ·rw [if_neg h,List.getElem?_eq_none (Nat.le_of_not_lt h)]
  split <;> rfl
section
variable {P:Program} {E:Ent P} {s:St} {ι:Interp} {a:Act} {w:World}
theorem Rel.shrink (h:Rel E s ι a w):Rel E s.shrink ι a w:=h.sameObj rfl (Y1b8 s) rfl
theorem Rel.grow (h:Rel E s ι a w) (k:Nat):Rel E (s.grow k) ι a w:=h.sameObj rfl (Ykc s k) rfl
theorem Rel.world (h:Rel E s ι a w) {w':World} (hh:w'.heap=w.heap) (ho:w'.os=w.os) (hp:w'.output=w.output):Rel E s ι a w':=by
 have hb:∀ b:Nat,w'.heap[b]? = w.heap[b]? := fun b=>by rw [hh]
 have hx:Ext (fun _=>True) w ι s.obj w' ι s.obj:=⟨fun b hg=>⟨hg,hb b⟩,fun i=>by cases s.obj i <;> simp [Yho,hb] <;> exact fun b hf=>.inl hf⟩
 refine Rel.step h hx (fun t=>.inl ⟨rfl,fun _ _ _ _=>trivial⟩) rfl rfl (fun i=>.inl ⟨rfl,⟨rfl,rfl,fun b=>Iff.rfl,fun b _=>hb b⟩,fun _ _ _ _=>trivial⟩)
  h.disj h.gfp h.own (by rw [hh]; exact h.lt) (by rw [hh]; exact h.glt) (fun b _ _=>hb b) (by rw [hh]; exact Nat.le_refl _) ho hp
theorem Yr3 (s:St) (k:Nat):Ykh (s.grow k) s.objs.length k:=by
 intro i h1 h2
 refine ⟨?_,by simp [St.grow]; omega⟩
 rw [Ykc]
 simp [St.obj,List.getElem?_eq_none h1]
def St.bit (s:St) (t:Nat):Option (Option Bool):=match s.reg t with
 | .sv (.one (.val (.lit (.bool b))))=>some (some b)
 | .tup []=>some none
 | _=>none
def Ymd (ops:Array Oper) (s:St) (o:Oper):Option Bool:=
 match o.guard with
 | none=>some true
 | some (g,want)=>match (ops[g]?).bind (·.dst) with
  | some t=>match s.bit t with
   | some (some b)=>some (b == want)
   | some none=>some false
   | none=>none
  | none=>none
def Y1oo:Option Bool->Value->Prop
 | some b,v=>v=.bool b
 | none,v=>∃ arr,v=.tuple arr
theorem Y1d2 {s:St} {t:Nat} {x:Option Bool} (e:s.bit t=some x):t<s.regs.length:=by
 rcases Nat.lt_or_ge t s.regs.length with h | h
 ·exact h
 ·simp [St.bit,St.reg,List.getElem?_eq_none h] at e
theorem Y18z (h:Rel E s ι a w) {t:Nat} {x:Option Bool} (e:s.bit t=some x):∃ v,a.tmps[t]? = some v/\Y1oo x v:=by
 have hr:=h.regs t
 have ht:=Y1d2 e
 rw [h.len] at ht
 refine ⟨a.tmps.getD t undef,by simp [ht],?_⟩
 unfold St.bit at e
 split at e
 ·rename_i b hb
  simp only [Option.some.injEq] at e; subst e
  rw [hb] at hr
  exact (Rd.lit_inv (show Rd w ι.G _ (.lit (.bool b)) from hr.1)).1
 ·rename_i hb
  simp only [Option.some.injEq] at e; subst e
  rw [hb] at hr
  obtain ⟨arr,e1,e2⟩:=hr
  exact ⟨arr,e1⟩
 ·cases e
theorem Ypj (h:Rel E s ι a w) {ops:Array Oper} {o:Oper} {b:Bool} (e:Ymd ops s o=some b):Region.wanted o (yielded ops a.tmps)=b:=by
 unfold Ymd at e
 unfold Region.wanted
 split at e
 ·rename_i hg; simp only [Option.some.injEq] at e; subst e; simp [hg]
 ·rename_i g want hg
  simp only [hg]
  split at e
  ·rename_i t ht
   unfold yielded
   rw [ht]
   simp only [Option.bind_some]
   split at e
   ·rename_i x hx
    simp only [Option.some.injEq] at e; subst e
    obtain ⟨v,h1,h2⟩:=Y18z h hx
    simp only [Y1oo] at h2
    subst h2
    rw [h1]; rfl
   ·rename_i hx
    simp only [Option.some.injEq] at e; subst e
    obtain ⟨v,h1,arr,rfl⟩:=Y18z h hx
    rw [h1]; rfl
   ·cases e
  ·cases e
def Y1iy (ops:Array Oper) (i:Nat):Bool:=ops.any fun o=>match o.guard with | some (g,_)=>g == i | none=>false
def Yrf (b:Bool):AV:=.sv (.one (.val (.lit (.bool b))))
def Y10r (s:St) (t:Nat) (q:List Orc) (k:St->List Orc->Prop):Prop:=
 match s.reg t with
 | .sv (.one (.val (.lit (.bool b))))=>match q with
  | .bool d :: q=>b=d/\k (s.put (some t) (Yrf d)) q
  | .br l r :: _=>(b=true->k (s.put (some t) (Yrf true)) l)/\(b=false->k (s.put (some t) (Yrf false)) r)
  | _=>StuckB b
 | .tup []=>k s q
 | _=>k s q
theorem Yo8 (a:Act) (t:Nat):a.put (some t) (a.tmps.getD t undef)=a:=by
 simp only [Act.put]
 congr 1
 apply Array.ext_getElem?
 intro i
 rw [Array.getElem?_setIfInBounds]
 by_cases h:t=i
 ·subst h
  by_cases hs:t<a.tmps.size
  ·simp [hs]
  ·simp [hs]
 ·simp [h]
theorem Y17a (h:Rel E s ι a w) {t:Nat} {q:List Orc} {k:St->List Orc->Prop} (hd:Y10r s t q k):∃ s' q',k s' q'/\Rel E s' ι a w:=by
 unfold Y10r at hd
 split at hd
 ·rename_i b hb
  have hr:=h.regs t
  rw [hb] at hr
  have hput:∀ d,b=d->Rel E (s.put (some t) (Yrf d)) ι a w:=by
   rintro d rfl
   have:=Rel.put h (some t) (x:=Yrf b) (v:=a.tmps.getD t undef) hr
   rwa [Yo8] at this
  split at hd
  ·exact ⟨_,_,hd.2,hput _ hd.1⟩
  ·cases b
   ·exact ⟨_,_,hd.2 rfl,hput _ rfl⟩
   ·exact ⟨_,_,hd.1 rfl,hput _ rfl⟩
  ·cases hd
 ·exact ⟨_,_,hd,h⟩
 ·exact ⟨_,_,hd,h⟩
def Y10h (src:Bool) (dst:Option Nat) (s:St) (q:List Orc) (k:St->List Orc->Prop):Prop:=
 match src,dst with
 | true,some t=>Y10r s t q k
 | _,_=>k s q
theorem Y17b (h:Rel E s ι a w) {src:Bool} {dst:Option Nat} {q:List Orc} {k:St->List Orc->Prop} (hd:Y10h src dst s q k):∃ s' q',k s' q'/\Rel E s' ι a w:=by
 unfold Y10h at hd
 split at hd
 ·exact Y17a h hd
 ·exact ⟨_,_,hd,h⟩
theorem Y11n {ob:Nat->Ob}:Ygz w ι ob (.tup []) undef:=⟨#[],rfl,trivial⟩
end
end Go.Proofs.YtclpofblehlojaaGreat.Ab
end
section
namespace Go.Proofs.YtclpofblehlojaaGreat.Ab
open Go
def Ynm:List Nat->Nat->Option Nat
 | [],_=>none
 | x :: l,i=>match Nat.beq x i with
  | true=>some 0
  | false=>match Ynm l i with
   | some j=>some (j+1)
   | none=>none
theorem Yjz:∀ {l:List Nat} {i j:Nat},Ynm l i=some j->l[j]? = some i
 | [],i,j,h=>by simp [Ynm] at h
 | x :: l,i,j,h=>by
  unfold Ynm at h
  split at h
  ·rename_i hb
   simp only [Option.some.injEq] at h; subst h
   have:=Nat.eq_of_beq_eq_true hb
   simp [this]
  ·split at h
   ·rename_i j' hj
    simp only [Option.some.injEq] at h; subst h
    simpa using Yjz hj
   ·cases h
def AC.sel (ids:List Nat):AC->AC
 | .ref i=>match Ynm ids i with | some j=>.ref j | none=>.top
 | .bor i c=>match Ynm ids i with | some j=>.bor j c | none=>.top
 | .ptr i o=>match Ynm ids i with | some j=>.ptr j o | none=>.top
 | .eptr i k o=>match Ynm ids i with | some j=>.eptr j k o | none=>.top
 | .iptr (some i) cs=>match Ynm ids i with | some j=>.iptr (some j) cs | none=>.top
 | .sub i k p=>match Ynm ids i with | some j=>.sub j k p | none=>.top
 | .mref i=>match Ynm ids i with | some j=>.mref j | none=>.top
 | c=>c
def SV.sel (ids:List Nat):SV->SV
 | .one c=>.one (c.sel ids)
 | .agg cs=>.agg (cs.map (AC.sel ids))
def AV.sel (ids:List Nat):AV->AV
 | .sv x=>.sv (x.sel ids)
 | .tup l=>.tup (l.map (SV.sel ids))
def Ob.sel (ids:List Nat):Ob->Ob
 | .box cs=>.box (cs.map (AC.sel ids))
 | o=>o
def Ynn:AV:=.sv (.one .top)
def Ylg (ids keep:List Nat):Nat->List AV->List AV
 | _,[]=>[]
 | n,v :: l=>(match keep.elem n with | true=>v.sel ids | false=>Ynn) :: Ylg ids keep (n+1) l
def St.sel (s:St) (ids keep:List Nat):St:={ regs:=Ylg ids keep 0 s.regs,objs:=ids.map fun i=>(s.obj i).sel ids,m:=s.m }
def Yzk:List Nat->Bool
 | []=>true
 | x :: l => !l.elem x&&Yzk l
def Yys (m:Nat) (ids:List Nat):Bool:=Yzk ids&&(ids.take m == List.range m)
section
variable {P:Program} {E:Ent P} {s:St} {ι:Interp} {a:Act} {w:World}
theorem Ywf:∀ {l:List Nat},Yzk l=true->∀ {i j x:Nat},l[i]? = some x->l[j]? = some x->i=j
 | [],_,i,j,x,hi,_=>by simp at hi
 | y :: l,h,i,j,x,hi,hj=>by
  simp only [Yzk,Bool.and_eq_true,Bool.not_eq_true',List.elem_eq_contains] at h
  have hn:y ∉ l:=by simpa using h.1
  cases i with
  | zero=>cases j with
   | zero=>rfl
   | succ j=>
    simp only [List.getElem?_cons_zero,Option.some.injEq] at hi; subst hi
    exact absurd (List.mem_of_getElem? (by simpa using hj)) hn
  | succ i=>cases j with
   | zero=>
    simp only [List.getElem?_cons_zero,Option.some.injEq] at hj; subst hj
    exact absurd (List.mem_of_getElem? (by simpa using hi)) hn
   | succ j=>rw [Ywf (l:=l) h.2 (i:=i) (j:=j) (x:=x) (by simpa using hi) (by simpa using hj)]
def Yjb (ι:Interp) (ids:List Nat):Interp:=
 { G:=ι.G,blk:=fun j=>ι.blk (ids.getD j 0),sl:=fun j=>ι.sl (ids.getD j 0),fp:=fun j b=>∃ i,ids[j]? = some i/\ι.fp i b }
structure Sel (ids:List Nat) (ob ob':Nat->Ob):Prop where
 o:∀ j i,ids[j]? = some i->ob' j=(ob i).sel ids
variable {ids:List Nat} {ob ob':Nat->Ob}
theorem Sel.notFree (h:Sel ids ob ob') {i j:Nat} (hj:ids[j]? = some i) (hn:Ab.notFree ob i):Ab.notFree ob' j:=by
 unfold Ab.notFree at *
 rw [h.o j i hj]
 cases e:ob i <;> simp_all [Ob.sel]
theorem Sel.arr (h:Sel ids ob ob') {i j:Nat} (hj:ids[j]? = some i) {own:Bool} {sz:Nat} {es:List (List Cell)} (e:ob' j=.arr own sz es):ob i=.arr own sz es:=by
 rw [h.o j i hj] at e
 cases e':ob i <;> simp_all [Ob.sel]
theorem Sel.box (h:Sel ids ob ob') {i j:Nat} (hj:ids[j]? = some i) {cs:List AC} (e:ob' j=.box cs):∃ cs1,ob i=.box cs1:=by
 rw [h.o j i hj] at e
 cases e':ob i <;> simp_all [Ob.sel]
theorem Sel.map (h:Sel ids ob ob') {i j:Nat} (hj:ids[j]? = some i) {nn:Bool} {k:MK} {f:Value->Option Cell} (e:ob' j=.map nn k f):ob i=.map nn k f:=by
 rw [h.o j i hj] at e
 cases e':ob i <;> simp_all [Ob.sel]
theorem Sel.reads (h:Sel ids ob ob') {i j:Nat} (hj:ids[j]? = some i) (e:(ob' j).reads):(ob i).reads:=by
 rw [h.o j i hj] at e
 cases e':ob i <;> simp_all [Ob.sel,Ob.reads]
theorem Sel.rdSet (h:Sel ids ob ob') {i j:Nat} (hj:ids[j]? = some i):∀ b,Ab.rdSet ι (some i) b->Ab.rdSet (Yjb ι ids) (some j) b:=
 fun b hb=>hb.imp id fun hb=>⟨i,hj,hb⟩
theorem Yme {j i:Nat} (hj:ids[j]? = some i):ids.getD j 0=i:=by simp [hj]
theorem Ygx.sel (h:Sel ids ob ob') {c:AC} {v:Value} (r:Ygx w ι ob c v):Ygx w (Yjb ι ids) ob' (c.sel ids) v:=by
 cases c with
 | top=>trivial
 | val c=>exact r
 | ref i=>
  simp only [AC.sel]
  split
  ·rename_i j hj
   have hj:=Yjz hj
   refine ⟨h.notFree hj r.1,fun own sz es e => ?_⟩
   simp only [Yjb,Yme hj]
   exact r.2 _ _ _ (h.arr hj e)
  ·trivial
 | bor i c=>
  simp only [AC.sel]
  split
  ·rename_i j hj
   have hj:=Yjz hj
   refine ⟨h.notFree hj r.1,fun e => ?_⟩
   exact Rd.mono (fun _ _=>rfl) (h.rdSet hj) (r.2 (h.reads hj e))
  ·trivial
 | ptr i o=>
  simp only [AC.sel]
  split
  ·rename_i j hj
   have hj:=Yjz hj
   refine ⟨h.notFree hj r.1,fun cs e => ?_⟩
   obtain ⟨cs1,e1⟩:=h.box hj e
   simp only [Yjb,Yme hj]
   exact r.2 _ e1
  ·trivial
 | eptr i k o=>
  simp only [AC.sel]
  split
  ·rename_i j hj
   have hj:=Yjz hj
   refine ⟨h.notFree hj r.1,fun own sz es e => ?_⟩
   simp only [Yjb,Yme hj]
   exact r.2 _ _ _ (h.arr hj e)
  ·trivial
 | iptr src cs=>
  cases src with
  | none=>exact ⟨fun id e=>(by cases e),fun hl=>r.2 trivial⟩
  | some i=>
   simp only [AC.sel]
   split
   ·rename_i j hj
    have hj:=Yjz hj
    refine ⟨fun id e=>by cases e; exact h.notFree hj (r.1 i rfl),fun hl => ?_⟩
    obtain ⟨b,o,xs,e,hb,hx,ha⟩:=r.2 (h.reads hj hl)
    exact ⟨b,o,xs,e,h.rdSet hj b hb,hx,ha.imp fun x c hc=>Rd.mono (fun _ _=>rfl) (h.rdSet hj) hc⟩
   ·trivial
 | sub i k p=>
  simp only [AC.sel]
  split
  ·rename_i j hj
   have hj:=Yjz hj
   refine ⟨h.notFree hj r.1,fun own sz es e => ?_⟩
   obtain ⟨b,h1,h2,h3⟩:=r.2 _ _ _ (h.arr hj e)
   refine ⟨b,?_,h.rdSet hj b h2,h3⟩
   simp only [Yjb,Yme hj]; exact h1
  ·trivial
 | mref i=>
  simp only [AC.sel]
  split
  ·rename_i j hj
   have hj:=Yjz hj
   refine ⟨h.notFree hj r.1,fun nn k f e => ?_⟩
   simp only [Yjb,Yme hj]
   exact r.2 _ _ _ (h.map hj e)
  ·trivial
theorem Yh5.sel (h:Sel ids ob ob') {x:SV} {v:Value} (r:Yh5 w ι ob x v):Yh5 w (Yjb ι ids) ob' (x.sel ids) v:=by
 cases x with
 | one c=>
  refine ⟨Ygx.sel h r.1,fun hn=>r.2 fun e=>hn ?_⟩
  subst e; rfl
 | agg cs=>
  obtain ⟨arr,e,ha⟩:=r
  exact ⟨arr,e,Yg8.map_left _ (ha.imp fun c u hc=>⟨Ygx.sel h hc.1,hc.2⟩)⟩
theorem Ygz.sel (h:Sel ids ob ob') {x:AV} {v:Value} (r:Ygz w ι ob x v):Ygz w (Yjb ι ids) ob' (x.sel ids) v:=by
 cases x with
 | sv x=>exact Yh5.sel h r
 | tup l=>
  obtain ⟨arr,e,ha⟩:=r
  exact ⟨arr,e,Yg8.map_left _ (ha.imp fun c u hc=>Yh5.sel h hc)⟩
theorem Yiu.sel (h:Sel ids ob ob') {i j:Nat} (hj:ids[j]? = some i) (r:Yiu w ι ob i (ob i)):Yiu w (Yjb ι ids) ob' j (ob' j):=by
 have hf:∀ b,(Yjb ι ids).fp j b ↔ ι.fp i b:=fun b=>⟨fun ⟨i',e,k⟩=>by rw [hj] at e; cases e; exact k,fun k=>⟨i,hj,k⟩⟩
 rw [h.o j i hj]
 cases e:ob i with
 | free=>rw [e] at r; exact fun b hb=>r b ((hf b).1 hb)
 | dead=>rw [e] at r; exact fun b hb=>r b ((hf b).1 hb)
 | box cs=>
  rw [e] at r
  obtain ⟨r1,arr,ty,r2,r3⟩:=r
  refine ⟨(hf _).2 (by simp only [Yjb,Yme hj]; exact r1),arr,ty,by simp only [Yjb,Yme hj]; exact r2,Yg8.map_left _ (r3.imp fun c v hc=>⟨Ygx.sel h hc.1,hc.2⟩)⟩
 | arr own sz es=>
  rw [e] at r
  have hf':(Yjb ι ids).fp j=ι.fp i:=funext fun b=>propext (hf b)
  show Ygs w (Yhm w ι.G own) sz ((Yjb ι ids).fp j) ((Yjb ι ids).sl j) es
  rw [hf']
  simp only [Yjb,Yme hj]
  exact r
 | map nn k f=>
  rw [e] at r
  cases nn with
  | true=>exact ⟨fun b hb=>r.1 b ((hf b).1 hb),r.2⟩
  | false=>
   show Yhu w k ((Yjb ι ids).fp j) ((Yjb ι ids).blk j) f
   simp only [Yjb,Yme hj]
   exact Yhu.mono (show Yhu w k (ι.fp i) (ι.blk i) f from r) (fun x hx=>⟨i,hj,hx⟩) fun _ _=>rfl
theorem Yrs (ids keep:List Nat):∀ (l:List AV) (n:Nat),(Ylg ids keep n l).length=l.length
 | [],_=>rfl
 | v :: l,n=>by simp [Ylg,Yrs ids keep l]
theorem Yw2 (ids keep:List Nat):∀ (l:List AV) (n t:Nat),(Ylg ids keep n l).getD t Ynn=(l.getD t Ynn).sel ids ∨ (Ylg ids keep n l).getD t Ynn=Ynn
 | [],_,_=>.inr rfl
 | v :: l,n,0=>by
  simp only [Ylg,List.getD_cons_zero]
  split
  ·exact .inl rfl
  ·exact .inr rfl
 | v :: l,n,t+1=>by
  simp only [Ylg,List.getD_cons_succ]
  exact Yw2 ids keep l (n+1) t
theorem Rel.sel (h : Rel E s ι a w) {ids : List Nat} (keep : List Nat) (hok : Yys s.m ids = true) : Rel E (s.sel ids keep) (Yjb ι ids) a w := by
  simp only [Yys, Bool.and_eq_true, beq_iff_eq] at hok
  obtain ⟨hnd, htake⟩ := hok
  have hinj : ∀ {i j x : Nat}, ids[i]? = some x -> ids[j]? = some x -> i = j := fun h1 h2 => Ywf hnd h1 h2
  have hm : ∀ i, i < s.m -> ids[i]? = some i := fun i hi => by
    have : (ids.take s.m)[i]? = some i := by rw [htake]; simp [hi]
    rwa [List.getElem?_take, if_pos hi] at this
  have hobj : ∀ j, (s.sel ids keep).obj j = match ids[j]? with | some i => (s.obj i).sel ids | none => .free := by
    intro j
    simp only [St.sel, St.obj, List.getD_eq_getElem?_getD, List.getElem?_map]
    cases ids[j]? <;> rfl
  have hs : Sel ids s.obj (s.sel ids keep).obj := ⟨fun j i e => by rw [hobj, e]⟩
  refine { len := by simp only [St.sel, Yrs]; exact h.len, defers := h.defers, regs := fun t => ?_, objs := fun j => ?_, disj := fun i j b hij hi hj => ?_, gfp := fun i b hi => ?_,
           own := fun i b hi => ?_, lt := fun i b hi => ?_, glt := h.glt, frame := h.frame, size := h.size, os := h.os, out := h.out, ent := fun i => ?_, gg := h.gg, gown := h.gown, ment := h.ment }
  · rcases Yw2 ids keep s.regs 0 t with e | e
    · show Ygz w (Yjb ι ids) _ ((Ylg ids keep 0 s.regs).getD t Ynn) _
      rw [e]; exact Ygz.sel hs (h.regs t)
    · show Ygz w (Yjb ι ids) _ ((Ylg ids keep 0 s.regs).getD t Ynn) _
      rw [e]; exact Yn0
  · cases e : ids[j]? with
    | none =>
      rw [hobj, e]
      rintro b ⟨i, hi, _⟩
      rw [e] at hi; cases hi
    | some i => exact Yiu.sel hs e (h.objs i)
  · obtain ⟨i', e1, f1⟩ := hi
    obtain ⟨j', e2, f2⟩ := hj
    refine h.disj i' j' b (fun e => hij ?_) f1 f2
    subst e; exact hinj e1 e2
  · obtain ⟨i', e1, f1⟩ := hi; exact h.gfp i' b f1
  · obtain ⟨i', e1, f1⟩ := hi; exact h.own i' b f1
  · obtain ⟨i', e1, f1⟩ := hi; exact h.lt i' b f1
  · rcases Nat.lt_or_ge i s.m with hi | hi
    · have hid := hm i hi
      rw [hobj, hid]
      have := h.ent i
      cases e1 : E.ob i <;> cases e2 : s.obj i <;> simp_all [Yho, Ob.sel, Yjb]
    · rw [h.ment i hi]; trivial
def AC.lock (id:Nat) (es:List (List Cell)):AC->AC
 | .ref i=>match Nat.beq i id with | true=>.val (.list es) | false=>.ref i
 | .bor i c=>match Nat.beq i id with | true=>.val c | false=>.bor i c
 | .eptr i k o=>match Nat.beq i id with | true=>.top | false=>.eptr i k o
 | .iptr (some i) cs=>match Nat.beq i id with | true=>.iptr none cs | false=>.iptr (some i) cs
 | .sub i k p=>match Nat.beq i id with | true=>.top | false=>.sub i k p
 | c=>c
def SV.lock (id:Nat) (es:List (List Cell)):SV->SV
 | .one c=>.one (c.lock id es)
 | .agg cs=>.agg (cs.map (AC.lock id es))
def AV.lock (id:Nat) (es:List (List Cell)):AV->AV
 | .sv x=>.sv (x.lock id es)
 | .tup l=>.tup (l.map (SV.lock id es))
def Ob.lock (id:Nat) (es:List (List Cell)):Ob->Ob
 | .box cs=>.box (cs.map (AC.lock id es))
 | o=>o
def Yo1 (id:Nat) (es:List (List Cell)):Nat->List Ob->List Ob
 | _,[]=>[]
 | n,o :: l=>(match Nat.beq n id with | true=>.dead | false=>o.lock id es) :: Yo1 id es (n+1) l
def St.lock (s:St) (id:Nat) (es:List (List Cell)):St:={ s with regs:=s.regs.map (AV.lock id es),objs:=Yo1 id es 0 s.objs }
theorem Yw7 (id:Nat) (es:List (List Cell)):∀ (l:List Ob) (n i:Nat),(Yo1 id es n l).getD i .free=if n+i=id/\i<l.length then .dead else (l.getD i .free).lock id es
 | [],n,i=>by simp [Yo1,Ob.lock]
 | o :: l,n,0=>by
  simp only [Yo1,List.getD_cons_zero,Nat.add_zero,List.length_cons,Nat.zero_lt_succ,and_true]
  by_cases h:n=id
  ·subst h; simp
  ·have:Nat.beq n id=false:=by rw [<- Bool.not_eq_true]; exact fun e=>h (Nat.eq_of_beq_eq_true e)
   rw [this,if_neg h]
 | o :: l,n,i+1=>by
  simp only [Yo1,List.getD_cons_succ,List.length_cons]
  rw [Yw7 id es l (n+1) i]
  congr 1
  simp only [eq_iff_iff]; constructor <;> (rintro ⟨h1,h2⟩; exact ⟨by omega,by omega⟩)
theorem Rel.lock (h:Rel E s ι a w) {id:Nat} {own:Bool} {sz:Nat} {es:List (List Cell)} (ho:s.obj id=.arr own sz es):∃ ι',Rel E (s.lock id es) ι' a w:=by
 let ι':Interp:={ ι with G:=fun b=>ι.G b ∨ ι.fp id b,fp:=fun i b=>i≠id/\ι.fp i b }
 have hlt:id<s.objs.length:=Ygp ho (by simp)
 have hobj:∀ i,(s.lock id es).obj i=if i=id then .dead else (s.obj i).lock id es:=by
  intro i
  show (Yo1 id es 0 s.objs).getD i .free=_
  rw [Yw7]
  by_cases hi:i=id
  ·subst hi; simp [hlt]
  ·rw [if_neg (by omega),if_neg hi]; rfl
 have hx:Ext (fun _=>True) w ι s.obj w ι' (s.lock id es).obj:=by
  refine ⟨fun b hb=>⟨.inl hb,rfl⟩,fun i => ?_⟩
  rw [hobj]
  by_cases hi:i=id
  ·subst hi; rw [if_pos rfl,ho]; trivial
  ·rw [if_neg hi]
   cases e:s.obj i with
   | free=>trivial
   | dead=>trivial
   | box cs=>rfl
   | arr o1 s1 e1=>exact ⟨rfl,rfl,fun _ b hb=>⟨.inl ⟨hi,hb⟩,rfl⟩⟩
   | map _ _ _=>exact ⟨rfl,rfl,rfl,fun _ b hb=>⟨.inl ⟨hi,hb⟩,rfl⟩⟩
 have hrow:Rd w ι'.G (ι.sl id) (.list es):=by
  have:=h.objs id
  rw [ho] at this
  exact Ygs.rd this
 have hac:∀ {c:AC} {v:Value},Ygx w ι s.obj c v->Ygx w ι' (s.lock id es).obj (c.lock id es) v:=by
  intro c v r
  have hdef:=Ygx.ext hx (fun _ _=>trivial) r
  cases c with
  | top=>exact hdef
  | val c=>exact hdef
  | ptr i o=>exact hdef
  | mref i=>exact hdef
  | ref i=>
   simp only [AC.lock]
   split
   ·rename_i hb
    have:=Nat.eq_of_beq_eq_true hb
    subst this
    rw [r.2 _ _ _ ho]; exact hrow
   ·exact hdef
  | bor i c=>
   simp only [AC.lock]
   split
   ·rename_i hb
    have:=Nat.eq_of_beq_eq_true hb
    subst this
    exact Rd.mono (fun _ _=>rfl) (fun b hb=>hb) (r.2 (by show (s.obj _).reads; rw [ho]; trivial))
   ·exact hdef
  | eptr i k o=>
   simp only [AC.lock]
   split
   ·trivial
   ·exact hdef
  | iptr src cs=>
   cases src with
   | none=>exact hdef
   | some i=>
    simp only [AC.lock]
    split
    ·rename_i hb
     have:=Nat.eq_of_beq_eq_true hb
     subst this
     refine ⟨fun _ e=>(by cases e),fun _ => ?_⟩
     obtain ⟨b,o,xs,e,hb,hx,ha⟩:=r.2 (by show (s.obj _).reads; rw [ho]; trivial)
     exact ⟨b,o,xs,e,hb,hx,ha.imp fun x c hc=>Rd.mono (fun _ _=>rfl) (fun b hb=>hb) hc⟩
    ·exact hdef
  | sub i k p=>
   simp only [AC.lock]
   split
   ·trivial
   ·exact hdef
 have hc:∀ {cs:List AC} {vs:List Value},Yg8 (Yi9 w ι s.obj) cs vs->Yg8 (Yi9 w ι' (s.lock id es).obj) (cs.map (AC.lock id es)) vs:=
  fun ha=>Yg8.map_left _ (ha.imp fun c v hcv=>⟨hac hcv.1,hcv.2⟩)
 have hsv:∀ {x:SV} {v:Value},Yh5 w ι s.obj x v->Yh5 w ι' (s.lock id es).obj (x.lock id es) v:=by
  intro x v r
  cases x with
  | one c=>
   refine ⟨hac r.1,fun hn=>r.2 fun e=>hn ?_⟩
   subst e; rfl
  | agg cs=>obtain ⟨arr,e,ha⟩:=r; exact ⟨arr,e,hc ha⟩
 have hav:∀ {x:AV} {v:Value},Ygz w ι s.obj x v->Ygz w ι' (s.lock id es).obj (x.lock id es) v:=by
  intro x v r
  cases x with
  | sv x=>exact hsv r
  | tup l=>obtain ⟨arr,e,ha⟩:=r; exact ⟨arr,e,Yg8.map_left _ (ha.imp fun c v hcv=>hsv hcv)⟩
 refine ⟨ι',Rel.step h hx (fun t=>.inr ?_) (by simp [St.lock]) rfl (fun i=>.inr ?_) ?_ ?_ ?_ ?_ ?_ (fun _ _ _=>rfl) (Nat.le_refl _) rfl rfl (hG := ?_)⟩
 ·have:(s.lock id es).reg t=(s.reg t).lock id es:=by
   show (s.regs.map (AV.lock id es)).getD t _=_
   simp only [List.getD_eq_getElem?_getD,List.getElem?_map,St.reg]
   cases s.regs[t]? <;> rfl
  rw [this]; exact hav (h.regs t)
 ·rw [hobj]
  by_cases hi:i=id
  ·rw [if_pos hi]; rintro b ⟨h1,_⟩; exact h1 hi
  ·rw [if_neg hi]
   have:=h.objs i
   cases e:s.obj i with
   | free=>rw [e] at this; exact fun b hb=>this b hb.2
   | dead=>rw [e] at this; exact fun b hb=>this b hb.2
   | box cs=>
    rw [e] at this
    obtain ⟨r1,arr,ty,r2,r3⟩:=this
    exact ⟨⟨hi,r1⟩,arr,ty,r2,hc r3⟩
   | arr o1 s1 e1=>
    rw [e] at this
    have hf:ι'.fp i=ι.fp i:=by funext b; simp [ι',hi]
    show Ygs w (Yhm w ι'.G o1) s1 (ι'.fp i) (ι.sl i) e1
    rw [hf]
    exact Ygs.mono this (fun b hb=>⟨.inl hb,rfl⟩) fun _ _=>rfl
   | map nn k f=>
    rw [e] at this
    cases nn with
    | true=>exact ⟨fun b hb=>this.1 b hb.2,this.2⟩
    | false=>exact Yhu.mono this (fun x hx=>⟨hi,hx⟩) fun _ _=>rfl
 ·exact fun i j b hij hi hj=>h.disj i j b hij hi.2 hj.2
 ·rintro i b hi (hg | hg)
  ·exact h.gfp i b hi.2 hg
  ·exact h.disj i id b hi.1 hi.2 hg
 ·exact fun i b hi=>h.own i b hi.2
 ·exact fun i b hi=>h.lt i b hi.2
 ·rintro b (hb | hb)
  ·exact h.glt b hb
  ·exact h.lt id b hb
 ·rintro b (hb | hb)
  ·exact .inl hb
  ·exact .inr (.inl ⟨id,hb⟩)
theorem Rel.nilArr (h:Rel E s ι a w) (own:Bool) (sz:Nat):∃ ι',Rel E ((s.grow 1).setOb s.objs.length (.arr own sz [])) ι' a w /\
  Yh5 w ι' ((s.grow 1).setOb s.objs.length (.arr own sz [])).obj (.one (.ref s.objs.length)) (.slice none 0 0):=by
 have hroom:=Yr3 s 1 s.objs.length (Nat.le_refl _) (by omega)
 exact Rel.makeArr (h.grow 1) (n:=s.objs.length) hroom.1 hroom.2 (ids:=[]) (by simp) (own:=own) (sz:=sz) (es:=[]) (w':=w) (v':=.slice none 0 0) (F':=fun _=>False)
  (fun _ _ _=>rfl) (Nat.le_refl _) rfl rfl (fun _ hb=>hb.elim)
  ⟨0,[],fun _ _=>False,⟨by simp,.inl ⟨rfl,rfl⟩⟩,by simp,fun b hb=>by simp [Value.ownBlock] at hb,fun _ _ hb=>hb,fun _ _ _ hb=>hb,fun _ _ _ _ hb=>hb.elim,fun j u c hu=>by simp at hu,fun _=>⟨none,rfl⟩⟩ rfl
def Y12x (s:St) (t:Nat) (own:Bool) (sz:Nat):Option St:=
 match s.reg t with
 | .sv (.one (.val (.lit (.slice none 0 0))))=>some (((s.grow 1).setOb s.objs.length (.arr own sz [])).put (some t) (.sv (.one (.ref s.objs.length))))
 | _=>none
theorem Y1ce (h:Rel E s ι a w) {t:Nat} {own:Bool} {sz:Nat} {s':St} (e:Y12x s t own sz=some s'):∃ ι',Rel E s' ι' a w:=by
 unfold Y12x at e
 split at e
 ·rename_i ht
  simp only [Option.some.injEq] at e; subst e
  have hr:=h.regs t
  rw [ht] at hr
  have hv:=(Rd.lit_inv (show Rd w ι.G _ (.lit (.slice none 0 0)) from hr.1)).1
  obtain ⟨ι',h1,h2⟩:=h.nilArr own sz
  have:=Rel.put h1 (some t) (x:=.sv (.one (.ref s.objs.length))) (v:=a.tmps.getD t undef) (by rw [hv]; exact h2)
  rw [Yo8] at this
  exact ⟨ι',this⟩
 ·cases e
theorem Yg8.set {α β:Type} {R:α->β->Prop}:∀ {as:List α} {bs:List β} {k:Nat} {a':α},Yg8 R as bs->(∀ b,bs[k]? = some b->R a' b)->Yg8 R (as.set k a') bs
 | [],[],_,_,_,_=>trivial
 | _ :: _,_ :: _,0,_,h,hr=>⟨hr _ rfl,h.2⟩
 | _ :: _,_ :: _,k+1,_,h,hr=>⟨h.1,h.2.set fun b hb=>hr b (by simpa using hb)⟩
 | [],_ :: _,_,_,h,_=>h.elim
 | _ :: _,[],_,_,h,_=>h.elim
theorem Rel.recell (h:Rel E s ι a w) {id k:Nat} {cs:List AC} (ho:s.obj id=.box cs) {c c':AC} (hc:cs[k]? = some c)
  (hv:∀ v,Yi9 w ι s.obj c v->Ygx w ι s.obj c' v):Rel E (s.setOb id (.box (cs.set k c'))) ι a w:=by
 have hlt:id<s.objs.length:=Ygp ho (by simp)
 have hx:Ext (fun _=>True) w ι s.obj w ι (s.setOb id (.box (cs.set k c'))).obj:=Ysd fun i=>by
  rw [Yg5 hlt]
  by_cases hi:i=id
  ·subst hi; rw [if_pos rfl,ho]; rfl
  ·rw [if_neg hi]; cases s.obj i <;> simp [Yho] <;> exact fun b hb=>.inl hb
 refine Rel.step h hx (fun t=>.inl ⟨rfl,fun _ _ _ _=>trivial⟩) rfl rfl (fun i => ?_) h.disj h.gfp h.own h.lt h.glt (fun _ _ _=>rfl) (Nat.le_refl _) rfl rfl
 by_cases hi:i=id
 ·subst hi
  right
  rw [Yg5 hlt,if_pos rfl]
  have:=h.objs i
  rw [ho] at this
  obtain ⟨r1,arr,ty,r2,r3⟩:=this
  have r4:Yg8 (Yi9 w ι s.obj) (cs.set k c') arr.toList:=r3.set fun v hvk=>by
   have:=r3.get hc hvk
   exact ⟨hv v this,this.2⟩
  exact ⟨r1,arr,ty,r2,r4.imp fun c v hcv=>⟨Ygx.ext hx (fun _ _=>trivial) hcv.1,hcv.2⟩⟩
 ·left
  exact ⟨by rw [Yg5 hlt,if_neg hi],⟨rfl,rfl,fun b=>Iff.rfl,fun b _=>rfl⟩,fun _ _ _ _=>trivial⟩
def Y14f (s:St) (id k:Nat) (own:Bool) (sz:Nat):Option St:=
 match s.obj id with
 | .box cs=>match cs[k]? with
  | some (.val (.lit (.slice none 0 0)))=>some (((s.grow 1).setOb s.objs.length (.arr own sz [])).setOb id (.box (cs.set k (.ref s.objs.length))))
  | _=>none
 | _=>none
theorem Y1aw (h:Rel E s ι a w) {id k:Nat} {own:Bool} {sz:Nat} {s':St} (e:Y14f s id k own sz=some s'):∃ ι',Rel E s' ι' a w:=by
 unfold Y14f at e
 split at e
 ·rename_i cs ho
  split at e
  ·rename_i hk
   simp only [Option.some.injEq] at e; subst e
   have hlt:id<s.objs.length:=Ygp ho (by simp)
   obtain ⟨ι',h1,h2⟩:=h.nilArr own sz
   refine ⟨ι',Rel.recell h1 ?_ hk fun v hv => ?_⟩
   ·rw [Yg5 (by simp [St.grow])]
    rw [if_neg (by omega),Ykc]; exact ho
   ·have:=(Rd.lit_inv (show Rd w ι'.G _ (.lit (.slice none 0 0)) from hv.1)).1
    rw [this]; exact h2.1
  ·cases e
 ·cases e
end
end Go.Proofs.YtclpofblehlojaaGreat.Ab
end
section
namespace Go.Proofs.YtclpofblehlojaaGreat.Ab
open Go
structure Le (s s':St):Prop where
 reg:∀ t,s.reg t=.sv (.agg []) ∨ s'.reg t=s.reg t
 obj:∀ i,(s.obj i=.free ∨ s.obj i=.dead) ∨ s'.obj i=s.obj i
section
variable {P:Program} {s s':St}
theorem Le.ev (h:Le s s') {x:Operand} {v:AV} (e:s.ev x=some v):s'.ev x=some v:=by
 cases x with
 | tmp t=>
  simp only [St.ev] at e ⊢
  rcases h.reg t with h1 | h1
  ·rw [h1] at e; cases e
  ·rw [h1]; exact e
 | _=>exact e
theorem Le.ac (h:Le s s') {x:Operand} {v:AC} (e:s.ac x=some v):s'.ac x=some v:=by
 unfold St.ac at e ⊢
 split at e
 ·rename_i c hc; rw [h.ev hc]; exact e
 ·cases e
theorem Le.lit (h:Le s s') {x:Operand} {v:Value} (e:s.lit x=some v):s'.lit x=some v:=by
 unfold St.lit at e ⊢
 split at e
 ·rename_i c hc; rw [h.ac hc]; exact e
 ·cases e
theorem Le.int (h:Le s s') {x:Operand} {v:IntKind × Int} (e:s.int x=some v):s'.int x=some v:=by
 unfold St.int at e ⊢
 split at e
 ·rename_i c hc; rw [h.lit hc]; exact e
 ·cases e
theorem Le.litS (h:Le s s') {x:Operand} {v:List UInt8} (e:Ab.litS s x=some v):Ab.litS s' x=some v:=by
 unfold Ab.litS at e ⊢
 split at e
 ·rename_i c hc; rw [h.lit hc]; exact e
 ·cases e
theorem Le.arr (h:Le s s') {i:Nat} {own:Bool} {sz:Nat} {es:List (List Cell)} (e:s.obj i=.arr own sz es):s'.obj i=.arr own sz es:=by
 rcases h.obj i with (h1 | h1) | h1
 ·rw [h1] at e; cases e
 ·rw [h1] at e; cases e
 ·rw [h1]; exact e
theorem Le.box (h:Le s s') {i:Nat} {cs:List AC} (e:s.obj i=.box cs):s'.obj i=.box cs:=by
 rcases h.obj i with (h1 | h1) | h1
 ·rw [h1] at e; cases e
 ·rw [h1] at e; cases e
 ·rw [h1]; exact e
theorem Le.map (h:Le s s') {i:Nat} {nn:Bool} {k:MK} {f:Value->Option Cell} (e:s.obj i=.map nn k f):s'.obj i=.map nn k f:=by
 rcases h.obj i with (h1 | h1) | h1
 ·rw [h1] at e; cases e
 ·rw [h1] at e; cases e
 ·rw [h1]; exact e
theorem Le.live (h:Le s s') {src:Option Nat} (e:Ymq s src=true):Ymq s' src=true:=by
 unfold Ymq at e ⊢
 cases src with
 | none=>rfl
 | some id=>
  simp only at e ⊢
  split at e
  ·rename_i hb; rw [h.arr hb]
  ·rename_i hb; rw [h.map hb]
  ·cases e
theorem Le.ptrLive (h:Le s s') {c:AC} (e:Ab.ptrLive s c=true):Ab.ptrLive s' c=true:=by
 unfold Ab.ptrLive at e ⊢
 cases c with
 | ptr id o=>
  simp only at e ⊢
  split at e
  ·rename_i hb; rw [h.box hb]
  ·cases e
 | eptr id i o=>
  simp only at e ⊢
  split at e
  ·rename_i hb; rw [h.arr hb]
  ·cases e
 | iptr src cs=>exact h.live e
 | _=>cases e
theorem Le.readAt (h:Le s s') {x:AC} {n:Nat} {q:List Orc} {r:List AC × List Item × List Orc} (e:Ab.readAt s x n q=some r):Ab.readAt s' x n q=some r:=by
 unfold Ab.readAt at e ⊢
 cases x with
 | ptr id o=>
  simp only at e ⊢
  split at e
  ·rename_i hb; rw [h.box hb]; exact e
  ·cases e
 | iptr src cs=>
  simp only at e ⊢
  split at e
  ·rename_i hc; rw [if_pos ⟨h.live hc.1,hc.2⟩]; exact e
  ·cases e
 | eptr id i o=>
  simp only at e ⊢
  split at e
  ·rename_i hb; rw [h.arr hb]; exact e
  ·cases e
 | val c=>cases c <;> first | exact e | cases e
 | _=>cases e
theorem Le.idxAddr (h:Le s s') {sz:Nat} {n:Int} {q:List Orc} {c:AC} {r:AC × List Item × List Orc} (e:Ab.idxAddr s sz n q c=some r):Ab.idxAddr s' sz n q c=some r:=by
 unfold Ab.idxAddr at e ⊢
 split at e
 ·exact e
 ·split at e
  ·split at e
   ·rename_i hc; (try simp only); rw [if_pos ⟨hc.1,h.live hc.2⟩]; exact e
   ·cases e
  ·cases e
 ·split at e
  ·rename_i hb; (try simp only); rw [h.arr hb]; exact e
  ·cases e
 ·cases e
theorem Le.elems (h:Le s s') {c:AC} {r:Option Nat × List (List Cell)} (e:Ab.elems s c=some r):Ab.elems s' c=some r:=by
 unfold Ab.elems at e ⊢
 split at e
 ·exact e
 ·exact e
 ·split at e
  ·rename_i hc; (try simp only); rw [if_pos (h.live hc)]; exact e
  ·cases e
 ·split at e
  ·rename_i hb; (try simp only); rw [h.arr hb]; exact e
  ·cases e
 ·cases e
theorem Le.bound (h:Le s s') {d:Nat} {x:Option Operand} {r:Nat × List Item} (e:Ab.bound s d x=some r):Ab.bound s' d x=some r:=by
 cases x with
 | none=>exact e
 | some x=>
  simp only [Ab.bound] at e ⊢
  split at e
  ·rename_i hb; rw [h.int hb]; exact e
  ·cases e
theorem Le.vSlice (h:Le s s') {T:TypeId} {x:Operand} {lo hi mx:Option Operand} {q:List Orc} {r:AV × List Item × List Orc} (e:Ab.vSlice P s T x lo hi mx q=some r):Ab.vSlice P s' T x lo hi mx q=some r:=by
 unfold Ab.vSlice at e ⊢
 cases mx with
 | some _=>cases e
 | none=>
  simp only at e ⊢
  split at e
  ·split at e
   ·rename_i hl
    split at e
    ·rename_i h1 h2; rw [h.litS hl]; (try simp only); rw [h.bound h1,h.bound h2]; exact e
    ·cases e
   ·cases e
  ·split at e
   ·rename_i hc ht
    rw [h.ac hc,ht]; (try simp only)
    split at e
    ·rename_i h1 h2
     rw [h.elems h1,h2]; (try simp only)
     split at e
     ·rename_i h3 h4; rw [h.bound h3,h.bound h4]; exact e
     ·cases e
    ·cases e
   ·cases e
theorem Le.vBuiltin (h:Le s s') {b:Builtin} {args:Array Operand} {tys:Array TypeId} {q:List Orc} {r:AV × List Item × List Orc} (e:Ab.vBuiltin P s b args tys q=some r):Ab.vBuiltin P s' b args tys q=some r:=by
 unfold Ab.vBuiltin at e ⊢
 split at e
 ·(try simp only)
  split at e
  ·rename_i h1 h2
   split at e
   ·rename_i ht; (try rw [ht]); (try simp only)
    split at e
    ·rename_i hl; rw [h.litS hl]; exact e
    ·cases e
   ·rename_i ht; (try rw [ht]); (try simp only)
    split at e
    ·rename_i hc hs
     rw [h.ac hc,hs]; (try simp only)
     unfold Y15e at e ⊢
     split at e
     ·rename_i hob; rw [h.arr hob]; exact e
     ·cases e
    ·rename_i c hne hc hs
     rw [h.ac hc,hs]
     cases c with
     | sub id i p=>exact (hne id i p rfl).elim
     | _=>
     (try simp only)
     obtain ⟨y,hy,rfl⟩:=Option.map_eq_some_iff.1 e
     rw [h.elems hy]; rfl
    ·cases e
  ·cases e
 ·(try simp only)
  split at e
  ·rename_i h1
   split at e
   ·rename_i h2 h3; rw [h.int h2,h.int h3]; exact e
   ·cases e
  ·cases e
 ·(try simp only)
  split at e
  ·rename_i h1
   split at e
   ·rename_i h2 h3; rw [h.int h2,h.int h3]; exact e
   ·cases e
  ·cases e
 ·cases e
theorem Yy4 (h:Le s s') {α:Type} {x:Operand} {f:AV->α} {r:α} (e:(s.ev x).map f=some r):(s'.ev x).map f=some r:=by
 obtain ⟨y,hy,rfl⟩:=Option.map_eq_some_iff.1 e
 rw [h.ev hy]; rfl
theorem Le.mkClo (h:Le s s') {fn:Fn} {fi ca:Array Operand} {q:List Orc} {r:AV × List Item × List Orc} (e:Ab.mkClo s fn fi ca q=some r):Ab.mkClo s' fn fi ca q=some r:=by
 unfold Ab.mkClo at e ⊢
 cases fn with
 | func f=>
  simp only at e ⊢
  cases h1:fi.toList with
  | cons y l=>simp [h1] at e
  | nil=>
   simp only [h1] at e ⊢
   cases h2:ca.toList with
   | nil=>simp [h2] at e
   | cons y l=>
    cases l with
    | cons z l=>simp [h2] at e
    | nil=>
     simp only [h2] at e ⊢
     cases h3:s.ac y with
     | none=>simp [h3] at e
     | some c=>rw [h.ac h3]; rw [h3] at e; exact e
 | _=>cases e
theorem Le.vop (h:Le s s') {o:Oper} {q:List Orc} {r:AV × List Item × List Orc} (e:Ab.vop P s o q=some r):Ab.vop P s' o q=some r:=by
 unfold Ab.vop at e ⊢
 split at e
 ·rename_i ho; exact Yy4 h e
 ·rename_i ho; exact Yy4 h e
 ·rename_i ho; (try simp only)
  split at e
  ·rename_i hc; rw [h.lit hc]; exact Yy4 h e
  ·rename_i hc; rw [h.lit hc]; exact Yy4 h e
  ·cases e
 ·rename_i ho; (try simp only)
  split at e
  ·rename_i h1 h2 h3; rw [h.ac h1,h2,h3]; (try simp only)
   split at e
   ·rename_i hr; rw [h.readAt hr]; exact e
   ·cases e
  ·cases e
 ·rename_i ho; (try simp only)
  split at e
  ·rename_i hc; rw [h.ac hc]; (try simp only)
   split at e
   ·rename_i hp; rw [if_pos (h.ptrLive hp)]; exact e
   ·cases e
  ·cases e
 ·rename_i ho; (try simp only)
  split at e
  ·rename_i h1 h2; rw [h.lit h1,h.lit h2]; exact e
  ·cases e
 ·rename_i ho; (try simp only)
  split at e
  ·rename_i h1; rw [h.lit h1]; exact e
  ·cases e
 ·rename_i ho; (try simp only)
  split at e
  ·rename_i h1; rw [h.int h1]; exact e
  ·cases e
 ·rename_i ho; (try simp only)
  split at e
  ·rename_i hT; (try simp only)
   split at e
   ·rename_i hc; rw [h.ac hc]; (try simp only)
    split at e
    ·rename_i hel; rw [h.elems hel]; exact e
    ·cases e
   ·cases e
  ·rename_i hT; (try simp only)
   split at e
   ·rename_i h1 h2 h3; rw [h.int h1,h2,h3]; exact e
   ·cases e
 ·rename_i ho; (try simp only)
  split at e
  ·rename_i h1 h2; rw [h.ac h1,h2]; (try simp only)
   split at e
   ·rename_i hc; rw [if_pos ⟨hc.1,h.ptrLive hc.2⟩]; exact e
   ·cases e
  ·cases e
 ·rename_i ho; (try simp only)
  split at e
  ·rename_i h1 h2 h3; rw [h.ac h1,h.int h2,h3]; (try simp only)
   split at e
   ·rename_i ht; (try rw [ht]); (try simp only)
    obtain ⟨y,hy,rfl⟩:=Option.map_eq_some_iff.1 e
    rw [h.idxAddr hy]; rfl
   ·cases e
  ·cases e
 ·rename_i ho; (try simp only)
  split at e
  ·rename_i h1 h2 h3; rw [h1,h.litS h2,h.int h3]; exact e
  ·cases e
 ·rename_i ho; exact h.vSlice e
 ·rename_i ho; (try simp only)
  split at e
  ·rename_i h1; rw [h.ev h1]; exact e
  ·cases e
 ·rename_i ho; exact h.vBuiltin e
 ·rename_i ho; exact h.mkClo e
 ·cases e
end
end Go.Proofs.YtclpofblehlojaaGreat.Ab
end
section
namespace Go.Proofs.YtclpofblehlojaaGreat.Ab
open Go
section
variable {P:Program} {s s':St}
theorem Le.eBox (h:Le s s') {x:Operand} {n:Nat} {r:Res} (e:Ab.eBox s x n=some r):Ab.eBox s' x n=some r:=by
 unfold Ab.eBox at e ⊢
 split at e
 ·rename_i hv; rw [h.ev hv]; exact e
 ·cases e
theorem Le.partCells (h:Le s s'):∀ {l:List (Nat × Operand)} {r:List (Nat × List AC)},Ab.partCells s l=some r->Ab.partCells s' l=some r
 | [],r,e=>e
 | (i,x) :: l,r,e=>by
  simp only [Ab.partCells] at e ⊢
  split at e
  ·split at e
   ·rename_i h2; rw [h.partCells h2]; exact e
   ·cases e
  ·split at e
   ·rename_i hv
    rw [h.ev hv]; (try simp only)
    split at e
    ·rename_i h1 h2; rw [h1,h.partCells h2]; exact e
    ·cases e
   ·cases e
theorem Le.eBuild (h:Le s s') {T:TypeId} {ps:Array (Nat × Operand)} {r:Res} (e:Ab.eBuild P s T ps=some r):Ab.eBuild P s' T ps=some r:=by
 unfold Ab.eBuild at e ⊢
 split at e
 ·(try simp only)
  split at e
  ·rename_i h1 h2 h3; rw [h1,h2,h.partCells h3]; exact e
  ·cases e
 ·(try simp only)
  split at e
  ·rename_i h1 h2 h3
   rw [h1,h2,h.partCells h3]
   exact e
  ·cases e
 ·cases e
theorem Le.eStoreBox (h:Le s s') {T:TypeId} {ad x:Operand} {r:Res} (e:Ab.eStoreBox P s T ad x=some r):Ab.eStoreBox P s' T ad x=some r:=by
 unfold Ab.eStoreBox at e ⊢
 split at e
 ·rename_i h1 h2
  rw [h.ac h1,h.ev h2]; (try simp only)
  split at e
  ·rename_i h3 h4 h5; rw [h.box h3,h4,h5]; exact e
  ·cases e
 ·cases e
theorem Le.absorbOwn (h:Le s s'):∀ {l:List AC} {r:List Cell × List Nat},Ab.absorbOwn s l=some r->Ab.absorbOwn s' l=some r
 | [],r,e=>e
 | c :: l,r,e=>by
  simp only [Ab.absorbOwn] at e ⊢
  split at e
  ·cases e
  ·rename_i cs ids hl
   rw [h.absorbOwn hl]; (try simp only)
   split at e
   ·exact e
   ·split at e
    ·rename_i ho; rw [h.arr ho]; exact e
    ·cases e
   ·cases e
theorem Ytn (s s':St):∀ {l:List AC} {cs:List Cell},Ykl l=some cs->absorbOwn s l=absorbOwn s' l
 | [],cs,e=>rfl
 | c :: l,cs,e=>by
  simp only [Ykl] at e
  split at e
  ·cases e
  ·rename_i cs' hl
   have ih:=Ytn s s' hl
   simp only [absorbOwn,ih]
   split at e
   ·rfl
   ·rename_i c1 _
    cases absorbOwn s' l with
    | none=>rfl
    | some _=>cases c1 <;> rfl
   ·cases e
theorem Le.absorb (h:Le s s') {l:List AC} {sh:Bool} {r:Bool × List Cell × List Nat} (e:Ab.absorb s l sh=some r):Ab.absorb s' l sh=some r:=by
 unfold Ab.absorb at e ⊢
 cases sh with
 | true=>exact e
 | false=>
  simp only [Bool.false_eq_true,if_false] at e ⊢
  split at e
  ·rename_i ho; rw [h.absorbOwn ho]; exact e
  ·rename_i ho
   split at e
   ·rename_i hs
    rw [<- Ytn s s' hs,ho]; (try simp only); exact e
   ·cases e
theorem Le.srcElems (h:Le s s') {own:Bool} {sz:Nat} {c:AC} {r:List (List Cell) × List Nat × List Item} (e:Ab.srcElems s own sz c=some r):Ab.srcElems s' own sz c=some r:=by
 unfold Ab.srcElems at e ⊢
 split at e
 ·exact e
 ·exact e
 ·exact e
 ·(try simp only)
  split at e
  ·rename_i hc; rw [if_pos ⟨h.live hc.1,hc.2⟩]; exact e
  ·cases e
 ·(try simp only)
  split at e
  ·rename_i ho; rw [h.arr ho]; exact e
  ·cases e
 ·cases e
theorem Le.target (h:Le s s') {sz:Nat} {q:List Orc} {c:AC} {r:Bool × List (List Cell) × List Nat × List Orc} (e:Ab.target s sz q c=some r):Ab.target s' sz q c=some r:=by
 unfold Ab.target at e ⊢
 split at e
 ·exact e
 ·(try simp only)
  split at e
  ·rename_i ho; rw [h.arr ho]; exact e
  ·cases e
 ·cases e
theorem Le.eAppend (h:Le s s') {args:Array Operand} {tys:Array TypeId} {n:Nat} {q:List Orc} {r:Res × List Item × List Orc} (e:Ab.eAppend P s args tys n q=some r):Ab.eAppend P s' args tys n q=some r:=by
 unfold Ab.eAppend at e ⊢
 split at e
 ·(try simp only)
  split at e
  ·rename_i h1 h2 h3
   rw [h1,h.ac h2,h.ac h3]; (try simp only)
   split at e
   ·rename_i h4 h5
    try rw [h4,h5]
    try simp only
    split at e
    ·rename_i hc
     rw [if_pos hc]
     split at e
     ·rename_i ht
      rw [h.target ht]; (try simp only)
      split at e
      ·rename_i hs; rw [h.srcElems hs]; exact e
      ·cases e
     ·cases e
    ·cases e
   ·cases e
  ·cases e
 ·cases e
theorem Le.eBuildSlice (h:Le s s') {T:TypeId} {len:Nat} {ps:Array (Nat × Operand)} {n:Nat} {sh:Bool} {r:Res} (e:Ab.eBuildSlice P s T len ps n sh=some r):Ab.eBuildSlice P s' T len ps n sh=some r:=by
 unfold Ab.eBuildSlice at e ⊢
 split at e
 ·rename_i h1 h2
  rw [h1,h.partCells h2]; (try simp only)
  split at e
  ·rename_i h3
   try rw [h3]
   try simp only
   split at e
   ·rename_i hc
    rw [if_pos hc]
    split at e
    ·rename_i ha; rw [h.absorb ha]; exact e
    ·cases e
   ·cases e
  ·cases e
 ·cases e
theorem Le.eMake (h:Le s s') {T:TypeId} {lo co:Operand} {n:Nat} {r:Res × List Item} (e:Ab.eMake P s T lo co n=some r):Ab.eMake P s' T lo co n=some r:=by
 unfold Ab.eMake at e ⊢
 split at e
 ·rename_i h1 h2; rw [h1,h.int h2]; exact e
 ·cases e
theorem Le.eStoreArr (h:Le s s') {T:TypeId} {ad x:Operand} {q:List Orc} {r:Res × List Item × List Orc} (e:Ab.eStoreArr P s T ad x q=some r):Ab.eStoreArr P s' T ad x q=some r:=by
 unfold Ab.eStoreArr at e ⊢
 split at e
 ·rename_i h1 h2
  rw [h.ac h1,h.ev h2]; (try simp only)
  split at e
  ·rename_i own sz es l n e0 es9 q' h3 h4 h5 h6
   rw [h.arr h3,h4,h5,h6]; (try simp only)
   cases own with
   | true=>
    (try simp only at e ⊢)
    split at e
    ·rename_i ha; rw [h.absorbOwn ha]; exact e
    ·cases e
   | false=>exact e
  ·cases e
 ·cases e
theorem Le.eStoreSub (h:Le s s') {T:TypeId} {ad x:Operand} {n:Nat} {q:List Orc} {r:Res × List Item × List Orc} (e:Ab.eStoreSub P s T ad x n q=some r) :
  Ab.eStoreBox P s' T ad x=none/\Ab.eStoreArr P s' T ad x q=none/\Ab.eStoreSub P s' T ad x n q=some r:=by
 unfold Ab.eStoreSub at e
 split at e
 ·rename_i h1 h2
  split at e
  ·rename_i h3
   split at e
   ·rename_i h4 h5 h6 h7
    refine ⟨?_,?_,?_⟩
    ·unfold Ab.eStoreBox
     rw [h.ac h1]
    ·unfold Ab.eStoreArr
     rw [h.ac h1,h.ev h2]
     (try simp only)
     rw [h.arr h4,h6]
     simp only [Ytt,Ylf]
    ·unfold Ab.eStoreSub
     rw [h.ac h1,h.ev h2]
     (try simp only)
     rw [h3]
     (try simp only)
     rw [h.arr h4,h.arr h5,h6,h7]
     exact e
   ·cases e
  ·cases e
 ·cases e
theorem Le.eAppendSub (h:Le s s') {args:Array Operand} {tys:Array TypeId} {n:Nat} {q:List Orc} {r:Res × List Item × List Orc} (e:Ab.eAppendSub P s args tys n q=some r) :
  Ab.eAppend P s' args tys n q=none/\Ab.eAppendSub P s' args tys n q=some r:=by
 unfold Ab.eAppendSub at e
 split at e
 ·rename_i h1 h2
  split at e
  ·rename_i h3
   split at e
   ·rename_i h4
    split at e
    ·rename_i h5 h6
     split at e
     ·rename_i h7 h8 h9
      refine ⟨?_,?_⟩
      ·unfold Ab.eAppend
       rw [h1,h2]
       (try simp only)
       rw [h5,h.ac h3,h.ac h6]
       (try simp only)
       rw [h7,h8]
       simp only [Ab.target]
       split <;> rfl
      ·unfold Ab.eAppendSub
       rw [h1,h2]
       (try simp only)
       rw [h.ac h3]
       (try simp only)
       rw [h.arr h4,h5,h.ac h6]
       (try simp only)
       rw [h7,h8,h.srcElems h9]
       exact e
     ·cases e
    ·cases e
   ·cases e
  ·cases e
 ·cases e
theorem Le.lendAC (h:Le s s') {c:AC} {r:Cell × List Nat} (e:Ab.lendAC s c=some r):Ab.lendAC s' c=some r:=by
 unfold Ab.lendAC at e ⊢
 split at e
 ·exact e
 ·exact e
 ·(try simp only)
  split at e
  ·rename_i hc; rw [if_pos (h.live hc)]; exact e
  ·cases e
 ·(try simp only)
  split at e
  ·rename_i ho; rw [h.arr ho]; exact e
  ·cases e
 ·cases e
theorem Le.lendACs (h:Le s s'):∀ {l:List AC} {r:List AC × List Nat},Ab.lendACs s l=some r->Ab.lendACs s' l=some r
 | [],r,e=>e
 | c :: l,r,e=>by
  simp only [Ab.lendACs] at e ⊢
  split at e
  ·rename_i h1 h2; rw [h.lendAC h1,h.lendACs h2]; exact e
  ·cases e
theorem Le.passOne (h:Le s s') {c:AC} {r:Nat × Ob × (Nat->AC)} (e:Ab.passOne s c=some r):Ab.passOne s' c=some r:=by
 unfold Ab.passOne at e ⊢
 split at e
 ·(try simp only)
  split at e
  ·rename_i ho; rw [h.arr ho]; exact e
  ·cases e
 ·(try simp only)
  split at e
  ·rename_i ho; rw [h.map ho]; exact e
  ·cases e
 ·(try simp only)
  split at e
  ·rename_i ho; rw [h.box ho]; exact e
  ·cases e
 ·cases e
theorem Le.passCells (h:Le s s'):∀ {l:List AC} {emb:List (Option Nat)} {r:List (Option Nat) × List Ob × List AC × List Nat},Ab.passCells s emb l=some r->Ab.passCells s' emb l=some r
 | [],emb,r,e=>e
 | c :: l,emb,r,e=>by
  simp only [Ab.passCells] at e ⊢
  split at e
  ·rename_i hone
   rw [h.passOne hone]; (try simp only)
   split at e
   ·cases e
   ·rename_i hc
    rw [if_neg hc]
    split at e
    ·rename_i hp; rw [h.passCells hp]; exact e
    ·cases e
  ·split at e
   ·(try simp only [Ab.passOne])
    split at e
    ·rename_i hp; rw [h.passCells hp]; exact e
    ·cases e
   ·(try simp only [Ab.passOne])
    split at e
    ·rename_i hc
     rw [if_pos (h.live hc)]
     split at e
     ·rename_i hp; rw [h.passCells hp]; exact e
     ·cases e
    ·cases e
   ·(try simp only [Ab.passOne])
    split at e
    ·rename_i hp; rw [h.passCells hp]; exact e
    ·cases e
   ·cases e
theorem Le.passAgg (h:Le s s'):∀ {ms:List (Option (Bool × Nat))} {l:List AC} {emb:List (Option Nat)} {r:List (Option Nat) × List Ob × List AC × List Nat},Ab.passAgg s emb ms l=some r->Ab.passAgg s' emb ms l=some r
 | [],[],emb,r,e=>e
 | [],_ :: _,emb,r,e=>by simp [Ab.passAgg] at e
 | _ :: _,[],emb,r,e=>by simp [Ab.passAgg] at e
 | m :: ms,c :: l,emb,r,e=>by
  simp only [Ab.passAgg] at e ⊢
  split at e
  ·(try simp only)
   split at e
   ·rename_i hl
    rw [h.lendAC hl]; (try simp only)
    split at e
    ·rename_i hp; rw [h.passAgg hp]; exact e
    ·cases e
   ·cases e
  ·(try simp only)
   split at e
   ·(try simp only)
    split at e
    ·rename_i ho
     rw [h.arr ho]; (try simp only)
     split at e
     ·rename_i hc
      rw [if_pos hc]
      split at e
      ·rename_i hp; rw [h.passAgg hp]; exact e
      ·cases e
     ·cases e
    ·cases e
   ·(try simp only)
    split at e
    ·rename_i hp; rw [h.passAgg hp]; exact e
    ·cases e
   ·cases e
theorem Le.add (h:Le s s') {p:Pass} {m:Mode} {x:SV} {r:Pass} (e:p.add s m x=some r):p.add s' m x=some r:=by
 unfold Pass.add at e ⊢
 split at e
 ·split at e
  ·(try simp only)
   split at e
   ·rename_i hl; rw [h.lendACs hl]; exact e
   ·cases e
  ·(try simp only)
   split at e
   ·rename_i hl; rw [h.lendACs hl]; exact e
   ·cases e
 ·split at e
  ·(try simp only)
   split at e
   ·rename_i ho; rw [h.arr ho]; exact e
   ·cases e
  ·exact e
  ·cases e
 ·split at e
  ·(try simp only)
   split at e
   ·rename_i ho
    rw [h.box ho]; (try simp only)
    split at e
    ·cases e
    ·rename_i hc
     rw [if_neg hc]
     split at e
     ·rename_i hp; rw [h.passCells hp]; exact e
     ·cases e
   ·cases e
  ·cases e
 ·split at e
  ·(try simp only)
   split at e
   ·rename_i ho; rw [h.map ho]; exact e
   ·cases e
  ·cases e
 ·split at e
  ·(try simp only)
   split at e
   ·rename_i hp; rw [h.passAgg hp]; exact e
   ·cases e
  ·cases e
theorem Le.passAll (h:Le s s'):∀ {ms:List Mode} {xs:List AV} {p r:Pass},Ab.passAll s p ms xs=some r->Ab.passAll s' p ms xs=some r
 | [],[],p,r,e=>e
 | m :: ms,.sv x :: xs,p,r,e=>by
  simp only [Ab.passAll] at e ⊢
  split at e
  ·rename_i hp; rw [h.add hp]; exact h.passAll e
  ·cases e
 | [],_ :: _,p,r,e=>by cases e
 | _ :: _,[],p,r,e=>by cases e
 | _ :: _,.tup _ :: _,p,r,e=>by cases e
theorem Le.evAll (h:Le s s'):∀ {l:List Operand} {r:List AV},Ab.evAll s l=some r->Ab.evAll s' l=some r
 | [],r,e=>e
 | x :: l,r,e=>by
  simp only [Ab.evAll] at e ⊢
  split at e
  ·rename_i h1 h2; rw [h.ev h1,h.evAll h2]; exact e
  ·cases e
theorem Le.calleeOf (h:Le s s') {x:Operand} {f:FuncId} (e:Ab.calleeOf s x=some f):Ab.calleeOf s' x=some f:=by
 unfold Ab.calleeOf at e ⊢
 split at e
 ·rename_i hl; rw [h.lit hl]; exact e
 ·cases e
theorem Le.cloOf (h:Le s s') {x:Operand} {f:FuncId} {v:Value} (e:Ab.cloOf s x=some (f,v)):Ab.cloOf s' x=some (f,v)/\Ab.calleeOf s' x=none:=by
 unfold Ab.cloOf at e
 split at e
 ·rename_i f' v' hc
  have hc':=h.ac hc
  refine ⟨by unfold Ab.cloOf; rw [hc']; exact e,?_⟩
  unfold Ab.calleeOf
  have hl:s'.lit x=none:=by unfold St.lit; rw [hc']
  rw [hl]
 ·cases e
theorem Le.eCall (h:Le s s') {f:FuncId} {args:Array Operand} {ex:List AV} {n:Nat} {q:List Orc} {r:Res × List Item × List Orc} (e:Ab.eCall P s f args ex n q=some r):Ab.eCall P s' f args ex n q=some r:=by
 unfold Ab.eCall at e ⊢
 split at e
 ·(try simp only)
  split at e
  ·rename_i hav
   rw [h.evAll hav]; (try simp only)
   split at e
   ·rename_i hp; rw [h.passAll hp]; exact e
   ·cases e
  ·cases e
 ·cases e
theorem Ykm {α β:Type} {x y:Option α} {f:α->β} {r:β} (hxy:∀ a,x=some a->y=some a) (e:x.map f=some r):y.map f=some r:=by
 obtain ⟨a,ha,rfl⟩:=Option.map_eq_some_iff.1 e
 rw [hxy a ha]; rfl
theorem Le.keyV (h:Le s s') {x:Operand} {v:Value} (e:s.keyV x=some v):s'.keyV x=some v:=by
 unfold St.keyV at e ⊢
 split at e
 ·rename_i u hev
  rw [h.ev hev]; exact e
 ·rename_i l hev
  rw [h.ev hev]; exact e
 ·cases e
theorem Le.eLookup (h:Le s s') {T:TypeId} {m x:Operand} {ok:Bool} {n:Nat} {q:List Orc} {r:Res × List Item × List Orc} (e:Ab.eLookup P s T m x ok n q=some r):Ab.eLookup P s' T m x ok n q=some r:=by
 unfold Ab.eLookup at e ⊢
 split at e
 ·rename_i id hm
  rw [h.ac hm]
  (try simp only)
  split at e
  ·rename_i hob hkey hT
   rw [h.map hob,h.keyV hkey,hT]
   exact e
  ·cases e
 ·cases e
theorem Le.eMapUpdate (h:Le s s') {T:TypeId} {m x y:Operand} {q:List Orc} {r:Res × List Item × List Orc} (e:Ab.eMapUpdate P s T m x y q=some r):Ab.eMapUpdate P s' T m x y q=some r:=by
 unfold Ab.eMapUpdate at e ⊢
 split at e
 ·rename_i id f' q1 hm
  rw [h.ac hm]
  (try simp only)
  split at e
  ·rename_i hob hkey hT hy
   rw [h.map hob,h.keyV hkey,hT,h.ac hy]
   (try simp only)
   split at e
   ·rename_i hc
    rw [if_pos hc]
    split at e
    ·rename_i hab; rw [h.absorbOwn hab]; exact e
    ·cases e
   ·cases e
  ·cases e
 ·cases e
theorem Le.eMapDelete (h:Le s s') {args:Array Operand} {tys:Array TypeId} {q:List Orc} {r:Res × List Item × List Orc} (e:Ab.eMapDelete P s args tys q=some r):Ab.eMapDelete P s' args tys q=some r:=by
 unfold Ab.eMapDelete at e ⊢
 split at e
 ·(try simp only)
  split at e
  ·rename_i hm
   rw [h.ac hm]
   (try simp only)
   split at e
   ·rename_i hob hkey hT
    rw [h.map hob,h.keyV hkey,hT]
    exact e
   ·cases e
  ·cases e
 ·cases e
theorem Le.eMapNil (h:Le s s') {op:BinOp} {T:TypeId} {x y:Operand} {r:Res} (e:Ab.eMapNil P s op T x y=some r):Ab.eMapNil P s' op T x y=some r/\∀ (z:TypeId) (o:Oper) (q:List Orc),o.op=.binOp op T x y z->Ab.vop P s' o q=none:=by
 have hv:∀ (c:AC) (u:Value),s'.ac x=some c->s'.lit y=some u->u=.map none->(∀ v,c=.val (.lit v)->v=.map none)->∀ (z:TypeId) (o:Oper) (q:List Orc),o.op=.binOp op T x y z->Ab.vop P s' o q=none:=by
  intro c u hc hu he hcv z o q ho
  subst he
  unfold Ab.vop
  simp only [ho]
  have:s'.lit x=none ∨ s'.lit x=some (.map none):=by
   unfold St.lit
   rw [hc]
   cases c with
   | val c=>cases c with
    | lit v=>right; rw [hcv v rfl]
    | _=>left; rfl
   | _=>left; rfl
  rcases this with h1 | h1
  ·rw [h1]
  ·rw [h1,hu]; rfl
 unfold Ab.eMapNil at e ⊢
 split at e
 ·(try simp only)
  split at e
  ·rename_i hx hy
   refine ⟨?_,hv _ _ (h.ac hx) (h.lit hy) rfl (by simp)⟩
   rw [h.ac hx,h.lit hy]
   (try simp only)
   split at e
   ·rename_i hob
    rw [h.map hob]; exact e
   ·cases e
  ·rename_i hx hy
   refine ⟨?_,hv _ _ (h.ac hx) (h.lit hy) rfl (by simp)⟩
   rw [h.ac hx,h.lit hy]
   exact e
  ·cases e
 ·cases e
theorem Le.eMark (h:Le s s') {x:Operand} {r:Res} (e:Ab.eMark s x=some r):Ab.eMark s' x=some r:=by
 unfold Ab.eMark at e ⊢
 split at e
 ·rename_i id hc
  rw [h.ac hc]
  split at e
  ·rename_i hob
   (try simp only); rw [h.arr hob]; exact e
  ·cases e
 ·cases e
theorem Le.eLoadPull (h:Le s s') {T:TypeId} {x:Operand} {n:Nat} {q:List Orc} {r:Res × List Item × List Orc} (e:Ab.eLoadPull P s T x n q=some r):Ab.eLoadPull P s' T x n q=some r:=by
 unfold Ab.eLoadPull at e ⊢
 split at e
 ·rename_i h1 h2 h3
  rw [h.ac h1,h2,h3]
  (try simp only)
  split at e
  ·rename_i h4
   rw [h.arr h4]
   exact e
  ·cases e
 ·cases e
theorem Y17e {j i off n:Nat} {e:List Cell} {zs:List Nat} {q':List Orc} {r:List AC × List Item × List Orc} (hr:Ab.readAt s (.eptr j i off) n (.pulls e zs :: q')=some r):False:=by
 unfold Ab.readAt at hr
 simp only at hr
 split at hr <;> cases hr
theorem Le.noPull (h:Le s s') {o:Oper} {T:TypeId} {x:Operand} (ho:o.op=.load T x) {n:Nat} {q:List Orc} {r:AV × List Item × List Orc} (e:Ab.vop P s o q=some r):Ab.eLoadPull P s' T x n q=none:=by
 unfold Ab.eLoadPull
 simp only [Ab.vop,ho] at e
 split at e
 ·rename_i c n1 ag h1 h2 h3
  rw [h.ac h1,h2,h3]
  split at e
  ·rename_i hr
   cases c with
   | eptr j i off=>
    cases ag with
    | false=>rfl
    | true=>
     simp only
     split
     ·split
      ·exact (Y17e hr).elim
      ·rfl
     ·rfl
   | _=>cases ag <;> rfl
  ·cases e
 ·cases e
theorem Le.aop (h:Le s s') {o:Oper} {n:Nat} {q:List Orc} {r:Res × List Item × List Orc} (e:Ab.aop P s o n q=some r):Ab.aop P s' o n q=some r:=by
 unfold Ab.aop at e ⊢
 split at e
 ·exact e
 ·exact Ykm (fun _ ha=>h.eBox ha) e
 ·exact Ykm (fun _ ha=>h.eBuild ha) e
 ·split at e
  ·split at e
   ·exact Ykm (fun _ ha=>h.eBuildSlice ha) e
   ·cases e
  ·exact Ykm (fun _ ha=>h.eBuildSlice ha) e
 ·exact Ykm (fun _ ha=>h.eMake ha) e
 ·rename_i T ad x ho
  (try simp only)
  split at e
  ·rename_i hs; rw [h.eStoreBox hs]; exact e
  ·split at e
   ·rename_i r1 hr
    have hs':Ab.eStoreBox P s' T ad x=none:=by
     unfold Ab.eStoreArr at hr
     split at hr
     ·rename_i h1 h2
      unfold Ab.eStoreBox
      rw [h.ac h1]
     ·cases hr
    rw [hs',h.eStoreArr hr]
    exact e
   ·obtain ⟨h1,h2,h3⟩:=h.eStoreSub e
    rw [h1,h2]
    exact h3
 ·(try simp only)
  split at e
  ·rename_i r1 hr
   rw [h.eAppend hr]; exact e
  ·obtain ⟨h1,h2⟩:=h.eAppendSub e
   rw [h1]; exact h2
 ·rename_i x args tys ho
  split at e
  ·rename_i f hf
   simp only [h.calleeOf hf]; exact h.eCall e
  ·split at e
   ·rename_i f v hf
    simp only [(h.cloOf hf).2,(h.cloOf hf).1]; exact h.eCall e
   ·cases e
 ·exact h.eMapDelete e
 ·exact h.eLookup e
 ·exact e
 ·exact h.eMapUpdate e
 ·exact h.eMapUpdate e
 ·rename_i op T x y z ho
  (try simp only)
  split at e
  ·rename_i hr; rw [h.vop hr]; exact e
  ·cases hr:Ab.eMapNil P s op T x y with
   | none=>simp [hr] at e
   | some r'=>
    obtain ⟨h1,h2⟩:=h.eMapNil hr
    rw [hr] at e
    rw [h2 z o q ho,h1]; exact e
 ·(try simp only)
  split at e
  ·exact Ykm (fun _ ha=>h.eMark ha) e
  ·exact Ykm (fun _ ha=>h.vop ha) e
 ·rename_i T x ho
  (try simp only)
  split at e
  ·rename_i r1 hr
   rw [h.eLoadPull hr]; exact e
  ·rename_i hr
   cases hv:Ab.vop P s o q with
   | none=>simp [hv] at e
   | some r'=>
    rw [h.noPull ho hv,h.vop hv]
    rw [hv] at e; exact e
 ·exact Ykm (fun _ ha=>h.vop ha) e
theorem Le.bit (h:Le s s') {t:Nat} {x:Option Bool} (e:s.bit t=some x):s'.bit t=some x:=by
 unfold St.bit at e ⊢
 rcases h.reg t with h1 | h1
 ·rw [h1] at e; simp at e
 ·rw [h1]; exact e
theorem Le.wanted (h:Le s s') {ops:Array Oper} {o:Oper} {b:Bool} (e:Ymd ops s o=some b):Ymd ops s' o=some b:=by
 unfold Ymd at e ⊢
 split at e
 ·exact e
 ·(try simp only)
  split at e
  ·(try simp only)
   split at e
   ·rename_i hb; rw [h.bit hb]; exact e
   ·rename_i hb; rw [h.bit hb]; exact e
   ·cases e
  ·cases e
end
end Go.Proofs.YtclpofblehlojaaGreat.Ab
end
section
namespace Go.Proofs.YtclpofblehlojaaGreat.Ab
open Go
structure Eff where
 i:Nat
 dst:Option Nat
 val:AV
 n:Nat
 k:Nat
 r:Res
 it:List Item
def St.eff (s:St) (d:Eff):St:=(s.app d.n d.r).put d.dst d.val
def Y12s:Nat->List Ob->List (Nat × Ob)
 | _,[]=>[]
 | n,o :: l=>(n,o) :: Y12s (n+1) l
def Eff.obs (d:Eff):List (Nat × Ob):=d.r.upd++Y12s d.n d.r.new
def AC.touch (ids:List Nat) (c:AC):Bool:=match c.src with | some id=>ids.elem id | none=>false
def AV.touch (ids:List Nat) (x:AV):Bool:=match ids with | []=>false | _=>x.acs.any (AC.touch ids)
def Ob.touch (ids:List Nat) (o:Ob):Bool:=match ids with | []=>false | _=>o.acs.any (AC.touch ids)
def Eff.apart (d e:Eff):Bool:=
 (match d.dst,e.dst with | some x,some y => !(Nat.beq x y) | _,_=>true) &&
 !(d.val.touch e.r.inv) && !(e.val.touch d.r.inv) &&
 d.obs.all (fun p => !(p.2.touch e.r.inv)&&e.obs.all fun p' => !(Nat.beq p.1 p'.1)) &&
 e.obs.all (fun p => !(p.2.touch d.r.inv))
theorem Y11s:∀ (l:List Ob) (n:Nat) (s:St),s.setObs n l=s.updObs (Y12s n l)
 | [],_,_=>rfl
 | o :: l,n,s=>by rw [St.setObs,Y12s,St.updObs]; exact Y11s l (n+1) _
theorem Ynu (s:St) (d:Eff):s.eff d=((s.inval d.r.inv).updObs d.obs).put d.dst d.val:=by
 rw [St.eff,St.app,Y11s,Eff.obs,Ymp]
theorem Yv8 (c:AC):Yhw [] c=c:=by unfold Yhw; split <;> rfl
theorem Y11y (x:SV):Yi4 [] x=x:=by
 cases x with
 | one c=>simp [Yi4,Yv8]
 | agg cs=>simp only [Yi4]; congr 1; exact (List.map_congr_left fun c _=>Yv8 c).trans (List.map_id' cs)
theorem Yv2 (x:AV):Yhc [] x=x:=by
 cases x with
 | sv x=>simp [Yhc,Y11y]
 | tup l=>simp only [Yhc]; congr 1; exact (List.map_congr_left fun c _=>Y11y c).trans (List.map_id' l)
theorem Yuq (o:Ob):Ygk [] o=o:=by
 cases o with
 | box cs=>simp only [Ygk]; congr 1; exact (List.map_congr_left fun c _=>Yv8 c).trans (List.map_id' cs)
 | _=>rfl
theorem Yik (ids:List Nat) (s:St):s.inval ids={ s with regs:=s.regs.map (Yhc ids),objs:=s.objs.map (Ygk ids) }:=by
 cases ids with
 | nil=>
  show s=_
  have h1:s.regs.map (Yhc [])=s.regs:=(List.map_congr_left fun c _=>Yv2 c).trans (List.map_id' _)
  have h2:s.objs.map (Ygk [])=s.objs:=(List.map_congr_left fun c _=>Yuq c).trans (List.map_id' _)
  rw [h1,h2]
 | cons=>rfl
theorem Y15n (ids:List Nat) (c:AC):Yhw ids c=if c.touch ids=true then .top else c:=by
 unfold Yhw AC.touch
 cases c.src with
 | none=>simp
 | some id=>rfl
theorem Yst (a b:List Nat) (c:AC):Yhw a (Yhw b c)=Yhw b (Yhw a c):=by
 have ht:∀ l,AC.top.touch l=false:=fun _=>rfl
 by_cases ha:c.touch a=true <;> by_cases hb:c.touch b=true <;> simp [Y15n,ha,hb,ht]
theorem Yyh (a b:List Nat) (x:SV):Yi4 a (Yi4 b x)=Yi4 b (Yi4 a x):=by
 cases x with
 | one c=>simp [Yi4,Yst a b]
 | agg cs=>simp only [Yi4,List.map_map]; congr 1; exact List.map_congr_left fun c _=>Yst a b c
theorem Yz7 (a b:List Nat) (x:AV):Yhc a (Yhc b x)=Yhc b (Yhc a x):=by
 cases x with
 | sv x=>simp [Yhc,Yyh a b]
 | tup l=>simp only [Yhc,List.map_map]; congr 1; exact List.map_congr_left fun c _=>Yyh a b c
theorem Yyj (a b:List Nat) (x:Ob):Ygk a (Ygk b x)=Ygk b (Ygk a x):=by
 cases x with
 | box cs=>simp only [Ygk,List.map_map]; congr 1; exact List.map_congr_left fun c _=>Yst a b c
 | _=>rfl
theorem Ysi {ids:List Nat} {c:AC} (h:c.touch ids=false):Yhw ids c=c:=by
 unfold AC.touch at h; unfold Yhw
 cases e:c.src with
 | none=>rfl
 | some id=>rw [e] at h; simp only at h ⊢; rw [if_neg (by rw [h]; simp)]
theorem Yy7 {ids:List Nat} {x:SV} (h:x.acs.any (AC.touch ids)=false):Yi4 ids x=x:=by
 cases x with
 | one c=>simp only [SV.acs,List.any_cons,List.any_nil,Bool.or_false] at h; simp [Yi4,Ysi h]
 | agg cs=>
  simp only [SV.acs] at h; simp only [Yi4]; congr 1
  exact (List.map_congr_left fun c hc=>Ysi (by simpa using (List.any_eq_false.1 h) c hc)).trans (List.map_id' cs)
theorem Ys9 {ids:List Nat} {x:AV} (h:x.touch ids=false):Yhc ids x=x:=by
 cases ids with
 | nil=>exact Yv2 x
 | cons i ids=>
  simp only [AV.touch] at h
  cases x with
  | sv x=>simp only [AV.acs] at h; simp [Yhc,Yy7 h]
  | tup l=>
   simp only [AV.acs] at h; simp only [Yhc]; congr 1
   refine (List.map_congr_left fun c hc=>Yy7 ?_).trans (List.map_id' l)
   rw [List.any_eq_false] at h ⊢
   exact fun a ha=>h a (List.mem_flatMap.2 ⟨c,hc,ha⟩)
theorem Ysr {ids:List Nat} {x:Ob} (h:x.touch ids=false):Ygk ids x=x:=by
 cases ids with
 | nil=>exact Yuq x
 | cons i ids=>
  simp only [Ob.touch] at h
  cases x with
  | box cs=>
   simp only [Ob.acs] at h; simp only [Ygk]; congr 1
   exact (List.map_congr_left fun c hc=>Ysi (by simpa using (List.any_eq_false.1 h) c hc)).trans (List.map_id' cs)
  | _=>rfl
theorem Y1az (a b:List Nat) (s:St):(s.inval a).inval b=(s.inval b).inval a:=by
 rw [Yik,Yik,Yik,Yik]
 simp only [List.map_map]
 congr 1
 ·exact List.map_congr_left fun c _=>Yz7 b a c
 ·exact List.map_congr_left fun c _=>Yyj b a c
theorem Y12a (ids:List Nat) (s:St) (dst:Option Nat) (v:AV) (h:v.touch ids=false):(s.put dst v).inval ids=(s.inval ids).put dst v:=by
 rw [Yik,Yik]
 cases dst with
 | none=>rfl
 | some d=>simp only [St.put,List.map_set,Ys9 h]
theorem Y17d (ids:List Nat) (s:St) (n:Nat) (o:Ob) (h:o.touch ids=false):(s.setOb n o).inval ids=(s.inval ids).setOb n o:=by
 rw [Yik,Yik]
 simp only [St.setOb,List.map_set,Ysr h]
theorem Yqg (ids:List Nat):∀ (l:List (Nat × Ob)) (s:St),(∀ p∈l,p.2.touch ids=false)->(s.updObs l).inval ids=(s.inval ids).updObs l
 | [],s,_=>rfl
 | (n,o) :: l,s,h=>by
  rw [St.updObs,St.updObs,Yqg ids l _ fun p hp=>h p (List.mem_cons_of_mem _ hp),Y17d ids s n o (h (n,o) List.mem_cons_self)]
theorem Yt9:∀ (l:List (Nat × Ob)) (s:St) (dst:Option Nat) (v:AV),(s.put dst v).updObs l=(s.updObs l).put dst v
 | [],s,dst,v=>rfl
 | (n,o) :: l,s,dst,v=>by
  rw [St.updObs,St.updObs,<- Yt9 l]
  cases dst <;> rfl
theorem Y1bt (s:St) {i j:Nat} (h:i≠j) (o o':Ob):(s.setOb i o).setOb j o'=(s.setOb j o').setOb i o:=by
 simp only [St.setOb,List.set_comm _ _ h]
theorem Yux:∀ (l:List (Nat × Ob)) (s:St) (i:Nat) (o:Ob),(∀ p∈l,p.1≠i)->(s.setOb i o).updObs l=(s.updObs l).setOb i o
 | [],s,i,o,_=>rfl
 | (n,x) :: l,s,i,o,h=>by
  rw [St.updObs,St.updObs,Y1bt s (Ne.symm (h (n,x) List.mem_cons_self)),Yux l _ i o fun p hp=>h p (List.mem_cons_of_mem _ hp)]
theorem Yw8:∀ (l m:List (Nat × Ob)) (s:St),(∀ p∈l,∀ p'∈m,p.1≠p'.1)->(s.updObs l).updObs m=(s.updObs m).updObs l
 | [],m,s,_=>rfl
 | (n,o) :: l,m,s,h=>by
  rw [St.updObs,St.updObs,Yw8 l m _ fun p hp=>h p (List.mem_cons_of_mem _ hp),Yux m s n o fun p hp=>Ne.symm (h (n,o) List.mem_cons_self p hp)]
theorem Y1ei (s:St) {x y:Option Nat} (v u:AV) (h:(match x,y with | some x,some y => !(Nat.beq x y) | _,_=>true)=true):(s.put x v).put y u=(s.put y u).put x v:=by
 cases x with
 | none=>rfl
 | some x=>
  cases y with
  | none=>rfl
  | some y=>
   have hne:x≠y:=by
    rintro rfl
    simp at h
   simp only [St.put,List.set_comm _ _ hne]
theorem Y1hs (s:St) {d e:Eff} (h:d.apart e=true):(s.eff d).eff e=(s.eff e).eff d:=by
 simp only [Eff.apart,Bool.and_eq_true,Bool.not_eq_true',List.all_eq_true] at h
 obtain ⟨⟨⟨⟨h1,h2⟩,h3⟩,h4⟩,h5⟩:=h
 have hne:∀ p∈d.obs,∀ p'∈e.obs,p.1≠p'.1:=fun p hp p' hp'=>Nat.ne_of_beq_eq_false ((h4 p hp).2 p' hp')
 rw [Ynu,Ynu,Ynu,Ynu]
 rw [Y12a _ _ _ _ h2,Y12a _ _ _ _ h3,Yqg _ _ _ fun p hp=>(h4 p hp).1,Yqg _ _ _ fun p hp=>h5 p hp]
 rw [Yt9,Yt9,Yw8 _ _ _ hne,Y1ei _ _ _ h1,Y1az]
def Ygj (ops:Array Oper) (i:Nat):List Nat:=match ops[i]? with
 | some o=>(o.after.toList.filter fun e=>Region.binds .any e).map (·.on)
 | none=>[]
def Yoz (ms:List Nat):List Nat->Nat
 | []=>0
 | p :: ps=>(Yoz ms ps ||| 1 <<< p) ||| ms.getD p 0
def Ylo (ops:Array Oper):Nat->List Nat
 | 0=>[]
 | n+1=>match Ylo ops n with | ms=>ms++[Yoz ms (Ygj ops n)]
theorem Yz5 {ms:List Nat}:∀ {ps:List Nat} {x:Nat},(Yoz ms ps).testBit x=true->∃ p∈ps,x=p ∨ (ms.getD p 0).testBit x=true
 | [],x,h=>by simp [Yoz] at h
 | p :: ps,x,h=>by
  simp only [Yoz,Nat.testBit_or,Bool.or_eq_true,Nat.one_shiftLeft,Nat.testBit_two_pow,decide_eq_true_eq] at h
  rcases h with (h | h) | h
  ·obtain ⟨p',h1,h2⟩:=Yz5 h
   exact ⟨p',List.mem_cons_of_mem _ h1,h2⟩
  ·exact ⟨p,List.mem_cons_self,.inl h.symm⟩
  ·exact ⟨p,List.mem_cons_self,.inr h⟩
theorem Ypu (ops:Array Oper):∀ n,(Ylo ops n).length=n
 | 0=>rfl
 | n+1=>by simp [Ylo,Ypu ops n]
def mk (ops:Array Oper) (i:Nat):Nat:=Yoz (Ylo ops i) (Ygj ops i)
theorem Yn6 (ops:Array Oper):∀ (n i:Nat),i<n->(Ylo ops n).getD i 0=mk ops i
 | 0,i,h=>by omega
 | n+1,i,h=>by
  have hl:=Ypu ops n
  simp only [Ylo,List.getD_eq_getElem?_getD,List.getElem?_append,hl]
  by_cases hi:i<n
  ·rw [if_pos hi]
   have:=Yn6 ops n i hi
   simpa [List.getD_eq_getElem?_getD] using this
  ·have:i=n:=by omega
   subst this
   rw [if_neg hi]; simp [mk]
theorem Y173 {ops:Array Oper} {i x:Nat} (h:(mk ops i).testBit x=true):∃ p∈Ygj ops i,x=p ∨ (p<i/\(mk ops p).testBit x=true):=by
 obtain ⟨p,h1,h2⟩:=Yz5 h
 refine ⟨p,h1,h2.imp id fun h2 => ?_⟩
 by_cases hp:p<i
 ·exact ⟨hp,by rwa [Yn6 ops i p hp] at h2⟩
 ·rw [List.getD_eq_getElem?_getD,List.getElem?_eq_none (by rw [Ypu]; omega)] at h2
  simp at h2
theorem Y12p {ops:Array Oper} (hp:∀ i,∀ p∈Ygj ops i,p<i):∀ (n i x:Nat),i<n->(mk ops i).testBit x=true->x<i
 | 0,i,x,hi,_=>by omega
 | n+1,i,x,hi,h=>by
  obtain ⟨p,h1,h2⟩:=Y173 h
  have:=hp i p h1
  rcases h2 with rfl | ⟨h2,h3⟩
  ·exact this
  ·have:=Y12p hp n p x (by omega) h3
   omega
theorem Yqv {ops:Array Oper} {L:Nat->Prop} (hL:∀ j,L j->∀ p∈Ygj ops j,L p):∀ (n i x:Nat),i<n->(∀ p∈Ygj ops i,L p)->(mk ops i).testBit x=true->L x
 | 0,i,x,hi,_,_=>by omega
 | n+1,i,x,hi,hpre,h=>by
  obtain ⟨p,h1,h2⟩:=Y173 h
  rcases h2 with rfl | ⟨h2,h3⟩
  ·exact hpre _ h1
  ·exact Yqv hL n p x (by omega) (hL p (hpre p h1)) h3
def unk:AV:=.sv (.agg [])
def Yo5 (ids:List Nat):Nat->List Ob->List Ob
 | _,[]=>[]
 | n,o :: l=>(match ids.elem n||o.touch ids with | true=>.dead | false=>o) :: Yo5 ids (n+1) l
def Yrn (ids:List Nat) (x:AV):AV:=match x.touch ids with | true=>unk | false=>x
def St.blot (s:St) (dst:Option Nat) (ids:List Nat):St:=match ids with
 | []=>s.put dst unk
 | _ :: _=>{ s with regs:=s.regs.map (Yrn ids),objs:=Yo5 ids 0 s.objs }.put dst unk
def Yjx (s:St):List (Option Nat × List Nat)->St
 | []=>s
 | (d,ids) :: l=>Yjx (s.blot d ids) l
def Yqm (ms:List Nat) (i j:Nat):Bool := !(Nat.beq i j) && !((ms.getD i 0).testBit j) && !((ms.getD j 0).testBit i)
def Ykv (ms:List Nat) (bls:List (Option Nat × List Nat)) (i:Nat):List Nat->List (Option Nat × List Nat)
 | []=>[]
 | j :: l=>match Yqm ms i j with
  | true=>bls.getD j (none,[]) :: Ykv ms bls i l
  | false=>Ykv ms bls i l
def Yh4 (f:Nat->Bool) (s:St):List Eff->St
 | []=>s
 | d :: l=>match f d.i with
  | true=>Yh4 f (s.eff d) l
  | false=>Yh4 f s l
def mkS (n:Nat) (ms:List Nat) (bls:List (Option Nat × List Nat)) (s0:St) (ds:List Eff) (i:Nat):St:=
 Yjx (Yh4 (fun j=>(ms.getD i 0).testBit j) s0 ds) (Ykv ms bls i (List.range n))
def Yxo:List Item->Prop->Prop
 | [],K=>K
 | .asm _ :: r,K=>Yxo r K
 | .obl p :: r,K=>p/\Yxo r K
def Y168:List Item->Prop->Prop
 | [],K=>K
 | .asm p :: r,K=>(p->Y168 r K)
 | .obl _ :: r,K=>Y168 r K
def Y10y (src:Bool) (v:AV) (q:List Orc) (k:AV->List Orc->Prop):Prop:=
 match src,v with
 | true,.sv (.one (.val (.lit (.bool b))))=>match q with
  | .bool d :: q=>b=d/\k (Yrf d) q
  | .br l r :: _=>(b=true->k (Yrf true) l)/\(b=false->k (Yrf false) r)
  | _=>StuckB b
 | _,v=>k v q
def Yr4 (f:Nat->Bool):St->List Eff->(St->Prop)->Prop
 | s,[],k=>k s
 | s,d :: l,k=>match f d.i with
  | true=>fSt (s.eff d) fun s=>Yr4 f s l k
  | false=>Yr4 f s l k
theorem Yq8 (f:Nat->Bool):∀ (l:List Eff) (s:St) (k:St->Prop),Yr4 f s l k=k (Yh4 f s l)
 | [],s,k=>rfl
 | d :: l,s,k=>by
  rw [Yr4,Yh4]
  cases f d.i with
  | true=>show fSt (s.eff d) (fun s=>Yr4 f s l k)=k (Yh4 f (s.eff d) l); rw [Yps,Yq8 f l]
  | false=>exact Yq8 f l s k
def Y1ib (n:Nat) (ms:List Nat) (bls:List (Option Nat × List Nat)) (s0:St) (ds:List Eff) (i:Nat) (k:St->Prop):Prop:=
 Yr4 (fun j=>(ms.getD i 0).testBit j) s0 ds fun s=>fSt (Yjx s (Ykv ms bls i (List.range n))) k
theorem Y1kc (n:Nat) (ms:List Nat) (bls:List (Option Nat × List Nat)) (s0:St) (ds:List Eff) (i:Nat) (k:St->Prop):Y1ib n ms bls s0 ds i k=k (mkS n ms bls s0 ds i):=by
 unfold Y1ib mkS; rw [Yq8,Yps]
def Yxd (P:Program) (ops:Array Oper) (ms:List Nat) (bls:List (Option Nat × List Nat)) (s0:St):List Nat->Nat->List Eff->List Item->List Orc->(List Eff->List Item->List Orc->Prop)->Prop
 | [],n,ds,its,q,k=>k ds its q
 | i :: rest,n,ds,its,q,k=>match ops[i]? with
  | none=>False
  | some o=>Y1ib ops.size ms bls s0 ds i fun s=>match Ymd ops s o with
   | none=>StuckGuard s o
   | some false=>Yjv (n+Yhy o) fun n'=>Yis fId (ds++[⟨i,o.dst,.tup [],n,Yhy o,{},[]⟩]) fun ds=>Yxd P ops ms bls s0 rest n' ds its q k
   | some true=>match aop P s o n q with
    | none=>StuckOp s o n
    | some (r,it,q')=>Yxo it (Y1i8 r fun r=>Y10y (Y1iy ops i) r.val q' fun v q''=>Yjv (n+Yhy o) fun n'=>Yis fId (its++it) fun its=>Yis fId (ds++[⟨i,o.dst,v,n,Yhy o,r,it⟩]) fun ds=>Yxd P ops ms bls s0 rest n' ds its q'' k)
def Yvu (ops:Array Oper) (tids:List (Nat × List Nat)):List Nat->Nat->List (Option Nat × List Nat)
 | [],_=>[]
 | i :: l,n=>match ops[i]? with
  | some o=>(o.dst,(match tids.lookup i with | some t=>t | none=>[])++List.range' n (Yhy o)) :: Yvu ops tids l (n+Yhy o)
  | none=>(none,[]) :: Yvu ops tids l n
def Ytd (ops:Array Oper):List Nat->Nat
 | []=>0
 | i :: l=>(match ops[i]? with | some o=>Yhy o | none=>0)+Ytd ops l
def Y1ip:Option Nat->Option Nat->Bool
 | none,none=>true
 | some x,some y=>Nat.beq x y
 | _,_=>false
def Yy6 (ops:Array Oper) (ms:List Nat) (bls:List (Option Nat × List Nat)) (base len:Nat) (ds:List Eff):Bool:=
 (ds.map (·.i) == List.range ops.size) &&
 (List.range ops.size).all (fun i=>(Ygj ops i).all fun p=>Nat.blt p i) &&
 ds.all (fun d=>Y1ip (bls.getD d.i (none,[])).1 d.dst&&d.obs.all (fun p=>(bls.getD d.i (none,[])).2.elem p.1)&&d.r.inv.all (fun x=>(bls.getD d.i (none,[])).2.elem x) &&
  Nat.ble base d.n&&Nat.ble (d.n+d.k) len &&
  ds.all fun e=>(Nat.beq d.i e.i||(ms.getD e.i 0).testBit d.i||e.obs.all fun p=>Nat.blt p.1 d.n||Nat.ble (d.n+d.k) p.1)&&(!(Yqm ms d.i e.i)||d.apart e))
theorem Yyf {J ids:List Nat} {x:AV} (h:∀ i∈J,i∈ids) (k:x.touch ids=false):x.touch J=false:=by
 cases J with
 | nil=>rfl
 | cons j J=>
  have hn:ids≠[]:=fun e=>by have:=h j List.mem_cons_self; rw [e] at this; cases this
  unfold AV.touch at k ⊢
  cases ids with
  | nil=>exact absurd rfl hn
  | cons i ids=>
   simp only at k ⊢
   rw [List.any_eq_false] at k ⊢
   intro c hc hk
   refine k c hc ?_
   unfold AC.touch at hk ⊢
   split at hk
   ·rename_i id e
    have:id∈j :: J:=by simpa using hk
    simpa using h id this
   ·cases hk
theorem Y11c {J:List Nat} {x:AV} (h:∀ i∈J,x.touch [i]=false):x.touch J=false:=by
 cases J with
 | nil=>rfl
 | cons j J=>
  unfold AV.touch
  simp only
  rw [List.any_eq_false]
  intro c hc hk
  unfold AC.touch at hk
  split at hk
  ·rename_i id e
   have hm:id∈j :: J:=by simpa using hk
   have:=h id hm
   unfold AV.touch at this
   simp only at this
   rw [List.any_eq_false] at this
   refine this c hc ?_
   unfold AC.touch; rw [e]; simp
  ·cases hk
theorem Yw3 {J ids:List Nat} {x:Ob} (h:∀ i∈J,i∈ids) (k:x.touch ids=false):x.touch J=false:=by
 cases J with
 | nil=>rfl
 | cons j J=>
  have hn:ids≠[]:=fun e=>by have:=h j List.mem_cons_self; rw [e] at this; cases this
  unfold Ob.touch at k ⊢
  cases ids with
  | nil=>exact absurd rfl hn
  | cons i ids=>
   simp only at k ⊢
   rw [List.any_eq_false] at k ⊢
   intro c hc hk
   refine k c hc ?_
   unfold AC.touch at hk ⊢
   split at hk
   ·rename_i id e
    have:id∈j :: J:=by simpa using hk
    simpa using h id this
   ·cases hk
theorem Yzl {J:List Nat} {x:Ob} (h:∀ i∈J,x.touch [i]=false):x.touch J=false:=by
 cases J with
 | nil=>rfl
 | cons j J=>
  unfold Ob.touch
  simp only
  rw [List.any_eq_false]
  intro c hc hk
  unfold AC.touch at hk
  split at hk
  ·rename_i id e
   have hm:id∈j :: J:=by simpa using hk
   have:=h id hm
   unfold Ob.touch at this
   simp only at this
   rw [List.any_eq_false] at this
   refine this c hc ?_
   unfold AC.touch; rw [e]; simp
  ·cases hk
theorem Yq0 (a b:List Nat) (c:AC):Yhw a (Yhw b c)=Yhw (b++a) c:=by
 have ht:∀ l,AC.top.touch l=false:=fun _=>rfl
 have happ:c.touch (b++a)=(c.touch b||c.touch a):=by
  unfold AC.touch
  cases c.src with
  | none=>rfl
  | some id=>simp only [List.elem_eq_contains]; rw [Bool.eq_iff_iff]; simp
 by_cases ha:c.touch a=true <;> by_cases hb:c.touch b=true <;> simp [Y15n,happ,ha,hb,ht]
theorem Yuu (a b:List Nat) (x:SV):Yi4 a (Yi4 b x)=Yi4 (b++a) x:=by
 cases x with
 | one c=>simp [Yi4,Yq0 a b]
 | agg cs=>simp only [Yi4,List.map_map]; congr 1; exact List.map_congr_left fun c _=>Yq0 a b c
theorem Y148 (a b:List Nat) (x:AV):Yhc a (Yhc b x)=Yhc (b++a) x:=by
 cases x with
 | sv x=>simp [Yhc,Yuu a b]
 | tup l=>simp only [Yhc,List.map_map]; congr 1; exact List.map_congr_left fun c _=>Yuu a b c
theorem Y15s (a b:List Nat) (x:Ob):Ygk a (Ygk b x)=Ygk (b++a) x:=by
 cases x with
 | box cs=>simp only [Ygk,List.map_map]; congr 1; exact List.map_congr_left fun c _=>Yq0 a b c
 | _=>rfl
theorem Yxq (s:St) (d:Eff):(s.eff d).regs.length=s.regs.length:=by
 rw [Ynu,Yik]
 cases d.dst with
 | none=>simp [St.put,Yhx]
 | some t=>simp [St.put,Yhx]
theorem Y1gi (s:St) (dst:Option Nat) (v:AV):(s.put dst v).objs=s.objs:=by cases dst <;> rfl
theorem Yt1 (s:St) (d:Eff):(s.eff d).objs.length=s.objs.length:=by
 rw [Ynu,Yik,Y1gi,Yii]; simp
theorem Y18c (s:St) (dst:Option Nat) (v:AV) (t:Nat):(s.put dst v).reg t=if dst=some t/\t<s.regs.length then v else s.reg t:=by
 cases dst with
 | none=>simp [St.put]
 | some d=>
  simp only [St.put,St.reg,List.getD_eq_getElem?_getD,List.getElem?_set,Option.some.injEq]
  by_cases hd:d=t
  ·subst hd
   by_cases hl:d<s.regs.length
   ·simp [hl]
   ·simp [hl]
  ·simp [hd]
theorem Y19u (s:St) (f:AV->AV) (hf:f Ynn=Ynn) (t:Nat):({ s with regs:=s.regs.map f }:St).reg t=f (s.reg t):=by
 simp only [St.reg,List.getD_eq_getElem?_getD,List.getElem?_map]
 cases s.regs[t]? with
 | none=>exact hf.symm
 | some x=>rfl
theorem Y1cy (s:St) (ids:List Nat) (t:Nat):(s.inval ids).reg t=Yhc ids (s.reg t):=by
 rw [Yik]
 exact Y19u s (Yhc ids) rfl t
theorem Y139 (s:St) (ids:List Nat) (i:Nat):(s.inval ids).obj i=Ygk ids (s.obj i):=by
 rw [Yik]
 simp only [St.obj,List.getD_eq_getElem?_getD,List.getElem?_map]
 cases s.objs[i]? <;> rfl
theorem Y115 (s:St) (d:Eff) (t:Nat):(s.eff d).reg t=if d.dst=some t/\t<s.regs.length then d.val else Yhc d.r.inv (s.reg t):=by
 rw [Ynu,Y18c]
 have h1:((s.inval d.r.inv).updObs d.obs).regs.length=s.regs.length:=by rw [Yhx,Yik]; simp
 have h2:((s.inval d.r.inv).updObs d.obs).reg t=Yhc d.r.inv (s.reg t):=by
  rw [<- Y1cy]; simp only [St.reg,Yhx]
 rw [h1,h2]
theorem Yw4:∀ (l:List (Nat × Ob)) (s s':St) (x:Nat),s.objs.length=s'.objs.length ->
  (∃ o,(x,o)∈l/\(s.updObs l).obj x=o/\(s'.updObs l).obj x=o) ∨ ((s.updObs l).obj x=s.obj x/\(s'.updObs l).obj x=s'.obj x)
 | [],s,s',x,_=>.inr ⟨rfl,rfl⟩
 | (n,o) :: l,s,s',x,hl=>by
  rw [St.updObs,St.updObs]
  have hl':(s.setOb n o).objs.length=(s'.setOb n o).objs.length:=by simp [St.setOb,hl]
  rcases Yw4 l (s.setOb n o) (s'.setOb n o) x hl' with ⟨o1,h1,h2,h3⟩ | ⟨h1,h2⟩
  ·exact .inl ⟨o1,List.mem_cons_of_mem _ h1,h2,h3⟩
  ·by_cases hx:x=n
   ·subst hx
    by_cases hlt:x<s.objs.length
    ·left
     refine ⟨o,List.mem_cons_self,?_,?_⟩
     ·rw [h1,Yg5 hlt,if_pos rfl]
     ·rw [h2,Yg5 (by omega),if_pos rfl]
    ·right
     have e1:s.setOb x o=s:=by simp only [St.setOb]; rw [List.set_eq_of_length_le (by omega)]
     have e2:s'.setOb x o=s':=by simp only [St.setOb]; rw [List.set_eq_of_length_le (by omega)]
     rw [e1] at h1 ⊢; rw [e2] at h2 ⊢
     exact ⟨h1,h2⟩
   ·right
    have e:∀ (s:St),(s.setOb n o).obj x=s.obj x:=fun s=>by
     simp only [St.setOb,St.obj,List.getD_eq_getElem?_getD,List.getElem?_set,if_neg (Ne.symm hx)]
    exact ⟨h1.trans (e s),h2.trans (e s')⟩
theorem Ywm (s s':St) (d:Eff) (x:Nat) (hl:s.objs.length=s'.objs.length) :
  (∃ o,(x,o)∈d.obs/\(s.eff d).obj x=o/\(s'.eff d).obj x=o) ∨ ((s.eff d).obj x=Ygk d.r.inv (s.obj x)/\(s'.eff d).obj x=Ygk d.r.inv (s'.obj x)):=by
 rw [Ynu,Ynu,St.obj_put,St.obj_put,<- Y139,<- Y139]
 exact Yw4 d.obs _ _ x (by rw [Yik,Yik]; simpa using hl)
structure Two (Dt Ox:Nat->Prop) (J:List Nat) (a t:St):Prop where
 rlen:a.regs.length=t.regs.length
 olen:a.objs.length=t.objs.length
 reg:∀ x,t.reg x=Yhc J (a.reg x) ∨ Dt x
 obj:∀ x,t.obj x=Ygk J (a.obj x) ∨ Ox x
def Y12q (u d:Eff):Prop:=∀ i∈u.r.inv,d.val.touch [i]=false/\∀ p∈d.obs,p.2.touch [i]=false
theorem Ytg {fA fT:Nat->Bool} (hsub:∀ j,fA j=true->fT j=true) {Dt Ox Jx:Nat->Prop} :
  ∀ (ds:List Eff) (a t:St) (J:List Nat),(∀ i∈J,Jx i)->Two Dt Ox J a t ->
   (∀ d∈ds,fA d.i=true->∀ i∈J,d.val.touch [i]=false/\∀ p∈d.obs,p.2.touch [i]=false) ->
   ds.Pairwise (fun u d=>fT u.i=true->fA u.i=false->fA d.i=true->Y12q u d) ->
   (∀ d∈ds,fT d.i=true->fA d.i=false->(∀ x,d.dst=some x->Dt x)/\(∀ p∈d.obs,Ox p.1)/\∀ i∈d.r.inv,Jx i) ->
   ∃ J',(∀ i∈J',Jx i)/\Two Dt Ox J' (Yh4 fA a ds) (Yh4 fT t ds)
 | [],a,t,J,hJ,h,_,_,_=>⟨J,hJ,h⟩
 | d :: ds,a,t,J,hJ,h,hA,hP,hU=>by
  have hA':=fun e he=>hA e (List.mem_cons_of_mem _ he)
  have hU':=fun e he=>hU e (List.mem_cons_of_mem _ he)
  obtain ⟨hP1,hP2⟩:=List.pairwise_cons.1 hP
  simp only [Yh4]
  cases ha:fA d.i with
  | true=>
   rw [hsub _ ha]
   simp only
   have hd:=hA d List.mem_cons_self ha
   refine Ytg hsub ds _ _ J hJ ⟨by rw [Yxq,Yxq,h.rlen],by rw [Yt1,Yt1,h.olen],fun x => ?_,fun x => ?_⟩ hA' hP2 hU'
   ·rw [Y115,Y115,<- h.rlen]
    by_cases hx:d.dst=some x/\x<a.regs.length
    ·left
     rw [if_pos hx,if_pos hx]
     exact (Ys9 (Y11c fun i hi=>(hd i hi).1)).symm
    ·rw [if_neg hx,if_neg hx]
     refine (h.reg x).imp (fun e => ?_) id
     rw [e,Yz7]
   ·rcases Ywm a t d x h.olen with ⟨o,ho,e1,e2⟩ | ⟨e1,e2⟩
    ·left
     rw [e1,e2]
     exact (Ysr (Yzl fun i hi=>(hd i hi).2 (x,o) ho)).symm
    ·rw [e1,e2]
     refine (h.obj x).imp (fun e => ?_) id
     rw [e,Yyj]
  | false=>
   simp only
   cases ht:fT d.i with
   | false=>exact Ytg hsub ds a t J hJ h hA' hP2 hU'
   | true=>
    simp only
    obtain ⟨h1,h2,h3⟩:=hU d List.mem_cons_self ht ha
    refine Ytg hsub ds a _ (J++d.r.inv) (fun i hi=>(List.mem_append.1 hi).elim (hJ i) (h3 i)) ⟨by rw [Yxq,h.rlen],by rw [Yt1,h.olen],fun x => ?_,fun x => ?_⟩
     (fun e he hae i hi=>(List.mem_append.1 hi).elim (hA' e he hae i) (hP1 e he ht ha hae i)) hP2 hU'
    ·rw [Y115]
     by_cases hx:d.dst=some x/\x<t.regs.length
     ·exact .inr (h1 x hx.1)
     ·rw [if_neg hx]
      refine (h.reg x).imp (fun e => ?_) id
      rw [e,Y148]
    ·rcases Ywm t t d x rfl with ⟨o,ho,e1,e2⟩ | ⟨e1,e2⟩
     ·exact .inr (h2 (x,o) ho)
     ·rw [e1]
      refine (h.obj x).imp (fun e => ?_) id
      rw [e,Y15s]
theorem Y12q.of_apart {u d:Eff} (h:u.apart d=true):Y12q u d:=by
 simp only [Eff.apart,Bool.and_eq_true,Bool.not_eq_true',List.all_eq_true] at h
 obtain ⟨⟨⟨⟨h1,h2⟩,h3⟩,h4⟩,h5⟩:=h
 intro x hx
 have hm:∀ k∈[x],k∈u.r.inv:=fun k hk=>by rw [List.mem_singleton.1 hk]; exact hx
 exact ⟨Yyf hm h3,fun p hp=>Yw3 hm (h5 p hp)⟩
theorem Ywg (ids:List Nat):∀ (l:List Ob) (n i:Nat),(Yo5 ids n l).getD i .free=.dead ∨
  ((Yo5 ids n l).getD i .free=l.getD i .free/\((ids.elem (n+i)=false/\(l.getD i .free).touch ids=false) ∨ l.length<=i))
 | [],n,i=>.inr ⟨rfl,.inr (Nat.zero_le _)⟩
 | o :: l,n,0=>by
  simp only [Yo5,List.getD_cons_zero,Nat.add_zero]
  cases h:(ids.elem n||o.touch ids) with
  | true=>exact .inl rfl
  | false=>exact .inr ⟨rfl,.inl (by simpa using h)⟩
 | o :: l,n,i+1=>by
  simp only [Yo5,List.getD_cons_succ]
  refine (Ywg ids l (n+1) i).imp id fun ⟨h1,h2⟩=>⟨h1,h2.imp (fun h => ?_) (fun h => ?_)⟩
  ·rw [show n+(i+1)=n+1+i by omega]; exact h
  ·simpa using h
theorem Y1ev (s:St) (dst:Option Nat) (ids:List Nat):(s.blot dst ids).regs.length=s.regs.length:=by
 cases ids <;> cases dst <;> simp [St.blot,St.put]
theorem Y1b9 (ids:List Nat):Ynn.touch ids=false:=by cases ids <;> rfl
theorem Y1gv (s:St) (dst:Option Nat) (ids:List Nat) (t:Nat):(s.blot dst ids).reg t=unk ∨
  ((s.blot dst ids).reg t=s.reg t/\(dst≠some t ∨ s.regs.length<=t)/\(s.reg t).touch ids=false):=by
 have key:∀ s1:St,s1.regs.length=s.regs.length->(s1.reg t=unk ∨ (s1.reg t=s.reg t/\(s.reg t).touch ids=false)) ->
   (s1.put dst unk).reg t=unk ∨ ((s1.put dst unk).reg t=s.reg t/\(dst≠some t ∨ s.regs.length<=t)/\(s.reg t).touch ids=false):=by
  intro s1 hl h
  rw [Y18c]
  by_cases hd:dst=some t/\t<s1.regs.length
  ·rw [if_pos hd]; exact .inl rfl
  ·rw [if_neg hd]
   refine h.imp id fun ⟨h1,h2⟩=>⟨h1,?_,h2⟩
   by_cases hd1:dst=some t
   ·exact .inr (by rw [<- hl]; exact Nat.le_of_not_lt fun hlt=>hd ⟨hd1,hlt⟩)
   ·exact .inl hd1
 cases ids with
 | nil=>exact key s rfl (.inr ⟨rfl,rfl⟩)
 | cons i ids=>
  refine key _ (by simp) ?_
  have e:(St.reg { s with regs:=s.regs.map (Yrn (i :: ids)),objs:=Yo5 (i :: ids) 0 s.objs } t)=Yrn (i :: ids) (s.reg t):=Y19u s (Yrn (i :: ids)) (by simp [Yrn,Y1b9]) t
  rw [e]
  unfold Yrn
  cases h:(s.reg t).touch (i :: ids) with
  | true=>exact .inl rfl
  | false=>exact .inr ⟨rfl,rfl⟩
theorem Y1h8 (s:St) (dst:Option Nat) (ids:List Nat) (x:Nat):(s.blot dst ids).obj x=.dead ∨
  ((s.blot dst ids).obj x=s.obj x/\((ids.elem x=false/\(s.obj x).touch ids=false) ∨ s.obj x=.free)):=by
 cases ids with
 | nil=>
  right
  rw [St.blot,St.obj_put]
  exact ⟨rfl,.inl ⟨rfl,rfl⟩⟩
 | cons i ids=>
  rw [St.blot,St.obj_put]
  refine (Ywg (i :: ids) s.objs 0 x).imp id fun ⟨h1,h2⟩=>⟨h1,h2.imp (fun h => ?_) fun h => ?_⟩
  ·rw [Nat.zero_add] at h; exact h
  ·simp [St.obj,List.getElem?_eq_none h]
theorem Ywb:∀ (l:List (Option Nat × List Nat)) (s:St) (t:Nat),(Yjx s l).reg t=unk ∨
  ((Yjx s l).reg t=s.reg t/\∀ p∈l,(p.1≠some t ∨ s.regs.length<=t)/\(s.reg t).touch p.2=false)
 | [],s,t=>.inr ⟨rfl,fun _ h=>by cases h⟩
 | (d,ids) :: l,s,t=>by
  rw [Yjx]
  rcases Ywb l (s.blot d ids) t with h | ⟨h1,h2⟩
  ·exact .inl h
  ·rcases Y1gv s d ids t with h3 | ⟨h3,h4,h5⟩
   ·exact .inl (by rw [h1,h3])
   ·refine .inr ⟨by rw [h1,h3],fun p hp => ?_⟩
    rcases List.mem_cons.1 hp with rfl | hp
    ·exact ⟨h4,h5⟩
    ·have:=h2 p hp
     rw [h3,Y1ev] at this
     exact this
theorem Yw9:∀ (l:List (Option Nat × List Nat)) (s:St) (x:Nat),((Yjx s l).obj x=.dead ∨ (Yjx s l).obj x=.free) ∨
  ((Yjx s l).obj x=s.obj x/\∀ p∈l,p.2.elem x=false/\(s.obj x).touch p.2=false)
 | [],s,x=>.inr ⟨rfl,fun _ h=>by cases h⟩
 | (d,ids) :: l,s,x=>by
  rw [Yjx]
  rcases Yw9 l (s.blot d ids) x with h | ⟨h1,h2⟩
  ·exact .inl h
  ·rcases Y1h8 s d ids x with h3 | ⟨h3,h4⟩
   ·exact .inl (.inl (by rw [h1,h3]))
   ·rcases h4 with h4 | h4
    ·refine .inr ⟨by rw [h1,h3],fun p hp => ?_⟩
     rcases List.mem_cons.1 hp with rfl | hp
     ·exact h4
     ·have:=h2 p hp
      rw [h3] at this
      exact this
    ·exact .inl (.inr (by rw [h1,h3,h4]))
theorem Yqb {ms:List Nat} {bls:List (Option Nat × List Nat)} {i j:Nat} (h:Yqm ms i j=true):∀ {l:List Nat},j∈l->bls.getD j (none,[])∈Ykv ms bls i l
 | k :: l,hm=>by
  simp only [Ykv]
  rcases List.mem_cons.1 hm with rfl | hm
  ·rw [h]; exact List.mem_cons_self
  ·split
   ·exact List.mem_cons_of_mem _ (Yqb h hm)
   ·exact Yqb h hm
theorem Y19h {s:St} {t:Nat} (h:s.regs.length<=t):s.reg t=Ynn:=by simp [St.reg,List.getElem?_eq_none h,Ynn]
theorem Y1mv {n:Nat} {ms:List Nat} {bls:List (Option Nat × List Nat)} {s0:St} {ds:List Eff} {i:Nat} {fT:Nat->Bool}
  (hsub:∀ j,(ms.getD i 0).testBit j=true->fT j=true)
  (hn:∀ d∈ds,d.i<n)
  (hun:∀ d∈ds,fT d.i=true->(ms.getD i 0).testBit d.i=false->Yqm ms i d.i=true)
  (hbl:∀ d∈ds,(bls.getD d.i (none,[])).1=d.dst/\(∀ p∈d.obs,(bls.getD d.i (none,[])).2.elem p.1=true)/\∀ x∈d.r.inv,(bls.getD d.i (none,[])).2.elem x=true)
  (hap:ds.Pairwise fun u d=>fT u.i=true->(ms.getD i 0).testBit u.i=false->(ms.getD i 0).testBit d.i=true->u.apart d=true) :
  Le (mkS n ms bls s0 ds i) (Yh4 fT s0 ds):=by
 let U (d:Eff):Prop:=d∈ds/\fT d.i=true/\(ms.getD i 0).testBit d.i=false
 obtain ⟨J,hJ,h⟩:=Ytg (fA:=fun j=>(ms.getD i 0).testBit j) (fT:=fT) hsub (Dt:=fun x=>∃ u,U u/\u.dst=some x) (Ox:=fun x=>∃ u,U u/\∃ p∈u.obs,p.1=x) (Jx:=fun x=>∃ u,U u/\x∈u.r.inv) ds s0 s0 []
  (fun _ hx=>by cases hx) ⟨rfl,rfl,fun x=>.inl (Yv2 _).symm,fun x=>.inl (Yuq _).symm⟩
  (fun _ _ _ _ hx=>by cases hx) (hap.imp fun hh h1 h2 h3=>Y12q.of_apart (hh h1 h2 h3))
  (fun d hd h1 h2=>⟨fun x hx=>⟨d,⟨hd,h1,h2⟩,hx⟩,fun p hp=>⟨d,⟨hd,h1,h2⟩,p,hp,rfl⟩,fun x hx=>⟨d,⟨hd,h1,h2⟩,hx⟩⟩)
 have hmem:∀ u,U u->bls.getD u.i (none,[])∈Ykv ms bls i (List.range n):=fun u hu=>Yqb (hun u hu.1 hu.2.1 hu.2.2) (List.mem_range.2 (hn u hu.1))
 constructor
 ·intro t
  rcases Ywb (Ykv ms bls i (List.range n)) (Yh4 (fun j=>(ms.getD i 0).testBit j) s0 ds) t with h1 | ⟨h1,h2⟩
  ·exact .inl h1
  ·right
   show _=(Yjx _ _).reg t
   rw [h1]
   by_cases hl:(Yh4 (fun j=>(ms.getD i 0).testBit j) s0 ds).regs.length<=t
   ·rw [Y19h hl,Y19h (by rw [<- h.rlen]; exact hl)]
   ·rcases h.reg t with h3 | ⟨u,hu,hd⟩
    ·rw [h3]
     refine Ys9 (Y11c fun x hx => ?_)
     obtain ⟨u,hu,hxu⟩:=hJ x hx
     refine Yyf (fun k hk => ?_) (h2 _ (hmem u hu)).2
     rw [List.mem_singleton.1 hk]
     have:=(hbl u hu.1).2.2 x hxu
     simpa using this
    ·have:=(h2 _ (hmem u hu)).1
     rw [(hbl u hu.1).1] at this
     exact (this.elim (fun k=>k hd) fun k=>hl k).elim
 ·intro x
  rcases Yw9 (Ykv ms bls i (List.range n)) (Yh4 (fun j=>(ms.getD i 0).testBit j) s0 ds) x with h1 | ⟨h1,h2⟩
  ·exact .inl h1.symm
  ·right
   show _=(Yjx _ _).obj x
   rw [h1]
   rcases h.obj x with h3 | ⟨u,hu,p,hp,rfl⟩
   ·rw [h3]
    refine Ysr (Yzl fun y hy => ?_)
    obtain ⟨u,hu,hyu⟩:=hJ y hy
    refine Yw3 (fun k hk => ?_) (h2 _ (hmem u hu)).2
    rw [List.mem_singleton.1 hk]
    have:=(hbl u hu.1).2.2 y hyu
    simpa using this
   ·have h4:=(h2 _ (hmem u hu)).1
    have h5:=(hbl u hu.1).2.1 p hp
    rw [h4] at h5; cases h5
theorem Y160 {ops:Array Oper} (hp:∀ i,∀ p∈Ygj ops i,p<i) {i p x:Nat} (h1:p∈Ygj ops i) (h2:x=p ∨ (mk ops p).testBit x=true):(mk ops i).testBit x=true:=by
 have key:∀ (ms:List Nat) (ps:List Nat),p∈ps->(x=p ∨ (ms.getD p 0).testBit x=true)->(Yoz ms ps).testBit x=true:=by
  intro ms ps
  induction ps with
  | nil=>intro h; cases h
  | cons q ps ih=>
   intro hm hx
   simp only [Yoz,Nat.testBit_or,Bool.or_eq_true,Nat.one_shiftLeft,Nat.testBit_two_pow,decide_eq_true_eq]
   rcases List.mem_cons.1 hm with rfl | hm
   ·rcases hx with rfl | hx
    ·exact .inl (.inr rfl)
    ·exact .inr hx
   ·exact .inl (.inl (ih hm hx))
 refine key (Ylo ops i) _ h1 (h2.imp id fun h => ?_)
 rw [Yn6 ops i p (hp i p h1)]; exact h
theorem Y176 {ops:Array Oper} (hp:∀ i,∀ p∈Ygj ops i,p<i):∀ (n i d e:Nat),i<n->(mk ops i).testBit d=true->(mk ops d).testBit e=true->(mk ops i).testBit e=true
 | 0,i,d,e,hi,_,_=>by omega
 | n+1,i,d,e,hi,h1,h2=>by
  obtain ⟨p,hpi,h⟩:=Y173 h1
  rcases h with rfl | ⟨hlt,h⟩
  ·exact Y160 hp hpi (.inr h2)
  ·exact Y160 hp hpi (.inr (Y176 hp n p d e (by omega) h h2))
def Yjt:List Item->Prop
 | []=>True
 | .asm p :: r=>p/\Yjt r
 | .obl _ :: r=>Yjt r
theorem VC.mono:∀ {it:List Item} {K K':Prop},(K->K')->VC it K->VC it K'
 | [],_,_,h,k=>h k
 | .asm _ :: _,_,_,h,k=>fun p=>VC.mono h (k p)
 | .obl _ :: _,_,_,h,k=>⟨k.1,VC.mono h k.2⟩
theorem VC.of_obl:∀ {it:List Item},Yxo it True->VC it (Yjt it)
 | [],_=>trivial
 | .asm p :: r,h=>fun hp=>VC.mono (fun k=>⟨hp,k⟩) (VC.of_obl (it:=r) h)
 | .obl p :: r,h=>⟨h.1,VC.of_obl (it:=r) h.2⟩
theorem Yta:∀ {it:List Item} {K:Prop},Y168 it K->Yjt it->K
 | [],_,h,_=>h
 | .asm _ :: r,_,h,k=>Yta (it:=r) (h k.1) k.2
 | .obl _ :: r,_,h,k=>Yta (it:=r) h k
theorem Ykw {f g:Nat->Bool}:∀ {ds:List Eff} {s:St},(∀ d∈ds,f d.i=g d.i)->Yh4 f s ds=Yh4 g s ds
 | [],_,_=>rfl
 | d :: ds,s,h=>by
  simp only [Yh4,h d List.mem_cons_self]
  split <;> exact Ykw fun e he=>h e (List.mem_cons_of_mem _ he)
theorem Yre {f:Nat->Bool} {i:Nat} (hf:f i=false):∀ {ds:List Eff} {s:St} {d:Eff},d∈ds->d.i=i->(ds.map (·.i)).Nodup ->
  (ds.Pairwise fun x y=>x.i=i->f y.i=true->x.apart y=true)->Yh4 (fun j=>Nat.beq j i||f j) s ds=(Yh4 f s ds).eff d
 | x :: ds,s,d,hm,hd,hnd,hP=>by
  obtain ⟨hn1,hn2⟩:=List.nodup_cons.1 (by simpa using hnd:(x.i :: ds.map (·.i)).Nodup)
  obtain ⟨hP1,hP2⟩:=List.pairwise_cons.1 hP
  simp only [Yh4]
  rcases List.mem_cons.1 hm with rfl | hm'
  ·rw [hd,hf]
   simp only [Nat.beq_refl,Bool.true_or]
   have hc:∀ e∈ds,(fun j=>Nat.beq j i||f j) e.i=f e.i:=by
    intro e he
    have hne:e.i≠i:=fun h=>hn1 (by rw [hd,<- h]; exact List.mem_map_of_mem he)
    have:Nat.beq e.i i=false:=by rw [<- Bool.not_eq_true]; exact fun h=>hne (Nat.eq_of_beq_eq_true h)
    simp [this]
   rw [Ykw hc]
   have mv:∀ (l:List Eff) (s:St),(∀ e∈l,f e.i=true->d.apart e=true)->Yh4 f (s.eff d) l=(Yh4 f s l).eff d:=by
    intro l
    induction l with
    | nil=>intro s _; rfl
    | cons e l ih=>
     intro s hl
     simp only [Yh4]
     cases he:f e.i with
     | false=>exact ih s fun e' he'=>hl e' (List.mem_cons_of_mem _ he')
     | true=>
      simp only
      rw [Y1hs s (hl e List.mem_cons_self he)]
      exact ih _ fun e' he'=>hl e' (List.mem_cons_of_mem _ he')
   exact mv ds s fun e he hfe=>hP1 e he hd hfe
  ·have hne:x.i≠i:=fun h=>hn1 (by rw [h,<- hd]; exact List.mem_map_of_mem hm')
   have:Nat.beq x.i i=false:=by rw [<- Bool.not_eq_true]; exact fun h=>hne (Nat.eq_of_beq_eq_true h)
   simp only [this,Bool.false_or]
   cases f x.i with
   | true=>exact Yre hf hm' hd hn2 hP2
   | false=>exact Yre hf hm' hd hn2 hP2
theorem Yv6 (f:Nat->Bool):∀ (ds:List Eff) (s:St),(Yh4 f s ds).objs.length=s.objs.length
 | [],_=>rfl
 | d :: ds,s=>by
  simp only [Yh4]
  split
  ·rw [Yv6 f ds,Yt1]
  ·exact Yv6 f ds s
theorem Ytp (f:Nat->Bool) {x:Nat}:∀ (ds:List Eff) (s:St),s.obj x=.free->(∀ d∈ds,f d.i=true->∀ p∈d.obs,p.1≠x)->(Yh4 f s ds).obj x=.free
 | [],s,h,_=>h
 | d :: ds,s,h,hd=>by
  simp only [Yh4]
  cases hf:f d.i with
  | false=>exact Ytp f ds s h fun e he=>hd e (List.mem_cons_of_mem _ he)
  | true=>
   refine Ytp f ds _ ?_ fun e he=>hd e (List.mem_cons_of_mem _ he)
   rcases Ywm s s d x rfl with ⟨o,ho,_⟩ | ⟨e,_⟩
   ·exact absurd rfl (hd d List.mem_cons_self hf (x,o) ho)
   ·rw [e,h]; rfl
def Y12t (P : Program) (ops : Array Oper) (ms : List Nat) (bls : List (Option Nat × List Nat)) (s0 : St) (ds : List Eff) (d : Eff) : Prop :=
  ∃ o, ops[d.i]? = some o /\ d.dst = o.dst /\
    ((Ymd ops (mkS ops.size ms bls s0 ds d.i) o = some false /\ d.val = .tup [] /\ d.r = {} /\ d.it = []) ∨
     (Ymd ops (mkS ops.size ms bls s0 ds d.i) o = some true /\ d.k = Yhy o /\ d.val = d.r.val /\ (∃ q q', aop P (mkS ops.size ms bls s0 ds d.i) o d.n q = some (d.r, d.it, q')) /\ Yxo d.it True))
structure DPlan (P:Program) (ops:Array Oper) (ms:List Nat) (bls:List (Option Nat × List Nat)) (s0:St) (ds:List Eff):Prop where
 hms:ms=Ylo ops ops.size
 good:∀ d∈ds,Y12t P ops ms bls s0 ds d
 idx:ds.map (·.i)=List.range ops.size
 pre:∀ i,∀ p∈Ygj ops i,p<i
 bl:∀ d∈ds,(bls.getD d.i (none,[])).1=d.dst/\(∀ p∈d.obs,(bls.getD d.i (none,[])).2.elem p.1=true)/\∀ x∈d.r.inv,(bls.getD d.i (none,[])).2.elem x=true
 room:∀ d∈ds,∀ x,d.n<=x->x<d.n+d.k->s0.obj x=.free/\x<s0.objs.length
 far:∀ d∈ds,∀ e∈ds,d.i≠e.i->(ms.getD e.i 0).testBit d.i=false->∀ p∈e.obs,p.1<d.n ∨ d.n+d.k<=p.1
 ap:∀ d∈ds,∀ e∈ds,Yqm ms d.i e.i=true->d.apart e=true
section
variable {P:Program} {E:Ent P} {ops:Array Oper} {ms:List Nat} {bls:List (Option Nat × List Nat)} {s0:St} {ds:List Eff}
def Lst (listed:Array Bool) (j:Nat):Bool:=listed.getD j false
theorem Yk8 {i:Nat} {o:Oper} (ho:ops[i]? = some o) {p:Nat}:p∈Ygj ops i ↔ ∃ e∈o.after,Region.binds .any e=true/\e.on=p:=by
 simp only [Ygj,ho,List.mem_map,List.mem_filter,Array.mem_toList_iff]
 constructor
 ·rintro ⟨e,⟨h1,h2⟩,h3⟩; exact ⟨e,h1,h2,h3⟩
 ·rintro ⟨e,h1,h2,h3⟩; exact ⟨e,⟨h1,h2⟩,h3⟩
theorem Yic {listed:Array Bool} {i:Nat} (h:i∈Region.ready .any ops listed) (hsz:listed.size=ops.size):Lst listed i=false/\i<ops.size/\∀ p∈Ygj ops i,Lst listed p=true:=by
 obtain ⟨h0,o,ho,hall⟩:=mem_ready.1 h
 have hlt:i<ops.size:=(Array.getElem?_eq_some_iff.1 ho).1
 refine ⟨?_,hlt,fun p hp => ?_⟩
 ·simp only [Lst,Array.getD_eq_getD_getElem?] at h0 ⊢
  rw [Array.getElem?_eq_getElem (by omega)] at h0 ⊢
  exact h0
 ·obtain ⟨e,h1,h2,rfl⟩:=(Yk8 ho).1 hp
  exact hall e h1 h2
theorem Yu0 {listed:Array Bool} (h:Region.ready .any ops listed=[]) (hsz:listed.size=ops.size) (hp:∀ i,∀ p∈Ygj ops i,p<i):∀ n j,j<n->j<ops.size->Lst listed j=true
 | 0,j,hj,_=>by omega
 | n+1,j,hj,hjs=>by
  cases hl:Lst listed j with
  | true=>rfl
  | false=>
   exfalso
   have:j∈Region.ready .any ops listed:=by
    refine mem_ready.2 ⟨?_,ops[j],Array.getElem?_eq_getElem hjs,fun e he hb => ?_⟩
    ·simp only [Lst,Array.getD_eq_getD_getElem?] at hl ⊢
     rw [Array.getElem?_eq_getElem (by omega)] at hl ⊢
     exact hl
    ·have hm:e.on∈Ygj ops j:=(Yk8 (Array.getElem?_eq_getElem hjs)).2 ⟨e,he,hb,rfl⟩
     have:=hp j _ hm
     exact Yu0 h hsz hp n e.on (by omega) (by omega)
   rw [h] at this; cases this
theorem Yki {listed:Array Bool} {i:Nat} (hi:i<listed.size) (j:Nat):Lst (listed.setIfInBounds i true) j=(Nat.beq j i||Lst listed j):=by
 simp only [Lst,Array.getD_eq_getD_getElem?,Array.getElem?_setIfInBounds]
 by_cases h:i=j
 ·subst h; simp [hi]
 ·have:Nat.beq j i=false:=by rw [<- Bool.not_eq_true]; exact fun e=>h (Nat.eq_of_beq_eq_true e).symm
  simp [h,this]
theorem Yn2 {p q:Nat->Bool} {i:Nat}:∀ {l:List Nat},i∈l->p i=true->q i=false->(∀ j,q j=true->p j=true)->l.countP q<l.countP p
 | x :: l,hm,hp,hq,hle=>by
  have hmono:l.countP q<=l.countP p:=List.countP_mono_left fun j _ h=>hle j h
  rcases List.mem_cons.1 hm with rfl | hm
  ·simp only [List.countP_cons,hp,hq]; simp; omega
  ·have:=Yn2 hm hp hq hle
   simp only [List.countP_cons]
   by_cases hx:q x=true
   ·simp [hx,hle x hx]; omega
   ·have:(if q x=true then 1 else 0)=0:=by simp [hx]
    rw [this]; split <;> omega
theorem DPlan.find (pl:DPlan P ops ms bls s0 ds) {i:Nat} (hi:i<ops.size):∃ d∈ds,d.i=i:=by
 have:i∈ds.map (·.i):=by rw [pl.idx]; exact List.mem_range.2 hi
 simpa using this
theorem DPlan.lt (pl:DPlan P ops ms bls s0 ds) {d:Eff} (hd:d∈ds):d.i<ops.size:=by
 have:d.i∈ds.map (·.i):=List.mem_map_of_mem hd
 rw [pl.idx] at this
 simpa using this
theorem DPlan.sorted (pl : DPlan P ops ms bls s0 ds) : ds.Pairwise fun x y => x.i < y.i /\ x ∈ ds /\ y ∈ ds := by
  have h : (ds.map (·.i)).Pairwise (· < ·) := by rw [pl.idx]; exact List.pairwise_lt_range
  have h2 : ds.Pairwise fun x y => x.i < y.i := List.pairwise_map.1 h
  exact (List.Pairwise.and_mem.1 h2).imp fun ⟨a, b, c⟩ => ⟨c, a, b⟩
theorem DPlan.mkget (pl:DPlan P ops ms bls s0 ds) {i:Nat} (hi:i<ops.size):ms.getD i 0=Ab.mk ops i:=by rw [pl.hms]; exact Yn6 ops _ _ hi
theorem Ysw {i j:Nat}:Yqm ms i j=true ↔ i≠j/\(ms.getD i 0).testBit j=false/\(ms.getD j 0).testBit i=false:=by
 simp only [Yqm,Bool.and_eq_true,Bool.not_eq_true',and_assoc]
 constructor
 ·rintro ⟨h1,h2⟩; exact ⟨Nat.ne_of_beq_eq_false h1,h2⟩
 ·rintro ⟨h1,h2⟩; exact ⟨by rw [<- Bool.not_eq_true]; exact fun e=>h1 (Nat.eq_of_beq_eq_true e),h2⟩
theorem Yp2 (pl:DPlan P ops ms bls s0 ds) {Q:Exit->Act->World->Prop} {listed:Array Bool} {ι:Interp} {a:Act} {w:World} {i:Nat} (hr:i∈Region.ready .any ops listed) (hsz:listed.size=ops.size)
  (hcl:∀ j,Lst listed j=true->∀ p∈Ygj ops j,Lst listed p=true) (h:Rel E (Yh4 (Lst listed) s0 ds) ι a w) {K:Act->World->Prop}
  (hK:∀ ι' a' w',Rel E (Yh4 (Lst (listed.setIfInBounds i true)) s0 ds) ι' a' w'->(∀ d∈ds,d.i=i->Yjt d.it)->K a' w'):wpOp P ops Q i K a w:=by
 obtain ⟨hni,hi,hpre⟩:=Yic hr hsz
 obtain ⟨d,hd,hdi⟩:=pl.find hi
 have huniq:∀ e∈ds,e.i=i->e=d:=by
  intro e he hei
  have hs:=pl.sorted
  by_cases hne:e=d
  ·exact hne
  ·exfalso
   have:∀ (l:List Eff),l.Pairwise (fun x y=>x.i<y.i/\x∈ds/\y∈ds)->e∈l->d∈l->e≠d->e.i≠d.i:=by
    intro l hl
    induction hl with
    | nil=>intro h; cases h
    | cons h1 _ ih=>
     intro h2 h3 h4
     rcases List.mem_cons.1 h2 with k2 | k2 <;> rcases List.mem_cons.1 h3 with k3 | k3
     ·exact absurd (k2.trans k3.symm) h4
     ·have:=(h1 _ k3).1; rw [k2]; omega
     ·have:=(h1 _ k2).1; rw [k3]; omega
     ·exact ih k2 k3 h4
   exact this ds hs he hd hne (by rw [hei,hdi])
 have hcl':∀ j,(Lst listed j=true)->∀ p∈Ygj ops j,Lst listed p=true:=hcl
 have hmi:∀ x,(mk ops i).testBit x=true->Lst listed x=true:=fun x hx=>Yqv (L:=fun j=>Lst listed j=true) hcl' (i+1) i x (by omega) hpre hx
 have hmj:∀ j x,Lst listed j=true->(mk ops j).testBit x=true->Lst listed x=true:=fun j x hj hx=>Yqv (L:=fun j=>Lst listed j=true) hcl' (j+1) j x (by omega) (hcl j hj) hx
 have hgi:=pl.mkget hi
 have hle:Le (mkS ops.size ms bls s0 ds i) (Yh4 (Lst listed) s0 ds):=by
  refine Y1mv (fun j hj=>hmi j (by rw [<- hgi]; exact hj)) (fun e he=>pl.lt he) (fun e he h1 h2 => ?_) pl.bl ?_
  ·refine Ysw.2 ⟨fun hh => ?_,h2,?_⟩
   ·rw [<- hh,hni] at h1; cases h1
   ·rw [pl.mkget (pl.lt he),<- Bool.not_eq_true]
    intro hb
    rw [hmj e.i i h1 hb] at hni; cases hni
  ·refine pl.sorted.imp fun {u e} ⟨hlt,hu,he⟩ h1 h2 h3=>pl.ap u hu e he (Ysw.2 ⟨by omega,?_,?_⟩)
   ·rw [pl.mkget (pl.lt hu),<- Bool.not_eq_true]
    intro hb
    have:=Y12p pl.pre (u.i+1) u.i e.i (by omega) hb
    omega
   ·rw [pl.mkget (pl.lt he),<- Bool.not_eq_true]
    intro hb
    rw [hgi] at h2 h3
    rw [Y176 pl.pre (i+1) i e.i u.i (by omega) h3 hb] at h2; cases h2
 have hset:Yh4 (Lst (listed.setIfInBounds i true)) s0 ds=(Yh4 (Lst listed) s0 ds).eff d:=by
  rw [Ykw (g:=fun j=>Nat.beq j i||Lst listed j) fun e _=>Yki (by omega) e.i]
  refine Yre hni hd hdi (by rw [pl.idx]; exact List.nodup_range) ?_
  refine pl.sorted.imp fun {x y} ⟨hlt,hx,hy⟩ h1 h2=>pl.ap x hx y hy (Ysw.2 ⟨by omega,?_,?_⟩)
  ·rw [pl.mkget (pl.lt hx),<- Bool.not_eq_true]
   intro hb
   have:=Y12p pl.pre (x.i+1) x.i y.i (by omega) hb
   omega
  ·rw [pl.mkget (pl.lt hy),<- Bool.not_eq_true]
   intro hb
   rw [h1] at hb
   rw [hmj y.i i h2 hb] at hni; cases hni
 rw [hset] at hK
 obtain ⟨o,ho,hdst,hgood⟩:=pl.good d hd
 rw [hdi] at ho hgood
 unfold wpOp
 simp only [ho]
 rcases hgood with ⟨hw,hv,hr0,hit⟩ | ⟨hw,hk,hv,⟨q,q',he⟩,hob⟩
 ·rw [Ypj h (hle.wanted hw)]
  simp only [Bool.false_eq_true,if_false]
  refine hK ι _ _ ?_ fun e he hei=>by rw [huniq e he hei,hit]; trivial
  have:(Yh4 (Lst listed) s0 ds).eff d=(Yh4 (Lst listed) s0 ds).put o.dst (.tup []):=by
   rw [St.eff,hr0,hv,hdst]; rfl
  rw [this]
  exact Rel.put h o.dst Y11n
 ·rw [Ypj h (hle.wanted hw)]
  simp only [if_true]
  left
  have hroom:Ykh (Yh4 (Lst listed) s0 ds) d.n (Yhy o):=by
   intro x h1 h2
   obtain ⟨h3,h4⟩:=pl.room d hd x h1 (by rw [hk]; exact h2)
   refine ⟨Ytp _ ds s0 h3 fun e hem hle p hp hpx => ?_,by rw [Yv6]; exact h4⟩
   have hne:d.i≠e.i:=by
    intro hh
    rw [<- hh,hdi,hni] at hle; cases hle
   have:=pl.far d hd e hem hne (by
    rw [pl.mkget (pl.lt hem),<- Bool.not_eq_true]
    intro hb
    rw [hdi] at hb
    rw [hmj e.i i hle hb] at hni; cases hni) p hp
   rw [hk] at this
   omega
  obtain ⟨h1,h2⟩:=Yv4 h (hle.aop he) (VC.of_obl hob) hroom
  refine h1 _ _ fun ι' v w' hr' hv'=>hK ι' _ _ ?_ fun e hem hei=>by rw [huniq e hem hei]; exact h2
  rw [St.eff,hdst,hv]
  exact Rel.put hr' o.dst hv'
theorem Y1gh (pl:DPlan P ops ms bls s0 ds) {Q:Exit->Act->World->Prop} (hQ:∀ ι a w,Rel E (Yh4 (fun _=>true) s0 ds) ι a w->(∀ d∈ds,Yjt d.it)->Q .normal a w) :
  ∀ (fuel:Nat) (listed:Array Bool) (ι:Interp) (a:Act) (w:World),listed.size=ops.size->(∀ j,Lst listed j=true->∀ p∈Ygj ops j,Lst listed p=true) ->
   (List.range ops.size).countP (fun j => !Lst listed j)<=fuel->Rel E (Yh4 (Lst listed) s0 ds) ι a w->(∀ d∈ds,Lst listed d.i=true->Yjt d.it)->wpAny P .any ops Q fuel listed a w:=by
 intro fuel
 have hend:∀ (listed:Array Bool) (ι:Interp) (a:Act) (w:World),listed.size=ops.size->Rel E (Yh4 (Lst listed) s0 ds) ι a w->(∀ d∈ds,Lst listed d.i=true->Yjt d.it) ->
   Region.ready .any ops listed=[]->Q .normal a w:=by
  intro listed ι a w hsz h hasm hnil
  have hall:∀ d∈ds,Lst listed d.i=true:=fun d hd=>Yu0 hnil hsz pl.pre (d.i+1) d.i (by omega) (pl.lt hd)
  refine hQ ι a w ?_ fun d hd=>hasm d hd (hall d hd)
  rw [Ykw (g:=fun _=>true) hall] at h
  exact h
 induction fuel with
 | zero=>
  intro listed ι a w hsz hcl hun h hasm
  have hnil:Region.ready .any ops listed=[]:=by
   cases hr:Region.ready .any ops listed with
   | nil=>rfl
   | cons i l=>
    exfalso
    obtain ⟨h1,h2,_⟩:=Yic (ops:=ops) (i:=i) (by rw [hr]; exact List.mem_cons_self) hsz
    have h0:(List.range ops.size).countP (fun j => !Lst listed j)=0:=Nat.le_zero.1 hun
    have:=List.countP_eq_zero.1 h0 i (List.mem_range.2 h2)
    simp [h1] at this
  exact ⟨hnil,hend listed ι a w hsz h hasm hnil⟩
 | succ fuel ih=>
  intro listed ι a w hsz hcl hun h hasm
  refine ⟨hend listed ι a w hsz h hasm,fun i hi => ?_⟩
  obtain ⟨hni,hlt,hpre⟩:=Yic hi hsz
  have hset:=fun j=>Yki (listed:=listed) (i:=i) (by omega) j
  refine Yp2 pl hi hsz hcl h fun ι' a' w' hr' hasm'=>ih _ ι' a' w' (by simpa using hsz) (fun j hj p hp => ?_) ?_ hr' fun d hd hdl => ?_
  ·rw [hset,Bool.or_eq_true] at hj ⊢
   right
   rcases hj with hj | hj
   ·have:=Nat.eq_of_beq_eq_true hj
    subst this
    exact hpre p hp
   ·exact hcl j hj p hp
  ·have:(List.range ops.size).countP (fun j => !Lst (listed.setIfInBounds i true) j)<(List.range ops.size).countP (fun j => !Lst listed j):=by
    refine Yn2 (i:=i) (List.mem_range.2 hlt) (by simp [hni]) (by rw [hset]; simp) fun j hj => ?_
    rw [hset] at hj
    simp only [Bool.not_eq_true',Bool.or_eq_false_iff] at hj ⊢
    exact hj.2
   omega
  ·rw [hset,Bool.or_eq_true] at hdl
   rcases hdl with hdl | hdl
   ·exact hasm' d hd (Nat.eq_of_beq_eq_true hdl)
   ·exact hasm d hd hdl
end
end Go.Proofs.YtclpofblehlojaaGreat.Ab
end
section
namespace Go.Proofs.YtclpofblehlojaaGreat.Ab
open Go
section
variable {P:Program} {E:Ent P} {ops:Array Oper} {ms:List Nat} {bls:List (Option Nat × List Nat)} {s0:St}
theorem Ywi (f:Nat->Bool):∀ (a b:List Eff) (s:St),Yh4 f s (a++b)=Yh4 f (Yh4 f s a) b
 | [],b,s=>rfl
 | d :: a,b,s=>by
  simp only [List.cons_append,Yh4]
  split <;> exact Ywi f a b _
theorem Yr0 {f:Nat->Bool}:∀ {b:List Eff} {s:St},(∀ d∈b,f d.i=false)->Yh4 f s b=s
 | [],_,_=>rfl
 | d :: b,s,h=>by
  simp only [Yh4,h d List.mem_cons_self]
  exact Yr0 fun e he=>h e (List.mem_cons_of_mem _ he)
def Y1be (P:Program) (ops:Array Oper) (ms:List Nat) (bls:List (Option Nat × List Nat)) (s0:St):List Eff->List Eff->Prop
 | _,[]=>True
 | pre,d :: r=>Y12t P ops ms bls s0 pre d/\Y1be P ops ms bls s0 (pre++[d]) r
theorem Ypi:∀ {it:List Item} {K:Prop},Yxo it K->Yxo it True/\K
 | [],_,h=>⟨trivial,h⟩
 | .asm _ :: r,_,h=>Ypi (it:=r) h
 | .obl _ :: r,_,h=>⟨⟨h.1,(Ypi (it:=r) h.2).1⟩,(Ypi (it:=r) h.2).2⟩
theorem Y1b5 {src:Bool} {v:AV} {q:List Orc} {k:AV->List Orc->Prop} (h:Y10y src v q k):∃ q',k v q':=by
 unfold Y10y at h
 split at h
 ·rename_i b
  split at h
  ·obtain ⟨rfl,h⟩:=h; exact ⟨_,h⟩
  ·cases b
   ·exact ⟨_,h.2 rfl⟩
   ·exact ⟨_,h.1 rfl⟩
  ·cases h
 ·exact ⟨_,h⟩
theorem Ypf:∀ {l:List Nat} {n:Nat} {pre:List Eff} {its:List Item} {q:List Orc} {k:List Eff->List Item->List Orc->Prop},Yxd P ops ms bls s0 l n pre its q k ->
  ∃ r q',Y1be P ops ms bls s0 pre r/\k (pre++r) (its++r.flatMap (·.it)) q'
 | [],n,pre,its,q,k,h=>⟨[],q,trivial,by simpa [Yxd] using h⟩
 | i :: l,n,pre,its,q,k,h=>by
  unfold Yxd at h
  split at h
  ·exact h.elim
  ·rename_i o ho
   rw [Y1kc] at h
   split at h
   ·cases h
   ·rename_i hw
    rw [Yjk,Yhv Y13x] at h
    obtain ⟨r,q',hc,hk⟩:=Ypf h
    refine ⟨(⟨i,o.dst,.tup [],n,Yhy o,{},[]⟩:Eff) :: r,q',⟨⟨o,ho,rfl,.inl ⟨hw,rfl,rfl,rfl⟩⟩,hc⟩,?_⟩
    rw [List.append_assoc] at hk
    simpa only [List.flatMap_cons,List.nil_append,List.singleton_append,List.append_assoc] using hk
   ·rename_i hw
    split at h
    ·cases h
    ·rename_i r1 it q1 he
     obtain ⟨hob,h⟩:=Ypi h
     rw [Y1kr] at h
     obtain ⟨q2,h⟩:=Y1b5 h
     rw [Yjk,Yhv Y13x,Yhv Y13x] at h
     obtain ⟨r,q',hc,hk⟩:=Ypf h
     refine ⟨(⟨i,o.dst,r1.val,n,Yhy o,r1,it⟩:Eff) :: r,q',⟨⟨o,ho,rfl,.inr ⟨hw,rfl,rfl,⟨q,q1,he⟩,hob⟩⟩,hc⟩,?_⟩
     rw [List.append_assoc] at hk
     simpa only [List.flatMap_cons,List.singleton_append,List.append_assoc] using hk
theorem Y1aa {n i:Nat} {pre r:List Eff} (h:∀ d∈r,(ms.getD i 0).testBit d.i=false):mkS n ms bls s0 (pre++r) i=mkS n ms bls s0 pre i:=by
 unfold mkS
 rw [Ywi,Yr0 h]
theorem Ysb (hms : ms = Ylo ops ops.size) (hp : ∀ i, ∀ p ∈ Ygj ops i, p < i) : ∀ {r pre : List Eff}, (pre ++ r).map (·.i) = List.range ops.size -> Y1be P ops ms bls s0 pre r -> ∀ d ∈ r, Y12t P ops ms bls s0 (pre ++ r) d
  | d :: r, pre, hr, hc, x, hx => by
    have hassoc : pre ++ d :: r = (pre ++ [d]) ++ r := by simp
    rcases List.mem_cons.1 hx with rfl | hx
    · have hpw : ((pre ++ x :: r).map (·.i)).Pairwise (· < ·) := by rw [hr]; exact List.pairwise_lt_range
      have hpw2 : (x :: r).Pairwise fun a b => a.i < b.i := (List.pairwise_append.1 (List.pairwise_map.1 hpw)).2.1
      have hxi : x.i < ops.size := by
        have : x.i ∈ (pre ++ x :: r).map (·.i) := List.mem_map_of_mem (by simp)
        rw [hr] at this; simpa using this
      have e : mkS ops.size ms bls s0 (pre ++ x :: r) x.i = mkS ops.size ms bls s0 pre x.i := by
        refine Y1aa fun d hd => ?_
        rw [hms, Yn6 ops _ _ hxi, <- Bool.not_eq_true]
        intro hb
        have hlt := Y12p hp (x.i + 1) x.i d.i (by omega) hb
        rcases List.mem_cons.1 hd with rfl | hd
        · omega
        · have := (List.pairwise_cons.1 hpw2).1 d hd; omega
      have hg := hc.1
      unfold Y12t at hg ⊢
      rw [e]; exact hg
    · rw [hassoc]
      exact Ysb hms hp (by rw [<- hassoc]; exact hr) hc.2 x hx
theorem Y14e:∀ {x y:Option Nat},Y1ip x y=true->x=y
 | none,none,_=>rfl
 | some x,some y,h=>by rw [Nat.eq_of_beq_eq_true h]
theorem Yr9:∀ {a b:List Item},Yjt a->Yjt b->Yjt (a++b)
 | [],b,_,h=>h
 | .asm _ :: a,b,h,k=>⟨h.1,Yr9 h.2 k⟩
 | .obl _ :: a,b,h,k=>Yr9 (a:=a) h k
theorem Yu2:∀ {ds:List Eff},(∀ d∈ds,Yjt d.it)->Yjt (ds.flatMap (·.it))
 | [],_=>trivial
 | d :: ds,h=>by
  rw [List.flatMap_cons]
  exact Yr9 (h d List.mem_cons_self) (Yu2 fun e he=>h e (List.mem_cons_of_mem _ he))
theorem Yon (n j:Nat):Lst (Array.replicate n false) j=false:=by
 simp only [Lst,Array.getD_eq_getD_getElem?,Array.getElem?_replicate]
 split <;> rfl
inductive StuckDraw (s:St) (ds:List Eff):Prop
def fBl (p:Option Nat × List Nat) (k:Option Nat × List Nat->Prop):Prop:=match p with
 | (d,l)=>Yis Yjv l fun l=>k (d,l)
theorem Y1ft (p:Option Nat × List Nat) (k:Option Nat × List Nat->Prop):fBl p k=k p:=by
 cases p; simp [fBl,Yhv Yjk]
def Y1bm (P:Program) (ops:Array Oper) (tids:List (Nat × List Nat)) (s:St) (q:List Orc) (k:St->List Orc->Prop):Prop:=
 Yis Yjv (Ylo ops ops.size) fun ms=>Yis fBl (Yvu ops tids (List.range ops.size) s.objs.length) fun bls=>fSt (s.grow (Ytd ops (List.range ops.size))) fun s0=>Yjv s.objs.length fun n0=>
 Yxd P ops ms bls s0 (List.range ops.size) n0 [] [] q fun ds its q=>
  match Yy6 ops ms bls n0 (n0+Ytd ops (List.range ops.size)) ds with
  | true=>Y168 its (Yr4 (fun _=>true) s0 ds fun s=>fSt s.shrink fun s=>k s q)
  | false=>StuckDraw s ds
theorem Y17f (hm:P.follows .mixedOrders=true) {id:Nat} {tids:List (Nat × List Nat)} {s:St} {q:List Orc} {k:St->List Orc->Prop} {Q:Exit->Act->World->Prop} {ι:Interp} {a:Act} {w:World}
  (hx:Y1bm P ops tids s q k) (h:Rel E s ι a w) (hk:∀ s' q' ι' a' w',k s' q'->Rel E s' ι' a' w'->Q .normal a' w'):(Code.region id ops true).wp P Q a w:=by
 unfold Y1bm at hx
 rw [Yhv Yjk,Yhv Y1ft,Yps,Yjk] at hx
 obtain ⟨ds,q',hc,hfin⟩:=Ypf hx
 simp only [List.nil_append] at hc hfin
 split at hfin
 ·rename_i hd
  rw [Yq8,Yps] at hfin
  simp only [Yy6,Bool.and_eq_true,List.all_eq_true,beq_iff_eq] at hd
  obtain ⟨⟨hidx,hpre⟩,hall⟩:=hd
  have hp:∀ i,∀ p∈Ygj ops i,p<i:=by
   intro i p hpi
   by_cases hi:i<ops.size
   ·have h1:=hpre i (List.mem_range.2 hi) p hpi
    exact Nat.le_of_ble_eq_true h1
   ·have hn:ops[i]? = none:=Array.getElem?_eq_none (Nat.le_of_not_lt hi)
    simp [Ygj,hn] at hpi
  have hgood:=Ysb (pre:=[]) rfl hp (by simpa using hidx) hc
  have pl:DPlan P ops (Ylo ops ops.size) (Yvu ops tids (List.range ops.size) s.objs.length) (s.grow (Ytd ops (List.range ops.size))) ds:=by
   refine ⟨rfl,by simpa using hgood,hidx,hp,fun d hdm => ?_,fun d hdm x h1 h2 => ?_,fun d hdm e hem hne hnb p hpm => ?_,fun d hdm e hem hu => ?_⟩
   ·obtain ⟨⟨⟨⟨⟨h1,h2⟩,h3⟩,_⟩,_⟩,_⟩:=hall d hdm
    exact ⟨Y14e h1,h2,h3⟩
   ·obtain ⟨⟨⟨_,h4⟩,h5⟩,_⟩:=hall d hdm
    have h4:=Nat.le_of_ble_eq_true h4
    have h5:=Nat.le_of_ble_eq_true h5
    refine ⟨?_,by simp [St.grow]; omega⟩
    rw [Ykc]
    simp [St.obj,List.getElem?_eq_none (show s.objs.length<=x by omega)]
   ·have h6:=((hall d hdm).2 e hem).1
    simp only [Bool.or_eq_true,List.all_eq_true] at h6
    rcases h6 with h6 | h6
    ·rcases h6 with h6 | h6
     ·exact absurd (Nat.eq_of_beq_eq_true h6) hne
     ·rw [hnb] at h6; cases h6
    ·rcases h6 p hpm with h7 | h7
     ·exact .inl (Nat.le_of_ble_eq_true h7)
     ·exact .inr (Nat.le_of_ble_eq_true h7)
   ·have h6:=((hall d hdm).2 e hem).2
    rw [hu] at h6
    simpa using h6
  refine wp_region_any hm (Y1gh pl (E:=E) (fun ι a w hr hasm=>hk _ _ ι a w (Yta hfin (Yu2 hasm)) (Rel.shrink hr)) ops.size _ ι a _ (by simp) (fun j hj => ?_) ?_ ?_ fun d hd hl => ?_)
  ·rw [Yon] at hj; cases hj
  ·exact Nat.le_trans List.countP_le_length (by simp)
  ·have hnone:∀ d∈ds,Lst (Array.replicate ops.size false) d.i=false:=fun d _=>Yon _ _
   rw [Yr0 hnone]
   exact (h.grow _).world rfl rfl rfl
  ·exfalso
   rw [Yon] at hl; cases hl
 ·cases hfin
end
end Go.Proofs.YtclpofblehlojaaGreat.Ab
end
section
namespace Go.Proofs.YtclpofblehlojaaGreat.Ab
open Go
section
variable {P:Program} {E:Ent P} {s:St} {ι:Interp} {a:Act} {w:World}
theorem Yw6 (w:World) {b c:Nat} (r q:Array Value) (h:b≠c):(w.setRow b r).setRow c q=(w.setRow c q).setRow b r:=by
 unfold World.setRow
 simp only [World.mk.injEq,and_true]
 apply Array.ext_getElem?
 intro i
 simp only [Array.getElem?_modify]
 by_cases h1:b=i
 ·subst h1; simp [Ne.symm h]
 ·by_cases h2:c=i
  ·subst h2; simp [h1]
  ·simp [h1,h2]
def Yru (P:Program) (s:St) (T:TypeId) (ad x:Operand):Option (Nat × Nat × List (List Cell)):=
 match s.ac ad,s.ev x,Yix P T with
 | some (.eptr j i off),some (.sv v),some n=>match s.obj j,Ylf v with
  | .arr own sz es,some l=>(match Nat.beq l.length n&&Nat.ble (off+n) sz with
   | true=>some (j,i,es)
   | false=>none)
  | _,_=>none
 | _,_,_=>none
theorem Yxy (h:Rel E s ι a w) {T:TypeId} {ad x:Operand} {j i:Nat} {es:List (List Cell)} (e:Yru P s T ad x=some (j,i,es)) (hi:i<es.length) :
  ∃ b row,ι.fp j b/\∀ w':World,w'.heap[b]? = w.heap[b]? -> (Instr.storeAt T (a.eval ad) (a.eval x)).run P w'=.ok () (w'.setRow b row):=by
 unfold Yru at e
 split at e
 ·rename_i j' i' off v n hc hv hT
  split at e
  ·rename_i own sz es' l hob hl
   split at e
   ·rename_i hb
    simp only [Option.some.injEq,Prod.mk.injEq] at e
    obtain ⟨rfl,rfl,rfl⟩:=e
    simp only [Bool.and_eq_true] at hb
    have h1:=Nat.eq_of_beq_eq_true hb.1
    have h2:=Nat.le_of_ble_eq_true hb.2
    obtain ⟨b,hbk,hp⟩:=(Yhe h hc).2 _ _ _ hob
    have hor:=h.objs j'
    rw [hob] at hor
    obtain ⟨ty,xs,Fs,k1,k2,k3,_⟩:=hor
    have hcs:=Ylc hl (Yjo h hv)
    have hlen:(a.eval x).cells.toList.length=n:=by rw [<- hcs.length]; exact h1
    have hone:∀ u∈(a.eval x).cells.toList,u.oneCell'=true:=by
     intro u hu
     obtain ⟨k,hk⟩:=List.getElem?_of_mem hu
     obtain ⟨c,_,hc⟩:=hcs.flip.get_left hk
     exact hc.2
    rcases k1.2 with ⟨_,hz⟩ | ⟨g,cap,cur,fz,hg,hnz,hheap,hle,_,hsz,_⟩
    ·omega
    ·rw [hg] at hbk
     simp only [Value.ownBlock,Option.some.injEq] at hbk
     subst hbk
     refine ⟨g,(splice (i' * sz+off) (a.eval x).cells.toList cur.toList).toArray,k3 g (by rw [hg]; rfl),fun w' hw' => ?_⟩
     rw [hp]
     refine Ynq hT (hw'.trans hheap) hnz hlen ?_ hone
     have:(i'+1) * sz<=cap * sz:=Nat.mul_le_mul_right sz (by omega)
     rw [Nat.add_mul] at this
     omega
   ·cases e
  ·cases e
 ·cases e
theorem Yo4 {o:Oper} {T:TypeId} {ad x:Operand} (ho:o.op=.store T ad x) (hd:o.dst=none) {w':World} (hr:(Instr.storeAt T (a.eval ad) (a.eval x)).run P w=.ok () w') {K:Act->World->Prop} {Q:Exit->Act->World->Prop} :
  o.wp P a w K Q ↔ K a w':=by
 have he:(execOp a.eval o).run P w=.ok .skip w':=by
  simp only [execOp,ho]
  rw [Sem.run_bind,hr]; rfl
 unfold Oper.wp
 rw [he]
 show K (a.put o.dst undef) w' ↔ _
 rw [hd]; rfl
theorem Y15o {α:Type} (x y:Int) (sg:Bool) (c:BoundsCode) {w w1:World} {v:α}:(runtimePanic (.bounds x y sg c):Sem α).run P w≠.ok v w1:=by
 intro h
 unfold runtimePanic at h
 rw [Sem.run_bind] at h
 cases h
theorem Y193 {α β:Type} {m:Sem β} {f:β->Sem α} (hf:∀ b w w1 v,(f b).run P w≠.ok v w1) {w w1:World} {v:α}:(m >>= f).run P w≠.ok v w1:=by
 intro h
 rw [Sem.run_bind] at h
 cases hr:m.run P w with
 | ok b w2=>rw [hr] at h; exact hf b w2 w1 v h
 | halt e w2=>rw [hr] at h; cases h
theorem Y11h {α:Type} (kd:IntKind) (x y:Int) (c:BoundsCode) {w w1:World} {v:α}:(boundsPanic kd x y c:Sem α).run P w≠.ok v w1:=by
 unfold boundsPanic
 dsimp only
 split
 ·exact Y193 fun b w w1 v=>Y15o _ _ _ _
 ·exact Y193 fun b w w1 v=>Y15o _ _ _ _
theorem Y1ad {T elem:TypeId} {x i:Value} {v:Value} {w w1:World} {sz:Nat} (hT:P.underlying T=some (.slice elem)) (hz:Yix P elem=some sz) (h:(Instr.indexAt T x i).run P w=.ok v w1):w1=w/\∀ w',(Instr.indexAt T x i).run P w'=.ok v w':=by
 unfold Instr.indexAt at h ⊢
 cases i with
 | int kd n=>
  simp only [asIntOf,Sem.run_bind,Sem.run_pure,Result.andThen_ok,run_underlying hT] at h ⊢
  cases x with
  | slice base len cap=>
   simp only [Sem.run_bind,Sem.run_pure,Result.andThen_ok,run_underlying hT] at h ⊢
   cases base with
   | none=>exact absurd h (Y11h _ _ _ _)
   | some b=>
    simp only [Bool.and_false,Bool.false_eq_true,if_false] at h ⊢
    split at h
    ·rename_i hc
     rw [if_pos hc]
     simp only [Sem.run_bind,Yld hz,Result.andThen_ok,Sem.run_pure,Result.ok.injEq] at h ⊢
     obtain ⟨rfl,rfl⟩:=h
     exact ⟨rfl,fun _=>⟨rfl,trivial⟩⟩
    ·exact absurd h (Y11h _ _ _ _)
  | _=>simp [stuck] at h
 | pointer a=>cases a <;> simp [asIntOf,stuck,unsupported] at h
 | _=>simp [asIntOf,stuck] at h
def Ygu (ops:Array Oper) (p q:Nat):Array Oper:=match ops[q]? with
 | some o=>ops.setIfInBounds q { o with after:=o.after.push ⟨p,.data⟩ }
 | none=>ops
variable {ops:Array Oper} {p q c:Nat}
theorem Yqe:(Ygu ops p q).size=ops.size:=by unfold Ygu; split <;> simp
theorem Ymk {i:Nat} (h:i≠q):(Ygu ops p q)[i]? = ops[i]? := by
 unfold Ygu; split
 ·rw [Array.getElem?_setIfInBounds,if_neg (Ne.symm h)]
 ·rfl
theorem Yqy {o:Oper} (ho:ops[q]? = some o):(Ygu ops p q)[q]? = some { o with after:=o.after.push ⟨p,.data⟩ }:=by
 have hl:q<ops.size:=(Array.getElem?_eq_some_iff.1 ho).1
 unfold Ygu; rw [ho]
 simp [hl]
theorem Ymr {i x:Nat} (h:x∈Ygj ops i):x∈Ygj (Ygu ops p q) i:=by
 by_cases hi:i=q
 ·subst hi
  cases ho:ops[i]? with
  | none=>simp [Ygj,ho] at h
  | some o=>
   obtain ⟨e,h1,h2,h3⟩:=(Yk8 ho).1 h
   exact (Yk8 (Yqy ho)).2 ⟨e,Array.mem_push.2 (.inl h1),h2,h3⟩
 ·unfold Ygj at h ⊢; rw [Ymk hi]; exact h
theorem Ypa {listed:Array Bool} {i:Nat} (h:i∈Region.ready .any ops listed) (hq:i≠q ∨ Lst listed p=true):i∈Region.ready .any (Ygu ops p q) listed:=by
 obtain ⟨h0,o,ho,hall⟩:=mem_ready.1 h
 refine mem_ready.2 ⟨h0,?_⟩
 by_cases hi:i=q
 ·subst hi
  refine ⟨_,Yqy ho,fun e he hb => ?_⟩
  rcases Array.mem_push.1 he with he | rfl
  ·exact hall e he hb
  ·exact hq.resolve_left (fun h=>h rfl)
 ·exact ⟨o,by rw [Ymk hi]; exact ho,hall⟩
theorem Yz4 (tmps:Array Value):yielded (Ygu ops p q) tmps=yielded ops tmps:=by
 funext j
 unfold yielded
 by_cases hj:j=q
 ·subst hj
  cases ho:ops[j]? with
  | none=>
   have:(Ygu ops p j)[j]? = none:=by unfold Ygu; rw [ho]; exact ho
   rw [this]
  | some o=>rw [Yqy ho]; rfl
 ·rw [Ymk hj]
theorem Yna {Q:Exit->Act->World->Prop} {i:Nat} {K:Act->World->Prop} {a:Act} {w:World}:wpOp P (Ygu ops p q) Q i K a w ↔ wpOp P ops Q i K a w:=by
 unfold wpOp
 rw [Yz4]
 by_cases hi:i=q
 ·subst hi
  cases ho:ops[i]? with
  | none=>
   have:(Ygu ops p i)[i]? = none:=by unfold Ygu; rw [ho]; exact ho
   rw [this]
  | some o=>rw [Yqy ho]; exact Iff.rfl
 ·rw [Ymk hi]
theorem Y125 {Q:Exit->Act->World->Prop} {listed:Array Bool} {a:Act} {w:World} (h:Region.ready .any ops listed=[]) (hQ:Q .normal a w):∀ f,wpAny P .any ops Q f listed a w
 | 0=>⟨h,hQ⟩
 | f+1=>⟨fun _=>hQ,fun i hi=>by rw [h] at hi; cases hi⟩
theorem Yui {Q:Exit->Act->World->Prop} {listed:Array Bool} {a:Act} {w:World} {i:Nat} {f:Nat} (h:i∈Region.ready .any ops listed) (ho:∀ j∈Region.ready .any ops listed,j=i) (hK:wpOp P ops Q i (wpAny P .any ops Q f (listed.setIfInBounds i true)) a w):wpAny P .any ops Q (f+1) listed a w:=by
 refine And.intro (fun hn => ?_) (fun j hj => ?_)
 ·rw [hn] at h; cases h
 ·have e:=ho j hj
  subst e; exact hK
structure Swap (P:Program) (ops:Array Oper) (p q c:Nat):Prop where
 st:∃ op oq oc Tp Tq Tc adp xp adq xq xc ic d elem sz,ops[p]? = some op/\ops[q]? = some oq/\ops[c]? = some oc/\op.op=.store Tp adp xp/\oq.op=.store Tq adq xq/\oc.op=.indexAddr Tc xc ic /\
  op.dst=none/\oq.dst=none/\oc.dst=some d/\op.guard=none/\oq.guard=none/\oc.guard=none/\adq≠.tmp d/\xq≠.tmp d/\P.underlying Tc=some (.slice elem)/\Yix P elem=some sz
 ne:p≠q/\c≠q/\c≠p
 rest:∀ j,j<ops.size->j≠p->j≠q->j≠c->(mk ops q).testBit j=true
 prc:∀ x∈Ygj ops c,x≠p/\x≠q/\x≠c
 prp:(∀ x∈Ygj ops p,x≠q/\x≠p)/\c∈Ygj ops p
 prq:∀ x∈Ygj ops q,x≠p/\x≠c
variable {ms:List Nat} {bls:List (Option Nat × List Nat)} {s0:St} {ds:List Eff}
abbrev FQ:Exit->Act->World->Prop:=fun _ _ _=>False
theorem Y16l {i:Nat} {o:Oper} {K:Act->World->Prop} (ho:ops[i]? = some o) (hg:o.guard=none) (h:wpOp P ops FQ i K a w):o.wp P a w K FQ:=by
 unfold wpOp at h
 simp only [ho,Region.wanted,hg,if_true] at h
 rcases h with h | ⟨_,_,_,h⟩
 ·exact h
 ·exact h.elim
theorem Yvt {i:Nat} {o:Oper} {K:Act->World->Prop} {Q:Exit->Act->World->Prop} (ho:ops[i]? = some o) (hg:o.guard=none) (h:o.wp P a w K Q):wpOp P ops Q i K a w:=by
 unfold wpOp
 simp only [ho,Region.wanted,hg,if_true]
 exact .inl h
def Yza (p q:Nat) (s0:St) (ds:List Eff):St:=Yh4 (fun j => !(Nat.beq j p) && !(Nat.beq j q)) s0 ds
def Y1bb (P:Program) (ops:Array Oper) (p q:Nat) (s:St):Prop:=∀ op oq Tp Tq adp xp adq xq,ops[p]? = some op->ops[q]? = some oq->op.op=.store Tp adp xp->oq.op=.store Tq adq xq ->
 ∃ j1 i1 es1 j2 i2 es2,Yru P s Tp adp xp=some (j1,i1,es1)/\Yru P s Tq adq xq=some (j2,i2,es2)/\j1≠j2/\i1<es1.length/\i2<es2.length
theorem Y123 (hs:Swap P ops p q c) (pl:DPlan P (Ygu ops p q) ms bls s0 ds) (hside:Y1bb P ops p q (Yza p q s0 ds)) {Q:Exit->Act->World->Prop}
  (hQ:∀ ι a w,Rel E (Yh4 (fun _=>true) s0 ds) ι a w->(∀ d∈ds,Yjt d.it)->Q .normal a w) {listed:Array Bool} {ι:Interp} {a:Act} {w:World} (hsz:listed.size=ops.size)
  (hcl:∀ j,Lst listed j=true->∀ x∈Ygj (Ygu ops p q) j,Lst listed x=true) (hl:∀ j,j<ops.size->(Lst listed j=true ↔ j≠p/\j≠q)) (h:Rel E (Yh4 (Lst listed) s0 ds) ι a w)
  (hasm:∀ d∈ds,Lst listed d.i=true->Yjt d.it) {op oq:Oper} {Tp Tq:TypeId} {adp xp adq xq:Operand} (hop:ops[p]? = some op) (hoq:ops[q]? = some oq) (hp:op.op=.store Tp adp xp) (hq:oq.op=.store Tq adq xq)
  (hdp:op.dst=none) (hdq:oq.dst=none) (hgp:op.guard=none) (hgq:oq.guard=none) :
  ∃ b1 r1 b2 r2,b1≠b2/\(∀ w':World,w'.heap[b1]? = w.heap[b1]? -> (Instr.storeAt Tp (a.eval adp) (a.eval xp)).run P w'=.ok () (w'.setRow b1 r1)) /\
   (∀ w':World,w'.heap[b2]? = w.heap[b2]? -> (Instr.storeAt Tq (a.eval adq) (a.eval xq)).run P w'=.ok () (w'.setRow b2 r2))/\Q .normal a ((w.setRow b1 r1).setRow b2 r2):=by
 have hpl:p<ops.size:=(Array.getElem?_eq_some_iff.1 hop).1
 have hql:q<ops.size:=(Array.getElem?_eq_some_iff.1 hoq).1
 have hpq:=hs.ne.1
 have hszT:(Ygu ops p q).size=ops.size:=Yqe
 obtain ⟨j1,i1,es1,j2,i2,es2,e1,e2,hj,h1,h2⟩:=hside op oq Tp Tq adp xp adq xq hop hoq hp hq
 have hst:Yh4 (Lst listed) s0 ds=Yza p q s0 ds:=by
  refine Ykw fun d hd => ?_
  have hdl:d.i<ops.size:=by rw [<- hszT]; exact pl.lt hd
  have:=hl d.i hdl
  cases hx:Lst listed d.i with
  | true=>
   have h3:=this.1 hx
   have b1:Nat.beq d.i p=false:=by rw [<- Bool.not_eq_true]; exact fun e=>h3.1 (Nat.eq_of_beq_eq_true e)
   have b2:Nat.beq d.i q=false:=by rw [<- Bool.not_eq_true]; exact fun e=>h3.2 (Nat.eq_of_beq_eq_true e)
   simp [b1,b2]
  | false=>
   by_cases k1:d.i=p
   ·rw [k1]; simp [Nat.beq_refl]
   ·by_cases k2:d.i=q
    ·rw [k2]; simp [Nat.beq_refl]
    ·exact absurd (this.2 ⟨k1,k2⟩) (by rw [hx]; decide)
 have h':=h
 rw [hst] at h'
 obtain ⟨b1,r1,f1,g1⟩:=Yxy h' e1 h1
 obtain ⟨b2,r2,f2,g2⟩:=Yxy h' e2 h2
 have hb:b1≠b2:=fun e=>h'.disj j1 j2 b1 hj f1 (by rw [e]; exact f2)
 have hnp:Lst listed p=false:=by rw [<- Bool.not_eq_true]; exact fun e=>((hl p hpl).1 e).1 rfl
 have hnq:Lst listed q=false:=by rw [<- Bool.not_eq_true]; exact fun e=>((hl q hql).1 e).2 rfl
 have hunl:∀ {L:Array Bool} {j:Nat},L.size=ops.size->j<ops.size->Lst L j=false->L.getD j true=false:=by
  intro L j hL hj hf
  simp only [Lst,Array.getD_eq_getD_getElem?] at hf ⊢
  rw [Array.getElem?_eq_getElem (by omega)] at hf ⊢
  exact hf
 have hrp:p∈Region.ready .any (Ygu ops p q) listed:=by
  refine mem_ready.2 ⟨hunl hsz hpl hnp,op,by rw [Ymk hpq]; exact hop,fun e he hb => ?_⟩
  have hm:e.on∈Ygj ops p:=(Yk8 hop).2 ⟨e,he,hb,rfl⟩
  have hx:=hs.prp.1 _ hm
  have hm':=pl.pre p e.on (Ymr hm)
  exact (hl e.on (by omega)).2 ⟨hx.2,hx.1⟩
 have s1:=Yp2 pl (Q:=FQ) hrp (by rw [hszT]; exact hsz) hcl h (K:=fun a1 w1=>∃ ι1,Rel E (Yh4 (Lst (listed.setIfInBounds p true)) s0 ds) ι1 a1 w1/\∀ d∈ds,d.i=p->Yjt d.it) (fun ι1 a1 w1 k1 k2=>⟨ι1,k1,k2⟩)
 obtain ⟨ι1,k1,k2⟩:=(Yo4 hp hdp (g1 w rfl)).1 (Y16l hop hgp (Yna.1 s1))
 have hset:=fun j=>Yki (listed:=listed) (i:=p) (by omega) j
 have hsz1:(listed.setIfInBounds p true).size=ops.size:=by simpa using hsz
 have hcl1:∀ j,Lst (listed.setIfInBounds p true) j=true->∀ x∈Ygj (Ygu ops p q) j,Lst (listed.setIfInBounds p true) x=true:=by
  intro j hj x hx
  rw [hset,Bool.or_eq_true] at hj ⊢
  right
  rcases hj with hj | hj
  ·have:=Nat.eq_of_beq_eq_true hj
   subst this
   exact (Yic hrp (by rw [hszT]; exact hsz)).2.2 x hx
  ·exact hcl j hj x hx
 have hrq:q∈Region.ready .any (Ygu ops p q) (listed.setIfInBounds p true):=by
  refine Ypa (mem_ready.2 ⟨hunl hsz1 hql (by rw [hset,hnq,Bool.or_false,<- Bool.not_eq_true]; exact fun e=>hpq (Nat.eq_of_beq_eq_true e).symm),oq,hoq,fun e he hb => ?_⟩) (.inr (by rw [hset]; simp [Nat.beq_refl]))
  have hm:e.on∈Ygj ops q:=(Yk8 hoq).2 ⟨e,he,hb,rfl⟩
  have hm':=pl.pre q e.on (Ymr hm)
  have:Lst (listed.setIfInBounds p true) e.on=true:=by
   rw [hset,Bool.or_eq_true]
   exact .inr ((hl e.on (by omega)).2 ⟨(hs.prq _ hm).1,by omega⟩)
  exact this
 have s2:=Yp2 pl (Q:=FQ) hrq (by rw [hszT]; exact hsz1) hcl1 k1 (K:=fun a2 w2=>∃ ι2,Rel E (Yh4 (Lst ((listed.setIfInBounds p true).setIfInBounds q true)) s0 ds) ι2 a2 w2/\∀ d∈ds,d.i=q->Yjt d.it) (fun ι2 a2 w2 k1 k2=>⟨ι2,k1,k2⟩)
 have hw1:(w.setRow b1 r1).heap[b2]? = w.heap[b2]? := setRow_other w b1 b2 r1 (Ne.symm hb)
 obtain ⟨ι2,m1,m2⟩:=(Yo4 hq hdq (g2 _ hw1)).1 (Y16l hoq hgq (Yna.1 s2))
 refine ⟨b1,r1,b2,r2,hb,g1,g2,hQ ι2 a _ ?_ fun d hd => ?_⟩
 ·rw [Ykw (g:=fun _=>true) fun d hd => ?_] at m1
  ·exact m1
  ·have hdl:d.i<ops.size:=by rw [<- hszT]; exact pl.lt hd
   rw [Yki (by omega),Yki (by omega)]
   by_cases c1:d.i=q
   ·rw [c1]; simp [Nat.beq_refl]
   ·by_cases c2:d.i=p
    ·rw [c2]; simp [Nat.beq_refl]
    ·simp [(hl d.i hdl).2 ⟨c2,c1⟩]
 ·have hdl:d.i<ops.size:=by rw [<- hszT]; exact pl.lt hd
  by_cases c1:d.i=q
  ·exact m2 d hd c1
  ·by_cases c2:d.i=p
   ·exact k2 d hd c2
   ·exact hasm d hd ((hl d.i hdl).2 ⟨c2,c1⟩)
theorem Ypv {i j:Nat} (h:i≠j):Nat.beq i j=false:=by rw [<- Bool.not_eq_true]; exact fun e=>h (Nat.eq_of_beq_eq_true e)
theorem Ysc {listed:Array Bool} {i:Nat} {o:Oper} (hsz:listed.size=ops.size) (ho:ops[i]? = some o) (hn:Lst listed i=false) (hp:∀ x∈Ygj ops i,Lst listed x=true):i∈Region.ready .any ops listed:=by
 have hi:i<ops.size:=(Array.getElem?_eq_some_iff.1 ho).1
 refine mem_ready.2 ⟨?_,o,ho,fun e he hb=>hp e.on ((Yk8 ho).2 ⟨e,he,hb,rfl⟩)⟩
 simp only [Lst,Array.getD_eq_getD_getElem?] at hn ⊢
 rw [Array.getElem?_eq_getElem (by omega)] at hn ⊢
 exact hn
theorem Yyu {f:Nat->Bool} {n i j:Nat} (hi:i<n) (hj:j<n) (hij:i≠j) (h1:f i=true) (h2:f j=true):2<=(List.range n).countP f:=by
 have h3:=Yn2 (p:=f) (q:=fun x=>f x && !(Nat.beq x i)) (i:=i) (l:=List.range n) (List.mem_range.2 hi) h1 (by simp [Nat.beq_refl]) (fun x hx=>by simp at hx; exact hx.1)
 have h4:=Yn2 (p:=fun x=>f x && !(Nat.beq x i)) (q:=fun x=>f x && !(Nat.beq x i) && !(Nat.beq x j)) (i:=j) (l:=List.range n) (List.mem_range.2 hj) (by simp [h2,Ypv (Ne.symm hij)]) (by simp [Nat.beq_refl]) (fun x hx=>by simp at hx; simp [hx.1])
 omega
theorem Y1h4 (hs:Swap P ops p q c) (pl:DPlan P (Ygu ops p q) ms bls s0 ds) (hside:Y1bb P ops p q (Yza p q s0 ds)) {Q:Exit->Act->World->Prop}
  (hQ:∀ ι a w,Rel E (Yh4 (fun _=>true) s0 ds) ι a w->(∀ d∈ds,Yjt d.it)->Q .normal a w) :
  ∀ (fuel:Nat) (listed:Array Bool) (ι:Interp) (a:Act) (w:World),listed.size=ops.size->(∀ j,Lst listed j=true->∀ x∈Ygj (Ygu ops p q) j,Lst listed x=true) ->
   (List.range ops.size).countP (fun j => !Lst listed j)<=fuel->Rel E (Yh4 (Lst listed) s0 ds) ι a w->(∀ d∈ds,Lst listed d.i=true->Yjt d.it)->wpAny P .any ops Q fuel listed a w:=by
 intro fuel
 have hszT:(Ygu ops p q).size=ops.size:=Yqe
 have hpre:∀ i,∀ x∈Ygj ops i,x<i:=fun i x hx=>pl.pre i x (Ymr hx)
 have hend:∀ (listed:Array Bool) (ι:Interp) (a:Act) (w:World),listed.size=ops.size->Rel E (Yh4 (Lst listed) s0 ds) ι a w->(∀ d∈ds,Lst listed d.i=true->Yjt d.it) ->
   Region.ready .any ops listed=[]->Q .normal a w:=by
  intro listed ι a w hsz h hasm hnil
  have hall:∀ d∈ds,Lst listed d.i=true:=fun d hd=>Yu0 hnil hsz hpre (d.i+1) d.i (by omega) (by rw [<- hszT]; exact pl.lt hd)
  refine hQ ι a w ?_ fun d hd=>hasm d hd (hall d hd)
  rw [Ykw (g:=fun _=>true) hall] at h
  exact h
 induction fuel with
 | zero=>
  intro listed ι a w hsz hcl hun h hasm
  have hnil:Region.ready .any ops listed=[]:=by
   cases hr:Region.ready .any ops listed with
   | nil=>rfl
   | cons i l=>
    exfalso
    obtain ⟨h1,h2,_⟩:=Yic (ops:=ops) (i:=i) (by rw [hr]; exact List.mem_cons_self) hsz
    have h0:(List.range ops.size).countP (fun j => !Lst listed j)=0:=Nat.le_zero.1 hun
    have:=List.countP_eq_zero.1 h0 i (List.mem_range.2 h2)
    simp [h1] at this
  exact ⟨hnil,hend listed ι a w hsz h hasm hnil⟩
 | succ fuel ih=>
  intro listed ι a w hsz hcl hun h hasm
  refine ⟨hend listed ι a w hsz h hasm,fun i hi => ?_⟩
  obtain ⟨hni,hlt,hprd⟩:=Yic hi hsz
  by_cases hbad:i=q/\Lst listed p=false
  ·
   obtain ⟨rfl,hnp⟩:=hbad
   obtain ⟨op,oq,oc,Tp,Tq,Tc,adp,xp,adq,xq,xc,ic,d,elem,sz,hop,hoq,hoc,hp,hq,hc,hdp,hdq,hdc,hgp,hgq,hgc,hn1,hn2,hT,hz⟩:=hs.st
   obtain ⟨hpq,hcq,hcp⟩:=hs.ne
   have hpl:p<ops.size:=(Array.getElem?_eq_some_iff.1 hop).1
   have hcL:c<ops.size:=(Array.getElem?_eq_some_iff.1 hoc).1
   have hclO:∀ j,Lst listed j=true->∀ x∈Ygj ops j,Lst listed x=true:=fun j hj x hx=>hcl j hj x (Ymr hx)
   have hrest:∀ j,j<ops.size->j≠p->j≠i->j≠c->Lst listed j=true:=fun j hj h1 h2 h3=>
    Yqv (L:=fun j=>Lst listed j=true) hclO (i+1) i j (by omega) hprd (hs.rest j hj h1 h2 h3)
   have hset:=fun j=>Yki (listed:=listed) (i:=i) (by omega) j
   have hsz2:(listed.setIfInBounds i true).size=ops.size:=by simpa using hsz
   have hfuel:2<=fuel+1:=Nat.le_trans (Yyu hpl hlt hpq (by simp [hnp]) (by simp [hni])) hun
   refine Yvt hoq hgq ?_
   cases hlc:Lst listed c with
   | true=>
    have hl:∀ j,j<ops.size->(Lst listed j=true ↔ j≠p/\j≠i):=fun j hj=>by
     constructor
     ·intro e; exact ⟨fun e2=>(by rw [e2,hnp] at e; cases e),fun e2=>(by rw [e2,hni] at e; cases e)⟩
     ·rintro ⟨h1,h2⟩
      by_cases h3:j=c
      ·rw [h3]; exact hlc
      ·exact hrest j hj h1 h2 h3
    obtain ⟨b1,r1,b2,r2,hb,g1,g2,hfin⟩:=Y123 hs pl hside hQ hsz hcl hl h hasm hop hoq hp hq hdp hdq hgp hgq
    refine (Yo4 hq hdq (g2 w rfl)).2 ?_
    obtain ⟨f,rfl⟩:∃ f,fuel=f+1:=⟨fuel - 1,by omega⟩
    have hprp:∀ x∈Ygj ops p,Lst (listed.setIfInBounds i true) x=true:=fun x hx=>by
     have h1:=hs.prp.1 x hx
     rw [hset,Bool.or_eq_true]
     exact .inr ((hl x (by have:=hpre p x hx; omega)).2 ⟨h1.2,h1.1⟩)
    refine Yui (i:=p) (Ysc hsz2 hop (by rw [hset,hnp,Ypv hpq]; rfl) hprp) (fun j hj => ?_) ?_
    ·obtain ⟨k1,k2,_⟩:=Yic hj hsz2
     rw [hset,Bool.or_eq_false_iff] at k1
     by_cases hjp:j=p
     ·exact hjp
     ·exfalso
      have hji:j≠i:=fun e=>by rw [e,Nat.beq_refl] at k1; cases k1.1
      have:=(hl j k2).2 ⟨hjp,hji⟩
      rw [this] at k1; cases k1.2
    ·refine Yvt hop hgp ((Yo4 hp hdp (g1 _ (setRow_other w b2 b1 r2 hb))).2 ?_)
     refine Y125 ?_ (by rw [Yw6 w r2 r1 (Ne.symm hb)]; exact hfin) f
     cases hr:Region.ready .any ops ((listed.setIfInBounds i true).setIfInBounds p true) with
     | nil=>rfl
     | cons j l=>
      exfalso
      obtain ⟨k1,k2,_⟩:=Yic (ops:=ops) (i:=j) (by rw [hr]; exact List.mem_cons_self) (by simpa using hsz2)
      rw [Yki (by omega),hset,Bool.or_eq_false_iff,Bool.or_eq_false_iff] at k1
      have hjp:j≠p:=fun e=>by rw [e,Nat.beq_refl] at k1; cases k1.1
      have hji:j≠i:=fun e=>by rw [e,Nat.beq_refl] at k1; cases k1.2.1
      have:=(hl j k2).2 ⟨hjp,hji⟩
      rw [this] at k1; cases k1.2.2
   | false=>
    have hprc:∀ x∈Ygj ops c,Lst listed x=true:=fun x hx=>by
     have h1:=hs.prc x hx
     exact hrest x (by have:=hpre c x hx; omega) h1.1 h1.2.1 h1.2.2
    have hrc:c∈Region.ready .any (Ygu ops p i) listed:=Ypa (Ysc hsz hoc hlc hprc) (.inl hcq)
    have s1:=Yp2 pl (Q:=FQ) hrc (by rw [hszT]; exact hsz) hcl h (K:=fun a1 w1=>∃ ι1,Rel E (Yh4 (Lst (listed.setIfInBounds c true)) s0 ds) ι1 a1 w1/\∀ d∈ds,d.i=c->Yjt d.it) (fun ι1 a1 w1 k1 k2=>⟨ι1,k1,k2⟩)
    have s2:=Y16l hoc hgc (Yna.1 s1)
    unfold Oper.wp at s2
    have hex:∀ w',(execOp a.eval oc).run P w'=(do pure (Next.value (<- Instr.indexAt Tc (a.eval xc) (a.eval ic))):Sem Next).run P w':=fun w'=>by simp only [execOp,hc]
    rw [hex,Sem.run_bind] at s2
    cases hix:(Instr.indexAt Tc (a.eval xc) (a.eval ic)).run P w with
    | halt e w1=>
     exfalso
     rw [hix] at s2
     cases e <;> exact s2
    | ok v w1=>
     rw [hix] at s2
     obtain ⟨rfl,hall⟩:=Y1ad hT hz hix
     have s3:∃ ι1,Rel E (Yh4 (Lst (listed.setIfInBounds c true)) s0 ds) ι1 (a.put oc.dst v) w1/\∀ d∈ds,d.i=c->Yjt d.it:=s2
     obtain ⟨ι1,k1,k2⟩:=s3
     have hsetc:=fun j=>Yki (listed:=listed) (i:=c) (by omega) j
     have hszc:(listed.setIfInBounds c true).size=ops.size:=by simpa using hsz
     have hl:∀ j,j<ops.size->(Lst (listed.setIfInBounds c true) j=true ↔ j≠p/\j≠i):=fun j hj=>by
      rw [hsetc,Bool.or_eq_true]
      constructor
      ·rintro (e | e)
       ·have:=Nat.eq_of_beq_eq_true e
        exact ⟨by omega,by omega⟩
       ·exact ⟨fun e2=>(by rw [e2,hnp] at e; cases e),fun e2=>(by rw [e2,hni] at e; cases e)⟩
      ·rintro ⟨h1,h2⟩
       by_cases h3:j=c
       ·exact .inl (by rw [h3,Nat.beq_refl])
       ·exact .inr (hrest j hj h1 h2 h3)
     have hclc:∀ j,Lst (listed.setIfInBounds c true) j=true->∀ x∈Ygj (Ygu ops p i) j,Lst (listed.setIfInBounds c true) x=true:=by
      intro j hj x hx
      rw [hsetc,Bool.or_eq_true] at hj ⊢
      right
      rcases hj with hj | hj
      ·have:=Nat.eq_of_beq_eq_true hj
       subst this
       exact (Yic hrc (by rw [hszT]; exact hsz)).2.2 x hx
      ·exact hcl j hj x hx
     obtain ⟨b1,r1,b2,r2,hb,g1,g2,hfin⟩:=Y123 hs pl hside hQ hszc hclc hl k1 (fun d hd hdl=>by
       rw [hsetc,Bool.or_eq_true] at hdl
       rcases hdl with e | e
       ·exact k2 d hd (Nat.eq_of_beq_eq_true e)
       ·exact hasm d hd e) hop hoq hp hq hdp hdq hgp hgq
     have hput:∀ y:Operand,y≠.tmp d->(a.put oc.dst v).eval y=a.eval y:=fun y hy=>Act.eval_put fun d' hd'=>by
      rw [hdc] at hd'; cases hd'; exact hy
     rw [hput adq hn1,hput xq hn2] at g2
     refine (Yo4 hq hdq (g2 w1 rfl)).2 ?_
     obtain ⟨f,rfl⟩:∃ f,fuel=f+1:=⟨fuel - 1,by omega⟩
     refine Yui (i:=c) (Ysc hsz2 hoc (by rw [hset,hlc,Ypv hcq]; rfl) fun x hx=>by rw [hset,Bool.or_eq_true]; exact .inr (hprc x hx)) (fun j hj => ?_) ?_
     ·obtain ⟨m1,m2,m3⟩:=Yic hj hsz2
      rw [hset,Bool.or_eq_false_iff] at m1
      by_cases hjc:j=c
      ·exact hjc
      ·exfalso
       have hji:j≠i:=fun e=>by rw [e,Nat.beq_refl] at m1; cases m1.1
       by_cases hjp:j=p
       ·have:=m3 c (by rw [hjp]; exact hs.prp.2)
        rw [hset,Bool.or_eq_true] at this
        rcases this with e | e
        ·exact hcq (Nat.eq_of_beq_eq_true e)
        ·rw [hlc] at e; cases e
       ·have:=hrest j m2 hjp hji hjc
        rw [this] at m1; cases m1.2
     ·have hexv:(execOp a.eval oc).run P (w1.setRow b2 r2)=.ok (.value v) (w1.setRow b2 r2):=by
       rw [hex,Sem.run_bind,hall]; rfl
      refine Yvt hoc hgc ?_
      unfold Oper.wp
      rw [hexv]
      show wpAny P .any ops Q f _ (a.put oc.dst v) (w1.setRow b2 r2)
      have hsz3:((listed.setIfInBounds i true).setIfInBounds c true).size=ops.size:=by simpa using hsz
      have hset3:∀ j,Lst ((listed.setIfInBounds i true).setIfInBounds c true) j=(Nat.beq j c||(Nat.beq j i||Lst listed j)):=fun j=>by rw [Yki (by omega),hset]
      have h3:3<=f+1+1:=by
       have h4:=Yn2 (p:=fun j => !Lst listed j) (q:=fun j => !Lst listed j && !(Nat.beq j c)) (i:=c) (l:=List.range ops.size) (List.mem_range.2 hcL) (by simp [hlc]) (by simp [Nat.beq_refl]) (fun x hx=>by simp at hx; simp [hx.1])
       have h5:=Yyu (f:=fun j => !Lst listed j && !(Nat.beq j c)) hpl hlt hpq (by simp [hnp,Ypv (Ne.symm hcp)]) (by simp [hni,Ypv (Ne.symm hcq)])
       omega
      obtain ⟨f',rfl⟩:∃ f',f=f'+1:=⟨f - 1,by omega⟩
      refine Yui (i:=p) (Ysc hsz3 hop (by rw [hset3,hnp,Ypv (Ne.symm hcp),Ypv hpq]; rfl) fun x hx => ?_) (fun j hj => ?_) ?_
      ·have h1:=hs.prp.1 x hx
       rw [hset3,Bool.or_eq_true,Bool.or_eq_true]
       by_cases hxc:x=c
       ·exact .inl (by rw [hxc,Nat.beq_refl])
       ·exact .inr (.inr (hrest x (by have:=hpre p x hx; omega) h1.2 h1.1 hxc))
      ·obtain ⟨m1,m2,_⟩:=Yic hj hsz3
       rw [hset3,Bool.or_eq_false_iff,Bool.or_eq_false_iff] at m1
       by_cases hjp:j=p
       ·exact hjp
       ·exfalso
        have hjc:j≠c:=fun e=>by rw [e,Nat.beq_refl] at m1; cases m1.1
        have hji:j≠i:=fun e=>by rw [e,Nat.beq_refl] at m1; cases m1.2.1
        have:=hrest j m2 hjp hji hjc
        rw [this] at m1; cases m1.2.2
      ·refine Yvt hop hgp ((Yo4 hp hdp (g1 _ (setRow_other w1 b2 b1 r2 hb))).2 ?_)
       refine Y125 ?_ (by rw [Yw6 w1 r2 r1 (Ne.symm hb)]; exact hfin) f'
       cases hr:Region.ready .any ops (((listed.setIfInBounds i true).setIfInBounds c true).setIfInBounds p true) with
       | nil=>rfl
       | cons j l=>
        exfalso
        obtain ⟨m1,m2,_⟩:=Yic (ops:=ops) (i:=j) (by rw [hr]; exact List.mem_cons_self) (by simpa using hsz)
        rw [Yki (by omega),hset3,Bool.or_eq_false_iff,Bool.or_eq_false_iff,Bool.or_eq_false_iff] at m1
        have hjp:j≠p:=fun e=>by rw [e,Nat.beq_refl] at m1; cases m1.1
        have hjc:j≠c:=fun e=>by rw [e,Nat.beq_refl] at m1; cases m1.2.1
        have hji:j≠i:=fun e=>by rw [e,Nat.beq_refl] at m1; cases m1.2.2.1
        have:=hrest j m2 hjp hji hjc
        rw [this] at m1; cases m1.2.2.2
  ·have hgood:i≠q ∨ Lst listed p=true:=by
    by_cases h1:i=q
    ·right
     cases h2:Lst listed p with
     | true=>rfl
     | false=>exact absurd ⟨h1,h2⟩ hbad
    ·exact .inl h1
   have hi':=Ypa hi hgood
   have hset:=fun j=>Yki (listed:=listed) (i:=i) (by omega) j
   refine Yna.1 (Yp2 pl hi' (by rw [hszT]; exact hsz) hcl h fun ι' a' w' hr' hasm'=>ih _ ι' a' w' (by simpa using hsz) (fun j hj x hx => ?_) ?_ hr' fun d hd hdl => ?_)
   ·rw [hset,Bool.or_eq_true] at hj ⊢
    right
    rcases hj with hj | hj
    ·have:=Nat.eq_of_beq_eq_true hj
     subst this
     exact (Yic hi' (by rw [hszT]; exact hsz)).2.2 x hx
    ·exact hcl j hj x hx
   ·have:(List.range ops.size).countP (fun j => !Lst (listed.setIfInBounds i true) j)<(List.range ops.size).countP (fun j => !Lst listed j):=by
     refine Yn2 (i:=i) (List.mem_range.2 hlt) (by simp [hni]) (by rw [hset]; simp) fun j hj => ?_
     rw [hset] at hj
     simp only [Bool.not_eq_true',Bool.or_eq_false_iff] at hj ⊢
     exact hj.2
    omega
   ·rw [hset,Bool.or_eq_true] at hdl
    rcases hdl with hdl | hdl
    ·exact hasm' d hd (Nat.eq_of_beq_eq_true hdl)
    ·exact hasm d hd hdl
end
end Go.Proofs.YtclpofblehlojaaGreat.Ab
end
section
namespace Go.Proofs.YtclpofblehlojaaGreat.Ab
open Go
def Y1c9 (x:Operand) (d:Nat):Bool:=match x with | .tmp t => !(Nat.beq t d) | _=>true
theorem Y19n {x:Operand} {d:Nat} (h:Y1c9 x d=true):x≠.tmp d:=by
 rintro rfl
 simp [Y1c9] at h
def Y19i (P:Program) (op oq oc:Oper):Bool:=match op.op,oq.op,oc.op with
 | .store _ _ _,.store _ adq xq,.indexAddr Tc _ _=>(match op.dst,oq.dst,oc.dst with
  | none,none,some d=>(match op.guard,oq.guard,oc.guard with
   | none,none,none=>Y1c9 adq d&&Y1c9 xq d&&(match P.underlying Tc with
    | some (.slice elem)=>(match Yix P elem with | some _=>true | none=>false)
    | _=>false)
   | _,_,_=>false)
  | _,_,_=>false)
 | _,_,_=>false
def Y1br (P:Program) (ops:Array Oper) (p q c:Nat):Bool:=match ops[p]?,ops[q]?,ops[c]? with
 | some op,some oq,some oc=>Y19i P op oq oc&&(!(Nat.beq p q) && !(Nat.beq c q) && !(Nat.beq c p)) &&
  (List.range ops.size).all (fun j=>Nat.beq j p||Nat.beq j q||Nat.beq j c||((Ylo ops ops.size).getD q 0).testBit j) &&
  (Ygj ops c).all (fun x => !(Nat.beq x p) && !(Nat.beq x q) && !(Nat.beq x c)) &&
  ((Ygj ops p).all (fun x => !(Nat.beq x q) && !(Nat.beq x p))&&(Ygj ops p).any (Nat.beq c)) &&
  (Ygj ops q).all (fun x => !(Nat.beq x p) && !(Nat.beq x c))
 | _,_,_=>false
theorem Yq3 {x y:Nat} (h:Nat.beq x y=false):x≠y:=Nat.ne_of_beq_eq_false h
theorem Y1ic {P:Program} {ops:Array Oper} {p q c:Nat} (h:Y1br P ops p q c=true):Swap P ops p q c:=by
 unfold Y1br at h
 split at h
 ·rename_i op oq oc hop hoq hoc
  simp only [Bool.and_eq_true,Bool.not_eq_true',List.all_eq_true,List.any_eq_true,Bool.or_eq_true] at h
  obtain ⟨⟨⟨⟨⟨h1,⟨h2,h3⟩,h4⟩,h5⟩,h6⟩,h7,h8⟩,h9⟩:=h
  refine ⟨?_,⟨Yq3 h2,Yq3 h3,Yq3 h4⟩,fun j hj e1 e2 e3 => ?_,fun x hx => ?_,⟨fun x hx => ?_,?_⟩,fun x hx => ?_⟩
  ·unfold Y19i at h1
   split at h1
   ·rename_i Tp adp xp Tq adq xq Tc xc ic ep eq ec
    split at h1
    ·rename_i d dp dq dc
     split at h1
     ·rename_i gp gq gc
      simp only [Bool.and_eq_true] at h1
      obtain ⟨⟨k1,k2⟩,k3⟩:=h1
      split at k3
      ·rename_i elem hu
       split at k3
       ·rename_i sz hz
        exact ⟨op,oq,oc,Tp,Tq,Tc,adp,xp,adq,xq,xc,ic,d,elem,sz,hop,hoq,hoc,ep,eq,ec,dp,dq,dc,gp,gq,gc,Y19n k1,Y19n k2,hu,hz⟩
       ·cases k3
      ·cases k3
     ·cases h1
    ·cases h1
   ·cases h1
  ·have hql:q<ops.size:=(Array.getElem?_eq_some_iff.1 hoq).1
   rcases h5 j (List.mem_range.2 hj) with ((h | h) | h) | h
   ·exact absurd (Nat.eq_of_beq_eq_true h) e1
   ·exact absurd (Nat.eq_of_beq_eq_true h) e2
   ·exact absurd (Nat.eq_of_beq_eq_true h) e3
   ·rwa [Yn6 ops _ _ hql] at h
  ·obtain ⟨⟨a,b⟩,d⟩:=h6 x hx
   exact ⟨Yq3 a,Yq3 b,Yq3 d⟩
  ·obtain ⟨a,b⟩:=h7 x hx
   exact ⟨Yq3 a,Yq3 b⟩
  ·obtain ⟨x,hx,e⟩:=h8
   rw [Nat.eq_of_beq_eq_true e]; exact hx
  ·obtain ⟨a,b⟩:=h9 x hx
   exact ⟨Yq3 a,Yq3 b⟩
 ·cases h
inductive StuckReg (s:St) (ops:Array Oper):Prop
inductive StuckSide (s:St) (p q:Nat):Prop
def Y149 (P:Program) (ops:Array Oper) (p q:Nat) (s:St) (K:Prop):Prop:=match ops[p]?,ops[q]? with
 | some op,some oq=>(match op.op,oq.op with
  | .store Tp adp xp,.store Tq adq xq=>(match Yru P s Tp adp xp,Yru P s Tq adq xq with
   | some (j1,i1,es1),some (j2,i2,es2)=>(match Nat.beq j1 j2 with
    | false=>i1<es1.length/\i2<es2.length/\K
    | true=>StuckSide s p q)
   | _,_=>StuckSide s p q)
  | _,_=>StuckSide s p q)
 | _,_=>StuckSide s p q
theorem Y1dt {P:Program} {ops:Array Oper} {p q:Nat} {s:St} {K:Prop} (h:Y149 P ops p q s K):Y1bb P ops p q s/\K:=by
 unfold Y149 at h
 split at h
 ·rename_i op oq hop hoq
  split at h
  ·rename_i Tp adp xp Tq adq xq ep eq
   split at h
   ·rename_i j1 i1 es1 j2 i2 es2 e1 e2
    split at h
    ·rename_i hb
     obtain ⟨h1,h2,hK⟩:=h
     refine ⟨fun op' oq' Tp' Tq' adp' xp' adq' xq' g1 g2 g3 g4 => ?_,hK⟩
     rw [hop] at g1; rw [hoq] at g2
     simp only [Option.some.injEq] at g1 g2
     subst g1; subst g2
     rw [ep] at g3; rw [eq] at g4
     simp only [Op.store.injEq] at g3 g4
     obtain ⟨rfl,rfl,rfl⟩:=g3
     obtain ⟨rfl,rfl,rfl⟩:=g4
     exact ⟨j1,i1,es1,j2,i2,es2,e1,e2,Yq3 hb,h1,h2⟩
    ·cases h
   ·cases h
  ·cases h
 ·cases h
def Y15r (P:Program) (ops0:Array Oper) (p q c:Nat) (tids:List (Nat × List Nat)) (s:St) (qs:List Orc) (k:St->List Orc->Prop):Prop:=
 match Y1br P ops0 p q c with
 | false=>StuckSide s p q
 | true=>match Ygu ops0 p q with
  | ops=>Yis Yjv (Ylo ops ops.size) fun ms=>Yis fBl (Yvu ops tids (List.range ops.size) s.objs.length) fun bls=>fSt (s.grow (Ytd ops (List.range ops.size))) fun s0=>Yjv s.objs.length fun n0=>
   Yxd P ops ms bls s0 (List.range ops.size) n0 [] [] qs fun ds its qs=>
    match Yy6 ops ms bls n0 (n0+Ytd ops (List.range ops.size)) ds with
    | true=>Y149 P ops0 p q (Yza p q s0 ds) (Y168 its (Yr4 (fun _=>true) s0 ds fun s=>fSt s.shrink fun s=>k s qs))
    | false=>StuckDraw s ds
section
variable {P:Program} {E:Ent P} {ops:Array Oper}
theorem Y178 (hm:P.follows .mixedOrders=true) {id p q c:Nat} {tids:List (Nat × List Nat)} {s:St} {qs:List Orc} {k:St->List Orc->Prop} {Q:Exit->Act->World->Prop} {ι:Interp} {a:Act} {w:World}
  (hx:Y15r P ops p q c tids s qs k) (h:Rel E s ι a w) (hk:∀ s' q' ι' a' w',k s' q'->Rel E s' ι' a' w'->Q .normal a' w'):(Code.region id ops true).wp P Q a w:=by
 unfold Y15r at hx
 split at hx
 ·cases hx
 ·rename_i hsw
  have hs:=Y1ic hsw
  have hszT:(Ygu ops p q).size=ops.size:=Yqe
  dsimp only at hx
  rw [Yhv Yjk,Yhv Y1ft,Yps,Yjk] at hx
  obtain ⟨ds,q',hc,hfin⟩:=Ypf hx
  simp only [List.nil_append] at hc hfin
  split at hfin
  ·rename_i hd
   obtain ⟨hside,hfin⟩:=Y1dt hfin
   rw [Yq8,Yps] at hfin
   simp only [Yy6,Bool.and_eq_true,List.all_eq_true,beq_iff_eq] at hd
   obtain ⟨⟨hidx,hpre⟩,hall⟩:=hd
   have hp:∀ i,∀ x∈Ygj (Ygu ops p q) i,x<i:=by
    intro i x hpi
    by_cases hi:i<(Ygu ops p q).size
    ·have h1:=hpre i (List.mem_range.2 hi) x hpi
     exact Nat.le_of_ble_eq_true h1
    ·have hn:(Ygu ops p q)[i]? = none:=Array.getElem?_eq_none (Nat.le_of_not_lt hi)
     simp [Ygj,hn] at hpi
   have hgood:=Ysb (pre:=[]) rfl hp (by simpa using hidx) hc
   have pl:DPlan P (Ygu ops p q) (Ylo (Ygu ops p q) (Ygu ops p q).size) (Yvu (Ygu ops p q) tids (List.range (Ygu ops p q).size) s.objs.length) (s.grow (Ytd (Ygu ops p q) (List.range (Ygu ops p q).size))) ds:=by
    refine ⟨rfl,by simpa using hgood,hidx,hp,fun d hdm => ?_,fun d hdm x h1 h2 => ?_,fun d hdm e hem hne hnb p hpm => ?_,fun d hdm e hem hu => ?_⟩
    ·obtain ⟨⟨⟨⟨⟨h1,h2⟩,h3⟩,_⟩,_⟩,_⟩:=hall d hdm
     exact ⟨Y14e h1,h2,h3⟩
    ·obtain ⟨⟨⟨_,h4⟩,h5⟩,_⟩:=hall d hdm
     have h4:=Nat.le_of_ble_eq_true h4
     have h5:=Nat.le_of_ble_eq_true h5
     refine ⟨?_,by simp [St.grow]; omega⟩
     rw [Ykc]
     simp [St.obj,List.getElem?_eq_none (show s.objs.length<=x by omega)]
    ·have h6:=((hall d hdm).2 e hem).1
     simp only [Bool.or_eq_true,List.all_eq_true] at h6
     rcases h6 with h6 | h6
     ·rcases h6 with h6 | h6
      ·exact absurd (Nat.eq_of_beq_eq_true h6) hne
      ·rw [hnb] at h6; cases h6
     ·rcases h6 p hpm with h7 | h7
      ·exact .inl (Nat.le_of_ble_eq_true h7)
      ·exact .inr (Nat.le_of_ble_eq_true h7)
    ·have h6:=((hall d hdm).2 e hem).2
     rw [hu] at h6
     simpa using h6
   refine wp_region_any hm (Y1h4 hs pl hside (E:=E) (fun ι a w hr hasm=>hk _ _ ι a w (Yta hfin (Yu2 hasm)) (Rel.shrink hr)) ops.size _ ι a _ (by simp) (fun j hj => ?_) ?_ ?_ fun d hd hl => ?_)
   ·rw [Yon] at hj; cases hj
   ·exact Nat.le_trans List.countP_le_length (by simp)
   ·have hnone:∀ d∈ds,Lst (Array.replicate ops.size false) d.i=false:=fun d _=>Yon _ _
    rw [Yr0 hnone]
    exact (h.grow _).world rfl rfl rfl
   ·exfalso
    rw [Yon] at hl; cases hl
  ·cases hfin
end
end Go.Proofs.YtclpofblehlojaaGreat.Ab
end
section
namespace Go.Proofs.YtclpofblehlojaaGreat.Ab
open Go
def mvf (id n:Nat) (i:Nat):Nat:=match Nat.beq i id with | true=>n | false=>i
theorem Y150 (id n:Nat):mvf id n id=n:=by unfold mvf; rw [Nat.beq_refl]
theorem Y118 {id n i:Nat} (h:i≠id):mvf id n i=i:=by
 unfold mvf
 split
 ·rename_i hb; exact (h (Nat.eq_of_beq_eq_true hb)).elim
 ·rfl
def Y18w:Ob->Bool
 | .arr .. | .map .. => true
 | _=>false
def St.move (s:St) (id:Nat):St:=
 { s with regs:=s.regs.map (AV.ren (mvf id s.objs.length)),objs:=(s.objs.map (Ob.ren (mvf id s.objs.length))).set id .dead++[s.obj id] }
def Y16k (s:St) (id:Nat):Option St:=match Y18w (s.obj id) with
 | true=>some (s.move id)
 | false=>none
section
variable {P:Program} {E:Ent P} {s:St} {ι:Interp} {a:Act} {w:World}
theorem Yte {id:Nat} (hid:id<s.objs.length) (i:Nat):(s.move id).obj i=if i=s.objs.length then s.obj id else if i=id then .dead else (s.obj i).ren (mvf id s.objs.length):=by
 show ((s.objs.map (Ob.ren (mvf id s.objs.length))).set id .dead++[s.obj id]).getD i .free=_
 simp only [List.getD_eq_getElem?_getD]
 by_cases h1:i=s.objs.length
 ·rw [if_pos h1,List.getElem?_append_right (by simp [h1])]
  simp [h1]
 ·rw [if_neg h1]
  by_cases h2:i<s.objs.length
  ·rw [List.getElem?_append_left (by simpa using h2),List.getElem?_set]
   by_cases h3:i=id
   ·subst h3; simp [h2]
   ·rw [if_neg h3]
    simp only [Ne.symm h3,if_false,List.getElem?_map,St.obj,List.getD_eq_getElem?_getD]
    rw [List.getElem?_eq_getElem h2]; rfl
  ·rw [List.getElem?_append_right (by simp; omega)]
   have h3:i≠id:=by omega
   rw [if_neg h3]
   have:s.obj i=.free:=by simp [St.obj,List.getElem?_eq_none (Nat.le_of_not_lt h2)]
   rw [this]
   have:([s.obj id]:List Ob)[i - ((s.objs.map (Ob.ren (mvf id s.objs.length))).set id .dead).length]? = none:=by
    rw [List.getElem?_eq_none_iff]; simp; omega
   rw [this]; rfl
theorem Rel.move (h : Rel E s ι a w) {id : Nat} (hm : Y18w (s.obj id) = true) : ∃ ι', Rel E (s.move id) ι' a w := by
  have hid : id < s.objs.length := Ygp (o := s.obj id) rfl (fun e => by rw [e] at hm; cases hm)
  have hne : id ≠ s.objs.length := by omega
  have hren : (s.obj id).ren (mvf id s.objs.length) = s.obj id := by
    cases e : s.obj id <;> rw [e] at hm <;> first | rfl | cases hm
  have hfree : ∀ b, ¬ ι.fp s.objs.length b := by
    have := h.objs s.objs.length
    have e : s.obj s.objs.length = .free := by simp [St.obj]
    rw [e] at this; exact this
  let ι' : Interp := { G := ι.G, blk := fun i => if i = s.objs.length then ι.blk id else ι.blk i, sl := fun i => if i = s.objs.length then ι.sl id else ι.sl i,
                       fp := fun i b => if i = s.objs.length then ι.fp id b else if i = id then False else ι.fp i b }
  have htr : Tr (mvf id s.objs.length) ι s.obj ι' (s.move id).obj := by
    refine ⟨fun j hj => ?_⟩
    rw [Yte hid]
    by_cases h1 : j = id
    · subst h1
      rw [Y150, if_pos rfl, hren]
      exact ⟨rfl, by simp [ι'], by simp [ι'], fun b => by simp [ι']⟩
    · rw [Y118 h1]
      have h2 : j ≠ s.objs.length := fun e => by
        unfold notFree at hj
        rw [e] at hj
        simp [St.obj] at hj
      rw [if_neg h2, if_neg h1]
      exact ⟨rfl, by simp [ι', h2], by simp [ι', h2], fun b => by simp [ι', h1, h2]⟩
  have hfp : ∀ i b, ι'.fp i b -> (i = s.objs.length /\ ι.fp id b) ∨ (i ≠ s.objs.length /\ i ≠ id /\ ι.fp i b) := by
    intro i b hb
    simp only [ι'] at hb
    split at hb
    · exact .inl ⟨‹_›, hb⟩
    · split at hb
      · exact hb.elim
      · exact .inr ⟨‹_›, ‹_›, hb⟩
  have hold : ∀ i b, ι'.fp i b -> ∃ k, ι.fp k b := fun i b hb => (hfp i b hb).elim (fun h => ⟨id, h.2⟩) fun h => ⟨i, h.2.2⟩
  refine ⟨ι', ?_⟩
  refine { len := by simp [St.move, h.len], defers := h.defers, regs := fun t => ?_, objs := fun i => ?_, disj := ?_, gfp := ?_, own := ?_, lt := ?_, glt := h.glt, frame := h.frame, size := h.size, os := h.os, out := h.out, ent := fun i => ?_, gg := h.gg, gown := h.gown, ment := h.ment }
  · have e : (s.move id).reg t = (s.reg t).ren (mvf id s.objs.length) := by
      show (s.regs.map (AV.ren (mvf id s.objs.length))).getD t _ = _
      simp only [List.getD_eq_getElem?_getD, List.getElem?_map, St.reg]
      cases s.regs[t]? <;> rfl
    rw [e]
    exact Ygz.tr htr (.inr fun _ hb => hb) (h.regs t)
  · by_cases h1 : i = s.objs.length
    · have := Yiu.tr htr (j := id) (by unfold notFree; cases e : s.obj id <;> rw [e] at hm <;> first | trivial | cases hm) (.inr fun _ hb => hb) (h.objs id)
      rw [Y150, <- h1] at this; exact this
    · by_cases h2 : i = id
      · rw [Yte hid, if_neg h1, if_pos h2, h2]
        intro b hb
        simp [ι', hne] at hb
      · by_cases h3 : s.obj i = .free
        · have e : (s.move id).obj i = .free := by rw [Yte hid, if_neg h1, if_neg h2, h3]; rfl
          rw [e]
          have := h.objs i
          rw [h3] at this
          intro b hb
          simp only [ι', if_neg h1, if_neg h2] at hb
          exact this b hb
        · have := Yiu.tr htr (j := i) (by unfold notFree; cases e : s.obj i <;> first | trivial | exact (h3 e).elim) (.inr fun _ hb => hb) (h.objs i)
          rw [Y118 h2] at this; exact this
  · intro i j b hij hi hj
    rcases hfp i b hi with ⟨rfl, f1⟩ | ⟨n1, n2, f1⟩ <;> rcases hfp j b hj with ⟨rfl, f2⟩ | ⟨m1, m2, f2⟩
    · exact hij rfl
    · exact h.disj id j b (fun e => m2 e.symm) f1 f2
    · exact h.disj i id b n2 f1 f2
    · exact h.disj i j b hij f1 f2
  · intro i b hb hg
    obtain ⟨k, hk⟩ := hold i b hb
    exact h.gfp k b hk hg
  · intro i b hb
    obtain ⟨k, hk⟩ := hold i b hb
    exact h.own k b hk
  · intro i b hb
    obtain ⟨k, hk⟩ := hold i b hb
    exact h.lt k b hk
  · refine (h.ent i).trans (w' := w) (ι' := ι') (K := False) ?_
    rw [Yte hid]
    by_cases h1 : i = s.objs.length
    · have e : s.obj i = .free := by rw [h1]; simp [St.obj]
      rw [e]; trivial
    · rw [if_neg h1]
      by_cases h2 : i = id
      · rw [if_pos h2, h2]
        cases e : s.obj id <;> rw [e] at hm <;> first | trivial | cases hm
      · rw [if_neg h2]
        cases e : s.obj i with
        | free => trivial
        | dead => trivial
        | box cs => show ι'.blk i = ι.blk i; simp [ι', h1]
        | arr o z x => exact ⟨by simp [ι', h1], rfl, fun k => k.elim⟩
        | map nn k f => exact ⟨by simp [ι', h1], rfl, rfl, fun k => k.elim⟩
theorem Y1ca (h:Rel E s ι a w) {id:Nat} {s':St} (e:Y16k s id=some s'):∃ ι',Rel E s' ι' a w:=by
 unfold Y16k at e
 split at e
 ·rename_i hm
  simp only [Option.some.injEq] at e; subst e
  exact h.move hm
 ·cases e
theorem Rel.nilMap (h:Rel E s ι a w) {k:MK} (hk:Yzu k=true):∃ ι',Rel E ((s.grow 1).setOb s.objs.length (.map true k (Yq4 k))) ι' a w /\
  Yh5 w ι' ((s.grow 1).setOb s.objs.length (.map true k (Yq4 k))).obj (.one (.mref s.objs.length)) (.map none):=by
 have hroom:=Yr3 s 1 s.objs.length (Nat.le_refl _) (by omega)
 have hf:=(h.grow 1).objs s.objs.length
 rw [hroom.1] at hf
 refine ⟨ι,Rel.fresh (h.grow 1) hroom.1 hroom.2 _ rfl (fun i hi=>⟨rfl,rfl,fun b=>Iff.rfl⟩) (fun b hb=>(hf b hb).elim) (fun _ _=>rfl) (Nat.le_refl _) rfl rfl ?_,⟨?_,fun nn k' f' e => ?_⟩,fun _=>rfl⟩
 ·exact ⟨hf,fun key _=>Y11t hk key⟩
 ·unfold notFree; rw [Yg5 hroom.2,if_pos rfl]; trivial
 ·rw [Yg5 hroom.2,if_pos rfl] at e
  cases e; rfl
def Y112 (s:St) (t:Nat) (k:MK):Option St:=
 match s.reg t with
 | .sv (.one (.val (.lit (.map none))))=>if Yzu k=true then some (((s.grow 1).setOb s.objs.length (.map true k (Yq4 k))).put (some t) (.sv (.one (.mref s.objs.length)))) else none
 | _=>none
theorem Y17c (h:Rel E s ι a w) {t:Nat} {k:MK} {s':St} (e:Y112 s t k=some s'):∃ ι',Rel E s' ι' a w:=by
 unfold Y112 at e
 split at e
 ·rename_i ht
  split at e
  ·rename_i hk
   simp only [Option.some.injEq] at e; subst e
   have hr:=h.regs t
   rw [ht] at hr
   have hv:=(Rd.lit_inv (show Rd w ι.G _ (.lit (.map none)) from hr.1)).1
   obtain ⟨ι',h1,h2⟩:=h.nilMap hk
   have:=Rel.put h1 (some t) (x:=.sv (.one (.mref s.objs.length))) (v:=a.tmps.getD t undef) (by rw [hv]; exact h2)
   rw [Yo8] at this
   exact ⟨ι',this⟩
  ·cases e
 ·cases e
def Y10o (s:St) (id j:Nat) (k:MK):Option St:=
 match s.obj id with
 | .box cs=>match cs[j]? with
  | some (.val (.lit (.map none)))=>if Yzu k=true then some (((s.grow 1).setOb s.objs.length (.map true k (Yq4 k))).setOb id (.box (cs.set j (.mref s.objs.length)))) else none
  | _=>none
 | _=>none
theorem Y17k (h:Rel E s ι a w) {id j:Nat} {k:MK} {s':St} (e:Y10o s id j k=some s'):∃ ι',Rel E s' ι' a w:=by
 unfold Y10o at e
 split at e
 ·rename_i cs ho
  split at e
  ·rename_i hj
   split at e
   ·rename_i hk
    simp only [Option.some.injEq] at e; subst e
    have hlt:id<s.objs.length:=Ygp ho (by simp)
    obtain ⟨ι',h1,h2⟩:=h.nilMap hk
    refine ⟨ι',Rel.recell h1 ?_ hj fun v hv => ?_⟩
    ·rw [Yg5 (by simp [St.grow])]
     rw [if_neg (by omega),Ykc]; exact ho
    ·have:=(Rd.lit_inv (show Rd w ι'.G _ (.lit (.map none)) from hv.1)).1
     rw [this]; exact h2.1
   ·cases e
  ·cases e
 ·cases e
end
end Go.Proofs.YtclpofblehlojaaGreat.Ab
end
section
namespace Go.Proofs.YtclpofblehlojaaGreat.Ab
open Go
section
variable {P:Program} {E:Ent P} {s:St} {ι:Interp} {a:Act} {w:World}
theorem Rel.recellAt (h:Rel E s ι a w) {id k:Nat} {cs:List AC} (ho:s.obj id=.box cs) {c c':AC} (hc:cs[k]? = some c)
  (hv:∀ arr ty,w.heap[ι.blk id]? = some (.cells arr ty (0,0))->∀ v,arr.toList[k]? = some v->Ygx w ι s.obj c' v):Rel E (s.setOb id (.box (cs.set k c'))) ι a w:=by
 have hlt:id<s.objs.length:=Ygp ho (by simp)
 have hx:Ext (fun _=>True) w ι s.obj w ι (s.setOb id (.box (cs.set k c'))).obj:=Ysd fun i=>by
  rw [Yg5 hlt]
  by_cases hi:i=id
  ·subst hi; rw [if_pos rfl,ho]; rfl
  ·rw [if_neg hi]; cases s.obj i <;> simp [Yho] <;> exact fun b hb=>.inl hb
 refine Rel.step h hx (fun t=>.inl ⟨rfl,fun _ _ _ _=>trivial⟩) rfl rfl (fun i => ?_) h.disj h.gfp h.own h.lt h.glt (fun _ _ _=>rfl) (Nat.le_refl _) rfl rfl
 by_cases hi:i=id
 ·subst hi
  right
  rw [Yg5 hlt,if_pos rfl]
  have:=h.objs i
  rw [ho] at this
  obtain ⟨r1,arr,ty,r2,r3⟩:=this
  have r4:Yg8 (Yi9 w ι s.obj) (cs.set k c') arr.toList:=r3.set fun v hvk=>by
   have:=r3.get hc hvk
   exact ⟨hv arr ty r2 v hvk,this.2⟩
  exact ⟨r1,arr,ty,r2,r4.imp fun c v hcv=>⟨Ygx.ext hx (fun _ _=>trivial) hcv.1,hcv.2⟩⟩
 ·left
  exact ⟨by rw [Yg5 hlt,if_neg hi],⟨rfl,rfl,fun b=>Iff.rfl,fun b _=>rfl⟩,fun _ _ _ _=>trivial⟩
def Yyy (s:St) (b j i sz:Nat) (es0:List (List Cell)) (e:List Cell) (p sz':Nat) (es':List (List Cell)) (cs:List AC) (k:Nat):St:=
 (((s.grow 1).setOb j (.arr true sz (es0.set i (e.set p .any)))).setOb s.objs.length (.arr true sz' es')).setOb b (.box (cs.set k (.ref s.objs.length)))
def Yyw (b j i sz:Nat) (es0:List (List Cell)) (cs0:List AC):List (Nat × Nat)->St->List Cell->List AC->Option (List Prop × St)
 | [],s,_,_=>some ([],s)
 | (k,sz') :: r,s,e,cs=>match cs0[k]? with
  | some (.sub j' i' p)=>(match Nat.beq j' j with
   | true=>(match e[p]? with
    | some (.list es')=>(match Yyw b j i sz es0 cs0 r (Yyy s b j i sz es0 e p sz' es' cs k) (e.set p .any) (cs.set k (.ref s.objs.length)) with
     | some (ps,s2)=>some ((i'=i) :: (∀ x∈es',x.length=sz') :: ps,s2)
     | none=>none)
    | _=>none)
   | false=>none)
  | _=>none
def Y15q:List Prop->Prop->Prop
 | [],K=>K
 | p :: r,K=>p/\Y15q r K
structure Held (w:World) (ι:Interp) (b j sz:Nat) (cs0:List AC):Prop where
 row:∀ (arr:Array Value) (ty:TypeId) (bj:Nat),w.heap[ι.blk b]? = some (.cells arr ty (0,0))->(ι.sl j).ownBlock=some bj->∀ (k i p:Nat),cs0[k]? = some (AC.sub j i p)->∀ v:Value,arr.toList[k]? = some v->w.cell? ⟨bj,i * sz+p,none⟩=some v
def Y1pl (s:St) (j:Nat):Prop:=(∀ t,∀ c∈(s.reg t).acs,∀ k,c.src=some k->k≠j)/\∀ k,∀ c∈(s.obj k).acs,∀ k',c.src=some k'->k'≠j
theorem Y11r {b j i sz:Nat} {es0:List (List Cell)} {cs0:List AC} (hbj:b≠j):∀ {l:List (Nat × Nat)} {s:St} {ι:Interp} {e:List Cell} {cs:List AC} {esc:List (List Cell)} {ps:List Prop} {s2:St} {K:Prop},
  Yyw b j i sz es0 cs0 l s e cs=some (ps,s2)->Y15q ps K->Rel E s ι a w->s.obj j=.arr true sz esc->esc[i]? = some e->(∀ x,esc.set i x=es0.set i x)->s.obj b=.box cs->cs.length=cs0.length->Y1pl s j->Held w ι b j sz cs0 ->
   K/\∃ ι',Rel E s2 ι' a w
 | [],s,ι,e,cs,esc,ps,s2,K,hp,hK,h,_,_,_,_,_,_,_=>by
  simp only [Yyw,Option.some.injEq,Prod.mk.injEq] at hp
  obtain ⟨rfl,rfl⟩:=hp
  exact ⟨hK,ι,h⟩
 | (k,sz') :: r,s,ι,e,cs,esc,ps,s2,K,hp,hK,h,hj,he,hes,hb,hcl,hn,hh=>by
  simp only [Yyw] at hp
  split at hp
  ·rename_i j' i' p hk
   split at hp
   ·rename_i hjj
    obtain rfl:=Nat.eq_of_beq_eq_true hjj
    split at hp
    ·rename_i es' hep
     split at hp
     ·rename_i ps' s2' hrec
      simp only [Option.some.injEq,Prod.mk.injEq] at hp
      obtain ⟨rfl,rfl⟩:=hp
      obtain ⟨rfl,hx,hK⟩:=hK
      have hg:=h.grow 1
      have hroom:=Yr3 s 1 s.objs.length (Nat.le_refl _) (by omega)
      have hjg:(s.grow 1).obj j'=.arr true sz esc:=by rw [Ykc]; exact hj
      obtain ⟨ι1,h1,hsl,htk,hext,_⟩:=hg.focus hjg he hep hx hroom.1 hroom.2 (fun t c hc k hk=>by
        have:c∈(s.reg t).acs:=by
         have e:(s.grow 1).reg t=s.reg t:=rfl
         rwa [e] at hc
        exact hn.1 t c this k hk) (fun k c hc k' hk'=>by rw [Ykc] at hc; exact hn.2 k c hc k' hk')
      have hbl:b<s.objs.length:=Ygp hb (by simp)
      have hjl:j'<s.objs.length:=Ygp hj (by simp)
      have hbn:b≠s.objs.length:=Nat.ne_of_lt hbl
      have hjn:j'≠s.objs.length:=Nat.ne_of_lt hjl
      have hobj1:∀ x,(Ygv (s.grow 1) j' s.objs.length i' p sz esc e sz' es').obj x=if x=s.objs.length then .arr true sz' es' else if x=j' then .arr true sz (esc.set i' (e.set p .any)) else s.obj x:=by
       intro x
       unfold Ygv
       rw [Yg5 (by rw [Yga]; exact hroom.2),Yg5 (by have:=hroom.2; omega),Ykc]
      have hb1:(Ygv (s.grow 1) j' s.objs.length i' p sz esc e sz' es').obj b=.box cs:=by
       rw [hobj1,if_neg hbn,if_neg hbj]; exact hb
      have hkl:k<cs.length:=by rw [hcl]; exact (List.getElem?_eq_some_iff.1 hk).1
      have hblk:ι1.blk b=ι.blk b:=by
       have:=hext.o b
       rw [Ykc,hb,hb1] at this
       exact this
      have h2:=Rel.recellAt h1 hb1 (c:=cs[k]) (List.getElem?_eq_getElem hkl) (c':=.ref s.objs.length) (fun arr ty hheap v hv=>by
       refine ⟨?_,fun own sz1 es1 ho1 => ?_⟩
       ·unfold notFree; rw [hobj1,if_pos rfl]; trivial
       ·obtain ⟨bj,hbjk,_⟩:=htk.blk
        have hcell:=htk.cell bj hbjk
        rw [hsl] at hbjk
        rw [hblk] at hheap
        have:=hh.row arr ty bj hheap hbjk k i' p hk v hv
        rw [this] at hcell
        exact Option.some.inj hcell)
      have hst:(Ygv (s.grow 1) j' s.objs.length i' p sz esc e sz' es').setOb b (.box (cs.set k (.ref s.objs.length)))=Yyy s b j' i' sz es0 e p sz' es' cs k:=by
       unfold Ygv Yyy; rw [hes]
      rw [hst] at h2
      have hobj2:∀ x,(Yyy s b j' i' sz es0 e p sz' es' cs k).obj x=if x=b then .box (cs.set k (.ref s.objs.length)) else if x=s.objs.length then .arr true sz' es' else if x=j' then .arr true sz (es0.set i' (e.set p .any)) else s.obj x:=by
       intro x
       rw [<- hst,Yg5 (by unfold Ygv; rw [Yga,Yga]; simp [St.grow]; omega),hobj1,hes]
      have hil:i'<esc.length:=(List.getElem?_eq_some_iff.1 he).1
      have hset:esc.set i' (e.set p .any)=es0.set i' (e.set p .any):=hes _
      refine Y11r hbj hrec hK h2 (esc:=es0.set i' (e.set p .any)) ?_ ?_ ?_ ?_ ?_ ?_ ?_
      ·rw [hobj2,if_neg (Ne.symm hbj),if_neg hjn,if_pos rfl]
      ·rw [<- hset,List.getElem?_set_self hil]
      ·intro x; rw [List.set_set]
      ·rw [hobj2,if_pos rfl]
      ·rw [List.length_set]; exact hcl
      ·refine ⟨fun t c hc k1 hk1=>hn.1 t c hc k1 hk1,fun x c hc k1 hk1 => ?_⟩
       rw [hobj2] at hc
       split at hc
       ·simp only [Ob.acs] at hc
        rcases List.mem_or_eq_of_mem_set hc with hc | rfl
        ·exact hn.2 b c (by rw [hb]; exact hc) k1 hk1
        ·cases hk1
       ·split at hc
        ·simp [Ob.acs] at hc
        ·split at hc
         ·simp [Ob.acs] at hc
         ·exact hn.2 x c hc k1 hk1
      ·refine ⟨fun arr ty bj hheap hbk k1 i1 p1 hk1 v hv => ?_⟩
       rw [hblk] at hheap
       rw [hsl] at hbk
       exact hh.row arr ty bj hheap hbk k1 i1 p1 hk1 v hv
     ·cases hp
    ·cases hp
   ·cases hp
  ·cases hp
def Yqr (s:St):Ghost->Option (List Prop × St)
 | .pull b e l=>match s.obj b with
  | .box cs0=>(match Ytf cs0 with
   | some (j,i)=>(match s.obj j,Nat.beq b j with
    | .arr true sz es,false=>(match Yyw b j i sz es cs0 l (s.inval [j]) e (cs0.map (Yhw [j])) with
     | some (ps,s2)=>some ((es[i]? = some e) :: ps,s2)
     | none=>none)
    | _,_=>none)
   | none=>none)
  | _=>none
 | _=>none
theorem Ytm (h:Rel E s ι a w) {g:Ghost} {ps:List Prop} {s2:St} {K:Prop} (e:Yqr s g=some (ps,s2)) (hK:Y15q ps K):K/\∃ ι',Rel E s2 ι' a w:=by
 unfold Yqr at e
 split at e
 ·rename_i b e0 l
  split at e
  ·rename_i cs0 hb
   split at e
   ·rename_i j i hfs
    split at e
    ·rename_i sz es hj hbj
     split at e
     ·rename_i ps' s2' hp
      simp only [Option.some.injEq,Prod.mk.injEq] at e
      obtain ⟨rfl,rfl⟩:=e
      obtain ⟨he,hK⟩:=hK
      have hne:b≠j:=Nat.ne_of_beq_eq_false hbj
      refine Y11r hne hp hK (h.inval [j]) (esc:=es) ?_ he (fun _=>rfl) ?_ ?_ ?_ ?_
      ·rw [Ygl,hj]; rfl
      ·rw [Ygl,hb]; rfl
      ·rw [List.length_map]
      ·refine ⟨fun t c hc k hk => ?_,fun k c hc k' hk' => ?_⟩
       ·rw [Yko] at hc
        have:=Ym2 _ hc hk
        simpa using this
       ·rw [Ygl] at hc
        cases hk:s.obj k with
        | box cs=>rw [hk] at hc; simp [Ygk,Ob.acs] at hc; obtain ⟨y,_,rfl⟩:=hc; have:=Yk3 _ hk'; simpa using this
        | free=>rw [hk] at hc; simp [Ygk,Ob.acs] at hc
        | dead=>rw [hk] at hc; simp [Ygk,Ob.acs] at hc
        | map _ _ _=>rw [hk] at hc; simp [Ygk,Ob.acs] at hc
        | arr _ _ _=>rw [hk] at hc; simp [Ygk,Ob.acs] at hc
      ·refine ⟨fun arr ty bj hheap hbk k i1 p1 hk v hv => ?_⟩
       have hob:=h.objs b
       rw [hb] at hob
       obtain ⟨_,arr2,ty2,hheap2,r3⟩:=hob
       rw [hheap] at hheap2
       simp only [Option.some.injEq,Obj.cells.injEq] at hheap2
       obtain ⟨rfl,_,_⟩:=hheap2
       have hc:=r3.get hk hv
       obtain ⟨b2,hb2,_,hcell⟩:=hc.1.2 _ _ _ hj
       rw [hbk] at hb2
       simp only [Option.some.injEq] at hb2
       subst hb2
       exact hcell
     ·cases e
    ·cases e
   ·cases e
  ·cases e
 ·cases e
end
end Go.Proofs.YtclpofblehlojaaGreat.Ab
end
section
namespace Go.Proofs.YtclpofblehlojaaGreat.Ab
open Go
def Ynx (s:St):Ghost->Option St
 | .sel ids keep=>match Yys s.m ids with
  | true=>some (s.sel ids keep)
  | false=>none
 | .lock id=>match s.obj id with
  | .arr _ _ es=>some (s.lock id es)
  | _=>none
 | .nilreg t own sz=>Y12x s t own sz
 | .nilbox id k own sz=>Y14f s id k own sz
 | .nilmreg t k=>Y112 s t k
 | .nilmbox id j k=>Y10o s id j k
 | .move id=>Y16k s id
 | .blank id k=>match s.obj id with
  | .box cs=>match cs[k]? with
   | some _=>some (s.setOb id (.box (cs.set k .top)))
   | none=>none
  | _=>none
 | .cap t id=>match s.reg t with
  | .sv (.one (.ptr id' 0))=>(match Nat.beq id' id with
   | true=>(match s.obj id with
    | .box [.val (.lit v)]=>some ((s.setOb id .dead).put (some t) (.sv (.one (.val (.cap v)))))
    | _=>none)
   | false=>none)
  | _=>none
 | .pull _ _ _=>none
def Yi7:List Orc->St->(St->List Orc->Prop)->Prop
 | .ghost g :: q,s,k=>match Ynx s g with
  | some s'=>Yi7 q s' k
  | none=>match Yqr s g with
   | some (ps,s')=>Y15q ps (Yi7 q s' k)
   | none=>StuckGhost s g
 | q,s,k=>k s q
section
variable {P:Program} {E:Ent P} {s:St} {ι:Interp} {a:Act} {w:World}
theorem Rel.capBox (h:Rel E s ι a w) {t id:Nat} {v:Value} (ht:s.reg t=.sv (.one (.ptr id 0))) (ho:s.obj id=.box [.val (.lit v)]) :
  ∃ ι',Rel E ((s.setOb id .dead).put (some t) (.sv (.one (.val (.cap v))))) ι' a w:=by
 let ι':Interp:={ ι with G:=fun b=>ι.G b ∨ ι.fp id b,fp:=fun i b=>i≠id/\ι.fp i b }
 have hlt:id<s.objs.length:=Ygp ho (by simp)
 have hob:=h.objs id
 rw [ho] at hob
 obtain ⟨hfp,arr,ty,hheap,ha⟩:=hob
 have hx:Ext (fun _=>True) w ι s.obj w ι' (s.setOb id .dead).obj:=by
  refine ⟨fun b hb=>⟨.inl hb,rfl⟩,fun i => ?_⟩
  rw [Yg5 hlt]
  by_cases hi:i=id
  ·subst hi; rw [if_pos rfl,ho]; trivial
  ·rw [if_neg hi]
   cases e:s.obj i with
   | free=>trivial
   | dead=>trivial
   | box cs=>rfl
   | arr o1 s1 e1=>exact ⟨rfl,rfl,fun _ b hb=>⟨.inl ⟨hi,hb⟩,rfl⟩⟩
   | map _ _ _=>exact ⟨rfl,rfl,rfl,fun _ b hb=>⟨.inl ⟨hi,hb⟩,rfl⟩⟩
 have hr:=h.regs t
 rw [ht] at hr
 have hp:=hr.1.2 _ ho
 obtain ⟨u,hu,hcu⟩:∃ u,arr.toList=[u]/\Yi9 w ι s.obj (.val (.lit v)) u:=by
  cases hl:arr.toList with
  | nil=>rw [hl] at ha; exact ha.elim
  | cons u r=>
   rw [hl] at ha
   cases r with
   | nil=>exact ⟨u,rfl,ha.1⟩
   | cons y r=>exact ha.2.elim
 obtain ⟨rfl,hlit⟩:=Rd.lit_inv (show Rd w ι.G u (.lit v) from hcu.1)
 have hcell:w.cell? ⟨ι.blk id,0,none⟩=some u:=by
  rw [cell_of_row w _ _ arr ty (0,0) hheap]
  have:arr[0]? = some u:=by rw [<- Array.getElem?_toList,hu]; rfl
  simpa using this
 have hstep:Rel E (s.setOb id .dead) ι' a w:=by
  refine Rel.step h hx (fun t=>.inl ⟨rfl,fun _ _ _ _=>trivial⟩) rfl rfl (fun i => ?_) ?_ ?_ ?_ ?_ ?_ (fun _ _ _=>rfl) (Nat.le_refl _) rfl rfl (hG := ?_)
  ·right
   rw [Yg5 hlt]
   by_cases hi:i=id
   ·rw [if_pos hi]; rintro b ⟨h1,_⟩; exact h1 hi
   ·rw [if_neg hi]
    have:=h.objs i
    cases e:s.obj i with
    | free=>rw [e] at this; exact fun b hb=>this b hb.2
    | dead=>rw [e] at this; exact fun b hb=>this b hb.2
    | box cs=>
     rw [e] at this
     obtain ⟨r1,arr1,ty1,r2,r3⟩:=this
     exact ⟨⟨hi,r1⟩,arr1,ty1,r2,r3.imp fun c x hcx=>⟨Ygx.ext hx (fun _ _=>trivial) hcx.1,hcx.2⟩⟩
    | arr o1 s1 e1=>
     rw [e] at this
     have hf:ι'.fp i=ι.fp i:=by funext b; simp [ι',hi]
     show Ygs w (Yhm w ι'.G o1) s1 (ι'.fp i) (ι.sl i) e1
     rw [hf]
     exact Ygs.mono this (fun b hb=>⟨.inl hb,rfl⟩) fun _ _=>rfl
    | map nn k f=>
     rw [e] at this
     cases nn with
     | true=>exact ⟨fun b hb=>this.1 b hb.2,this.2⟩
     | false=>exact Yhu.mono this (fun x hx=>⟨hi,hx⟩) fun _ _=>rfl
  ·exact fun i j b hij hi hj=>h.disj i j b hij hi.2 hj.2
  ·rintro i b hi (hg | hg)
   ·exact h.gfp i b hi.2 hg
   ·exact h.disj i id b hi.1 hi.2 hg
  ·exact fun i b hi=>h.own i b hi.2
  ·exact fun i b hi=>h.lt i b hi.2
  ·rintro b (hb | hb)
   ·exact h.glt b hb
   ·exact h.lt id b hb
  ·rintro b (hb | hb)
   ·exact .inl hb
   ·exact .inr (.inl ⟨id,hb⟩)
 have:=Rel.put hstep (some t) (x:=.sv (.one (.val (.cap u)))) (v:=a.tmps.getD t undef) (by
  rw [hp]
  exact ⟨.cap (.inr hfp) hlit hcell,fun _=>rfl⟩)
 rw [Yo8] at this
 exact ⟨ι',this⟩
theorem Yht:∀ {q:List Orc} {s:St} {k:St->List Orc->Prop} {ι:Interp},Yi7 q s k->Rel E s ι a w->∃ s' q' ι',k s' q'/\Rel E s' ι' a w
 | [],s,k,ι,hx,h=>⟨_,_,_,hx,h⟩
 | o :: q,s,k,ι,hx,h=>by
  cases o with
  | ghost g=>
   simp only [Yi7] at hx
   split at hx
   ·rename_i s' he
    cases g with
    | sel ids keep=>
     simp only [Ynx] at he
     split at he
     ·rename_i hok
      simp only [Option.some.injEq] at he; subst he
      exact Yht hx (h.sel keep hok)
     ·cases he
    | lock id=>
     simp only [Ynx] at he
     split at he
     ·rename_i ho
      simp only [Option.some.injEq] at he; subst he
      obtain ⟨ι',h'⟩:=h.lock ho
      exact Yht hx h'
     ·cases he
    | nilreg t own sz=>
     obtain ⟨ι',h'⟩:=Y1ce h he
     exact Yht hx h'
    | nilbox id k own sz=>
     obtain ⟨ι',h'⟩:=Y1aw h he
     exact Yht hx h'
    | nilmreg t k=>
     obtain ⟨ι',h'⟩:=Y17c h he
     exact Yht hx h'
    | nilmbox id j k=>
     obtain ⟨ι',h'⟩:=Y17k h he
     exact Yht hx h'
    | move id=>
     obtain ⟨ι',h'⟩:=Y1ca h he
     exact Yht hx h'
    | blank id k=>
     simp only [Ynx] at he
     split at he
     ·rename_i cs ho
      split at he
      ·rename_i c hc
       simp only [Option.some.injEq] at he; subst he
       exact Yht hx (h.recell ho hc fun _ _=>trivial)
      ·cases he
     ·cases he
    | cap t id=>
     simp only [Ynx] at he
     split at he
     ·rename_i id' ht
      split at he
      ·rename_i hid
       obtain rfl:=Nat.eq_of_beq_eq_true hid
       split at he
       ·rename_i v ho
        simp only [Option.some.injEq] at he; subst he
        obtain ⟨ι',h'⟩:=h.capBox ht ho
        exact Yht hx h'
       ·cases he
      ·cases he
     ·cases he
    | pull b e l=>cases he
   ·split at hx
    ·rename_i ps s' he
     obtain ⟨hx,ι',h'⟩:=Ytm h he hx
     exact Yht hx h'
    ·cases hx
  | _=>exact ⟨_,_,_,hx,h⟩
def Yxz (k:Nat):List AV->Nat
 | []=>0
 | x :: r=>match x with
  | .sv (.one (.ref j))=>(match Nat.beq j k with | true=>Yxz k r+1 | false=>Yxz k r)
  | _=>Yxz k r
def Y1bl (s:St) (o:Oper):Option (Nat × Nat × List (List Cell)):=
 match o.op with
 | .call { callee:=.builtin .append,args:=args,.. }=>match args.toList with
  | [_,.tmp t]=>match s.reg t with
   | .sv (.one (.ref k))=>match s.obj k with
    | .arr true 1 es=>(match Nat.ble 3 (Yxz k s.regs) with | true=>some (t,k,es) | false=>none)
    | _=>none
   | _=>none
  | _=>none
 | _=>none
theorem Rel.view (h:Rel E s ι a w) {t id sz:Nat} {own:Bool} {es:List (List Cell)} (ht:s.reg t=.sv (.one (.ref id))) (ho:s.obj id=.arr own sz es):Rel E (s.put (some t) (.sv (.one (.bor id (.list es))))) ι a w:=by
 have hv:=h.regs t
 rw [ht] at hv
 have hob:=h.objs id
 rw [ho] at hob
 have he:a.tmps.getD t undef=ι.sl id:=hv.1.2 _ _ _ ho
 have hr:=Ygs.rd (show Ygs w (Yhm w ι.G own) sz (ι.fp id) (ι.sl id) es from hob)
 have:=Rel.put h (some t) (x:=.sv (.one (.bor id (.list es)))) (v:=a.tmps.getD t undef) ⟨⟨hv.1.1,fun _=>by rw [he]; exact hr⟩,fun _=>hv.2 (by simp)⟩
 rw [Yo8] at this
 exact this
theorem Y1gm {o:Oper} {t k:Nat} {es:List (List Cell)} (e:Y1bl s o=some (t,k,es)):s.reg t=.sv (.one (.ref k))/\s.obj k=.arr true 1 es:=by
 unfold Y1bl at e
 split at e
 ·split at e
  ·split at e
   ·rename_i ht
    split at e
    ·rename_i ho
     split at e
     ·simp only [Option.some.injEq,Prod.mk.injEq] at e
      obtain ⟨rfl,rfl,rfl⟩:=e
      exact ⟨ht,ho⟩
     ·cases e
    ·cases e
   ·cases e
  ·cases e
 ·cases e
def Y1gd (o:Oper) (q:List Orc) (s:St) (k:St->List Orc->Prop):Prop:=
 match o.op with
 | .call { callee:=.value _,.. }=>Yi7 q s k
 | .makeFunc .. => Yi7 q s k
 | _=>match Y1bl s o with
  | none=>k s q
  | some (t,id,es)=>match q with
   | .bool true :: q'=>k (s.put (some t) (.sv (.one (.bor id (.list es))))) q'
   | .bool false :: q'=>k s q'
   | _=>StuckPull s o
theorem Y1he {o:Oper} {q:List Orc} {k:St->List Orc->Prop} (hx:Y1gd o q s k) (h:Rel E s ι a w):∃ s' q' ι',k s' q'/\Rel E s' ι' a w:=by
 unfold Y1gd at hx
 split at hx
 ·exact Yht hx h
 ·exact Yht hx h
 ·split at hx
  ·exact ⟨_,_,_,hx,h⟩
  ·rename_i t id es e
   have hv:=Y1gm e
   split at hx
   ·exact ⟨_,_,_,hx,h.view hv.1 hv.2⟩
   ·exact ⟨_,_,_,hx,h⟩
   ·cases hx
def Y1h1 (s:St) (o:Oper):Bool:=
 match o.op with
 | .store _ (.tmp p) (.tmp v)=>(match s.reg v,s.reg p with
  | .sv (.agg cs),.sv (.one (.ptr b _))=>(match Ytf cs,s.obj b with
   | some _,.box _=>true
   | _,_=>false)
  | _,_=>false)
 | _=>false
def Y1an (o:Oper) (q:List Orc) (s:St) (k:St->List Orc->Prop):Prop:=
 match Y1h1 s o with
 | false=>k s q
 | true=>match q with
  | .ghost g :: q'=>(match Yqr s g with
   | some (ps,s')=>Y15q ps (k s' q')
   | none=>StuckGhost s g)
  | .bool _ :: q'=>k s q'
  | _=>StuckPull s o
theorem Y1dk {o:Oper} {q:List Orc} {k:St->List Orc->Prop} (hx:Y1an o q s k) (h:Rel E s ι a w):∃ s' q' ι',k s' q'/\Rel E s' ι' a w:=by
 unfold Y1an at hx
 split at hx
 ·exact ⟨_,_,_,hx,h⟩
 ·split at hx
  ·split at hx
   ·rename_i ps s' he
    obtain ⟨hx,ι',h'⟩:=Ytm h he hx
    exact ⟨_,_,_,hx,h'⟩
   ·cases hx
  ·exact ⟨_,_,_,hx,h⟩
  ·cases hx
def Ywt (P:Program) (ops:Array Oper):List Nat->St->List Orc->(St->List Orc->Prop)->Prop
 | [],s,q,k=>k s q
 | i :: rest,s,q,k=>match ops[i]? with
  | none=>Ywt P ops rest s q k
  | some o=>match Ymd ops s o with
   | none=>StuckGuard s o
   | some false=>Ywt P ops rest (s.put o.dst (.tup [])) q k
   | some true=>Y1gd o q s fun s q=>match Y1g5 P (s.grow (Yhy o)) o s.objs.length q with
    | none=>StuckOp s o s.objs.length
    | some (r,it,q')=>VC it (fSt ((((s.grow (Yhy o)).app s.objs.length r).put o.dst r.val).shrink) fun s=>Y10h (Y1iy ops i) o.dst s q' (fun s q=>Y1an o q s fun s q=>Ywt P ops rest s q k))
theorem Ypd {ops:Array Oper} {Q:Exit->Act->World->Prop}:∀ {l:List Nat} {s:St} {q:List Orc} {k:St->List Orc->Prop} {ι:Interp} {a:Act} {w:World},
  Ywt P ops l s q k->Rel E s ι a w->(∀ s' q' ι' a' w',k s' q'->Rel E s' ι' a' w'->Q .normal a' w')->wpOps P ops Q l a w
 | [],s,q,k,ι,a,w,hx,h,hk=>hk _ _ _ _ _ hx h
 | i :: rest,s,q,k,ι,a,w,hx,h,hk=>by
  unfold Ywt at hx
  unfold wpOps
  split at hx
  ·rename_i ho; simp only [ho]; exact Ypd hx h hk
  ·rename_i o ho
   simp only [ho]
   split at hx
   ·cases hx
   ·rename_i hw
    rw [Ypj h hw]
    simp only [Bool.false_eq_true,if_false]
    exact Ypd hx (Rel.put h o.dst Y11n) hk
   ·rename_i hw
    rw [Ypj h hw]
    simp only [if_true]
    obtain ⟨s,q,ι,hx,h⟩:=Y1he hx h
    split at hx
    ·cases hx
    ·rename_i r it q' he
     rw [Yps] at hx
     obtain ⟨h1,h2⟩:=Y1bc (h.grow (Yhy o)) he hx (Yr3 s _)
     left
     refine h1 _ _ fun ι' v w' hr hv => ?_
     obtain ⟨s',q'',hk',hr'⟩:=Y17b (Rel.shrink (Rel.put hr o.dst hv)) h2
     obtain ⟨s2,q2,ι2,hk2,hr2⟩:=Y1dk hk' hr'
     exact Ypd hk2 hr2 hk
end
end Go.Proofs.YtclpofblehlojaaGreat.Ab
end
section
namespace Go.Proofs.YtclpofblehlojaaGreat.Ab
open Go
def AEx.to:AEx->Exit
 | .normal=>.normal
 | .exit i=>.exit i
 | .ret=>.ret
abbrev Y113:=List (Prop × AEx × St × List Orc)
abbrev Y10b:=List (Prop × AEx × St)
def ways:Y113->Y10b
 | []=>[]
 | (p,e,s,_) :: r=>(p,e,s) :: ways r
theorem Y167:∀ {l:Y113} {o:Prop × AEx × St},o∈ways l->∃ x∈l,x.1=o.1/\x.2.1=o.2.1/\x.2.2.1=o.2.2
 | (p,e,s,q) :: r,o,h=>by
  rcases List.mem_cons.1 h with rfl | h
  ·exact ⟨_,List.mem_cons_self,rfl,rfl,rfl⟩
  ·obtain ⟨x,h1,h2⟩:=Y167 h
   exact ⟨x,List.mem_cons_of_mem _ h1,h2⟩
def Yo2 (P:Program) (c:Code) (I:Nat->St->Prop) (outs:Y10b):Prop:=
 ∀ (E:Ent P) (m:Nat) (s:St) (ι:Interp) (a:Act) (w:World),I m s->Rel E s ι a w->c.wp P (fun e a' w'=>∃ s' ι',Rel E s' ι' a' w' /\
  ((e=.normal/\∃ m',m'<m/\I m' s') ∨ ∃ o∈outs,o.1/\e=o.2.1.to/\e≠.normal/\o.2.2=s')) a w
def Y1ae (k:AEx->St->List Orc->Prop):Y113->Prop
 | []=>True
 | o :: r=>(o.1->k o.2.1 o.2.2.1 o.2.2.2)/\Y1ae k r
theorem Y12f {k:AEx->St->List Orc->Prop}:∀ {l:Y113},Y1ae k l->∀ {o},o∈l->o.1->k o.2.1 o.2.2.1 o.2.2.2
 | x :: l,h,o,hm,ho=>by
  rcases List.mem_cons.1 hm with rfl | hm
  ·exact h.1 ho
  ·exact Y12f h.2 hm ho
def Y1me:AEx->AEx->Bool
 | .ret,.ret=>true
 | .exit i,.exit j=>Nat.beq i j
 | _,_=>false
theorem Y1a0:∀ {x y:AEx},Y1me x y=true->x=y
 | .ret,.ret,_=>rfl
 | .exit i,.exit j,h=>by rw [Nat.eq_of_beq_eq_true h]
 | .normal,_,h=>by cases h
 | .exit _,.normal,h=>by cases h
 | .exit _,.ret,h=>by cases h
 | .ret,.normal,h=>by cases h
 | .ret,.exit _,h=>by cases h
def Y1b4 (I:Nat->St->Prop) (outs:Y10b) (m:Nat):AEx->St->List Orc->Prop
 | .normal,s,q=>Yi7 q s fun s q=>match q with
  | .goto m' t :: _=>m'<m/\s=t/\I m' t
  | _=>StuckOut .normal s
 | e,s,q=>Yi7 q s fun s q=>match q with
  | .out i :: _=>match outs[i]? with
   | some o=>match Y1me o.2.1 e with
    | true=>o.1/\s=o.2.2
    | false=>False
   | none=>False
  | _=>StuckOut e s
def Y135 {σ:Type} (head:σ->St) (inv:σ->Prop) (meas:σ->Nat) (m:Nat) (s:St):Prop:=∃ k,inv k/\m=meas k/\s=head k
theorem Y135.mk {σ:Type} {head:σ->St} {inv:σ->Prop} {meas:σ->Nat} {k:σ} (h:inv k):Y135 head inv meas (meas k) (head k):=⟨k,h,rfl,rfl⟩
def Y1bv (b:Bool) (q:List Orc) (x y:List Orc->Prop):Prop:=
 match q with
 | .bool true :: q=>b=true/\x q
 | .bool false :: q=>b=false/\y q
 | .br l r :: _=>(b=true->x l)/\(b=false->y r)
 | _=>StuckB b
def Y1c3 (s:St) (c:Operand) (b:Bool):St:=match c with
 | .tmp t=>s.put (some t) (Yrf b)
 | _=>s
def Ykd (P:Program):Code->St->List Orc->(AEx->St->List Orc->Prop)->Prop
 | .skip,s,q,k=>k .normal s q
 | .region _ ops false,s,q,k=>Ywt P ops (List.range ops.size) s q (k .normal)
 | .region _ ops true,s,q,k=>match q with
  | .draw tids :: q=>Y1bm P ops tids s q (k .normal)
  | .drawT p1 q1 c1 tids :: q=>Y15r P ops p1 q1 c1 tids s q (k .normal)
  | _=>StuckReg s ops
 | .seq x y,s,q,k=>Ykd P x s q fun e s q=>match e with
  | .normal=>Ykd P y s q k
  | e=>k e s q
 | .cond c x y,s,q,k=>match s.lit c with
  | some (.bool b)=>Y1bv b q (fun q=>Ykd P x (Y1c3 s c true) q k) (fun q=>Ykd P y (Y1c3 s c false) q k)
  | _=>StuckCond s c
 | .block id c,s,q,k=>Ykd P c s q fun e s q=>match e with
  | .exit i=>match Nat.beq i id with
   | true=>k .normal s q
   | false=>k (.exit i) s q
  | e=>k e s q
 | .exit i,s,q,k=>k (.exit i) s q
 | .ret,s,q,k=>k .ret s q
 | .loop c,s,q,k=>Yi7 q s fun s q=>match q with
  | .loop m t I outs :: _=>s=t/\I m t/\Yo2 P c I (ways outs)/\Y1ae k outs
  | _=>StuckLoop s c
 | c,_,_,_=>StuckCode c
section
variable {P:Program} {E:Ent P} {s:St} {ι:Interp} {a:Act} {w:World}
theorem Y17l {b:Bool} {q:List Orc} {x y:List Orc->Prop} (h:Y1bv b q x y):(b=true/\∃ q',x q') ∨ (b=false/\∃ q',y q'):=by
 unfold Y1bv at h
 split at h
 ·exact .inl ⟨h.1,_,h.2⟩
 ·exact .inr ⟨h.1,_,h.2⟩
 ·cases b
  ·exact .inr ⟨rfl,_,h.2 rfl⟩
  ·exact .inl ⟨rfl,_,h.1 rfl⟩
 ·cases h
theorem Y11p (h:Rel E s ι a w) {c:Operand} {b:Bool} (hb:a.eval c=.bool b):Rel E (Y1c3 s c b) ι a w:=by
 cases c with
 | tmp t=>
  have hb':a.tmps.getD t undef=.bool b:=by simpa [Act.eval] using hb
  have:=Rel.put h (some t) (x:=Yrf b) (v:=a.tmps.getD t undef) (by rw [hb']; exact ⟨.lit trivial,fun _=>rfl⟩)
  rw [Yo8] at this
  exact this
 | _=>exact h
theorem Yw1 {c:Code} {I:Nat->St->Prop} {outs:Y10b} (hl:Yo2 P c I outs) {Q:Exit->Act->World->Prop}
  (hQ:∀ o∈outs,o.1->∀ ι a w,o.2.1.to≠.normal->Rel E o.2.2 ι a w->Q o.2.1.to a w) :
  ∀ (N m:Nat) (s:St) (ι:Interp) (a:Act) (w:World),m<N->I m s->Rel E s ι a w->Code.rounds P c Q N a w
 | 0,m,s,ι,a,w,hm,_,_=>absurd hm (Nat.not_lt_zero _)
 | N+1,m,s,ι,a,w,hm,hI,h=>by
  rw [rounds_succ]
  refine Code.wp_mono ?_ (hl E m s ι a w hI h)
  rintro e a' w' ⟨s',ι',h',(⟨rfl,m',hm',hI'⟩ | ⟨o,ho,hp,rfl,hn,rfl⟩)⟩
  ·exact Yw1 hl hQ N m' s' ι' a' w' (by omega) hI' h'
  ·have:=hQ o ho hp ι' a' w' hn h'
   cases e:o.2.1 with
   | normal=>rw [e] at hn; exact absurd rfl hn
   | exit i=>rw [e] at this; exact this
   | ret=>rw [e] at this; exact this
theorem Ywc (hm:P.follows .mixedOrders=true):∀ (c:Code) {s:St} {q:List Orc} {k:AEx->St->List Orc->Prop} {ι:Interp} {a:Act} {w:World},
  Ykd P c s q k->Rel E s ι a w->c.wp P (fun e a' w'=>∃ ex s' q' ι',e=ex.to/\k ex s' q'/\Rel E s' ι' a' w') a w:=by
 intro c
 induction c with
 | skip=>intro s q k ι a w hx h; exact wp_skip ⟨.normal,_,_,_,rfl,hx,h⟩
 | region id ops draw=>
  intro s q k ι a w hx h
  cases draw with
  | true=>
   simp only [Ykd] at hx
   split at hx
   ·exact Y17f hm hx h fun s' q' ι' a' w' hk hr=>⟨.normal,_,_,_,rfl,hk,hr⟩
   ·exact Y178 hm hx h fun s' q' ι' a' w' hk hr=>⟨.normal,_,_,_,rfl,hk,hr⟩
   ·cases hx
  | false=>
   exact wp_region (Ypd (show Ywt P ops (List.range ops.size) s q (k .normal) from hx) h fun s' q' ι' a' w' hk hr=>⟨.normal,_,_,_,rfl,hk,hr⟩)
 | seq x y ihx ihy=>
  intro s q k ι a w hx h
  refine wp_seq (Code.wp_mono ?_ (ihx (show Ykd P x s q _ from hx) h))
  rintro e a' w' ⟨ex,s',q',ι',rfl,hk,hr⟩
  cases ex with
  | normal=>exact ihy hk hr
  | exit i=>exact ⟨.exit i,_,_,_,rfl,hk,hr⟩
  | ret=>exact ⟨.ret,_,_,_,rfl,hk,hr⟩
 | cond c x y ihx ihy=>
  intro s q k ι a w hx h
  simp only [Ykd] at hx
  split at hx
  ·rename_i b hb
   have hc:=(Yjw h hb).1
   rcases Y17l hx with ⟨rfl,q',hx⟩ | ⟨rfl,q',hx⟩
   ·exact wp_cond_true hc (ihx hx (Y11p h hc))
   ·exact wp_cond_false hc (ihy hx (Y11p h hc))
  ·cases hx
 | block id c ih=>
  intro s q k ι a w hx h
  refine wp_block (Code.wp_mono ?_ (ih (show Ykd P c s q _ from hx) h))
  rintro e a' w' ⟨ex,s',q',ι',rfl,hk,hr⟩
  cases ex with
  | normal=>exact ⟨.normal,_,_,_,rfl,hk,hr⟩
  | exit i=>
   simp only [AEx.to,Exit.inBlock]
   simp only at hk
   split at hk
   ·rename_i hb
    rw [if_pos (Nat.eq_of_beq_eq_true hb)]
    exact ⟨.normal,_,_,_,rfl,hk,hr⟩
   ·rename_i hb
    rw [if_neg (Nat.ne_of_beq_eq_false hb)]
    exact ⟨.exit i,_,_,_,rfl,hk,hr⟩
  | ret=>exact ⟨.ret,_,_,_,rfl,hk,hr⟩
 | exit i=>intro s q k ι a w hx h; exact wp_exit ⟨.exit i,_,_,_,rfl,hx,h⟩
 | ret=>intro s q k ι a w hx h; exact wp_ret ⟨.ret,_,_,_,rfl,hx,h⟩
 | loop c ih=>
  intro s q k ι a w hx h
  obtain ⟨s',q',ι',hx,h⟩:=Yht (show Yi7 q s _ from hx) h
  split at hx
  ·rename_i m t I outs q1
   obtain ⟨rfl,h1,h2,h3⟩:=hx
   exact wp_loop_rounds (m+1) (Yw1 h2 (fun o ho hp ι a w hn hr=>by
    obtain ⟨x,hx,e1,e2,e3⟩:=Y167 ho
    rw [<- e1] at hp; rw [<- e3] at hr; rw [<- e2]
    exact ⟨_,_,_,_,rfl,Y12f h3 hx hp,hr⟩) (m+1) m s' ι' a w (Nat.lt_succ_self _) h1 h)
  ·cases hx
 | _=>intro s q k ι a w hx h; cases (show StuckCode _ from hx)
theorem Yo2.intro (hm:P.follows .mixedOrders=true) {c:Code} {I:Nat->St->Prop} {outs:Y10b} (h:∀ m s,I m s->∃ q,Ykd P c s q (Y1b4 I outs m)):Yo2 P c I outs:=by
 intro E m s ι a w hI hr
 obtain ⟨q,hx⟩:=h m s hI
 refine Code.wp_mono ?_ (Ywc hm c hx hr)
 rintro e a' w' ⟨ex,s',q',ι',rfl,hk,hr'⟩
 cases ex with
 | normal=>
  obtain ⟨s2,q2,ι2,hk,hr2⟩:=Yht (show Yi7 q' s' _ from hk) hr'
  split at hk
  ·obtain ⟨h1,rfl,h3⟩:=hk
   exact ⟨s2,ι2,hr2,.inl ⟨rfl,_,h1,h3⟩⟩
  ·cases hk
 | exit i=>
  obtain ⟨s2,q2,ι2,hk,hr2⟩:=Yht (show Yi7 q' s' _ from hk) hr'
  split at hk
  ·split at hk
   ·rename_i o ho
    split at hk
    ·rename_i hb
     exact ⟨s2,ι2,hr2,.inr ⟨o,List.mem_of_getElem? ho,hk.1,by rw [Y1a0 hb],by simp [AEx.to],hk.2.symm⟩⟩
    ·cases hk
   ·cases hk
  ·cases hk
 | ret=>
  obtain ⟨s2,q2,ι2,hk,hr2⟩:=Yht (show Yi7 q' s' _ from hk) hr'
  split at hk
  ·split at hk
   ·rename_i o ho
    split at hk
    ·rename_i hb
     exact ⟨s2,ι2,hr2,.inr ⟨o,List.mem_of_getElem? ho,hk.1,by rw [Y1a0 hb],by simp [AEx.to],hk.2.symm⟩⟩
    ·cases hk
   ·cases hk
  ·cases hk
end
end Go.Proofs.YtclpofblehlojaaGreat.Ab
end
section
namespace Go.Proofs.YtclpofblehlojaaGreat.Ab
open Go
def Y1b0 (P:Program) (s:St):ResultVar->Option SV
 | .tmp t=>match s.reg t with | .sv x=>some x | _=>none
 | .cell ad T=>match s.ac (.tmp ad),Yix P T,Ywq P T with
  | some c,some n,some ag=>match readAt s c n [] with
   | some (l,[],_)=>Y16v ag l
   | _=>none
  | _,_,_=>none
def Yxi (P:Program) (s:St):List ResultVar->Option (List SV)
 | []=>some []
 | r :: l=>match Y1b0 P s r,Yxi P s l with
  | some x,some y=>some (x :: y)
  | _,_=>none
def Y1g0:List SV->AV
 | [x]=>.sv x
 | l=>.tup l
def Yvm (a b:List Ob):Prop:=a=b
def Y1gn (P:Program) (rs:List ResultVar) (objs1:List Ob) (res:AV):AEx->St->List Orc->Prop
 | .exit _,_,_=>False
 | _,s,q=>Yi7 q s fun s q=>match q with
  | .fin ids :: _=>match Yys s.m (List.range s.m++ids),Yxi P s rs with
   | true,some l=>Yvm ((List.range s.m++ids).map (fun i=>(s.obj i).sel (List.range s.m++ids))) objs1/\(Y1g0 l).sel (List.range s.m++ids)=res
   | _,_=>StuckFin s
  | _=>StuckFin s
section
variable {P:Program} {E:Ent P} {s:St} {ι:Interp} {a:Act} {w:World}
def Yxh (tmps:Array Value):ResultVar->Sem Value
 | .tmp t=>pure (tmps.getD t undef)
 | .cell ad t=>do loadVar t (<- asAddr (tmps.getD ad undef))
theorem Y1fz (h:Rel E s ι a w) {r:ResultVar} {x:SV} (e:Y1b0 P s r=some x):∃ v,(Yxh a.tmps r).run P w=.ok v w/\Yh5 w ι s.obj x v:=by
 cases r with
 | tmp t=>
  simp only [Y1b0] at e
  have hr:=h.regs t
  split at e
  ·rename_i y hy
   simp only [Option.some.injEq] at e; subst e
   rw [hy] at hr
   exact ⟨_,by simp [Yxh],hr⟩
  ·cases e
 | cell ad T=>
  simp only [Y1b0] at e
  split at e
  ·rename_i c n ag hc hn hg
   split at e
   ·rename_i l q' hr
    obtain ⟨⟨b,off,xs,hp,hl,hx,ha⟩,_⟩:=Yun (K:=True) h hr (Yhe h hc) trivial
    have hp':a.tmps.getD ad undef=.pointer (some ⟨b,off,none⟩):=by rw [<- hp]; simp [Act.eval]
    have hlen:xs.length=n:=by rw [<- ha.length]; exact hl
    rcases Y157 e ha with ⟨rfl,hs⟩ | ⟨rfl,u,rfl,hs⟩
    ·refine ⟨_,?_,hs⟩
     simp only [Yxh,hp',asAddr,Sem.run_bind,Sem.run_pure,Result.andThen_ok]
     exact Ync hg hn hlen hx
    ·refine ⟨_,?_,hs⟩
     simp only [Yxh,hp',asAddr,Sem.run_bind,Sem.run_pure,Result.andThen_ok]
     exact Yqs hg (hx 0 u rfl)
   ·cases e
  ·cases e
theorem Y153 (h:Rel E s ι a w):∀ {rs:List ResultVar} {l:List SV},Yxi P s rs=some l->∃ vs,(rs.mapM (Yxh a.tmps)).run P w=.ok vs w/\Yg8 (Yh5 w ι s.obj) l vs
 | [],l,e=>by simp only [Yxi,Option.some.injEq] at e; subst e; exact ⟨[],by simp,trivial⟩
 | r :: rs,l,e=>by
  simp only [Yxi] at e
  split at e
  ·rename_i x y hx hy
   simp only [Option.some.injEq] at e; subst e
   obtain ⟨v,h1,h2⟩:=Y1fz h hx
   obtain ⟨vs,h3,h4⟩:=Y153 h hy
   refine ⟨v :: vs,?_,h2,h4⟩
   simp only [List.mapM_cons,Sem.run_bind,h1,Result.andThen_ok,h3,Sem.run_pure]
  ·cases e
theorem Y17h (h:Rel E s ι a w) {fn:Func} {rs:List ResultVar} (hf:fn.results=rs.toArray) {l:List SV} (e:Yxi P s rs=some l) :
  ∃ v,(results fn a.tmps).run P w=.ok v w/\Ygz w ι s.obj (Y1g0 l) v:=by
 obtain ⟨vs,h1,h2⟩:=Y153 h e
 have hm:(fn.results.mapM (Yxh a.tmps)).run P w=.ok vs.toArray w:=by
  rw [hf,List.mapM_toArray,map_eq_pure_bind,Sem.run_bind,h1]; rfl
 refine ⟨if hh:vs.toArray.size=1 then vs.toArray[0] else .tuple vs.toArray,?_,?_⟩
 ·have he:results fn a.tmps=(do let vs <- fn.results.mapM (Yxh a.tmps); pure (if h:vs.size=1 then vs[0] else .tuple vs)):=by
   unfold results
   congr 1
  rw [he,Sem.run_bind,hm]
  rfl
 ·match l,vs,h2 with
  | [],[],_=>exact ⟨#[],rfl,trivial⟩
  | [x],[v],h2=>exact (show Yh5 w ι s.obj x _ from by simpa using h2.1)
  | x :: y :: l,v :: u :: vs,h2=>exact ⟨(v :: u :: vs).toArray,by simp,h2⟩
def Yvl (objs0:List Ob) (args:List SV) (n:Nat):St:={ regs:=args.map AV.sv++List.replicate (n - args.length) Ynn,objs:=objs0,m:=objs0.length }
theorem Yjg.intro (hm : P.follows .mixedOrders = true) {f : FuncId} {fn : Func} {c : Code} {objs0 : List Ob} {args : List SV} {objs1 : List Ob} {res : AV} {rs : List ResultVar} (q : List Orc)
    (hc : ∀ xs w, (callFunc f xs).run P w = .ok (.enter f xs) w) (hf : P.funcs[f]? = some fn) (hb : fn.body = some c) (hr : fn.results = rs.toArray) {n : Nat} (hn : fn.ntmps = n)
    (h : Ykd P c (Yvl objs0 args n) q (Y1gn P rs objs1 res)) : Yjg P f objs0 args objs1 res := by
  refine ⟨hc, fun w ι vals hp hkn => ?_⟩
  refine calls_of_wp hf hb ?_
  have hal : args.length = vals.size := by simpa using hp.arg.length
  have hrel : Rel ⟨w, ι, Yhq objs0, hkn⟩ (Yvl objs0 args n) ι { tmps := vals ++ Array.replicate (fn.ntmps - vals.size) undef, defers := [] } w := by
    refine { len := ?_, defers := rfl, regs := fun t => ?_, objs := hp.obj, disj := hp.disj, gfp := hp.gfp, own := fun i b hi => .inl ⟨i, hi⟩, lt := hp.lt, glt := hp.glt, frame := fun _ _ _ => rfl, size := Nat.le_refl _, os := rfl, out := rfl,
             ent := fun i => ?_, gg := fun _ hb => hb, gown := fun _ hb => .inl hb, ment := fun i hi => ?_ }
    · simp [Yvl, hal, hn]
    · simp only [Yvl, St.reg, List.getD_eq_getElem?_getD, List.getElem?_append, List.getElem?_map, List.length_map, Array.getD_eq_getD_getElem?, Array.getElem?_append]
      by_cases ht : t < args.length
      · rw [if_pos ht, if_pos (by omega)]
        obtain ⟨v, hv, hrel⟩ := hp.arg.get_left (List.getElem?_eq_getElem ht)
        rw [List.getElem?_eq_getElem ht, <- Array.getElem?_toList, hv]
        exact hrel
      · rw [if_neg ht]
        rw [List.getElem?_replicate]
        split
        · exact Yn0
        · exact Yn0
    · show Yho w w ι ι False i (Yhq objs0 i) (Yhq objs0 i)
      cases Yhq objs0 i <;> simp [Yho]
    · show Yhq objs0 i = .free
      simp [Yhq, List.getElem?_eq_none (show objs0.length <= i from hi)]
  refine Code.wp_mono ?_ (Ywc hm c h hrel)
  rintro e a' w' ⟨ex, s', q', ι', rfl, hk, hr'⟩
  have main : ∀ {s' : St} {ι' : Interp} {q' : List Orc}, Yi7 q' s' (fun s q => match q with
    | .fin ids :: _ => match Yys s.m (List.range s.m ++ ids), Yxi P s rs with
      | true, some l => Yvm ((List.range s.m ++ ids).map (fun i => (s.obj i).sel (List.range s.m ++ ids))) objs1 /\ (Y1g0 l).sel (List.range s.m ++ ids) = res
      | _, _ => StuckFin s
    | _ => StuckFin s) -> Rel ⟨w, ι, Yhq objs0, hkn⟩ s' ι' a' w' ->
      a'.defers = [] /\ ∃ v, (results fn a'.tmps).run P w' = .ok v w' /\ ∃ v1 ι', Ending.returned v = .returned v1 /\ PostRel w ι objs0 objs1 res w' v1 ι' := by
    intro s' ι' q' hk hr'
    obtain ⟨s2, q2, ι2, hk, h2⟩ := Yht hk hr'
    split at hk
    · rename_i ids qq
      split at hk
      · rename_i l hok hl
        obtain ⟨rfl, rfl⟩ := hk
        obtain ⟨v, h3, h4⟩ := Y17h h2 hr hl
        refine ⟨h2.defers, v, h3, v, Yjb ι2 (List.range s2.m ++ ids), rfl, ?_⟩
        have h5 := h2.sel [] hok
        have hobj : (s2.sel (List.range s2.m ++ ids) []).obj = Yhq ((List.range s2.m ++ ids).map fun i => (s2.obj i).sel (List.range s2.m ++ ids)) := rfl
        have hs : Sel (List.range s2.m ++ ids) s2.obj (s2.sel (List.range s2.m ++ ids) []).obj := ⟨fun j i e => by
          rw [hobj]
          simp only [Yhq, List.getD_eq_getElem?_getD, List.getElem?_map, e]; rfl⟩
        exact { ext := h5.ent, obj := h5.objs, disj := h5.disj, gfp := h5.gfp, lt := h5.lt, glt := h5.glt, gg := h5.gg, gown := fun b hb => h5.gown b hb, own := fun j b hb => h5.own j b hb,
                frame := fun b hb hn => h5.frame b hb (fun ⟨i, hi⟩ => hn i hi), size := h5.size, os := h5.os, out := h5.out, val := Ygz.sel hs h4 }
      · cases hk
    · cases hk
  cases ex with
  | normal => exact main hk hr'
  | exit i => exact hk.elim
  | ret => exact main hk hr'
end
end Go.Proofs.YtclpofblehlojaaGreat.Ab
end
section
namespace Go.Proofs.YtclpofblehlojaaGreat.Ab
open Go Go.ChangeShapes
def cI (n:Int):Cell:=.lit (.int .i64 n)
def cB (b:Bool):Cell:=.lit (.bool b)
def cS (s:ByteArray):Cell:=.lit (.string s)
def vI (n:Int):AC:=.val (cI n)
def vB (b:Bool):AC:=.val (cB b)
def vS (s:ByteArray):AC:=.val (cS s)
def vL (es:List (List Cell)):AC:=.val (.list es)
def li (n:Int):SV:=.one (vI n)
def lb (b:Bool):SV:=.one (vB b)
def ls (s:ByteArray):SV:=.one (vS s)
def ll (es:List (List Cell)):SV:=.one (vL es)
def Yi1 (s:ByteArray):List Cell:=[cS s]
def Yfr (n:Int):List Cell:=[cI n]
def vals (l:List Cell):List AC:=l.map .val
def Yo7:Code->List Code
 | .seq a b=>Yo7 a++Yo7 b
 | .cond _ a b=>Yo7 a++Yo7 b
 | .block _ c=>Yo7 c
 | .loop c=>c :: Yo7 c
 | _=>[]
def Yg6 (fn:Func) (i:Nat):Code:=(Yo7 (fn.body.getD .skip)).getD i .skip
def Y10s (w:World):Interp:={ G:=fun b=>b<w.heap.size,blk:=fun _=>0,sl:=fun _=>.slice none 0 0,fp:=fun _ _=>False }
theorem Yjg.kept {P:Program} {f:FuncId} {args:List SV} {v:Value} (h:Yjg P f [] args [] (.sv (.one (.val (.lit v))))) {w:World} {vals:Array Value}
  (hkn:Kn P w (Y10s w)) (hv:Yg8 (Yh5 w (Y10s w) (Yhq [])) args vals.toList):Calls P f vals w fun e w'=>e=.returned v/\w.kept w'/\w.heap.size<=w'.heap.size:=by
 have hp:PreRel w (Y10s w) [] args vals:=
  { obj:=fun j=>fun _ hb=>hb,disj:=fun _ _ _ _ hb=>hb.elim,gfp:=fun _ _ hb=>hb.elim,lt:=fun _ _ hb=>hb.elim,glt:=fun _ hb=>hb,arg:=hv }
 refine (h.2 w (Y10s w) vals hp hkn).mono ?_
 rintro e w' ⟨u,ι',rfl,hpost⟩
 have hu:=(Rd.lit_inv (show Rd w' ι'.G u (.lit v) from hpost.val.1)).1
 refine ⟨by rw [hu],⟨hpost.os,hpost.out,fun i hi=>hpost.frame i hi fun _ hb=>hb⟩,hpost.size⟩
section
variable {P:Program} {H:Type} {enc:TypeId × Value->H}
theorem Y17n {W W':World} (hk:W.kept W') {a:Addr} (ha:a.block<W.heap.size):W'.frozen? a=W.frozen? a:=by
 unfold World.frozen?; rw [hk.2.2 _ ha]
theorem Y16f {f:Func} {s:ChangeSpec} {apart fresh handsOn again:Bool} {W W':World} {args:Array Value} {v:Value} {ds gs:List (DataW H)} {before pa pv:List MemPlace}
  (hW:DataW.Whole enc P f.params.toList s.vars apart W args.toList ds gs before)
  (hres:∀ (b:Nat) (sp:Nat->Bool) (hd:Bool),DataW.TrodAll enc P W' b sp hd f.resultTypes.toList (v.resultList f.resultTypes.size) (s.fn H (ds++gs)).results [])
  (hargs:∀ sp:Nat->Bool,(∀ p∈before,sp p.block=true)->DataW.TrodAll enc P W' 0 sp true f.params.toList args.toList (s.fn H (ds++gs)).args pa)
  (hvars:∀ sp:Nat->Bool,(∀ p∈before,sp p.block=true)->DataW.TrodVars enc P W' sp s.vars (s.fn H (ds++gs)).vars pv)
  (hps:before=pa++pv) (hk:W.kept W')
  (hok:∀ (j:Nat) (t:TypeId) (r:Value),f.resultTypes[j]? = some t->(v.resultList f.resultTypes.size)[j]? = some r->Value.okWide P W' .any 0 t r) :
  s.post enc P f apart fresh handsOn again W args v W':=by
 have old:∀ p∈before,decide (p.block<W.heap.size)=true:=fun p hp=>by simpa using hW.lt p hp
 have kb:W.keptBut W' (fun p=>p∈before/\(p∈([]:List MemPlace) ∨ p∈pa ∨ p∈pv)):=World.keptBut_mono (fun _ f=>f.elim) (World.keptBut_none_iff.2 hk)
 refine ⟨ds,gs,before,[],pa,pv,hW,hres _ _ _,hargs (fun b=>decide (b<W.heap.size)) old,hvars (fun b=>decide (b<W.heap.size)) old,kb,fun _ => ?_⟩
 have lt0:=hW.lt
 obtain ⟨_,_,_,_,_,hz,hn⟩:=hW
 refine ⟨hok,_,_,([]++pa)++pv,⟨[]++pa,pv,trodAll_append (hargs _ (fun _ _=>rfl)) (hres _ _ _),hvars _ (fun _ _=>rfl),rfl,fun b off hp => ?_,fun ha => ?_⟩,fun p hp _ => ?_⟩
 ·have hb:MemPlace.cell b off∈before:=by rw [hps]; simpa using hp
  rw [Y17n hk (lt0 _ hb)]
  exact hz b off hb
 ·have:=hn ha
  rw [hps] at this
  simpa using this
 ·rw [hps]; simpa using hp
end
end Go.Proofs.YtclpofblehlojaaGreat.Ab
end
