/- Part 1 of the machine. No condition. -/
import Derived.WalkKit
import Derived.MapKept
import Derived.Carry
import Derived.Laws.AppendOwn
import Derived.Laws.MakeOwn
import Derived.Laws.OwnMore
import Derived.Lib.ItoaNum
import Derived.Laws.Strings
import Derived.Laws.Small
import Derived.Laws.Strings2
import Derived.Laws.Concat
import Derived.Laws.Closers25b
import Derived.Laws.Slices
import Derived.Laws.Tables
import Derived.Great.FillDense
import Derived.Laws.BytesArg
import Derived.Great.BuildSlice
set_option linter.unusedVariables false
set_option linter.unusedSimpArgs false
section
namespace Go.Proofs.YtclpofblehlojaaGreat.Ab
open Go
inductive Cell where
 | lit (v:Value)
 | list (es:List (List Cell))
 | any
 | cap (v:Value)
 | clo (f:FuncId) (v:Value)
instance:Inhabited Cell:=⟨.lit (.bool false)⟩
def normLit:Value->Cell
 | .slice none 0 0=>.list []
 | v=>.lit v
def Yjq:Value->Prop
 | .string s=>s.size<=maxLen
 | .agg _ | .tuple _=>False
 | _=>True
theorem Yjq.one {v:Value} (h:Yjq v):v.oneCell'=true:=by
 cases v <;> first | rfl | exact h.elim
def Yg8 {α β:Type} (R:α->β->Prop):List α->List β->Prop
 | [],[]=>True
 | a :: as,b :: bs=>R a b/\Yg8 R as bs
 | _,_=>False
theorem Yg8.length {α β:Type} {R:α->β->Prop}:∀ {as:List α} {bs:List β},Yg8 R as bs->as.length=bs.length
 | [],[],_=>rfl
 | _ :: _,_ :: _,h=>by simp [Yg8.length h.2]
 | [],_ :: _,h=>h.elim
 | _ :: _,[],h=>h.elim
theorem Yg8.imp {α β:Type} {R S:α->β->Prop} (hi:∀ a b,R a b->S a b):∀ {as:List α} {bs:List β},Yg8 R as bs->Yg8 S as bs
 | [],[],_=>trivial
 | _ :: _,_ :: _,h=>⟨hi _ _ h.1,h.2.imp hi⟩
 | [],_ :: _,h=>h.elim
 | _ :: _,[],h=>h.elim
theorem Yg8.get {α β:Type} {R:α->β->Prop}:∀ {as:List α} {bs:List β},Yg8 R as bs->∀ {i:Nat} {a:α} {b:β},as[i]? = some a->bs[i]? = some b->R a b
 | [],[],_,i,a,b,ha,_=>by simp at ha
 | x :: as,y :: bs,h,0,a,b,ha,hb=>by simp at ha hb; subst ha; subst hb; exact h.1
 | x :: as,y :: bs,h,i+1,a,b,ha,hb=>by simp at ha hb; exact h.2.get ha hb
 | [],_ :: _,h,_,_,_,_,_=>h.elim
 | _ :: _,[],h,_,_,_,_,_=>h.elim
theorem Yg8.get_left {α β:Type} {R:α->β->Prop} {as:List α} {bs:List β} (h:Yg8 R as bs) {i:Nat} {a:α} (ha:as[i]? = some a):∃ b,bs[i]? = some b/\R a b:=by
 have hl:i<bs.length:=by rw [<- h.length]; exact (List.getElem?_eq_some_iff.1 ha).1
 exact ⟨bs[i],List.getElem?_eq_getElem hl,h.get ha (List.getElem?_eq_getElem hl)⟩
theorem Yg8.of_get {α β:Type} {R:α->β->Prop}:∀ {as:List α} {bs:List β},as.length=bs.length->(∀ (i:Nat) (a:α) (b:β),as[i]? = some a->bs[i]? = some b->R a b)->Yg8 R as bs
 | [],[],_,_=>trivial
 | a :: as,b :: bs,hl,h=>⟨h 0 a b rfl rfl,Yg8.of_get (by simpa using hl) fun i x y hx hy=>h (i+1) x y (by simpa using hx) (by simpa using hy)⟩
 | [],_ :: _,hl,_=>by simp at hl
 | _ :: _,[],hl,_=>by simp at hl
theorem Yg8.append {α β:Type} {R:α->β->Prop}:∀ {as:List α} {bs:List β} {cs:List α} {ds:List β},Yg8 R as bs->Yg8 R cs ds->Yg8 R (as++cs) (bs++ds)
 | [],[],_,_,_,h=>h
 | _ :: _,_ :: _,_,_,h,k=>⟨h.1,h.2.append k⟩
 | [],_ :: _,_,_,h,_=>h.elim
 | _ :: _,[],_,_,h,_=>h.elim
theorem Yg8.take {α β:Type} {R:α->β->Prop}:∀ {as:List α} {bs:List β} (n:Nat),Yg8 R as bs->Yg8 R (as.take n) (bs.take n)
 | [],[],n,_=>by simp [Yg8]
 | _ :: _,_ :: _,0,_=>trivial
 | _ :: _,_ :: _,n+1,h=>⟨h.1,h.2.take n⟩
 | [],_ :: _,_,h=>h.elim
 | _ :: _,[],_,h=>h.elim
theorem Yg8.drop {α β:Type} {R:α->β->Prop}:∀ {as:List α} {bs:List β} (n:Nat),Yg8 R as bs->Yg8 R (as.drop n) (bs.drop n)
 | [],[],n,_=>by simp [Yg8]
 | _ :: _,_ :: _,0,h=>h
 | _ :: _,_ :: _,n+1,h=>h.2.drop n
 | [],_ :: _,_,h=>h.elim
 | _ :: _,[],_,h=>h.elim
inductive Rd (w:World) (G:Nat->Prop):Value->Cell->Prop
 | lit {v:Value} (h:Yjq v):Rd w G v (.lit v)
 | nil {a:Option Addr} {cap:Nat}:Rd w G (.slice a 0 cap) (.list [])
 | any {v:Value} (h:v.oneCell'=true):Rd w G v .any
 | cap {b o:Nat} {v:Value} (hG:G b) (h:Yjq v) (hx:w.cell? ⟨b,o,none⟩=some v):Rd w G (.pointer (some ⟨b,o,none⟩)) (.cap v)
 | clo {f:FuncId} {b o:Nat} {v:Value} (hG:G b) (h:Yjq v) (hx:w.cell? ⟨b,o,none⟩=some v):Rd w G (.func (.func f) #[] #[.pointer (some ⟨b,o,none⟩)]) (.clo f v)
 | slice {b off cap sz:Nat} {es:List (List Cell)} {xs:List Value} (hG:G b) (hc:es.length<=cap) (hm:cap<=maxLen)
   (hsz:∀ e∈es,e.length=sz) (hl:xs.length=es.flatten.length)
   (hx:∀ (j:Nat) (u:Value),xs[j]? = some u->w.cell? ⟨b,off+j,none⟩=some u)
   (hr:∀ (j:Nat) (u:Value) (c:Cell),xs[j]? = some u->es.flatten[j]? = some c->Rd w G u c):Rd w G (.slice (some ⟨b,off,none⟩) es.length cap) (.list es)
theorem Yjp {w w':World} {b o:Nat} (h:w'.heap[b]? = w.heap[b]?):w'.cell? ⟨b,o,none⟩=w.cell? ⟨b,o,none⟩:=World.cell?_of_block (w:=w) (a:=⟨b,o,none⟩) h
theorem Rd.mono {w w':World} {G G':Nat->Prop} (hw:∀ b,G b->w'.heap[b]? = w.heap[b]?) (hG:∀ b,G b->G' b) {v:Value} {c:Cell} (h:Rd w G v c):Rd w' G' v c:=by
 induction h with
 | lit h=>exact .lit h
 | nil=>exact .nil
 | any h=>exact .any h
 | cap hb h hx=>exact .cap (hG _ hb) h ((Yjp (hw _ hb)).trans hx)
 | clo hb h hx=>exact .clo (hG _ hb) h ((Yjp (hw _ hb)).trans hx)
 | slice hb hc hm hsz hl hx _ ih=>exact .slice (hG _ hb) hc hm hsz hl (fun j u hu=>(Yjp (hw _ hb)).trans (hx j u hu)) ih
theorem Rd.lit_inv {w:World} {G:Nat->Prop} {v u:Value} (h:Rd w G v (.lit u)):v=u/\Yjq u:=by cases h; exact ⟨rfl,‹_›⟩
theorem Rd.one {w:World} {G:Nat->Prop} {v:Value} {c:Cell} (h:Rd w G v c):v.oneCell'=true:=by
 cases h with
 | lit h=>exact h.one
 | nil=>rfl
 | any h=>exact h
 | cap=>rfl
 | clo=>rfl
 | slice=>rfl
def Y1hr (v:Value) (es:List (List Cell)):Prop:=es=[]->∃ a,v=.slice a 0 0
def Yrg (n:Nat) (fz:Nat × Nat):Prop:=fz=(0,0) ∨ n<=fz.1
theorem Yrg.not {n:Nat} {fz:Nat × Nat} (h:Yrg n fz) {j:Nat} (hj:j<n):¬ (fz.1<=j/\j<fz.2):=by
 rcases h with rfl | h
 ·simp
 ·omega
def Yiw (w : World) (e : TypeId) (size : Nat) (v : Value) (n : Nat) (xs : List Value) : Prop :=
  xs.length = n * size /\
  ((v = .slice none 0 0 /\ n = 0) ∨
   ∃ (g cap : Nat) (cur : Array Value) (fz : Nat × Nat), v = .slice (some ⟨g, 0, none⟩) n cap /\ Yrg cur.size fz /\ w.heap[g]? = some (.cells cur e fz) /\ n <= cap /\ cap <= maxLen /\ cur.size = cap * size /\ cur.toList.take (n * size) = xs)
theorem Ysz (w:World) (e:TypeId) (size:Nat):Yiw w e size (.slice none 0 0) 0 []:=⟨by simp,.inl ⟨rfl,rfl⟩⟩
theorem Y1l7 {w:World} {base:Nat} {e:TypeId} {size:Nat} {v:Value} {n:Nat} {xs:List Value} (h:w.ownsRow base e size v n xs):Yiw w e size v n xs:=by
 refine ⟨h.1,?_⟩
 rcases h.2 with hn | ⟨g,cap,cur,hv,_,hg,rest⟩
 ·exact .inl hn
 ·exact .inr ⟨g,cap,cur,(0,0),hv,.inl rfl,hg,rest⟩
theorem Y1hd {e:TypeId} {size:Nat} (w:World) (cs:Array Value) (n:Nat) (hm:n<=maxLen) (hs:cs.size=n * size) :
  Yiw (w.alloc (.cells cs e)) e size (.slice (some ⟨w.heap.size,0,none⟩) n n) n cs.toList:=
 ⟨by simpa using hs,.inr ⟨w.heap.size,n,cs,(0,0),rfl,.inl rfl,heap_alloc_new w _,Nat.le_refl _,hm,hs,List.take_of_length_le (by rw [Array.length_toList,hs]; exact Nat.le_refl _)⟩⟩
theorem Yiw.cells {w:World} {e:TypeId} {size:Nat} {v:Value} {n:Nat} {xs:List Value} (h:Yiw w e size v n xs) {g:Nat} (hg:v.ownBlock=some g) :
  ∀ j u,xs[j]? = some u->w.cell? ((⟨g,0,none⟩:Addr).add j)=some u:=by
 intro j u hu
 rcases h.2 with ⟨rfl,_⟩ | ⟨g',cap,cur,fz,rfl,_,hgg,_,_,_,htake⟩
 ·simp [Value.ownBlock] at hg
 ·simp [Value.ownBlock] at hg
  subst hg
  have hadd:(⟨g',0,none⟩:Addr).add j=⟨g',j,none⟩:=by unfold Addr.add; split <;> simp_all
  rw [hadd,cell_of_row w g' j cur e fz hgg]
  rw [<- htake,List.getElem?_take] at hu
  split at hu
  ·simpa using hu
  ·cases hu
theorem Ylz (P:Program) (g o:Nat) (t:TypeId) (fz:Nat × Nat):∀ (vs:List Value) (i:Nat) (cur:Array Value) (w:World),w.heap[g]? = some (.cells cur t fz)->Yrg cur.size fz->o+i+vs.length<=cur.size->(∀ v∈vs,v.oneCell'=true) ->
  (storeCells ⟨g,o,none⟩ vs i).run P w=.ok () (w.setRow g (cur.toList.take (o+i)++vs++cur.toList.drop (o+i+vs.length)).toArray)
 | [],i,cur,w,hg,_,_,_=>by
  simp only [storeCells,List.append_nil,List.length_nil,Nat.add_zero,List.take_append_drop,Array.toArray_toList]
  rw [setRow_self w g cur t fz hg]
  rfl
 | v :: rest,i,cur,w,hg,hfz,hl,h1=>by
  have hi:o+i<cur.size:=by simp at hl; omega
  have hadd:(⟨g,o,none⟩:Addr).add i=⟨g,o+i,none⟩:=by unfold Addr.add; split <;> simp_all
  have hcell:w.cell? ⟨g,o+i,none⟩=some cur[o+i]:=by simp [World.cell?,hg,hi]
  have hfro:w.frozen? ⟨g,o+i,none⟩=false:=by
   have:=hfz.not hi
   obtain ⟨lo,hi'⟩:=fz
   simp only [World.frozen?,hg,Bool.and_eq_false_iff,decide_eq_false_iff_not]
   simp only at this
   omega
  have hst:(store ((⟨g,o,none⟩:Addr).add i) v).run P w=.ok () (w.setRow g (cur.setIfInBounds (o+i) v)):=by
   rw [hadd,run_store P w _ v _ (h1 v (by simp)),hcell]
   simp [hfro,setCell_eq_setRow w g (o+i) cur t fz v hg]
  have ih:=Ylz P g o t fz rest (i+1) (cur.setIfInBounds (o+i) v) (w.setRow g (cur.setIfInBounds (o+i) v)) (setRow_heap w g cur _ t _ hg) (by simpa using hfz) (by simp at hl ⊢; omega) (fun x hx=>h1 x (by simp [hx]))
  simp only [storeCells,Sem.run_bind,hst,Result.andThen_ok,ih,setRow_setRow]
  congr 3
  have e:=list_seg_step cur.toList (o+i) v rest (by simp at hl ⊢; omega)
  simpa [Array.toList_setIfInBounds,Nat.add_assoc] using e
inductive OwnC (w:World):(Nat->Prop)->Value->Cell->Prop
 | lit {F:Nat->Prop} {v:Value} (h:Yjq v):OwnC w F v (.lit v)
 | any {F:Nat->Prop} {v:Value} (h:v.oneCell'=true):OwnC w F v .any
 | arr {F:Nat->Prop} {v:Value} {es:List (List Cell)} {e:TypeId} {sz:Nat} {xs:List Value} {Fs:Nat->Nat->Prop}
   (h:Yiw w e sz v es.length xs) (hsz:∀ x∈es,x.length=sz)
   (hb:∀ b,v.ownBlock=some b->F b) (sub:∀ j b,Fs j b->F b) (nb:∀ j b,v.ownBlock=some b->¬ Fs j b)
   (dj:∀ j j' b,j≠j'->Fs j b->¬ Fs j' b)
   (hc:∀ (j:Nat) (u:Value) (c:Cell),xs[j]? = some u->es.flatten[j]? = some c->OwnC w (Fs j) u c) (h0:Y1hr v es):OwnC w F v (.list es)
theorem Y11j {w w':World} {e:TypeId} {sz n:Nat} {v:Value} {xs:List Value} (hw:∀ b,v.ownBlock=some b->w'.heap[b]? = w.heap[b]?)
  (h:Yiw w e sz v n xs):Yiw w' e sz v n xs:=by
 refine ⟨h.1,?_⟩
 rcases h.2 with hn | ⟨g,cap,cur,fz,rfl,hb,hg,rest⟩
 ·exact .inl hn
 ·exact .inr ⟨g,cap,cur,fz,rfl,hb,by rw [hw g rfl]; exact hg,rest⟩
theorem OwnC.mono {w w':World} {F:Nat->Prop} {v:Value} {c:Cell} (h:OwnC w F v c) (hw:∀ b,F b->w'.heap[b]? = w.heap[b]?):OwnC w' F v c:=by
 induction h with
 | lit h=>exact .lit h
 | any h=>exact .any h
 | arr h hsz hb sub nb dj _ h0 ih=>exact .arr (Y11j (fun b e=>hw b (hb b e)) h) hsz hb sub nb dj (fun j u c hu hc=>ih j u c hu hc fun b hb'=>hw b (sub j b hb')) h0
theorem OwnC.wide {w:World} {F F':Nat->Prop} {v:Value} {c:Cell} (h:OwnC w F v c) (hF:∀ b,F b->F' b):OwnC w F' v c:=by
 cases h with
 | lit h=>exact .lit h
 | any h=>exact .any h
 | arr h hsz hb sub nb dj hc h0=>exact .arr h hsz (fun b e=>hF b (hb b e)) (fun j b k=>hF b (sub j b k)) nb dj hc h0
theorem OwnC.one {w:World} {F:Nat->Prop} {v:Value} {c:Cell} (h:OwnC w F v c):v.oneCell'=true:=by
 cases h with
 | lit h=>exact h.one
 | any h=>exact h
 | arr h=>rcases h.2 with ⟨rfl,_⟩ | ⟨g,cap,cur,fz,rfl,_⟩ <;> rfl
theorem Yh6 {α:Type} {sz:Nat}:∀ {es:List (List α)},(∀ e∈es,e.length=sz)->es.flatten.length=es.length * sz
 | [],_=>by simp
 | e :: es,h=>by
  have:=Yh6 (es:=es) fun x hx=>h x (List.mem_cons_of_mem _ hx)
  simp only [List.flatten_cons,List.length_append,List.length_cons,this,h e List.mem_cons_self]
  rw [Nat.add_mul]; omega
theorem Y126 {w:World} {G:Nat->Prop} {e:TypeId} {sz:Nat} {v:Value} {es:List (List Cell)} {xs:List Value}
  (h:Yiw w e sz v es.length xs) (hsz:∀ x∈es,x.length=sz) (hb:∀ b,v.ownBlock=some b->G b)
  (hc:∀ (j:Nat) (u:Value) (c:Cell),xs[j]? = some u->es.flatten[j]? = some c->Rd w G u c):Rd w G v (.list es):=by
 have hl:xs.length=es.flatten.length:=by rw [h.1,Yh6 hsz]
 have hcells:=fun g hg=>Yiw.cells (g:=g) h hg
 rcases h.2 with ⟨rfl,hn⟩ | ⟨g,cap,cur,fz,rfl,_,hg,hle,hm,_,_⟩
 ·rw [List.length_eq_zero_iff] at hn; subst hn; exact .nil
 ·refine .slice (hb g rfl) hle hm hsz hl (fun j u hu => ?_) hc
  have:=hcells g rfl j u hu
  have hadd:(⟨g,0,none⟩:Addr).add j=⟨g,0+j,none⟩:=by unfold Addr.add; split <;> simp_all
  rwa [hadd] at this
theorem OwnC.toRd {w:World} {F G:Nat->Prop} {v:Value} {c:Cell} (h:OwnC w F v c) (hF:∀ b,F b->G b):Rd w G v c:=by
 induction h with
 | lit h=>exact .lit h
 | any h=>exact .any h
 | arr h hsz hb sub nb dj _ _ ih=>exact Y126 h hsz (fun b e=>hF b (hb b e)) fun j u c hu hc=>ih j u c hu hc fun b hb'=>hF b (sub j b hb')
inductive AC where
 | top
 | val (c:Cell)
 | ref (id:Nat)
 | bor (id:Nat) (c:Cell)
 | ptr (id off:Nat)
 | eptr (id i off:Nat)
 | iptr (src:Option Nat) (cs:List Cell)
 | sub (id i p:Nat)
 | mref (id:Nat)
inductive SV where
 | one (c:AC)
 | agg (cs:List AC)
inductive AV where
 | sv (s:SV)
 | tup (vs:List SV)
structure MK where
 d:TypeDesc
 z:Option Value
inductive Ob where
 | free | dead
 | box (cs:List AC)
 | arr (own:Bool) (sz:Nat) (es:List (List Cell))
 | map (nn:Bool) (k:MK) (f:Value->Option Cell)
structure St where
 regs:List AV
 objs:List Ob
 m:Nat
def St.reg (s:St) (t:Nat):AV:=s.regs.getD t (.sv (.one .top))
def St.obj (s:St) (i:Nat):Ob:=s.objs.getD i .free
structure Interp where
 G:Nat->Prop
 blk:Nat->Nat
 sl:Nat->Value
 fp:Nat->Nat->Prop
def rdSet (ι:Interp):Option Nat->Nat->Prop
 | none,b=>ι.G b
 | some id,b=>ι.G b ∨ ι.fp id b
def notFree (ob:Nat->Ob) (id:Nat):Prop:=match ob id with | .free=>False | _=>True
def Ob.reads:Ob->Prop
 | .arr .. | .map .. => True
 | _=>False
def live (ob:Nat->Ob):Option Nat->Prop
 | none=>True
 | some id=>(ob id).reads
def Y1ar (nn:Bool) (b:Nat):Value:=.map (match nn with | true=>none | false=>some b)
def Ygx (w:World) (ι:Interp) (ob:Nat->Ob):AC->Value->Prop
 | .top,_=>True
 | .val c,v=>Rd w ι.G v c
 | .ref id,v=>notFree ob id/\∀ own sz es,ob id=.arr own sz es->v=ι.sl id
 | .bor id c,v=>notFree ob id/\(live ob (some id)->Rd w (rdSet ι (some id)) v c)
 | .ptr id off,v=>notFree ob id/\∀ cs,ob id=.box cs->v=.pointer (some ⟨ι.blk id,off,none⟩)
 | .eptr id i off,v=>notFree ob id/\∀ own sz es,ob id=.arr own sz es->∃ b,(ι.sl id).ownBlock=some b/\v=.pointer (some ⟨b,i * sz+off,none⟩)
 | .iptr src cs,v=>(∀ id,src=some id->notFree ob id)/\(live ob src ->
   ∃ b o xs,v=.pointer (some ⟨b,o,none⟩)/\rdSet ι src b/\(∀ (j:Nat) (u:Value),xs[j]? = some u->w.cell? ⟨b,o+j,none⟩=some u)/\Yg8 (Rd w (rdSet ι src)) xs cs)
 | .sub id i p,v=>notFree ob id/\∀ own sz es,ob id=.arr own sz es->∃ b,(ι.sl id).ownBlock=some b/\rdSet ι (some id) b/\w.cell? ⟨b,i * sz+p,none⟩=some v
 | .mref id,v=>notFree ob id/\∀ nn k f,ob id=.map nn k f->v=Y1ar nn (ι.blk id)
def Yi9 (w:World) (ι:Interp) (ob:Nat->Ob) (c:AC) (v:Value):Prop:=Ygx w ι ob c v/\v.oneCell'=true
def Yh5 (w:World) (ι:Interp) (ob:Nat->Ob):SV->Value->Prop
 | .one c,v=>Ygx w ι ob c v/\(c≠.top->v.oneCell'=true)
 | .agg cs,v=>∃ arr:Array Value,v=.agg arr/\Yg8 (Yi9 w ι ob) cs arr.toList
def Ygz (w:World) (ι:Interp) (ob:Nat->Ob):AV->Value->Prop
 | .sv s,v=>Yh5 w ι ob s v
 | .tup vs,v=>∃ arr:Array Value,v=.tuple arr/\Yg8 (Yh5 w ι ob) vs arr.toList
def Ygs (w:World) (N:(Nat->Prop)->Value->Cell->Prop) (sz:Nat) (F:Nat->Prop) (v:Value) (es:List (List Cell)):Prop:=
 ∃ (e:TypeId) (xs:List Value) (Fs:Nat->Nat->Prop),Yiw w e sz v es.length xs/\(∀ x∈es,x.length=sz)/\(∀ b,v.ownBlock=some b->F b) /\
  (∀ j b,Fs j b->F b)/\(∀ j b,v.ownBlock=some b->¬ Fs j b)/\(∀ j j' b,j≠j'->Fs j b->¬ Fs j' b) /\
  (∀ (j:Nat) (u:Value) (c:Cell),xs[j]? = some u->es.flatten[j]? = some c->N (Fs j) u c)/\Y1hr v es
def Yhm (w:World) (G:Nat->Prop):Bool->(Nat->Prop)->Value->Cell->Prop
 | true,F,u,c=>OwnC w F u c
 | false,_,u,c=>Rd w G u c
theorem Yhm.one {w:World} {G:Nat->Prop} {own:Bool} {F:Nat->Prop} {u:Value} {c:Cell} (h:Yhm w G own F u c):u.oneCell'=true:=by
 cases own
 ·exact Rd.one h
 ·exact OwnC.one h
theorem Yhm.toRd {w:World} {G:Nat->Prop} {own:Bool} {F:Nat->Prop} {u:Value} {c:Cell} (h:Yhm w G own F u c):Rd w (fun b=>G b ∨ F b) u c:=by
 cases own
 ·exact Rd.mono (fun _ _=>rfl) (fun _ h=>.inl h) h
 ·exact OwnC.toRd h fun _ h=>.inr h
theorem Yhm.mono {w w':World} {G G':Nat->Prop} {own:Bool} {F:Nat->Prop} {u:Value} {c:Cell} (h:Yhm w G own F u c)
  (hG:∀ b,G b->G' b/\w'.heap[b]? = w.heap[b]?) (hF:∀ b,F b->w'.heap[b]? = w.heap[b]?):Yhm w' G' own F u c:=by
 cases own
 ·exact Rd.mono (fun b hb=>(hG b hb).2) (fun b hb=>(hG b hb).1) h
 ·exact OwnC.mono h hF
theorem Ygs.rd {w:World} {G:Nat->Prop} {own:Bool} {sz:Nat} {F:Nat->Prop} {v:Value} {es:List (List Cell)} (h:Ygs w (Yhm w G own) sz F v es) :
  Rd w (fun b=>G b ∨ F b) v (.list es):=by
 obtain ⟨e,xs,Fs,h1,h2,h3,h4,h5,h6,h7,_⟩:=h
 refine Y126 h1 h2 (fun b hb=>.inr (h3 b hb)) fun j u c hu hc => ?_
 exact Rd.mono (fun _ _=>rfl) (fun b hb=>hb.imp id (h4 j b)) (h7 j u c hu hc).toRd
theorem Ygs.own {w:World} {G:Nat->Prop} {sz:Nat} {F:Nat->Prop} {v:Value} {es:List (List Cell)} (h:Ygs w (Yhm w G true) sz F v es):OwnC w F v (.list es):=by
 obtain ⟨e,xs,Fs,h1,h2,h3,h4,h5,h6,h7,h0⟩:=h
 exact .arr h1 h2 h3 h4 h5 h6 h7 h0
theorem Ygs.mono {w w':World} {G G':Nat->Prop} {own:Bool} {sz:Nat} {F:Nat->Prop} {v:Value} {es:List (List Cell)} (h:Ygs w (Yhm w G own) sz F v es)
  (hG:∀ b,G b->G' b/\w'.heap[b]? = w.heap[b]?) (hF:∀ b,F b->w'.heap[b]? = w.heap[b]?):Ygs w' (Yhm w' G' own) sz F v es:=by
 obtain ⟨e,xs,Fs,h1,h2,h3,h4,h5,h6,h7,h0⟩:=h
 exact ⟨e,xs,Fs,Y11j (fun b hb=>hF b (h3 b hb)) h1,h2,h3,h4,h5,h6,fun j u c hu hc=>(h7 j u c hu hc).mono hG fun b hb=>hF b (h4 j b hb),h0⟩
def Yrb (z:Option Value) (o:Option Cell):Prop:=o=none ∨ ∃ v,z=some v/\Yjq v/\(o=some (normLit v) ∨ o=some .any)
def Yil:TypeDesc->Value->Prop
 | .array n _,v=>n=2/\∃ a b:ByteArray,v=.agg #[.string a,.string b]
 | d,v=>MapKept.IsKey d v
def Yhu (w:World) (k:MK) (F:Nat->Prop) (b:Nat) (f:Value->Option Cell):Prop:=
 ∃ (es:Array MapEntry) (clock:Nat) (Fs:Nat->Nat->Prop),w.heap[b]? = some (.map es clock)/\F b/\(∀ j x,Fs j x->F x/\x≠b)/\(∀ j j' x,j≠j'->Fs j x->¬ Fs j' x) /\
  (∀ e∈es.toList,Yil k.d e.key)/\(es.toList.map (·.key)).Nodup /\
  (∀ key,Yil k.d key->(∀ e∈es.toList,e.key≠key)->Yrb k.z (f key)) /\
  (∀ (j:Nat) (e:MapEntry),es[j]? = some e->∃ c,f e.key=some c/\OwnC w (Fs j) e.val c)
theorem Yhu.mono {w w':World} {k:MK} {F F':Nat->Prop} {b:Nat} {f:Value->Option Cell} (h:Yhu w k F b f) (hF:∀ x,F x->F' x) (hw:∀ x,F x->w'.heap[x]? = w.heap[x]?):Yhu w' k F' b f:=by
 obtain ⟨es,clock,Fs,h1,h2,h3,h4,h5,h6,h7,h8⟩:=h
 refine ⟨es,clock,Fs,by rw [hw _ h2]; exact h1,hF _ h2,fun j x hx=>⟨hF _ (h3 j x hx).1,(h3 j x hx).2⟩,h4,h5,h6,h7,fun j e he => ?_⟩
 obtain ⟨c,e1,e2⟩:=h8 j e he
 exact ⟨c,e1,e2.mono fun x hx=>hw x (h3 j x hx).1⟩
def Yiu (w:World) (ι:Interp) (ob:Nat->Ob) (id:Nat):Ob->Prop
 | .free | .dead=>∀ b,¬ ι.fp id b
 | .box cs=>ι.fp id (ι.blk id)/\∃ (arr:Array Value) (ty:TypeId),w.heap[ι.blk id]? = some (.cells arr ty (0,0))/\Yg8 (Yi9 w ι ob) cs arr.toList
 | .arr own sz es=>Ygs w (Yhm w ι.G own) sz (ι.fp id) (ι.sl id) es
 | .map nn k f=>match nn with
  | true=>(∀ b,¬ ι.fp id b)/\∀ key,Yil k.d key->Yrb k.z (f key)
  | false=>Yhu w k (ι.fp id) (ι.blk id) f
def Yho (w w':World) (ι ι':Interp) (K:Prop) (id:Nat):Ob->Ob->Prop
 | .free,_=>True
 | .dead,.dead=>True
 | .box _,.box _=>ι'.blk id=ι.blk id
 | .box _,.dead=>True
 | .arr _ sz _,.arr _ sz' _=>ι'.sl id=ι.sl id/\sz'=sz/\(K->∀ b,ι.fp id b->(ι'.fp id b ∨ ι'.G b)/\w'.heap[b]? = w.heap[b]?)
 | .arr ..,.dead=>True
 | .map nn k _,.map nn' k' _=>ι'.blk id=ι.blk id/\nn'=nn/\k'=k/\(K->∀ b,ι.fp id b->(ι'.fp id b ∨ ι'.G b)/\w'.heap[b]? = w.heap[b]?)
 | .map ..,.dead=>True
 | _,_=>False
def KV (P:Program) (w:World) (ι:Interp) (n:String) (Q:Array Value->Prop):Prop:=
 ∀ g,P.globalNamed n=some g->g<w.heap.size/\(∀ i,¬ ι.fp i g)/\∃ cs,w.var? P n=some cs/\Q cs
def Y1fp:String := "internal" ++ (String.singleton (Char.ofNat 47) ++ "strconv.uint64pow10")
def knE:Bool:=false
def Kn (P:Program) (w:World) (ι:Interp):Prop:=
 KV P w ι Y1fp (fun cs=>cs=(Lib.pow10Tab.map fun z=>Value.int .u64 z).toArray)/\(knE=true->KV P w ι "strconv.ErrSyntax" (fun cs=>∃ t p,cs=#[.iface t p]))
theorem Kn.none {P:Program} {w:World} {ι:Interp} (h1:P.globalNamed Y1fp=.none) (h2:P.globalNamed "strconv.ErrSyntax" = .none):Kn P w ι:=
 ⟨fun g h=>absurd (h1.symm.trans h) (by simp),fun _ g h=>absurd (h2.symm.trans h) (by simp)⟩
structure Ent (P:Program) where
 w:World
 ι:Interp
 ob:Nat->Ob
 kn:Kn P w ι
def Ent.M {P:Program} (E:Ent P) (b:Nat):Prop:=∃ i,E.ι.fp i b
structure Rel {P:Program} (E:Ent P) (s:St) (ι:Interp) (a:Act) (w:World):Prop where
 len:s.regs.length=a.tmps.size
 defers:a.defers=[]
 regs:∀ t,Ygz w ι s.obj (s.reg t) (a.tmps.getD t undef)
 objs:∀ i,Yiu w ι s.obj i (s.obj i)
 disj:∀ i j b,i≠j->ι.fp i b->¬ ι.fp j b
 gfp:∀ i b,ι.fp i b->¬ ι.G b
 own:∀ i b,ι.fp i b->E.M b ∨ E.w.heap.size<=b
 lt:∀ i b,ι.fp i b->b<w.heap.size
 glt:∀ b,ι.G b->b<w.heap.size
 frame:∀ b,b<E.w.heap.size->¬ E.M b->w.heap[b]? = E.w.heap[b]?
 size:E.w.heap.size<=w.heap.size
 os:w.os=E.w.os
 out:w.output=E.w.output
 ent:∀ i,Yho E.w w E.ι ι False i (E.ob i) (s.obj i)
 gg:∀ b,E.ι.G b->ι.G b
 gown:∀ b,ι.G b->E.ι.G b ∨ E.M b ∨ E.w.heap.size<=b
 ment:∀ i,s.m<=i->E.ob i=.free
theorem Yho.trans {w0 w w':World} {ι0 ι ι':Interp} {K:Prop} {i:Nat} {o1 o2 o3:Ob} (h:Yho w0 w ι0 ι False i o1 o2) (k:Yho w w' ι ι' K i o2 o3):Yho w0 w' ι0 ι' False i o1 o3:=by
 cases o1 <;> cases o2 <;> cases o3 <;> simp_all [Yho]
structure Ext (K:Nat->Prop) (w:World) (ι:Interp) (ob:Nat->Ob) (w':World) (ι':Interp) (ob':Nat->Ob):Prop where
 g:∀ b,ι.G b->ι'.G b/\w'.heap[b]? = w.heap[b]?
 o:∀ id,Yho w w' ι ι' (K id) id (ob id) (ob' id)
section
variable {K:Nat->Prop} {w w':World} {ι ι':Interp} {ob ob':Nat->Ob}
theorem Ext.keepsNotFree (h:Ext K w ι ob w' ι' ob') {id:Nat} (k:notFree ob id):notFree ob' id:=by
 have:=h.o id
 unfold notFree at *
 cases e:ob id <;> cases e':ob' id <;> simp_all [Yho]
theorem Ext.arr_inv (h:Ext K w ι ob w' ι' ob') {id:Nat} (k:notFree ob id) {own:Bool} {sz:Nat} {es:List (List Cell)} (e':ob' id=.arr own sz es) :
  ∃ own1 es1,ob id=.arr own1 sz es1/\ι'.sl id=ι.sl id/\(K id->∀ b,ι.fp id b->(ι'.fp id b ∨ ι'.G b)/\w'.heap[b]? = w.heap[b]?):=by
 have:=h.o id
 unfold notFree at k
 rw [e'] at this
 cases e:ob id with
 | free=>simp [e] at k
 | dead=>simp [e,Yho] at this
 | box cs=>simp [e,Yho] at this
 | map nn k f=>simp [e,Yho] at this
 | arr o1 s1 e1=>
  simp only [e,Yho] at this
  obtain ⟨h1,rfl,h3⟩:=this
  exact ⟨o1,e1,rfl,h1,h3⟩
theorem Ext.reads_inv (h:Ext K w ι ob w' ι' ob') {id:Nat} (k:notFree ob id) (e':(ob' id).reads) :
  (ob id).reads/\(K id->∀ b,ι.fp id b->(ι'.fp id b ∨ ι'.G b)/\w'.heap[b]? = w.heap[b]?):=by
 have:=h.o id
 unfold notFree at k
 cases e2:ob' id <;> simp only [e2,Ob.reads] at e' <;> cases e:ob id <;> simp_all [Yho,Ob.reads]
theorem Ext.live_inv (h:Ext K w ι ob w' ι' ob') {src:Option Nat} (hs:∀ id,src=some id->notFree ob id) (k:live ob' src):live ob src:=by
 cases src with
 | none=>trivial
 | some id=>
  exact (h.reads_inv (hs id rfl) k).1
theorem Ext.rdSet (h:Ext K w ι ob w' ι' ob') {src:Option Nat} (hs:∀ id,src=some id->notFree ob id) (hk:∀ id,src=some id->K id) (k:live ob' src) :
  ∀ b,rdSet ι src b->rdSet ι' src b/\w'.heap[b]? = w.heap[b]? := by
 intro b hb
 cases src with
 | none=>exact h.g b hb
 | some id=>
  have h3:=(h.reads_inv (hs id rfl) k).2
  rcases hb with hb | hb
  ·exact ⟨.inl (h.g b hb).1,(h.g b hb).2⟩
  ·have:=h3 (hk id rfl) b hb
   exact ⟨this.1.elim .inr .inl,this.2⟩
def AC.src:AC->Option Nat
 | .bor id _=>some id
 | .iptr src _=>src
 | .sub id _ _=>some id
 | _=>none
theorem Ygx.ext (h:Ext K w ι ob w' ι' ob') {c:AC} {v:Value} (hk:∀ id,c.src=some id->K id) (r:Ygx w ι ob c v):Ygx w' ι' ob' c v:=by
 cases c with
 | top=>trivial
 | val c=>exact Rd.mono (fun b hb=>(h.g b hb).2) (fun b hb=>(h.g b hb).1) r
 | ref id=>
  refine ⟨h.keepsNotFree r.1,fun own sz es e' => ?_⟩
  obtain ⟨o1,e1,e2,e3,_⟩:=h.arr_inv r.1 e'
  rw [e3]; exact r.2 _ _ _ e2
 | bor id c=>
  refine ⟨h.keepsNotFree r.1,fun hl => ?_⟩
  have hs:∀ i,some id=some i->notFree ob i:=fun i e=>by cases e; exact r.1
  have hr:=h.rdSet hs hk hl
  exact Rd.mono (fun b hb=>(hr b hb).2) (fun b hb=>(hr b hb).1) (r.2 (h.live_inv hs hl))
 | ptr id off=>
  refine ⟨h.keepsNotFree r.1,fun cs e' => ?_⟩
  have:=h.o id
  have hn:=r.1
  unfold notFree at hn
  rw [e'] at this
  cases e:ob id with
  | free=>simp [e] at hn
  | dead=>simp [e,Yho] at this
  | arr o1 s1 e1=>simp [e,Yho] at this
  | map nn k f=>simp [e,Yho] at this
  | box cs1=>
   simp only [e,Yho] at this
   rw [this]; exact r.2 _ e
 | eptr id i off=>
  refine ⟨h.keepsNotFree r.1,fun own sz es e' => ?_⟩
  obtain ⟨o1,e1,e2,e3,_⟩:=h.arr_inv r.1 e'
  rw [e3]; exact r.2 _ _ _ e2
 | iptr src cs=>
  refine ⟨fun id e=>h.keepsNotFree (r.1 id e),fun hl => ?_⟩
  have hr:=h.rdSet r.1 hk hl
  obtain ⟨b,o,xs,e,hb,hx,ha⟩:=r.2 (h.live_inv r.1 hl)
  exact ⟨b,o,xs,e,(hr b hb).1,fun j u hu=>(Yjp (hr b hb).2).trans (hx j u hu),ha.imp fun x c hc=>Rd.mono (fun b hb=>(hr b hb).2) (fun b hb=>(hr b hb).1) hc⟩
 | sub id i p=>
  refine ⟨h.keepsNotFree r.1,fun own sz es e' => ?_⟩
  obtain ⟨o1,e1,e2,e3,_⟩:=h.arr_inv r.1 e'
  obtain ⟨b,h1,h2,h3⟩:=r.2 _ _ _ e2
  have hs:∀ i,some id=some i->notFree ob i:=fun i e=>by cases e; exact r.1
  have hr:=h.rdSet hs hk (by show (ob' id).reads; rw [e']; trivial) b h2
  exact ⟨b,by rw [e3]; exact h1,hr.1,(Yjp hr.2).trans h3⟩
 | mref id=>
  refine ⟨h.keepsNotFree r.1,fun nn k f e' => ?_⟩
  have:=h.o id
  have hn:=r.1
  unfold notFree at hn
  rw [e'] at this
  cases e:ob id with
  | free=>simp [e] at hn
  | dead=>simp [e,Yho] at this
  | arr o1 s1 e1=>simp [e,Yho] at this
  | box cs1=>simp [e,Yho] at this
  | map nn1 k1 f1=>
   simp only [e,Yho] at this
   rw [this.1,this.2.1]; exact r.2 _ _ _ e
def SV.acs:SV->List AC
 | .one c=>[c]
 | .agg cs=>cs
def AV.acs:AV->List AC
 | .sv s=>s.acs
 | .tup l=>l.flatMap SV.acs
theorem Yg8.impMem {α β:Type} {R S:α->β->Prop}:∀ {as:List α} {bs:List β},(∀ a b,a∈as->R a b->S a b)->Yg8 R as bs->Yg8 S as bs
 | [],[],_,_=>trivial
 | _ :: _,_ :: _,hi,h=>⟨hi _ _ List.mem_cons_self h.1,Yg8.impMem (fun a b ha=>hi a b (List.mem_cons_of_mem _ ha)) h.2⟩
 | [],_ :: _,_,h=>h.elim
 | _ :: _,[],_,h=>h.elim
theorem Yh5.ext (h:Ext K w ι ob w' ι' ob') {x:SV} {v:Value} (hk:∀ c∈x.acs,∀ id,c.src=some id->K id) (r:Yh5 w ι ob x v):Yh5 w' ι' ob' x v:=by
 cases x with
 | one c=>exact ⟨Ygx.ext h (hk c (by simp [SV.acs])) r.1,r.2⟩
 | agg cs=>
  obtain ⟨arr,e,ha⟩:=r
  exact ⟨arr,e,ha.impMem fun c u hm hc=>⟨Ygx.ext h (hk c hm) hc.1,hc.2⟩⟩
theorem Ygz.ext (h:Ext K w ι ob w' ι' ob') {x:AV} {v:Value} (hk:∀ c∈x.acs,∀ id,c.src=some id->K id) (r:Ygz w ι ob x v):Ygz w' ι' ob' x v:=by
 cases x with
 | sv s=>exact Yh5.ext h hk r
 | tup l=>
  obtain ⟨arr,e,ha⟩:=r
  exact ⟨arr,e,ha.impMem fun c u hm hc=>Yh5.ext h (fun x hx=>hk x (List.mem_flatMap.2 ⟨c,hm,hx⟩)) hc⟩
def Y1no (w w':World) (ι ι':Interp) (id:Nat):Prop:=
 ι'.blk id=ι.blk id/\ι'.sl id=ι.sl id/\(∀ b,ι'.fp id b ↔ ι.fp id b)/\∀ b,ι.fp id b->w'.heap[b]? = w.heap[b]?
def Ob.acs:Ob->List AC
 | .box cs=>cs
 | _=>[]
theorem Yiu.keep (h:Ext K w ι ob w' ι' ob') {id:Nat} {o:Ob} (hk:∀ c∈o.acs,∀ id,c.src=some id->K id) (u:Y1no w w' ι ι' id) (r:Yiu w ι ob id o):Yiu w' ι' ob' id o:=by
 obtain ⟨u1,u2,u3,u4⟩:=u
 cases o with
 | free=>exact fun b hb=>r b ((u3 b).1 hb)
 | dead=>exact fun b hb=>r b ((u3 b).1 hb)
 | box cs=>
  obtain ⟨r1,arr,ty,r2,r3⟩:=r
  refine ⟨by rw [u1]; exact (u3 _).2 r1,arr,ty,by rw [u1,u4 _ r1]; exact r2,r3.impMem fun c v hm hc=>⟨Ygx.ext h (hk c hm) hc.1,hc.2⟩⟩
 | arr own sz es=>
  have hf:ι'.fp id=ι.fp id:=funext fun b=>propext (u3 b)
  unfold Yiu at *
  rw [u2,hf]
  exact Ygs.mono r h.g u4
 | map nn k f=>
  unfold Yiu at *
  cases nn with
  | true=>exact ⟨fun b hb=>r.1 b ((u3 b).1 hb),r.2⟩
  | false=>
   simp only at *
   rw [u1]
   exact r.mono (fun x hx=>(u3 x).2 hx) u4
end
theorem Rel.step {P:Program} {E:Ent P} {s:St} {ι:Interp} {a:Act} {w:World} (h:Rel E s ι a w) {K:Nat->Prop} {s':St} {ι':Interp} {w':World}
  (hx:Ext K w ι s.obj w' ι' s'.obj)
  (hreg:∀ t,(s'.reg t=s.reg t/\∀ c∈(s.reg t).acs,∀ id,c.src=some id->K id) ∨ Ygz w' ι' s'.obj (s'.reg t) (a.tmps.getD t undef))
  (hlen:s'.regs.length=s.regs.length) (hm:s'.m=s.m)
  (hobj:∀ i,(s'.obj i=s.obj i/\Y1no w w' ι ι' i/\∀ c∈(s.obj i).acs,∀ id,c.src=some id->K id) ∨ Yiu w' ι' s'.obj i (s'.obj i))
  (disj:∀ i j b,i≠j->ι'.fp i b->¬ ι'.fp j b) (gfp:∀ i b,ι'.fp i b->¬ ι'.G b) (own:∀ i b,ι'.fp i b->E.M b ∨ E.w.heap.size<=b)
  (lt:∀ i b,ι'.fp i b->b<w'.heap.size) (glt:∀ b,ι'.G b->b<w'.heap.size)
  (frame:∀ b,b<E.w.heap.size->¬ E.M b->w'.heap[b]? = w.heap[b]?) (size:w.heap.size<=w'.heap.size) (os:w'.os=w.os) (out:w'.output=w.output)
  (hG:∀ b,ι'.G b->ι.G b ∨ (∃ i,ι.fp i b) ∨ w.heap.size<=b:=by exact fun _ hb=>.inl hb) :
  Rel E s' ι' a w' where
 len:=hlen.trans h.len
 defers:=h.defers
 regs t:=(hreg t).elim (fun ⟨e,hk⟩=>by rw [e]; exact Ygz.ext hx hk (h.regs t)) id
 objs i:=(hobj i).elim (fun ⟨e,hu,hk⟩=>by rw [e]; exact Yiu.keep hx hk hu (h.objs i)) id
 disj:=disj
 gfp:=gfp
 own:=own
 lt:=lt
 glt:=glt
 frame b hb hm:=(frame b hb hm).trans (h.frame b hb hm)
 size:=Nat.le_trans h.size size
 os:=os.trans h.os
 out:=out.trans h.out
 ent i:=(h.ent i).trans (hx.o i)
 gg b hb:=(hx.g b (h.gg b hb)).1
 gown b hb:=by
  rcases hG b hb with h1 | ⟨i,h1⟩ | h1
  ·exact h.gown b h1
  ·exact .inr (h.own i b h1)
  ·exact .inr (.inr (Nat.le_trans h.size h1))
 ment i hi:=h.ment i (by rw [<- hm]; exact hi)
def St.put (s:St) (dst:Option Nat) (v:AV):St:=
 match dst with
 | some d=>{ s with regs:=s.regs.set d v }
 | none=>s
theorem St.obj_put (s:St) (dst:Option Nat) (v:AV):(s.put dst v).obj=s.obj:=by cases dst <;> rfl
theorem Rel.put {P:Program} {E:Ent P} {s:St} {ι:Interp} {a:Act} {w:World} (h:Rel E s ι a w) (dst:Option Nat) {x:AV} {v:Value} (hv:Ygz w ι s.obj x v) :
  Rel E (s.put dst x) ι (a.put dst v) w:=by
 cases dst with
 | none=>exact h
 | some d=>
  have hl:=h.len
  refine { len := ?_,defers:=h.defers,regs:=fun t => ?_,objs:=h.objs,disj:=h.disj,gfp:=h.gfp,own:=h.own,lt:=h.lt,glt:=h.glt,frame:=h.frame,size:=h.size,os:=h.os,out:=h.out,ent:=fun i=>by rw [St.obj_put]; exact h.ent i,gg:=h.gg,gown:=h.gown,ment:=h.ment }
  ·simp [St.put,Act.put,hl]
  ·have ht:=h.regs t
   show Ygz w ι s.obj _ _
   simp only [St.put,Act.put,St.reg,List.getD_eq_getElem?_getD,List.getElem?_set,Array.getD_eq_getD_getElem?,Array.getElem?_setIfInBounds]
   simp only [St.reg,List.getD_eq_getElem?_getD,Array.getD_eq_getD_getElem?] at ht
   by_cases hd:d=t
   ·subst hd
    by_cases hs:d<a.tmps.size
    ·simp [hl,hs,hv]
    ·have e1:s.regs[d]? = none:=by simp; omega
     have e2:a.tmps[d]? = none:=by simp; omega
     simp [hl,hs]
     exact ⟨trivial,fun h=>(h rfl).elim⟩
   ·simp [hd,ht]
end Go.Proofs.YtclpofblehlojaaGreat.Ab
end
section
namespace Go.Proofs.YtclpofblehlojaaGreat.Ab
open Go
inductive Item where
 | asm (p:Prop)
 | obl (p:Prop)
def VC:List Item->Prop->Prop
 | [],K=>K
 | .asm p :: r,K=>p->VC r K
 | .obl p :: r,K=>p/\VC r K
theorem VC.append:∀ {l r:List Item} {K:Prop},VC (l++r) K->VC l (VC r K)
 | [],_,_,h=>h
 | .asm _ :: l,_,_,h=>fun p=>VC.append (l:=l) (h p)
 | .obl _ :: l,_,_,h=>⟨h.1,VC.append (l:=l) h.2⟩
section tables
variable (P:Program)
def Yix (T:TypeId):Option Nat:=(P.info? T).map (·.size)
def Ywq (T:TypeId):Option Bool:=(P.underlying T).map fun d=>match d with | .struct _ | .array _ _=>true | _=>false
def Y1fh (T:TypeId) (f:Nat):Option (Nat × TypeId × Nat):=
 match P.underlying T with
 | some (.struct fs)=>match fs[f]? with
  | some fd=>match Yix P fd.type with | some n=>some (fd.offset,fd.type,n) | none=>none
  | none=>none
 | _=>none
def Ypk (T:TypeId):Option TypeId:=match P.underlying T with | some (.slice e)=>some e | _=>none
variable {P} {w:World}
theorem Yz8 {T:TypeId} {b:Bool} (h:Ywq P T=some b):(isAgg T).run P w=.ok b w:=by
 unfold Ywq at h
 cases hu:P.underlying T with
 | none=>simp [hu] at h
 | some d=>
  simp [hu] at h
  simp only [isAgg,Sem.run_bind,run_underlying hu,Result.andThen_ok]
  cases d <;> simp_all
theorem Yld {T:TypeId} {n:Nat} (h:Yix P T=some n):(Go.sizeOf T).run P w=.ok n w:=by
 unfold Yix at h
 cases hi:P.info? T with
 | none=>simp [hi] at h
 | some i=>simp [hi] at h; simp [Go.sizeOf,typeInfo,hi,h]
theorem Yjl (b o j:Nat):(⟨b,o,none⟩:Addr).add j=⟨b,o+j,none⟩:=by unfold Addr.add; split <;> simp_all
theorem Ync {T:TypeId} {n b o:Nat} {xs:List Value} (ha:Ywq P T=some true) (hn:Yix P T=some n) (hl:xs.length=n)
  (hx:∀ (j:Nat) (u:Value),xs[j]? = some u->w.cell? ⟨b,o+j,none⟩=some u):(loadVar T ⟨b,o,none⟩).run P w=.ok (.agg xs.toArray) w:=by
 have h:=run_loadCells_list (P:=P) w ⟨b,o,none⟩ xs fun j v hv=>by rw [Yjl]; exact hx j v hv
 rw [hl] at h
 simp [loadVar,Yz8 ha,Yld hn,h]
theorem Yqs {T:TypeId} {b o:Nat} {u:Value} (ha:Ywq P T=some false) (hx:w.cell? ⟨b,o,none⟩=some u):(loadVar T ⟨b,o,none⟩).run P w=.ok u w:=by
 simp [loadVar,Yz8 ha,hx]
end tables
def Yqo:Value->Bool
 | .string s=>decide (s.size<=maxLen)
 | .agg _ | .tuple _=>false
 | _=>true
theorem Yn7 {v:Value} (h:Yqo v=true):Yjq v:=by
 cases v <;> first | trivial | (simp [Yqo] at h; done) | (simp [Yqo] at h; exact h)
def St.ev (s:St):Operand->Option AV
 | .tmp t=>match s.reg t with | .sv (.agg [])=>none | v=>some v
 | .const v=>if Yqo v then some (.sv (.one (.val (.lit v)))) else none
 | .global _=>none
 | .func f=>some (.sv (.one (.val (.lit (.func (.func f) #[] #[])))))
section
variable {P:Program} {E:Ent P} {s:St} {ι:Interp} {a:Act} {w:World}
theorem Yjo (h:Rel E s ι a w) {x:Operand} {v:AV} (e:s.ev x=some v):Ygz w ι s.obj v (a.eval x):=by
 cases x with
 | tmp t=>
  simp only [St.ev] at e
  split at e
  ·cases e
  ·simp only [Option.some.injEq] at e; subst e; exact h.regs t
 | const u=>
  simp only [St.ev] at e
  split at e
  ·simp only [Option.some.injEq] at e; subst e; rename_i hb; exact ⟨.lit (Yn7 hb),fun _=>(Yn7 hb).one⟩
  ·cases e
 | global g=>simp [St.ev] at e
 | func f=>simp only [St.ev,Option.some.injEq] at e; subst e; exact ⟨.lit trivial,fun _=>rfl⟩
def St.ac (s:St) (x:Operand):Option AC:=match s.ev x with | some (.sv (.one c))=>some c | _=>none
theorem Yhe (h:Rel E s ι a w) {x:Operand} {c:AC} (e:s.ac x=some c):Ygx w ι s.obj c (a.eval x):=by
 unfold St.ac at e
 split at e
 ·simp only [Option.some.injEq] at e; subst e; rename_i he; exact (Yjo h he).1
 ·cases e
def St.lit (s:St) (x:Operand):Option Value:=match s.ac x with | some (.val (.lit v))=>some v | _=>none
theorem Yjw (h:Rel E s ι a w) {x:Operand} {v:Value} (e:s.lit x=some v):a.eval x=v/\Yjq v:=by
 unfold St.lit at e
 split at e
 ·simp only [Option.some.injEq] at e; subst e; rename_i hac; exact Rd.lit_inv (show Rd w ι.G _ _ from Yhe h hac)
 ·cases e
def St.int (s:St) (x:Operand):Option (IntKind × Int):=match s.lit x with | some (.int k n)=>some (k,n) | _=>none
theorem Yle (h:Rel E s ι a w) {x:Operand} {k:IntKind} {n:Int} (e:s.int x=some (k,n)):a.eval x=.int k n:=by
 unfold St.int at e
 split at e
 ·simp only [Option.some.injEq,Prod.mk.injEq] at e
  obtain ⟨rfl,rfl⟩:=e
  exact (Yjw h ‹_›).1
 ·cases e
inductive Mode where
 | rd
 | own (o:Bool) (sz:Nat)
 | ptr
 | agg (ms:List (Option (Bool × Nat)))
 | map
inductive Ghost where
 | sel (ids keep:List Nat)
 | lock (id:Nat)
 | nilreg (t:Nat) (own:Bool) (sz:Nat)
 | nilbox (id k:Nat) (own:Bool) (sz:Nat)
 | nilmreg (t:Nat) (k:MK)
 | nilmbox (id j:Nat) (k:MK)
 | move (id:Nat)
 | blank (id k:Nat)
 | cap (t id:Nat)
 | pull (b:Nat) (e:List Cell) (l:List (Nat × Nat))
inductive AEx where
 | normal
 | exit (id:Nat)
 | ret
inductive Orc where
 | bool (b:Bool)
 | cells (cs:List Cell)
 | call (ms:List Mode) (objs:List Ob) (res:AV)
 | br (l r:List Orc)
 | ghost (g:Ghost)
 | loop (m:Nat) (t:St) (I:Nat->St->Prop) (outs:List (Prop × AEx × St × List Orc))
 | out (i:Nat)
 | goto (m:Nat) (s:St)
 | fin (ids:List Nat)
 | draw (tids:List (Nat × List Nat))
 | drawT (p q c:Nat) (tids:List (Nat × List Nat))
 | sub
 | bytes (l:List UInt8)
 | take (e:List Cell) (es:List (List Cell)) (sz:Nat)
 | subcall (e:List Cell) (es:List (List Cell)) (sz:Nat)
 | mkmap (k:MK)
 | upd (f:Value->Option Cell)
 | taken (es:List (List Cell)) (sz:Nat) (f:Value->Option Cell)
 | subs (e:List Cell)
 | pulls (e:List Cell) (zs:List Nat)
def Ynv (src:Option Nat):Cell->AC
 | .lit v=>.val (.lit v)
 | .list es=>match src with | none=>.val (.list es) | some id=>.bor id (.list es)
 | .any=>.top
 | .cap v=>match src with | none=>.val (.cap v) | some id=>.bor id (.cap v)
 | .clo f v=>match src with | none=>.val (.clo f v) | some id=>.bor id (.clo f v)
theorem Ypl {ob:Nat->Ob} {src:Option Nat} {c:Cell} {u:Value} (hs:∀ id,src=some id->notFree ob id) (h:Rd w (rdSet ι src) u c):Yi9 w ι ob (Ynv src c) u:=by
 refine ⟨?_,h.one⟩
 cases c with
 | lit v=>obtain ⟨rfl,hv⟩:=h.lit_inv; exact .lit hv
 | list es=>
  cases src with
  | none=>exact h
  | some id=>exact ⟨hs id rfl,fun _=>h⟩
 | any=>trivial
 | cap v=>
  cases src with
  | none=>exact h
  | some id=>exact ⟨hs id rfl,fun _=>h⟩
 | clo f v=>
  cases src with
  | none=>exact h
  | some id=>exact ⟨hs id rfl,fun _=>h⟩
def Ymq (s:St):Option Nat->Bool
 | none=>true
 | some id=>match s.obj id with | .arr .. => true | .map .. => true | _=>false
theorem Ymu {s:St} {src:Option Nat} (h:Ymq s src=true):live s.obj src:=by
 cases src with
 | none=>trivial
 | some id=>
  unfold Ymq at h
  simp only at h
  show (s.obj id).reads
  split at h
  ·rename_i own sz es e; rw [e]; trivial
  ·rename_i nn k f e; rw [e]; trivial
  ·cases h
def Yqh (id i:Nat):Nat->List Cell->List AC
 | _,[]=>[]
 | p,c :: r=>(match c with | .lit v=>.val (.lit v) | .list _=>.sub id i p | _=>.top) :: Yqh id i (p+1) r
theorem Yr5 (id i:Nat):∀ (l:List Cell) (p:Nat),(Yqh id i p l).length=l.length
 | [],_=>rfl
 | _ :: r,p=>by simp only [Yqh,List.length_cons,Yr5 id i r (p+1)]
theorem Yuo {id i sz b:Nat} (hn:notFree s.obj id) (hs:∀ own sz' es,s.obj id=.arr own sz' es->sz'=sz) (hb:(ι.sl id).ownBlock=some b) (hG:rdSet ι (some id) b) :
  ∀ (l:List Cell) (p:Nat) (ys:List Value),(∀ (k:Nat) (u:Value),ys[k]? = some u->w.cell? ⟨b,i * sz+p+k,none⟩=some u)->Yg8 (fun u c=>∃ F':Nat->Prop,OwnC w F' u c) ys l ->
   Yg8 (Yi9 w ι s.obj) (Yqh id i p l) ys
 | [],_,[],_,_=>trivial
 | [],_,_ :: _,_,h=>h.elim
 | _ :: _,_,[],_,h=>h.elim
 | c :: r,p,y :: ys,hy,h=>by
  obtain ⟨F',hN⟩:=h.1
  have h0:w.cell? ⟨b,i * sz+p,none⟩=some y:=by simpa using hy 0 y rfl
  refine ⟨⟨?_,hN.one⟩,Yuo hn hs hb hG r (p+1) ys (fun k u hu => ?_) h.2⟩
  ·cases c with
   | lit v=>cases hN with | lit h1=>exact .lit h1
   | list es=>exact ⟨hn,fun own sz' es' ho=>⟨b,hb,hG,by rw [hs own sz' es' ho]; exact h0⟩⟩
   | any=>trivial
   | cap v=>trivial
   | clo f v=>trivial
  ·have:=hy (k+1) u (by simpa using hu)
   rw [show i * sz+(p+1)+k=i * sz+p+(k+1) by omega]; exact this
def readAt (s:St) (x:AC) (n:Nat) (q:List Orc):Option (List AC × List Item × List Orc):=
 match x with
 | .ptr id off=>match s.obj id with
  | .box cs=>if ((cs.drop off).take n).length=n then some ((cs.drop off).take n,[],q) else none
  | _=>none
 | .iptr src cs=>if Ymq s src=true/\(cs.take n).length=n then some ((cs.take n).map (Ynv src),[],q) else none
 | .eptr id i off=>match s.obj id with
  | .arr own sz es=>match q with
   | .cells e :: q=>if ((e.drop off).take n).length=n/\e.length=sz then
     some (((e.drop off).take n).map (Ynv (if own then some id else none)),[.obl (es[i]? = some e)],q) else none
   | .sub :: q=>if n=1/\off<sz/\own=true then some ([.sub id i off],[.obl (i<es.length)],q) else none
   | .subs e :: q=>if ((e.drop off).take n).length=n/\e.length=sz/\own=true then some (Yqh id i off ((e.drop off).take n),[.obl (es[i]? = some e)],q) else none
   | _=>none
  | _=>none
 | .val (.cap v)=>if n=1 then some ([.val (.lit v)],[],q) else none
 | _=>none
theorem Yiq {α:Type} {sz:Nat}:∀ {es:List (List α)},(∀ e∈es,e.length=sz)->∀ {i k:Nat} {e:List α} {c:α},es[i]? = some e->e[k]? = some c->es.flatten[i * sz+k]? = some c
 | [],_,i,k,e,c,h,_=>by simp at h
 | x :: es,hsz,0,k,e,c,h,hk=>by
  simp only [List.getElem?_cons_zero,Option.some.injEq] at h
  subst h
  simp only [Nat.zero_mul,Nat.zero_add,List.flatten_cons]
  rw [List.getElem?_append_left (List.getElem?_eq_some_iff.1 hk).1]; exact hk
 | x :: es,hsz,i+1,k,e,c,h,hk=>by
  have hx:x.length=sz:=hsz x List.mem_cons_self
  have:=Yiq (es:=es) (fun y hy=>hsz y (List.mem_cons_of_mem _ hy)) (by simpa using h) hk
  simp only [List.flatten_cons]
  rw [List.getElem?_append_right (by rw [hx,Nat.add_mul]; omega),hx]
  rw [show (i+1) * sz+k - sz=i * sz+k by rw [Nat.add_mul]; omega]
  exact this
theorem Yg8.map_left {α β γ:Type} {R:β->γ->Prop} (f:α->β):∀ {as:List α} {bs:List γ},Yg8 (fun a b=>R (f a) b) as bs->Yg8 R (as.map f) bs
 | [],[],_=>trivial
 | _ :: _,_ :: _,h=>⟨h.1,h.2.map_left f⟩
 | [],_ :: _,h=>h.elim
 | _ :: _,[],h=>h.elim
theorem Yg8.flip {α β:Type} {R:α->β->Prop}:∀ {as:List α} {bs:List β},Yg8 R as bs->Yg8 (fun b a=>R a b) bs as
 | [],[],_=>trivial
 | _ :: _,_ :: _,h=>⟨h.1,h.2.flip⟩
 | [],_ :: _,h=>h.elim
 | _ :: _,[],h=>h.elim
theorem Ygs.elem {N:(Nat->Prop)->Value->Cell->Prop} {sz:Nat} {F:Nat->Prop} {v:Value} {es:List (List Cell)} (h:Ygs w N sz F v es) {i:Nat} {e:List Cell} (hi:es[i]? = some e)
  {b:Nat} (hb:v.ownBlock=some b) :
  ∃ ys:List Value,(∀ (k:Nat) (u:Value),ys[k]? = some u->w.cell? ⟨b,i * sz+k,none⟩=some u)/\Yg8 (fun u c=>∃ F':Nat->Prop,(∀ x,F' x->F x)/\N F' u c) ys e:=by
 obtain ⟨ty,xs,Fs,h1,h2,h3,h4,h5,h6,h7,_⟩:=h
 have hl:xs.length=es.flatten.length:=by rw [h1.1,Yh6 h2]
 have he:e.length=sz:=h2 e (List.mem_of_getElem? hi)
 have hpos:∀ (k:Nat) (c:Cell),e[k]? = some c->es.flatten[i * sz+k]? = some c:=fun k c hk=>Yiq h2 hi hk
 have hlt:∀ k,k<sz->i * sz+k<xs.length:=by
  intro k hk
  rw [hl]
  obtain ⟨c,hc⟩:∃ c,e[k]? = some c:=⟨e[k]'(by omega),List.getElem?_eq_getElem _⟩
  exact (List.getElem?_eq_some_iff.1 (hpos k c hc)).1
 have hcells:=Yiw.cells (g:=b) h1 hb
 refine ⟨(xs.drop (i * sz)).take sz,?_,?_⟩
 ·intro k u hu
  rw [List.getElem?_take] at hu
  split at hu
  ·rw [List.getElem?_drop] at hu
   have:=hcells (i * sz+k) u hu
   rw [Yjl] at this
   simpa using this
  ·cases hu
 ·refine Yg8.of_get ?_ ?_
  ·rw [List.length_take,List.length_drop,he]
   rcases Nat.eq_zero_or_pos sz with h0 | h0
   ·omega
   ·have:=hlt (sz - 1) (by omega)
    omega
  ·intro k u c hu hc
   rw [List.getElem?_take] at hu
   split at hu
   ·rw [List.getElem?_drop] at hu
    exact ⟨Fs (i * sz+k),h4 _,h7 _ u c hu (hpos k c hc)⟩
   ·cases hu
theorem Yun (h:Rel E s ι a w) {x:AC} {n:Nat} {q q':List Orc} {l:List AC} {it:List Item} {K:Prop} (e:readAt s x n q=some (l,it,q')) {v:Value} (hv:Ygx w ι s.obj x v)
  (vc:VC it K):(∃ b o xs,v=.pointer (some ⟨b,o,none⟩)/\l.length=n/\(∀ (j:Nat) (u:Value),xs[j]? = some u->w.cell? ⟨b,o+j,none⟩=some u)/\Yg8 (Yi9 w ι s.obj) l xs)/\K:=by
 unfold readAt at e
 split at e
 ·rename_i id off
  split at e
  ·rename_i cs ho
   split at e
   ·rename_i hn
    simp only [Option.some.injEq,Prod.mk.injEq] at e
    obtain ⟨rfl,rfl,rfl⟩:=e
    have hob:=h.objs id
    rw [ho] at hob
    obtain ⟨_,arr,ty,hheap,ha⟩:=hob
    refine ⟨⟨ι.blk id,off,(arr.toList.drop off).take n,hv.2 _ ho,hn,?_,(ha.drop off).take n⟩,vc⟩
    intro j u hu
    rw [List.getElem?_take] at hu
    split at hu
    ·rw [List.getElem?_drop] at hu
     rw [cell_of_row w _ _ arr ty (0,0) hheap]
     simpa using hu
    ·cases hu
   ·cases e
  ·cases e
 ·rename_i src cs
  split at e
  ·rename_i hn
   simp only [Option.some.injEq,Prod.mk.injEq] at e
   obtain ⟨rfl,rfl,rfl⟩:=e
   obtain ⟨b,o,xs,hp,hb,hx,ha⟩:=hv.2 (Ymu hn.1)
   refine ⟨⟨b,o,xs.take n,hp,by simpa using hn.2,fun j u hu=>hx j u ?_,?_⟩,vc⟩
   ·rw [List.getElem?_take] at hu
    split at hu
    ·exact hu
    ·cases hu
   ·exact Yg8.map_left _ ((ha.take n).flip.imp fun c u hc=>Ypl (fun id e=>hv.1 id e) hc)
  ·cases e
 ·rename_i id i off
  split at e
  ·rename_i own sz es ho
   split at e
   ·rename_i el q0
    split at e
    ·rename_i hn
     simp only [Option.some.injEq,Prod.mk.injEq] at e
     obtain ⟨rfl,rfl,rfl⟩:=e
     obtain ⟨hel,vc⟩:=vc
     have hob:=h.objs id
     rw [ho] at hob
     obtain ⟨b,hb,hp⟩:=hv.2 _ _ _ ho
     obtain ⟨ys,hy,ha⟩:=Ygs.elem hob hel hb
     refine ⟨⟨b,i * sz+off,(ys.drop off).take n,hp,by simpa using hn.1,?_,?_⟩,vc⟩
     ·intro j u hu
      rw [List.getElem?_take] at hu
      split at hu
      ·rw [List.getElem?_drop] at hu
       have:=hy (off+j) u hu
       rwa [Nat.add_assoc]
      ·cases hu
     ·refine Yg8.map_left _ ((((ha.drop off).take n).flip).imp fun c u hc => ?_)
      obtain ⟨F',hF,hN⟩:=hc
      cases own with
      | true=>exact Ypl (fun id' e=>by cases e; exact hv.1) (OwnC.toRd hN fun b hb=>.inr (hF b hb))
      | false=>exact Ypl (fun id' e=>by cases e) hN
    ·cases e
   ·split at e
    ·rename_i hn
     obtain ⟨rfl,hoff,rfl⟩:=hn
     simp only [Option.some.injEq,Prod.mk.injEq] at e
     obtain ⟨rfl,rfl,rfl⟩:=e
     obtain ⟨hlt,vc⟩:=vc
     have hob:=h.objs id
     rw [ho] at hob
     obtain ⟨b,hb,hp⟩:=hv.2 _ _ _ ho
     have hel:es[i]? = some es[i]:=List.getElem?_eq_getElem hlt
     obtain ⟨ys,hy,ha⟩:=Ygs.elem hob hel hb
     obtain ⟨e0,xs,Fs,h1,h2,h3,_⟩:=hob
     have hsz:es[i].length=sz:=h2 _ (List.getElem_mem hlt)
     have hyl:off<ys.length:=by rw [ha.length,hsz]; exact hoff
     obtain ⟨c,hc,hrel⟩:=ha.get_left (List.getElem?_eq_getElem hyl)
     have hcell:=hy off _ (List.getElem?_eq_getElem hyl)
     refine ⟨⟨b,i * sz+off,[ys[off]],hp,rfl,fun j u hu => ?_,⟨⟨hv.1,fun own sz1 es1 ho1 => ?_⟩,?_⟩,trivial⟩,vc⟩
     ·cases j with
      | zero=>simp at hu; subst hu; simpa using hcell
      | succ j=>simp at hu
     ·rw [ho] at ho1
      simp only [Ob.arr.injEq] at ho1
      obtain ⟨rfl,rfl,rfl⟩:=ho1
      exact ⟨b,hb,.inr (h3 b hb),hcell⟩
     ·obtain ⟨F',_,hN⟩:=hrel
      exact Yhm.one hN
    ·cases e
   ·rename_i el q0
    split at e
    ·rename_i hn
     obtain ⟨hl1,hl2,rfl⟩:=hn
     simp only [Option.some.injEq,Prod.mk.injEq] at e
     obtain ⟨rfl,rfl,rfl⟩:=e
     obtain ⟨hel,vc⟩:=vc
     have hob:=h.objs id
     rw [ho] at hob
     obtain ⟨b,hb,hp⟩:=hv.2 _ _ _ ho
     obtain ⟨ys,hy,ha⟩:=Ygs.elem hob hel hb
     obtain ⟨e0,xs,Fs,h1,h2,h3,_⟩:=hob
     have hcell:∀ (j:Nat) (u:Value),((ys.drop off).take n)[j]? = some u->w.cell? ⟨b,i * sz+off+j,none⟩=some u:=by
      intro j u hu
      rw [List.getElem?_take] at hu
      split at hu
      ·rw [List.getElem?_drop] at hu
       have:=hy (off+j) u hu
       rwa [Nat.add_assoc]
      ·cases hu
     refine ⟨⟨b,i * sz+off,(ys.drop off).take n,hp,by rw [Yr5]; exact hl1,hcell,?_⟩,vc⟩
     refine Yuo hv.1 (fun own' sz' es' ho'=>by rw [ho] at ho'; cases ho'; rfl) hb (.inr (h3 b hb)) _ _ _ hcell ?_
     exact ((ha.drop off).take n).imp fun u c hc=>let ⟨F',_,hN⟩:=hc; ⟨F',hN⟩
    ·cases e
   ·cases e
  ·cases e
 ·rename_i u
  split at e
  ·rename_i hn
   subst hn
   simp only [Option.some.injEq,Prod.mk.injEq] at e
   obtain ⟨rfl,rfl,rfl⟩:=e
   have hr:Rd w ι.G v (.cap u):=hv
   cases hr with
   | cap hb hl hx=>
    refine ⟨⟨_,_,[u],rfl,rfl,fun j y hy => ?_,⟨⟨.lit hl,hl.one⟩,trivial⟩⟩,vc⟩
    cases j with
    | zero=>simp at hy; subst hy; simpa using hx
    | succ j=>simp at hy
  ·cases e
 ·cases e
end
end Go.Proofs.YtclpofblehlojaaGreat.Ab
end
section
namespace Go.Proofs.YtclpofblehlojaaGreat.Ab
open Go
abbrev bs (l:List UInt8):Value:=.string ⟨l.toArray⟩
def rng (k:IntKind) (n:Int):Prop:=k.min<=n/\n<=k.max
theorem Yoi {k:IntKind} {n:Int} (h:rng k n):k.wrap n=n:=by
 obtain ⟨h1,h2⟩:=h
 cases k <;> simp only [IntKind.min,IntKind.max,IntKind.signed,IntKind.bits,IntKind.wrap] at * <;> simp at * <;> first | omega | (split <;> omega)
theorem Y19q {n:Int}:rng .i64 n ↔ -9223372036854775808<=n/\n<=9223372036854775807:=by
 simp [rng,IntKind.min,IntKind.max,IntKind.signed,IntKind.bits]
def wI (k:IntKind) (n:Int):Int:=k.wrap n
def Ymy (k:IntKind) (a b:Int):Int:=k.wrap (BitVec.ofInt k.bits a &&& BitVec.ofInt k.bits b).toNat
def Yxl (k:IntKind) (a b:Int):Int:=k.wrap (BitVec.ofInt k.bits a ^^^ BitVec.ofInt k.bits b).toNat
def Yp8 (k:IntKind) (a b:Int):Int:=a.fdiv (2 ^ min b.toNat k.bits)
def iW (w:Bool) (k:IntKind) (n:Int):Option (Value × List Item):=match w with | true=>some (.int k (wI k n),[]) | false=>some (.int k n,[.obl (rng k n)])
theorem Y1je {w:Bool} {k:IntKind} {n:Int} {v:Value} {it:List Item} {K:Prop} (e:iW w k n=some (v,it)) (vc:VC it K):v=.int k (k.wrap n)/\K:=by
 cases w <;> simp only [iW,Option.some.injEq,Prod.mk.injEq] at e <;> obtain ⟨rfl,rfl⟩:=e
 ·exact ⟨by rw [Yoi vc.1],vc.2⟩
 ·exact ⟨rfl,vc⟩
def Y1et (w:Bool) (op:BinOp) (k:IntKind) (a b:Int):Option (Value × List Item):=
 match op with
 | .and=>some (.int k (Ymy k a b),[])
 | .xor=>some (.int k (Yxl k a b),[])
 | .add=>iW w k (a+b)
 | .sub=>some (.int k (a - b),[.obl (rng k (a - b))])
 | .mul=>iW w k (a * b)
 | .quo=>some (.int k (a.tdiv b),[.obl (b≠0),.obl (rng k (a.tdiv b))])
 | .rem=>some (.int k (a.tmod b),[.obl (b≠0)])
 | .eql=>some (.bool (decide (a=b)),[])
 | .neq=>some (.bool (decide (a≠b)),[])
 | .lss=>some (.bool (decide (a<b)),[])
 | .leq=>some (.bool (decide (a<=b)),[])
 | .gtr=>some (.bool (decide (b<a)),[])
 | .geq=>some (.bool (decide (b<=a)),[])
 | _=>none
def Y1ek (op:BinOp) (a b:List UInt8):Option (Value × List Item):=
 match op with
 | .add=>some (bs (a++b),[.obl (a.length+b.length<=maxLen)])
 | .eql=>some (.bool (decide (a=b)),[])
 | .neq=>some (.bool (decide (a≠b)),[])
 | _=>none
def Y18a (op:BinOp) (a b:Bool):Option (Value × List Item):=
 match op with
 | .eql=>some (.bool (decide (a=b)),[])
 | .neq=>some (.bool (decide (a≠b)),[])
 | _=>none
def Y1e0 (P:Program) (T:TypeId):Bool:=match P.underlying T with | some .bool=>true | _=>false
def Y1iq:BinOp->Bool | .shr=>true | _=>false
def bop (P:Program) (T:TypeId) (big:Bool) (op:BinOp) (x y:Value):Option (Value × List Item):=
 match x with
 | .int k a=>match y with
  | .int k' b=>match Y1iq op with
   | true=>some (.int k (Yp8 k a b),[.obl (0<=b)])
   | false=>if k=k' then Y1et big op k a b else none
  | _=>none
 | .string a=>match y with | .string b=>Y1ek op a.data.toList b.data.toList | _=>none
 | .bool a=>match y with | .bool b=>if Y1e0 P T then Y18a op a b else none | _=>none
 | _=>none
theorem Yri {P:Program} {w:World} {op:BinOp} {T:TypeId} {xo yo:Operand} {x y:Value} (hx:∀ t u,x≠.iface t u) (hn:x≠.nilIface) (ha:∀ c,x≠.agg c) :
  (eqGuard op T xo yo x y).run P w=.ok () w:=by
 cases x <;> first | exact (hn rfl).elim | exact (ha _ rfl).elim | exact (hx _ _ rfl).elim | (cases op <;> cases y <;> simp [eqGuard])
theorem Y16c (a:ByteArray):a=⟨a.data.toList.toArray⟩:=by cases a; rfl
theorem Y1ea {P:Program} {T:TypeId} {big:Bool} {op:BinOp} {x y v:Value} {it:List Item} {K:Prop} (e:bop P T big op x y=some (v,it)) (vc:VC it K) :
  (∀ (w:World) (xo yo:Operand),(do eqGuard op T xo yo x y; binOp op T x y:Sem Value).run P w=.ok v w)/\Yjq v/\K:=by
 unfold bop at e
 split at e
 ·rename_i k a
  split at e
  ·rename_i k' b
   split at e
   ·rename_i ho
    have ho:op=.shr:=by cases op <;> simp_all [Y1iq]
    subst ho
    simp only [Option.some.injEq,Prod.mk.injEq] at e
    obtain ⟨rfl,rfl⟩:=e
    have hb:¬ b<0:=by have:=vc.1; omega
    exact ⟨fun w xo yo=>by simp [eqGuard,binOp,Op.shift,hb,Yp8],trivial,vc.2⟩
   split at e
   ·rename_i hk
    subst hk
    have hg:∀ (w:World) (T:TypeId) (xo yo:Operand),(eqGuard op T xo yo (.int k a) (.int k b)).run P w=.ok () w:=fun w T xo yo=>Yri (by simp) (by simp) (by simp)
    cases op <;> simp only [Y1et,Option.some.injEq,Prod.mk.injEq,reduceCtorEq] at e <;> (try (obtain ⟨rfl,rfl⟩:=e; simp only [VC] at vc))
    case and=>exact ⟨fun w xo yo=>by simp [hg,binOp,Op.intBits,Ymy],trivial,vc⟩
    case xor=>exact ⟨fun w xo yo=>by simp [hg,binOp,Op.intBits,Yxl],trivial,vc⟩
    case add=>obtain ⟨rfl,h⟩:=Y1je e vc; exact ⟨fun w xo yo=>by simp [hg,binOp,Op.intArith],trivial,h⟩
    case mul=>obtain ⟨rfl,h⟩:=Y1je e vc; exact ⟨fun w xo yo=>by simp [hg,binOp,Op.intArith],trivial,h⟩
    case sub=>exact ⟨fun w xo yo=>by simp [hg,binOp,Op.intArith,Yoi vc.1],trivial,vc.2⟩
    case quo=>exact ⟨fun w xo yo=>by simp [hg,binOp,Op.intDiv,Yoi vc.2.1,vc.1],trivial,vc.2.2⟩
    case rem=>exact ⟨fun w xo yo=>by simp [hg,binOp,Op.intDiv,vc.1],trivial,vc.2⟩
    case eql=>exact ⟨fun w xo yo=>by simp [hg,binOp,Op.intCmp]; rfl,trivial,vc⟩
    case neq=>exact ⟨fun w xo yo=>by simp [hg,binOp,Op.intCmp,bne]; rfl,trivial,vc⟩
    case lss=>exact ⟨fun w xo yo=>by simp [hg,binOp,Op.intCmp],trivial,vc⟩
    case leq=>exact ⟨fun w xo yo=>by simp [hg,binOp,Op.intCmp],trivial,vc⟩
    case gtr=>exact ⟨fun w xo yo=>by simp [hg,binOp,Op.intCmp],trivial,vc⟩
    case geq=>exact ⟨fun w xo yo=>by simp [hg,binOp,Op.intCmp],trivial,vc⟩
   ·cases e
  ·cases e
 ·rename_i a
  split at e
  ·rename_i b
   have hg:∀ (w:World) (T:TypeId) (xo yo:Operand),(eqGuard op T xo yo (.string a) (.string b)).run P w=.ok () w:=fun w T xo yo=>Yri (by simp) (by simp) (by simp)
   cases op <;> simp only [Y1ek,Option.some.injEq,Prod.mk.injEq,reduceCtorEq] at e <;> obtain ⟨rfl,rfl⟩:=e <;> simp only [VC] at vc
   case add=>
    have h0:a.data.toList.length+b.data.toList.length<=maxLen:=vc.1
    rw [Array.length_toList,Array.length_toList] at h0
    have hl:a.size+b.size<=9223372036854775807:=h0
    refine ⟨fun w xo yo => ?_,?_,vc.2⟩
    ·simp only [Sem.run_bind,hg,Result.andThen_ok,binOp_string_add,run_string_add_sum w a b hl]
     conv=>lhs; rw [Y16c a,Y16c b,ByteArray.mk_append_mk]
    ·show (a.data.toList++b.data.toList).toArray.size<=maxLen
     rw [List.size_toArray,List.length_append]; exact vc.1
   case eql=>
    refine ⟨fun w xo yo => ?_,trivial,vc⟩
    simp only [Sem.run_bind,hg,Result.andThen_ok,binOp_string_eql,Sem.run_pure,ByteArray.toList_eq]
    congr 2
    by_cases h:a.data.toList=b.data.toList
    ·rw [h]; simp
    ·rw [decide_eq_false h]; exact beq_eq_false_iff_ne.2 h
   case neq=>
    refine ⟨fun w xo yo => ?_,trivial,vc⟩
    simp only [Sem.run_bind,hg,Result.andThen_ok,binOp_string_neq,Sem.run_pure,ByteArray.toList_eq]
    congr 2
    by_cases h:a.data.toList=b.data.toList
    ·rw [h]; simp
    ·rw [beq_eq_false_iff_ne.2 h,decide_eq_true h]; rfl
  ·cases e
 ·rename_i a
  split at e
  ·rename_i b
   split at e
   ·rename_i hT
    have hT':P.underlying T=some .bool:=by unfold Y1e0 at hT; split at hT <;> simp_all
    have hg:∀ (w:World) (xo yo:Operand),(eqGuard op T xo yo (.bool a) (.bool b)).run P w=.ok () w:=fun w xo yo=>Yri (by simp) (by simp) (by simp)
    cases op <;> simp only [Y18a,Option.some.injEq,Prod.mk.injEq,reduceCtorEq] at e <;> obtain ⟨rfl,rfl⟩:=e <;> simp only [VC] at vc
    case eql=>exact ⟨fun w xo yo=>by simp [hg,binOp,run_equal_bool _ _ _ _ hT']; rfl,trivial,vc⟩
    case neq=>exact ⟨fun w xo yo=>by simp [hg,binOp,run_equal_bool _ _ _ _ hT']; cases a <;> cases b <;> rfl,trivial,vc⟩
   ·cases e
  ·cases e
 ·cases e
abbrev Ym4 (v:Value):AV:=.sv (.one (.val (.lit v)))
def Y16v (ag:Bool) (l:List AC):Option SV:=
 match ag with
 | true=>some (.agg l)
 | false=>match l with | [c]=>some (.one c) | _=>none
def ptrLive (s:St):AC->Bool
 | .ptr id _=>match s.obj id with | .box _=>true | _=>false
 | .eptr id _ _=>match s.obj id with | .arr .. => true | _=>false
 | .iptr src _=>Ymq s src
 | _=>false
def shift (off:Nat):AC->Option AC
 | .ptr id o=>some (.ptr id (o+off))
 | .eptr id i o=>some (.eptr id i (o+off))
 | .iptr src cs=>some (.iptr src (cs.drop off))
 | _=>none
def idxAddr (s:St) (sz:Nat) (n:Int) (q:List Orc):AC->Option (AC × List Item × List Orc)
 | .val (.list es)=>match q with
  | .cells cl :: q=>if cl.length=sz then some (.iptr none cl,[.obl (0<=n/\es[n.toNat]? = some cl)],q) else none
  | _=>none
 | .bor id (.list es)=>match q with
  | .cells cl :: q=>if cl.length=sz/\Ymq s (some id)=true then some (.iptr (some id) cl,[.obl (0<=n/\es[n.toNat]? = some cl)],q) else none
  | _=>none
 | .ref id=>match s.obj id with
  | .arr _ sz' es=>if sz'=sz then some (.eptr id n.toNat 0,[.obl (0<=n/\n.toNat<es.length)],q) else none
  | _=>none
 | _=>none
def elems (s:St):AC->Option (Option Nat × List (List Cell))
 | .val (.list es)=>some (none,es)
 | .val (.lit (.slice none 0 0))=>some (none,[])
 | .bor id (.list es)=>if Ymq s (some id) then some (some id,es) else none
 | .ref id=>match s.obj id with
  | .arr _ _ es=>some (some id,es)
  | _=>none
 | _=>none
def litS (s:St) (x:Operand):Option (List UInt8):=match s.lit x with | some (.string t)=>some t.data.toList | _=>none
def bound (s:St) (d:Nat):Option Operand->Option (Nat × List Item)
 | none=>some (d,[])
 | some x=>match s.int x with | some (_,n)=>some (n.toNat,[.obl (0<=n)]) | none=>none
def Y1re (src:Option Nat) (es:List (List Cell)):AC:=match src with | none=>.val (.list es) | some id=>.bor id (.list es)
def Y10d (P:Program) (T:TypeId):Bool:=match P.underlying T with | some (.slice _)=>true | _=>false
def Ymz (P:Program) (T:TypeId):Bool:=match P.underlying T with | some .string=>true | _=>false
def Yol (P:Program) (T:TypeId):Bool:=match P.underlying T with | some (.slice e)=>(match P.underlying e with | some (.int .u8)=>true | _=>false) | _=>false
def Yg9 (b:UInt8):List Cell:=[.lit (.int .u8 (b.toNat:Int))]
def Y1e2 (P:Program) (T:TypeId):Option IntKind:=match P.underlying T with | some (.int k)=>some k | _=>none
section
variable (P:Program) (s:St)
def vSlice (T:TypeId) (x:Operand) (lo hi mx:Option Operand) (q:List Orc):Option (AV × List Item × List Orc):=
 match mx with
 | some _=>none
 | none=>
  match Ymz P T with
  | true=>match litS s x with
   | some l=>match bound s 0 lo,bound s l.length hi with
    | some (a,i1),some (b,i2)=>some (Ym4 (bs ((l.drop a).take (b - a))),i1++i2++[.obl (a<=b/\b<=l.length)],q)
    | _,_=>none
   | none=>none
  | false=>match s.ac x,Ypk P T with
   | some c,some e=>match elems s c,Yix P e with
    | some (src,es),some sz=>match bound s 0 lo,bound s es.length hi with
     | some (a,i1),some (b,i2)=>some (.sv (.one (Y1re src ((es.drop a).take (b - a)))),i1++i2++[.obl (a<=b/\b<=es.length/\∀ e∈es,e.length=sz)],q)
     | _,_=>none
    | _,_=>none
   | _,_=>none
def Y15e (s:St) (id i p:Nat) (q:List Orc):Option (AV × List Item × List Orc):=
 match s.obj id with
 | .arr true _ es=>match q with
  | .cells e :: q=>match e[p]? with
   | some (.list es')=>some (Ym4 (.int .i64 (es'.length:Int)),[.obl (es[i]? = some e),.asm (es'.length<=maxLen)],q)
   | _=>none
  | _=>none
 | _=>none
def vBuiltin (b:Builtin) (args:Array Operand) (tys:Array TypeId) (q:List Orc):Option (AV × List Item × List Orc):=
 match b with
 | .len=>match args.toList,tys.toList with
  | [x],[t]=>match Ymz P t with
   | true=>match litS s x with
    | some l=>some (Ym4 (.int .i64 (l.length:Int)),[.asm (l.length<=maxLen)],q)
    | none=>none
   | false=>match s.ac x,Y10d P t with
    | some (.sub id i p),true=>Y15e s id i p q
    | some c,true=>(elems s c).map fun r=>(Ym4 (.int .i64 (r.2.length:Int)),[.asm (r.2.length<=maxLen)],q)
    | _,_=>none
  | _,_=>none
 | .max=>match args.toList with
  | [x,y]=>match s.int x,s.int y with
   | some (k,a),some (_,b)=>some (Ym4 (.int k (max a b)),[],q)
   | _,_=>none
  | _=>none
 | .min=>match args.toList with
  | [x,y]=>match s.int x,s.int y with
   | some (k,a),some (_,b)=>some (Ym4 (.int k (min a b)),[],q)
   | _,_=>none
  | _=>none
 | _=>none
def mkClo (s:St) (fn:Fn) (first captured:Array Operand) (q:List Orc):Option (AV × List Item × List Orc):=
 match fn with
 | .func f=>(match first.toList with
  | []=>(match captured.toList with
   | [x]=>(match s.ac x with
    | some (.val (.cap v))=>some (.sv (.one (.val (.clo f v))),[],q)
    | _=>none)
   | _=>none)
  | _=>none)
 | _=>none
def Y1nv:Operand->Bool
 | .const (.int _ (.ofNat n))=>Nat.ble 4503599627370496 n
 | _=>false
def vop (o:Oper) (q:List Orc):Option (AV × List Item × List Orc):=
 match o.op with
 | .move x | .assign x=>(s.ev x).map fun v=>(v,[],q)
 | .pick c x y=>match s.lit c with
  | some (.bool true)=>(s.ev x).map fun v=>(v,[],q)
  | some (.bool false)=>(s.ev y).map fun v=>(v,[],q)
  | _=>none
 | .load T x=>match s.ac x,Yix P T,Ywq P T with
  | some c,some n,some ag=>match readAt s c n q with
   | some (l,it,q')=>(Y16v ag l).map fun v=>(.sv v,it,q')
   | none=>none
  | _,_,_=>none
 | .nilCheck x=>match s.ac x with
  | some c=>if ptrLive s c then some (.sv (.one c),[],q) else none
  | none=>none
 | .binOp op T x y _=>match s.lit x,s.lit y with
  | some a,some b=>(bop P T (Y1nv y) op a b).map fun r=>(Ym4 r.1,r.2,q)
  | _,_=>none
 | .unOp .not _ x=>match s.lit x with
  | some (.bool b)=>some (Ym4 (.bool (!b)),[],q)
  | _=>none
 | .unOp .neg _ x=>match s.int x with
  | some (k,n)=>some (Ym4 (.int k (0 - n)),[.obl (rng k (0 - n))],q)
  | none=>none
 | .convert src dst x=>match Yol P src&&Ymz P dst with
  | true=>match s.ac x,q with
   | some c,.bytes l :: q=>match elems s c with
    | some (_,es)=>some (Ym4 (bs l),[.obl (es=l.map Yg9)],q)
    | none=>none
   | _,_=>none
  | false=>match s.int x,P.underlying src,Y1e2 P dst with
   | some (_,n),some _,some k=>some (Ym4 (.int k n),[.obl (rng k n)],q)
   | _,_,_=>none
 | .fieldAddr S x f=>match s.ac x,Y1fh P S f with
  | some c,some (off,_,n)=>if n≠0/\ptrLive s c=true then (shift off c).map fun c=>(.sv (.one c),[],q) else none
  | _,_=>none
 | .indexAddr T x i=>match s.ac x,s.int i,Ypk P T with
  | some c,some (_,n),some e=>match Yix P e with
   | some sz=>(idxAddr s sz n q c).map fun r=>(.sv (.one r.1),r.2.1,r.2.2)
   | none=>none
  | _,_,_=>none
 | .index T x i=>match Ymz P T,litS s x,s.int i with
  | true,some l,some (_,n)=>some (Ym4 (.int .u8 ((l.getD n.toNat 0).toNat:Int)),[.obl (0<=n/\n.toNat<l.length)],q)
  | _,_,_=>none
 | .slice T x lo hi mx=>vSlice P s T x lo hi mx q
 | .extract x i=>match s.ev x with
  | some (.tup l)=>match l[i]? with | some v=>some (.sv v,[],q) | none=>none
  | _=>none
 | .call { callee:=.builtin b,args:=args,argTypes:=tys }=>vBuiltin P s b args tys q
 | .makeFunc fn first captured=>mkClo s fn first captured q
 | _=>none
end
section
variable {P:Program} {E:Ent P} {s:St} {ι:Interp} {a:Act} {w:World}
theorem Yij (x:Sem Value) {v:Value} {w':World} (h:x.run P w=.ok v w'):(do pure (.value (<- x)):Sem Next).run P w=.ok (.value v) w':=by simp [h]
theorem Yie {ob:Nat->Ob} {v:Value} (h:Yjq v):Ygz w ι ob (Ym4 v) v:=⟨.lit h,fun _=>h.one⟩
theorem Yxr (h:Rel E s ι a w) {x:Operand} {l:List UInt8} (e:litS s x=some l):a.eval x=bs l/\l.length<=maxLen:=by
 unfold litS at e
 split at e
 ·rename_i t ht
  simp only [Option.some.injEq] at e; subst e
  obtain ⟨h1,h2⟩:=Yjw h ht
  refine ⟨h1,?_⟩
  rw [Array.length_toList]; exact h2
 ·cases e
theorem Yu5 {c:AC} {v:Value} (hv:Ygx w ι s.obj c v) (e:ptrLive s c=true):∃ b o,v=.pointer (some ⟨b,o,none⟩):=by
 unfold ptrLive at e
 split at e
 ·split at e
  ·rename_i hb; exact ⟨_,_,hv.2 _ hb⟩
  ·cases e
 ·split at e
  ·rename_i hb
   obtain ⟨b,_,hp⟩:=hv.2 _ _ _ hb
   exact ⟨_,_,hp⟩
  ·cases e
 ·obtain ⟨b,o,xs,hp,_⟩:=hv.2 (Ymu e)
  exact ⟨_,_,hp⟩
 ·cases e
theorem Y1d5 {c c':AC} {off b o:Nat} (hv:Ygx w ι s.obj c (.pointer (some ⟨b,o,none⟩))) (e:shift off c=some c') :
  Ygx w ι s.obj c' (.pointer (some ⟨b,o+off,none⟩)):=by
 unfold shift at e
 split at e <;> simp only [Option.some.injEq,reduceCtorEq] at e
 ·subst e
  refine ⟨hv.1,fun cs hb => ?_⟩
  have:=hv.2 cs hb
  simp only [Value.pointer.injEq,Option.some.injEq,Addr.mk.injEq,and_true] at this ⊢
  exact ⟨this.1,by omega⟩
 ·subst e
  refine ⟨hv.1,fun own sz es hb => ?_⟩
  obtain ⟨b',h1,h2⟩:=hv.2 own sz es hb
  refine ⟨b',h1,?_⟩
  simp only [Value.pointer.injEq,Option.some.injEq,Addr.mk.injEq,and_true] at h2 ⊢
  exact ⟨h2.1,by omega⟩
 ·subst e
  refine ⟨hv.1,fun hl => ?_⟩
  obtain ⟨b',o',xs,h1,h2,h3,h4⟩:=hv.2 hl
  simp only [Value.pointer.injEq,Option.some.injEq,Addr.mk.injEq,and_true] at h1
  obtain ⟨rfl,rfl⟩:=h1
  refine ⟨b,o+off,xs.drop off,rfl,h2,fun j u hu => ?_,h4.drop off⟩
  rw [List.getElem?_drop] at hu
  have:=h3 _ _ hu
  rwa [Nat.add_assoc]
theorem Yx3 (h:Rel E s ι a w) {c:AC} {v:Value} (hv:Ygx w ι s.obj c v) {src:Option Nat} {es:List (List Cell)} (e:elems s c=some (src,es)) :
  Rd w (rdSet ι src) v (.list es)/\(∀ id,src=some id->notFree s.obj id):=by
 unfold elems at e
 split at e
 ·simp only [Option.some.injEq,Prod.mk.injEq] at e
  obtain ⟨rfl,rfl⟩:=e
  exact ⟨hv,by simp⟩
 ·simp only [Option.some.injEq,Prod.mk.injEq] at e
  obtain ⟨rfl,rfl⟩:=e
  obtain ⟨rfl,_⟩:=Rd.lit_inv (show Rd w ι.G v _ from hv)
  exact ⟨.nil,by simp⟩
 ·split at e
  ·rename_i hl
   simp only [Option.some.injEq,Prod.mk.injEq] at e
   obtain ⟨rfl,rfl⟩:=e
   exact ⟨hv.2 (Ymu hl),fun i e=>by cases e; exact hv.1⟩
  ·cases e
 ·split at e
  ·rename_i id _ own sz es' ho
   simp only [Option.some.injEq,Prod.mk.injEq] at e
   obtain ⟨rfl,rfl⟩:=e
   have hob:=h.objs id
   rw [ho] at hob
   rw [hv.2 _ _ _ ho]
   exact ⟨Ygs.rd hob,fun i e=>by cases e; exact hv.1⟩
  ·cases e
 ·cases e
theorem Rd.list_inv {G:Nat->Prop} {v:Value} {es:List (List Cell)} (h:Rd w G v (.list es)):es.length<=maxLen/\∃ base cap,v=.slice base es.length cap:=by
 cases h with
 | nil=>exact ⟨by simp,_,_,rfl⟩
 | slice hG hc hm=>exact ⟨Nat.le_trans hc hm,_,_,rfl⟩
theorem Yy8 {T:TypeId} (h:Y10d P T=true):∃ e,P.underlying T=some (.slice e):=by
 unfold Y10d at h; split at h
 ·exact ⟨_,‹_›⟩
 ·cases h
theorem Yor {T:TypeId} (h:Ymz P T=true):P.underlying T=some .string:=by
 unfold Ymz at h; split at h
 ·assumption
 ·cases h
theorem Ymv {T e:TypeId} (h:Ypk P T=some e):P.underlying T=some (.slice e):=by
 unfold Ypk at h; split at h
 ·simp only [Option.some.injEq] at h; subst h; assumption
 ·cases h
theorem Rd.elem {G:Nat->Prop} {v:Value} {es:List (List Cell)} (h:Rd w G v (.list es)) {i:Nat} {cl:List Cell} (hi:es[i]? = some cl) :
  ∃ b off cap,v=.slice (some ⟨b,off,none⟩) es.length cap/\G b/\∃ xs:List Value,(∀ (j:Nat) (u:Value),xs[j]? = some u->w.cell? ⟨b,off+i * cl.length+j,none⟩=some u)/\Yg8 (Rd w G) xs cl:=by
 cases h with
 | nil=>simp at hi
 | slice hG hc hm hsz hl hx hr=>
  rename_i b off cap sz xs
  have he:cl.length=sz:=hsz _ (List.mem_of_getElem? hi)
  have hpos:∀ (k:Nat) (c:Cell),cl[k]? = some c->es.flatten[i * sz+k]? = some c:=fun k c hk=>Yiq hsz hi hk
  have hlt:∀ k,k<sz->i * sz+k<xs.length:=by
   intro k hk
   rw [hl]
   obtain ⟨c,hc⟩:∃ c,cl[k]? = some c:=⟨cl[k]'(by omega),List.getElem?_eq_getElem _⟩
   exact (List.getElem?_eq_some_iff.1 (hpos k c hc)).1
  refine ⟨b,off,cap,rfl,hG,(xs.drop (i * sz)).take sz,fun j u hu => ?_,Yg8.of_get ?_ fun k u c hu hc => ?_⟩
  ·rw [List.getElem?_take] at hu
   split at hu
   ·rw [List.getElem?_drop] at hu
    have:=hx _ _ hu
    rw [he]
    rwa [Nat.add_assoc]
   ·cases hu
  ·rw [List.length_take,List.length_drop,he]
   rcases Nat.eq_zero_or_pos sz with h0 | h0
   ·omega
   ·have:=hlt (sz - 1) (by omega)
    omega
  ·rw [List.getElem?_take] at hu
   split at hu
   ·rw [List.getElem?_drop] at hu
    exact hr _ u c hu (hpos k c hc)
   ·cases hu
theorem Yoq (h:Rel E s ι a w) {d:Nat} {x:Option Operand} {n:Nat} {it:List Item} {K:Prop} (e:bound s d x=some (n,it)) (vc:VC it K) :
  (x=none/\n=d ∨ ∃ y k,x=some y/\a.eval y=.int k (n:Int))/\K:=by
 cases x with
 | none=>simp only [bound,Option.some.injEq,Prod.mk.injEq] at e; obtain ⟨rfl,rfl⟩:=e; exact ⟨.inl ⟨rfl,rfl⟩,vc⟩
 | some y=>
  simp only [bound] at e
  split at e
  ·rename_i k m hm
   simp only [Option.some.injEq,Prod.mk.injEq] at e
   obtain ⟨rfl,rfl⟩:=e
   refine ⟨.inr ⟨y,k,rfl,?_⟩,vc.2⟩
   rw [Yle h hm,Int.toNat_of_nonneg vc.1]
  ·cases e
end
end Go.Proofs.YtclpofblehlojaaGreat.Ab
end
section
namespace Go.Proofs.YtclpofblehlojaaGreat.Ab
open Go
section
variable {P:Program} {E:Ent P} {s:St} {ι:Interp} {a:Act} {w:World}
theorem Y12l {src dst:TypeId} (hs:Yol P src=true) (hd:Ymz P dst=true) {G:Nat->Prop} {v:Value} {es:List (List Cell)} {l:List UInt8} (h:Rd w G v (.list es)) (hes:es=l.map Yg9) :
  (convert src dst v).run P w=.ok (bs l) w:=by
 obtain ⟨e,h1,h2⟩:∃ e,P.underlying src=some (.slice e)/\P.underlying e=some (.int .u8):=by
  unfold Yol at hs
  split at hs
  ·rename_i e he
   split at hs
   ·exact ⟨e,he,‹_›⟩
   ·cases hs
  ·cases hs
 have h3:=Yor hd
 have hstr:strOfNums (l.map fun b=>(b.toNat:Int))=⟨l.toArray⟩:=by
  unfold strOfNums
  have:((fun n:Int=>UInt8.ofNat n.toNat) ∘ fun b:UInt8=>(b.toNat:Int))=id:=by funext b; simp
  rw [List.map_map,this,List.map_id]
 cases h with
 | nil=>
  rename_i ad cap
  have hl:l=[]:=by cases l with | nil=>rfl | cons x r=>simp at hes
  subst hl
  cases ad with
  | none=>rw [run_convert_bytes_nil w src e h1 h2 _ _ dst h3]; rfl
  | some ad=>
   rw [run_convert_bytes_string w src dst e _ _ _ h1 h2 h3,run_bytesToString w ad 0 cap [] (by simpa using run_loadCells_list (P:=P) w ad [] (by simp))]
   rfl
 | slice hG hc hm hsz hl hx hr=>
  rename_i b off cap sz xs
  have hlen:es.length=l.length:=by rw [hes,List.length_map]
  have hflat:es.flatten=l.map fun b=>Cell.lit (.int .u8 (b.toNat:Int)):=by
   rw [hes]
   clear hes hlen hl hx hr hsz hc hstr
   induction l with
   | nil=>rfl
   | cons x r ih=>simp only [List.map_cons,List.flatten_cons,ih]; rfl
  rw [hlen]
  rw [run_convert_bytes_arg w src e h1 h2 b off l.length cap (l.map fun b=>(b.toNat:Int)) (by simp) (fun i hi => ?_) dst h3,hstr]
  have hxl:xs.length=l.length:=by rw [hl,hflat,List.length_map]
  have hxi:xs[i]? = some xs[i]:=List.getElem?_eq_getElem (by omega)
  have hfi:es.flatten[i]? = some (.lit (.int .u8 (l[i].toNat:Int))):=by rw [hflat]; simp [hi]
  have h8:=hr i _ _ hxi hfi
  obtain ⟨h9,_⟩:=h8.lit_inv
  rw [hx i _ hxi,h9]
  simp [hi]
def VOK (P:Program) (s:St) (ι:Interp) (a:Act) (w:World) (o:Oper) (x:AV):Prop:=
 ∃ v,(execOp a.eval o).run P w=.ok (.value v) w/\Ygz w ι s.obj x v
theorem Y157 {ob:Nat->Ob} {l:List AC} {xs:List Value} {ag:Bool} {x:SV} (e:Y16v ag l=some x) (h:Yg8 (Yi9 w ι ob) l xs) :
  (ag=true/\Yh5 w ι ob x (.agg xs.toArray)) ∨ (ag=false/\∃ u,xs=[u]/\Yh5 w ι ob x u):=by
 unfold Y16v at e
 split at e
 ·simp only [Option.some.injEq] at e; subst e
  exact .inl ⟨rfl,xs.toArray,rfl,h⟩
 ·split at e
  ·simp only [Option.some.injEq] at e; subst e
   match xs,h with
   | [u],h=>exact .inr ⟨rfl,u,rfl,h.1.1,fun _=>h.1.2⟩
  ·cases e
theorem Y1bu (h:Rel E s ι a w) {o:Oper} {T:TypeId} {y:Operand} (ho:o.op=.load T y) {x:AV} {it:List Item} {q q':List Orc} {K:Prop}
  (e:vop P s o q=some (x,it,q')) (vc:VC it K):VOK P s ι a w o x/\K:=by
 simp only [vop,ho] at e
 split at e
 ·rename_i c n ag hc hn hg
  split at e
  ·rename_i l it1 q1 hr
   cases hm:Y16v ag l with
   | none=>simp [hm] at e
   | some sv=>
    simp only [hm,Option.map_some,Option.some.injEq,Prod.mk.injEq] at e
    obtain ⟨rfl,rfl,rfl⟩:=e
    obtain ⟨⟨b,off,xs,hp,hl,hx,ha⟩,hK⟩:=Yun h hr (Yhe h hc) vc
    refine ⟨?_,hK⟩
    have hlen:xs.length=n:=by rw [<- ha.length]; exact hl
    rcases Y157 hm ha with ⟨rfl,hs⟩ | ⟨rfl,u,rfl,hs⟩
    ·refine ⟨_,?_,hs⟩
     simp only [execOp,ho,Instr.loadAt,hp,Instr.sureAddr]
     exact Yij _ (by simpa using Ync hg hn hlen hx)
    ·refine ⟨_,?_,hs⟩
     simp only [execOp,ho,Instr.loadAt,hp,Instr.sureAddr]
     exact Yij _ (by simpa using Yqs hg (hx 0 u rfl))
  ·cases e
 ·cases e
theorem Y13z (h:Rel E s ι a w) {o:Oper} {x:AV} {it:List Item} {q q':List Orc} {K:Prop}
  (hop:match o.op with | .move _ | .assign _ | .pick .. | .nilCheck _ | .binOp .. | .unOp .. | .convert .. | .extract .. | .index .. => True | _=>False)
  (e:vop P s o q=some (x,it,q')) (vc:VC it K):VOK P s ι a w o x/\K:=by
 unfold vop at e
 split at e
 case h_1 y ho | h_2 y ho=>
  cases hv:s.ev y with
  | none=>simp [hv] at e
  | some v=>
   simp only [hv,Option.map_some,Option.some.injEq,Prod.mk.injEq] at e
   obtain ⟨rfl,rfl,rfl⟩:=e
   exact ⟨⟨_,by simp [execOp,ho],Yjo h hv⟩,vc⟩
 case h_3 c y z ho=>
  split at e
  ·rename_i hc
   cases hv:s.ev y with
   | none=>simp [hv] at e
   | some v=>
    simp only [hv,Option.map_some,Option.some.injEq,Prod.mk.injEq] at e
    obtain ⟨rfl,rfl,rfl⟩:=e
    exact ⟨⟨_,by simp [execOp,ho,(Yjw h hc).1,asBool],Yjo h hv⟩,vc⟩
  ·rename_i hc
   cases hv:s.ev z with
   | none=>simp [hv] at e
   | some v=>
    simp only [hv,Option.map_some,Option.some.injEq,Prod.mk.injEq] at e
    obtain ⟨rfl,rfl,rfl⟩:=e
    exact ⟨⟨_,by simp [execOp,ho,(Yjw h hc).1,asBool],Yjo h hv⟩,vc⟩
  ·cases e
 case h_4 T y ho=>simp [ho] at hop
 case h_5 y ho=>
  split at e
  ·rename_i c hc
   split at e
   ·rename_i hl
    simp only [Option.some.injEq,Prod.mk.injEq] at e
    obtain ⟨rfl,rfl,rfl⟩:=e
    have hr:=Yhe h hc
    obtain ⟨b,off,hp⟩:=Yu5 hr hl
    exact ⟨⟨a.eval y,by simp [execOp,ho,hp],hr,fun _=>by rw [hp]; rfl⟩,vc⟩
   ·cases e
  ·cases e
 case h_6 op T y z T2 ho=>
  split at e
  ·rename_i u v hu hv
   cases hb:bop P T (Y1nv z) op u v with
   | none=>simp [hb] at e
   | some r=>
    obtain ⟨r1,r2⟩:=r
    simp only [hb,Option.map_some,Option.some.injEq,Prod.mk.injEq] at e
    obtain ⟨rfl,rfl,rfl⟩:=e
    obtain ⟨h1,h2,h3⟩:=Y1ea (P:=P) hb vc
    refine ⟨⟨r1,?_,Yie h2⟩,h3⟩
    simp only [execOp,ho,(Yjw h hu).1,(Yjw h hv).1]
    exact Yij _ (h1 w y z)
  ·cases e
 case h_7 T y ho=>
  split at e
  ·rename_i b hb
   simp only [Option.some.injEq,Prod.mk.injEq] at e
   obtain ⟨rfl,rfl,rfl⟩:=e
   exact ⟨⟨_,by simp [execOp,ho,(Yjw h hb).1,Op.unary],Yie trivial⟩,vc⟩
  ·cases e
 case h_8 T y ho=>
  split at e
  ·rename_i k n hb
   simp only [Option.some.injEq,Prod.mk.injEq] at e
   obtain ⟨rfl,rfl,rfl⟩:=e
   refine ⟨⟨.int k (0 - n),?_,Yie trivial⟩,vc.2⟩
   simp only [execOp,ho,Yle h hb]
   exact Yij _ (by simp only [Op.unary,Op.intArith,Yoi vc.1,Sem.run_pure])
  ·cases e
 case h_9 T1 T2 y ho=>
  split at e
  ·rename_i hT
   simp only [Bool.and_eq_true] at hT
   split at e
   ·rename_i c l q1 hc
    split at e
    ·rename_i sr es hel
     simp only [Option.some.injEq,Prod.mk.injEq] at e
     obtain ⟨rfl,rfl,rfl⟩:=e
     obtain ⟨hes,vc⟩:=vc
     obtain ⟨hrd,_⟩:=Yx3 h (Yhe h hc) hel
     have hlen:l.length<=maxLen:=by have:=hrd.list_inv.1; rw [hes,List.length_map] at this; exact this
     refine ⟨⟨bs l,?_,Yie (show l.toArray.size<=maxLen by simpa using hlen)⟩,vc⟩
     simp only [execOp,ho]
     exact Yij _ (Y12l hT.1 hT.2 hrd hes)
    ·cases e
   ·cases e
  ·split at e
   ·rename_i k n d k2 hy h1 h2
    simp only [Option.some.injEq,Prod.mk.injEq] at e
    obtain ⟨rfl,rfl,rfl⟩:=e
    unfold Y1e2 at h2
    split at h2
    ·rename_i kk hk
     simp only [Option.some.injEq] at h2; subst h2
     refine ⟨⟨_,?_,Yie trivial⟩,vc.2⟩
     simp only [execOp,ho,Yle h hy]
     refine Yij _ ?_
     simp [convert,run_underlying h1,run_underlying hk,Conv.intToInt,Yoi vc.1]
    ·cases h2
   ·cases e
 case h_10 S y f ho=>simp [ho] at hop
 case h_11 T y i ho=>simp [ho] at hop
 case h_12 T y i ho=>
  split at e
  ·rename_i l k n hs hl hi
   simp only [Option.some.injEq,Prod.mk.injEq] at e
   obtain ⟨rfl,rfl,rfl⟩:=e
   obtain ⟨⟨h0,hlt⟩,vc⟩:=vc
   refine ⟨⟨_,?_,Yie trivial⟩,vc⟩
   simp only [execOp,ho,(Yxr h hl).1,Yle h hi]
   refine Yij _ ?_
   have hn:n.toNat<(ByteArray.mk l.toArray).size:=by show n.toNat<l.toArray.size; simpa using hlt
   have e1:(ByteArray.mk l.toArray)[n.toNat]? = some (l.getD n.toNat 0):=by
    rw [ByteArray.getElem?_lt' _ _ hn]
    congr 1
    show l.toArray[n.toNat]=_
    simp [List.getD_eq_getElem?_getD,hlt]
   simp [Instr.index,asIntOf,run_underlying (Yor hs),h0,e1]
  ·cases e
 case h_13 T y lo hi mx ho=>simp [ho] at hop
 case h_14 y i ho=>
  split at e
  ·rename_i l hl
   split at e
   ·rename_i v hv
    simp only [Option.some.injEq,Prod.mk.injEq] at e
    obtain ⟨rfl,rfl,rfl⟩:=e
    obtain ⟨arr,h1,h2⟩:=Yjo h hl
    obtain ⟨u,hu,hr⟩:=h2.get_left hv
    exact ⟨⟨u,by simp [execOp,ho,h1,Instr.extract,show arr[i]? = some u by simpa using hu],hr⟩,vc⟩
   ·cases e
  ·cases e
 case h_15 b args tys ho=>simp [ho] at hop
 case h_16 fn fi ca ho=>simp [ho] at hop
 case h_17=>cases e
theorem Yzf (h:Rel E s ι a w) {o:Oper} {S:TypeId} {y:Operand} {f:Nat} (ho:o.op=.fieldAddr S y f) {x:AV} {it:List Item} {q q':List Orc} {K:Prop}
  (e:vop P s o q=some (x,it,q')) (vc:VC it K):VOK P s ι a w o x/\K:=by
 simp only [vop,ho] at e
 split at e
 ·rename_i c off T n hc hf
  split at e
  ·rename_i hn
   cases hs:shift off c with
   | none=>simp [hs] at e
   | some c'=>
    simp only [hs,Option.map_some,Option.some.injEq,Prod.mk.injEq] at e
    obtain ⟨rfl,rfl,rfl⟩:=e
    have hr:=Yhe h hc
    obtain ⟨b,o1,hp⟩:=Yu5 hr hn.2
    rw [hp] at hr
    unfold Y1fh at hf
    split at hf
    ·rename_i fs hu
     split at hf
     ·rename_i fd hfd
      split at hf
      ·rename_i n' hsz
       simp only [Option.some.injEq,Prod.mk.injEq] at hf
       obtain ⟨rfl,rfl,rfl⟩:=hf
       refine ⟨⟨_,?_,Y1d5 hr hs,fun _=>rfl⟩,vc⟩
       simp only [execOp,ho,hp]
       refine Yij _ ?_
       simp [Instr.fieldAt,run_underlying hu,hfd,Instr.sureAddr,fieldPlace,Yld hsz,hn.1,Yjl]
      ·cases hf
     ·cases hf
    ·cases hf
  ·cases e
 ·cases e
theorem Yzg (h:Rel E s ι a w) {o:Oper} {T:TypeId} {y i:Operand} (ho:o.op=.indexAddr T y i) {x:AV} {it:List Item} {q q':List Orc} {K:Prop}
  (e:vop P s o q=some (x,it,q')) (vc:VC it K):VOK P s ι a w o x/\K:=by
 simp only [vop,ho] at e
 split at e
 ·rename_i c k n el hc hi ht
  split at e
  ·rename_i sz hsz
   have hv:=Yhe h hc
   have run:∀ (b off len cap:Nat),a.eval y=.slice (some ⟨b,off,none⟩) len cap->0<=n->n.toNat<len ->
     (execOp a.eval o).run P w=.ok (.value (.pointer (some ⟨b,off+n.toNat * sz,none⟩))) w:=by
    intro b off len cap he h0 hlt
    simp only [execOp,ho,he,Yle h hi]
    refine Yij _ ?_
    have h2:n<(len:Int):=by omega
    simp [Instr.indexAt,asIntOf,run_underlying (Ymv ht),h0,h2,Yld hsz,Yjl]
   unfold idxAddr at e
   split at e
   ·rename_i es
    split at e
    ·rename_i cl q0
     split at e
     ·rename_i hl
      simp only [Option.map_some,Option.some.injEq,Prod.mk.injEq] at e
      obtain ⟨rfl,rfl,rfl⟩:=e
      obtain ⟨⟨h0,hget⟩,vc⟩:=vc
      obtain ⟨b,off,cap,h1,hG,xs,hx,ha⟩:=Rd.elem (show Rd w ι.G _ _ from hv) hget
      refine ⟨⟨_,run b off _ cap h1 h0 (List.getElem?_eq_some_iff.1 hget).1,?_⟩,vc⟩
      rw [hl] at hx
      exact ⟨⟨by simp,fun _=>⟨b,_,xs,rfl,hG,hx,ha⟩⟩,fun _=>rfl⟩
     ·simp at e
    ·simp at e
   ·rename_i id es
    split at e
    ·rename_i cl q0
     split at e
     ·rename_i hl
      simp only [Option.map_some,Option.some.injEq,Prod.mk.injEq] at e
      obtain ⟨rfl,rfl,rfl⟩:=e
      obtain ⟨⟨h0,hget⟩,vc⟩:=vc
      obtain ⟨b,off,cap,h1,hG,xs,hx,ha⟩:=Rd.elem (hv.2 (Ymu hl.2)) hget
      refine ⟨⟨_,run b off _ cap h1 h0 (List.getElem?_eq_some_iff.1 hget).1,?_⟩,vc⟩
      rw [hl.1] at hx
      exact ⟨⟨fun i e=>by cases e; exact hv.1,fun _=>⟨b,_,xs,rfl,hG,hx,ha⟩⟩,fun _=>rfl⟩
     ·simp at e
    ·simp at e
   ·rename_i id
    split at e
    ·rename_i own sz' es hob
     split at e
     ·rename_i hl
      subst hl
      simp only [Option.map_some,Option.some.injEq,Prod.mk.injEq] at e
      obtain ⟨rfl,rfl,rfl⟩:=e
      obtain ⟨⟨h0,hlt⟩,vc⟩:=vc
      have hr:=h.objs id
      rw [hob] at hr
      have hsl:=hv.2 _ _ _ hob
      obtain ⟨ty,xs,Fs,h1,_⟩:=hr
      rcases h1.2 with ⟨he,hz⟩ | ⟨g,cap,cur,fz,he,_⟩
      ·omega
      ·rw [he] at hsl
       refine ⟨⟨_,run g 0 _ cap hsl h0 hlt,?_⟩,vc⟩
       refine ⟨⟨hv.1,fun own2 sz2 es2 hob2=>⟨g,by rw [he]; rfl,?_⟩⟩,fun _=>rfl⟩
       rw [hob] at hob2
       simp only [Ob.arr.injEq] at hob2
       obtain ⟨_,rfl,_⟩:=hob2
       simp
     ·simp at e
    ·simp at e
   ·simp at e
  ·cases e
 ·cases e
end
end Go.Proofs.YtclpofblehlojaaGreat.Ab
end
section
namespace Go.Proofs.YtclpofblehlojaaGreat.Ab
open Go
section
variable {P:Program} {E:Ent P} {s:St} {ι:Interp} {a:Act} {w:World}
theorem Yy2 {isS:Bool} {len cap x y:Nat} {lo hi:Option Operand} (hlo:lo=none/\x=0 ∨ ∃ z k,lo=some z/\a.eval z=.int k (x:Int))
  (hhi:hi=none/\y=len ∨ ∃ z k,hi=some z/\a.eval z=.int k (y:Int)) (h1:x<=y) (h2:y<=cap) :
  (Instr.sliceBounds isS len cap (lo.map a.eval) (hi.map a.eval) none).run P w=.ok (x,y,cap) w:=by
 have hb:∀ (k:IntKind) (n m:Nat) (c:BoundsCode),n<=m->(Instr.sliceBound (.int k (n:Int)) m c).run P w=.ok n w:=by
  intro k n m c hle
  have:=run_sliceBound (P:=P) (w:=w) k (n:Int) m c (by omega) (by omega)
  simpa using this
 unfold Instr.sliceBounds
 rcases hlo with ⟨rfl,rfl⟩ | ⟨z,k,rfl,hz⟩ <;> rcases hhi with ⟨rfl,rfl⟩ | ⟨z',k',rfl,hz'⟩
 ·simp
 ·simp [hz',hb _ _ _ _ h2]
 ·simp [hz,hb _ _ _ _ h1]
 ·simp [hz,hz',hb _ _ _ _ h1,hb _ _ _ _ h2]
theorem Ymi {α:Type} {sz:Nat}:∀ {es:List (List α)} (x n:Nat),(∀ e∈es,e.length=sz)->((es.drop x).take n).flatten=(es.flatten.drop (x * sz)).take (n * sz)
 | [],x,n,_=>by simp
 | e :: es,0,0,h=>by simp
 | e :: es,0,n+1,h=>by
  have ih:=Ymi (es:=es) 0 n fun y hy=>h y (List.mem_cons_of_mem _ hy)
  have he:e.length=sz:=h e List.mem_cons_self
  simp only [List.drop_zero,Nat.zero_mul] at ih ⊢
  rw [List.take_succ_cons,List.flatten_cons,List.flatten_cons,ih,Nat.add_mul,Nat.one_mul,Nat.add_comm (n * sz) sz]
  rw [List.take_append,<- he]
  congr 1
  ·rw [List.take_of_length_le (by omega)]
  ·congr 1; omega
 | e :: es,x+1,n,h=>by
  have ih:=Ymi (es:=es) x n fun y hy=>h y (List.mem_cons_of_mem _ hy)
  have he:e.length=sz:=h e List.mem_cons_self
  rw [List.drop_succ_cons,ih,List.flatten_cons]
  congr 1
  rw [Nat.add_mul,Nat.one_mul,List.drop_append,List.drop_of_length_le (l:=e) (by rw [he]; omega),List.nil_append]
  congr 1
  omega
theorem Rd.slice_sub {G : Nat -> Prop} {v : Value} {es : List (List Cell)} (h : Rd w G v (.list es)) {x y sz : Nat} (hxy : x <= y) (hy : y <= es.length) (hsz : ∀ e ∈ es, e.length = sz)
    {base : Option Addr} {len cap : Nat} (hv : v = .slice base len cap) :
    len = es.length /\ y <= cap /\ Rd w G (.slice (if cap = x then base else base.map (·.add (x * sz))) (y - x) (cap - x)) (.list ((es.drop x).take (y - x))) := by
  have hlen : ((es.drop x).take (y - x)).length = y - x := by rw [List.length_take, List.length_drop]; omega
  cases h with
  | nil =>
    simp only [Value.slice.injEq] at hv
    obtain ⟨rfl, rfl, rfl⟩ := hv
    simp only [List.length_nil] at hy
    obtain rfl : y = 0 := by omega
    obtain rfl : x = 0 := by omega
    exact ⟨rfl, Nat.zero_le _, by simpa using Rd.nil⟩
  | slice hG hc hm hsz' hl hx hr =>
    rename_i b off cap' sz' xs
    simp only [Value.slice.injEq] at hv
    obtain ⟨rfl, rfl, rfl⟩ := hv
    refine ⟨rfl, by omega, ?_⟩
    have hadd : (if cap' = x then some (⟨b, off, none⟩ : Addr) else (some (⟨b, off, none⟩ : Addr)).map (·.add (x * sz))) = some ⟨b, if cap' = x then off else off + x * sz, none⟩ := by
      split <;> simp [Yjl]
    rw [hadd]
    have hmem : ∀ e ∈ (es.drop x).take (y - x), e.length = sz := fun e he => hsz e (List.mem_of_mem_drop (List.mem_of_mem_take he))
    have hfl := Ymi x (y - x) hsz
    have key : Rd w G (.slice (some ⟨b, if cap' = x then off else off + x * sz, none⟩) ((es.drop x).take (y - x)).length (cap' - x)) (.list ((es.drop x).take (y - x))) := by
      refine .slice (xs := (xs.drop (x * sz)).take ((y - x) * sz)) hG (by rw [hlen]; omega) (by omega) hmem ?_ ?_ ?_
      · rw [hfl]; simp only [List.length_take, List.length_drop, hl]
      · intro j u hu
        rw [List.getElem?_take] at hu
        split at hu
        · rename_i hj
          rw [List.getElem?_drop] at hu
          have := hx _ _ hu
          rw [if_neg (by intro e; have : y - x = 0 := by omega
                         rw [this] at hj; omega), Nat.add_assoc]
          exact this
        · cases hu
      · intro j u c hu hc'
        rw [hfl] at hc'
        rw [List.getElem?_take] at hu hc'
        split at hu
        · rename_i hj
          rw [if_pos hj] at hc'
          rw [List.getElem?_drop] at hu hc'
          exact hr _ u c hu hc'
        · cases hu
    rwa [hlen] at key
theorem Y162 (h:Rel E s ι a w) {o:Oper} {T:TypeId} {y:Operand} {lo hi mx:Option Operand} (ho:o.op=.slice T y lo hi mx) {x:AV} {it:List Item} {q q':List Orc} {K:Prop}
  (e:vop P s o q=some (x,it,q')) (vc:VC it K):VOK P s ι a w o x/\K:=by
 simp only [vop,ho,vSlice] at e
 cases mx with
 | some z=>cases e
 | none=>
  simp only at e
  split at e
  ·rename_i hs
   split at e
   ·rename_i l hl
    split at e
    ·rename_i x1 i1 x2 i2 h1 h2
     simp only [Option.some.injEq,Prod.mk.injEq] at e
     obtain ⟨rfl,rfl,rfl⟩:=e
     have vc1:=VC.append vc
     have vc2:=VC.append vc1
     obtain ⟨b1,vc3⟩:=Yoq h h1 vc2
     obtain ⟨b2,vc4⟩:=Yoq h h2 vc3
     obtain ⟨⟨hab,hbl⟩,vc5⟩:=vc4
     obtain ⟨hv,hlm⟩:=Yxr h hl
     refine ⟨⟨_,?_,Yie ?_⟩,vc5⟩
     ·simp only [execOp,ho,hv]
      refine Yij _ ?_
      have hsz:(ByteArray.mk l.toArray).size=l.length:=by show l.toArray.size=_; simp
      have hb:=Yy2 (P:=P) (w:=w) (isS:=false) (len:=l.length) (cap:=l.length) b1 b2 hab hbl
      simp only [Instr.sliceAt,Sem.run_bind,run_underlying (Yor hs),Result.andThen_ok,Instr.slice,Option.map_none,hsz,hb,Sem.run_pure,Option.isSome_none,Bool.false_eq_true,if_false]
      rw [ByteArray.extract_mk]
     ·show (List.toArray _).size<=maxLen
      simp only [List.size_toArray,List.length_take,List.length_drop]
      omega
    ·cases e
   ·cases e
  ·rename_i hs
   split at e
   ·rename_i c el hc he
    split at e
    ·rename_i src es sz hel hsz
     split at e
     ·rename_i x1 i1 x2 i2 h1 h2
      simp only [Option.some.injEq,Prod.mk.injEq] at e
      obtain ⟨rfl,rfl,rfl⟩:=e
      have vc1:=VC.append vc
      have vc2:=VC.append vc1
      obtain ⟨b1,vc3⟩:=Yoq h h1 vc2
      obtain ⟨b2,vc4⟩:=Yoq h h2 vc3
      obtain ⟨⟨hab,hbl,hall⟩,vc5⟩:=vc4
      obtain ⟨hr,hnf⟩:=Yx3 h (Yhe h hc) hel
      obtain ⟨_,base,cap,hv⟩:=Rd.list_inv hr
      obtain ⟨_,hcap,hsub⟩:=Rd.slice_sub hr hab hbl hall hv
      refine ⟨⟨.slice (if cap=x1 then base else base.map (·.add (x1 * sz))) (x2 - x1) (cap - x1),?_,?_⟩,vc5⟩
      ·simp only [execOp,ho,hv]
       refine Yij _ ?_
       have hb:=Yy2 (P:=P) (w:=w) (isS:=true) (len:=es.length) (cap:=cap) b1 b2 hab hcap
       simp only [Instr.sliceAt,Sem.run_bind,run_underlying (Ymv he),Result.andThen_ok,Instr.slice,Option.map_none,hb,Sem.run_pure,Yld hsz]
      ·cases src with
       | none=>exact ⟨hsub,fun _=>rfl⟩
       | some id=>exact ⟨⟨hnf id rfl,fun _=>hsub⟩,fun _=>rfl⟩
     ·cases e
    ·cases e
   ·cases e
theorem Y1lx (h:Rel E s ι a w) {id i p sz:Nat} {v:Value} (hv:Ygx w ι s.obj (.sub id i p) v) {es es':List (List Cell)} {e:List Cell} (ho:s.obj id=.arr true sz es) (hi:es[i]? = some e) (hp:e[p]? = some (.list es')) :
  ∃ F:Nat->Prop,(∀ b,F b->ι.fp id b)/\OwnC w F v (.list es'):=by
 obtain ⟨b,hb,_,hcell⟩:=hv.2 _ _ _ ho
 have hor:=h.objs id
 rw [ho] at hor
 obtain ⟨ys,hy,ha⟩:=Ygs.elem hor hi hb
 obtain ⟨u,hu,F',hF,hN⟩:=ha.flip.get_left hp
 have:=hy p u hu
 rw [hcell] at this
 simp only [Option.some.injEq] at this
 subst this
 exact ⟨F',hF,hN⟩
theorem Y117 (h:Rel E s ι a w) {o:Oper} {b:Builtin} {args:Array Operand} {tys:Array TypeId} (ho:o.op=.call { callee:=.builtin b,args:=args,argTypes:=tys })
  {x:AV} {it:List Item} {q q':List Orc} {K:Prop} (e:vop P s o q=some (x,it,q')) (vc:VC it K):VOK P s ι a w o x/\K:=by
 simp only [vop,ho,vBuiltin] at e
 split at e
 ·split at e
  ·rename_i y t ha ht
   obtain rfl:args=#[y]:=by apply Array.ext'; simpa using ha
   obtain rfl:tys=#[t]:=by apply Array.ext'; simpa using ht
   split at e
   ·rename_i hs
    split at e
    ·rename_i l hl
     simp only [Option.some.injEq,Prod.mk.injEq] at e
     obtain ⟨rfl,rfl,rfl⟩:=e
     obtain ⟨hv,hm⟩:=Yxr h hl
     refine ⟨⟨_,?_,Yie trivial⟩,vc hm⟩
     simp only [execOp,ho,resolve,Sem.run_bind,Sem.run_pure,Result.andThen_ok,invoke,builtin]
     simp [Builtin.len_,run_underlying (Yor hs),hv,goInt]
     show (l.toArray.size:Int)=_
     simp
    ·cases e
   ·split at e
    ·rename_i id i p hc hs
     unfold Y15e at e
     split at e
     ·rename_i sz es hob
      split at e
      ·rename_i el q1
       split at e
       ·rename_i es' hp
        simp only [Option.some.injEq,Prod.mk.injEq] at e
        obtain ⟨rfl,rfl,rfl⟩:=e
        obtain ⟨hel,vc⟩:=vc
        obtain ⟨F',_,hN⟩:=Y1lx h (Yhe h hc) hob hel hp
        obtain ⟨hm,base,cap,hv⟩:=Rd.list_inv (OwnC.toRd (G:=F') hN fun _ h=>h)
        refine ⟨⟨_,?_,Yie trivial⟩,vc hm⟩
        obtain ⟨el,hu⟩:=Yy8 hs
        simp only [execOp,ho,resolve,Sem.run_bind,Sem.run_pure,Result.andThen_ok,invoke,builtin]
        simp [Builtin.len_,run_underlying hu,hv,goInt]
       ·cases e
      ·cases e
     ·cases e
    ·rename_i c _ hc hs
     cases hel:elems s c with
     | none=>simp [hel] at e
     | some r=>
      simp only [hel,Option.map_some,Option.some.injEq,Prod.mk.injEq] at e
      obtain ⟨rfl,rfl,rfl⟩:=e
      obtain ⟨src,es⟩:=r
      obtain ⟨hr,_⟩:=Yx3 h (Yhe h hc) hel
      obtain ⟨hm,base,cap,hv⟩:=Rd.list_inv hr
      refine ⟨⟨_,?_,Yie trivial⟩,vc hm⟩
      obtain ⟨el,hu⟩:=Yy8 hs
      simp only [execOp,ho,resolve,Sem.run_bind,Sem.run_pure,Result.andThen_ok,invoke,builtin]
      simp [Builtin.len_,run_underlying hu,hv,goInt]
    ·cases e
  ·cases e
 ·split at e
  ·rename_i y z ha
   obtain rfl:args=#[y,z]:=by apply Array.ext'; simpa using ha
   split at e
   ·rename_i k n k' m hy hz
    simp only [Option.some.injEq,Prod.mk.injEq] at e
    obtain ⟨rfl,rfl,rfl⟩:=e
    refine ⟨⟨_,?_,Yie trivial⟩,vc⟩
    simp only [execOp,ho,resolve,Sem.run_bind,Sem.run_pure,Result.andThen_ok,invoke,builtin]
    simp [Builtin.max_,Builtin.max2,Yle h hy,Yle h hz]
    split <;> omega
   ·cases e
  ·cases e
 ·split at e
  ·rename_i y z ha
   obtain rfl:args=#[y,z]:=by apply Array.ext'; simpa using ha
   split at e
   ·rename_i k n k' m hy hz
    simp only [Option.some.injEq,Prod.mk.injEq] at e
    obtain ⟨rfl,rfl,rfl⟩:=e
    refine ⟨⟨_,?_,Yie trivial⟩,vc⟩
    simp only [execOp,ho,resolve,Sem.run_bind,Sem.run_pure,Result.andThen_ok,invoke,builtin]
    simp [Builtin.min_,Builtin.min2,Yle h hy,Yle h hz]
    split <;> omega
   ·cases e
  ·cases e
 ·cases e
theorem Y17j (h:Rel E s ι a w) {o:Oper} {fn:Fn} {fi ca:Array Operand} (ho:o.op=.makeFunc fn fi ca) {x:AV} {it:List Item} {q q':List Orc} {K:Prop} (e:vop P s o q=some (x,it,q')) (vc:VC it K):VOK P s ι a w o x/\K:=by
 simp only [vop,ho] at e
 unfold mkClo at e
 cases fn with
 | func f=>
  simp only at e
  cases h1:fi.toList with
  | cons y r=>simp [h1] at e
  | nil=>
   simp only [h1] at e
   cases h2:ca.toList with
   | nil=>simp [h2] at e
   | cons y r=>
    cases r with
    | cons z r=>simp [h2] at e
    | nil=>
     simp only [h2] at e
     split at e
     ·rename_i v hc
      simp only [Option.some.injEq,Prod.mk.injEq] at e
      obtain ⟨rfl,rfl,rfl⟩:=e
      have hr:Rd w ι.G (a.eval y) (.cap v):=Yhe h hc
      obtain rfl:fi=#[]:=Array.ext' h1
      obtain rfl:ca=#[y]:=Array.ext' h2
      generalize hu:a.eval y=u at hr
      cases hr with
      | cap hb hl hx=>
       refine ⟨⟨_,by simp [execOp,ho,Instr.makeFunc,hu]; rfl,?_⟩,vc⟩
       exact ⟨.clo hb hl hx,fun _=>rfl⟩
     ·cases e
 | _=>cases e
theorem Yqt (h:Rel E s ι a w) {o:Oper} {x:AV} {it:List Item} {q q':List Orc} {K:Prop} (e:vop P s o q=some (x,it,q')) (vc:VC it K):VOK P s ι a w o x/\K:=by
 cases ho:o.op <;> first
  | exact Y1bu h ho e vc
  | exact Yzf h ho e vc
  | exact Yzg h ho e vc
  | exact Y162 h ho e vc
  | exact Y17j h ho e vc
  | exact Y13z h (by rw [ho]; trivial) e vc
  | (simp only [vop,ho] at e; cases e; done)
  | skip
 rename_i c
 obtain ⟨callee,args,tys⟩:=c
 cases callee with
 | builtin b=>exact Y117 h ho e vc
 | value f=>simp only [vop,ho] at e; cases e
 | invoke r m=>simp only [vop,ho] at e; cases e
end
end Go.Proofs.YtclpofblehlojaaGreat.Ab
end
section
namespace Go.Proofs.YtclpofblehlojaaGreat.Ab
open Go
def St.setOb (s:St) (n:Nat) (o:Ob):St:={ s with objs:=s.objs.set n o }
theorem Yg5 {s:St} {n:Nat} (hn:n<s.objs.length) (o:Ob) (i:Nat):(s.setOb n o).obj i=if i=n then o else s.obj i:=by
 simp only [St.setOb,St.obj,List.getD_eq_getElem?_getD,List.getElem?_set]
 by_cases h:n=i
 ·subst h; simp [hn]
 ·simp [h,Ne.symm h]
theorem Ygp {s:St} {i:Nat} {o:Ob} (h:s.obj i=o) (ho:o≠.free):i<s.objs.length:=by
 rcases Nat.lt_or_ge i s.objs.length with hl | hl
 ·exact hl
 ·exfalso; apply ho; rw [<- h]; simp [St.obj,hl]
section
variable {P:Program} {E:Ent P} {s:St} {ι:Interp} {a:Act} {w:World}
theorem Y12d {n:Nat} (hf:s.obj n=.free) (hn:n<s.objs.length) (o:Ob) {w':World} {ι':Interp} (hglt:∀ b,ι.G b->b<w.heap.size) (hlt:∀ i b,ι.fp i b->b<w.heap.size)
  (hG:ι'.G=ι.G) (hsame:∀ i,i≠n->ι'.blk i=ι.blk i/\ι'.sl i=ι.sl i/\∀ b,ι'.fp i b ↔ ι.fp i b) (hw:∀ b,b<w.heap.size->w'.heap[b]? = w.heap[b]?) :
  Ext (fun _=>True) w ι s.obj w' ι' (s.setOb n o).obj where
 g b hb:=by rw [hG]; exact ⟨hb,hw b (hglt b hb)⟩
 o id:=by
  rw [Yg5 hn]
  by_cases h:id=n
  ·subst h; rw [hf]; trivial
  ·rw [if_neg h]
   obtain ⟨h1,h2,h3⟩:=hsame id h
   cases e:s.obj id with
   | free=>trivial
   | dead=>trivial
   | box cs=>exact h1
   | arr own sz es=>exact ⟨h2,rfl,fun _ b hb=>⟨.inl ((h3 b).2 hb),hw b (hlt _ b hb)⟩⟩
   | map nn k f=>exact ⟨h1,rfl,rfl,fun _ b hb=>⟨.inl ((h3 b).2 hb),hw b (hlt _ b hb)⟩⟩
theorem Rel.fresh (h:Rel E s ι a w) {n:Nat} (hf:s.obj n=.free) (hn:n<s.objs.length) (o:Ob) {w':World} {ι':Interp}
  (hG:ι'.G=ι.G) (hsame:∀ i,i≠n->ι'.blk i=ι.blk i/\ι'.sl i=ι.sl i/\∀ b,ι'.fp i b ↔ ι.fp i b)
  (hfp:∀ b,ι'.fp n b->w.heap.size<=b/\b<w'.heap.size) (hw:∀ b,b<w.heap.size->w'.heap[b]? = w.heap[b]?) (hsz:w.heap.size<=w'.heap.size) (os:w'.os=w.os) (out:w'.output=w.output)
  (hr:Yiu w' ι' (s.setOb n o).obj n o):Rel E (s.setOb n o) ι' a w':=by
 have hx:=Y12d hf hn o (w':=w') h.glt h.lt hG hsame hw
 refine Rel.step h hx (fun t=>.inl ⟨rfl,fun _ _ _ _=>trivial⟩) rfl rfl (fun i => ?_) ?_ ?_ ?_ ?_ ?_ (fun b hb _=>hw b (Nat.lt_of_lt_of_le hb h.size)) hsz os out (hG:=fun b hb=>.inl (by rwa [hG] at hb))
 ·by_cases hi:i=n
  ·subst hi; right; rw [Yg5 hn,if_pos rfl]; exact hr
  ·left
   obtain ⟨h1,h2,h3⟩:=hsame i hi
   exact ⟨by rw [Yg5 hn,if_neg hi],⟨h1,h2,h3,fun b hb=>hw b (h.lt i b hb)⟩,fun _ _ _ _=>trivial⟩
 ·intro i j b hij hi hj
  by_cases h1:i=n <;> by_cases h2:j=n
  ·omega
  ·subst h1
   have:=(hfp b hi).1
   have:=h.lt j b (((hsame j h2).2.2 b).1 hj)
   omega
  ·subst h2
   have:=(hfp b hj).1
   have:=h.lt i b (((hsame i h1).2.2 b).1 hi)
   omega
  ·exact h.disj i j b hij (((hsame i h1).2.2 b).1 hi) (((hsame j h2).2.2 b).1 hj)
 ·intro i b hi hg
  rw [hG] at hg
  by_cases h1:i=n
  ·subst h1
   have:=(hfp b hi).1
   have:=h.glt b hg
   omega
  ·exact h.gfp i b (((hsame i h1).2.2 b).1 hi) hg
 ·intro i b hi
  by_cases h1:i=n
  ·subst h1
   have:=(hfp b hi).1
   have:=h.size
   exact .inr (by omega)
  ·exact h.own i b (((hsame i h1).2.2 b).1 hi)
 ·intro i b hi
  by_cases h1:i=n
  ·subst h1; exact (hfp b hi).2
  ·have:=h.lt i b (((hsame i h1).2.2 b).1 hi); omega
 ·intro b hb
  rw [hG] at hb
  have:=h.glt b hb; omega
theorem Yjy (w:World) (o:Obj) (b:Nat) (h:b<w.heap.size):(w.alloc o).heap[b]? = w.heap[b]? := by show (w.heap.push o)[b]? = w.heap[b]?; rw [Array.getElem?_push,if_neg (Nat.ne_of_lt h)]
theorem Rel.newBox (h:Rel E s ι a w) {n:Nat} (hf:s.obj n=.free) (hn:n<s.objs.length) {cs:List AC} {arr:Array Value} (ty:TypeId) (hc:Yg8 (Yi9 w ι s.obj) cs arr.toList) :
  ∃ ι',Rel E (s.setOb n (.box cs)) ι' a (w.alloc (.cells arr ty))/\Yh5 (w.alloc (.cells arr ty)) ι' (s.setOb n (.box cs)).obj (.one (.ptr n 0)) (.pointer (some ⟨w.heap.size,0,none⟩)):=by
 let ι':Interp:={ ι with blk:=fun i=>if i=n then w.heap.size else ι.blk i,fp:=fun i b=>if i=n then b=w.heap.size else ι.fp i b }
 have hsame:∀ i,i≠n->ι'.blk i=ι.blk i/\ι'.sl i=ι.sl i/\∀ b,ι'.fp i b ↔ ι.fp i b:=fun i hi=>⟨by simp [ι',hi],rfl,fun b=>by simp [ι',hi]⟩
 have hw:=Yjy w (.cells arr ty)
 have hx:=Y12d hf hn (.box cs) (w':=w.alloc (.cells arr ty)) (ι':=ι') h.glt h.lt rfl hsame hw
 have hr:Yiu (w.alloc (.cells arr ty)) ι' (s.setOb n (.box cs)).obj n (.box cs):=by
  refine ⟨by simp [ι'],arr,ty,?_,hc.imp fun c v hcv=>⟨Ygx.ext hx (fun _ _=>trivial) hcv.1,hcv.2⟩⟩
  simp only [ι',if_true]
  exact heap_alloc_new w _
 refine ⟨ι',Rel.fresh h hf hn (.box cs) (w':=w.alloc (.cells arr ty)) rfl hsame (fun b hb => ?_) hw (by simp) rfl rfl hr,⟨?_,fun _ _=>by simp [ι']⟩,fun _=>rfl⟩
 ·simp [ι'] at hb; subst hb; simp
 ·unfold notFree; rw [Yg5 hn,if_pos rfl]; trivial
def Ylf:SV->Option (List AC)
 | .one .top=>none
 | .one c=>some [c]
 | .agg cs=>some cs
theorem Ylc {ob:Nat->Ob} {x:SV} {cs:List AC} {v:Value} (e:Ylf x=some cs) (h:Yh5 w ι ob x v):Yg8 (Yi9 w ι ob) cs v.cells.toList:=by
 unfold Ylf at e
 split at e
 ·cases e
 ·rename_i c hc
  simp only [Option.some.injEq] at e; subst e
  have h1:=h.2 hc
  have:v.cells=#[v]:=by cases v <;> first | rfl | (simp [Value.oneCell'] at h1)
  rw [this]
  exact ⟨⟨h.1,h1⟩,trivial⟩
 ·simp only [Option.some.injEq] at e; subst e
  obtain ⟨arr,rfl,ha⟩:=h
  exact ha
def splice {α:Type} (off:Nat) (l cs:List α):List α:=cs.take off++l++cs.drop (off+l.length)
theorem Y13k (off:Nat) (l:Array Value) (cs:Array Value) (h:off+l.size<=cs.size) :
  (l.zipIdx.foldl (fun cs (x:Value × Nat)=>cs.setIfInBounds (off+x.2) x.1) cs).toList=splice off l.toList cs.toList:=by
 rw [<- Array.foldl_toList,Array.toList_zipIdx]
 obtain ⟨h1,h2⟩:=Great.foldl_set off l.toList 0 cs
 apply List.ext_getElem?
 intro k
 have e:∀ (A:Array Value),A.toList[k]? = A[k]? := fun A=>by simp
 rw [e,h2 k]
 have hl:l.toList.length=l.size:=by simp
 simp only [splice,Nat.add_zero,hl]
 by_cases h3:k<off
 ·rw [if_neg (by omega),List.append_assoc,List.getElem?_append_left (by rw [List.length_take]; simp; omega),List.getElem?_take,if_pos h3,e]
 ·by_cases h4:k<off+l.size
  ·rw [if_pos (by omega),List.append_assoc,List.getElem?_append_right (by rw [List.length_take]; omega),List.getElem?_append_left (by rw [List.length_take]; simp; omega)]
   rw [List.length_take,Array.length_toList,Nat.min_eq_left (by omega)]
  ·rw [if_neg (by omega),List.getElem?_append_right (by rw [List.length_append,List.length_take]; simp; omega)]
   rw [List.length_append,List.length_take,Array.length_toList,hl,Nat.min_eq_left (by omega),List.getElem?_drop,Array.getElem?_toList]
   congr 1; omega
theorem Yg8.splice {α β:Type} {R:α->β->Prop} {off:Nat} {l:List α} {m:List β} {cs:List α} {ds:List β} (h1:Yg8 R l m) (h2:Yg8 R cs ds):Yg8 R (splice off l cs) (splice off m ds):=by
 unfold Ab.splice
 rw [h1.length]
 exact ((h2.take off).append h1).append (h2.drop _)
def You (place:Nat->Option (Nat × Nat)) (cells:List AC):List (Nat × List AC)->Option (List AC)
 | []=>some cells
 | (i,l) :: rest=>
  match place i with
  | none=>none
  | some (off,size)=>if l.length=size/\off+l.length<=cells.length then You place (splice off l cells) rest else none
theorem Yq2 {ob:Nat->Ob} (place:Nat->Option (Nat × Nat)):∀ (ps:List (Nat × List AC)) (qs:List (Nat × Value)) (cells:List AC) (arr:Array Value) (cells':List AC),
  Yg8 (fun p q=>p.1=q.1/\Yg8 (Yi9 w ι ob) p.2 q.2.cells.toList) ps qs->Yg8 (Yi9 w ι ob) cells arr.toList->You place cells ps=some cells' ->
  ∃ arr',Instr.fill place arr qs=some arr'/\Yg8 (Yi9 w ι ob) cells' arr'.toList
 | [],[],cells,arr,cells',_,hc,e=>by
  simp only [You,Option.some.injEq] at e; subst e
  exact ⟨arr,rfl,hc⟩
 | (i,l) :: ps,(j,v) :: qs,cells,arr,cells',hp,hc,e=>by
  obtain ⟨⟨rfl,hl⟩,hp⟩:=hp
  simp only [You] at e
  cases hpl:place i with
  | none=>simp [hpl] at e
  | some os=>
   obtain ⟨off,size⟩:=os
   simp only [hpl] at e
   split at e
   ·rename_i hcond
    have hvl:v.cells.size=l.length:=by rw [hl.length]; simp
    have hal:arr.size=cells.length:=by rw [hc.length]; simp
    have hsp:=Y13k off v.cells arr (by omega)
    obtain ⟨arr',h1,h2⟩:=Yq2 place ps qs (splice off l cells) (v.cells.zipIdx.foldl (fun cs (x:Value × Nat)=>cs.setIfInBounds (off+x.2) x.1) arr) cells' hp
     (by rw [hsp]; exact hl.splice hc) e
    refine ⟨arr',?_,h2⟩
    unfold Instr.fill
    simp only [hpl]
    rw [if_neg (by simp; omega)]
    exact h1
   ·cases e
 | [],_ :: _,_,_,_,h,_,_=>h.elim
 | _ :: _,[],_,_,_,h,_,_=>h.elim
end
end Go.Proofs.YtclpofblehlojaaGreat.Ab
end
section
namespace Go.Proofs.YtclpofblehlojaaGreat.Ab
open Go
structure Res where
 val:AV:=.sv (.one .top)
 new:List Ob:=[]
 upd:List (Nat × Ob):=[]
 inv:List Nat:=[]
def Yhw (ids:List Nat) (c:AC):AC:=match c.src with | some id=>if ids.elem id then .top else c | none=>c
def Yi4 (ids:List Nat):SV->SV
 | .one c=>.one (Yhw ids c)
 | .agg cs=>.agg (cs.map (Yhw ids))
def Yhc (ids:List Nat):AV->AV
 | .sv x=>.sv (Yi4 ids x)
 | .tup l=>.tup (l.map (Yi4 ids))
def Ygk (ids:List Nat):Ob->Ob
 | .box cs=>.box (cs.map (Yhw ids))
 | o=>o
def St.inval (ids:List Nat) (s:St):St:=match ids with | []=>s | _=>{ s with regs:=s.regs.map (Yhc ids),objs:=s.objs.map (Ygk ids) }
def St.setObs (s:St):Nat->List Ob->St
 | _,[]=>s
 | n,o :: r=>(s.setOb n o).setObs (n+1) r
def St.updObs (s:St):List (Nat × Ob)->St
 | []=>s
 | (n,o) :: r=>(s.setOb n o).updObs r
def St.app (s:St) (n:Nat) (r:Res):St:=((s.inval r.inv).updObs r.upd).setObs n r.new
def Ykh (s:St) (n:Nat) (k:Nat):Prop:=∀ i,n<=i->i<n+k->s.obj i=.free/\i<s.objs.length
section
variable {P:Program} {E:Ent P} {s:St} {ι:Interp} {a:Act} {w:World}
def EOK (P:Program) (E:Ent P) (s:St) (a:Act) (w:World) (o:Oper) (n:Nat) (r:Res):Prop:=
 ∀ (next:Act->World->Prop) (Q:Exit->Act->World->Prop),
  (∀ ι' v w',Rel E (s.app n r) ι' a w'->Ygz w' ι' (s.app n r).obj r.val v->next (a.put o.dst v) w')->o.wp P a w next Q
theorem EOK.value {o:Oper} {n:Nat} {r:Res} {ι':Interp} {v:Value} {w':World} (he:(execOp a.eval o).run P w=.ok (.value v) w') (h:Rel E (s.app n r) ι' a w')
  (hv:Ygz w' ι' (s.app n r).obj r.val v):EOK P E s a w o n r:=by
 intro next Q k
 simp only [Oper.wp,he,Oper.upon_value]
 exact k ι' v w' h hv
theorem EOK.skip {o:Oper} {n:Nat} {r:Res} {ι':Interp} {w':World} (he:(execOp a.eval o).run P w=.ok .skip w') (h:Rel E (s.app n r) ι' a w')
  (hv:Ygz w' ι' (s.app n r).obj r.val undef):EOK P E s a w o n r:=by
 intro next Q k
 simp only [Oper.wp,he,Oper.upon_skip]
 exact k ι' undef w' h hv
def Ykj (P:Program) (T:TypeId):Option (List AC):=
 match P.info? T with
 | some i=>match i.zero with
  | some z=>if z.cells.toList.all Yqo then some (z.cells.toList.map fun v=>.val (.lit v)) else none
  | none=>none
 | none=>none
theorem Yt5 {T:TypeId} {cs:List AC} (e:Ykj P T=some cs) (w:World) (ι:Interp) (ob:Nat->Ob):∃ z,(∀ w:World,(zeroValue T).run P w=.ok z w)/\Yg8 (Yi9 w ι ob) cs z.cells.toList:=by
 unfold Ykj at e
 split at e
 ·rename_i i hi
  split at e
  ·rename_i z hz
   split at e
   ·rename_i hb
    simp only [Option.some.injEq] at e; subst e
    refine ⟨z,fun w=>by simp [zeroValue,typeInfo,hi,hz],Yg8.map_left _ (Yg8.of_get rfl fun k x y hx hy => ?_)⟩
    rw [hx] at hy
    simp only [Option.some.injEq] at hy; subst hy
    have:=Yn7 (List.all_eq_true.1 hb x (List.mem_of_getElem? hx))
    exact ⟨.lit this,this.one⟩
   ·cases e
  ·cases e
 ·cases e
def Yur (P:Program) (T n:Nat):Option Res:=(Ykj P T).map fun cs=>{ val:=.sv (.one (.ptr n 0)),new:=[.box cs] }
theorem Y15j (h:Rel E s ι a w) {o:Oper} {T:TypeId} (ho:o.op=.alloc T) {n:Nat} {r:Res} (e:Yur P T n=some r) (hroom:Ykh s n r.new.length):EOK P E s a w o n r:=by
 unfold Yur at e
 cases hz:Ykj P T with
 | none=>simp [hz] at e
 | some cs=>
  simp only [hz,Option.map_some,Option.some.injEq] at e; subst e
  obtain ⟨z,h1,h2⟩:=Yt5 hz w ι s.obj
  obtain ⟨hf,hn⟩:=hroom n (Nat.le_refl _) (by simp)
  obtain ⟨ι',h3,h4⟩:=h.newBox hf hn T h2
  refine EOK.value ?_ h3 h4
  simp only [execOp,ho,Instr.alloc]
  simp [h1,newVar,newRow]
def eBox (s:St) (x:Operand) (n:Nat):Option Res:=
 match s.ev x with
 | some (.sv v)=>(Ylf v).map fun cs=>{ val:=.sv (.one (.ptr n 0)),new:=[.box cs] }
 | _=>none
theorem Y1bs (h:Rel E s ι a w) {o:Oper} {T:TypeId} {x:Operand} (ho:o.op=.box T x) {n:Nat} {r:Res} (e:eBox s x n=some r) (hroom:Ykh s n r.new.length):EOK P E s a w o n r:=by
 unfold eBox at e
 split at e
 ·rename_i v hv
  cases hc:Ylf v with
  | none=>simp [hc] at e
  | some cs=>
   simp only [hc,Option.map_some,Option.some.injEq] at e; subst e
   obtain ⟨hf,hn⟩:=hroom n (Nat.le_refl _) (by simp)
   obtain ⟨ι',h3,h4⟩:=h.newBox hf hn T (Ylc hc (Yjo h hv))
   refine EOK.value ?_ h3 h4
   simp only [execOp,ho,Instr.box]
   simp [newVar,newRow]
 ·cases e
def Ywu:Operand->Option (List AC)
 | .const (.agg vs)=>if vs.toList.all Yqo=true then some (vs.toList.map fun v=>.val (.lit v)) else none
 | _=>none
theorem Yyr {w:World} {ι:Interp} {ob:Nat->Ob}:∀ {l:List Value},l.all Yqo=true->Yg8 (Yi9 w ι ob) (l.map fun v=>.val (.lit v)) l
 | [],_=>trivial
 | v :: l,h=>by
  rw [List.all_cons,Bool.and_eq_true] at h
  exact ⟨⟨.lit (Yn7 h.1),(Yn7 h.1).one⟩,Yyr h.2⟩
theorem Y14j {x:Operand} {cs:List AC} (e:Ywu x=some cs):Yg8 (Yi9 w ι s.obj) cs (a.eval x).cells.toList:=by
 unfold Ywu at e
 split at e
 ·rename_i vs
  split at e
  ·rename_i hv
   simp only [Option.some.injEq] at e; subst e
   exact Yyr hv
  ·cases e
 ·cases e
def partCells (s:St):List (Nat × Operand)->Option (List (Nat × List AC))
 | []=>some []
 | (i,x) :: r=>match Ywu x with
  | some cs=>match partCells s r with
   | some l=>some ((i,cs) :: l)
   | _=>none
  | none=>match s.ev x with
   | some (.sv v)=>match Ylf v,partCells s r with
    | some cs,some l=>some ((i,cs) :: l)
    | _,_=>none
   | _=>none
theorem Yl9 (h:Rel E s ι a w):∀ {ps:List (Nat × Operand)} {l:List (Nat × List AC)},partCells s ps=some l ->
  Yg8 (fun p q=>p.1=q.1/\Yg8 (Yi9 w ι s.obj) p.2 q.2.cells.toList) l (ps.map fun x=>(x.1,a.eval x.2))
 | [],l,e=>by simp only [partCells,Option.some.injEq] at e; subst e; trivial
 | (i,x) :: ps,l,e=>by
  simp only [partCells] at e
  split at e
  ·rename_i cs hcs
   split at e
   ·rename_i l' hl
    simp only [Option.some.injEq] at e; subst e
    exact ⟨⟨rfl,Y14j hcs⟩,Yl9 h hl⟩
   ·cases e
  ·split at e
   ·rename_i v hv
    split at e
    ·rename_i cs l' hc hl
     simp only [Option.some.injEq] at e; subst e
     exact ⟨⟨rfl,Ylc hc (Yjo h hv)⟩,Yl9 h hl⟩
    ·cases e
   ·cases e
def Y14s (P:Program) (fs:List Field):Option (List (Nat × Nat)):=fs.mapM fun f=>(P.info? f.type).map fun i=>(f.offset,i.size)
def eBuild (P:Program) (s:St) (T:TypeId) (ps:Array (Nat × Operand)):Option Res:=
 match P.underlying T with
 | some (.struct fs)=>match Y14s P fs.toList,Ykj P T,partCells s ps.toList with
  | some pl,some z,some l=>(You (pl.toArray[·]?) z l).map fun cs=>{ val:=.sv (.agg cs) }
  | _,_,_=>none
 | some (.array _ e)=>match P.info? e,Ykj P T,partCells s ps.toList with
  | some ie,some z,some l=>(You (fun i=>some (i * ie.size,ie.size)) z l).map fun cs=>{ val:=.sv (.agg cs) }
  | _,_,_=>none
 | _=>none
theorem Y14r (h:Rel E s ι a w) {o:Oper} {T:TypeId} {ps:Array (Nat × Operand)} (ho:o.op=.build T ps) {n:Nat} {r:Res} (e:eBuild P s T ps=some r):EOK P E s a w o n r:=by
 unfold eBuild at e
 split at e
 ·rename_i fs hu
  split at e
  ·rename_i pl z l h1 h2 h3
   cases hf:You (pl.toArray[·]?) z l with
   | none=>rw [hf] at e; cases e
   | some cs=>
    rw [hf] at e
    simp only [Option.map_some,Option.some.injEq] at e; subst e
    have hparts:=Yl9 h h3
    unfold Ykj at h2
    split at h2
    ·rename_i i hi
     split at h2
     ·rename_i zv hz
      obtain ⟨zv',hz1,hz2⟩:=Yt5 (P:=P) (T:=T) (cs:=z) (by unfold Ykj; simp only [hi,hz]; exact h2) w ι s.obj
      have hzz:zv'=zv:=by
       have:=hz1 w
       simp [zeroValue,typeInfo,hi,hz] at this
       exact this.symm
      subst hzz
      obtain ⟨arr,h4,h5⟩:=Yq2 (pl.toArray[·]?) l _ z zv'.cells cs hparts hz2 hf
      have hb:P.built T (ps.toList.map fun x=>(x.1,a.eval x.2))=some arr:=by
       unfold Program.built
       unfold Y14s at h1
       simp only [hi,hu,hz,h1]
       exact h4
      refine EOK.value (w':=w) (ι':=ι) (v:=.agg arr) ?_ h ⟨arr,rfl,h5⟩
      simp only [execOp,ho]
      exact Yij _ (run_build w T _ arr (by simpa using hb))
     ·cases h2
    ·cases h2
  ·cases e
 ·rename_i len e0 hu
  split at e
  ·rename_i ie z l h1 h2 h3
   cases hf:You (fun i=>some (i * ie.size,ie.size)) z l with
   | none=>rw [hf] at e; cases e
   | some cs=>
    rw [hf] at e
    simp only [Option.map_some,Option.some.injEq] at e; subst e
    have hparts:=Yl9 h h3
    unfold Ykj at h2
    split at h2
    ·rename_i i hi
     split at h2
     ·rename_i zv hz
      obtain ⟨zv',hz1,hz2⟩:=Yt5 (P:=P) (T:=T) (cs:=z) (by unfold Ykj; simp only [hi,hz]; exact h2) w ι s.obj
      have hzz:zv'=zv:=by
       have:=hz1 w
       simp [zeroValue,typeInfo,hi,hz] at this
       exact this.symm
      subst hzz
      obtain ⟨arr,h4,h5⟩:=Yq2 (fun i=>some (i * ie.size,ie.size)) l _ z zv'.cells cs hparts hz2 hf
      have hb:P.built T (ps.toList.map fun x=>(x.1,a.eval x.2))=some arr:=by
       unfold Program.built
       simp only [hi,hu,hz,h1]
       exact h4
      refine EOK.value (w':=w) (ι':=ι) (v:=.agg arr) ?_ h ⟨arr,rfl,h5⟩
      simp only [execOp,ho]
      exact Yij _ (run_build w T _ arr (by simpa using hb))
     ·cases h2
    ·cases h2
  ·cases e
 ·cases e
theorem Rel.setBox (h:Rel E s ι a w) {id:Nat} {cs cs':List AC} (hb:s.obj id=.box cs) {arr':Array Value} (hc:Yg8 (Yi9 w ι s.obj) cs' arr'.toList) :
  Rel E (s.setOb id (.box cs')) ι a (w.setRow (ι.blk id) arr'):=by
 have hid:id<s.objs.length:=Ygp hb (by simp)
 have hob:=h.objs id
 rw [hb] at hob
 obtain ⟨hfp,arr,ty,hheap,_⟩:=hob
 have hother:∀ b,b≠ι.blk id->(w.setRow (ι.blk id) arr').heap[b]? = w.heap[b]? := fun b hne=>setRow_other w _ b _ hne
 have hx:Ext (fun _=>True) w ι s.obj (w.setRow (ι.blk id) arr') ι (s.setOb id (.box cs')).obj:=by
  refine ⟨fun b hg=>⟨hg,hother b fun e=>h.gfp id b (by rw [e]; exact hfp) hg⟩,fun i => ?_⟩
  rw [Yg5 hid]
  by_cases hi:i=id
  ·subst hi; rw [if_pos rfl,hb]; rfl
  ·rw [if_neg hi]
   cases e:s.obj i with
   | free=>trivial
   | dead=>trivial
   | box cs=>rfl
   | arr own sz es=>exact ⟨rfl,rfl,fun _ b hf=>⟨.inl hf,hother b fun e=>h.disj i id b hi hf (by rw [e]; exact hfp)⟩⟩
   | map nn k f=>exact ⟨rfl,rfl,rfl,fun _ b hf=>⟨.inl hf,hother b fun e=>h.disj i id b hi hf (by rw [e]; exact hfp)⟩⟩
 refine Rel.step h hx (fun t=>.inl ⟨rfl,fun _ _ _ _=>trivial⟩) rfl rfl (fun i => ?_) h.disj h.gfp h.own (fun i b hf=>by simp [h.lt i b hf]) (fun b hg=>by simp [h.glt b hg]) (fun b hlt hM => ?_) (by simp) rfl rfl
 ·by_cases hi:i=id
  ·subst hi; right
   rw [Yg5 hid,if_pos rfl]
   exact ⟨hfp,arr',ty,setRow_heap w _ arr _ ty _ hheap,hc.imp fun c v hcv=>⟨Ygx.ext hx (fun _ _=>trivial) hcv.1,hcv.2⟩⟩
  ·left
   refine ⟨by rw [Yg5 hid,if_neg hi],⟨rfl,rfl,fun b=>Iff.rfl,fun b hf=>hother b fun e=>h.disj i id b hi hf (by rw [e]; exact hfp)⟩,fun _ _ _ _=>trivial⟩
 ·refine hother b fun e => ?_
  rcases h.own id b (by rw [e]; exact hfp) with h1 | h1
  ·exact hM h1
  ·omega
theorem Ynq {T:TypeId} {v:Value} {b off n:Nat} {arr:Array Value} {ty:TypeId} {fz:Nat × Nat} (hT:Yix P T=some n) (hb:w.heap[b]? = some (.cells arr ty fz)) (hz:Yrg arr.size fz) (hl:v.cells.toList.length=n) (hfit:off+n<=arr.size)
  (h1:∀ u∈v.cells.toList,u.oneCell'=true):(Instr.storeAt T (.pointer (some ⟨b,off,none⟩)) v).run P w=.ok () (w.setRow b (splice off v.cells.toList arr.toList).toArray):=by
 have hs:=Ylz P b off ty fz v.cells.toList 0 arr w hb hz (by rw [Nat.add_zero,hl]; exact hfit) h1
 simp only [Nat.add_zero] at hs
 have hl':v.cells.size=n:=by simpa using hl
 simp only [Instr.storeAt,Instr.sureAddr,Sem.run_bind,Sem.run_pure,Result.andThen_ok,storeVar,Yld hT,hl',ne_eq,not_true_eq_false,if_false,hs,splice]
theorem Y17x {T:TypeId} {v:Value} {b off n:Nat} {arr:Array Value} {ty:TypeId} (hT:Yix P T=some n) (hb:w.heap[b]? = some (.cells arr ty (0,0))) (hl:v.cells.toList.length=n) (hfit:off+n<=arr.size)
  (h1:∀ u∈v.cells.toList,u.oneCell'=true):(Instr.storeAt T (.pointer (some ⟨b,off,none⟩)) v).run P w=.ok () (w.setRow b (splice off v.cells.toList arr.toList).toArray):=Ynq hT hb (.inl rfl) hl hfit h1
def eStoreBox (P:Program) (s:St) (T:TypeId) (ad x:Operand):Option Res:=
 match s.ac ad,s.ev x with
 | some (.ptr id off),some (.sv v)=>match s.obj id,Ylf v,Yix P T with
  | .box cs,some l,some n=>if l.length=n/\off+n<=cs.length then some { upd:=[(id,.box (splice off l cs))] } else none
  | _,_,_=>none
 | _,_=>none
theorem Yn0 {ob:Nat->Ob} {v:Value}:Ygz w ι ob (.sv (.one .top)) v:=⟨trivial,fun h=>(h rfl).elim⟩
theorem Yz6 (h:Rel E s ι a w) {o:Oper} {T:TypeId} {ad x:Operand} (ho:o.op=.store T ad x) {n:Nat} {r:Res} (e:eStoreBox P s T ad x=some r):EOK P E s a w o n r:=by
 unfold eStoreBox at e
 split at e
 ·rename_i id off v had hx
  split at e
  ·rename_i cs l m hob hl hT
   split at e
   ·rename_i hfit
    simp only [Option.some.injEq] at e; subst e
    have hv:=Ylc hl (Yjo h hx)
    have hor:=h.objs id
    rw [hob] at hor
    obtain ⟨hfp,arr,ty,hheap,hcs⟩:=hor
    have hp:=(Yhe h had).2 _ hob
    have hlen:(a.eval x).cells.toList.length=m:=by rw [<- hv.length]; exact hfit.1
    have hal:arr.size=cs.length:=by rw [hcs.length]; simp
    have h1:∀ u∈(a.eval x).cells.toList,u.oneCell'=true:=by
     intro u hu
     obtain ⟨k,hk⟩:=List.getElem?_of_mem hu
     obtain ⟨c,_,hc⟩:=hv.flip.get_left hk
     exact hc.2
    refine EOK.skip (ι':=ι) (w':=w.setRow (ι.blk id) (splice off (a.eval x).cells.toList arr.toList).toArray) ?_ (h.setBox hob ?_) Yn0
    ·simp only [execOp,ho,hp]
     rw [Sem.run_bind,Y17x hT hheap hlen (by omega) h1]
     rfl
    ·exact hv.splice hcs
   ·cases e
  ·cases e
 ·cases e
end
end Go.Proofs.YtclpofblehlojaaGreat.Ab
end
section
namespace Go.Proofs.YtclpofblehlojaaGreat.Ab
open Go
def absorbOwn (s:St):List AC->Option (List Cell × List Nat)
 | []=>some ([],[])
 | c :: r=>match absorbOwn s r with
  | none=>none
  | some (cs,ids)=>match c with
   | .val (.lit v)=>some (normLit v :: cs,ids)
   | .ref j=>match s.obj j with
    | .arr true _ es=>if ids.elem j then none else some (.list es :: cs,j :: ids)
    | _=>none
   | _=>none
def Ykl:List AC->Option (List Cell)
 | []=>some []
 | c :: r=>match Ykl r with
  | none=>none
  | some cs=>match c with
   | .val (.lit v)=>some (normLit v :: cs)
   | .val c=>some (c :: cs)
   | _=>none
def Yhs (ids:List Nat):List (Nat × Ob):=ids.map fun j=>(j,.dead)
theorem Yga (s:St) (n:Nat) (o:Ob):(s.setOb n o).objs.length=s.objs.length:=by simp [St.setOb]
theorem Yii:∀ (l:List (Nat × Ob)) (s:St),(s.updObs l).objs.length=s.objs.length
 | [],_=>rfl
 | (n,o) :: r,s=>by rw [St.updObs,Yii r,Yga]
theorem Yhx:∀ (l:List (Nat × Ob)) (s:St),(s.updObs l).regs=s.regs
 | [],_=>rfl
 | (n,o) :: r,s=>by rw [St.updObs,Yhx r]; rfl
theorem Yo6:∀ (l:List (Nat × Ob)) (s:St),(s.updObs l).m=s.m
 | [],_=>rfl
 | (n,o) :: r,s=>by rw [St.updObs,Yo6 r]; rfl
theorem Ym9:∀ (ids:List Nat) (s:St),(∀ j∈ids,j<s.objs.length)->∀ i,(s.updObs (Yhs ids)).obj i=if i∈ids then .dead else s.obj i
 | [],s,_,i=>by simp [Yhs,St.updObs]
 | j :: ids,s,h,i=>by
  have:=Ym9 ids (s.setOb j .dead) (fun k hk=>by rw [Yga]; exact h k (List.mem_cons_of_mem _ hk)) i
  simp only [Yhs,List.map_cons,St.updObs] at this ⊢
  rw [this,Yg5 (h j List.mem_cons_self)]
  by_cases h1:i∈ids
  ·simp [h1]
  ·by_cases h2:i=j
   ·simp [h2]
   ·simp [h1,h2]
section
variable {P:Program} {E:Ent P} {s:St} {ι:Interp} {a:Act} {w:World}
def Ymo (o:Ob):Prop:=∃ own sz es,o=.arr own sz es
theorem Rel.makeArr (h:Rel E s ι a w) {n:Nat} (hf:s.obj n=.free) (hn:n<s.objs.length) {ids:List Nat} (hids:∀ j∈ids,Ymo (s.obj j)) {own:Bool} {sz:Nat} {es:List (List Cell)}
  {w':World} {v':Value} {F':Nat->Prop} (hw:∀ b,b<w.heap.size->(∀ j∈ids,¬ ι.fp j b)->w'.heap[b]? = w.heap[b]?) (hsz:w.heap.size<=w'.heap.size) (os:w'.os=w.os) (out:w'.output=w.output)
  (hF:∀ b,F' b->(∃ j∈ids,ι.fp j b) ∨ (w.heap.size<=b/\b<w'.heap.size)) (hr:Ygs w' (Yhm w' ι.G own) sz F' v' es) (hv1:v'.oneCell'=true) :
  ∃ ι',Rel E ((s.updObs (Yhs ids)).setOb n (.arr own sz es)) ι' a w'/\Yh5 w' ι' ((s.updObs (Yhs ids)).setOb n (.arr own sz es)).obj (.one (.ref n)) v':=by
 have hlen:∀ j∈ids,j<s.objs.length:=fun j hj=>by
  obtain ⟨o,z,e,hjo⟩:=hids j hj
  exact Ygp hjo (by simp)
 have hnin:n ∉ ids:=fun hc=>by
  obtain ⟨o,z,e,hjo⟩:=hids n hc
  rw [hf] at hjo; cases hjo
 have hobj:∀ i,((s.updObs (Yhs ids)).setOb n (.arr own sz es)).obj i=if i=n then .arr own sz es else if i∈ids then .dead else s.obj i:=by
  intro i
  rw [Yg5 (by rw [Yii]; exact hn),Ym9 ids s hlen]
 let ι':Interp:={ ι with sl:=fun i=>if i=n then v' else ι.sl i,fp:=fun i b=>if i=n then F' b else if i∈ids then False else ι.fp i b }
 have hother:∀ i b,i≠n->i ∉ ids->ι.fp i b->w'.heap[b]? = w.heap[b]? := fun i b h1 h2 hb=>
  hw b (h.lt i b hb) fun j hj hjb=>h.disj i j b (fun e=>h2 (e ▸ hj)) hb hjb
 have hg:∀ b,ι.G b->w'.heap[b]? = w.heap[b]? := fun b hb=>hw b (h.glt b hb) fun j _ hjb=>h.gfp j b hjb hb
 have hx:Ext (fun _=>True) w ι s.obj w' ι' ((s.updObs (Yhs ids)).setOb n (.arr own sz es)).obj:=by
  refine ⟨fun b hb=>⟨hb,hg b hb⟩,fun i => ?_⟩
  rw [hobj i]
  by_cases h1:i=n
  ·subst h1; rw [if_pos rfl,hf]; trivial
  ·rw [if_neg h1]
   by_cases h2:i∈ids
   ·rw [if_pos h2]
    obtain ⟨o,z,e,hjo⟩:=hids i h2
    rw [hjo]; trivial
   ·rw [if_neg h2]
    cases e:s.obj i with
    | free=>trivial
    | dead=>trivial
    | box cs=>rfl
    | arr own' sz' es'=>exact ⟨by simp [ι',h1],rfl,fun _ b hb=>⟨.inl (by simp [ι',h1,h2,hb]),hother i b h1 h2 hb⟩⟩
    | map nn k f=>exact ⟨rfl,rfl,rfl,fun _ b hb=>⟨.inl (by simp [ι',h1,h2,hb]),hother i b h1 h2 hb⟩⟩
 have hfp:∀ i b,ι'.fp i b->(i=n/\F' b) ∨ (i≠n/\i ∉ ids/\ι.fp i b):=by
  intro i b hb
  simp only [ι'] at hb
  split at hb
  ·exact .inl ⟨‹_›,hb⟩
  ·split at hb
   ·exact hb.elim
   ·exact .inr ⟨‹_›,‹_›,hb⟩
 have hF1:∀ b,F' b->∀ i,i≠n->i ∉ ids->¬ ι.fp i b:=by
  intro b hb i h1 h2 hi
  rcases hF b hb with ⟨j,hj,hjb⟩ | ⟨hge,_⟩
  ·exact h.disj i j b (fun e=>h2 (e ▸ hj)) hi hjb
  ·have:=h.lt i b hi; omega
 refine ⟨ι',Rel.step h hx (fun t=>.inl ⟨?_,fun _ _ _ _=>trivial⟩) ?_ (Yo6 _ _) (fun i => ?_) ?_ ?_ ?_ ?_ ?_ (fun b hb hM => ?_) hsz os out,⟨?_,fun own2 sz2 es2 _=>by simp [ι']⟩,fun _=>hv1⟩
 ·show ((s.updObs (Yhs ids)).setOb n _).regs.getD t _=_
  simp only [St.setOb,Yhx]; rfl
 ·simp only [St.setOb,Yhx]
 ·rw [hobj i]
  by_cases h1:i=n
  ·subst h1; right
   rw [if_pos rfl]
   have e1:ι'.fp i=F':=by funext b; simp [ι']
   have e2:ι'.sl i=v':=by simp [ι']
   show Ygs w' (Yhm w' ι'.G own) sz (ι'.fp i) (ι'.sl i) es
   rw [e1,e2]; exact hr
  ·rw [if_neg h1]
   by_cases h2:i∈ids
   ·right
    rw [if_pos h2]
    intro b hb
    rcases hfp i b hb with ⟨h3,_⟩ | ⟨_,h3,_⟩
    ·exact h1 h3
    ·exact h3 h2
   ·left
    rw [if_neg h2]
    exact ⟨rfl,⟨rfl,by simp [ι',h1],fun b=>by simp [ι',h1,h2],fun b hb=>hother i b h1 h2 hb⟩,fun _ _ _ _=>trivial⟩
 ·intro i j b hij hi hj
  rcases hfp i b hi with ⟨rfl,h1⟩ | ⟨h1,h2,h3⟩ <;> rcases hfp j b hj with ⟨rfl,k1⟩ | ⟨k1,k2,k3⟩
  ·exact hij rfl
  ·exact hF1 b h1 j k1 k2 k3
  ·exact hF1 b k1 i h1 h2 h3
  ·exact h.disj i j b hij h3 k3
 ·intro i b hi hgb
  rcases hfp i b hi with ⟨rfl,h1⟩ | ⟨h1,h2,h3⟩
  ·rcases hF b h1 with ⟨j,_,hjb⟩ | ⟨hge,_⟩
   ·exact h.gfp j b hjb hgb
   ·have:=h.glt b hgb; omega
  ·exact h.gfp i b h3 hgb
 ·intro i b hi
  rcases hfp i b hi with ⟨rfl,h1⟩ | ⟨h1,h2,h3⟩
  ·rcases hF b h1 with ⟨j,_,hjb⟩ | ⟨hge,_⟩
   ·exact h.own j b hjb
   ·exact .inr (Nat.le_trans h.size hge)
  ·exact h.own i b h3
 ·intro i b hi
  rcases hfp i b hi with ⟨rfl,h1⟩ | ⟨h1,h2,h3⟩
  ·rcases hF b h1 with ⟨j,_,hjb⟩ | ⟨_,hlt⟩
   ·have:=h.lt j b hjb; omega
   ·exact hlt
  ·have:=h.lt i b h3; omega
 ·intro b hb
  have:=h.glt b hb; omega
 ·refine hw b (Nat.lt_of_lt_of_le hb h.size) fun j _ hjb => ?_
  rcases h.own j b hjb with h1 | h1
  ·exact hM h1
  ·omega
 ·unfold notFree; rw [hobj n,if_pos rfl]; trivial
theorem Yml {F:Nat->Prop} {v:Value} (h:Yjq v):OwnC w F v (normLit v):=by
 unfold normLit
 split
 ·exact .arr (es:=[]) (xs:=[]) (Fs:=fun _ _=>False) (e:=0) (sz:=0) (Ysz w 0 0) (by simp) (by simp [Value.ownBlock]) (by simp) (by simp) (by simp) (by simp) (fun _=>⟨none,rfl⟩)
 ·exact .lit h
theorem Y1bd {G:Nat->Prop} {v:Value} (h:Yjq v):Rd w G v (normLit v):=by
 unfold normLit
 split
 ·exact .nil
 ·exact .lit h
theorem Yq6 {ob:Nat->Ob}:∀ {acs:List AC} {vs:List Value} {cs:List Cell},Ykl acs=some cs->Yg8 (Yi9 w ι ob) acs vs->Yg8 (Rd w ι.G) vs cs
 | [],[],cs,e,_=>by simp only [Ykl,Option.some.injEq] at e; subst e; trivial
 | c :: acs,v :: vs,cs,e,h=>by
  simp only [Ykl] at e
  split at e
  ·cases e
  ·rename_i cs' hcs
   have ih:=Yq6 hcs h.2
   split at e
   ·rename_i u
    simp only [Option.some.injEq] at e; subst e
    obtain ⟨rfl,hk⟩:=Rd.lit_inv (show Rd w ι.G v _ from h.1.1)
    exact ⟨Y1bd hk,ih⟩
   ·rename_i c' hc'
    simp only [Option.some.injEq] at e; subst e
    exact ⟨h.1.1,ih⟩
   ·cases e
 | [],_ :: _,_,_,h=>h.elim
 | _ :: _,[],_,_,h=>h.elim
theorem Yng (h:Rel E s ι a w):∀ {acs:List AC} {vs:List Value} {cs:List Cell} {ids:List Nat},absorbOwn s acs=some (cs,ids)->Yg8 (Yi9 w ι s.obj) acs vs ->
  (∀ j∈ids,Ymo (s.obj j))/\cs.length=acs.length/\∃ Fs:Nat->Nat->Prop,(∀ k b,Fs k b->∃ j∈ids,ι.fp j b)/\(∀ k k' b,k≠k'->Fs k b->¬ Fs k' b) /\
   ∀ (k:Nat) (v:Value) (c:Cell),vs[k]? = some v->cs[k]? = some c->OwnC w (Fs k) v c
 | [],[],cs,ids,e,_=>by
  simp only [absorbOwn,Option.some.injEq,Prod.mk.injEq] at e
  obtain ⟨rfl,rfl⟩:=e
  exact ⟨by simp,rfl,fun _ _=>False,by simp,by simp,by simp⟩
 | c :: acs,v :: vs,cs,ids,e,hh=>by
  simp only [absorbOwn] at e
  split at e
  ·cases e
  ·rename_i cs' ids' hcs
   obtain ⟨i1,i2,Fs,i3,i4,i5⟩:=Yng h hcs hh.2
   split at e
   ·rename_i u
    simp only [Option.some.injEq,Prod.mk.injEq] at e
    obtain ⟨rfl,rfl⟩:=e
    obtain ⟨rfl,hk⟩:=Rd.lit_inv (show Rd w ι.G v _ from hh.1.1)
    refine ⟨i1,by simp [i2],fun k b=>match k with | 0=>False | k+1=>Fs k b,?_,?_,?_⟩
    ·intro k b hb
     cases k with
     | zero=>exact hb.elim
     | succ k=>exact i3 k b hb
    ·intro k k' b hne hb hb'
     cases k with
     | zero=>exact hb.elim
     | succ k=>cases k' with
      | zero=>exact hb'.elim
      | succ k'=>exact i4 k k' b (fun e=>hne (by rw [e])) hb hb'
    ·intro k x y hx hy
     cases k with
     | zero=>simp at hx hy; subst hx; subst hy; exact Yml hk
     | succ k=>simp at hx hy; exact i5 k x y hx hy
   ·rename_i j
    split at e
    ·rename_i sz es hob
     split at e
     ·cases e
     ·rename_i hnin
      simp only [Option.some.injEq,Prod.mk.injEq] at e
      obtain ⟨rfl,rfl⟩:=e
      have hnin':j ∉ ids':=by simpa using hnin
      have hor:=h.objs j
      rw [hob] at hor
      have hv:=hh.1.1.2 _ _ _ hob
      refine ⟨?_,by simp [i2],fun k b=>match k with | 0=>ι.fp j b | k+1=>Fs k b,?_,?_,?_⟩
      ·intro i hi
       rcases List.mem_cons.1 hi with rfl | hi
       ·exact ⟨_,_,_,hob⟩
       ·exact i1 i hi
      ·intro k b hb
       cases k with
       | zero=>exact ⟨j,List.mem_cons_self,hb⟩
       | succ k=>obtain ⟨i,hi,hib⟩:=i3 k b hb; exact ⟨i,List.mem_cons_of_mem _ hi,hib⟩
      ·have key:∀ k b,ι.fp j b->¬ Fs k b:=fun k b hj hb=>by
        obtain ⟨i,hi,hib⟩:=i3 k b hb
        exact h.disj j i b (fun e=>hnin' (e ▸ hi)) hj hib
       intro k k' b hne hb hb'
       cases k with
       | zero=>cases k' with
        | zero=>exact hne rfl
        | succ k'=>exact key k' b hb hb'
       | succ k=>cases k' with
        | zero=>exact key k b hb' hb
        | succ k'=>exact i4 k k' b (fun e=>hne (by rw [e])) hb hb'
      ·intro k x y hx hy
       cases k with
       | zero=>simp at hx hy; subst hx; subst hy; rw [hv]; exact Ygs.own hor
       | succ k=>simp at hx hy; exact i5 k x y hx hy
    ·cases e
   ·cases e
 | [],_ :: _,_,_,_,h=>h.elim
 | _ :: _,[],_,_,_,h=>h.elim
end
end Go.Proofs.YtclpofblehlojaaGreat.Ab
end
section
namespace Go.Proofs.YtclpofblehlojaaGreat.Ab
open Go
section
variable {P:Program} (w:World)
theorem Yy0 (z:Array Value) (n:Nat):(Builtin.zeroCells z n).size=n * z.size:=by simp [Builtin.zeroCells]
theorem Y101 (t u ty e e0:TypeId) (d:TypeDesc) (i:TypeInfo) (z:Value) (size bytes:Nat) (ht:P.underlying t=some (.slice e)) (hu:P.underlying u=some d) (hd:∀ k,d≠.int k)
  (hi:P.info? e=some i) (hz:i.zero=some z) (hsize:i.size=size) (hby:i.bytes=bytes) (hzs:z.cells.size=size) (hsz:0<size)
  (v:Value) (n:Nat) (xs:List Value) (hown:Yiw w e0 size v n xs) (hv0:n=0->∃ a,v=.slice a 0 0)
  (x:Value) (m:Nat) (news:List Value) (hlen:∀ w1:World,(Builtin.lenOf x).run P w1=.ok m w1) (hfirst:∀ w1:World,w1.heap=w.heap->(Builtin.firstCells size m x).run P w1=.ok news.toArray w1)
  (hl:news.length=m * size) (h1:∀ u∈news,u.oneCell'=true) (h63:n+m<=maxLen) (hbytes:(n+m) * bytes<=140737488355328) :
  ∃ v' w' e',(Builtin.append_ #[t,u] ty #[v,x]).run P w=.ok v' w'/\Yiw w' e' size v' (n+m) (xs++news)/\w.grownBy w' v.ownBlock /\
   (∀ b,v'.ownBlock=some b->v.ownBlock=some b ∨ (w.heap.size<=b/\b<w'.heap.size))/\(n+m=0->∃ a,v'=.slice a 0 0):=by
 subst hsize
 subst hby
 have hsmall:n+m<=9223372036854775807:=by simp only [maxLen] at h63; omega
 have hlen2:(xs++news).length=(n+m) * i.size:=by rw [List.length_append,hown.1,hl,Nat.add_mul]
 have grown:∀ (old:Nat),old<n+m->∀ (row:Option Nat),
   Yiw (w.drew.alloc (.cells (xs.toArray++news.toArray++Builtin.zeroCells z.cells (grownCap w (n+m) old e - (n+m))) e)) e i.size
    (.slice (some ⟨w.heap.size,0,none⟩) (n+m) (grownCap w (n+m) old e)) (n+m) (xs++news) /\
   w.grownBy (w.drew.alloc (.cells (xs.toArray++news.toArray++Builtin.zeroCells z.cells (grownCap w (n+m) old e - (n+m))) e)) row:=by
  intro old ho row
  have hge:=grownCap_ge w (n+m) old e
  have hcm:grownCap w (n+m) old e<=maxLen:=grownCap_le_maxLen w (n+m) old e h63
  refine ⟨⟨hlen2,.inr ⟨w.heap.size,_,_,(0,0),rfl,.inl rfl,heap_alloc_new w.drew _,hge,hcm,?_,?_⟩⟩,⟨rfl,rfl,rfl,by simp,fun k hk _=>Yjy w.drew _ k hk⟩⟩
  ·simp only [Array.size_append,List.size_toArray,Yy0,hzs,hown.1,hl,<- Nat.add_mul]
   congr 1
   omega
  ·simp only [Array.toList_append,List.append_assoc]
   rw [<- List.append_assoc,<- hlen2]
   exact List.take_left
 have newb:∀ old b,(Value.slice (some ⟨w.heap.size,0,none⟩) (n+m) (grownCap w (n+m) old e)).ownBlock=some b ->
   v.ownBlock=some b ∨ (w.heap.size<=b/\b<(w.drew.alloc (.cells (xs.toArray++news.toArray++Builtin.zeroCells z.cells (grownCap w (n+m) old e - (n+m))) e)).heap.size):=by
  intro old b hb
  simp only [Value.ownBlock,Option.some.injEq] at hb
  subst hb
  exact .inr ⟨Nat.le_refl _,by simp⟩
 rcases hown.2 with ⟨rfl,rfl⟩ | ⟨g,cap,cur,fz,rfl,hbg,hg,hnc,hcm,hcs,htake⟩
 ·have hx:xs=[]:=List.eq_nil_of_length_eq_zero (by simpa using hown.1)
  subst hx
  by_cases hm:m=0
  ·subst hm
   have hn:news=[]:=List.eq_nil_of_length_eq_zero (by simpa using hl)
   subst hn
   refine ⟨.slice none 0 0,w,0,?_,Ysz w 0 i.size,⟨rfl,rfl,rfl,Nat.le_refl _,fun _ _ _=>rfl⟩,by simp [Value.ownBlock],fun _=>⟨none,rfl⟩⟩
   have hf:=hfirst w rfl
   simp [Builtin.append_,run_underlying ht,run_underlying hu,Go.sizeOf,typeInfo,hi,hlen,hf]
  ·have hgr:=grown 0 (by omega) (Value.ownBlock (.slice none 0 0))
   have hnb:=newb 0
   have h63':¬ (9223372036854775807<(m:Int)):=by omega
   have h48':¬ (281474976710656<Builtin.nextslicecap m 0 * i.bytes):=by
    rw [nextslicecap_zero (by omega)]; simp only [Nat.zero_add] at hbytes; omega
   have hf:=hfirst w.drew rfl
   simp only [Nat.zero_add,List.nil_append,Array.empty_append] at hgr hnb ⊢
   refine ⟨_,_,e,?_,hgr.1,hgr.2,hnb,fun h=>absurd h (by omega)⟩
   simp [Builtin.append_,run_underlying ht,run_underlying hu,Go.sizeOf,typeInfo,zeroValue,hi,hz,hlen,hm,h63',h48',Question.forced,run_firstCells_none,hf,newRow,grownCap]
 ·by_cases hroom:n+m<=cap
  ·have hfit:n * i.size+news.length<=cur.size:=by rw [hl,hcs,<- Nat.add_mul]; exact Nat.mul_le_mul_right _ hroom
   have hst:=Ylz P g (n * i.size) e0 fz news 0 cur w hg hbg (by simpa using hfit) h1
   simp only [Nat.add_zero] at hst
   refine ⟨.slice (some ⟨g,0,none⟩) (n+m) cap,w.setRow g (cur.toList.take (n * i.size)++news++cur.toList.drop (n * i.size+news.length)).toArray,e0,?_,⟨hlen2,.inr ⟨g,cap,_,fz,rfl,?_,setRow_heap w g cur _ e0 _ hg,hroom,hcm,?_,?_⟩⟩,
    ⟨rfl,rfl,rfl,by simp,fun k _ hk=>setRow_other w g k _ (fun e=>hk (by simp [Value.ownBlock,e]))⟩,fun b hb=>.inl hb,fun h => ?_⟩
   ·have hf:=hfirst w rfl
    simp [Builtin.append_,run_underlying ht,run_underlying hu,Go.sizeOf,typeInfo,hi,hlen,hroom,hf,Yjl,hst]
   ·have:(cur.toList.take (n * i.size)++news++cur.toList.drop (n * i.size+news.length)).toArray.size=cur.size:=by
     simp only [List.size_toArray,List.length_append,List.length_take,List.length_drop,Array.length_toList]
     omega
    rw [this]; exact hbg
   ·simp only [List.size_toArray,List.length_append,List.length_take,List.length_drop,Array.length_toList]
    omega
   ·rw [htake,<- hlen2]
    exact List.take_left
   ·obtain ⟨a,ha⟩:=hv0 (by omega)
    simp only [Value.slice.injEq] at ha
    exact ⟨some ⟨g,0,none⟩,by rw [h,ha.2.2]⟩
  ·have holds:∀ j u,xs[j]? = some u->w.cell? ((⟨g,0,none⟩:Addr).add j)=some u:=hown.cells (g:=g) rfl
   have hgr:=grown cap (by omega) (Value.ownBlock (.slice (some ⟨g,0,none⟩) n cap))
   have hn:¬ (n+m<=cap):=by omega
   have h63':¬ (9223372036854775807<((n:Int)+(m:Int))):=by omega
   have hfits:=growslice_fits (need:=n+m) (old:=cap) (by omega) hbytes
   have h48':¬ (281474976710656<Builtin.nextslicecap (n+m) cap * i.bytes):=by omega
   have hf:=hfirst w.drew rfl
   have hfo:=run_firstCells_some (P:=P) w.drew i.size n ⟨g,0,none⟩ n cap xs hown.1 (by simpa using holds)
   refine ⟨_,_,e,?_,hgr.1,hgr.2,newb cap,fun h=>absurd h (by omega)⟩
   simp [Builtin.append_,run_underlying ht,run_underlying hu,Go.sizeOf,typeInfo,zeroValue,hi,hz,hlen,hn,h63',h48',Question.forced,hf,hfo,newRow,grownCap]
   congr 2
   apply Array.ext'
   simp [List.append_assoc]
end
section
variable {P:Program} {E:Ent P} {s:St} {ι:Interp} {a:Act} {w:World}
def Y1cc (es:List (List Cell)):Prop:=∀ e∈es,∀ c∈e,∃ v,c=.lit v
def Yrp (P:Program) (T:TypeId):Option Nat:=(P.info? T).map (·.bytes)
def Ypp (P:Program) (e sz:Nat):Bool:=
 match P.info? e with
 | some i=>match i.zero with
  | some z=>i.size == sz&&z.cells.size == sz&&decide (0<sz)&&decide (0<i.bytes)
  | none=>false
 | none=>false
def Yvf (P:Program) (T:TypeId):Bool:=match P.underlying T with | some (.slice _)=>true | some .string=>true | _=>false
def srcElems (s:St) (own:Bool) (sz:Nat):AC->Option (List (List Cell) × List Nat × List Item)
 | .val (.lit (.slice none 0 0))=>some ([],[],[])
 | .val (.lit (.string t))=>if own=true/\sz=1 then some (t.data.toList.map fun b=>[.lit (.int .u8 b.toNat)],[],[]) else none
 | .val (.list es)=>match own with
  | true=>some (es,[],[.obl (Y1cc es),.obl (∀ e∈es,e.length=sz)])
  | false=>some (es,[],[.obl (∀ e∈es,e.length=sz)])
 | .bor id (.list es)=>if Ymq s (some id)=true/\own=true then some (es,[],[.obl (Y1cc es),.obl (∀ e∈es,e.length=sz)]) else none
 | .ref k=>match s.obj k with
  | .arr own' sz' es=>if sz'=sz then (match own with
    | true=>match own' with
     | true=>some (es,[k],[])
     | false=>some (es,[],[.obl (Y1cc es)])
    | false=>match own' with
     | true=>none
     | false=>some (es,[],[])) else none
  | _=>none
 | _=>none
def Yrm (P:Program) (w:World) (G:Nat->Prop) (own:Bool) (fps:Nat->Prop) (x:Value) (sz:Nat) (es:List (List Cell)):Prop:=
 ∃ news:List Value,(∀ w1:World,(Builtin.lenOf x).run P w1=.ok es.length w1)/\(∀ w1:World,w1.heap=w.heap->(Builtin.firstCells sz es.length x).run P w1=.ok news.toArray w1) /\
  news.length=es.length * sz/\(∀ e∈es,e.length=sz) /\
  ∃ Fs:Nat->Nat->Prop,(∀ k b,Fs k b->fps b)/\(∀ k k' b,k≠k'->Fs k b->¬ Fs k' b)/\∀ (k:Nat) (u:Value) (c:Cell),news[k]? = some u->es.flatten[k]? = some c->Yhm w G own (Fs k) u c
theorem Y122 {w w1:World} (h:w1.heap=w.heap) (ad:Addr):w1.cell? ad=w.cell? ad:=by simp [World.cell?,h]
theorem Ypt {G R:Nat->Prop} {v:Value} {es:List (List Cell)} (h:Rd w R v (.list es)) {sz:Nat} (hsz:∀ e∈es,e.length=sz) {own:Bool}
  (hN:∀ u c,Rd w R u c->c∈es.flatten->Yhm w G own (fun _=>False) u c):Yrm P w G own (fun _=>False) v sz es:=by
 cases h with
 | nil=>
  rename_i ad cap
  refine ⟨[],by simp [Builtin.lenOf],fun w1 _ => ?_,by simp,by simp,fun _ _=>False,by simp,by simp,by simp⟩
  cases ad with
  | none=>simp [Builtin.firstCells]
  | some ad=>exact run_firstCells_some (P:=P) w1 sz 0 ad 0 cap [] (by simp) (by simp)
 | slice hG hc hm hsz' hl hx hr=>
  rename_i b off cap sz' xs
  refine ⟨xs,by simp [Builtin.lenOf],fun w1 hw1 => ?_,by rw [hl,Yh6 hsz],hsz,fun _ _=>False,by simp,by simp,fun k u c hu hc'=>hN u c (hr k u c hu hc') (List.mem_of_getElem? hc')⟩
  refine run_firstCells_some (P:=P) w1 sz es.length ⟨b,off,none⟩ es.length cap xs (by rw [hl,Yh6 hsz]) fun j u hu => ?_
  rw [Yjl,Y122 hw1]
  exact hx j u hu
theorem Yxj {es:List (List Cell)} (hf:Y1cc es) {R:Nat->Prop} {u:Value} {c:Cell} (h:Rd w R u c) (hc:c∈es.flatten):OwnC w (fun _=>False) u c:=by
 obtain ⟨e,he,hce⟩:=List.mem_flatten.1 hc
 obtain ⟨v,rfl⟩:=hf e he c hce
 obtain ⟨rfl,hk⟩:=h.lit_inv
 exact .lit hk
theorem Y100 {e0:TypeId} {sz n:Nat} {v:Value} {xs:List Value} (h:Yiw w e0 sz v n xs) :
  (∀ w1:World,(Builtin.lenOf v).run P w1=.ok n w1)/\∀ w1:World,w1.heap=w.heap->(Builtin.firstCells sz n v).run P w1=.ok xs.toArray w1:=by
 have hc:=fun g hg=>Yiw.cells (g:=g) h hg
 rcases h.2 with ⟨rfl,rfl⟩ | ⟨g,cap,cur,fz,rfl,_⟩
 ·have hx:xs=[]:=List.eq_nil_of_length_eq_zero (by simpa using h.1)
  subst hx
  exact ⟨by simp [Builtin.lenOf],fun w1 _=>by simp [Builtin.firstCells]⟩
 ·refine ⟨by simp [Builtin.lenOf],fun w1 hw1 => ?_⟩
  refine run_firstCells_some (P:=P) w1 sz n ⟨g,0,none⟩ n cap xs h.1 fun j u hu => ?_
  rw [Y122 hw1]
  exact hc g rfl j u hu
theorem Yrx (h:Rel E s ι a w) {own:Bool} {sz:Nat} {c:AC} {v:Value} (hv:Ygx w ι s.obj c v) {es:List (List Cell)} {ids:List Nat} {it:List Item} {K:Prop}
  (e:srcElems s own sz c=some (es,ids,it)) (vc:VC it K):Yrm P w ι.G own (fun b=>∃ j∈ids,ι.fp j b) v sz es/\(∀ j∈ids,Ymo (s.obj j))/\K:=by
 have wide:∀ {F F':Nat->Prop} {v:Value} {es:List (List Cell)},(∀ b,F b->F' b)->Yrm P w ι.G own F v sz es->Yrm P w ι.G own F' v sz es:=by
  intro F F' v es hF ⟨news,h1,h2,h3,h4,Fs,h5,h6,h7⟩
  exact ⟨news,h1,h2,h3,h4,Fs,fun k b hb=>hF b (h5 k b hb),h6,h7⟩
 unfold srcElems at e
 split at e
 ·simp only [Option.some.injEq,Prod.mk.injEq] at e
  obtain ⟨rfl,rfl,rfl⟩:=e
  obtain ⟨rfl,_⟩:=Rd.lit_inv (show Rd w ι.G v _ from hv)
  exact ⟨⟨[],by simp [Builtin.lenOf],fun w1 _=>by simp [Builtin.firstCells],by simp,by simp,fun _ _=>False,by simp,by simp,by simp⟩,by simp,vc⟩
 ·rename_i t
  split at e
  ·rename_i hc
   obtain ⟨rfl,rfl⟩:=hc
   simp only [Option.some.injEq,Prod.mk.injEq] at e
   obtain ⟨rfl,rfl,rfl⟩:=e
   obtain ⟨rfl,_⟩:=Rd.lit_inv (show Rd w ι.G v _ from hv)
   have hl:t.size=t.data.toList.length:=by rw [Array.length_toList]; rfl
   refine ⟨⟨t.data.toList.map fun b=>.int .u8 b.toNat,fun w1=>by simp [Builtin.lenOf],fun w1 _ => ?_,by simp,by simp,fun _ _=>False,by simp,by simp,?_⟩,by simp,vc⟩
   ·simp only [Builtin.firstCells,Sem.run_pure,List.length_map,<- hl]
    congr 1
    apply Array.ext'
    simp
   ·intro k u c hu hc
    have hfl:(t.data.toList.map fun b=>[Cell.lit (.int .u8 b.toNat)]).flatten=t.data.toList.map fun b=>Cell.lit (.int .u8 b.toNat):=by
     induction t.data.toList with
     | nil=>rfl
     | cons x l ih=>simp only [List.map_cons,List.flatten_cons,ih]; rfl
    rw [hfl] at hc
    simp only [List.getElem?_map] at hu hc
    cases hk:t.data.toList[k]? with
    | none=>simp [hk] at hu
    | some b=>
     simp [hk] at hu hc
     subst hu; subst hc
     exact OwnC.lit (show Yjq (.int .u8 _) from trivial)
  ·cases e
 ·rename_i es0
  split at e
  ·simp only [Option.some.injEq,Prod.mk.injEq] at e
   obtain ⟨rfl,rfl,rfl⟩:=e
   exact ⟨wide (fun b hb=>hb.elim) (Ypt (show Rd w ι.G v _ from hv) vc.2.1 fun u c hu hc=>Yxj vc.1 hu hc),by simp,vc.2.2⟩
  ·simp only [Option.some.injEq,Prod.mk.injEq] at e
   obtain ⟨rfl,rfl,rfl⟩:=e
   exact ⟨wide (fun b hb=>hb.elim) (Ypt (show Rd w ι.G v _ from hv) vc.1 fun u c hu hc=>hu),by simp,vc.2⟩
 ·rename_i id es0
  split at e
  ·rename_i hl
   obtain ⟨hl,rfl⟩:=hl
   simp only [Option.some.injEq,Prod.mk.injEq] at e
   obtain ⟨rfl,rfl,rfl⟩:=e
   exact ⟨wide (fun b hb=>hb.elim) (Ypt (hv.2 (Ymu hl)) vc.2.1 fun u c hu hc=>Yxj vc.1 hu hc),by simp,vc.2.2⟩
  ·cases e
 ·rename_i k
  split at e
  ·rename_i own' sz' es0 hob
   split at e
   ·rename_i hsz
    subst hsz
    have hor:=h.objs k
    rw [hob] at hor
    have hv':=hv.2 _ _ _ hob
    have hor0:=hor
    obtain ⟨e0,xs,Fs,h1,h2,h3,h4,h5,h6,h7,_⟩:=hor
    rw [<- hv'] at h1
    obtain ⟨f1,f2⟩:=Y100 (P:=P) h1
    cases own <;> cases own' <;> simp only [Option.some.injEq,Prod.mk.injEq,reduceCtorEq] at e <;> obtain ⟨rfl,rfl,rfl⟩:=e
    ·exact ⟨⟨xs,f1,f2,h1.1,h2,fun _ _=>False,by simp,by simp,h7⟩,by simp,vc⟩
    ·refine ⟨⟨xs,f1,f2,h1.1,h2,fun _ _=>False,by simp,by simp,fun j u c hu hc => ?_⟩,by simp,vc.2⟩
     exact Yxj vc.1 (h7 j u c hu hc) (List.mem_of_getElem? hc)
    ·exact ⟨⟨xs,f1,f2,h1.1,h2,Fs,fun j b hb=>⟨k,by simp,h4 j b hb⟩,h6,h7⟩,fun j hj=>by simp at hj; subst hj; exact ⟨_,_,_,hob⟩,vc⟩
   ·cases e
  ·cases e
 ·cases e
end
end Go.Proofs.YtclpofblehlojaaGreat.Ab
end
section
namespace Go.Proofs.YtclpofblehlojaaGreat.Ab
open Go
section
variable {P:Program} {E:Ent P} {s:St} {ι:Interp} {a:Act} {w:World}
def target (s:St) (sz:Nat) (q:List Orc):AC->Option (Bool × List (List Cell) × List Nat × List Orc)
 | .val (.lit (.slice none 0 0))=>match q with
  | .bool own :: q=>some (own,[],[],q)
  | _=>none
 | .ref j=>match s.obj j with
  | .arr own sz' es=>if sz'=sz then some (own,es,[j],q) else none
  | _=>none
 | _=>none
def Y1dw (w:World) (G:Nat->Prop) (own:Bool) (fps:Nat->Prop) (v:Value) (sz:Nat) (es:List (List Cell)):Prop:=
 (∀ e∈es,e.length=sz)/\Y1hr v es/\∃ (e0:TypeId) (xs:List Value) (Fs:Nat->Nat->Prop),Yiw w e0 sz v es.length xs/\(∀ b,v.ownBlock=some b->fps b)/\(∀ k b,Fs k b->fps b) /\
  (∀ k b,v.ownBlock=some b->¬ Fs k b)/\(∀ k k' b,k≠k'->Fs k b->¬ Fs k' b)/\∀ (k:Nat) (u:Value) (c:Cell),xs[k]? = some u->es.flatten[k]? = some c->Yhm w G own (Fs k) u c
theorem Yuw (h:Rel E s ι a w) {sz:Nat} {c:AC} {v:Value} (hv:Ygx w ι s.obj c v) {q q':List Orc} {own:Bool} {es:List (List Cell)} {ids:List Nat}
  (e:target s sz q c=some (own,es,ids,q')):Y1dw w ι.G own (fun b=>∃ j∈ids,ι.fp j b) v sz es/\(∀ j∈ids,Ymo (s.obj j)):=by
 unfold target at e
 split at e
 ·split at e
  ·simp only [Option.some.injEq,Prod.mk.injEq] at e
   obtain ⟨rfl,rfl,rfl,rfl⟩:=e
   obtain ⟨rfl,_⟩:=Rd.lit_inv (show Rd w ι.G v _ from hv)
   exact ⟨⟨by simp,fun _=>⟨none,rfl⟩,0,[],fun _ _=>False,Ysz w 0 sz,by simp [Value.ownBlock],by simp,by simp,by simp,by simp⟩,by simp⟩
  ·cases e
 ·rename_i j
  split at e
  ·rename_i own' sz' es' hob
   split at e
   ·rename_i hsz
    subst hsz
    simp only [Option.some.injEq,Prod.mk.injEq] at e
    obtain ⟨rfl,rfl,rfl,rfl⟩:=e
    have hor:=h.objs j
    rw [hob] at hor
    rw [hv.2 _ _ _ hob]
    obtain ⟨e0,xs,Fs,h1,h2,h3,h4,h5,h6,h7,h0⟩:=hor
    exact ⟨⟨h2,h0,e0,xs,Fs,h1,fun b hb=>⟨j,by simp,h3 b hb⟩,fun k b hb=>⟨j,by simp,h4 k b hb⟩,h5,h6,h7⟩,fun i hi=>by simp at hi; subst hi; exact ⟨_,_,_,hob⟩⟩
   ·cases e
  ·cases e
 ·cases e
theorem Ypg {e sz:Nat} (h:Ypp P e sz=true):∃ i z,P.info? e=some i/\i.zero=some z/\i.size=sz/\z.cells.size=sz/\0<sz/\0<i.bytes:=by
 unfold Ypp at h
 split at h
 ·rename_i i hi
  split at h
  ·rename_i z hz
   simp at h
   exact ⟨i,z,hi,hz,h.1.1.1,h.1.1.2,h.1.2,h.2⟩
  ·cases h
 ·cases h
theorem Yyz {u:TypeId} (h:Yvf P u=true):∃ d,P.underlying u=some d/\∀ k,d≠.int k:=by
 unfold Yvf at h
 split at h
 ·exact ⟨_,‹_›,fun k=>by simp⟩
 ·exact ⟨_,‹_›,fun k=>by simp⟩
 ·cases h
theorem Yyo (h:Rel E s ι a w) {own:Bool} {sz bytes:Nat} {es es2:List (List Cell)} {ids ids2:List Nat} {v x:Value}
  (hT:Y1dw w ι.G own (fun b=>∃ j∈ids,ι.fp j b) v sz es) (hS:Yrm P w ι.G own (fun b=>∃ j∈ids2,ι.fp j b) x sz es2) (hdis:∀ j∈ids2,j ∉ ids)
  {t u ty e:TypeId} {d:TypeDesc} {i:TypeInfo} {z:Value} (ht:P.underlying t=some (.slice e)) (hu:P.underlying u=some d) (hd:∀ k,d≠.int k)
  (hi:P.info? e=some i) (hz:i.zero=some z) (hsize:i.size=sz) (hby:i.bytes=bytes) (hzs:z.cells.size=sz) (hsz:0<sz) (hb0:0<bytes)
  (hbytes:(es.length+es2.length) * bytes<=140737488355328) :
  ∃ v' w',(Builtin.append_ #[t,u] ty #[v,x]).run P w=.ok v' w'/\(∀ b,b<w.heap.size->(∀ j∈ids++ids2,¬ ι.fp j b)->w'.heap[b]? = w.heap[b]?)/\w.heap.size<=w'.heap.size/\w'.os=w.os/\w'.output=w.output /\
   v'.oneCell'=true/\∃ F':Nat->Prop,(∀ b,F' b->(∃ j∈ids++ids2,ι.fp j b) ∨ (w.heap.size<=b/\b<w'.heap.size))/\Ygs w' (Yhm w' ι.G own) sz F' v' (es++es2):=by
 obtain ⟨t1,t0,e0,xs,Fs,t2,t3,t4,t5,t6,t7⟩:=hT
 obtain ⟨news,s1,s2,s3,s4,Fs2,s5,s6,s7⟩:=hS
 have hlx:xs.length=es.flatten.length:=by rw [t2.1,Yh6 t1]
 have hln:news.length=es2.flatten.length:=by rw [s3,Yh6 s4]
 have h1:∀ u∈news,u.oneCell'=true:=by
  intro u hu
  obtain ⟨k,hk⟩:=List.getElem?_of_mem hu
  have:k<es2.flatten.length:=by rw [<- hln]; exact (List.getElem?_eq_some_iff.1 hk).1
  exact (s7 k u _ hk (List.getElem?_eq_getElem this)).one
 have h63:es.length+es2.length<=maxLen:=by
  have:=Nat.le_trans (Nat.le_mul_of_pos_right (es.length+es2.length) hb0) hbytes
  simp only [maxLen]; omega
 obtain ⟨v',w',e',r1,r2,r3,r4,r5⟩:=Y101 w t u ty e e0 d i z sz bytes ht hu hd hi hz hsize hby hzs hsz v es.length xs t2 (fun h=>t0 (List.eq_nil_of_length_eq_zero h)) x es2.length news s1 s2 s3 h1 h63 hbytes
 have hvlt:∀ b,v.ownBlock=some b->b<w.heap.size:=fun b hb=>by
  obtain ⟨j,_,hj⟩:=t3 b hb
  exact h.lt j b hj
 have hkeep:∀ b,b<w.heap.size->v.ownBlock≠some b->w'.heap[b]? = w.heap[b]? := fun b hb hne=>r3.block b hb fun e=>hne e.symm
 have hone:v'.oneCell'=true:=by rcases r2.2 with ⟨rfl,_⟩ | ⟨g,cap,cur,fz,rfl,_⟩ <;> rfl
 refine ⟨v',w',r1,fun b hb hnot=>hkeep b hb fun e => ?_,r3.size,r3.os,r3.output,hone,fun b=>v'.ownBlock=some b ∨ ∃ j∈ids++ids2,ι.fp j b,fun b hb => ?_,?_⟩
 ·obtain ⟨j,hj,hjb⟩:=t3 b e
  exact hnot j (List.mem_append_left _ hj) hjb
 ·rcases hb with hb | hb
  ·rcases r4 b hb with h2 | h2
   ·obtain ⟨j,hj,hjb⟩:=t3 b h2
    exact .inl ⟨j,List.mem_append_left _ hj,hjb⟩
   ·exact .inr h2
  ·exact .inl hb
 ·have hnest:∀ {F:Nat->Prop} {u:Value} {c:Cell},(∀ b,F b->b<w.heap.size/\v.ownBlock≠some b)->Yhm w ι.G own F u c->Yhm w' ι.G own F u c:=by
   intro F u c hF hN
   refine hN.mono (fun b hb=>⟨hb,hkeep b (h.glt b hb) fun e => ?_⟩) fun b hb=>hkeep b (hF b hb).1 (hF b hb).2
   obtain ⟨j,_,hjb⟩:=t3 b e
   exact h.gfp j b hjb hb
  have hFs:∀ k b,Fs k b->b<w.heap.size/\v.ownBlock≠some b:=fun k b hb=>by
   obtain ⟨j,_,hjb⟩:=t4 k b hb
   exact ⟨h.lt j b hjb,fun e=>t5 k b e hb⟩
  have hFs2:∀ k b,Fs2 k b->b<w.heap.size/\v.ownBlock≠some b:=fun k b hb=>by
   obtain ⟨j,hj,hjb⟩:=s5 k b hb
   refine ⟨h.lt j b hjb,fun e => ?_⟩
   obtain ⟨j2,hj2,hjb2⟩:=t3 b e
   exact h.disj j j2 b (fun e=>hdis j hj (e ▸ hj2)) hjb hjb2
  have hcross:∀ k k' b,Fs k b->¬ Fs2 k' b:=fun k k' b hb hb2=>by
   obtain ⟨j,hj,hjb⟩:=t4 k b hb
   obtain ⟨j2,hj2,hjb2⟩:=s5 k' b hb2
   exact h.disj j2 j b (fun e=>hdis j2 hj2 (e ▸ hj)) hjb2 hjb
  refine ⟨e',xs++news,fun k b=>if k<xs.length then Fs k b else Fs2 (k - xs.length) b,by rw [List.length_append]; exact r2,?_,fun b hb=>.inl hb,?_,?_,?_,?_,fun he=>r5 (by have:=congrArg List.length he; simpa using this)⟩
  ·intro y hy
   rcases List.mem_append.1 hy with hy | hy
   ·exact t1 y hy
   ·exact s4 y hy
  ·intro k b hb
   split at hb
   ·obtain ⟨j,hj,hjb⟩:=t4 k b hb; exact .inr ⟨j,List.mem_append_left _ hj,hjb⟩
   ·obtain ⟨j,hj,hjb⟩:=s5 _ b hb; exact .inr ⟨j,List.mem_append_right _ hj,hjb⟩
  ·intro k b hb hk
   have hlt:b<w.heap.size/\v.ownBlock≠some b:=by
    split at hk
    ·exact hFs k b hk
    ·exact hFs2 _ b hk
   rcases r4 b hb with h2 | h2
   ·exact hlt.2 h2
   ·have:=hlt.1; omega
  ·intro k k' b hne hb hb'
   split at hb <;> split at hb'
   ·exact t6 k k' b hne hb hb'
   ·exact hcross k _ b hb hb'
   ·exact hcross k' _ b hb' hb
   ·exact s6 _ _ b (by omega) hb hb'
  ·intro k u c hu hc
   rw [List.flatten_append] at hc
   by_cases hk:k<xs.length
   ·rw [List.getElem?_append_left hk] at hu
    rw [List.getElem?_append_left (by omega)] at hc
    simp only [hk,if_true]
    exact hnest (hFs k) (t7 k u c hu hc)
   ·rw [List.getElem?_append_right (by omega)] at hu
    rw [List.getElem?_append_right (by omega),<- hlx] at hc
    simp only [hk,if_false]
    exact hnest (hFs2 _) (s7 _ u c hu hc)
def eAppend (P:Program) (s:St) (args:Array Operand) (tys:Array TypeId) (n:Nat) (q:List Orc):Option (Res × List Item × List Orc):=
 match args.toList,tys.toList with
 | [x,y],[t,u]=>match Ypk P t,s.ac x,s.ac y with
  | some e,some c,some c2=>match Yix P e,Yrp P e with
   | some sz,some by_=>if Ypp P e sz=true/\Yvf P u=true then
     (match target s sz q c with
     | some (own,es,ids,q')=>match srcElems s own sz c2 with
      | some (es2,ids2,it)=>if ids2.all (fun j => !ids.elem j) then
        some ({ val:=.sv (.one (.ref n)),new:=[.arr own sz (es++es2)],upd:=Yhs (ids++ids2) },it++[.obl ((es.length+es2.length) * by_<=140737488355328)],q') else none
      | none=>none
     | none=>none) else none
   | _,_=>none
  | _,_,_=>none
 | _,_=>none
theorem Y12o (h:Rel E s ι a w) {o:Oper} {args:Array Operand} {tys:Array TypeId} (ho:o.op=.call { callee:=.builtin .append,args:=args,argTypes:=tys }) {n:Nat} {r:Res} {q q':List Orc}
  {it:List Item} {K:Prop} (e:eAppend P s args tys n q=some (r,it,q')) (vc:VC it K) (hroom:Ykh s n r.new.length):EOK P E s a w o n r/\K:=by
 unfold eAppend at e
 split at e
 ·rename_i x y t u hargs htys
  obtain rfl:args=#[x,y]:=by apply Array.ext'; simpa using hargs
  obtain rfl:tys=#[t,u]:=by apply Array.ext'; simpa using htys
  split at e
  ·rename_i el c c2 hel hc hc2
   split at e
   ·rename_i sz by_ hsz hby
    split at e
    ·rename_i hfit
     split at e
     ·rename_i own es ids q1 htg
      split at e
      ·rename_i es2 ids2 it1 hsrc
       split at e
       ·rename_i hdis
        simp only [Option.some.injEq,Prod.mk.injEq] at e
        obtain ⟨rfl,rfl,rfl⟩:=e
        obtain ⟨hT,hi1⟩:=Yuw h (Yhe h hc) htg
        obtain ⟨hS,hi2,hbnd,hK⟩:=Yrx (P:=P) h (Yhe h hc2) hsrc (VC.append vc)
        obtain ⟨i,z,f1,f2,f3,f4,f5,f6⟩:=Ypg hfit.1
        obtain ⟨d,d1,d2⟩:=Yyz hfit.2
        have hby':i.bytes=by_:=by simpa [Yrp,f1] using hby
        have hd':∀ j∈ids2,j ∉ ids:=fun j hj=>by simpa using (List.all_eq_true.1 hdis) j hj
        obtain ⟨v',w',r1,r2,r3,r4,r5,r6,F',r7,r8⟩:=Yyo (ty:=o.type) h hT hS hd' (Ymv hel) d1 d2 f1 f2 f3 hby' f4 f5 (by omega) hbnd
        obtain ⟨hf,hn⟩:=hroom n (Nat.le_refl _) (by simp)
        obtain ⟨ι',k1,k2⟩:=h.makeArr hf hn (fun j hj=>(List.mem_append.1 hj).elim (hi1 j) (hi2 j)) r2 r3 r4 r5 r7 r8 r6
        refine ⟨EOK.value ?_ k1 k2,hK⟩
        simp only [execOp,ho,resolve,Sem.run_bind,Sem.run_pure,Result.andThen_ok,invoke,builtin]
        simp [r1]
       ·cases e
      ·cases e
     ·cases e
    ·cases e
   ·cases e
  ·cases e
 ·cases e
end
end Go.Proofs.YtclpofblehlojaaGreat.Ab
end
section
namespace Go.Proofs.YtclpofblehlojaaGreat.Ab
open Go
def Yoo {α:Type} (sz:Nat):Nat->List α->List (List α)
 | 0,_=>[]
 | n+1,l=>l.take sz :: Yoo sz n (l.drop sz)
theorem Yqd {α:Type} {sz:Nat}:∀ (n:Nat) (l:List α),(Yoo sz n l).length=n
 | 0,_=>rfl
 | n+1,l=>by simp [Yoo,Yqd n]
theorem Ytj {α:Type} {sz:Nat}:∀ (n:Nat) (l:List α),l.length=n * sz->(Yoo sz n l).flatten=l
 | 0,l,h=>by simp at h; subst h; rfl
 | n+1,l,h=>by
  rw [Nat.add_mul,Nat.one_mul] at h
  have ih:=Ytj (sz:=sz) n (l.drop sz) (by rw [List.length_drop,h]; omega)
  simp only [Yoo,List.flatten_cons,ih,List.take_append_drop]
theorem Y14o {α:Type} {sz:Nat}:∀ (n:Nat) (l:List α),l.length=n * sz->∀ e∈Yoo sz n l,e.length=sz
 | 0,l,h,e,he=>by simp [Yoo] at he
 | n+1,l,h,e,he=>by
  rw [Nat.add_mul,Nat.one_mul] at h
  rcases List.mem_cons.1 he with rfl | he
  ·rw [List.length_take]; omega
  ·exact Y14o n (l.drop sz) (by rw [List.length_drop]; omega) e he
section
variable {P:Program} {E:Ent P} {s:St} {ι:Interp} {a:Act} {w:World}
def absorb (s:St) (acs:List AC) (sh:Bool):Option (Bool × List Cell × List Nat):=
 match (if sh then none else absorbOwn s acs) with
 | some (cs,ids)=>some (true,cs,ids)
 | none=>match Ykl acs with
  | some cs=>some (false,cs,[])
  | none=>none
theorem Y1em (h:Rel E s ι a w) {acs:List AC} {vs:List Value} {own:Bool} {cs:List Cell} {ids:List Nat} {sh:Bool} (e:absorb s acs sh=some (own,cs,ids)) (hh:Yg8 (Yi9 w ι s.obj) acs vs) :
  (∀ j∈ids,Ymo (s.obj j))/\cs.length=acs.length/\∃ Fs:Nat->Nat->Prop,(∀ k b,Fs k b->∃ j∈ids,ι.fp j b)/\(∀ k k' b,k≠k'->Fs k b->¬ Fs k' b) /\
   ∀ (k:Nat) (v:Value) (c:Cell),vs[k]? = some v->cs[k]? = some c->Yhm w ι.G own (Fs k) v c:=by
 unfold absorb at e
 split at e
 ·rename_i cs' ids' hcs
  simp only [Option.some.injEq,Prod.mk.injEq] at e
  obtain ⟨rfl,rfl,rfl⟩:=e
  cases sh with
  | true=>simp at hcs
  | false=>exact Yng h (by simpa using hcs) hh
 ·split at e
  ·rename_i cs' hcs
   simp only [Option.some.injEq,Prod.mk.injEq] at e
   obtain ⟨rfl,rfl,rfl⟩:=e
   have h2:=Yq6 hcs hh
   refine ⟨by simp,?_,fun _ _=>False,by simp,by simp,fun k v c hv hc=>h2.get hv hc⟩
   rw [<- h2.length,<- hh.length]
  ·cases e
def eBuildSlice (P:Program) (s:St) (T:TypeId) (len:Nat) (ps:Array (Nat × Operand)) (n:Nat) (sh:Bool):Option Res:=
 match Ypk P T,partCells s ps.toList with
 | some e,some l=>match Yix P e with
  | some sz=>if Ypp P e sz=true/\len * sz<=16777216/\l.map (·.1)=List.range len/\l.all (fun p=>p.2.length == sz)=true then
    (match absorb s (l.flatMap (·.2)) sh with
    | some (own,cs,ids)=>some { val:=.sv (.one (.ref n)),new:=[.arr own sz (Yoo sz len cs)],upd:=Yhs ids }
    | none=>none) else none
  | none=>none
 | _,_=>none
theorem Y120 {α:Type}:∀ (l:List (Nat × α)) (n:Nat),l.map (·.1)=List.range' n l.length->l=((l.map (·.2)).zipIdx n).map fun x=>(x.2,x.1)
 | [],n,_=>rfl
 | (i,v) :: l,n,h=>by
  simp only [List.map_cons,List.length_cons,List.range'_succ,List.cons.injEq] at h
  obtain ⟨rfl,h⟩:=h
  simp only [List.map_cons,List.zipIdx_cons]
  rw [<- Y120 l (i+1) h]
theorem Y11w {α β:Type} {R:α->β->Prop}:∀ {ps:List (Nat × List α)} {qs:List (Nat × Value)} (f:Value->List β),Yg8 (fun p q=>p.1=q.1/\Yg8 R p.2 (f q.2)) ps qs ->
  Yg8 R (ps.flatMap (·.2)) (qs.flatMap fun q=>f q.2)
 | [],[],f,_=>trivial
 | p :: ps,q :: qs,f,h=>by
  simp only [List.flatMap_cons]
  exact h.1.2.append (Y11w f h.2)
 | [],_ :: _,_,h=>h.elim
 | _ :: _,[],_,h=>h.elim
theorem Y106 {T el : TypeId} {len sz : Nat} {parts : Array (Nat × Value)} {i : TypeInfo} {z : Value} {cells : Array Value} {idx : List Nat} (hel : Ypk P T = some el) (f1 : P.info? el = some i) (f2 : i.zero = some z)
    (f3 : i.size = sz) (f4 : z.cells.size = sz) (f5 : 0 < sz) (h24 : len * sz <= 16777216)
    (hfill : Instr.fill (fun i => some (i * sz, sz)) ((Array.range (len * sz)).map (z.cells[· % z.cells.size]!)) parts.toList = some cells) (hl : cells.size = len * sz)
    (hp : idx.length = parts.size) (hidx : idx = List.range len) :
    (Instr.buildSlice T len parts).run P w = .ok (.slice (some ⟨w.heap.size, 0, none⟩) len len) (w.alloc (.cells cells el)) := by
  have hpow : (2 : Nat) ^ 24 = 16777216 := by decide
  by_cases h0 : len * i.size = 0
  · have hl0 : len = 0 := by
      rcases Nat.mul_eq_zero.1 h0 with h1 | h1
      · exact h1
      · omega
    subst hl0
    have hp0 : parts = #[] := by
      apply Array.ext'
      have : parts.size = 0 := by rw [<- hp, hidx]; rfl
      simpa using this
    have hc0 : cells = #[] := by
      apply Array.ext'
      simpa using hl
    subst hp0; subst hc0
    simp [Instr.buildSlice, run_underlying (Ymv hel), Go.sizeOf, typeInfo, f1, newRow, Instr.fill]
    congr 2
    apply Array.eq_empty_of_size_eq_zero
    simp
  · exact run_buildSlice w T el len parts cells i z (Ymv hel) f1 f2 (by rw [f3, hpow]; omega) h0 (by rw [f3]; exact hfill)
theorem Yw0 (h : Rel E s ι a w) {o : Oper} {T : TypeId} {len : Nat} {ps : Array (Nat × Operand)} (ho : o.op = .buildSlice T len ps) {n : Nat} {r : Res} {sh : Bool} (e : eBuildSlice P s T len ps n sh = some r)
    (hroom : Ykh s n r.new.length) : EOK P E s a w o n r := by
  unfold eBuildSlice at e
  split at e
  · rename_i el l hel hl
    split at e
    · rename_i sz hsz
      split at e
      · rename_i hc
        obtain ⟨hfit, h24, hidx, hlen⟩ := hc
        split at e
        · rename_i own cs ids habs
          simp only [Option.some.injEq] at e; subst e
          have hparts := Yl9 h hl
          obtain ⟨i, z, f1, f2, f3, f4, f5, f6⟩ := Ypg hfit
          let vs : List Value := ps.toList.map fun x => a.eval x.2
          let flat : List Value := vs.flatMap fun v => v.cells.toList
          have hqs : (ps.toList.map fun x => (x.1, a.eval x.2)).flatMap (fun q => q.2.cells.toList) = flat := by
            simp [flat, vs, List.flatMap_map]
          have hflat : Yg8 (Yi9 w ι s.obj) (l.flatMap (·.2)) flat := by rw [<- hqs]; exact Y11w (fun v => v.cells.toList) hparts
          obtain ⟨a1, a2, Fs, a3, a4, a5⟩ := Y1em h habs hflat
          have hvsl : vs.length = len := by
            have h1 := congrArg List.length hidx
            rw [List.length_map, List.length_range, hparts.length] at h1
            simpa [vs] using h1
          have hvsz : ∀ v ∈ vs, v.cells.size = sz := by
            intro v hv
            obtain ⟨k, hk⟩ := List.getElem?_of_mem hv
            have hq : (ps.toList.map fun x => (x.1, a.eval x.2))[k]?.map (·.2) = some v := by
              rw [<- List.getElem?_map]; simpa [vs, List.map_map] using hk
            cases hq2 : (ps.toList.map fun x => (x.1, a.eval x.2))[k]? with
            | none => simp [hq2] at hq
            | some q =>
              simp [hq2] at hq
              obtain ⟨p, hp, hpr⟩ := hparts.flip.get_left hq2
              have h2 := (List.all_eq_true.1 hlen) p (List.mem_of_getElem? hp)
              simp at h2
              rw [<- h2, hpr.2.length, hq]; simp
          have hflatl : flat.length = len * sz := by
            have : ∀ (vs : List Value), (∀ v ∈ vs, v.cells.size = sz) -> (vs.flatMap fun v => v.cells.toList).length = vs.length * sz := by
              intro vs
              induction vs with
              | nil => intro _; simp
              | cons v vs ih =>
                intro hv
                rw [List.flatMap_cons, List.length_append, ih fun u hu => hv u (List.mem_cons_of_mem _ hu)]
                have := hv v List.mem_cons_self
                simp only [Array.length_toList, this, List.length_cons, Nat.add_mul]; omega
            rw [<- hvsl]; exact this vs hvsz
          have hcs : cs.length = len * sz := by rw [a2, hflat.length, hflatl]
          have hzip : (ps.map fun x => (x.1, a.eval x.2)).toList = (vs.zipIdx 0).map fun x => (x.2, x.1) := by
            rw [Array.toList_map]
            have hm : (ps.toList.map fun x => (x.1, a.eval x.2)).map (·.1) = List.range' 0 (ps.toList.map fun x => (x.1, a.eval x.2)).length := by
              have h1 : (ps.toList.map fun x => (x.1, a.eval x.2)).map (·.1) = l.map (·.1) := by
                have : ∀ {ps : List (Nat × List AC)} {qs : List (Nat × Value)}, Yg8 (fun p q => p.1 = q.1 /\ Yg8 (Yi9 w ι s.obj) p.2 q.2.cells.toList) ps qs -> qs.map (·.1) = ps.map (·.1) := by
                  intro ps
                  induction ps with
                  | nil => intro qs hq; cases qs with | nil => rfl | cons => exact hq.elim
                  | cons p ps ih => intro qs hq; cases qs with
                    | nil => exact hq.elim
                    | cons q qs => simp only [List.map_cons, ih hq.2, hq.1.1]
                exact this hparts
              rw [h1, hidx, List.range_eq_range']
              congr 1
              rw [<- hvsl]; simp [vs]
            have := Y120 _ 0 hm
            rw [this, List.map_map]
            simp [vs, Function.comp_def]
          have hfill : Instr.fill (fun i => some (i * sz, sz)) ((Array.range (len * sz)).map (z.cells[· % z.cells.size]!)) ((vs.zipIdx 0).map fun x => (x.2, x.1)) = some flat.toArray :=
            Great.fill_whole f5 vs _ hvsz (by simp [hvsl])
          have hnest : ∀ (k : Nat) (u : Value) (c : Cell), flat[k]? = some u -> (Yoo sz len cs).flatten[k]? = some c -> Yhm (w.alloc (.cells flat.toArray el)) ι.G own (Fs k) u c := by
            intro k u c hu hc
            rw [Ytj len cs hcs] at hc
            refine (a5 k u c hu hc).mono (fun b hb => ⟨hb, Yjy w _ b (h.glt b hb)⟩) fun b hb => ?_
            obtain ⟨j, _, hj⟩ := a3 k b hb
            exact Yjy w _ b (h.lt j b hj)
          have hmax : len <= maxLen := by
            have : len <= len * sz := Nat.le_mul_of_pos_right len f5
            simp only [maxLen]; omega
          have hrow := Y1hd (e := el) (size := sz) w flat.toArray len hmax (by simpa using hflatl)
          have harr : Ygs (w.alloc (.cells flat.toArray el)) (Yhm (w.alloc (.cells flat.toArray el)) ι.G own) sz (fun b => b = w.heap.size ∨ ∃ j ∈ ids, ι.fp j b) (.slice (some ⟨w.heap.size, 0, none⟩) len len) (Yoo sz len cs) := by
            refine ⟨el, flat, Fs, by rw [Yqd]; simpa using hrow, Y14o len cs hcs, ?_, fun k b hb => .inr (a3 k b hb), ?_, a4, hnest, fun hn => ?_⟩
            · intro b hb; simp only [Value.ownBlock, Option.some.injEq] at hb; exact .inl hb.symm
            · intro k b hb hk
              simp only [Value.ownBlock, Option.some.injEq] at hb
              obtain ⟨j, _, hj⟩ := a3 k b hk
              have := h.lt j b hj
              omega
            · have := congrArg List.length hn
              rw [Yqd] at this
              have : len = 0 := this
              subst this
              exact ⟨_, rfl⟩
          obtain ⟨hf, hn⟩ := hroom n (Nat.le_refl _) (by simp)
          obtain ⟨ι', k1, k2⟩ := h.makeArr (w' := w.alloc (.cells flat.toArray el)) hf hn a1 (fun b hb _ => Yjy w _ b hb) (by simp) rfl rfl
            (fun b hb => hb.elim (fun e => .inr ⟨by omega, by simp; omega⟩) .inl) harr rfl
          refine EOK.value ?_ k1 k2
          simp only [execOp, ho]
          exact Yij _ (Y106 hel f1 f2 f3 f4 f5 h24 (by rw [hzip]; exact hfill) (by simpa using hflatl) (by have := hparts.length; simpa using this) hidx)
        · cases e
      · cases e
    · cases e
  · cases e
def Y1cg:Operand->Operand->Bool
 | .tmp x,.tmp y=>x == y
 | _,_=>false
theorem Y1il {x y:Operand} (h:Y1cg x y=true):x=y:=by
 unfold Y1cg at h
 split at h
 ·simp at h; rw [h]
 ·cases h
def Yzc (P:Program) (e:TypeId):Option (List Cell):=
 match P.info? e with
 | some i=>match i.zero with
  | some z=>if z.cells.toList.all Yqo then some (z.cells.toList.map normLit) else none
  | none=>none
 | none=>none
def eMake (P:Program) (s:St) (T:TypeId) (lo co:Operand) (n:Nat):Option (Res × List Item):=
 match Ypk P T,s.int lo with
 | some e,some (_,k)=>match Yix P e,Yrp P e,Yzc P e with
  | some sz,some by_,some zc=>if Ypp P e sz=true/\Y1cg lo co=true then
    some ({ val:=.sv (.one (.ref n)),new:=[.arr true sz (List.replicate k.toNat zc)] },[.obl (0<=k/\by_ * k.toNat<=281474976710656)]) else none
  | _,_,_=>none
 | _,_=>none
theorem Y17v (h:Rel E s ι a w) {o:Oper} {T:TypeId} {lo co:Operand} (ho:o.op=.makeSlice T lo co) {n:Nat} {r:Res} {it:List Item} {K:Prop} (e:eMake P s T lo co n=some (r,it)) (vc:VC it K)
  (hroom:Ykh s n r.new.length):EOK P E s a w o n r/\K:=by
 unfold eMake at e
 split at e
 ·rename_i el kd k hel hk
  split at e
  ·rename_i sz by_ zc hsz hby hzc
   split at e
   ·rename_i hc
    simp only [Option.some.injEq,Prod.mk.injEq] at e
    obtain ⟨rfl,rfl⟩:=e
    obtain ⟨⟨h0,hb⟩,hK⟩:=vc
    refine ⟨?_,hK⟩
    obtain ⟨i,z,f1,f2,f3,f4,f5,f6⟩:=Ypg hc.1
    have hby':i.bytes=by_:=by simpa [Yrp,f1] using hby
    have hlit:z.cells.toList.all Yqo=true/\zc=z.cells.toList.map normLit:=by
     unfold Yzc at hzc
     simp only [f1,f2] at hzc
     split at hzc
     ·rename_i hl; simp only [Option.some.injEq] at hzc; exact ⟨hl,hzc.symm⟩
     ·cases hzc
    have hzl:zc.length=sz:=by rw [hlit.2]; simpa using f4
    have h63:k.toNat<=maxLen:=by
     have:k.toNat<=i.bytes * k.toNat:=Nat.le_mul_of_pos_left _ f6
     rw [hby'] at this
     simp only [maxLen]; omega
    obtain ⟨w',r1,r2,r3⟩:=run_make_full (P:=P) w 0 T el i z sz (Ymv hel) f1 f2 f3 kd kd k.toNat (by rw [hby']; exact hb) h63 (Nat.zero_le _)
    have hnl:(List.replicate k.toNat zc).length=k.toNat:=by simp
    have hes:∀ e∈List.replicate k.toNat zc,e.length=sz:=fun e he=>by rw [(List.mem_replicate.1 he).2]; exact hzl
    have harr:Ygs w' (Yhm w' ι.G true) sz (fun b=>b=w.heap.size) (.slice (some ⟨w.heap.size,0,none⟩) k.toNat k.toNat) (List.replicate k.toNat zc):=by
     refine ⟨el,_,fun _ _=>False,by rw [hnl]; exact Y1l7 r2,hes,?_,by simp,by simp,by simp,?_,fun hn=>⟨some ⟨w.heap.size,0,none⟩,by have h0:=congrArg List.length hn; rw [hnl] at h0; rw [show k.toNat=0 from h0]⟩⟩
     ·intro b hb; simp only [Value.ownBlock,Option.some.injEq] at hb; exact hb.symm
     ·intro j u c hu hc
      have hj:j<k.toNat * sz:=by
       have:=(List.getElem?_eq_some_iff.1 hc).1
       rwa [Yh6 hes,hnl] at this
      have hu':u=z.cells[j % z.cells.size]! := by
       have h1:(madeCells z.cells (k.toNat * sz))[j]? = some u:=by simpa using hu
       simp [madeCells,hj] at h1
       rw [<- h1]
      have hm:j % sz<sz:=Nat.mod_lt _ f5
      have hd:j / sz<k.toNat:=Nat.div_lt_of_lt_mul (by rw [Nat.mul_comm]; exact hj)
      have hzj:z.cells.toList[j % sz]? = some u:=by
       have h4:j % z.cells.size<z.cells.size:=by rw [f4]; exact hm
       rw [hu',<- f4,Array.getElem?_toList,Array.getElem?_eq_getElem h4]
       congr 1
       simp [h4]
      have hcc:zc[j % sz]? = some (normLit u):=by rw [hlit.2,List.getElem?_map,hzj]; rfl
      have h2:=Yiq hes (i:=j / sz) (k:=j % sz) (e:=zc) (by simp [hd]) hcc
      have h3:j / sz * sz+j % sz=j:=by rw [Nat.mul_comm]; exact Nat.div_add_mod j sz
      rw [h3,hc] at h2
      simp only [Option.some.injEq] at h2
      subst h2
      exact Yml (Yn7 ((List.all_eq_true.1 hlit.1) u (List.mem_of_getElem? hzj)))
    obtain ⟨hf,hn⟩:=hroom n (Nat.le_refl _) (by simp)
    have hsz':w.heap.size<w'.heap.size:=by
     have:=r2.lt w.heap.size rfl
     exact this.2
    obtain ⟨ι',k1,k2⟩:=h.makeArr (ids:=[]) hf hn (by simp) (fun b hb _=>r3.block b hb (by simp)) r3.size r3.os r3.output (fun b hb=>.inr ⟨by omega,by omega⟩) harr rfl
    refine EOK.value ?_ k1 k2
    have hk':((k.toNat:Nat):Int)=k:=Int.toNat_of_nonneg h0
    rw [hk'] at r1
    simp only [execOp,ho,<- Y1il hc.2,Yle h hk]
    exact Yij _ r1
   ·cases e
  ·cases e
 ·cases e
end
end Go.Proofs.YtclpofblehlojaaGreat.Ab
end
section
namespace Go.Proofs.YtclpofblehlojaaGreat.Ab
open Go
section
variable {P:Program} {E:Ent P} {s:St} {ι:Interp} {a:Act} {w:World}
theorem Yv7 {ob:Nat->Ob} (ids:List Nat) {c:AC} {v:Value} (h:Ygx w ι ob c v):Ygx w ι ob (Yhw ids c) v:=by
 unfold Yhw
 split
 ·split
  ·trivial
  ·exact h
 ·exact h
theorem Yk3 (ids:List Nat) {c:AC} {id:Nat} (h:(Yhw ids c).src=some id):id ∉ ids:=by
 unfold Yhw at h
 split at h
 ·rename_i i hi
  split at h
  ·simp [AC.src] at h
  ·rename_i hn
   rw [hi] at h
   simp only [Option.some.injEq] at h; subst h
   simpa using hn
 ·rename_i hn; rw [hn] at h; cases h
theorem Y11a {ob:Nat->Ob} (ids:List Nat) {x:SV} {v:Value} (h:Yh5 w ι ob x v):Yh5 w ι ob (Yi4 ids x) v:=by
 cases x with
 | one c=>
  refine ⟨Yv7 ids h.1,fun hn=>h.2 fun e=>hn ?_⟩
  subst e; rfl
 | agg cs=>
  obtain ⟨arr,e,ha⟩:=h
  exact ⟨arr,e,Yg8.map_left _ (ha.imp fun c u hc=>⟨Yv7 ids hc.1,hc.2⟩)⟩
theorem Y1cw {ob:Nat->Ob} (ids:List Nat) {x:AV} {v:Value} (h:Ygz w ι ob x v):Ygz w ι ob (Yhc ids x) v:=by
 cases x with
 | sv x=>exact Y11a ids h
 | tup l=>
  obtain ⟨arr,e,ha⟩:=h
  exact ⟨arr,e,Yg8.map_left _ (ha.imp fun c u hc=>Y11a ids hc)⟩
theorem Y12h (ids:List Nat) {x:SV} {c:AC} (hc:c∈(Yi4 ids x).acs) {id:Nat} (h:c.src=some id):id ∉ ids:=by
 cases x with
 | one y=>simp [Yi4,SV.acs] at hc; subst hc; exact Yk3 ids h
 | agg cs=>simp [Yi4,SV.acs] at hc; obtain ⟨y,_,rfl⟩:=hc; exact Yk3 ids h
theorem Ym2 (ids:List Nat) {x:AV} {c:AC} (hc:c∈(Yhc ids x).acs) {id:Nat} (h:c.src=some id):id ∉ ids:=by
 cases x with
 | sv x=>exact Y12h ids hc h
 | tup l=>
  simp only [Yhc,AV.acs,List.mem_flatMap,List.mem_map] at hc
  obtain ⟨y,⟨z,_,rfl⟩,hc⟩:=hc
  exact Y12h ids hc h
theorem Yko (i:Nat) (ids:List Nat) (s:St) (t:Nat):(s.inval (i :: ids)).reg t=Yhc (i :: ids) (s.reg t):=by
 simp only [St.inval,St.reg,List.getD_eq_getElem?_getD,List.getElem?_map]
 cases s.regs[t]? with
 | none=>rfl
 | some x=>rfl
theorem Ygl (i:Nat) (ids:List Nat) (s:St) (t:Nat):(s.inval (i :: ids)).obj t=Ygk (i :: ids) (s.obj t):=by
 simp only [St.inval,St.obj,List.getD_eq_getElem?_getD,List.getElem?_map]
 cases s.objs[t]? with
 | none=>rfl
 | some x=>rfl
theorem Ysd {ob ob':Nat->Ob} (h:∀ i,Yho w w ι ι True i (ob i) (ob' i)):Ext (fun _=>True) w ι ob w ι ob':=⟨fun b hb=>⟨hb,rfl⟩,h⟩
theorem Rel.inval (h:Rel E s ι a w) (ids:List Nat):Rel E (s.inval ids) ι a w:=by
 cases ids with
 | nil=>exact h
 | cons i ids=>
  have hx:Ext (fun _=>True) w ι s.obj w ι (s.inval (i :: ids)).obj:=Ysd fun k=>by
   rw [Ygl]
   cases s.obj k <;> simp [Ygk,Yho] <;> exact fun b hb=>.inl hb
  refine Rel.step h hx (fun t=>.inr ?_) (by simp [St.inval]) rfl (fun k=>.inr ?_) h.disj h.gfp h.own h.lt h.glt (fun _ _ _=>rfl) (Nat.le_refl _) rfl rfl
  ·rw [Yko]
   exact Y1cw _ (Ygz.ext hx (fun _ _ _ _=>trivial) (h.regs t))
  ·rw [Ygl]
   have:=h.objs k
   cases hk:s.obj k with
   | free=>rw [hk] at this; exact this
   | dead=>rw [hk] at this; exact this
   | box cs=>
    rw [hk] at this
    obtain ⟨h1,arr,ty,h2,h3⟩:=this
    exact ⟨h1,arr,ty,h2,Yg8.map_left _ (h3.imp fun c v hc=>⟨Yv7 _ (Ygx.ext hx (fun _ _=>trivial) hc.1),hc.2⟩)⟩
   | arr own sz es=>rw [hk] at this; exact this
   | map nn k f=>rw [hk] at this; exact this
theorem Y12m {α:Type} {off:Nat} {l cs:List α} (h:off+l.length<=cs.length):(splice off l cs).length=cs.length:=by
 simp only [splice,List.length_append,List.length_take,List.length_drop]; omega
theorem Ypm {α:Type} {off:Nat} {l cs:List α} (h:off+l.length<=cs.length) (k:Nat) :
  (splice off l cs)[k]? = if off<=k/\k<off+l.length then l[k - off]? else cs[k]? := by
 simp only [splice]
 by_cases h1:k<off
 ·rw [if_neg (by omega),List.append_assoc,List.getElem?_append_left (by rw [List.length_take]; omega),List.getElem?_take,if_pos h1]
 ·by_cases h2:k<off+l.length
  ·rw [if_pos (by omega),List.append_assoc,List.getElem?_append_right (by rw [List.length_take]; omega),List.getElem?_append_left (by rw [List.length_take]; omega)]
   congr 1; rw [List.length_take]; omega
  ·rw [if_neg (by omega),List.getElem?_append_right (by rw [List.length_append,List.length_take]; omega)]
   rw [List.getElem?_drop]
   congr 1; rw [List.length_append,List.length_take]; omega
theorem Y17q {e:TypeId} {sz n g o:Nat} {v:Value} {xs vs:List Value} (h:Yiw w e sz v n xs) (hg:v.ownBlock=some g) (hfit:o+vs.length<=xs.length) :
  ∃ cur ty fz,w.heap[g]? = some (.cells cur ty fz)/\Yrg cur.size fz/\xs.length<=cur.size/\Yiw (w.setRow g (splice o vs cur.toList).toArray) e sz v n (splice o vs xs):=by
 rcases h.2 with ⟨rfl,_⟩ | ⟨g',cap,cur,fz,rfl,hb,hgg,hnc,hcm,hcs,htake⟩
 ·simp [Value.ownBlock] at hg
 ·simp only [Value.ownBlock,Option.some.injEq] at hg
  subst hg
  have hxl:=h.1
  have hle:n * sz<=cur.size:=by rw [hcs]; exact Nat.mul_le_mul_right _ hnc
  refine ⟨cur,e,fz,hgg,hb,by rw [hxl]; exact hle,?_,.inr ⟨g',cap,_,fz,rfl,?_,setRow_heap w g' cur _ e _ hgg,hnc,hcm,?_,?_⟩⟩
  ·simp only [splice,List.length_append,List.length_take,List.length_drop]; omega
  ·have:(splice o vs cur.toList).toArray.size=cur.size:=by
    simp only [splice,List.size_toArray,List.length_append,List.length_take,List.length_drop,Array.length_toList]; omega
   rw [this]; exact hb
  ·simp only [splice,List.size_toArray,List.length_append,List.length_take,List.length_drop,Array.length_toList]; omega
  ·rw [<- htake] at hfit ⊢
   apply List.ext_getElem?
   intro k
   have h1:o+vs.length<=cur.toList.length:=Nat.le_trans hfit (List.length_take_le' _ _)
   rw [Ypm hfit,List.getElem?_take,Ypm h1,List.getElem?_take]
   rw [List.length_take] at hfit
   by_cases hk:k<n * sz
   ·simp [hk]
   ·rw [if_neg hk,if_neg hk,if_neg (by omega)]
theorem Yrh {α:Type} {sz:Nat}:∀ {es:List (List α)} {i:Nat} {e cs:List α} {off:Nat},(∀ x∈es,x.length=sz)->es[i]? = some e->off+cs.length<=e.length ->
  (es.set i (splice off cs e)).flatten=splice (i * sz+off) cs es.flatten
 | [],i,e,cs,off,_,h,_=>by simp at h
 | x :: es,0,e,cs,off,hsz,h,hf=>by
  simp only [List.getElem?_cons_zero,Option.some.injEq] at h
  subst h
  simp only [List.set_cons_zero,List.flatten_cons,Nat.zero_mul,Nat.zero_add,splice]
  rw [List.take_append_of_le_length (by omega),List.drop_append_of_le_length (by omega)]
  simp only [List.append_assoc]
 | x :: es,i+1,e,cs,off,hsz,h,hf=>by
  have ih:=Yrh (es:=es) (fun y hy=>hsz y (List.mem_cons_of_mem _ hy)) (by simpa using h) hf
  have hx:x.length=sz:=hsz x List.mem_cons_self
  have e1:(i+1) * sz+off=x.length+(i * sz+off):=by rw [hx,Nat.add_mul,Nat.one_mul]; omega
  rw [List.set_cons_succ,List.flatten_cons,ih,List.flatten_cons]
  simp only [splice,e1]
  rw [List.take_append,List.drop_append]
  simp only [List.append_assoc,Nat.add_sub_cancel_left,show x.length+(i * sz+off)+cs.length - x.length=i * sz+off+cs.length by omega]
  rw [List.take_of_length_le (l:=x) (by omega),List.drop_of_length_le (l:=x) (by omega),List.nil_append]
theorem Rel.setArr (h:Rel E s ι a w) {id:Nat} {own:Bool} {sz:Nat} {es:List (List Cell)} (hob:s.obj id=.arr own sz es) (hreg:∀ t,∀ c∈(s.reg t).acs,∀ i,c.src=some i->i≠id)
  (hbox:∀ k,∀ c∈(s.obj k).acs,∀ i,c.src=some i->i≠id) {ids:List Nat} (hids:∀ j∈ids,Ymo (s.obj j)) (hnin:id ∉ ids) {i off g:Nat} {e cs:List Cell} {vs:List Value} (he:es[i]? = some e) (hfit:off+cs.length<=e.length)
  (hg:(ι.sl id).ownBlock=some g) (hvl:vs.length=cs.length) {Fs2:Nat->Nat->Prop} (a3:∀ k b,Fs2 k b->∃ j∈ids,ι.fp j b) (a4:∀ k k' b,k≠k'->Fs2 k b->¬ Fs2 k' b)
  (a5:∀ (k:Nat) (v:Value) (c:Cell),vs[k]? = some v->cs[k]? = some c->Yhm w ι.G own (Fs2 k) v c) :
  ∃ cur ty ι' fz,w.heap[g]? = some (.cells cur ty fz)/\Yrg cur.size fz/\i * sz+off+vs.length<=cur.size /\
   Rel E ((s.updObs (Yhs ids)).setOb id (.arr own sz (es.set i (splice off cs e)))) ι' a (w.setRow g (splice (i * sz+off) vs cur.toList).toArray):=by
 have hor:=h.objs id
 rw [hob] at hor
 obtain ⟨e0,xs,Fs,h1,h2,h3,h4,h5,h6,h7,h0⟩:=hor
 have hlx:xs.length=es.flatten.length:=by rw [h1.1,Yh6 h2]
 have hel:e.length=sz:=h2 e (List.mem_of_getElem? he)
 have hil:i<es.length:=(List.getElem?_eq_some_iff.1 he).1
 have hfit2:i * sz+off+vs.length<=xs.length:=by
  rw [h1.1,hvl]
  have:(i+1) * sz<=es.length * sz:=Nat.mul_le_mul_right _ hil
  rw [Nat.add_mul,Nat.one_mul] at this
  omega
 obtain ⟨cur,ty,fz,hcur,hnz,hle,hrow⟩:=Y17q (o:=i * sz+off) (vs:=vs) h1 hg hfit2
 let w':=w.setRow g (splice (i * sz+off) vs cur.toList).toArray
 have hlenid:id<s.objs.length:=Ygp hob (by simp)
 have hlen:∀ j∈ids,j<s.objs.length:=fun j hj=>by
  obtain ⟨o,z,e,hjo⟩:=hids j hj
  exact Ygp hjo (by simp)
 have hobj:∀ k,((s.updObs (Yhs ids)).setOb id (.arr own sz (es.set i (splice off cs e)))).obj k=if k=id then .arr own sz (es.set i (splice off cs e)) else if k∈ids then .dead else s.obj k:=by
  intro k
  rw [Yg5 (by rw [Yii]; exact hlenid),Ym9 ids s hlen]
 have hgfp:ι.fp id g:=h3 g hg
 have hother:∀ b,b≠g->w'.heap[b]? = w.heap[b]? := fun b hb=>setRow_other w g b _ hb
 let ι':Interp:={ ι with fp:=fun k b=>if k=id then ι.fp id b ∨ ∃ j∈ids,ι.fp j b else if k∈ids then False else ι.fp k b }
 have hfpo:∀ k b,k≠id->ι.fp k b->b≠g:=fun k b hk hb e=>h.disj k id b hk hb (by rw [e]; exact hgfp)
 have hx:Ext (fun k=>k≠id) w ι s.obj w' ι' ((s.updObs (Yhs ids)).setOb id (.arr own sz (es.set i (splice off cs e)))).obj:=by
  refine ⟨fun b hb=>⟨hb,hother b fun e=>h.gfp id b (by rw [e]; exact hgfp) hb⟩,fun k => ?_⟩
  rw [hobj k]
  by_cases hk:k=id
  ·subst hk; rw [if_pos rfl,hob]; exact ⟨rfl,rfl,fun hk=>(hk rfl).elim⟩
  ·rw [if_neg hk]
   by_cases hk2:k∈ids
   ·rw [if_pos hk2]
    obtain ⟨o,z,e,hjo⟩:=hids k hk2
    rw [hjo]; trivial
   ·rw [if_neg hk2]
    cases hkk:s.obj k with
    | free=>trivial
    | dead=>trivial
    | box cs=>rfl
    | arr own' sz' es'=>exact ⟨rfl,rfl,fun _ b hb=>⟨.inl (by simp [ι',hk,hk2,hb]),hother b (hfpo k b hk hb)⟩⟩
    | map _ _ _=>exact ⟨rfl,rfl,rfl,fun _ b hb=>⟨.inl (by simp [ι',hk,hk2,hb]),hother b (hfpo k b hk hb)⟩⟩
 have hfp:∀ k b,ι'.fp k b->(k=id/\(ι.fp id b ∨ ∃ j∈ids,ι.fp j b)) ∨ (k≠id/\k ∉ ids/\ι.fp k b):=by
  intro k b hb
  simp only [ι'] at hb
  split at hb
  ·exact .inl ⟨‹_›,hb⟩
  ·split at hb
   ·exact hb.elim
   ·exact .inr ⟨‹_›,‹_›,hb⟩
 have hcross:∀ b,(ι.fp id b ∨ ∃ j∈ids,ι.fp j b)->∀ k,k≠id->k ∉ ids->¬ ι.fp k b:=by
  intro b hb k h8 h9 hk
  rcases hb with hb | ⟨j,hj,hjb⟩
  ·exact h.disj k id b h8 hk hb
  ·exact h.disj k j b (fun e=>h9 (e ▸ hj)) hk hjb
 refine ⟨cur,ty,ι',fz,hcur,hnz,Nat.le_trans hfit2 hle,Rel.step h hx (fun t=>.inl ⟨?_,fun c hc i' hi'=>hreg t c hc i' hi'⟩) ?_ (Yo6 _ _) (fun k => ?_) ?_ ?_ ?_ ?_ ?_ (fun b hb hM=>hother b fun e => ?_) (by simp) rfl rfl⟩
 ·show ((s.updObs (Yhs ids)).setOb id _).regs.getD t _=_
  simp only [St.setOb,Yhx]; rfl
 ·simp only [St.setOb,Yhx]
 ·rw [hobj k]
  by_cases hk:k=id
  ·subst hk; right
   rw [if_pos rfl]
   have hfl:=Yrh h2 he hfit
   have hsl:(splice off cs e).length=e.length:=Y12m hfit
   have hfit3:i * sz+off+cs.length<=es.flatten.length:=by rw [<- hlx,<- hvl]; exact hfit2
   refine ⟨e0,splice (i * sz+off) vs xs,fun k b=>if i * sz+off<=k/\k<i * sz+off+vs.length then Fs2 (k - (i * sz+off)) b else Fs k b,by rw [List.length_set]; exact hrow,?_,?_,?_,?_,?_,?_,fun hn=>h0 (by simpa using hn)⟩
   ·intro x hxm
    rcases List.mem_or_eq_of_mem_set hxm with hm | rfl
    ·exact h2 x hm
    ·rw [hsl,hel]
   ·intro b hb; simp only [ι',if_true]; exact .inl (h3 b hb)
   ·intro k2 b hb
    simp only [ι',if_true]
    split at hb
    ·exact .inr (a3 _ b hb)
    ·exact .inl (h4 _ b hb)
   ·intro k2 b hb hk2
    split at hk2
    ·obtain ⟨j,hj,hjb⟩:=a3 _ b hk2
     exact h.disj j k b (fun e=>hnin (e ▸ hj)) hjb (h3 b hb)
    ·exact h5 _ b hb hk2
   ·intro k2 k3 b hne hb hb'
    split at hb <;> split at hb'
    ·exact a4 _ _ b (by omega) hb hb'
    ·obtain ⟨j,hj,hjb⟩:=a3 _ b hb
     exact h.disj j k b (fun e=>hnin (e ▸ hj)) hjb (h4 _ b hb')
    ·obtain ⟨j,hj,hjb⟩:=a3 _ b hb'
     exact h.disj j k b (fun e=>hnin (e ▸ hj)) hjb (h4 _ b hb)
    ·exact h6 k2 k3 b hne hb hb'
   ·intro k2 u c hu hc
    rw [hfl,Ypm hfit3] at hc
    rw [Ypm hfit2] at hu
    rw [<- hvl] at hc
    by_cases hin:i * sz+off<=k2/\k2<i * sz+off+vs.length
    ·rw [if_pos hin] at hu hc
     simp only [hin,and_self,if_true]
     refine (a5 _ u c hu hc).mono (fun b hb=>⟨hb,hother b fun e=>h.gfp k b (by rw [e]; exact hgfp) hb⟩) fun b hb=>hother b ?_
     obtain ⟨j,hj,hjb⟩:=a3 _ b hb
     exact hfpo j b (fun e=>hnin (e ▸ hj)) hjb
    ·rw [if_neg hin] at hu hc
     simp only [hin,if_false]
     refine (h7 _ u c hu hc).mono (fun b hb=>⟨hb,hother b fun e=>h.gfp k b (by rw [e]; exact hgfp) hb⟩) fun b hb=>hother b fun e => ?_
     subst e
     exact h5 _ b hg hb
  ·rw [if_neg hk]
   by_cases hk2:k∈ids
   ·right
    rw [if_pos hk2]
    intro b hb
    rcases hfp k b hb with ⟨h8,_⟩ | ⟨_,h8,_⟩
    ·exact hk h8
    ·exact h8 hk2
   ·left
    rw [if_neg hk2]
    exact ⟨rfl,⟨rfl,rfl,fun b=>by simp [ι',hk,hk2],fun b hb=>hother b (hfpo k b hk hb)⟩,hbox k⟩
 ·intro k k' b hkk hi hj
  rcases hfp k b hi with ⟨rfl,h8⟩ | ⟨h8,h9,h10⟩ <;> rcases hfp k' b hj with ⟨rfl,k1⟩ | ⟨k1,k2,k3⟩
  ·exact hkk rfl
  ·exact hcross b h8 k' k1 k2 k3
  ·exact hcross b k1 k h8 h9 h10
  ·exact h.disj k k' b hkk h10 k3
 ·intro k b hi hgb
  rcases hfp k b hi with ⟨rfl,h8 | ⟨j,_,hjb⟩⟩ | ⟨h8,h9,h10⟩
  ·exact h.gfp k b h8 hgb
  ·exact h.gfp j b hjb hgb
  ·exact h.gfp k b h10 hgb
 ·intro k b hi
  rcases hfp k b hi with ⟨rfl,h8 | ⟨j,_,hjb⟩⟩ | ⟨h8,h9,h10⟩
  ·exact h.own k b h8
  ·exact h.own j b hjb
  ·exact h.own k b h10
 ·intro k b hi
  simp only [size_setRow]
  rcases hfp k b hi with ⟨rfl,h8 | ⟨j,_,hjb⟩⟩ | ⟨h8,h9,h10⟩
  ·exact h.lt k b h8
  ·exact h.lt j b hjb
  ·exact h.lt k b h10
 ·intro b hb; simp only [size_setRow]; exact h.glt b hb
 ·subst e
  rcases h.own id b hgfp with h8 | h8
  ·exact hM h8
  ·omega
def Ytt:List Orc->Option (List Cell × Option (List (List Cell)) × List Orc)
 | .cells e :: q=>some (e,none,q)
 | .take e es _ :: q=>some (e,some es,q)
 | _=>none
def Y131 (es:List (List Cell)) (es':Option (List (List Cell))):List (List Cell):=match es' with | some es'=>es' | none=>es
def Yrj (es:List (List Cell)) (es':Option (List (List Cell))):List Item:=match es' with | some es'=>[.obl (es=es')] | none=>[]
theorem Y119 {es:List (List Cell)} {es':Option (List (List Cell))} {K:Prop} (vc:VC (Yrj es es') K):Y131 es es'=es/\K:=by
 cases es' with
 | none=>exact ⟨rfl,vc⟩
 | some x=>exact ⟨vc.1.symm,vc.2⟩
def eStoreArr (P:Program) (s:St) (T:TypeId) (ad x:Operand) (q:List Orc):Option (Res × List Item × List Orc):=
 match s.ac ad,s.ev x with
 | some (.eptr id i off),some (.sv v)=>match s.obj id,Ylf v,Yix P T,Ytt q with
  | .arr own sz es,some l,some n,some (e,es',q')=>
   (match (match own with | true=>absorbOwn s l | false=>(Ykl l).map fun cs=>(cs,[])) with
   | some (cs,ids)=>if l.length=n/\off+n<=e.length/\ids.elem id=false then
     some ({ inv:=[id],upd:=Yhs ids++[(id,.arr own sz (Y131 (es.set i (splice off cs e)) es'))] },.obl (es[i]? = some e) :: Yrj (es.set i (splice off cs e)) es',q') else none
   | none=>none)
  | _,_,_,_=>none
 | _,_=>none
theorem Ymp:∀ (l r:List (Nat × Ob)) (s:St),s.updObs (l++r)=(s.updObs l).updObs r
 | [],r,s=>rfl
 | (n,o) :: l,r,s=>by simp only [List.cons_append,St.updObs]; exact Ymp l r _
theorem Ypw (ids:List Nat) (i:Nat) (s:St):∀ j,Ymo (s.obj j)->Ymo ((s.inval [i]).obj j):=by
 intro j ⟨own,sz,es,h⟩
 refine ⟨own,sz,es,?_⟩
 rw [Ygl,h]; rfl
theorem Yzd (h:Rel E s ι a w) {o:Oper} {T:TypeId} {ad x:Operand} (ho:o.op=.store T ad x) {n:Nat} {r:Res} {q q':List Orc} {it:List Item} {K:Prop}
  (e:eStoreArr P s T ad x q=some (r,it,q')) (vc:VC it K):EOK P E s a w o n r/\K:=by
 unfold eStoreArr at e
 split at e
 ·rename_i id i off v had hxv
  split at e
  ·rename_i own sz es l m el es9 q1 hob hl hT hq9
   split at e
   ·rename_i cs ids habs
    split at e
    ·rename_i hc
     simp only [Option.some.injEq,Prod.mk.injEq] at e
     obtain ⟨rfl,rfl,rfl⟩:=e
     obtain ⟨hel,hK⟩:=vc
     obtain ⟨hst,hK⟩:=Y119 hK
     refine ⟨?_,hK⟩
     rw [hst]
     have hv:=Ylc hl (Yjo h hxv)
     obtain ⟨a1,a2,Fs,a3,a4,a5⟩:(∀ j∈ids,Ymo (s.obj j))/\cs.length=l.length/\∃ Fs:Nat->Nat->Prop,(∀ k b,Fs k b->∃ j∈ids,ι.fp j b)/\(∀ k k' b,k≠k'->Fs k b->¬ Fs k' b) /\
       ∀ (k:Nat) (v:Value) (c:Cell),(a.eval x).cells.toList[k]? = some v->cs[k]? = some c->Yhm w ι.G own (Fs k) v c:=by
      cases own with
      | true=>exact Yng h habs hv
      | false=>
       simp only [Option.map_eq_some_iff,Prod.mk.injEq] at habs
       obtain ⟨cs',hcs,rfl,rfl⟩:=habs
       have h2:=Yq6 hcs hv
       exact ⟨by simp,by rw [<- h2.length,<- hv.length],fun _ _=>False,by simp,by simp,fun k v c hv hc=>h2.get hv hc⟩
     obtain ⟨b,hb,hp⟩:=(Yhe h had).2 _ _ _ hob
     have hvl:(a.eval x).cells.toList.length=cs.length:=by rw [<- hv.length,a2]
     have hfit:off+cs.length<=el.length:=by rw [a2,hc.1]; exact hc.2.1
     have h1:=h.inval [id]
     have hob1:(s.inval [id]).obj id=.arr own sz es:=by rw [Ygl,hob]; rfl
     obtain ⟨cur,ty,ι',fz,k1,knz,k2,k3⟩:=Rel.setArr h1 hob1 (fun t c hc i' hi' e=>by
       rw [Yko] at hc
       exact Ym2 _ hc hi' (by simp [e])) (fun k c hc i' hi' e=>by
       rw [Ygl] at hc
       cases hk:s.obj k with
       | box l2=>rw [hk] at hc; simp [Ygk,Ob.acs] at hc; obtain ⟨y,_,rfl⟩:=hc; exact Yk3 _ hi' (by simp [e])
       | free=>rw [hk] at hc; simp [Ygk,Ob.acs] at hc
       | dead=>rw [hk] at hc; simp [Ygk,Ob.acs] at hc
       | map _ _ _=>rw [hk] at hc; simp [Ygk,Ob.acs] at hc
       | arr _ _ _=>rw [hk] at hc; simp [Ygk,Ob.acs] at hc) (fun j hj=>Ypw ids id s j (a1 j hj)) (by simpa using hc.2.2) hel hfit hb hvl a3 a4 a5
     have hlen:(a.eval x).cells.toList.length=m:=by rw [<- hv.length]; exact hc.1
     have hone:∀ u∈(a.eval x).cells.toList,u.oneCell'=true:=by
      intro u hu
      obtain ⟨k,hk⟩:=List.getElem?_of_mem hu
      obtain ⟨c,_,hc⟩:=hv.flip.get_left hk
      exact hc.2
     refine EOK.skip (ι':=ι') (w':=w.setRow b (splice (i * sz+off) (a.eval x).cells.toList cur.toList).toArray) ?_ ?_ Yn0
     ·simp only [execOp,ho,hp]
      rw [Sem.run_bind,Ynq hT k1 knz hlen (by rw [<- hlen]; exact k2) hone]
      rfl
     ·simp only [St.app,St.setObs,Ymp]
      exact k3
    ·cases e
   ·cases e
  ·cases e
 ·cases e
end
end Go.Proofs.YtclpofblehlojaaGreat.Ab
end
section
namespace Go.Proofs.YtclpofblehlojaaGreat.Ab
open Go
def AC.ren (f:Nat->Nat):AC->AC
 | .ref j=>.ref (f j)
 | .bor j c=>.bor (f j) c
 | .ptr j o=>.ptr (f j) o
 | .eptr j i o=>.eptr (f j) i o
 | .iptr src cs=>.iptr (src.map f) cs
 | .sub j i p=>.sub (f j) i p
 | .mref j=>.mref (f j)
 | c=>c
def SV.ren (f:Nat->Nat):SV->SV
 | .one c=>.one (c.ren f)
 | .agg cs=>.agg (cs.map (AC.ren f))
def AV.ren (f:Nat->Nat):AV->AV
 | .sv x=>.sv (x.ren f)
 | .tup l=>.tup (l.map (SV.ren f))
def Ob.ren (f:Nat->Nat):Ob->Ob
 | .box cs=>.box (cs.map (AC.ren f))
 | o=>o
def AC.noG:AC->Bool
 | .val (.lit _) | .ref _ | .ptr .. | .eptr .. | .top | .mref _=>true
 | _=>false
structure Tr (f:Nat->Nat) (ι1:Interp) (ob1:Nat->Ob) (ι2:Interp) (ob2:Nat->Ob):Prop where
 o:∀ j,notFree ob1 j->ob2 (f j)=(ob1 j).ren f/\ι2.blk (f j)=ι1.blk j/\ι2.sl (f j)=ι1.sl j/\∀ b,ι2.fp (f j) b ↔ ι1.fp j b
section
variable {w:World} {f:Nat->Nat} {ι1 ι2:Interp} {ob1 ob2:Nat->Ob}
theorem Tr.notFree (h:Tr f ι1 ob1 ι2 ob2) {j:Nat} (hj:Ab.notFree ob1 j):Ab.notFree ob2 (f j):=by
 unfold Ab.notFree at *
 rw [(h.o j hj).1]
 cases e:ob1 j <;> simp_all [Ob.ren]
theorem Tr.arr (h:Tr f ι1 ob1 ι2 ob2) {j:Nat} (hj:Ab.notFree ob1 j) {own:Bool} {sz:Nat} {es:List (List Cell)} (e:ob2 (f j)=.arr own sz es):ob1 j=.arr own sz es:=by
 rw [(h.o j hj).1] at e
 cases e':ob1 j <;> simp_all [Ob.ren]
theorem Tr.box (h:Tr f ι1 ob1 ι2 ob2) {j:Nat} (hj:Ab.notFree ob1 j) {cs:List AC} (e:ob2 (f j)=.box cs):∃ cs1,ob1 j=.box cs1:=by
 rw [(h.o j hj).1] at e
 cases e':ob1 j <;> simp_all [Ob.ren]
theorem Tr.map (h:Tr f ι1 ob1 ι2 ob2) {j:Nat} (hj:Ab.notFree ob1 j) {nn:Bool} {k:MK} {g:Value->Option Cell} (e:ob2 (f j)=.map nn k g):ob1 j=.map nn k g:=by
 rw [(h.o j hj).1] at e
 cases e':ob1 j <;> simp_all [Ob.ren]
theorem Tr.reads (h:Tr f ι1 ob1 ι2 ob2) {j:Nat} (hj:Ab.notFree ob1 j) (e:(ob2 (f j)).reads):(ob1 j).reads:=by
 rw [(h.o j hj).1] at e
 cases e':ob1 j <;> simp_all [Ob.ren,Ob.reads]
theorem Tr.rdSet (h:Tr f ι1 ob1 ι2 ob2) (hG:∀ b,ι1.G b->ι2.G b) {src:Option Nat} (hs:∀ id,src=some id->Ab.notFree ob1 id):∀ b,Ab.rdSet ι1 src b->Ab.rdSet ι2 (src.map f) b:=by
 intro b hb
 cases src with
 | none=>exact hG b hb
 | some id=>exact hb.imp (hG b) fun hb=>((h.o id (hs id rfl)).2.2.2 b).2 hb
theorem Ygx.tr (h:Tr f ι1 ob1 ι2 ob2) {c:AC} (hG:c.noG=true ∨ ∀ b,ι1.G b->ι2.G b) {v:Value} (r:Ygx w ι1 ob1 c v):Ygx w ι2 ob2 (c.ren f) v:=by
 cases c with
 | top=>trivial
 | val c=>
  rcases hG with hG | hG
  ·cases c with
   | lit u=>obtain ⟨rfl,hk⟩:=Rd.lit_inv (show Rd w ι1.G v _ from r); exact .lit hk
   | list es=>simp [AC.noG] at hG
   | any=>simp [AC.noG] at hG
   | cap u=>simp [AC.noG] at hG
   | clo f u=>simp [AC.noG] at hG
  ·exact Rd.mono (fun _ _=>rfl) hG r
 | ref j=>
  refine ⟨h.notFree r.1,fun own sz es e => ?_⟩
  rw [(h.o j r.1).2.2.1]
  exact r.2 _ _ _ (h.arr r.1 e)
 | bor j c=>
  have hG':=hG.resolve_left (by simp [AC.noG])
  refine ⟨h.notFree r.1,fun e => ?_⟩
  exact Rd.mono (fun _ _=>rfl) (h.rdSet hG' (src:=some j) fun id e=>by cases e; exact r.1) (r.2 (h.reads r.1 e))
 | ptr j o=>
  refine ⟨h.notFree r.1,fun cs e => ?_⟩
  obtain ⟨cs1,e1⟩:=h.box r.1 e
  rw [(h.o j r.1).2.1]
  exact r.2 _ e1
 | eptr j i o=>
  refine ⟨h.notFree r.1,fun own sz es e => ?_⟩
  rw [(h.o j r.1).2.2.1]
  exact r.2 _ _ _ (h.arr r.1 e)
 | iptr src cs=>
  have hG':=hG.resolve_left (by simp [AC.noG])
  refine ⟨fun id e => ?_,fun hl => ?_⟩
  ·cases src with
   | none=>cases e
   | some j=>simp only [Option.map_some,Option.some.injEq] at e; subst e; exact h.notFree (r.1 j rfl)
  ·have hl1:live ob1 src:=by
    cases src with
    | none=>trivial
    | some j=>exact h.reads (r.1 j rfl) hl
   obtain ⟨b,o,xs,e,hb,hx,ha⟩:=r.2 hl1
   have hm:=h.rdSet hG' (src:=src) r.1
   exact ⟨b,o,xs,e,hm b hb,hx,ha.imp fun x c hc=>Rd.mono (fun _ _=>rfl) hm hc⟩
 | sub j i p=>
  have hG':=hG.resolve_left (by simp [AC.noG])
  refine ⟨h.notFree r.1,fun own sz es e => ?_⟩
  obtain ⟨b,h1,h2,h3⟩:=r.2 _ _ _ (h.arr r.1 e)
  exact ⟨b,by rw [(h.o j r.1).2.2.1]; exact h1,h.rdSet hG' (src:=some j) (fun _ e=>by cases e; exact r.1) b h2,h3⟩
 | mref j=>
  refine ⟨h.notFree r.1,fun nn k g e => ?_⟩
  rw [(h.o j r.1).2.1]
  exact r.2 _ _ _ (h.map r.1 e)
theorem Yh5.tr (h:Tr f ι1 ob1 ι2 ob2) {x:SV} (hG:x.acs.all AC.noG=true ∨ ∀ b,ι1.G b->ι2.G b) {v:Value} (r:Yh5 w ι1 ob1 x v):Yh5 w ι2 ob2 (x.ren f) v:=by
 cases x with
 | one c=>
  refine ⟨Ygx.tr h (hG.imp (fun hg=>by simpa [SV.acs] using hg) id) r.1,fun hn=>r.2 fun e=>hn ?_⟩
  subst e; rfl
 | agg cs=>
  obtain ⟨arr,e,ha⟩:=r
  exact ⟨arr,e,Yg8.map_left _ (ha.impMem fun c u hm hc=>⟨Ygx.tr h (hG.imp (fun hg=>(List.all_eq_true.1 hg) c hm) id) hc.1,hc.2⟩)⟩
theorem Ygz.tr (h:Tr f ι1 ob1 ι2 ob2) {x:AV} (hG:x.acs.all AC.noG=true ∨ ∀ b,ι1.G b->ι2.G b) {v:Value} (r:Ygz w ι1 ob1 x v):Ygz w ι2 ob2 (x.ren f) v:=by
 cases x with
 | sv x=>exact Yh5.tr h hG r
 | tup l=>
  obtain ⟨arr,e,ha⟩:=r
  exact ⟨arr,e,Yg8.map_left _ (ha.impMem fun c u hm hc=>Yh5.tr h (hG.imp (fun hg=>List.all_eq_true.2 fun y hy=>(List.all_eq_true.1 hg) y (List.mem_flatMap.2 ⟨c,hm,hy⟩)) id) hc)⟩
def Ob.noG:Ob->Bool
 | .box cs=>cs.all AC.noG
 | .arr own _ _=>own
 | _=>true
theorem Yiu.tr (h:Tr f ι1 ob1 ι2 ob2) {j:Nat} (hj:Ab.notFree ob1 j) (hG:(ob1 j).noG=true ∨ ∀ b,ι1.G b->ι2.G b) (r:Yiu w ι1 ob1 j (ob1 j)):Yiu w ι2 ob2 (f j) (ob2 (f j)):=by
 obtain ⟨h1,h2,h3,h4⟩:=h.o j hj
 rw [h1]
 cases e:ob1 j with
 | free=>simp [Ab.notFree,e] at hj
 | dead=>rw [e] at r; exact fun b hb=>r b ((h4 b).1 hb)
 | box cs=>
  rw [e] at r hG
  obtain ⟨r1,arr,ty,r2,r3⟩:=r
  refine ⟨by rw [h2]; exact (h4 _).2 r1,arr,ty,by rw [h2]; exact r2,Yg8.map_left _ (r3.impMem fun c v hm hc=>⟨Ygx.tr h (hG.imp (fun hg=>(List.all_eq_true.1 hg) c hm) id) hc.1,hc.2⟩)⟩
 | arr own sz es=>
  rw [e] at r hG
  have hf:ι2.fp (f j)=ι1.fp j:=funext fun b=>propext (h4 b)
  show Ygs w (Yhm w ι2.G own) sz (ι2.fp (f j)) (ι2.sl (f j)) es
  rw [h3,hf]
  rcases hG with hG | hG
  ·simp only [Ob.noG] at hG; subst hG; exact r
  ·exact Ygs.mono r (fun b hb=>⟨hG b hb,rfl⟩) fun _ _=>rfl
 | map nn k f=>
  rw [e] at r
  simp only [Ob.ren,Yiu] at r ⊢
  cases nn with
  | true=>exact ⟨fun b hb=>r.1 b ((h4 b).1 hb),r.2⟩
  | false=>rw [h2]; exact r.mono (fun x hx=>(h4 x).2 hx) fun _ _=>rfl
end
def Yhq (objs:List Ob) (j:Nat):Ob:=objs.getD j .free
structure PreRel (w:World) (ι:Interp) (objs:List Ob) (args:List SV) (vals:Array Value):Prop where
 obj:∀ j,Yiu w ι (Yhq objs) j (Yhq objs j)
 disj:∀ i j b,i≠j->ι.fp i b->¬ ι.fp j b
 gfp:∀ i b,ι.fp i b->¬ ι.G b
 lt:∀ i b,ι.fp i b->b<w.heap.size
 glt:∀ b,ι.G b->b<w.heap.size
 arg:Yg8 (Yh5 w ι (Yhq objs)) args vals.toList
structure PostRel (w:World) (ι:Interp) (objs0 objs1:List Ob) (res:AV) (w':World) (v:Value) (ι':Interp):Prop where
 ext:∀ j,Yho w w' ι ι' False j (Yhq objs0 j) (Yhq objs1 j)
 obj:∀ j,Yiu w' ι' (Yhq objs1) j (Yhq objs1 j)
 disj:∀ i j b,i≠j->ι'.fp i b->¬ ι'.fp j b
 gfp:∀ i b,ι'.fp i b->¬ ι'.G b
 lt:∀ i b,ι'.fp i b->b<w'.heap.size
 glt:∀ b,ι'.G b->b<w'.heap.size
 gg:∀ b,ι.G b->ι'.G b
 gown:∀ b,ι'.G b->ι.G b ∨ (∃ i,ι.fp i b) ∨ w.heap.size<=b
 own:∀ j b,ι'.fp j b->(∃ i,ι.fp i b) ∨ w.heap.size<=b
 frame:∀ b,b<w.heap.size->(∀ i,¬ ι.fp i b)->w'.heap[b]? = w.heap[b]?
 size:w.heap.size<=w'.heap.size
 os:w'.os=w.os
 out:w'.output=w.output
 val:Ygz w' ι' (Yhq objs1) res v
def Yjg (P:Program) (f:FuncId) (objs0:List Ob) (args:List SV) (objs1:List Ob) (res:AV):Prop:=
 (∀ xs w,(callFunc f xs).run P w=.ok (.enter f xs) w) /\
 ∀ w ι vals,PreRel w ι objs0 args vals->Kn P w ι->Calls P f vals w fun e w'=>∃ v ι',e=.returned v/\PostRel w ι objs0 objs1 res w' v ι'
structure Pass where
 emb:List (Option Nat):=[]
 objs:List Ob:=[]
 args:List SV:=[]
 lent:List Nat:=[]
def lendAC (s:St):AC->Option (Cell × List Nat)
 | .val (.lit (.slice none 0 0))=>some (.list [],[])
 | .val c=>some (c,[])
 | .bor id c=>if Ymq s (some id) then some (c,[id]) else none
 | .ref id=>match s.obj id with
  | .arr _ _ es=>some (.list es,[id])
  | _=>none
 | _=>none
def lendACs (s:St):List AC->Option (List AC × List Nat)
 | []=>some ([],[])
 | c :: r=>match lendAC s c,lendACs s r with
  | some (c',l),some (r',l')=>some (.val c' :: r',l++l')
  | _,_=>none
def AC.flat:AC->Bool
 | .val _ | .top=>true
 | _=>false
def passOne (s:St):AC->Option (Nat × Ob × (Nat->AC))
 | .ref k=>match s.obj k with
  | .arr o sz es=>some (k,.arr o sz es,.ref)
  | _=>none
 | .mref k=>match s.obj k with
  | .map nn kd f=>some (k,.map nn kd f,.mref)
  | _=>none
 | .ptr k 0=>match s.obj k with
  | .box cs=>if cs.all AC.flat then some (k,.box cs,fun j=>.ptr j 0) else none
  | _=>none
 | _=>none
def passCells (s:St):List (Option Nat)->List AC->Option (List (Option Nat) × List Ob × List AC × List Nat)
 | emb,[]=>some (emb,[],[],[])
 | emb,c :: r=>match passOne s c with
  | some (k,o,f)=>if emb.elem (some k) then none else
    (match passCells s (emb++[some k]) r with
    | some (emb',obs,cs,l)=>some (emb',o :: obs,f emb.length :: cs,l)
    | none=>none)
  | none=>match c with
   | .val c'=>(match passCells s emb r with
    | some (emb',obs,cs,l)=>some (emb',obs,.val c' :: cs,l)
    | none=>none)
   | .bor id c'=>if Ymq s (some id) then (match passCells s emb r with
    | some (emb',obs,cs,l)=>some (emb',obs,.val c' :: cs,id :: l)
    | none=>none) else none
   | .top=>(match passCells s emb r with
    | some (emb',obs,cs,l)=>some (emb',obs,.top :: cs,l)
    | none=>none)
   | _=>none
def passAgg (s:St):List (Option Nat)->List (Option (Bool × Nat))->List AC->Option (List (Option Nat) × List Ob × List AC × List Nat)
 | emb,[],[]=>some (emb,[],[],[])
 | emb,m :: ms,c :: r=>match m with
  | none=>match lendAC s c with
   | some (c',l)=>(match passAgg s emb ms r with
    | some (emb',obs,cs,l')=>some (emb',obs,.val c' :: cs,l++l')
    | none=>none)
   | none=>none
  | some (o,sz)=>match c with
   | .ref k=>match s.obj k with
    | .arr o' sz' es=>if o'=o/\sz'=sz/\emb.elem (some k)=false then
     (match passAgg s (emb++[some k]) ms r with
     | some (emb',obs,cs,l)=>some (emb',.arr o sz es :: obs,.ref emb.length :: cs,l)
     | none=>none) else none
    | _=>none
   | .val (.lit (.slice none 0 0))=>(match passAgg s (emb++[none]) ms r with
    | some (emb',obs,cs,l)=>some (emb',.arr o sz [] :: obs,.ref emb.length :: cs,l)
    | none=>none)
   | _=>none
 | _,_,_=>none
def Pass.add (s:St) (p:Pass) (m:Mode) (x:SV):Option Pass:=
 match m with
 | .rd=>match x with
  | .one c=>match lendACs s [c] with
   | some ([c'],l)=>some { p with args:=p.args++[.one c'],lent:=p.lent++l }
   | _=>none
  | .agg cs=>match lendACs s cs with
   | some (cs',l)=>some { p with args:=p.args++[.agg cs'],lent:=p.lent++l }
   | none=>none
 | .own o sz=>match x with
  | .one (.ref id)=>match s.obj id with
   | .arr o' sz' es=>if o'=o/\sz'=sz/\p.emb.elem (some id)=false then
     some { p with emb:=p.emb++[some id],objs:=p.objs++[.arr o sz es],args:=p.args++[.one (.ref p.emb.length)] } else none
   | _=>none
  | .one (.val (.lit (.slice none 0 0)))=>some { p with emb:=p.emb++[none],objs:=p.objs++[.arr o sz []],args:=p.args++[.one (.ref p.emb.length)] }
  | _=>none
 | .ptr=>match x with
  | .one (.ptr id 0)=>match s.obj id with
   | .box cs=>if p.emb.elem (some id) then none else
    (match passCells s (p.emb++[some id]) cs with
    | some (emb',obs,cs',l)=>some { emb:=emb',objs:=p.objs++.box cs' :: obs,args:=p.args++[.one (.ptr p.emb.length 0)],lent:=p.lent++l }
    | none=>none)
   | _=>none
  | _=>none
 | .map=>match x with
  | .one (.mref id)=>match s.obj id with
   | .map nn kd f=>if p.emb.elem (some id)=false then
     some { p with emb:=p.emb++[some id],objs:=p.objs++[.map nn kd f],args:=p.args++[.one (.mref p.emb.length)] } else none
   | _=>none
  | _=>none
 | .agg ms=>match x with
  | .agg cs=>match passAgg s p.emb ms cs with
   | some (emb',obs,cs',l)=>some { emb:=emb',objs:=p.objs++obs,args:=p.args++[.agg cs'],lent:=p.lent++l }
   | none=>none
  | _=>none
def passAll (s:St):Pass->List Mode->List AV->Option Pass
 | p,[],[]=>some p
 | p,m :: ms,.sv x :: xs=>match p.add s m x with
  | some p'=>passAll s p' ms xs
  | none=>none
 | _,_,_=>none
end Go.Proofs.YtclpofblehlojaaGreat.Ab
end
