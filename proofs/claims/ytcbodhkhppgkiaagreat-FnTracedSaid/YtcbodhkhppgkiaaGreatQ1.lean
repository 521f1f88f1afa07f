/- Part 1 of the machine. No condition. -/
import Derived.WalkKit
import Derived.MapKept
import Derived.Carry
import Derived.Laws.AppendOwn
import Derived.Laws.MakeOwn
import Derived.Laws.OwnMore
import Derived.Lib.ItoaNum
import Derived.Laws.Strings
import Derived.Laws.Small
import Derived.Laws.Strings2
import Derived.Laws.Concat
import Derived.Laws.Closers25b
import Derived.Laws.Slices
import Derived.Laws.Tables
import Derived.Great.FillDense
import Derived.Laws.BytesArg
import Derived.Great.BuildSlice
section
namespace Go.Proofs.YtcbodhkhppgkiaaGreat
abbrev aa:=@Option.some.injEq
abbrev ab:=@if_neg
abbrev ae:=@if_pos
abbrev af:=@Bool.and_eq_true
abbrev ah:=@And.intro
abbrev ai:=@List.mem_cons_of_mem
abbrev aj:=@List.mem_cons_self
abbrev ak:=@decide_eq_true_eq
abbrev al:=@Prod.mk.injEq
abbrev am:=@List.all_eq_true
abbrev an:=@List.mem_singleton
abbrev ao:=@List.getD_eq_getElem?_getD
abbrev aq:=@List.map_append
abbrev ar:=@List.take_of_length_le
abbrev au:=@List.length_take
abbrev av:=@List.getElem?_eq_getElem
abbrev aw:=@List.length_append
abbrev ax:=@List.length_drop
abbrev ay:=@List.getElem?_eq_some_iff
abbrev az:=@List.mem_append
abbrev aA:=@Nat.eq_of_beq_eq_true
abbrev aB:=@List.mem_cons
abbrev aC:=@Nat.le_refl
abbrev aD:=@List.length_cons
abbrev aE:=@List.mem_of_getElem?
abbrev aF:=@Bool.or_eq_true
abbrev aG:=@List.mem_of_mem_drop
abbrev aH:=@List.append_assoc
abbrev aI:=@Decidable.not_not
abbrev aJ:=@Int.le_refl
abbrev aK:=@Go.run_underlying
abbrev aL:=@Bool.not_eq_true'
abbrev aM:=@decide_eq_false_iff_not
abbrev aN:=@Nat.le_trans
abbrev aO:=@List.length_map
abbrev aP:=@Option.map_some
abbrev aQ:=@Go.Sem.run_bind
abbrev aR:=@List.getElem?_append_right
abbrev aU:=@Option.isSome_iff_exists
abbrev aV:=@List.getElem?_take
abbrev aX:=@List.getElem?_drop
abbrev aY:=@List.mem_append_left
abbrev aZ:=@Go.Result.andThen_ok
abbrev a9:=@List.mem_map
abbrev ba:=@List.map_congr_left
abbrev bb:=@List.getElem?_map
abbrev bc:=@List.mem_append_right
abbrev bd:=@List.mem_range
abbrev be:=@List.take_append_drop
abbrev bf:=@List.getElem?_eq_none
abbrev bg:=@List.getElem?_append_left
abbrev bh:=@List.length_singleton
abbrev bk:=@List.mem_flatMap
abbrev bm:=@Nat.beq_refl
abbrev bn:=@Bool.not_eq_true
abbrev bo:=@List.length_nil
abbrev bp:=@Bool.or_eq_false_iff
abbrev bq:=@List.nil_append
abbrev bt:=@List.mem_of_mem_take
abbrev bu:=@Array.getElem?_eq_some_iff
abbrev bv:=@List.append_nil
abbrev bw:=@List.length_eq_zero_iff
abbrev bx:=@if_true
abbrev bz:=@Nat.le_of_ble_eq_true
abbrev bA:=@Array.getD_eq_getD_getElem?
abbrev bB:=@List.drop_eq_nil_of_le
abbrev bC:=@Go.Sem.run_pure
abbrev bE:=@List.cons_append
abbrev bF:=@decide_eq_true
abbrev bG:=@Array.length_toList
abbrev bH:=@Nat.lt_or_ge
abbrev bK:=@decide_eq_false
abbrev bL:=@List.foldl_cons
abbrev bM:=@List.getElem?_set
abbrev bO:=@List.map_cons
abbrev bP:=@List.flatten_cons
abbrev bQ:=@List.eq_nil_of_length_eq_zero
abbrev bS:=@List.mem_or_eq_of_mem_set
abbrev bT:=@Nat.min_eq_left
abbrev bU:=@List.flatMap_cons
abbrev bV:=@List.any_eq_false
abbrev bW:=@List.all_eq_false
abbrev bX:=@List.getElem?_cons_zero
abbrev bY:=@List.getElem?_append
abbrev bZ:=@Nat.add_mul
abbrev b7:=@Option.map_eq_some_iff
abbrev b8:=@List.take_length
abbrev b9:=@True.intro
abbrev cb:=@Array.mem_of_getElem?
abbrev cc:=@Int.le_trans
abbrev cd:=@List.length_set
abbrev ce:=@Option.some.inj
abbrev cf:=@List.mem_filter
abbrev cg:=@Array.ext'
abbrev ch:=@Array.mem_toList_iff
abbrev ci:=@congrArg
abbrev cj:=@Array.getElem?_eq_getElem
abbrev ck:=@Nat.zero_add
abbrev cm:=@Nat.zero_le
abbrev cn:=@List.getElem?_of_mem
abbrev cp:=@Bool.eq_iff_iff
abbrev cq:=@List.getD_cons_zero
abbrev cr:=@List.map_map
abbrev ct:=@Nat.ne_of_beq_eq_false
abbrev cu:=@Bool.false_eq_true
abbrev cv:=@Ne.symm
abbrev cw:=@Bool.not_eq_false'
abbrev cA:=@List.all_append
abbrev cC:=@List.size_toArray
abbrev cD:=@List.ext_getElem?
abbrev cE:=@Int.toNat_natCast
abbrev cF:=@Array.getElem?_setIfInBounds
abbrev cG:=@Nat.le_of_not_lt
abbrev cH:=@Option.getD_some
abbrev cJ:=@List.any_eq_true
abbrev cK:=@Nat.lt_of_lt_of_le
abbrev cL:=@Bool.and_eq_false_iff
abbrev cM:=@List.cons.injEq
abbrev cN:=@List.length_filter_le
abbrev cO:=@List.foldl_append
abbrev cP:=@Nat.mul_le_mul_right
abbrev cQ:=@List.drop_zero
abbrev cR:=@Nat.add_zero
abbrev cT:=@if_false
abbrev cU:=@List.map_id'
abbrev cV:=@List.not_mem_nil
abbrev cW:=@List.getElem?_cons_succ
abbrev cX:=@Option.bind_eq_some_iff
abbrev cY:=@Nat.add_assoc
abbrev cZ:=@Nat.eq_zero_or_pos
abbrev c9:=@Go.MapKept.run_getObj_map
abbrev db:=@List.getElem?_set_self
abbrev dd:=@List.take_append_of_le_length
abbrev df:=@List.set_set
abbrev dg:=@Nat.le_of_lt
abbrev dh:=@List.getElem_mem
abbrev di:=@List.findIdx_getElem
abbrev dk:=@Bool.true_and
abbrev dl:=@Int.tdiv_eq_ediv_of_nonneg
abbrev dm:=@Go.run_firstCells_some
abbrev dn:=@List.mem_map_of_mem
abbrev dr:=@List.drop_eq_getElem_cons
abbrev du:=@Go.setRow_other
abbrev dv:=@and_assoc
abbrev dw:=@List.filter_append
abbrev dx:=@Nat.le_mul_of_pos_right
abbrev dy:=@Go.Value.slice.injEq
abbrev dz:=@Function.comp_def
abbrev dA:=@List.nodup_append
abbrev dB:=@of_decide_eq_true
abbrev dC:=@Nat.one_mul
abbrev dD:=@List.all_cons
abbrev dE:=@Option.bind_some
abbrev dG:=@Array.getElem?_toList
abbrev dH:=@List.set_getElem_self
abbrev dI:=@Go.mem_ready
abbrev dJ:=@Go.Code.wp_mono
abbrev dK:=@Go.Value.pointer.injEq
abbrev dL:=@List.flatten_append
abbrev dM:=@List.getD_cons_succ
abbrev dN:=@List.getElem?_range
abbrev dO:=@List.getElem_of_mem
abbrev dP:=@and_true
abbrev dQ:=@Iff.rfl
abbrev dR:=@Nat.mul_comm
theorem aW {p : Prop} (h : p := by with_reducible assumption) : p := h
theorem oW {p : Prop} (h : p := by omega) : p := h
theorem tW {p : Prop} (h : p := by assumption) : p := h
theorem dW {p : Prop} (h : p := by decide) : p := h
theorem sW {p : Prop} (h : p := by simp) : p := h
abbrev _root_.List.g {α : Type} [Inhabited α] (l : List α) (i : Nat) : α := l.getD i default
end Go.Proofs.YtcbodhkhppgkiaaGreat
end
set_option linter.unusedVariables false
set_option linter.unusedSimpArgs false
section
namespace Go.Proofs.YtcbodhkhppgkiaaGreat.Ab
open Go
inductive Cell where
 | lit (v:Value)
 | list (es:List (List Cell))
 | any
 | cap (v:Value)
 | clo (f:FuncId) (v:Value)
instance:Inhabited Cell:=⟨.lit (.bool false)⟩
def normLit:Value->Cell
 | .slice none 0 0=>.list []
 | v=>.lit v
def Yq7:Value->Prop
 | .string s=>s.size<=maxLen
 | .agg _ | .tuple _=>False
 | _=>True
theorem Yq7.one {v:Value}(h:Yq7 v):v.oneCell':=by
 cases v<;>first|rfl|exact h.elim
def Ylq {α β:Type}(R:α->β->Prop):List α->List β->Prop
 | [],[]=>True
 | a :: as,b :: bs=>R a b/\Ylq R as bs
 | _,_=>False
theorem Ylq.length {α β:Type}{R:α->β->Prop}:∀ {as:List α}{bs:List β},Ylq R as bs->as.length=bs.length
 | [],[],_=>rfl
 | _ :: _,_ :: _,h=>by simp[Ylq.length h.2]
 | [],_ :: _,h=>h.elim
 | _ :: _,[],h=>h.elim
theorem Ylq.imp {α β:Type}{R S:α->β->Prop}(hi:∀ a b,R a b->S a b):∀ {as:List α}{bs:List β},Ylq R as bs->Ylq S as bs
 | [],[],_=>trivial
 | _ :: _,_ :: _,h=>⟨hi _ _ h.1,h.2.imp hi⟩
 | [],_ :: _,h=>h.elim
 | _ :: _,[],h=>h.elim
theorem Ylq.get {α β:Type}{R:α->β->Prop}:∀ {as:List α}{bs:List β},Ylq R as bs->∀ {i:Nat}{a:α}{b:β},as[i]? = some a->bs[i]? = some b->R a b
 | [],[],_,i,a,b,ha,_=>by simp at ha
 | x :: as,y :: bs,h,0,a,b,ha,hb=>by simp at ha hb;subst ha;subst hb;exact h.1
 | x :: as,y :: bs,h,i+1,a,b,ha,hb=>by simp at ha hb;exact h.2.get ha hb
 | [],_ :: _,h,_,_,_,_,_=>h.elim
 | _ :: _,[],h,_,_,_,_,_=>h.elim
theorem Ylq.get_left {α β:Type}{R:α->β->Prop}{as:List α}{bs:List β}(h:Ylq R as bs) {i:Nat}{a:α}(ha:as[i]? = some a):∃ b,bs[i]? = some b/\R a b:=by
 have hl:i<bs.length:=by rw[<- h.length];exact(List.getElem?_eq_some_iff.1 ha).1
 exact⟨bs[i],av hl,h.get ha (av hl)⟩
theorem Ylq.of_get {α β:Type}{R:α->β->Prop}:∀ {as:List α}{bs:List β},as.length=bs.length->(∀ (i:Nat) (a:α) (b:β),as[i]? = some a->bs[i]? = some b->R a b)->Ylq R as bs
 | [],[],_,_=>trivial
 | a :: as,b :: bs,hl,h=>⟨h 0 a b rfl rfl,Ylq.of_get (by simpa using hl) λi x y hx hy=>h (i+1) x y (by simpa using hx) (by simpa using hy)⟩
 | [],_ :: _,hl,_=>by simp at hl
 | _ :: _,[],hl,_=>by simp at hl
theorem Ylq.append {α β:Type}{R:α->β->Prop}:∀ {as:List α}{bs:List β}{cs:List α}{ds:List β},Ylq R as bs->Ylq R cs ds->Ylq R (as++cs) (bs++ds)
 | [],[],_,_,_,h=>h
 | _ :: _,_ :: _,_,_,h,k=>⟨h.1,h.2.append k⟩
 | [],_ :: _,_,_,h,_=>h.elim
 | _ :: _,[],_,_,h,_=>h.elim
theorem Ylq.take {α β:Type}{R:α->β->Prop}:∀ {as:List α}{bs:List β}(n:Nat),Ylq R as bs->Ylq R (as.take n) (bs.take n)
 | [],[],n,_=>by simp[Ylq]
 | _ :: _,_ :: _,0,_=>trivial
 | _ :: _,_ :: _,n+1,h=>⟨h.1,h.2.take n⟩
 | [],_ :: _,_,h=>h.elim
 | _ :: _,[],_,h=>h.elim
theorem Ylq.drop {α β:Type}{R:α->β->Prop}:∀ {as:List α}{bs:List β}(n:Nat),Ylq R as bs->Ylq R (as.drop n) (bs.drop n)
 | [],[],n,_=>by simp[Ylq]
 | _ :: _,_ :: _,0,h=>h
 | _ :: _,_ :: _,n+1,h=>h.2.drop n
 | [],_ :: _,_,h=>h.elim
 | _ :: _,[],_,h=>h.elim
inductive Rd (w:World) (G:Nat->Prop):Value->Cell->Prop
 | lit {v:Value} (h:Yq7 v):Rd w G v (.lit v)
 | nil {a:Option Addr} {cap:Nat}:Rd w G (.slice a 0 cap) (.list [])
 | any {v:Value} (h:v.oneCell'):Rd w G v .any
 | cap {b o:Nat} {v:Value} (hG:G b) (h:Yq7 v) (hx:w.cell? ⟨b,o,none⟩=some v):Rd w G (.pointer (some ⟨b,o,none⟩)) (.cap v)
 | clo {f:FuncId} {b o:Nat} {v:Value} (hG:G b) (h:Yq7 v) (hx:w.cell? ⟨b,o,none⟩=some v):Rd w G (.func (.func f) #[] #[.pointer (some ⟨b,o,none⟩)]) (.clo f v)
 | slice {b off cap sz:Nat} {es:List (List Cell)} {xs:List Value} (hG:G b) (hc:es.length<=cap) (hm:cap<=maxLen)
   (hsz:∀ e∈es,e.length=sz) (hl:xs.length=es.flatten.length)
   (hx:∀ (j:Nat) (u:Value),xs[j]? = some u->w.cell? ⟨b,off+j,none⟩=some u)
   (hr:∀ (j:Nat) (u:Value) (c:Cell),xs[j]? = some u->es.flatten[j]? = some c->Rd w G u c):Rd w G (.slice (some ⟨b,off,none⟩) es.length cap) (.list es)
theorem Yq1 {w w':World}{b o:Nat}(h:w'.heap[b]? = w.heap[b]?):w'.cell? ⟨b,o,none⟩=w.cell? ⟨b,o,none⟩:=World.cell?_of_block (w:=w) (a:=⟨b,o,none⟩) h
theorem Rd.mono {w w':World}{G G':Nat->Prop}(hw:∀ b,G b->w'.heap[b]? = w.heap[b]?) (hG:∀ b,G b->G' b) {v:Value}{c:Cell}(h:Rd w G v c):Rd w' G' v c:=by
 induction h with
 | lit h=>exact .lit h
 | nil=>exact .nil
 | any h=>exact .any h
 | cap hb h hx=>exact .cap (hG _ hb) h ((Yq1 (hw _ hb)).trans hx)
 | clo hb h hx=>exact .clo (hG _ hb) h ((Yq1 (hw _ hb)).trans hx)
 | slice hb hc hm hsz hl hx _ ih=>exact .slice (hG _ hb) hc hm hsz hl (λj u hu=>(Yq1 (hw _ hb)).trans (hx j u hu)) ih
theorem Rd.lit_inv {w:World}{G:Nat->Prop}{v u:Value}(h:Rd w G v (.lit u)):v=u/\Yq7 u:=by cases h;exact⟨rfl,‹_›⟩
theorem Rd.one {w:World}{G:Nat->Prop}{v:Value}{c:Cell}(h:Rd w G v c):v.oneCell':=by
 cases h with
 | lit h=>exact h.one
 | nil=>rfl
 | any h=>exact h
 | cap=>rfl
 | clo=>rfl
 | slice=>rfl
def Y1s7 (v:Value) (es:List (List Cell)):Prop:=es=[]->∃ a,v=.slice a 0 0
def Y15o (n:Nat) (fz:Nat×Nat):Prop:=fz=(0,0)\/n<=fz.1
theorem Y15o.not {n:Nat}{fz:Nat×Nat}(h:Y15o n fz) {j:Nat}(hj:j<n):¬ (fz.1<=j/\j<fz.2):=by
 rcases h with rfl|h
 ·simp
 ·omega
def Ypn (w:World) (e:TypeId) (size:Nat) (v:Value) (n:Nat) (xs:List Value):Prop:=
 xs.length=n * size /\
 ((v=.slice none 0 0/\n=0)\/∃ (g cap:Nat) (cur:Array Value) (fz:Nat×Nat),v=.slice (some ⟨g,0,none⟩) n cap/\Y15o cur.size fz/\w.heap[g]? = some (.cells cur e fz)/\n<=cap/\cap<=maxLen/\cur.size=cap * size/\cur.toList.take (n * size)=xs)
theorem Y10z (w:World) (e:TypeId) (size:Nat):Ypn w e size (.slice none 0 0) 0 []:=⟨by simp,.inl ⟨rfl,rfl⟩⟩
theorem Y1s3 {e:TypeId}{size:Nat}(w:World) (cs:Array Value) (n:Nat) (hm:n<=maxLen) (hs:cs.size=n * size) :
  Ypn (w.alloc (.cells cs e)) e size (.slice (some ⟨w.heap.size,0,none⟩) n n) n cs.toList:=
 ⟨by simpa using hs,.inr ⟨w.heap.size,n,cs,(0,0),rfl,.inl rfl,heap_alloc_new w _,aC _,hm,hs,ar (by rw[bG,hs];exact aC _)⟩⟩
theorem Ypn.cells {w:World}{e:TypeId}{size:Nat}{v:Value}{n:Nat}{xs:List Value}(h:Ypn w e size v n xs) {g:Nat}(hg:v.ownBlock=some g) :
  ∀ j u,xs[j]? = some u->w.cell? ((⟨g,0,none⟩:Addr).add j)=some u:=by
 intro j u hu
 rcases h.2 with ⟨rfl,_⟩|⟨g',cap,cur,fz,rfl,_,hgg,_,_,_,htake⟩
 ·simp[Value.ownBlock]at hg
 ·simp[Value.ownBlock]at hg
  subst hg
  have hadd:(⟨g',0,none⟩:Addr).add j=⟨g',j,none⟩:=by unfold Addr.add;split<;>simp_all
  rw[hadd,cell_of_row w g' j cur e fz hgg]
  rw[<- htake,aV]at hu
  split at hu
  ·simpa using hu
  ·cases hu
theorem Ys9 (P:Program) (g o:Nat) (t:TypeId) (fz:Nat×Nat):∀ (vs:List Value) (i:Nat) (cur:Array Value) (w:World),w.heap[g]? = some (.cells cur t fz)->Y15o cur.size fz->o+i+vs.length<=cur.size->(∀ v∈vs,v.oneCell') ->
  (storeCells ⟨g,o,none⟩ vs i).run P w=.ok () (w.setRow g (cur.toList.take (o+i)++vs++cur.toList.drop (o+i+vs.length)).toArray)
 | [],i,cur,w,hg,_,_,_=>by
  simp only[storeCells,bv,bo,cR,be,Array.toArray_toList]
  rw[setRow_self w g cur t fz hg]
  rfl
 | v :: rest,i,cur,w,hg,hfz,hl,h1=>by
  have hi:o+i<cur.size:=by simp at hl;omega
  have hadd:(⟨g,o,none⟩:Addr).add i=⟨g,o+i,none⟩:=by unfold Addr.add;split<;>simp_all
  have hcell:w.cell? ⟨g,o+i,none⟩=some cur[o+i]:=by simp[World.cell?,hg,hi]
  have hfro:w.frozen? ⟨g,o+i,none⟩=false:=by
   have:=hfz.not hi
   obtain⟨lo,hi'⟩:=fz
   simp only[World.frozen?,hg,cL,aM]
   simp only at this
   omega
  have hst:(store ((⟨g,o,none⟩:Addr).add i) v).run P w=.ok () (w.setRow g (cur.setIfInBounds (o+i) v)):=by
   rw[hadd,run_store P w _ v _ (h1 v sW),hcell]
   simp[hfro,setCell_eq_setRow w g (o+i) cur t fz v hg]
  have ih:=Ys9 P g o t fz rest (i+1) (cur.setIfInBounds (o+i) v) (w.setRow g (cur.setIfInBounds (o+i) v)) (setRow_heap w g cur _ t _ hg) (by simpa using hfz) (by simp at hl|-;omega) (λx hx=>h1 x (by simp[hx]))
  simp only[storeCells,aQ,hst,aZ,ih,setRow_setRow]
  congr 3
  have e:=list_seg_step cur.toList (o+i) v rest (by simp at hl|-;omega)
  simpa[Array.toList_setIfInBounds,cY] using e
inductive OwnC (w:World):(Nat->Prop)->Value->Cell->Prop
 | lit {F:Nat->Prop} {v:Value} (h:Yq7 v):OwnC w F v (.lit v)
 | any {F:Nat->Prop} {v:Value} (h:v.oneCell'):OwnC w F v .any
 | arr {F:Nat->Prop} {v:Value} {es:List (List Cell)} {e:TypeId} {sz:Nat} {xs:List Value} {Fs:Nat->Nat->Prop}
   (h:Ypn w e sz v es.length xs) (hsz:∀ x∈es,x.length=sz)
   (hb:∀ b,v.ownBlock=some b->F b) (sub:∀ j b,Fs j b->F b) (nb:∀ j b,v.ownBlock=some b->¬ Fs j b)
   (dj:∀ j j' b,j≠j'->Fs j b->¬ Fs j' b)
   (hc:∀ (j:Nat) (u:Value) (c:Cell),xs[j]? = some u->es.flatten[j]? = some c->OwnC w (Fs j) u c) (h0:Y1s7 v es):OwnC w F v (.list es)
theorem Y1am {w w':World}{e:TypeId}{sz n:Nat}{v:Value}{xs:List Value}(hw:∀ b,v.ownBlock=some b->w'.heap[b]? = w.heap[b]?)
  (h:Ypn w e sz v n xs):Ypn w' e sz v n xs:=by
 refine⟨h.1,?_⟩
 rcases h.2 with hn|⟨g,cap,cur,fz,rfl,hb,hg,rest⟩
 ·exact .inl hn
 ·exact .inr ⟨g,cap,cur,fz,rfl,hb,by rw[hw g rfl];exact hg,rest⟩
theorem OwnC.mono {w w':World}{F:Nat->Prop}{v:Value}{c:Cell}(h:OwnC w F v c) (hw:∀ b,F b->w'.heap[b]? = w.heap[b]?):OwnC w' F v c:=by
 induction h with
 | lit h=>exact .lit h
 | any h=>exact .any h
 | arr h hsz hb sub nb dj _ h0 ih=>exact .arr (Y1am (λb e=>hw b (hb b e)) h) hsz hb sub nb dj (λj u c hu hc=>ih j u c hu hc λb hb'=>hw b (sub j b hb')) h0
theorem OwnC.wide {w:World}{F F':Nat->Prop}{v:Value}{c:Cell}(h:OwnC w F v c) (hF:∀ b,F b->F' b):OwnC w F' v c:=by
 cases h with
 | lit h=>exact .lit h
 | any h=>exact .any h
 | arr h hsz hb sub nb dj hc h0=>exact .arr h hsz (λb e=>hF b (hb b e)) (λj b k=>hF b (sub j b k)) nb dj hc h0
theorem OwnC.one {w:World}{F:Nat->Prop}{v:Value}{c:Cell}(h:OwnC w F v c):v.oneCell':=by
 cases h with
 | lit h=>exact h.one
 | any h=>exact h
 | arr h=>rcases h.2 with ⟨rfl,_⟩|⟨g,cap,cur,fz,rfl,_⟩<;>rfl
theorem Ymy {α:Type}{sz:Nat}:∀ {es:List (List α)},(∀ e∈es,e.length=sz)->es.flatten.length=es.length * sz
 | [],_=>by simp
 | e :: es,h=>by
  have:=Ymy (es:=es) λx hx=>h x (ai _ hx)
  simp only[bP,aw,aD,this,h e aj]
  rw[bZ];omega
theorem Y1bc {w:World}{G:Nat->Prop}{e:TypeId}{sz:Nat}{v:Value}{es:List (List Cell)}{xs:List Value}
  (h:Ypn w e sz v es.length xs) (hsz:∀ x∈es,x.length=sz) (hb:∀ b,v.ownBlock=some b->G b)
  (hc:∀ (j:Nat) (u:Value) (c:Cell),xs[j]? = some u->es.flatten[j]? = some c->Rd w G u c):Rd w G v (.list es):=by
 have hl:xs.length=es.flatten.length:=by rw[h.1,Ymy hsz]
 have hcells:=λg hg=>Ypn.cells (g:=g) h hg
 rcases h.2 with ⟨rfl,hn⟩|⟨g,cap,cur,fz,rfl,_,hg,hle,hm,_,_⟩
 ·rw[bw]at hn;subst hn;exact .nil
 ·refine .slice (hb g rfl) hle hm hsz hl (λj u hu => ?_) hc
  have:=hcells g rfl j u hu
  have hadd:(⟨g,0,none⟩:Addr).add j=⟨g,0+j,none⟩:=by unfold Addr.add;split<;>simp_all
  rwa [hadd]at this
theorem OwnC.toRd {w:World}{F G:Nat->Prop}{v:Value}{c:Cell}(h:OwnC w F v c) (hF:∀ b,F b->G b):Rd w G v c:=by
 induction h with
 | lit h=>exact .lit h
 | any h=>exact .any h
 | arr h hsz hb sub nb dj _ _ ih=>exact Y1bc h hsz (λb e=>hF b (hb b e)) λj u c hu hc=>ih j u c hu hc λb hb'=>hF b (sub j b hb')
inductive AC where
 | top
 | val (c:Cell)
 | ref (id:Nat)
 | bor (id:Nat) (c:Cell)
 | ptr (id off:Nat)
 | eptr (id i off:Nat)
 | iptr (src:Option Nat) (cs:List Cell)
 | sub (id i p:Nat)
 | mref (id:Nat)
inductive SV where
 | one (c:AC)
 | agg (cs:List AC)
inductive AV where
 | sv (s:SV)
 | tup (vs:List SV)
structure MK where
 d:TypeDesc
 z:Option Value
inductive Ob where
 | free|dead
 | box (cs:List AC)
 | arr (own:Bool) (sz:Nat) (es:List (List Cell))
 | map (nn:Bool) (k:MK) (f:Value->Option Cell)
structure St where
 regs:List AV
 objs:List Ob
 m:Nat
def St.reg (s:St) (t:Nat):AV:=s.regs.getD t (.sv (.one .top))
def St.obj (s:St) (i:Nat):Ob:=s.objs.getD i .free
structure Interp where
 G:Nat->Prop
 blk:Nat->Nat
 sl:Nat->Value
 fp:Nat->Nat->Prop
def rdSet (ι:Interp):Option Nat->Nat->Prop
 | none,b=>ι.G b
 | some id,b=>ι.G b\/ι.fp id b
def notFree (ob:Nat->Ob) (id:Nat):Prop:=match ob id with | .free=>False|_=>True
def Ob.reads:Ob->Prop
 | .arr .. | .map .. => True
 | _=>False
def live (ob:Nat->Ob):Option Nat->Prop
 | none=>True
 | some id=>(ob id).reads
def Y1ng (nn:Bool) (b:Nat):Value:=.map (match nn with|true=>none|false=>some b)
def Ymf (w:World) (ι:Interp) (ob:Nat->Ob):AC->Value->Prop
 | .top,_=>True
 | .val c,v=>Rd w ι.G v c
 | .ref id,v=>notFree ob id/\∀ own sz es,ob id=.arr own sz es->v=ι.sl id
 | .bor id c,v=>notFree ob id/\(live ob (some id)->Rd w (rdSet ι (some id)) v c)
 | .ptr id off,v=>notFree ob id/\∀ cs,ob id=.box cs->v=.pointer (some ⟨ι.blk id,off,none⟩)
 | .eptr id i off,v=>notFree ob id/\∀ own sz es,ob id=.arr own sz es->∃ b,(ι.sl id).ownBlock=some b/\v=.pointer (some ⟨b,i * sz+off,none⟩)
 | .iptr src cs,v=>(∀ id,src=some id->notFree ob id)/\(live ob src ->
   ∃ b o xs,v=.pointer (some ⟨b,o,none⟩)/\rdSet ι src b/\(∀ (j:Nat) (u:Value),xs[j]? = some u->w.cell? ⟨b,o+j,none⟩=some u)/\Ylq (Rd w (rdSet ι src)) xs cs)
 | .sub id i p,v=>notFree ob id/\∀ own sz es,ob id=.arr own sz es->∃ b,(ι.sl id).ownBlock=some b/\rdSet ι (some id) b/\w.cell? ⟨b,i * sz+p,none⟩=some v
 | .mref id,v=>notFree ob id/\∀ nn k f,ob id=.map nn k f->v=Y1ng nn (ι.blk id)
def Ynt (w:World) (ι:Interp) (ob:Nat->Ob) (c:AC) (v:Value):Prop:=Ymf w ι ob c v/\v.oneCell'
def Ymo (w:World) (ι:Interp) (ob:Nat->Ob):SV->Value->Prop
 | .one c,v=>Ymf w ι ob c v/\(c≠.top->v.oneCell')
 | .agg cs,v=>∃ arr:Array Value,v=.agg arr/\Ylq (Ynt w ι ob) cs arr.toList
def Ymg (w:World) (ι:Interp) (ob:Nat->Ob):AV->Value->Prop
 | .sv s,v=>Ymo w ι ob s v
 | .tup vs,v=>∃ arr:Array Value,v=.tuple arr/\Ylq (Ymo w ι ob) vs arr.toList
def Ym8 (w:World) (N:(Nat->Prop)->Value->Cell->Prop) (sz:Nat) (F:Nat->Prop) (v:Value) (es:List (List Cell)):Prop:=
 ∃ (e:TypeId) (xs:List Value) (Fs:Nat->Nat->Prop),Ypn w e sz v es.length xs/\(∀ x∈es,x.length=sz)/\(∀ b,v.ownBlock=some b->F b) /\
  (∀ j b,Fs j b->F b)/\(∀ j b,v.ownBlock=some b->¬ Fs j b)/\(∀ j j' b,j≠j'->Fs j b->¬ Fs j' b) /\
  (∀ (j:Nat) (u:Value) (c:Cell),xs[j]? = some u->es.flatten[j]? = some c->N (Fs j) u c)/\Y1s7 v es
def Yna (w:World) (G:Nat->Prop):Bool->(Nat->Prop)->Value->Cell->Prop
 | true,F,u,c=>OwnC w F u c
 | false,_,u,c=>Rd w G u c
theorem Yna.one {w:World}{G:Nat->Prop}{own:Bool}{F:Nat->Prop}{u:Value}{c:Cell}(h:Yna w G own F u c):u.oneCell':=by
 cases own
 ·exact Rd.one h
 ·exact OwnC.one h
theorem Yna.toRd {w:World}{G:Nat->Prop}{own:Bool}{F:Nat->Prop}{u:Value}{c:Cell}(h:Yna w G own F u c):Rd w (λb=>G b\/F b) u c:=by
 cases own
 ·exact Rd.mono (λ_ _=>rfl) (λ_ h=>.inl h) h
 ·exact OwnC.toRd h λ_ h=>.inr h
theorem Yna.mono {w w':World}{G G':Nat->Prop}{own:Bool}{F:Nat->Prop}{u:Value}{c:Cell}(h:Yna w G own F u c)
  (hG:∀ b,G b->G' b/\w'.heap[b]? = w.heap[b]?) (hF:∀ b,F b->w'.heap[b]? = w.heap[b]?):Yna w' G' own F u c:=by
 cases own
 ·exact Rd.mono (λb hb=>(hG b hb).2) (λb hb=>(hG b hb).1) h
 ·exact OwnC.mono h hF
theorem Ym8.rd {w:World}{G:Nat->Prop}{own:Bool}{sz:Nat}{F:Nat->Prop}{v:Value}{es:List (List Cell)}(h:Ym8 w (Yna w G own) sz F v es) :
  Rd w (λb=>G b\/F b) v (.list es):=by
 obtain⟨e,xs,Fs,h1,h2,h3,h4,h5,h6,h7,_⟩:=h
 refine Y1bc h1 h2 (λb hb=>.inr (h3 b hb)) λj u c hu hc => ?_
 exact Rd.mono (λ_ _=>rfl) (λb hb=>hb.imp id (h4 j b)) (h7 j u c hu hc).toRd
theorem Ym8.own {w:World}{G:Nat->Prop}{sz:Nat}{F:Nat->Prop}{v:Value}{es:List (List Cell)}(h:Ym8 w (Yna w G true) sz F v es):OwnC w F v (.list es):=by
 obtain⟨e,xs,Fs,h1,h2,h3,h4,h5,h6,h7,h0⟩:=h
 exact .arr h1 h2 h3 h4 h5 h6 h7 h0
theorem Ym8.mono {w w':World}{G G':Nat->Prop}{own:Bool}{sz:Nat}{F:Nat->Prop}{v:Value}{es:List (List Cell)}(h:Ym8 w (Yna w G own) sz F v es)
  (hG:∀ b,G b->G' b/\w'.heap[b]? = w.heap[b]?) (hF:∀ b,F b->w'.heap[b]? = w.heap[b]?):Ym8 w' (Yna w' G' own) sz F v es:=by
 obtain⟨e,xs,Fs,h1,h2,h3,h4,h5,h6,h7,h0⟩:=h
 exact⟨e,xs,Fs,Y1am (λb hb=>hF b (h3 b hb)) h1,h2,h3,h4,h5,h6,λj u c hu hc=>(h7 j u c hu hc).mono hG λb hb=>hF b (h4 j b hb),h0⟩
def Yyj (z:Option Value) (o:Option Cell):Prop:=o=none\/∃ v,z=some v/\Yq7 v/\(o=some (normLit v)\/o=some .any)
def You:TypeDesc->Value->Prop
 | .array n _,v=>n=2/\∃ a b:ByteArray,v=.agg #[.string a,.string b]
 | d,v=>MapKept.IsKey d v
def Yol (w:World) (k:MK) (F:Nat->Prop) (b:Nat) (f:Value->Option Cell):Prop:=
 ∃ (es:Array MapEntry) (clock:Nat) (Fs:Nat->Nat->Prop),w.heap[b]? = some (.map es clock)/\F b/\(∀ j x,Fs j x->F x/\x≠b)/\(∀ j j' x,j≠j'->Fs j x->¬ Fs j' x) /\
  (∀ e∈es.toList,You k.d e.key)/\(es.toList.map (·.key)).Nodup /\
  (∀ key,You k.d key->(∀ e∈es.toList,e.key≠key)->Yyj k.z (f key)) /\
  (∀ (j:Nat) (e:MapEntry),es[j]? = some e->∃ c,f e.key=some c/\OwnC w (Fs j) e.val c)
theorem Yol.mono {w w':World}{k:MK}{F F':Nat->Prop}{b:Nat}{f:Value->Option Cell}(h:Yol w k F b f) (hF:∀ x,F x->F' x) (hw:∀ x,F x->w'.heap[x]? = w.heap[x]?):Yol w' k F' b f:=by
 obtain⟨es,clock,Fs,h1,h2,h3,h4,h5,h6,h7,h8⟩:=h
 refine⟨es,clock,Fs,by rw[hw _ h2];exact h1,hF _ h2,λj x hx=>⟨hF _ (h3 j x hx).1,(h3 j x hx).2⟩,h4,h5,h6,h7,λj e he => ?_⟩
 obtain⟨c,e1,e2⟩:=h8 j e he
 exact⟨c,e1,e2.mono λx hx=>hw x (h3 j x hx).1⟩
def Yov (w:World) (ι:Interp) (ob:Nat->Ob) (id:Nat):Ob->Prop
 | .free | .dead=>∀ b,¬ ι.fp id b
 | .box cs=>ι.fp id (ι.blk id)/\∃ (arr:Array Value) (ty:TypeId),w.heap[ι.blk id]? = some (.cells arr ty (0,0))/\Ylq (Ynt w ι ob) cs arr.toList
 | .arr own sz es=>Ym8 w (Yna w ι.G own) sz (ι.fp id) (ι.sl id) es
 | .map nn k f=>match nn with
  | true=>(∀ b,¬ ι.fp id b)/\∀ key,You k.d key->Yyj k.z (f key)
  | false=>Yol w k (ι.fp id) (ι.blk id) f
def Ync (w w':World) (ι ι':Interp) (K:Prop) (id:Nat):Ob->Ob->Prop
 | .free,_=>True
 | .dead,.dead=>True
 | .box _,.box _=>ι'.blk id=ι.blk id
 | .box _,.dead=>True
 | .arr _ sz _,.arr _ sz' _=>ι'.sl id=ι.sl id/\sz'=sz/\(K->∀ b,ι.fp id b->(ι'.fp id b\/ι'.G b)/\w'.heap[b]? = w.heap[b]?)
 | .arr ..,.dead=>True
 | .map nn k _,.map nn' k' _=>ι'.blk id=ι.blk id/\nn'=nn/\k'=k/\(K->∀ b,ι.fp id b->(ι'.fp id b\/ι'.G b)/\w'.heap[b]? = w.heap[b]?)
 | .map ..,.dead=>True
 | _,_=>False
def KV (P:Program) (w:World) (ι:Interp) (n:String) (Q:Array Value->Prop):Prop:=
 ∀ g,P.globalNamed n=some g->g<w.heap.size/\(∀ i,¬ ι.fp i g)/\∃ cs,w.var? P n=some cs/\Q cs
def Y1of:String := "internal" ++ (String.singleton (Char.ofNat 47) ++ "strconv.uint64pow10")
def knE:Bool:=false
def Kn (P:Program) (w:World) (ι:Interp):Prop:=
 KV P w ι Y1of (λcs=>cs=(Lib.pow10Tab.map λz=>Value.int .u64 z).toArray)/\(knE->KV P w ι "strconv.ErrSyntax" (λcs=>∃ t p,cs=#[.iface t p]))
theorem Kn.none {P:Program}{w:World}{ι:Interp}(h1:P.globalNamed Y1of=.none) (h2:P.globalNamed "strconv.ErrSyntax" = .none):Kn P w ι:=
 ⟨λg h=>absurd (h1.symm.trans h) sW,λ_ g h=>absurd (h2.symm.trans h) sW⟩
structure Ent (P:Program) where
 w:World
 ι:Interp
 ob:Nat->Ob
 kn:Kn P w ι
def Ent.M {P:Program}(E:Ent P) (b:Nat):Prop:=∃ i,E.ι.fp i b
structure Rel {P:Program} (E:Ent P) (s:St) (ι:Interp) (a:Act) (w:World):Prop where
 len:s.regs.length=a.tmps.size
 defers:a.defers=[]
 regs:∀ t,Ymg w ι s.obj (s.reg t) (a.tmps.getD t undef)
 objs:∀ i,Yov w ι s.obj i (s.obj i)
 disj:∀ i j b,i≠j->ι.fp i b->¬ ι.fp j b
 gfp:∀ i b,ι.fp i b->¬ ι.G b
 own:∀ i b,ι.fp i b->E.M b\/E.w.heap.size<=b
 lt:∀ i b,ι.fp i b->b<w.heap.size
 glt:∀ b,ι.G b->b<w.heap.size
 frame:∀ b,b<E.w.heap.size->¬ E.M b->w.heap[b]? = E.w.heap[b]?
 size:E.w.heap.size<=w.heap.size
 os:w.os=E.w.os
 out:w.output=E.w.output
 ent:∀ i,Ync E.w w E.ι ι False i (E.ob i) (s.obj i)
 gg:∀ b,E.ι.G b->ι.G b
 gown:∀ b,ι.G b->E.ι.G b\/E.M b\/E.w.heap.size<=b
 ment:∀ i,s.m<=i->E.ob i=.free
theorem Ync.trans {w0 w w':World}{ι0 ι ι':Interp}{K:Prop}{i:Nat}{o1 o2 o3:Ob}(h:Ync w0 w ι0 ι False i o1 o2) (k:Ync w w' ι ι' K i o2 o3):Ync w0 w' ι0 ι' False i o1 o3:=by
 cases o1<;>cases o2<;>cases o3<;>simp_all[Ync]
structure Ext (K:Nat->Prop) (w:World) (ι:Interp) (ob:Nat->Ob) (w':World) (ι':Interp) (ob':Nat->Ob):Prop where
 g:∀ b,ι.G b->ι'.G b/\w'.heap[b]? = w.heap[b]?
 o:∀ id,Ync w w' ι ι' (K id) id (ob id) (ob' id)
section
variable {K:Nat->Prop}{w w':World}{ι ι':Interp}{ob ob':Nat->Ob}
theorem Ext.keepsNotFree (h:Ext K w ι ob w' ι' ob') {id:Nat}(k:notFree ob id):notFree ob' id:=by
 have:=h.o id
 unfold notFree at *
 cases e:ob id<;>cases e':ob' id<;>simp_all[Ync]
theorem Ext.arr_inv (h:Ext K w ι ob w' ι' ob') {id:Nat}(k:notFree ob id) {own:Bool}{sz:Nat}{es:List (List Cell)}(e':ob' id=.arr own sz es) :
  ∃ own1 es1,ob id=.arr own1 sz es1/\ι'.sl id=ι.sl id/\(K id->∀ b,ι.fp id b->(ι'.fp id b\/ι'.G b)/\w'.heap[b]? = w.heap[b]?):=by
 have:=h.o id
 unfold notFree at k
 rw[e']at this
 cases e:ob id with
 | free=>simp[e]at k
 | dead=>simp[e,Ync]at this
 | box cs=>simp[e,Ync]at this
 | map nn k f=>simp[e,Ync]at this
 | arr o1 s1 e1=>
  simp only[e,Ync]at this
  obtain⟨h1,rfl,h3⟩:=this
  exact⟨o1,e1,rfl,h1,h3⟩
theorem Ext.reads_inv (h:Ext K w ι ob w' ι' ob') {id:Nat}(k:notFree ob id) (e':(ob' id).reads) :
  (ob id).reads/\(K id->∀ b,ι.fp id b->(ι'.fp id b\/ι'.G b)/\w'.heap[b]? = w.heap[b]?):=by
 have:=h.o id
 unfold notFree at k
 cases e2:ob' id<;>simp only[e2,Ob.reads]at e'<;>cases e:ob id<;>simp_all[Ync,Ob.reads]
theorem Ext.live_inv (h:Ext K w ι ob w' ι' ob') {src:Option Nat}(hs:∀ id,src=some id->notFree ob id) (k:live ob' src):live ob src:=by
 cases src with
 | none=>trivial
 | some id=>
  exact(h.reads_inv (hs id rfl) k).1
theorem Ext.rdSet (h:Ext K w ι ob w' ι' ob') {src:Option Nat}(hs:∀ id,src=some id->notFree ob id) (hk:∀ id,src=some id->K id) (k:live ob' src) :
  ∀ b,rdSet ι src b->rdSet ι' src b/\w'.heap[b]? = w.heap[b]? := by
 intro b hb
 cases src with
 | none=>exact h.g b hb
 | some id=>
  have h3:=(h.reads_inv (hs id rfl) k).2
  rcases hb with hb|hb
  ·exact⟨.inl (h.g b hb).1,(h.g b hb).2⟩
  ·have:=h3 (hk id rfl) b hb
   exact⟨this.1.elim .inr .inl,this.2⟩
def AC.src:AC->Option Nat
 | .bor id _=>some id
 | .iptr src _=>src
 | .sub id _ _=>some id
 | _=>none
theorem Ymf.ext (h:Ext K w ι ob w' ι' ob') {c:AC}{v:Value}(hk:∀ id,c.src=some id->K id) (r:Ymf w ι ob c v):Ymf w' ι' ob' c v:=by
 cases c with
 | top=>trivial
 | val c=>exact Rd.mono (λb hb=>(h.g b hb).2) (λb hb=>(h.g b hb).1) r
 | ref id=>
  refine⟨h.keepsNotFree r.1,λown sz es e' => ?_⟩
  obtain⟨o1,e1,e2,e3,_⟩:=h.arr_inv r.1 e'
  rw[e3];exact r.2 _ _ _ e2
 | bor id c=>
  refine⟨h.keepsNotFree r.1,λhl => ?_⟩
  have hs:∀ i,some id=some i->notFree ob i:=λi e=>by cases e;exact r.1
  have hr:=h.rdSet hs hk hl
  exact Rd.mono (λb hb=>(hr b hb).2) (λb hb=>(hr b hb).1) (r.2 (h.live_inv hs hl))
 | ptr id off=>
  refine⟨h.keepsNotFree r.1,λcs e' => ?_⟩
  have:=h.o id
  have hn:=r.1
  unfold notFree at hn
  rw[e']at this
  cases e:ob id with
  | free=>simp[e]at hn
  | dead=>simp[e,Ync]at this
  | arr o1 s1 e1=>simp[e,Ync]at this
  | map nn k f=>simp[e,Ync]at this
  | box cs1=>
   simp only[e,Ync]at this
   rw[this];exact r.2 _ e
 | eptr id i off=>
  refine⟨h.keepsNotFree r.1,λown sz es e' => ?_⟩
  obtain⟨o1,e1,e2,e3,_⟩:=h.arr_inv r.1 e'
  rw[e3];exact r.2 _ _ _ e2
 | iptr src cs=>
  refine⟨λid e=>h.keepsNotFree (r.1 id e),λhl => ?_⟩
  have hr:=h.rdSet r.1 hk hl
  obtain⟨b,o,xs,e,hb,hx,ha⟩:=r.2 (h.live_inv r.1 hl)
  exact⟨b,o,xs,e,(hr b hb).1,λj u hu=>(Yq1 (hr b hb).2).trans (hx j u hu),ha.imp λx c hc=>Rd.mono (λb hb=>(hr b hb).2) (λb hb=>(hr b hb).1) hc⟩
 | sub id i p=>
  refine⟨h.keepsNotFree r.1,λown sz es e' => ?_⟩
  obtain⟨o1,e1,e2,e3,_⟩:=h.arr_inv r.1 e'
  obtain⟨b,h1,h2,h3⟩:=r.2 _ _ _ e2
  have hs:∀ i,some id=some i->notFree ob i:=λi e=>by cases e;exact r.1
  have hr:=h.rdSet hs hk (by show (ob' id).reads;rw[e'];trivial) b h2
  exact⟨b,by rw[e3];exact h1,hr.1,(Yq1 hr.2).trans h3⟩
 | mref id=>
  refine⟨h.keepsNotFree r.1,λnn k f e' => ?_⟩
  have:=h.o id
  have hn:=r.1
  unfold notFree at hn
  rw[e']at this
  cases e:ob id with
  | free=>simp[e]at hn
  | dead=>simp[e,Ync]at this
  | arr o1 s1 e1=>simp[e,Ync]at this
  | box cs1=>simp[e,Ync]at this
  | map nn1 k1 f1=>
   simp only[e,Ync]at this
   rw[this.1,this.2.1];exact r.2 _ _ _ e
def SV.acs:SV->List AC
 | .one c=>[c]
 | .agg cs=>cs
def AV.acs:AV->List AC
 | .sv s=>s.acs
 | .tup l=>l.flatMap SV.acs
theorem Ylq.impMem {α β:Type}{R S:α->β->Prop}:∀ {as:List α}{bs:List β},(∀ a b,a∈as->R a b->S a b)->Ylq R as bs->Ylq S as bs
 | [],[],_,_=>trivial
 | _ :: _,_ :: _,hi,h=>⟨hi _ _ aj h.1,Ylq.impMem (λa b ha=>hi a b (ai _ ha)) h.2⟩
 | [],_ :: _,_,h=>h.elim
 | _ :: _,[],_,h=>h.elim
theorem Ymo.ext (h:Ext K w ι ob w' ι' ob') {x:SV}{v:Value}(hk:∀ c∈x.acs,∀ id,c.src=some id->K id) (r:Ymo w ι ob x v):Ymo w' ι' ob' x v:=by
 cases x with
 | one c=>exact⟨Ymf.ext h (hk c (by simp[SV.acs])) r.1,r.2⟩
 | agg cs=>
  obtain⟨arr,e,ha⟩:=r
  exact⟨arr,e,ha.impMem λc u hm hc=>⟨Ymf.ext h (hk c hm) hc.1,hc.2⟩⟩
theorem Ymg.ext (h:Ext K w ι ob w' ι' ob') {x:AV}{v:Value}(hk:∀ c∈x.acs,∀ id,c.src=some id->K id) (r:Ymg w ι ob x v):Ymg w' ι' ob' x v:=by
 cases x with
 | sv s=>exact Ymo.ext h hk r
 | tup l=>
  obtain⟨arr,e,ha⟩:=r
  exact⟨arr,e,ha.impMem λc u hm hc=>Ymo.ext h (λx hx=>hk x (List.mem_flatMap.2 ⟨c,hm,hx⟩)) hc⟩
def Y22g (w w':World) (ι ι':Interp) (id:Nat):Prop:=
 ι'.blk id=ι.blk id/\ι'.sl id=ι.sl id/\(∀ b,ι'.fp id b ↔ ι.fp id b)/\∀ b,ι.fp id b->w'.heap[b]? = w.heap[b]?
def Ob.acs:Ob->List AC
 | .box cs=>cs
 | _=>[]
theorem Yov.keep (h:Ext K w ι ob w' ι' ob') {id:Nat}{o:Ob}(hk:∀ c∈o.acs,∀ id,c.src=some id->K id) (u:Y22g w w' ι ι' id) (r:Yov w ι ob id o):Yov w' ι' ob' id o:=by
 obtain⟨u1,u2,u3,u4⟩:=u
 cases o with
 | free=>exact λb hb=>r b ((u3 b).1 hb)
 | dead=>exact λb hb=>r b ((u3 b).1 hb)
 | box cs=>
  obtain⟨r1,arr,ty,r2,r3⟩:=r
  refine⟨by rw[u1];exact(u3 _).2 r1,arr,ty,by rw[u1,u4 _ r1];exact r2,r3.impMem λc v hm hc=>⟨Ymf.ext h (hk c hm) hc.1,hc.2⟩⟩
 | arr own sz es=>
  have hf:ι'.fp id=ι.fp id:=funext λb=>propext (u3 b)
  unfold Yov at *
  rw[u2,hf]
  exact Ym8.mono r h.g u4
 | map nn k f=>
  unfold Yov at *
  cases nn with
  | true=>exact⟨λb hb=>r.1 b ((u3 b).1 hb),r.2⟩
  | false=>
   simp only at *
   rw[u1]
   exact r.mono (λx hx=>(u3 x).2 hx) u4
end
theorem Rel.step {P:Program}{E:Ent P}{s:St}{ι:Interp}{a:Act}{w:World}(h:Rel E s ι a w) {K:Nat->Prop}{s':St}{ι':Interp}{w':World}
  (hx:Ext K w ι s.obj w' ι' s'.obj)
  (hreg:∀ t,(s'.reg t=s.reg t/\∀ c∈(s.reg t).acs,∀ id,c.src=some id->K id)\/Ymg w' ι' s'.obj (s'.reg t) (a.tmps.getD t undef))
  (hlen:s'.regs.length=s.regs.length) (hm:s'.m=s.m)
  (hobj:∀ i,(s'.obj i=s.obj i/\Y22g w w' ι ι' i/\∀ c∈(s.obj i).acs,∀ id,c.src=some id->K id)\/Yov w' ι' s'.obj i (s'.obj i))
  (disj:∀ i j b,i≠j->ι'.fp i b->¬ ι'.fp j b) (gfp:∀ i b,ι'.fp i b->¬ ι'.G b) (own:∀ i b,ι'.fp i b->E.M b\/E.w.heap.size<=b)
  (lt:∀ i b,ι'.fp i b->b<w'.heap.size) (glt:∀ b,ι'.G b->b<w'.heap.size)
  (frame:∀ b,b<E.w.heap.size->¬ E.M b->w'.heap[b]? = w.heap[b]?) (size:w.heap.size<=w'.heap.size) (os:w'.os=w.os) (out:w'.output=w.output)
  (hG:∀ b,ι'.G b->ι.G b\/(∃ i,ι.fp i b)\/w.heap.size<=b:=by exact λ_ hb=>.inl hb) :
  Rel E s' ι' a w' where
 len:=hlen.trans h.len
 defers:=h.defers
 regs t:=(hreg t).elim (λ⟨e,hk⟩=>by rw[e];exact Ymg.ext hx hk (h.regs t)) id
 objs i:=(hobj i).elim (λ⟨e,hu,hk⟩=>by rw[e];exact Yov.keep hx hk hu (h.objs i)) id
 disj:=disj
 gfp:=gfp
 own:=own
 lt:=lt
 glt:=glt
 frame b hb hm:=(frame b hb hm).trans (h.frame b hb hm)
 size:=aN h.size size
 os:=os.trans h.os
 out:=out.trans h.out
 ent i:=(h.ent i).trans (hx.o i)
 gg b hb:=(hx.g b (h.gg b hb)).1
 gown b hb:=by
  rcases hG b hb with h1|⟨i,h1⟩|h1
  ·exact h.gown b h1
  ·exact .inr (h.own i b h1)
  ·exact .inr (.inr (aN h.size h1))
 ment i hi:=h.ment i (by rw[<- hm];exact hi)
def St.put (s:St) (dst:Option Nat) (v:AV):St:=
 match dst with
 | some d=>{ s with regs:=s.regs.set d v }
 | none=>s
theorem St.obj_put (s:St) (dst:Option Nat) (v:AV):(s.put dst v).obj=s.obj:=by cases dst<;>rfl
theorem Rel.put {P:Program}{E:Ent P}{s:St}{ι:Interp}{a:Act}{w:World}(h:Rel E s ι a w) (dst:Option Nat) {x:AV}{v:Value}(hv:Ymg w ι s.obj x v) :
  Rel E (s.put dst x) ι (a.put dst v) w:=by
 cases dst with
 | none=>exact h
 | some d=>
  have hl:=h.len
  refine { len := ?_,defers:=h.defers,regs:=λt => ?_,objs:=h.objs,disj:=h.disj,gfp:=h.gfp,own:=h.own,lt:=h.lt,glt:=h.glt,frame:=h.frame,size:=h.size,os:=h.os,out:=h.out,ent:=λi=>by rw[St.obj_put];exact h.ent i,gg:=h.gg,gown:=h.gown,ment:=h.ment }
  ·simp[St.put,Act.put,hl]
  ·have ht:=h.regs t
   show Ymg w ι s.obj _ _
   simp only[St.put,Act.put,St.reg,ao,bM,bA,cF]
   simp only[St.reg,ao,bA]at ht
   by_cases hd:d=t
   ·subst hd
    by_cases hs:d<a.tmps.size
    ·simp[hl,hs,hv]
    ·have e1:s.regs[d]? = none:=by simp;omega
     have e2:a.tmps[d]? = none:=by simp;omega
     simp[hl,hs]
     exact⟨trivial,λh=>(h rfl).elim⟩
   ·simp[hd,ht]
inductive Item where
 | asm (p:Prop)
 | obl (p:Prop)
def VC:List Item->Prop->Prop
 | [],K=>K
 | .asm p :: r,K=>p->VC r K
 | .obl p :: r,K=>p/\VC r K
theorem VC.append:∀ {l r:List Item}{K:Prop},VC (l++r) K->VC l (VC r K)
 | [],_,_,h=>h
 | .asm _ :: l,_,_,h=>λp=>VC.append (l:=l) (h p)
 | .obl _ :: l,_,_,h=>⟨h.1,VC.append (l:=l) h.2⟩
section tables
variable (P:Program)
def Ypc (T:TypeId):Option Nat:=(P.info? T).map (·.size)
def Y161 (T:TypeId):Option Bool:=(P.underlying T).map λd=>match d with | .struct _ | .array _ _=>true|_=>false
def Y1qd (T:TypeId) (f:Nat):Option (Nat×TypeId×Nat):=
 match P.underlying T with
 | some (.struct fs)=>match fs[f]? with
  | some fd=>match Ypc P fd.type with|some n=>some (fd.offset,fd.type,n)|none=>none
  | none=>none
 | _=>none
def Yyc (T:TypeId):Option TypeId:=match P.underlying T with|some (.slice e)=>some e|_=>none
variable {P}{w:World}
theorem Y16h {T:TypeId}{b:Bool}(h:Y161 P T=some b):(isAgg T).run P w=.ok b w:=by
 unfold Y161 at h
 cases hu:P.underlying T with
 | none=>simp[hu]at h
 | some d=>
  simp[hu]at h
  simp only[isAgg,aQ,aK hu,aZ]
  cases d<;>simp_all
theorem Yro {T:TypeId}{n:Nat}(h:Ypc P T=some n):(Go.sizeOf T).run P w=.ok n w:=by
 unfold Ypc at h
 cases hi:P.info? T with
 | none=>simp[hi]at h
 | some i=>simp[hi]at h;simp[Go.sizeOf,typeInfo,hi,h]
theorem Yq2 (b o j:Nat):(⟨b,o,none⟩:Addr).add j=⟨b,o+j,none⟩:=by unfold Addr.add;split<;>simp_all
theorem Yu7 {T:TypeId}{n b o:Nat}{xs:List Value}(ha:Y161 P T=some true) (hn:Ypc P T=some n) (hl:xs.length=n)
  (hx:∀ (j:Nat) (u:Value),xs[j]? = some u->w.cell? ⟨b,o+j,none⟩=some u):(loadVar T ⟨b,o,none⟩).run P w=.ok (.agg xs.toArray) w:=by
 have h:=run_loadCells_list (P:=P) w ⟨b,o,none⟩ xs λj v hv=>by rw[Yq2];exact hx j v hv
 rw[hl]at h
 simp[loadVar,Y16h ha,Yro hn,h]
theorem Yy0 {T:TypeId}{b o:Nat}{u:Value}(ha:Y161 P T=some false) (hx:w.cell? ⟨b,o,none⟩=some u):(loadVar T ⟨b,o,none⟩).run P w=.ok u w:=by
 simp[loadVar,Y16h ha,hx]
end tables
def Y10f:Value->Bool
 | .string s=>decide (s.size<=maxLen)
 | .agg _ | .tuple _=>false
 | _=>true
theorem Yuq {v:Value}(h:Y10f v):Yq7 v:=by
 cases v<;>first|trivial|(simp[Y10f]at h;done)|(simp[Y10f]at h;exact h)
def St.ev (s:St):Operand->Option AV
 | .tmp t=>match s.reg t with | .sv (.agg [])=>none|v=>some v
 | .const v=>if Y10f v then some (.sv (.one (.val (.lit v)))) else none
 | .global _=>none
 | .func f=>some (.sv (.one (.val (.lit (.func (.func f) #[] #[])))))
section
variable {P:Program}{E:Ent P}{s:St}{ι:Interp}{a:Act}{w:World}
theorem Ypy (h:Rel E s ι a w) {x:Operand}{v:AV}(e:s.ev x=some v):Ymg w ι s.obj v (a.eval x):=by
 cases x with
 | tmp t=>
  simp only[St.ev]at e
  split at e
  ·cases e
  ·simp only[aa]at e;subst e;exact h.regs t
 | const u=>
  simp only[St.ev]at e
  split at e
  ·simp only[aa]at e;subst e;rename_i hb;exact⟨.lit (Yuq hb),λ_=>(Yuq hb).one⟩
  ·cases e
 | global g=>simp[St.ev]at e
 | func f=>simp only[St.ev,aa]at e;subst e;exact⟨.lit trivial,λ_=>rfl⟩
def St.ac (s:St) (x:Operand):Option AC:=match s.ev x with|some (.sv (.one c))=>some c|_=>none
theorem Yn7 (h:Rel E s ι a w) {x:Operand}{c:AC}(e:s.ac x=some c):Ymf w ι s.obj c (a.eval x):=by
 unfold St.ac at e
 split at e
 ·simp only[aa]at e;subst e;rename_i he;exact(Ypy h he).1
 ·cases e
def St.lit (s:St) (x:Operand):Option Value:=match s.ac x with|some (.val (.lit v))=>some v|_=>none
theorem Ypi (h:Rel E s ι a w) {x:Operand}{v:Value}(e:s.lit x=some v):a.eval x=v/\Yq7 v:=by
 unfold St.lit at e
 split at e
 ·simp only[aa]at e;subst e;rename_i hac;exact Rd.lit_inv (show Rd w ι.G _ _ from Yn7 h hac)
 ·cases e
def St.int (s:St) (x:Operand):Option (IntKind×Int):=match s.lit x with|some (.int k n)=>some (k,n)|_=>none
theorem Ysn (h:Rel E s ι a w) {x:Operand}{k:IntKind}{n:Int}(e:s.int x=some (k,n)):a.eval x=.int k n:=by
 unfold St.int at e
 split at e
 ·simp only[aa,al]at e
  obtain⟨rfl,rfl⟩:=e
  exact(Ypi h ‹_›).1
 ·cases e
inductive Mode where
 | rd
 | own (o:Bool) (sz:Nat)
 | ptr
 | agg (ms:List (Option (Bool×Nat)))
 | map
inductive Ghost where
 | sel (ids keep:List Nat)
 | lock (id:Nat)
 | nilreg (t:Nat) (own:Bool) (sz:Nat)
 | nilbox (id k:Nat) (own:Bool) (sz:Nat)
 | nilmreg (t:Nat) (k:MK)
 | nilmbox (id j:Nat) (k:MK)
 | move (id:Nat)
 | blank (id k:Nat)
 | cap (t id:Nat)
 | pull (b:Nat) (e:List Cell) (l:List (Nat×Nat))
inductive AEx where
 | normal
 | exit (id:Nat)
 | ret
inductive Orc where
 | bool (b:Bool)
 | cells (cs:List Cell)
 | call (ms:List Mode) (objs:List Ob) (res:AV)
 | br (l r:List Orc)
 | ghost (g:Ghost)
 | loop (m:Nat) (t:St) (I:Nat->St->Prop) (outs:List (Prop×AEx×St×List Orc))
 | out (i:Nat)
 | goto (m:Nat) (s:St)
 | fin (ids:List Nat)
 | draw (tids:List (Nat×List Nat))
 | drawT (p q c:Nat) (tids:List (Nat×List Nat))
 | sub
 | bytes (l:List UInt8)
 | take (e:List Cell) (es:List (List Cell)) (sz:Nat)
 | subcall (e:List Cell) (es:List (List Cell)) (sz:Nat)
 | mkmap (k:MK)
 | upd (f:Value->Option Cell)
 | taken (es:List (List Cell)) (sz:Nat) (f:Value->Option Cell)
 | subs (e:List Cell)
 | pulls (e:List Cell) (zs:List Nat)
def Ytz (src:Option Nat):Cell->AC
 | .lit v=>.val (.lit v)
 | .list es=>match src with|none=>.val (.list es)|some id=>.bor id (.list es)
 | .any=>.top
 | .cap v=>match src with|none=>.val (.cap v)|some id=>.bor id (.cap v)
 | .clo f v=>match src with|none=>.val (.clo f v)|some id=>.bor id (.clo f v)
theorem Ywc {ob:Nat->Ob}{src:Option Nat}{c:Cell}{u:Value}(hs:∀ id,src=some id->notFree ob id) (h:Rd w (rdSet ι src) u c):Ynt w ι ob (Ytz src c) u:=by
 refine⟨?_,h.one⟩
 cases c with
 | lit v=>obtain⟨rfl,hv⟩:=h.lit_inv;exact .lit hv
 | list es=>
  cases src with
  | none=>exact h
  | some id=>exact⟨hs id rfl,λ_=>h⟩
 | any=>trivial
 | cap v=>
  cases src with
  | none=>exact h
  | some id=>exact⟨hs id rfl,λ_=>h⟩
 | clo f v=>
  cases src with
  | none=>exact h
  | some id=>exact⟨hs id rfl,λ_=>h⟩
def Yt1 (s:St):Option Nat->Bool
 | none=>true
 | some id=>match s.obj id with | .arr .. => true | .map .. => true|_=>false
theorem Yt8 {s:St}{src:Option Nat}(h:Yt1 s src):live s.obj src:=by
 cases src with
 | none=>trivial
 | some id=>
  unfold Yt1 at h
  simp only at h
  show (s.obj id).reads
  split at h
  ·rename_i own sz es e;rw[e];trivial
  ·rename_i nn k f e;rw[e];trivial
  ·cases h
def Yxc (id i:Nat):Nat->List Cell->List AC
 | _,[]=>[]
 | p,c :: r=>(match c with | .lit v=>.val (.lit v) | .list _=>.sub id i p|_=>.top) :: Yxc id i (p+1) r
theorem Yy7 (id i:Nat):∀ (l:List Cell) (p:Nat),(Yxc id i p l).length=l.length
 | [],_=>rfl
 | _ :: r,p=>by simp only[Yxc,aD,Yy7 id i r (p+1)]
theorem Y12s {id i sz b:Nat}(hn:notFree s.obj id) (hs:∀ own sz' es,s.obj id=.arr own sz' es->sz'=sz) (hb:(ι.sl id).ownBlock=some b) (hG:rdSet ι (some id) b) :
  ∀ (l:List Cell) (p:Nat) (ys:List Value),(∀ (k:Nat) (u:Value),ys[k]? = some u->w.cell? ⟨b,i * sz+p+k,none⟩=some u)->Ylq (λu c=>∃ F':Nat->Prop,OwnC w F' u c) ys l ->
   Ylq (Ynt w ι s.obj) (Yxc id i p l) ys
 | [],_,[],_,_=>trivial
 | [],_,_ :: _,_,h=>h.elim
 | _ :: _,_,[],_,h=>h.elim
 | c :: r,p,y :: ys,hy,h=>by
  obtain⟨F',hN⟩:=h.1
  have h0:w.cell? ⟨b,i * sz+p,none⟩=some y:=by simpa using hy 0 y rfl
  refine⟨⟨?_,hN.one⟩,Y12s hn hs hb hG r (p+1) ys (λk u hu => ?_) h.2⟩
  ·cases c with
   | lit v=>cases hN with|lit h1=>exact .lit h1
   | list es=>exact⟨hn,λown sz' es' ho=>⟨b,hb,hG,by rw[hs own sz' es' ho];exact h0⟩⟩
   | any=>trivial
   | cap v=>trivial
   | clo f v=>trivial
  ·have:=hy (k+1) u (by simpa using hu)
   rw[show i * sz+(p+1)+k=i * sz+p+(k+1) by omega];exact this
def readAt (s:St) (x:AC) (n:Nat) (q:List Orc):Option (List AC×List Item×List Orc):=
 match x with
 | .ptr id off=>match s.obj id with
  | .box cs=>if ((cs.drop off).take n).length=n then some ((cs.drop off).take n,[],q) else none
  | _=>none
 | .iptr src cs=>if Yt1 s src/\(cs.take n).length=n then some ((cs.take n).map (Ytz src),[],q) else none
 | .eptr id i off=>match s.obj id with
  | .arr own sz es=>match q with
   | .cells e :: q=>if ((e.drop off).take n).length=n/\e.length=sz then
     some (((e.drop off).take n).map (Ytz (if own then some id else none)),[.obl (es[i]? = some e)],q) else none
   | .sub :: q=>if n=1/\off<sz/\own then some ([.sub id i off],[.obl (i<es.length)],q) else none
   | .subs e :: q=>if ((e.drop off).take n).length=n/\e.length=sz/\own then some (Yxc id i off ((e.drop off).take n),[.obl (es[i]? = some e)],q) else none
   | _=>none
  | _=>none
 | .val (.cap v)=>if n=1 then some ([.val (.lit v)],[],q) else none
 | _=>none
theorem Ypd {α:Type}{sz:Nat}:∀ {es:List (List α)},(∀ e∈es,e.length=sz)->∀ {i k:Nat}{e:List α}{c:α},es[i]? = some e->e[k]? = some c->es.flatten[i * sz+k]? = some c
 | [],_,i,k,e,c,h,_=>by simp at h
 | x :: es,hsz,0,k,e,c,h,hk=>by
  simp only[bX,aa]at h
  subst h
  simp only[Nat.zero_mul,ck,bP]
  rw[bg (List.getElem?_eq_some_iff.1 hk).1];exact hk
 | x :: es,hsz,i+1,k,e,c,h,hk=>by
  have hx:x.length=sz:=hsz x aj
  have:=Ypd (es:=es) (λy hy=>hsz y (ai _ hy)) (by simpa using h) hk
  simp only[bP]
  rw[aR (by rw[hx,bZ];omega),hx]
  rw[show (i+1) * sz+k - sz=i * sz+k by rw[bZ];omega]
  exact this
theorem Ylq.map_left {α β γ:Type}{R:β->γ->Prop}(f:α->β):∀ {as:List α}{bs:List γ},Ylq (λa b=>R (f a) b) as bs->Ylq R (as.map f) bs
 | [],[],_=>trivial
 | _ :: _,_ :: _,h=>⟨h.1,h.2.map_left f⟩
 | [],_ :: _,h=>h.elim
 | _ :: _,[],h=>h.elim
theorem Ylq.flip {α β:Type}{R:α->β->Prop}:∀ {as:List α}{bs:List β},Ylq R as bs->Ylq (λb a=>R a b) bs as
 | [],[],_=>trivial
 | _ :: _,_ :: _,h=>⟨h.1,h.2.flip⟩
 | [],_ :: _,h=>h.elim
 | _ :: _,[],h=>h.elim
theorem Ym8.elem {N:(Nat->Prop)->Value->Cell->Prop}{sz:Nat}{F:Nat->Prop}{v:Value}{es:List (List Cell)}(h:Ym8 w N sz F v es) {i:Nat}{e:List Cell}(hi:es[i]? = some e)
  {b:Nat} (hb:v.ownBlock=some b) :
  ∃ ys:List Value,(∀ (k:Nat) (u:Value),ys[k]? = some u->w.cell? ⟨b,i * sz+k,none⟩=some u)/\Ylq (λu c=>∃ F':Nat->Prop,(∀ x,F' x->F x)/\N F' u c) ys e:=by
 obtain⟨ty,xs,Fs,h1,h2,h3,h4,h5,h6,h7,_⟩:=h
 have hl:xs.length=es.flatten.length:=by rw[h1.1,Ymy h2]
 have he:e.length=sz:=h2 e (aE hi)
 have hpos:∀ (k:Nat) (c:Cell),e[k]? = some c->es.flatten[i * sz+k]? = some c:=λk c hk=>Ypd h2 hi hk
 have hlt:∀ k,k<sz->i * sz+k<xs.length:=by
  intro k hk
  rw[hl]
  obtain⟨c,hc⟩:∃ c,e[k]? = some c:=⟨e[k]'oW,av _⟩
  exact(List.getElem?_eq_some_iff.1 (hpos k c hc)).1
 have hcells:=Ypn.cells (g:=b) h1 hb
 refine⟨(xs.drop (i * sz)).take sz,?_,?_⟩
 ·intro k u hu
  rw[aV]at hu
  split at hu
  ·rw[aX]at hu
   have:=hcells (i * sz+k) u hu
   rw[Yq2]at this
   simpa using this
  ·cases hu
 ·refine Ylq.of_get ?_ ?_
  ·rw[au,ax,he]
   rcases cZ sz with h0|h0
   ·omega
   ·have:=hlt (sz - 1) oW
    omega
  ·intro k u c hu hc
   rw[aV]at hu
   split at hu
   ·rw[aX]at hu
    exact⟨Fs (i * sz+k),h4 _,h7 _ u c hu (hpos k c hc)⟩
   ·cases hu
theorem Y12t (h:Rel E s ι a w) {x:AC}{n:Nat}{q q':List Orc}{l:List AC}{it:List Item}{K:Prop}(e:readAt s x n q=some (l,it,q')) {v:Value}(hv:Ymf w ι s.obj x v)
  (vc:VC it K):(∃ b o xs,v=.pointer (some ⟨b,o,none⟩)/\l.length=n/\(∀ (j:Nat) (u:Value),xs[j]? = some u->w.cell? ⟨b,o+j,none⟩=some u)/\Ylq (Ynt w ι s.obj) l xs)/\K:=by
 unfold readAt at e
 split at e
 ·rename_i id off
  split at e
  ·rename_i cs ho
   split at e
   ·rename_i hn
    simp only[aa,al]at e
    obtain⟨rfl,rfl,rfl⟩:=e
    have hob:=h.objs id
    rw[ho]at hob
    obtain⟨_,arr,ty,hheap,ha⟩:=hob
    refine⟨⟨ι.blk id,off,(arr.toList.drop off).take n,hv.2 _ ho,hn,?_,(ha.drop off).take n⟩,vc⟩
    intro j u hu
    rw[aV]at hu
    split at hu
    ·rw[aX]at hu
     rw[cell_of_row w _ _ arr ty (0,0) hheap]
     simpa using hu
    ·cases hu
   ·cases e
  ·cases e
 ·rename_i src cs
  split at e
  ·rename_i hn
   simp only[aa,al]at e
   obtain⟨rfl,rfl,rfl⟩:=e
   obtain⟨b,o,xs,hp,hb,hx,ha⟩:=hv.2 (Yt8 hn.1)
   refine⟨⟨b,o,xs.take n,hp,by simpa using hn.2,λj u hu=>hx j u ?_,?_⟩,vc⟩
   ·rw[aV]at hu
    split at hu
    ·exact hu
    ·cases hu
   ·exact Ylq.map_left _ ((ha.take n).flip.imp λc u hc=>Ywc (λid e=>hv.1 id e) hc)
  ·cases e
 ·rename_i id i off
  split at e
  ·rename_i own sz es ho
   split at e
   ·rename_i el q0
    split at e
    ·rename_i hn
     simp only[aa,al]at e
     obtain⟨rfl,rfl,rfl⟩:=e
     obtain⟨hel,vc⟩:=vc
     have hob:=h.objs id
     rw[ho]at hob
     obtain⟨b,hb,hp⟩:=hv.2 _ _ _ ho
     obtain⟨ys,hy,ha⟩:=Ym8.elem hob hel hb
     refine⟨⟨b,i * sz+off,(ys.drop off).take n,hp,by simpa using hn.1,?_,?_⟩,vc⟩
     ·intro j u hu
      rw[aV]at hu
      split at hu
      ·rw[aX]at hu
       have:=hy (off+j) u hu
       rwa [cY]
      ·cases hu
     ·refine Ylq.map_left _ ((((ha.drop off).take n).flip).imp λc u hc => ?_)
      obtain⟨F',hF,hN⟩:=hc
      cases own with
      | true=>exact Ywc (λid' e=>by cases e;exact hv.1) (OwnC.toRd hN λb hb=>.inr (hF b hb))
      | false=>exact Ywc (λid' e=>by cases e) hN
    ·cases e
   ·split at e
    ·rename_i hn
     obtain⟨rfl,hoff,rfl⟩:=hn
     simp only[aa,al]at e
     obtain⟨rfl,rfl,rfl⟩:=e
     obtain⟨hlt,vc⟩:=vc
     have hob:=h.objs id
     rw[ho]at hob
     obtain⟨b,hb,hp⟩:=hv.2 _ _ _ ho
     have hel:es[i]? = some es[i]:=av hlt
     obtain⟨ys,hy,ha⟩:=Ym8.elem hob hel hb
     obtain⟨e0,xs,Fs,h1,h2,h3,_⟩:=hob
     have hsz:es[i].length=sz:=h2 _ (dh hlt)
     have hyl:off<ys.length:=by rw[ha.length,hsz];exact hoff
     obtain⟨c,hc,hrel⟩:=ha.get_left (av hyl)
     have hcell:=hy off _ (av hyl)
     refine⟨⟨b,i * sz+off,[ys[off]],hp,rfl,λj u hu => ?_,⟨⟨hv.1,λown sz1 es1 ho1 => ?_⟩,?_⟩,trivial⟩,vc⟩
     ·cases j with
      | zero=>simp at hu;subst hu;simpa using hcell
      | succ j=>simp at hu
     ·rw[ho]at ho1
      simp only[Ob.arr.injEq]at ho1
      obtain⟨rfl,rfl,rfl⟩:=ho1
      exact⟨b,hb,.inr (h3 b hb),hcell⟩
     ·obtain⟨F',_,hN⟩:=hrel
      exact Yna.one hN
    ·cases e
   ·rename_i el q0
    split at e
    ·rename_i hn
     obtain⟨hl1,hl2,rfl⟩:=hn
     simp only[aa,al]at e
     obtain⟨rfl,rfl,rfl⟩:=e
     obtain⟨hel,vc⟩:=vc
     have hob:=h.objs id
     rw[ho]at hob
     obtain⟨b,hb,hp⟩:=hv.2 _ _ _ ho
     obtain⟨ys,hy,ha⟩:=Ym8.elem hob hel hb
     obtain⟨e0,xs,Fs,h1,h2,h3,_⟩:=hob
     have hcell:∀ (j:Nat) (u:Value),((ys.drop off).take n)[j]? = some u->w.cell? ⟨b,i * sz+off+j,none⟩=some u:=by
      intro j u hu
      rw[aV]at hu
      split at hu
      ·rw[aX]at hu
       have:=hy (off+j) u hu
       rwa [cY]
      ·cases hu
     refine⟨⟨b,i * sz+off,(ys.drop off).take n,hp,by rw[Yy7];exact hl1,hcell,?_⟩,vc⟩
     refine Y12s hv.1 (λown' sz' es' ho'=>by rw[ho]at ho';cases ho';rfl) hb (.inr (h3 b hb)) _ _ _ hcell ?_
     exact((ha.drop off).take n).imp λu c hc=>let ⟨F',_,hN⟩:=hc;⟨F',hN⟩
    ·cases e
   ·cases e
  ·cases e
 ·rename_i u
  split at e
  ·rename_i hn
   subst hn
   simp only[aa,al]at e
   obtain⟨rfl,rfl,rfl⟩:=e
   have hr:Rd w ι.G v (.cap u):=hv
   cases hr with
   | cap hb hl hx=>
    refine⟨⟨_,_,[u],rfl,rfl,λj y hy => ?_,⟨⟨.lit hl,hl.one⟩,trivial⟩⟩,vc⟩
    cases j with
    | zero=>simp at hy;subst hy;simpa using hx
    | succ j=>simp at hy
  ·cases e
 ·cases e
end
abbrev bs (l:List UInt8):Value:=.string ⟨l.toArray⟩
def rng (k:IntKind) (n:Int):Prop:=k.min<=n/\n<=k.max
theorem Yuf {k:IntKind}{n:Int}(h:rng k n):k.wrap n=n:=by
 obtain⟨h1,h2⟩:=h
 cases k<;>simp only[IntKind.min,IntKind.max,IntKind.signed,IntKind.bits,IntKind.wrap]at *<;>simp at *<;>first|omega|(split<;>omega)
theorem Y1ke {n:Int}:rng .i64 n ↔ -9223372036854775808<=n/\n<=9223372036854775807:=by
 simp[rng,IntKind.min,IntKind.max,IntKind.signed,IntKind.bits]
def wI (k:IntKind) (n:Int):Int:=k.wrap n
def Yt3 (k:IntKind) (a b:Int):Int:=k.wrap (BitVec.ofInt k.bits a &&& BitVec.ofInt k.bits b).toNat
def Y1ga (k:IntKind) (a b:Int):Int:=k.wrap (BitVec.ofInt k.bits a ^^^ BitVec.ofInt k.bits b).toNat
def Y11t (k:IntKind) (a b:Int):Int:=a.fdiv (2 ^ min b.toNat k.bits)
def iW (w:Bool) (k:IntKind) (n:Int):Option (Value×List Item):=match w with|true=>some (.int k (wI k n),[])|false=>some (.int k n,[.obl (rng k n)])
theorem Y1vx {w:Bool}{k:IntKind}{n:Int}{v:Value}{it:List Item}{K:Prop}(e:iW w k n=some (v,it)) (vc:VC it K):v=.int k (k.wrap n)/\K:=by
 cases w<;>simp only[iW,aa,al]at e<;>obtain⟨rfl,rfl⟩:=e
 ·exact⟨by rw[Yuf vc.1],vc.2⟩
 ·exact⟨rfl,vc⟩
def Y1qo (w:Bool) (op:BinOp) (k:IntKind) (a b:Int):Option (Value×List Item):=
 match op with
 | .and=>some (.int k (Yt3 k a b),[])
 | .xor=>some (.int k (Y1ga k a b),[])
 | .add=>iW w k (a+b)
 | .sub=>some (.int k (a - b),[.obl (rng k (a - b))])
 | .mul=>iW w k (a * b)
 | .quo=>some (.int k (a.tdiv b),[.obl (b≠0),.obl (rng k (a.tdiv b))])
 | .rem=>some (.int k (a.tmod b),[.obl (b≠0)])
 | .eql=>some (.bool (decide (a=b)),[])
 | .neq=>some (.bool (decide (a≠b)),[])
 | .lss=>some (.bool (decide (a<b)),[])
 | .leq=>some (.bool (decide (a<=b)),[])
 | .gtr=>some (.bool (decide (b<a)),[])
 | .geq=>some (.bool (decide (b<=a)),[])
 | _=>none
def Y1po (op:BinOp) (a b:List UInt8):Option (Value×List Item):=
 match op with
 | .add=>some (bs (a++b),[.obl (a.length+b.length<=maxLen)])
 | .eql=>some (.bool (decide (a=b)),[])
 | .neq=>some (.bool (decide (a≠b)),[])
 | _=>none
def Y1if (op:BinOp) (a b:Bool):Option (Value×List Item):=
 match op with
 | .eql=>some (.bool (decide (a=b)),[])
 | .neq=>some (.bool (decide (a≠b)),[])
 | _=>none
def Y1nt (P:Program) (T:TypeId):Bool:=match P.underlying T with|some .bool=>true|_=>false
def Y1vu:BinOp->Bool | .shr=>true|_=>false
def bop (P:Program) (T:TypeId) (big:Bool) (op:BinOp) (x y:Value):Option (Value×List Item):=
 match x with
 | .int k a=>match y with
  | .int k' b=>match Y1vu op with
   | true=>some (.int k (Y11t k a b),[.obl (0<=b)])
   | false=>if k=k' then Y1qo big op k a b else none
  | _=>none
 | .string a=>match y with | .string b=>Y1po op a.data.toList b.data.toList|_=>none
 | .bool a=>match y with | .bool b=>if Y1nt P T then Y1if op a b else none|_=>none
 | _=>none
theorem Yyh {P:Program}{w:World}{op:BinOp}{T:TypeId}{xo yo:Operand}{x y:Value}(hx:∀ t u,x≠.iface t u) (hn:x≠.nilIface) (ha:∀ c,x≠.agg c) :
  (eqGuard op T xo yo x y).run P w=.ok () w:=by
 cases x<;>first|exact(hn rfl).elim|exact(ha _ rfl).elim|exact(hx _ _ rfl).elim|(cases op<;>cases y<;>simp[eqGuard])
theorem Y1dz (a:ByteArray):a=⟨a.data.toList.toArray⟩:=by cases a;rfl
theorem Y1p6 {P:Program}{T:TypeId}{big:Bool}{op:BinOp}{x y v:Value}{it:List Item}{K:Prop}(e:bop P T big op x y=some (v,it)) (vc:VC it K) :
  (∀ (w:World) (xo yo:Operand),(do eqGuard op T xo yo x y;binOp op T x y:Sem Value).run P w=.ok v w)/\Yq7 v/\K:=by
 unfold bop at e
 split at e
 ·rename_i k a
  split at e
  ·rename_i k' b
   split at e
   ·rename_i ho
    have ho:op=.shr:=by cases op<;>simp_all[Y1vu]
    subst ho
    simp only[aa,al]at e
    obtain⟨rfl,rfl⟩:=e
    have hb:¬ b<0:=by have:=vc.1;omega
    exact⟨λw xo yo=>by simp[eqGuard,binOp,Op.shift,hb,Y11t],trivial,vc.2⟩
   split at e
   ·rename_i hk
    subst hk
    have hg:∀ (w:World) (T:TypeId) (xo yo:Operand),(eqGuard op T xo yo (.int k a) (.int k b)).run P w=.ok () w:=λw T xo yo=>Yyh sW sW sW
    cases op<;>simp only[Y1qo,aa,al,reduceCtorEq]at e<;>(try (obtain⟨rfl,rfl⟩:=e;simp only[VC]at vc))
    case and=>exact⟨λw xo yo=>by simp[hg,binOp,Op.intBits,Yt3],trivial,vc⟩
    case xor=>exact⟨λw xo yo=>by simp[hg,binOp,Op.intBits,Y1ga],trivial,vc⟩
    case add=>obtain⟨rfl,h⟩:=Y1vx e vc;exact⟨λw xo yo=>by simp[hg,binOp,Op.intArith],trivial,h⟩
    case mul=>obtain⟨rfl,h⟩:=Y1vx e vc;exact⟨λw xo yo=>by simp[hg,binOp,Op.intArith],trivial,h⟩
    case sub=>exact⟨λw xo yo=>by simp[hg,binOp,Op.intArith,Yuf vc.1],trivial,vc.2⟩
    case quo=>exact⟨λw xo yo=>by simp[hg,binOp,Op.intDiv,Yuf vc.2.1,vc.1],trivial,vc.2.2⟩
    case rem=>exact⟨λw xo yo=>by simp[hg,binOp,Op.intDiv,vc.1],trivial,vc.2⟩
    case eql=>exact⟨λw xo yo=>by simp[hg,binOp,Op.intCmp];rfl,trivial,vc⟩
    case neq=>exact⟨λw xo yo=>by simp[hg,binOp,Op.intCmp,bne];rfl,trivial,vc⟩
    case lss=>exact⟨λw xo yo=>by simp[hg,binOp,Op.intCmp],trivial,vc⟩
    case leq=>exact⟨λw xo yo=>by simp[hg,binOp,Op.intCmp],trivial,vc⟩
    case gtr=>exact⟨λw xo yo=>by simp[hg,binOp,Op.intCmp],trivial,vc⟩
    case geq=>exact⟨λw xo yo=>by simp[hg,binOp,Op.intCmp],trivial,vc⟩
   ·cases e
  ·cases e
 ·rename_i a
  split at e
  ·rename_i b
   have hg:∀ (w:World) (T:TypeId) (xo yo:Operand),(eqGuard op T xo yo (.string a) (.string b)).run P w=.ok () w:=λw T xo yo=>Yyh sW sW sW
   cases op<;>simp only[Y1po,aa,al,reduceCtorEq]at e<;>obtain⟨rfl,rfl⟩:=e<;>simp only[VC]at vc
   case add=>
    have h0:a.data.toList.length+b.data.toList.length<=maxLen:=vc.1
    rw[bG,bG]at h0
    have hl:a.size+b.size<=9223372036854775807:=h0
    refine⟨λw xo yo => ?_,?_,vc.2⟩
    ·simp only[aQ,hg,aZ,binOp_string_add,run_string_add_sum w a b hl]
     conv=>lhs;rw[Y1dz a,Y1dz b,ByteArray.mk_append_mk]
    ·show (a.data.toList++b.data.toList).toArray.size<=maxLen
     rw[cC,aw];exact vc.1
   case eql=>
    refine⟨λw xo yo => ?_,trivial,vc⟩
    simp only[aQ,hg,aZ,binOp_string_eql,bC,ByteArray.toList_eq]
    congr 2
    by_cases h:a.data.toList=b.data.toList
    ·rw[h];simp
    ·rw[bK h];exact beq_eq_false_iff_ne.2 h
   case neq=>
    refine⟨λw xo yo => ?_,trivial,vc⟩
    simp only[aQ,hg,aZ,binOp_string_neq,bC,ByteArray.toList_eq]
    congr 2
    by_cases h:a.data.toList=b.data.toList
    ·rw[h];simp
    ·rw[beq_eq_false_iff_ne.2 h,bF h];rfl
  ·cases e
 ·rename_i a
  split at e
  ·rename_i b
   split at e
   ·rename_i hT
    have hT':P.underlying T=some .bool:=by unfold Y1nt at hT;split at hT<;>simp_all
    have hg:∀ (w:World) (xo yo:Operand),(eqGuard op T xo yo (.bool a) (.bool b)).run P w=.ok () w:=λw xo yo=>Yyh sW sW sW
    cases op<;>simp only[Y1if,aa,al,reduceCtorEq]at e<;>obtain⟨rfl,rfl⟩:=e<;>simp only[VC]at vc
    case eql=>exact⟨λw xo yo=>by simp[hg,binOp,run_equal_bool _ _ _ _ hT'];rfl,trivial,vc⟩
    case neq=>exact⟨λw xo yo=>by simp[hg,binOp,run_equal_bool _ _ _ _ hT'];cases a<;>cases b<;>rfl,trivial,vc⟩
   ·cases e
  ·cases e
 ·cases e
abbrev Yqq (v:Value):AV:=.sv (.one (.val (.lit v)))
def Y1fg (ag:Bool) (l:List AC):Option SV:=
 match ag with
 | true=>some (.agg l)
 | false=>match l with | [c]=>some (.one c)|_=>none
def ptrLive (s:St):AC->Bool
 | .ptr id _=>match s.obj id with | .box _=>true|_=>false
 | .eptr id _ _=>match s.obj id with | .arr .. => true|_=>false
 | .iptr src _=>Yt1 s src
 | _=>false
def shift (off:Nat):AC->Option AC
 | .ptr id o=>some (.ptr id (o+off))
 | .eptr id i o=>some (.eptr id i (o+off))
 | .iptr src cs=>some (.iptr src (cs.drop off))
 | _=>none
def idxAddr (s:St) (sz:Nat) (n:Int) (q:List Orc):AC->Option (AC×List Item×List Orc)
 | .val (.list es)=>match q with
  | .cells cl :: q=>if cl.length=sz then some (.iptr none cl,[.obl (0<=n/\es[n.toNat]? = some cl)],q) else none
  | _=>none
 | .bor id (.list es)=>match q with
  | .cells cl :: q=>if cl.length=sz/\Yt1 s (some id) then some (.iptr (some id) cl,[.obl (0<=n/\es[n.toNat]? = some cl)],q) else none
  | _=>none
 | .ref id=>match s.obj id with
  | .arr _ sz' es=>if sz'=sz then some (.eptr id n.toNat 0,[.obl (0<=n/\n.toNat<es.length)],q) else none
  | _=>none
 | _=>none
def elems (s:St):AC->Option (Option Nat×List (List Cell))
 | .val (.list es)=>some (none,es)
 | .val (.lit (.slice none 0 0))=>some (none,[])
 | .bor id (.list es)=>if Yt1 s (some id) then some (some id,es) else none
 | .ref id=>match s.obj id with
  | .arr _ _ es=>some (some id,es)
  | _=>none
 | _=>none
def litS (s:St) (x:Operand):Option (List UInt8):=match s.lit x with|some (.string t)=>some t.data.toList|_=>none
def bound (s:St) (d:Nat):Option Operand->Option (Nat×List Item)
 | none=>some (d,[])
 | some x=>match s.int x with|some (_,n)=>some (n.toNat,[.obl (0<=n)])|none=>none
def Y25a (src:Option Nat) (es:List (List Cell)):AC:=match src with|none=>.val (.list es)|some id=>.bor id (.list es)
def Y197 (P:Program) (T:TypeId):Bool:=match P.underlying T with|some (.slice _)=>true|_=>false
def Ytc (P:Program) (T:TypeId):Bool:=match P.underlying T with|some .string=>true|_=>false
def Yzj (P:Program) (T:TypeId):Bool:=match P.underlying T with|some (.slice e)=>(match P.underlying e with|some (.int .u8)=>true|_=>false)|_=>false
def Yml (b:UInt8):List Cell:=[.lit (.int .u8 (b.toNat:Int))]
def Y1nu (P:Program) (T:TypeId):Option IntKind:=match P.underlying T with|some (.int k)=>some k|_=>none
section
variable (P:Program) (s:St)
def vSlice (T:TypeId) (x:Operand) (lo hi mx:Option Operand) (q:List Orc):Option (AV×List Item×List Orc):=
 match mx with
 | some _=>none
 | none=>
  match Ytc P T with
  | true=>match litS s x with
   | some l=>match bound s 0 lo,bound s l.length hi with
    | some (a,i1),some (b,i2)=>some (Yqq (bs ((l.drop a).take (b - a))),i1++i2++[.obl (a<=b/\b<=l.length)],q)
    | _,_=>none
   | none=>none
  | false=>match s.ac x,Yyc P T with
   | some c,some e=>match elems s c,Ypc P e with
    | some (src,es),some sz=>match bound s 0 lo,bound s es.length hi with
     | some (a,i1),some (b,i2)=>some (.sv (.one (Y25a src ((es.drop a).take (b - a)))),i1++i2++[.obl (a<=b/\b<=es.length/\∀ e∈es,e.length=sz)],q)
     | _,_=>none
    | _,_=>none
   | _,_=>none
def Y1d0 (s:St) (id i p:Nat) (q:List Orc):Option (AV×List Item×List Orc):=
 match s.obj id with
 | .arr true _ es=>match q with
  | .cells e :: q=>match e[p]? with
   | some (.list es')=>some (Yqq (.int .i64 (es'.length:Int)),[.obl (es[i]? = some e),.asm (es'.length<=maxLen)],q)
   | _=>none
  | _=>none
 | _=>none
def vBuiltin (b:Builtin) (args:Array Operand) (tys:Array TypeId) (q:List Orc):Option (AV×List Item×List Orc):=
 match b with
 | .len=>match args.toList,tys.toList with
  | [x],[t]=>match Ytc P t with
   | true=>match litS s x with
    | some l=>some (Yqq (.int .i64 (l.length:Int)),[.asm (l.length<=maxLen)],q)
    | none=>none
   | false=>match s.ac x,Y197 P t with
    | some (.sub id i p),true=>Y1d0 s id i p q
    | some c,true=>(elems s c).map λr=>(Yqq (.int .i64 (r.2.length:Int)),[.asm (r.2.length<=maxLen)],q)
    | _,_=>none
  | _,_=>none
 | .max=>match args.toList with
  | [x,y]=>match s.int x,s.int y with
   | some (k,a),some (_,b)=>some (Yqq (.int k (max a b)),[],q)
   | _,_=>none
  | _=>none
 | .min=>match args.toList with
  | [x,y]=>match s.int x,s.int y with
   | some (k,a),some (_,b)=>some (Yqq (.int k (min a b)),[],q)
   | _,_=>none
  | _=>none
 | _=>none
def mkClo (s:St) (fn:Fn) (first captured:Array Operand) (q:List Orc):Option (AV×List Item×List Orc):=
 match fn with
 | .func f=>(match first.toList with
  | []=>(match captured.toList with
   | [x]=>(match s.ac x with
    | some (.val (.cap v))=>some (.sv (.one (.val (.clo f v))),[],q)
    | _=>none)
   | _=>none)
  | _=>none)
 | _=>none
def Y1zl:Operand->Bool
 | .const (.int _ (.ofNat n))=>Nat.ble 4503599627370496 n
 | _=>false
def vop (o:Oper) (q:List Orc):Option (AV×List Item×List Orc):=
 match o.op with
 | .move x | .assign x=>(s.ev x).map λv=>(v,[],q)
 | .pick c x y=>match s.lit c with
  | some (.bool true)=>(s.ev x).map λv=>(v,[],q)
  | some (.bool false)=>(s.ev y).map λv=>(v,[],q)
  | _=>none
 | .load T x=>match s.ac x,Ypc P T,Y161 P T with
  | some c,some n,some ag=>match readAt s c n q with
   | some (l,it,q')=>(Y1fg ag l).map λv=>(.sv v,it,q')
   | none=>none
  | _,_,_=>none
 | .nilCheck x=>match s.ac x with
  | some c=>if ptrLive s c then some (.sv (.one c),[],q) else none
  | none=>none
 | .binOp op T x y _=>match s.lit x,s.lit y with
  | some a,some b=>(bop P T (Y1zl y) op a b).map λr=>(Yqq r.1,r.2,q)
  | _,_=>none
 | .unOp .not _ x=>match s.lit x with
  | some (.bool b)=>some (Yqq (.bool (!b)),[],q)
  | _=>none
 | .unOp .neg _ x=>match s.int x with
  | some (k,n)=>some (Yqq (.int k (0 - n)),[.obl (rng k (0 - n))],q)
  | none=>none
 | .convert src dst x=>match Yzj P src&&Ytc P dst with
  | true=>match s.ac x,q with
   | some c,.bytes l :: q=>match elems s c with
    | some (_,es)=>some (Yqq (bs l),[.obl (es=l.map Yml)],q)
    | none=>none
   | _,_=>none
  | false=>match s.int x,P.underlying src,Y1nu P dst with
   | some (_,n),some _,some k=>some (Yqq (.int k n),[.obl (rng k n)],q)
   | _,_,_=>none
 | .fieldAddr S x f=>match s.ac x,Y1qd P S f with
  | some c,some (off,_,n)=>if n≠0/\ptrLive s c then (shift off c).map λc=>(.sv (.one c),[],q) else none
  | _,_=>none
 | .indexAddr T x i=>match s.ac x,s.int i,Yyc P T with
  | some c,some (_,n),some e=>match Ypc P e with
   | some sz=>(idxAddr s sz n q c).map λr=>(.sv (.one r.1),r.2.1,r.2.2)
   | none=>none
  | _,_,_=>none
 | .index T x i=>match Ytc P T,litS s x,s.int i with
  | true,some l,some (_,n)=>some (Yqq (.int .u8 ((l.getD n.toNat 0).toNat:Int)),[.obl (0<=n/\n.toNat<l.length)],q)
  | _,_,_=>none
 | .slice T x lo hi mx=>vSlice P s T x lo hi mx q
 | .extract x i=>match s.ev x with
  | some (.tup l)=>match l[i]? with|some v=>some (.sv v,[],q)|none=>none
  | _=>none
 | .call { callee:=.builtin b,args:=args,argTypes:=tys }=>vBuiltin P s b args tys q
 | .makeFunc fn first captured=>mkClo s fn first captured q
 | _=>none
end
section
variable {P:Program}{E:Ent P}{s:St}{ι:Interp}{a:Act}{w:World}
theorem Yoa (x:Sem Value) {v:Value}{w':World}(h:x.run P w=.ok v w'):(do pure (.value (<- x)):Sem Next).run P w=.ok (.value v) w':=by simp[h]
theorem Yng {ob:Nat->Ob}{v:Value}(h:Yq7 v):Ymg w ι ob (Yqq v) v:=⟨.lit h,λ_=>h.one⟩
theorem Y15l (h:Rel E s ι a w) {x:Operand}{l:List UInt8}(e:litS s x=some l):a.eval x=bs l/\l.length<=maxLen:=by
 unfold litS at e
 split at e
 ·rename_i t ht
  simp only[aa]at e;subst e
  obtain⟨h1,h2⟩:=Ypi h ht
  refine⟨h1,?_⟩
  rw[bG];exact h2
 ·cases e
theorem Y129 {c:AC}{v:Value}(hv:Ymf w ι s.obj c v) (e:ptrLive s c):∃ b o,v=.pointer (some ⟨b,o,none⟩):=by
 unfold ptrLive at e
 split at e
 ·split at e
  ·rename_i hb;exact⟨_,_,hv.2 _ hb⟩
  ·cases e
 ·split at e
  ·rename_i hb
   obtain⟨b,_,hp⟩:=hv.2 _ _ _ hb
   exact⟨_,_,hp⟩
  ·cases e
 ·obtain⟨b,o,xs,hp,_⟩:=hv.2 (Yt8 e)
  exact⟨_,_,hp⟩
 ·cases e
theorem Y1pp {c c':AC}{off b o:Nat}(hv:Ymf w ι s.obj c (.pointer (some ⟨b,o,none⟩))) (e:shift off c=some c') :
  Ymf w ι s.obj c' (.pointer (some ⟨b,o+off,none⟩)):=by
 unfold shift at e
 split at e<;>simp only[aa,reduceCtorEq]at e
 ·subst e
  refine⟨hv.1,λcs hb => ?_⟩
  have:=hv.2 cs hb
  simp only[dK,aa,Addr.mk.injEq,dP]at this|-
  exact⟨this.1,by omega⟩
 ·subst e
  refine⟨hv.1,λown sz es hb => ?_⟩
  obtain⟨b',h1,h2⟩:=hv.2 own sz es hb
  refine⟨b',h1,?_⟩
  simp only[dK,aa,Addr.mk.injEq,dP]at h2|-
  exact⟨h2.1,by omega⟩
 ·subst e
  refine⟨hv.1,λhl => ?_⟩
  obtain⟨b',o',xs,h1,h2,h3,h4⟩:=hv.2 hl
  simp only[dK,aa,Addr.mk.injEq,dP]at h1
  obtain⟨rfl,rfl⟩:=h1
  refine⟨b,o+off,xs.drop off,rfl,h2,λj u hu => ?_,h4.drop off⟩
  rw[aX]at hu
  have:=h3 _ _ hu
  rwa [cY]
theorem Y15g (h:Rel E s ι a w) {c:AC}{v:Value}(hv:Ymf w ι s.obj c v) {src:Option Nat}{es:List (List Cell)}(e:elems s c=some (src,es)) :
  Rd w (rdSet ι src) v (.list es)/\(∀ id,src=some id->notFree s.obj id):=by
 unfold elems at e
 split at e
 ·simp only[aa,al]at e
  obtain⟨rfl,rfl⟩:=e
  exact⟨hv,by simp⟩
 ·simp only[aa,al]at e
  obtain⟨rfl,rfl⟩:=e
  obtain⟨rfl,_⟩:=Rd.lit_inv (show Rd w ι.G v _ from hv)
  exact⟨.nil,by simp⟩
 ·split at e
  ·rename_i hl
   simp only[aa,al]at e
   obtain⟨rfl,rfl⟩:=e
   exact⟨hv.2 (Yt8 hl),λi e=>by cases e;exact hv.1⟩
  ·cases e
 ·split at e
  ·rename_i id _ own sz es' ho
   simp only[aa,al]at e
   obtain⟨rfl,rfl⟩:=e
   have hob:=h.objs id
   rw[ho]at hob
   rw[hv.2 _ _ _ ho]
   exact⟨Ym8.rd hob,λi e=>by cases e;exact hv.1⟩
  ·cases e
 ·cases e
theorem Rd.list_inv {G:Nat->Prop}{v:Value}{es:List (List Cell)}(h:Rd w G v (.list es)):es.length<=maxLen/\∃ base cap,v=.slice base es.length cap:=by
 cases h with
 | nil=>exact⟨by simp,_,_,rfl⟩
 | slice hG hc hm=>exact⟨aN hc hm,_,_,rfl⟩
theorem Y173 {T:TypeId}(h:Y197 P T):∃ e,P.underlying T=some (.slice e):=by
 unfold Y197 at h;split at h
 ·exact⟨_,‹_›⟩
 ·cases h
theorem Yvb {T:TypeId}(h:Ytc P T):P.underlying T=some .string:=by
 unfold Ytc at h;split at h
 ·assumption
 ·cases h
theorem Yuv {T e:TypeId}(h:Yyc P T=some e):P.underlying T=some (.slice e):=by
 unfold Yyc at h;split at h
 ·simp only[aa]at h;subst h;assumption
 ·cases h
theorem Rd.elem {G:Nat->Prop}{v:Value}{es:List (List Cell)}(h:Rd w G v (.list es)) {i:Nat}{cl:List Cell}(hi:es[i]? = some cl) :
  ∃ b off cap,v=.slice (some ⟨b,off,none⟩) es.length cap/\G b/\∃ xs:List Value,(∀ (j:Nat) (u:Value),xs[j]? = some u->w.cell? ⟨b,off+i * cl.length+j,none⟩=some u)/\Ylq (Rd w G) xs cl:=by
 cases h with
 | nil=>simp at hi
 | slice hG hc hm hsz hl hx hr=>
  rename_i b off cap sz xs
  have he:cl.length=sz:=hsz _ (aE hi)
  have hpos:∀ (k:Nat) (c:Cell),cl[k]? = some c->es.flatten[i * sz+k]? = some c:=λk c hk=>Ypd hsz hi hk
  have hlt:∀ k,k<sz->i * sz+k<xs.length:=by
   intro k hk
   rw[hl]
   obtain⟨c,hc⟩:∃ c,cl[k]? = some c:=⟨cl[k]'oW,av _⟩
   exact(List.getElem?_eq_some_iff.1 (hpos k c hc)).1
  refine⟨b,off,cap,rfl,hG,(xs.drop (i * sz)).take sz,λj u hu => ?_,Ylq.of_get ?_ λk u c hu hc => ?_⟩
  ·rw[aV]at hu
   split at hu
   ·rw[aX]at hu
    have:=hx _ _ hu
    rw[he]
    rwa [cY]
   ·cases hu
  ·rw[au,ax,he]
   rcases cZ sz with h0|h0
   ·omega
   ·have:=hlt (sz - 1) oW
    omega
  ·rw[aV]at hu
   split at hu
   ·rw[aX]at hu
    exact hr _ u c hu (hpos k c hc)
   ·cases hu
theorem Yv9 (h:Rel E s ι a w) {d:Nat}{x:Option Operand}{n:Nat}{it:List Item}{K:Prop}(e:bound s d x=some (n,it)) (vc:VC it K) :
  (x=none/\n=d\/∃ y k,x=some y/\a.eval y=.int k (n:Int))/\K:=by
 cases x with
 | none=>simp only[bound,aa,al]at e;obtain⟨rfl,rfl⟩:=e;exact⟨.inl ⟨rfl,rfl⟩,vc⟩
 | some y=>
  simp only[bound]at e
  split at e
  ·rename_i k m hm
   simp only[aa,al]at e
   obtain⟨rfl,rfl⟩:=e
   refine⟨.inr ⟨y,k,rfl,?_⟩,vc.2⟩
   rw[Ysn h hm,Int.toNat_of_nonneg vc.1]
  ·cases e
theorem Y1c1 {src dst:TypeId}(hs:Yzj P src) (hd:Ytc P dst) {G:Nat->Prop}{v:Value}{es:List (List Cell)}{l:List UInt8}(h:Rd w G v (.list es)) (hes:es=l.map Yml) :
  (convert src dst v).run P w=.ok (bs l) w:=by
 obtain⟨e,h1,h2⟩:∃ e,P.underlying src=some (.slice e)/\P.underlying e=some (.int .u8):=by
  unfold Yzj at hs
  split at hs
  ·rename_i e he
   split at hs
   ·exact⟨e,he,‹_›⟩
   ·cases hs
  ·cases hs
 have h3:=Yvb hd
 have hstr:strOfNums (l.map λb=>(b.toNat:Int))=⟨l.toArray⟩:=by
  unfold strOfNums
  have:((λn:Int=>UInt8.ofNat n.toNat) ∘ λb:UInt8=>(b.toNat:Int))=id:=by funext b;simp
  rw[cr,this,List.map_id]
 cases h with
 | nil=>
  rename_i ad cap
  have hl:l=[]:=by cases l with|nil=>rfl|cons x r=>simp at hes
  subst hl
  cases ad with
  | none=>rw[run_convert_bytes_nil w src e h1 h2 _ _ dst h3];rfl
  | some ad=>
   rw[run_convert_bytes_string w src dst e _ _ _ h1 h2 h3,run_bytesToString w ad 0 cap [] (by simpa using run_loadCells_list (P:=P) w ad [] sW)]
   rfl
 | slice hG hc hm hsz hl hx hr=>
  rename_i b off cap sz xs
  have hlen:es.length=l.length:=by rw[hes,aO]
  have hflat:es.flatten=l.map λb=>Cell.lit (.int .u8 (b.toNat:Int)):=by
   rw[hes]
   clear hes hlen hl hx hr hsz hc hstr
   induction l with
   | nil=>rfl
   | cons x r ih=>simp only[bO,bP,ih];rfl
  rw[hlen]
  rw[run_convert_bytes_arg w src e h1 h2 b off l.length cap (l.map λb=>(b.toNat:Int)) sW (λi hi => ?_) dst h3,hstr]
  have hxl:xs.length=l.length:=by rw[hl,hflat,aO]
  have hxi:xs[i]? = some xs[i]:=av oW
  have hfi:es.flatten[i]? = some (.lit (.int .u8 (l[i].toNat:Int))):=by rw[hflat];simp[hi]
  have h8:=hr i _ _ hxi hfi
  obtain⟨h9,_⟩:=h8.lit_inv
  rw[hx i _ hxi,h9]
  simp[hi]
def VOK (P:Program) (s:St) (ι:Interp) (a:Act) (w:World) (o:Oper) (x:AV):Prop:=
 ∃ v,(execOp a.eval o).run P w=.ok (.value v) w/\Ymg w ι s.obj x v
theorem Y1ge {ob:Nat->Ob}{l:List AC}{xs:List Value}{ag:Bool}{x:SV}(e:Y1fg ag l=some x) (h:Ylq (Ynt w ι ob) l xs) :
  (ag/\Ymo w ι ob x (.agg xs.toArray))\/(ag=false/\∃ u,xs=[u]/\Ymo w ι ob x u):=by
 unfold Y1fg at e
 split at e
 ·simp only[aa]at e;subst e
  exact .inl ⟨rfl,xs.toArray,rfl,h⟩
 ·split at e
  ·simp only[aa]at e;subst e
   match xs,h with
   | [u],h=>exact .inr ⟨rfl,u,rfl,h.1.1,λ_=>h.1.2⟩
  ·cases e
theorem Y1ms (h:Rel E s ι a w) {o:Oper}{T:TypeId}{y:Operand}(ho:o.op=.load T y) {x:AV}{it:List Item}{q q':List Orc}{K:Prop}
  (e:vop P s o q=some (x,it,q')) (vc:VC it K):VOK P s ι a w o x/\K:=by
 simp only[vop,ho]at e
 split at e
 ·rename_i c n ag hc hn hg
  split at e
  ·rename_i l it1 q1 hr
   cases hm:Y1fg ag l with
   | none=>simp[hm]at e
   | some sv=>
    simp only[hm,aP,aa,al]at e
    obtain⟨rfl,rfl,rfl⟩:=e
    obtain⟨⟨b,off,xs,hp,hl,hx,ha⟩,hK⟩:=Y12t h hr (Yn7 h hc) vc
    refine⟨?_,hK⟩
    have hlen:xs.length=n:=by rw[<- ha.length];exact hl
    rcases Y1ge hm ha with ⟨rfl,hs⟩|⟨rfl,u,rfl,hs⟩
    ·refine⟨_,?_,hs⟩
     simp only[execOp,ho,Instr.loadAt,hp,Instr.sureAddr]
     exact Yoa _ (by simpa using Yu7 hg hn hlen hx)
    ·refine⟨_,?_,hs⟩
     simp only[execOp,ho,Instr.loadAt,hp,Instr.sureAddr]
     exact Yoa _ (by simpa using Yy0 hg (hx 0 u rfl))
  ·cases e
 ·cases e
theorem Y1f3 (h:Rel E s ι a w) {o:Oper}{x:AV}{it:List Item}{q q':List Orc}{K:Prop}
  (hop:match o.op with | .move _ | .assign _ | .pick .. | .nilCheck _ | .binOp .. | .unOp .. | .convert .. | .extract .. | .index .. => True|_=>False)
  (e:vop P s o q=some (x,it,q')) (vc:VC it K):VOK P s ι a w o x/\K:=by
 unfold vop at e
 split at e
 case h_1 y ho|h_2 y ho=>
  cases hv:s.ev y with
  | none=>simp[hv]at e
  | some v=>
   simp only[hv,aP,aa,al]at e
   obtain⟨rfl,rfl,rfl⟩:=e
   exact⟨⟨_,by simp[execOp,ho],Ypy h hv⟩,vc⟩
 case h_3 c y z ho=>
  split at e
  ·rename_i hc
   cases hv:s.ev y with
   | none=>simp[hv]at e
   | some v=>
    simp only[hv,aP,aa,al]at e
    obtain⟨rfl,rfl,rfl⟩:=e
    exact⟨⟨_,by simp[execOp,ho,(Ypi h hc).1,asBool],Ypy h hv⟩,vc⟩
  ·rename_i hc
   cases hv:s.ev z with
   | none=>simp[hv]at e
   | some v=>
    simp only[hv,aP,aa,al]at e
    obtain⟨rfl,rfl,rfl⟩:=e
    exact⟨⟨_,by simp[execOp,ho,(Ypi h hc).1,asBool],Ypy h hv⟩,vc⟩
  ·cases e
 case h_4 T y ho=>simp[ho]at hop
 case h_5 y ho=>
  split at e
  ·rename_i c hc
   split at e
   ·rename_i hl
    simp only[aa,al]at e
    obtain⟨rfl,rfl,rfl⟩:=e
    have hr:=Yn7 h hc
    obtain⟨b,off,hp⟩:=Y129 hr hl
    exact⟨⟨a.eval y,by simp[execOp,ho,hp],hr,λ_=>by rw[hp];rfl⟩,vc⟩
   ·cases e
  ·cases e
 case h_6 op T y z T2 ho=>
  split at e
  ·rename_i u v hu hv
   cases hb:bop P T (Y1zl z) op u v with
   | none=>simp[hb]at e
   | some r=>
    obtain⟨r1,r2⟩:=r
    simp only[hb,aP,aa,al]at e
    obtain⟨rfl,rfl,rfl⟩:=e
    obtain⟨h1,h2,h3⟩:=Y1p6 (P:=P) hb vc
    refine⟨⟨r1,?_,Yng h2⟩,h3⟩
    simp only[execOp,ho,(Ypi h hu).1,(Ypi h hv).1]
    exact Yoa _ (h1 w y z)
  ·cases e
 case h_7 T y ho=>
  split at e
  ·rename_i b hb
   simp only[aa,al]at e
   obtain⟨rfl,rfl,rfl⟩:=e
   exact⟨⟨_,by simp[execOp,ho,(Ypi h hb).1,Op.unary],Yng trivial⟩,vc⟩
  ·cases e
 case h_8 T y ho=>
  split at e
  ·rename_i k n hb
   simp only[aa,al]at e
   obtain⟨rfl,rfl,rfl⟩:=e
   refine⟨⟨.int k (0 - n),?_,Yng trivial⟩,vc.2⟩
   simp only[execOp,ho,Ysn h hb]
   exact Yoa _ (by simp only[Op.unary,Op.intArith,Yuf vc.1,bC])
  ·cases e
 case h_9 T1 T2 y ho=>
  split at e
  ·rename_i hT
   simp only[af]at hT
   split at e
   ·rename_i c l q1 hc
    split at e
    ·rename_i sr es hel
     simp only[aa,al]at e
     obtain⟨rfl,rfl,rfl⟩:=e
     obtain⟨hes,vc⟩:=vc
     obtain⟨hrd,_⟩:=Y15g h (Yn7 h hc) hel
     have hlen:l.length<=maxLen:=by have:=hrd.list_inv.1;rw[hes,aO]at this;exact this
     refine⟨⟨bs l,?_,Yng (show l.toArray.size<=maxLen by simpa using hlen)⟩,vc⟩
     simp only[execOp,ho]
     exact Yoa _ (Y1c1 hT.1 hT.2 hrd hes)
    ·cases e
   ·cases e
  ·split at e
   ·rename_i k n d k2 hy h1 h2
    simp only[aa,al]at e
    obtain⟨rfl,rfl,rfl⟩:=e
    unfold Y1nu at h2
    split at h2
    ·rename_i kk hk
     simp only[aa]at h2;subst h2
     refine⟨⟨_,?_,Yng trivial⟩,vc.2⟩
     simp only[execOp,ho,Ysn h hy]
     refine Yoa _ ?_
     simp[convert,aK h1,aK hk,Conv.intToInt,Yuf vc.1]
    ·cases h2
   ·cases e
 case h_10 S y f ho=>simp[ho]at hop
 case h_11 T y i ho=>simp[ho]at hop
 case h_12 T y i ho=>
  split at e
  ·rename_i l k n hs hl hi
   simp only[aa,al]at e
   obtain⟨rfl,rfl,rfl⟩:=e
   obtain⟨⟨h0,hlt⟩,vc⟩:=vc
   refine⟨⟨_,?_,Yng trivial⟩,vc⟩
   simp only[execOp,ho,(Y15l h hl).1,Ysn h hi]
   refine Yoa _ ?_
   have hn:n.toNat<(ByteArray.mk l.toArray).size:=by show n.toNat<l.toArray.size;simpa using hlt
   have e1:(ByteArray.mk l.toArray)[n.toNat]? = some (l.getD n.toNat 0):=by
    rw[ByteArray.getElem?_lt' _ _ hn]
    congr 1
    show l.toArray[n.toNat]=_
    simp[ao,hlt]
   simp[Instr.index,asIntOf,aK (Yvb hs),h0,e1]
  ·cases e
 case h_13 T y lo hi mx ho=>simp[ho]at hop
 case h_14 y i ho=>
  split at e
  ·rename_i l hl
   split at e
   ·rename_i v hv
    simp only[aa,al]at e
    obtain⟨rfl,rfl,rfl⟩:=e
    obtain⟨arr,h1,h2⟩:=Ypy h hl
    obtain⟨u,hu,hr⟩:=h2.get_left hv
    exact⟨⟨u,by simp[execOp,ho,h1,Instr.extract,show arr[i]? = some u by simpa using hu],hr⟩,vc⟩
   ·cases e
  ·cases e
 case h_15 b args tys ho=>simp[ho]at hop
 case h_16 fn fi ca ho=>simp[ho]at hop
 case h_17=>cases e
theorem Y18p (h:Rel E s ι a w) {o:Oper}{S:TypeId}{y:Operand}{f:Nat}(ho:o.op=.fieldAddr S y f) {x:AV}{it:List Item}{q q':List Orc}{K:Prop}
  (e:vop P s o q=some (x,it,q')) (vc:VC it K):VOK P s ι a w o x/\K:=by
 simp only[vop,ho]at e
 split at e
 ·rename_i c off T n hc hf
  split at e
  ·rename_i hn
   cases hs:shift off c with
   | none=>simp[hs]at e
   | some c'=>
    simp only[hs,aP,aa,al]at e
    obtain⟨rfl,rfl,rfl⟩:=e
    have hr:=Yn7 h hc
    obtain⟨b,o1,hp⟩:=Y129 hr hn.2
    rw[hp]at hr
    unfold Y1qd at hf
    split at hf
    ·rename_i fs hu
     split at hf
     ·rename_i fd hfd
      split at hf
      ·rename_i n' hsz
       simp only[aa,al]at hf
       obtain⟨rfl,rfl,rfl⟩:=hf
       refine⟨⟨_,?_,Y1pp hr hs,λ_=>rfl⟩,vc⟩
       simp only[execOp,ho,hp]
       refine Yoa _ ?_
       simp[Instr.fieldAt,aK hu,hfd,Instr.sureAddr,fieldPlace,Yro hsz,hn.1,Yq2]
      ·cases hf
     ·cases hf
    ·cases hf
  ·cases e
 ·cases e
theorem Y16l (h:Rel E s ι a w) {o:Oper}{T:TypeId}{y i:Operand}(ho:o.op=.indexAddr T y i) {x:AV}{it:List Item}{q q':List Orc}{K:Prop}
  (e:vop P s o q=some (x,it,q')) (vc:VC it K):VOK P s ι a w o x/\K:=by
 simp only[vop,ho]at e
 split at e
 ·rename_i c k n el hc hi ht
  split at e
  ·rename_i sz hsz
   have hv:=Yn7 h hc
   have run:∀ (b off len cap:Nat),a.eval y=.slice (some ⟨b,off,none⟩) len cap->0<=n->n.toNat<len ->
     (execOp a.eval o).run P w=.ok (.value (.pointer (some ⟨b,off+n.toNat * sz,none⟩))) w:=by
    intro b off len cap he h0 hlt
    simp only[execOp,ho,he,Ysn h hi]
    refine Yoa _ ?_
    have h2:n<(len:Int):=by omega
    simp[Instr.indexAt,asIntOf,aK (Yuv ht),h0,h2,Yro hsz,Yq2]
   unfold idxAddr at e
   split at e
   ·rename_i es
    split at e
    ·rename_i cl q0
     split at e
     ·rename_i hl
      simp only[aP,aa,al]at e
      obtain⟨rfl,rfl,rfl⟩:=e
      obtain⟨⟨h0,hget⟩,vc⟩:=vc
      obtain⟨b,off,cap,h1,hG,xs,hx,ha⟩:=Rd.elem (show Rd w ι.G _ _ from hv) hget
      refine⟨⟨_,run b off _ cap h1 h0 (List.getElem?_eq_some_iff.1 hget).1,?_⟩,vc⟩
      rw[hl]at hx
      exact⟨⟨by simp,λ_=>⟨b,_,xs,rfl,hG,hx,ha⟩⟩,λ_=>rfl⟩
     ·simp at e
    ·simp at e
   ·rename_i id es
    split at e
    ·rename_i cl q0
     split at e
     ·rename_i hl
      simp only[aP,aa,al]at e
      obtain⟨rfl,rfl,rfl⟩:=e
      obtain⟨⟨h0,hget⟩,vc⟩:=vc
      obtain⟨b,off,cap,h1,hG,xs,hx,ha⟩:=Rd.elem (hv.2 (Yt8 hl.2)) hget
      refine⟨⟨_,run b off _ cap h1 h0 (List.getElem?_eq_some_iff.1 hget).1,?_⟩,vc⟩
      rw[hl.1]at hx
      exact⟨⟨λi e=>by cases e;exact hv.1,λ_=>⟨b,_,xs,rfl,hG,hx,ha⟩⟩,λ_=>rfl⟩
     ·simp at e
    ·simp at e
   ·rename_i id
    split at e
    ·rename_i own sz' es hob
     split at e
     ·rename_i hl
      subst hl
      simp only[aP,aa,al]at e
      obtain⟨rfl,rfl,rfl⟩:=e
      obtain⟨⟨h0,hlt⟩,vc⟩:=vc
      have hr:=h.objs id
      rw[hob]at hr
      have hsl:=hv.2 _ _ _ hob
      obtain⟨ty,xs,Fs,h1,_⟩:=hr
      rcases h1.2 with ⟨he,hz⟩|⟨g,cap,cur,fz,he,_⟩
      ·omega
      ·rw[he]at hsl
       refine⟨⟨_,run g 0 _ cap hsl h0 hlt,?_⟩,vc⟩
       refine⟨⟨hv.1,λown2 sz2 es2 hob2=>⟨g,by rw[he];rfl,?_⟩⟩,λ_=>rfl⟩
       rw[hob]at hob2
       simp only[Ob.arr.injEq]at hob2
       obtain⟨_,rfl,_⟩:=hob2
       simp
     ·simp at e
    ·simp at e
   ·simp at e
  ·cases e
 ·cases e
theorem Y170 {isS:Bool}{len cap x y:Nat}{lo hi:Option Operand}(hlo:lo=none/\x=0\/∃ z k,lo=some z/\a.eval z=.int k (x:Int))
  (hhi:hi=none/\y=len\/∃ z k,hi=some z/\a.eval z=.int k (y:Int)) (h1:x<=y) (h2:y<=cap) :
  (Instr.sliceBounds isS len cap (lo.map a.eval) (hi.map a.eval) none).run P w=.ok (x,y,cap) w:=by
 have hb:∀ (k:IntKind) (n m:Nat) (c:BoundsCode),n<=m->(Instr.sliceBound (.int k (n:Int)) m c).run P w=.ok n w:=by
  intro k n m c hle
  have:=run_sliceBound (P:=P) (w:=w) k (n:Int) m c oW oW
  simpa using this
 unfold Instr.sliceBounds
 rcases hlo with ⟨rfl,rfl⟩|⟨z,k,rfl,hz⟩<;>rcases hhi with ⟨rfl,rfl⟩|⟨z',k',rfl,hz'⟩
 ·simp
 ·simp[hz',hb _ _ _ _ h2]
 ·simp[hz,hb _ _ _ _ h1]
 ·simp[hz,hz',hb _ _ _ _ h1,hb _ _ _ _ h2]
theorem Yst {α:Type}{sz:Nat}:∀ {es:List (List α)}(x n:Nat),(∀ e∈es,e.length=sz)->((es.drop x).take n).flatten=(es.flatten.drop (x * sz)).take (n * sz)
 | [],x,n,_=>by simp
 | e :: es,0,0,h=>by simp
 | e :: es,0,n+1,h=>by
  have ih:=Yst (es:=es) 0 n λy hy=>h y (ai _ hy)
  have he:e.length=sz:=h e aj
  simp only[cQ,Nat.zero_mul]at ih|-
  rw[List.take_succ_cons,bP,bP,ih,bZ,dC,Nat.add_comm (n * sz) sz]
  rw[List.take_append,<- he]
  congr 1
  ·rw[ar oW]
  ·congr 1;omega
 | e :: es,x+1,n,h=>by
  have ih:=Yst (es:=es) x n λy hy=>h y (ai _ hy)
  have he:e.length=sz:=h e aj
  rw[List.drop_succ_cons,ih,bP]
  congr 1
  rw[bZ,dC,List.drop_append,List.drop_of_length_le (l:=e) (by rw[he];omega),bq]
  congr 1
  omega
theorem Rd.slice_sub {G : Nat -> Prop} {v : Value} {es : List (List Cell)} (h : Rd w G v (.list es)) {x y sz : Nat} (hxy : x <= y) (hy : y <= es.length) (hsz : ∀ e ∈ es, e.length = sz)
    {base : Option Addr} {len cap : Nat} (hv : v = .slice base len cap) :
    len = es.length /\ y <= cap /\ Rd w G (.slice (if cap = x then base else base.map (·.add (x * sz))) (y - x) (cap - x)) (.list ((es.drop x).take (y - x))) := by
  have hlen : ((es.drop x).take (y - x)).length = y - x := by rw [List.length_take, List.length_drop]; omega
  cases h with
  | nil =>
    simp only [Value.slice.injEq] at hv
    obtain ⟨rfl, rfl, rfl⟩ := hv
    simp only [List.length_nil] at hy
    obtain rfl : y = 0 := by omega
    obtain rfl : x = 0 := by omega
    exact ⟨rfl, Nat.zero_le _, by simpa using Rd.nil⟩
  | slice hG hc hm hsz' hl hx hr =>
    rename_i b off cap' sz' xs
    simp only [Value.slice.injEq] at hv
    obtain ⟨rfl, rfl, rfl⟩ := hv
    refine ⟨rfl, by omega, ?_⟩
    have hadd : (if cap' = x then some (⟨b, off, none⟩ : Addr) else (some (⟨b, off, none⟩ : Addr)).map (·.add (x * sz))) = some ⟨b, if cap' = x then off else off + x * sz, none⟩ := by
      split <;> simp [Yq2]
    rw [hadd]
    have hmem : ∀ e ∈ (es.drop x).take (y - x), e.length = sz := λe he => hsz e (List.mem_of_mem_drop (List.mem_of_mem_take he))
    have hfl := Yst x (y - x) hsz
    have key : Rd w G (.slice (some ⟨b, if cap' = x then off else off + x * sz, none⟩) ((es.drop x).take (y - x)).length (cap' - x)) (.list ((es.drop x).take (y - x))) := by
      refine .slice (xs := (xs.drop (x * sz)).take ((y - x) * sz)) hG (by rw [hlen]; omega) oW hmem ?_ ?_ ?_
      · rw [hfl]; simp only [List.length_take, List.length_drop, hl]
      · intro j u hu
        rw [List.getElem?_take] at hu
        split at hu
        · rename_i hj
          rw [List.getElem?_drop] at hu
          have := hx _ _ hu
          rw [if_neg (by intro e; have : y - x = 0 := by omega
                         rw [this] at hj; omega), Nat.add_assoc]
          exact this
        · cases hu
      · intro j u c hu hc'
        rw [hfl] at hc'
        rw [List.getElem?_take] at hu hc'
        split at hu
        · rename_i hj
          rw [if_pos hj] at hc'
          rw [List.getElem?_drop] at hu hc'
          exact hr _ u c hu hc'
        · cases hu
    rwa [hlen] at key
theorem Y1fm (h:Rel E s ι a w) {o:Oper}{T:TypeId}{y:Operand}{lo hi mx:Option Operand}(ho:o.op=.slice T y lo hi mx) {x:AV}{it:List Item}{q q':List Orc}{K:Prop}
  (e:vop P s o q=some (x,it,q')) (vc:VC it K):VOK P s ι a w o x/\K:=by
 simp only[vop,ho,vSlice]at e
 cases mx with
 | some z=>cases e
 | none=>
  simp only at e
  split at e
  ·rename_i hs
   split at e
   ·rename_i l hl
    split at e
    ·rename_i x1 i1 x2 i2 h1 h2
     simp only[aa,al]at e
     obtain⟨rfl,rfl,rfl⟩:=e
     have vc1:=VC.append vc
     have vc2:=VC.append vc1
     obtain⟨b1,vc3⟩:=Yv9 h h1 vc2
     obtain⟨b2,vc4⟩:=Yv9 h h2 vc3
     obtain⟨⟨hab,hbl⟩,vc5⟩:=vc4
     obtain⟨hv,hlm⟩:=Y15l h hl
     refine⟨⟨_,?_,Yng ?_⟩,vc5⟩
     ·simp only[execOp,ho,hv]
      refine Yoa _ ?_
      have hsz:(ByteArray.mk l.toArray).size=l.length:=by show l.toArray.size=_;simp
      have hb:=Y170 (P:=P) (w:=w) (isS:=false) (len:=l.length) (cap:=l.length) b1 b2 hab hbl
      simp only[Instr.sliceAt,aQ,aK (Yvb hs),aZ,Instr.slice,Option.map_none,hsz,hb,bC,Option.isSome_none,cu,cT]
      rw[ByteArray.extract_mk]
     ·show (List.toArray _).size<=maxLen
      simp only[cC,au,ax]
      omega
    ·cases e
   ·cases e
  ·rename_i hs
   split at e
   ·rename_i c el hc he
    split at e
    ·rename_i src es sz hel hsz
     split at e
     ·rename_i x1 i1 x2 i2 h1 h2
      simp only[aa,al]at e
      obtain⟨rfl,rfl,rfl⟩:=e
      have vc1:=VC.append vc
      have vc2:=VC.append vc1
      obtain⟨b1,vc3⟩:=Yv9 h h1 vc2
      obtain⟨b2,vc4⟩:=Yv9 h h2 vc3
      obtain⟨⟨hab,hbl,hall⟩,vc5⟩:=vc4
      obtain⟨hr,hnf⟩:=Y15g h (Yn7 h hc) hel
      obtain⟨_,base,cap,hv⟩:=Rd.list_inv hr
      obtain⟨_,hcap,hsub⟩:=Rd.slice_sub hr hab hbl hall hv
      refine⟨⟨.slice (if cap=x1 then base else base.map (·.add (x1 * sz))) (x2 - x1) (cap - x1),?_,?_⟩,vc5⟩
      ·simp only[execOp,ho,hv]
       refine Yoa _ ?_
       have hb:=Y170 (P:=P) (w:=w) (isS:=true) (len:=es.length) (cap:=cap) b1 b2 hab hcap
       simp only[Instr.sliceAt,aQ,aK (Yuv he),aZ,Instr.slice,Option.map_none,hb,bC,Yro hsz]
      ·cases src with
       | none=>exact⟨hsub,λ_=>rfl⟩
       | some id=>exact⟨⟨hnf id rfl,λ_=>hsub⟩,λ_=>rfl⟩
     ·cases e
    ·cases e
   ·cases e
theorem Y1xa (h:Rel E s ι a w) {id i p sz:Nat}{v:Value}(hv:Ymf w ι s.obj (.sub id i p) v) {es es':List (List Cell)}{e:List Cell}(ho:s.obj id=.arr true sz es) (hi:es[i]? = some e) (hp:e[p]? = some (.list es')) :
  ∃ F:Nat->Prop,(∀ b,F b->ι.fp id b)/\OwnC w F v (.list es'):=by
 obtain⟨b,hb,_,hcell⟩:=hv.2 _ _ _ ho
 have hor:=h.objs id
 rw[ho]at hor
 obtain⟨ys,hy,ha⟩:=Ym8.elem hor hi hb
 obtain⟨u,hu,F',hF,hN⟩:=ha.flip.get_left hp
 have:=hy p u hu
 rw[hcell]at this
 simp only[aa]at this
 subst this
 exact⟨F',hF,hN⟩
theorem Y191 (h:Rel E s ι a w) {o:Oper}{b:Builtin}{args:Array Operand}{tys:Array TypeId}(ho:o.op=.call { callee:=.builtin b,args:=args,argTypes:=tys })
  {x:AV} {it:List Item} {q q':List Orc} {K:Prop} (e:vop P s o q=some (x,it,q')) (vc:VC it K):VOK P s ι a w o x/\K:=by
 simp only[vop,ho,vBuiltin]at e
 split at e
 ·split at e
  ·rename_i y t ha ht
   obtain rfl:args=#[y]:=by apply cg;simpa using ha
   obtain rfl:tys=#[t]:=by apply cg;simpa using ht
   split at e
   ·rename_i hs
    split at e
    ·rename_i l hl
     simp only[aa,al]at e
     obtain⟨rfl,rfl,rfl⟩:=e
     obtain⟨hv,hm⟩:=Y15l h hl
     refine⟨⟨_,?_,Yng trivial⟩,vc hm⟩
     simp only[execOp,ho,resolve,aQ,bC,aZ,invoke,builtin]
     simp[Builtin.len_,aK (Yvb hs),hv,goInt]
     show (l.toArray.size:Int)=_
     simp
    ·cases e
   ·split at e
    ·rename_i id i p hc hs
     unfold Y1d0 at e
     split at e
     ·rename_i sz es hob
      split at e
      ·rename_i el q1
       split at e
       ·rename_i es' hp
        simp only[aa,al]at e
        obtain⟨rfl,rfl,rfl⟩:=e
        obtain⟨hel,vc⟩:=vc
        obtain⟨F',_,hN⟩:=Y1xa h (Yn7 h hc) hob hel hp
        obtain⟨hm,base,cap,hv⟩:=Rd.list_inv (OwnC.toRd (G:=F') hN λ_ h=>h)
        refine⟨⟨_,?_,Yng trivial⟩,vc hm⟩
        obtain⟨el,hu⟩:=Y173 hs
        simp only[execOp,ho,resolve,aQ,bC,aZ,invoke,builtin]
        simp[Builtin.len_,aK hu,hv,goInt]
       ·cases e
      ·cases e
     ·cases e
    ·rename_i c _ hc hs
     cases hel:elems s c with
     | none=>simp[hel]at e
     | some r=>
      simp only[hel,aP,aa,al]at e
      obtain⟨rfl,rfl,rfl⟩:=e
      obtain⟨src,es⟩:=r
      obtain⟨hr,_⟩:=Y15g h (Yn7 h hc) hel
      obtain⟨hm,base,cap,hv⟩:=Rd.list_inv hr
      refine⟨⟨_,?_,Yng trivial⟩,vc hm⟩
      obtain⟨el,hu⟩:=Y173 hs
      simp only[execOp,ho,resolve,aQ,bC,aZ,invoke,builtin]
      simp[Builtin.len_,aK hu,hv,goInt]
    ·cases e
  ·cases e
 ·split at e
  ·rename_i y z ha
   obtain rfl:args=#[y,z]:=by apply cg;simpa using ha
   split at e
   ·rename_i k n k' m hy hz
    simp only[aa,al]at e
    obtain⟨rfl,rfl,rfl⟩:=e
    refine⟨⟨_,?_,Yng trivial⟩,vc⟩
    simp only[execOp,ho,resolve,aQ,bC,aZ,invoke,builtin]
    simp[Builtin.max_,Builtin.max2,Ysn h hy,Ysn h hz]
    split<;>omega
   ·cases e
  ·cases e
 ·split at e
  ·rename_i y z ha
   obtain rfl:args=#[y,z]:=by apply cg;simpa using ha
   split at e
   ·rename_i k n k' m hy hz
    simp only[aa,al]at e
    obtain⟨rfl,rfl,rfl⟩:=e
    refine⟨⟨_,?_,Yng trivial⟩,vc⟩
    simp only[execOp,ho,resolve,aQ,bC,aZ,invoke,builtin]
    simp[Builtin.min_,Builtin.min2,Ysn h hy,Ysn h hz]
    split<;>omega
   ·cases e
  ·cases e
 ·cases e
theorem Y1hs (h:Rel E s ι a w) {o:Oper}{fn:Fn}{fi ca:Array Operand}(ho:o.op=.makeFunc fn fi ca) {x:AV}{it:List Item}{q q':List Orc}{K:Prop}(e:vop P s o q=some (x,it,q')) (vc:VC it K):VOK P s ι a w o x/\K:=by
 simp only[vop,ho]at e
 unfold mkClo at e
 cases fn with
 | func f=>
  simp only at e
  cases h1:fi.toList with
  | cons y r=>simp[h1]at e
  | nil=>
   simp only[h1]at e
   cases h2:ca.toList with
   | nil=>simp[h2]at e
   | cons y r=>
    cases r with
    | cons z r=>simp[h2]at e
    | nil=>
     simp only[h2]at e
     split at e
     ·rename_i v hc
      simp only[aa,al]at e
      obtain⟨rfl,rfl,rfl⟩:=e
      have hr:Rd w ι.G (a.eval y) (.cap v):=Yn7 h hc
      obtain rfl:fi=#[]:=cg h1
      obtain rfl:ca=#[y]:=cg h2
      generalize hu:a.eval y=u at hr
      cases hr with
      | cap hb hl hx=>
       refine⟨⟨_,by simp[execOp,ho,Instr.makeFunc,hu];rfl,?_⟩,vc⟩
       exact⟨.clo hb hl hx,λ_=>rfl⟩
     ·cases e
 | _=>cases e
theorem Yy9 (h:Rel E s ι a w) {o:Oper}{x:AV}{it:List Item}{q q':List Orc}{K:Prop}(e:vop P s o q=some (x,it,q')) (vc:VC it K):VOK P s ι a w o x/\K:=by
 cases ho:o.op<;>first
  | exact Y1ms h ho e vc
  | exact Y18p h ho e vc
  | exact Y16l h ho e vc
  | exact Y1fm h ho e vc
  | exact Y1hs h ho e vc
  | exact Y1f3 h (by rw[ho];trivial) e vc
  | (simp only[vop,ho]at e;cases e;done)
  | skip
 rename_i c
 obtain⟨callee,args,tys⟩:=c
 cases callee with
 | builtin b=>exact Y191 h ho e vc
 | value f=>simp only[vop,ho]at e;cases e
 | invoke r m=>simp only[vop,ho]at e;cases e
end
def St.setOb (s:St) (n:Nat) (o:Ob):St:={ s with objs:=s.objs.set n o }
theorem Yll {s:St}{n:Nat}(hn:n<s.objs.length) (o:Ob) (i:Nat):(s.setOb n o).obj i=if i=n then o else s.obj i:=by
 simp only[St.setOb,St.obj,ao,bM]
 by_cases h:n=i
 ·subst h;simp[hn]
 ·simp[h,cv h]
theorem Ym6 {s:St}{i:Nat}{o:Ob}(h:s.obj i=o) (ho:o≠.free):i<s.objs.length:=by
 rcases bH i s.objs.length with hl|hl
 ·exact hl
 ·exfalso;apply ho;rw[<- h];simp[St.obj,hl]
section
variable {P:Program}{E:Ent P}{s:St}{ι:Interp}{a:Act}{w:World}
theorem Y1b1 {n:Nat}(hf:s.obj n=.free) (hn:n<s.objs.length) (o:Ob) {w':World}{ι':Interp}(hglt:∀ b,ι.G b->b<w.heap.size) (hlt:∀ i b,ι.fp i b->b<w.heap.size)
  (hG:ι'.G=ι.G) (hsame:∀ i,i≠n->ι'.blk i=ι.blk i/\ι'.sl i=ι.sl i/\∀ b,ι'.fp i b ↔ ι.fp i b) (hw:∀ b,b<w.heap.size->w'.heap[b]? = w.heap[b]?) :
  Ext (λ_=>True) w ι s.obj w' ι' (s.setOb n o).obj where
 g b hb:=by rw[hG];exact⟨hb,hw b (hglt b hb)⟩
 o id:=by
  rw[Yll hn]
  by_cases h:id=n
  ·subst h;rw[hf];trivial
  ·rw[ab h]
   obtain⟨h1,h2,h3⟩:=hsame id h
   cases e:s.obj id with
   | free=>trivial
   | dead=>trivial
   | box cs=>exact h1
   | arr own sz es=>exact⟨h2,rfl,λ_ b hb=>⟨.inl ((h3 b).2 hb),hw b (hlt _ b hb)⟩⟩
   | map nn k f=>exact⟨h1,rfl,rfl,λ_ b hb=>⟨.inl ((h3 b).2 hb),hw b (hlt _ b hb)⟩⟩
theorem Rel.fresh (h:Rel E s ι a w) {n:Nat}(hf:s.obj n=.free) (hn:n<s.objs.length) (o:Ob) {w':World}{ι':Interp}
  (hG:ι'.G=ι.G) (hsame:∀ i,i≠n->ι'.blk i=ι.blk i/\ι'.sl i=ι.sl i/\∀ b,ι'.fp i b ↔ ι.fp i b)
  (hfp:∀ b,ι'.fp n b->w.heap.size<=b/\b<w'.heap.size) (hw:∀ b,b<w.heap.size->w'.heap[b]? = w.heap[b]?) (hsz:w.heap.size<=w'.heap.size) (os:w'.os=w.os) (out:w'.output=w.output)
  (hr:Yov w' ι' (s.setOb n o).obj n o):Rel E (s.setOb n o) ι' a w':=by
 have hx:=Y1b1 hf hn o (w':=w') h.glt h.lt hG hsame hw
 refine Rel.step h hx (λt=>.inl ⟨rfl,λ_ _ _ _=>trivial⟩) rfl rfl (λi => ?_) ?_ ?_ ?_ ?_ ?_ (λb hb _=>hw b (cK hb h.size)) hsz os out (hG:=λb hb=>.inl (by rwa [hG]at hb))
 ·by_cases hi:i=n
  ·subst hi;right;rw[Yll hn,ae rfl];exact hr
  ·left
   obtain⟨h1,h2,h3⟩:=hsame i hi
   exact⟨by rw[Yll hn,ab hi],⟨h1,h2,h3,λb hb=>hw b (h.lt i b hb)⟩,λ_ _ _ _=>trivial⟩
 ·intro i j b hij hi hj
  by_cases h1:i=n<;>by_cases h2:j=n
  ·omega
  ·subst h1
   have:=(hfp b hi).1
   have:=h.lt j b (((hsame j h2).2.2 b).1 hj)
   omega
  ·subst h2
   have:=(hfp b hj).1
   have:=h.lt i b (((hsame i h1).2.2 b).1 hi)
   omega
  ·exact h.disj i j b hij (((hsame i h1).2.2 b).1 hi) (((hsame j h2).2.2 b).1 hj)
 ·intro i b hi hg
  rw[hG]at hg
  by_cases h1:i=n
  ·subst h1
   have:=(hfp b hi).1
   have:=h.glt b hg
   omega
  ·exact h.gfp i b (((hsame i h1).2.2 b).1 hi) hg
 ·intro i b hi
  by_cases h1:i=n
  ·subst h1
   have:=(hfp b hi).1
   have:=h.size
   exact .inr oW
  ·exact h.own i b (((hsame i h1).2.2 b).1 hi)
 ·intro i b hi
  by_cases h1:i=n
  ·subst h1;exact(hfp b hi).2
  ·have:=h.lt i b (((hsame i h1).2.2 b).1 hi);omega
 ·intro b hb
  rw[hG]at hb
  have:=h.glt b hb;omega
theorem Yqf (w:World) (o:Obj) (b:Nat) (h:b<w.heap.size):(w.alloc o).heap[b]? = w.heap[b]? := by show (w.heap.push o)[b]? = w.heap[b]?;rw[Array.getElem?_push,ab (Nat.ne_of_lt h)]
theorem Rel.newBox (h:Rel E s ι a w) {n:Nat}(hf:s.obj n=.free) (hn:n<s.objs.length) {cs:List AC}{arr:Array Value}(ty:TypeId) (hc:Ylq (Ynt w ι s.obj) cs arr.toList) :
  ∃ ι',Rel E (s.setOb n (.box cs)) ι' a (w.alloc (.cells arr ty))/\Ymo (w.alloc (.cells arr ty)) ι' (s.setOb n (.box cs)).obj (.one (.ptr n 0)) (.pointer (some ⟨w.heap.size,0,none⟩)):=by
 let ι':Interp:={ ι with blk:=λi=>if i=n then w.heap.size else ι.blk i,fp:=λi b=>if i=n then b=w.heap.size else ι.fp i b }
 have hsame:∀ i,i≠n->ι'.blk i=ι.blk i/\ι'.sl i=ι.sl i/\∀ b,ι'.fp i b ↔ ι.fp i b:=λi hi=>⟨by simp[ι',hi],rfl,λb=>by simp[ι',hi]⟩
 have hw:=Yqf w (.cells arr ty)
 have hx:=Y1b1 hf hn (.box cs) (w':=w.alloc (.cells arr ty)) (ι':=ι') h.glt h.lt rfl hsame hw
 have hr:Yov (w.alloc (.cells arr ty)) ι' (s.setOb n (.box cs)).obj n (.box cs):=by
  refine⟨by simp[ι'],arr,ty,?_,hc.imp λc v hcv=>⟨Ymf.ext hx (λ_ _=>trivial) hcv.1,hcv.2⟩⟩
  simp only[ι',bx]
  exact heap_alloc_new w _
 refine⟨ι',Rel.fresh h hf hn (.box cs) (w':=w.alloc (.cells arr ty)) rfl hsame (λb hb => ?_) hw sW rfl rfl hr,⟨?_,λ_ _=>by simp[ι']⟩,λ_=>rfl⟩
 ·simp[ι']at hb;subst hb;simp
 ·unfold notFree;rw[Yll hn,ae rfl];trivial
def Yrp:SV->Option (List AC)
 | .one .top=>none
 | .one c=>some [c]
 | .agg cs=>some cs
theorem Yrm {ob:Nat->Ob}{x:SV}{cs:List AC}{v:Value}(e:Yrp x=some cs) (h:Ymo w ι ob x v):Ylq (Ynt w ι ob) cs v.cells.toList:=by
 unfold Yrp at e
 split at e
 ·cases e
 ·rename_i c hc
  simp only[aa]at e;subst e
  have h1:=h.2 hc
  have:v.cells=#[v]:=by cases v<;>first|rfl|(simp[Value.oneCell']at h1)
  rw[this]
  exact⟨⟨h.1,h1⟩,trivial⟩
 ·simp only[aa]at e;subst e
  obtain⟨arr,rfl,ha⟩:=h
  exact ha
def splice {α:Type}(off:Nat) (l cs:List α):List α:=cs.take off++l++cs.drop (off+l.length)
theorem Y1f5 (off:Nat) (l:Array Value) (cs:Array Value) (h:off+l.size<=cs.size) :
  (l.zipIdx.foldl (λcs (x:Value×Nat)=>cs.setIfInBounds (off+x.2) x.1) cs).toList=splice off l.toList cs.toList:=by
 rw[<- Array.foldl_toList,Array.toList_zipIdx]
 obtain⟨h1,h2⟩:=Great.foldl_set off l.toList 0 cs
 apply cD
 intro k
 have e:∀ (A:Array Value),A.toList[k]? = A[k]? := λA=>by simp
 rw[e,h2 k]
 have hl:l.toList.length=l.size:=by simp
 simp only[splice,cR,hl]
 by_cases h3:k<off
 ·rw[ab oW,aH,bg (by rw[au];simp;omega),aV,ae h3,e]
 ·by_cases h4:k<off+l.size
  ·rw[ae oW,aH,aR (by rw[au];omega),bg (by rw[au];simp;omega)]
   rw[au,bG,bT oW]
  ·rw[ab oW,aR (by rw[aw,au];simp;omega)]
   rw[aw,au,bG,hl,bT oW,aX,dG]
   congr 1;omega
theorem Ylq.splice {α β:Type}{R:α->β->Prop}{off:Nat}{l:List α}{m:List β}{cs:List α}{ds:List β}(h1:Ylq R l m) (h2:Ylq R cs ds):Ylq R (splice off l cs) (splice off m ds):=by
 unfold Ab.splice
 rw[h1.length]
 exact((h2.take off).append h1).append (h2.drop _)
def Yvg (place:Nat->Option (Nat×Nat)) (cells:List AC):List (Nat×List AC)->Option (List AC)
 | []=>some cells
 | (i,l) :: rest=>
  match place i with
  | none=>none
  | some (off,size)=>if l.length=size/\off+l.length<=cells.length then Yvg place (splice off l cells) rest else none
theorem Yxo {ob:Nat->Ob}(place:Nat->Option (Nat×Nat)):∀ (ps:List (Nat×List AC)) (qs:List (Nat×Value)) (cells:List AC) (arr:Array Value) (cells':List AC),
  Ylq (λp q=>p.1=q.1/\Ylq (Ynt w ι ob) p.2 q.2.cells.toList) ps qs->Ylq (Ynt w ι ob) cells arr.toList->Yvg place cells ps=some cells' ->
  ∃ arr',Instr.fill place arr qs=some arr'/\Ylq (Ynt w ι ob) cells' arr'.toList
 | [],[],cells,arr,cells',_,hc,e=>by
  simp only[Yvg,aa]at e;subst e
  exact⟨arr,rfl,hc⟩
 | (i,l) :: ps,(j,v) :: qs,cells,arr,cells',hp,hc,e=>by
  obtain⟨⟨rfl,hl⟩,hp⟩:=hp
  simp only[Yvg]at e
  cases hpl:place i with
  | none=>simp[hpl]at e
  | some os=>
   obtain⟨off,size⟩:=os
   simp only[hpl]at e
   split at e
   ·rename_i hcond
    have hvl:v.cells.size=l.length:=by rw[hl.length];simp
    have hal:arr.size=cells.length:=by rw[hc.length];simp
    have hsp:=Y1f5 off v.cells arr oW
    obtain⟨arr',h1,h2⟩:=Yxo place ps qs (splice off l cells) (v.cells.zipIdx.foldl (λcs (x:Value×Nat)=>cs.setIfInBounds (off+x.2) x.1) arr) cells' hp
     (by rw[hsp];exact hl.splice hc) e
    refine⟨arr',?_,h2⟩
    unfold Instr.fill
    simp only[hpl]
    rw[ab (by simp;omega)]
    exact h1
   ·cases e
 | [],_ :: _,_,_,_,h,_,_=>h.elim
 | _ :: _,[],_,_,_,h,_,_=>h.elim
end
structure Res where
 val:AV:=.sv (.one .top)
 new:List Ob:=[]
 upd:List (Nat×Ob):=[]
 inv:List Nat:=[]
def Ynm (ids:List Nat) (c:AC):AC:=match c.src with|some id=>if ids.elem id then .top else c|none=>c
def Yo0 (ids:List Nat):SV->SV
 | .one c=>.one (Ynm ids c)
 | .agg cs=>.agg (cs.map (Ynm ids))
def Yn0 (ids:List Nat):AV->AV
 | .sv x=>.sv (Yo0 ids x)
 | .tup l=>.tup (l.map (Yo0 ids))
def Ym5 (ids:List Nat):Ob->Ob
 | .box cs=>.box (cs.map (Ynm ids))
 | o=>o
def St.inval (ids:List Nat) (s:St):St:=match ids with | []=>s|_=>{ s with regs:=s.regs.map (Yn0 ids),objs:=s.objs.map (Ym5 ids) }
def St.setObs (s:St):Nat->List Ob->St
 | _,[]=>s
 | n,o :: r=>(s.setOb n o).setObs (n+1) r
def St.updObs (s:St):List (Nat×Ob)->St
 | []=>s
 | (n,o) :: r=>(s.setOb n o).updObs r
def St.app (s:St) (n:Nat) (r:Res):St:=((s.inval r.inv).updObs r.upd).setObs n r.new
def Yqw (s:St) (n:Nat) (k:Nat):Prop:=∀ i,n<=i->i<n+k->s.obj i=.free/\i<s.objs.length
section
variable {P:Program}{E:Ent P}{s:St}{ι:Interp}{a:Act}{w:World}
def EOK (P:Program) (E:Ent P) (s:St) (a:Act) (w:World) (o:Oper) (n:Nat) (r:Res):Prop:=
 ∀ (next:Act->World->Prop) (Q:Exit->Act->World->Prop),
  (∀ ι' v w',Rel E (s.app n r) ι' a w'->Ymg w' ι' (s.app n r).obj r.val v->next (a.put o.dst v) w')->o.wp P a w next Q
theorem EOK.value {o:Oper}{n:Nat}{r:Res}{ι':Interp}{v:Value}{w':World}(he:(execOp a.eval o).run P w=.ok (.value v) w') (h:Rel E (s.app n r) ι' a w')
  (hv:Ymg w' ι' (s.app n r).obj r.val v):EOK P E s a w o n r:=by
 intro next Q k
 simp only[Oper.wp,he,Oper.upon_value]
 exact k ι' v w' h hv
theorem EOK.skip {o:Oper}{n:Nat}{r:Res}{ι':Interp}{w':World}(he:(execOp a.eval o).run P w=.ok .skip w') (h:Rel E (s.app n r) ι' a w')
  (hv:Ymg w' ι' (s.app n r).obj r.val undef):EOK P E s a w o n r:=by
 intro next Q k
 simp only[Oper.wp,he,Oper.upon_skip]
 exact k ι' undef w' h hv
def Yqz (P:Program) (T:TypeId):Option (List AC):=
 match P.info? T with
 | some i=>match i.zero with
  | some z=>if z.cells.toList.all Y10f then some (z.cells.toList.map λv=>.val (.lit v)) else none
  | none=>none
 | none=>none
theorem Y10g {T:TypeId}{cs:List AC}(e:Yqz P T=some cs) (w:World) (ι:Interp) (ob:Nat->Ob):∃ z,(∀ w:World,(zeroValue T).run P w=.ok z w)/\Ylq (Ynt w ι ob) cs z.cells.toList:=by
 unfold Yqz at e
 split at e
 ·rename_i i hi
  split at e
  ·rename_i z hz
   split at e
   ·rename_i hb
    simp only[aa]at e;subst e
    refine⟨z,λw=>by simp[zeroValue,typeInfo,hi,hz],Ylq.map_left _ (Ylq.of_get rfl λk x y hx hy => ?_)⟩
    rw[hx]at hy
    simp only[aa]at hy;subst hy
    have:=Yuq (List.all_eq_true.1 hb x (aE hx))
    exact⟨.lit this,this.one⟩
   ·cases e
  ·cases e
 ·cases e
def Y11s (P:Program) (T n:Nat):Option Res:=(Yqz P T).map λcs=>{ val:=.sv (.one (.ptr n 0)),new:=[.box cs] }
theorem Y1d4 (h:Rel E s ι a w) {o:Oper}{T:TypeId}(ho:o.op=.alloc T) {n:Nat}{r:Res}(e:Y11s P T n=some r) (hroom:Yqw s n r.new.length):EOK P E s a w o n r:=by
 unfold Y11s at e
 cases hz:Yqz P T with
 | none=>simp[hz]at e
 | some cs=>
  simp only[hz,aP,aa]at e;subst e
  obtain⟨z,h1,h2⟩:=Y10g hz w ι s.obj
  obtain⟨hf,hn⟩:=hroom n (aC _) sW
  obtain⟨ι',h3,h4⟩:=h.newBox hf hn T h2
  refine EOK.value ?_ h3 h4
  simp only[execOp,ho,Instr.alloc]
  simp[h1,newVar,newRow]
def eBox (s:St) (x:Operand) (n:Nat):Option Res:=
 match s.ev x with
 | some (.sv v)=>(Yrp v).map λcs=>{ val:=.sv (.one (.ptr n 0)),new:=[.box cs] }
 | _=>none
theorem Y1ma (h:Rel E s ι a w) {o:Oper}{T:TypeId}{x:Operand}(ho:o.op=.box T x) {n:Nat}{r:Res}(e:eBox s x n=some r) (hroom:Yqw s n r.new.length):EOK P E s a w o n r:=by
 unfold eBox at e
 split at e
 ·rename_i v hv
  cases hc:Yrp v with
  | none=>simp[hc]at e
  | some cs=>
   simp only[hc,aP,aa]at e;subst e
   obtain⟨hf,hn⟩:=hroom n (aC _) sW
   obtain⟨ι',h3,h4⟩:=h.newBox hf hn T (Yrm hc (Ypy h hv))
   refine EOK.value ?_ h3 h4
   simp only[execOp,ho,Instr.box]
   simp[newVar,newRow]
 ·cases e
def Y15h:Operand->Option (List AC)
 | .const (.agg vs)=>if vs.toList.all Y10f then some (vs.toList.map λv=>.val (.lit v)) else none
 | _=>none
theorem Y181 {w:World}{ι:Interp}{ob:Nat->Ob}:∀ {l:List Value},l.all Y10f->Ylq (Ynt w ι ob) (l.map λv=>.val (.lit v)) l
 | [],_=>trivial
 | v :: l,h=>by
  rw[dD,af]at h
  exact⟨⟨.lit (Yuq h.1),(Yuq h.1).one⟩,Y181 h.2⟩
theorem Y1df {x:Operand}{cs:List AC}(e:Y15h x=some cs):Ylq (Ynt w ι s.obj) cs (a.eval x).cells.toList:=by
 unfold Y15h at e
 split at e
 ·rename_i vs
  split at e
  ·rename_i hv
   simp only[aa]at e;subst e
   exact Y181 hv
  ·cases e
 ·cases e
def partCells (s:St):List (Nat×Operand)->Option (List (Nat×List AC))
 | []=>some []
 | (i,x) :: r=>match Y15h x with
  | some cs=>match partCells s r with
   | some l=>some ((i,cs) :: l)
   | _=>none
  | none=>match s.ev x with
   | some (.sv v)=>match Yrp v,partCells s r with
    | some cs,some l=>some ((i,cs) :: l)
    | _,_=>none
   | _=>none
theorem Yrk (h:Rel E s ι a w):∀ {ps:List (Nat×Operand)}{l:List (Nat×List AC)},partCells s ps=some l ->
  Ylq (λp q=>p.1=q.1/\Ylq (Ynt w ι s.obj) p.2 q.2.cells.toList) l (ps.map λx=>(x.1,a.eval x.2))
 | [],l,e=>by simp only[partCells,aa]at e;subst e;trivial
 | (i,x) :: ps,l,e=>by
  simp only[partCells]at e
  split at e
  ·rename_i cs hcs
   split at e
   ·rename_i l' hl
    simp only[aa]at e;subst e
    exact⟨⟨rfl,Y1df hcs⟩,Yrk h hl⟩
   ·cases e
  ·split at e
   ·rename_i v hv
    split at e
    ·rename_i cs l' hc hl
     simp only[aa]at e;subst e
     exact⟨⟨rfl,Yrm hc (Ypy h hv)⟩,Yrk h hl⟩
    ·cases e
   ·cases e
def Y1ef (P:Program) (fs:List Field):Option (List (Nat×Nat)):=fs.mapM λf=>(P.info? f.type).map λi=>(f.offset,i.size)
def eBuild (P:Program) (s:St) (T:TypeId) (ps:Array (Nat×Operand)):Option Res:=
 match P.underlying T with
 | some (.struct fs)=>match Y1ef P fs.toList,Yqz P T,partCells s ps.toList with
  | some pl,some z,some l=>(Yvg (pl.toArray[·]?) z l).map λcs=>{ val:=.sv (.agg cs) }
  | _,_,_=>none
 | some (.array _ e)=>match P.info? e,Yqz P T,partCells s ps.toList with
  | some ie,some z,some l=>(Yvg (λi=>some (i * ie.size,ie.size)) z l).map λcs=>{ val:=.sv (.agg cs) }
  | _,_,_=>none
 | _=>none
theorem Y1da (h:Rel E s ι a w) {o:Oper}{T:TypeId}{ps:Array (Nat×Operand)}(ho:o.op=.build T ps) {n:Nat}{r:Res}(e:eBuild P s T ps=some r):EOK P E s a w o n r:=by
 unfold eBuild at e
 split at e
 ·rename_i fs hu
  split at e
  ·rename_i pl z l h1 h2 h3
   cases hf:Yvg (pl.toArray[·]?) z l with
   | none=>rw[hf]at e;cases e
   | some cs=>
    rw[hf]at e
    simp only[aP,aa]at e;subst e
    have hparts:=Yrk h h3
    unfold Yqz at h2
    split at h2
    ·rename_i i hi
     split at h2
     ·rename_i zv hz
      obtain⟨zv',hz1,hz2⟩:=Y10g (P:=P) (T:=T) (cs:=z) (by unfold Yqz;simp only[hi,hz];exact h2) w ι s.obj
      have hzz:zv'=zv:=by
       have:=hz1 w
       simp[zeroValue,typeInfo,hi,hz]at this
       exact this.symm
      subst hzz
      obtain⟨arr,h4,h5⟩:=Yxo (pl.toArray[·]?) l _ z zv'.cells cs hparts hz2 hf
      have hb:P.built T (ps.toList.map λx=>(x.1,a.eval x.2))=some arr:=by
       unfold Program.built
       unfold Y1ef at h1
       simp only[hi,hu,hz,h1]
       exact h4
      refine EOK.value (w':=w) (ι':=ι) (v:=.agg arr) ?_ h ⟨arr,rfl,h5⟩
      simp only[execOp,ho]
      exact Yoa _ (run_build w T _ arr (by simpa using hb))
     ·cases h2
    ·cases h2
  ·cases e
 ·rename_i len e0 hu
  split at e
  ·rename_i ie z l h1 h2 h3
   cases hf:Yvg (λi=>some (i * ie.size,ie.size)) z l with
   | none=>rw[hf]at e;cases e
   | some cs=>
    rw[hf]at e
    simp only[aP,aa]at e;subst e
    have hparts:=Yrk h h3
    unfold Yqz at h2
    split at h2
    ·rename_i i hi
     split at h2
     ·rename_i zv hz
      obtain⟨zv',hz1,hz2⟩:=Y10g (P:=P) (T:=T) (cs:=z) (by unfold Yqz;simp only[hi,hz];exact h2) w ι s.obj
      have hzz:zv'=zv:=by
       have:=hz1 w
       simp[zeroValue,typeInfo,hi,hz]at this
       exact this.symm
      subst hzz
      obtain⟨arr,h4,h5⟩:=Yxo (λi=>some (i * ie.size,ie.size)) l _ z zv'.cells cs hparts hz2 hf
      have hb:P.built T (ps.toList.map λx=>(x.1,a.eval x.2))=some arr:=by
       unfold Program.built
       simp only[hi,hu,hz,h1]
       exact h4
      refine EOK.value (w':=w) (ι':=ι) (v:=.agg arr) ?_ h ⟨arr,rfl,h5⟩
      simp only[execOp,ho]
      exact Yoa _ (run_build w T _ arr (by simpa using hb))
     ·cases h2
    ·cases h2
  ·cases e
 ·cases e
theorem Rel.setBox (h:Rel E s ι a w) {id:Nat}{cs cs':List AC}(hb:s.obj id=.box cs) {arr':Array Value}(hc:Ylq (Ynt w ι s.obj) cs' arr'.toList) :
  Rel E (s.setOb id (.box cs')) ι a (w.setRow (ι.blk id) arr'):=by
 have hid:id<s.objs.length:=Ym6 hb sW
 have hob:=h.objs id
 rw[hb]at hob
 obtain⟨hfp,arr,ty,hheap,_⟩:=hob
 have hother:∀ b,b≠ι.blk id->(w.setRow (ι.blk id) arr').heap[b]? = w.heap[b]? := λb hne=>du w _ b _ hne
 have hx:Ext (λ_=>True) w ι s.obj (w.setRow (ι.blk id) arr') ι (s.setOb id (.box cs')).obj:=by
  refine⟨λb hg=>⟨hg,hother b λe=>h.gfp id b (by rw[e];exact hfp) hg⟩,λi => ?_⟩
  rw[Yll hid]
  by_cases hi:i=id
  ·subst hi;rw[ae rfl,hb];rfl
  ·rw[ab hi]
   cases e:s.obj i with
   | free=>trivial
   | dead=>trivial
   | box cs=>rfl
   | arr own sz es=>exact⟨rfl,rfl,λ_ b hf=>⟨.inl hf,hother b λe=>h.disj i id b hi hf (by rw[e];exact hfp)⟩⟩
   | map nn k f=>exact⟨rfl,rfl,rfl,λ_ b hf=>⟨.inl hf,hother b λe=>h.disj i id b hi hf (by rw[e];exact hfp)⟩⟩
 refine Rel.step h hx (λt=>.inl ⟨rfl,λ_ _ _ _=>trivial⟩) rfl rfl (λi => ?_) h.disj h.gfp h.own (λi b hf=>by simp[h.lt i b hf]) (λb hg=>by simp[h.glt b hg]) (λb hlt hM => ?_) sW rfl rfl
 ·by_cases hi:i=id
  ·subst hi;right
   rw[Yll hid,ae rfl]
   exact⟨hfp,arr',ty,setRow_heap w _ arr _ ty _ hheap,hc.imp λc v hcv=>⟨Ymf.ext hx (λ_ _=>trivial) hcv.1,hcv.2⟩⟩
  ·left
   refine⟨by rw[Yll hid,ab hi],⟨rfl,rfl,λb=>dQ,λb hf=>hother b λe=>h.disj i id b hi hf (by rw[e];exact hfp)⟩,λ_ _ _ _=>trivial⟩
 ·refine hother b λe => ?_
  rcases h.own id b (by rw[e];exact hfp) with h1|h1
  ·exact hM h1
  ·omega
theorem Ytx {T:TypeId}{v:Value}{b off n:Nat}{arr:Array Value}{ty:TypeId}{fz:Nat×Nat}(hT:Ypc P T=some n) (hb:w.heap[b]? = some (.cells arr ty fz)) (hz:Y15o arr.size fz) (hl:v.cells.toList.length=n) (hfit:off+n<=arr.size)
  (h1:∀ u∈v.cells.toList,u.oneCell'):(Instr.storeAt T (.pointer (some ⟨b,off,none⟩)) v).run P w=.ok () (w.setRow b (splice off v.cells.toList arr.toList).toArray):=by
 have hs:=Ys9 P b off ty fz v.cells.toList 0 arr w hb hz (by rw[cR,hl];exact hfit) h1
 simp only[cR]at hs
 have hl':v.cells.size=n:=by simpa using hl
 simp only[Instr.storeAt,Instr.sureAddr,aQ,bC,aZ,storeVar,Yro hT,hl',ne_eq,not_true_eq_false,cT,hs,splice]
theorem Y1hx {T:TypeId}{v:Value}{b off n:Nat}{arr:Array Value}{ty:TypeId}(hT:Ypc P T=some n) (hb:w.heap[b]? = some (.cells arr ty (0,0))) (hl:v.cells.toList.length=n) (hfit:off+n<=arr.size)
  (h1:∀ u∈v.cells.toList,u.oneCell'):(Instr.storeAt T (.pointer (some ⟨b,off,none⟩)) v).run P w=.ok () (w.setRow b (splice off v.cells.toList arr.toList).toArray):=Ytx hT hb (.inl rfl) hl hfit h1
def eStoreBox (P:Program) (s:St) (T:TypeId) (ad x:Operand):Option Res:=
 match s.ac ad,s.ev x with
 | some (.ptr id off),some (.sv v)=>match s.obj id,Yrp v,Ypc P T with
  | .box cs,some l,some n=>if l.length=n/\off+n<=cs.length then some { upd:=[(id,.box (splice off l cs))] } else none
  | _,_,_=>none
 | _,_=>none
theorem Yum {ob:Nat->Ob}{v:Value}:Ymg w ι ob (.sv (.one .top)) v:=⟨trivial,λh=>(h rfl).elim⟩
theorem Y17u (h:Rel E s ι a w) {o:Oper}{T:TypeId}{ad x:Operand}(ho:o.op=.store T ad x) {n:Nat}{r:Res}(e:eStoreBox P s T ad x=some r):EOK P E s a w o n r:=by
 unfold eStoreBox at e
 split at e
 ·rename_i id off v had hx
  split at e
  ·rename_i cs l m hob hl hT
   split at e
   ·rename_i hfit
    simp only[aa]at e;subst e
    have hv:=Yrm hl (Ypy h hx)
    have hor:=h.objs id
    rw[hob]at hor
    obtain⟨hfp,arr,ty,hheap,hcs⟩:=hor
    have hp:=(Yn7 h had).2 _ hob
    have hlen:(a.eval x).cells.toList.length=m:=by rw[<- hv.length];exact hfit.1
    have hal:arr.size=cs.length:=by rw[hcs.length];simp
    have h1:∀ u∈(a.eval x).cells.toList,u.oneCell':=by
     intro u hu
     obtain⟨k,hk⟩:=cn hu
     obtain⟨c,_,hc⟩:=hv.flip.get_left hk
     exact hc.2
    refine EOK.skip (ι':=ι) (w':=w.setRow (ι.blk id) (splice off (a.eval x).cells.toList arr.toList).toArray) ?_ (h.setBox hob ?_) Yum
    ·simp only[execOp,ho,hp]
     rw[aQ,Y1hx hT hheap hlen oW h1]
     rfl
    ·exact hv.splice hcs
   ·cases e
  ·cases e
 ·cases e
end
def absorbOwn (s:St):List AC->Option (List Cell×List Nat)
 | []=>some ([],[])
 | c :: r=>match absorbOwn s r with
  | none=>none
  | some (cs,ids)=>match c with
   | .val (.lit v)=>some (normLit v :: cs,ids)
   | .ref j=>match s.obj j with
    | .arr true _ es=>if ids.elem j then none else some (.list es :: cs,j :: ids)
    | _=>none
   | _=>none
def Yr5:List AC->Option (List Cell)
 | []=>some []
 | c :: r=>match Yr5 r with
  | none=>none
  | some cs=>match c with
   | .val (.lit v)=>some (normLit v :: cs)
   | .val c=>some (c :: cs)
   | _=>none
def Ynk (ids:List Nat):List (Nat×Ob):=ids.map λj=>(j,.dead)
theorem Ylr (s:St) (n:Nat) (o:Ob):(s.setOb n o).objs.length=s.objs.length:=by simp[St.setOb]
theorem Yon:∀ (l:List (Nat×Ob)) (s:St),(s.updObs l).objs.length=s.objs.length
 | [],_=>rfl
 | (n,o) :: r,s=>by rw[St.updObs,Yon r,Ylr]
theorem Ynq:∀ (l:List (Nat×Ob)) (s:St),(s.updObs l).regs=s.regs
 | [],_=>rfl
 | (n,o) :: r,s=>by rw[St.updObs,Ynq r];rfl
theorem Yus:∀ (l:List (Nat×Ob)) (s:St),(s.updObs l).m=s.m
 | [],_=>rfl
 | (n,o) :: r,s=>by rw[St.updObs,Yus r];rfl
theorem Ysf:∀ (ids:List Nat) (s:St),(∀ j∈ids,j<s.objs.length)->∀ i,(s.updObs (Ynk ids)).obj i=if i∈ids then .dead else s.obj i
 | [],s,_,i=>by simp[Ynk,St.updObs]
 | j :: ids,s,h,i=>by
  have:=Ysf ids (s.setOb j .dead) (λk hk=>by rw[Ylr];exact h k (ai _ hk)) i
  simp only[Ynk,bO,St.updObs]at this|-
  rw[this,Yll (h j aj)]
  by_cases h1:i∈ids
  ·simp[h1]
  ·by_cases h2:i=j
   ·simp[h2]
   ·simp[h1,h2]
section
variable {P:Program}{E:Ent P}{s:St}{ι:Interp}{a:Act}{w:World}
def Ysi (o:Ob):Prop:=∃ own sz es,o=.arr own sz es
theorem Rel.makeArr (h:Rel E s ι a w) {n:Nat}(hf:s.obj n=.free) (hn:n<s.objs.length) {ids:List Nat}(hids:∀ j∈ids,Ysi (s.obj j)) {own:Bool}{sz:Nat}{es:List (List Cell)}
  {w':World} {v':Value} {F':Nat->Prop} (hw:∀ b,b<w.heap.size->(∀ j∈ids,¬ ι.fp j b)->w'.heap[b]? = w.heap[b]?) (hsz:w.heap.size<=w'.heap.size) (os:w'.os=w.os) (out:w'.output=w.output)
  (hF:∀ b,F' b->(∃ j∈ids,ι.fp j b)\/(w.heap.size<=b/\b<w'.heap.size)) (hr:Ym8 w' (Yna w' ι.G own) sz F' v' es) (hv1:v'.oneCell') :
  ∃ ι',Rel E ((s.updObs (Ynk ids)).setOb n (.arr own sz es)) ι' a w'/\Ymo w' ι' ((s.updObs (Ynk ids)).setOb n (.arr own sz es)).obj (.one (.ref n)) v':=by
 have hlen:∀ j∈ids,j<s.objs.length:=λj hj=>by
  obtain⟨o,z,e,hjo⟩:=hids j hj
  exact Ym6 hjo sW
 have hnin:n∉ids:=λhc=>by
  obtain⟨o,z,e,hjo⟩:=hids n hc
  rw[hf]at hjo;cases hjo
 have hobj:∀ i,((s.updObs (Ynk ids)).setOb n (.arr own sz es)).obj i=if i=n then .arr own sz es else if i∈ids then .dead else s.obj i:=by
  intro i
  rw[Yll (by rw[Yon];exact hn),Ysf ids s hlen]
 let ι':Interp:={ ι with sl:=λi=>if i=n then v' else ι.sl i,fp:=λi b=>if i=n then F' b else if i∈ids then False else ι.fp i b }
 have hother:∀ i b,i≠n->i∉ids->ι.fp i b->w'.heap[b]? = w.heap[b]? := λi b h1 h2 hb=>
  hw b (h.lt i b hb) λj hj hjb=>h.disj i j b (λe=>h2 (e ▸ hj)) hb hjb
 have hg:∀ b,ι.G b->w'.heap[b]? = w.heap[b]? := λb hb=>hw b (h.glt b hb) λj _ hjb=>h.gfp j b hjb hb
 have hx:Ext (λ_=>True) w ι s.obj w' ι' ((s.updObs (Ynk ids)).setOb n (.arr own sz es)).obj:=by
  refine⟨λb hb=>⟨hb,hg b hb⟩,λi => ?_⟩
  rw[hobj i]
  by_cases h1:i=n
  ·subst h1;rw[ae rfl,hf];trivial
  ·rw[ab h1]
   by_cases h2:i∈ids
   ·rw[ae h2]
    obtain⟨o,z,e,hjo⟩:=hids i h2
    rw[hjo];trivial
   ·rw[ab h2]
    cases e:s.obj i with
    | free=>trivial
    | dead=>trivial
    | box cs=>rfl
    | arr own' sz' es'=>exact⟨by simp[ι',h1],rfl,λ_ b hb=>⟨.inl (by simp[ι',h1,h2,hb]),hother i b h1 h2 hb⟩⟩
    | map nn k f=>exact⟨rfl,rfl,rfl,λ_ b hb=>⟨.inl (by simp[ι',h1,h2,hb]),hother i b h1 h2 hb⟩⟩
 have hfp:∀ i b,ι'.fp i b->(i=n/\F' b)\/(i≠n/\i∉ids/\ι.fp i b):=by
  intro i b hb
  simp only[ι']at hb
  split at hb
  ·exact .inl ⟨‹_›,hb⟩
  ·split at hb
   ·exact hb.elim
   ·exact .inr ⟨‹_›,‹_›,hb⟩
 have hF1:∀ b,F' b->∀ i,i≠n->i∉ids->¬ ι.fp i b:=by
  intro b hb i h1 h2 hi
  rcases hF b hb with ⟨j,hj,hjb⟩|⟨hge,_⟩
  ·exact h.disj i j b (λe=>h2 (e ▸ hj)) hi hjb
  ·have:=h.lt i b hi;omega
 refine⟨ι',Rel.step h hx (λt=>.inl ⟨?_,λ_ _ _ _=>trivial⟩) ?_ (Yus _ _) (λi => ?_) ?_ ?_ ?_ ?_ ?_ (λb hb hM => ?_) hsz os out,⟨?_,λown2 sz2 es2 _=>by simp[ι']⟩,λ_=>hv1⟩
 ·show ((s.updObs (Ynk ids)).setOb n _).regs.getD t _=_
  simp only[St.setOb,Ynq];rfl
 ·simp only[St.setOb,Ynq]
 ·rw[hobj i]
  by_cases h1:i=n
  ·subst h1;right
   rw[ae rfl]
   have e1:ι'.fp i=F':=by funext b;simp[ι']
   have e2:ι'.sl i=v':=by simp[ι']
   show Ym8 w' (Yna w' ι'.G own) sz (ι'.fp i) (ι'.sl i) es
   rw[e1,e2];exact hr
  ·rw[ab h1]
   by_cases h2:i∈ids
   ·right
    rw[ae h2]
    intro b hb
    rcases hfp i b hb with ⟨h3,_⟩|⟨_,h3,_⟩
    ·exact h1 h3
    ·exact h3 h2
   ·left
    rw[ab h2]
    exact⟨rfl,⟨rfl,by simp[ι',h1],λb=>by simp[ι',h1,h2],λb hb=>hother i b h1 h2 hb⟩,λ_ _ _ _=>trivial⟩
 ·intro i j b hij hi hj
  rcases hfp i b hi with ⟨rfl,h1⟩|⟨h1,h2,h3⟩<;>rcases hfp j b hj with ⟨rfl,k1⟩|⟨k1,k2,k3⟩
  ·exact hij rfl
  ·exact hF1 b h1 j k1 k2 k3
  ·exact hF1 b k1 i h1 h2 h3
  ·exact h.disj i j b hij h3 k3
 ·intro i b hi hgb
  rcases hfp i b hi with ⟨rfl,h1⟩|⟨h1,h2,h3⟩
  ·rcases hF b h1 with ⟨j,_,hjb⟩|⟨hge,_⟩
   ·exact h.gfp j b hjb hgb
   ·have:=h.glt b hgb;omega
  ·exact h.gfp i b h3 hgb
 ·intro i b hi
  rcases hfp i b hi with ⟨rfl,h1⟩|⟨h1,h2,h3⟩
  ·rcases hF b h1 with ⟨j,_,hjb⟩|⟨hge,_⟩
   ·exact h.own j b hjb
   ·exact .inr (aN h.size hge)
  ·exact h.own i b h3
 ·intro i b hi
  rcases hfp i b hi with ⟨rfl,h1⟩|⟨h1,h2,h3⟩
  ·rcases hF b h1 with ⟨j,_,hjb⟩|⟨_,hlt⟩
   ·have:=h.lt j b hjb;omega
   ·exact hlt
  ·have:=h.lt i b h3;omega
 ·intro b hb
  have:=h.glt b hb;omega
 ·refine hw b (cK hb h.size) λj _ hjb => ?_
  rcases h.own j b hjb with h1|h1
  ·exact hM h1
  ·omega
 ·unfold notFree;rw[hobj n,ae rfl];trivial
theorem Yv6 {F:Nat->Prop}{v:Value}(h:Yq7 v):OwnC w F v (normLit v):=by
 unfold normLit
 split
 ·exact .arr (es:=[]) (xs:=[]) (Fs:=λ_ _=>False) (e:=0) (sz:=0) (Y10z w 0 0) sW (by simp[Value.ownBlock]) sW sW sW sW (λ_=>⟨none,rfl⟩)
 ·exact .lit h
theorem Y1l4 {G:Nat->Prop}{v:Value}(h:Yq7 v):Rd w G v (normLit v):=by
 unfold normLit
 split
 ·exact .nil
 ·exact .lit h
theorem Yxi {ob:Nat->Ob}:∀ {acs:List AC}{vs:List Value}{cs:List Cell},Yr5 acs=some cs->Ylq (Ynt w ι ob) acs vs->Ylq (Rd w ι.G) vs cs
 | [],[],cs,e,_=>by simp only[Yr5,aa]at e;subst e;trivial
 | c :: acs,v :: vs,cs,e,h=>by
  simp only[Yr5]at e
  split at e
  ·cases e
  ·rename_i cs' hcs
   have ih:=Yxi hcs h.2
   split at e
   ·rename_i u
    simp only[aa]at e;subst e
    obtain⟨rfl,hk⟩:=Rd.lit_inv (show Rd w ι.G v _ from h.1.1)
    exact⟨Y1l4 hk,ih⟩
   ·rename_i c' hc'
    simp only[aa]at e;subst e
    exact⟨h.1.1,ih⟩
   ·cases e
 | [],_ :: _,_,_,h=>h.elim
 | _ :: _,[],_,_,h=>h.elim
theorem Ytp (h:Rel E s ι a w):∀ {acs:List AC}{vs:List Value}{cs:List Cell}{ids:List Nat},absorbOwn s acs=some (cs,ids)->Ylq (Ynt w ι s.obj) acs vs ->
  (∀ j∈ids,Ysi (s.obj j))/\cs.length=acs.length/\∃ Fs:Nat->Nat->Prop,(∀ k b,Fs k b->∃ j∈ids,ι.fp j b)/\(∀ k k' b,k≠k'->Fs k b->¬ Fs k' b) /\
   ∀ (k:Nat) (v:Value) (c:Cell),vs[k]? = some v->cs[k]? = some c->OwnC w (Fs k) v c
 | [],[],cs,ids,e,_=>by
  simp only[absorbOwn,aa,al]at e
  obtain⟨rfl,rfl⟩:=e
  exact⟨by simp,rfl,λ_ _=>False,by simp,by simp,by simp⟩
 | c :: acs,v :: vs,cs,ids,e,hh=>by
  simp only[absorbOwn]at e
  split at e
  ·cases e
  ·rename_i cs' ids' hcs
   obtain⟨i1,i2,Fs,i3,i4,i5⟩:=Ytp h hcs hh.2
   split at e
   ·rename_i u
    simp only[aa,al]at e
    obtain⟨rfl,rfl⟩:=e
    obtain⟨rfl,hk⟩:=Rd.lit_inv (show Rd w ι.G v _ from hh.1.1)
    refine⟨i1,by simp[i2],λk b=>match k with|0=>False|k+1=>Fs k b,?_,?_,?_⟩
    ·intro k b hb
     cases k with
     | zero=>exact hb.elim
     | succ k=>exact i3 k b hb
    ·intro k k' b hne hb hb'
     cases k with
     | zero=>exact hb.elim
     | succ k=>cases k' with
      | zero=>exact hb'.elim
      | succ k'=>exact i4 k k' b (λe=>hne (by rw[e])) hb hb'
    ·intro k x y hx hy
     cases k with
     | zero=>simp at hx hy;subst hx;subst hy;exact Yv6 hk
     | succ k=>simp at hx hy;exact i5 k x y hx hy
   ·rename_i j
    split at e
    ·rename_i sz es hob
     split at e
     ·cases e
     ·rename_i hnin
      simp only[aa,al]at e
      obtain⟨rfl,rfl⟩:=e
      have hnin':j∉ids':=by simpa using hnin
      have hor:=h.objs j
      rw[hob]at hor
      have hv:=hh.1.1.2 _ _ _ hob
      refine⟨?_,by simp[i2],λk b=>match k with|0=>ι.fp j b|k+1=>Fs k b,?_,?_,?_⟩
      ·intro i hi
       rcases List.mem_cons.1 hi with rfl|hi
       ·exact⟨_,_,_,hob⟩
       ·exact i1 i hi
      ·intro k b hb
       cases k with
       | zero=>exact⟨j,aj,hb⟩
       | succ k=>obtain⟨i,hi,hib⟩:=i3 k b hb;exact⟨i,ai _ hi,hib⟩
      ·have key:∀ k b,ι.fp j b->¬ Fs k b:=λk b hj hb=>by
        obtain⟨i,hi,hib⟩:=i3 k b hb
        exact h.disj j i b (λe=>hnin' (e ▸ hi)) hj hib
       intro k k' b hne hb hb'
       cases k with
       | zero=>cases k' with
        | zero=>exact hne rfl
        | succ k'=>exact key k' b hb hb'
       | succ k=>cases k' with
        | zero=>exact key k b hb' hb
        | succ k'=>exact i4 k k' b (λe=>hne (by rw[e])) hb hb'
      ·intro k x y hx hy
       cases k with
       | zero=>simp at hx hy;subst hx;subst hy;rw[hv];exact Ym8.own hor
       | succ k=>simp at hx hy;exact i5 k x y hx hy
    ·cases e
   ·cases e
 | [],_ :: _,_,_,_,h=>h.elim
 | _ :: _,[],_,_,_,h=>h.elim
end
section
variable {P:Program}(w:World)
theorem Y17r (z:Array Value) (n:Nat):(Builtin.zeroCells z n).size=n * z.size:=by simp[Builtin.zeroCells]
theorem Y19x (t u ty e e0:TypeId) (d:TypeDesc) (i:TypeInfo) (z:Value) (size bytes:Nat) (ht:P.underlying t=some (.slice e)) (hu:P.underlying u=some d) (hd:∀ k,d≠.int k)
  (hi:P.info? e=some i) (hz:i.zero=some z) (hsize:i.size=size) (hby:i.bytes=bytes) (hzs:z.cells.size=size) (hsz:0<size)
  (v:Value) (n:Nat) (xs:List Value) (hown:Ypn w e0 size v n xs) (hv0:n=0->∃ a,v=.slice a 0 0)
  (x:Value) (m:Nat) (news:List Value) (hlen:∀ w1:World,(Builtin.lenOf x).run P w1=.ok m w1) (hfirst:∀ w1:World,w1.heap=w.heap->(Builtin.firstCells size m x).run P w1=.ok news.toArray w1)
  (hl:news.length=m * size) (h1:∀ u∈news,u.oneCell') (h63:n+m<=maxLen) (hbytes:(n+m) * bytes<=140737488355328) :
  ∃ v' w' e',(Builtin.append_ #[t,u] ty #[v,x]).run P w=.ok v' w'/\Ypn w' e' size v' (n+m) (xs++news)/\w.grownBy w' v.ownBlock /\
   (∀ b,v'.ownBlock=some b->v.ownBlock=some b\/(w.heap.size<=b/\b<w'.heap.size))/\(n+m=0->∃ a,v'=.slice a 0 0):=by
 subst hsize
 subst hby
 have hsmall:n+m<=9223372036854775807:=by simp only[maxLen]at h63;omega
 have hlen2:(xs++news).length=(n+m) * i.size:=by rw[aw,hown.1,hl,bZ]
 have grown:∀ (old:Nat),old<n+m->∀ (row:Option Nat),
   Ypn (w.drew.alloc (.cells (xs.toArray++news.toArray++Builtin.zeroCells z.cells (grownCap w (n+m) old e - (n+m))) e)) e i.size
    (.slice (some ⟨w.heap.size,0,none⟩) (n+m) (grownCap w (n+m) old e)) (n+m) (xs++news) /\
   w.grownBy (w.drew.alloc (.cells (xs.toArray++news.toArray++Builtin.zeroCells z.cells (grownCap w (n+m) old e - (n+m))) e)) row:=by
  intro old ho row
  have hge:=grownCap_ge w (n+m) old e
  have hcm:grownCap w (n+m) old e<=maxLen:=grownCap_le_maxLen w (n+m) old e h63
  refine⟨⟨hlen2,.inr ⟨w.heap.size,_,_,(0,0),rfl,.inl rfl,heap_alloc_new w.drew _,hge,hcm,?_,?_⟩⟩,⟨rfl,rfl,rfl,by simp,λk hk _=>Yqf w.drew _ k hk⟩⟩
  ·simp only[Array.size_append,cC,Y17r,hzs,hown.1,hl,<- bZ]
   congr 1
   omega
  ·simp only[Array.toList_append,aH]
   rw[<- aH,<- hlen2]
   exact List.take_left
 have newb:∀ old b,(Value.slice (some ⟨w.heap.size,0,none⟩) (n+m) (grownCap w (n+m) old e)).ownBlock=some b ->
   v.ownBlock=some b\/(w.heap.size<=b/\b<(w.drew.alloc (.cells (xs.toArray++news.toArray++Builtin.zeroCells z.cells (grownCap w (n+m) old e - (n+m))) e)).heap.size):=by
  intro old b hb
  simp only[Value.ownBlock,aa]at hb
  subst hb
  exact .inr ⟨aC _,by simp⟩
 rcases hown.2 with ⟨rfl,rfl⟩|⟨g,cap,cur,fz,rfl,hbg,hg,hnc,hcm,hcs,htake⟩
 ·have hx:xs=[]:=bQ (by simpa using hown.1)
  subst hx
  by_cases hm:m=0
  ·subst hm
   have hn:news=[]:=bQ (by simpa using hl)
   subst hn
   refine⟨.slice none 0 0,w,0,?_,Y10z w 0 i.size,⟨rfl,rfl,rfl,aC _,λ_ _ _=>rfl⟩,by simp[Value.ownBlock],λ_=>⟨none,rfl⟩⟩
   have hf:=hfirst w rfl
   simp[Builtin.append_,aK ht,aK hu,Go.sizeOf,typeInfo,hi,hlen,hf]
  ·have hgr:=grown 0 oW (Value.ownBlock (.slice none 0 0))
   have hnb:=newb 0
   have h63':¬ (9223372036854775807<(m:Int)):=by omega
   have h48':¬ (281474976710656<Builtin.nextslicecap m 0 * i.bytes):=by
    rw[nextslicecap_zero oW];simp only[ck]at hbytes;omega
   have hf:=hfirst w.drew rfl
   simp only[ck,bq,Array.empty_append]at hgr hnb|-
   refine⟨_,_,e,?_,hgr.1,hgr.2,hnb,λh=>absurd h oW⟩
   simp[Builtin.append_,aK ht,aK hu,Go.sizeOf,typeInfo,zeroValue,hi,hz,hlen,hm,h63',h48',Question.forced,run_firstCells_none,hf,newRow,grownCap]
 ·by_cases hroom:n+m<=cap
  ·have hfit:n * i.size+news.length<=cur.size:=by rw[hl,hcs,<- bZ];exact cP _ hroom
   have hst:=Ys9 P g (n * i.size) e0 fz news 0 cur w hg hbg (by simpa using hfit) h1
   simp only[cR]at hst
   refine⟨.slice (some ⟨g,0,none⟩) (n+m) cap,w.setRow g (cur.toList.take (n * i.size)++news++cur.toList.drop (n * i.size+news.length)).toArray,e0,?_,⟨hlen2,.inr ⟨g,cap,_,fz,rfl,?_,setRow_heap w g cur _ e0 _ hg,hroom,hcm,?_,?_⟩⟩,
    ⟨rfl,rfl,rfl,by simp,λk _ hk=>du w g k _ (λe=>hk (by simp[Value.ownBlock,e]))⟩,λb hb=>.inl hb,λh => ?_⟩
   ·have hf:=hfirst w rfl
    simp[Builtin.append_,aK ht,aK hu,Go.sizeOf,typeInfo,hi,hlen,hroom,hf,Yq2,hst]
   ·have:(cur.toList.take (n * i.size)++news++cur.toList.drop (n * i.size+news.length)).toArray.size=cur.size:=by
     simp only[cC,aw,au,ax,bG]
     omega
    rw[this];exact hbg
   ·simp only[cC,aw,au,ax,bG]
    omega
   ·rw[htake,<- hlen2]
    exact List.take_left
   ·obtain⟨a,ha⟩:=hv0 oW
    simp only[dy]at ha
    exact⟨some ⟨g,0,none⟩,by rw[h,ha.2.2]⟩
  ·have holds:∀ j u,xs[j]? = some u->w.cell? ((⟨g,0,none⟩:Addr).add j)=some u:=hown.cells (g:=g) rfl
   have hgr:=grown cap oW (Value.ownBlock (.slice (some ⟨g,0,none⟩) n cap))
   have hn:¬ (n+m<=cap):=by omega
   have h63':¬ (9223372036854775807<((n:Int)+(m:Int))):=by omega
   have hfits:=growslice_fits (need:=n+m) (old:=cap) oW hbytes
   have h48':¬ (281474976710656<Builtin.nextslicecap (n+m) cap * i.bytes):=by omega
   have hf:=hfirst w.drew rfl
   have hfo:=dm (P:=P) w.drew i.size n ⟨g,0,none⟩ n cap xs hown.1 (by simpa using holds)
   refine⟨_,_,e,?_,hgr.1,hgr.2,newb cap,λh=>absurd h oW⟩
   simp[Builtin.append_,aK ht,aK hu,Go.sizeOf,typeInfo,zeroValue,hi,hz,hlen,hn,h63',h48',Question.forced,hf,hfo,newRow,grownCap]
   congr 2
   apply cg
   simp[aH]
end
section
variable {P:Program}{E:Ent P}{s:St}{ι:Interp}{a:Act}{w:World}
def Y1m8 (es:List (List Cell)):Prop:=∀ e∈es,∀ c∈e,∃ v,c=.lit v
def Y16k (P:Program) (T:TypeId):Option Nat:=(P.info? T).map (·.bytes)
def Yze (P:Program) (e sz:Nat):Bool:=
 match P.info? e with
 | some i=>match i.zero with
  | some z=>i.size == sz&&z.cells.size == sz&&decide (0<sz)&&decide (0<i.bytes)
  | none=>false
 | none=>false
def Y135 (P:Program) (T:TypeId):Bool:=match P.underlying T with|some (.slice _)=>true|some .string=>true|_=>false
def srcElems (s:St) (own:Bool) (sz:Nat):AC->Option (List (List Cell)×List Nat×List Item)
 | .val (.lit (.slice none 0 0))=>some ([],[],[])
 | .val (.lit (.string t))=>if own/\sz=1 then some (t.data.toList.map λb=>[.lit (.int .u8 b.toNat)],[],[]) else none
 | .val (.list es)=>match own with
  | true=>some (es,[],[.obl (Y1m8 es),.obl (∀ e∈es,e.length=sz)])
  | false=>some (es,[],[.obl (∀ e∈es,e.length=sz)])
 | .bor id (.list es)=>if Yt1 s (some id)/\own then some (es,[],[.obl (Y1m8 es),.obl (∀ e∈es,e.length=sz)]) else none
 | .ref k=>match s.obj k with
  | .arr own' sz' es=>if sz'=sz then (match own with
    | true=>match own' with
     | true=>some (es,[k],[])
     | false=>some (es,[],[.obl (Y1m8 es)])
    | false=>match own' with
     | true=>none
     | false=>some (es,[],[])) else none
  | _=>none
 | _=>none
def Yz6 (P:Program) (w:World) (G:Nat->Prop) (own:Bool) (fps:Nat->Prop) (x:Value) (sz:Nat) (es:List (List Cell)):Prop:=
 ∃ news:List Value,(∀ w1:World,(Builtin.lenOf x).run P w1=.ok es.length w1)/\(∀ w1:World,w1.heap=w.heap->(Builtin.firstCells sz es.length x).run P w1=.ok news.toArray w1) /\
  news.length=es.length * sz/\(∀ e∈es,e.length=sz) /\
  ∃ Fs:Nat->Nat->Prop,(∀ k b,Fs k b->fps b)/\(∀ k k' b,k≠k'->Fs k b->¬ Fs k' b)/\∀ (k:Nat) (u:Value) (c:Cell),news[k]? = some u->es.flatten[k]? = some c->Yna w G own (Fs k) u c
theorem Y1b5 {w w1:World}(h:w1.heap=w.heap) (ad:Addr):w1.cell? ad=w.cell? ad:=by simp[World.cell?,h]
theorem Yxm {G R:Nat->Prop}{v:Value}{es:List (List Cell)}(h:Rd w R v (.list es)) {sz:Nat}(hsz:∀ e∈es,e.length=sz) {own:Bool}
  (hN:∀ u c,Rd w R u c->c∈es.flatten->Yna w G own (λ_=>False) u c):Yz6 P w G own (λ_=>False) v sz es:=by
 cases h with
 | nil=>
  rename_i ad cap
  refine⟨[],by simp[Builtin.lenOf],λw1 _ => ?_,by simp,by simp,λ_ _=>False,by simp,by simp,by simp⟩
  cases ad with
  | none=>simp[Builtin.firstCells]
  | some ad=>exact dm (P:=P) w1 sz 0 ad 0 cap [] sW sW
 | slice hG hc hm hsz' hl hx hr=>
  rename_i b off cap sz' xs
  refine⟨xs,by simp[Builtin.lenOf],λw1 hw1 => ?_,by rw[hl,Ymy hsz],hsz,λ_ _=>False,by simp,by simp,λk u c hu hc'=>hN u c (hr k u c hu hc') (aE hc')⟩
  refine dm (P:=P) w1 sz es.length ⟨b,off,none⟩ es.length cap xs (by rw[hl,Ymy hsz]) λj u hu => ?_
  rw[Yq2,Y1b5 hw1]
  exact hx j u hu
theorem Y15i {es:List (List Cell)}(hf:Y1m8 es) {R:Nat->Prop}{u:Value}{c:Cell}(h:Rd w R u c) (hc:c∈es.flatten):OwnC w (λ_=>False) u c:=by
 obtain⟨e,he,hce⟩:=List.mem_flatten.1 hc
 obtain⟨v,rfl⟩:=hf e he c hce
 obtain⟨rfl,hk⟩:=h.lit_inv
 exact .lit hk
theorem Y196 {e0:TypeId}{sz n:Nat}{v:Value}{xs:List Value}(h:Ypn w e0 sz v n xs) :
  (∀ w1:World,(Builtin.lenOf v).run P w1=.ok n w1)/\∀ w1:World,w1.heap=w.heap->(Builtin.firstCells sz n v).run P w1=.ok xs.toArray w1:=by
 have hc:=λg hg=>Ypn.cells (g:=g) h hg
 rcases h.2 with ⟨rfl,rfl⟩|⟨g,cap,cur,fz,rfl,_⟩
 ·have hx:xs=[]:=bQ (by simpa using h.1)
  subst hx
  exact⟨by simp[Builtin.lenOf],λw1 _=>by simp[Builtin.firstCells]⟩
 ·refine⟨by simp[Builtin.lenOf],λw1 hw1 => ?_⟩
  refine dm (P:=P) w1 sz n ⟨g,0,none⟩ n cap xs h.1 λj u hu => ?_
  rw[Y1b5 hw1]
  exact hc g rfl j u hu
theorem Yza (h:Rel E s ι a w) {own:Bool}{sz:Nat}{c:AC}{v:Value}(hv:Ymf w ι s.obj c v) {es:List (List Cell)}{ids:List Nat}{it:List Item}{K:Prop}
  (e:srcElems s own sz c=some (es,ids,it)) (vc:VC it K):Yz6 P w ι.G own (λb=>∃ j∈ids,ι.fp j b) v sz es/\(∀ j∈ids,Ysi (s.obj j))/\K:=by
 have wide:∀ {F F':Nat->Prop} {v:Value} {es:List (List Cell)},(∀ b,F b->F' b)->Yz6 P w ι.G own F v sz es->Yz6 P w ι.G own F' v sz es:=by
  intro F F' v es hF ⟨news,h1,h2,h3,h4,Fs,h5,h6,h7⟩
  exact⟨news,h1,h2,h3,h4,Fs,λk b hb=>hF b (h5 k b hb),h6,h7⟩
 unfold srcElems at e
 split at e
 ·simp only[aa,al]at e
  obtain⟨rfl,rfl,rfl⟩:=e
  obtain⟨rfl,_⟩:=Rd.lit_inv (show Rd w ι.G v _ from hv)
  exact⟨⟨[],by simp[Builtin.lenOf],λw1 _=>by simp[Builtin.firstCells],by simp,by simp,λ_ _=>False,by simp,by simp,by simp⟩,by simp,vc⟩
 ·rename_i t
  split at e
  ·rename_i hc
   obtain⟨rfl,rfl⟩:=hc
   simp only[aa,al]at e
   obtain⟨rfl,rfl,rfl⟩:=e
   obtain⟨rfl,_⟩:=Rd.lit_inv (show Rd w ι.G v _ from hv)
   have hl:t.size=t.data.toList.length:=by rw[bG];rfl
   refine⟨⟨t.data.toList.map λb=>.int .u8 b.toNat,λw1=>by simp[Builtin.lenOf],λw1 _ => ?_,by simp,by simp,λ_ _=>False,by simp,by simp,?_⟩,by simp,vc⟩
   ·simp only[Builtin.firstCells,bC,aO,<- hl]
    congr 1
    apply cg
    simp
   ·intro k u c hu hc
    have hfl:(t.data.toList.map λb=>[Cell.lit (.int .u8 b.toNat)]).flatten=t.data.toList.map λb=>Cell.lit (.int .u8 b.toNat):=by
     induction t.data.toList with
     | nil=>rfl
     | cons x l ih=>simp only[bO,bP,ih];rfl
    rw[hfl]at hc
    simp only[bb]at hu hc
    cases hk:t.data.toList[k]? with
    | none=>simp[hk]at hu
    | some b=>
     simp[hk]at hu hc
     subst hu;subst hc
     exact OwnC.lit (show Yq7 (.int .u8 _) from trivial)
  ·cases e
 ·rename_i es0
  split at e
  ·simp only[aa,al]at e
   obtain⟨rfl,rfl,rfl⟩:=e
   exact⟨wide (λb hb=>hb.elim) (Yxm (show Rd w ι.G v _ from hv) vc.2.1 λu c hu hc=>Y15i vc.1 hu hc),by simp,vc.2.2⟩
  ·simp only[aa,al]at e
   obtain⟨rfl,rfl,rfl⟩:=e
   exact⟨wide (λb hb=>hb.elim) (Yxm (show Rd w ι.G v _ from hv) vc.1 λu c hu hc=>hu),by simp,vc.2⟩
 ·rename_i id es0
  split at e
  ·rename_i hl
   obtain⟨hl,rfl⟩:=hl
   simp only[aa,al]at e
   obtain⟨rfl,rfl,rfl⟩:=e
   exact⟨wide (λb hb=>hb.elim) (Yxm (hv.2 (Yt8 hl)) vc.2.1 λu c hu hc=>Y15i vc.1 hu hc),by simp,vc.2.2⟩
  ·cases e
 ·rename_i k
  split at e
  ·rename_i own' sz' es0 hob
   split at e
   ·rename_i hsz
    subst hsz
    have hor:=h.objs k
    rw[hob]at hor
    have hv':=hv.2 _ _ _ hob
    have hor0:=hor
    obtain⟨e0,xs,Fs,h1,h2,h3,h4,h5,h6,h7,_⟩:=hor
    rw[<- hv']at h1
    obtain⟨f1,f2⟩:=Y196 (P:=P) h1
    cases own<;>cases own'<;>simp only[aa,al,reduceCtorEq]at e<;>obtain⟨rfl,rfl,rfl⟩:=e
    ·exact⟨⟨xs,f1,f2,h1.1,h2,λ_ _=>False,by simp,by simp,h7⟩,by simp,vc⟩
    ·refine⟨⟨xs,f1,f2,h1.1,h2,λ_ _=>False,by simp,by simp,λj u c hu hc => ?_⟩,by simp,vc.2⟩
     exact Y15i vc.1 (h7 j u c hu hc) (aE hc)
    ·exact⟨⟨xs,f1,f2,h1.1,h2,Fs,λj b hb=>⟨k,by simp,h4 j b hb⟩,h6,h7⟩,λj hj=>by simp at hj;subst hj;exact⟨_,_,_,hob⟩,vc⟩
   ·cases e
  ·cases e
 ·cases e
def target (s:St) (sz:Nat) (q:List Orc):AC->Option (Bool×List (List Cell)×List Nat×List Orc)
 | .val (.lit (.slice none 0 0))=>match q with
  | .bool own :: q=>some (own,[],[],q)
  | _=>none
 | .ref j=>match s.obj j with
  | .arr own sz' es=>if sz'=sz then some (own,es,[j],q) else none
  | _=>none
 | _=>none
def Y1ol (w:World) (G:Nat->Prop) (own:Bool) (fps:Nat->Prop) (v:Value) (sz:Nat) (es:List (List Cell)):Prop:=
 (∀ e∈es,e.length=sz)/\Y1s7 v es/\∃ (e0:TypeId) (xs:List Value) (Fs:Nat->Nat->Prop),Ypn w e0 sz v es.length xs/\(∀ b,v.ownBlock=some b->fps b)/\(∀ k b,Fs k b->fps b) /\
  (∀ k b,v.ownBlock=some b->¬ Fs k b)/\(∀ k k' b,k≠k'->Fs k b->¬ Fs k' b)/\∀ (k:Nat) (u:Value) (c:Cell),xs[k]? = some u->es.flatten[k]? = some c->Yna w G own (Fs k) u c
theorem Y11i (h:Rel E s ι a w) {sz:Nat}{c:AC}{v:Value}(hv:Ymf w ι s.obj c v) {q q':List Orc}{own:Bool}{es:List (List Cell)}{ids:List Nat}
  (e:target s sz q c=some (own,es,ids,q')):Y1ol w ι.G own (λb=>∃ j∈ids,ι.fp j b) v sz es/\(∀ j∈ids,Ysi (s.obj j)):=by
 unfold target at e
 split at e
 ·split at e
  ·simp only[aa,al]at e
   obtain⟨rfl,rfl,rfl,rfl⟩:=e
   obtain⟨rfl,_⟩:=Rd.lit_inv (show Rd w ι.G v _ from hv)
   exact⟨⟨by simp,λ_=>⟨none,rfl⟩,0,[],λ_ _=>False,Y10z w 0 sz,by simp[Value.ownBlock],by simp,by simp,by simp,by simp⟩,by simp⟩
  ·cases e
 ·rename_i j
  split at e
  ·rename_i own' sz' es' hob
   split at e
   ·rename_i hsz
    subst hsz
    simp only[aa,al]at e
    obtain⟨rfl,rfl,rfl,rfl⟩:=e
    have hor:=h.objs j
    rw[hob]at hor
    rw[hv.2 _ _ _ hob]
    obtain⟨e0,xs,Fs,h1,h2,h3,h4,h5,h6,h7,h0⟩:=hor
    exact⟨⟨h2,h0,e0,xs,Fs,h1,λb hb=>⟨j,by simp,h3 b hb⟩,λk b hb=>⟨j,by simp,h4 k b hb⟩,h5,h6,h7⟩,λi hi=>by simp at hi;subst hi;exact⟨_,_,_,hob⟩⟩
   ·cases e
  ·cases e
 ·cases e
theorem Yzr {e sz:Nat}(h:Yze P e sz):∃ i z,P.info? e=some i/\i.zero=some z/\i.size=sz/\z.cells.size=sz/\0<sz/\0<i.bytes:=by
 unfold Yze at h
 split at h
 ·rename_i i hi
  split at h
  ·rename_i z hz
   simp at h
   exact⟨i,z,hi,hz,h.1.1.1,h.1.1.2,h.1.2,h.2⟩
  ·cases h
 ·cases h
theorem Y17y {u:TypeId}(h:Y135 P u):∃ d,P.underlying u=some d/\∀ k,d≠.int k:=by
 unfold Y135 at h
 split at h
 ·exact⟨_,‹_›,λk=>by simp⟩
 ·exact⟨_,‹_›,λk=>by simp⟩
 ·cases h
theorem Y16w (h:Rel E s ι a w) {own:Bool}{sz bytes:Nat}{es es2:List (List Cell)}{ids ids2:List Nat}{v x:Value}
  (hT:Y1ol w ι.G own (λb=>∃ j∈ids,ι.fp j b) v sz es) (hS:Yz6 P w ι.G own (λb=>∃ j∈ids2,ι.fp j b) x sz es2) (hdis:∀ j∈ids2,j∉ids)
  {t u ty e:TypeId} {d:TypeDesc} {i:TypeInfo} {z:Value} (ht:P.underlying t=some (.slice e)) (hu:P.underlying u=some d) (hd:∀ k,d≠.int k)
  (hi:P.info? e=some i) (hz:i.zero=some z) (hsize:i.size=sz) (hby:i.bytes=bytes) (hzs:z.cells.size=sz) (hsz:0<sz) (hb0:0<bytes)
  (hbytes:(es.length+es2.length) * bytes<=140737488355328) :
  ∃ v' w',(Builtin.append_ #[t,u] ty #[v,x]).run P w=.ok v' w'/\(∀ b,b<w.heap.size->(∀ j∈ids++ids2,¬ ι.fp j b)->w'.heap[b]? = w.heap[b]?)/\w.heap.size<=w'.heap.size/\w'.os=w.os/\w'.output=w.output /\
   v'.oneCell'/\∃ F':Nat->Prop,(∀ b,F' b->(∃ j∈ids++ids2,ι.fp j b)\/(w.heap.size<=b/\b<w'.heap.size))/\Ym8 w' (Yna w' ι.G own) sz F' v' (es++es2):=by
 obtain⟨t1,t0,e0,xs,Fs,t2,t3,t4,t5,t6,t7⟩:=hT
 obtain⟨news,s1,s2,s3,s4,Fs2,s5,s6,s7⟩:=hS
 have hlx:xs.length=es.flatten.length:=by rw[t2.1,Ymy t1]
 have hln:news.length=es2.flatten.length:=by rw[s3,Ymy s4]
 have h1:∀ u∈news,u.oneCell':=by
  intro u hu
  obtain⟨k,hk⟩:=cn hu
  have:k<es2.flatten.length:=by rw[<- hln];exact(List.getElem?_eq_some_iff.1 hk).1
  exact(s7 k u _ hk (av this)).one
 have h63:es.length+es2.length<=maxLen:=by
  have:=aN (dx (es.length+es2.length) hb0) hbytes
  simp only[maxLen];omega
 obtain⟨v',w',e',r1,r2,r3,r4,r5⟩:=Y19x w t u ty e e0 d i z sz bytes ht hu hd hi hz hsize hby hzs hsz v es.length xs t2 (λh=>t0 (bQ h)) x es2.length news s1 s2 s3 h1 h63 hbytes
 have hvlt:∀ b,v.ownBlock=some b->b<w.heap.size:=λb hb=>by
  obtain⟨j,_,hj⟩:=t3 b hb
  exact h.lt j b hj
 have hkeep:∀ b,b<w.heap.size->v.ownBlock≠some b->w'.heap[b]? = w.heap[b]? := λb hb hne=>r3.block b hb λe=>hne e.symm
 have hone:v'.oneCell':=by rcases r2.2 with ⟨rfl,_⟩|⟨g,cap,cur,fz,rfl,_⟩<;>rfl
 refine⟨v',w',r1,λb hb hnot=>hkeep b hb λe => ?_,r3.size,r3.os,r3.output,hone,λb=>v'.ownBlock=some b\/∃ j∈ids++ids2,ι.fp j b,λb hb => ?_,?_⟩
 ·obtain⟨j,hj,hjb⟩:=t3 b e
  exact hnot j (aY _ hj) hjb
 ·rcases hb with hb|hb
  ·rcases r4 b hb with h2|h2
   ·obtain⟨j,hj,hjb⟩:=t3 b h2
    exact .inl ⟨j,aY _ hj,hjb⟩
   ·exact .inr h2
  ·exact .inl hb
 ·have hnest:∀ {F:Nat->Prop} {u:Value} {c:Cell},(∀ b,F b->b<w.heap.size/\v.ownBlock≠some b)->Yna w ι.G own F u c->Yna w' ι.G own F u c:=by
   intro F u c hF hN
   refine hN.mono (λb hb=>⟨hb,hkeep b (h.glt b hb) λe => ?_⟩) λb hb=>hkeep b (hF b hb).1 (hF b hb).2
   obtain⟨j,_,hjb⟩:=t3 b e
   exact h.gfp j b hjb hb
  have hFs:∀ k b,Fs k b->b<w.heap.size/\v.ownBlock≠some b:=λk b hb=>by
   obtain⟨j,_,hjb⟩:=t4 k b hb
   exact⟨h.lt j b hjb,λe=>t5 k b e hb⟩
  have hFs2:∀ k b,Fs2 k b->b<w.heap.size/\v.ownBlock≠some b:=λk b hb=>by
   obtain⟨j,hj,hjb⟩:=s5 k b hb
   refine⟨h.lt j b hjb,λe => ?_⟩
   obtain⟨j2,hj2,hjb2⟩:=t3 b e
   exact h.disj j j2 b (λe=>hdis j hj (e ▸ hj2)) hjb hjb2
  have hcross:∀ k k' b,Fs k b->¬ Fs2 k' b:=λk k' b hb hb2=>by
   obtain⟨j,hj,hjb⟩:=t4 k b hb
   obtain⟨j2,hj2,hjb2⟩:=s5 k' b hb2
   exact h.disj j2 j b (λe=>hdis j2 hj2 (e ▸ hj)) hjb2 hjb
  refine⟨e',xs++news,λk b=>if k<xs.length then Fs k b else Fs2 (k - xs.length) b,by rw[aw];exact r2,?_,λb hb=>.inl hb,?_,?_,?_,?_,λhe=>r5 (by have:=ci List.length he;simpa using this)⟩
  ·intro y hy
   rcases List.mem_append.1 hy with hy|hy
   ·exact t1 y hy
   ·exact s4 y hy
  ·intro k b hb
   split at hb
   ·obtain⟨j,hj,hjb⟩:=t4 k b hb;exact .inr ⟨j,aY _ hj,hjb⟩
   ·obtain⟨j,hj,hjb⟩:=s5 _ b hb;exact .inr ⟨j,bc _ hj,hjb⟩
  ·intro k b hb hk
   have hlt:b<w.heap.size/\v.ownBlock≠some b:=by
    split at hk
    ·exact hFs k b hk
    ·exact hFs2 _ b hk
   rcases r4 b hb with h2|h2
   ·exact hlt.2 h2
   ·have:=hlt.1;omega
  ·intro k k' b hne hb hb'
   split at hb<;>split at hb'
   ·exact t6 k k' b hne hb hb'
   ·exact hcross k _ b hb hb'
   ·exact hcross k' _ b hb' hb
   ·exact s6 _ _ b oW hb hb'
  ·intro k u c hu hc
   rw[dL]at hc
   by_cases hk:k<xs.length
   ·rw[bg hk]at hu
    rw[bg oW]at hc
    simp only[hk,bx]
    exact hnest (hFs k) (t7 k u c hu hc)
   ·rw[aR oW]at hu
    rw[aR oW,<- hlx]at hc
    simp only[hk,cT]
    exact hnest (hFs2 _) (s7 _ u c hu hc)
def eAppend (P:Program) (s:St) (args:Array Operand) (tys:Array TypeId) (n:Nat) (q:List Orc):Option (Res×List Item×List Orc):=
 match args.toList,tys.toList with
 | [x,y],[t,u]=>match Yyc P t,s.ac x,s.ac y with
  | some e,some c,some c2=>match Ypc P e,Y16k P e with
   | some sz,some by_=>if Yze P e sz/\Y135 P u then
     (match target s sz q c with
     | some (own,es,ids,q')=>match srcElems s own sz c2 with
      | some (es2,ids2,it)=>if ids2.all (λj => !ids.elem j) then
        some ({ val:=.sv (.one (.ref n)),new:=[.arr own sz (es++es2)],upd:=Ynk (ids++ids2) },it++[.obl ((es.length+es2.length) * by_<=140737488355328)],q') else none
      | none=>none
     | none=>none) else none
   | _,_=>none
  | _,_,_=>none
 | _,_=>none
theorem Y1bz (h:Rel E s ι a w) {o:Oper}{args:Array Operand}{tys:Array TypeId}(ho:o.op=.call { callee:=.builtin .append,args:=args,argTypes:=tys }) {n:Nat}{r:Res}{q q':List Orc}
  {it:List Item} {K:Prop} (e:eAppend P s args tys n q=some (r,it,q')) (vc:VC it K) (hroom:Yqw s n r.new.length):EOK P E s a w o n r/\K:=by
 unfold eAppend at e
 split at e
 ·rename_i x y t u hargs htys
  obtain rfl:args=#[x,y]:=by apply cg;simpa using hargs
  obtain rfl:tys=#[t,u]:=by apply cg;simpa using htys
  split at e
  ·rename_i el c c2 hel hc hc2
   split at e
   ·rename_i sz by_ hsz hby
    split at e
    ·rename_i hfit
     split at e
     ·rename_i own es ids q1 htg
      split at e
      ·rename_i es2 ids2 it1 hsrc
       split at e
       ·rename_i hdis
        simp only[aa,al]at e
        obtain⟨rfl,rfl,rfl⟩:=e
        obtain⟨hT,hi1⟩:=Y11i h (Yn7 h hc) htg
        obtain⟨hS,hi2,hbnd,hK⟩:=Yza (P:=P) h (Yn7 h hc2) hsrc (VC.append vc)
        obtain⟨i,z,f1,f2,f3,f4,f5,f6⟩:=Yzr hfit.1
        obtain⟨d,d1,d2⟩:=Y17y hfit.2
        have hby':i.bytes=by_:=by simpa[Y16k,f1] using hby
        have hd':∀ j∈ids2,j∉ids:=λj hj=>by simpa using (List.all_eq_true.1 hdis) j hj
        obtain⟨v',w',r1,r2,r3,r4,r5,r6,F',r7,r8⟩:=Y16w (ty:=o.type) h hT hS hd' (Yuv hel) d1 d2 f1 f2 f3 hby' f4 f5 oW hbnd
        obtain⟨hf,hn⟩:=hroom n (aC _) sW
        obtain⟨ι',k1,k2⟩:=h.makeArr hf hn (λj hj=>(List.mem_append.1 hj).elim (hi1 j) (hi2 j)) r2 r3 r4 r5 r7 r8 r6
        refine⟨EOK.value ?_ k1 k2,hK⟩
        simp only[execOp,ho,resolve,aQ,bC,aZ,invoke,builtin]
        simp[r1]
       ·cases e
      ·cases e
     ·cases e
    ·cases e
   ·cases e
  ·cases e
 ·cases e
end
def Yvd {α:Type}(sz:Nat):Nat->List α->List (List α)
 | 0,_=>[]
 | n+1,l=>l.take sz :: Yvd sz n (l.drop sz)
theorem Ywo {α:Type}{sz:Nat}:∀ (n:Nat) (l:List α),(Yvd sz n l).length=n
 | 0,_=>rfl
 | n+1,l=>by simp[Yvd,Ywo n]
theorem Y11c {α:Type}{sz:Nat}:∀ (n:Nat) (l:List α),l.length=n * sz->(Yvd sz n l).flatten=l
 | 0,l,h=>by simp at h;subst h;rfl
 | n+1,l,h=>by
  rw[bZ,dC]at h
  have ih:=Y11c (sz:=sz) n (l.drop sz) (by rw[ax,h];omega)
  simp only[Yvd,bP,ih,be]
theorem Y1hf {α:Type}{sz:Nat}:∀ (n:Nat) (l:List α),l.length=n * sz->∀ e∈Yvd sz n l,e.length=sz
 | 0,l,h,e,he=>by simp[Yvd]at he
 | n+1,l,h,e,he=>by
  rw[bZ,dC]at h
  rcases List.mem_cons.1 he with rfl|he
  ·rw[au];omega
  ·exact Y1hf n (l.drop sz) (by rw[ax];omega) e he
section
variable {P:Program}{E:Ent P}{s:St}{ι:Interp}{a:Act}{w:World}
def absorb (s:St) (acs:List AC) (sh:Bool):Option (Bool×List Cell×List Nat):=
 match (if sh then none else absorbOwn s acs) with
 | some (cs,ids)=>some (true,cs,ids)
 | none=>match Yr5 acs with
  | some cs=>some (false,cs,[])
  | none=>none
theorem Y1qq (h:Rel E s ι a w) {acs:List AC}{vs:List Value}{own:Bool}{cs:List Cell}{ids:List Nat}{sh:Bool}(e:absorb s acs sh=some (own,cs,ids)) (hh:Ylq (Ynt w ι s.obj) acs vs) :
  (∀ j∈ids,Ysi (s.obj j))/\cs.length=acs.length/\∃ Fs:Nat->Nat->Prop,(∀ k b,Fs k b->∃ j∈ids,ι.fp j b)/\(∀ k k' b,k≠k'->Fs k b->¬ Fs k' b) /\
   ∀ (k:Nat) (v:Value) (c:Cell),vs[k]? = some v->cs[k]? = some c->Yna w ι.G own (Fs k) v c:=by
 unfold absorb at e
 split at e
 ·rename_i cs' ids' hcs
  simp only[aa,al]at e
  obtain⟨rfl,rfl,rfl⟩:=e
  cases sh with
  | true=>simp at hcs
  | false=>exact Ytp h (by simpa using hcs) hh
 ·split at e
  ·rename_i cs' hcs
   simp only[aa,al]at e
   obtain⟨rfl,rfl,rfl⟩:=e
   have h2:=Yxi hcs hh
   refine⟨by simp,?_,λ_ _=>False,by simp,by simp,λk v c hv hc=>h2.get hv hc⟩
   rw[<- h2.length,<- hh.length]
  ·cases e
def Yvp:List AC->Option (List Cell)
 | []=>some []
 | .val c :: r=>match Yvp r with
  | some cs=>some (c :: cs)
  | none=>none
 | _=>none
theorem Y12q {ob:Nat->Ob}:∀ {acs:List AC}{vs:List Value}{cs:List Cell},Yvp acs=some cs->Ylq (Ynt w ι ob) acs vs->Ylq (Rd w ι.G) vs cs
 | [],[],cs,e,_=>by simp only[Yvp,aa]at e;subst e;trivial
 | .val c :: acs,v :: vs,cs,e,h=>by
  simp only[Yvp]at e
  split at e
  ·rename_i cs' hcs
   simp only[aa]at e;subst e
   exact⟨h.1.1,Y12q hcs h.2⟩
  ·cases e
 | [],_ :: _,_,_,h=>h.elim
 | .val _ :: _,[],_,_,h=>h.elim
def absorbZ (s:St) (acs:List AC) (sh:Bool) (z:Nat):Option (Bool×List Cell×List Nat):=
 if z=9 then (match Yvp acs with
  | some cs=>some (false,cs,[])
  | none=>none) else absorb s acs sh
theorem Y1ly (h:Rel E s ι a w) {acs:List AC}{vs:List Value}{own:Bool}{cs:List Cell}{ids:List Nat}{sh:Bool}{z:Nat}(e:absorbZ s acs sh z=some (own,cs,ids)) (hh:Ylq (Ynt w ι s.obj) acs vs) :
  (∀ j∈ids,Ysi (s.obj j))/\cs.length=acs.length/\∃ Fs:Nat->Nat->Prop,(∀ k b,Fs k b->∃ j∈ids,ι.fp j b)/\(∀ k k' b,k≠k'->Fs k b->¬ Fs k' b) /\
   ∀ (k:Nat) (v:Value) (c:Cell),vs[k]? = some v->cs[k]? = some c->Yna w ι.G own (Fs k) v c:=by
 unfold absorbZ at e
 split at e
 ·split at e
  ·rename_i cs' hcs
   simp only[aa,al]at e
   obtain⟨rfl,rfl,rfl⟩:=e
   have h2:=Y12q hcs hh
   refine⟨by simp,?_,λ_ _=>False,by simp,by simp,λk v c hv hc=>h2.get hv hc⟩
   rw[<- h2.length,<- hh.length]
  ·cases e
 ·exact Y1qq h e hh
def eBuildSlice (P:Program) (s:St) (T:TypeId) (len:Nat) (ps:Array (Nat×Operand)) (n:Nat) (sh:Bool):Option Res:=
 match Yyc P T,partCells s ps.toList with
 | some e,some l=>match Ypc P e with
  | some sz=>if Yze P e sz/\len * sz<=16777216/\l.map (·.1)=List.range len/\l.all (λp=>p.2.length == sz)=true then
    (match absorbZ s (l.flatMap (·.2)) sh sz with
    | some (own,cs,ids)=>some { val:=.sv (.one (.ref n)),new:=[.arr own sz (Yvd sz len cs)],upd:=Ynk ids }
    | none=>none) else none
  | none=>none
 | _,_=>none
theorem Y1b8 {α:Type}:∀ (l:List (Nat×α)) (n:Nat),l.map (·.1)=List.range' n l.length->l=((l.map (·.2)).zipIdx n).map λx=>(x.2,x.1)
 | [],n,_=>rfl
 | (i,v) :: l,n,h=>by
  simp only[bO,aD,List.range'_succ,cM]at h
  obtain⟨rfl,h⟩:=h
  simp only[bO,List.zipIdx_cons]
  rw[<- Y1b8 l (i+1) h]
theorem Y1bx {α β:Type}{R:α->β->Prop}:∀ {ps:List (Nat×List α)}{qs:List (Nat×Value)}(f:Value->List β),Ylq (λp q=>p.1=q.1/\Ylq R p.2 (f q.2)) ps qs ->
  Ylq R (ps.flatMap (·.2)) (qs.flatMap λq=>f q.2)
 | [],[],f,_=>trivial
 | p :: ps,q :: qs,f,h=>by
  simp only[bU]
  exact h.1.2.append (Y1bx f h.2)
 | [],_ :: _,_,h=>h.elim
 | _ :: _,[],_,h=>h.elim
theorem Y19j {T el:TypeId}{len sz:Nat}{parts:Array (Nat×Value)}{i:TypeInfo}{z:Value}{cells:Array Value}{idx:List Nat}(hel:Yyc P T=some el) (f1:P.info? el=some i) (f2:i.zero=some z)
  (f3:i.size=sz) (f4:z.cells.size=sz) (f5:0<sz) (h24:len * sz<=16777216)
  (hfill:Instr.fill (λi=>some (i * sz,sz)) ((Array.range (len * sz)).map (z.cells[· % z.cells.size]!)) parts.toList=some cells) (hl:cells.size=len * sz)
  (hp:idx.length=parts.size) (hidx:idx=List.range len) :
  (Instr.buildSlice T len parts).run P w=.ok (.slice (some ⟨w.heap.size,0,none⟩) len len) (w.alloc (.cells cells el)):=by
 have hpow:(2:Nat) ^ 24=16777216:=by decide
 by_cases h0:len * i.size=0
 ·have hl0:len=0:=by
   rcases Nat.mul_eq_zero.1 h0 with h1|h1
   ·exact h1
   ·omega
  subst hl0
  have hp0:parts=#[]:=by
   apply cg
   have:parts.size=0:=by rw[<- hp,hidx];rfl
   simpa using this
  have hc0:cells=#[]:=by
   apply cg
   simpa using hl
  subst hp0;subst hc0
  simp[Instr.buildSlice,aK (Yuv hel),Go.sizeOf,typeInfo,f1,newRow,Instr.fill]
  congr 2
  apply Array.eq_empty_of_size_eq_zero
  simp
 ·exact run_buildSlice w T el len parts cells i z (Yuv hel) f1 f2 (by rw[f3,hpow];omega) h0 (by rw[f3];exact hfill)
theorem Y14a (h:Rel E s ι a w) {o:Oper}{T:TypeId}{len:Nat}{ps:Array (Nat×Operand)}(ho:o.op=.buildSlice T len ps) {n:Nat}{r:Res}{sh:Bool}(e:eBuildSlice P s T len ps n sh=some r)
  (hroom:Yqw s n r.new.length):EOK P E s a w o n r:=by
 unfold eBuildSlice at e
 split at e
 ·rename_i el l hel hl
  split at e
  ·rename_i sz hsz
   split at e
   ·rename_i hc
    obtain⟨hfit,h24,hidx,hlen⟩:=hc
    split at e
    ·rename_i own cs ids habs
     simp only[aa]at e;subst e
     have hparts:=Yrk h hl
     obtain⟨i,z,f1,f2,f3,f4,f5,f6⟩:=Yzr hfit
     let vs:List Value:=ps.toList.map λx=>a.eval x.2
     let flat:List Value:=vs.flatMap λv=>v.cells.toList
     have hqs:(ps.toList.map λx=>(x.1,a.eval x.2)).flatMap (λq=>q.2.cells.toList)=flat:=by
      simp[flat,vs,List.flatMap_map]
     have hflat:Ylq (Ynt w ι s.obj) (l.flatMap (·.2)) flat:=by rw[<- hqs];exact Y1bx (λv=>v.cells.toList) hparts
     obtain⟨a1,a2,Fs,a3,a4,a5⟩:=Y1ly h habs hflat
     have hvsl:vs.length=len:=by
      have h1:=ci List.length hidx
      rw[aO,List.length_range,hparts.length]at h1
      simpa[vs] using h1
     have hvsz:∀ v∈vs,v.cells.size=sz:=by
      intro v hv
      obtain⟨k,hk⟩:=cn hv
      have hq:(ps.toList.map λx=>(x.1,a.eval x.2))[k]?.map (·.2)=some v:=by
       rw[<- bb];simpa[vs,cr] using hk
      cases hq2:(ps.toList.map λx=>(x.1,a.eval x.2))[k]? with
      | none=>simp[hq2]at hq
      | some q=>
       simp[hq2]at hq
       obtain⟨p,hp,hpr⟩:=hparts.flip.get_left hq2
       have h2:=(List.all_eq_true.1 hlen) p (aE hp)
       simp at h2
       rw[<- h2,hpr.2.length,hq];simp
     have hflatl:flat.length=len * sz:=by
      have:∀ (vs:List Value),(∀ v∈vs,v.cells.size=sz)->(vs.flatMap λv=>v.cells.toList).length=vs.length * sz:=by
       intro vs
       induction vs with
       | nil=>intro _;simp
       | cons v vs ih=>
        intro hv
        rw[bU,aw,ih λu hu=>hv u (ai _ hu)]
        have:=hv v aj
        simp only[bG,this,aD,bZ];omega
      rw[<- hvsl];exact this vs hvsz
     have hcs:cs.length=len * sz:=by rw[a2,hflat.length,hflatl]
     have hzip:(ps.map λx=>(x.1,a.eval x.2)).toList=(vs.zipIdx 0).map λx=>(x.2,x.1):=by
      rw[Array.toList_map]
      have hm:(ps.toList.map λx=>(x.1,a.eval x.2)).map (·.1)=List.range' 0 (ps.toList.map λx=>(x.1,a.eval x.2)).length:=by
       have h1:(ps.toList.map λx=>(x.1,a.eval x.2)).map (·.1)=l.map (·.1):=by
        have:∀ {ps:List (Nat×List AC)} {qs:List (Nat×Value)},Ylq (λp q=>p.1=q.1/\Ylq (Ynt w ι s.obj) p.2 q.2.cells.toList) ps qs->qs.map (·.1)=ps.map (·.1):=by
         intro ps
         induction ps with
         | nil=>intro qs hq;cases qs with|nil=>rfl|cons=>exact hq.elim
         | cons p ps ih=>intro qs hq;cases qs with
          | nil=>exact hq.elim
          | cons q qs=>simp only[bO,ih hq.2,hq.1.1]
        exact this hparts
       rw[h1,hidx,List.range_eq_range']
       congr 1
       rw[<- hvsl];simp[vs]
      have:=Y1b8 _ 0 hm
      rw[this,cr]
      simp[vs,dz]
     have hfill:Instr.fill (λi=>some (i * sz,sz)) ((Array.range (len * sz)).map (z.cells[· % z.cells.size]!)) ((vs.zipIdx 0).map λx=>(x.2,x.1))=some flat.toArray:=
      Great.fill_whole f5 vs _ hvsz (by simp[hvsl])
     have hnest:∀ (k:Nat) (u:Value) (c:Cell),flat[k]? = some u->(Yvd sz len cs).flatten[k]? = some c->Yna (w.alloc (.cells flat.toArray el)) ι.G own (Fs k) u c:=by
      intro k u c hu hc
      rw[Y11c len cs hcs]at hc
      refine(a5 k u c hu hc).mono (λb hb=>⟨hb,Yqf w _ b (h.glt b hb)⟩) λb hb => ?_
      obtain⟨j,_,hj⟩:=a3 k b hb
      exact Yqf w _ b (h.lt j b hj)
     have hmax:len<=maxLen:=by
      have:len<=len * sz:=dx len f5
      simp only[maxLen];omega
     have hrow:=Y1s3 (e:=el) (size:=sz) w flat.toArray len hmax (by simpa using hflatl)
     have harr:Ym8 (w.alloc (.cells flat.toArray el)) (Yna (w.alloc (.cells flat.toArray el)) ι.G own) sz (λb=>b=w.heap.size\/∃ j∈ids,ι.fp j b) (.slice (some ⟨w.heap.size,0,none⟩) len len) (Yvd sz len cs):=by
      refine⟨el,flat,Fs,by rw[Ywo];simpa using hrow,Y1hf len cs hcs,?_,λk b hb=>.inr (a3 k b hb),?_,a4,hnest,λhn => ?_⟩
      ·intro b hb;simp only[Value.ownBlock,aa]at hb;exact .inl hb.symm
      ·intro k b hb hk
       simp only[Value.ownBlock,aa]at hb
       obtain⟨j,_,hj⟩:=a3 k b hk
       have:=h.lt j b hj
       omega
      ·have:=ci List.length hn
       rw[Ywo]at this
       have:len=0:=this
       subst this
       exact⟨_,rfl⟩
     obtain⟨hf,hn⟩:=hroom n (aC _) sW
     obtain⟨ι',k1,k2⟩:=h.makeArr (w':=w.alloc (.cells flat.toArray el)) hf hn a1 (λb hb _=>Yqf w _ b hb) sW rfl rfl
      (λb hb=>hb.elim (λe=>.inr ⟨by omega,by simp;omega⟩) .inl) harr rfl
     refine EOK.value ?_ k1 k2
     simp only[execOp,ho]
     exact Yoa _ (Y19j hel f1 f2 f3 f4 f5 h24 (by rw[hzip];exact hfill) (by simpa using hflatl) (by have:=hparts.length;simpa using this) hidx)
    ·cases e
   ·cases e
  ·cases e
 ·cases e
def eMake (P:Program) (s:St) (T:TypeId) (lo co:Operand) (n:Nat):Option (Res×List Item):=none
theorem Y1hv (h:Rel E s ι a w) {o:Oper}{T:TypeId}{lo co:Operand}(ho:o.op=.makeSlice T lo co) {n:Nat}{r:Res}{it:List Item}{K:Prop}(e:eMake P s T lo co n=some (r,it)) (vc:VC it K)
  (hroom:Yqw s n r.new.length):EOK P E s a w o n r/\K:=by
 unfold Ab.eMake at e
 cases e
theorem Y128 {ob:Nat->Ob}(ids:List Nat) {c:AC}{v:Value}(h:Ymf w ι ob c v):Ymf w ι ob (Ynm ids c) v:=by
 unfold Ynm
 split
 ·split
  ·trivial
  ·exact h
 ·exact h
theorem Yr1 (ids:List Nat) {c:AC}{id:Nat}(h:(Ynm ids c).src=some id):id∉ids:=by
 unfold Ynm at h
 split at h
 ·rename_i i hi
  split at h
  ·simp[AC.src]at h
  ·rename_i hn
   rw[hi]at h
   simp only[aa]at h;subst h
   simpa using hn
 ·rename_i hn;rw[hn]at h;cases h
theorem Y1b0 {ob:Nat->Ob}(ids:List Nat) {x:SV}{v:Value}(h:Ymo w ι ob x v):Ymo w ι ob (Yo0 ids x) v:=by
 cases x with
 | one c=>
  refine⟨Y128 ids h.1,λhn=>h.2 λe=>hn ?_⟩
  subst e;rfl
 | agg cs=>
  obtain⟨arr,e,ha⟩:=h
  exact⟨arr,e,Ylq.map_left _ (ha.imp λc u hc=>⟨Y128 ids hc.1,hc.2⟩)⟩
theorem Y1qn {ob:Nat->Ob}(ids:List Nat) {x:AV}{v:Value}(h:Ymg w ι ob x v):Ymg w ι ob (Yn0 ids x) v:=by
 cases x with
 | sv x=>exact Y1b0 ids h
 | tup l=>
  obtain⟨arr,e,ha⟩:=h
  exact⟨arr,e,Ylq.map_left _ (ha.imp λc u hc=>Y1b0 ids hc)⟩
theorem Y1bl (ids:List Nat) {x:SV}{c:AC}(hc:c∈(Yo0 ids x).acs) {id:Nat}(h:c.src=some id):id∉ids:=by
 cases x with
 | one y=>simp[Yo0,SV.acs]at hc;subst hc;exact Yr1 ids h
 | agg cs=>simp[Yo0,SV.acs]at hc;obtain⟨y,_,rfl⟩:=hc;exact Yr1 ids h
theorem Yti (ids:List Nat) {x:AV}{c:AC}(hc:c∈(Yn0 ids x).acs) {id:Nat}(h:c.src=some id):id∉ids:=by
 cases x with
 | sv x=>exact Y1bl ids hc h
 | tup l=>
  simp only[Yn0,AV.acs,bk,a9]at hc
  obtain⟨y,⟨z,_,rfl⟩,hc⟩:=hc
  exact Y1bl ids hc h
theorem Ys6 (i:Nat) (ids:List Nat) (s:St) (t:Nat):(s.inval (i :: ids)).reg t=Yn0 (i :: ids) (s.reg t):=by
 simp only[St.inval,St.reg,ao,bb]
 cases s.regs[t]? with
 | none=>rfl
 | some x=>rfl
theorem Ym4 (i:Nat) (ids:List Nat) (s:St) (t:Nat):(s.inval (i :: ids)).obj t=Ym5 (i :: ids) (s.obj t):=by
 simp only[St.inval,St.obj,ao,bb]
 cases s.objs[t]? with
 | none=>rfl
 | some x=>rfl
theorem Y10b {ob ob':Nat->Ob}(h:∀ i,Ync w w ι ι True i (ob i) (ob' i)):Ext (λ_=>True) w ι ob w ι ob':=⟨λb hb=>⟨hb,rfl⟩,h⟩
theorem Rel.inval (h:Rel E s ι a w) (ids:List Nat):Rel E (s.inval ids) ι a w:=by
 cases ids with
 | nil=>exact h
 | cons i ids=>
  have hx:Ext (λ_=>True) w ι s.obj w ι (s.inval (i :: ids)).obj:=Y10b λk=>by
   rw[Ym4]
   cases s.obj k<;>simp[Ym5,Ync]<;>exact λb hb=>.inl hb
  refine Rel.step h hx (λt=>.inr ?_) (by simp[St.inval]) rfl (λk=>.inr ?_) h.disj h.gfp h.own h.lt h.glt (λ_ _ _=>rfl) (aC _) rfl rfl
  ·rw[Ys6]
   exact Y1qn _ (Ymg.ext hx (λ_ _ _ _=>trivial) (h.regs t))
  ·rw[Ym4]
   have:=h.objs k
   cases hk:s.obj k with
   | free=>rw[hk]at this;exact this
   | dead=>rw[hk]at this;exact this
   | box cs=>
    rw[hk]at this
    obtain⟨h1,arr,ty,h2,h3⟩:=this
    exact⟨h1,arr,ty,h2,Ylq.map_left _ (h3.imp λc v hc=>⟨Y128 _ (Ymf.ext hx (λ_ _=>trivial) hc.1),hc.2⟩)⟩
   | arr own sz es=>rw[hk]at this;exact this
   | map nn k f=>rw[hk]at this;exact this
theorem Y1c0 {α:Type}{off:Nat}{l cs:List α}(h:off+l.length<=cs.length):(splice off l cs).length=cs.length:=by
 simp only[splice,aw,au,ax];omega
theorem Ywb {α:Type}{off:Nat}{l cs:List α}(h:off+l.length<=cs.length) (k:Nat) :
  (splice off l cs)[k]? = if off<=k/\k<off+l.length then l[k - off]? else cs[k]? := by
 simp only[splice]
 by_cases h1:k<off
 ·rw[ab oW,aH,bg (by rw[au];omega),aV,ae h1]
 ·by_cases h2:k<off+l.length
  ·rw[ae oW,aH,aR (by rw[au];omega),bg (by rw[au];omega)]
   congr 1;rw[au];omega
  ·rw[ab oW,aR (by rw[aw,au];omega)]
   rw[aX]
   congr 1;rw[aw,au];omega
theorem Y1i5 {e:TypeId}{sz n g o:Nat}{v:Value}{xs vs:List Value}(h:Ypn w e sz v n xs) (hg:v.ownBlock=some g) (hfit:o+vs.length<=xs.length) :
  ∃ cur ty fz,w.heap[g]? = some (.cells cur ty fz)/\Y15o cur.size fz/\xs.length<=cur.size/\Ypn (w.setRow g (splice o vs cur.toList).toArray) e sz v n (splice o vs xs):=by
 rcases h.2 with ⟨rfl,_⟩|⟨g',cap,cur,fz,rfl,hb,hgg,hnc,hcm,hcs,htake⟩
 ·simp[Value.ownBlock]at hg
 ·simp only[Value.ownBlock,aa]at hg
  subst hg
  have hxl:=h.1
  have hle:n * sz<=cur.size:=by rw[hcs];exact cP _ hnc
  refine⟨cur,e,fz,hgg,hb,by rw[hxl];exact hle,?_,.inr ⟨g',cap,_,fz,rfl,?_,setRow_heap w g' cur _ e _ hgg,hnc,hcm,?_,?_⟩⟩
  ·simp only[splice,aw,au,ax];omega
  ·have:(splice o vs cur.toList).toArray.size=cur.size:=by
    simp only[splice,cC,aw,au,ax,bG];omega
   rw[this];exact hb
  ·simp only[splice,cC,aw,au,ax,bG];omega
  ·rw[<- htake]at hfit|-
   apply cD
   intro k
   have h1:o+vs.length<=cur.toList.length:=aN hfit (List.length_take_le' _ _)
   rw[Ywb hfit,aV,Ywb h1,aV]
   rw[au]at hfit
   by_cases hk:k<n * sz
   ·simp[hk]
   ·rw[ab hk,ab hk,ab oW]
theorem Yyl {α:Type}{sz:Nat}:∀ {es:List (List α)}{i:Nat}{e cs:List α}{off:Nat},(∀ x∈es,x.length=sz)->es[i]? = some e->off+cs.length<=e.length ->
  (es.set i (splice off cs e)).flatten=splice (i * sz+off) cs es.flatten
 | [],i,e,cs,off,_,h,_=>by simp at h
 | x :: es,0,e,cs,off,hsz,h,hf=>by
  simp only[bX,aa]at h
  subst h
  simp only[List.set_cons_zero,bP,Nat.zero_mul,ck,splice]
  rw[dd oW,List.drop_append_of_le_length oW]
  simp only[aH]
 | x :: es,i+1,e,cs,off,hsz,h,hf=>by
  have ih:=Yyl (es:=es) (λy hy=>hsz y (ai _ hy)) (by simpa using h) hf
  have hx:x.length=sz:=hsz x aj
  have e1:(i+1) * sz+off=x.length+(i * sz+off):=by rw[hx,bZ,dC];omega
  rw[List.set_cons_succ,bP,ih,bP]
  simp only[splice,e1]
  rw[List.take_append,List.drop_append]
  simp only[aH,Nat.add_sub_cancel_left,show x.length+(i * sz+off)+cs.length - x.length=i * sz+off+cs.length by omega]
  rw[ar (l:=x) oW,List.drop_of_length_le (l:=x) oW,bq]
theorem Rel.setArr (h:Rel E s ι a w) {id:Nat}{own:Bool}{sz:Nat}{es:List (List Cell)}(hob:s.obj id=.arr own sz es) (hreg:∀ t,∀ c∈(s.reg t).acs,∀ i,c.src=some i->i≠id)
  (hbox:∀ k,∀ c∈(s.obj k).acs,∀ i,c.src=some i->i≠id) {ids:List Nat} (hids:∀ j∈ids,Ysi (s.obj j)) (hnin:id∉ids) {i off g:Nat} {e cs:List Cell} {vs:List Value} (he:es[i]? = some e) (hfit:off+cs.length<=e.length)
  (hg:(ι.sl id).ownBlock=some g) (hvl:vs.length=cs.length) {Fs2:Nat->Nat->Prop} (a3:∀ k b,Fs2 k b->∃ j∈ids,ι.fp j b) (a4:∀ k k' b,k≠k'->Fs2 k b->¬ Fs2 k' b)
  (a5:∀ (k:Nat) (v:Value) (c:Cell),vs[k]? = some v->cs[k]? = some c->Yna w ι.G own (Fs2 k) v c) :
  ∃ cur ty ι' fz,w.heap[g]? = some (.cells cur ty fz)/\Y15o cur.size fz/\i * sz+off+vs.length<=cur.size /\
   Rel E ((s.updObs (Ynk ids)).setOb id (.arr own sz (es.set i (splice off cs e)))) ι' a (w.setRow g (splice (i * sz+off) vs cur.toList).toArray):=by
 have hor:=h.objs id
 rw[hob]at hor
 obtain⟨e0,xs,Fs,h1,h2,h3,h4,h5,h6,h7,h0⟩:=hor
 have hlx:xs.length=es.flatten.length:=by rw[h1.1,Ymy h2]
 have hel:e.length=sz:=h2 e (aE he)
 have hil:i<es.length:=(List.getElem?_eq_some_iff.1 he).1
 have hfit2:i * sz+off+vs.length<=xs.length:=by
  rw[h1.1,hvl]
  have:(i+1) * sz<=es.length * sz:=cP _ hil
  rw[bZ,dC]at this
  omega
 obtain⟨cur,ty,fz,hcur,hnz,hle,hrow⟩:=Y1i5 (o:=i * sz+off) (vs:=vs) h1 hg hfit2
 let w':=w.setRow g (splice (i * sz+off) vs cur.toList).toArray
 have hlenid:id<s.objs.length:=Ym6 hob sW
 have hlen:∀ j∈ids,j<s.objs.length:=λj hj=>by
  obtain⟨o,z,e,hjo⟩:=hids j hj
  exact Ym6 hjo sW
 have hobj:∀ k,((s.updObs (Ynk ids)).setOb id (.arr own sz (es.set i (splice off cs e)))).obj k=if k=id then .arr own sz (es.set i (splice off cs e)) else if k∈ids then .dead else s.obj k:=by
  intro k
  rw[Yll (by rw[Yon];exact hlenid),Ysf ids s hlen]
 have hgfp:ι.fp id g:=h3 g hg
 have hother:∀ b,b≠g->w'.heap[b]? = w.heap[b]? := λb hb=>du w g b _ hb
 let ι':Interp:={ ι with fp:=λk b=>if k=id then ι.fp id b\/∃ j∈ids,ι.fp j b else if k∈ids then False else ι.fp k b }
 have hfpo:∀ k b,k≠id->ι.fp k b->b≠g:=λk b hk hb e=>h.disj k id b hk hb (by rw[e];exact hgfp)
 have hx:Ext (λk=>k≠id) w ι s.obj w' ι' ((s.updObs (Ynk ids)).setOb id (.arr own sz (es.set i (splice off cs e)))).obj:=by
  refine⟨λb hb=>⟨hb,hother b λe=>h.gfp id b (by rw[e];exact hgfp) hb⟩,λk => ?_⟩
  rw[hobj k]
  by_cases hk:k=id
  ·subst hk;rw[ae rfl,hob];exact⟨rfl,rfl,λhk=>(hk rfl).elim⟩
  ·rw[ab hk]
   by_cases hk2:k∈ids
   ·rw[ae hk2]
    obtain⟨o,z,e,hjo⟩:=hids k hk2
    rw[hjo];trivial
   ·rw[ab hk2]
    cases hkk:s.obj k with
    | free=>trivial
    | dead=>trivial
    | box cs=>rfl
    | arr own' sz' es'=>exact⟨rfl,rfl,λ_ b hb=>⟨.inl (by simp[ι',hk,hk2,hb]),hother b (hfpo k b hk hb)⟩⟩
    | map _ _ _=>exact⟨rfl,rfl,rfl,λ_ b hb=>⟨.inl (by simp[ι',hk,hk2,hb]),hother b (hfpo k b hk hb)⟩⟩
 have hfp:∀ k b,ι'.fp k b->(k=id/\(ι.fp id b\/∃ j∈ids,ι.fp j b))\/(k≠id/\k∉ids/\ι.fp k b):=by
  intro k b hb
  simp only[ι']at hb
  split at hb
  ·exact .inl ⟨‹_›,hb⟩
  ·split at hb
   ·exact hb.elim
   ·exact .inr ⟨‹_›,‹_›,hb⟩
 have hcross:∀ b,(ι.fp id b\/∃ j∈ids,ι.fp j b)->∀ k,k≠id->k∉ids->¬ ι.fp k b:=by
  intro b hb k h8 h9 hk
  rcases hb with hb|⟨j,hj,hjb⟩
  ·exact h.disj k id b h8 hk hb
  ·exact h.disj k j b (λe=>h9 (e ▸ hj)) hk hjb
 refine⟨cur,ty,ι',fz,hcur,hnz,aN hfit2 hle,Rel.step h hx (λt=>.inl ⟨?_,λc hc i' hi'=>hreg t c hc i' hi'⟩) ?_ (Yus _ _) (λk => ?_) ?_ ?_ ?_ ?_ ?_ (λb hb hM=>hother b λe => ?_) sW rfl rfl⟩
 ·show ((s.updObs (Ynk ids)).setOb id _).regs.getD t _=_
  simp only[St.setOb,Ynq];rfl
 ·simp only[St.setOb,Ynq]
 ·rw[hobj k]
  by_cases hk:k=id
  ·subst hk;right
   rw[ae rfl]
   have hfl:=Yyl h2 he hfit
   have hsl:(splice off cs e).length=e.length:=Y1c0 hfit
   have hfit3:i * sz+off+cs.length<=es.flatten.length:=by rw[<- hlx,<- hvl];exact hfit2
   refine⟨e0,splice (i * sz+off) vs xs,λk b=>if i * sz+off<=k/\k<i * sz+off+vs.length then Fs2 (k - (i * sz+off)) b else Fs k b,by rw[cd];exact hrow,?_,?_,?_,?_,?_,?_,λhn=>h0 (by simpa using hn)⟩
   ·intro x hxm
    rcases bS hxm with hm|rfl
    ·exact h2 x hm
    ·rw[hsl,hel]
   ·intro b hb;simp only[ι',bx];exact .inl (h3 b hb)
   ·intro k2 b hb
    simp only[ι',bx]
    split at hb
    ·exact .inr (a3 _ b hb)
    ·exact .inl (h4 _ b hb)
   ·intro k2 b hb hk2
    split at hk2
    ·obtain⟨j,hj,hjb⟩:=a3 _ b hk2
     exact h.disj j k b (λe=>hnin (e ▸ hj)) hjb (h3 b hb)
    ·exact h5 _ b hb hk2
   ·intro k2 k3 b hne hb hb'
    split at hb<;>split at hb'
    ·exact a4 _ _ b oW hb hb'
    ·obtain⟨j,hj,hjb⟩:=a3 _ b hb
     exact h.disj j k b (λe=>hnin (e ▸ hj)) hjb (h4 _ b hb')
    ·obtain⟨j,hj,hjb⟩:=a3 _ b hb'
     exact h.disj j k b (λe=>hnin (e ▸ hj)) hjb (h4 _ b hb)
    ·exact h6 k2 k3 b hne hb hb'
   ·intro k2 u c hu hc
    rw[hfl,Ywb hfit3]at hc
    rw[Ywb hfit2]at hu
    rw[<- hvl]at hc
    by_cases hin:i * sz+off<=k2/\k2<i * sz+off+vs.length
    ·rw[ae hin]at hu hc
     simp only[hin,and_self,bx]
     refine(a5 _ u c hu hc).mono (λb hb=>⟨hb,hother b λe=>h.gfp k b (by rw[e];exact hgfp) hb⟩) λb hb=>hother b ?_
     obtain⟨j,hj,hjb⟩:=a3 _ b hb
     exact hfpo j b (λe=>hnin (e ▸ hj)) hjb
    ·rw[ab hin]at hu hc
     simp only[hin,cT]
     refine(h7 _ u c hu hc).mono (λb hb=>⟨hb,hother b λe=>h.gfp k b (by rw[e];exact hgfp) hb⟩) λb hb=>hother b λe => ?_
     subst e
     exact h5 _ b hg hb
  ·rw[ab hk]
   by_cases hk2:k∈ids
   ·right
    rw[ae hk2]
    intro b hb
    rcases hfp k b hb with ⟨h8,_⟩|⟨_,h8,_⟩
    ·exact hk h8
    ·exact h8 hk2
   ·left
    rw[ab hk2]
    exact⟨rfl,⟨rfl,rfl,λb=>by simp[ι',hk,hk2],λb hb=>hother b (hfpo k b hk hb)⟩,hbox k⟩
 ·intro k k' b hkk hi hj
  rcases hfp k b hi with ⟨rfl,h8⟩|⟨h8,h9,h10⟩<;>rcases hfp k' b hj with ⟨rfl,k1⟩|⟨k1,k2,k3⟩
  ·exact hkk rfl
  ·exact hcross b h8 k' k1 k2 k3
  ·exact hcross b k1 k h8 h9 h10
  ·exact h.disj k k' b hkk h10 k3
 ·intro k b hi hgb
  rcases hfp k b hi with ⟨rfl,h8|⟨j,_,hjb⟩⟩|⟨h8,h9,h10⟩
  ·exact h.gfp k b h8 hgb
  ·exact h.gfp j b hjb hgb
  ·exact h.gfp k b h10 hgb
 ·intro k b hi
  rcases hfp k b hi with ⟨rfl,h8|⟨j,_,hjb⟩⟩|⟨h8,h9,h10⟩
  ·exact h.own k b h8
  ·exact h.own j b hjb
  ·exact h.own k b h10
 ·intro k b hi
  simp only[size_setRow]
  rcases hfp k b hi with ⟨rfl,h8|⟨j,_,hjb⟩⟩|⟨h8,h9,h10⟩
  ·exact h.lt k b h8
  ·exact h.lt j b hjb
  ·exact h.lt k b h10
 ·intro b hb;simp only[size_setRow];exact h.glt b hb
 ·subst e
  rcases h.own id b hgfp with h8|h8
  ·exact hM h8
  ·omega
def Y131:List Orc->Option (List Cell×Option (List (List Cell))×List Orc)
 | .cells e :: q=>some (e,none,q)
 | .take e es _ :: q=>some (e,some es,q)
 | _=>none
def Y1eb (es:List (List Cell)) (es':Option (List (List Cell))):List (List Cell):=match es' with|some es'=>es'|none=>es
def Yyq (es:List (List Cell)) (es':Option (List (List Cell))):List Item:=match es' with|some es'=>[.obl (es=es')]|none=>[]
theorem Y1ah {es:List (List Cell)}{es':Option (List (List Cell))}{K:Prop}(vc:VC (Yyq es es') K):Y1eb es es'=es/\K:=by
 cases es' with
 | none=>exact⟨rfl,vc⟩
 | some x=>exact⟨vc.1.symm,vc.2⟩
def eStoreArr (P:Program) (s:St) (T:TypeId) (ad x:Operand) (q:List Orc):Option (Res×List Item×List Orc):=
 match s.ac ad,s.ev x with
 | some (.eptr id i off),some (.sv v)=>match s.obj id,Yrp v,Ypc P T,Y131 q with
  | .arr own sz es,some l,some n,some (e,es',q')=>
   (match (match own with|true=>absorbOwn s l|false=>(Yr5 l).map λcs=>(cs,[])) with
   | some (cs,ids)=>if l.length=n/\off+n<=e.length/\ids.elem id=false then
     some ({ inv:=[id],upd:=Ynk ids++[(id,.arr own sz (Y1eb (es.set i (splice off cs e)) es'))] },.obl (es[i]? = some e) :: Yyq (es.set i (splice off cs e)) es',q') else none
   | none=>none)
  | _,_,_,_=>none
 | _,_=>none
theorem Ysx:∀ (l r:List (Nat×Ob)) (s:St),s.updObs (l++r)=(s.updObs l).updObs r
 | [],r,s=>rfl
 | (n,o) :: l,r,s=>by simp only[bE,St.updObs];exact Ysx l r _
theorem Ywu (ids:List Nat) (i:Nat) (s:St):∀ j,Ysi (s.obj j)->Ysi ((s.inval [i]).obj j):=by
 intro j ⟨own,sz,es,h⟩
 refine⟨own,sz,es,?_⟩
 rw[Ym4,h];rfl
theorem Y18e (h:Rel E s ι a w) {o:Oper}{T:TypeId}{ad x:Operand}(ho:o.op=.store T ad x) {n:Nat}{r:Res}{q q':List Orc}{it:List Item}{K:Prop}
  (e:eStoreArr P s T ad x q=some (r,it,q')) (vc:VC it K):EOK P E s a w o n r/\K:=by
 unfold eStoreArr at e
 split at e
 ·rename_i id i off v had hxv
  split at e
  ·rename_i own sz es l m el es9 q1 hob hl hT hq9
   split at e
   ·rename_i cs ids habs
    split at e
    ·rename_i hc
     simp only[aa,al]at e
     obtain⟨rfl,rfl,rfl⟩:=e
     obtain⟨hel,hK⟩:=vc
     obtain⟨hst,hK⟩:=Y1ah hK
     refine⟨?_,hK⟩
     rw[hst]
     have hv:=Yrm hl (Ypy h hxv)
     obtain⟨a1,a2,Fs,a3,a4,a5⟩:(∀ j∈ids,Ysi (s.obj j))/\cs.length=l.length/\∃ Fs:Nat->Nat->Prop,(∀ k b,Fs k b->∃ j∈ids,ι.fp j b)/\(∀ k k' b,k≠k'->Fs k b->¬ Fs k' b) /\
       ∀ (k:Nat) (v:Value) (c:Cell),(a.eval x).cells.toList[k]? = some v->cs[k]? = some c->Yna w ι.G own (Fs k) v c:=by
      cases own with
      | true=>exact Ytp h habs hv
      | false=>
       simp only[b7,al]at habs
       obtain⟨cs',hcs,rfl,rfl⟩:=habs
       have h2:=Yxi hcs hv
       exact⟨by simp,by rw[<- h2.length,<- hv.length],λ_ _=>False,by simp,by simp,λk v c hv hc=>h2.get hv hc⟩
     obtain⟨b,hb,hp⟩:=(Yn7 h had).2 _ _ _ hob
     have hvl:(a.eval x).cells.toList.length=cs.length:=by rw[<- hv.length,a2]
     have hfit:off+cs.length<=el.length:=by rw[a2,hc.1];exact hc.2.1
     have h1:=h.inval [id]
     have hob1:(s.inval [id]).obj id=.arr own sz es:=by rw[Ym4,hob];rfl
     obtain⟨cur,ty,ι',fz,k1,knz,k2,k3⟩:=Rel.setArr h1 hob1 (λt c hc i' hi' e=>by
       rw[Ys6]at hc
       exact Yti _ hc hi' (by simp[e])) (λk c hc i' hi' e=>by
       rw[Ym4]at hc
       cases hk:s.obj k with
       | box l2=>rw[hk]at hc;simp[Ym5,Ob.acs]at hc;obtain⟨y,_,rfl⟩:=hc;exact Yr1 _ hi' (by simp[e])
       | free=>rw[hk]at hc;simp[Ym5,Ob.acs]at hc
       | dead=>rw[hk]at hc;simp[Ym5,Ob.acs]at hc
       | map _ _ _=>rw[hk]at hc;simp[Ym5,Ob.acs]at hc
       | arr _ _ _=>rw[hk]at hc;simp[Ym5,Ob.acs]at hc) (λj hj=>Ywu ids id s j (a1 j hj)) (by simpa using hc.2.2) hel hfit hb hvl a3 a4 a5
     have hlen:(a.eval x).cells.toList.length=m:=by rw[<- hv.length];exact hc.1
     have hone:∀ u∈(a.eval x).cells.toList,u.oneCell':=by
      intro u hu
      obtain⟨k,hk⟩:=cn hu
      obtain⟨c,_,hc⟩:=hv.flip.get_left hk
      exact hc.2
     refine EOK.skip (ι':=ι') (w':=w.setRow b (splice (i * sz+off) (a.eval x).cells.toList cur.toList).toArray) ?_ ?_ Yum
     ·simp only[execOp,ho,hp]
      rw[aQ,Ytx hT k1 knz hlen (by rw[<- hlen];exact k2) hone]
      rfl
     ·simp only[St.app,St.setObs,Ysx]
      exact k3
    ·cases e
   ·cases e
  ·cases e
 ·cases e
end
def AC.ren (f:Nat->Nat):AC->AC
 | .ref j=>.ref (f j)
 | .bor j c=>.bor (f j) c
 | .ptr j o=>.ptr (f j) o
 | .eptr j i o=>.eptr (f j) i o
 | .iptr src cs=>.iptr (src.map f) cs
 | .sub j i p=>.sub (f j) i p
 | .mref j=>.mref (f j)
 | c=>c
def SV.ren (f:Nat->Nat):SV->SV
 | .one c=>.one (c.ren f)
 | .agg cs=>.agg (cs.map (AC.ren f))
def AV.ren (f:Nat->Nat):AV->AV
 | .sv x=>.sv (x.ren f)
 | .tup l=>.tup (l.map (SV.ren f))
def Ob.ren (f:Nat->Nat):Ob->Ob
 | .box cs=>.box (cs.map (AC.ren f))
 | o=>o
def AC.noG:AC->Bool
 | .val (.lit _) | .ref _ | .ptr .. | .eptr .. | .top | .mref _=>true
 | _=>false
structure Tr (f:Nat->Nat) (ι1:Interp) (ob1:Nat->Ob) (ι2:Interp) (ob2:Nat->Ob):Prop where
 o:∀ j,notFree ob1 j->ob2 (f j)=(ob1 j).ren f/\ι2.blk (f j)=ι1.blk j/\ι2.sl (f j)=ι1.sl j/\∀ b,ι2.fp (f j) b ↔ ι1.fp j b
section
variable {w:World}{f:Nat->Nat}{ι1 ι2:Interp}{ob1 ob2:Nat->Ob}
theorem Tr.notFree (h:Tr f ι1 ob1 ι2 ob2) {j:Nat}(hj:Ab.notFree ob1 j):Ab.notFree ob2 (f j):=by
 unfold Ab.notFree at *
 rw[(h.o j hj).1]
 cases e:ob1 j<;>simp_all[Ob.ren]
theorem Tr.arr (h:Tr f ι1 ob1 ι2 ob2) {j:Nat}(hj:Ab.notFree ob1 j) {own:Bool}{sz:Nat}{es:List (List Cell)}(e:ob2 (f j)=.arr own sz es):ob1 j=.arr own sz es:=by
 rw[(h.o j hj).1]at e
 cases e':ob1 j<;>simp_all[Ob.ren]
theorem Tr.box (h:Tr f ι1 ob1 ι2 ob2) {j:Nat}(hj:Ab.notFree ob1 j) {cs:List AC}(e:ob2 (f j)=.box cs):∃ cs1,ob1 j=.box cs1:=by
 rw[(h.o j hj).1]at e
 cases e':ob1 j<;>simp_all[Ob.ren]
theorem Tr.map (h:Tr f ι1 ob1 ι2 ob2) {j:Nat}(hj:Ab.notFree ob1 j) {nn:Bool}{k:MK}{g:Value->Option Cell}(e:ob2 (f j)=.map nn k g):ob1 j=.map nn k g:=by
 rw[(h.o j hj).1]at e
 cases e':ob1 j<;>simp_all[Ob.ren]
theorem Tr.reads (h:Tr f ι1 ob1 ι2 ob2) {j:Nat}(hj:Ab.notFree ob1 j) (e:(ob2 (f j)).reads):(ob1 j).reads:=by
 rw[(h.o j hj).1]at e
 cases e':ob1 j<;>simp_all[Ob.ren,Ob.reads]
theorem Tr.rdSet (h:Tr f ι1 ob1 ι2 ob2) (hG:∀ b,ι1.G b->ι2.G b) {src:Option Nat}(hs:∀ id,src=some id->Ab.notFree ob1 id):∀ b,Ab.rdSet ι1 src b->Ab.rdSet ι2 (src.map f) b:=by
 intro b hb
 cases src with
 | none=>exact hG b hb
 | some id=>exact hb.imp (hG b) λhb=>((h.o id (hs id rfl)).2.2.2 b).2 hb
theorem Ymf.tr (h:Tr f ι1 ob1 ι2 ob2) {c:AC}(hG:c.noG\/∀ b,ι1.G b->ι2.G b) {v:Value}(r:Ymf w ι1 ob1 c v):Ymf w ι2 ob2 (c.ren f) v:=by
 cases c with
 | top=>trivial
 | val c=>
  rcases hG with hG|hG
  ·cases c with
   | lit u=>obtain⟨rfl,hk⟩:=Rd.lit_inv (show Rd w ι1.G v _ from r);exact .lit hk
   | list es=>simp[AC.noG]at hG
   | any=>simp[AC.noG]at hG
   | cap u=>simp[AC.noG]at hG
   | clo f u=>simp[AC.noG]at hG
  ·exact Rd.mono (λ_ _=>rfl) hG r
 | ref j=>
  refine⟨h.notFree r.1,λown sz es e => ?_⟩
  rw[(h.o j r.1).2.2.1]
  exact r.2 _ _ _ (h.arr r.1 e)
 | bor j c=>
  have hG':=hG.resolve_left (by simp[AC.noG])
  refine⟨h.notFree r.1,λe => ?_⟩
  exact Rd.mono (λ_ _=>rfl) (h.rdSet hG' (src:=some j) λid e=>by cases e;exact r.1) (r.2 (h.reads r.1 e))
 | ptr j o=>
  refine⟨h.notFree r.1,λcs e => ?_⟩
  obtain⟨cs1,e1⟩:=h.box r.1 e
  rw[(h.o j r.1).2.1]
  exact r.2 _ e1
 | eptr j i o=>
  refine⟨h.notFree r.1,λown sz es e => ?_⟩
  rw[(h.o j r.1).2.2.1]
  exact r.2 _ _ _ (h.arr r.1 e)
 | iptr src cs=>
  have hG':=hG.resolve_left (by simp[AC.noG])
  refine⟨λid e => ?_,λhl => ?_⟩
  ·cases src with
   | none=>cases e
   | some j=>simp only[aP,aa]at e;subst e;exact h.notFree (r.1 j rfl)
  ·have hl1:live ob1 src:=by
    cases src with
    | none=>trivial
    | some j=>exact h.reads (r.1 j rfl) hl
   obtain⟨b,o,xs,e,hb,hx,ha⟩:=r.2 hl1
   have hm:=h.rdSet hG' (src:=src) r.1
   exact⟨b,o,xs,e,hm b hb,hx,ha.imp λx c hc=>Rd.mono (λ_ _=>rfl) hm hc⟩
 | sub j i p=>
  have hG':=hG.resolve_left (by simp[AC.noG])
  refine⟨h.notFree r.1,λown sz es e => ?_⟩
  obtain⟨b,h1,h2,h3⟩:=r.2 _ _ _ (h.arr r.1 e)
  exact⟨b,by rw[(h.o j r.1).2.2.1];exact h1,h.rdSet hG' (src:=some j) (λ_ e=>by cases e;exact r.1) b h2,h3⟩
 | mref j=>
  refine⟨h.notFree r.1,λnn k g e => ?_⟩
  rw[(h.o j r.1).2.1]
  exact r.2 _ _ _ (h.map r.1 e)
theorem Ymo.tr (h:Tr f ι1 ob1 ι2 ob2) {x:SV}(hG:x.acs.all AC.noG\/∀ b,ι1.G b->ι2.G b) {v:Value}(r:Ymo w ι1 ob1 x v):Ymo w ι2 ob2 (x.ren f) v:=by
 cases x with
 | one c=>
  refine⟨Ymf.tr h (hG.imp (λhg=>by simpa[SV.acs] using hg) id) r.1,λhn=>r.2 λe=>hn ?_⟩
  subst e;rfl
 | agg cs=>
  obtain⟨arr,e,ha⟩:=r
  exact⟨arr,e,Ylq.map_left _ (ha.impMem λc u hm hc=>⟨Ymf.tr h (hG.imp (λhg=>(List.all_eq_true.1 hg) c hm) id) hc.1,hc.2⟩)⟩
theorem Ymg.tr (h:Tr f ι1 ob1 ι2 ob2) {x:AV}(hG:x.acs.all AC.noG\/∀ b,ι1.G b->ι2.G b) {v:Value}(r:Ymg w ι1 ob1 x v):Ymg w ι2 ob2 (x.ren f) v:=by
 cases x with
 | sv x=>exact Ymo.tr h hG r
 | tup l=>
  obtain⟨arr,e,ha⟩:=r
  exact⟨arr,e,Ylq.map_left _ (ha.impMem λc u hm hc=>Ymo.tr h (hG.imp (λhg=>List.all_eq_true.2 λy hy=>(List.all_eq_true.1 hg) y (List.mem_flatMap.2 ⟨c,hm,hy⟩)) id) hc)⟩
def Ob.noG:Ob->Bool
 | .box cs=>cs.all AC.noG
 | .arr own _ _=>own
 | _=>true
theorem Yov.tr (h:Tr f ι1 ob1 ι2 ob2) {j:Nat}(hj:Ab.notFree ob1 j) (hG:(ob1 j).noG\/∀ b,ι1.G b->ι2.G b) (r:Yov w ι1 ob1 j (ob1 j)):Yov w ι2 ob2 (f j) (ob2 (f j)):=by
 obtain⟨h1,h2,h3,h4⟩:=h.o j hj
 rw[h1]
 cases e:ob1 j with
 | free=>simp[Ab.notFree,e]at hj
 | dead=>rw[e]at r;exact λb hb=>r b ((h4 b).1 hb)
 | box cs=>
  rw[e]at r hG
  obtain⟨r1,arr,ty,r2,r3⟩:=r
  refine⟨by rw[h2];exact(h4 _).2 r1,arr,ty,by rw[h2];exact r2,Ylq.map_left _ (r3.impMem λc v hm hc=>⟨Ymf.tr h (hG.imp (λhg=>(List.all_eq_true.1 hg) c hm) id) hc.1,hc.2⟩)⟩
 | arr own sz es=>
  rw[e]at r hG
  have hf:ι2.fp (f j)=ι1.fp j:=funext λb=>propext (h4 b)
  show Ym8 w (Yna w ι2.G own) sz (ι2.fp (f j)) (ι2.sl (f j)) es
  rw[h3,hf]
  rcases hG with hG|hG
  ·simp only[Ob.noG]at hG;subst hG;exact r
  ·exact Ym8.mono r (λb hb=>⟨hG b hb,rfl⟩) λ_ _=>rfl
 | map nn k f=>
  rw[e]at r
  simp only[Ob.ren,Yov]at r|-
  cases nn with
  | true=>exact⟨λb hb=>r.1 b ((h4 b).1 hb),r.2⟩
  | false=>rw[h2];exact r.mono (λx hx=>(h4 x).2 hx) λ_ _=>rfl
end
def Ynd (objs:List Ob) (j:Nat):Ob:=objs.getD j .free
structure PreRel (w:World) (ι:Interp) (objs:List Ob) (args:List SV) (vals:Array Value):Prop where
 obj:∀ j,Yov w ι (Ynd objs) j (Ynd objs j)
 disj:∀ i j b,i≠j->ι.fp i b->¬ ι.fp j b
 gfp:∀ i b,ι.fp i b->¬ ι.G b
 lt:∀ i b,ι.fp i b->b<w.heap.size
 glt:∀ b,ι.G b->b<w.heap.size
 arg:Ylq (Ymo w ι (Ynd objs)) args vals.toList
structure PostRel (w:World) (ι:Interp) (objs0 objs1:List Ob) (res:AV) (w':World) (v:Value) (ι':Interp):Prop where
 ext:∀ j,Ync w w' ι ι' False j (Ynd objs0 j) (Ynd objs1 j)
 obj:∀ j,Yov w' ι' (Ynd objs1) j (Ynd objs1 j)
 disj:∀ i j b,i≠j->ι'.fp i b->¬ ι'.fp j b
 gfp:∀ i b,ι'.fp i b->¬ ι'.G b
 lt:∀ i b,ι'.fp i b->b<w'.heap.size
 glt:∀ b,ι'.G b->b<w'.heap.size
 gg:∀ b,ι.G b->ι'.G b
 gown:∀ b,ι'.G b->ι.G b\/(∃ i,ι.fp i b)\/w.heap.size<=b
 own:∀ j b,ι'.fp j b->(∃ i,ι.fp i b)\/w.heap.size<=b
 frame:∀ b,b<w.heap.size->(∀ i,¬ ι.fp i b)->w'.heap[b]? = w.heap[b]?
 size:w.heap.size<=w'.heap.size
 os:w'.os=w.os
 out:w'.output=w.output
 val:Ymg w' ι' (Ynd objs1) res v
def Ynw (P:Program) (f:FuncId) (objs0:List Ob) (args:List SV) (objs1:List Ob) (res:AV):Prop:=
 (∀ xs w,(callFunc f xs).run P w=.ok (.enter f xs) w) /\
 ∀ w ι vals,PreRel w ι objs0 args vals->Kn P w ι->Calls P f vals w λe w'=>∃ v ι',e=.returned v/\PostRel w ι objs0 objs1 res w' v ι'
structure Pass where
 emb:List (Option Nat):=[]
 objs:List Ob:=[]
 args:List SV:=[]
 lent:List Nat:=[]
def lendAC (s:St):AC->Option (Cell×List Nat)
 | .val (.lit (.slice none 0 0))=>some (.list [],[])
 | .val c=>some (c,[])
 | .bor id c=>if Yt1 s (some id) then some (c,[id]) else none
 | .ref id=>match s.obj id with
  | .arr _ _ es=>some (.list es,[id])
  | _=>none
 | _=>none
def lendACs (s:St):List AC->Option (List AC×List Nat)
 | []=>some ([],[])
 | c :: r=>match lendAC s c,lendACs s r with
  | some (c',l),some (r',l')=>some (.val c' :: r',l++l')
  | _,_=>none
def AC.flat:AC->Bool
 | .val _ | .top=>true
 | _=>false
def passOne (s:St):AC->Option (Nat×Ob×(Nat->AC))
 | .ref k=>match s.obj k with
  | .arr o sz es=>some (k,.arr o sz es,.ref)
  | _=>none
 | .mref k=>match s.obj k with
  | .map nn kd f=>some (k,.map nn kd f,.mref)
  | _=>none
 | .ptr k 0=>match s.obj k with
  | .box cs=>if cs.all AC.flat then some (k,.box cs,λj=>.ptr j 0) else none
  | _=>none
 | _=>none
def passCells (s:St):List (Option Nat)->List AC->Option (List (Option Nat)×List Ob×List AC×List Nat)
 | emb,[]=>some (emb,[],[],[])
 | emb,c :: r=>match passOne s c with
  | some (k,o,f)=>if emb.elem (some k) then none else
    (match passCells s (emb++[some k]) r with
    | some (emb',obs,cs,l)=>some (emb',o :: obs,f emb.length :: cs,l)
    | none=>none)
  | none=>match c with
   | .val c'=>(match passCells s emb r with
    | some (emb',obs,cs,l)=>some (emb',obs,.val c' :: cs,l)
    | none=>none)
   | .bor id c'=>if Yt1 s (some id) then (match passCells s emb r with
    | some (emb',obs,cs,l)=>some (emb',obs,.val c' :: cs,id :: l)
    | none=>none) else none
   | .top=>(match passCells s emb r with
    | some (emb',obs,cs,l)=>some (emb',obs,.top :: cs,l)
    | none=>none)
   | _=>none
def passAgg (s:St):List (Option Nat)->List (Option (Bool×Nat))->List AC->Option (List (Option Nat)×List Ob×List AC×List Nat)
 | emb,[],[]=>some (emb,[],[],[])
 | emb,m :: ms,c :: r=>match m with
  | none=>match lendAC s c with
   | some (c',l)=>(match passAgg s emb ms r with
    | some (emb',obs,cs,l')=>some (emb',obs,.val c' :: cs,l++l')
    | none=>none)
   | none=>none
  | some (o,sz)=>match c with
   | .ref k=>match s.obj k with
    | .arr o' sz' es=>if o'=o/\sz'=sz/\emb.elem (some k)=false then
     (match passAgg s (emb++[some k]) ms r with
     | some (emb',obs,cs,l)=>some (emb',.arr o sz es :: obs,.ref emb.length :: cs,l)
     | none=>none) else none
    | _=>none
   | .val (.lit (.slice none 0 0))=>(match passAgg s (emb++[none]) ms r with
    | some (emb',obs,cs,l)=>some (emb',.arr o sz [] :: obs,.ref emb.length :: cs,l)
    | none=>none)
   | _=>none
 | _,_,_=>none
def Pass.add (s:St) (p:Pass) (m:Mode) (x:SV):Option Pass:=
 match m with
 | .rd=>match x with
  | .one c=>match lendACs s [c] with
   | some ([c'],l)=>some { p with args:=p.args++[.one c'],lent:=p.lent++l }
   | _=>none
  | .agg cs=>match lendACs s cs with
   | some (cs',l)=>some { p with args:=p.args++[.agg cs'],lent:=p.lent++l }
   | none=>none
 | .own o sz=>match x with
  | .one (.ref id)=>match s.obj id with
   | .arr o' sz' es=>if o'=o/\sz'=sz/\p.emb.elem (some id)=false then
     some { p with emb:=p.emb++[some id],objs:=p.objs++[.arr o sz es],args:=p.args++[.one (.ref p.emb.length)] } else none
   | _=>none
  | .one (.val (.lit (.slice none 0 0)))=>some { p with emb:=p.emb++[none],objs:=p.objs++[.arr o sz []],args:=p.args++[.one (.ref p.emb.length)] }
  | _=>none
 | .ptr=>match x with
  | .one (.ptr id 0)=>match s.obj id with
   | .box cs=>if p.emb.elem (some id) then none else
    (match passCells s (p.emb++[some id]) cs with
    | some (emb',obs,cs',l)=>some { emb:=emb',objs:=p.objs++.box cs' :: obs,args:=p.args++[.one (.ptr p.emb.length 0)],lent:=p.lent++l }
    | none=>none)
   | _=>none
  | _=>none
 | .map=>match x with
  | .one (.mref id)=>match s.obj id with
   | .map nn kd f=>if p.emb.elem (some id)=false then
     some { p with emb:=p.emb++[some id],objs:=p.objs++[.map nn kd f],args:=p.args++[.one (.mref p.emb.length)] } else none
   | _=>none
  | _=>none
 | .agg ms=>match x with
  | .agg cs=>match passAgg s p.emb ms cs with
   | some (emb',obs,cs',l)=>some { emb:=emb',objs:=p.objs++obs,args:=p.args++[.agg cs'],lent:=p.lent++l }
   | none=>none
  | _=>none
def passAll (s:St):Pass->List Mode->List AV->Option Pass
 | p,[],[]=>some p
 | p,m :: ms,.sv x :: xs=>match p.add s m x with
  | some p'=>passAll s p' ms xs
  | none=>none
 | _,_,_=>none
end Go.Proofs.YtcbodhkhppgkiaaGreat.Ab
end
