/- Part 2 of the machine. No condition. -/
import Derived.Test.YtclpofblehlojaaGreatQ1
import Derived.ChangeMaps4
set_option linter.unusedVariables false
set_option linter.unusedSimpArgs false
section
namespace Go.Proofs.YtclpofblehlojaaGreat.Ab
open Go
inductive PAC (s:St) (emb:List (Option Nat)) (lent:List Nat):AC->AC->Prop
 | top {c:AC}:PAC s emb lent c .top
 | val {c:Cell}:PAC s emb lent (.val c) (.val c)
 | nil:PAC s emb lent (.val (.lit (.slice none 0 0))) (.val (.list []))
 | bor {id:Nat} {c:Cell} (h:live s.obj (some id)) (hl:id∈lent):PAC s emb lent (.bor id c) (.val c)
 | lend {id:Nat} {own:Bool} {sz:Nat} {es:List (List Cell)} (h:s.obj id=.arr own sz es) (hl:id∈lent):PAC s emb lent (.ref id) (.val (.list es))
 | ref {id j:Nat} (h:emb[j]? = some (some id)) (hl:∃ own sz es,s.obj id=.arr own sz es):PAC s emb lent (.ref id) (.ref j)
 | own {j:Nat} (h:emb[j]? = some none):PAC s emb lent (.val (.lit (.slice none 0 0))) (.ref j)
 | ptr {id j:Nat} {cs:List AC} (h:emb[j]? = some (some id)) (hb:s.obj id=.box cs):PAC s emb lent (.ptr id 0) (.ptr j 0)
 | mref {id j:Nat} {nn:Bool} {k:MK} {f:Value->Option Cell} (h:emb[j]? = some (some id)) (hb:s.obj id=.map nn k f):PAC s emb lent (.mref id) (.mref j)
def Ys7 (s:St) (emb:List (Option Nat)) (lent:List Nat) (id:Nat) (o:Ob):Prop:=
 (∃ own sz es,s.obj id=.arr own sz es/\o=.arr own sz es) ∨ (∃ cs cs',s.obj id=.box cs/\o=.box cs'/\Yg8 (PAC s emb lent) cs cs') ∨ (∃ nn k f,s.obj id=.map nn k f/\o=.map nn k f)
structure PassOK (s:St) (p:Pass):Prop where
 len:p.emb.length=p.objs.length
 som:∀ (j id:Nat),p.emb[j]? = some (some id)->∃ o,p.objs[j]? = some o/\Ys7 s p.emb p.lent id o
 non:∀ (j:Nat),p.emb[j]? = some none->∃ own sz,p.objs[j]? = some (.arr own sz [])
 inj:∀ (j j' id:Nat),p.emb[j]? = some (some id)->p.emb[j']? = some (some id)->j=j'
theorem PAC.mono {s:St} {emb emb':List (Option Nat)} {lent lent':List Nat} (h1:∀ (j:Nat) x,emb[j]? = some x->emb'[j]? = some x) (h2:∀ i,i∈lent->i∈lent') {c c':AC}
  (h:PAC s emb lent c c'):PAC s emb' lent' c c':=by
 cases h with
 | top=>exact .top
 | val=>exact .val
 | nil=>exact .nil
 | bor h hl=>exact .bor h (h2 _ hl)
 | lend h hl=>exact .lend h (h2 _ hl)
 | ref h hl=>exact .ref (h1 _ _ h) hl
 | own h=>exact .own (h1 _ _ h)
 | ptr h hb=>exact .ptr (h1 _ _ h) hb
 | mref h hb=>exact .mref (h1 _ _ h) hb
theorem Ys7.mono {s:St} {emb emb':List (Option Nat)} {lent lent':List Nat} (h1:∀ (j:Nat) x,emb[j]? = some x->emb'[j]? = some x) (h2:∀ i,i∈lent->i∈lent') {id:Nat} {o:Ob}
  (h:Ys7 s emb lent id o):Ys7 s emb' lent' id o:=by
 rcases h with h | ⟨cs,cs',h3,h4,h5⟩ | h
 ·exact .inl h
 ·exact .inr (.inl ⟨cs,cs',h3,h4,h5.imp fun a b h=>h.mono h1 h2⟩)
 ·exact .inr (.inr h)
def PSV (s:St) (emb:List (Option Nat)) (lent:List Nat):SV->SV->Prop
 | .one c,.one c'=>c'≠.top/\PAC s emb lent c c'
 | .agg cs,.agg cs'=>Yg8 (PAC s emb lent) cs cs'
 | _,_=>False
theorem PSV.mono {s:St} {emb emb':List (Option Nat)} {lent lent':List Nat} (h1:∀ (j:Nat) x,emb[j]? = some x->emb'[j]? = some x) (h2:∀ i,i∈lent->i∈lent') {c c':SV}
  (h:PSV s emb lent c c'):PSV s emb' lent' c c':=by
 cases c <;> cases c' <;> first | exact h.elim | exact ⟨h.1,h.2.mono h1 h2⟩ | exact Yg8.imp (fun a b h=>PAC.mono h1 h2 h) h
theorem Yk0 {α:Type} {l l':List α} {j:Nat} {x:α} (h:l[j]? = some x):(l++l')[j]? = some x:=by
 rw [List.getElem?_append_left (List.getElem?_eq_some_iff.1 h).1]; exact h
theorem Y12i {s:St} {emb:List (Option Nat)} {c:AC} {c':Cell} {l:List Nat} (e:lendAC s c=some (c',l)):PAC s emb l c (.val c'):=by
 unfold lendAC at e
 split at e
 ·simp only [Option.some.injEq,Prod.mk.injEq] at e; obtain ⟨rfl,rfl⟩:=e; exact .nil
 ·simp only [Option.some.injEq,Prod.mk.injEq] at e; obtain ⟨rfl,rfl⟩:=e; exact .val
 ·split at e
  ·rename_i hl
   simp only [Option.some.injEq,Prod.mk.injEq] at e; obtain ⟨rfl,rfl⟩:=e; exact .bor (Ymu hl) (by simp)
  ·cases e
 ·split at e
  ·rename_i ho
   simp only [Option.some.injEq,Prod.mk.injEq] at e; obtain ⟨rfl,rfl⟩:=e; exact .lend ho (by simp)
  ·cases e
 ·cases e
theorem Ys8 {s:St} {emb:List (Option Nat)}:∀ {cs cs':List AC} {l:List Nat},lendACs s cs=some (cs',l)->Yg8 (PAC s emb l) cs cs'/\∀ c∈cs',c≠.top
 | [],cs',l,e=>by simp only [lendACs,Option.some.injEq,Prod.mk.injEq] at e; obtain ⟨rfl,rfl⟩:=e; exact ⟨trivial,by simp⟩
 | c :: cs,cs',l,e=>by
  simp only [lendACs] at e
  split at e
  ·rename_i c' l1 r' l2 h1 h2
   simp only [Option.some.injEq,Prod.mk.injEq] at e; obtain ⟨rfl,rfl⟩:=e
   obtain ⟨i1,i2⟩:=Ys8 (emb:=emb) h2
   refine ⟨⟨(Y12i (emb:=emb) h1).mono (fun _ _ h=>h) fun i hi=>List.mem_append_left _ hi,i1.imp fun a b h=>h.mono (fun _ _ h=>h) fun i hi=>List.mem_append_right _ hi⟩,?_⟩
   intro c hc
   rcases List.mem_cons.1 hc with rfl | hc
   ·simp
   ·exact i2 c hc
  ·cases e
theorem Yyq {s:St} {c:AC} {k:Nat} {o:Ob} {f:Nat->AC} (e:passOne s c=some (k,o,f)) :
  (∀ emb lent,Ys7 s emb lent k o)/\∀ {emb:List (Option Nat)} {lent:List Nat} {j:Nat},emb[j]? = some (some k)->PAC s emb lent c (f j):=by
 unfold passOne at e
 split at e
 ·split at e
  ·rename_i ho
   simp only [Option.some.injEq,Prod.mk.injEq] at e
   obtain ⟨rfl,rfl,rfl⟩:=e
   exact ⟨fun _ _=>.inl ⟨_,_,_,ho,rfl⟩,fun h=>.ref h ⟨_,_,_,ho⟩⟩
  ·cases e
 ·split at e
  ·rename_i ho
   simp only [Option.some.injEq,Prod.mk.injEq] at e
   obtain ⟨rfl,rfl,rfl⟩:=e
   exact ⟨fun _ _=>.inr (.inr ⟨_,_,_,ho,rfl⟩),fun h=>.mref h ho⟩
  ·cases e
 ·split at e
  ·rename_i cs ho
   split at e
   ·rename_i hf
    simp only [Option.some.injEq,Prod.mk.injEq] at e
    obtain ⟨rfl,rfl,rfl⟩:=e
    refine ⟨fun emb lent=>.inr (.inl ⟨cs,cs,ho,rfl,Yg8.of_get rfl fun i a b ha hb => ?_⟩),fun h=>.ptr h ho⟩
    rw [ha] at hb; cases hb
    have:=List.all_eq_true.1 hf a (List.mem_of_getElem? ha)
    cases a <;> first | exact .val | exact .top | simp [AC.flat] at this
   ·cases e
  ·cases e
 ·cases e
theorem Ylr {s:St}:∀ {cs cs':List AC} {emb emb':List (Option Nat)} {obs:List Ob} {l:List Nat},passCells s emb cs=some (emb',obs,cs',l) ->
  ∃ ex:List Nat,emb'=emb++ex.map some/\obs.length=ex.length/\(∀ (j id:Nat),ex[j]? = some id->∃ o,obs[j]? = some o/\∀ emb lent,Ys7 s emb lent id o) /\
   (∀ id∈ex,some id ∉ emb)/\(∀ (j j' id:Nat),ex[j]? = some id->ex[j']? = some id->j=j')/\Yg8 (PAC s emb' l) cs cs'
 | [],cs',emb,emb',obs,l,e=>by
  simp only [passCells,Option.some.injEq,Prod.mk.injEq] at e
  obtain ⟨rfl,rfl,rfl,rfl⟩:=e
  exact ⟨[],by simp,rfl,by simp,by simp,by simp,trivial⟩
 | c :: cs,cs',emb,emb',obs,l,e=>by
  simp only [passCells] at e
  split at e
  ·rename_i k o f hone
   split at e
   ·cases e
   ·rename_i hnin
    split at e
    ·rename_i emb1 obs1 cs1 l1 hr
     simp only [Option.some.injEq,Prod.mk.injEq] at e
     obtain ⟨rfl,rfl,rfl,rfl⟩:=e
     obtain ⟨ex,i1,i2,i3,i4,i5,i6⟩:=Ylr hr
     refine ⟨k :: ex,by rw [i1]; simp,by simp [i2],?_,?_,?_,(Yyq hone).2 ?_,i6⟩
     ·intro j id hj
      cases j with
      | zero=>simp at hj; subst hj; exact ⟨_,rfl,(Yyq hone).1⟩
      | succ j=>simp at hj; obtain ⟨a,b,c⟩:=i3 j id hj; exact ⟨a,by simpa using b,c⟩
     ·intro id hid
      rcases List.mem_cons.1 hid with rfl | hid
      ·simpa using hnin
      ·have:=i4 id hid
       simp at this
       simpa using this.1
     ·intro j j' id hj hj'
      have hk:∀ j,ex[j]? ≠ some k:=fun j hj=>by
       have:=i4 k (List.mem_of_getElem? hj)
       simp at this
      cases j with
      | zero=>cases j' with
       | zero=>rfl
       | succ j'=>simp at hj hj'; subst hj; exact (hk j' hj').elim
      | succ j=>cases j' with
       | zero=>simp at hj hj'; subst hj'; exact (hk j hj).elim
       | succ j'=>simp at hj hj'; rw [i5 j j' id hj hj']
     ·rw [i1,List.append_assoc,List.getElem?_append_right (Nat.le_refl _)]
      simp
    ·cases e
  ·split at e
   ·split at e
    ·rename_i emb1 obs1 cs1 l1 hr
     simp only [Option.some.injEq,Prod.mk.injEq] at e
     obtain ⟨rfl,rfl,rfl,rfl⟩:=e
     obtain ⟨ex,i1,i2,i3,i4,i5,i6⟩:=Ylr hr
     exact ⟨ex,i1,i2,i3,i4,i5,.val,i6⟩
    ·cases e
   ·split at e
    ·rename_i hl
     split at e
     ·rename_i emb1 obs1 cs1 l1 hr
      simp only [Option.some.injEq,Prod.mk.injEq] at e
      obtain ⟨rfl,rfl,rfl,rfl⟩:=e
      obtain ⟨ex,i1,i2,i3,i4,i5,i6⟩:=Ylr hr
      exact ⟨ex,i1,i2,i3,i4,i5,.bor (Ymu hl) (by simp),i6.imp fun a b h=>h.mono (fun _ _ h=>h) fun i hi=>List.mem_cons_of_mem _ hi⟩
     ·cases e
    ·cases e
   ·split at e
    ·rename_i emb1 obs1 cs1 l1 hr
     simp only [Option.some.injEq,Prod.mk.injEq] at e
     obtain ⟨rfl,rfl,rfl,rfl⟩:=e
     obtain ⟨ex,i1,i2,i3,i4,i5,i6⟩:=Ylr hr
     exact ⟨ex,i1,i2,i3,i4,i5,.top,i6⟩
    ·cases e
   ·cases e
theorem Yph {s:St}:∀ {ms:List (Option (Bool × Nat))} {cs cs':List AC} {emb emb':List (Option Nat)} {obs:List Ob} {l:List Nat},passAgg s emb ms cs=some (emb',obs,cs',l) ->
  ∃ ex:List (Option Nat),emb'=emb++ex/\obs.length=ex.length/\(∀ (j id:Nat),ex[j]? = some (some id)->∃ own sz es,s.obj id=.arr own sz es/\obs[j]? = some (.arr own sz es)) /\
   (∀ (j:Nat),ex[j]? = some none->∃ own sz,obs[j]? = some (.arr own sz [])) /\
   (∀ id,some id∈ex->some id ∉ emb)/\(∀ (j j' id:Nat),ex[j]? = some (some id)->ex[j']? = some (some id)->j=j')/\Yg8 (PAC s emb' l) cs cs'
 | [],[],cs',emb,emb',obs,l,e=>by
  simp only [passAgg,Option.some.injEq,Prod.mk.injEq] at e
  obtain ⟨rfl,rfl,rfl,rfl⟩:=e
  exact ⟨[],by simp,rfl,by simp,by simp,by simp,by simp,trivial⟩
 | [],c :: cs,cs',emb,emb',obs,l,e=>by simp [passAgg] at e
 | m :: ms,[],cs',emb,emb',obs,l,e=>by simp [passAgg] at e
 | m :: ms,c :: cs,cs',emb,emb',obs,l,e=>by
  simp only [passAgg] at e
  split at e
  ·split at e
   ·rename_i c1 l1 hl
    split at e
    ·rename_i emb1 obs1 cs1 l2 hr
     simp only [Option.some.injEq,Prod.mk.injEq] at e
     obtain ⟨rfl,rfl,rfl,rfl⟩:=e
     obtain ⟨ex,i1,i2,i3,i4,i5,i6,i7⟩:=Yph hr
     exact ⟨ex,i1,i2,i3,i4,i5,i6,(Y12i hl).mono (fun _ _ h=>h) fun i hi=>List.mem_append_left _ hi,
      i7.imp fun a b h=>h.mono (fun _ _ h=>h) fun i hi=>List.mem_append_right _ hi⟩
    ·cases e
   ·cases e
  ·rename_i o sz
   split at e
   ·rename_i k
    split at e
    ·rename_i o' sz' es ho
     split at e
     ·rename_i hc
      obtain ⟨rfl,rfl,hnin⟩:=hc
      split at e
      ·rename_i emb1 obs1 cs1 l1 hr
       simp only [Option.some.injEq,Prod.mk.injEq] at e
       obtain ⟨rfl,rfl,rfl,rfl⟩:=e
       obtain ⟨ex,i1,i2,i3,i4,i5,i6,i7⟩:=Yph hr
       refine ⟨some k :: ex,by rw [i1]; simp,by simp [i2],?_,?_,?_,?_,?_,i7⟩
       ·intro j id hj
        cases j with
        | zero=>simp at hj; subst hj; exact ⟨_,_,_,ho,rfl⟩
        | succ j=>simp at hj; obtain ⟨a,b,c,d,e⟩:=i3 j id hj; exact ⟨a,b,c,d,by simpa using e⟩
       ·intro j hj
        cases j with
        | zero=>simp at hj
        | succ j=>simp at hj; simpa using i4 j hj
       ·intro id hid
        rcases List.mem_cons.1 hid with h | hid
        ·cases h; simpa using hnin
        ·have:=i5 id hid
         simp at this
         exact this.1
       ·intro j j' id hj hj'
        have hk:∀ j,ex[j]? ≠ some (some k):=fun j hj=>by
         have:=i5 k (List.mem_of_getElem? hj)
         simp at this
        cases j with
        | zero=>cases j' with
         | zero=>rfl
         | succ j'=>simp at hj hj'; subst hj; exact (hk j' hj').elim
        | succ j=>cases j' with
         | zero=>simp at hj hj'; subst hj'; exact (hk j hj).elim
         | succ j'=>simp at hj hj'; rw [i6 j j' id hj hj']
       ·refine .ref ?_ ⟨_,_,_,ho⟩
        rw [i1,List.append_assoc,List.getElem?_append_right (Nat.le_refl _)]
        simp
      ·cases e
     ·cases e
    ·cases e
   ·split at e
    ·rename_i emb1 obs1 cs1 l1 hr
     simp only [Option.some.injEq,Prod.mk.injEq] at e
     obtain ⟨rfl,rfl,rfl,rfl⟩:=e
     obtain ⟨ex,i1,i2,i3,i4,i5,i6,i7⟩:=Yph hr
     refine ⟨none :: ex,by rw [i1]; simp,by simp [i2],?_,?_,?_,?_,?_,i7⟩
     ·intro j id hj
      cases j with
      | zero=>simp at hj
      | succ j=>simp at hj; obtain ⟨a,b,c,d,e⟩:=i3 j id hj; exact ⟨a,b,c,d,by simpa using e⟩
     ·intro j hj
      cases j with
      | zero=>exact ⟨o,sz,rfl⟩
      | succ j=>simp at hj; simpa using i4 j hj
     ·intro id hid
      rcases List.mem_cons.1 hid with h | hid
      ·cases h
      ·have:=i5 id hid
       simp at this
       exact this
     ·intro j j' id hj hj'
      cases j with
      | zero=>simp at hj
      | succ j=>cases j' with
       | zero=>simp at hj'
       | succ j'=>simp at hj hj'; rw [i6 j j' id hj hj']
     ·refine .own ?_
      rw [i1,List.append_assoc,List.getElem?_append_right (Nat.le_refl _)]
      simp
    ·cases e
   ·cases e
theorem Yr6 {α:Type} {l l':List α} {j:Nat} {x:α} (h:(l++l')[j]? = some x):(j<l.length/\l[j]? = some x) ∨ (l.length<=j/\l'[j - l.length]? = some x):=by
 by_cases hlt:j<l.length
 ·rw [List.getElem?_append_left hlt] at h; exact .inl ⟨hlt,h⟩
 ·rw [List.getElem?_append_right (Nat.le_of_not_lt hlt)] at h; exact .inr ⟨Nat.le_of_not_lt hlt,h⟩
theorem PassOK.app {s:St} {p:Pass} (h:PassOK s p) {xs:List (Option Nat)} {os:List Ob} {args:List SV} {l:List Nat} (hl:xs.length=os.length)
  (h1:∀ (j id:Nat),xs[j]? = some (some id)->∃ o,os[j]? = some o/\Ys7 s (p.emb++xs) (p.lent++l) id o/\some id ∉ p.emb)
  (h2:∀ (j:Nat),xs[j]? = some none->∃ own sz,os[j]? = some (.arr own sz []))
  (h3:∀ (j j' id:Nat),xs[j]? = some (some id)->xs[j']? = some (some id)->j=j') :
  PassOK s { emb:=p.emb++xs,objs:=p.objs++os,args:=args,lent:=p.lent++l } where
 len:=by simp [h.len,hl]
 som j id hj:=by
  rcases Yr6 hj with ⟨_,hj⟩ | ⟨hge,hj⟩
  ·obtain ⟨o',k1,k2⟩:=h.som j id hj
   exact ⟨o',Yk0 k1,k2.mono (fun _ _ h=>Yk0 h) fun _ h=>List.mem_append_left _ h⟩
  ·obtain ⟨o',k1,k2,_⟩:=h1 _ id hj
   refine ⟨o',?_,k2⟩
   show (p.objs++os)[j]? = _
   rw [List.getElem?_append_right (by rw [<- h.len]; exact hge),<- h.len]; exact k1
 non j hj:=by
  rcases Yr6 hj with ⟨_,hj⟩ | ⟨hge,hj⟩
  ·obtain ⟨own,sz,k1⟩:=h.non j hj
   exact ⟨own,sz,Yk0 k1⟩
  ·obtain ⟨own,sz,k1⟩:=h2 _ hj
   refine ⟨own,sz,?_⟩
   show (p.objs++os)[j]? = _
   rw [List.getElem?_append_right (by rw [<- h.len]; exact hge),<- h.len]; exact k1
 inj j j' id hj hj':=by
  rcases Yr6 hj with ⟨a1,a2⟩ | ⟨a1,a2⟩ <;> rcases Yr6 hj' with ⟨b1,b2⟩ | ⟨b1,b2⟩
  ·exact h.inj j j' id a2 b2
  ·obtain ⟨_,_,_,hn⟩:=h1 _ id b2
   exact (hn (List.mem_of_getElem? a2)).elim
  ·obtain ⟨_,_,_,hn⟩:=h1 _ id a2
   exact (hn (List.mem_of_getElem? b2)).elim
  ·have:=h3 _ _ id a2 b2
   omega
structure Step (s:St) (p p':Pass) (x:SV):Prop where
 ok:PassOK s p'
 emb:∀ (j:Nat) y,p.emb[j]? = some y->p'.emb[j]? = some y
 lent:∀ i,i∈p.lent->i∈p'.lent
 arg:∃ y,p'.args=p.args++[y]/\PSV s p'.emb p'.lent x y
theorem Pass.add_ok {s:St} {p p':Pass} (h:PassOK s p) {m:Mode} {x:SV} (e:p.add s m x=some p'):Step s p p' x:=by
 have rdcase:∀ {l:List Nat} {y:SV},PSV s p.emb l x y->Step s p { p with args:=p.args++[y],lent:=p.lent++l } x:=by
  intro l y hy
  have:=h.app (xs:=[]) (os:=[]) (args:=p.args++[y]) (l:=l) rfl (by simp) (by simp) (by simp)
  simp only [List.append_nil] at this
  exact ⟨this,fun _ _ h=>h,fun i hi=>List.mem_append_left _ hi,y,rfl,hy.mono (fun _ _ h=>h) fun i hi=>List.mem_append_right _ hi⟩
 unfold Pass.add at e
 split at e
 ·split at e
  ·rename_i c
   split at e
   ·rename_i c' l hl
    simp only [Option.some.injEq] at e; subst e
    obtain ⟨h1,h2⟩:=Ys8 (emb:=p.emb) hl
    exact rdcase (y:=.one c') ⟨h2 c' (by simp),h1.1⟩
   ·cases e
  ·rename_i cs
   split at e
   ·rename_i cs' l hl
    simp only [Option.some.injEq] at e; subst e
    exact rdcase (y:=.agg cs') (Ys8 (emb:=p.emb) hl).1
   ·cases e
 ·rename_i o sz
  split at e
  ·rename_i id
   split at e
   ·rename_i o' sz' es hob
    split at e
    ·rename_i hc
     obtain ⟨rfl,rfl,hn⟩:=hc
     simp only [Option.some.injEq] at e; subst e
     have:=h.app (xs:=[some id]) (os:=[.arr o' sz' es]) (args:=p.args++[.one (.ref p.emb.length)]) (l:=[]) rfl ?_ ?_ ?_
     ·simp only [List.append_nil] at this
      refine ⟨this,fun _ _ h=>Yk0 h,fun i hi=>hi,_,rfl,by simp,.ref ?_ ⟨_,_,_,hob⟩⟩
      show (p.emb++[some id])[p.emb.length]? = _
      simp
     ·intro j i hj
      cases j with
      | zero=>simp at hj; subst hj; exact ⟨_,rfl,.inl ⟨_,_,_,hob,rfl⟩,by simpa using hn⟩
      | succ j=>simp at hj
     ·intro j hj; cases j <;> simp at hj
     ·intro j j' i hj hj'
      cases j <;> cases j' <;> simp at hj hj' ⊢
    ·cases e
   ·cases e
  ·simp only [Option.some.injEq] at e; subst e
   have:=h.app (xs:=[none]) (os:=[.arr o sz []]) (args:=p.args++[.one (.ref p.emb.length)]) (l:=[]) rfl ?_ ?_ ?_
   ·simp only [List.append_nil] at this
    refine ⟨this,fun _ _ h=>Yk0 h,fun i hi=>hi,_,rfl,by simp,.own ?_⟩
    show (p.emb++[none])[p.emb.length]? = _
    simp
   ·intro j i hj; cases j <;> simp at hj
   ·intro j hj
    cases j with
    | zero=>exact ⟨o,sz,rfl⟩
    | succ j=>simp at hj
   ·intro j j' i hj hj'; cases j <;> simp at hj
  ·cases e
 ·split at e
  ·rename_i id
   split at e
   ·rename_i cs hob
    split at e
    ·cases e
    ·rename_i hn
     split at e
     ·rename_i emb' obs cs' l hp
      simp only [Option.some.injEq] at e; subst e
      obtain ⟨ex,i1,i2,i3,i4,i5,i6⟩:=Ylr hp
      have he:emb'=p.emb++(some id :: ex.map some):=by rw [i1]; simp
      have:=h.app (xs:=some id :: ex.map some) (os:=.box cs' :: obs) (args:=p.args++[.one (.ptr p.emb.length 0)]) (l:=l) (by simp [i2]) ?_ ?_ ?_
      ·rw [<- he] at this
       refine ⟨this,fun _ _ h=>by show emb'[_]? = _; rw [he]; exact Yk0 h,fun i hi=>List.mem_append_left _ hi,_,rfl,by simp,.ptr ?_ hob⟩
       show emb'[p.emb.length]? = _
       rw [he]; simp
      ·intro j i hj
       cases j with
       | zero=>
        simp at hj; subst hj
        exact ⟨_,rfl,.inr (.inl ⟨cs,cs',hob,rfl,by rw [<- he]; exact i6.imp fun a b h=>h.mono (fun _ _ h=>h) fun i hi=>List.mem_append_right _ hi⟩),by simpa using hn⟩
       | succ j=>
        simp only [List.getElem?_cons_succ,List.getElem?_map,Option.map_eq_some_iff,Option.some.injEq] at hj
        obtain ⟨k,hk,rfl⟩:=hj
        obtain ⟨o,k1,k2⟩:=i3 j k hk
        refine ⟨_,k1,k2 _ _,?_⟩
        have:=i4 k (List.mem_of_getElem? hk)
        simp at this
        exact this.1
      ·intro j hj
       cases j with
       | zero=>simp at hj
       | succ j=>simp at hj
      ·intro j j' i hj hj'
       have hne:∀ j:Nat,(ex.map some)[j]? ≠ some (some id):=fun j hj=>by
        rw [List.getElem?_map,Option.map_eq_some_iff] at hj
        obtain ⟨k,hk,hkk⟩:=hj
        simp only [Option.some.injEq] at hkk
        subst hkk
        have:=i4 k (List.mem_of_getElem? hk)
        simp at this
       cases j with
       | zero=>cases j' with
        | zero=>rfl
        | succ j'=>simp only [List.getElem?_cons_zero,Option.some.injEq,List.getElem?_cons_succ] at hj hj'; subst hj; exact (hne j' hj').elim
       | succ j=>cases j' with
        | zero=>simp only [List.getElem?_cons_zero,Option.some.injEq,List.getElem?_cons_succ] at hj hj'; subst hj'; exact (hne j hj).elim
        | succ j'=>
         simp only [List.getElem?_cons_succ,List.getElem?_map,Option.map_eq_some_iff,Option.some.injEq] at hj hj'
         obtain ⟨k,hk,rfl⟩:=hj
         obtain ⟨k',hk',rfl⟩:=hj'
         rw [i5 j j' _ hk hk']
     ·cases e
   ·cases e
  ·cases e
 ·split at e
  ·rename_i id
   split at e
   ·rename_i nn kd f hob
    split at e
    ·rename_i hn
     simp only [Option.some.injEq] at e; subst e
     have:=h.app (xs:=[some id]) (os:=[.map nn kd f]) (args:=p.args++[.one (.mref p.emb.length)]) (l:=[]) rfl ?_ ?_ ?_
     ·simp only [List.append_nil] at this
      refine ⟨this,fun _ _ h=>Yk0 h,fun i hi=>hi,_,rfl,by simp,.mref ?_ hob⟩
      show (p.emb++[some id])[p.emb.length]? = _
      simp
     ·intro j i hj
      cases j with
      | zero=>simp at hj; subst hj; exact ⟨_,rfl,.inr (.inr ⟨_,_,_,hob,rfl⟩),by simpa using hn⟩
      | succ j=>simp at hj
     ·intro j hj; cases j <;> simp at hj
     ·intro j j' i hj hj'
      cases j <;> cases j' <;> simp at hj hj' ⊢
    ·cases e
   ·cases e
  ·cases e
 ·split at e
  ·split at e
   ·rename_i emb' obs cs' l hp
    simp only [Option.some.injEq] at e; subst e
    obtain ⟨ex,i1,i2,i3,i4,i5,i6,i7⟩:=Yph hp
    have:=h.app (xs:=ex) (os:=obs) (args:=p.args++[.agg cs']) (l:=l) i2.symm ?_ i4 i6
    ·rw [<- i1] at this
     exact ⟨this,fun _ _ h=>by show emb'[_]? = _; rw [i1]; exact Yk0 h,fun i hi=>List.mem_append_left _ hi,_,rfl,
      i7.imp fun a b h=>h.mono (fun _ _ h=>h) fun i hi=>List.mem_append_right _ hi⟩
    ·intro j i hj
     obtain ⟨own,sz,es,k1,k2⟩:=i3 j i hj
     exact ⟨_,k2,.inl ⟨_,_,_,k1,rfl⟩,i5 i (List.mem_of_getElem? hj)⟩
   ·cases e
  ·cases e
theorem PassOK.nil (s:St):PassOK s {}:=⟨rfl,by simp,by simp,by simp⟩
theorem Yym {s:St}:∀ {ms:List Mode} {xs:List AV} {p p':Pass} {ys:List SV},PassOK s p->passAll s p ms xs=some p'->Yg8 (PSV s p.emb p.lent) ys p.args ->
  PassOK s p'/\∃ zs:List SV,xs=zs.map .sv/\Yg8 (PSV s p'.emb p'.lent) (ys++zs) p'.args
 | [],[],p,p',ys,h,e,ha=>by
  simp only [passAll,Option.some.injEq] at e; subst e
  exact ⟨h,[],rfl,by simpa using ha⟩
 | m :: ms,.sv x :: xs,p,p',ys,h,e,ha=>by
  simp only [passAll] at e
  split at e
  ·rename_i p1 h1
   have st:=Pass.add_ok h h1
   obtain ⟨y,hy1,hy2⟩:=st.arg
   obtain ⟨k1,zs,k2,k3⟩:=Yym (ys:=ys++[x]) st.ok e (by
    rw [hy1]
    exact (ha.imp fun a b hab=>hab.mono st.emb st.lent).append ⟨hy2,trivial⟩)
   exact ⟨k1,x :: zs,by rw [k2]; rfl,by simpa using k3⟩
  ·cases e
 | m :: ms,.tup l :: xs,p,p',ys,h,e,ha=>by simp [passAll] at e
 | [],x :: xs,p,p',ys,h,e,ha=>by simp [passAll] at e
 | m :: ms,[],p,p',ys,h,e,ha=>by simp [passAll] at e
def Yoe (emb:List (Option Nat)) (j:Nat):Option Nat:=match emb[j]? with | some (some id)=>some id | _=>none
theorem Yj8 {emb:List (Option Nat)} {j id:Nat}:Yoe emb j=some id ↔ emb[j]? = some (some id):=by
 unfold Yoe; split
 ·rename_i h; rw [h]; simp
 ·rename_i h; constructor
  ·intro e; cases e
  ·intro e; exact (h id e).elim
def Yid (ι:Interp) (emb:List (Option Nat)) (R:Nat->Prop):Interp where
 G:=R
 blk j:=match Yoe emb j with | some id=>ι.blk id | none=>0
 sl j:=match Yoe emb j with | some id=>ι.sl id | none=>.slice none 0 0
 fp j b:=match Yoe emb j with | some id=>ι.fp id b | none=>False
section
variable {P:Program} {E:Ent P} {s:St} {ι:Interp} {a:Act} {w:World} {p:Pass} {R:Nat->Prop}
theorem Ynb {j id:Nat} {emb:List (Option Nat)} (h:emb[j]? = some (some id)):(Yid ι emb R).blk j=ι.blk id/\(Yid ι emb R).sl j=ι.sl id/\(Yid ι emb R).fp j=ι.fp id:=by
 have:=Yj8.2 h
 refine ⟨by simp [Yid,this],by simp [Yid,this],?_⟩
 funext b; simp [Yid,this]
theorem Ysx {j:Nat} {emb:List (Option Nat)} (h:Yoe emb j=none):(Yid ι emb R).sl j=.slice none 0 0/\∀ b,¬ (Yid ι emb R).fp j b:=by
 exact ⟨by simp [Yid,h],fun b=>by simp [Yid,h]⟩
theorem Yok {j b:Nat} {emb:List (Option Nat)} (h:(Yid ι emb R).fp j b):∃ id,emb[j]? = some (some id)/\ι.fp id b:=by
 cases e:Yoe emb j with
 | none=>exact ((Ysx (ι:=ι) (R:=R) e).2 b h).elim
 | some id=>exact ⟨id,Yj8.1 e,by simpa [Yid,e] using h⟩
theorem KV.on {n:String} {Q:Array Value->Prop} (h:Rel E s ι a w) (k:KV P E.w E.ι n Q) {ι':Interp} (hf:∀ i b,ι'.fp i b->∃ j,ι.fp j b):KV P w ι' n Q:=by
 intro g hg
 obtain ⟨h1,h2,cs,h3,h4⟩:=k g hg
 have hm:¬ E.M g:=fun ⟨i,hi⟩=>h2 i hi
 refine ⟨Nat.lt_of_lt_of_le h1 h.size,fun i hi => ?_,cs,?_,h4⟩
 ·obtain ⟨j,hj⟩:=hf i g hi
  rcases h.own j g hj with e | e
  ·exact hm e
  ·omega
 ·rw [<- h3]; unfold World.var?; rw [hg]; simp only [Option.bind_some,h.frame g h1 hm]
theorem Rel.known (h:Rel E s ι a w) {emb:List (Option Nat)}:Kn P w (Yid ι emb R):=by
 have hf:∀ i b,(Yid ι emb R).fp i b->∃ j,ι.fp j b:=fun i b hi=>by obtain ⟨id,_,f⟩:=Yok hi; exact ⟨id,f⟩
 exact ⟨KV.on h E.kn.1 hf,fun e=>KV.on h (E.kn.2 e) hf⟩
theorem Ys7.notFree {emb:List (Option Nat)} {lent:List Nat} {id:Nat} {o:Ob} (h:Ys7 s emb lent id o):o≠.free:=by
 rcases h with ⟨_,_,_,_,rfl⟩ | ⟨_,_,_,rfl,_⟩ | ⟨_,_,_,_,rfl⟩ <;> simp
theorem Yl0 {objs:List Ob} {j:Nat} {o:Ob} (h:objs[j]? = some o):Yhq objs j=o:=by simp [Yhq,h]
theorem Y10u (h:Rel E s ι a w) (hp:PassOK s p) (hGR:∀ b,ι.G b->R b) (hlR:∀ i∈p.lent,∀ b,ι.fp i b->R b) {c c':AC} (hc:PAC s p.emb p.lent c c') {v:Value} (r:Ygx w ι s.obj c v) :
  Ygx w (Yid ι p.emb R) (Yhq p.objs) c' v:=by
 have hrd:∀ i∈p.lent,∀ b,rdSet ι (some i) b->R b:=fun i hi b hb=>hb.elim (hGR b) (hlR i hi b)
 cases hc with
 | top=>trivial
 | val=>exact Rd.mono (fun _ _=>rfl) hGR r
 | nil=>obtain ⟨rfl,_⟩:=Rd.lit_inv (show Rd w ι.G v _ from r); exact Rd.nil
 | bor hl hi=>exact Rd.mono (fun _ _=>rfl) (hrd _ hi) (r.2 hl)
 | lend ho hi=>
  rename_i id own sz es
  have hob:=h.objs id
  rw [ho] at hob
  rw [r.2 _ _ _ ho]
  exact Rd.mono (fun _ _=>rfl) (hrd _ hi) (Ygs.rd hob)
 | ref he hl=>
  rename_i id j
  obtain ⟨own,sz,es,ho⟩:=hl
  obtain ⟨o,h1,h2⟩:=hp.som j id he
  refine ⟨?_,fun _ _ _ _ => ?_⟩
  ·unfold notFree; rw [Yl0 h1]
   have:=h2.notFree
   cases o <;> simp_all
  ·rw [(Ynb he).2.1]; exact r.2 _ _ _ ho
 | own he=>
  rename_i j
  obtain ⟨rfl,_⟩:=Rd.lit_inv (show Rd w ι.G v _ from r)
  obtain ⟨own,sz,h1⟩:=hp.non j he
  have hem:Yoe p.emb j=none:=by unfold Yoe; rw [he]
  refine ⟨?_,fun _ _ _ _ => ?_⟩
  ·unfold notFree; rw [Yl0 h1]; trivial
  ·rw [(Ysx hem).1]
 | ptr he hb=>
  rename_i id j cs
  obtain ⟨o,h1,h2⟩:=hp.som j id he
  refine ⟨?_,fun _ _ => ?_⟩
  ·unfold notFree; rw [Yl0 h1]
   have:=h2.notFree
   cases o <;> simp_all
  ·rw [(Ynb he).1]; exact r.2 _ hb
 | mref he hb=>
  rename_i id j nn k f
  obtain ⟨o,h1,h2⟩:=hp.som j id he
  refine ⟨?_,fun nn' k' f' e' => ?_⟩
  ·unfold notFree; rw [Yl0 h1]
   have:=h2.notFree
   cases o <;> simp_all
  ·rw [(Ynb he).1]
   rw [Yl0 h1] at e'
   subst e'
   rcases h2 with ⟨_,_,_,_,hh⟩ | ⟨_,_,_,hh,_⟩ | ⟨_,_,_,hh,hk⟩
   ·cases hh
   ·cases hh
   ·cases hk; exact r.2 _ _ _ hh
theorem Y1jk (h:Rel E s ι a w) (hp:PassOK s p) (hGR:∀ b,ι.G b->R b) (hlR:∀ i∈p.lent,∀ b,ι.fp i b->R b) {x y:SV} (hc:PSV s p.emb p.lent x y) {v:Value} (r:Yh5 w ι s.obj x v) :
  Yh5 w (Yid ι p.emb R) (Yhq p.objs) y v:=by
 cases x with
 | one c=>cases y with
  | one c'=>
   refine ⟨Y10u h hp hGR hlR hc.2 r.1,fun _=>r.2 fun e => ?_⟩
   subst e
   cases hc.2
   exact hc.1 rfl
  | agg=>exact hc.elim
 | agg cs=>cases y with
  | one=>exact hc.elim
  | agg cs'=>
   obtain ⟨arr,e,ha⟩:=r
   refine ⟨arr,e,Yg8.of_get ?_ fun k c' u hc' hu => ?_⟩
   ·rw [<- Yg8.length hc,ha.length]
   ·have hl:k<cs.length:=by rw [Yg8.length hc]; exact (List.getElem?_eq_some_iff.1 hc').1
    have:=ha.get (List.getElem?_eq_getElem hl) hu
    exact ⟨Y10u h hp hGR hlR (Yg8.get hc (List.getElem?_eq_getElem hl) hc') this.1,this.2⟩
theorem Ywj (h:Rel E s ι a w) (hp:PassOK s p) (hGR:∀ b,ι.G b->R b) (hlR:∀ i∈p.lent,∀ b,ι.fp i b->R b) (hRg:∀ b,R b->ι.G b ∨ ∃ id,some id ∉ p.emb/\ι.fp id b)
  {xs:List SV} {vals:Array Value} (ha:Yg8 (PSV s p.emb p.lent) xs p.args) (hv:Yg8 (Yh5 w ι s.obj) xs vals.toList):PreRel w (Yid ι p.emb R) p.objs p.args vals where
 obj j:=by
  cases e:Yoe p.emb j with
  | some id=>
   have he:=Yj8.1 e
   obtain ⟨o,h1,h2⟩:=hp.som j id he
   obtain ⟨c1,c2,c3⟩:=Ynb (ι:=ι) (R:=R) he
   rw [Yl0 h1]
   have hob:=h.objs id
   rcases h2 with ⟨own,sz,es,k1,rfl⟩ | ⟨cs,cs',k1,rfl,k2⟩ | ⟨nn,kd,f,k1,rfl⟩
   ·rw [k1] at hob
    show Ygs w (Yhm w R own) sz ((Yid ι p.emb R).fp j) ((Yid ι p.emb R).sl j) es
    rw [c2,c3]
    exact Ygs.mono hob (fun b hb=>⟨hGR b hb,rfl⟩) fun _ _=>rfl
   ·rw [k1] at hob
    obtain ⟨r1,arr,ty,r2,r3⟩:=hob
    refine ⟨by rw [c1,c3]; exact r1,arr,ty,by rw [c1]; exact r2,Yg8.of_get ?_ fun k c' u hc' hu => ?_⟩
    ·rw [<- k2.length,r3.length]
    ·have hl:k<cs.length:=by rw [k2.length]; exact (List.getElem?_eq_some_iff.1 hc').1
     have:=r3.get (List.getElem?_eq_getElem hl) hu
     exact ⟨Y10u h hp hGR hlR (k2.get (List.getElem?_eq_getElem hl) hc') this.1,this.2⟩
   ·rw [k1] at hob
    cases nn with
    | true=>exact ⟨fun b hb=>hob.1 b (by rw [c3] at hb; exact hb),hob.2⟩
    | false=>
     show Yhu w kd ((Yid ι p.emb R).fp j) ((Yid ι p.emb R).blk j) f
     rw [c1,c3]
     exact hob
  | none=>
   obtain ⟨c1,c2⟩:=Ysx (ι:=ι) (R:=R) e
   cases hj:p.emb[j]? with
   | none=>
    have:p.objs[j]? = none:=by rw [List.getElem?_eq_none_iff] at hj ⊢; rw [<- hp.len]; exact hj
    have:Yhq p.objs j=.free:=by simp [Yhq,this]
    rw [this]; exact c2
   | some y=>
    cases y with
    | some id=>rw [Yj8.2 hj] at e; cases e
    | none=>
     obtain ⟨own,sz,h1⟩:=hp.non j hj
     rw [Yl0 h1]
     show Ygs w (Yhm w R own) sz ((Yid ι p.emb R).fp j) ((Yid ι p.emb R).sl j) []
     rw [c1]
     exact ⟨0,[],fun _ _=>False,Ysz w 0 sz,by simp,by simp [Value.ownBlock],by simp,by simp,by simp,by simp,fun _=>⟨none,rfl⟩⟩
 disj i j b hij hi hj:=by
  obtain ⟨id1,e1,f1⟩:=Yok hi
  obtain ⟨id2,e2,f2⟩:=Yok hj
  exact h.disj id1 id2 b (fun e=>hij (hp.inj i j id1 e1 (e ▸ e2))) f1 f2
 gfp i b hi hg:=by
  obtain ⟨id1,e1,f1⟩:=Yok hi
  rcases hRg b hg with hg | ⟨id2,hn,f2⟩
  ·exact h.gfp id1 b f1 hg
  ·exact h.disj id1 id2 b (fun e=>hn (e ▸ List.mem_of_getElem? e1)) f1 f2
 lt i b hi:=by
  obtain ⟨id1,e1,f1⟩:=Yok hi
  exact h.lt id1 b f1
 glt b hg:=by
  rcases hRg b hg with hg | ⟨id2,hn,f2⟩
  ·exact h.glt b hg
  ·exact h.lt id2 b f2
 arg:=by
  refine Yg8.of_get ?_ fun k y u hy hu => ?_
  ·rw [<- ha.length,hv.length]
  ·have hl:k<xs.length:=by rw [ha.length]; exact (List.getElem?_eq_some_iff.1 hy).1
   exact Y1jk h hp hGR hlR (ha.get (List.getElem?_eq_getElem hl) hy) (hv.get (List.getElem?_eq_getElem hl) hu)
def Ylp (emb:List (Option Nat)) (n j:Nat):Nat:=match Yoe emb j with | some id=>id | none=>n+j
def Ymf (emb:List (Option Nat)) (n:Nat) (objs1:List Ob):List (Nat × Ob):=
 (List.range objs1.length).map fun j=>(Ylp emb n j,(Yhq objs1 j).ren (Ylp emb n))
theorem Yum (o:Nat->Ob) (g:Nat->Nat):∀ (js:List Nat) (s:St),(∀ j∈js,g j<s.objs.length)->(∀ j∈js,∀ j'∈js,g j=g j'->j=j') ->
  (∀ i,(∀ j∈js,g j≠i)->(s.updObs (js.map fun j=>(g j,o j))).obj i=s.obj i)/\∀ j∈js,(s.updObs (js.map fun j=>(g j,o j))).obj (g j)=o j
 | [],s,_,_=>⟨fun _ _=>rfl,by simp⟩
 | j :: js,s,hlt,hinj=>by
  obtain ⟨h1,h2⟩:=Yum o g js (s.setOb (g j) (o j)) (fun k hk=>by rw [Yga]; exact hlt k (List.mem_cons_of_mem _ hk)) fun k hk k' hk'=>hinj k (List.mem_cons_of_mem _ hk) k' (List.mem_cons_of_mem _ hk')
  have hgj:=hlt j List.mem_cons_self
  simp only [List.map_cons,St.updObs]
  refine ⟨fun i hi => ?_,fun k hk => ?_⟩
  ·rw [h1 i fun k hk=>hi k (List.mem_cons_of_mem _ hk),Yg5 hgj,if_neg (Ne.symm (hi j List.mem_cons_self))]
  ·rcases List.mem_cons.1 hk with rfl | hk
   ·by_cases hin:∃ k'∈js,g k'=g k
    ·obtain ⟨k',hk',e⟩:=hin
     have:=hinj k' (List.mem_cons_of_mem _ hk') k List.mem_cons_self e
     subst this
     exact h2 k' hk'
    ·rw [h1 (g k) fun k' hk' e=>hin ⟨k',hk',e⟩,Yg5 hgj,if_pos rfl]
   ·exact h2 k hk
def Yl5 (emb:List (Option Nat)):List Nat:=emb.filterMap id
theorem Y11d {emb:List (Option Nat)} {i:Nat}:i∈Yl5 emb ↔ some i∈emb:=by simp [Yl5]
end
end Go.Proofs.YtclpofblehlojaaGreat.Ab
end
section
namespace Go.Proofs.YtclpofblehlojaaGreat.Ab
open Go
theorem Yhh (ids:List Nat) (s:St):(s.inval ids).objs.length=s.objs.length:=by
 cases ids <;> simp [St.inval]
theorem Yy9 (ids:List Nat) (s:St) (i:Nat):∃ o,(s.inval ids).obj i=o/\(match s.obj i with | .box cs=>∃ cs',o=.box cs' | x=>o=x):=by
 cases ids with
 | nil=>refine ⟨_,rfl,?_⟩; simp only [St.inval]; split <;> simp_all
 | cons a l=>refine ⟨_,rfl,?_⟩; rw [Ygl]; cases s.obj i <;> simp [Ygk]
section
variable {P:Program} {E:Ent P} {s:St} {ι:Interp} {a:Act} {w:World} {p:Pass} {R:Nat->Prop}
theorem Y1ah {w1 w2:World} {ι1 ι2:Interp} {K:Prop} {i:Nat} {o o':Ob} (h:Yho w1 w2 ι1 ι2 K i o o') (ho:o≠.free):o'≠.free:=by
 cases o <;> cases o' <;> simp_all [Yho]
theorem Y158 (h : Rel E s ι a w) (hp : PassOK s p) (hRg : ∀ b, R b -> ι.G b ∨ ∃ id, some id ∉ p.emb /\ ι.fp id b)
    {n : Nat} {objs1 : List Ob} (hroom : Ykh s n objs1.length) {res : AV} {w' : World} {v : Value} {ι1 : Interp} (hpost : PostRel w (Yid ι p.emb R) p.objs objs1 res w' v ι1)
    (hG : (p.lent = [] /\ R = ι.G) ∨ (objs1.all Ob.noG = true /\ res.acs.all AC.noG = true)) :
    ∃ ι', Rel E ((s.inval (Yl5 p.emb)).updObs (Ymf p.emb n objs1)) ι' a w' /\ Ygz w' ι' ((s.inval (Yl5 p.emb)).updObs (Ymf p.emb n objs1)).obj (res.ren (Ylp p.emb n)) v /\
      Ext (fun i => i ∉ Yl5 p.emb) w ι (s.inval (Yl5 p.emb)).obj w' ι' ((s.inval (Yl5 p.emb)).updObs (Ymf p.emb n objs1)).obj := by
  classical
  let ids := Yl5 p.emb
  let s1 := s.inval ids
  have h1 : Rel E s1 ι a w := h.inval ids
  let ren := Ylp p.emb n
  let L := objs1.length
  have hpne : ∀ j id, p.emb[j]? = some (some id) -> s.obj id ≠ .free /\ j < L := by
    intro j id he
    obtain ⟨o, k1, k2⟩ := hp.som j id he
    refine ⟨?_, ?_⟩
    · rcases k2 with ⟨_, _, _, k3, _⟩ | ⟨_, _, k3, _⟩ | ⟨_, _, _, k3, _⟩ <;> rw [k3] <;> simp
    · have := Y1ah (hpost.ext j) (by rw [Yl0 k1]; exact k2.notFree)
      rcases Nat.lt_or_ge j objs1.length with hlt | hge
      · exact hlt
      · exact (this (by simp [Yhq, List.getElem?_eq_none hge])).elim
  have hnew : ∀ j, j < L -> Yoe p.emb j = none -> s.obj (n + j) = .free /\ n + j < s.objs.length := fun j hj _ => hroom (n + j) (by omega) (by omega)
  have hrl : ∀ j, j < L -> ren j < s.objs.length := by
    intro j hj
    simp only [ren, Ylp]
    split
    · rename_i id e; exact Ygp rfl (hpne j id (Yj8.1 e)).1
    · rename_i e; exact (hnew j hj e).2
  have hinj : ∀ j, j < L -> ∀ j', j' < L -> ren j = ren j' -> j = j' := by
    intro j hj j' hj' e
    simp only [ren, Ylp] at e
    split at e <;> split at e
    · rename_i id e1 _ id' e2
      subst e
      exact hp.inj j j' id (Yj8.1 e1) (Yj8.1 e2)
    · rename_i id e1 _ e2
      have := (hpne j id (Yj8.1 e1)).1
      rw [e] at this
      exact (this (hnew j' hj' e2).1).elim
    · rename_i _ e1 _ id e2
      have := (hpne j' id (Yj8.1 e2)).1
      rw [<- e] at this
      exact (this (hnew j hj e1).1).elim
    · omega
  let s' := s1.updObs (Ymf p.emb n objs1)
  obtain ⟨u1, u2⟩ := Yum (fun j => (Yhq objs1 j).ren ren) ren (List.range L) s1 (fun j hj => by rw [Yhh]; exact hrl j (List.mem_range.1 hj))
    (fun j hj j' hj' => hinj j (List.mem_range.1 hj) j' (List.mem_range.1 hj'))
  have hs'o : ∀ j, j < L -> s'.obj (ren j) = (Yhq objs1 j).ren ren := fun j hj => u2 j (List.mem_range.2 hj)
  have hs'n : ∀ i, (∀ j, j < L -> ren j ≠ i) -> s'.obj i = s1.obj i := fun i hi => u1 i fun j hj => hi j (List.mem_range.1 hj)
  let inv : Nat -> Option Nat := fun i => if hx : ∃ j, j < L /\ ren j = i then some (Classical.choose hx) else none
  have hinv1 : ∀ j, j < L -> inv (ren j) = some j := by
    intro j hj
    have hx : ∃ j', j' < L /\ ren j' = ren j := ⟨j, hj, rfl⟩
    simp only [inv, dif_pos hx]
    have := Classical.choose_spec hx
    exact congrArg some (hinj _ this.1 j hj this.2)
  have hinv2 : ∀ i, inv i = none -> ∀ j, j < L -> ren j ≠ i := by
    intro i hi j hj e
    rw [<- e, hinv1 j hj] at hi
    cases hi
  have hinv3 : ∀ i j, inv i = some j -> j < L /\ ren j = i := by
    intro i j hi
    simp only [inv] at hi
    split at hi
    · rename_i hx
      simp only [Option.some.injEq] at hi
      rw [<- hi]; exact Classical.choose_spec hx
    · cases hi
  let G'' : Nat -> Prop := if p.lent = [] /\ R = ι.G then ι1.G else ι.G
  let ι' : Interp := { G := G'', blk := fun i => (match inv i with | some j => ι1.blk j | none => ι.blk i), sl := fun i => (match inv i with | some j => ι1.sl j | none => ι.sl i),
                       fp := fun i b => (match inv i with | some j => ι1.fp j b | none => ι.fp i b) }
  have hfp : ∀ i b, ι'.fp i b -> (∃ j, j < L /\ ren j = i /\ ι1.fp j b) ∨ (inv i = none /\ ι.fp i b) := by
    intro i b hb
    simp only [ι'] at hb
    split at hb
    · rename_i j e; exact .inl ⟨j, (hinv3 i j e).1, (hinv3 i j e).2, hb⟩
    · exact .inr ⟨‹_›, hb⟩
  have hpas : ∀ i, some i ∈ p.emb -> ∃ j, j < L /\ ren j = i /\ p.emb[j]? = some (some i) := by
    intro i hi
    obtain ⟨j, hj⟩ := List.getElem?_of_mem hi
    exact ⟨j, (hpne j i hj).2, by simp only [ren, Ylp, Yj8.2 hj], hj⟩
  have hnp : ∀ i, inv i = none -> some i ∉ p.emb := by
    intro i hi hm
    obtain ⟨j, hj, e, _⟩ := hpas i hm
    exact hinv2 i hi j hj e
  have hcfp : ∀ b, (∃ i, (Yid ι p.emb R).fp i b) -> ∃ id, some id ∈ p.emb /\ ι.fp id b := by
    rintro b ⟨i, hi⟩
    obtain ⟨id, e1, f1⟩ := Yok hi
    exact ⟨id, List.mem_of_getElem? e1, f1⟩
  have hframe : ∀ b, b < w.heap.size -> (∀ id, some id ∈ p.emb -> ¬ ι.fp id b) -> w'.heap[b]? = w.heap[b]? := by
    intro b hb hn
    refine hpost.frame b hb fun i hi => ?_
    obtain ⟨id, hm, hf⟩ := hcfp b ⟨i, hi⟩
    exact hn id hm hf
  have hGsame : ∀ b, ι.G b -> w'.heap[b]? = w.heap[b]? := fun b hb => hframe b (h.glt b hb) fun id _ hf => h.gfp id b hf hb
  have hGG : ∀ b, ι.G b -> G'' b := by
    intro b hb
    simp only [G'']
    split
    · rename_i hc
      have := hpost.gg b
      simp only [Yid] at this
      exact this (by rw [hc.2]; exact hb)
    · exact hb
  have hG1 : ∀ b, G'' b -> ι.G b ∨ (∃ id, some id ∈ p.emb /\ ι.fp id b) ∨ w.heap.size <= b := by
    intro b hb
    simp only [G''] at hb
    split at hb
    · rename_i hc
      rcases hpost.gown b hb with h2 | h2 | h2
      · simp only [Yid] at h2; rw [hc.2] at h2; exact .inl h2
      · exact .inr (.inl (hcfp b h2))
      · exact .inr (.inr h2)
    · exact .inl hb
  have hG2 : ∀ j b, ι1.fp j b -> ¬ G'' b := by
    intro j b hj hb
    simp only [G''] at hb
    split at hb
    · exact hpost.gfp j b hj hb
    · rename_i hc
      rcases hpost.own j b hj with h2 | h2
      · obtain ⟨id, _, hf⟩ := hcfp b h2
        exact h.gfp id b hf hb
      · have := h.glt b hb; omega
  have hunp : ∀ i b, inv i = none -> ι.fp i b -> w'.heap[b]? = w.heap[b]? := fun i b hi hf => hframe b (h.lt i b hf) fun id hm hf' => h.disj i id b (fun e => hnp i hi (e ▸ hm)) hf hf'
  have hregs : s'.regs = s1.regs := Yhx _ _
  have hext : Ext (fun i => i ∉ ids) w ι s1.obj w' ι' s'.obj := by
    refine ⟨fun b hb => ⟨hGG b hb, hGsame b hb⟩, fun i => ?_⟩
    cases hi : inv i with
    | none =>
      rw [hs'n i (hinv2 i hi)]
      have e1 : ι'.blk i = ι.blk i := by simp only [ι', hi]
      have e2 : ι'.sl i = ι.sl i := by simp only [ι', hi]
      have e3 : ∀ b, ι.fp i b -> ι'.fp i b := fun b hb => by simp only [ι', hi]; exact hb
      cases e : s1.obj i with
      | free => trivial
      | dead => trivial
      | box cs => exact e1
      | arr own sz es => exact ⟨e2, rfl, fun _ b hb => ⟨.inl (e3 b hb), hunp i b hi hb⟩⟩
      | map nn k f => exact ⟨e1, rfl, rfl, fun _ b hb => ⟨.inl (e3 b hb), hunp i b hi hb⟩⟩
    | some j =>
      obtain ⟨hj, hji⟩ := hinv3 i j hi
      have e1 : ι'.blk i = ι1.blk j := by simp only [ι', hi]
      have e2 : ι'.sl i = ι1.sl j := by simp only [ι', hi]
      have hob : s'.obj i = (Yhq objs1 j).ren ren := by rw [<- hji]; exact hs'o j hj
      rw [hob]
      cases em : Yoe p.emb j with
      | none =>
        have : ren j = n + j := by simp only [ren, Ylp, em]
        have hfr : s.obj i = .free := by rw [<- hji, this]; exact (hnew j hj em).1
        obtain ⟨o, ho, hm⟩ := Yy9 ids s i
        rw [hfr] at hm
        simp only at hm
        rw [show s1.obj i = o from ho, hm]
        trivial
      | some id =>
        have hid : id = i := by rw [<- hji]; simp only [ren, Ylp, em]
        subst hid
        have he := Yj8.1 em
        obtain ⟨c1, c2, c3⟩ := Ynb (ι := ι) (R := R) he
        obtain ⟨o, k1, k2⟩ := hp.som j id he
        have hx := hpost.ext j
        rw [Yl0 k1] at hx
        obtain ⟨o1, ho1, hm⟩ := Yy9 ids s id
        rw [show s1.obj id = o1 from ho1]
        rcases k2 with ⟨own, sz, es, k3, rfl⟩ | ⟨cs, cs', k3, rfl, _⟩ | ⟨nn, kk, f, k3, rfl⟩
        · rw [k3] at hm
          simp only at hm
          rw [hm]
          cases e4 : Yhq objs1 j with
          | free => rw [e4] at hx; exact hx.elim
          | dead => trivial
          | box _ => rw [e4] at hx; exact hx.elim
          | arr own' sz' es' =>
            rw [e4] at hx
            refine ⟨by rw [e2, hx.1, c2], hx.2.1, fun hk => (hk (Y11d.2 (List.mem_of_getElem? he))).elim⟩
          | map _ _ _ => rw [e4] at hx; exact hx.elim
        · rw [k3] at hm
          simp only at hm
          obtain ⟨cs2, rfl⟩ := hm
          cases e4 : Yhq objs1 j with
          | free => rw [e4] at hx; exact hx.elim
          | dead => trivial
          | box _ => rw [e4] at hx; show ι'.blk id = ι.blk id; rw [e1, <- c1]; exact hx
          | arr _ _ _ => rw [e4] at hx; exact hx.elim
          | map _ _ _ => rw [e4] at hx; exact hx.elim
        · rw [k3] at hm
          simp only at hm
          rw [hm]
          cases e4 : Yhq objs1 j with
          | free => rw [e4] at hx; exact hx.elim
          | dead => trivial
          | box _ => rw [e4] at hx; exact hx.elim
          | arr _ _ _ => rw [e4] at hx; exact hx.elim
          | map nn' k' f' =>
            rw [e4] at hx
            refine ⟨by rw [e1, hx.1, c1], hx.2.1, hx.2.2.1, fun hk => (hk (Y11d.2 (List.mem_of_getElem? he))).elim⟩
  have htr : Tr ren ι1 (Yhq objs1) ι' s'.obj := by
    refine ⟨fun j hj => ?_⟩
    have hjl : j < L := by
      rcases Nat.lt_or_ge j objs1.length with hlt | hge
      · exact hlt
      · simp [notFree, Yhq, List.getElem?_eq_none hge] at hj
    have hi := hinv1 j hjl
    exact ⟨hs'o j hjl, by simp only [ι', hi], by simp only [ι', hi], fun b => by simp only [ι', hi]⟩
  have hGc : ∀ {q : Prop}, (objs1.all Ob.noG = true /\ res.acs.all AC.noG = true -> q) -> q ∨ ∀ b, ι1.G b -> ι'.G b := by
    intro q hq
    by_cases hc : p.lent = [] /\ R = ι.G
    · right; intro b hb; show G'' b; simp only [G'', if_pos hc]; exact hb
    · exact .inl (hq (hG.resolve_left hc))
  refine ⟨ι', ?_, Ygz.tr htr (hGc fun hq => hq.2) hpost.val, hext⟩
  refine Rel.step h1 hext (fun t => .inl ⟨?_, fun c hc i hi => ?_⟩) ?_ ?_ (fun i => ?_) ?_ ?_ ?_ ?_ ?_ ?_ hpost.size hpost.os hpost.out (hG := fun b hb => ?_)
  · show s'.regs.getD t _ = s1.regs.getD t _; rw [hregs]
  · rw [show s1 = s.inval ids from rfl] at hc
    cases hids : ids with
    | nil => simp
    | cons x l => rw [hids, Yko] at hc; exact Ym2 _ hc hi
  · show s'.regs.length = s1.regs.length; rw [hregs]
  · exact Yo6 _ _
  · cases hi : inv i with
    | none =>
      left
      refine ⟨hs'n i (hinv2 i hi), ⟨by simp only [ι', hi], by simp only [ι', hi], fun b => by simp only [ι', hi], fun b hb => hunp i b hi hb⟩, fun c hc k hk => ?_⟩
      cases hids : ids with
      | nil => simp
      | cons x l =>
        rw [show s1 = s.inval ids from rfl, hids, Ygl] at hc
        cases ho : s.obj i with
        | box cs => rw [ho] at hc; simp [Ygk, Ob.acs] at hc; obtain ⟨y, _, rfl⟩ := hc; exact Yk3 _ hk
        | free => rw [ho] at hc; simp [Ygk, Ob.acs] at hc
        | dead => rw [ho] at hc; simp [Ygk, Ob.acs] at hc
        | map _ _ _ => rw [ho] at hc; simp [Ygk, Ob.acs] at hc
        | arr _ _ _ => rw [ho] at hc; simp [Ygk, Ob.acs] at hc
    | some j =>
      right
      obtain ⟨hj, hji⟩ := hinv3 i j hi
      by_cases hfree : Yhq objs1 j = .free
      · have : s'.obj i = .free := by rw [<- hji, hs'o j hj, hfree]; rfl
        rw [this]
        intro b hb
        simp only [ι', hi] at hb
        have := hpost.obj j
        rw [hfree] at this
        exact this b hb
      · have hnf : notFree (Yhq objs1) j := by unfold notFree; cases e : Yhq objs1 j <;> first | exact hfree e | trivial
        rw [<- hji]
        refine Yiu.tr htr hnf (hGc fun hq => ?_) (hpost.obj j)
        have hg : objs1[j]? = some (Yhq objs1 j) := by simp [Yhq, List.getElem?_eq_getElem (show j < objs1.length from hj)]
        exact (List.all_eq_true.1 hq.1) _ (List.mem_of_getElem? hg)
  · intro i k b hik hi hk
    rcases hfp i b hi with ⟨j, _, e1, f1⟩ | ⟨e1, f1⟩ <;> rcases hfp k b hk with ⟨j', _, e2, f2⟩ | ⟨e2, f2⟩
    · exact hpost.disj j j' b (fun e => hik (by rw [<- e1, <- e2, e])) f1 f2
    · rcases hpost.own j b f1 with h2 | h2
      · obtain ⟨id, hm, hf⟩ := hcfp b h2
        exact h.disj id k b (fun e => hnp k e2 (e ▸ hm)) hf f2
      · have := h.lt k b f2; omega
    · rcases hpost.own j' b f2 with h2 | h2
      · obtain ⟨id, hm, hf⟩ := hcfp b h2
        exact h.disj id i b (fun e => hnp i e1 (e ▸ hm)) hf f1
      · have := h.lt i b f1; omega
    · exact h.disj i k b hik f1 f2
  · intro i b hi hg
    rcases hfp i b hi with ⟨j, _, e1, f1⟩ | ⟨e1, f1⟩
    · exact hG2 j b f1 hg
    · rcases hG1 b hg with h2 | ⟨id, hm, hf⟩ | h2
      · exact h.gfp i b f1 h2
      · exact h.disj i id b (fun e => hnp i e1 (e ▸ hm)) f1 hf
      · have := h.lt i b f1; omega
  · intro i b hi
    rcases hfp i b hi with ⟨j, _, e1, f1⟩ | ⟨e1, f1⟩
    · rcases hpost.own j b f1 with h2 | h2
      · obtain ⟨id, hm, hf⟩ := hcfp b h2
        exact h.own id b hf
      · exact .inr (Nat.le_trans h.size h2)
    · exact h.own i b f1
  · intro i b hi
    rcases hfp i b hi with ⟨j, _, e1, f1⟩ | ⟨e1, f1⟩
    · exact hpost.lt j b f1
    · exact Nat.lt_of_lt_of_le (h.lt i b f1) hpost.size
  · intro b hb
    by_cases hc : p.lent = [] /\ R = ι.G
    · have : ι1.G b := by have hb' : G'' b := hb; simpa only [G'', if_pos hc] using hb'
      exact hpost.glt b this
    · have : ι.G b := by have hb' : G'' b := hb; simpa only [G'', if_neg hc] using hb'
      exact Nat.lt_of_lt_of_le (h.glt b this) hpost.size
  · intro b hb hM
    refine hframe b (Nat.lt_of_lt_of_le hb h.size) fun id hm hf => ?_
    rcases h.own id b hf with h2 | h2
    · exact hM h2
    · omega
  · rcases hG1 b hb with h2 | ⟨id, _, hf⟩ | h2
    · exact .inl h2
    · exact .inr (.inl ⟨id, hf⟩)
    · exact .inr (.inr h2)
end
end Go.Proofs.YtclpofblehlojaaGreat.Ab
end
section
namespace Go.Proofs.YtclpofblehlojaaGreat.Ab
open Go
section
variable {P:Program} {E:Ent P} {s:St} {ι:Interp} {a:Act} {w:World}
theorem Rel.sameObj (h:Rel E s ι a w) {s':St} (hr:s'.regs=s.regs) (ho:s'.obj=s.obj) (hm:s'.m=s.m):Rel E s' ι a w where
 len:=by rw [hr]; exact h.len
 defers:=h.defers
 regs t:=by have:=h.regs t; unfold St.reg at *; rw [hr,ho]; exact this
 objs i:=by rw [ho]; exact h.objs i
 disj:=h.disj
 gfp:=h.gfp
 own:=h.own
 lt:=h.lt
 glt:=h.glt
 frame:=h.frame
 size:=h.size
 os:=h.os
 out:=h.out
 ent i:=by rw [ho]; exact h.ent i
 gg:=h.gg
 gown:=h.gown
 ment i hi:=h.ment i (by rw [<- hm]; exact hi)
theorem Y1bp {e:TypeId} {sz sz':Nat} {v:Value} {xs:List Value} (h:Yiw w e sz v 0 xs) (h0:∃ a,v=.slice a 0 0):Yiw w e sz' v 0 xs:=by
 obtain ⟨a,rfl⟩:=h0
 have hx:xs=[]:=List.eq_nil_of_length_eq_zero (by simpa using h.1)
 subst hx
 refine ⟨by simp,?_⟩
 rcases h.2 with ⟨h1,h2⟩ | ⟨g,cap,cur,fz,h1,h2,h3,h4,h5,h6,h7⟩
 ·exact .inl ⟨h1,h2⟩
 ·simp only [Value.slice.injEq] at h1
  obtain ⟨rfl,_,rfl⟩:=h1
  exact .inr ⟨g,0,cur,fz,rfl,h2,h3,h4,h5,by simpa using h6,by simp⟩
theorem OwnC.arrRel {G F:Nat->Prop} {v:Value} {es:List (List Cell)} {sz:Nat} (h:OwnC w F v (.list es)) (hs:∀ x∈es,x.length=sz):Ygs w (Yhm w G true) sz F v es:=by
 cases h with
 | arr h hsz hb sub nb dj hc h0=>
  rename_i e sz1 xs Fs
  cases es with
  | nil=>exact ⟨e,xs,Fs,Y1bp h (h0 rfl),hs,hb,sub,nb,dj,hc,h0⟩
  | cons x r=>
   have:sz1=sz:=by rw [<- hsz x List.mem_cons_self,hs x List.mem_cons_self]
   subst this
   exact ⟨e,xs,Fs,h,hs,hb,sub,nb,dj,hc,h0⟩
theorem Yq5 {sz:Nat} {es:List (List Cell)} {i p:Nat} {e:List Cell} {c:Cell} (hsz:∀ x∈es,x.length=sz) (he:es[i]? = some e) (hp:p<e.length) :
  (es.set i (e.set p c)).flatten=es.flatten.set (i * sz+p) c:=by
 have h1:e.set p c=splice p [c] e:=by
  unfold splice
  rw [List.set_eq_take_append_cons_drop,if_pos hp]; simp
 have hlt:i * sz+p<es.flatten.length:=by
  have:=Yiq hsz he (List.getElem?_eq_getElem hp)
  exact (List.getElem?_eq_some_iff.1 this).1
 rw [h1,Yrh hsz he (by simp; omega)]
 unfold splice
 rw [List.set_eq_take_append_cons_drop,if_pos hlt]; simp
structure Taken (w:World) (ι:Interp) (id n i sz p:Nat):Prop where
 cell:∀ b,(ι.sl id).ownBlock=some b->w.cell? ⟨b,i * sz+p,none⟩=some (ι.sl n)
 blk:∃ b,(ι.sl id).ownBlock=some b/\ι.fp id b
def Ygv (s:St) (id n i p sz:Nat) (es:List (List Cell)) (e:List Cell) (sz':Nat) (es':List (List Cell)):St:=
 (s.setOb id (.arr true sz (es.set i (e.set p .any)))).setOb n (.arr true sz' es')
theorem Rel.focus (h:Rel E s ι a w) {id n i p sz sz':Nat} {es es':List (List Cell)} {e:List Cell} (ho:s.obj id=.arr true sz es) (he:es[i]? = some e) (hp:e[p]? = some (.list es')) (hx:∀ x∈es',x.length=sz')
  (hf:s.obj n=.free) (hn:n<s.objs.length) (hreg:∀ t,∀ c∈(s.reg t).acs,∀ k,c.src=some k->k≠id) (hbox:∀ k,∀ c∈(s.obj k).acs,∀ k',c.src=some k'->k'≠id) :
  ∃ ι',Rel E (Ygv s id n i p sz es e sz' es') ι' a w/\ι'.sl id=ι.sl id/\Taken w ι' id n i sz p/\Ext (fun k=>k≠id) w ι s.obj w ι' (Ygv s id n i p sz es e sz' es').obj/\ι'.G=ι.G/\∀ k b,k≠n->k≠id->ι.fp k b->ι'.fp k b:=by
 have hor:=h.objs id
 rw [ho] at hor
 obtain ⟨e0,xs,Fs,h1,h2,h3,h4,h5,h6,h7,h0⟩:=hor
 have hlx:xs.length=es.flatten.length:=by rw [h1.1,Yh6 h2]
 have hpe:p<e.length:=(List.getElem?_eq_some_iff.1 hp).1
 have hflat:=Yiq h2 he hp
 have hj0:i * sz+p<es.flatten.length:=(List.getElem?_eq_some_iff.1 hflat).1
 have hj0x:i * sz+p<xs.length:=by rw [hlx]; exact hj0
 obtain ⟨v,hv⟩:∃ v,xs[i * sz+p]? = some v:=⟨_,List.getElem?_eq_getElem hj0x⟩
 have hown:=h7 _ _ _ hv hflat
 have hidn:id≠n:=fun e=>by rw [e,hf] at ho; cases ho
 have hidl:id<s.objs.length:=Ygp ho (by simp)
 have hobj:∀ k,(Ygv s id n i p sz es e sz' es').obj k=if k=n then .arr true sz' es' else if k=id then .arr true sz (es.set i (e.set p .any)) else s.obj k:=by
  intro k
  unfold Ygv
  rw [Yg5 (by rw [Yga]; exact hn),Yg5 hidl]
 let ι':Interp:={ ι with sl:=fun k=>if k=n then v else ι.sl k,fp:=fun k b=>if k=n then Fs (i * sz+p) b else if k=id then ι.fp id b/\¬ Fs (i * sz+p) b else ι.fp k b }
 have hfree:∀ b,¬ ι.fp n b:=by
  have:=h.objs n
  rw [hf] at this; exact this
 have hsl:ι'.sl id=ι.sl id:=by simp only [ι',if_neg hidn]
 have hblk:∃ b,(ι.sl id).ownBlock=some b:=by
  rcases h1.2 with ⟨_,hz⟩ | ⟨g,cap,cur,fz,hg,_⟩
  ·have:es=[]:=List.eq_nil_of_length_eq_zero hz
   subst this; simp at he
  ·exact ⟨g,by rw [hg]; rfl⟩
 have hcells:∀ b,(ι.sl id).ownBlock=some b->w.cell? ⟨b,i * sz+p,none⟩=some v:=by
  intro b hb
  have:=Yiw.cells (g:=b) h1 hb (i * sz+p) v hv
  rw [Yjl] at this
  simpa using this
 have hext:Ext (fun k=>k≠id) w ι s.obj w ι' (Ygv s id n i p sz es e sz' es').obj:=by
  refine ⟨fun b hb=>⟨hb,rfl⟩,fun k => ?_⟩
  rw [hobj]
  by_cases hk:k=n
  ·subst hk; rw [if_pos rfl,hf]; trivial
  ·rw [if_neg hk]
   by_cases hk2:k=id
   ·subst hk2; rw [if_pos rfl,ho]
    exact ⟨hsl,rfl,fun hk=>(hk rfl).elim⟩
   ·rw [if_neg hk2]
    cases ek:s.obj k with
    | free=>trivial
    | dead=>trivial
    | box cs=>rfl
    | arr o1 s1 e1=>exact ⟨by simp only [ι',if_neg hk],rfl,fun _ b hb=>⟨.inl (by simp only [ι',if_neg hk,if_neg hk2]; exact hb),rfl⟩⟩
    | map _ _ _=>exact ⟨rfl,rfl,rfl,fun _ b hb=>⟨.inl (by simp only [ι',if_neg hk,if_neg hk2]; exact hb),rfl⟩⟩
 have hfp:∀ k b,ι'.fp k b->(k=n/\Fs (i * sz+p) b) ∨ (k=id/\ι.fp id b/\¬ Fs (i * sz+p) b) ∨ (k≠n/\k≠id/\ι.fp k b):=by
  intro k b hb
  simp only [ι'] at hb
  split at hb
  ·exact .inl ⟨‹_›,hb⟩
  ·split at hb
   ·exact .inr (.inl ⟨‹_›,hb⟩)
   ·exact .inr (.inr ⟨‹_›,‹_›,hb⟩)
 have hold:∀ k b,ι'.fp k b->∃ k',ι.fp k' b:=by
  intro k b hb
  rcases hfp k b hb with ⟨_,hb⟩ | ⟨_,hb,_⟩ | ⟨_,_,hb⟩
  ·exact ⟨id,h4 _ b hb⟩
  ·exact ⟨id,hb⟩
  ·exact ⟨k,hb⟩
 have hnestid:Ygs w (Yhm w ι'.G true) sz (ι'.fp id) (ι'.sl id) (es.set i (e.set p .any)):=by
  rw [hsl]
  refine ⟨e0,xs,fun j b=>j≠i * sz+p/\Fs j b,by rw [List.length_set]; exact h1,?_,?_,?_,?_,?_,?_,fun hn=>h0 (by simpa using hn)⟩
  ·intro x hxm
   rcases List.mem_or_eq_of_mem_set hxm with hm | rfl
   ·exact h2 x hm
   ·rw [List.length_set]; exact h2 e (List.mem_of_getElem? he)
  ·intro b hb; simp only [ι',if_neg hidn,if_true]; exact ⟨h3 b hb,h5 _ b hb⟩
  ·intro j b hb; simp only [ι',if_neg hidn,if_true]; exact ⟨h4 j b hb.2,h6 _ _ b hb.1 hb.2⟩
  ·intro j b hb hk; exact h5 j b hb hk.2
  ·intro j j' b hne hb hb'; exact h6 j j' b hne hb.2 hb'.2
  ·intro j u c hu hc
   rw [Yq5 h2 he hpe,List.getElem?_set] at hc
   by_cases hj:i * sz+p=j
   ·subst hj
    rw [if_pos rfl,if_pos hj0] at hc
    simp only [Option.some.injEq] at hc
    subst hc
    rw [hv] at hu
    simp only [Option.some.injEq] at hu
    subst hu
    exact OwnC.any hown.one
   ·rw [if_neg hj] at hc
    exact OwnC.wide (h7 j u c hu hc) fun b hb=>⟨fun e=>hj e.symm,hb⟩
 have hnestn:Ygs w (Yhm w ι'.G true) sz' (ι'.fp n) (ι'.sl n) es':=by
  have e1:ι'.sl n=v:=by simp only [ι',if_true]
  have e2:ι'.fp n=Fs (i * sz+p):=by funext b; simp only [ι',if_true]
  rw [e1,e2]
  exact OwnC.arrRel hown hx
 refine ⟨ι',?_,hsl,⟨fun b hb => ?_,?_⟩,hext,rfl,fun k b hk hk2 hb=>by simp only [ι',if_neg hk,if_neg hk2]; exact hb⟩
 ·refine Rel.step h hext (fun t=>.inl ⟨rfl,fun c hc k hk=>hreg t c hc k hk⟩) rfl rfl (fun k => ?_) ?_ ?_ ?_ ?_ h.glt (fun _ _ _=>rfl) (Nat.le_refl _) rfl rfl
  ·by_cases hk:k=n
   ·right; rw [hobj,if_pos hk,hk]; exact hnestn
   ·by_cases hk2:k=id
    ·right; rw [hobj,if_neg hk,if_pos hk2,hk2]; exact hnestid
    ·left
     rw [hobj,if_neg hk,if_neg hk2]
     exact ⟨rfl,⟨rfl,by simp only [ι',if_neg hk],fun b=>by simp only [ι',if_neg hk,if_neg hk2],fun _ _=>rfl⟩,fun c hc k' hk'=>hbox k c hc k' hk'⟩
  ·intro x y b hne hx1 hy1
   rcases hfp x b hx1 with ⟨rfl,f1⟩ | ⟨rfl,f1,g1⟩ | ⟨n1,n2,f1⟩ <;> rcases hfp y b hy1 with ⟨rfl,f2⟩ | ⟨rfl,f2,g2⟩ | ⟨m1,m2,f2⟩
   ·exact hne rfl
   ·exact g2 f1
   ·exact h.disj id y b (fun e=>m2 e.symm) (h4 _ b f1) f2
   ·exact g1 f2
   ·exact hne rfl
   ·exact h.disj x y b hne f1 f2
   ·exact h.disj x id b n2 f1 (h4 _ b f2)
   ·exact h.disj x y b hne f1 f2
   ·exact h.disj x y b hne f1 f2
  ·intro k b hb hg
   obtain ⟨k',hk'⟩:=hold k b hb
   exact h.gfp k' b hk' hg
  ·intro k b hb
   obtain ⟨k',hk'⟩:=hold k b hb
   exact h.own k' b hk'
  ·intro k b hb
   obtain ⟨k',hk'⟩:=hold k b hb
   exact h.lt k' b hk'
 ·have e1:ι'.sl n=v:=by simp only [ι',if_true]
  rw [e1]; rw [hsl] at hb; exact hcells b hb
 ·obtain ⟨b,hb⟩:=hblk
  exact ⟨b,by rw [hsl]; exact hb,by simp only [ι',if_neg hidn,if_true]; exact ⟨h3 b hb,h5 _ b hb⟩⟩
def Ykn (s:St) (id n i p sz:Nat) (es:List (List Cell)) (e:List Cell) (es':List (List Cell)):St:=
 (s.setOb id (.arr true sz (es.set i (e.set p (.list es'))))).setOb n .dead
theorem Rel.unfocus (h:Rel E s ι a w) {id n i p sz sz':Nat} {es es':List (List Cell)} {e:List Cell} (ho:s.obj id=.arr true sz es) (hon:s.obj n=.arr true sz' es') (he:es[i]? = some e) (hp:p<e.length)
  (hne:id≠n) (ht:Taken w ι id n i sz p):∃ ι',Rel E (Ykn s id n i p sz es e es') ι' a w/\Ext (fun _=>True) w ι s.obj w ι' (Ykn s id n i p sz es e es').obj:=by
 have hor:=h.objs id
 rw [ho] at hor
 obtain ⟨e0,xs,Fs,h1,h2,h3,h4,h5,h6,h7,h0⟩:=hor
 have hlx:xs.length=es.flatten.length:=by rw [h1.1,Yh6 h2]
 have horn:=h.objs n
 rw [hon] at horn
 have hown:OwnC w (ι.fp n) (ι.sl n) (.list es'):=Ygs.own horn
 have hflat:=Yiq h2 he (List.getElem?_eq_getElem hp)
 have hj0:i * sz+p<es.flatten.length:=(List.getElem?_eq_some_iff.1 hflat).1
 have hidl:id<s.objs.length:=Ygp ho (by simp)
 have hnl:n<s.objs.length:=Ygp hon (by simp)
 have hobj:∀ k,(Ykn s id n i p sz es e es').obj k=if k=n then .dead else if k=id then .arr true sz (es.set i (e.set p (.list es'))) else s.obj k:=by
  intro k
  unfold Ykn
  rw [Yg5 (by rw [Yga]; exact hnl),Yg5 hidl]
 let ι':Interp:={ ι with fp:=fun k b=>if k=n then False else if k=id then ι.fp id b ∨ ι.fp n b else ι.fp k b }
 obtain ⟨b0,hb0,_⟩:=ht.blk
 have hv:xs[i * sz+p]? = some (ι.sl n):=by
  have hj:i * sz+p<xs.length:=by rw [hlx]; exact hj0
  have h8:=Yiw.cells (g:=b0) h1 hb0 (i * sz+p) _ (List.getElem?_eq_getElem hj)
  rw [Yjl] at h8
  have h9:=ht.cell b0 hb0
  simp only [Nat.zero_add] at h8
  rw [h9] at h8
  simp only [Option.some.injEq] at h8
  rw [List.getElem?_eq_getElem hj,<- h8]
 have hext:Ext (fun _=>True) w ι s.obj w ι' (Ykn s id n i p sz es e es').obj:=by
  refine ⟨fun b hb=>⟨hb,rfl⟩,fun k => ?_⟩
  rw [hobj]
  by_cases hk:k=n
  ·subst hk; rw [if_pos rfl,hon]; trivial
  ·rw [if_neg hk]
   by_cases hk2:k=id
   ·subst hk2; rw [if_pos rfl,ho]
    exact ⟨rfl,rfl,fun _ b hb=>⟨.inl (by simp only [ι',if_neg hk,if_true]; exact .inl hb),rfl⟩⟩
   ·rw [if_neg hk2]
    cases ek:s.obj k with
    | free=>trivial
    | dead=>trivial
    | box cs=>rfl
    | arr o1 s1 e1=>exact ⟨rfl,rfl,fun _ b hb=>⟨.inl (by simp only [ι',if_neg hk,if_neg hk2]; exact hb),rfl⟩⟩
    | map _ _ _=>exact ⟨rfl,rfl,rfl,fun _ b hb=>⟨.inl (by simp only [ι',if_neg hk,if_neg hk2]; exact hb),rfl⟩⟩
 have hfp:∀ k b,ι'.fp k b->k≠n/\((k=id/\(ι.fp id b ∨ ι.fp n b)) ∨ (k≠id/\ι.fp k b)):=by
  intro k b hb
  simp only [ι'] at hb
  split at hb
  ·exact hb.elim
  ·refine ⟨‹_›,?_⟩
   split at hb
   ·exact .inl ⟨‹_›,hb⟩
   ·exact .inr ⟨‹_›,hb⟩
 have hold:∀ k b,ι'.fp k b->∃ k',ι.fp k' b:=by
  intro k b hb
  obtain ⟨_,⟨_,hb | hb⟩ | ⟨_,hb⟩⟩:=hfp k b hb
  ·exact ⟨id,hb⟩
  ·exact ⟨n,hb⟩
  ·exact ⟨k,hb⟩
 have hnestid:Ygs w (Yhm w ι'.G true) sz (ι'.fp id) (ι'.sl id) (es.set i (e.set p (.list es'))):=by
  refine ⟨e0,xs,fun j b=>if j=i * sz+p then ι.fp n b else Fs j b,by rw [List.length_set]; exact h1,?_,?_,?_,?_,?_,?_,fun hn=>h0 (by simpa using hn)⟩
  ·intro x hxm
   rcases List.mem_or_eq_of_mem_set hxm with hm | rfl
   ·exact h2 x hm
   ·rw [List.length_set]; exact h2 e (List.mem_of_getElem? he)
  ·intro b hb; simp only [ι',if_neg hne,if_true]; exact .inl (h3 b hb)
  ·intro j b hb
   simp only [ι',if_neg hne,if_true]
   split at hb
   ·exact .inr hb
   ·exact .inl (h4 j b hb)
  ·intro j b hb hk
   split at hk
   ·exact h.disj id n b hne (h3 b hb) hk
   ·exact h5 j b hb hk
  ·intro j j' b hjj hb hb'
   split at hb <;> split at hb'
   ·omega
   ·exact h.disj id n b hne (h4 _ b hb') hb
   ·exact h.disj id n b hne (h4 _ b hb) hb'
   ·exact h6 j j' b hjj hb hb'
  ·intro j u c hu hc
   rw [Yq5 h2 he hp,List.getElem?_set] at hc
   by_cases hj:i * sz+p=j
   ·subst hj
    rw [if_pos rfl,if_pos hj0] at hc
    simp only [Option.some.injEq] at hc
    subst hc
    rw [hv] at hu
    simp only [Option.some.injEq] at hu
    subst hu
    simp only [if_true]
    exact hown
   ·rw [if_neg hj] at hc
    have hj':¬ (j=i * sz+p):=fun e=>hj e.symm
    simp only [hj',if_false]
    exact h7 j u c hu hc
 refine ⟨ι',?_,hext⟩
 refine Rel.step h hext (fun t=>.inl ⟨rfl,fun _ _ _ _=>trivial⟩) rfl rfl (fun k => ?_) ?_ ?_ ?_ ?_ h.glt (fun _ _ _=>rfl) (Nat.le_refl _) rfl rfl
 ·by_cases hk:k=n
  ·right; rw [hobj,if_pos hk]
   intro b hb
   exact (hfp k b hb).1 hk
  ·by_cases hk2:k=id
   ·right; rw [hobj,if_neg hk,if_pos hk2,hk2]; exact hnestid
   ·left
    rw [hobj,if_neg hk,if_neg hk2]
    exact ⟨rfl,⟨rfl,rfl,fun b=>by simp only [ι',if_neg hk,if_neg hk2],fun _ _=>rfl⟩,fun _ _ _ _=>trivial⟩
 ·intro x y b hxy hx1 hy1
  obtain ⟨nx,cx⟩:=hfp x b hx1
  obtain ⟨ny,cy⟩:=hfp y b hy1
  rcases cx with ⟨rfl,f1⟩ | ⟨n1,f1⟩ <;> rcases cy with ⟨rfl,f2⟩ | ⟨n2,f2⟩
  ·exact hxy rfl
  ·rcases f1 with f1 | f1
   ·exact h.disj x y b hxy f1 f2
   ·exact h.disj n y b (fun e=>ny e.symm) f1 f2
  ·rcases f2 with f2 | f2
   ·exact h.disj x y b hxy f1 f2
   ·exact h.disj x n b nx f1 f2
  ·exact h.disj x y b hxy f1 f2
 ·intro k b hb hg
  obtain ⟨k',hk'⟩:=hold k b hb
  exact h.gfp k' b hk' hg
 ·intro k b hb
  obtain ⟨k',hk'⟩:=hold k b hb
  exact h.own k' b hk'
 ·intro k b hb
  obtain ⟨k',hk'⟩:=hold k b hb
  exact h.lt k' b hk'
end
end Go.Proofs.YtclpofblehlojaaGreat.Ab
end
section
namespace Go.Proofs.YtclpofblehlojaaGreat.Ab
open Go Go.MapKept Go.ChangeMaps
def Yus (P:Program):TypeDesc->Prop
 | .array _ t=>P.underlying t=some .string/\∃ i,P.info? t=some i/\i.size=1
 | _=>True
theorem Ypb {d:TypeDesc} {v:Value} (h:Yil d v):MapKept.IsKey d v ∨ ∃ t a b,d=.array 2 t/\v=.agg #[.string a,.string b]:=by
 cases d <;> first | exact .inl h | (obtain ⟨rfl,a,b,rfl⟩:=h; exact .inr ⟨_,a,b,rfl,rfl⟩)
section
variable {P:Program}
theorem Y14x {w:World} {t:TypeId} {cs:Array Value} {i:Nat} {v:Value} (hu:P.underlying t=some .string) (hv:cs[i]? = some v):(part t cs i).run P w=.ok v w:=by
 simp [part,isAgg,run_underlying hu,hv,Result.andThen]
theorem Ype (a b:ByteArray):(a == b)=decide (a=b):=by
 by_cases h:a=b
 ·subst h; simp [bytes_beq]
 ·rw [decide_eq_false h,Bool.eq_false_iff]; intro e; exact h ((bytes_beq a b).1 e)
theorem Y1f7 {w:World} {t:TypeId} {n:Nat} (hu:P.underlying t=some .string) (a b:ByteArray):(Op.equalIn (n+1) t (.string a) (.string b)).run P w=.ok (a == b) w:=by
 unfold Op.equalIn
 simp [run_underlying hu,Result.andThen]
theorem Y1bw {w:World} {kt t:TypeId} {i:TypeInfo} (hd:P.underlying kt=some (.array 2 t)) (hu:P.underlying t=some .string) (hi:P.info? t=some i) (hs:i.size=1) (a b c d:ByteArray) :
  (Op.equal kt (.agg #[.string a,.string b]) (.agg #[.string c,.string d])).run P w=.ok (a == c&&b == d) w:=by
 have e0:Op.maxDepth=(9998+1)+1:=rfl
 unfold Op.equal
 rw [e0]
 unfold Op.equalIn
 have es:=Y1f7 (w:=w) (n:=9998) hu
 have e1:=es a c
 have e2:=es b d
 cases ha:(a == c) <;> cases hb:(b == d) <;> rw [ha] at e1 <;> rw [hb] at e2 <;>
 simp [run_underlying hd,sizeOf,typeInfo,hi,Result.andThen,Std.Legacy.Range.forIn_eq_forIn_range',List.range',e1,e2,hs,Y14x hu]
theorem Ym7 {w:World} {kt:TypeId} {d:TypeDesc} {k:Value} (hd:P.underlying kt=some d) (hk:Yil d k) (ht:Yus P d) (e:Bool):(Instr.checkKey e 10000 kt k).run P w=.ok () w:=by
 rcases Ypb hk with hk | ⟨t,a,b,rfl,rfl⟩
 ·exact run_checkKey hd hk e 9999
 ·obtain ⟨hu,i,hi,hs⟩:=ht
  show (Instr.checkKey e (9998+1+1) kt _).run P w=_
  have h2:∀ x:ByteArray,(Instr.checkKey e (9998+1) t (.string x)).run P w=.ok () w:=fun x=>run_checkKey hu (by trivial) e 9998
  unfold Instr.checkKey
  simp [run_underlying hd,sizeOf,typeInfo,hi,Result.andThen,Std.Legacy.Range.forIn_eq_forIn_range',List.range',hs,Y14x hu,h2]
theorem Y15y {w:World} {kt t:TypeId} {i:TypeInfo} (hd:P.underlying kt=some (.array 2 t)) (hu:P.underlying t=some .string) (hi:P.info? t=some i) (hs:i.size=1) (a b:ByteArray) :
  ∀ (l:List MapEntry) (j:Nat),(∀ x∈l,Yil (.array 2 t) x.key) ->
  ((Instr.findAsking kt (.agg #[.string a,.string b]) l j).run P w=.ok none w/\∀ x∈l,x.key≠.agg #[.string a,.string b]) ∨
  ∃ m e,(Instr.findAsking kt (.agg #[.string a,.string b]) l j).run P w=.ok (some (j+m,e.val)) w/\l[m]? = some e/\e.key=.agg #[.string a,.string b]
 | [],_,_=>.inl ⟨rfl,by simp⟩
 | x :: l,j,h=>by
  obtain ⟨_,c,d,hx⟩:=h x List.mem_cons_self
  have he:=Y1bw (w:=w) hd hu hi hs a b c d
  by_cases hh:a=c/\b=d
  ·obtain ⟨rfl,rfl⟩:=hh
   refine .inr ⟨0,x,?_,rfl,hx⟩
   unfold Instr.findAsking
   rw [hx]
   simp [he,Ype,Result.andThen]
  ·have hne:x.key≠.agg #[.string a,.string b]:=by rw [hx]; intro e; apply hh; simp at e; exact ⟨e.1.symm,e.2.symm⟩
   have hf:(a == c&&b == d)=false:=by
    rw [Ype,Ype,<- Bool.decide_and]; exact decide_eq_false hh
   rw [hf] at he
   have hr:(Instr.findAsking kt (.agg #[.string a,.string b]) (x :: l) j).run P w=(Instr.findAsking kt (.agg #[.string a,.string b]) l (j+1)).run P w:=by
    conv=>lhs; unfold Instr.findAsking
    rw [hx]
    simp [he,Result.andThen]
   rcases Y15y hd hu hi hs a b l (j+1) (fun y hy=>h y (List.mem_cons_of_mem _ hy)) with ⟨h1,h2⟩ | ⟨m,e,h1,h2,h3⟩
   ·exact .inl ⟨by rw [hr,h1],fun y hy=>by rcases List.mem_cons.1 hy with rfl | hy; exact hne; exact h2 y hy⟩
   ·exact .inr ⟨m+1,e,by rw [hr,h1,show j+1+m=j+(m+1) by omega],by simpa using h2,h3⟩
theorem Ywy {w:World} {kt:TypeId} {d:TypeDesc} {k:Value} (hd:P.underlying kt=some d) (hk:Yil d k) (ht:Yus P d) (l:List MapEntry) (h:∀ x∈l,Yil d x.key) :
  ((Instr.findKey kt k l).run P w=.ok none w/\∀ x∈l,x.key≠k) ∨ ∃ j e,(Instr.findKey kt k l).run P w=.ok (some (j,e.val)) w/\l[j]? = some e/\e.key=k:=by
 rcases Ypb hk with hk' | ⟨t,a,b,rfl,rfl⟩
 ·have h':∀ x∈l,IsKey d x.key:=fun x hx=>by
   rcases Ypb (h x hx) with h1 | ⟨t,a,b,rfl,h1⟩
   ·exact h1
   ·cases k <;> simp [IsKey] at hk'
  rcases findNow_spec hk' l 0 h' with ⟨e1,e2⟩ | ⟨j,e,e1,e2,e3⟩
  ·exact .inl ⟨run_findKey hd e1,e2⟩
  ·exact .inr ⟨j,e,by rw [run_findKey hd e1]; simp,e2,e3⟩
 ·obtain ⟨hu,i,hi,hs⟩:=ht
  cases l with
  | nil=>exact .inl ⟨run_findKey hd rfl,by simp⟩
  | cons x l=>
   have hr:(Instr.findKey kt (.agg #[.string a,.string b]) (x :: l)).run P w=(Instr.findAsking kt (.agg #[.string a,.string b]) (x :: l) 0).run P w:=by
    simp [Instr.findKey,run_underlying hd,Result.andThen,Instr.findNow,Instr.sameNow]
   rcases Y15y (w:=w) hd hu hi hs a b (x :: l) 0 h with ⟨h1,h2⟩ | ⟨m,e,h1,h2,h3⟩
   ·exact .inl ⟨by rw [hr,h1],h2⟩
   ·exact .inr ⟨m,e,by rw [hr,h1]; simp,h2,h3⟩
theorem Y1f8 {w:World} {d:TypeDesc} {k:Value} (hk:Yil d k):(Instr.keyThatStays k k).run P w=.ok k w:=by
 rcases Ypb hk with hk | ⟨t,a,b,rfl,rfl⟩
 ·exact run_keyThatStays hk
 ·simp [Instr.keyThatStays,Instr.sameBits,Ype]
end
theorem Y17g {d:TypeDesc} {es:Array MapEntry} (h:∀ x∈es.toList,Yil d x.key) (i:Nat) (f:MapEntry->MapEntry) (hk:∀ e,es[i]? = some e->(f e).key=e.key):∀ x∈(es.modify i f).toList,Yil d x.key:=by
 intro x hx
 have:x.key∈(es.modify i f).toList.map (·.key):=List.mem_map.2 ⟨x,hx,rfl⟩
 rw [modify_keys i f hk] at this
 obtain ⟨y,hy,e⟩:=List.mem_map.1 this
 rw [<- e]; exact h y hy
def Yyg:TypeDesc->TypeDesc->Bool
 | .int k,.int k'=>decide (k=k')
 | .string,.string=>true
 | .array n t,.array n' t'=>decide (n=n')&&decide (t=t')
 | _,_=>false
theorem Yxa {a b:TypeDesc} (h:Yyg a b=true):a=b:=by
 cases a <;> cases b <;> simp_all [Yyg]
def Y10e:TypeDesc->Value->Bool
 | .int k,.int k' _=>decide (k'=k)
 | .string,.string _=>true
 | .array n _,.agg cs=>match cs.toList with | [.string _,.string _]=>decide (n=2) | _=>false
 | _,_=>false
theorem Yzs {d:TypeDesc} {v:Value} (h:Y10e d v=true):Yil d v:=by
 by_cases hd:(∃ n t,d=.array n t)/\∃ cs,v=.agg cs
 ·obtain ⟨⟨n,t,rfl⟩,cs,rfl⟩:=hd
  simp only [Y10e] at h
  split at h
  ·rename_i a b e
   refine ⟨by simpa using h,a,b,?_⟩
   rw [<- Array.toArray_toList (xs:=cs),e]
  ·cases h
 ·cases d <;> cases v <;> simp_all [Y10e,IsKey,Yil]
def Y1c1:Value->Value->Bool
 | .int k a,.int k' b=>decide (k=k')&&decide (a=b)
 | .slice none 0 0,.slice none 0 0=>true
 | _,_=>false
theorem Y1id {a b:Value} (h:Y1c1 a b=true):a=b:=by
 unfold Y1c1 at h
 split at h <;> simp_all
section tables
variable (P:Program)
def Y1cb:TypeDesc->Bool
 | .array _ t=>(match P.underlying t with | some .string=>true | _=>false)&&(match P.info? t with | some i=>decide (i.size=1) | none=>false)
 | _=>true
def Y16r (T:TypeId):Option (TypeDesc × TypeId × TypeId):=match P.underlying T with
 | some (.map kt et)=>match P.underlying kt with | some d=>if Y1cb P d=true then some (d,kt,et) else none | none=>none
 | _=>none
def Y1bh (T:TypeId):Option Value:=match P.info? T with
 | some i=>match i.zero with
  | some z=>match z.cells.toList with
   | [v]=>if Yqo z then some z else none
   | _=>none
  | none=>none
 | none=>none
def zOK (z:Value):Option Value->Bool
 | none=>true
 | some v=>Y1c1 v z
end tables
def Yq4 (k:MK):Value->Option Cell:=fun _=>k.z.map normLit
def Yzu (k:MK):Bool:=match k.z with | none=>true | some v=>Yqo v
theorem Y11t {k:MK} (h:Yzu k=true) (key:Value):Yrb k.z (Yq4 k key):=by
 unfold Yzu at h
 unfold Yq4
 cases e:k.z with
 | none=>exact .inl rfl
 | some v=>
  rw [e] at h
  exact .inr ⟨v,rfl,Yn7 h,.inl rfl⟩
def Ynf (z:Value) (f:Value->Option Cell) (key:Value) (c:Cell):Prop:=f key=some c ∨ (f key=none/\c=normLit z)
def Ylt (d:TypeDesc) (f f':Value->Option Cell) (key:Value) (c:Option Cell):Prop:=f' key=c/\∀ k,Yil d k->k≠key->f' k=f k
section
variable {P:Program} {E:Ent P} {s:St} {ι:Interp} {a:Act} {w:World}
theorem Y1hy {d:TypeDesc} (h:Y1cb P d=true):Yus P d:=by
 cases d <;> try trivial
 rename_i n t
 simp only [Y1cb,Bool.and_eq_true] at h
 obtain ⟨h1,h2⟩:=h
 split at h1 <;> first | (cases h1; done) | skip
 rename_i e1
 split at h2 <;> first | (cases h2; done) | skip
 rename_i i e2
 exact ⟨e1,i,e2,by simpa using h2⟩
def St.keyV (s:St) (x:Operand):Option Value:=match s.ev x with
 | some (.sv (.one (.val (.lit v))))=>some v
 | some (.sv (.agg l))=>match l with
  | [.val (.lit (.string a)),.val (.lit (.string b))]=>some (.agg #[.string a,.string b])
  | _=>none
 | _=>none
theorem Ywz (h:Rel E s ι a w) {x:Operand} {v:Value} (e:s.keyV x=some v):a.eval x=v:=by
 unfold St.keyV at e
 split at e
 ·rename_i u hev
  simp only [Option.some.injEq] at e; subst e
  exact (Rd.lit_inv (show Rd w ι.G _ _ from (Yjo h hev).1)).1
 ·rename_i l hev
  split at e
  ·rename_i x1 x2
   simp only [Option.some.injEq] at e; subst e
   obtain ⟨arr,h1,h2⟩:=Yjo h hev
   rw [h1]
   have h3:arr=arr.toList.toArray:=by simp
   rw [h3]
   cases hl:arr.toList with
   | nil=>rw [hl] at h2; cases h2
   | cons y1 r1=>
    rw [hl] at h2
    cases r1 with
    | nil=>exact (h2.2:False).elim
    | cons y2 r2=>
     cases r2 with
     | cons y3 r3=>exact (h2.2.2:False).elim
     | nil=>
      have e1:=(Rd.lit_inv (show Rd w ι.G _ _ from h2.1.1)).1
      have e2:=(Rd.lit_inv (show Rd w ι.G _ _ from h2.2.1.1)).1
      rw [e1,e2]
  ·cases e
 ·cases e
theorem Y10w {T:TypeId} {d:TypeDesc} {kt et:TypeId} (h:Y16r P T=some (d,kt,et)):P.underlying T=some (.map kt et)/\P.underlying kt=some d/\Yus P d:=by
 unfold Y16r at h
 split at h
 ·rename_i kt' et' h1
  split at h
  ·rename_i d' h2
   split at h
   ·rename_i h3
    simp only [Option.some.injEq,Prod.mk.injEq] at h
    obtain ⟨rfl,rfl,rfl⟩:=h
    exact ⟨h1,h2,Y1hy h3⟩
   ·cases h
  ·cases h
 ·cases h
theorem Y1hn {T:TypeId} {z:Value} (h:Y1bh P T=some z):Yjq z/\∀ w:World,(zeroValue T).run P w=.ok z w:=by
 unfold Y1bh at h
 split at h
 ·rename_i i hi
  split at h
  ·rename_i z' hz
   split at h
   ·split at h
    ·rename_i hb
     simp only [Option.some.injEq] at h; subst h
     exact ⟨Yn7 hb,fun w=>by simp [zeroValue,typeInfo,hi,hz]⟩
    ·cases h
   ·cases h
  ·cases h
 ·cases h
theorem Y1qm (h:Rel E s ι a w) {id:Nat} {nn:Bool} {k:MK} {f:Value->Option Cell} (ho:s.obj id=.map nn k f) :
  (nn=true/\(∀ b,¬ ι.fp id b)/\∀ key,Yil k.d key->Yrb k.z (f key)) ∨ (nn=false/\Yhu w k (ι.fp id) (ι.blk id) f):=by
 have:=h.objs id
 rw [ho] at this
 cases nn with
 | true=>exact .inl ⟨rfl,this⟩
 | false=>exact .inr ⟨rfl,this⟩
theorem Y12g {z:Value} {o:Option Cell} {zo:Option Value} (hz:zOK z zo=true) (he:Yrb zo o) {c:Cell} (hc:o=some c ∨ (o=none/\c=normLit z)):c=normLit z ∨ c=.any:=by
 rcases he with h1 | ⟨v,h1,h2,h3⟩
 ·rcases hc with h | ⟨_,h⟩
  ·rw [h1] at h; cases h
  ·exact .inl h
 ·subst h1
  have:=Y1id hz
  subst this
  rcases h3 with h3 | h3 <;> rcases hc with h | ⟨h,_⟩ <;> rw [h3] at h <;> cases h
  ·exact .inl rfl
  ·exact .inr rfl
theorem Y159 {T kt et:TypeId} {d:TypeDesc} {m:Value} {es:Array MapEntry} {key z:Value} (hT:P.underlying T=some (.map kt et)) (hd:P.underlying kt=some d) (hk:Yil d key) (hkt:Yus P d) (hz:∀ w:World,(zeroValue et).run P w=.ok z w)
  (hks:∀ e∈es.toList,Yil d e.key) (hm:(m=.map none/\es=#[]) ∨ ∃ b clock,m=.map (some b)/\w.heap[b]? = some (.map es clock)) (ok:Bool) :
  ((∀ e∈es.toList,e.key≠key)/\(Instr.lookup T m key ok).run P w=.ok (if ok then .tuple #[z,.bool false] else z) w) ∨
  (∃ (j:Nat) (e:MapEntry),es[j]? = some e/\e.key=key/\(Instr.lookup T m key ok).run P w=.ok (if ok then .tuple #[e.val,.bool true] else e.val) w):=by
 rcases Ywy (w:=w) hd hk hkt es.toList hks with ⟨h1,h2⟩ | ⟨j,e,h1,h2,h3⟩
 ·refine .inl ⟨h2,?_⟩
  rcases hm with ⟨rfl,rfl⟩ | ⟨b,clock,rfl,hb⟩
  ·simp [Instr.lookup,run_underlying hT,Ym7 hd hk hkt,h1,hz,Result.andThen]
  ·simp [Instr.lookup,run_underlying hT,MapKept.run_getObj_map hb,Ym7 hd hk hkt,h1,hz,Result.andThen]
 ·refine .inr ⟨j,e,by simpa using h2,h3,?_⟩
  rcases hm with ⟨rfl,rfl⟩ | ⟨b,clock,rfl,hb⟩
  ·simp at h2
  ·simp [Instr.lookup,run_underlying hT,MapKept.run_getObj_map hb,Ym7 hd hk hkt,h1,Result.andThen]
def eLookup (P:Program) (s:St) (T:TypeId) (m x:Operand) (ok:Bool) (n:Nat) (q:List Orc):Option (Res × List Item × List Orc):=
 match s.ac m with
 | some (.mref id)=>match s.obj id,s.keyV x,Y16r P T with
  | .map nn k f,some key,some (d,kt,et)=>match Y1bh P et with
   | some z=>if (Yyg k.d d&&Y10e d key&&zOK z k.z)=true then
     (match q,ok with
     | .cells [c] :: q,false=>some ({ val:=.sv (.one (Ynv (some id) c)) },[.obl (Ynf z f key c)],q)
     | .cells [c] :: .bool b :: q,true=>match k.z with
      | none=>some ({ val:=.tup [.one (Ynv (some id) c),.one (.val (.lit (.bool b)))] },[.obl ((f key=some c/\b=true) ∨ (f key=none/\c=normLit z/\b=false))],q)
      | some _=>none
     | .taken es sz f' :: q,false=>some ({ val:=.sv (.one (.ref n)),new:=[.arr true sz es],upd:=[(id,.map nn k f')],inv:=[id] },
       [.obl (Ynf z f key (.list es)),.obl (Ylt k.d f f' key (some .any)),.obl (k.z=some z),.obl (∀ x∈es,x.length=sz)],q)
     | _,_=>none) else none
   | none=>none
  | _,_,_=>none
 | _=>none
def Ysq (P:Program) (T:TypeId) (hint:Option Operand) (n:Nat) (q:List Orc):Option (Res × List Item × List Orc):=
 match hint,q with
 | none,.mkmap k :: q=>if Yzu k=true then some ({ val:=.sv (.one (.mref n)),new:=[.map false k (Yq4 k)] },[],q) else none
 | _,_=>none
def eMapUpdate (P:Program) (s:St) (T:TypeId) (m x y:Operand) (q:List Orc):Option (Res × List Item × List Orc):=
 match s.ac m,q with
 | some (.mref id),.upd f' :: q=>match s.obj id,s.keyV x,Y16r P T,s.ac y with
  | .map nn k f,some key,some (d,kt,et),some v=>if (Yyg k.d d&&Y10e d key)=true then
    (match absorbOwn s [v] with
    | some ([c],ids)=>if ids.elem id=false then
      some ({ inv:=[id],upd:=Yhs ids++[(id,.map nn k f')] },[.obl (nn=false),.obl (Ylt k.d f f' key (some c))],q) else none
    | _=>none) else none
  | _,_,_,_=>none
 | _,_=>none
def eMapDelete (P:Program) (s:St) (args:Array Operand) (tys:Array TypeId) (q:List Orc):Option (Res × List Item × List Orc):=
 match args.toList,tys.toList,q with
 | [m,x],T :: _,.upd f' :: q=>match s.ac m with
  | some (.mref id)=>match s.obj id,s.keyV x,Y16r P T with
   | .map nn k f,some key,some (d,kt,et)=>if (Yyg k.d d&&Y10e d key)=true then
     some ({ inv:=[id],upd:=[(id,.map nn k f')] },[.obl (nn=false),.obl (Ylt k.d f f' key none)],q) else none
   | _,_,_=>none
  | _=>none
 | _,_,_=>none
def eMapNil (P:Program) (s:St) (op:BinOp) (T:TypeId) (x y:Operand):Option Res:=
 match P.underlying T with
 | some (.map _ _)=>match s.ac x,s.lit y with
  | some (.mref id),some (.map none)=>match s.obj id with
   | .map nn _ _=>match op with
    | .eql=>some { val:=Ym4 (.bool nn) }
    | .neq=>some { val:=Ym4 (.bool (!nn)) }
    | _=>none
   | _=>none
  | some (.val (.lit (.map none))),some (.map none)=>match op with
   | .eql=>some { val:=Ym4 (.bool true) }
   | .neq=>some { val:=Ym4 (.bool false) }
   | _=>none
  | _,_=>none
 | _=>none
theorem Yop {b:Nat} {o o':Obj} (hb:w.heap[b]? = some o):(setBlock w b o').heap[b]? = some o':=(MapKept.heap_set hb).1
theorem Yod {b x:Nat} {o o':Obj} (hb:w.heap[b]? = some o) (hx:x≠b):(setBlock w b o').heap[x]? = w.heap[x]? := (MapKept.heap_set hb).2 x hx
theorem Rel.setMap (h:Rel E s ι a w) {id:Nat} {k:MK} {f f':Value->Option Cell} (hob:s.obj id=.map false k f) (hreg:∀ t,∀ c∈(s.reg t).acs,∀ i,c.src=some i->i≠id)
  (hbox:∀ k,∀ c∈(s.obj k).acs,∀ i,c.src=some i->i≠id) {ids:List Nat} (hids:∀ j∈ids,Ymo (s.obj j)) (hnin:id ∉ ids) {es es':Array MapEntry} {clock clock':Nat}
  (hb:w.heap[ι.blk id]? = some (.map es clock)) (hfpb:ι.fp id (ι.blk id))
  (hm:Yhu (setBlock w (ι.blk id) (.map es' clock')) k (fun b=>ι.fp id b ∨ ∃ j∈ids,ι.fp j b) (ι.blk id) f') :
  ∃ ι',Rel E ((s.updObs (Yhs ids)).setOb id (.map false k f')) ι' a (setBlock w (ι.blk id) (.map es' clock')):=by
 have hlenid:id<s.objs.length:=Ygp hob (by simp)
 have hlen:∀ j∈ids,j<s.objs.length:=fun j hj=>by
  obtain ⟨o,z,e,hjo⟩:=hids j hj
  exact Ygp hjo (by simp)
 have hobj:∀ x,((s.updObs (Yhs ids)).setOb id (.map false k f')).obj x=if x=id then .map false k f' else if x∈ids then .dead else s.obj x:=by
  intro x
  rw [Yg5 (by rw [Yii]; exact hlenid),Ym9 ids s hlen]
 have hother:∀ b,b≠ι.blk id->(setBlock w (ι.blk id) (.map es' clock')).heap[b]? = w.heap[b]? := fun b hne=>Yod hb hne
 let ι':Interp:={ ι with fp:=fun x b=>if x=id then ι.fp id b ∨ ∃ j∈ids,ι.fp j b else if x∈ids then False else ι.fp x b }
 have hfpo:∀ x b,x≠id->ι.fp x b->b≠ι.blk id:=fun x b hx hxb e=>h.disj x id b hx hxb (by rw [e]; exact hfpb)
 have hg:∀ b,ι.G b->b≠ι.blk id:=fun b hb e=>h.gfp id b (by rw [e]; exact hfpb) hb
 have hx:Ext (fun x=>x≠id) w ι s.obj (setBlock w (ι.blk id) (.map es' clock')) ι' ((s.updObs (Yhs ids)).setOb id (.map false k f')).obj:=by
  refine ⟨fun b hb=>⟨hb,hother b (hg b hb)⟩,fun x => ?_⟩
  rw [hobj x]
  by_cases hk:x=id
  ·subst hk; rw [if_pos rfl,hob]; exact ⟨rfl,rfl,rfl,fun hk=>(hk rfl).elim⟩
  ·rw [if_neg hk]
   by_cases hk2:x∈ids
   ·rw [if_pos hk2]
    obtain ⟨o,z,e,hjo⟩:=hids x hk2
    rw [hjo]; trivial
   ·rw [if_neg hk2]
    cases hkk:s.obj x with
    | free=>trivial
    | dead=>trivial
    | box cs=>rfl
    | arr own' sz' es'=>exact ⟨rfl,rfl,fun _ b hb=>⟨.inl (by simp [ι',hk,hk2,hb]),hother b (hfpo x b hk hb)⟩⟩
    | map _ _ _=>exact ⟨rfl,rfl,rfl,fun _ b hb=>⟨.inl (by simp [ι',hk,hk2,hb]),hother b (hfpo x b hk hb)⟩⟩
 have hfp:∀ x b,ι'.fp x b->(x=id/\(ι.fp id b ∨ ∃ j∈ids,ι.fp j b)) ∨ (x≠id/\x ∉ ids/\ι.fp x b):=by
  intro x b hb
  simp only [ι'] at hb
  split at hb
  ·exact .inl ⟨‹_›,hb⟩
  ·split at hb
   ·exact hb.elim
   ·exact .inr ⟨‹_›,‹_›,hb⟩
 have hcross:∀ b,(ι.fp id b ∨ ∃ j∈ids,ι.fp j b)->∀ x,x≠id->x ∉ ids->¬ ι.fp x b:=by
  intro b hb x h8 h9 hk
  rcases hb with hb | ⟨j,hj,hjb⟩
  ·exact h.disj x id b h8 hk hb
  ·exact h.disj x j b (fun e=>h9 (e ▸ hj)) hk hjb
 have hin:∀ b,(ι.fp id b ∨ ∃ j∈ids,ι.fp j b)->∃ x,ι.fp x b:=fun b hb=>hb.elim (fun hb=>⟨id,hb⟩) fun ⟨j,_,hb⟩=>⟨j,hb⟩
 refine ⟨ι',Rel.step h hx (fun t=>.inl ⟨?_,fun c hc i' hi'=>hreg t c hc i' hi'⟩) ?_ (Yo6 _ _) (fun x => ?_) ?_ ?_ ?_ ?_ ?_ (fun b hlt hM=>hother b fun e => ?_) (by simp [setBlock]) rfl rfl⟩
 ·show ((s.updObs (Yhs ids)).setOb id _).regs.getD t _=_
  simp only [St.setOb,Yhx]; rfl
 ·simp only [St.setOb,Yhx]
 ·rw [hobj x]
  by_cases hk:x=id
  ·subst hk; right
   rw [if_pos rfl]
   show Yhu _ k (ι'.fp x) (ι.blk x) f'
   have:ι'.fp x=fun b=>ι.fp x b ∨ ∃ j∈ids,ι.fp j b:=by funext b; simp [ι']
   rw [this]; exact hm
  ·rw [if_neg hk]
   by_cases hk2:x∈ids
   ·right; rw [if_pos hk2]; intro b hb
    simp [ι',hk,hk2] at hb
   ·left; rw [if_neg hk2]
    exact ⟨rfl,⟨rfl,rfl,fun b=>by simp [ι',hk,hk2],fun b hb=>hother b (hfpo x b hk hb)⟩,fun c hc i hi=>hbox x c hc i hi⟩
 ·intro x y b hne hx1 hy1
  rcases hfp x b hx1 with ⟨rfl,f1⟩ | ⟨n1,n2,f1⟩ <;> rcases hfp y b hy1 with ⟨rfl,f2⟩ | ⟨m1,m2,f2⟩
  ·exact hne rfl
  ·exact hcross b f1 y m1 m2 f2
  ·exact hcross b f2 x n1 n2 f1
  ·exact h.disj x y b hne f1 f2
 ·intro x b hb hgb
  rcases hfp x b hb with ⟨rfl,f1⟩ | ⟨n1,n2,f1⟩
  ·obtain ⟨y,hy⟩:=hin b f1
   exact h.gfp y b hy hgb
  ·exact h.gfp x b f1 hgb
 ·intro x b hb
  rcases hfp x b hb with ⟨rfl,f1⟩ | ⟨n1,n2,f1⟩
  ·obtain ⟨y,hy⟩:=hin b f1
   exact h.own y b hy
  ·exact h.own x b f1
 ·intro x b hb
  have:b<w.heap.size:=by
   rcases hfp x b hb with ⟨rfl,f1⟩ | ⟨n1,n2,f1⟩
   ·obtain ⟨y,hy⟩:=hin b f1
    exact h.lt y b hy
   ·exact h.lt x b f1
  simpa [setBlock] using this
 ·intro b hb
  have:=h.glt b hb
  simpa [setBlock] using this
 ·subst e
  rcases h.own id _ hfpb with h1 | h1
  ·exact hM h1
  ·omega
theorem Yhu.put {T kt et:TypeId} {k:MK} {F F2:Nat->Prop} {b:Nat} {f f':Value->Option Cell} {key v:Value} {c:Cell} (h:Yhu w k F b f) (hT:P.underlying T=some (.map kt et)) (hd:P.underlying kt=some k.d) (hk:Yil k.d key) (hkt:Yus P k.d)
  (hv:OwnC w F2 v c) (hF2:∀ x,F2 x->¬ F x) (hF2b:¬ F2 b) (hu:Ylt k.d f f' key (some c)) :
  ∃ es clock es' clock',w.heap[b]? = some (.map es clock)/\F b/\(Instr.mapUpdate T (.map (some b)) key v).run P w=.ok () (setBlock w b (.map es' clock')) /\
   Yhu (setBlock w b (.map es' clock')) k (fun x=>F x ∨ F2 x) b f':=by
 obtain ⟨es,clock,Fs,h1,h2,h3,h4,h5,h6,h7,h8⟩:=h
 have hoth:∀ (o':Obj) (x:Nat),x≠b->(setBlock w b o').heap[x]? = w.heap[x]? := fun o' x hx=>Yod h1 hx
 have hvown:∀ o',OwnC (setBlock w b o') F2 v c:=fun o'=>hv.mono fun x hx=>hoth o' x fun e=>hF2b (e ▸ hx)
 have hold:∀ o' j (e:MapEntry) c',OwnC w (Fs j) e.val c'->OwnC (setBlock w b o') (Fs j) e.val c':=fun o' j e c' ho=>ho.mono fun x hx=>hoth o' x (h3 j x hx).2
 rcases Ywy (w:=w) hd hk hkt es.toList h5 with ⟨e1,e2⟩ | ⟨j,e,e1,e2,e3⟩
 ·refine ⟨es,clock,es.push { key:=key,val:=v,born:=clock },clock+1,h1,h2,?_,?_⟩
  ·simp [Instr.mapUpdate,run_underlying hT,MapKept.run_getObj_map h1,Ym7 hd hk hkt,e1,run_setObj_map _ h1,Result.andThen,setBlock]
  ·refine ⟨_,_,fun i x=>if i=es.size then F2 x else Fs i x/\i<es.size,Yop h1,.inl h2,?_,?_,?_,?_,?_,?_⟩
   ·intro i x hx
    split at hx
    ·exact ⟨.inr hx,fun e=>hF2b (e ▸ hx)⟩
    ·exact ⟨.inl (h3 i x hx.1).1,(h3 i x hx.1).2⟩
   ·intro i i' x hne hx hx'
    split at hx <;> split at hx'
    ·omega
    ·exact hF2 x hx (h3 _ x hx'.1).1
    ·exact hF2 x hx' (h3 _ x hx.1).1
    ·exact h4 i i' x hne hx.1 hx'.1
   ·intro y hy
    simp only [Array.toList_push,List.mem_append,List.mem_singleton] at hy
    rcases hy with hy | rfl
    ·exact h5 y hy
    ·exact hk
   ·simp only [Array.toList_push,List.map_append,List.map_cons,List.map_nil]
    rw [List.nodup_append]
    refine ⟨h6,by simp,?_⟩
    intro x hx y hy
    obtain ⟨z,hz,rfl⟩:=List.mem_map.1 hx
    simp only [List.mem_singleton] at hy
    rw [hy]; exact e2 z hz
   ·intro key' hk' hne
    have hkk:key'≠key:=fun e=>by
     have:=hne { key:=key,val:=v,born:=clock } (by simp)
     exact this e.symm
    rw [hu.2 key' hk' hkk]
    exact h7 key' hk' fun y hy=>hne y (by simp [hy])
   ·intro i y hy
    rw [Array.getElem?_push] at hy
    by_cases hi:i=es.size
    ·rw [if_pos hi] at hy
     simp only [Option.some.injEq] at hy
     subst hy
     simp only [if_pos hi]
     exact ⟨c,hu.1,hvown _⟩
    ·rw [if_neg hi] at hy
     simp only [if_neg hi]
     obtain ⟨c',f1,f2⟩:=h8 i y hy
     have hne:y.key≠key:=e2 y (Array.mem_toList_iff.2 (Array.mem_of_getElem? hy))
     refine ⟨c',by rw [hu.2 _ (h5 y (Array.mem_toList_iff.2 (Array.mem_of_getElem? hy))) hne]; exact f1,OwnC.wide (hold _ i y c' f2) fun x hx=>⟨hx,(Array.getElem?_eq_some_iff.1 hy).1⟩⟩
 ·have hj:es[j]? = some e:=by simpa using e2
  refine ⟨es,clock,es.modify j fun e=>{ e with key:=key,val:=v },clock,h1,h2,?_,?_⟩
  ·simp [Instr.mapUpdate,run_underlying hT,MapKept.run_getObj_map h1,Ym7 hd hk hkt,e1,hj,e3,Y1f8 hk,run_setObj_map _ h1,Result.andThen,setBlock]
  ·have hget:∀ i,(es.modify j fun e=>{ e with key:=key,val:=v })[i]? = if i=j then some { e with key:=key,val:=v } else es[i]? := by
    intro i
    rw [Array.getElem?_modify]
    by_cases hi:i=j
    ·subst hi; simp [hj]
    ·simp [hi,Ne.symm hi]
   have hkeys:(es.modify j fun e=>{ e with key:=key,val:=v }).toList.map (·.key)=es.toList.map (·.key):=
    modify_keys j _ fun e' he'=>by rw [hj] at he'; cases he'; exact e3.symm
   refine ⟨_,_,fun i x=>if i=j then F2 x else Fs i x,Yop h1,.inl h2,?_,?_,?_,?_,?_,?_⟩
   ·intro i x hx
    split at hx
    ·exact ⟨.inr hx,fun e=>hF2b (e ▸ hx)⟩
    ·exact ⟨.inl (h3 i x hx).1,(h3 i x hx).2⟩
   ·intro i i' x hne hx hx'
    split at hx <;> split at hx'
    ·omega
    ·exact hF2 x hx (h3 _ x hx').1
    ·exact hF2 x hx' (h3 _ x hx).1
    ·exact h4 i i' x hne hx hx'
   ·exact Y17g h5 _ _ fun e' he'=>by rw [hj] at he'; cases he'; exact e3.symm
   ·rw [hkeys]; exact h6
   ·intro key' hk' hne
    have hmem:∀ y∈es.toList,y.key≠key':=by
     intro y hy e'
     have:y.key∈(es.modify j fun e=>{ e with key:=key,val:=v }).toList.map (·.key):=by rw [hkeys]; exact List.mem_map.2 ⟨y,hy,rfl⟩
     obtain ⟨z,hz,hzk⟩:=List.mem_map.1 this
     exact hne z hz (hzk.trans e')
    have hkk:key'≠key:=fun e'=>hmem e (by have:=Array.mem_of_getElem? hj; simpa using this) (e3.trans e'.symm)
    rw [hu.2 key' hk' hkk]
    exact h7 key' hk' hmem
   ·intro i y hy
    rw [hget] at hy
    by_cases hi:i=j
    ·rw [if_pos hi] at hy
     simp only [Option.some.injEq] at hy
     subst hy
     simp only [if_pos hi]
     exact ⟨c,hu.1,hvown _⟩
    ·rw [if_neg hi] at hy
     simp only [if_neg hi]
     obtain ⟨c',f1,f2⟩:=h8 i y hy
     have hne:y.key≠key:=by
      intro e'
      rw [<- e3] at e'
      have h9:(es.toList.map (·.key))[i]? = some y.key:=by simp [hy]
      have h10:(es.toList.map (·.key))[j]? = some e.key:=by simp [hj]
      have hlt:i<(es.toList.map (·.key)).length:=(List.getElem?_eq_some_iff.1 h9).1
      exact hi ((List.getElem?_inj hlt h6).1 (by rw [h9,h10,e']))
     exact ⟨c',by rw [hu.2 _ (h5 y (Array.mem_toList_iff.2 (Array.mem_of_getElem? hy))) hne]; exact f1,hold _ i y c' f2⟩
theorem Yhu.del {T kt et:TypeId} {k:MK} {F:Nat->Prop} {b:Nat} {f f':Value->Option Cell} {key:Value} {tys:Array TypeId} {ty:TypeId} (h:Yhu w k F b f) (ht:tys[0]? = some T) (hT:P.underlying T=some (.map kt et)) (hd:P.underlying kt=some k.d) (hk:Yil k.d key) (hkt:Yus P k.d)
  (hu:Ylt k.d f f' key none) :
  ∃ es clock es' clock',w.heap[b]? = some (.map es clock)/\F b/\(Builtin.delete_ tys ty #[.map (some b),key]).run P w=.ok (.tuple #[]) (setBlock w b (.map es' clock')) /\
   Yhu (setBlock w b (.map es' clock')) k F b f':=by
 obtain ⟨es,clock,Fs,h1,h2,h3,h4,h5,h6,h7,h8⟩:=h
 have hoth:∀ (o':Obj) (x:Nat),x≠b->(setBlock w b o').heap[x]? = w.heap[x]? := fun o' x hx=>Yod h1 hx
 have hold:∀ o' j (e:MapEntry) c',OwnC w (Fs j) e.val c'->OwnC (setBlock w b o') (Fs j) e.val c':=fun o' j e c' ho=>ho.mono fun x hx=>hoth o' x (h3 j x hx).2
 rcases Ywy (w:=w) hd hk hkt es.toList h5 with ⟨e1,e2⟩ | ⟨j,e,e1,e2,e3⟩
 ·refine ⟨es,clock,es,clock,h1,h2,?_,?_⟩
  ·simp [Builtin.delete_,ht,run_underlying hT,MapKept.run_getObj_map h1,Ym7 hd hk hkt,e1,run_setObj_map _ h1,Result.andThen,setBlock]
  ·refine ⟨_,_,Fs,Yop h1,h2,h3,h4,h5,h6,fun key' hk' hne => ?_,fun i y hy => ?_⟩
   ·by_cases hkk:key'=key
    ·subst hkk; rw [hu.1]; exact .inl rfl
    ·rw [hu.2 key' hk' hkk]; exact h7 key' hk' hne
   ·obtain ⟨c',f1,f2⟩:=h8 i y hy
    exact ⟨c',by rw [hu.2 _ (h5 y (Array.mem_toList_iff.2 (Array.mem_of_getElem? hy))) (e2 y (Array.mem_toList_iff.2 (Array.mem_of_getElem? hy)))]; exact f1,hold _ i y c' f2⟩
 ·have hj:es[j]? = some e:=by simpa using e2
  have hjl:j<es.size:=(Array.getElem?_eq_some_iff.1 hj).1
  refine ⟨es,clock,es.eraseIdxIfInBounds j,clock,h1,h2,?_,?_⟩
  ·simp [Builtin.delete_,ht,run_underlying hT,MapKept.run_getObj_map h1,Ym7 hd hk hkt,e1,run_setObj_map _ h1,Result.andThen,setBlock]
  ·have hl:(es.eraseIdxIfInBounds j).toList=es.toList.eraseIdx j:=by
    unfold Array.eraseIdxIfInBounds
    rw [dif_pos hjl]; simp
   have hget:∀ i:Nat,(es.eraseIdxIfInBounds j)[i]? = if i<j then es[i]? else es[i+1]? := by
    intro i
    have h9:(es.eraseIdxIfInBounds j)[i]? = (es.eraseIdxIfInBounds j).toList[i]? := by rw [Array.getElem?_toList]
    rw [h9,hl,List.getElem?_eraseIdx]
    by_cases hi:i<j <;> simp [hi]
   have hsub:((es.eraseIdxIfInBounds j).toList).Sublist es.toList:=by rw [hl]; exact List.eraseIdx_sublist _ _
   have huniq:∀ (i:Nat) (y:MapEntry),es[i]? = some y->y.key=key->i=j:=by
    intro i y hy e'
    rw [<- e3] at e'
    have h9:(es.toList.map (·.key))[i]? = some y.key:=by simp [hy]
    have h10:(es.toList.map (·.key))[j]? = some e.key:=by simp [hj]
    have hlt:i<(es.toList.map (·.key)).length:=(List.getElem?_eq_some_iff.1 h9).1
    exact (List.getElem?_inj hlt h6).1 (by rw [h9,h10,e'])
   refine ⟨_,_,fun i x=>if i<j then Fs i x else Fs (i+1) x,Yop h1,h2,?_,?_,fun y hy=>h5 y (hsub.subset hy),(hsub.map _).nodup h6,?_,?_⟩
   ·intro i x hx
    split at hx
    ·exact h3 i x hx
    ·exact h3 _ x hx
   ·intro i i' x hne hx hx'
    split at hx <;> split at hx'
    ·exact h4 i i' x hne hx hx'
    ·exact h4 i (i'+1) x (by omega) hx hx'
    ·exact h4 (i+1) i' x (by omega) hx hx'
    ·exact h4 (i+1) (i'+1) x (by omega) hx hx'
   ·intro key' hk' hne
    by_cases hkk:key'=key
    ·subst hkk; rw [hu.1]; exact .inl rfl
    ·rw [hu.2 key' hk' hkk]
     refine h7 key' hk' fun y hy => ?_
     obtain ⟨i,hi⟩:=List.getElem?_of_mem hy
     have hi':es[i]? = some y:=by simpa using hi
     by_cases hij:i=j
     ·subst hij
      rw [hj] at hi'
      cases hi'
      rw [e3]; exact fun e'=>hkk e'.symm
     ·by_cases hlt:i<j
      ·exact hne y (Array.mem_toList_iff.2 (Array.mem_of_getElem? (by rw [hget,if_pos hlt]; exact hi')))
      ·refine hne y (Array.mem_toList_iff.2 (Array.mem_of_getElem? (i:=i - 1) ?_))
       rw [hget,if_neg (by omega),show i - 1+1=i by omega]; exact hi'
   ·intro i y hy
    rw [hget] at hy
    by_cases hlt:i<j
    ·rw [if_pos hlt] at hy
     simp only [if_pos hlt]
     obtain ⟨c',f1,f2⟩:=h8 i y hy
     exact ⟨c',by rw [hu.2 _ (h5 y (Array.mem_toList_iff.2 (Array.mem_of_getElem? hy))) fun e'=>by have:=huniq i y hy e'; omega]; exact f1,hold _ i y c' f2⟩
    ·rw [if_neg hlt] at hy
     simp only [if_neg hlt]
     obtain ⟨c',f1,f2⟩:=h8 (i+1) y hy
     exact ⟨c',by rw [hu.2 _ (h5 y (Array.mem_toList_iff.2 (Array.mem_of_getElem? hy))) fun e'=>by have:=huniq _ y hy e'; omega]; exact f1,hold _ (i+1) y c' f2⟩
end
end Go.Proofs.YtclpofblehlojaaGreat.Ab
end
section
namespace Go.Proofs.YtclpofblehlojaaGreat.Ab
open Go Go.MapKept Go.ChangeMaps
section
variable {P:Program} {E:Ent P} {s:St} {ι:Interp} {a:Act} {w:World}
theorem Yow {id:Nat} (s:St):∀ t,∀ c∈((s.inval [id]).reg t).acs,∀ i,c.src=some i->i≠id:=fun t c hc i hi e=>by
 rw [Yko] at hc
 exact Ym2 _ hc hi (by simp [e])
theorem Yp1 {id:Nat} (s:St):∀ k,∀ c∈((s.inval [id]).obj k).acs,∀ i,c.src=some i->i≠id:=fun k c hc i hi e=>by
 rw [Ygl] at hc
 cases hk:s.obj k with
 | box l2=>rw [hk] at hc; simp [Ygk,Ob.acs] at hc; obtain ⟨y,_,rfl⟩:=hc; exact Yk3 _ hi (by simp [e])
 | free=>rw [hk] at hc; simp [Ygk,Ob.acs] at hc
 | dead=>rw [hk] at hc; simp [Ygk,Ob.acs] at hc
 | map _ _ _=>rw [hk] at hc; simp [Ygk,Ob.acs] at hc
 | arr _ _ _=>rw [hk] at hc; simp [Ygk,Ob.acs] at hc
theorem Yu8 {id:Nat} {nn:Bool} {k:MK} {f:Value->Option Cell} (ho:s.obj id=.map nn k f):(s.inval [id]).obj id=.map nn k f:=by rw [Ygl,ho]; rfl
theorem Yv1 {F:Nat->Prop} {v:Value} {c:Cell} {id:Nat} (hn:notFree s.obj id) (h:OwnC w F v c) (hF:∀ x,F x->ι.fp id x):Yi9 w ι s.obj (Ynv (some id) c) v:=
 Ypl (src:=some id) (fun i e=>by cases e; exact hn) (h.toRd fun x hx=>.inr (hF x hx))
theorem Ytw {v:Value} {id:Nat} (hn:notFree s.obj id) (h:Yjq v) {c:Cell} (hc:c=normLit v ∨ c=.any):Yi9 w ι s.obj (Ynv (some id) c) v:=by
 rcases hc with rfl | rfl
 ·exact Yv1 hn (Yml (F:=fun _=>False) h) (fun _ h=>h.elim)
 ·exact ⟨trivial,h.one⟩
def Yvy (w:World) (ι:Interp) (id:Nat) (F:Nat->Prop) (k:MK) (f':Value->Option Cell):Bool->Prop
 | true=>(∀ b,¬ ι.fp id b)/\∀ key,Yil k.d key->Yrb k.z (f' key)
 | false=>Yhu w k (fun x=>ι.fp id x/\¬ F x) (ι.blk id) f'
theorem Yxb (h:Rel E s ι a w) {T kt et:TypeId} {m key z:Value} {id:Nat} {nn:Bool} {k:MK} {f:Value->Option Cell} (hob:s.obj id=.map nn k f) (hm:Ygx w ι s.obj (.mref id) m)
  (hT:P.underlying T=some (.map kt et)) (hd:P.underlying kt=some k.d) (hk:Yil k.d key) (hkt:Yus P k.d) (hz:Yjq z/\∀ w:World,(zeroValue et).run P w=.ok z w) (hzo:zOK z k.z=true) (ok:Bool) :
  ∃ v F b,(Instr.lookup T m key ok).run P w=.ok (if ok then .tuple #[v,.bool b] else v) w /\
   ((b=true/\nn=false/\(∀ x,F x->ι.fp id x/\x≠ι.blk id)/\(∃ c,f key=some c/\OwnC w F v c) /\
    ∀ f',Ylt k.d f f' key (some .any)->Yvy w ι id F k f' nn) ∨ (b=false/\v=z/\Yrb k.z (f key)/\(∀ x,¬ F x)/\∀ f',Ylt k.d f f' key (some .any)->k.z=some z->Yvy w ι id F k f' nn)):=by
 have hmv:=hm.2 _ _ _ hob
 have hem:∀ f' key',Yil k.d key'->Ylt k.d f f' key (some .any)->k.z=some z->Yrb k.z (f key')->Yrb k.z (f' key'):=by
  intro f' key' hk' hu hkz hek
  by_cases hkk:key'=key
  ·subst hkk; rw [hu.1]; exact .inr ⟨z,hkz,hz.1,.inr rfl⟩
  ·rw [hu.2 key' hk' hkk]; exact hek
 rcases Y1qm h hob with ⟨rfl,h1,h2⟩ | ⟨rfl,es,clock,Fs,h1,h2,h3,h4,h5,h6,h7,h8⟩
 ·rcases Y159 (w:=w) (m:=m) (es:=#[]) hT hd hk hkt hz.2 (by simp) (.inl ⟨hmv,rfl⟩) ok with ⟨e1,e2⟩ | ⟨j,e,e1,_⟩
  ·exact ⟨z,fun _=>False,false,e2,.inr ⟨rfl,rfl,h2 key hk,fun _ h=>h,fun f' hu hkz=>⟨h1,fun key' hk'=>hem f' key' hk' hu hkz (h2 key' hk')⟩⟩⟩
  ·simp at e1
 ·rcases Y159 (w:=w) (m:=m) (es:=es) hT hd hk hkt hz.2 h5 (.inr ⟨_,clock,hmv,h1⟩) ok with ⟨e1,e2⟩ | ⟨j,e,e1,e2,e3⟩
  ·refine ⟨z,fun _=>False,false,e2,.inr ⟨rfl,rfl,h7 key hk e1,fun _ h=>h,fun f' hu hkz => ?_⟩⟩
   refine ⟨es,clock,Fs,h1,⟨h2,fun hx=>hx⟩,fun i x hx=>⟨⟨(h3 i x hx).1,fun hx=>hx⟩,(h3 i x hx).2⟩,h4,h5,h6,fun key' hk' hne=>hem f' key' hk' hu hkz (h7 key' hk' hne),fun i y hy => ?_⟩
   obtain ⟨c',q1,q2⟩:=h8 i y hy
   exact ⟨c',by rw [hu.2 _ (h5 y (Array.mem_toList_iff.2 (Array.mem_of_getElem? hy))) (e1 y (Array.mem_toList_iff.2 (Array.mem_of_getElem? hy)))]; exact q1,q2⟩
  ·obtain ⟨c,f1,f2⟩:=h8 j e e1
   refine ⟨e.val,Fs j,true,e3,.inl ⟨rfl,rfl,fun x hx=>h3 j x hx,⟨c,by rw [<- e2]; exact f1,f2⟩,fun f' hu => ?_⟩⟩
   refine ⟨es,clock,fun i x=>i≠j/\Fs i x,h1,⟨h2,fun hx=>(h3 j _ hx).2 rfl⟩,fun i x hx=>⟨⟨(h3 i x hx.2).1,h4 i j x hx.1 hx.2⟩,(h3 i x hx.2).2⟩,fun i i' x hne hx hx'=>h4 i i' x hne hx.2 hx'.2,h5,h6,fun key' hk' hne => ?_,fun i y hy => ?_⟩
   ·rw [hu.2 key' hk' fun e'=>hne e (Array.mem_toList_iff.2 (Array.mem_of_getElem? e1)) (e2.trans e'.symm)]
    exact h7 key' hk' hne
   ·obtain ⟨c',g1,g2⟩:=h8 i y hy
    by_cases hij:i=j
    ·subst hij
     rw [e1] at hy
     cases hy
     exact ⟨.any,by rw [e2]; exact hu.1,.any g2.one⟩
    ·have hne:y.key≠key:=by
      intro e'
      rw [<- e2] at e'
      have h9:(es.toList.map (·.key))[i]? = some y.key:=by simp [hy]
      have h10:(es.toList.map (·.key))[j]? = some e.key:=by simp [e1]
      have hlt:i<(es.toList.map (·.key)).length:=(List.getElem?_eq_some_iff.1 h9).1
      exact hij ((List.getElem?_inj hlt h6).1 (by rw [h9,h10,e']))
     exact ⟨c',by rw [hu.2 _ (h5 y (Array.mem_toList_iff.2 (Array.mem_of_getElem? hy))) hne]; exact g1,OwnC.wide g2 fun x hx=>⟨hij,hx⟩⟩
theorem Rel.takeMap (h:Rel E s ι a w) {id n:Nat} {nn:Bool} {k:MK} {f f':Value->Option Cell} (hob:s.obj id=.map nn k f) (hreg:∀ t,∀ c∈(s.reg t).acs,∀ i,c.src=some i->i≠id)
  (hbox:∀ k,∀ c∈(s.obj k).acs,∀ i,c.src=some i->i≠id) (hf:s.obj n=.free) (hn:n<s.objs.length) {v:Value} {F:Nat->Prop} {es:List (List Cell)} {sz:Nat}
  (hF:∀ x,F x->ι.fp id x) (ha:Ygs w (Yhm w ι.G true) sz F v es) (h1:v.oneCell'=true)
  (hm:Yvy w ι id F k f' nn) :
  ∃ ι',Rel E ((s.setOb id (.map nn k f')).setOb n (.arr true sz es)) ι' a w/\Yh5 w ι' ((s.setOb id (.map nn k f')).setOb n (.arr true sz es)).obj (.one (.ref n)) v:=by
 have hidl:id<s.objs.length:=Ygp hob (by simp)
 have hidn:id≠n:=fun e=>by rw [e,hf] at hob; cases hob
 have hobj:∀ x,((s.setOb id (.map nn k f')).setOb n (.arr true sz es)).obj x=if x=n then .arr true sz es else if x=id then .map nn k f' else s.obj x:=by
  intro x
  rw [Yg5 (by rw [Yga]; exact hn),Yg5 hidl]
 let ι':Interp:={ ι with sl:=fun x=>if x=n then v else ι.sl x,fp:=fun x b=>if x=n then F b else if x=id then ι.fp id b/\¬ F b else ι.fp x b }
 have hx:Ext (fun x=>x≠id) w ι s.obj w ι' ((s.setOb id (.map nn k f')).setOb n (.arr true sz es)).obj:=by
  refine ⟨fun b hb=>⟨hb,rfl⟩,fun x => ?_⟩
  rw [hobj]
  by_cases hk:x=n
  ·subst hk; rw [if_pos rfl,hf]; trivial
  ·rw [if_neg hk]
   by_cases hk2:x=id
   ·subst hk2; rw [if_pos rfl,hob]; exact ⟨rfl,rfl,rfl,fun hk=>(hk rfl).elim⟩
   ·rw [if_neg hk2]
    cases hkk:s.obj x with
    | free=>trivial
    | dead=>trivial
    | box cs=>rfl
    | arr o1 s1 e1=>exact ⟨by simp only [ι',if_neg hk],rfl,fun _ b hb=>⟨.inl (by simp only [ι',if_neg hk,if_neg hk2]; exact hb),rfl⟩⟩
    | map _ _ _=>exact ⟨rfl,rfl,rfl,fun _ b hb=>⟨.inl (by simp only [ι',if_neg hk,if_neg hk2]; exact hb),rfl⟩⟩
 have hfp:∀ x b,ι'.fp x b->(x=n/\F b) ∨ (x=id/\ι.fp id b/\¬ F b) ∨ (x≠n/\x≠id/\ι.fp x b):=by
  intro x b hb
  simp only [ι'] at hb
  split at hb
  ·exact .inl ⟨‹_›,hb⟩
  ·split at hb
   ·exact .inr (.inl ⟨‹_›,hb⟩)
   ·exact .inr (.inr ⟨‹_›,‹_›,hb⟩)
 have hold:∀ x b,ι'.fp x b->∃ y,ι.fp y b:=by
  intro x b hb
  rcases hfp x b hb with ⟨_,hb⟩ | ⟨_,hb,_⟩ | ⟨_,_,hb⟩
  ·exact ⟨id,hF b hb⟩
  ·exact ⟨id,hb⟩
  ·exact ⟨x,hb⟩
 refine ⟨ι',?_,⟨by unfold notFree; rw [hobj,if_pos rfl]; trivial,fun _ _ _ _=>by simp only [ι',if_true]⟩,fun _=>h1⟩
 refine Rel.step h hx (fun t=>.inl ⟨rfl,fun c hc i hi=>hreg t c hc i hi⟩) rfl rfl (fun x => ?_) ?_ ?_ ?_ ?_ h.glt (fun _ _ _=>rfl) (Nat.le_refl _) rfl rfl
 ·by_cases hk:x=n
  ·right; rw [hobj,if_pos hk,hk]
   show Ygs w (Yhm w ι.G true) sz (ι'.fp n) (ι'.sl n) es
   have e1:ι'.sl n=v:=by simp only [ι',if_true]
   have e2:ι'.fp n=F:=by funext b; simp only [ι',if_true]
   rw [e1,e2]; exact ha
  ·by_cases hk2:x=id
   ·right; rw [hobj,if_neg hk,if_pos hk2,hk2]
    cases nn with
    | true=>exact ⟨fun b hb=>hm.1 b (by simp only [ι',if_neg hidn,if_true] at hb; exact hb.1),hm.2⟩
    | false=>
     show Yhu w k (ι'.fp id) (ι.blk id) f'
     have e2:ι'.fp id=fun x=>ι.fp id x/\¬ F x:=by funext b; simp only [ι',if_neg hidn,if_true]
     rw [e2]; exact hm
   ·left
    rw [hobj,if_neg hk,if_neg hk2]
    exact ⟨rfl,⟨rfl,by simp only [ι',if_neg hk],fun b=>by simp only [ι',if_neg hk,if_neg hk2],fun _ _=>rfl⟩,fun c hc i hi=>hbox x c hc i hi⟩
 ·intro x y b hne hx1 hy1
  rcases hfp x b hx1 with ⟨rfl,f1⟩ | ⟨rfl,f1,g1⟩ | ⟨n1,n2,f1⟩ <;> rcases hfp y b hy1 with ⟨rfl,f2⟩ | ⟨rfl,f2,g2⟩ | ⟨m1,m2,f2⟩
  ·exact hne rfl
  ·exact g2 f1
  ·exact h.disj id y b (fun e=>m2 e.symm) (hF b f1) f2
  ·exact g1 f2
  ·exact hne rfl
  ·exact h.disj x y b hne f1 f2
  ·exact h.disj x id b n2 f1 (hF b f2)
  ·exact h.disj x y b hne f1 f2
  ·exact h.disj x y b hne f1 f2
 ·intro x b hb hg
  obtain ⟨y,hy⟩:=hold x b hb
  exact h.gfp y b hy hg
 ·intro x b hb
  obtain ⟨y,hy⟩:=hold x b hb
  exact h.own y b hy
 ·intro x b hb
  obtain ⟨y,hy⟩:=hold x b hb
  exact h.lt y b hy
theorem Y12k (h:Rel E s ι a w) {o:Oper} {T:TypeId} {m x:Operand} {ok:Bool} (ho:o.op=.lookup T m x ok) {n:Nat} {r:Res} {q q':List Orc} {it:List Item} {K:Prop}
  (e:eLookup P s T m x ok n q=some (r,it,q')) (vc:VC it K) (hroom:Ykh s n r.new.length):EOK P E s a w o n r/\K:=by
 unfold eLookup at e
 split at e
 ·rename_i id hm
  split at e
  ·rename_i nn k f key d kt et hob hkey hT
   split at e
   ·rename_i z hz
    split at e
    ·rename_i hc
     simp only [Bool.and_eq_true] at hc
     obtain ⟨⟨hc1,hc2⟩,hc3⟩:=hc
     obtain ⟨t1,t2,t3⟩:=Y10w hT
     have hde:=Yxa hc1
     rw [<- hde] at t2 t3
     have hik:Yil k.d key:=by rw [hde]; exact Yzs hc2
     have hzz:=Y1hn hz
     have hnf:notFree s.obj id:=(Yhe h hm).1
     have hke:=Ywz h hkey
     split at e
     ·rename_i c q1
      simp only [Option.some.injEq,Prod.mk.injEq] at e
      obtain ⟨rfl,rfl,rfl⟩:=e
      obtain ⟨hl,hK⟩:=vc
      refine ⟨?_,hK⟩
      obtain ⟨v,F,b,hrun,hv⟩:=Yxb (P:=P) h hob (Yhe h hm) t1 t2 hik t3 hzz hc3 false
      refine EOK.value (ι':=ι) (w':=w) (v:=v) ?_ h ?_
      ·simp only [execOp,ho,hke]
       exact Yij _ (by simpa using hrun)
      ·have hcr:Yi9 w ι s.obj (Ynv (some id) c) v:=by
        rcases hv with ⟨_,_,hF,⟨c',hf,ho'⟩,_⟩ | ⟨_,rfl,he,_⟩
        ·rcases hl with hl | ⟨hl,_⟩ <;> rw [hf] at hl <;> cases hl
         exact Yv1 hnf ho' fun x hx=>(hF x hx).1
        ·exact Ytw hnf hzz.1 (Y12g hc3 he hl)
       exact ⟨hcr.1,fun _=>hcr.2⟩
     ·rename_i c b0 q1
      split at e
      ·rename_i hkz
       simp only [Option.some.injEq,Prod.mk.injEq] at e
       obtain ⟨rfl,rfl,rfl⟩:=e
       obtain ⟨hl,hK⟩:=vc
       refine ⟨?_,hK⟩
       obtain ⟨v,F,b,hrun,hv⟩:=Yxb (P:=P) h hob (Yhe h hm) t1 t2 hik t3 hzz hc3 true
       have key':b0=b/\Yi9 w ι s.obj (Ynv (some id) c) v:=by
        rcases hv with ⟨rfl,_,hF,⟨c',hf,ho'⟩,_⟩ | ⟨rfl,rfl,he,_⟩
        ·rcases hl with ⟨hl,rfl⟩ | ⟨hl,_⟩ <;> rw [hf] at hl <;> cases hl
         exact ⟨rfl,Yv1 hnf ho' fun x hx=>(hF x hx).1⟩
        ·rcases he with he | ⟨v,he,_⟩
         ·rcases hl with ⟨hl,_⟩ | ⟨hl,rfl,rfl⟩
          ·rw [he] at hl; cases hl
          ·exact ⟨rfl,Ytw hnf hzz.1 (.inl rfl)⟩
         ·rw [hkz] at he; cases he
       obtain ⟨rfl,hcr⟩:=key'
       refine EOK.value (ι':=ι) (w':=w) (v:=.tuple #[v,.bool b0]) ?_ h ?_
       ·simp only [execOp,ho,hke]
        exact Yij _ (by simpa using hrun)
       ·exact ⟨_,rfl,⟨hcr.1,fun _=>hcr.2⟩,⟨.lit trivial,fun _=>rfl⟩,trivial⟩
      ·cases e
     ·rename_i es sz f' q1
      simp only [Option.some.injEq,Prod.mk.injEq] at e
      obtain ⟨rfl,rfl,rfl⟩:=e
      obtain ⟨hl,hu,hkz,hsz,hK⟩:=vc
      refine ⟨?_,hK⟩
      have h1:=h.inval [id]
      have hob1:=Yu8 hob
      obtain ⟨hfr,hnl⟩:=hroom n (Nat.le_refl _) (by simp)
      have hfr1:(s.inval [id]).obj n=.free:=by rw [Ygl,hfr]; rfl
      have hnl1:n<(s.inval [id]).objs.length:=by rw [Yhh]; exact hnl
      obtain ⟨v,F,b,hrun,hv⟩:=Yxb (P:=P) h hob (Yhe h hm) t1 t2 hik t3 hzz hc3 false
      have hko:∃ F',(∀ x,F' x->ι.fp id x)/\OwnC w F' v (.list es)/\Yvy w ι id F' k f' nn:=by
       rcases hv with ⟨_,_,hF,⟨c',hf,ho'⟩,hM⟩ | ⟨_,rfl,he,hFn,hM⟩
       ·rcases hl with hl | ⟨hl,_⟩ <;> rw [hf] at hl <;> cases hl
        exact ⟨F,fun x hx=>(hF x hx).1,ho',hM f' hu⟩
       ·have hes:Cell.list es=normLit v:=by
         rcases Y12g hc3 he hl with e | e
         ·exact e
         ·cases e
        exact ⟨F,fun x hx=>(hFn x hx).elim,by rw [hes]; exact Yml hzz.1,hM f' hu hkz⟩
      obtain ⟨F',k1,k2,k3⟩:=hko
      obtain ⟨ι',k4,k5⟩:=Rel.takeMap h1 hob1 (Yow s) (Yp1 s) hfr1 hnl1 k1 (OwnC.arrRel k2 hsz) k2.one k3
      refine EOK.value (ι':=ι') (w':=w) (v:=v) ?_ k4 k5
      simp only [execOp,ho,hke]
      exact Yij _ (by simpa using hrun)
     ·cases e
    ·cases e
   ·cases e
  ·cases e
 ·cases e
theorem Rel.newMap (h:Rel E s ι a w) {n:Nat} (hf:s.obj n=.free) (hn:n<s.objs.length) {k:MK} {f:Value->Option Cell} (he:∀ key,Yil k.d key->Yrb k.z (f key)) :
  ∃ ι',Rel E (s.setOb n (.map false k f)) ι' a (w.alloc (.map #[] 0))/\Yh5 (w.alloc (.map #[] 0)) ι' (s.setOb n (.map false k f)).obj (.one (.mref n)) (.map (some w.heap.size)):=by
 let ι':Interp:={ ι with blk:=fun i=>if i=n then w.heap.size else ι.blk i,fp:=fun i b=>if i=n then b=w.heap.size else ι.fp i b }
 have hsz:(w.alloc (.map #[] 0)).heap.size=w.heap.size+1:=by show (w.heap.push _).size=_; simp
 refine ⟨ι',Rel.fresh h hf hn _ rfl (fun i hi=>by simp [ι',hi]) (fun b hb => ?_) (fun b hb=>Yjy w _ b hb) (by omega) rfl rfl ?_,⟨?_,fun nn k' f' e => ?_⟩,fun _=>rfl⟩
 ·simp only [ι',if_true] at hb; omega
 ·show Yhu _ k (ι'.fp n) (ι'.blk n) f
  refine ⟨#[],0,fun _ _=>False,?_,?_,by simp,by simp,by simp,by simp,fun key hk _=>he key hk,by simp⟩
  ·simp only [ι',if_true]; exact (MapKept.heap_alloc w _).1
  ·simp only [ι',if_true]
 ·unfold notFree; rw [Yg5 hn,if_pos rfl]; trivial
 ·rw [Yg5 hn,if_pos rfl] at e
  cases e
  simp [Y1ar,ι']
theorem Y10q (h:Rel E s ι a w) {o:Oper} {T:TypeId} {hint:Option Operand} (ho:o.op=.makeMap T hint) {n:Nat} {r:Res} {q q':List Orc} {it:List Item} {K:Prop}
  (e:Ysq P T hint n q=some (r,it,q')) (vc:VC it K) (hroom:Ykh s n r.new.length):EOK P E s a w o n r/\K:=by
 unfold Ysq at e
 split at e
 ·rename_i k q1
  split at e
  ·rename_i hok
   simp only [Option.some.injEq,Prod.mk.injEq] at e
   obtain ⟨rfl,rfl,rfl⟩:=e
   refine ⟨?_,vc⟩
   obtain ⟨hfr,hnl⟩:=hroom n (Nat.le_refl _) (by simp)
   obtain ⟨ι',k4,k5⟩:=h.newMap hfr hnl fun key _=>Y11t hok key
   refine EOK.value (ι':=ι') (w':=w.alloc (.map #[] 0)) (v:=.map (some w.heap.size)) ?_ k4 k5
   simp only [execOp,ho]
   exact Yij _ rfl
  ·cases e
 ·cases e
theorem Y1bn (h:Rel E s ι a w) {v:AC} {x:Value} {c:Cell} {ids:List Nat} (e:absorbOwn s [v]=some ([c],ids)) (hv:Yi9 w ι s.obj v x) :
  (∀ j∈ids,Ymo (s.obj j))/\∃ F:Nat->Prop,(∀ b,F b->∃ j∈ids,ι.fp j b)/\OwnC w F x c:=by
 obtain ⟨h1,h2,Fs,h3,h4,h5⟩:=Yng h e (vs:=[x]) ⟨hv,trivial⟩
 exact ⟨h1,Fs 0,fun b hb=>h3 0 b hb,h5 0 x c rfl rfl⟩
theorem Yqa (h:Rel E s ι a w) {o:Oper} {T:TypeId} {m x y:Operand} (ho:o.op=.mapUpdate T m x y ∨ o.op=.insert T m x y) {n:Nat} {r:Res} {q q':List Orc} {it:List Item} {K:Prop}
  (e:eMapUpdate P s T m x y q=some (r,it,q')) (vc:VC it K):EOK P E s a w o n r/\K:=by
 unfold eMapUpdate at e
 split at e
 ·rename_i id f' q1 hm
  split at e
  ·rename_i nn k f key d kt et v hob hkey hT hy
   split at e
   ·rename_i hc
    simp only [Bool.and_eq_true] at hc
    obtain ⟨hc1,hc2⟩:=hc
    obtain ⟨t1,t2,t3⟩:=Y10w hT
    have hde:=Yxa hc1
    rw [<- hde] at t2 t3
    have hik:Yil k.d key:=by rw [hde]; exact Yzs hc2
    have hke:=Ywz h hkey
    split at e
    ·rename_i c ids hab
     split at e
     ·rename_i hnin
      simp only [Option.some.injEq,Prod.mk.injEq] at e
      obtain ⟨rfl,rfl,rfl⟩:=e
      obtain ⟨hnn,hu,hK⟩:=vc
      subst hnn
      refine ⟨?_,hK⟩
      have hyr:=Yhe h hy
      have hvt:v≠.top:=fun e=>by rw [e] at hab; simp [absorbOwn] at hab
      have hy1:(a.eval y).oneCell'=true:=by
       have:=Yjo h (x:=y) (v:=.sv (.one v)) (by
        unfold St.ac at hy
        split at hy
        ·rename_i c' hc'; cases hy; exact hc'
        ·cases hy)
       exact this.2 hvt
      obtain ⟨a1,F2,a2,a3⟩:=Y1bn h hab ⟨hyr,hy1⟩
      have hmv:=(Yhe h hm).2 _ _ _ hob
      have hmr:Yhu w k (ι.fp id) (ι.blk id) f:=by have:=h.objs id; rw [hob] at this; exact this
      have hfpb:ι.fp id (ι.blk id):=by obtain ⟨_,_,_,_,h2,_⟩:=hmr; exact h2
      have hnid:id ∉ ids:=by simpa using hnin
      have hF2:∀ z,F2 z->¬ ι.fp id z:=fun z hz hz'=>by
       obtain ⟨j,hj,hjz⟩:=a2 z hz
       exact h.disj j id z (fun e=>hnid (e ▸ hj)) hjz hz'
      obtain ⟨es,clock,es',clock',k1,k2,k3,k4⟩:=Yhu.put (T:=T) (kt:=kt) (et:=et) hmr t1 t2 hik t3 a3 hF2 (fun hb=>hF2 _ hb hfpb) hu
      have h1:=h.inval [id]
      obtain ⟨ι',k5⟩:=Rel.setMap h1 (Yu8 hob) (Yow s) (Yp1 s) (ids:=ids) (fun j hj=>Ypw ids id s j (a1 j hj)) hnid k1 k2
       (k4.mono (fun x hx=>hx.imp (fun h=>h) (a2 x)) fun _ _=>rfl)
      refine EOK.skip (ι':=ι') (w':=setBlock w (ι.blk id) (.map es' clock')) ?_ ?_ Yn0
      ·have hmm:a.eval m=.map (some (ι.blk id)):=hmv
       rcases ho with ho | ho <;> simp only [execOp,ho,hke,hmm] <;> rw [Sem.run_bind,k3] <;> rfl
      ·simp only [St.app,St.setObs,Ymp]
       exact k5
     ·cases e
    ·cases e
   ·cases e
  ·cases e
 ·cases e
theorem Yws (h:Rel E s ι a w) {o:Oper} {args:Array Operand} {tys:Array TypeId} (ho:o.op=.call { callee:=.builtin .delete,args:=args,argTypes:=tys }) {n:Nat} {r:Res} {q q':List Orc} {it:List Item} {K:Prop}
  (e:eMapDelete P s args tys q=some (r,it,q')) (vc:VC it K):EOK P E s a w o n r/\K:=by
 unfold eMapDelete at e
 split at e
 ·rename_i m x T tr f' q1 hargs htys
  split at e
  ·rename_i id hm
   split at e
   ·rename_i nn k f key d kt et hob hkey hT
    split at e
    ·rename_i hc
     simp only [Bool.and_eq_true] at hc
     obtain ⟨hc1,hc2⟩:=hc
     obtain ⟨t1,t2,t3⟩:=Y10w hT
     have hde:=Yxa hc1
     rw [<- hde] at t2 t3
     have hik:Yil k.d key:=by rw [hde]; exact Yzs hc2
     have hke:=Ywz h hkey
     simp only [Option.some.injEq,Prod.mk.injEq] at e
     obtain ⟨rfl,rfl,rfl⟩:=e
     obtain ⟨hnn,hu,hK⟩:=vc
     subst hnn
     refine ⟨?_,hK⟩
     have hmv:=(Yhe h hm).2 _ _ _ hob
     have hmr:Yhu w k (ι.fp id) (ι.blk id) f:=by have:=h.objs id; rw [hob] at this; exact this
     have htt:tys[0]? = some T:=by
      have:tys.toList[0]? = some T:=by rw [htys]; rfl
      simpa using this
     obtain ⟨es,clock,es',clock',k1,k2,k3,k4⟩:=Yhu.del (tys:=tys) (ty:=o.type) hmr htt t1 t2 hik t3 hu
     have h1:=h.inval [id]
     obtain ⟨ι',k5⟩:=Rel.setMap h1 (Yu8 hob) (Yow s) (Yp1 s) (ids:=[]) (by simp) (by simp) k1 k2
      (k4.mono (fun x hx=>.inl hx) fun _ _=>rfl)
     refine EOK.value (ι':=ι') (w':=setBlock w (ι.blk id) (.map es' clock')) (v:=.tuple #[]) ?_ k5 Yn0
     have hargs':args=#[m,x]:=by rw [<- Array.toArray_toList (xs:=args),hargs]
     have hmm:a.eval m=.map (some (ι.blk id)):=hmv
     simp only [execOp,ho,hargs',resolve,Sem.run_bind,Sem.run_pure,Result.andThen_ok,invoke,builtin]
     simp [hmm,hke,k3]
    ·cases e
   ·cases e
  ·cases e
 ·cases e
theorem Yr2 {kt et T:TypeId} (hT:P.underlying T=some (.map kt et)) (o:Option Nat) (w:World):(Op.equalIn Op.maxDepth T (.map o) (.map none)).run P w=.ok o.isNone w:=by
 have hd:Op.maxDepth=(Op.maxDepth - 1)+1:=rfl
 rw [hd]
 unfold Op.equalIn
 simp only [Sem.run_bind,run_underlying hT,Result.andThen]
 cases o <;> rfl
theorem Y12n (h:Rel E s ι a w) {o:Oper} {op:BinOp} {T:TypeId} {x y:Operand} {z:TypeId} (ho:o.op=.binOp op T x y z) {n:Nat} {r:Res} (e:eMapNil P s op T x y=some r):EOK P E s a w o n r:=by
 unfold eMapNil at e
 split at e
 ·rename_i kt et hT
  split at e
  ·rename_i id hx hy
   have hye:=(Yjw h hy).1
   split at e
   ·rename_i nn k f hob
    have hmv:=(Yhe h hx).2 _ _ _ hob
    split at e
    ·simp only [Option.some.injEq] at e; subst e
     refine EOK.value (ι':=ι) (w':=w) (v:=.bool nn) ?_ h (Yie trivial)
     simp only [execOp,ho,hmv,hye]
     refine Yij _ ?_
     cases nn <;> simp [eqGuard,Y1ar,binOp,Op.equal,Yr2 hT,Result.andThen]
    ·simp only [Option.some.injEq] at e; subst e
     refine EOK.value (ι':=ι) (w':=w) (v:=.bool (!nn)) ?_ h (Yie trivial)
     simp only [execOp,ho,hmv,hye]
     refine Yij _ ?_
     cases nn <;> simp [eqGuard,Y1ar,binOp,Op.equal,Yr2 hT,Result.andThen]
    ·cases e
   ·cases e
  ·rename_i hx hy
   have hye:=(Yjw h hy).1
   have hxe:=(Yjw h (x:=x) (v:=.map none) (by unfold St.lit; rw [hx])).1
   split at e
   ·simp only [Option.some.injEq] at e; subst e
    refine EOK.value (ι':=ι) (w':=w) (v:=.bool true) ?_ h (Yie trivial)
    simp only [execOp,ho,hxe,hye]
    refine Yij _ ?_
    simp [eqGuard,binOp,Op.equal,Yr2 hT,Result.andThen]
   ·simp only [Option.some.injEq] at e; subst e
    refine EOK.value (ι':=ι) (w':=w) (v:=.bool false) ?_ h (Yie trivial)
    simp only [execOp,ho,hxe,hye]
    refine Yij _ ?_
    simp [eqGuard,binOp,Op.equal,Yr2 hT,Result.andThen]
   ·cases e
  ·cases e
 ·cases e
end
end Go.Proofs.YtclpofblehlojaaGreat.Ab
end
section
namespace Go.Proofs.YtclpofblehlojaaGreat.Ab
open Go
section
variable {P:Program} {E:Ent P} {s:St} {ι:Interp} {a:Act} {w:World}
def Yi2:List Nat->List Cell->List Cell
 | [],e=>e
 | p :: r,e=>(Yi2 r e).set p .any
theorem Ym8:∀ (ps:List Nat) (e:List Cell),(Yi2 ps e).length=e.length
 | [],_=>rfl
 | p :: r,e=>by simp only [Yi2,List.length_set,Ym8 r e]
theorem Yuv {sz:Nat} {es:List (List Cell)} {i:Nat} {e:List Cell} (hsz:∀ x∈es,x.length=sz) (he:es[i]? = some e):∀ (ps:List Nat),(∀ p∈ps,p<e.length)->∀ (q:Nat) (c:Cell),
  (es.set i (Yi2 ps e)).flatten[q]? = some c->((∃ p∈ps,q=i * sz+p)/\c=.any) ∨ ((∀ p∈ps,q≠i * sz+p)/\es.flatten[q]? = some c)
 | [],_,q,c,h=>by
  have hil:i<es.length:=(List.getElem?_eq_some_iff.1 he).1
  have:es.set i e=es:=by
   have:=(List.getElem?_eq_some_iff.1 he).2
   rw [<- this,List.set_getElem_self]
  simp only [Yi2,this] at h
  exact .inr ⟨by simp,h⟩
 | p :: r,hp,q,c,h=>by
  have hil:i<es.length:=(List.getElem?_eq_some_iff.1 he).1
  have hel:e.length=sz:=hsz e (List.mem_of_getElem? he)
  have h1:∀ x∈es.set i (Yi2 r e),x.length=sz:=by
   intro x hx
   rcases List.mem_or_eq_of_mem_set hx with hm | rfl
   ·exact hsz x hm
   ·rw [Ym8,hel]
  have h2:(es.set i (Yi2 r e))[i]? = some (Yi2 r e):=by rw [List.getElem?_set_self hil]
  have h3:(es.set i (Yi2 (p :: r) e))=(es.set i (Yi2 r e)).set i ((Yi2 r e).set p .any):=by rw [List.set_set]; rfl
  have hpl:p<(Yi2 r e).length:=by rw [Ym8]; exact hp p List.mem_cons_self
  rw [h3,Yq5 h1 h2 hpl,List.getElem?_set] at h
  split at h
  ·rename_i hq
   split at h
   ·simp only [Option.some.injEq] at h
    exact .inl ⟨⟨p,List.mem_cons_self,hq.symm⟩,h.symm⟩
   ·cases h
  ·rename_i hq
   rcases Yuv hsz he r (fun x hx=>hp x (List.mem_cons_of_mem _ hx)) q c h with ⟨⟨p',hp',e'⟩,e2⟩ | ⟨h4,h5⟩
   ·exact .inl ⟨⟨p',List.mem_cons_of_mem _ hp',e'⟩,e2⟩
   ·refine .inr ⟨fun p' hp' => ?_,h5⟩
    rcases List.mem_cons.1 hp' with rfl | hp'
    ·exact fun e=>hq e.symm
    ·exact h4 p' hp'
theorem Rel.carve (h:Rel E s ι a w) {id n i sz:Nat} {es:List (List Cell)} {e:List Cell} (ho:s.obj id=.arr true sz es) (he:es[i]? = some e) {ps:List Nat} (hps:∀ p∈ps,p<e.length)
  (hf:s.obj n=.free) (hn:n<s.objs.length) (hreg:∀ t,∀ c∈(s.reg t).acs,∀ k,c.src=some k->k≠id) (hbox:∀ k,∀ c∈(s.obj k).acs,∀ k',c.src=some k'->k'≠id) :
  ∃ (ι':Interp) (Fs:Nat->Nat->Prop),Rel E ((s.setOb id (.arr true sz (es.set i (Yi2 ps e)))).setOb n (.arr true 1 [])) ι' a w/\ι'.G=ι.G/\(∀ k,k≠n->ι'.sl k=ι.sl k) /\
   (∀ p b,p∈ps->Fs p b->ι'.fp n b)/\(∀ p p' b,p≠p'->Fs p b->¬ Fs p' b) /\
   ∀ b,(ι.sl id).ownBlock=some b->∀ p v c,w.cell? ⟨b,i * sz+p,none⟩=some v->e[p]? = some c->OwnC w (Fs p) v c:=by
 have hor:=h.objs id
 rw [ho] at hor
 obtain ⟨e0,xs,Fs,h1,h2,h3,h4,h5,h6,h7,h0⟩:=hor
 have hlx:xs.length=es.flatten.length:=by rw [h1.1,Yh6 h2]
 have hidn:id≠n:=fun e=>by rw [e,hf] at ho; cases ho
 have hidl:id<s.objs.length:=Ygp ho (by simp)
 let s':=(s.setOb id (.arr true sz (es.set i (Yi2 ps e)))).setOb n (.arr true 1 [])
 have hobj:∀ k,s'.obj k=if k=n then .arr true 1 [] else if k=id then .arr true sz (es.set i (Yi2 ps e)) else s.obj k:=by
  intro k
  show ((s.setOb id _).setOb n _).obj k=_
  rw [Yg5 (by rw [Yga]; exact hn),Yg5 hidl]
 let D:Nat->Prop:=fun b=>∃ p∈ps,Fs (i * sz+p) b
 let ι':Interp:={ ι with sl:=fun k=>if k=n then .slice none 0 0 else ι.sl k,fp:=fun k b=>if k=n then D b else if k=id then ι.fp id b/\¬ D b else ι.fp k b }
 have hsl:ι'.sl id=ι.sl id:=by simp only [ι',if_neg hidn]
 have hext:Ext (fun k=>k≠id) w ι s.obj w ι' s'.obj:=by
  refine ⟨fun b hb=>⟨hb,rfl⟩,fun k => ?_⟩
  rw [hobj]
  by_cases hk:k=n
  ·subst hk; rw [if_pos rfl,hf]; trivial
  ·rw [if_neg hk]
   by_cases hk2:k=id
   ·subst hk2; rw [if_pos rfl,ho]
    exact ⟨hsl,rfl,fun hk=>(hk rfl).elim⟩
   ·rw [if_neg hk2]
    cases ek:s.obj k with
    | free=>trivial
    | dead=>trivial
    | box cs=>rfl
    | arr o1 s1 e1=>exact ⟨by simp only [ι',if_neg hk],rfl,fun _ b hb=>⟨.inl (by simp only [ι',if_neg hk,if_neg hk2]; exact hb),rfl⟩⟩
    | map _ _ _=>exact ⟨rfl,rfl,rfl,fun _ b hb=>⟨.inl (by simp only [ι',if_neg hk,if_neg hk2]; exact hb),rfl⟩⟩
 have hfp:∀ k b,ι'.fp k b->(k=n/\D b) ∨ (k=id/\ι.fp id b/\¬ D b) ∨ (k≠n/\k≠id/\ι.fp k b):=by
  intro k b hb
  simp only [ι'] at hb
  split at hb
  ·exact .inl ⟨‹_›,hb⟩
  ·split at hb
   ·exact .inr (.inl ⟨‹_›,hb⟩)
   ·exact .inr (.inr ⟨‹_›,‹_›,hb⟩)
 have hD:∀ b,D b->ι.fp id b:=fun b ⟨p,_,hb⟩=>h4 _ b hb
 have hold:∀ k b,ι'.fp k b->∃ k',ι.fp k' b:=by
  intro k b hb
  rcases hfp k b hb with ⟨_,hb⟩ | ⟨_,hb,_⟩ | ⟨_,_,hb⟩
  ·exact ⟨id,hD b hb⟩
  ·exact ⟨id,hb⟩
  ·exact ⟨k,hb⟩
 have hnestid:Ygs w (Yhm w ι'.G true) sz (ι'.fp id) (ι'.sl id) (es.set i (Yi2 ps e)):=by
  rw [hsl]
  refine ⟨e0,xs,fun j b=>(∀ p∈ps,j≠i * sz+p)/\Fs j b,by rw [List.length_set]; exact h1,?_,?_,?_,?_,?_,?_,fun hn=>h0 (by simpa using hn)⟩
  ·intro x hxm
   rcases List.mem_or_eq_of_mem_set hxm with hm | rfl
   ·exact h2 x hm
   ·rw [Ym8]; exact h2 e (List.mem_of_getElem? he)
  ·intro b hb; simp only [ι',if_neg hidn,if_true]; exact ⟨h3 b hb,fun ⟨p,_,hk⟩=>h5 _ b hb hk⟩
  ·intro j b hb; simp only [ι',if_neg hidn,if_true]; exact ⟨h4 j b hb.2,fun ⟨p,hp,hk⟩=>h6 _ _ b (hb.1 p hp) hb.2 hk⟩
  ·intro j b hb hk; exact h5 j b hb hk.2
  ·intro j j' b hne hb hb'; exact h6 j j' b hne hb.2 hb'.2
  ·intro j u c hu hc
   rcases Yuv h2 he ps hps j c hc with ⟨_,rfl⟩ | ⟨h8,h9⟩
   ·have hj:j<es.flatten.length:=by rw [<- hlx]; exact (List.getElem?_eq_some_iff.1 hu).1
    exact OwnC.any (h7 j u _ hu (List.getElem?_eq_getElem hj)).one
   ·exact OwnC.wide (h7 j u c hu h9) fun b hb=>⟨h8,hb⟩
 have hnestn:Ygs w (Yhm w ι'.G true) 1 (ι'.fp n) (ι'.sl n) []:=by
  have e1:ι'.sl n=.slice none 0 0:=by simp only [ι',if_true]
  rw [e1]
  exact ⟨0,[],fun _ _=>False,⟨by simp,.inl ⟨rfl,rfl⟩⟩,by simp,fun b hb=>by simp [Value.ownBlock] at hb,fun _ _ hb=>hb.elim,fun _ _ _ hb=>hb,fun _ _ _ _ hb=>hb.elim,fun j u c hu=>by simp at hu,fun _=>⟨none,rfl⟩⟩
 refine ⟨ι',fun p=>Fs (i * sz+p),?_,rfl,fun k hk=>by simp only [ι',if_neg hk],fun p b hp hb => ?_,fun p p' b hne hb=>h6 _ _ b (by omega) hb,fun b hb p v c hv hc => ?_⟩
 ·refine Rel.step h hext (fun t=>.inl ⟨rfl,fun c hc k hk=>hreg t c hc k hk⟩) rfl rfl (fun k => ?_) ?_ ?_ ?_ ?_ h.glt (fun _ _ _=>rfl) (Nat.le_refl _) rfl rfl
  ·show _ ∨ _
   by_cases hk:k=n
   ·right; rw [hobj,if_pos hk,hk]; exact hnestn
   ·by_cases hk2:k=id
    ·right; rw [hobj,if_neg hk,if_pos hk2,hk2]; exact hnestid
    ·left
     rw [hobj,if_neg hk,if_neg hk2]
     exact ⟨rfl,⟨rfl,by simp only [ι',if_neg hk],fun b=>by simp only [ι',if_neg hk,if_neg hk2],fun _ _=>rfl⟩,fun c hc k' hk'=>hbox k c hc k' hk'⟩
  ·intro x y b hne hx1 hy1
   rcases hfp x b hx1 with ⟨rfl,f1⟩ | ⟨rfl,f1,g1⟩ | ⟨n1,n2,f1⟩ <;> rcases hfp y b hy1 with ⟨rfl,f2⟩ | ⟨rfl,f2,g2⟩ | ⟨m1,m2,f2⟩
   ·exact hne rfl
   ·exact g2 f1
   ·exact h.disj id y b (fun e=>m2 e.symm) (hD b f1) f2
   ·exact g1 f2
   ·exact hne rfl
   ·exact h.disj x y b hne f1 f2
   ·exact h.disj x id b n2 f1 (hD b f2)
   ·exact h.disj x y b hne f1 f2
   ·exact h.disj x y b hne f1 f2
  ·intro k b hb hg
   obtain ⟨k',hk'⟩:=hold k b hb
   exact h.gfp k' b hk' hg
  ·intro k b hb
   obtain ⟨k',hk'⟩:=hold k b hb
   exact h.own k' b hk'
  ·intro k b hb
   obtain ⟨k',hk'⟩:=hold k b hb
   exact h.lt k' b hk'
 ·simp only [ι',if_true]; exact ⟨p,hp,hb⟩
 ·have h8:=Yiq h2 he hc
  have hj:i * sz+p<xs.length:=by rw [hlx]; exact (List.getElem?_eq_some_iff.1 h8).1
  have h9:=Yiw.cells (g:=b) h1 hb (i * sz+p) _ (List.getElem?_eq_getElem hj)
  rw [Yjl] at h9
  simp only [Nat.zero_add] at h9
  rw [h9] at hv
  simp only [Option.some.injEq] at hv
  subst hv
  exact h7 _ _ c (List.getElem?_eq_getElem hj) h8
def Ytf:List AC->Option (Nat × Nat)
 | []=>none
 | .sub j i _ :: _=>some (j,i)
 | _ :: r=>Ytf r
def Ynd:List AC->List Nat
 | []=>[]
 | .sub _ i _ :: r=>i :: Ynd r
 | _ :: r=>Ynd r
theorem Y17i {c:AC} {r:List AC} {k:Nat} (h:k∈Ynd r):k∈Ynd (c :: r):=by
 cases c <;> simp only [Ynd] <;> first | exact h | exact List.mem_cons_of_mem _ h
def Ykq (j i:Nat) (e:List Cell):List AC->Option (List Cell × List Nat)
 | []=>some ([],[])
 | c :: r=>match Ykq j i e r with
  | none=>none
  | some (cs,ps)=>match c with
   | .val (.lit v)=>some (normLit v :: cs,ps)
   | .sub j' i' p=>match Nat.beq j' j && !ps.elem p with
    | true=>match e[p]? with
     | some (.list es)=>some (.list es :: cs,p :: ps)
     | _=>none
    | false=>none
   | _=>none
theorem Yuz (h:Rel E s ι a w) {j i sz:Nat} {es:List (List Cell)} {e:List Cell} (ho:s.obj j=.arr true sz es) {b:Nat} (hb:(ι.sl j).ownBlock=some b) {Fs:Nat->Nat->Prop}
  (f2:∀ p p' x,p≠p'->Fs p x->¬ Fs p' x) (f3:∀ p v c,w.cell? ⟨b,i * sz+p,none⟩=some v->e[p]? = some c->OwnC w (Fs p) v c) :
  ∀ {acs:List AC} {vs:List Value} {cs:List Cell} {ps:List Nat},Ykq j i e acs=some (cs,ps)->(∀ k∈Ynd acs,k=i)->Yg8 (Yi9 w ι s.obj) acs vs ->
   (∀ p∈ps,p<e.length)/\cs.length=acs.length/\∃ Gs:Nat->Nat->Prop,(∀ k x,Gs k x->∃ p∈ps,Fs p x)/\(∀ k k' x,k≠k'->Gs k x->¬ Gs k' x) /\
    ∀ (k:Nat) (v:Value) (c:Cell),vs[k]? = some v->cs[k]? = some c->OwnC w (Gs k) v c
 | [],[],cs,ps,e,_,_=>by
  simp only [Ykq,Option.some.injEq,Prod.mk.injEq] at e
  obtain ⟨rfl,rfl⟩:=e
  exact ⟨by simp,rfl,fun _ _=>False,by simp,by simp,by simp⟩
 | c :: acs,v :: vs,cs,ps,e,hix,hh=>by
  simp only [Ykq] at e
  split at e
  ·cases e
  ·rename_i cs' ps' hcs
   obtain ⟨i1,i2,Gs,i3,i4,i5⟩:=Yuz h ho hb f2 f3 hcs (fun k hk=>hix k (Y17i hk)) hh.2
   split at e
   ·rename_i u
    simp only [Option.some.injEq,Prod.mk.injEq] at e
    obtain ⟨rfl,rfl⟩:=e
    obtain ⟨rfl,hk⟩:=Rd.lit_inv (show Rd w ι.G v _ from hh.1.1)
    refine ⟨i1,by simp [i2],fun k x=>match k with | 0=>False | k+1=>Gs k x,?_,?_,?_⟩
    ·intro k x hx
     cases k with
     | zero=>exact hx.elim
     | succ k=>exact i3 k x hx
    ·intro k k' x hne hx hx'
     cases k with
     | zero=>exact hx.elim
     | succ k=>cases k' with
      | zero=>exact hx'.elim
      | succ k'=>exact i4 k k' x (fun e=>hne (by rw [e])) hx hx'
    ·intro k x y hx hy
     cases k with
     | zero=>simp at hx hy; subst hx; subst hy; exact Yml hk
     | succ k=>simp at hx hy; exact i5 k x y hx hy
   ·rename_i j' i' p
    split at e
    ·rename_i hc
     simp only [Bool.and_eq_true,Bool.not_eq_true'] at hc
     obtain ⟨hj1,hnin⟩:=hc
     obtain rfl:=Nat.eq_of_beq_eq_true hj1
     obtain rfl:=hix i' List.mem_cons_self
     split at e
     ·rename_i es1 hp
      simp only [Option.some.injEq,Prod.mk.injEq] at e
      obtain ⟨rfl,rfl⟩:=e
      have hnin':p ∉ ps':=by simpa using hnin
      obtain ⟨b2,hb2,_,hcell⟩:=hh.1.1.2 _ _ _ ho
      rw [hb] at hb2
      simp only [Option.some.injEq] at hb2
      subst hb2
      have hown:=f3 p v _ hcell hp
      refine ⟨?_,by simp [i2],fun k x=>match k with | 0=>Fs p x | k+1=>Gs k x,?_,?_,?_⟩
      ·intro q hq
       rcases List.mem_cons.1 hq with rfl | hq
       ·exact (List.getElem?_eq_some_iff.1 hp).1
       ·exact i1 q hq
      ·intro k x hx
       cases k with
       | zero=>exact ⟨p,List.mem_cons_self,hx⟩
       | succ k=>obtain ⟨q,hq,hqx⟩:=i3 k x hx; exact ⟨q,List.mem_cons_of_mem _ hq,hqx⟩
      ·have key:∀ k x,Fs p x->¬ Gs k x:=fun k x hj hx=>by
        obtain ⟨q,hq,hqx⟩:=i3 k x hx
        exact f2 p q x (fun e=>hnin' (e ▸ hq)) hj hqx
       intro k k' x hne hx hx'
       cases k with
       | zero=>cases k' with
        | zero=>exact hne rfl
        | succ k'=>exact key k' x hx hx'
       | succ k=>cases k' with
        | zero=>exact key k x hx' hx
        | succ k'=>exact i4 k k' x (fun e=>hne (by rw [e])) hx hx'
      ·intro k x y hx hy
       cases k with
       | zero=>simp at hx hy; subst hx; subst hy; exact hown
       | succ k=>simp at hx hy; exact i5 k x y hx hy
     ·cases e
    ·cases e
   ·cases e
 | [],_ :: _,_,_,_,_,h=>h.elim
 | _ :: _,[],_,_,_,_,h=>h.elim
def eStoreSub (P:Program) (s:St) (T:TypeId) (ad x:Operand) (n:Nat) (q:List Orc):Option (Res × List Item × List Orc):=
 match s.ac ad,s.ev x with
 | some (.eptr id i off),some (.sv (.agg l))=>match Ytf l,q with
  | some (j,i2),.subs e2 :: q=>match s.obj id,s.obj j,Yix P T,Ytt q with
   | .arr true sz es,.arr true szj esj,some m,some (e,es',q')=>match Ykq j i2 e2 l with
    | some (cs,ps)=>if l.length=m/\off+m<=e.length/\Nat.beq id j=false then
      some ({ new:=[.dead],inv:=[id,j],upd:=[(j,.arr true szj (esj.set i2 (Yi2 ps e2))),(id,.arr true sz (Y131 (es.set i (splice off cs e)) es'))] },
       .obl (Ynd l=List.replicate (Ynd l).length i2) :: .obl (esj[i2]? = some e2) :: .obl (es[i]? = some e) :: Yrj (es.set i (splice off cs e)) es',q') else none
    | none=>none
   | _,_,_,_=>none
  | _,_=>none
 | _,_=>none
theorem Yzi {i1 i2 id:Nat} (hid:id=i1 ∨ id=i2) (s:St):∀ t,∀ c∈((s.inval [i1,i2]).reg t).acs,∀ i,c.src=some i->i≠id:=fun t c hc i hi e=>by
 rw [Yko] at hc
 exact Ym2 _ hc hi (by rw [e]; rcases hid with rfl | rfl <;> simp)
theorem Yya {i1 i2 id:Nat} (hid:id=i1 ∨ id=i2) (s:St):∀ k,∀ c∈((s.inval [i1,i2]).obj k).acs,∀ i,c.src=some i->i≠id:=fun k c hc i hi e=>by
 rw [Ygl] at hc
 have hm:i∈[i1,i2]:=by rw [e]; rcases hid with rfl | rfl <;> simp
 cases hk:s.obj k with
 | box l2=>rw [hk] at hc; simp [Ygk,Ob.acs] at hc; obtain ⟨y,_,rfl⟩:=hc; exact Yk3 _ hi hm
 | free=>rw [hk] at hc; simp [Ygk,Ob.acs] at hc
 | dead=>rw [hk] at hc; simp [Ygk,Ob.acs] at hc
 | map _ _ _=>rw [hk] at hc; simp [Ygk,Ob.acs] at hc
 | arr _ _ _=>rw [hk] at hc; simp [Ygk,Ob.acs] at hc
theorem Yxx (h:Rel E s ι a w) {o:Oper} {T:TypeId} {ad x:Operand} (ho:o.op=.store T ad x) {n:Nat} {r:Res} {q q':List Orc} {it:List Item} {K:Prop}
  (e:eStoreSub P s T ad x n q=some (r,it,q')) (vc:VC it K) (hroom:Ykh s n r.new.length):EOK P E s a w o n r/\K:=by
 unfold eStoreSub at e
 split at e
 ·rename_i id i off l had hxv
  split at e
  ·rename_i j i2 e2 q0 hfs
   split at e
   ·rename_i sz es szj esj m el es9 q1 hob hobj hT hq9
    split at e
    ·rename_i cs ps habs
     split at e
     ·rename_i hc
      simp only [Option.some.injEq,Prod.mk.injEq] at e
      obtain ⟨rfl,rfl,rfl⟩:=e
      obtain ⟨hidx,hel2,hel,hK⟩:=vc
      have hidx':∀ k∈Ynd l,k=i2:=fun k hk=>by rw [hidx] at hk; exact List.eq_of_mem_replicate hk
      obtain ⟨hst,hK⟩:=Y119 hK
      refine ⟨?_,hK⟩
      rw [hst]
      have hne:id≠j:=fun e=>by have:=hc.2.2; rw [e,Nat.beq_refl] at this; cases this
      have hv:Yg8 (Yi9 w ι s.obj) l (a.eval x).cells.toList:=Ylc (x:=.agg l) rfl (Yjo h hxv)
      obtain ⟨b,hb,hp⟩:=(Yhe h had).2 _ _ _ hob
      obtain ⟨hf,hn⟩:=hroom n (Nat.le_refl _) (by simp)
      have hnid:id≠n:=fun e=>by rw [e,hf] at hob; cases hob
      have hnj:j≠n:=fun e=>by rw [e,hf] at hobj; cases hobj
      have h1:=h.inval [id,j]
      have hob1:(s.inval [id,j]).obj id=.arr true sz es:=by rw [Ygl,hob]; rfl
      have hobj1:(s.inval [id,j]).obj j=.arr true szj esj:=by rw [Ygl,hobj]; rfl
      have hf1:(s.inval [id,j]).obj n=.free:=by rw [Ygl,hf]; rfl
      have hn1:n<(s.inval [id,j]).objs.length:=by rw [Yhh]; exact hn
      have hpl:∀ p∈ps,p<e2.length:=by
       have:∀ {acs:List AC} {cs:List Cell} {ps:List Nat},Ykq j i2 e2 acs=some (cs,ps)->∀ p∈ps,p<e2.length:=by
        intro acs
        induction acs with
        | nil=>intro cs ps e; simp only [Ykq,Option.some.injEq,Prod.mk.injEq] at e; obtain ⟨_,rfl⟩:=e; simp
        | cons c r ih=>
         intro cs ps e
         simp only [Ykq] at e
         split at e
         ·cases e
         ·rename_i cs' ps' hcs
          split at e
          ·simp only [Option.some.injEq,Prod.mk.injEq] at e; obtain ⟨_,rfl⟩:=e; exact ih hcs
          ·split at e
           ·split at e
            ·rename_i hp
             simp only [Option.some.injEq,Prod.mk.injEq] at e; obtain ⟨_,rfl⟩:=e
             intro q hq
             rcases List.mem_cons.1 hq with rfl | hq
             ·exact (List.getElem?_eq_some_iff.1 hp).1
             ·exact ih hcs q hq
            ·cases e
           ·cases e
          ·cases e
       exact this habs
      obtain ⟨ι1,Fs,h2,hG,hsl,g1,g2,g3⟩:=Rel.carve h1 hobj1 hel2 hpl hf1 hn1 (Yzi (.inr rfl) s) (Yya (.inr rfl) s)
      obtain ⟨bj,hbj⟩:∃ bj,(ι.sl j).ownBlock=some bj:=by
       have hor:=h.objs j
       rw [hobj] at hor
       obtain ⟨_,xs,_,k1,_⟩:=hor
       rcases k1.2 with ⟨_,hz⟩ | ⟨g,cap,cur,fz,hg,_⟩
       ·have:esj=[]:=List.eq_nil_of_length_eq_zero hz
        subst this; simp at hel2
       ·exact ⟨g,by rw [hg]; rfl⟩
      obtain ⟨_,a2,Gs,a3,a4,a5⟩:=Yuz h hobj hbj g2 (g3 bj hbj) habs hidx' hv
      have hvl:(a.eval x).cells.toList.length=cs.length:=by rw [<- hv.length,a2]
      have hfit:off+cs.length<=el.length:=by rw [a2,hc.1]; exact hc.2.1
      let s2:=((s.inval [id,j]).setOb j (.arr true szj (esj.set i2 (Yi2 ps e2)))).setOb n (.arr true 1 [])
      have hjl:j<(s.inval [id,j]).objs.length:=Ygp hobj1 (by simp)
      have hidl:id<(s.inval [id,j]).objs.length:=Ygp hob1 (by simp)
      have hobj2:∀ k,s2.obj k=if k=n then .arr true 1 [] else if k=j then .arr true szj (esj.set i2 (Yi2 ps e2)) else (s.inval [id,j]).obj k:=by
       intro k
       show (((s.inval [id,j]).setOb j _).setOb n _).obj k=_
       rw [Yg5 (by rw [Yga]; exact hn1),Yg5 hjl]
      have hob2:s2.obj id=.arr true sz es:=by rw [hobj2,if_neg hnid,if_neg hne]; exact hob1
      have hb2:(ι1.sl id).ownBlock=some b:=by rw [hsl id hnid]; exact hb
      obtain ⟨cur,ty,ι',fz,k1,knz,k2,k3⟩:=Rel.setArr h2 hob2 (ids:=[n]) (fun t c hc i' hi'=>Yzi (.inl rfl) s t c hc i' hi') (fun k c hc i' hi'=>by
        have hc':c∈(s2.obj k).acs:=hc
        rw [hobj2] at hc'
        split at hc'
        ·simp [Ob.acs] at hc'
        ·split at hc'
         ·simp [Ob.acs] at hc'
         ·exact Yya (.inl rfl) s k c hc' i' hi') (fun k hk=>by
        rw [List.mem_singleton.1 hk]
        exact ⟨true,1,[],by show s2.obj n=_; rw [hobj2,if_pos rfl]⟩) (by simp only [List.mem_singleton]; exact hnid) hel hfit hb2 hvl
        (Fs2:=Gs) (fun k x hx=>let ⟨p,hp,hpx⟩:=a3 k x hx; ⟨n,List.mem_singleton.2 rfl,g1 p x hp hpx⟩) a4 (fun k v c hv hc=>a5 k v c hv hc)
      have hlen:(a.eval x).cells.toList.length=m:=by rw [<- hv.length]; exact hc.1
      have hone:∀ u∈(a.eval x).cells.toList,u.oneCell'=true:=by
       intro u hu
       obtain ⟨k,hk⟩:=List.getElem?_of_mem hu
       obtain ⟨c,_,hc⟩:=hv.flip.get_left hk
       exact hc.2
      refine EOK.skip (ι':=ι') (w':=w.setRow b (splice (i * sz+off) (a.eval x).cells.toList cur.toList).toArray) ?_ ?_ Yn0
      ·simp only [execOp,ho,hp]
       rw [Sem.run_bind,Ynq hT k1 knz hlen (by rw [<- hlen]; exact k2) hone]
       rfl
      ·have hs1:n<((s.inval [id,j]).setOb j (.arr true szj (esj.set i2 (Yi2 ps e2)))).objs.length:=by rw [Yga]; exact hn1
       refine k3.sameObj rfl (funext fun k => ?_) rfl
       show ((((s.inval [id,j]).setOb j _).setOb id _).setOb n .dead).obj k=(((s2).setOb n .dead).setOb id _).obj k
       rw [Yg5 (by rw [Yga,Yga]; exact hn1),Yg5 (by rw [Yga]; exact hidl),Yg5 hjl]
       rw [Yg5 (by rw [Yga]; show id<((_:St).setOb n _).objs.length; rw [Yga,Yga]; exact hidl),Yg5 (by show n<((_:St).setOb n _).objs.length; rw [Yga]; exact hs1),hobj2]
       by_cases hk:k=n
       ·subst hk; rw [if_pos rfl,if_neg (fun e=>hnid e.symm),if_pos rfl]
       ·by_cases hk2:k=id
        ·rw [if_neg hk,if_pos hk2,if_pos hk2]
        ·rw [if_neg hk,if_neg hk2,if_neg hk2,if_neg hk,if_neg hk]
     ·cases e
    ·cases e
   ·cases e
  ·cases e
 ·cases e
def eAppendSub (P:Program) (s:St) (args:Array Operand) (tys:Array TypeId) (n:Nat) (q:List Orc):Option (Res × List Item × List Orc):=
 match args.toList,tys.toList with
 | [x,y],[t,u]=>match s.ac x,q with
  | some (.sub id i p),.subcall e es' sz' :: q'=>match s.obj id with
   | .arr true sz0 es0=>match Ypk P t,s.ac y with
    | some el,some c2=>match Yix P el,Yrp P el,srcElems s true sz' c2 with
     | some sz,some by_,some (es2,ids2,it)=>if Ypp P el sz=true/\Yvf P u=true/\sz=sz'/\ids2.all (fun j => !Nat.beq j n && !Nat.beq j id)=true then
       some ({ val:=.sv (.one (.ref (n+1))),new:=[.dead,.arr true sz' (es'++es2)],upd:=(id,.arr true sz0 (es0.set i (e.set p .any))) :: Yhs ids2,inv:=[id] },
        .obl (es0[i]? = some e) :: .obl (e[p]? = some (.list es')) :: .obl (∀ x∈es',x.length=sz') :: (it++[.obl ((es'.length+es2.length) * by_<=140737488355328)]),q') else none
     | _,_,_=>none
    | _,_=>none
   | _=>none
  | _,_=>none
 | _,_=>none
theorem Ywp (h:Rel E s ι a w) {o:Oper} {args:Array Operand} {tys:Array TypeId} (ho:o.op=.call { callee:=.builtin .append,args:=args,argTypes:=tys }) {n:Nat} {r:Res} {q q':List Orc}
  {it:List Item} {K:Prop} (e:eAppendSub P s args tys n q=some (r,it,q')) (vc:VC it K) (hroom:Ykh s n r.new.length):EOK P E s a w o n r/\K:=by
 unfold eAppendSub at e
 split at e
 ·rename_i x y t u hargs htys
  obtain rfl:args=#[x,y]:=by apply Array.ext'; simpa using hargs
  obtain rfl:tys=#[t,u]:=by apply Array.ext'; simpa using htys
  split at e
  ·rename_i id i p el0 es' sz' q1 hcx
   split at e
   ·rename_i sz0 es0 hob
    split at e
    ·rename_i el c2 hel hcy
     split at e
     ·rename_i sz by_ es2 ids2 it1 hsz hby hsrc
      split at e
      ·rename_i hfit
       simp only [Option.some.injEq,Prod.mk.injEq] at e
       obtain ⟨rfl,rfl,rfl⟩:=e
       obtain ⟨hA,hB,hC,vc⟩:=vc
       obtain ⟨hfit,hst,rfl,hdis⟩:=hfit
       obtain ⟨hf,hn⟩:=hroom n (Nat.le_refl _) (by simp)
       obtain ⟨hf',hn'⟩:=hroom (n+1) (by omega) (by simp)
       have h1:=h.inval [id]
       have hidn:id≠n:=fun e=>by rw [e,hf] at hob; cases hob
       have hidn':id≠n+1:=fun e=>by rw [e,hf'] at hob; cases hob
       have hob1:(s.inval [id]).obj id=.arr true sz0 es0:=by rw [Ygl,hob]; rfl
       have hf1:(s.inval [id]).obj n=.free:=by rw [Ygl,hf]; rfl
       have hf2:(s.inval [id]).obj (n+1)=.free:=by rw [Ygl,hf']; rfl
       have hn1:n<(s.inval [id]).objs.length:=by rw [Yhh]; exact hn
       have hn2:n+1<(s.inval [id]).objs.length:=by rw [Yhh]; exact hn'
       obtain ⟨ι1,h2,hsl,htk,_,hG,hfpk⟩:=Rel.focus h1 hob1 hA hB hC hf1 hn1 (Yow s) (Yp1 s)
       obtain ⟨b,hb,_,hcell⟩:=(Yhe h hcx).2 _ _ _ hob
       have hv:a.eval x=ι1.sl n:=by
        have:=htk.cell b (by rw [hsl]; exact hb)
        rw [hcell] at this
        simpa using this
       have hidl:id<(s.inval [id]).objs.length:=Ygp hob1 (by simp)
       let s2:=Ygv (s.inval [id]) id n i p sz0 es0 el0 sz es'
       have hobj2:∀ k,s2.obj k=if k=n then .arr true sz es' else if k=id then .arr true sz0 (es0.set i (el0.set p .any)) else (s.inval [id]).obj k:=by
        intro k
        show (((s.inval [id]).setOb id _).setOb n _).obj k=_
        rw [Yg5 (by rw [Yga]; exact hn1),Yg5 hidl]
       have hon:s2.obj n=.arr true sz es':=by rw [hobj2,if_pos rfl]
       have hvr:Ygx w ι1 s2.obj (.ref n) (a.eval x):=⟨by unfold notFree; rw [hon]; trivial,fun _ _ _ _=>hv⟩
       have htgt:target s2 sz q1 (.ref n)=some (true,es',[n],q1):=by
        unfold target; simp only [hon,if_true]
       obtain ⟨hT,hi1⟩:=Yuw h2 hvr htgt
       obtain ⟨hS0,hi0,hbnd,hK⟩:=Yrx (P:=P) h (Yhe h hcy) hsrc (VC.append vc)
       obtain ⟨inf,z,f1,f2,f3,f4,f5,f6⟩:=Ypg hfit
       obtain ⟨d,d1,d2⟩:=Yyz hst
       have hby':inf.bytes=by_:=by simpa [Yrp,f1] using hby
       have hdis':∀ j∈ids2,j≠n/\j≠id:=fun j hj=>by
        have:=(List.all_eq_true.1 hdis) j hj
        simp only [Bool.and_eq_true,Bool.not_eq_true'] at this
        exact ⟨fun e=>by (rw [e,Nat.beq_refl] at this; exact absurd this.1 (by decide)),fun e=>by (rw [e,Nat.beq_refl] at this; exact absurd this.2 (by decide))⟩
       have hi2:∀ j∈ids2,Ymo (s2.obj j):=fun j hj=>by
        rw [hobj2,if_neg (hdis' j hj).1,if_neg (hdis' j hj).2]
        exact Ypw [] id s j (hi0 j hj)
       have hS:Yrm P w ι1.G true (fun b=>∃ j∈ids2,ι1.fp j b) (a.eval y) sz es2:=by
        obtain ⟨news,s1,s2,s3,s4,Fs2,s5,s6,s7⟩:=hS0
        exact ⟨news,s1,s2,s3,s4,Fs2,fun k b hb=>let ⟨j,hj,hjb⟩:=s5 k b hb; ⟨j,hj,hfpk j b (hdis' j hj).1 (hdis' j hj).2 hjb⟩,s6,by rw [hG]; exact s7⟩
       have hd':∀ j∈ids2,j ∉ [n]:=fun j hj=>by simp only [List.mem_singleton]; exact (hdis' j hj).1
       obtain ⟨v',w',r1,r2,r3,r4,r5,r6,F',r7,r8⟩:=Yyo (ty:=o.type) h2 hT hS hd' (Ymv hel) d1 d2 f1 f2 f3 hby' f4 f5 (by omega) hbnd
       have hl2:s2.objs.length=(s.inval [id]).objs.length:=by show (((s.inval [id]).setOb id _).setOb n _).objs.length=_; rw [Yga,Yga]
       have hfr:s2.obj (n+1)=.free:=by rw [hobj2,if_neg (by omega),if_neg (fun e=>hidn' e.symm)]; exact hf2
       obtain ⟨ι',k1,k2⟩:=h2.makeArr hfr (by rw [hl2]; exact hn2) (fun j hj=>(List.mem_append.1 hj).elim (hi1 j) (hi2 j)) r2 r3 r4 r5 r7 r8 r6
       have hlen2:∀ j∈ids2,j<(s.inval [id]).objs.length:=fun j hj=>by
        obtain ⟨o',z',e',hjo⟩:=hi2 j hj
        rw [<- hl2]
        exact Ygp hjo (by simp)
       have hobE:(s.app n ⟨.sv (.one (.ref (n+1))),[.dead,.arr true sz (es'++es2)],(id,.arr true sz0 (es0.set i (el0.set p .any))) :: Yhs ids2,[id]⟩).obj =
         ((s2.updObs (Yhs ([n]++ids2))).setOb (n+1) (.arr true sz (es'++es2))).obj:=by
        funext k
        show (((((s.inval [id]).setOb id _).updObs (Yhs ids2)).setOb n .dead).setOb (n+1) _).obj k=_
        rw [Yg5 (by rw [Yga,Yii,Yga]; exact hn2),Yg5 (by rw [Yii,Yga]; exact hn1),Ym9 ids2 _ (fun j hj=>by rw [Yga]; exact hlen2 j hj),Yg5 hidl]
        rw [Yg5 (by rw [Yii,hl2]; exact hn2),Ym9 ([n]++ids2) s2 (fun j hj=>by
         rw [hl2]
         rcases List.mem_append.1 hj with hj | hj
         ·rw [List.mem_singleton.1 hj]; exact hn1
         ·exact hlen2 j hj),hobj2]
        by_cases hk:k=n+1
        ·rw [if_pos hk,if_pos hk]
        ·rw [if_neg hk,if_neg hk]
         by_cases hk2:k=n
         ·rw [if_pos hk2,if_pos (List.mem_append_left _ (List.mem_singleton.2 hk2))]
         ·rw [if_neg hk2]
          by_cases hk3:k∈ids2
          ·rw [if_pos hk3,if_pos (List.mem_append_right _ hk3)]
          ·rw [if_neg hk3,if_neg (fun hm=>(List.mem_append.1 hm).elim (fun hm=>hk2 (List.mem_singleton.1 hm)) hk3),if_neg hk2]
       refine ⟨EOK.value (v:=v') ?_ (k1.sameObj ?_ hobE ?_) ?_,hK⟩
       ·simp only [execOp,ho,resolve,Sem.run_bind,Sem.run_pure,Result.andThen_ok,invoke,builtin]
        simp [r1]
       ·show ((((s.inval [id]).setOb id _).updObs (Yhs ids2)).setOb n .dead).regs=(s2.updObs _).regs
        simp only [St.setOb,Yhx]
        rfl
       ·show ((((s.inval [id]).setOb id _).updObs (Yhs ids2)).setOb n .dead).m=(s2.updObs _).m
        simp only [St.setOb,Yo6]
        rfl
       ·rw [hobE]; exact k2
      ·cases e
     ·cases e
    ·cases e
   ·cases e
  ·cases e
 ·cases e
end
end Go.Proofs.YtclpofblehlojaaGreat.Ab
end
section
namespace Go.Proofs.YtclpofblehlojaaGreat.Ab
open Go
section
variable {P:Program} {E:Ent P} {s:St} {ι:Interp} {a:Act} {w:World}
theorem Y1aq {w:World} {g k:Nat} {cur:Array Value} {e:TypeId} {fz:Nat × Nat} (h:w.heap[g]? = some (.cells cur e fz)) :
  (w.freeze ⟨g,k,none⟩ 1).heap[g]? = some (.cells cur e (if fz.1 == fz.2 then (k,k+1) else (min fz.1 k,max fz.2 (k+1)))):=by
 obtain ⟨lo,hi⟩:=fz
 unfold World.freeze
 rw [if_neg (by decide)]
 simp only [Array.getElem?_modify,if_true,h,Option.map_some]
theorem Y15z {w:World} {g k b:Nat} (hb:b≠g):(w.freeze ⟨g,k,none⟩ 1).heap[b]? = w.heap[b]? := by
 unfold World.freeze
 rw [if_neg (by decide)]
 simp only [Array.getElem?_modify]
 rw [if_neg (fun e=>hb e.symm)]
theorem Yra {w:World} {g k:Nat}:(w.freeze ⟨g,k,none⟩ 1).heap.size=w.heap.size:=by
 unfold World.freeze
 rw [if_neg (by decide)]
 simp
theorem Yrg.marked {n:Nat} {fz:Nat × Nat} (h:Yrg n fz):Yrg n (if fz.1 == fz.2 then (n,n+1) else (min fz.1 n,max fz.2 (n+1))):=by
 rcases h with rfl | h
 ·right; simp
 ·right
  split
  ·exact Nat.le_refl _
  ·simp only; omega
theorem Y179 {e:TypeId} {sz n g cap:Nat} {xs:List Value} {cur:Array Value} {fz:Nat × Nat} (h:Yiw w e sz (.slice (some ⟨g,0,none⟩) n cap) n xs) (hg:w.heap[g]? = some (.cells cur e fz)) :
  Yiw (w.freeze ⟨g,cur.size,none⟩ 1) e sz (.slice (some ⟨g,0,none⟩) n cap) n xs:=by
 refine ⟨h.1,?_⟩
 rcases h.2 with ⟨h1,_⟩ | ⟨g',cap',cur',fz',h1,h2,h3,rest⟩
 ·cases h1
 ·simp only [Value.slice.injEq,Option.some.injEq,Addr.mk.injEq,and_true,true_and] at h1
  obtain ⟨rfl,rfl⟩:=h1
  rw [hg] at h3
  simp only [Option.some.injEq,Obj.cells.injEq,true_and] at h3
  obtain ⟨rfl,rfl⟩:=h3
  exact .inr ⟨g,cap,cur,_,rfl,h2.marked,Y1aq hg,rest⟩
theorem Rel.mark (h:Rel E s ι a w) {id:Nat} {own:Bool} {sz:Nat} {es:List (List Cell)} (hob:s.obj id=.arr own sz es) (hreg:∀ t,∀ c∈(s.reg t).acs,∀ i,c.src=some i->i≠id)
  (hbox:∀ k,∀ c∈(s.obj k).acs,∀ i,c.src=some i->i≠id) (hne:es≠[]) :
  ∃ (g m cap:Nat) (cur:Array Value) (e0:TypeId) (fz:Nat × Nat),ι.sl id=.slice (some ⟨g,0,none⟩) m cap/\w.heap[g]? = some (.cells cur e0 fz)/\Rel E s ι a (w.freeze ⟨g,cur.size,none⟩ 1):=by
 have hor:=h.objs id
 rw [hob] at hor
 obtain ⟨e0,xs,Fs,h1,h2,h3,h4,h5,h6,h7,h0⟩:=hor
 rcases h1.2 with ⟨_,hz⟩ | ⟨g,cap,cur,fz,hsl,_,hg,_⟩
 ·exact (hne (List.eq_nil_of_length_eq_zero hz)).elim
 refine ⟨g,es.length,cap,cur,e0,fz,hsl,hg,?_⟩
 have hgfp:ι.fp id g:=h3 g (by rw [hsl]; rfl)
 have hother:∀ b,b≠g->(w.freeze ⟨g,cur.size,none⟩ 1).heap[b]? = w.heap[b]? := fun b hb=>Y15z hb
 have hfpo:∀ k b,k≠id->ι.fp k b->b≠g:=fun k b hk hb e=>h.disj k id b hk hb (by rw [e]; exact hgfp)
 have hG:∀ b,ι.G b->b≠g:=fun b hb e=>h.gfp id b (by rw [e]; exact hgfp) hb
 have hx:Ext (fun k=>k≠id) w ι s.obj (w.freeze ⟨g,cur.size,none⟩ 1) ι s.obj:=by
  refine ⟨fun b hb=>⟨hb,hother b (hG b hb)⟩,fun k => ?_⟩
  by_cases hk:k=id
  ·subst hk; rw [hob]; exact ⟨rfl,rfl,fun hk=>(hk rfl).elim⟩
  ·cases hkk:s.obj k with
   | free=>trivial
   | dead=>trivial
   | box cs=>rfl
   | arr own' sz' es'=>exact ⟨rfl,rfl,fun _ b hb=>⟨.inl hb,hother b (hfpo k b hk hb)⟩⟩
   | map _ _ _=>exact ⟨rfl,rfl,rfl,fun _ b hb=>⟨.inl hb,hother b (hfpo k b hk hb)⟩⟩
 have hfz:∀ b,b<E.w.heap.size->¬ E.M b->b≠g:=by
  intro b hb hM e
  subst e
  rcases h.own id b hgfp with h8 | h8
  ·exact hM h8
  ·omega
 refine Rel.step h hx (fun t=>.inl ⟨rfl,fun c hc i hi=>hreg t c hc i hi⟩) rfl rfl (fun k => ?_) h.disj h.gfp h.own (fun i b hf=>by rw [Yra]; exact h.lt i b hf) (fun b hb=>by rw [Yra]; exact h.glt b hb)
  (fun b hb hM=>hother b (hfz b hb hM)) (by rw [Yra]; exact Nat.le_refl _) (by unfold World.freeze; rw [if_neg (by decide)]) (by unfold World.freeze; rw [if_neg (by decide)])
 by_cases hk:k=id
 ·subst hk; right
  rw [hob]
  refine ⟨e0,xs,Fs,?_,h2,h3,h4,h5,h6,fun j u c hu hc=>(h7 j u c hu hc).mono (fun b hb=>⟨hb,hother b (hG b hb)⟩) fun b hb=>hother b fun e=>h5 j b (by rw [hsl,e]; rfl) hb,h0⟩
  rw [hsl] at h1 ⊢
  exact Y179 h1 hg
 ·left
  exact ⟨rfl,⟨rfl,rfl,fun b=>Iff.rfl,fun b hb=>hother b (hfpo k b hk hb)⟩,hbox k⟩
theorem Y1gq {t:TypeId} (ht:Yol P t=true) {g m cap:Nat} {cur:Array Value} {e:TypeId} {fz:Nat × Nat} (hg:w.heap[g]? = some (.cells cur e fz)) :
  (convert t t (.slice (some ⟨g,0,none⟩) m cap)).run P w=.ok (.slice (some ⟨g,0,none⟩) m cap) (w.freeze ⟨g,cur.size,none⟩ 1):=by
 obtain ⟨el,h1,h2⟩:∃ e,P.underlying t=some (.slice e)/\P.underlying e=some (.int .u8):=by
  unfold Yol at ht
  split at ht
  ·rename_i e he
   split at ht
   ·exact ⟨e,he,‹_›⟩
   ·cases ht
  ·cases ht
 have hsh:w.shape? g=some (e,cur.size):=by unfold World.shape?; rw [hg]
 simp [convert,run_underlying h1,run_underlying h2,markStringish,hsh]
def eMark (s:St) (x:Operand):Option Res:=
 match s.ac x with
 | some (.ref id)=>match s.obj id with
  | .arr _ _ (_ :: _)=>some { val:=.sv (.one (.ref id)),inv:=[id] }
  | _=>none
 | _=>none
theorem Y17u (h:Rel E s ι a w) {o:Oper} {t:TypeId} {x:Operand} (ho:o.op=.convert t t x) (ht:Yol P t=true) {n:Nat} {r:Res} (e:eMark s x=some r):EOK P E s a w o n r:=by
 unfold eMark at e
 split at e
 ·rename_i id hc
  split at e
  ·rename_i own sz e1 es hob
   simp only [Option.some.injEq] at e
   subst e
   have h1:=h.inval [id]
   have hob1:(s.inval [id]).obj id=.arr own sz (e1 :: es):=by rw [Ygl,hob]; rfl
   obtain ⟨g,m,cap,cur,e0,fz,k1,k2,k3⟩:=Rel.mark h1 hob1 (fun t c hc i' hi' e=>by
     rw [Yko] at hc
     exact Ym2 _ hc hi' (by simp [e])) (fun k c hc i' hi' e=>by
     rw [Ygl] at hc
     cases hk:s.obj k with
     | box l2=>rw [hk] at hc; simp [Ygk,Ob.acs] at hc; obtain ⟨y,_,rfl⟩:=hc; exact Yk3 _ hi' (by simp [e])
     | free=>rw [hk] at hc; simp [Ygk,Ob.acs] at hc
     | dead=>rw [hk] at hc; simp [Ygk,Ob.acs] at hc
     | map _ _ _=>rw [hk] at hc; simp [Ygk,Ob.acs] at hc
     | arr _ _ _=>rw [hk] at hc; simp [Ygk,Ob.acs] at hc) (by simp)
   have hv:=Yhe h hc
   have hva:a.eval x=ι.sl id:=hv.2 _ _ _ hob
   refine EOK.value (ι':=ι) (v:=ι.sl id) (w':=w.freeze ⟨g,cur.size,none⟩ 1) ?_ ?_ ?_
   ·simp only [execOp,ho,hva,k1]
    exact Yij _ (Y1gq ht k2)
   ·exact k3
   ·refine ⟨⟨?_,fun _ _ _ _=>rfl⟩,fun _ => ?_⟩
    ·show notFree (s.inval [id]).obj id
     unfold notFree
     rw [hob1]; simp
    ·rw [k1]; rfl
  ·cases e
 ·cases e
end
end Go.Proofs.YtclpofblehlojaaGreat.Ab
end
section
namespace Go.Proofs.YtclpofblehlojaaGreat.Ab
open Go
section
variable {P:Program} {E:Ent P} {s:St} {ι:Interp} {a:Act} {w:World}
def Yk7:Nat->List Cell->List Nat->Option (List AC × List Ob × List Cell)
 | _,[],_=>some ([],[],[])
 | n,c :: r,zs=>match c with
  | .lit v=>(match Yk7 n r zs with
   | some (cs,os,e)=>some (.val (.lit v) :: cs,os,.lit v :: e)
   | none=>none)
  | .list es=>(match zs with
   | z :: zs=>(match Yk7 (n+1) r zs with
    | some (cs,os,e)=>some (.ref n :: cs,.arr true z es :: os,.any :: e)
    | none=>none)
   | []=>none)
  | _=>none
def Yo9:List Cell->List Nat->List Item
 | [],_=>[]
 | c :: r,zs=>match c with
  | .list es=>(match zs with
   | z :: zs=>.obl (∀ x∈es,x.length=z) :: Yo9 r zs
   | []=>[])
  | _=>Yo9 r zs
def eLoadPull (P:Program) (s:St) (T:TypeId) (x:Operand) (n:Nat) (q:List Orc):Option (Res × List Item × List Orc):=
 match s.ac x,Yix P T,Ywq P T with
 | some (.eptr j i off),some m,some true=>(match s.obj j with
  | .arr true sz es=>(match q with
   | .pulls e zs :: q'=>(match Yk7 n e zs with
    | some (cs,os,e')=>(match Nat.beq off 0&&(Nat.beq sz m&&Nat.ble os.length 2) with
     | true=>some ({ val:=.sv (.agg cs),new:=os,inv:=[j],upd:=[(j,.arr true sz (es.set i e'))] },.obl (es[i]? = some e) :: (Yo9 e zs++[]),q')
     | false=>none)
    | none=>none)
   | _=>none)
  | _=>none)
 | _,_,_=>none
theorem Y1c2 (s:St) {i k:Nat} (h:i≠k) (a b:Ob):(s.setOb i a).setOb k b=(s.setOb k b).setOb i a:=by
 simp only [St.setOb]; congr 1; exact List.set_comm a b h
theorem Y17w (s:St) (i:Nat) (a b:Ob):(s.setOb i a).setOb i b=s.setOb i b:=by
 simp only [St.setOb,List.set_set]
def Y1nf (s:St) (j:Nat):Prop:=(∀ t,∀ c∈(s.reg t).acs,∀ k,c.src=some k->k≠j)/\∀ k,∀ c∈(s.obj k).acs,∀ k',c.src=some k'->k'≠j
theorem Y1en {K:Nat->Prop} {w w1 w2:World} {ι ι1 ι2:Interp} {ob ob1 ob2:Nat->Ob} (h1:Ext K w ι ob w1 ι1 ob1) (h2:Ext K w1 ι1 ob1 w2 ι2 ob2):Ext K w ι ob w2 ι2 ob2:=by
 refine ⟨fun b hb=>⟨(h2.g b (h1.g b hb).1).1,(h2.g b (h1.g b hb).1).2.trans (h1.g b hb).2⟩,fun id => ?_⟩
 have a1:=h1.o id
 have a2:=h2.o id
 have key:(K id->∀ b,ι.fp id b->(ι1.fp id b ∨ ι1.G b)/\w1.heap[b]? = w.heap[b]?)->(K id->∀ b,ι1.fp id b->(ι2.fp id b ∨ ι2.G b)/\w2.heap[b]? = w1.heap[b]?)->(K id->∀ b,ι.fp id b->(ι2.fp id b ∨ ι2.G b)/\w2.heap[b]? = w.heap[b]?):=by
  intro x y hk b hb
  obtain ⟨u1,u2⟩:=x hk b hb
  rcases u1 with u1 | u1
  ·obtain ⟨v1,v2⟩:=y hk b u1; exact ⟨v1,v2.trans u2⟩
  ·obtain ⟨v1,v2⟩:=h2.g b u1; exact ⟨.inr v1,v2.trans u2⟩
 cases e:ob id with
 | free=>trivial
 | dead=>
  rw [e] at a1; cases e1:ob1 id <;> rw [e1] at a1 <;> first | (exact a1.elim) | skip
  rw [e1] at a2; cases e2:ob2 id <;> rw [e2] at a2 <;> first | exact a2.elim | trivial
 | box cs=>
  rw [e] at a1; cases e1:ob1 id <;> rw [e1] at a1 <;> first | (exact a1.elim) | skip
  ·rw [e1] at a2; cases e2:ob2 id <;> rw [e2] at a2 <;> first | exact a2.elim | trivial
  ·rw [e1] at a2; cases e2:ob2 id <;> rw [e2] at a2 <;> first | exact a2.elim | trivial | exact Eq.trans (show ι2.blk id=ι1.blk id from a2) a1
 | arr o1 z1 x1=>
  rw [e] at a1; cases e1:ob1 id <;> rw [e1] at a1 <;> first | (exact a1.elim) | skip
  ·rw [e1] at a2; cases e2:ob2 id <;> rw [e2] at a2 <;> first | exact a2.elim | trivial
  ·rw [e1] at a2; cases e2:ob2 id <;> rw [e2] at a2 <;> first | exact a2.elim | trivial | exact ⟨a2.1.trans a1.1,a2.2.1.trans a1.2.1,key a1.2.2 a2.2.2⟩
 | map n1 k1 f1=>
  rw [e] at a1; cases e1:ob1 id <;> rw [e1] at a1 <;> first | (exact a1.elim) | skip
  ·rw [e1] at a2; cases e2:ob2 id <;> rw [e2] at a2 <;> first | exact a2.elim | trivial
  ·rw [e1] at a2; cases e2:ob2 id <;> rw [e2] at a2 <;> first | exact a2.elim | trivial | exact ⟨a2.1.trans a1.1,a2.2.1.trans a1.2.1,a2.2.2.1.trans a1.2.2.1,key a1.2.2.2 a2.2.2.2⟩
theorem Y15w (h:Rel E s ι a w) {j i sz:Nat} {es:List (List Cell)} {e:List Cell} (ho:s.obj j=.arr true sz es) (he:es[i]? = some e) {b:Nat} (hb:(ι.sl j).ownBlock=some b) {p:Nat} {c:Cell} (hc:e[p]? = some c) :
  ∃ v F,w.cell? ⟨b,i * sz+p,none⟩=some v/\OwnC w F v c:=by
 have hor:=h.objs j
 rw [ho] at hor
 obtain ⟨e0,xs,Fs,h1,h2,h3,h4,h5,h6,h7,h0⟩:=hor
 have h8:=Yiq h2 he hc
 have hj:i * sz+p<xs.length:=by rw [h1.1,<- Yh6 h2]; exact (List.getElem?_eq_some_iff.1 h8).1
 have h9:=Yiw.cells (g:=b) h1 hb (i * sz+p) _ (List.getElem?_eq_getElem hj)
 rw [Yjl] at h9
 simp only [Nat.zero_add] at h9
 exact ⟨_,_,h9,h7 _ _ c (List.getElem?_eq_getElem hj) h8⟩
theorem Yxc {j i sz b:Nat}:∀ (suf:List Cell) {zs:List Nat} {n:Nat} {cs:List AC} {os:List Ob} {e' pre:List Cell} {esc:List (List Cell)} {s:St} {ι:Interp} {K:Prop} {tl:List Item},
  Yk7 n suf zs=some (cs,os,e')->VC (Yo9 suf zs++tl) K->Rel E s ι a w->s.obj j=.arr true sz esc->esc[i]? = some (pre++suf)->(ι.sl j).ownBlock=some b->Ykh s n os.length->Y1nf s j ->
   VC tl K/\∃ ι' vs,Rel E ((s.setOb j (.arr true sz (esc.set i (pre++e')))).setObs n os) ι' a w/\vs.length=suf.length/\(∀ p v,vs[p]? = some v->w.cell? ⟨b,i * sz+(pre.length+p),none⟩=some v) /\
    Yg8 (Yi9 w ι' ((s.setOb j (.arr true sz (esc.set i (pre++e')))).setObs n os).obj) cs vs/\Ext (fun k=>k≠j) w ι s.obj w ι' ((s.setOb j (.arr true sz (esc.set i (pre++e')))).setObs n os).obj
 | [],zs,n,cs,os,e',pre,esc,s,ι,K,tl,hc,hv,h,hj,he,hb,hr,hn=>by
  simp only [Yk7,Option.some.injEq,Prod.mk.injEq] at hc
  obtain ⟨rfl,rfl,rfl⟩:=hc
  have hs:s.setOb j (.arr true sz (esc.set i (pre++[])))=s:=by
   have h1:esc.set i (pre++[])=esc:=by
    have hil:=(List.getElem?_eq_some_iff.1 he)
    rw [<- hil.2,List.set_getElem_self]
   rw [h1,<- hj]
   have hl:j<s.objs.length:=Ygp hj (by simp)
   simp only [St.setOb,St.obj]
   rw [List.getD_eq_getElem?_getD,List.getElem?_eq_getElem hl,Option.getD_some,List.set_getElem_self]
  refine ⟨hv,ι,[],?_,rfl,by simp,trivial,?_⟩
  ·rw [hs]; exact h
  ·rw [hs]
   show Ext _ w ι s.obj w ι s.obj
   refine ⟨fun b hb=>⟨hb,rfl⟩,fun k => ?_⟩
   cases s.obj k with
   | free=>trivial
   | dead=>trivial
   | box cs=>exact rfl
   | arr o z x=>exact ⟨rfl,rfl,fun _ b hb=>⟨.inl hb,rfl⟩⟩
   | map n k f=>exact ⟨rfl,rfl,rfl,fun _ b hb=>⟨.inl hb,rfl⟩⟩
 | c :: r,zs,n,cs,os,e',pre,esc,s,ι,K,tl,hc,hv,h,hj,he,hb,hr,hn=>by
  have hpre:pre++c :: r=(pre++[c])++r:=by simp
  cases c with
  | lit u=>
   simp only [Yk7] at hc
   split at hc
   ·rename_i cs1 os1 e1 hrec
    simp only [Option.some.injEq,Prod.mk.injEq] at hc
    obtain ⟨rfl,rfl,rfl⟩:=hc
    obtain ⟨v,F,hcell,hown⟩:=Y15w h hj he hb (p:=pre.length) (c:=.lit u) (by simp)
    have hlit:=Rd.lit_inv (hown.toRd (G:=F) fun _ h=>h)
    obtain ⟨hK,ι',vs,h1,h2,h3,h4,h5⟩:=Yxc r (pre:=pre++[.lit u]) hrec hv h hj (by rw [<- hpre]; exact he) hb hr hn
    have e2:pre++[Cell.lit u]++e1=pre++Cell.lit u :: e1:=by simp
    rw [e2] at h1 h4 h5
    refine ⟨hK,ι',v :: vs,h1,by simp [h2],fun p x hx => ?_,⟨⟨by rw [hlit.1]; exact .lit hlit.2,hown.one⟩,h4⟩,h5⟩
    cases p with
    | zero=>simp only [List.getElem?_cons_zero,Option.some.injEq] at hx; subst hx; exact hcell
    | succ p=>
     have:=h3 p x (by simpa using hx)
     rw [List.length_append,List.length_singleton] at this
     rw [show pre.length+(p+1)=pre.length+1+p by omega]; exact this
   ·cases hc
  | list es=>
   simp only [Yk7] at hc
   split at hc
   ·rename_i z zs'
    split at hc
    ·rename_i cs1 os1 e1 hrec
     simp only [Option.some.injEq,Prod.mk.injEq] at hc
     obtain ⟨rfl,rfl,rfl⟩:=hc
     obtain ⟨hz,hv⟩:(∀ x∈es,x.length=z)/\VC (Yo9 r zs'++tl) K:=hv
     obtain ⟨hf,hnl⟩:=hr n (Nat.le_refl _) (by simp)
     have hjn:j≠n:=fun e=>by rw [e,hf] at hj; cases hj
     have hjl:j<s.objs.length:=Ygp hj (by simp)
     have hp:(pre++Cell.list es :: r)[pre.length]? = some (.list es):=by simp
     obtain ⟨ι1,h1,hsl,htk,hext,_⟩:=h.focus hj he hp hz hf hnl hn.1 hn.2
     have hset:(pre++Cell.list es :: r).set pre.length .any=pre++[.any]++r:=by simp
     have hobj1:∀ x,(Ygv s j n i pre.length sz esc (pre++Cell.list es :: r) z es).obj x=if x=n then .arr true z es else if x=j then .arr true sz (esc.set i (pre++[.any]++r)) else s.obj x:=by
      intro x
      unfold Ygv
      rw [Yg5 (by rw [Yga]; exact hnl),Yg5 hjl,hset]
     have hil:i<esc.length:=(List.getElem?_eq_some_iff.1 he).1
     obtain ⟨hK,ι',vs,k1,k2,k3,k4,k5⟩:=Yxc r (pre:=pre++[.any]) (esc:=esc.set i (pre++[.any]++r)) hrec hv h1 (by rw [hobj1,if_neg hjn,if_pos rfl]) (by rw [List.getElem?_set_self hil]) (by rw [hsl]; exact hb)
      (fun x hx hx2=>by
       have:=hr x (by omega) (by simp only [List.length_cons]; omega)
       refine ⟨?_,by unfold Ygv; rw [Yga,Yga]; exact this.2⟩
       rw [hobj1,if_neg (by omega),if_neg (fun e=>by rw [e] at this; rw [hj] at this; cases this.1)]; exact this.1)
      ⟨fun t c hc k hk=>hn.1 t c hc k hk,fun x c hc k hk=>by
       rw [hobj1] at hc
       split at hc
       ·simp [Ob.acs] at hc
       ·split at hc
        ·simp [Ob.acs] at hc
        ·exact hn.2 x c hc k hk⟩
     have hst:((Ygv s j n i pre.length sz esc (pre++Cell.list es :: r) z es).setOb j (.arr true sz ((esc.set i (pre++[.any]++r)).set i (pre++[.any]++e1)))).setObs (n+1) os1 =
       (s.setOb j (.arr true sz (esc.set i (pre++.any :: e1)))).setObs n (.arr true z es :: os1):=by
      rw [St.setObs,List.set_set]
      unfold Ygv
      rw [Y1c2 _ (Ne.symm hjn),Y17w]
      simp
     rw [hst] at k1 k4 k5
     have hext2:=Y1en hext k5
     refine ⟨hK,ι',ι1.sl n :: vs,k1,by simp [k2],fun p x hx => ?_,⟨⟨?_,?_⟩,k4⟩,hext2⟩
     ·cases p with
      | zero=>
       simp only [List.getElem?_cons_zero,Option.some.injEq] at hx; subst hx
       exact htk.cell b (by rw [hsl]; exact hb)
      | succ p=>
       have:=k3 p x (by simpa using hx)
       rw [List.length_append,List.length_singleton] at this
       rw [show pre.length+(p+1)=pre.length+1+p by omega]; exact this
     ·have hn1:(Ygv s j n i pre.length sz esc (pre++Cell.list es :: r) z es).obj n=.arr true z es:=by rw [hobj1,if_pos rfl]
      have hr1:Ygx w ι1 (Ygv s j n i pre.length sz esc (pre++Cell.list es :: r) z es).obj (.ref n) (ι1.sl n):=⟨by unfold notFree; rw [hn1]; trivial,fun _ _ _ _=>rfl⟩
      exact Ygx.ext k5 (fun id hid=>by cases hid) hr1
     ·obtain ⟨v,F,hcell,hown⟩:=Y15w h hj he hb (p:=pre.length) (c:=.list es) (by simp)
      have:=htk.cell b (by rw [hsl]; exact hb)
      rw [this] at hcell
      simp only [Option.some.injEq] at hcell
      rw [hcell]; exact hown.one
    ·cases hc
   ·cases hc
  | any=>simp [Yk7] at hc
  | cap v=>simp [Yk7] at hc
  | clo f v=>simp [Yk7] at hc
theorem Yz9 (h:Rel E s ι a w) {o:Oper} {T:TypeId} {x:Operand} (ho:o.op=.load T x) {n:Nat} {r:Res} {q q':List Orc} {it:List Item} {K:Prop}
  (e:eLoadPull P s T x n q=some (r,it,q')) (vc:VC it K) (hroom:Ykh s n r.new.length):EOK P E s a w o n r/\K:=by
 unfold eLoadPull at e
 split at e
 ·rename_i j i off m hx hT hA
  split at e
  ·rename_i sz es hob
   split at e
   ·rename_i e0 zs q1
    split at e
    ·rename_i cs os e' hout
     split at e
     ·rename_i hc
      simp only [Option.some.injEq,Prod.mk.injEq] at e
      obtain ⟨rfl,rfl,rfl⟩:=e
      simp only [Bool.and_eq_true] at hc
      obtain rfl:=Nat.eq_of_beq_eq_true hc.1
      obtain rfl:=Nat.eq_of_beq_eq_true hc.2.1
      obtain ⟨he,hv⟩:es[i]? = some e0/\VC (Yo9 e0 zs++[]) K:=vc
      obtain ⟨b,hb,hp⟩:=(Yhe h hx).2 _ _ _ hob
      have h1:=h.inval [j]
      have hob1:(s.inval [j]).obj j=.arr true sz es:=by rw [Ygl,hob]; rfl
      have hr1:Ykh (s.inval [j]) n os.length:=fun k hk hk2=>by
       have:=hroom k hk hk2
       exact ⟨by rw [Ygl,this.1]; rfl,by rw [Yhh]; exact this.2⟩
      obtain ⟨hK,ι',vs,k1,k2,k3,k4,_⟩:=Yxc e0 (pre:=[]) hout hv h1 hob1 (by simpa using he) hb hr1 ⟨Yow s,Yp1 s⟩
      simp only [List.nil_append] at k1 k4
      refine ⟨EOK.value (ι':=ι') (w':=w) (v:=.agg vs.toArray) ?_ k1 ⟨_,rfl,by rw [show vs.toArray.toList=vs from by simp]; exact k4⟩,hK⟩
      have hsz:e0.length=sz:=by
       have hor:=h.objs j
       rw [hob] at hor
       obtain ⟨_,_,_,_,h2,_⟩:=hor
       exact h2 e0 (List.mem_of_getElem? he)
      simp only [execOp,ho,Instr.loadAt,hp,Instr.sureAddr]
      refine Yij _ ?_
      have:=Ync (P:=P) (w:=w) (b:=b) (o:=i * sz+0) hA hT (by rw [k2,hsz]) (fun p v hv=>by have:=k3 p v hv; simpa using this)
      simpa using this
     ·cases e
    ·cases e
   ·cases e
  ·cases e
 ·cases e
end
end Go.Proofs.YtclpofblehlojaaGreat.Ab
end
section
namespace Go.Proofs.YtclpofblehlojaaGreat.Ab
open Go
section
variable {P:Program} {E:Ent P} {s:St} {ι:Interp} {a:Act} {w:World}
def evAll (s:St):List Operand->Option (List AV)
 | []=>some []
 | x :: r=>match s.ev x,evAll s r with
  | some v,some l=>some (v :: l)
  | _,_=>none
theorem Ytv (h:Rel E s ι a w):∀ {xs:List Operand} {l:List AV},evAll s xs=some l->Yg8 (Ygz w ι s.obj) l (xs.map a.eval)
 | [],l,e=>by simp only [evAll,Option.some.injEq] at e; subst e; trivial
 | x :: xs,l,e=>by
  simp only [evAll] at e
  split at e
  ·rename_i v l' h1 h2
   simp only [Option.some.injEq] at e; subst e
   exact ⟨Yjo h h1,Ytv h h2⟩
  ·cases e
def Ym1:Nat:=8
def eCall (P:Program) (s:St) (f:FuncId) (args:Array Operand) (ex:List AV) (n:Nat) (q:List Orc):Option (Res × List Item × List Orc):=
 match q with
 | .call ms objs1 res :: q=>match evAll s args.toList with
  | some avs=>match passAll s {} ms (avs++ex) with
   | some p=>if p.lent.all (fun i => !p.emb.elem (some i))=true/\objs1.length<=Ym1/\(p.lent=[] ∨ (objs1.all Ob.noG=true/\res.acs.all AC.noG=true)) then
     some ({ val:=res.ren (Ylp p.emb n),upd:=Ymf p.emb n objs1,inv:=Yl5 p.emb },[.obl (Yjg P f p.objs p.args objs1 res)],q) else none
   | none=>none
  | none=>none
 | _=>none
def calleeOf (s:St) (x:Operand):Option FuncId:=
 match s.lit x with
 | some (.func (.func f) x y)=>match x.toList,y.toList with
  | [],[]=>some f
  | _,_=>none
 | _=>none
theorem Y13d (h:Rel E s ι a w) {x:Operand} {f:FuncId} (e:calleeOf s x=some f):a.eval x=.func (.func f) #[] #[]:=by
 unfold calleeOf at e
 split at e
 ·rename_i f' y z hl
  split at e
  ·rename_i h1 h2
   obtain rfl:y=#[]:=Array.ext' h1
   obtain rfl:z=#[]:=Array.ext' h2
   simp only [Option.some.injEq] at e; subst e
   exact (Yjw h hl).1
  ·cases e
 ·cases e
def cloOf (s:St) (x:Operand):Option (FuncId × Value):=
 match s.ac x with
 | some (.val (.clo f v))=>some (f,v)
 | _=>none
theorem Y1do (h:Rel E s ι a w) {x:Operand} {f:FuncId} {v:Value} (e:cloOf s x=some (f,v)):∃ p,a.eval x=.func (.func f) #[] #[p]/\Ygz w ι s.obj (.sv (.one (.val (.cap v)))) p:=by
 unfold cloOf at e
 split at e
 ·rename_i f' v' hc
  simp only [Option.some.injEq,Prod.mk.injEq] at e
  obtain ⟨rfl,rfl⟩:=e
  have hr:Rd w ι.G (a.eval x) (.clo f' v'):=Yhe h hc
  generalize a.eval x=u at hr
  cases hr with
  | clo hb hl hx=>exact ⟨_,rfl,.cap hb hl hx,fun _=>rfl⟩
 ·cases e
theorem Y11x (h:Rel E s ι a w) {o:Oper} {x:Operand} {f:FuncId} {args:Array Operand} {tys:Array TypeId} (ho:o.op=.call { callee:=.value x,args:=args,argTypes:=tys }) {caps:Array Value} (hx:a.eval x=.func (.func f) #[] caps) {n:Nat}
  {ms:List Mode} {avs:List AV} {p:Pass} {objs1:List Ob} {res:AV} (hp:passAll s {} ms avs=some p) (hav:Yg8 (Ygz w ι s.obj) avs (args.toList.map a.eval++caps.toList)) (hlent:p.lent.all (fun i => !p.emb.elem (some i))=true)
  (hG:p.lent=[] ∨ (objs1.all Ob.noG=true/\res.acs.all AC.noG=true)) (hcall:Yjg P f p.objs p.args objs1 res) (hroom':Ykh s n objs1.length)
  {next:Act->World->Prop} {Q:Exit->Act->World->Prop}
  (k:∀ ι' v w',Rel E ((s.inval (Yl5 p.emb)).updObs (Ymf p.emb n objs1)) ι' a w'->Ygz w' ι' ((s.inval (Yl5 p.emb)).updObs (Ymf p.emb n objs1)).obj (res.ren (Ylp p.emb n)) v ->
   Ext (fun i=>i ∉ Yl5 p.emb) w ι (s.inval (Yl5 p.emb)).obj w' ι' ((s.inval (Yl5 p.emb)).updObs (Ymf p.emb n objs1)).obj->next (a.put o.dst v) w'):o.wp P a w next Q:=by
 obtain ⟨ok,zs,hz,hargs⟩:=Yym (ys:=[]) (PassOK.nil s) hp trivial
 simp only [List.nil_append] at hargs
 have hl:∀ i∈p.lent,some i ∉ p.emb:=fun i hi=>by simpa using (List.all_eq_true.1 hlent) i hi
 have hvals:Yg8 (Yh5 w ι s.obj) zs (args.map a.eval++caps).toList:=by
  have:=hav
  rw [hz] at this
  rw [Array.toList_append,Array.toList_map]
  have conv:∀ {l:List SV} {vs:List Value},Yg8 (Ygz w ι s.obj) (l.map .sv) vs->Yg8 (Yh5 w ι s.obj) l vs:=by
   intro l
   induction l with
   | nil=>intro vs hv; cases vs with | nil=>trivial | cons=>exact hv.elim
   | cons x l ih=>intro vs hv; cases vs with
    | nil=>exact hv.elim
    | cons v vs=>exact ⟨hv.1,ih hv.2⟩
  exact conv this
 have hrun:(execOp a.eval o).run P w=.ok (.enter f (args.map a.eval++caps)) w:=by
  have:=hcall.1 (args.map a.eval++caps) w
  simp [execOp,ho,resolve,hx,Deferred.ofValue,invoke,this]
 simp only [Oper.wp,hrun,Oper.upon_enter]
 by_cases hl0:p.lent=[]
 ·have hpre:=Ywj (R:=ι.G) h ok (fun _ hb=>hb) (by simp [hl0]) (fun _ hb=>.inl hb) hargs hvals
  refine (hcall.2 w _ _ hpre h.known).mono ?_
  rintro e w' ⟨v,ι1,rfl,hpost⟩
  obtain ⟨ι',k1,k2,k3⟩:=Y158 h ok (fun _ hb=>.inl hb) hroom' hpost (.inl ⟨hl0,rfl⟩)
  exact k ι' v w' k1 k2 k3
 ·have hG':=hG.resolve_left hl0
  have hpre:=Ywj (R:=fun b=>ι.G b ∨ ∃ id,some id ∉ p.emb/\ι.fp id b) h ok (fun _ hb=>.inl hb) (fun i hi b hb=>.inr ⟨i,hl i hi,hb⟩) (fun _ hb=>hb) hargs hvals
  refine (hcall.2 w _ _ hpre h.known).mono ?_
  rintro e w' ⟨v,ι1,rfl,hpost⟩
  obtain ⟨ι',k1,k2,k3⟩:=Y158 h ok (fun _ hb=>hb) hroom' hpost (.inr hG')
  exact k ι' v w' k1 k2 k3
theorem Ywd (h:Rel E s ι a w) {o:Oper} {x:Operand} {f:FuncId} {args:Array Operand} {tys:Array TypeId} (ho:o.op=.call { callee:=.value x,args:=args,argTypes:=tys }) {caps:Array Value} (hx:a.eval x=.func (.func f) #[] caps) {ex:List AV} (hex:Yg8 (Ygz w ι s.obj) ex caps.toList) {n:Nat} {r:Res} {q q':List Orc}
  {it:List Item} {K:Prop} (e:eCall P s f args ex n q=some (r,it,q')) (vc:VC it K) (hroom:Ykh s n Ym1):EOK P E s a w o n r/\K:=by
 unfold eCall at e
 split at e
 ·rename_i ms objs1 res q1
  split at e
  ·rename_i avs hav
   split at e
   ·rename_i p hp
    split at e
    ·rename_i hc
     obtain ⟨hlent,hlen,hG⟩:=hc
     simp only [Option.some.injEq,Prod.mk.injEq] at e
     obtain ⟨rfl,rfl,rfl⟩:=e
     obtain ⟨hcall,hK⟩:=vc
     refine ⟨?_,hK⟩
     intro next Q k
     exact Y11x h ho hx hp ((Ytv h hav).append hex) hlent hG hcall (fun i h1 h2=>hroom i h1 (by omega)) fun ι' v w' k1 k2 _=>k ι' v w' k1 k2
    ·cases e
   ·cases e
  ·cases e
 ·cases e
def Yro (n:Nat):List AV->Option ((Nat × Nat × Nat) × List AV)
 | []=>none
 | .sv (.one (.sub id i p)) :: r=>some ((id,i,p),.sv (.one (.ref n)) :: r)
 | x :: r=>match Yro n r with
  | some (k,r')=>some (k,x :: r')
  | none=>none
def Y1qs (id:Nat) (x:AV):Bool:=x.acs.all fun c=>match c.src with | some k => !(Nat.beq k id) | none=>true
theorem Ywa {R R':AV->Value->Prop} {n:Nat}:∀ {avs avs1:List AV} {vs:List Value} {k:Nat × Nat × Nat},Yro n avs=some (k,avs1)->Yg8 R avs vs ->
  (∀ v,R (.sv (.one (.sub k.1 k.2.1 k.2.2))) v->R' (.sv (.one (.ref n))) v)->(∀ x∈avs1,∀ v,R x v->R' x v)->(∃ v,R (.sv (.one (.sub k.1 k.2.1 k.2.2))) v)/\Yg8 R' avs1 vs
 | [],_,_,_,e,_,_,_=>by simp [Yro] at e
 | x :: r,avs1,[],_,_,ha,_,_=>ha.elim
 | x :: r,avs1,v :: vs,k,e,ha,h1,h2=>by
  unfold Yro at e
  split at e
  ·cases ‹_=[] ›
  ·rename_i id i p r' hx
   simp only [List.cons.injEq] at hx
   obtain ⟨rfl,rfl⟩:=hx
   simp only [Option.some.injEq,Prod.mk.injEq] at e
   obtain ⟨rfl,rfl⟩:=e
   refine ⟨⟨v,ha.1⟩,h1 v ha.1,?_⟩
   exact ha.2.impMem fun y u hy hr=>h2 y (List.mem_cons_of_mem _ hy) u hr
  ·rename_i y r' _ hx
   simp only [List.cons.injEq] at hx
   obtain ⟨rfl,rfl⟩:=hx
   split at e
   ·rename_i k' r2 he
    simp only [Option.some.injEq,Prod.mk.injEq] at e
    obtain ⟨rfl,rfl⟩:=e
    obtain ⟨h3,h4⟩:=Ywa he ha.2 h1 fun y hy u hr=>h2 y (List.mem_cons_of_mem _ hy) u hr
    exact ⟨h3,h2 _ List.mem_cons_self v ha.1,h4⟩
   ·cases e
def Y12r:AC->Bool
 | .val (.lit _)=>true
 | _=>false
def Ywo (P:Program) (s:St) (f:FuncId) (args:Array Operand) (n:Nat) (q:List Orc):Option (Res × List Item × List Orc):=
 match q with
 | .subcall e es' sz' :: .call ms objs1 res :: q=>match evAll s args.toList with
  | some avs=>match Yro n avs with
   | some ((id,i,p),avs1)=>match s.obj id with
    | .arr true sz es=>match passAll (Ygv (s.inval [id]) id n i p sz es e sz' es') {} ms avs1 with
     | some pp=>match pp.emb,objs1 with
      | [some m],[.arr true sz2 es2]=>if m=n/\sz2=sz'/\id≠n/\p<e.length/\avs1.all (Y1qs id)=true/\pp.lent.all (fun i => !pp.emb.elem (some i))=true/\(pp.lent=[] ∨ res.acs.all AC.noG=true)/\res.acs.all Y12r=true then
        some ({ val:=res,new:=[.dead],upd:=[(id,.arr true sz (es.set i (e.set p (.list es2))))],inv:=[id,n] },
         [.obl (es[i]? = some e),.obl (e[p]? = some (.list es')),.obl (∀ x∈es',x.length=sz'),.obl (Yjg P f pp.objs pp.args objs1 res)],q) else none
      | _,_=>none
     | none=>none
    | _=>none
   | none=>none
  | none=>none
 | _=>none
theorem Yuj (x y:Nat) (c:AC):Yhw [y] (Yhw [x] c)=Yhw [x,y] c:=by
 cases hc:c.src with
 | none=>simp [Yhw,hc]
 | some k=>
  by_cases h1:k=x
  ·subst h1
   have e1:Yhw [k] c=.top:=by simp [Yhw,hc]
   have e2:Yhw [k,y] c=.top:=by simp [Yhw,hc]
   rw [e1,e2]; rfl
  ·by_cases h2:k=y
   ·subst h2; simp [Yhw,hc,h1]
   ·simp [Yhw,hc,h1,h2]
theorem Y11z (x y:Nat) (c:SV):Yi4 [y] (Yi4 [x] c)=Yi4 [x,y] c:=by
 cases c with
 | one c=>simp [Yi4,Yuj]
 | agg cs=>simp [Yi4,Yuj,Function.comp_def]
theorem Y1fc (x y:Nat) (c:AV):Yhc [y] (Yhc [x] c)=Yhc [x,y] c:=by
 cases c with
 | sv c=>simp [Yhc,Y11z]
 | tup cs=>simp [Yhc,Y11z,Function.comp_def]
theorem Y1da (x y:Nat) (o:Ob):Ygk [y] (Ygk [x] o)=Ygk [x,y] o:=by
 cases o <;> simp [Ygk,Yuj,Function.comp_def]
theorem Y10j (h:Rel E s ι a w) {o:Oper} {f:FuncId} {args:Array Operand} {tys:Array TypeId} (ho:o.op=.call { callee:=.value (.func f),args:=args,argTypes:=tys }) {n:Nat} {r:Res} {q q':List Orc}
  {it:List Item} {K:Prop} (e:Ywo P s f args n q=some (r,it,q')) (vc:VC it K) (hroom:Ykh s n Ym1):EOK P E s a w o n r/\K:=by
 unfold Ywo at e
 split at e
 ·rename_i el es' sz' ms objs1 res q1
  split at e
  ·rename_i avs hav
   split at e
   ·rename_i id i p avs1 hfs
    split at e
    ·rename_i sz es hob
     split at e
     ·rename_i pp hpp
      split at e
      ·rename_i m sz2 es2 hemb
       split at e
       ·rename_i hc
        obtain ⟨rfl,rfl,hne,hpl,hargs,hlent,hG,hlit⟩:=hc
        simp only [Option.some.injEq,Prod.mk.injEq] at e
        obtain ⟨rfl,rfl,rfl⟩:=e
        obtain ⟨he,hep,hx,hcall,hK⟩:=vc
        refine ⟨?_,hK⟩
        obtain ⟨hfr,hnl⟩:=hroom m (Nat.le_refl _) (by simp [Ym1])
        have h0:=h.inval [id]
        have hob0:(s.inval [id]).obj id=.arr true sz es:=by rw [Ygl,hob]; rfl
        have hfr0:(s.inval [id]).obj m=.free:=by rw [Ygl,hfr]; rfl
        have hnl0:m<(s.inval [id]).objs.length:=by rw [Yhh]; exact hnl
        obtain ⟨ι1,h1,hsl,htk,hext,_⟩:=h0.focus hob0 he hep hx hfr0 hnl0
         (fun t c hc k hk=>by rw [Yko] at hc; have:=Ym2 _ hc hk; simpa using this)
         (fun k c hc k' hk'=>by
          rw [Ygl] at hc
          cases hk:s.obj k with
          | box cs=>rw [hk] at hc; simp [Ygk,Ob.acs] at hc; obtain ⟨y,_,rfl⟩:=hc; have:=Yk3 _ hk'; simpa using this
          | free=>rw [hk] at hc; simp [Ygk,Ob.acs] at hc
          | dead=>rw [hk] at hc; simp [Ygk,Ob.acs] at hc
          | map _ _ _=>rw [hk] at hc; simp [Ygk,Ob.acs] at hc
          | arr _ _ _=>rw [hk] at hc; simp [Ygk,Ob.acs] at hc)
        have hstep:∀ k,Yho w w ι ι True k (s.obj k) ((s.inval [id]).obj k):=by
         intro k
         rw [Ygl]
         cases hk:s.obj k with
         | free=>trivial
         | dead=>trivial
         | box cs=>rfl
         | arr o1 s1 e1=>exact ⟨rfl,rfl,fun _ b hb=>⟨.inl hb,rfl⟩⟩
         | map _ _ _=>exact ⟨rfl,rfl,rfl,fun _ b hb=>⟨.inl hb,rfl⟩⟩
        have hx0:Ext (fun _=>True) w ι s.obj w ι (s.inval [id]).obj:=Ysd hstep
        have hvals:=Ytv h hav
        obtain ⟨_,hav1⟩:=Ywa (R:=Ygz w ι s.obj) (R':=Ygz w ι1 (Ygv (s.inval [id]) id m i p sz es el sz2 es').obj) hfs hvals
         (fun v hv=>by
          obtain ⟨b,hb,_,hcell⟩:=hv.1.2 _ _ _ hob
          have h8:=htk.cell b (by rw [hsl]; exact hb)
          rw [h8] at hcell
          simp only [Option.some.injEq] at hcell
          have hom:(Ygv (s.inval [id]) id m i p sz es el sz2 es').obj m=.arr true sz2 es':=by
           unfold Ygv
           rw [Yg5 (by rw [Yga]; exact hnl0),if_pos rfl]
          refine ⟨⟨?_,fun _ _ _ _=>hcell.symm⟩,fun _=>hv.2 (by simp)⟩
          unfold notFree; rw [hom]; trivial)
         (fun x hx v hv=>by
          have hok:=(List.all_eq_true.1 hargs) x hx
          refine Ygz.ext hext (fun c hc k hk => ?_) (Ygz.ext hx0 (fun _ _ _ _=>trivial) hv)
          have:=(List.all_eq_true.1 hok) c hc
          rw [hk] at this
          simp only [Bool.not_eq_true'] at this
          exact Nat.ne_of_beq_eq_false this)
        intro next Q k
        have hemb':Yl5 pp.emb=[m]:=by rw [hemb]; rfl
        refine Y11x h1 ho (caps:=#[]) rfl (n:=m+1) hpp (by simpa using hav1) hlent (hG.imp (fun x=>x) fun hg=>⟨by simp [Ob.noG],hg⟩) hcall (fun j h3 h4 => ?_) fun ι2 v w2 k1 k2 k3 => ?_
        ·have h5:j≠m:=by omega
         have h6:j≠id:=fun e=>by
          have:=(hroom j (by omega) (by simp at h4; simp [Ym1]; omega)).1
          rw [e,hob] at this; cases this
         unfold Ygv
         rw [Yg5 (by rw [Yga]; exact hnl0),Yg5 (by rw [Yhh]; exact Ygp hob (by simp)),if_neg h5,if_neg h6,Yga,Yga,Yhh,Ygl]
         obtain ⟨h7,h8⟩:=hroom j (by omega) (by simp at h4; simp [Ym1]; omega)
         exact ⟨by rw [h7]; rfl,h8⟩
        ·
         rw [hemb'] at k1 k2 k3
         have hbu:Ymf pp.emb (m+1) [Ob.arr true sz2 es2]=[(m,.arr true sz2 es2)]:=by
          rw [hemb]; rfl
         rw [hbu] at k1 k2 k3
         have hlid:id<(s.inval [id]).objs.length:=by rw [Yhh]; exact Ygp hob (by simp)
         have hl1:((Ygv (s.inval [id]) id m i p sz es el sz2 es').inval [m]).objs.length=s.objs.length:=by
          rw [Yhh]; unfold Ygv; rw [Yga,Yga,Yhh]
         have ho2:∀ j,(((Ygv (s.inval [id]) id m i p sz es el sz2 es').inval [m]).updObs [(m,.arr true sz2 es2)]).obj j =
           if j=m then .arr true sz2 es2 else if j=id then .arr true sz (es.set i (el.set p .any)) else Ygk [id,m] (s.obj j):=by
          intro j
          show (((Ygv (s.inval [id]) id m i p sz es el sz2 es').inval [m]).setOb m (.arr true sz2 es2)).obj j=_
          rw [Yg5 (by rw [hl1]; exact hnl)]
          by_cases hj:j=m
          ·rw [if_pos hj,if_pos hj]
          ·rw [if_neg hj,if_neg hj,Ygl]
           unfold Ygv
           rw [Yg5 (by rw [Yga]; exact hnl0),Yg5 hlid,if_neg hj]
           by_cases hj2:j=id
           ·rw [if_pos hj2,if_pos hj2]; rfl
           ·rw [if_neg hj2,if_neg hj2,Ygl,Y1da]
         have hidm:id≠m:=hne
         have hi2:=ho2 id
         rw [if_neg hidm,if_pos rfl] at hi2
         have hm2:=ho2 m
         rw [if_pos rfl] at hm2
         have hif:((Ygv (s.inval [id]) id m i p sz es el sz2 es').inval [m]).obj id=.arr true sz (es.set i (el.set p .any)):=by
          rw [Ygl]; unfold Ygv
          rw [Yg5 (by rw [Yga]; exact hnl0),Yg5 hlid,if_neg hidm,if_pos rfl]; rfl
         have hmf:((Ygv (s.inval [id]) id m i p sz es el sz2 es').inval [m]).obj m=.arr true sz2 es':=by
          rw [Ygl]; unfold Ygv
          rw [Yg5 (by rw [Yga]; exact hnl0),if_pos rfl]; rfl
         have hoi:=k3.o id
         rw [hif,hi2] at hoi
         obtain ⟨hsid,_,hblk⟩:=hoi
         have hom:=k3.o m
         rw [hmf,hm2] at hom
         obtain ⟨hsm,_,_⟩:=hom
         have hil:i<es.length:=(List.getElem?_eq_some_iff.1 he).1
         have htk2:Taken w2 ι2 id m i sz p:=by
          refine ⟨fun b hb => ?_,?_⟩
          ·rw [hsid] at hb
           obtain ⟨b1,hb1,hf1⟩:=htk.blk
           have:b1=b:=by rw [hb] at hb1; exact (Option.some.inj hb1).symm
           subst this
           have hsame:=(hblk (by simp; exact fun e=>hidm e) b1 hf1).2
           rw [Yjp hsame,hsm]
           exact htk.cell b1 hb
          ·obtain ⟨b1,hb1,hf1⟩:=htk.blk
           refine ⟨b1,by rw [hsid]; exact hb1,?_⟩
           have hr2:=k1.objs id
           rw [hi2] at hr2
           obtain ⟨e0,xs,Fs,_,_,h9,_⟩:=hr2
           exact h9 b1 (by rw [hsid]; exact hb1)
         have hlen2:(es.set i (el.set p .any))[i]? = some (el.set p .any):=by rw [List.getElem?_set_self hil]
         obtain ⟨ι3,k4,k5⟩:=k1.unfocus (es':=es2) (e:=el.set p .any) hi2 hm2 hlen2 (by rw [List.length_set]; exact hpl) hidm htk2
         have hset:(es.set i (el.set p .any)).set i ((el.set p .any).set p (.list es2))=es.set i (el.set p (.list es2)):=by
          rw [List.set_set,List.set_set]
         have hfin:∀ j,(s.app m { val:=res,new:=[.dead],upd:=[(id,.arr true sz (es.set i (el.set p (.list es2))))],inv:=[id,m] }).obj j =
           (Ykn (((Ygv (s.inval [id]) id m i p sz es el sz2 es').inval [m]).updObs [(m,.arr true sz2 es2)]) id m i p sz (es.set i (el.set p .any)) (el.set p .any) es2).obj j:=by
          intro j
          unfold Ykn
          have hl3:(((Ygv (s.inval [id]) id m i p sz es el sz2 es').inval [m]).updObs [(m,Ob.arr true sz2 es2)]).objs.length=s.objs.length:=by
           rw [Yii,hl1]
          rw [Yg5 (by rw [Yga,hl3]; exact hnl),Yg5 (by rw [hl3]; exact Ygp hob (by simp)),hset,ho2]
          show (((s.inval [id,m]).setOb id _).setOb m .dead).obj j=_
          rw [Yg5 (by rw [Yga,Yhh]; exact hnl),Yg5 (by rw [Yhh]; exact Ygp hob (by simp)),Ygl]
          by_cases hj:j=m
          ·rw [if_pos hj,if_pos hj]
          ·rw [if_neg hj,if_neg hj]
           by_cases hj2:j=id
           ·rw [if_pos hj2,if_pos hj2]
           ·rw [if_neg hj2,if_neg hj2,if_neg hj,if_neg hj2]
         have hregs:(s.app m { val:=res,new:=[.dead],upd:=[(id,.arr true sz (es.set i (el.set p (.list es2))))],inv:=[id,m] }).regs =
           (Ykn (((Ygv (s.inval [id]) id m i p sz es el sz2 es').inval [m]).updObs [(m,.arr true sz2 es2)]) id m i p sz (es.set i (el.set p .any)) (el.set p .any) es2).regs:=by
          show s.regs.map (Yhc [id,m])=(s.regs.map (Yhc [id])).map (Yhc [m])
          rw [List.map_map]
          congr 1
          funext x; exact (Y1fc id m x).symm
         have k6:=k4.sameObj (s':=s.app m { val:=res,new:=[.dead],upd:=[(id,.arr true sz (es.set i (el.set p (.list es2))))],inv:=[id,m] }) hregs (funext hfin) rfl
         refine k ι3 v w2 k6 ?_
         have hresr:res.ren (Ylp pp.emb (m+1))=res:=by
          have hac:∀ c,Y12r c=true->c.ren (Ylp pp.emb (m+1))=c:=fun c hc=>by
           unfold Y12r at hc; split at hc
           ·rfl
           ·cases hc
          have hsv:∀ x:SV,x.acs.all Y12r=true->x.ren (Ylp pp.emb (m+1))=x:=fun x hx=>by
           cases x with
           | one c=>simp [SV.acs] at hx; simp [SV.ren,hac c hx]
           | agg cs=>
            simp only [SV.acs] at hx
            simp only [SV.ren,SV.agg.injEq]
            conv=>rhs; rw [<- List.map_id cs]
            exact List.map_congr_left fun c hc=>hac c ((List.all_eq_true.1 hx) c hc)
          cases res with
          | sv x=>simp only [AV.ren,hsv x hlit]
          | tup l=>
           simp only [AV.ren,AV.tup.injEq]
           conv=>rhs; rw [<- List.map_id l]
           refine List.map_congr_left fun x hx=>hsv x (List.all_eq_true.2 fun c hc=>(List.all_eq_true.1 hlit) c (List.mem_flatMap.2 ⟨x,hx,hc⟩))
         rw [hresr] at k2
         have k7:=Ygz.ext k5 (fun _ _ _ _=>trivial) k2
         rw [funext hfin]
         exact k7
       ·cases e
      ·cases e
     ·cases e
    ·cases e
   ·cases e
  ·cases e
 ·cases e
def Yhy (o:Oper):Nat:=
 match o.op with
 | .alloc _ | .box .. | .buildSlice .. | .makeSlice .. | .lookup .. | .makeMap .. => 1
 | .call { callee:=.builtin .append,.. }=>2
 | .store .. => 1
 | .load .. => 2
 | .call { callee:=.value _,.. }=>Ym1
 | _=>0
def aop (P:Program) (s:St) (o:Oper) (n:Nat) (q:List Orc):Option (Res × List Item × List Orc):=
 match o.op with
 | .alloc T=>(Yur P T n).map fun r=>(r,[],q)
 | .box _ x=>(eBox s x n).map fun r=>(r,[],q)
 | .build T ps=>(eBuild P s T ps).map fun r=>(r,[],q)
 | .buildSlice T len ps=>match len with
  | 0=>match q with
   | .bool sh :: q=>(eBuildSlice P s T 0 ps n sh).map fun r=>(r,[],q)
   | _=>none
  | k+1=>(eBuildSlice P s T (k+1) ps n false).map fun r=>(r,[],q)
 | .makeSlice T lo co=>(eMake P s T lo co n).map fun r=>(r.1,r.2,q)
 | .store T ad x=>match eStoreBox P s T ad x with
  | some r=>some (r,[],q)
  | none=>match eStoreArr P s T ad x q with
   | some r=>some r
   | none=>eStoreSub P s T ad x n q
 | .call { callee:=.builtin .append,args:=args,argTypes:=tys }=>match eAppend P s args tys n q with
  | some r=>some r
  | none=>eAppendSub P s args tys n q
 | .call { callee:=.value x,args:=args,.. }=>match calleeOf s x with
  | some f=>eCall P s f args [] n q
  | none=>match cloOf s x with
   | some (f,v)=>eCall P s f args [.sv (.one (.val (.cap v)))] n q
   | none=>none
 | .call { callee:=.builtin .delete,args:=args,argTypes:=tys }=>eMapDelete P s args tys q
 | .lookup T m x ok=>eLookup P s T m x ok n q
 | .makeMap T hint=>Ysq P T hint n q
 | .mapUpdate T m x y | .insert T m x y=>eMapUpdate P s T m x y q
 | .binOp op T x y _=>match vop P s o q with
  | some r=>some ({ val:=r.1 },r.2.1,r.2.2)
  | none=>(eMapNil P s op T x y).map fun r=>(r,[],q)
 | .convert src dst x=>match src == dst&&Yol P src with
  | true=>(eMark s x).map fun r=>(r,[],q)
  | false=>(vop P s o q).map fun r=>({ val:=r.1 },r.2.1,r.2.2)
 | .load T x=>match eLoadPull P s T x n q with
  | some r=>some r
  | none=>(vop P s o q).map fun r=>({ val:=r.1 },r.2.1,r.2.2)
 | _=>(vop P s o q).map fun r=>({ val:=r.1 },r.2.1,r.2.2)
theorem Yvx (h:Rel E s ι a w) {o:Oper} {x:AV} (hv:VOK P s ι a w o x) (n:Nat):EOK P E s a w o n { val:=x }:=by
 obtain ⟨v,h1,h2⟩:=hv
 exact EOK.value h1 h h2
theorem Yv4 (h:Rel E s ι a w) {o:Oper} {n:Nat} {r:Res} {it:List Item} {q q':List Orc} {K:Prop} (e:aop P s o n q=some (r,it,q')) (vc:VC it K) (hroom:Ykh s n (Yhy o)) :
  EOK P E s a w o n r/\K:=by
 unfold aop at e
 split at e
 ·rename_i T ho
  cases hr:Yur P T n with
  | none=>simp [hr] at e
  | some r'=>
   simp only [hr,Option.map_some,Option.some.injEq,Prod.mk.injEq] at e
   obtain ⟨rfl,rfl,rfl⟩:=e
   have hl:r'.new.length<=1:=by unfold Yur at hr; cases hz:Ykj P T <;> simp [hz] at hr; subst hr; simp
   exact ⟨Y15j h ho hr fun i h1 h2=>hroom i h1 (by simp only [Yhy,ho]; omega),vc⟩
 ·rename_i T x ho
  cases hr:eBox s x n with
  | none=>simp [hr] at e
  | some r'=>
   simp only [hr,Option.map_some,Option.some.injEq,Prod.mk.injEq] at e
   obtain ⟨rfl,rfl,rfl⟩:=e
   have hl:r'.new.length<=1:=by
    unfold eBox at hr
    split at hr
    ·rename_i v _; cases hz:Ylf v <;> simp [hz] at hr; subst hr; simp
    ·cases hr
   exact ⟨Y1bs h ho hr fun i h1 h2=>hroom i h1 (by simp only [Yhy,ho]; omega),vc⟩
 ·rename_i T ps ho
  cases hr:eBuild P s T ps with
  | none=>simp [hr] at e
  | some r'=>
   simp only [hr,Option.map_some,Option.some.injEq,Prod.mk.injEq] at e
   obtain ⟨rfl,rfl,rfl⟩:=e
   exact ⟨Y14r h ho hr,vc⟩
 ·rename_i T len ps ho
  have fin:∀ {sh:Bool} {q1:List Orc},(eBuildSlice P s T len ps n sh).map (fun r=>(r,([]:List Item),q1))=some (r,it,q')->EOK P E s a w o n r/\K:=by
   intro sh q1 e
   cases hr:eBuildSlice P s T len ps n sh with
   | none=>simp [hr] at e
   | some r'=>
    simp only [hr,Option.map_some,Option.some.injEq,Prod.mk.injEq] at e
    obtain ⟨rfl,rfl,rfl⟩:=e
    have hl:r'.new.length<=1:=by
     unfold eBuildSlice at hr
     repeat (split at hr <;> first | (cases hr; done) | skip)
     simp only [Option.some.injEq] at hr; subst hr; simp
    exact ⟨Yw0 h ho hr fun i h1 h2=>hroom i h1 (by simp only [Yhy,ho]; omega),vc⟩
  split at e
  ·split at e
   ·exact fin e
   ·cases e
  ·exact fin e
 ·rename_i T lo co ho
  cases hr:eMake P s T lo co n with
  | none=>simp [hr] at e
  | some r'=>
   obtain ⟨r1,it1⟩:=r'
   simp only [hr,Option.map_some,Option.some.injEq,Prod.mk.injEq] at e
   obtain ⟨rfl,rfl,rfl⟩:=e
   have hl:r1.new.length<=1:=by
    unfold eMake at hr
    repeat (split at hr <;> first | (cases hr; done) | skip)
    simp only [Option.some.injEq,Prod.mk.injEq] at hr; obtain ⟨rfl,_⟩:=hr; simp
   exact Y17v h ho hr vc fun i h1 h2=>hroom i h1 (by simp only [Yhy,ho]; omega)
 ·rename_i T ad x ho
  split at e
  ·rename_i r' hr
   simp only [Option.some.injEq,Prod.mk.injEq] at e
   obtain ⟨rfl,rfl,rfl⟩:=e
   exact ⟨Yz6 h ho hr,vc⟩
  ·split at e
   ·rename_i r1 hr
    simp only [Option.some.injEq] at e; subst e
    exact Yzd h ho hr vc
   ·refine Yxx h ho e vc fun i h1 h2=>hroom i h1 ?_
    have hl:r.new.length<=1:=by
     unfold eStoreSub at e
     repeat (split at e <;> first | (cases e; done) | skip)
     simp only [Option.some.injEq,Prod.mk.injEq] at e; obtain ⟨rfl,_⟩:=e; simp
    simp only [Yhy,ho]; omega
 ·rename_i args tys ho
  split at e
  ·rename_i r1 hr
   simp only [Option.some.injEq] at e; subst e
   refine Y12o h ho hr vc fun i h1 h2=>hroom i h1 ?_
   have hl:r.new.length<=1:=by
    unfold eAppend at hr
    repeat (split at hr <;> first | (cases hr; done) | skip)
    simp only [Option.some.injEq,Prod.mk.injEq] at hr; obtain ⟨rfl,_⟩:=hr; simp
   simp only [Yhy,ho]; omega
  ·refine Ywp h ho e vc fun i h1 h2=>hroom i h1 ?_
   have hl:r.new.length<=2:=by
    unfold eAppendSub at e
    repeat (split at e <;> first | (cases e; done) | skip)
    simp only [Option.some.injEq,Prod.mk.injEq] at e; obtain ⟨rfl,_⟩:=e; simp
   simp only [Yhy,ho]; omega
 ·rename_i x args tys ho
  split at e
  ·rename_i f hf
   exact Ywd h ho (Y13d h hf) (ex:=[]) trivial e vc fun i h1 h2=>hroom i h1 (by simp only [Yhy,ho]; exact h2)
  ·split at e
   ·rename_i f v hf
    obtain ⟨p,hp,hr⟩:=Y1do h hf
    exact Ywd h ho hp (ex:=[_]) ⟨hr,trivial⟩ e vc fun i h1 h2=>hroom i h1 (by simp only [Yhy,ho]; exact h2)
   ·cases e
 ·rename_i args tys ho
  exact Yws h ho e vc
 ·rename_i T m x ok ho
  refine Y12k h ho e vc fun i h1 h2=>hroom i h1 ?_
  have hl:r.new.length<=1:=by
   unfold eLookup at e
   split at e
   ·split at e
    ·split at e
     ·split at e
      ·split at e
       ·simp only [Option.some.injEq,Prod.mk.injEq] at e; obtain ⟨rfl,_⟩:=e; simp
       ·split at e
        ·simp only [Option.some.injEq,Prod.mk.injEq] at e; obtain ⟨rfl,_⟩:=e; simp
        ·cases e
       ·simp only [Option.some.injEq,Prod.mk.injEq] at e; obtain ⟨rfl,_⟩:=e; simp
       ·cases e
      ·cases e
     ·cases e
    ·cases e
   ·cases e
  simp only [Yhy,ho]; omega
 ·rename_i T hint ho
  refine Y10q h ho e vc fun i h1 h2=>hroom i h1 ?_
  have hl:r.new.length<=1:=by
   unfold Ysq at e
   split at e
   ·split at e
    ·simp only [Option.some.injEq,Prod.mk.injEq] at e; obtain ⟨rfl,_⟩:=e; simp
    ·cases e
   ·cases e
  simp only [Yhy,ho]; omega
 ·rename_i T m x y ho
  exact Yqa h (.inl ho) e vc
 ·rename_i T m x y ho
  exact Yqa h (.inr ho) e vc
 ·rename_i op T x y z ho
  split at e
  ·rename_i r' hr
   obtain ⟨x1,it1,q1⟩:=r'
   simp only [Option.some.injEq,Prod.mk.injEq] at e
   obtain ⟨rfl,rfl,rfl⟩:=e
   obtain ⟨h1,h2⟩:=Yqt h hr vc
   exact ⟨Yvx h h1 n,h2⟩
  ·cases hr:eMapNil P s op T x y with
   | none=>simp [hr] at e
   | some r'=>
    simp only [hr,Option.map_some,Option.some.injEq,Prod.mk.injEq] at e
    obtain ⟨rfl,rfl,rfl⟩:=e
    exact ⟨Y12n h ho hr,vc⟩
 ·rename_i src dst x ho
  split at e
  ·rename_i hb
   simp only [Bool.and_eq_true,beq_iff_eq] at hb
   obtain ⟨rfl,hb⟩:=hb
   cases hr:eMark s x with
   | none=>simp [hr] at e
   | some r'=>
    simp only [hr,Option.map_some,Option.some.injEq,Prod.mk.injEq] at e
    obtain ⟨rfl,rfl,rfl⟩:=e
    exact ⟨Y17u h ho hb hr,vc⟩
  ·cases hr:vop P s o q with
   | none=>simp [hr] at e
   | some r'=>
    obtain ⟨x,it1,q1⟩:=r'
    simp only [hr,Option.map_some,Option.some.injEq,Prod.mk.injEq] at e
    obtain ⟨rfl,rfl,rfl⟩:=e
    obtain ⟨h1,h2⟩:=Yqt h hr vc
    exact ⟨Yvx h h1 n,h2⟩
 ·rename_i T x ho
  split at e
  ·rename_i r1 hr
   simp only [Option.some.injEq] at e; subst e
   refine Yz9 h ho hr vc fun i h1 h2=>hroom i h1 ?_
   have hl:r.new.length<=2:=by
    unfold eLoadPull at hr
    repeat (split at hr <;> first | (cases hr; done) | skip)
    rename_i hc
    simp only [Option.some.injEq,Prod.mk.injEq] at hr; obtain ⟨rfl,_⟩:=hr
    simp only [Bool.and_eq_true] at hc
    exact Nat.le_of_ble_eq_true hc.2.2
   simp only [Yhy,ho]; omega
  ·cases hr:vop P s o q with
   | none=>simp [hr] at e
   | some r'=>
    obtain ⟨x,it1,q1⟩:=r'
    simp only [hr,Option.map_some,Option.some.injEq,Prod.mk.injEq] at e
    obtain ⟨rfl,rfl,rfl⟩:=e
    obtain ⟨h1,h2⟩:=Yqt h hr vc
    exact ⟨Yvx h h1 n,h2⟩
 ·cases hr:vop P s o q with
  | none=>simp [hr] at e
  | some r'=>
   obtain ⟨x,it1,q1⟩:=r'
   simp only [hr,Option.map_some,Option.some.injEq,Prod.mk.injEq] at e
   obtain ⟨rfl,rfl,rfl⟩:=e
   obtain ⟨h1,h2⟩:=Yqt h hr vc
   exact ⟨Yvx h h1 n,h2⟩
def Y1g5 (P:Program) (s:St) (o:Oper) (n:Nat) (q:List Orc):Option (Res × List Item × List Orc):=
 match o.op with
 | .call { callee:=.value (.func f),args:=args,.. }=>match Ywo P s f args n q with
  | some r=>some r
  | none=>aop P s o n q
 | _=>aop P s o n q
theorem Y1bc (h:Rel E s ι a w) {o:Oper} {n:Nat} {r:Res} {it:List Item} {q q':List Orc} {K:Prop} (e:Y1g5 P s o n q=some (r,it,q')) (vc:VC it K) (hroom:Ykh s n (Yhy o)) :
  EOK P E s a w o n r/\K:=by
 unfold Y1g5 at e
 split at e
 ·rename_i f args tys ho
  split at e
  ·rename_i r0 hr0
   simp only [Option.some.injEq] at e; subst e
   exact Y10j h ho hr0 vc fun i h1 h2=>hroom i h1 (by simp only [Yhy,ho]; exact h2)
  ·exact Yv4 h e vc hroom
 ·exact Yv4 h e vc hroom
end
end Go.Proofs.YtclpofblehlojaaGreat.Ab
end
section
namespace Go.Proofs.YtclpofblehlojaaGreat.Ab
open Go
def Yis {α:Type} (f:α->(α->Prop)->Prop):List α->(List α->Prop)->Prop
 | [],k=>k []
 | a :: l,k=>f a fun a=>Yis f l fun l=>k (a :: l)
theorem Yhv {α:Type} {f:α->(α->Prop)->Prop} (hf:∀ a k,f a k=k a):∀ (l:List α) (k:List α->Prop),Yis f l k=k l
 | [],k=>rfl
 | a :: l,k=>by rw [Yis,hf,Yhv hf l]
def fId {α:Type} (a:α) (k:α->Prop):Prop:=k a
theorem Y13x {α:Type} (a:α) (k:α->Prop):fId a k=k a:=rfl
def Yjv:Nat->(Nat->Prop)->Prop
 | 0,k=>k 0
 | n+1,k=>k (n+1)
theorem Yjk:∀ (n:Nat) (k:Nat->Prop),Yjv n k=k n
 | 0,_=>rfl
 | _+1,_=>rfl
def fV:Value->(Value->Prop)->Prop
 | .bool b,k=>k (.bool b)
 | .int kd n,k=>k (.int kd n)
 | .string s,k=>k (.string s)
 | v,k=>k v
theorem Y1av (v:Value) (k:Value->Prop):fV v k=k v:=by cases v <;> rfl
def Yvg:Cell->(Cell->Prop)->Prop
 | .lit v,k=>fV v fun v=>k (.lit v)
 | .list es,k=>k (.list es)
 | .any,k=>k .any
 | .cap v,k=>fV v fun v=>k (.cap v)
 | .clo f v,k=>Yjv f fun f=>fV v fun v=>k (.clo f v)
theorem Y1h2 (c:Cell) (k:Cell->Prop):Yvg c k=k c:=by
 cases c with
 | lit v=>rw [Yvg,Y1av]
 | list es=>rfl
 | any=>rfl
 | cap v=>rw [Yvg,Y1av]
 | clo f v=>rw [Yvg,Yjk,Y1av]
def fAC:AC->(AC->Prop)->Prop
 | .top,k=>k .top
 | .val c,k=>Yvg c fun c=>k (.val c)
 | .ref i,k=>Yjv i fun i=>k (.ref i)
 | .bor i c,k=>Yjv i fun i=>Yvg c fun c=>k (.bor i c)
 | .ptr i o,k=>Yjv i fun i=>Yjv o fun o=>k (.ptr i o)
 | .eptr i j o,k=>Yjv i fun i=>Yjv o fun o=>k (.eptr i j o)
 | .iptr src cs,k=>match src with
  | none=>k (.iptr none cs)
  | some i=>Yjv i fun i=>k (.iptr (some i) cs)
 | .sub i j p,k=>Yjv i fun i=>Yjv p fun p=>k (.sub i j p)
 | .mref i,k=>Yjv i fun i=>k (.mref i)
theorem Y175 (c:AC) (k:AC->Prop):fAC c k=k c:=by
 cases c with
 | iptr src cs=>cases src <;> simp [fAC,Yjk]
 | _=>simp [fAC,Yjk,Y1h2]
def fSV:SV->(SV->Prop)->Prop
 | .one c,k=>fAC c fun c=>k (.one c)
 | .agg cs,k=>Yis fAC cs fun cs=>k (.agg cs)
theorem Y1f5 (x:SV) (k:SV->Prop):fSV x k=k x:=by
 cases x with
 | one c=>simp [fSV,Y175]
 | agg cs=>simp [fSV,Yhv Y175]
def fAV:AV->(AV->Prop)->Prop
 | .sv x,k=>fSV x fun x=>k (.sv x)
 | .tup l,k=>Yis fSV l fun l=>k (.tup l)
theorem Y1dd (x:AV) (k:AV->Prop):fAV x k=k x:=by
 cases x with
 | sv x=>simp [fAV,Y1f5]
 | tup l=>simp [fAV,Yhv Y1f5]
def fOb:Ob->(Ob->Prop)->Prop
 | .free,k=>k .free
 | .dead,k=>k .dead
 | .box cs,k=>Yis fAC cs fun cs=>k (.box cs)
 | .arr own sz es,k=>match own with
  | true=>k (.arr true sz es)
  | false=>k (.arr false sz es)
 | .map nn kd f,k=>k (.map nn kd f)
theorem Y13u (o:Ob) (k:Ob->Prop):fOb o k=k o:=by
 cases o with
 | box cs=>simp [fOb,Yhv Y175]
 | arr own sz es=>cases own <;> rfl
 | _=>rfl
def fSt (s:St) (k:St->Prop):Prop:=match s with
 | ⟨regs,objs,m⟩=>Yis fAV regs fun regs=>Yis fOb objs fun objs=>Yjv m fun m=>k ⟨regs,objs,m⟩
theorem Yps (s:St) (k:St->Prop):fSt s k=k s:=by
 cases s; simp [fSt,Yhv Y1dd,Yhv Y13u,Yjk]
def Y1gy (p:Nat × Ob) (k:Nat × Ob->Prop):Prop:=match p with
 | (i,o)=>Yjv i fun i=>fOb o fun o=>k (i,o)
theorem Y1l2 (p:Nat × Ob) (k:Nat × Ob->Prop):Y1gy p k=k p:=by
 cases p; simp [Y1gy,Yjk,Y13u]
def Y1i8 (r:Res) (k:Res->Prop):Prop:=match r with
 | ⟨val,new,upd,inv⟩=>fAV val fun val=>Yis fOb new fun new=>Yis Y1gy upd fun upd=>Yis Yjv inv fun inv=>k ⟨val,new,upd,inv⟩
theorem Y1kr (r:Res) (k:Res->Prop):Y1i8 r k=k r:=by
 cases r; simp [Y1i8,Y1dd,Yhv Y13u,Yhv Y1l2,Yhv Yjk]
end Go.Proofs.YtclpofblehlojaaGreat.Ab
end
