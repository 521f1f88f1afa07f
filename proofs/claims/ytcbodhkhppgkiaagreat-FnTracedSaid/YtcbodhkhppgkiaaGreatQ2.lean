/- Part 2 of the machine. No condition. -/
import Derived.Test.YtcbodhkhppgkiaaGreatQ1
import Derived.ChangeMaps4
import Derived.LoopN
set_option linter.unusedVariables false
set_option linter.unusedSimpArgs false
section
namespace Go.Proofs.YtcbodhkhppgkiaaGreat.Ab
open Go
inductive PAC (s:St) (emb:List (Option Nat)) (lent:List Nat):AC->AC->Prop
 | top {c:AC}:PAC s emb lent c .top
 | val {c:Cell}:PAC s emb lent (.val c) (.val c)
 | nil:PAC s emb lent (.val (.lit (.slice none 0 0))) (.val (.list []))
 | bor {id:Nat} {c:Cell} (h:live s.obj (some id)) (hl:id∈lent):PAC s emb lent (.bor id c) (.val c)
 | lend {id:Nat} {own:Bool} {sz:Nat} {es:List (List Cell)} (h:s.obj id=.arr own sz es) (hl:id∈lent):PAC s emb lent (.ref id) (.val (.list es))
 | ref {id j:Nat} (h:emb[j]? = some (some id)) (hl:∃ own sz es,s.obj id=.arr own sz es):PAC s emb lent (.ref id) (.ref j)
 | own {j:Nat} (h:emb[j]? = some none):PAC s emb lent (.val (.lit (.slice none 0 0))) (.ref j)
 | ptr {id j:Nat} {cs:List AC} (h:emb[j]? = some (some id)) (hb:s.obj id=.box cs):PAC s emb lent (.ptr id 0) (.ptr j 0)
 | mref {id j:Nat} {nn:Bool} {k:MK} {f:Value->Option Cell} (h:emb[j]? = some (some id)) (hb:s.obj id=.map nn k f):PAC s emb lent (.mref id) (.mref j)
def Y10e (s:St) (emb:List (Option Nat)) (lent:List Nat) (id:Nat) (o:Ob):Prop:=
 (∃ own sz es,s.obj id=.arr own sz es/\o=.arr own sz es)\/(∃ cs cs',s.obj id=.box cs/\o=.box cs'/\Ylq (PAC s emb lent) cs cs')\/(∃ nn k f,s.obj id=.map nn k f/\o=.map nn k f)
structure PassOK (s:St) (p:Pass):Prop where
 len:p.emb.length=p.objs.length
 som:∀ (j id:Nat),p.emb[j]? = some (some id)->∃ o,p.objs[j]? = some o/\Y10e s p.emb p.lent id o
 non:∀ (j:Nat),p.emb[j]? = some none->∃ own sz,p.objs[j]? = some (.arr own sz [])
 inj:∀ (j j' id:Nat),p.emb[j]? = some (some id)->p.emb[j']? = some (some id)->j=j'
theorem PAC.mono {s:St}{emb emb':List (Option Nat)}{lent lent':List Nat}(h1:∀ (j:Nat) x,emb[j]? = some x->emb'[j]? = some x) (h2:∀ i,i∈lent->i∈lent') {c c':AC}
  (h:PAC s emb lent c c'):PAC s emb' lent' c c':=by
 cases h with
 | top=>exact .top
 | val=>exact .val
 | nil=>exact .nil
 | bor h hl=>exact .bor h (h2 _ hl)
 | lend h hl=>exact .lend h (h2 _ hl)
 | ref h hl=>exact .ref (h1 _ _ h) hl
 | own h=>exact .own (h1 _ _ h)
 | ptr h hb=>exact .ptr (h1 _ _ h) hb
 | mref h hb=>exact .mref (h1 _ _ h) hb
theorem Y10e.mono {s:St}{emb emb':List (Option Nat)}{lent lent':List Nat}(h1:∀ (j:Nat) x,emb[j]? = some x->emb'[j]? = some x) (h2:∀ i,i∈lent->i∈lent') {id:Nat}{o:Ob}
  (h:Y10e s emb lent id o):Y10e s emb' lent' id o:=by
 rcases h with h|⟨cs,cs',h3,h4,h5⟩|h
 ·exact .inl h
 ·exact .inr (.inl ⟨cs,cs',h3,h4,h5.imp λa b h=>h.mono h1 h2⟩)
 ·exact .inr (.inr h)
def PSV (s:St) (emb:List (Option Nat)) (lent:List Nat):SV->SV->Prop
 | .one c,.one c'=>c'≠.top/\PAC s emb lent c c'
 | .agg cs,.agg cs'=>Ylq (PAC s emb lent) cs cs'
 | _,_=>False
theorem PSV.mono {s:St}{emb emb':List (Option Nat)}{lent lent':List Nat}(h1:∀ (j:Nat) x,emb[j]? = some x->emb'[j]? = some x) (h2:∀ i,i∈lent->i∈lent') {c c':SV}
  (h:PSV s emb lent c c'):PSV s emb' lent' c c':=by
 cases c<;>cases c'<;>first|exact h.elim|exact⟨h.1,h.2.mono h1 h2⟩|exact Ylq.imp (λa b h=>PAC.mono h1 h2 h) h
theorem Yql {α:Type}{l l':List α}{j:Nat}{x:α}(h:l[j]? = some x):(l++l')[j]? = some x:=by
 rw[bg (List.getElem?_eq_some_iff.1 h).1];exact h
theorem Y1bs {s:St}{emb:List (Option Nat)}{c:AC}{c':Cell}{l:List Nat}(e:lendAC s c=some (c',l)):PAC s emb l c (.val c'):=by
 unfold lendAC at e
 split at e
 ·simp only[aa,al]at e;obtain⟨rfl,rfl⟩:=e;exact .nil
 ·simp only[aa,al]at e;obtain⟨rfl,rfl⟩:=e;exact .val
 ·split at e
  ·rename_i hl
   simp only[aa,al]at e;obtain⟨rfl,rfl⟩:=e;exact .bor (Yt8 hl) sW
  ·cases e
 ·split at e
  ·rename_i ho
   simp only[aa,al]at e;obtain⟨rfl,rfl⟩:=e;exact .lend ho sW
  ·cases e
 ·cases e
theorem Y104 {s:St}{emb:List (Option Nat)}:∀ {cs cs':List AC}{l:List Nat},lendACs s cs=some (cs',l)->Ylq (PAC s emb l) cs cs'/\∀ c∈cs',c≠.top
 | [],cs',l,e=>by simp only[lendACs,aa,al]at e;obtain⟨rfl,rfl⟩:=e;exact⟨trivial,by simp⟩
 | c :: cs,cs',l,e=>by
  simp only[lendACs]at e
  split at e
  ·rename_i c' l1 r' l2 h1 h2
   simp only[aa,al]at e;obtain⟨rfl,rfl⟩:=e
   obtain⟨i1,i2⟩:=Y104 (emb:=emb) h2
   refine⟨⟨(Y1bs (emb:=emb) h1).mono (λ_ _ h=>h) λi hi=>aY _ hi,i1.imp λa b h=>h.mono (λ_ _ h=>h) λi hi=>bc _ hi⟩,?_⟩
   intro c hc
   rcases List.mem_cons.1 hc with rfl|hc
   ·simp
   ·exact i2 c hc
  ·cases e
theorem Y16d {s:St}{c:AC}{k:Nat}{o:Ob}{f:Nat->AC}(e:passOne s c=some (k,o,f)) :
  (∀ emb lent,Y10e s emb lent k o)/\∀ {emb:List (Option Nat)} {lent:List Nat} {j:Nat},emb[j]? = some (some k)->PAC s emb lent c (f j):=by
 unfold passOne at e
 split at e
 ·split at e
  ·rename_i ho
   simp only[aa,al]at e
   obtain⟨rfl,rfl,rfl⟩:=e
   exact⟨λ_ _=>.inl ⟨_,_,_,ho,rfl⟩,λh=>.ref h ⟨_,_,_,ho⟩⟩
  ·cases e
 ·split at e
  ·rename_i ho
   simp only[aa,al]at e
   obtain⟨rfl,rfl,rfl⟩:=e
   exact⟨λ_ _=>.inr (.inr ⟨_,_,_,ho,rfl⟩),λh=>.mref h ho⟩
  ·cases e
 ·split at e
  ·rename_i cs ho
   split at e
   ·rename_i hf
    simp only[aa,al]at e
    obtain⟨rfl,rfl,rfl⟩:=e
    refine⟨λemb lent=>.inr (.inl ⟨cs,cs,ho,rfl,Ylq.of_get rfl λi a b ha hb => ?_⟩),λh=>.ptr h ho⟩
    rw[ha]at hb;cases hb
    have:=List.all_eq_true.1 hf a (aE ha)
    cases a<;>first|exact .val|exact .top|simp[AC.flat]at this
   ·cases e
  ·cases e
 ·cases e
theorem Ys4 {s:St}:∀ {cs cs':List AC}{emb emb':List (Option Nat)}{obs:List Ob}{l:List Nat},passCells s emb cs=some (emb',obs,cs',l) ->
  ∃ ex:List Nat,emb'=emb++ex.map some/\obs.length=ex.length/\(∀ (j id:Nat),ex[j]? = some id->∃ o,obs[j]? = some o/\∀ emb lent,Y10e s emb lent id o) /\
   (∀ id∈ex,some id∉emb)/\(∀ (j j' id:Nat),ex[j]? = some id->ex[j']? = some id->j=j')/\Ylq (PAC s emb' l) cs cs'
 | [],cs',emb,emb',obs,l,e=>by
  simp only[passCells,aa,al]at e
  obtain⟨rfl,rfl,rfl,rfl⟩:=e
  exact⟨[],by simp,rfl,by simp,by simp,by simp,trivial⟩
 | c :: cs,cs',emb,emb',obs,l,e=>by
  simp only[passCells]at e
  split at e
  ·rename_i k o f hone
   split at e
   ·cases e
   ·rename_i hnin
    split at e
    ·rename_i emb1 obs1 cs1 l1 hr
     simp only[aa,al]at e
     obtain⟨rfl,rfl,rfl,rfl⟩:=e
     obtain⟨ex,i1,i2,i3,i4,i5,i6⟩:=Ys4 hr
     refine⟨k :: ex,by rw[i1];simp,by simp[i2],?_,?_,?_,(Y16d hone).2 ?_,i6⟩
     ·intro j id hj
      cases j with
      | zero=>simp at hj;subst hj;exact⟨_,rfl,(Y16d hone).1⟩
      | succ j=>simp at hj;obtain⟨a,b,c⟩:=i3 j id hj;exact⟨a,by simpa using b,c⟩
     ·intro id hid
      rcases List.mem_cons.1 hid with rfl|hid
      ·simpa using hnin
      ·have:=i4 id hid
       simp at this
       simpa using this.1
     ·intro j j' id hj hj'
      have hk:∀ j,ex[j]? ≠ some k:=λj hj=>by
       have:=i4 k (aE hj)
       simp at this
      cases j with
      | zero=>cases j' with
       | zero=>rfl
       | succ j'=>simp at hj hj';subst hj;exact(hk j' hj').elim
      | succ j=>cases j' with
       | zero=>simp at hj hj';subst hj';exact(hk j hj).elim
       | succ j'=>simp at hj hj';rw[i5 j j' id hj hj']
     ·rw[i1,aH,aR (aC _)]
      simp
    ·cases e
  ·split at e
   ·split at e
    ·rename_i emb1 obs1 cs1 l1 hr
     simp only[aa,al]at e
     obtain⟨rfl,rfl,rfl,rfl⟩:=e
     obtain⟨ex,i1,i2,i3,i4,i5,i6⟩:=Ys4 hr
     exact⟨ex,i1,i2,i3,i4,i5,.val,i6⟩
    ·cases e
   ·split at e
    ·rename_i hl
     split at e
     ·rename_i emb1 obs1 cs1 l1 hr
      simp only[aa,al]at e
      obtain⟨rfl,rfl,rfl,rfl⟩:=e
      obtain⟨ex,i1,i2,i3,i4,i5,i6⟩:=Ys4 hr
      exact⟨ex,i1,i2,i3,i4,i5,.bor (Yt8 hl) sW,i6.imp λa b h=>h.mono (λ_ _ h=>h) λi hi=>ai _ hi⟩
     ·cases e
    ·cases e
   ·split at e
    ·rename_i emb1 obs1 cs1 l1 hr
     simp only[aa,al]at e
     obtain⟨rfl,rfl,rfl,rfl⟩:=e
     obtain⟨ex,i1,i2,i3,i4,i5,i6⟩:=Ys4 hr
     exact⟨ex,i1,i2,i3,i4,i5,.top,i6⟩
    ·cases e
   ·cases e
theorem Yvz {s:St}:∀ {ms:List (Option (Bool×Nat))}{cs cs':List AC}{emb emb':List (Option Nat)}{obs:List Ob}{l:List Nat},passAgg s emb ms cs=some (emb',obs,cs',l) ->
  ∃ ex:List (Option Nat),emb'=emb++ex/\obs.length=ex.length/\(∀ (j id:Nat),ex[j]? = some (some id)->∃ own sz es,s.obj id=.arr own sz es/\obs[j]? = some (.arr own sz es)) /\
   (∀ (j:Nat),ex[j]? = some none->∃ own sz,obs[j]? = some (.arr own sz [])) /\
   (∀ id,some id∈ex->some id∉emb)/\(∀ (j j' id:Nat),ex[j]? = some (some id)->ex[j']? = some (some id)->j=j')/\Ylq (PAC s emb' l) cs cs'
 | [],[],cs',emb,emb',obs,l,e=>by
  simp only[passAgg,aa,al]at e
  obtain⟨rfl,rfl,rfl,rfl⟩:=e
  exact⟨[],by simp,rfl,by simp,by simp,by simp,by simp,trivial⟩
 | [],c :: cs,cs',emb,emb',obs,l,e=>by simp[passAgg]at e
 | m :: ms,[],cs',emb,emb',obs,l,e=>by simp[passAgg]at e
 | m :: ms,c :: cs,cs',emb,emb',obs,l,e=>by
  simp only[passAgg]at e
  split at e
  ·split at e
   ·rename_i c1 l1 hl
    split at e
    ·rename_i emb1 obs1 cs1 l2 hr
     simp only[aa,al]at e
     obtain⟨rfl,rfl,rfl,rfl⟩:=e
     obtain⟨ex,i1,i2,i3,i4,i5,i6,i7⟩:=Yvz hr
     exact⟨ex,i1,i2,i3,i4,i5,i6,(Y1bs hl).mono (λ_ _ h=>h) λi hi=>aY _ hi,
      i7.imp λa b h=>h.mono (λ_ _ h=>h) λi hi=>bc _ hi⟩
    ·cases e
   ·cases e
  ·rename_i o sz
   split at e
   ·rename_i k
    split at e
    ·rename_i o' sz' es ho
     split at e
     ·rename_i hc
      obtain⟨rfl,rfl,hnin⟩:=hc
      split at e
      ·rename_i emb1 obs1 cs1 l1 hr
       simp only[aa,al]at e
       obtain⟨rfl,rfl,rfl,rfl⟩:=e
       obtain⟨ex,i1,i2,i3,i4,i5,i6,i7⟩:=Yvz hr
       refine⟨some k :: ex,by rw[i1];simp,by simp[i2],?_,?_,?_,?_,?_,i7⟩
       ·intro j id hj
        cases j with
        | zero=>simp at hj;subst hj;exact⟨_,_,_,ho,rfl⟩
        | succ j=>simp at hj;obtain⟨a,b,c,d,e⟩:=i3 j id hj;exact⟨a,b,c,d,by simpa using e⟩
       ·intro j hj
        cases j with
        | zero=>simp at hj
        | succ j=>simp at hj;simpa using i4 j hj
       ·intro id hid
        rcases List.mem_cons.1 hid with h|hid
        ·cases h;simpa using hnin
        ·have:=i5 id hid
         simp at this
         exact this.1
       ·intro j j' id hj hj'
        have hk:∀ j,ex[j]? ≠ some (some k):=λj hj=>by
         have:=i5 k (aE hj)
         simp at this
        cases j with
        | zero=>cases j' with
         | zero=>rfl
         | succ j'=>simp at hj hj';subst hj;exact(hk j' hj').elim
        | succ j=>cases j' with
         | zero=>simp at hj hj';subst hj';exact(hk j hj).elim
         | succ j'=>simp at hj hj';rw[i6 j j' id hj hj']
       ·refine .ref ?_ ⟨_,_,_,ho⟩
        rw[i1,aH,aR (aC _)]
        simp
      ·cases e
     ·cases e
    ·cases e
   ·split at e
    ·rename_i emb1 obs1 cs1 l1 hr
     simp only[aa,al]at e
     obtain⟨rfl,rfl,rfl,rfl⟩:=e
     obtain⟨ex,i1,i2,i3,i4,i5,i6,i7⟩:=Yvz hr
     refine⟨none :: ex,by rw[i1];simp,by simp[i2],?_,?_,?_,?_,?_,i7⟩
     ·intro j id hj
      cases j with
      | zero=>simp at hj
      | succ j=>simp at hj;obtain⟨a,b,c,d,e⟩:=i3 j id hj;exact⟨a,b,c,d,by simpa using e⟩
     ·intro j hj
      cases j with
      | zero=>exact⟨o,sz,rfl⟩
      | succ j=>simp at hj;simpa using i4 j hj
     ·intro id hid
      rcases List.mem_cons.1 hid with h|hid
      ·cases h
      ·have:=i5 id hid
       simp at this
       exact this
     ·intro j j' id hj hj'
      cases j with
      | zero=>simp at hj
      | succ j=>cases j' with
       | zero=>simp at hj'
       | succ j'=>simp at hj hj';rw[i6 j j' id hj hj']
     ·refine .own ?_
      rw[i1,aH,aR (aC _)]
      simp
    ·cases e
   ·cases e
theorem Yxt {α:Type}{l l':List α}{j:Nat}{x:α}(h:(l++l')[j]? = some x):(j<l.length/\l[j]? = some x)\/(l.length<=j/\l'[j - l.length]? = some x):=by
 by_cases hlt:j<l.length
 ·rw[bg hlt]at h;exact .inl ⟨hlt,h⟩
 ·rw[aR (cG hlt)]at h;exact .inr ⟨cG hlt,h⟩
theorem PassOK.app {s:St}{p:Pass}(h:PassOK s p) {xs:List (Option Nat)}{os:List Ob}{args:List SV}{l:List Nat}(hl:xs.length=os.length)
  (h1:∀ (j id:Nat),xs[j]? = some (some id)->∃ o,os[j]? = some o/\Y10e s (p.emb++xs) (p.lent++l) id o/\some id∉p.emb)
  (h2:∀ (j:Nat),xs[j]? = some none->∃ own sz,os[j]? = some (.arr own sz []))
  (h3:∀ (j j' id:Nat),xs[j]? = some (some id)->xs[j']? = some (some id)->j=j') :
  PassOK s { emb:=p.emb++xs,objs:=p.objs++os,args:=args,lent:=p.lent++l } where
 len:=by simp[h.len,hl]
 som j id hj:=by
  rcases Yxt hj with ⟨_,hj⟩|⟨hge,hj⟩
  ·obtain⟨o',k1,k2⟩:=h.som j id hj
   exact⟨o',Yql k1,k2.mono (λ_ _ h=>Yql h) λ_ h=>aY _ h⟩
  ·obtain⟨o',k1,k2,_⟩:=h1 _ id hj
   refine⟨o',?_,k2⟩
   show (p.objs++os)[j]? = _
   rw[aR (by rw[<- h.len];exact hge),<- h.len];exact k1
 non j hj:=by
  rcases Yxt hj with ⟨_,hj⟩|⟨hge,hj⟩
  ·obtain⟨own,sz,k1⟩:=h.non j hj
   exact⟨own,sz,Yql k1⟩
  ·obtain⟨own,sz,k1⟩:=h2 _ hj
   refine⟨own,sz,?_⟩
   show (p.objs++os)[j]? = _
   rw[aR (by rw[<- h.len];exact hge),<- h.len];exact k1
 inj j j' id hj hj':=by
  rcases Yxt hj with ⟨a1,a2⟩|⟨a1,a2⟩<;>rcases Yxt hj' with ⟨b1,b2⟩|⟨b1,b2⟩
  ·exact h.inj j j' id a2 b2
  ·obtain⟨_,_,_,hn⟩:=h1 _ id b2
   exact(hn (aE a2)).elim
  ·obtain⟨_,_,_,hn⟩:=h1 _ id a2
   exact(hn (aE b2)).elim
  ·have:=h3 _ _ id a2 b2
   omega
structure Step (s:St) (p p':Pass) (x:SV):Prop where
 ok:PassOK s p'
 emb:∀ (j:Nat) y,p.emb[j]? = some y->p'.emb[j]? = some y
 lent:∀ i,i∈p.lent->i∈p'.lent
 arg:∃ y,p'.args=p.args++[y]/\PSV s p'.emb p'.lent x y
theorem Pass.add_ok {s:St}{p p':Pass}(h:PassOK s p) {m:Mode}{x:SV}(e:p.add s m x=some p'):Step s p p' x:=by
 have rdcase:∀ {l:List Nat} {y:SV},PSV s p.emb l x y->Step s p { p with args:=p.args++[y],lent:=p.lent++l } x:=by
  intro l y hy
  have:=h.app (xs:=[]) (os:=[]) (args:=p.args++[y]) (l:=l) rfl sW sW sW
  simp only[bv]at this
  exact⟨this,λ_ _ h=>h,λi hi=>aY _ hi,y,rfl,hy.mono (λ_ _ h=>h) λi hi=>bc _ hi⟩
 unfold Pass.add at e
 split at e
 ·split at e
  ·rename_i c
   split at e
   ·rename_i c' l hl
    simp only[aa]at e;subst e
    obtain⟨h1,h2⟩:=Y104 (emb:=p.emb) hl
    exact rdcase (y:=.one c') ⟨h2 c' sW,h1.1⟩
   ·cases e
  ·rename_i cs
   split at e
   ·rename_i cs' l hl
    simp only[aa]at e;subst e
    exact rdcase (y:=.agg cs') (Y104 (emb:=p.emb) hl).1
   ·cases e
 ·rename_i o sz
  split at e
  ·rename_i id
   split at e
   ·rename_i o' sz' es hob
    split at e
    ·rename_i hc
     obtain⟨rfl,rfl,hn⟩:=hc
     simp only[aa]at e;subst e
     have:=h.app (xs:=[some id]) (os:=[.arr o' sz' es]) (args:=p.args++[.one (.ref p.emb.length)]) (l:=[]) rfl ?_ ?_ ?_
     ·simp only[bv]at this
      refine⟨this,λ_ _ h=>Yql h,λi hi=>hi,_,rfl,by simp,.ref ?_ ⟨_,_,_,hob⟩⟩
      show (p.emb++[some id])[p.emb.length]? = _
      simp
     ·intro j i hj
      cases j with
      | zero=>simp at hj;subst hj;exact⟨_,rfl,.inl ⟨_,_,_,hob,rfl⟩,by simpa using hn⟩
      | succ j=>simp at hj
     ·intro j hj;cases j<;>simp at hj
     ·intro j j' i hj hj'
      cases j<;>cases j'<;>simp at hj hj'|-
    ·cases e
   ·cases e
  ·simp only[aa]at e;subst e
   have:=h.app (xs:=[none]) (os:=[.arr o sz []]) (args:=p.args++[.one (.ref p.emb.length)]) (l:=[]) rfl ?_ ?_ ?_
   ·simp only[bv]at this
    refine⟨this,λ_ _ h=>Yql h,λi hi=>hi,_,rfl,by simp,.own ?_⟩
    show (p.emb++[none])[p.emb.length]? = _
    simp
   ·intro j i hj;cases j<;>simp at hj
   ·intro j hj
    cases j with
    | zero=>exact⟨o,sz,rfl⟩
    | succ j=>simp at hj
   ·intro j j' i hj hj';cases j<;>simp at hj
  ·cases e
 ·split at e
  ·rename_i id
   split at e
   ·rename_i cs hob
    split at e
    ·cases e
    ·rename_i hn
     split at e
     ·rename_i emb' obs cs' l hp
      simp only[aa]at e;subst e
      obtain⟨ex,i1,i2,i3,i4,i5,i6⟩:=Ys4 hp
      have he:emb'=p.emb++(some id :: ex.map some):=by rw[i1];simp
      have:=h.app (xs:=some id :: ex.map some) (os:=.box cs' :: obs) (args:=p.args++[.one (.ptr p.emb.length 0)]) (l:=l) (by simp[i2]) ?_ ?_ ?_
      ·rw[<- he]at this
       refine⟨this,λ_ _ h=>by show emb'[_]? = _;rw[he];exact Yql h,λi hi=>aY _ hi,_,rfl,by simp,.ptr ?_ hob⟩
       show emb'[p.emb.length]? = _
       rw[he];simp
      ·intro j i hj
       cases j with
       | zero=>
        simp at hj;subst hj
        exact⟨_,rfl,.inr (.inl ⟨cs,cs',hob,rfl,by rw[<- he];exact i6.imp λa b h=>h.mono (λ_ _ h=>h) λi hi=>bc _ hi⟩),by simpa using hn⟩
       | succ j=>
        simp only[cW,bb,b7,aa]at hj
        obtain⟨k,hk,rfl⟩:=hj
        obtain⟨o,k1,k2⟩:=i3 j k hk
        refine⟨_,k1,k2 _ _,?_⟩
        have:=i4 k (aE hk)
        simp at this
        exact this.1
      ·intro j hj
       cases j with
       | zero=>simp at hj
       | succ j=>simp at hj
      ·intro j j' i hj hj'
       have hne:∀ j:Nat,(ex.map some)[j]? ≠ some (some id):=λj hj=>by
        rw[bb,b7]at hj
        obtain⟨k,hk,hkk⟩:=hj
        simp only[aa]at hkk
        subst hkk
        have:=i4 k (aE hk)
        simp at this
       cases j with
       | zero=>cases j' with
        | zero=>rfl
        | succ j'=>simp only[bX,aa,cW]at hj hj';subst hj;exact(hne j' hj').elim
       | succ j=>cases j' with
        | zero=>simp only[bX,aa,cW]at hj hj';subst hj';exact(hne j hj).elim
        | succ j'=>
         simp only[cW,bb,b7,aa]at hj hj'
         obtain⟨k,hk,rfl⟩:=hj
         obtain⟨k',hk',rfl⟩:=hj'
         rw[i5 j j' _ hk hk']
     ·cases e
   ·cases e
  ·cases e
 ·split at e
  ·rename_i id
   split at e
   ·rename_i nn kd f hob
    split at e
    ·rename_i hn
     simp only[aa]at e;subst e
     have:=h.app (xs:=[some id]) (os:=[.map nn kd f]) (args:=p.args++[.one (.mref p.emb.length)]) (l:=[]) rfl ?_ ?_ ?_
     ·simp only[bv]at this
      refine⟨this,λ_ _ h=>Yql h,λi hi=>hi,_,rfl,by simp,.mref ?_ hob⟩
      show (p.emb++[some id])[p.emb.length]? = _
      simp
     ·intro j i hj
      cases j with
      | zero=>simp at hj;subst hj;exact⟨_,rfl,.inr (.inr ⟨_,_,_,hob,rfl⟩),by simpa using hn⟩
      | succ j=>simp at hj
     ·intro j hj;cases j<;>simp at hj
     ·intro j j' i hj hj'
      cases j<;>cases j'<;>simp at hj hj'|-
    ·cases e
   ·cases e
  ·cases e
 ·split at e
  ·split at e
   ·rename_i emb' obs cs' l hp
    simp only[aa]at e;subst e
    obtain⟨ex,i1,i2,i3,i4,i5,i6,i7⟩:=Yvz hp
    have:=h.app (xs:=ex) (os:=obs) (args:=p.args++[.agg cs']) (l:=l) i2.symm ?_ i4 i6
    ·rw[<- i1]at this
     exact⟨this,λ_ _ h=>by show emb'[_]? = _;rw[i1];exact Yql h,λi hi=>aY _ hi,_,rfl,
      i7.imp λa b h=>h.mono (λ_ _ h=>h) λi hi=>bc _ hi⟩
    ·intro j i hj
     obtain⟨own,sz,es,k1,k2⟩:=i3 j i hj
     exact⟨_,k2,.inl ⟨_,_,_,k1,rfl⟩,i5 i (aE hj)⟩
   ·cases e
  ·cases e
theorem PassOK.nil (s:St):PassOK s {}:=⟨rfl,by simp,by simp,by simp⟩
theorem Y16p {s:St}:∀ {ms:List Mode}{xs:List AV}{p p':Pass}{ys:List SV},PassOK s p->passAll s p ms xs=some p'->Ylq (PSV s p.emb p.lent) ys p.args ->
  PassOK s p'/\∃ zs:List SV,xs=zs.map .sv/\Ylq (PSV s p'.emb p'.lent) (ys++zs) p'.args
 | [],[],p,p',ys,h,e,ha=>by
  simp only[passAll,aa]at e;subst e
  exact⟨h,[],rfl,by simpa using ha⟩
 | m :: ms,.sv x :: xs,p,p',ys,h,e,ha=>by
  simp only[passAll]at e
  split at e
  ·rename_i p1 h1
   have st:=Pass.add_ok h h1
   obtain⟨y,hy1,hy2⟩:=st.arg
   obtain⟨k1,zs,k2,k3⟩:=Y16p (ys:=ys++[x]) st.ok e (by
    rw[hy1]
    exact(ha.imp λa b hab=>hab.mono st.emb st.lent).append ⟨hy2,trivial⟩)
   exact⟨k1,x :: zs,by rw[k2];rfl,by simpa using k3⟩
  ·cases e
 | m :: ms,.tup l :: xs,p,p',ys,h,e,ha=>by simp[passAll]at e
 | [],x :: xs,p,p',ys,h,e,ha=>by simp[passAll]at e
 | m :: ms,[],p,p',ys,h,e,ha=>by simp[passAll]at e
def Yv2 (emb:List (Option Nat)) (j:Nat):Option Nat:=match emb[j]? with|some (some id)=>some id|_=>none
theorem Ypf {emb:List (Option Nat)}{j id:Nat}:Yv2 emb j=some id ↔ emb[j]? = some (some id):=by
 unfold Yv2;split
 ·rename_i h;rw[h];simp
 ·rename_i h;constructor
  ·intro e;cases e
  ·intro e;exact(h id e).elim
def Yoc (ι:Interp) (emb:List (Option Nat)) (R:Nat->Prop):Interp where
 G:=R
 blk j:=match Yv2 emb j with|some id=>ι.blk id|none=>0
 sl j:=match Yv2 emb j with|some id=>ι.sl id|none=>.slice none 0 0
 fp j b:=match Yv2 emb j with|some id=>ι.fp id b|none=>False
section
variable {P:Program}{E:Ent P}{s:St}{ι:Interp}{a:Act}{w:World}{p:Pass}{R:Nat->Prop}
theorem Ytu {j id:Nat}{emb:List (Option Nat)}(h:emb[j]? = some (some id)):(Yoc ι emb R).blk j=ι.blk id/\(Yoc ι emb R).sl j=ι.sl id/\(Yoc ι emb R).fp j=ι.fp id:=by
 have:=Ypf.2 h
 refine⟨by simp[Yoc,this],by simp[Yoc,this],?_⟩
 funext b;simp[Yoc,this]
theorem Yzy {j:Nat}{emb:List (Option Nat)}(h:Yv2 emb j=none):(Yoc ι emb R).sl j=.slice none 0 0/\∀ b,¬ (Yoc ι emb R).fp j b:=by
 exact⟨by simp[Yoc,h],λb=>by simp[Yoc,h]⟩
theorem Yuw {j b:Nat}{emb:List (Option Nat)}(h:(Yoc ι emb R).fp j b):∃ id,emb[j]? = some (some id)/\ι.fp id b:=by
 cases e:Yv2 emb j with
 | none=>exact((Yzy (ι:=ι) (R:=R) e).2 b h).elim
 | some id=>exact⟨id,Ypf.1 e,by simpa[Yoc,e] using h⟩
theorem KV.on {n:String}{Q:Array Value->Prop}(h:Rel E s ι a w) (k:KV P E.w E.ι n Q) {ι':Interp}(hf:∀ i b,ι'.fp i b->∃ j,ι.fp j b):KV P w ι' n Q:=by
 intro g hg
 obtain⟨h1,h2,cs,h3,h4⟩:=k g hg
 have hm:¬ E.M g:=λ⟨i,hi⟩=>h2 i hi
 refine⟨cK h1 h.size,λi hi => ?_,cs,?_,h4⟩
 ·obtain⟨j,hj⟩:=hf i g hi
  rcases h.own j g hj with e|e
  ·exact hm e
  ·omega
 ·rw[<- h3];unfold World.var?;rw[hg];simp only[dE,h.frame g h1 hm]
theorem Rel.known (h:Rel E s ι a w) {emb:List (Option Nat)}:Kn P w (Yoc ι emb R):=by
 have hf:∀ i b,(Yoc ι emb R).fp i b->∃ j,ι.fp j b:=λi b hi=>by obtain⟨id,_,f⟩:=Yuw hi;exact⟨id,f⟩
 exact⟨KV.on h E.kn.1 hf,λe=>KV.on h (E.kn.2 e) hf⟩
theorem Y10e.notFree {emb:List (Option Nat)}{lent:List Nat}{id:Nat}{o:Ob}(h:Y10e s emb lent id o):o≠.free:=by
 rcases h with ⟨_,_,_,_,rfl⟩|⟨_,_,_,rfl,_⟩|⟨_,_,_,_,rfl⟩<;>simp
theorem Yra {objs:List Ob}{j:Nat}{o:Ob}(h:objs[j]? = some o):Ynd objs j=o:=by simp[Ynd,h]
theorem Y18v (h:Rel E s ι a w) (hp:PassOK s p) (hGR:∀ b,ι.G b->R b) (hlR:∀ i∈p.lent,∀ b,ι.fp i b->R b) {c c':AC}(hc:PAC s p.emb p.lent c c') {v:Value}(r:Ymf w ι s.obj c v) :
  Ymf w (Yoc ι p.emb R) (Ynd p.objs) c' v:=by
 have hrd:∀ i∈p.lent,∀ b,rdSet ι (some i) b->R b:=λi hi b hb=>hb.elim (hGR b) (hlR i hi b)
 cases hc with
 | top=>trivial
 | val=>exact Rd.mono (λ_ _=>rfl) hGR r
 | nil=>obtain⟨rfl,_⟩:=Rd.lit_inv (show Rd w ι.G v _ from r);exact Rd.nil
 | bor hl hi=>exact Rd.mono (λ_ _=>rfl) (hrd _ hi) (r.2 hl)
 | lend ho hi=>
  rename_i id own sz es
  have hob:=h.objs id
  rw[ho]at hob
  rw[r.2 _ _ _ ho]
  exact Rd.mono (λ_ _=>rfl) (hrd _ hi) (Ym8.rd hob)
 | ref he hl=>
  rename_i id j
  obtain⟨own,sz,es,ho⟩:=hl
  obtain⟨o,h1,h2⟩:=hp.som j id he
  refine⟨?_,λ_ _ _ _ => ?_⟩
  ·unfold notFree;rw[Yra h1]
   have:=h2.notFree
   cases o<;>simp_all
  ·rw[(Ytu he).2.1];exact r.2 _ _ _ ho
 | own he=>
  rename_i j
  obtain⟨rfl,_⟩:=Rd.lit_inv (show Rd w ι.G v _ from r)
  obtain⟨own,sz,h1⟩:=hp.non j he
  have hem:Yv2 p.emb j=none:=by unfold Yv2;rw[he]
  refine⟨?_,λ_ _ _ _ => ?_⟩
  ·unfold notFree;rw[Yra h1];trivial
  ·rw[(Yzy hem).1]
 | ptr he hb=>
  rename_i id j cs
  obtain⟨o,h1,h2⟩:=hp.som j id he
  refine⟨?_,λ_ _ => ?_⟩
  ·unfold notFree;rw[Yra h1]
   have:=h2.notFree
   cases o<;>simp_all
  ·rw[(Ytu he).1];exact r.2 _ hb
 | mref he hb=>
  rename_i id j nn k f
  obtain⟨o,h1,h2⟩:=hp.som j id he
  refine⟨?_,λnn' k' f' e' => ?_⟩
  ·unfold notFree;rw[Yra h1]
   have:=h2.notFree
   cases o<;>simp_all
  ·rw[(Ytu he).1]
   rw[Yra h1]at e'
   subst e'
   rcases h2 with ⟨_,_,_,_,hh⟩|⟨_,_,_,hh,_⟩|⟨_,_,_,hh,hk⟩
   ·cases hh
   ·cases hh
   ·cases hk;exact r.2 _ _ _ hh
theorem Y1yj (h:Rel E s ι a w) (hp:PassOK s p) (hGR:∀ b,ι.G b->R b) (hlR:∀ i∈p.lent,∀ b,ι.fp i b->R b) {x y:SV}(hc:PSV s p.emb p.lent x y) {v:Value}(r:Ymo w ι s.obj x v) :
  Ymo w (Yoc ι p.emb R) (Ynd p.objs) y v:=by
 cases x with
 | one c=>cases y with
  | one c'=>
   refine⟨Y18v h hp hGR hlR hc.2 r.1,λ_=>r.2 λe => ?_⟩
   subst e
   cases hc.2
   exact hc.1 rfl
  | agg=>exact hc.elim
 | agg cs=>cases y with
  | one=>exact hc.elim
  | agg cs'=>
   obtain⟨arr,e,ha⟩:=r
   refine⟨arr,e,Ylq.of_get ?_ λk c' u hc' hu => ?_⟩
   ·rw[<- Ylq.length hc,ha.length]
   ·have hl:k<cs.length:=by rw[Ylq.length hc];exact(List.getElem?_eq_some_iff.1 hc').1
    have:=ha.get (av hl) hu
    exact⟨Y18v h hp hGR hlR (Ylq.get hc (av hl) hc') this.1,this.2⟩
theorem Y14h (h:Rel E s ι a w) (hp:PassOK s p) (hGR:∀ b,ι.G b->R b) (hlR:∀ i∈p.lent,∀ b,ι.fp i b->R b) (hRg:∀ b,R b->ι.G b\/∃ id,some id∉p.emb/\ι.fp id b)
  {xs:List SV} {vals:Array Value} (ha:Ylq (PSV s p.emb p.lent) xs p.args) (hv:Ylq (Ymo w ι s.obj) xs vals.toList):PreRel w (Yoc ι p.emb R) p.objs p.args vals where
 obj j:=by
  cases e:Yv2 p.emb j with
  | some id=>
   have he:=Ypf.1 e
   obtain⟨o,h1,h2⟩:=hp.som j id he
   obtain⟨c1,c2,c3⟩:=Ytu (ι:=ι) (R:=R) he
   rw[Yra h1]
   have hob:=h.objs id
   rcases h2 with ⟨own,sz,es,k1,rfl⟩|⟨cs,cs',k1,rfl,k2⟩|⟨nn,kd,f,k1,rfl⟩
   ·rw[k1]at hob
    show Ym8 w (Yna w R own) sz ((Yoc ι p.emb R).fp j) ((Yoc ι p.emb R).sl j) es
    rw[c2,c3]
    exact Ym8.mono hob (λb hb=>⟨hGR b hb,rfl⟩) λ_ _=>rfl
   ·rw[k1]at hob
    obtain⟨r1,arr,ty,r2,r3⟩:=hob
    refine⟨by rw[c1,c3];exact r1,arr,ty,by rw[c1];exact r2,Ylq.of_get ?_ λk c' u hc' hu => ?_⟩
    ·rw[<- k2.length,r3.length]
    ·have hl:k<cs.length:=by rw[k2.length];exact(List.getElem?_eq_some_iff.1 hc').1
     have:=r3.get (av hl) hu
     exact⟨Y18v h hp hGR hlR (k2.get (av hl) hc') this.1,this.2⟩
   ·rw[k1]at hob
    cases nn with
    | true=>exact⟨λb hb=>hob.1 b (by rw[c3]at hb;exact hb),hob.2⟩
    | false=>
     show Yol w kd ((Yoc ι p.emb R).fp j) ((Yoc ι p.emb R).blk j) f
     rw[c1,c3]
     exact hob
  | none=>
   obtain⟨c1,c2⟩:=Yzy (ι:=ι) (R:=R) e
   cases hj:p.emb[j]? with
   | none=>
    have:p.objs[j]? = none:=by rw[List.getElem?_eq_none_iff]at hj|-;rw[<- hp.len];exact hj
    have:Ynd p.objs j=.free:=by simp[Ynd,this]
    rw[this];exact c2
   | some y=>
    cases y with
    | some id=>rw[Ypf.2 hj]at e;cases e
    | none=>
     obtain⟨own,sz,h1⟩:=hp.non j hj
     rw[Yra h1]
     show Ym8 w (Yna w R own) sz ((Yoc ι p.emb R).fp j) ((Yoc ι p.emb R).sl j) []
     rw[c1]
     exact⟨0,[],λ_ _=>False,Y10z w 0 sz,by simp,by simp[Value.ownBlock],by simp,by simp,by simp,by simp,λ_=>⟨none,rfl⟩⟩
 disj i j b hij hi hj:=by
  obtain⟨id1,e1,f1⟩:=Yuw hi
  obtain⟨id2,e2,f2⟩:=Yuw hj
  exact h.disj id1 id2 b (λe=>hij (hp.inj i j id1 e1 (e ▸ e2))) f1 f2
 gfp i b hi hg:=by
  obtain⟨id1,e1,f1⟩:=Yuw hi
  rcases hRg b hg with hg|⟨id2,hn,f2⟩
  ·exact h.gfp id1 b f1 hg
  ·exact h.disj id1 id2 b (λe=>hn (e ▸ aE e1)) f1 f2
 lt i b hi:=by
  obtain⟨id1,e1,f1⟩:=Yuw hi
  exact h.lt id1 b f1
 glt b hg:=by
  rcases hRg b hg with hg|⟨id2,hn,f2⟩
  ·exact h.glt b hg
  ·exact h.lt id2 b f2
 arg:=by
  refine Ylq.of_get ?_ λk y u hy hu => ?_
  ·rw[<- ha.length,hv.length]
  ·have hl:k<xs.length:=by rw[ha.length];exact(List.getElem?_eq_some_iff.1 hy).1
   exact Y1yj h hp hGR hlR (ha.get (av hl) hy) (hv.get (av hl) hu)
def Yrv (emb:List (Option Nat)) (n j:Nat):Nat:=match Yv2 emb j with|some id=>id|none=>n+j
def Ysp (emb:List (Option Nat)) (n:Nat) (objs1:List Ob):List (Nat×Ob):=
 (List.range objs1.length).map λj=>(Yrv emb n j,(Ynd objs1 j).ren (Yrv emb n))
theorem Y127 (o:Nat->Ob) (g:Nat->Nat):∀ (js:List Nat) (s:St),(∀ j∈js,g j<s.objs.length)->(∀ j∈js,∀ j'∈js,g j=g j'->j=j') ->
  (∀ i,(∀ j∈js,g j≠i)->(s.updObs (js.map λj=>(g j,o j))).obj i=s.obj i)/\∀ j∈js,(s.updObs (js.map λj=>(g j,o j))).obj (g j)=o j
 | [],s,_,_=>⟨λ_ _=>rfl,by simp⟩
 | j :: js,s,hlt,hinj=>by
  obtain⟨h1,h2⟩:=Y127 o g js (s.setOb (g j) (o j)) (λk hk=>by rw[Ylr];exact hlt k (ai _ hk)) λk hk k' hk'=>hinj k (ai _ hk) k' (ai _ hk')
  have hgj:=hlt j aj
  simp only[bO,St.updObs]
  refine⟨λi hi => ?_,λk hk => ?_⟩
  ·rw[h1 i λk hk=>hi k (ai _ hk),Yll hgj,ab (cv (hi j aj))]
  ·rcases List.mem_cons.1 hk with rfl|hk
   ·by_cases hin:∃ k'∈js,g k'=g k
    ·obtain⟨k',hk',e⟩:=hin
     have:=hinj k' (ai _ hk') k aj e
     subst this
     exact h2 k' hk'
    ·rw[h1 (g k) λk' hk' e=>hin ⟨k',hk',e⟩,Yll hgj,ae rfl]
   ·exact h2 k hk
def Yrh (emb:List (Option Nat)):List Nat:=emb.filterMap id
theorem Y1ba {emb:List (Option Nat)}{i:Nat}:i∈Yrh emb ↔ some i∈emb:=by simp[Yrh]
end
theorem Yn5 (ids:List Nat) (s:St):(s.inval ids).objs.length=s.objs.length:=by
 cases ids<;>simp[St.inval]
theorem Y16s (ids:List Nat) (s:St) (i:Nat):∃ o,(s.inval ids).obj i=o/\(match s.obj i with | .box cs=>∃ cs',o=.box cs'|x=>o=x):=by
 cases ids with
 | nil=>refine⟨_,rfl,?_⟩;simp only[St.inval];split<;>simp_all
 | cons a l=>refine⟨_,rfl,?_⟩;rw[Ym4];cases s.obj i<;>simp[Ym5]
section
variable {P:Program}{E:Ent P}{s:St}{ι:Interp}{a:Act}{w:World}{p:Pass}{R:Nat->Prop}
theorem Y1lj {w1 w2:World}{ι1 ι2:Interp}{K:Prop}{i:Nat}{o o':Ob}(h:Ync w1 w2 ι1 ι2 K i o o') (ho:o≠.free):o'≠.free:=by
 cases o<;>cases o'<;>simp_all[Ync]
theorem Y1fy (h:Rel E s ι a w) (hp:PassOK s p) (hRg:∀ b,R b->ι.G b\/∃ id,some id∉p.emb/\ι.fp id b)
  {n:Nat} {objs1:List Ob} (hroom:Yqw s n objs1.length) {res:AV} {w':World} {v:Value} {ι1:Interp} (hpost:PostRel w (Yoc ι p.emb R) p.objs objs1 res w' v ι1)
  (hG:(p.lent=[]/\R=ι.G)\/(objs1.all Ob.noG/\res.acs.all AC.noG)) :
  ∃ ι',Rel E ((s.inval (Yrh p.emb)).updObs (Ysp p.emb n objs1)) ι' a w'/\Ymg w' ι' ((s.inval (Yrh p.emb)).updObs (Ysp p.emb n objs1)).obj (res.ren (Yrv p.emb n)) v /\
   Ext (λi=>i∉Yrh p.emb) w ι (s.inval (Yrh p.emb)).obj w' ι' ((s.inval (Yrh p.emb)).updObs (Ysp p.emb n objs1)).obj:=by
 classical
 let ids:=Yrh p.emb
 let s1:=s.inval ids
 have h1:Rel E s1 ι a w:=h.inval ids
 let ren:=Yrv p.emb n
 let L:=objs1.length
 have hpne:∀ j id,p.emb[j]? = some (some id)->s.obj id≠.free/\j<L:=by
  intro j id he
  obtain⟨o,k1,k2⟩:=hp.som j id he
  refine⟨?_,?_⟩
  ·rcases k2 with ⟨_,_,_,k3,_⟩|⟨_,_,k3,_⟩|⟨_,_,_,k3,_⟩<;>rw[k3]<;>simp
  ·have:=Y1lj (hpost.ext j) (by rw[Yra k1];exact k2.notFree)
   rcases bH j objs1.length with hlt|hge
   ·exact hlt
   ·exact(this (by simp[Ynd,bf hge])).elim
 have hnew:∀ j,j<L->Yv2 p.emb j=none->s.obj (n+j)=.free/\n+j<s.objs.length:=λj hj _=>hroom (n+j) oW oW
 have hrl:∀ j,j<L->ren j<s.objs.length:=by
  intro j hj
  simp only[ren,Yrv]
  split
  ·rename_i id e;exact Ym6 rfl (hpne j id (Ypf.1 e)).1
  ·rename_i e;exact(hnew j hj e).2
 have hinj:∀ j,j<L->∀ j',j'<L->ren j=ren j'->j=j':=by
  intro j hj j' hj' e
  simp only[ren,Yrv]at e
  split at e<;>split at e
  ·rename_i id e1 _ id' e2
   subst e
   exact hp.inj j j' id (Ypf.1 e1) (Ypf.1 e2)
  ·rename_i id e1 _ e2
   have:=(hpne j id (Ypf.1 e1)).1
   rw[e]at this
   exact(this (hnew j' hj' e2).1).elim
  ·rename_i _ e1 _ id e2
   have:=(hpne j' id (Ypf.1 e2)).1
   rw[<- e]at this
   exact(this (hnew j hj e1).1).elim
  ·omega
 let s':=s1.updObs (Ysp p.emb n objs1)
 obtain⟨u1,u2⟩:=Y127 (λj=>(Ynd objs1 j).ren ren) ren (List.range L) s1 (λj hj=>by rw[Yn5];exact hrl j (List.mem_range.1 hj))
  (λj hj j' hj'=>hinj j (List.mem_range.1 hj) j' (List.mem_range.1 hj'))
 have hs'o:∀ j,j<L->s'.obj (ren j)=(Ynd objs1 j).ren ren:=λj hj=>u2 j (List.mem_range.2 hj)
 have hs'n:∀ i,(∀ j,j<L->ren j≠i)->s'.obj i=s1.obj i:=λi hi=>u1 i λj hj=>hi j (List.mem_range.1 hj)
 let inv:Nat->Option Nat:=λi=>if hx:∃ j,j<L/\ren j=i then some (Classical.choose hx) else none
 have hinv1:∀ j,j<L->inv (ren j)=some j:=by
  intro j hj
  have hx:∃ j',j'<L/\ren j'=ren j:=⟨j,hj,rfl⟩
  simp only[inv,dif_pos hx]
  have:=Classical.choose_spec hx
  exact ci some (hinj _ this.1 j hj this.2)
 have hinv2:∀ i,inv i=none->∀ j,j<L->ren j≠i:=by
  intro i hi j hj e
  rw[<- e,hinv1 j hj]at hi
  cases hi
 have hinv3:∀ i j,inv i=some j->j<L/\ren j=i:=by
  intro i j hi
  simp only[inv]at hi
  split at hi
  ·rename_i hx
   simp only[aa]at hi
   rw[<- hi];exact Classical.choose_spec hx
  ·cases hi
 let G'':Nat->Prop:=if p.lent=[]/\R=ι.G then ι1.G else ι.G
 let ι':Interp:={ G:=G'',blk:=λi=>(match inv i with|some j=>ι1.blk j|none=>ι.blk i),sl:=λi=>(match inv i with|some j=>ι1.sl j|none=>ι.sl i),fp:=λi b=>(match inv i with|some j=>ι1.fp j b|none=>ι.fp i b) }
 have hfp:∀ i b,ι'.fp i b->(∃ j,j<L/\ren j=i/\ι1.fp j b)\/(inv i=none/\ι.fp i b):=by
  intro i b hb
  simp only[ι']at hb
  split at hb
  ·rename_i j e;exact .inl ⟨j,(hinv3 i j e).1,(hinv3 i j e).2,hb⟩
  ·exact .inr ⟨‹_›,hb⟩
 have hpas:∀ i,some i∈p.emb->∃ j,j<L/\ren j=i/\p.emb[j]? = some (some i):=by
  intro i hi
  obtain⟨j,hj⟩:=cn hi
  exact⟨j,(hpne j i hj).2,by simp only[ren,Yrv,Ypf.2 hj],hj⟩
 have hnp:∀ i,inv i=none->some i∉p.emb:=by
  intro i hi hm
  obtain⟨j,hj,e,_⟩:=hpas i hm
  exact hinv2 i hi j hj e
 have hcfp:∀ b,(∃ i,(Yoc ι p.emb R).fp i b)->∃ id,some id∈p.emb/\ι.fp id b:=by
  rintro b ⟨i,hi⟩
  obtain⟨id,e1,f1⟩:=Yuw hi
  exact⟨id,aE e1,f1⟩
 have hframe:∀ b,b<w.heap.size->(∀ id,some id∈p.emb->¬ ι.fp id b)->w'.heap[b]? = w.heap[b]? := by
  intro b hb hn
  refine hpost.frame b hb λi hi => ?_
  obtain⟨id,hm,hf⟩:=hcfp b ⟨i,hi⟩
  exact hn id hm hf
 have hGsame:∀ b,ι.G b->w'.heap[b]? = w.heap[b]? := λb hb=>hframe b (h.glt b hb) λid _ hf=>h.gfp id b hf hb
 have hGG:∀ b,ι.G b->G'' b:=by
  intro b hb
  simp only[G'']
  split
  ·rename_i hc
   have:=hpost.gg b
   simp only[Yoc]at this
   exact this (by rw[hc.2];exact hb)
  ·exact hb
 have hG1:∀ b,G'' b->ι.G b\/(∃ id,some id∈p.emb/\ι.fp id b)\/w.heap.size<=b:=by
  intro b hb
  simp only[G'']at hb
  split at hb
  ·rename_i hc
   rcases hpost.gown b hb with h2|h2|h2
   ·simp only[Yoc]at h2;rw[hc.2]at h2;exact .inl h2
   ·exact .inr (.inl (hcfp b h2))
   ·exact .inr (.inr h2)
  ·exact .inl hb
 have hG2:∀ j b,ι1.fp j b->¬ G'' b:=by
  intro j b hj hb
  simp only[G'']at hb
  split at hb
  ·exact hpost.gfp j b hj hb
  ·rename_i hc
   rcases hpost.own j b hj with h2|h2
   ·obtain⟨id,_,hf⟩:=hcfp b h2
    exact h.gfp id b hf hb
   ·have:=h.glt b hb;omega
 have hunp:∀ i b,inv i=none->ι.fp i b->w'.heap[b]? = w.heap[b]? := λi b hi hf=>hframe b (h.lt i b hf) λid hm hf'=>h.disj i id b (λe=>hnp i hi (e ▸ hm)) hf hf'
 have hregs:s'.regs=s1.regs:=Ynq _ _
 have hext:Ext (λi=>i∉ids) w ι s1.obj w' ι' s'.obj:=by
  refine⟨λb hb=>⟨hGG b hb,hGsame b hb⟩,λi => ?_⟩
  cases hi:inv i with
  | none=>
   rw[hs'n i (hinv2 i hi)]
   have e1:ι'.blk i=ι.blk i:=by simp only[ι',hi]
   have e2:ι'.sl i=ι.sl i:=by simp only[ι',hi]
   have e3:∀ b,ι.fp i b->ι'.fp i b:=λb hb=>by simp only[ι',hi];exact hb
   cases e:s1.obj i with
   | free=>trivial
   | dead=>trivial
   | box cs=>exact e1
   | arr own sz es=>exact⟨e2,rfl,λ_ b hb=>⟨.inl (e3 b hb),hunp i b hi hb⟩⟩
   | map nn k f=>exact⟨e1,rfl,rfl,λ_ b hb=>⟨.inl (e3 b hb),hunp i b hi hb⟩⟩
  | some j=>
   obtain⟨hj,hji⟩:=hinv3 i j hi
   have e1:ι'.blk i=ι1.blk j:=by simp only[ι',hi]
   have e2:ι'.sl i=ι1.sl j:=by simp only[ι',hi]
   have hob:s'.obj i=(Ynd objs1 j).ren ren:=by rw[<- hji];exact hs'o j hj
   rw[hob]
   cases em:Yv2 p.emb j with
   | none=>
    have:ren j=n+j:=by simp only[ren,Yrv,em]
    have hfr:s.obj i=.free:=by rw[<- hji,this];exact(hnew j hj em).1
    obtain⟨o,ho,hm⟩:=Y16s ids s i
    rw[hfr]at hm
    simp only at hm
    rw[show s1.obj i=o from ho,hm]
    trivial
   | some id=>
    have hid:id=i:=by rw[<- hji];simp only[ren,Yrv,em]
    subst hid
    have he:=Ypf.1 em
    obtain⟨c1,c2,c3⟩:=Ytu (ι:=ι) (R:=R) he
    obtain⟨o,k1,k2⟩:=hp.som j id he
    have hx:=hpost.ext j
    rw[Yra k1]at hx
    obtain⟨o1,ho1,hm⟩:=Y16s ids s id
    rw[show s1.obj id=o1 from ho1]
    rcases k2 with ⟨own,sz,es,k3,rfl⟩|⟨cs,cs',k3,rfl,_⟩|⟨nn,kk,f,k3,rfl⟩
    ·rw[k3]at hm
     simp only at hm
     rw[hm]
     cases e4:Ynd objs1 j with
     | free=>rw[e4]at hx;exact hx.elim
     | dead=>trivial
     | box _=>rw[e4]at hx;exact hx.elim
     | arr own' sz' es'=>
      rw[e4]at hx
      refine⟨by rw[e2,hx.1,c2],hx.2.1,λhk=>(hk (Y1ba.2 (aE he))).elim⟩
     | map _ _ _=>rw[e4]at hx;exact hx.elim
    ·rw[k3]at hm
     simp only at hm
     obtain⟨cs2,rfl⟩:=hm
     cases e4:Ynd objs1 j with
     | free=>rw[e4]at hx;exact hx.elim
     | dead=>trivial
     | box _=>rw[e4]at hx;show ι'.blk id=ι.blk id;rw[e1,<- c1];exact hx
     | arr _ _ _=>rw[e4]at hx;exact hx.elim
     | map _ _ _=>rw[e4]at hx;exact hx.elim
    ·rw[k3]at hm
     simp only at hm
     rw[hm]
     cases e4:Ynd objs1 j with
     | free=>rw[e4]at hx;exact hx.elim
     | dead=>trivial
     | box _=>rw[e4]at hx;exact hx.elim
     | arr _ _ _=>rw[e4]at hx;exact hx.elim
     | map nn' k' f'=>
      rw[e4]at hx
      refine⟨by rw[e1,hx.1,c1],hx.2.1,hx.2.2.1,λhk=>(hk (Y1ba.2 (aE he))).elim⟩
 have htr:Tr ren ι1 (Ynd objs1) ι' s'.obj:=by
  refine⟨λj hj => ?_⟩
  have hjl:j<L:=by
   rcases bH j objs1.length with hlt|hge
   ·exact hlt
   ·simp[notFree,Ynd,bf hge]at hj
  have hi:=hinv1 j hjl
  exact⟨hs'o j hjl,by simp only[ι',hi],by simp only[ι',hi],λb=>by simp only[ι',hi]⟩
 have hGc:∀ {q:Prop},(objs1.all Ob.noG/\res.acs.all AC.noG->q)->q\/∀ b,ι1.G b->ι'.G b:=by
  intro q hq
  by_cases hc:p.lent=[]/\R=ι.G
  ·right;intro b hb;show G'' b;simp only[G'',ae hc];exact hb
  ·exact .inl (hq (hG.resolve_left hc))
 refine⟨ι',?_,Ymg.tr htr (hGc λhq=>hq.2) hpost.val,hext⟩
 refine Rel.step h1 hext (λt=>.inl ⟨?_,λc hc i hi => ?_⟩) ?_ ?_ (λi => ?_) ?_ ?_ ?_ ?_ ?_ ?_ hpost.size hpost.os hpost.out (hG:=λb hb => ?_)
 ·show s'.regs.getD t _=s1.regs.getD t _;rw[hregs]
 ·rw[show s1=s.inval ids from rfl]at hc
  cases hids:ids with
  | nil=>simp
  | cons x l=>rw[hids,Ys6]at hc;exact Yti _ hc hi
 ·show s'.regs.length=s1.regs.length;rw[hregs]
 ·exact Yus _ _
 ·cases hi:inv i with
  | none=>
   left
   refine⟨hs'n i (hinv2 i hi),⟨by simp only[ι',hi],by simp only[ι',hi],λb=>by simp only[ι',hi],λb hb=>hunp i b hi hb⟩,λc hc k hk => ?_⟩
   cases hids:ids with
   | nil=>simp
   | cons x l=>
    rw[show s1=s.inval ids from rfl,hids,Ym4]at hc
    cases ho:s.obj i with
    | box cs=>rw[ho]at hc;simp[Ym5,Ob.acs]at hc;obtain⟨y,_,rfl⟩:=hc;exact Yr1 _ hk
    | free=>rw[ho]at hc;simp[Ym5,Ob.acs]at hc
    | dead=>rw[ho]at hc;simp[Ym5,Ob.acs]at hc
    | map _ _ _=>rw[ho]at hc;simp[Ym5,Ob.acs]at hc
    | arr _ _ _=>rw[ho]at hc;simp[Ym5,Ob.acs]at hc
  | some j=>
   right
   obtain⟨hj,hji⟩:=hinv3 i j hi
   by_cases hfree:Ynd objs1 j=.free
   ·have:s'.obj i=.free:=by rw[<- hji,hs'o j hj,hfree];rfl
    rw[this]
    intro b hb
    simp only[ι',hi]at hb
    have:=hpost.obj j
    rw[hfree]at this
    exact this b hb
   ·have hnf:notFree (Ynd objs1) j:=by unfold notFree;cases e:Ynd objs1 j<;>first|exact hfree e|trivial
    rw[<- hji]
    refine Yov.tr htr hnf (hGc λhq => ?_) (hpost.obj j)
    have hg:objs1[j]? = some (Ynd objs1 j):=by simp[Ynd,av (show j<objs1.length from hj)]
    exact(List.all_eq_true.1 hq.1) _ (aE hg)
 ·intro i k b hik hi hk
  rcases hfp i b hi with ⟨j,_,e1,f1⟩|⟨e1,f1⟩<;>rcases hfp k b hk with ⟨j',_,e2,f2⟩|⟨e2,f2⟩
  ·exact hpost.disj j j' b (λe=>hik (by rw[<- e1,<- e2,e])) f1 f2
  ·rcases hpost.own j b f1 with h2|h2
   ·obtain⟨id,hm,hf⟩:=hcfp b h2
    exact h.disj id k b (λe=>hnp k e2 (e ▸ hm)) hf f2
   ·have:=h.lt k b f2;omega
  ·rcases hpost.own j' b f2 with h2|h2
   ·obtain⟨id,hm,hf⟩:=hcfp b h2
    exact h.disj id i b (λe=>hnp i e1 (e ▸ hm)) hf f1
   ·have:=h.lt i b f1;omega
  ·exact h.disj i k b hik f1 f2
 ·intro i b hi hg
  rcases hfp i b hi with ⟨j,_,e1,f1⟩|⟨e1,f1⟩
  ·exact hG2 j b f1 hg
  ·rcases hG1 b hg with h2|⟨id,hm,hf⟩|h2
   ·exact h.gfp i b f1 h2
   ·exact h.disj i id b (λe=>hnp i e1 (e ▸ hm)) f1 hf
   ·have:=h.lt i b f1;omega
 ·intro i b hi
  rcases hfp i b hi with ⟨j,_,e1,f1⟩|⟨e1,f1⟩
  ·rcases hpost.own j b f1 with h2|h2
   ·obtain⟨id,hm,hf⟩:=hcfp b h2
    exact h.own id b hf
   ·exact .inr (aN h.size h2)
  ·exact h.own i b f1
 ·intro i b hi
  rcases hfp i b hi with ⟨j,_,e1,f1⟩|⟨e1,f1⟩
  ·exact hpost.lt j b f1
  ·exact cK (h.lt i b f1) hpost.size
 ·intro b hb
  by_cases hc:p.lent=[]/\R=ι.G
  ·have:ι1.G b:=by have hb':G'' b:=hb;simpa only[G'',ae hc] using hb'
   exact hpost.glt b this
  ·have:ι.G b:=by have hb':G'' b:=hb;simpa only[G'',ab hc] using hb'
   exact cK (h.glt b this) hpost.size
 ·intro b hb hM
  refine hframe b (cK hb h.size) λid hm hf => ?_
  rcases h.own id b hf with h2|h2
  ·exact hM h2
  ·omega
 ·rcases hG1 b hb with h2|⟨id,_,hf⟩|h2
  ·exact .inl h2
  ·exact .inr (.inl ⟨id,hf⟩)
  ·exact .inr (.inr h2)
end
section
variable {P:Program}{E:Ent P}{s:St}{ι:Interp}{a:Act}{w:World}
theorem Rel.sameObj (h:Rel E s ι a w) {s':St}(hr:s'.regs=s.regs) (ho:s'.obj=s.obj) (hm:s'.m=s.m):Rel E s' ι a w where
 len:=by rw[hr];exact h.len
 defers:=h.defers
 regs t:=by have:=h.regs t;unfold St.reg at *;rw[hr,ho];exact this
 objs i:=by rw[ho];exact h.objs i
 disj:=h.disj
 gfp:=h.gfp
 own:=h.own
 lt:=h.lt
 glt:=h.glt
 frame:=h.frame
 size:=h.size
 os:=h.os
 out:=h.out
 ent i:=by rw[ho];exact h.ent i
 gg:=h.gg
 gown:=h.gown
 ment i hi:=h.ment i (by rw[<- hm];exact hi)
theorem Y1n2 {e:TypeId}{sz sz':Nat}{v:Value}{xs:List Value}(h:Ypn w e sz v 0 xs) (h0:∃ a,v=.slice a 0 0):Ypn w e sz' v 0 xs:=by
 obtain⟨a,rfl⟩:=h0
 have hx:xs=[]:=bQ (by simpa using h.1)
 subst hx
 refine⟨by simp,?_⟩
 rcases h.2 with ⟨h1,h2⟩|⟨g,cap,cur,fz,h1,h2,h3,h4,h5,h6,h7⟩
 ·exact .inl ⟨h1,h2⟩
 ·simp only[dy]at h1
  obtain⟨rfl,_,rfl⟩:=h1
  exact .inr ⟨g,0,cur,fz,rfl,h2,h3,h4,h5,by simpa using h6,by simp⟩
theorem OwnC.arrRel {G F:Nat->Prop}{v:Value}{es:List (List Cell)}{sz:Nat}(h:OwnC w F v (.list es)) (hs:∀ x∈es,x.length=sz):Ym8 w (Yna w G true) sz F v es:=by
 cases h with
 | arr h hsz hb sub nb dj hc h0=>
  rename_i e sz1 xs Fs
  cases es with
  | nil=>exact⟨e,xs,Fs,Y1n2 h (h0 rfl),hs,hb,sub,nb,dj,hc,h0⟩
  | cons x r=>
   have:sz1=sz:=by rw[<- hsz x aj,hs x aj]
   subst this
   exact⟨e,xs,Fs,h,hs,hb,sub,nb,dj,hc,h0⟩
theorem Yxj {sz:Nat}{es:List (List Cell)}{i p:Nat}{e:List Cell}{c:Cell}(hsz:∀ x∈es,x.length=sz) (he:es[i]? = some e) (hp:p<e.length) :
  (es.set i (e.set p c)).flatten=es.flatten.set (i * sz+p) c:=by
 have h1:e.set p c=splice p [c] e:=by
  unfold splice
  rw[List.set_eq_take_append_cons_drop,ae hp];simp
 have hlt:i * sz+p<es.flatten.length:=by
  have:=Ypd hsz he (av hp)
  exact(List.getElem?_eq_some_iff.1 this).1
 rw[h1,Yyl hsz he (by simp;omega)]
 unfold splice
 rw[List.set_eq_take_append_cons_drop,ae hlt];simp
structure Taken (w:World) (ι:Interp) (id n i sz p:Nat):Prop where
 cell:∀ b,(ι.sl id).ownBlock=some b->w.cell? ⟨b,i * sz+p,none⟩=some (ι.sl n)
 blk:∃ b,(ι.sl id).ownBlock=some b/\ι.fp id b
def Ymc (s:St) (id n i p sz:Nat) (es:List (List Cell)) (e:List Cell) (sz':Nat) (es':List (List Cell)):St:=
 (s.setOb id (.arr true sz (es.set i (e.set p .any)))).setOb n (.arr true sz' es')
theorem Rel.focus (h:Rel E s ι a w) {id n i p sz sz':Nat}{es es':List (List Cell)}{e:List Cell}(ho:s.obj id=.arr true sz es) (he:es[i]? = some e) (hp:e[p]? = some (.list es')) (hx:∀ x∈es',x.length=sz')
  (hf:s.obj n=.free) (hn:n<s.objs.length) (hreg:∀ t,∀ c∈(s.reg t).acs,∀ k,c.src=some k->k≠id) (hbox:∀ k,∀ c∈(s.obj k).acs,∀ k',c.src=some k'->k'≠id) :
  ∃ ι',Rel E (Ymc s id n i p sz es e sz' es') ι' a w/\ι'.sl id=ι.sl id/\Taken w ι' id n i sz p/\Ext (λk=>k≠id) w ι s.obj w ι' (Ymc s id n i p sz es e sz' es').obj/\ι'.G=ι.G/\∀ k b,k≠n->k≠id->ι.fp k b->ι'.fp k b:=by
 have hor:=h.objs id
 rw[ho]at hor
 obtain⟨e0,xs,Fs,h1,h2,h3,h4,h5,h6,h7,h0⟩:=hor
 have hlx:xs.length=es.flatten.length:=by rw[h1.1,Ymy h2]
 have hpe:p<e.length:=(List.getElem?_eq_some_iff.1 hp).1
 have hflat:=Ypd h2 he hp
 have hj0:i * sz+p<es.flatten.length:=(List.getElem?_eq_some_iff.1 hflat).1
 have hj0x:i * sz+p<xs.length:=by rw[hlx];exact hj0
 obtain⟨v,hv⟩:∃ v,xs[i * sz+p]? = some v:=⟨_,av hj0x⟩
 have hown:=h7 _ _ _ hv hflat
 have hidn:id≠n:=λe=>by rw[e,hf]at ho;cases ho
 have hidl:id<s.objs.length:=Ym6 ho sW
 have hobj:∀ k,(Ymc s id n i p sz es e sz' es').obj k=if k=n then .arr true sz' es' else if k=id then .arr true sz (es.set i (e.set p .any)) else s.obj k:=by
  intro k
  unfold Ymc
  rw[Yll (by rw[Ylr];exact hn),Yll hidl]
 let ι':Interp:={ ι with sl:=λk=>if k=n then v else ι.sl k,fp:=λk b=>if k=n then Fs (i * sz+p) b else if k=id then ι.fp id b/\¬ Fs (i * sz+p) b else ι.fp k b }
 have hfree:∀ b,¬ ι.fp n b:=by
  have:=h.objs n
  rw[hf]at this;exact this
 have hsl:ι'.sl id=ι.sl id:=by simp only[ι',ab hidn]
 have hblk:∃ b,(ι.sl id).ownBlock=some b:=by
  rcases h1.2 with ⟨_,hz⟩|⟨g,cap,cur,fz,hg,_⟩
  ·have:es=[]:=bQ hz
   subst this;simp at he
  ·exact⟨g,by rw[hg];rfl⟩
 have hcells:∀ b,(ι.sl id).ownBlock=some b->w.cell? ⟨b,i * sz+p,none⟩=some v:=by
  intro b hb
  have:=Ypn.cells (g:=b) h1 hb (i * sz+p) v hv
  rw[Yq2]at this
  simpa using this
 have hext:Ext (λk=>k≠id) w ι s.obj w ι' (Ymc s id n i p sz es e sz' es').obj:=by
  refine⟨λb hb=>⟨hb,rfl⟩,λk => ?_⟩
  rw[hobj]
  by_cases hk:k=n
  ·subst hk;rw[ae rfl,hf];trivial
  ·rw[ab hk]
   by_cases hk2:k=id
   ·subst hk2;rw[ae rfl,ho]
    exact⟨hsl,rfl,λhk=>(hk rfl).elim⟩
   ·rw[ab hk2]
    cases ek:s.obj k with
    | free=>trivial
    | dead=>trivial
    | box cs=>rfl
    | arr o1 s1 e1=>exact⟨by simp only[ι',ab hk],rfl,λ_ b hb=>⟨.inl (by simp only[ι',ab hk,ab hk2];exact hb),rfl⟩⟩
    | map _ _ _=>exact⟨rfl,rfl,rfl,λ_ b hb=>⟨.inl (by simp only[ι',ab hk,ab hk2];exact hb),rfl⟩⟩
 have hfp:∀ k b,ι'.fp k b->(k=n/\Fs (i * sz+p) b)\/(k=id/\ι.fp id b/\¬ Fs (i * sz+p) b)\/(k≠n/\k≠id/\ι.fp k b):=by
  intro k b hb
  simp only[ι']at hb
  split at hb
  ·exact .inl ⟨‹_›,hb⟩
  ·split at hb
   ·exact .inr (.inl ⟨‹_›,hb⟩)
   ·exact .inr (.inr ⟨‹_›,‹_›,hb⟩)
 have hold:∀ k b,ι'.fp k b->∃ k',ι.fp k' b:=by
  intro k b hb
  rcases hfp k b hb with ⟨_,hb⟩|⟨_,hb,_⟩|⟨_,_,hb⟩
  ·exact⟨id,h4 _ b hb⟩
  ·exact⟨id,hb⟩
  ·exact⟨k,hb⟩
 have hnestid:Ym8 w (Yna w ι'.G true) sz (ι'.fp id) (ι'.sl id) (es.set i (e.set p .any)):=by
  rw[hsl]
  refine⟨e0,xs,λj b=>j≠i * sz+p/\Fs j b,by rw[cd];exact h1,?_,?_,?_,?_,?_,?_,λhn=>h0 (by simpa using hn)⟩
  ·intro x hxm
   rcases bS hxm with hm|rfl
   ·exact h2 x hm
   ·rw[cd];exact h2 e (aE he)
  ·intro b hb;simp only[ι',ab hidn,bx];exact⟨h3 b hb,h5 _ b hb⟩
  ·intro j b hb;simp only[ι',ab hidn,bx];exact⟨h4 j b hb.2,h6 _ _ b hb.1 hb.2⟩
  ·intro j b hb hk;exact h5 j b hb hk.2
  ·intro j j' b hne hb hb';exact h6 j j' b hne hb.2 hb'.2
  ·intro j u c hu hc
   rw[Yxj h2 he hpe,bM]at hc
   by_cases hj:i * sz+p=j
   ·subst hj
    rw[ae rfl,ae hj0]at hc
    simp only[aa]at hc
    subst hc
    rw[hv]at hu
    simp only[aa]at hu
    subst hu
    exact OwnC.any hown.one
   ·rw[ab hj]at hc
    exact OwnC.wide (h7 j u c hu hc) λb hb=>⟨λe=>hj e.symm,hb⟩
 have hnestn:Ym8 w (Yna w ι'.G true) sz' (ι'.fp n) (ι'.sl n) es':=by
  have e1:ι'.sl n=v:=by simp only[ι',bx]
  have e2:ι'.fp n=Fs (i * sz+p):=by funext b;simp only[ι',bx]
  rw[e1,e2]
  exact OwnC.arrRel hown hx
 refine⟨ι',?_,hsl,⟨λb hb => ?_,?_⟩,hext,rfl,λk b hk hk2 hb=>by simp only[ι',ab hk,ab hk2];exact hb⟩
 ·refine Rel.step h hext (λt=>.inl ⟨rfl,λc hc k hk=>hreg t c hc k hk⟩) rfl rfl (λk => ?_) ?_ ?_ ?_ ?_ h.glt (λ_ _ _=>rfl) (aC _) rfl rfl
  ·by_cases hk:k=n
   ·right;rw[hobj,ae hk,hk];exact hnestn
   ·by_cases hk2:k=id
    ·right;rw[hobj,ab hk,ae hk2,hk2];exact hnestid
    ·left
     rw[hobj,ab hk,ab hk2]
     exact⟨rfl,⟨rfl,by simp only[ι',ab hk],λb=>by simp only[ι',ab hk,ab hk2],λ_ _=>rfl⟩,λc hc k' hk'=>hbox k c hc k' hk'⟩
  ·intro x y b hne hx1 hy1
   rcases hfp x b hx1 with ⟨rfl,f1⟩|⟨rfl,f1,g1⟩|⟨n1,n2,f1⟩<;>rcases hfp y b hy1 with ⟨rfl,f2⟩|⟨rfl,f2,g2⟩|⟨m1,m2,f2⟩
   ·exact hne rfl
   ·exact g2 f1
   ·exact h.disj id y b (λe=>m2 e.symm) (h4 _ b f1) f2
   ·exact g1 f2
   ·exact hne rfl
   ·exact h.disj x y b hne f1 f2
   ·exact h.disj x id b n2 f1 (h4 _ b f2)
   ·exact h.disj x y b hne f1 f2
   ·exact h.disj x y b hne f1 f2
  ·intro k b hb hg
   obtain⟨k',hk'⟩:=hold k b hb
   exact h.gfp k' b hk' hg
  ·intro k b hb
   obtain⟨k',hk'⟩:=hold k b hb
   exact h.own k' b hk'
  ·intro k b hb
   obtain⟨k',hk'⟩:=hold k b hb
   exact h.lt k' b hk'
 ·have e1:ι'.sl n=v:=by simp only[ι',bx]
  rw[e1];rw[hsl]at hb;exact hcells b hb
 ·obtain⟨b,hb⟩:=hblk
  exact⟨b,by rw[hsl];exact hb,by simp only[ι',ab hidn,bx];exact⟨h3 b hb,h5 _ b hb⟩⟩
def Yr2 (s:St) (id n i p sz:Nat) (es:List (List Cell)) (e:List Cell) (es':List (List Cell)):St:=
 (s.setOb id (.arr true sz (es.set i (e.set p (.list es'))))).setOb n .dead
theorem Rel.unfocus (h:Rel E s ι a w) {id n i p sz sz':Nat}{es es':List (List Cell)}{e:List Cell}(ho:s.obj id=.arr true sz es) (hon:s.obj n=.arr true sz' es') (he:es[i]? = some e) (hp:p<e.length)
  (hne:id≠n) (ht:Taken w ι id n i sz p):∃ ι',Rel E (Yr2 s id n i p sz es e es') ι' a w/\Ext (λ_=>True) w ι s.obj w ι' (Yr2 s id n i p sz es e es').obj:=by
 have hor:=h.objs id
 rw[ho]at hor
 obtain⟨e0,xs,Fs,h1,h2,h3,h4,h5,h6,h7,h0⟩:=hor
 have hlx:xs.length=es.flatten.length:=by rw[h1.1,Ymy h2]
 have horn:=h.objs n
 rw[hon]at horn
 have hown:OwnC w (ι.fp n) (ι.sl n) (.list es'):=Ym8.own horn
 have hflat:=Ypd h2 he (av hp)
 have hj0:i * sz+p<es.flatten.length:=(List.getElem?_eq_some_iff.1 hflat).1
 have hidl:id<s.objs.length:=Ym6 ho sW
 have hnl:n<s.objs.length:=Ym6 hon sW
 have hobj:∀ k,(Yr2 s id n i p sz es e es').obj k=if k=n then .dead else if k=id then .arr true sz (es.set i (e.set p (.list es'))) else s.obj k:=by
  intro k
  unfold Yr2
  rw[Yll (by rw[Ylr];exact hnl),Yll hidl]
 let ι':Interp:={ ι with fp:=λk b=>if k=n then False else if k=id then ι.fp id b\/ι.fp n b else ι.fp k b }
 obtain⟨b0,hb0,_⟩:=ht.blk
 have hv:xs[i * sz+p]? = some (ι.sl n):=by
  have hj:i * sz+p<xs.length:=by rw[hlx];exact hj0
  have h8:=Ypn.cells (g:=b0) h1 hb0 (i * sz+p) _ (av hj)
  rw[Yq2]at h8
  have h9:=ht.cell b0 hb0
  simp only[ck]at h8
  rw[h9]at h8
  simp only[aa]at h8
  rw[av hj,<- h8]
 have hext:Ext (λ_=>True) w ι s.obj w ι' (Yr2 s id n i p sz es e es').obj:=by
  refine⟨λb hb=>⟨hb,rfl⟩,λk => ?_⟩
  rw[hobj]
  by_cases hk:k=n
  ·subst hk;rw[ae rfl,hon];trivial
  ·rw[ab hk]
   by_cases hk2:k=id
   ·subst hk2;rw[ae rfl,ho]
    exact⟨rfl,rfl,λ_ b hb=>⟨.inl (by simp only[ι',ab hk,bx];exact .inl hb),rfl⟩⟩
   ·rw[ab hk2]
    cases ek:s.obj k with
    | free=>trivial
    | dead=>trivial
    | box cs=>rfl
    | arr o1 s1 e1=>exact⟨rfl,rfl,λ_ b hb=>⟨.inl (by simp only[ι',ab hk,ab hk2];exact hb),rfl⟩⟩
    | map _ _ _=>exact⟨rfl,rfl,rfl,λ_ b hb=>⟨.inl (by simp only[ι',ab hk,ab hk2];exact hb),rfl⟩⟩
 have hfp:∀ k b,ι'.fp k b->k≠n/\((k=id/\(ι.fp id b\/ι.fp n b))\/(k≠id/\ι.fp k b)):=by
  intro k b hb
  simp only[ι']at hb
  split at hb
  ·exact hb.elim
  ·refine⟨‹_›,?_⟩
   split at hb
   ·exact .inl ⟨‹_›,hb⟩
   ·exact .inr ⟨‹_›,hb⟩
 have hold:∀ k b,ι'.fp k b->∃ k',ι.fp k' b:=by
  intro k b hb
  obtain⟨_,⟨_,hb|hb⟩|⟨_,hb⟩⟩:=hfp k b hb
  ·exact⟨id,hb⟩
  ·exact⟨n,hb⟩
  ·exact⟨k,hb⟩
 have hnestid:Ym8 w (Yna w ι'.G true) sz (ι'.fp id) (ι'.sl id) (es.set i (e.set p (.list es'))):=by
  refine⟨e0,xs,λj b=>if j=i * sz+p then ι.fp n b else Fs j b,by rw[cd];exact h1,?_,?_,?_,?_,?_,?_,λhn=>h0 (by simpa using hn)⟩
  ·intro x hxm
   rcases bS hxm with hm|rfl
   ·exact h2 x hm
   ·rw[cd];exact h2 e (aE he)
  ·intro b hb;simp only[ι',ab hne,bx];exact .inl (h3 b hb)
  ·intro j b hb
   simp only[ι',ab hne,bx]
   split at hb
   ·exact .inr hb
   ·exact .inl (h4 j b hb)
  ·intro j b hb hk
   split at hk
   ·exact h.disj id n b hne (h3 b hb) hk
   ·exact h5 j b hb hk
  ·intro j j' b hjj hb hb'
   split at hb<;>split at hb'
   ·omega
   ·exact h.disj id n b hne (h4 _ b hb') hb
   ·exact h.disj id n b hne (h4 _ b hb) hb'
   ·exact h6 j j' b hjj hb hb'
  ·intro j u c hu hc
   rw[Yxj h2 he hp,bM]at hc
   by_cases hj:i * sz+p=j
   ·subst hj
    rw[ae rfl,ae hj0]at hc
    simp only[aa]at hc
    subst hc
    rw[hv]at hu
    simp only[aa]at hu
    subst hu
    simp only[bx]
    exact hown
   ·rw[ab hj]at hc
    have hj':¬ (j=i * sz+p):=λe=>hj e.symm
    simp only[hj',cT]
    exact h7 j u c hu hc
 refine⟨ι',?_,hext⟩
 refine Rel.step h hext (λt=>.inl ⟨rfl,λ_ _ _ _=>trivial⟩) rfl rfl (λk => ?_) ?_ ?_ ?_ ?_ h.glt (λ_ _ _=>rfl) (aC _) rfl rfl
 ·by_cases hk:k=n
  ·right;rw[hobj,ae hk]
   intro b hb
   exact(hfp k b hb).1 hk
  ·by_cases hk2:k=id
   ·right;rw[hobj,ab hk,ae hk2,hk2];exact hnestid
   ·left
    rw[hobj,ab hk,ab hk2]
    exact⟨rfl,⟨rfl,rfl,λb=>by simp only[ι',ab hk,ab hk2],λ_ _=>rfl⟩,λ_ _ _ _=>trivial⟩
 ·intro x y b hxy hx1 hy1
  obtain⟨nx,cx⟩:=hfp x b hx1
  obtain⟨ny,cy⟩:=hfp y b hy1
  rcases cx with ⟨rfl,f1⟩|⟨n1,f1⟩<;>rcases cy with ⟨rfl,f2⟩|⟨n2,f2⟩
  ·exact hxy rfl
  ·rcases f1 with f1|f1
   ·exact h.disj x y b hxy f1 f2
   ·exact h.disj n y b (λe=>ny e.symm) f1 f2
  ·rcases f2 with f2|f2
   ·exact h.disj x y b hxy f1 f2
   ·exact h.disj x n b nx f1 f2
  ·exact h.disj x y b hxy f1 f2
 ·intro k b hb hg
  obtain⟨k',hk'⟩:=hold k b hb
  exact h.gfp k' b hk' hg
 ·intro k b hb
  obtain⟨k',hk'⟩:=hold k b hb
  exact h.own k' b hk'
 ·intro k b hb
  obtain⟨k',hk'⟩:=hold k b hb
  exact h.lt k' b hk'
end
end Go.Proofs.YtcbodhkhppgkiaaGreat.Ab
end
section
namespace Go.Proofs.YtcbodhkhppgkiaaGreat.Ab
open Go Go.MapKept Go.ChangeMaps
def Y15f (P:Program):TypeDesc->Prop
 | .array _ t=>P.underlying t=some .string/\∃ i,P.info? t=some i/\i.size=1
 | _=>True
theorem Yvx {d:TypeDesc}{v:Value}(h:You d v):MapKept.IsKey d v\/∃ t a b,d=.array 2 t/\v=.agg #[.string a,.string b]:=by
 cases d<;>first|exact .inl h|(obtain⟨rfl,a,b,rfl⟩:=h;exact .inr ⟨_,a,b,rfl,rfl⟩)
section
variable {P:Program}
theorem Y1e5 {w:World}{t:TypeId}{cs:Array Value}{i:Nat}{v:Value}(hu:P.underlying t=some .string) (hv:cs[i]? = some v):(part t cs i).run P w=.ok v w:=by
 simp[part,isAgg,aK hu,hv,Result.andThen]
theorem Yw1 (a b:ByteArray):(a == b)=decide (a=b):=by
 by_cases h:a=b
 ·subst h;simp[bytes_beq]
 ·rw[bK h,Bool.eq_false_iff];intro e;exact h ((bytes_beq a b).1 e)
theorem Y1pd {w:World}{t:TypeId}{n:Nat}(hu:P.underlying t=some .string) (a b:ByteArray):(Op.equalIn (n+1) t (.string a) (.string b)).run P w=.ok (a == b) w:=by
 unfold Op.equalIn
 simp[aK hu,Result.andThen]
theorem Y1mf {w:World}{kt t:TypeId}{i:TypeInfo}(hd:P.underlying kt=some (.array 2 t)) (hu:P.underlying t=some .string) (hi:P.info? t=some i) (hs:i.size=1) (a b c d:ByteArray) :
  (Op.equal kt (.agg #[.string a,.string b]) (.agg #[.string c,.string d])).run P w=.ok (a == c&&b == d) w:=by
 have e0:Op.maxDepth=(9998+1)+1:=rfl
 unfold Op.equal
 rw[e0]
 unfold Op.equalIn
 have es:=Y1pd (w:=w) (n:=9998) hu
 have e1:=es a c
 have e2:=es b d
 cases ha:(a == c)<;>cases hb:(b == d)<;>rw[ha]at e1<;>rw[hb]at e2 <;>
 simp[aK hd,sizeOf,typeInfo,hi,Result.andThen,Std.Legacy.Range.forIn_eq_forIn_range',List.range',e1,e2,hs,Y1e5 hu]
theorem Yvr {w:World}{kt:TypeId}{d:TypeDesc}{k:Value}(hd:P.underlying kt=some d) (hk:You d k) (ht:Y15f P d) (e:Bool):(Instr.checkKey e 10000 kt k).run P w=.ok () w:=by
 rcases Yvx hk with hk|⟨t,a,b,rfl,rfl⟩
 ·exact run_checkKey hd hk e 9999
 ·obtain⟨hu,i,hi,hs⟩:=ht
  show (Instr.checkKey e (9998+1+1) kt _).run P w=_
  have h2:∀ x:ByteArray,(Instr.checkKey e (9998+1) t (.string x)).run P w=.ok () w:=λx=>run_checkKey hu (by trivial) e 9998
  unfold Instr.checkKey
  simp[aK hd,sizeOf,typeInfo,hi,Result.andThen,Std.Legacy.Range.forIn_eq_forIn_range',List.range',hs,Y1e5 hu,h2]
theorem Y1f0 {w:World}{kt t:TypeId}{i:TypeInfo}(hd:P.underlying kt=some (.array 2 t)) (hu:P.underlying t=some .string) (hi:P.info? t=some i) (hs:i.size=1) (a b:ByteArray) :
  ∀ (l:List MapEntry) (j:Nat),(∀ x∈l,You (.array 2 t) x.key) ->
  ((Instr.findAsking kt (.agg #[.string a,.string b]) l j).run P w=.ok none w/\∀ x∈l,x.key≠.agg #[.string a,.string b])\/
  ∃ m e,(Instr.findAsking kt (.agg #[.string a,.string b]) l j).run P w=.ok (some (j+m,e.val)) w/\l[m]? = some e/\e.key=.agg #[.string a,.string b]
 | [],_,_=>.inl ⟨rfl,by simp⟩
 | x :: l,j,h=>by
  obtain⟨_,c,d,hx⟩:=h x aj
  have he:=Y1mf (w:=w) hd hu hi hs a b c d
  by_cases hh:a=c/\b=d
  ·obtain⟨rfl,rfl⟩:=hh
   refine .inr ⟨0,x,?_,rfl,hx⟩
   unfold Instr.findAsking
   rw[hx]
   simp[he,Yw1,Result.andThen]
  ·have hne:x.key≠.agg #[.string a,.string b]:=by rw[hx];intro e;apply hh;simp at e;exact⟨e.1.symm,e.2.symm⟩
   have hf:(a == c&&b == d)=false:=by
    rw[Yw1,Yw1,<- Bool.decide_and];exact bK hh
   rw[hf]at he
   have hr:(Instr.findAsking kt (.agg #[.string a,.string b]) (x :: l) j).run P w=(Instr.findAsking kt (.agg #[.string a,.string b]) l (j+1)).run P w:=by
    conv=>lhs;unfold Instr.findAsking
    rw[hx]
    simp[he,Result.andThen]
   rcases Y1f0 hd hu hi hs a b l (j+1) (λy hy=>h y (ai _ hy)) with ⟨h1,h2⟩|⟨m,e,h1,h2,h3⟩
   ·exact .inl ⟨by rw[hr,h1],λy hy=>by rcases List.mem_cons.1 hy with rfl|hy;exact hne;exact h2 y hy⟩
   ·exact .inr ⟨m+1,e,by rw[hr,h1,show j+1+m=j+(m+1) by omega],by simpa using h2,h3⟩
theorem Y1fo {w:World}{kt:TypeId}{d:TypeDesc}{k:Value}(hd:P.underlying kt=some d) (hk:You d k) (ht:Y15f P d) (l:List MapEntry) (h:∀ x∈l,You d x.key) :
  ((Instr.findKey kt k l).run P w=.ok none w/\∀ x∈l,x.key≠k)\/∃ j e,(Instr.findKey kt k l).run P w=.ok (some (j,e.val)) w/\l[j]? = some e/\e.key=k:=by
 rcases Yvx hk with hk'|⟨t,a,b,rfl,rfl⟩
 ·have h':∀ x∈l,IsKey d x.key:=λx hx=>by
   rcases Yvx (h x hx) with h1|⟨t,a,b,rfl,h1⟩
   ·exact h1
   ·cases k<;>simp[IsKey]at hk'
  rcases findNow_spec hk' l 0 h' with ⟨e1,e2⟩|⟨j,e,e1,e2,e3⟩
  ·exact .inl ⟨run_findKey hd e1,e2⟩
  ·exact .inr ⟨j,e,by rw[run_findKey hd e1];simp,e2,e3⟩
 ·obtain⟨hu,i,hi,hs⟩:=ht
  cases l with
  | nil=>exact .inl ⟨run_findKey hd rfl,by simp⟩
  | cons x l=>
   have hr:(Instr.findKey kt (.agg #[.string a,.string b]) (x :: l)).run P w=(Instr.findAsking kt (.agg #[.string a,.string b]) (x :: l) 0).run P w:=by
    simp[Instr.findKey,aK hd,Result.andThen,Instr.findNow,Instr.sameNow]
   rcases Y1f0 (w:=w) hd hu hi hs a b (x :: l) 0 h with ⟨h1,h2⟩|⟨m,e,h1,h2,h3⟩
   ·exact .inl ⟨by rw[hr,h1],h2⟩
   ·exact .inr ⟨m,e,by rw[hr,h1];simp,h2,h3⟩
theorem Y1nv {w:World}{d:TypeDesc}{k:Value}(hk:You d k):(Instr.keyThatStays k k).run P w=.ok k w:=by
 rcases Yvx hk with hk|⟨t,a,b,rfl,rfl⟩
 ·exact run_keyThatStays hk
 ·simp[Instr.keyThatStays,Instr.sameBits,Yw1]
end
theorem Y1hu {d:TypeDesc}{es:Array MapEntry}(h:∀ x∈es.toList,You d x.key) (i:Nat) (f:MapEntry->MapEntry) (hk:∀ e,es[i]? = some e->(f e).key=e.key):∀ x∈(es.modify i f).toList,You d x.key:=by
 intro x hx
 have:x.key∈(es.modify i f).toList.map (·.key):=List.mem_map.2 ⟨x,hx,rfl⟩
 rw[modify_keys i f hk]at this
 obtain⟨y,hy,e⟩:=List.mem_map.1 this
 rw[<- e];exact h y hy
def Y1cb:TypeDesc->TypeDesc->Bool
 | .int k,.int k'=>decide (k=k')
 | .string,.string=>true
 | .array n t,.array n' t'=>decide (n=n')&&decide (t=t')
 | _,_=>false
theorem Y1db {a b:TypeDesc}(h:Y1cb a b):a=b:=by
 cases a<;>cases b<;>simp_all[Y1cb]
def Y1e6:TypeDesc->Value->Bool
 | .int k,.int k' _=>decide (k'=k)
 | .string,.string _=>true
 | .array n _,.agg cs=>match cs.toList with | [.string _,.string _]=>decide (n=2)|_=>false
 | _,_=>false
theorem Y1iz {d:TypeDesc}{v:Value}(h:Y1e6 d v):You d v:=by
 by_cases hd:(∃ n t,d=.array n t)/\∃ cs,v=.agg cs
 ·obtain⟨⟨n,t,rfl⟩,cs,rfl⟩:=hd
  simp only[Y1e6]at h
  split at h
  ·rename_i a b e
   refine⟨by simpa using h,a,b,?_⟩
   rw[<- Array.toArray_toList (xs:=cs),e]
  ·cases h
 ·cases d<;>cases v<;>simp_all[Y1e6,IsKey,You]
def Y1lm:Value->Value->Bool
 | .int k a,.int k' b=>decide (k=k')&&decide (a=b)
 | .slice none 0 0,.slice none 0 0=>true
 | _,_=>false
theorem Y1ug {a b:Value}(h:Y1lm a b):a=b:=by
 unfold Y1lm at h
 split at h<;>simp_all
section tables
variable (P:Program)
def Y1n0:TypeDesc->Bool
 | .array _ t=>(match P.underlying t with|some .string=>true|_=>false)&&(match P.info? t with|some i=>decide (i.size=1)|none=>false)
 | _=>true
def Y1nb (T:TypeId):Option (TypeDesc×TypeId×TypeId):=match P.underlying T with
 | some (.map kt et)=>match P.underlying kt with|some d=>if Y1n0 P d then some (d,kt,et) else none|none=>none
 | _=>none
def Y1ls (T:TypeId):Option Value:=match P.info? T with
 | some i=>match i.zero with
  | some z=>match z.cells.toList with
   | [v]=>if Y10f z then some z else none
   | _=>none
  | none=>none
 | none=>none
def zOK (z:Value):Option Value->Bool
 | none=>true
 | some v=>Y1lm v z
end tables
def Yx3 (k:MK):Value->Option Cell:=λ_=>k.z.map normLit
def Y19k (k:MK):Bool:=match k.z with|none=>true|some v=>Y10f v
theorem Y1bb {k:MK}(h:Y19k k) (key:Value):Yyj k.z (Yx3 k key):=by
 unfold Y19k at h
 unfold Yx3
 cases e:k.z with
 | none=>exact .inl rfl
 | some v=>
  rw[e]at h
  exact .inr ⟨v,rfl,Yuq h,.inl rfl⟩
def Ypw (z:Value) (f:Value->Option Cell) (key:Value) (c:Cell):Prop:=f key=some c\/(f key=none/\c=normLit z)
def Yqr (d:TypeDesc) (f f':Value->Option Cell) (key:Value) (c:Option Cell):Prop:=f' key=c/\∀ k,You d k->k≠key->f' k=f k
section
variable {P:Program}{E:Ent P}{s:St}{ι:Interp}{a:Act}{w:World}
theorem Y1s5 {d:TypeDesc}(h:Y1n0 P d):Y15f P d:=by
 cases d<;>try trivial
 rename_i n t
 simp only[Y1n0,af]at h
 obtain⟨h1,h2⟩:=h
 split at h1<;>first|(cases h1;done)|skip
 rename_i e1
 split at h2<;>first|(cases h2;done)|skip
 rename_i i e2
 exact⟨e1,i,e2,by simpa using h2⟩
def St.keyV (s:St) (x:Operand):Option Value:=match s.ev x with
 | some (.sv (.one (.val (.lit v))))=>some v
 | some (.sv (.agg l))=>match l with
  | [.val (.lit (.string a)),.val (.lit (.string b))]=>some (.agg #[.string a,.string b])
  | _=>none
 | _=>none
theorem Y1eq (h:Rel E s ι a w) {x:Operand}{v:Value}(e:s.keyV x=some v):a.eval x=v:=by
 unfold St.keyV at e
 split at e
 ·rename_i u hev
  simp only[aa]at e;subst e
  exact(Rd.lit_inv (show Rd w ι.G _ _ from (Ypy h hev).1)).1
 ·rename_i l hev
  split at e
  ·rename_i x1 x2
   simp only[aa]at e;subst e
   obtain⟨arr,h1,h2⟩:=Ypy h hev
   rw[h1]
   have h3:arr=arr.toList.toArray:=by simp
   rw[h3]
   cases hl:arr.toList with
   | nil=>rw[hl]at h2;cases h2
   | cons y1 r1=>
    rw[hl]at h2
    cases r1 with
    | nil=>exact(h2.2:False).elim
    | cons y2 r2=>
     cases r2 with
     | cons y3 r3=>exact(h2.2.2:False).elim
     | nil=>
      have e1:=(Rd.lit_inv (show Rd w ι.G _ _ from h2.1.1)).1
      have e2:=(Rd.lit_inv (show Rd w ι.G _ _ from h2.2.1.1)).1
      rw[e1,e2]
  ·cases e
 ·cases e
theorem Y1js {T:TypeId}{d:TypeDesc}{kt et:TypeId}(h:Y1nb P T=some (d,kt,et)):P.underlying T=some (.map kt et)/\P.underlying kt=some d/\Y15f P d:=by
 unfold Y1nb at h
 split at h
 ·rename_i kt' et' h1
  split at h
  ·rename_i d' h2
   split at h
   ·rename_i h3
    simp only[aa,al]at h
    obtain⟨rfl,rfl,rfl⟩:=h
    exact⟨h1,h2,Y1s5 h3⟩
   ·cases h
  ·cases h
 ·cases h
theorem Y1sj {T:TypeId}{z:Value}(h:Y1ls P T=some z):Yq7 z/\∀ w:World,(zeroValue T).run P w=.ok z w:=by
 unfold Y1ls at h
 split at h
 ·rename_i i hi
  split at h
  ·rename_i z' hz
   split at h
   ·split at h
    ·rename_i hb
     simp only[aa]at h;subst h
     exact⟨Yuq hb,λw=>by simp[zeroValue,typeInfo,hi,hz]⟩
    ·cases h
   ·cases h
  ·cases h
 ·cases h
theorem Y24m (h:Rel E s ι a w) {id:Nat}{nn:Bool}{k:MK}{f:Value->Option Cell}(ho:s.obj id=.map nn k f) :
  (nn/\(∀ b,¬ ι.fp id b)/\∀ key,You k.d key->Yyj k.z (f key))\/(nn=false/\Yol w k (ι.fp id) (ι.blk id) f):=by
 have:=h.objs id
 rw[ho]at this
 cases nn with
 | true=>exact .inl ⟨rfl,this⟩
 | false=>exact .inr ⟨rfl,this⟩
theorem Y1bu {z:Value}{o:Option Cell}{zo:Option Value}(hz:zOK z zo) (he:Yyj zo o) {c:Cell}(hc:o=some c\/(o=none/\c=normLit z)):c=normLit z\/c=.any:=by
 rcases he with h1|⟨v,h1,h2,h3⟩
 ·rcases hc with h|⟨_,h⟩
  ·rw[h1]at h;cases h
  ·exact .inl h
 ·subst h1
  have:=Y1ug hz
  subst this
  rcases h3 with h3|h3<;>rcases hc with h|⟨h,_⟩<;>rw[h3]at h<;>cases h
  ·exact .inl rfl
  ·exact .inr rfl
theorem Y1g3 {T kt et:TypeId}{d:TypeDesc}{m:Value}{es:Array MapEntry}{key z:Value}(hT:P.underlying T=some (.map kt et)) (hd:P.underlying kt=some d) (hk:You d key) (hkt:Y15f P d) (hz:∀ w:World,(zeroValue et).run P w=.ok z w)
  (hks:∀ e∈es.toList,You d e.key) (hm:(m=.map none/\es=#[])\/∃ b clock,m=.map (some b)/\w.heap[b]? = some (.map es clock)) (ok:Bool) :
  ((∀ e∈es.toList,e.key≠key)/\(Instr.lookup T m key ok).run P w=.ok (if ok then .tuple #[z,.bool false] else z) w)\/
  (∃ (j:Nat) (e:MapEntry),es[j]? = some e/\e.key=key/\(Instr.lookup T m key ok).run P w=.ok (if ok then .tuple #[e.val,.bool true] else e.val) w):=by
 rcases Y1fo (w:=w) hd hk hkt es.toList hks with ⟨h1,h2⟩|⟨j,e,h1,h2,h3⟩
 ·refine .inl ⟨h2,?_⟩
  rcases hm with ⟨rfl,rfl⟩|⟨b,clock,rfl,hb⟩
  ·simp[Instr.lookup,aK hT,Yvr hd hk hkt,h1,hz,Result.andThen]
  ·simp[Instr.lookup,aK hT,c9 hb,Yvr hd hk hkt,h1,hz,Result.andThen]
 ·refine .inr ⟨j,e,by simpa using h2,h3,?_⟩
  rcases hm with ⟨rfl,rfl⟩|⟨b,clock,rfl,hb⟩
  ·simp at h2
  ·simp[Instr.lookup,aK hT,c9 hb,Yvr hd hk hkt,h1,Result.andThen]
def eLookup (P:Program) (s:St) (T:TypeId) (m x:Operand) (ok:Bool) (n:Nat) (q:List Orc):Option (Res×List Item×List Orc):=
 match s.ac m with
 | some (.mref id)=>match s.obj id,s.keyV x,Y1nb P T with
  | .map nn k f,some key,some (d,kt,et)=>match Y1ls P et with
   | some z=>if (Y1cb k.d d&&Y1e6 d key&&zOK z k.z) then
     (match q,ok with
     | .cells [c] :: q,false=>some ({ val:=.sv (.one (Ytz (some id) c)) },[.obl (Ypw z f key c)],q)
     | .cells [c] :: .bool b :: q,true=>match k.z with
      | none=>some ({ val:=.tup [.one (Ytz (some id) c),.one (.val (.lit (.bool b)))] },[.obl ((f key=some c/\b)\/(f key=none/\c=normLit z/\b=false))],q)
      | some _=>none
     | .taken es sz f' :: q,false=>some ({ val:=.sv (.one (.ref n)),new:=[.arr true sz es],upd:=[(id,.map nn k f')],inv:=[id] },
       [.obl (Ypw z f key (.list es)),.obl (Yqr k.d f f' key (some .any)),.obl (k.z=some z),.obl (∀ x∈es,x.length=sz)],q)
     | _,_=>none) else none
   | none=>none
  | _,_,_=>none
 | _=>none
def Y114 (P:Program) (T:TypeId) (hint:Option Operand) (n:Nat) (q:List Orc):Option (Res×List Item×List Orc):=
 match hint,q with
 | none,.mkmap k :: q=>if Y19k k then some ({ val:=.sv (.one (.mref n)),new:=[.map false k (Yx3 k)] },[],q) else none
 | _,_=>none
def eMapUpdate (P:Program) (s:St) (T:TypeId) (m x y:Operand) (q:List Orc):Option (Res×List Item×List Orc):=
 match s.ac m,q with
 | some (.mref id),.upd f' :: q=>match s.obj id,s.keyV x,Y1nb P T,s.ac y with
  | .map nn k f,some key,some (d,kt,et),some v=>if (Y1cb k.d d&&Y1e6 d key) then
    (match absorbOwn s [v] with
    | some ([c],ids)=>if ids.elem id=false then
      some ({ inv:=[id],upd:=Ynk ids++[(id,.map nn k f')] },[.obl (nn=false),.obl (Yqr k.d f f' key (some c))],q) else none
    | _=>none) else none
  | _,_,_,_=>none
 | _,_=>none
def eMapDelete (P:Program) (s:St) (args:Array Operand) (tys:Array TypeId) (q:List Orc):Option (Res×List Item×List Orc):=none
def eMapNil (P:Program) (s:St) (op:BinOp) (T:TypeId) (x y:Operand):Option Res:=
 match P.underlying T with
 | some (.map _ _)=>match s.ac x,s.lit y with
  | some (.mref id),some (.map none)=>match s.obj id with
   | .map nn _ _=>match op with
    | .eql=>some { val:=Yqq (.bool nn) }
    | .neq=>some { val:=Yqq (.bool (!nn)) }
    | _=>none
   | _=>none
  | some (.val (.lit (.map none))),some (.map none)=>match op with
   | .eql=>some { val:=Yqq (.bool true) }
   | .neq=>some { val:=Yqq (.bool false) }
   | _=>none
  | _,_=>none
 | _=>none
theorem Y14q {b:Nat}{o o':Obj}(hb:w.heap[b]? = some o):(setBlock w b o').heap[b]? = some o':=(MapKept.heap_set hb).1
theorem Yzk {b x:Nat}{o o':Obj}(hb:w.heap[b]? = some o) (hx:x≠b):(setBlock w b o').heap[x]? = w.heap[x]? := (MapKept.heap_set hb).2 x hx
theorem Rel.setMap (h:Rel E s ι a w) {id:Nat}{k:MK}{f f':Value->Option Cell}(hob:s.obj id=.map false k f) (hreg:∀ t,∀ c∈(s.reg t).acs,∀ i,c.src=some i->i≠id)
  (hbox:∀ k,∀ c∈(s.obj k).acs,∀ i,c.src=some i->i≠id) {ids:List Nat} (hids:∀ j∈ids,Ysi (s.obj j)) (hnin:id∉ids) {es es':Array MapEntry} {clock clock':Nat}
  (hb:w.heap[ι.blk id]? = some (.map es clock)) (hfpb:ι.fp id (ι.blk id))
  (hm:Yol (setBlock w (ι.blk id) (.map es' clock')) k (λb=>ι.fp id b\/∃ j∈ids,ι.fp j b) (ι.blk id) f') :
  ∃ ι',Rel E ((s.updObs (Ynk ids)).setOb id (.map false k f')) ι' a (setBlock w (ι.blk id) (.map es' clock')):=by
 have hlenid:id<s.objs.length:=Ym6 hob sW
 have hlen:∀ j∈ids,j<s.objs.length:=λj hj=>by
  obtain⟨o,z,e,hjo⟩:=hids j hj
  exact Ym6 hjo sW
 have hobj:∀ x,((s.updObs (Ynk ids)).setOb id (.map false k f')).obj x=if x=id then .map false k f' else if x∈ids then .dead else s.obj x:=by
  intro x
  rw[Yll (by rw[Yon];exact hlenid),Ysf ids s hlen]
 have hother:∀ b,b≠ι.blk id->(setBlock w (ι.blk id) (.map es' clock')).heap[b]? = w.heap[b]? := λb hne=>Yzk hb hne
 let ι':Interp:={ ι with fp:=λx b=>if x=id then ι.fp id b\/∃ j∈ids,ι.fp j b else if x∈ids then False else ι.fp x b }
 have hfpo:∀ x b,x≠id->ι.fp x b->b≠ι.blk id:=λx b hx hxb e=>h.disj x id b hx hxb (by rw[e];exact hfpb)
 have hg:∀ b,ι.G b->b≠ι.blk id:=λb hb e=>h.gfp id b (by rw[e];exact hfpb) hb
 have hx:Ext (λx=>x≠id) w ι s.obj (setBlock w (ι.blk id) (.map es' clock')) ι' ((s.updObs (Ynk ids)).setOb id (.map false k f')).obj:=by
  refine⟨λb hb=>⟨hb,hother b (hg b hb)⟩,λx => ?_⟩
  rw[hobj x]
  by_cases hk:x=id
  ·subst hk;rw[ae rfl,hob];exact⟨rfl,rfl,rfl,λhk=>(hk rfl).elim⟩
  ·rw[ab hk]
   by_cases hk2:x∈ids
   ·rw[ae hk2]
    obtain⟨o,z,e,hjo⟩:=hids x hk2
    rw[hjo];trivial
   ·rw[ab hk2]
    cases hkk:s.obj x with
    | free=>trivial
    | dead=>trivial
    | box cs=>rfl
    | arr own' sz' es'=>exact⟨rfl,rfl,λ_ b hb=>⟨.inl (by simp[ι',hk,hk2,hb]),hother b (hfpo x b hk hb)⟩⟩
    | map _ _ _=>exact⟨rfl,rfl,rfl,λ_ b hb=>⟨.inl (by simp[ι',hk,hk2,hb]),hother b (hfpo x b hk hb)⟩⟩
 have hfp:∀ x b,ι'.fp x b->(x=id/\(ι.fp id b\/∃ j∈ids,ι.fp j b))\/(x≠id/\x∉ids/\ι.fp x b):=by
  intro x b hb
  simp only[ι']at hb
  split at hb
  ·exact .inl ⟨‹_›,hb⟩
  ·split at hb
   ·exact hb.elim
   ·exact .inr ⟨‹_›,‹_›,hb⟩
 have hcross:∀ b,(ι.fp id b\/∃ j∈ids,ι.fp j b)->∀ x,x≠id->x∉ids->¬ ι.fp x b:=by
  intro b hb x h8 h9 hk
  rcases hb with hb|⟨j,hj,hjb⟩
  ·exact h.disj x id b h8 hk hb
  ·exact h.disj x j b (λe=>h9 (e ▸ hj)) hk hjb
 have hin:∀ b,(ι.fp id b\/∃ j∈ids,ι.fp j b)->∃ x,ι.fp x b:=λb hb=>hb.elim (λhb=>⟨id,hb⟩) λ⟨j,_,hb⟩=>⟨j,hb⟩
 refine⟨ι',Rel.step h hx (λt=>.inl ⟨?_,λc hc i' hi'=>hreg t c hc i' hi'⟩) ?_ (Yus _ _) (λx => ?_) ?_ ?_ ?_ ?_ ?_ (λb hlt hM=>hother b λe => ?_) (by simp[setBlock]) rfl rfl⟩
 ·show ((s.updObs (Ynk ids)).setOb id _).regs.getD t _=_
  simp only[St.setOb,Ynq];rfl
 ·simp only[St.setOb,Ynq]
 ·rw[hobj x]
  by_cases hk:x=id
  ·subst hk;right
   rw[ae rfl]
   show Yol _ k (ι'.fp x) (ι.blk x) f'
   have:ι'.fp x=λb=>ι.fp x b\/∃ j∈ids,ι.fp j b:=by funext b;simp[ι']
   rw[this];exact hm
  ·rw[ab hk]
   by_cases hk2:x∈ids
   ·right;rw[ae hk2];intro b hb
    simp[ι',hk,hk2]at hb
   ·left;rw[ab hk2]
    exact⟨rfl,⟨rfl,rfl,λb=>by simp[ι',hk,hk2],λb hb=>hother b (hfpo x b hk hb)⟩,λc hc i hi=>hbox x c hc i hi⟩
 ·intro x y b hne hx1 hy1
  rcases hfp x b hx1 with ⟨rfl,f1⟩|⟨n1,n2,f1⟩<;>rcases hfp y b hy1 with ⟨rfl,f2⟩|⟨m1,m2,f2⟩
  ·exact hne rfl
  ·exact hcross b f1 y m1 m2 f2
  ·exact hcross b f2 x n1 n2 f1
  ·exact h.disj x y b hne f1 f2
 ·intro x b hb hgb
  rcases hfp x b hb with ⟨rfl,f1⟩|⟨n1,n2,f1⟩
  ·obtain⟨y,hy⟩:=hin b f1
   exact h.gfp y b hy hgb
  ·exact h.gfp x b f1 hgb
 ·intro x b hb
  rcases hfp x b hb with ⟨rfl,f1⟩|⟨n1,n2,f1⟩
  ·obtain⟨y,hy⟩:=hin b f1
   exact h.own y b hy
  ·exact h.own x b f1
 ·intro x b hb
  have:b<w.heap.size:=by
   rcases hfp x b hb with ⟨rfl,f1⟩|⟨n1,n2,f1⟩
   ·obtain⟨y,hy⟩:=hin b f1
    exact h.lt y b hy
   ·exact h.lt x b f1
  simpa[setBlock] using this
 ·intro b hb
  have:=h.glt b hb
  simpa[setBlock] using this
 ·subst e
  rcases h.own id _ hfpb with h1|h1
  ·exact hM h1
  ·omega
theorem Yol.put {T kt et:TypeId}{k:MK}{F F2:Nat->Prop}{b:Nat}{f f':Value->Option Cell}{key v:Value}{c:Cell}(h:Yol w k F b f) (hT:P.underlying T=some (.map kt et)) (hd:P.underlying kt=some k.d) (hk:You k.d key) (hkt:Y15f P k.d)
  (hv:OwnC w F2 v c) (hF2:∀ x,F2 x->¬ F x) (hF2b:¬ F2 b) (hu:Yqr k.d f f' key (some c)) :
  ∃ es clock es' clock',w.heap[b]? = some (.map es clock)/\F b/\(Instr.mapUpdate T (.map (some b)) key v).run P w=.ok () (setBlock w b (.map es' clock')) /\
   Yol (setBlock w b (.map es' clock')) k (λx=>F x\/F2 x) b f':=by
 obtain⟨es,clock,Fs,h1,h2,h3,h4,h5,h6,h7,h8⟩:=h
 have hoth:∀ (o':Obj) (x:Nat),x≠b->(setBlock w b o').heap[x]? = w.heap[x]? := λo' x hx=>Yzk h1 hx
 have hvown:∀ o',OwnC (setBlock w b o') F2 v c:=λo'=>hv.mono λx hx=>hoth o' x λe=>hF2b (e ▸ hx)
 have hold:∀ o' j (e:MapEntry) c',OwnC w (Fs j) e.val c'->OwnC (setBlock w b o') (Fs j) e.val c':=λo' j e c' ho=>ho.mono λx hx=>hoth o' x (h3 j x hx).2
 rcases Y1fo (w:=w) hd hk hkt es.toList h5 with ⟨e1,e2⟩|⟨j,e,e1,e2,e3⟩
 ·refine⟨es,clock,es.push { key:=key,val:=v,born:=clock },clock+1,h1,h2,?_,?_⟩
  ·simp[Instr.mapUpdate,aK hT,c9 h1,Yvr hd hk hkt,e1,run_setObj_map _ h1,Result.andThen,setBlock]
  ·refine⟨_,_,λi x=>if i=es.size then F2 x else Fs i x/\i<es.size,Y14q h1,.inl h2,?_,?_,?_,?_,?_,?_⟩
   ·intro i x hx
    split at hx
    ·exact⟨.inr hx,λe=>hF2b (e ▸ hx)⟩
    ·exact⟨.inl (h3 i x hx.1).1,(h3 i x hx.1).2⟩
   ·intro i i' x hne hx hx'
    split at hx<;>split at hx'
    ·omega
    ·exact hF2 x hx (h3 _ x hx'.1).1
    ·exact hF2 x hx' (h3 _ x hx.1).1
    ·exact h4 i i' x hne hx.1 hx'.1
   ·intro y hy
    simp only[Array.toList_push,az,an]at hy
    rcases hy with hy|rfl
    ·exact h5 y hy
    ·exact hk
   ·simp only[Array.toList_push,aq,bO,List.map_nil]
    rw[dA]
    refine⟨h6,by simp,?_⟩
    intro x hx y hy
    obtain⟨z,hz,rfl⟩:=List.mem_map.1 hx
    simp only[an]at hy
    rw[hy];exact e2 z hz
   ·intro key' hk' hne
    have hkk:key'≠key:=λe=>by
     have:=hne { key:=key,val:=v,born:=clock } sW
     exact this e.symm
    rw[hu.2 key' hk' hkk]
    exact h7 key' hk' λy hy=>hne y (by simp[hy])
   ·intro i y hy
    rw[Array.getElem?_push]at hy
    by_cases hi:i=es.size
    ·rw[ae hi]at hy
     simp only[aa]at hy
     subst hy
     simp only[ae hi]
     exact⟨c,hu.1,hvown _⟩
    ·rw[ab hi]at hy
     simp only[ab hi]
     obtain⟨c',f1,f2⟩:=h8 i y hy
     have hne:y.key≠key:=e2 y (Array.mem_toList_iff.2 (cb hy))
     refine⟨c',by rw[hu.2 _ (h5 y (Array.mem_toList_iff.2 (cb hy))) hne];exact f1,OwnC.wide (hold _ i y c' f2) λx hx=>⟨hx,(Array.getElem?_eq_some_iff.1 hy).1⟩⟩
 ·have hj:es[j]? = some e:=by simpa using e2
  refine⟨es,clock,es.modify j λe=>{ e with key:=key,val:=v },clock,h1,h2,?_,?_⟩
  ·simp[Instr.mapUpdate,aK hT,c9 h1,Yvr hd hk hkt,e1,hj,e3,Y1nv hk,run_setObj_map _ h1,Result.andThen,setBlock]
  ·have hget:∀ i,(es.modify j λe=>{ e with key:=key,val:=v })[i]? = if i=j then some { e with key:=key,val:=v } else es[i]? := by
    intro i
    rw[Array.getElem?_modify]
    by_cases hi:i=j
    ·subst hi;simp[hj]
    ·simp[hi,cv hi]
   have hkeys:(es.modify j λe=>{ e with key:=key,val:=v }).toList.map (·.key)=es.toList.map (·.key):=
    modify_keys j _ λe' he'=>by rw[hj]at he';cases he';exact e3.symm
   refine⟨_,_,λi x=>if i=j then F2 x else Fs i x,Y14q h1,.inl h2,?_,?_,?_,?_,?_,?_⟩
   ·intro i x hx
    split at hx
    ·exact⟨.inr hx,λe=>hF2b (e ▸ hx)⟩
    ·exact⟨.inl (h3 i x hx).1,(h3 i x hx).2⟩
   ·intro i i' x hne hx hx'
    split at hx<;>split at hx'
    ·omega
    ·exact hF2 x hx (h3 _ x hx').1
    ·exact hF2 x hx' (h3 _ x hx).1
    ·exact h4 i i' x hne hx hx'
   ·exact Y1hu h5 _ _ λe' he'=>by rw[hj]at he';cases he';exact e3.symm
   ·rw[hkeys];exact h6
   ·intro key' hk' hne
    have hmem:∀ y∈es.toList,y.key≠key':=by
     intro y hy e'
     have:y.key∈(es.modify j λe=>{ e with key:=key,val:=v }).toList.map (·.key):=by rw[hkeys];exact List.mem_map.2 ⟨y,hy,rfl⟩
     obtain⟨z,hz,hzk⟩:=List.mem_map.1 this
     exact hne z hz (hzk.trans e')
    have hkk:key'≠key:=λe'=>hmem e (by have:=cb hj;simpa using this) (e3.trans e'.symm)
    rw[hu.2 key' hk' hkk]
    exact h7 key' hk' hmem
   ·intro i y hy
    rw[hget]at hy
    by_cases hi:i=j
    ·rw[ae hi]at hy
     simp only[aa]at hy
     subst hy
     simp only[ae hi]
     exact⟨c,hu.1,hvown _⟩
    ·rw[ab hi]at hy
     simp only[ab hi]
     obtain⟨c',f1,f2⟩:=h8 i y hy
     have hne:y.key≠key:=by
      intro e'
      rw[<- e3]at e'
      have h9:(es.toList.map (·.key))[i]? = some y.key:=by simp[hy]
      have h10:(es.toList.map (·.key))[j]? = some e.key:=by simp[hj]
      have hlt:i<(es.toList.map (·.key)).length:=(List.getElem?_eq_some_iff.1 h9).1
      exact hi ((List.getElem?_inj hlt h6).1 (by rw[h9,h10,e']))
     exact⟨c',by rw[hu.2 _ (h5 y (Array.mem_toList_iff.2 (cb hy))) hne];exact f1,hold _ i y c' f2⟩
theorem Yxs {id:Nat}(s:St):∀ t,∀ c∈((s.inval [id]).reg t).acs,∀ i,c.src=some i->i≠id:=λt c hc i hi e=>by
 rw[Ys6]at hc
 exact Yti _ hc hi (by simp[e])
theorem Yyg {id:Nat}(s:St):∀ k,∀ c∈((s.inval [id]).obj k).acs,∀ i,c.src=some i->i≠id:=λk c hc i hi e=>by
 rw[Ym4]at hc
 cases hk:s.obj k with
 | box l2=>rw[hk]at hc;simp[Ym5,Ob.acs]at hc;obtain⟨y,_,rfl⟩:=hc;exact Yr1 _ hi (by simp[e])
 | free=>rw[hk]at hc;simp[Ym5,Ob.acs]at hc
 | dead=>rw[hk]at hc;simp[Ym5,Ob.acs]at hc
 | map _ _ _=>rw[hk]at hc;simp[Ym5,Ob.acs]at hc
 | arr _ _ _=>rw[hk]at hc;simp[Ym5,Ob.acs]at hc
theorem Y1be {id:Nat}{nn:Bool}{k:MK}{f:Value->Option Cell}(ho:s.obj id=.map nn k f):(s.inval [id]).obj id=.map nn k f:=by rw[Ym4,ho];rfl
theorem Y133 {F:Nat->Prop}{v:Value}{c:Cell}{id:Nat}(hn:notFree s.obj id) (h:OwnC w F v c) (hF:∀ x,F x->ι.fp id x):Ynt w ι s.obj (Ytz (some id) c) v:=
 Ywc (src:=some id) (λi e=>by cases e;exact hn) (h.toRd λx hx=>.inr (hF x hx))
theorem Y125 {v:Value}{id:Nat}(hn:notFree s.obj id) (h:Yq7 v) {c:Cell}(hc:c=normLit v\/c=.any):Ynt w ι s.obj (Ytz (some id) c) v:=by
 rcases hc with rfl|rfl
 ·exact Y133 hn (Yv6 (F:=λ_=>False) h) (λ_ h=>h.elim)
 ·exact⟨trivial,h.one⟩
def Y13h (w:World) (ι:Interp) (id:Nat) (F:Nat->Prop) (k:MK) (f':Value->Option Cell):Bool->Prop
 | true=>(∀ b,¬ ι.fp id b)/\∀ key,You k.d key->Yyj k.z (f' key)
 | false=>Yol w k (λx=>ι.fp id x/\¬ F x) (ι.blk id) f'
theorem Y157 (h:Rel E s ι a w) {T kt et:TypeId}{m key z:Value}{id:Nat}{nn:Bool}{k:MK}{f:Value->Option Cell}(hob:s.obj id=.map nn k f) (hm:Ymf w ι s.obj (.mref id) m)
  (hT:P.underlying T=some (.map kt et)) (hd:P.underlying kt=some k.d) (hk:You k.d key) (hkt:Y15f P k.d) (hz:Yq7 z/\∀ w:World,(zeroValue et).run P w=.ok z w) (hzo:zOK z k.z) (ok:Bool) :
  ∃ v F b,(Instr.lookup T m key ok).run P w=.ok (if ok then .tuple #[v,.bool b] else v) w /\
   ((b/\nn=false/\(∀ x,F x->ι.fp id x/\x≠ι.blk id)/\(∃ c,f key=some c/\OwnC w F v c) /\
    ∀ f',Yqr k.d f f' key (some .any)->Y13h w ι id F k f' nn)\/(b=false/\v=z/\Yyj k.z (f key)/\(∀ x,¬ F x)/\∀ f',Yqr k.d f f' key (some .any)->k.z=some z->Y13h w ι id F k f' nn)):=by
 have hmv:=hm.2 _ _ _ hob
 have hem:∀ f' key',You k.d key'->Yqr k.d f f' key (some .any)->k.z=some z->Yyj k.z (f key')->Yyj k.z (f' key'):=by
  intro f' key' hk' hu hkz hek
  by_cases hkk:key'=key
  ·subst hkk;rw[hu.1];exact .inr ⟨z,hkz,hz.1,.inr rfl⟩
  ·rw[hu.2 key' hk' hkk];exact hek
 rcases Y24m h hob with ⟨rfl,h1,h2⟩|⟨rfl,es,clock,Fs,h1,h2,h3,h4,h5,h6,h7,h8⟩
 ·rcases Y1g3 (w:=w) (m:=m) (es:=#[]) hT hd hk hkt hz.2 sW (.inl ⟨hmv,rfl⟩) ok with ⟨e1,e2⟩|⟨j,e,e1,_⟩
  ·exact⟨z,λ_=>False,false,e2,.inr ⟨rfl,rfl,h2 key hk,λ_ h=>h,λf' hu hkz=>⟨h1,λkey' hk'=>hem f' key' hk' hu hkz (h2 key' hk')⟩⟩⟩
  ·simp at e1
 ·rcases Y1g3 (w:=w) (m:=m) (es:=es) hT hd hk hkt hz.2 h5 (.inr ⟨_,clock,hmv,h1⟩) ok with ⟨e1,e2⟩|⟨j,e,e1,e2,e3⟩
  ·refine⟨z,λ_=>False,false,e2,.inr ⟨rfl,rfl,h7 key hk e1,λ_ h=>h,λf' hu hkz => ?_⟩⟩
   refine⟨es,clock,Fs,h1,⟨h2,λhx=>hx⟩,λi x hx=>⟨⟨(h3 i x hx).1,λhx=>hx⟩,(h3 i x hx).2⟩,h4,h5,h6,λkey' hk' hne=>hem f' key' hk' hu hkz (h7 key' hk' hne),λi y hy => ?_⟩
   obtain⟨c',q1,q2⟩:=h8 i y hy
   exact⟨c',by rw[hu.2 _ (h5 y (Array.mem_toList_iff.2 (cb hy))) (e1 y (Array.mem_toList_iff.2 (cb hy)))];exact q1,q2⟩
  ·obtain⟨c,f1,f2⟩:=h8 j e e1
   refine⟨e.val,Fs j,true,e3,.inl ⟨rfl,rfl,λx hx=>h3 j x hx,⟨c,by rw[<- e2];exact f1,f2⟩,λf' hu => ?_⟩⟩
   refine⟨es,clock,λi x=>i≠j/\Fs i x,h1,⟨h2,λhx=>(h3 j _ hx).2 rfl⟩,λi x hx=>⟨⟨(h3 i x hx.2).1,h4 i j x hx.1 hx.2⟩,(h3 i x hx.2).2⟩,λi i' x hne hx hx'=>h4 i i' x hne hx.2 hx'.2,h5,h6,λkey' hk' hne => ?_,λi y hy => ?_⟩
   ·rw[hu.2 key' hk' λe'=>hne e (Array.mem_toList_iff.2 (cb e1)) (e2.trans e'.symm)]
    exact h7 key' hk' hne
   ·obtain⟨c',g1,g2⟩:=h8 i y hy
    by_cases hij:i=j
    ·subst hij
     rw[e1]at hy
     cases hy
     exact⟨.any,by rw[e2];exact hu.1,.any g2.one⟩
    ·have hne:y.key≠key:=by
      intro e'
      rw[<- e2]at e'
      have h9:(es.toList.map (·.key))[i]? = some y.key:=by simp[hy]
      have h10:(es.toList.map (·.key))[j]? = some e.key:=by simp[e1]
      have hlt:i<(es.toList.map (·.key)).length:=(List.getElem?_eq_some_iff.1 h9).1
      exact hij ((List.getElem?_inj hlt h6).1 (by rw[h9,h10,e']))
     exact⟨c',by rw[hu.2 _ (h5 y (Array.mem_toList_iff.2 (cb hy))) hne];exact g1,OwnC.wide g2 λx hx=>⟨hij,hx⟩⟩
theorem Rel.takeMap (h:Rel E s ι a w) {id n:Nat}{nn:Bool}{k:MK}{f f':Value->Option Cell}(hob:s.obj id=.map nn k f) (hreg:∀ t,∀ c∈(s.reg t).acs,∀ i,c.src=some i->i≠id)
  (hbox:∀ k,∀ c∈(s.obj k).acs,∀ i,c.src=some i->i≠id) (hf:s.obj n=.free) (hn:n<s.objs.length) {v:Value} {F:Nat->Prop} {es:List (List Cell)} {sz:Nat}
  (hF:∀ x,F x->ι.fp id x) (ha:Ym8 w (Yna w ι.G true) sz F v es) (h1:v.oneCell')
  (hm:Y13h w ι id F k f' nn) :
  ∃ ι',Rel E ((s.setOb id (.map nn k f')).setOb n (.arr true sz es)) ι' a w/\Ymo w ι' ((s.setOb id (.map nn k f')).setOb n (.arr true sz es)).obj (.one (.ref n)) v:=by
 have hidl:id<s.objs.length:=Ym6 hob sW
 have hidn:id≠n:=λe=>by rw[e,hf]at hob;cases hob
 have hobj:∀ x,((s.setOb id (.map nn k f')).setOb n (.arr true sz es)).obj x=if x=n then .arr true sz es else if x=id then .map nn k f' else s.obj x:=by
  intro x
  rw[Yll (by rw[Ylr];exact hn),Yll hidl]
 let ι':Interp:={ ι with sl:=λx=>if x=n then v else ι.sl x,fp:=λx b=>if x=n then F b else if x=id then ι.fp id b/\¬ F b else ι.fp x b }
 have hx:Ext (λx=>x≠id) w ι s.obj w ι' ((s.setOb id (.map nn k f')).setOb n (.arr true sz es)).obj:=by
  refine⟨λb hb=>⟨hb,rfl⟩,λx => ?_⟩
  rw[hobj]
  by_cases hk:x=n
  ·subst hk;rw[ae rfl,hf];trivial
  ·rw[ab hk]
   by_cases hk2:x=id
   ·subst hk2;rw[ae rfl,hob];exact⟨rfl,rfl,rfl,λhk=>(hk rfl).elim⟩
   ·rw[ab hk2]
    cases hkk:s.obj x with
    | free=>trivial
    | dead=>trivial
    | box cs=>rfl
    | arr o1 s1 e1=>exact⟨by simp only[ι',ab hk],rfl,λ_ b hb=>⟨.inl (by simp only[ι',ab hk,ab hk2];exact hb),rfl⟩⟩
    | map _ _ _=>exact⟨rfl,rfl,rfl,λ_ b hb=>⟨.inl (by simp only[ι',ab hk,ab hk2];exact hb),rfl⟩⟩
 have hfp:∀ x b,ι'.fp x b->(x=n/\F b)\/(x=id/\ι.fp id b/\¬ F b)\/(x≠n/\x≠id/\ι.fp x b):=by
  intro x b hb
  simp only[ι']at hb
  split at hb
  ·exact .inl ⟨‹_›,hb⟩
  ·split at hb
   ·exact .inr (.inl ⟨‹_›,hb⟩)
   ·exact .inr (.inr ⟨‹_›,‹_›,hb⟩)
 have hold:∀ x b,ι'.fp x b->∃ y,ι.fp y b:=by
  intro x b hb
  rcases hfp x b hb with ⟨_,hb⟩|⟨_,hb,_⟩|⟨_,_,hb⟩
  ·exact⟨id,hF b hb⟩
  ·exact⟨id,hb⟩
  ·exact⟨x,hb⟩
 refine⟨ι',?_,⟨by unfold notFree;rw[hobj,ae rfl];trivial,λ_ _ _ _=>by simp only[ι',bx]⟩,λ_=>h1⟩
 refine Rel.step h hx (λt=>.inl ⟨rfl,λc hc i hi=>hreg t c hc i hi⟩) rfl rfl (λx => ?_) ?_ ?_ ?_ ?_ h.glt (λ_ _ _=>rfl) (aC _) rfl rfl
 ·by_cases hk:x=n
  ·right;rw[hobj,ae hk,hk]
   show Ym8 w (Yna w ι.G true) sz (ι'.fp n) (ι'.sl n) es
   have e1:ι'.sl n=v:=by simp only[ι',bx]
   have e2:ι'.fp n=F:=by funext b;simp only[ι',bx]
   rw[e1,e2];exact ha
  ·by_cases hk2:x=id
   ·right;rw[hobj,ab hk,ae hk2,hk2]
    cases nn with
    | true=>exact⟨λb hb=>hm.1 b (by simp only[ι',ab hidn,bx]at hb;exact hb.1),hm.2⟩
    | false=>
     show Yol w k (ι'.fp id) (ι.blk id) f'
     have e2:ι'.fp id=λx=>ι.fp id x/\¬ F x:=by funext b;simp only[ι',ab hidn,bx]
     rw[e2];exact hm
   ·left
    rw[hobj,ab hk,ab hk2]
    exact⟨rfl,⟨rfl,by simp only[ι',ab hk],λb=>by simp only[ι',ab hk,ab hk2],λ_ _=>rfl⟩,λc hc i hi=>hbox x c hc i hi⟩
 ·intro x y b hne hx1 hy1
  rcases hfp x b hx1 with ⟨rfl,f1⟩|⟨rfl,f1,g1⟩|⟨n1,n2,f1⟩<;>rcases hfp y b hy1 with ⟨rfl,f2⟩|⟨rfl,f2,g2⟩|⟨m1,m2,f2⟩
  ·exact hne rfl
  ·exact g2 f1
  ·exact h.disj id y b (λe=>m2 e.symm) (hF b f1) f2
  ·exact g1 f2
  ·exact hne rfl
  ·exact h.disj x y b hne f1 f2
  ·exact h.disj x id b n2 f1 (hF b f2)
  ·exact h.disj x y b hne f1 f2
  ·exact h.disj x y b hne f1 f2
 ·intro x b hb hg
  obtain⟨y,hy⟩:=hold x b hb
  exact h.gfp y b hy hg
 ·intro x b hb
  obtain⟨y,hy⟩:=hold x b hb
  exact h.own y b hy
 ·intro x b hb
  obtain⟨y,hy⟩:=hold x b hb
  exact h.lt y b hy
theorem Y1by (h:Rel E s ι a w) {o:Oper}{T:TypeId}{m x:Operand}{ok:Bool}(ho:o.op=.lookup T m x ok) {n:Nat}{r:Res}{q q':List Orc}{it:List Item}{K:Prop}
  (e:eLookup P s T m x ok n q=some (r,it,q')) (vc:VC it K) (hroom:Yqw s n r.new.length):EOK P E s a w o n r/\K:=by
 unfold eLookup at e
 split at e
 ·rename_i id hm
  split at e
  ·rename_i nn k f key d kt et hob hkey hT
   split at e
   ·rename_i z hz
    split at e
    ·rename_i hc
     simp only[af]at hc
     obtain⟨⟨hc1,hc2⟩,hc3⟩:=hc
     obtain⟨t1,t2,t3⟩:=Y1js hT
     have hde:=Y1db hc1
     rw[<- hde]at t2 t3
     have hik:You k.d key:=by rw[hde];exact Y1iz hc2
     have hzz:=Y1sj hz
     have hnf:notFree s.obj id:=(Yn7 h hm).1
     have hke:=Y1eq h hkey
     split at e
     ·rename_i c q1
      simp only[aa,al]at e
      obtain⟨rfl,rfl,rfl⟩:=e
      obtain⟨hl,hK⟩:=vc
      refine⟨?_,hK⟩
      obtain⟨v,F,b,hrun,hv⟩:=Y157 (P:=P) h hob (Yn7 h hm) t1 t2 hik t3 hzz hc3 false
      refine EOK.value (ι':=ι) (w':=w) (v:=v) ?_ h ?_
      ·simp only[execOp,ho,hke]
       exact Yoa _ (by simpa using hrun)
      ·have hcr:Ynt w ι s.obj (Ytz (some id) c) v:=by
        rcases hv with ⟨_,_,hF,⟨c',hf,ho'⟩,_⟩|⟨_,rfl,he,_⟩
        ·rcases hl with hl|⟨hl,_⟩<;>rw[hf]at hl<;>cases hl
         exact Y133 hnf ho' λx hx=>(hF x hx).1
        ·exact Y125 hnf hzz.1 (Y1bu hc3 he hl)
       exact⟨hcr.1,λ_=>hcr.2⟩
     ·rename_i c b0 q1
      split at e
      ·rename_i hkz
       simp only[aa,al]at e
       obtain⟨rfl,rfl,rfl⟩:=e
       obtain⟨hl,hK⟩:=vc
       refine⟨?_,hK⟩
       obtain⟨v,F,b,hrun,hv⟩:=Y157 (P:=P) h hob (Yn7 h hm) t1 t2 hik t3 hzz hc3 true
       have key':b0=b/\Ynt w ι s.obj (Ytz (some id) c) v:=by
        rcases hv with ⟨rfl,_,hF,⟨c',hf,ho'⟩,_⟩|⟨rfl,rfl,he,_⟩
        ·rcases hl with ⟨hl,rfl⟩|⟨hl,_⟩<;>rw[hf]at hl<;>cases hl
         exact⟨rfl,Y133 hnf ho' λx hx=>(hF x hx).1⟩
        ·rcases he with he|⟨v,he,_⟩
         ·rcases hl with ⟨hl,_⟩|⟨hl,rfl,rfl⟩
          ·rw[he]at hl;cases hl
          ·exact⟨rfl,Y125 hnf hzz.1 (.inl rfl)⟩
         ·rw[hkz]at he;cases he
       obtain⟨rfl,hcr⟩:=key'
       refine EOK.value (ι':=ι) (w':=w) (v:=.tuple #[v,.bool b0]) ?_ h ?_
       ·simp only[execOp,ho,hke]
        exact Yoa _ (by simpa using hrun)
       ·exact⟨_,rfl,⟨hcr.1,λ_=>hcr.2⟩,⟨.lit trivial,λ_=>rfl⟩,trivial⟩
      ·cases e
     ·rename_i es sz f' q1
      simp only[aa,al]at e
      obtain⟨rfl,rfl,rfl⟩:=e
      obtain⟨hl,hu,hkz,hsz,hK⟩:=vc
      refine⟨?_,hK⟩
      have h1:=h.inval [id]
      have hob1:=Y1be hob
      obtain⟨hfr,hnl⟩:=hroom n (aC _) sW
      have hfr1:(s.inval [id]).obj n=.free:=by rw[Ym4,hfr];rfl
      have hnl1:n<(s.inval [id]).objs.length:=by rw[Yn5];exact hnl
      obtain⟨v,F,b,hrun,hv⟩:=Y157 (P:=P) h hob (Yn7 h hm) t1 t2 hik t3 hzz hc3 false
      have hko:∃ F',(∀ x,F' x->ι.fp id x)/\OwnC w F' v (.list es)/\Y13h w ι id F' k f' nn:=by
       rcases hv with ⟨_,_,hF,⟨c',hf,ho'⟩,hM⟩|⟨_,rfl,he,hFn,hM⟩
       ·rcases hl with hl|⟨hl,_⟩<;>rw[hf]at hl<;>cases hl
        exact⟨F,λx hx=>(hF x hx).1,ho',hM f' hu⟩
       ·have hes:Cell.list es=normLit v:=by
         rcases Y1bu hc3 he hl with e|e
         ·exact e
         ·cases e
        exact⟨F,λx hx=>(hFn x hx).elim,by rw[hes];exact Yv6 hzz.1,hM f' hu hkz⟩
      obtain⟨F',k1,k2,k3⟩:=hko
      obtain⟨ι',k4,k5⟩:=Rel.takeMap h1 hob1 (Yxs s) (Yyg s) hfr1 hnl1 k1 (OwnC.arrRel k2 hsz) k2.one k3
      refine EOK.value (ι':=ι') (w':=w) (v:=v) ?_ k4 k5
      simp only[execOp,ho,hke]
      exact Yoa _ (by simpa using hrun)
     ·cases e
    ·cases e
   ·cases e
  ·cases e
 ·cases e
theorem Rel.newMap (h:Rel E s ι a w) {n:Nat}(hf:s.obj n=.free) (hn:n<s.objs.length) {k:MK}{f:Value->Option Cell}(he:∀ key,You k.d key->Yyj k.z (f key)) :
  ∃ ι',Rel E (s.setOb n (.map false k f)) ι' a (w.alloc (.map #[] 0))/\Ymo (w.alloc (.map #[] 0)) ι' (s.setOb n (.map false k f)).obj (.one (.mref n)) (.map (some w.heap.size)):=by
 let ι':Interp:={ ι with blk:=λi=>if i=n then w.heap.size else ι.blk i,fp:=λi b=>if i=n then b=w.heap.size else ι.fp i b }
 have hsz:(w.alloc (.map #[] 0)).heap.size=w.heap.size+1:=by show (w.heap.push _).size=_;simp
 refine⟨ι',Rel.fresh h hf hn _ rfl (λi hi=>by simp[ι',hi]) (λb hb => ?_) (λb hb=>Yqf w _ b hb) oW rfl rfl ?_,⟨?_,λnn k' f' e => ?_⟩,λ_=>rfl⟩
 ·simp only[ι',bx]at hb;omega
 ·show Yol _ k (ι'.fp n) (ι'.blk n) f
  refine⟨#[],0,λ_ _=>False,?_,?_,by simp,by simp,by simp,by simp,λkey hk _=>he key hk,by simp⟩
  ·simp only[ι',bx];exact(MapKept.heap_alloc w _).1
  ·simp only[ι',bx]
 ·unfold notFree;rw[Yll hn,ae rfl];trivial
 ·rw[Yll hn,ae rfl]at e
  cases e
  simp[Y1ng,ι']
theorem Y19u (h:Rel E s ι a w) {o:Oper}{T:TypeId}{hint:Option Operand}(ho:o.op=.makeMap T hint) {n:Nat}{r:Res}{q q':List Orc}{it:List Item}{K:Prop}
  (e:Y114 P T hint n q=some (r,it,q')) (vc:VC it K) (hroom:Yqw s n r.new.length):EOK P E s a w o n r/\K:=by
 unfold Y114 at e
 split at e
 ·rename_i k q1
  split at e
  ·rename_i hok
   simp only[aa,al]at e
   obtain⟨rfl,rfl,rfl⟩:=e
   refine⟨?_,vc⟩
   obtain⟨hfr,hnl⟩:=hroom n (aC _) sW
   obtain⟨ι',k4,k5⟩:=h.newMap hfr hnl λkey _=>Y1bb hok key
   refine EOK.value (ι':=ι') (w':=w.alloc (.map #[] 0)) (v:=.map (some w.heap.size)) ?_ k4 k5
   simp only[execOp,ho]
   exact Yoa _ rfl
  ·cases e
 ·cases e
theorem Y1ni (h:Rel E s ι a w) {v:AC}{x:Value}{c:Cell}{ids:List Nat}(e:absorbOwn s [v]=some ([c],ids)) (hv:Ynt w ι s.obj v x) :
  (∀ j∈ids,Ysi (s.obj j))/\∃ F:Nat->Prop,(∀ b,F b->∃ j∈ids,ι.fp j b)/\OwnC w F x c:=by
 obtain⟨h1,h2,Fs,h3,h4,h5⟩:=Ytp h e (vs:=[x]) ⟨hv,trivial⟩
 exact⟨h1,Fs 0,λb hb=>h3 0 b hb,h5 0 x c rfl rfl⟩
theorem Yww (h:Rel E s ι a w) {o:Oper}{T:TypeId}{m x y:Operand}(ho:o.op=.mapUpdate T m x y\/o.op=.insert T m x y) {n:Nat}{r:Res}{q q':List Orc}{it:List Item}{K:Prop}
  (e:eMapUpdate P s T m x y q=some (r,it,q')) (vc:VC it K):EOK P E s a w o n r/\K:=by
 unfold eMapUpdate at e
 split at e
 ·rename_i id f' q1 hm
  split at e
  ·rename_i nn k f key d kt et v hob hkey hT hy
   split at e
   ·rename_i hc
    simp only[af]at hc
    obtain⟨hc1,hc2⟩:=hc
    obtain⟨t1,t2,t3⟩:=Y1js hT
    have hde:=Y1db hc1
    rw[<- hde]at t2 t3
    have hik:You k.d key:=by rw[hde];exact Y1iz hc2
    have hke:=Y1eq h hkey
    split at e
    ·rename_i c ids hab
     split at e
     ·rename_i hnin
      simp only[aa,al]at e
      obtain⟨rfl,rfl,rfl⟩:=e
      obtain⟨hnn,hu,hK⟩:=vc
      subst hnn
      refine⟨?_,hK⟩
      have hyr:=Yn7 h hy
      have hvt:v≠.top:=λe=>by rw[e]at hab;simp[absorbOwn]at hab
      have hy1:(a.eval y).oneCell':=by
       have:=Ypy h (x:=y) (v:=.sv (.one v)) (by
        unfold St.ac at hy
        split at hy
        ·rename_i c' hc';cases hy;exact hc'
        ·cases hy)
       exact this.2 hvt
      obtain⟨a1,F2,a2,a3⟩:=Y1ni h hab ⟨hyr,hy1⟩
      have hmv:=(Yn7 h hm).2 _ _ _ hob
      have hmr:Yol w k (ι.fp id) (ι.blk id) f:=by have:=h.objs id;rw[hob]at this;exact this
      have hfpb:ι.fp id (ι.blk id):=by obtain⟨_,_,_,_,h2,_⟩:=hmr;exact h2
      have hnid:id∉ids:=by simpa using hnin
      have hF2:∀ z,F2 z->¬ ι.fp id z:=λz hz hz'=>by
       obtain⟨j,hj,hjz⟩:=a2 z hz
       exact h.disj j id z (λe=>hnid (e ▸ hj)) hjz hz'
      obtain⟨es,clock,es',clock',k1,k2,k3,k4⟩:=Yol.put (T:=T) (kt:=kt) (et:=et) hmr t1 t2 hik t3 a3 hF2 (λhb=>hF2 _ hb hfpb) hu
      have h1:=h.inval [id]
      obtain⟨ι',k5⟩:=Rel.setMap h1 (Y1be hob) (Yxs s) (Yyg s) (ids:=ids) (λj hj=>Ywu ids id s j (a1 j hj)) hnid k1 k2
       (k4.mono (λx hx=>hx.imp (λh=>h) (a2 x)) λ_ _=>rfl)
      refine EOK.skip (ι':=ι') (w':=setBlock w (ι.blk id) (.map es' clock')) ?_ ?_ Yum
      ·have hmm:a.eval m=.map (some (ι.blk id)):=hmv
       rcases ho with ho|ho<;>simp only[execOp,ho,hke,hmm]<;>rw[aQ,k3]<;>rfl
      ·simp only[St.app,St.setObs,Ysx]
       exact k5
     ·cases e
    ·cases e
   ·cases e
  ·cases e
 ·cases e
theorem Y15s (h:Rel E s ι a w) {o:Oper}{args:Array Operand}{tys:Array TypeId}(ho:o.op=.call { callee:=.builtin .delete,args:=args,argTypes:=tys }) {n:Nat}{r:Res}{q q':List Orc}{it:List Item}{K:Prop}
  (e:eMapDelete P s args tys q=some (r,it,q')) (vc:VC it K):EOK P E s a w o n r/\K:=by
 unfold Ab.eMapDelete at e
 cases e
theorem Yxv {kt et T:TypeId}(hT:P.underlying T=some (.map kt et)) (o:Option Nat) (w:World):(Op.equalIn Op.maxDepth T (.map o) (.map none)).run P w=.ok o.isNone w:=by
 have hd:Op.maxDepth=(Op.maxDepth - 1)+1:=rfl
 rw[hd]
 unfold Op.equalIn
 simp only[aQ,aK hT,Result.andThen]
 cases o<;>rfl
theorem Y1c2 (h:Rel E s ι a w) {o:Oper}{op:BinOp}{T:TypeId}{x y:Operand}{z:TypeId}(ho:o.op=.binOp op T x y z) {n:Nat}{r:Res}(e:eMapNil P s op T x y=some r):EOK P E s a w o n r:=by
 unfold eMapNil at e
 split at e
 ·rename_i kt et hT
  split at e
  ·rename_i id hx hy
   have hye:=(Ypi h hy).1
   split at e
   ·rename_i nn k f hob
    have hmv:=(Yn7 h hx).2 _ _ _ hob
    split at e
    ·simp only[aa]at e;subst e
     refine EOK.value (ι':=ι) (w':=w) (v:=.bool nn) ?_ h (Yng trivial)
     simp only[execOp,ho,hmv,hye]
     refine Yoa _ ?_
     cases nn<;>simp[eqGuard,Y1ng,binOp,Op.equal,Yxv hT,Result.andThen]
    ·simp only[aa]at e;subst e
     refine EOK.value (ι':=ι) (w':=w) (v:=.bool (!nn)) ?_ h (Yng trivial)
     simp only[execOp,ho,hmv,hye]
     refine Yoa _ ?_
     cases nn<;>simp[eqGuard,Y1ng,binOp,Op.equal,Yxv hT,Result.andThen]
    ·cases e
   ·cases e
  ·rename_i hx hy
   have hye:=(Ypi h hy).1
   have hxe:=(Ypi h (x:=x) (v:=.map none) (by unfold St.lit;rw[hx])).1
   split at e
   ·simp only[aa]at e;subst e
    refine EOK.value (ι':=ι) (w':=w) (v:=.bool true) ?_ h (Yng trivial)
    simp only[execOp,ho,hxe,hye]
    refine Yoa _ ?_
    simp[eqGuard,binOp,Op.equal,Yxv hT,Result.andThen]
   ·simp only[aa]at e;subst e
    refine EOK.value (ι':=ι) (w':=w) (v:=.bool false) ?_ h (Yng trivial)
    simp only[execOp,ho,hxe,hye]
    refine Yoa _ ?_
    simp[eqGuard,binOp,Op.equal,Yxv hT,Result.andThen]
   ·cases e
  ·cases e
 ·cases e
end
end Go.Proofs.YtcbodhkhppgkiaaGreat.Ab
end
section
namespace Go.Proofs.YtcbodhkhppgkiaaGreat.Ab
open Go
section
variable {P:Program}{E:Ent P}{s:St}{ι:Interp}{a:Act}{w:World}
def Ynz:List Nat->List Cell->List Cell
 | [],e=>e
 | p :: r,e=>(Ynz r e).set p .any
theorem Ysg:∀ (ps:List Nat) (e:List Cell),(Ynz ps e).length=e.length
 | [],_=>rfl
 | p :: r,e=>by simp only[Ynz,cd,Ysg r e]
theorem Y12i {sz:Nat}{es:List (List Cell)}{i:Nat}{e:List Cell}(hsz:∀ x∈es,x.length=sz) (he:es[i]? = some e):∀ (ps:List Nat),(∀ p∈ps,p<e.length)->∀ (q:Nat) (c:Cell),
  (es.set i (Ynz ps e)).flatten[q]? = some c->((∃ p∈ps,q=i * sz+p)/\c=.any)\/((∀ p∈ps,q≠i * sz+p)/\es.flatten[q]? = some c)
 | [],_,q,c,h=>by
  have hil:i<es.length:=(List.getElem?_eq_some_iff.1 he).1
  have:es.set i e=es:=by
   have:=(List.getElem?_eq_some_iff.1 he).2
   rw[<- this,dH]
  simp only[Ynz,this]at h
  exact .inr ⟨by simp,h⟩
 | p :: r,hp,q,c,h=>by
  have hil:i<es.length:=(List.getElem?_eq_some_iff.1 he).1
  have hel:e.length=sz:=hsz e (aE he)
  have h1:∀ x∈es.set i (Ynz r e),x.length=sz:=by
   intro x hx
   rcases bS hx with hm|rfl
   ·exact hsz x hm
   ·rw[Ysg,hel]
  have h2:(es.set i (Ynz r e))[i]? = some (Ynz r e):=by rw[db hil]
  have h3:(es.set i (Ynz (p :: r) e))=(es.set i (Ynz r e)).set i ((Ynz r e).set p .any):=by rw[df];rfl
  have hpl:p<(Ynz r e).length:=by rw[Ysg];exact hp p aj
  rw[h3,Yxj h1 h2 hpl,bM]at h
  split at h
  ·rename_i hq
   split at h
   ·simp only[aa]at h
    exact .inl ⟨⟨p,aj,hq.symm⟩,h.symm⟩
   ·cases h
  ·rename_i hq
   rcases Y12i hsz he r (λx hx=>hp x (ai _ hx)) q c h with ⟨⟨p',hp',e'⟩,e2⟩|⟨h4,h5⟩
   ·exact .inl ⟨⟨p',ai _ hp',e'⟩,e2⟩
   ·refine .inr ⟨λp' hp' => ?_,h5⟩
    rcases List.mem_cons.1 hp' with rfl|hp'
    ·exact λe=>hq e.symm
    ·exact h4 p' hp'
theorem Rel.carve (h:Rel E s ι a w) {id n i sz:Nat}{es:List (List Cell)}{e:List Cell}(ho:s.obj id=.arr true sz es) (he:es[i]? = some e) {ps:List Nat}(hps:∀ p∈ps,p<e.length)
  (hf:s.obj n=.free) (hn:n<s.objs.length) (hreg:∀ t,∀ c∈(s.reg t).acs,∀ k,c.src=some k->k≠id) (hbox:∀ k,∀ c∈(s.obj k).acs,∀ k',c.src=some k'->k'≠id) :
  ∃ (ι':Interp) (Fs:Nat->Nat->Prop),Rel E ((s.setOb id (.arr true sz (es.set i (Ynz ps e)))).setOb n (.arr true 1 [])) ι' a w/\ι'.G=ι.G/\(∀ k,k≠n->ι'.sl k=ι.sl k) /\
   (∀ p b,p∈ps->Fs p b->ι'.fp n b)/\(∀ p p' b,p≠p'->Fs p b->¬ Fs p' b) /\
   ∀ b,(ι.sl id).ownBlock=some b->∀ p v c,w.cell? ⟨b,i * sz+p,none⟩=some v->e[p]? = some c->OwnC w (Fs p) v c:=by
 have hor:=h.objs id
 rw[ho]at hor
 obtain⟨e0,xs,Fs,h1,h2,h3,h4,h5,h6,h7,h0⟩:=hor
 have hlx:xs.length=es.flatten.length:=by rw[h1.1,Ymy h2]
 have hidn:id≠n:=λe=>by rw[e,hf]at ho;cases ho
 have hidl:id<s.objs.length:=Ym6 ho sW
 let s':=(s.setOb id (.arr true sz (es.set i (Ynz ps e)))).setOb n (.arr true 1 [])
 have hobj:∀ k,s'.obj k=if k=n then .arr true 1 [] else if k=id then .arr true sz (es.set i (Ynz ps e)) else s.obj k:=by
  intro k
  show ((s.setOb id _).setOb n _).obj k=_
  rw[Yll (by rw[Ylr];exact hn),Yll hidl]
 let D:Nat->Prop:=λb=>∃ p∈ps,Fs (i * sz+p) b
 let ι':Interp:={ ι with sl:=λk=>if k=n then .slice none 0 0 else ι.sl k,fp:=λk b=>if k=n then D b else if k=id then ι.fp id b/\¬ D b else ι.fp k b }
 have hsl:ι'.sl id=ι.sl id:=by simp only[ι',ab hidn]
 have hext:Ext (λk=>k≠id) w ι s.obj w ι' s'.obj:=by
  refine⟨λb hb=>⟨hb,rfl⟩,λk => ?_⟩
  rw[hobj]
  by_cases hk:k=n
  ·subst hk;rw[ae rfl,hf];trivial
  ·rw[ab hk]
   by_cases hk2:k=id
   ·subst hk2;rw[ae rfl,ho]
    exact⟨hsl,rfl,λhk=>(hk rfl).elim⟩
   ·rw[ab hk2]
    cases ek:s.obj k with
    | free=>trivial
    | dead=>trivial
    | box cs=>rfl
    | arr o1 s1 e1=>exact⟨by simp only[ι',ab hk],rfl,λ_ b hb=>⟨.inl (by simp only[ι',ab hk,ab hk2];exact hb),rfl⟩⟩
    | map _ _ _=>exact⟨rfl,rfl,rfl,λ_ b hb=>⟨.inl (by simp only[ι',ab hk,ab hk2];exact hb),rfl⟩⟩
 have hfp:∀ k b,ι'.fp k b->(k=n/\D b)\/(k=id/\ι.fp id b/\¬ D b)\/(k≠n/\k≠id/\ι.fp k b):=by
  intro k b hb
  simp only[ι']at hb
  split at hb
  ·exact .inl ⟨‹_›,hb⟩
  ·split at hb
   ·exact .inr (.inl ⟨‹_›,hb⟩)
   ·exact .inr (.inr ⟨‹_›,‹_›,hb⟩)
 have hD:∀ b,D b->ι.fp id b:=λb ⟨p,_,hb⟩=>h4 _ b hb
 have hold:∀ k b,ι'.fp k b->∃ k',ι.fp k' b:=by
  intro k b hb
  rcases hfp k b hb with ⟨_,hb⟩|⟨_,hb,_⟩|⟨_,_,hb⟩
  ·exact⟨id,hD b hb⟩
  ·exact⟨id,hb⟩
  ·exact⟨k,hb⟩
 have hnestid:Ym8 w (Yna w ι'.G true) sz (ι'.fp id) (ι'.sl id) (es.set i (Ynz ps e)):=by
  rw[hsl]
  refine⟨e0,xs,λj b=>(∀ p∈ps,j≠i * sz+p)/\Fs j b,by rw[cd];exact h1,?_,?_,?_,?_,?_,?_,λhn=>h0 (by simpa using hn)⟩
  ·intro x hxm
   rcases bS hxm with hm|rfl
   ·exact h2 x hm
   ·rw[Ysg];exact h2 e (aE he)
  ·intro b hb;simp only[ι',ab hidn,bx];exact⟨h3 b hb,λ⟨p,_,hk⟩=>h5 _ b hb hk⟩
  ·intro j b hb;simp only[ι',ab hidn,bx];exact⟨h4 j b hb.2,λ⟨p,hp,hk⟩=>h6 _ _ b (hb.1 p hp) hb.2 hk⟩
  ·intro j b hb hk;exact h5 j b hb hk.2
  ·intro j j' b hne hb hb';exact h6 j j' b hne hb.2 hb'.2
  ·intro j u c hu hc
   rcases Y12i h2 he ps hps j c hc with ⟨_,rfl⟩|⟨h8,h9⟩
   ·have hj:j<es.flatten.length:=by rw[<- hlx];exact(List.getElem?_eq_some_iff.1 hu).1
    exact OwnC.any (h7 j u _ hu (av hj)).one
   ·exact OwnC.wide (h7 j u c hu h9) λb hb=>⟨h8,hb⟩
 have hnestn:Ym8 w (Yna w ι'.G true) 1 (ι'.fp n) (ι'.sl n) []:=by
  have e1:ι'.sl n=.slice none 0 0:=by simp only[ι',bx]
  rw[e1]
  exact⟨0,[],λ_ _=>False,⟨by simp,.inl ⟨rfl,rfl⟩⟩,by simp,λb hb=>by simp[Value.ownBlock]at hb,λ_ _ hb=>hb.elim,λ_ _ _ hb=>hb,λ_ _ _ _ hb=>hb.elim,λj u c hu=>by simp at hu,λ_=>⟨none,rfl⟩⟩
 refine⟨ι',λp=>Fs (i * sz+p),?_,rfl,λk hk=>by simp only[ι',ab hk],λp b hp hb => ?_,λp p' b hne hb=>h6 _ _ b oW hb,λb hb p v c hv hc => ?_⟩
 ·refine Rel.step h hext (λt=>.inl ⟨rfl,λc hc k hk=>hreg t c hc k hk⟩) rfl rfl (λk => ?_) ?_ ?_ ?_ ?_ h.glt (λ_ _ _=>rfl) (aC _) rfl rfl
  ·show _\/_
   by_cases hk:k=n
   ·right;rw[hobj,ae hk,hk];exact hnestn
   ·by_cases hk2:k=id
    ·right;rw[hobj,ab hk,ae hk2,hk2];exact hnestid
    ·left
     rw[hobj,ab hk,ab hk2]
     exact⟨rfl,⟨rfl,by simp only[ι',ab hk],λb=>by simp only[ι',ab hk,ab hk2],λ_ _=>rfl⟩,λc hc k' hk'=>hbox k c hc k' hk'⟩
  ·intro x y b hne hx1 hy1
   rcases hfp x b hx1 with ⟨rfl,f1⟩|⟨rfl,f1,g1⟩|⟨n1,n2,f1⟩<;>rcases hfp y b hy1 with ⟨rfl,f2⟩|⟨rfl,f2,g2⟩|⟨m1,m2,f2⟩
   ·exact hne rfl
   ·exact g2 f1
   ·exact h.disj id y b (λe=>m2 e.symm) (hD b f1) f2
   ·exact g1 f2
   ·exact hne rfl
   ·exact h.disj x y b hne f1 f2
   ·exact h.disj x id b n2 f1 (hD b f2)
   ·exact h.disj x y b hne f1 f2
   ·exact h.disj x y b hne f1 f2
  ·intro k b hb hg
   obtain⟨k',hk'⟩:=hold k b hb
   exact h.gfp k' b hk' hg
  ·intro k b hb
   obtain⟨k',hk'⟩:=hold k b hb
   exact h.own k' b hk'
  ·intro k b hb
   obtain⟨k',hk'⟩:=hold k b hb
   exact h.lt k' b hk'
 ·simp only[ι',bx];exact⟨p,hp,hb⟩
 ·have h8:=Ypd h2 he hc
  have hj:i * sz+p<xs.length:=by rw[hlx];exact(List.getElem?_eq_some_iff.1 h8).1
  have h9:=Ypn.cells (g:=b) h1 hb (i * sz+p) _ (av hj)
  rw[Yq2]at h9
  simp only[ck]at h9
  rw[h9]at hv
  simp only[aa]at hv
  subst hv
  exact h7 _ _ c (av hj) h8
def Y10x:List AC->Option (Nat×Nat)
 | []=>none
 | .sub j i _ :: _=>some (j,i)
 | _ :: r=>Y10x r
def Yu8:List AC->List Nat
 | []=>[]
 | .sub _ i _ :: r=>i :: Yu8 r
 | _ :: r=>Yu8 r
theorem Y1hy {c:AC}{r:List AC}{k:Nat}(h:k∈Yu8 r):k∈Yu8 (c :: r):=by
 cases c<;>simp only[Yu8]<;>first|exact h|exact ai _ h
def Yr6 (j i:Nat) (e:List Cell):List AC->Option (List Cell×List Nat)
 | []=>some ([],[])
 | c :: r=>match Yr6 j i e r with
  | none=>none
  | some (cs,ps)=>match c with
   | .val (.lit v)=>some (normLit v :: cs,ps)
   | .sub j' i' p=>match Nat.beq j' j && !ps.elem p with
    | true=>match e[p]? with
     | some (.list es)=>some (.list es :: cs,p :: ps)
     | _=>none
    | false=>none
   | _=>none
theorem Y11n (h:Rel E s ι a w) {j i sz:Nat}{es:List (List Cell)}{e:List Cell}(ho:s.obj j=.arr true sz es) {b:Nat}(hb:(ι.sl j).ownBlock=some b) {Fs:Nat->Nat->Prop}
  (f2:∀ p p' x,p≠p'->Fs p x->¬ Fs p' x) (f3:∀ p v c,w.cell? ⟨b,i * sz+p,none⟩=some v->e[p]? = some c->OwnC w (Fs p) v c) :
  ∀ {acs:List AC} {vs:List Value} {cs:List Cell} {ps:List Nat},Yr6 j i e acs=some (cs,ps)->(∀ k∈Yu8 acs,k=i)->Ylq (Ynt w ι s.obj) acs vs ->
   (∀ p∈ps,p<e.length)/\cs.length=acs.length/\∃ Gs:Nat->Nat->Prop,(∀ k x,Gs k x->∃ p∈ps,Fs p x)/\(∀ k k' x,k≠k'->Gs k x->¬ Gs k' x) /\
    ∀ (k:Nat) (v:Value) (c:Cell),vs[k]? = some v->cs[k]? = some c->OwnC w (Gs k) v c
 | [],[],cs,ps,e,_,_=>by
  simp only[Yr6,aa,al]at e
  obtain⟨rfl,rfl⟩:=e
  exact⟨by simp,rfl,λ_ _=>False,by simp,by simp,by simp⟩
 | c :: acs,v :: vs,cs,ps,e,hix,hh=>by
  simp only[Yr6]at e
  split at e
  ·cases e
  ·rename_i cs' ps' hcs
   obtain⟨i1,i2,Gs,i3,i4,i5⟩:=Y11n h ho hb f2 f3 hcs (λk hk=>hix k (Y1hy hk)) hh.2
   split at e
   ·rename_i u
    simp only[aa,al]at e
    obtain⟨rfl,rfl⟩:=e
    obtain⟨rfl,hk⟩:=Rd.lit_inv (show Rd w ι.G v _ from hh.1.1)
    refine⟨i1,by simp[i2],λk x=>match k with|0=>False|k+1=>Gs k x,?_,?_,?_⟩
    ·intro k x hx
     cases k with
     | zero=>exact hx.elim
     | succ k=>exact i3 k x hx
    ·intro k k' x hne hx hx'
     cases k with
     | zero=>exact hx.elim
     | succ k=>cases k' with
      | zero=>exact hx'.elim
      | succ k'=>exact i4 k k' x (λe=>hne (by rw[e])) hx hx'
    ·intro k x y hx hy
     cases k with
     | zero=>simp at hx hy;subst hx;subst hy;exact Yv6 hk
     | succ k=>simp at hx hy;exact i5 k x y hx hy
   ·rename_i j' i' p
    split at e
    ·rename_i hc
     simp only[af,aL]at hc
     obtain⟨hj1,hnin⟩:=hc
     obtain rfl:=aA hj1
     obtain rfl:=hix i' aj
     split at e
     ·rename_i es1 hp
      simp only[aa,al]at e
      obtain⟨rfl,rfl⟩:=e
      have hnin':p∉ps':=by simpa using hnin
      obtain⟨b2,hb2,_,hcell⟩:=hh.1.1.2 _ _ _ ho
      rw[hb]at hb2
      simp only[aa]at hb2
      subst hb2
      have hown:=f3 p v _ hcell hp
      refine⟨?_,by simp[i2],λk x=>match k with|0=>Fs p x|k+1=>Gs k x,?_,?_,?_⟩
      ·intro q hq
       rcases List.mem_cons.1 hq with rfl|hq
       ·exact(List.getElem?_eq_some_iff.1 hp).1
       ·exact i1 q hq
      ·intro k x hx
       cases k with
       | zero=>exact⟨p,aj,hx⟩
       | succ k=>obtain⟨q,hq,hqx⟩:=i3 k x hx;exact⟨q,ai _ hq,hqx⟩
      ·have key:∀ k x,Fs p x->¬ Gs k x:=λk x hj hx=>by
        obtain⟨q,hq,hqx⟩:=i3 k x hx
        exact f2 p q x (λe=>hnin' (e ▸ hq)) hj hqx
       intro k k' x hne hx hx'
       cases k with
       | zero=>cases k' with
        | zero=>exact hne rfl
        | succ k'=>exact key k' x hx hx'
       | succ k=>cases k' with
        | zero=>exact key k x hx' hx
        | succ k'=>exact i4 k k' x (λe=>hne (by rw[e])) hx hx'
      ·intro k x y hx hy
       cases k with
       | zero=>simp at hx hy;subst hx;subst hy;exact hown
       | succ k=>simp at hx hy;exact i5 k x y hx hy
     ·cases e
    ·cases e
   ·cases e
 | [],_ :: _,_,_,_,_,h=>h.elim
 | _ :: _,[],_,_,_,_,h=>h.elim
def eStoreSub (P:Program) (s:St) (T:TypeId) (ad x:Operand) (n:Nat) (q:List Orc):Option (Res×List Item×List Orc):=
 match s.ac ad,s.ev x with
 | some (.eptr id i off),some (.sv (.agg l))=>match Y10x l,q with
  | some (j,i2),.subs e2 :: q=>match s.obj id,s.obj j,Ypc P T,Y131 q with
   | .arr true sz es,.arr true szj esj,some m,some (e,es',q')=>match Yr6 j i2 e2 l with
    | some (cs,ps)=>if l.length=m/\off+m<=e.length/\Nat.beq id j=false then
      some ({ new:=[.dead],inv:=[id,j],upd:=[(j,.arr true szj (esj.set i2 (Ynz ps e2))),(id,.arr true sz (Y1eb (es.set i (splice off cs e)) es'))] },
       .obl (Yu8 l=List.replicate (Yu8 l).length i2) :: .obl (esj[i2]? = some e2) :: .obl (es[i]? = some e) :: Yyq (es.set i (splice off cs e)) es',q') else none
    | none=>none
   | _,_,_,_=>none
  | _,_=>none
 | _,_=>none
theorem Y16r {i1 i2 id:Nat}(hid:id=i1\/id=i2) (s:St):∀ t,∀ c∈((s.inval [i1,i2]).reg t).acs,∀ i,c.src=some i->i≠id:=λt c hc i hi e=>by
 rw[Ys6]at hc
 exact Yti _ hc hi (by rw[e];rcases hid with rfl|rfl<;>simp)
theorem Y16u {i1 i2 id:Nat}(hid:id=i1\/id=i2) (s:St):∀ k,∀ c∈((s.inval [i1,i2]).obj k).acs,∀ i,c.src=some i->i≠id:=λk c hc i hi e=>by
 rw[Ym4]at hc
 have hm:i∈[i1,i2]:=by rw[e];rcases hid with rfl|rfl<;>simp
 cases hk:s.obj k with
 | box l2=>rw[hk]at hc;simp[Ym5,Ob.acs]at hc;obtain⟨y,_,rfl⟩:=hc;exact Yr1 _ hi hm
 | free=>rw[hk]at hc;simp[Ym5,Ob.acs]at hc
 | dead=>rw[hk]at hc;simp[Ym5,Ob.acs]at hc
 | map _ _ _=>rw[hk]at hc;simp[Ym5,Ob.acs]at hc
 | arr _ _ _=>rw[hk]at hc;simp[Ym5,Ob.acs]at hc
theorem Y18o (h:Rel E s ι a w) {o:Oper}{T:TypeId}{ad x:Operand}(ho:o.op=.store T ad x) {n:Nat}{r:Res}{q q':List Orc}{it:List Item}{K:Prop}
  (e:eStoreSub P s T ad x n q=some (r,it,q')) (vc:VC it K) (hroom:Yqw s n r.new.length):EOK P E s a w o n r/\K:=by
 unfold eStoreSub at e
 split at e
 ·rename_i id i off l had hxv
  split at e
  ·rename_i j i2 e2 q0 hfs
   split at e
   ·rename_i sz es szj esj m el es9 q1 hob hobj hT hq9
    split at e
    ·rename_i cs ps habs
     split at e
     ·rename_i hc
      simp only[aa,al]at e
      obtain⟨rfl,rfl,rfl⟩:=e
      obtain⟨hidx,hel2,hel,hK⟩:=vc
      have hidx':∀ k∈Yu8 l,k=i2:=λk hk=>by rw[hidx]at hk;exact List.eq_of_mem_replicate hk
      obtain⟨hst,hK⟩:=Y1ah hK
      refine⟨?_,hK⟩
      rw[hst]
      have hne:id≠j:=λe=>by have:=hc.2.2;rw[e,bm]at this;cases this
      have hv:Ylq (Ynt w ι s.obj) l (a.eval x).cells.toList:=Yrm (x:=.agg l) rfl (Ypy h hxv)
      obtain⟨b,hb,hp⟩:=(Yn7 h had).2 _ _ _ hob
      obtain⟨hf,hn⟩:=hroom n (aC _) sW
      have hnid:id≠n:=λe=>by rw[e,hf]at hob;cases hob
      have hnj:j≠n:=λe=>by rw[e,hf]at hobj;cases hobj
      have h1:=h.inval [id,j]
      have hob1:(s.inval [id,j]).obj id=.arr true sz es:=by rw[Ym4,hob];rfl
      have hobj1:(s.inval [id,j]).obj j=.arr true szj esj:=by rw[Ym4,hobj];rfl
      have hf1:(s.inval [id,j]).obj n=.free:=by rw[Ym4,hf];rfl
      have hn1:n<(s.inval [id,j]).objs.length:=by rw[Yn5];exact hn
      have hpl:∀ p∈ps,p<e2.length:=by
       have:∀ {acs:List AC} {cs:List Cell} {ps:List Nat},Yr6 j i2 e2 acs=some (cs,ps)->∀ p∈ps,p<e2.length:=by
        intro acs
        induction acs with
        | nil=>intro cs ps e;simp only[Yr6,aa,al]at e;obtain⟨_,rfl⟩:=e;simp
        | cons c r ih=>
         intro cs ps e
         simp only[Yr6]at e
         split at e
         ·cases e
         ·rename_i cs' ps' hcs
          split at e
          ·simp only[aa,al]at e;obtain⟨_,rfl⟩:=e;exact ih hcs
          ·split at e
           ·split at e
            ·rename_i hp
             simp only[aa,al]at e;obtain⟨_,rfl⟩:=e
             intro q hq
             rcases List.mem_cons.1 hq with rfl|hq
             ·exact(List.getElem?_eq_some_iff.1 hp).1
             ·exact ih hcs q hq
            ·cases e
           ·cases e
          ·cases e
       exact this habs
      obtain⟨ι1,Fs,h2,hG,hsl,g1,g2,g3⟩:=Rel.carve h1 hobj1 hel2 hpl hf1 hn1 (Y16r (.inr rfl) s) (Y16u (.inr rfl) s)
      obtain⟨bj,hbj⟩:∃ bj,(ι.sl j).ownBlock=some bj:=by
       have hor:=h.objs j
       rw[hobj]at hor
       obtain⟨_,xs,_,k1,_⟩:=hor
       rcases k1.2 with ⟨_,hz⟩|⟨g,cap,cur,fz,hg,_⟩
       ·have:esj=[]:=bQ hz
        subst this;simp at hel2
       ·exact⟨g,by rw[hg];rfl⟩
      obtain⟨_,a2,Gs,a3,a4,a5⟩:=Y11n h hobj hbj g2 (g3 bj hbj) habs hidx' hv
      have hvl:(a.eval x).cells.toList.length=cs.length:=by rw[<- hv.length,a2]
      have hfit:off+cs.length<=el.length:=by rw[a2,hc.1];exact hc.2.1
      let s2:=((s.inval [id,j]).setOb j (.arr true szj (esj.set i2 (Ynz ps e2)))).setOb n (.arr true 1 [])
      have hjl:j<(s.inval [id,j]).objs.length:=Ym6 hobj1 sW
      have hidl:id<(s.inval [id,j]).objs.length:=Ym6 hob1 sW
      have hobj2:∀ k,s2.obj k=if k=n then .arr true 1 [] else if k=j then .arr true szj (esj.set i2 (Ynz ps e2)) else (s.inval [id,j]).obj k:=by
       intro k
       show (((s.inval [id,j]).setOb j _).setOb n _).obj k=_
       rw[Yll (by rw[Ylr];exact hn1),Yll hjl]
      have hob2:s2.obj id=.arr true sz es:=by rw[hobj2,ab hnid,ab hne];exact hob1
      have hb2:(ι1.sl id).ownBlock=some b:=by rw[hsl id hnid];exact hb
      obtain⟨cur,ty,ι',fz,k1,knz,k2,k3⟩:=Rel.setArr h2 hob2 (ids:=[n]) (λt c hc i' hi'=>Y16r (.inl rfl) s t c hc i' hi') (λk c hc i' hi'=>by
        have hc':c∈(s2.obj k).acs:=hc
        rw[hobj2]at hc'
        split at hc'
        ·simp[Ob.acs]at hc'
        ·split at hc'
         ·simp[Ob.acs]at hc'
         ·exact Y16u (.inl rfl) s k c hc' i' hi') (λk hk=>by
        rw[List.mem_singleton.1 hk]
        exact⟨true,1,[],by show s2.obj n=_;rw[hobj2,ae rfl]⟩) (by simp only[an];exact hnid) hel hfit hb2 hvl
        (Fs2:=Gs) (λk x hx=>let ⟨p,hp,hpx⟩:=a3 k x hx;⟨n,List.mem_singleton.2 rfl,g1 p x hp hpx⟩) a4 (λk v c hv hc=>a5 k v c hv hc)
      have hlen:(a.eval x).cells.toList.length=m:=by rw[<- hv.length];exact hc.1
      have hone:∀ u∈(a.eval x).cells.toList,u.oneCell':=by
       intro u hu
       obtain⟨k,hk⟩:=cn hu
       obtain⟨c,_,hc⟩:=hv.flip.get_left hk
       exact hc.2
      refine EOK.skip (ι':=ι') (w':=w.setRow b (splice (i * sz+off) (a.eval x).cells.toList cur.toList).toArray) ?_ ?_ Yum
      ·simp only[execOp,ho,hp]
       rw[aQ,Ytx hT k1 knz hlen (by rw[<- hlen];exact k2) hone]
       rfl
      ·have hs1:n<((s.inval [id,j]).setOb j (.arr true szj (esj.set i2 (Ynz ps e2)))).objs.length:=by rw[Ylr];exact hn1
       refine k3.sameObj rfl (funext λk => ?_) rfl
       show ((((s.inval [id,j]).setOb j _).setOb id _).setOb n .dead).obj k=(((s2).setOb n .dead).setOb id _).obj k
       rw[Yll (by rw[Ylr,Ylr];exact hn1),Yll (by rw[Ylr];exact hidl),Yll hjl]
       rw[Yll (by rw[Ylr];show id<((_:St).setOb n _).objs.length;rw[Ylr,Ylr];exact hidl),Yll (by show n<((_:St).setOb n _).objs.length;rw[Ylr];exact hs1),hobj2]
       by_cases hk:k=n
       ·subst hk;rw[ae rfl,ab (λe=>hnid e.symm),ae rfl]
       ·by_cases hk2:k=id
        ·rw[ab hk,ae hk2,ae hk2]
        ·rw[ab hk,ab hk2,ab hk2,ab hk,ab hk]
     ·cases e
    ·cases e
   ·cases e
  ·cases e
 ·cases e
def eAppendSub (P:Program) (s:St) (args:Array Operand) (tys:Array TypeId) (n:Nat) (q:List Orc):Option (Res×List Item×List Orc):=
 match args.toList,tys.toList with
 | [x,y],[t,u]=>match s.ac x,q with
  | some (.sub id i p),.subcall e es' sz' :: q'=>match s.obj id with
   | .arr true sz0 es0=>match Yyc P t,s.ac y with
    | some el,some c2=>match Ypc P el,Y16k P el,srcElems s true sz' c2 with
     | some sz,some by_,some (es2,ids2,it)=>if Yze P el sz/\Y135 P u/\sz=sz'/\ids2.all (λj => !Nat.beq j n && !Nat.beq j id)=true then
       some ({ val:=.sv (.one (.ref (n+1))),new:=[.dead,.arr true sz' (es'++es2)],upd:=(id,.arr true sz0 (es0.set i (e.set p .any))) :: Ynk ids2,inv:=[id] },
        .obl (es0[i]? = some e) :: .obl (e[p]? = some (.list es')) :: .obl (∀ x∈es',x.length=sz') :: (it++[.obl ((es'.length+es2.length) * by_<=140737488355328)]),q') else none
     | _,_,_=>none
    | _,_=>none
   | _=>none
  | _,_=>none
 | _,_=>none
theorem Y15y (h:Rel E s ι a w) {o:Oper}{args:Array Operand}{tys:Array TypeId}(ho:o.op=.call { callee:=.builtin .append,args:=args,argTypes:=tys }) {n:Nat}{r:Res}{q q':List Orc}
  {it:List Item} {K:Prop} (e:eAppendSub P s args tys n q=some (r,it,q')) (vc:VC it K) (hroom:Yqw s n r.new.length):EOK P E s a w o n r/\K:=by
 unfold eAppendSub at e
 split at e
 ·rename_i x y t u hargs htys
  obtain rfl:args=#[x,y]:=by apply cg;simpa using hargs
  obtain rfl:tys=#[t,u]:=by apply cg;simpa using htys
  split at e
  ·rename_i id i p el0 es' sz' q1 hcx
   split at e
   ·rename_i sz0 es0 hob
    split at e
    ·rename_i el c2 hel hcy
     split at e
     ·rename_i sz by_ es2 ids2 it1 hsz hby hsrc
      split at e
      ·rename_i hfit
       simp only[aa,al]at e
       obtain⟨rfl,rfl,rfl⟩:=e
       obtain⟨hA,hB,hC,vc⟩:=vc
       obtain⟨hfit,hst,rfl,hdis⟩:=hfit
       obtain⟨hf,hn⟩:=hroom n (aC _) sW
       obtain⟨hf',hn'⟩:=hroom (n+1) oW sW
       have h1:=h.inval [id]
       have hidn:id≠n:=λe=>by rw[e,hf]at hob;cases hob
       have hidn':id≠n+1:=λe=>by rw[e,hf']at hob;cases hob
       have hob1:(s.inval [id]).obj id=.arr true sz0 es0:=by rw[Ym4,hob];rfl
       have hf1:(s.inval [id]).obj n=.free:=by rw[Ym4,hf];rfl
       have hf2:(s.inval [id]).obj (n+1)=.free:=by rw[Ym4,hf'];rfl
       have hn1:n<(s.inval [id]).objs.length:=by rw[Yn5];exact hn
       have hn2:n+1<(s.inval [id]).objs.length:=by rw[Yn5];exact hn'
       obtain⟨ι1,h2,hsl,htk,_,hG,hfpk⟩:=Rel.focus h1 hob1 hA hB hC hf1 hn1 (Yxs s) (Yyg s)
       obtain⟨b,hb,_,hcell⟩:=(Yn7 h hcx).2 _ _ _ hob
       have hv:a.eval x=ι1.sl n:=by
        have:=htk.cell b (by rw[hsl];exact hb)
        rw[hcell]at this
        simpa using this
       have hidl:id<(s.inval [id]).objs.length:=Ym6 hob1 sW
       let s2:=Ymc (s.inval [id]) id n i p sz0 es0 el0 sz es'
       have hobj2:∀ k,s2.obj k=if k=n then .arr true sz es' else if k=id then .arr true sz0 (es0.set i (el0.set p .any)) else (s.inval [id]).obj k:=by
        intro k
        show (((s.inval [id]).setOb id _).setOb n _).obj k=_
        rw[Yll (by rw[Ylr];exact hn1),Yll hidl]
       have hon:s2.obj n=.arr true sz es':=by rw[hobj2,ae rfl]
       have hvr:Ymf w ι1 s2.obj (.ref n) (a.eval x):=⟨by unfold notFree;rw[hon];trivial,λ_ _ _ _=>hv⟩
       have htgt:target s2 sz q1 (.ref n)=some (true,es',[n],q1):=by
        unfold target;simp only[hon,bx]
       obtain⟨hT,hi1⟩:=Y11i h2 hvr htgt
       obtain⟨hS0,hi0,hbnd,hK⟩:=Yza (P:=P) h (Yn7 h hcy) hsrc (VC.append vc)
       obtain⟨inf,z,f1,f2,f3,f4,f5,f6⟩:=Yzr hfit
       obtain⟨d,d1,d2⟩:=Y17y hst
       have hby':inf.bytes=by_:=by simpa[Y16k,f1] using hby
       have hdis':∀ j∈ids2,j≠n/\j≠id:=λj hj=>by
        have:=(List.all_eq_true.1 hdis) j hj
        simp only[af,aL]at this
        exact⟨λe=>by (rw[e,bm]at this;exact absurd this.1 dW),λe=>by (rw[e,bm]at this;exact absurd this.2 dW)⟩
       have hi2:∀ j∈ids2,Ysi (s2.obj j):=λj hj=>by
        rw[hobj2,ab (hdis' j hj).1,ab (hdis' j hj).2]
        exact Ywu [] id s j (hi0 j hj)
       have hS:Yz6 P w ι1.G true (λb=>∃ j∈ids2,ι1.fp j b) (a.eval y) sz es2:=by
        obtain⟨news,s1,s2,s3,s4,Fs2,s5,s6,s7⟩:=hS0
        exact⟨news,s1,s2,s3,s4,Fs2,λk b hb=>let ⟨j,hj,hjb⟩:=s5 k b hb;⟨j,hj,hfpk j b (hdis' j hj).1 (hdis' j hj).2 hjb⟩,s6,by rw[hG];exact s7⟩
       have hd':∀ j∈ids2,j∉[n]:=λj hj=>by simp only[an];exact(hdis' j hj).1
       obtain⟨v',w',r1,r2,r3,r4,r5,r6,F',r7,r8⟩:=Y16w (ty:=o.type) h2 hT hS hd' (Yuv hel) d1 d2 f1 f2 f3 hby' f4 f5 oW hbnd
       have hl2:s2.objs.length=(s.inval [id]).objs.length:=by show (((s.inval [id]).setOb id _).setOb n _).objs.length=_;rw[Ylr,Ylr]
       have hfr:s2.obj (n+1)=.free:=by rw[hobj2,ab oW,ab (λe=>hidn' e.symm)];exact hf2
       obtain⟨ι',k1,k2⟩:=h2.makeArr hfr (by rw[hl2];exact hn2) (λj hj=>(List.mem_append.1 hj).elim (hi1 j) (hi2 j)) r2 r3 r4 r5 r7 r8 r6
       have hlen2:∀ j∈ids2,j<(s.inval [id]).objs.length:=λj hj=>by
        obtain⟨o',z',e',hjo⟩:=hi2 j hj
        rw[<- hl2]
        exact Ym6 hjo sW
       have hobE:(s.app n ⟨.sv (.one (.ref (n+1))),[.dead,.arr true sz (es'++es2)],(id,.arr true sz0 (es0.set i (el0.set p .any))) :: Ynk ids2,[id]⟩).obj =
         ((s2.updObs (Ynk ([n]++ids2))).setOb (n+1) (.arr true sz (es'++es2))).obj:=by
        funext k
        show (((((s.inval [id]).setOb id _).updObs (Ynk ids2)).setOb n .dead).setOb (n+1) _).obj k=_
        rw[Yll (by rw[Ylr,Yon,Ylr];exact hn2),Yll (by rw[Yon,Ylr];exact hn1),Ysf ids2 _ (λj hj=>by rw[Ylr];exact hlen2 j hj),Yll hidl]
        rw[Yll (by rw[Yon,hl2];exact hn2),Ysf ([n]++ids2) s2 (λj hj=>by
         rw[hl2]
         rcases List.mem_append.1 hj with hj|hj
         ·rw[List.mem_singleton.1 hj];exact hn1
         ·exact hlen2 j hj),hobj2]
        by_cases hk:k=n+1
        ·rw[ae hk,ae hk]
        ·rw[ab hk,ab hk]
         by_cases hk2:k=n
         ·rw[ae hk2,ae (aY _ (List.mem_singleton.2 hk2))]
         ·rw[ab hk2]
          by_cases hk3:k∈ids2
          ·rw[ae hk3,ae (bc _ hk3)]
          ·rw[ab hk3,ab (λhm=>(List.mem_append.1 hm).elim (λhm=>hk2 (List.mem_singleton.1 hm)) hk3),ab hk2]
       refine⟨EOK.value (v:=v') ?_ (k1.sameObj ?_ hobE ?_) ?_,hK⟩
       ·simp only[execOp,ho,resolve,aQ,bC,aZ,invoke,builtin]
        simp[r1]
       ·show ((((s.inval [id]).setOb id _).updObs (Ynk ids2)).setOb n .dead).regs=(s2.updObs _).regs
        simp only[St.setOb,Ynq]
        rfl
       ·show ((((s.inval [id]).setOb id _).updObs (Ynk ids2)).setOb n .dead).m=(s2.updObs _).m
        simp only[St.setOb,Yus]
        rfl
       ·rw[hobE];exact k2
      ·cases e
     ·cases e
    ·cases e
   ·cases e
  ·cases e
 ·cases e
def eMark (s:St) (x:Operand):Option Res:=none
theorem Y1ho (h:Rel E s ι a w) {o:Oper}{t:TypeId}{x:Operand}(ho:o.op=.convert t t x) (ht:Yzj P t) {n:Nat}{r:Res}(e:eMark s x=some r):EOK P E s a w o n r:=by
 unfold Ab.eMark at e
 cases e
def Yqn:Nat->List Cell->List Nat->Option (List AC×List Ob×List Cell)
 | _,[],_=>some ([],[],[])
 | n,c :: r,zs=>match c with
  | .lit v=>(match Yqn n r zs with
   | some (cs,os,e)=>some (.val (.lit v) :: cs,os,.lit v :: e)
   | none=>none)
  | .list es=>(match zs with
   | z :: zs=>(match Yqn (n+1) r zs with
    | some (cs,os,e)=>some (.ref n :: cs,.arr true z es :: os,.any :: e)
    | none=>none)
   | []=>none)
  | _=>none
def Yul:List Cell->List Nat->List Item
 | [],_=>[]
 | c :: r,zs=>match c with
  | .list es=>(match zs with
   | z :: zs=>.obl (∀ x∈es,x.length=z) :: Yul r zs
   | []=>[])
  | _=>Yul r zs
def eLoadPull (P:Program) (s:St) (T:TypeId) (x:Operand) (n:Nat) (q:List Orc):Option (Res×List Item×List Orc):=
 match s.ac x,Ypc P T,Y161 P T with
 | some (.eptr j i off),some m,some true=>(match s.obj j with
  | .arr true sz es=>(match q with
   | .pulls e zs :: q'=>(match Yqn n e zs with
    | some (cs,os,e')=>(match Nat.beq off 0&&(Nat.beq sz m&&Nat.ble os.length 2) with
     | true=>some ({ val:=.sv (.agg cs),new:=os,inv:=[j],upd:=[(j,.arr true sz (es.set i e'))] },.obl (es[i]? = some e) :: (Yul e zs++[]),q')
     | false=>none)
    | none=>none)
   | _=>none)
  | _=>none)
 | _,_,_=>none
theorem Y1m3 (s:St) {i k:Nat}(h:i≠k) (a b:Ob):(s.setOb i a).setOb k b=(s.setOb k b).setOb i a:=by
 simp only[St.setOb];congr 1;exact List.set_comm a b h
theorem Y1hl (s:St) (i:Nat) (a b:Ob):(s.setOb i a).setOb i b=s.setOb i b:=by
 simp only[St.setOb,df]
def Y20h (s:St) (j:Nat):Prop:=(∀ t,∀ c∈(s.reg t).acs,∀ k,c.src=some k->k≠j)/\∀ k,∀ c∈(s.obj k).acs,∀ k',c.src=some k'->k'≠j
theorem Y1od {K:Nat->Prop}{w w1 w2:World}{ι ι1 ι2:Interp}{ob ob1 ob2:Nat->Ob}(h1:Ext K w ι ob w1 ι1 ob1) (h2:Ext K w1 ι1 ob1 w2 ι2 ob2):Ext K w ι ob w2 ι2 ob2:=by
 refine⟨λb hb=>⟨(h2.g b (h1.g b hb).1).1,(h2.g b (h1.g b hb).1).2.trans (h1.g b hb).2⟩,λid => ?_⟩
 have a1:=h1.o id
 have a2:=h2.o id
 have key:(K id->∀ b,ι.fp id b->(ι1.fp id b\/ι1.G b)/\w1.heap[b]? = w.heap[b]?)->(K id->∀ b,ι1.fp id b->(ι2.fp id b\/ι2.G b)/\w2.heap[b]? = w1.heap[b]?)->(K id->∀ b,ι.fp id b->(ι2.fp id b\/ι2.G b)/\w2.heap[b]? = w.heap[b]?):=by
  intro x y hk b hb
  obtain⟨u1,u2⟩:=x hk b hb
  rcases u1 with u1|u1
  ·obtain⟨v1,v2⟩:=y hk b u1;exact⟨v1,v2.trans u2⟩
  ·obtain⟨v1,v2⟩:=h2.g b u1;exact⟨.inr v1,v2.trans u2⟩
 cases e:ob id with
 | free=>trivial
 | dead=>
  rw[e]at a1;cases e1:ob1 id<;>rw[e1]at a1<;>first|(exact a1.elim)|skip
  rw[e1]at a2;cases e2:ob2 id<;>rw[e2]at a2<;>first|exact a2.elim|trivial
 | box cs=>
  rw[e]at a1;cases e1:ob1 id<;>rw[e1]at a1<;>first|(exact a1.elim)|skip
  ·rw[e1]at a2;cases e2:ob2 id<;>rw[e2]at a2<;>first|exact a2.elim|trivial
  ·rw[e1]at a2;cases e2:ob2 id<;>rw[e2]at a2<;>first|exact a2.elim|trivial|exact Eq.trans (show ι2.blk id=ι1.blk id from a2) a1
 | arr o1 z1 x1=>
  rw[e]at a1;cases e1:ob1 id<;>rw[e1]at a1<;>first|(exact a1.elim)|skip
  ·rw[e1]at a2;cases e2:ob2 id<;>rw[e2]at a2<;>first|exact a2.elim|trivial
  ·rw[e1]at a2;cases e2:ob2 id<;>rw[e2]at a2<;>first|exact a2.elim|trivial|exact⟨a2.1.trans a1.1,a2.2.1.trans a1.2.1,key a1.2.2 a2.2.2⟩
 | map n1 k1 f1=>
  rw[e]at a1;cases e1:ob1 id<;>rw[e1]at a1<;>first|(exact a1.elim)|skip
  ·rw[e1]at a2;cases e2:ob2 id<;>rw[e2]at a2<;>first|exact a2.elim|trivial
  ·rw[e1]at a2;cases e2:ob2 id<;>rw[e2]at a2<;>first|exact a2.elim|trivial|exact⟨a2.1.trans a1.1,a2.2.1.trans a1.2.1,a2.2.2.1.trans a1.2.2.1,key a1.2.2.2 a2.2.2.2⟩
theorem Y1h3 (h:Rel E s ι a w) {j i sz:Nat}{es:List (List Cell)}{e:List Cell}(ho:s.obj j=.arr true sz es) (he:es[i]? = some e) {b:Nat}(hb:(ι.sl j).ownBlock=some b) {p:Nat}{c:Cell}(hc:e[p]? = some c) :
  ∃ v F,w.cell? ⟨b,i * sz+p,none⟩=some v/\OwnC w F v c:=by
 have hor:=h.objs j
 rw[ho]at hor
 obtain⟨e0,xs,Fs,h1,h2,h3,h4,h5,h6,h7,h0⟩:=hor
 have h8:=Ypd h2 he hc
 have hj:i * sz+p<xs.length:=by rw[h1.1,<- Ymy h2];exact(List.getElem?_eq_some_iff.1 h8).1
 have h9:=Ypn.cells (g:=b) h1 hb (i * sz+p) _ (av hj)
 rw[Yq2]at h9
 simp only[ck]at h9
 exact⟨_,_,h9,h7 _ _ c (av hj) h8⟩
theorem Y15m {j i sz b:Nat}:∀ (suf:List Cell) {zs:List Nat}{n:Nat}{cs:List AC}{os:List Ob}{e' pre:List Cell}{esc:List (List Cell)}{s:St}{ι:Interp}{K:Prop}{tl:List Item},
  Yqn n suf zs=some (cs,os,e')->VC (Yul suf zs++tl) K->Rel E s ι a w->s.obj j=.arr true sz esc->esc[i]? = some (pre++suf)->(ι.sl j).ownBlock=some b->Yqw s n os.length->Y20h s j ->
   VC tl K/\∃ ι' vs,Rel E ((s.setOb j (.arr true sz (esc.set i (pre++e')))).setObs n os) ι' a w/\vs.length=suf.length/\(∀ p v,vs[p]? = some v->w.cell? ⟨b,i * sz+(pre.length+p),none⟩=some v) /\
    Ylq (Ynt w ι' ((s.setOb j (.arr true sz (esc.set i (pre++e')))).setObs n os).obj) cs vs/\Ext (λk=>k≠j) w ι s.obj w ι' ((s.setOb j (.arr true sz (esc.set i (pre++e')))).setObs n os).obj
 | [],zs,n,cs,os,e',pre,esc,s,ι,K,tl,hc,hv,h,hj,he,hb,hr,hn=>by
  simp only[Yqn,aa,al]at hc
  obtain⟨rfl,rfl,rfl⟩:=hc
  have hs:s.setOb j (.arr true sz (esc.set i (pre++[])))=s:=by
   have h1:esc.set i (pre++[])=esc:=by
    have hil:=(List.getElem?_eq_some_iff.1 he)
    rw[<- hil.2,dH]
   rw[h1,<- hj]
   have hl:j<s.objs.length:=Ym6 hj sW
   simp only[St.setOb,St.obj]
   rw[ao,av hl,cH,dH]
  refine⟨hv,ι,[],?_,rfl,by simp,trivial,?_⟩
  ·rw[hs];exact h
  ·rw[hs]
   show Ext _ w ι s.obj w ι s.obj
   refine⟨λb hb=>⟨hb,rfl⟩,λk => ?_⟩
   cases s.obj k with
   | free=>trivial
   | dead=>trivial
   | box cs=>exact rfl
   | arr o z x=>exact⟨rfl,rfl,λ_ b hb=>⟨.inl hb,rfl⟩⟩
   | map n k f=>exact⟨rfl,rfl,rfl,λ_ b hb=>⟨.inl hb,rfl⟩⟩
 | c :: r,zs,n,cs,os,e',pre,esc,s,ι,K,tl,hc,hv,h,hj,he,hb,hr,hn=>by
  have hpre:pre++c :: r=(pre++[c])++r:=by simp
  cases c with
  | lit u=>
   simp only[Yqn]at hc
   split at hc
   ·rename_i cs1 os1 e1 hrec
    simp only[aa,al]at hc
    obtain⟨rfl,rfl,rfl⟩:=hc
    obtain⟨v,F,hcell,hown⟩:=Y1h3 h hj he hb (p:=pre.length) (c:=.lit u) sW
    have hlit:=Rd.lit_inv (hown.toRd (G:=F) λ_ h=>h)
    obtain⟨hK,ι',vs,h1,h2,h3,h4,h5⟩:=Y15m r (pre:=pre++[.lit u]) hrec hv h hj (by rw[<- hpre];exact he) hb hr hn
    have e2:pre++[Cell.lit u]++e1=pre++Cell.lit u :: e1:=by simp
    rw[e2]at h1 h4 h5
    refine⟨hK,ι',v :: vs,h1,by simp[h2],λp x hx => ?_,⟨⟨by rw[hlit.1];exact .lit hlit.2,hown.one⟩,h4⟩,h5⟩
    cases p with
    | zero=>simp only[bX,aa]at hx;subst hx;exact hcell
    | succ p=>
     have:=h3 p x (by simpa using hx)
     rw[aw,bh]at this
     rw[show pre.length+(p+1)=pre.length+1+p by omega];exact this
   ·cases hc
  | list es=>
   simp only[Yqn]at hc
   split at hc
   ·rename_i z zs'
    split at hc
    ·rename_i cs1 os1 e1 hrec
     simp only[aa,al]at hc
     obtain⟨rfl,rfl,rfl⟩:=hc
     obtain⟨hz,hv⟩:(∀ x∈es,x.length=z)/\VC (Yul r zs'++tl) K:=hv
     obtain⟨hf,hnl⟩:=hr n (aC _) sW
     have hjn:j≠n:=λe=>by rw[e,hf]at hj;cases hj
     have hjl:j<s.objs.length:=Ym6 hj sW
     have hp:(pre++Cell.list es :: r)[pre.length]? = some (.list es):=by simp
     obtain⟨ι1,h1,hsl,htk,hext,_⟩:=h.focus hj he hp hz hf hnl hn.1 hn.2
     have hset:(pre++Cell.list es :: r).set pre.length .any=pre++[.any]++r:=by simp
     have hobj1:∀ x,(Ymc s j n i pre.length sz esc (pre++Cell.list es :: r) z es).obj x=if x=n then .arr true z es else if x=j then .arr true sz (esc.set i (pre++[.any]++r)) else s.obj x:=by
      intro x
      unfold Ymc
      rw[Yll (by rw[Ylr];exact hnl),Yll hjl,hset]
     have hil:i<esc.length:=(List.getElem?_eq_some_iff.1 he).1
     obtain⟨hK,ι',vs,k1,k2,k3,k4,k5⟩:=Y15m r (pre:=pre++[.any]) (esc:=esc.set i (pre++[.any]++r)) hrec hv h1 (by rw[hobj1,ab hjn,ae rfl]) (by rw[db hil]) (by rw[hsl];exact hb)
      (λx hx hx2=>by
       have:=hr x oW (by simp only[aD];omega)
       refine⟨?_,by unfold Ymc;rw[Ylr,Ylr];exact this.2⟩
       rw[hobj1,ab oW,ab (λe=>by rw[e]at this;rw[hj]at this;cases this.1)];exact this.1)
      ⟨λt c hc k hk=>hn.1 t c hc k hk,λx c hc k hk=>by
       rw[hobj1]at hc
       split at hc
       ·simp[Ob.acs]at hc
       ·split at hc
        ·simp[Ob.acs]at hc
        ·exact hn.2 x c hc k hk⟩
     have hst:((Ymc s j n i pre.length sz esc (pre++Cell.list es :: r) z es).setOb j (.arr true sz ((esc.set i (pre++[.any]++r)).set i (pre++[.any]++e1)))).setObs (n+1) os1 =
       (s.setOb j (.arr true sz (esc.set i (pre++.any :: e1)))).setObs n (.arr true z es :: os1):=by
      rw[St.setObs,df]
      unfold Ymc
      rw[Y1m3 _ (cv hjn),Y1hl]
      simp
     rw[hst]at k1 k4 k5
     have hext2:=Y1od hext k5
     refine⟨hK,ι',ι1.sl n :: vs,k1,by simp[k2],λp x hx => ?_,⟨⟨?_,?_⟩,k4⟩,hext2⟩
     ·cases p with
      | zero=>
       simp only[bX,aa]at hx;subst hx
       exact htk.cell b (by rw[hsl];exact hb)
      | succ p=>
       have:=k3 p x (by simpa using hx)
       rw[aw,bh]at this
       rw[show pre.length+(p+1)=pre.length+1+p by omega];exact this
     ·have hn1:(Ymc s j n i pre.length sz esc (pre++Cell.list es :: r) z es).obj n=.arr true z es:=by rw[hobj1,ae rfl]
      have hr1:Ymf w ι1 (Ymc s j n i pre.length sz esc (pre++Cell.list es :: r) z es).obj (.ref n) (ι1.sl n):=⟨by unfold notFree;rw[hn1];trivial,λ_ _ _ _=>rfl⟩
      exact Ymf.ext k5 (λid hid=>by cases hid) hr1
     ·obtain⟨v,F,hcell,hown⟩:=Y1h3 h hj he hb (p:=pre.length) (c:=.list es) sW
      have:=htk.cell b (by rw[hsl];exact hb)
      rw[this]at hcell
      simp only[aa]at hcell
      rw[hcell];exact hown.one
    ·cases hc
   ·cases hc
  | any=>simp[Yqn]at hc
  | cap v=>simp[Yqn]at hc
  | clo f v=>simp[Yqn]at hc
theorem Y182 (h:Rel E s ι a w) {o:Oper}{T:TypeId}{x:Operand}(ho:o.op=.load T x) {n:Nat}{r:Res}{q q':List Orc}{it:List Item}{K:Prop}
  (e:eLoadPull P s T x n q=some (r,it,q')) (vc:VC it K) (hroom:Yqw s n r.new.length):EOK P E s a w o n r/\K:=by
 unfold eLoadPull at e
 split at e
 ·rename_i j i off m hx hT hA
  split at e
  ·rename_i sz es hob
   split at e
   ·rename_i e0 zs q1
    split at e
    ·rename_i cs os e' hout
     split at e
     ·rename_i hc
      simp only[aa,al]at e
      obtain⟨rfl,rfl,rfl⟩:=e
      simp only[af]at hc
      obtain rfl:=aA hc.1
      obtain rfl:=aA hc.2.1
      obtain⟨he,hv⟩:es[i]? = some e0/\VC (Yul e0 zs++[]) K:=vc
      obtain⟨b,hb,hp⟩:=(Yn7 h hx).2 _ _ _ hob
      have h1:=h.inval [j]
      have hob1:(s.inval [j]).obj j=.arr true sz es:=by rw[Ym4,hob];rfl
      have hr1:Yqw (s.inval [j]) n os.length:=λk hk hk2=>by
       have:=hroom k hk hk2
       exact⟨by rw[Ym4,this.1];rfl,by rw[Yn5];exact this.2⟩
      obtain⟨hK,ι',vs,k1,k2,k3,k4,_⟩:=Y15m e0 (pre:=[]) hout hv h1 hob1 (by simpa using he) hb hr1 ⟨Yxs s,Yyg s⟩
      simp only[bq]at k1 k4
      refine⟨EOK.value (ι':=ι') (w':=w) (v:=.agg vs.toArray) ?_ k1 ⟨_,rfl,by rw[show vs.toArray.toList=vs from by simp];exact k4⟩,hK⟩
      have hsz:e0.length=sz:=by
       have hor:=h.objs j
       rw[hob]at hor
       obtain⟨_,_,_,_,h2,_⟩:=hor
       exact h2 e0 (aE he)
      simp only[execOp,ho,Instr.loadAt,hp,Instr.sureAddr]
      refine Yoa _ ?_
      have:=Yu7 (P:=P) (w:=w) (b:=b) (o:=i * sz+0) hA hT (by rw[k2,hsz]) (λp v hv=>by have:=k3 p v hv;simpa using this)
      simpa using this
     ·cases e
    ·cases e
   ·cases e
  ·cases e
 ·cases e
end
def eSliceNil (P:Program) (s:St) (op:BinOp) (T:TypeId) (x y:Operand):Option (Res×List Item):=
 match P.underlying T with
 | some (.slice _)=>match s.lit y with
  | some (.slice none 0 0)=>match s.ac x with
   | some (.val (.lit (.slice none 0 0)))=>match op with
    | .eql=>some ({ val:=Yqq (.bool true) },[])
    | .neq=>some ({ val:=Yqq (.bool false) },[])
    | _=>none
   | some (.val (.list es))=>match op with
    | .eql=>some ({ val:=Yqq (.bool false) },[.obl (0<es.length)])
    | .neq=>some ({ val:=Yqq (.bool true) },[.obl (0<es.length)])
    | _=>none
   | _=>none
  | _=>none
 | _=>none
section
variable {P:Program}{E:Ent P}{s:St}{ι:Interp}{a:Act}{w:World}
theorem Yv7 {e T:TypeId}(hT:P.underlying T=some (.slice e)) (o:Option Addr) (n c:Nat) (w:World):(Op.equalIn Op.maxDepth T (.slice o n c) (.slice none 0 0)).run P w=.ok o.isNone w:=by
 have hd:Op.maxDepth=(Op.maxDepth - 1)+1:=rfl
 rw[hd]
 unfold Op.equalIn
 simp only[aQ,aK hT,Result.andThen]
 cases o<;>rfl
theorem Y18c (h:Rel E s ι a w) {o:Oper}{op:BinOp}{T:TypeId}{x y:Operand}{z:TypeId}(ho:o.op=.binOp op T x y z) {n:Nat}{r:Res}{it:List Item}{K:Prop}(e:eSliceNil P s op T x y=some (r,it)) (vc:VC it K):EOK P E s a w o n r/\K:=by
 unfold eSliceNil at e
 split at e
 ·rename_i el hT
  split at e
  ·rename_i hy
   have hye:=(Ypi h hy).1
   split at e
   ·rename_i hx
    have hxe:=(Ypi h (x:=x) (v:=.slice none 0 0) (by unfold St.lit;rw[hx])).1
    split at e
    ·simp only[aa,al]at e;obtain⟨rfl,rfl⟩:=e
     refine⟨EOK.value (ι':=ι) (w':=w) (v:=.bool true) ?_ h (Yng trivial),vc⟩
     simp only[execOp,ho,hxe,hye]
     refine Yoa _ ?_
     simp[eqGuard,binOp,Op.equal,Yv7 hT,Result.andThen]
    ·simp only[aa,al]at e;obtain⟨rfl,rfl⟩:=e
     refine⟨EOK.value (ι':=ι) (w':=w) (v:=.bool false) ?_ h (Yng trivial),vc⟩
     simp only[execOp,ho,hxe,hye]
     refine Yoa _ ?_
     simp[eqGuard,binOp,Op.equal,Yv7 hT,Result.andThen]
    ·cases e
   ·rename_i es hx
    have hr:Rd w ι.G (a.eval x) (.list es):=Yn7 h hx
    have key:0<es.length->∃ ad m c,a.eval x=.slice (some ad) m c:=by
     intro h0
     generalize a.eval x=u at hr
     cases hr with
     | nil=>simp at h0
     | slice=>exact⟨_,_,_,rfl⟩
    split at e
    ·simp only[aa,al]at e;obtain⟨rfl,rfl⟩:=e
     obtain⟨h0,vc⟩:=vc
     obtain⟨ad,m,c,hxe⟩:=key h0
     refine⟨EOK.value (ι':=ι) (w':=w) (v:=.bool false) ?_ h (Yng trivial),vc⟩
     simp only[execOp,ho,hxe,hye]
     refine Yoa _ ?_
     simp[eqGuard,binOp,Op.equal,Yv7 hT,Result.andThen]
    ·simp only[aa,al]at e;obtain⟨rfl,rfl⟩:=e
     obtain⟨h0,vc⟩:=vc
     obtain⟨ad,m,c,hxe⟩:=key h0
     refine⟨EOK.value (ι':=ι) (w':=w) (v:=.bool true) ?_ h (Yng trivial),vc⟩
     simp only[execOp,ho,hxe,hye]
     refine Yoa _ ?_
     simp[eqGuard,binOp,Op.equal,Yv7 hT,Result.andThen]
    ·cases e
   ·cases e
  ·cases e
 ·cases e
def evAll (s:St):List Operand->Option (List AV)
 | []=>some []
 | x :: r=>match s.ev x,evAll s r with
  | some v,some l=>some (v :: l)
  | _,_=>none
theorem Y12u (h:Rel E s ι a w):∀ {xs:List Operand}{l:List AV},evAll s xs=some l->Ylq (Ymg w ι s.obj) l (xs.map a.eval)
 | [],l,e=>by simp only[evAll,aa]at e;subst e;trivial
 | x :: xs,l,e=>by
  simp only[evAll]at e
  split at e
  ·rename_i v l' h1 h2
   simp only[aa]at e;subst e
   exact⟨Ypy h h1,Y12u h h2⟩
  ·cases e
def Ys3:Nat:=8
def eCall (P:Program) (s:St) (f:FuncId) (args:Array Operand) (ex:List AV) (n:Nat) (q:List Orc):Option (Res×List Item×List Orc):=
 match q with
 | .call ms objs1 res :: q=>match evAll s args.toList with
  | some avs=>match passAll s {} ms (avs++ex) with
   | some p=>if p.lent.all (λi => !p.emb.elem (some i))=true/\objs1.length<=Ys3/\(p.lent=[]\/(objs1.all Ob.noG/\res.acs.all AC.noG)) then
     some ({ val:=res.ren (Yrv p.emb n),upd:=Ysp p.emb n objs1,inv:=Yrh p.emb },[.obl (Ynw P f p.objs p.args objs1 res)],q) else none
   | none=>none
  | none=>none
 | _=>none
def calleeOf (s:St) (x:Operand):Option FuncId:=
 match s.lit x with
 | some (.func (.func f) x y)=>match x.toList,y.toList with
  | [],[]=>some f
  | _,_=>none
 | _=>none
theorem Y1h9 (h:Rel E s ι a w) {x:Operand}{f:FuncId}(e:calleeOf s x=some f):a.eval x=.func (.func f) #[] #[]:=by
 unfold calleeOf at e
 split at e
 ·rename_i f' y z hl
  split at e
  ·rename_i h1 h2
   obtain rfl:y=#[]:=cg h1
   obtain rfl:z=#[]:=cg h2
   simp only[aa]at e;subst e
   exact(Ypi h hl).1
  ·cases e
 ·cases e
def cloOf (s:St) (x:Operand):Option (FuncId×Value):=
 match s.ac x with
 | some (.val (.clo f v))=>some (f,v)
 | _=>none
theorem Y1qv (h:Rel E s ι a w) {x:Operand}{f:FuncId}{v:Value}(e:cloOf s x=some (f,v)):∃ p,a.eval x=.func (.func f) #[] #[p]/\Ymg w ι s.obj (.sv (.one (.val (.cap v)))) p:=by
 unfold cloOf at e
 split at e
 ·rename_i f' v' hc
  simp only[aa,al]at e
  obtain⟨rfl,rfl⟩:=e
  have hr:Rd w ι.G (a.eval x) (.clo f' v'):=Yn7 h hc
  generalize a.eval x=u at hr
  cases hr with
  | clo hb hl hx=>exact⟨_,rfl,.cap hb hl hx,λ_=>rfl⟩
 ·cases e
theorem Y1as (h:Rel E s ι a w) {o:Oper}{x:Operand}{f:FuncId}{args:Array Operand}{tys:Array TypeId}(ho:o.op=.call { callee:=.value x,args:=args,argTypes:=tys }) {caps:Array Value}(hx:a.eval x=.func (.func f) #[] caps) {n:Nat}
  {ms:List Mode} {avs:List AV} {p:Pass} {objs1:List Ob} {res:AV} (hp:passAll s {} ms avs=some p) (hav:Ylq (Ymg w ι s.obj) avs (args.toList.map a.eval++caps.toList)) (hlent:p.lent.all (λi => !p.emb.elem (some i))=true)
  (hG:p.lent=[]\/(objs1.all Ob.noG/\res.acs.all AC.noG)) (hcall:Ynw P f p.objs p.args objs1 res) (hroom':Yqw s n objs1.length)
  {next:Act->World->Prop} {Q:Exit->Act->World->Prop}
  (k:∀ ι' v w',Rel E ((s.inval (Yrh p.emb)).updObs (Ysp p.emb n objs1)) ι' a w'->Ymg w' ι' ((s.inval (Yrh p.emb)).updObs (Ysp p.emb n objs1)).obj (res.ren (Yrv p.emb n)) v ->
   Ext (λi=>i∉Yrh p.emb) w ι (s.inval (Yrh p.emb)).obj w' ι' ((s.inval (Yrh p.emb)).updObs (Ysp p.emb n objs1)).obj->next (a.put o.dst v) w'):o.wp P a w next Q:=by
 obtain⟨ok,zs,hz,hargs⟩:=Y16p (ys:=[]) (PassOK.nil s) hp trivial
 simp only[bq]at hargs
 have hl:∀ i∈p.lent,some i∉p.emb:=λi hi=>by simpa using (List.all_eq_true.1 hlent) i hi
 have hvals:Ylq (Ymo w ι s.obj) zs (args.map a.eval++caps).toList:=by
  have:=hav
  rw[hz]at this
  rw[Array.toList_append,Array.toList_map]
  have conv:∀ {l:List SV} {vs:List Value},Ylq (Ymg w ι s.obj) (l.map .sv) vs->Ylq (Ymo w ι s.obj) l vs:=by
   intro l
   induction l with
   | nil=>intro vs hv;cases vs with|nil=>trivial|cons=>exact hv.elim
   | cons x l ih=>intro vs hv;cases vs with
    | nil=>exact hv.elim
    | cons v vs=>exact⟨hv.1,ih hv.2⟩
  exact conv this
 have hrun:(execOp a.eval o).run P w=.ok (.enter f (args.map a.eval++caps)) w:=by
  have:=hcall.1 (args.map a.eval++caps) w
  simp[execOp,ho,resolve,hx,Deferred.ofValue,invoke,this]
 simp only[Oper.wp,hrun,Oper.upon_enter]
 by_cases hl0:p.lent=[]
 ·have hpre:=Y14h (R:=ι.G) h ok (λ_ hb=>hb) (by simp[hl0]) (λ_ hb=>.inl hb) hargs hvals
  refine(hcall.2 w _ _ hpre h.known).mono ?_
  rintro e w' ⟨v,ι1,rfl,hpost⟩
  obtain⟨ι',k1,k2,k3⟩:=Y1fy h ok (λ_ hb=>.inl hb) hroom' hpost (.inl ⟨hl0,rfl⟩)
  exact k ι' v w' k1 k2 k3
 ·have hG':=hG.resolve_left hl0
  have hpre:=Y14h (R:=λb=>ι.G b\/∃ id,some id∉p.emb/\ι.fp id b) h ok (λ_ hb=>.inl hb) (λi hi b hb=>.inr ⟨i,hl i hi,hb⟩) (λ_ hb=>hb) hargs hvals
  refine(hcall.2 w _ _ hpre h.known).mono ?_
  rintro e w' ⟨v,ι1,rfl,hpost⟩
  obtain⟨ι',k1,k2,k3⟩:=Y1fy h ok (λ_ hb=>hb) hroom' hpost (.inr hG')
  exact k ι' v w' k1 k2 k3
theorem Y14d (h:Rel E s ι a w) {o:Oper}{x:Operand}{f:FuncId}{args:Array Operand}{tys:Array TypeId}(ho:o.op=.call { callee:=.value x,args:=args,argTypes:=tys }) {caps:Array Value}(hx:a.eval x=.func (.func f) #[] caps) {ex:List AV}(hex:Ylq (Ymg w ι s.obj) ex caps.toList) {n:Nat}{r:Res}{q q':List Orc}
  {it:List Item} {K:Prop} (e:eCall P s f args ex n q=some (r,it,q')) (vc:VC it K) (hroom:Yqw s n Ys3):EOK P E s a w o n r/\K:=by
 unfold eCall at e
 split at e
 ·rename_i ms objs1 res q1
  split at e
  ·rename_i avs hav
   split at e
   ·rename_i p hp
    split at e
    ·rename_i hc
     obtain⟨hlent,hlen,hG⟩:=hc
     simp only[aa,al]at e
     obtain⟨rfl,rfl,rfl⟩:=e
     obtain⟨hcall,hK⟩:=vc
     refine⟨?_,hK⟩
     intro next Q k
     exact Y1as h ho hx hp ((Y12u h hav).append hex) hlent hG hcall (λi h1 h2=>hroom i h1 oW) λι' v w' k1 k2 _=>k ι' v w' k1 k2
    ·cases e
   ·cases e
  ·cases e
 ·cases e
def Yz5 (n:Nat):List AV->Option ((Nat×Nat×Nat)×List AV)
 | []=>none
 | .sv (.one (.sub id i p)) :: r=>some ((id,i,p),.sv (.one (.ref n)) :: r)
 | x :: r=>match Yz5 n r with
  | some (k,r')=>some (k,x :: r')
  | none=>none
def Y23o (id:Nat) (x:AV):Bool:=x.acs.all λc=>match c.src with|some k => !(Nat.beq k id)|none=>true
theorem Y14o {R R':AV->Value->Prop}{n:Nat}:∀ {avs avs1:List AV}{vs:List Value}{k:Nat×Nat×Nat},Yz5 n avs=some (k,avs1)->Ylq R avs vs ->
  (∀ v,R (.sv (.one (.sub k.1 k.2.1 k.2.2))) v->R' (.sv (.one (.ref n))) v)->(∀ x∈avs1,∀ v,R x v->R' x v)->(∃ v,R (.sv (.one (.sub k.1 k.2.1 k.2.2))) v)/\Ylq R' avs1 vs
 | [],_,_,_,e,_,_,_=>by simp[Yz5]at e
 | x :: r,avs1,[],_,_,ha,_,_=>ha.elim
 | x :: r,avs1,v :: vs,k,e,ha,h1,h2=>by
  unfold Yz5 at e
  split at e
  ·cases ‹_=[] ›
  ·rename_i id i p r' hx
   simp only[cM]at hx
   obtain⟨rfl,rfl⟩:=hx
   simp only[aa,al]at e
   obtain⟨rfl,rfl⟩:=e
   refine⟨⟨v,ha.1⟩,h1 v ha.1,?_⟩
   exact ha.2.impMem λy u hy hr=>h2 y (ai _ hy) u hr
  ·rename_i y r' _ hx
   simp only[cM]at hx
   obtain⟨rfl,rfl⟩:=hx
   split at e
   ·rename_i k' r2 he
    simp only[aa,al]at e
    obtain⟨rfl,rfl⟩:=e
    obtain⟨h3,h4⟩:=Y14o he ha.2 h1 λy hy u hr=>h2 y (ai _ hy) u hr
    exact⟨h3,h2 _ aj v ha.1,h4⟩
   ·cases e
def Y1cm:AC->Bool
 | .val (.lit _)=>true
 | _=>false
def Y15b (P:Program) (s:St) (f:FuncId) (args:Array Operand) (n:Nat) (q:List Orc):Option (Res×List Item×List Orc):=
 match q with
 | .subcall e es' sz' :: .call ms objs1 res :: q=>match evAll s args.toList with
  | some avs=>match Yz5 n avs with
   | some ((id,i,p),avs1)=>match s.obj id with
    | .arr true sz es=>match passAll (Ymc (s.inval [id]) id n i p sz es e sz' es') {} ms avs1 with
     | some pp=>match pp.emb,objs1 with
      | [some m],[.arr true sz2 es2]=>if m=n/\sz2=sz'/\id≠n/\p<e.length/\avs1.all (Y23o id)/\pp.lent.all (λi => !pp.emb.elem (some i))=true/\(pp.lent=[]\/res.acs.all AC.noG)/\res.acs.all Y1cm then
        some ({ val:=res,new:=[.dead],upd:=[(id,.arr true sz (es.set i (e.set p (.list es2))))],inv:=[id,n] },
         [.obl (es[i]? = some e),.obl (e[p]? = some (.list es')),.obl (∀ x∈es',x.length=sz'),.obl (Ynw P f pp.objs pp.args objs1 res)],q) else none
      | _,_=>none
     | none=>none
    | _=>none
   | none=>none
  | none=>none
 | _=>none
theorem Y11o (x y:Nat) (c:AC):Ynm [y] (Ynm [x] c)=Ynm [x,y] c:=by
 cases hc:c.src with
 | none=>simp[Ynm,hc]
 | some k=>
  by_cases h1:k=x
  ·subst h1
   have e1:Ynm [k] c=.top:=by simp[Ynm,hc]
   have e2:Ynm [k,y] c=.top:=by simp[Ynm,hc]
   rw[e1,e2];rfl
  ·by_cases h2:k=y
   ·subst h2;simp[Ynm,hc,h1]
   ·simp[Ynm,hc,h1,h2]
theorem Y1bh (x y:Nat) (c:SV):Yo0 [y] (Yo0 [x] c)=Yo0 [x,y] c:=by
 cases c with
 | one c=>simp[Yo0,Y11o]
 | agg cs=>simp[Yo0,Y11o,dz]
theorem Y1ps (x y:Nat) (c:AV):Yn0 [y] (Yn0 [x] c)=Yn0 [x,y] c:=by
 cases c with
 | sv c=>simp[Yn0,Y1bh]
 | tup cs=>simp[Yn0,Y1bh,dz]
theorem Y1o7 (x y:Nat) (o:Ob):Ym5 [y] (Ym5 [x] o)=Ym5 [x,y] o:=by
 cases o<;>simp[Ym5,Y11o,dz]
theorem Y18y (h:Rel E s ι a w) {o:Oper}{f:FuncId}{args:Array Operand}{tys:Array TypeId}(ho:o.op=.call { callee:=.value (.func f),args:=args,argTypes:=tys }) {n:Nat}{r:Res}{q q':List Orc}
  {it:List Item} {K:Prop} (e:Y15b P s f args n q=some (r,it,q')) (vc:VC it K) (hroom:Yqw s n Ys3):EOK P E s a w o n r/\K:=by
 unfold Y15b at e
 split at e
 ·rename_i el es' sz' ms objs1 res q1
  split at e
  ·rename_i avs hav
   split at e
   ·rename_i id i p avs1 hfs
    split at e
    ·rename_i sz es hob
     split at e
     ·rename_i pp hpp
      split at e
      ·rename_i m sz2 es2 hemb
       split at e
       ·rename_i hc
        obtain⟨rfl,rfl,hne,hpl,hargs,hlent,hG,hlit⟩:=hc
        simp only[aa,al]at e
        obtain⟨rfl,rfl,rfl⟩:=e
        obtain⟨he,hep,hx,hcall,hK⟩:=vc
        refine⟨?_,hK⟩
        obtain⟨hfr,hnl⟩:=hroom m (aC _) (by simp[Ys3])
        have h0:=h.inval [id]
        have hob0:(s.inval [id]).obj id=.arr true sz es:=by rw[Ym4,hob];rfl
        have hfr0:(s.inval [id]).obj m=.free:=by rw[Ym4,hfr];rfl
        have hnl0:m<(s.inval [id]).objs.length:=by rw[Yn5];exact hnl
        obtain⟨ι1,h1,hsl,htk,hext,_⟩:=h0.focus hob0 he hep hx hfr0 hnl0
         (λt c hc k hk=>by rw[Ys6]at hc;have:=Yti _ hc hk;simpa using this)
         (λk c hc k' hk'=>by
          rw[Ym4]at hc
          cases hk:s.obj k with
          | box cs=>rw[hk]at hc;simp[Ym5,Ob.acs]at hc;obtain⟨y,_,rfl⟩:=hc;have:=Yr1 _ hk';simpa using this
          | free=>rw[hk]at hc;simp[Ym5,Ob.acs]at hc
          | dead=>rw[hk]at hc;simp[Ym5,Ob.acs]at hc
          | map _ _ _=>rw[hk]at hc;simp[Ym5,Ob.acs]at hc
          | arr _ _ _=>rw[hk]at hc;simp[Ym5,Ob.acs]at hc)
        have hstep:∀ k,Ync w w ι ι True k (s.obj k) ((s.inval [id]).obj k):=by
         intro k
         rw[Ym4]
         cases hk:s.obj k with
         | free=>trivial
         | dead=>trivial
         | box cs=>rfl
         | arr o1 s1 e1=>exact⟨rfl,rfl,λ_ b hb=>⟨.inl hb,rfl⟩⟩
         | map _ _ _=>exact⟨rfl,rfl,rfl,λ_ b hb=>⟨.inl hb,rfl⟩⟩
        have hx0:Ext (λ_=>True) w ι s.obj w ι (s.inval [id]).obj:=Y10b hstep
        have hvals:=Y12u h hav
        obtain⟨_,hav1⟩:=Y14o (R:=Ymg w ι s.obj) (R':=Ymg w ι1 (Ymc (s.inval [id]) id m i p sz es el sz2 es').obj) hfs hvals
         (λv hv=>by
          obtain⟨b,hb,_,hcell⟩:=hv.1.2 _ _ _ hob
          have h8:=htk.cell b (by rw[hsl];exact hb)
          rw[h8]at hcell
          simp only[aa]at hcell
          have hom:(Ymc (s.inval [id]) id m i p sz es el sz2 es').obj m=.arr true sz2 es':=by
           unfold Ymc
           rw[Yll (by rw[Ylr];exact hnl0),ae rfl]
          refine⟨⟨?_,λ_ _ _ _=>hcell.symm⟩,λ_=>hv.2 sW⟩
          unfold notFree;rw[hom];trivial)
         (λx hx v hv=>by
          have hok:=(List.all_eq_true.1 hargs) x hx
          refine Ymg.ext hext (λc hc k hk => ?_) (Ymg.ext hx0 (λ_ _ _ _=>trivial) hv)
          have:=(List.all_eq_true.1 hok) c hc
          rw[hk]at this
          simp only[aL]at this
          exact ct this)
        intro next Q k
        have hemb':Yrh pp.emb=[m]:=by rw[hemb];rfl
        refine Y1as h1 ho (caps:=#[]) rfl (n:=m+1) hpp (by simpa using hav1) hlent (hG.imp (λx=>x) λhg=>⟨by simp[Ob.noG],hg⟩) hcall (λj h3 h4 => ?_) λι2 v w2 k1 k2 k3 => ?_
        ·have h5:j≠m:=by omega
         have h6:j≠id:=λe=>by
          have:=(hroom j oW (by simp at h4;simp[Ys3];omega)).1
          rw[e,hob]at this;cases this
         unfold Ymc
         rw[Yll (by rw[Ylr];exact hnl0),Yll (by rw[Yn5];exact Ym6 hob sW),ab h5,ab h6,Ylr,Ylr,Yn5,Ym4]
         obtain⟨h7,h8⟩:=hroom j oW (by simp at h4;simp[Ys3];omega)
         exact⟨by rw[h7];rfl,h8⟩
        ·
         rw[hemb']at k1 k2 k3
         have hbu:Ysp pp.emb (m+1) [Ob.arr true sz2 es2]=[(m,.arr true sz2 es2)]:=by
          rw[hemb];rfl
         rw[hbu]at k1 k2 k3
         have hlid:id<(s.inval [id]).objs.length:=by rw[Yn5];exact Ym6 hob sW
         have hl1:((Ymc (s.inval [id]) id m i p sz es el sz2 es').inval [m]).objs.length=s.objs.length:=by
          rw[Yn5];unfold Ymc;rw[Ylr,Ylr,Yn5]
         have ho2:∀ j,(((Ymc (s.inval [id]) id m i p sz es el sz2 es').inval [m]).updObs [(m,.arr true sz2 es2)]).obj j =
           if j=m then .arr true sz2 es2 else if j=id then .arr true sz (es.set i (el.set p .any)) else Ym5 [id,m] (s.obj j):=by
          intro j
          show (((Ymc (s.inval [id]) id m i p sz es el sz2 es').inval [m]).setOb m (.arr true sz2 es2)).obj j=_
          rw[Yll (by rw[hl1];exact hnl)]
          by_cases hj:j=m
          ·rw[ae hj,ae hj]
          ·rw[ab hj,ab hj,Ym4]
           unfold Ymc
           rw[Yll (by rw[Ylr];exact hnl0),Yll hlid,ab hj]
           by_cases hj2:j=id
           ·rw[ae hj2,ae hj2];rfl
           ·rw[ab hj2,ab hj2,Ym4,Y1o7]
         have hidm:id≠m:=hne
         have hi2:=ho2 id
         rw[ab hidm,ae rfl]at hi2
         have hm2:=ho2 m
         rw[ae rfl]at hm2
         have hif:((Ymc (s.inval [id]) id m i p sz es el sz2 es').inval [m]).obj id=.arr true sz (es.set i (el.set p .any)):=by
          rw[Ym4];unfold Ymc
          rw[Yll (by rw[Ylr];exact hnl0),Yll hlid,ab hidm,ae rfl];rfl
         have hmf:((Ymc (s.inval [id]) id m i p sz es el sz2 es').inval [m]).obj m=.arr true sz2 es':=by
          rw[Ym4];unfold Ymc
          rw[Yll (by rw[Ylr];exact hnl0),ae rfl];rfl
         have hoi:=k3.o id
         rw[hif,hi2]at hoi
         obtain⟨hsid,_,hblk⟩:=hoi
         have hom:=k3.o m
         rw[hmf,hm2]at hom
         obtain⟨hsm,_,_⟩:=hom
         have hil:i<es.length:=(List.getElem?_eq_some_iff.1 he).1
         have htk2:Taken w2 ι2 id m i sz p:=by
          refine⟨λb hb => ?_,?_⟩
          ·rw[hsid]at hb
           obtain⟨b1,hb1,hf1⟩:=htk.blk
           have:b1=b:=by rw[hb]at hb1;exact(ce hb1).symm
           subst this
           have hsame:=(hblk (by simp;exact λe=>hidm e) b1 hf1).2
           rw[Yq1 hsame,hsm]
           exact htk.cell b1 hb
          ·obtain⟨b1,hb1,hf1⟩:=htk.blk
           refine⟨b1,by rw[hsid];exact hb1,?_⟩
           have hr2:=k1.objs id
           rw[hi2]at hr2
           obtain⟨e0,xs,Fs,_,_,h9,_⟩:=hr2
           exact h9 b1 (by rw[hsid];exact hb1)
         have hlen2:(es.set i (el.set p .any))[i]? = some (el.set p .any):=by rw[db hil]
         obtain⟨ι3,k4,k5⟩:=k1.unfocus (es':=es2) (e:=el.set p .any) hi2 hm2 hlen2 (by rw[cd];exact hpl) hidm htk2
         have hset:(es.set i (el.set p .any)).set i ((el.set p .any).set p (.list es2))=es.set i (el.set p (.list es2)):=by
          rw[df,df]
         have hfin:∀ j,(s.app m { val:=res,new:=[.dead],upd:=[(id,.arr true sz (es.set i (el.set p (.list es2))))],inv:=[id,m] }).obj j =
           (Yr2 (((Ymc (s.inval [id]) id m i p sz es el sz2 es').inval [m]).updObs [(m,.arr true sz2 es2)]) id m i p sz (es.set i (el.set p .any)) (el.set p .any) es2).obj j:=by
          intro j
          unfold Yr2
          have hl3:(((Ymc (s.inval [id]) id m i p sz es el sz2 es').inval [m]).updObs [(m,Ob.arr true sz2 es2)]).objs.length=s.objs.length:=by
           rw[Yon,hl1]
          rw[Yll (by rw[Ylr,hl3];exact hnl),Yll (by rw[hl3];exact Ym6 hob sW),hset,ho2]
          show (((s.inval [id,m]).setOb id _).setOb m .dead).obj j=_
          rw[Yll (by rw[Ylr,Yn5];exact hnl),Yll (by rw[Yn5];exact Ym6 hob sW),Ym4]
          by_cases hj:j=m
          ·rw[ae hj,ae hj]
          ·rw[ab hj,ab hj]
           by_cases hj2:j=id
           ·rw[ae hj2,ae hj2]
           ·rw[ab hj2,ab hj2,ab hj,ab hj2]
         have hregs:(s.app m { val:=res,new:=[.dead],upd:=[(id,.arr true sz (es.set i (el.set p (.list es2))))],inv:=[id,m] }).regs =
           (Yr2 (((Ymc (s.inval [id]) id m i p sz es el sz2 es').inval [m]).updObs [(m,.arr true sz2 es2)]) id m i p sz (es.set i (el.set p .any)) (el.set p .any) es2).regs:=by
          show s.regs.map (Yn0 [id,m])=(s.regs.map (Yn0 [id])).map (Yn0 [m])
          rw[cr]
          congr 1
          funext x;exact(Y1ps id m x).symm
         have k6:=k4.sameObj (s':=s.app m { val:=res,new:=[.dead],upd:=[(id,.arr true sz (es.set i (el.set p (.list es2))))],inv:=[id,m] }) hregs (funext hfin) rfl
         refine k ι3 v w2 k6 ?_
         have hresr:res.ren (Yrv pp.emb (m+1))=res:=by
          have hac:∀ c,Y1cm c->c.ren (Yrv pp.emb (m+1))=c:=λc hc=>by
           unfold Y1cm at hc;split at hc
           ·rfl
           ·cases hc
          have hsv:∀ x:SV,x.acs.all Y1cm->x.ren (Yrv pp.emb (m+1))=x:=λx hx=>by
           cases x with
           | one c=>simp[SV.acs]at hx;simp[SV.ren,hac c hx]
           | agg cs=>
            simp only[SV.acs]at hx
            simp only[SV.ren,SV.agg.injEq]
            conv=>rhs;rw[<- List.map_id cs]
            exact ba λc hc=>hac c ((List.all_eq_true.1 hx) c hc)
          cases res with
          | sv x=>simp only[AV.ren,hsv x hlit]
          | tup l=>
           simp only[AV.ren,AV.tup.injEq]
           conv=>rhs;rw[<- List.map_id l]
           refine ba λx hx=>hsv x (List.all_eq_true.2 λc hc=>(List.all_eq_true.1 hlit) c (List.mem_flatMap.2 ⟨x,hx,hc⟩))
         rw[hresr]at k2
         have k7:=Ymg.ext k5 (λ_ _ _ _=>trivial) k2
         rw[funext hfin]
         exact k7
       ·cases e
      ·cases e
     ·cases e
    ·cases e
   ·cases e
  ·cases e
 ·cases e
def Ynx (o:Oper):Nat:=
 match o.op with
 | .alloc _ | .box .. | .buildSlice .. | .makeSlice .. | .lookup .. | .makeMap .. => 1
 | .call { callee:=.builtin .append,.. }=>2
 | .store .. => 1
 | .load .. => 2
 | .call { callee:=.value _,.. }=>Ys3
 | _=>0
def aop (P:Program) (s:St) (o:Oper) (n:Nat) (q:List Orc):Option (Res×List Item×List Orc):=
 match o.op with
 | .alloc T=>(Y11s P T n).map λr=>(r,[],q)
 | .box _ x=>(eBox s x n).map λr=>(r,[],q)
 | .build T ps=>(eBuild P s T ps).map λr=>(r,[],q)
 | .buildSlice T len ps=>match len with
  | 0=>match q with
   | .bool sh :: q=>(eBuildSlice P s T 0 ps n sh).map λr=>(r,[],q)
   | _=>none
  | k+1=>(eBuildSlice P s T (k+1) ps n false).map λr=>(r,[],q)
 | .makeSlice T lo co=>(eMake P s T lo co n).map λr=>(r.1,r.2,q)
 | .store T ad x=>match eStoreBox P s T ad x with
  | some r=>some (r,[],q)
  | none=>match eStoreArr P s T ad x q with
   | some r=>some r
   | none=>eStoreSub P s T ad x n q
 | .call { callee:=.builtin .append,args:=args,argTypes:=tys }=>match eAppend P s args tys n q with
  | some r=>some r
  | none=>eAppendSub P s args tys n q
 | .call { callee:=.value x,args:=args,.. }=>match calleeOf s x with
  | some f=>eCall P s f args [] n q
  | none=>match cloOf s x with
   | some (f,v)=>eCall P s f args [.sv (.one (.val (.cap v)))] n q
   | none=>none
 | .call { callee:=.builtin .delete,args:=args,argTypes:=tys }=>eMapDelete P s args tys q
 | .lookup T m x ok=>eLookup P s T m x ok n q
 | .makeMap T hint=>Y114 P T hint n q
 | .mapUpdate T m x y | .insert T m x y=>eMapUpdate P s T m x y q
 | .binOp op T x y _=>match vop P s o q with
  | some r=>some ({ val:=r.1 },r.2.1,r.2.2)
  | none=>match eMapNil P s op T x y with
   | some r=>some (r,[],q)
   | none=>(eSliceNil P s op T x y).map λr=>(r.1,r.2,q)
 | .convert src dst x=>match src == dst&&Yzj P src with
  | true=>(eMark s x).map λr=>(r,[],q)
  | false=>(vop P s o q).map λr=>({ val:=r.1 },r.2.1,r.2.2)
 | .load T x=>match eLoadPull P s T x n q with
  | some r=>some r
  | none=>(vop P s o q).map λr=>({ val:=r.1 },r.2.1,r.2.2)
 | _=>(vop P s o q).map λr=>({ val:=r.1 },r.2.1,r.2.2)
theorem Y13v (h:Rel E s ι a w) {o:Oper}{x:AV}(hv:VOK P s ι a w o x) (n:Nat):EOK P E s a w o n { val:=x }:=by
 obtain⟨v,h1,h2⟩:=hv
 exact EOK.value h1 h h2
theorem Y12v (h:Rel E s ι a w) {o:Oper}{n:Nat}{r:Res}{it:List Item}{q q':List Orc}{K:Prop}(e:aop P s o n q=some (r,it,q')) (vc:VC it K) (hroom:Yqw s n (Ynx o)) :
  EOK P E s a w o n r/\K:=by
 unfold aop at e
 split at e
 ·rename_i T ho
  cases hr:Y11s P T n with
  | none=>simp[hr]at e
  | some r'=>
   simp only[hr,aP,aa,al]at e
   obtain⟨rfl,rfl,rfl⟩:=e
   have hl:r'.new.length<=1:=by unfold Y11s at hr;cases hz:Yqz P T<;>simp[hz]at hr;subst hr;simp
   exact⟨Y1d4 h ho hr λi h1 h2=>hroom i h1 (by simp only[Ynx,ho];omega),vc⟩
 ·rename_i T x ho
  cases hr:eBox s x n with
  | none=>simp[hr]at e
  | some r'=>
   simp only[hr,aP,aa,al]at e
   obtain⟨rfl,rfl,rfl⟩:=e
   have hl:r'.new.length<=1:=by
    unfold eBox at hr
    split at hr
    ·rename_i v _;cases hz:Yrp v<;>simp[hz]at hr;subst hr;simp
    ·cases hr
   exact⟨Y1ma h ho hr λi h1 h2=>hroom i h1 (by simp only[Ynx,ho];omega),vc⟩
 ·rename_i T ps ho
  cases hr:eBuild P s T ps with
  | none=>simp[hr]at e
  | some r'=>
   simp only[hr,aP,aa,al]at e
   obtain⟨rfl,rfl,rfl⟩:=e
   exact⟨Y1da h ho hr,vc⟩
 ·rename_i T len ps ho
  have fin:∀ {sh:Bool} {q1:List Orc},(eBuildSlice P s T len ps n sh).map (λr=>(r,([]:List Item),q1))=some (r,it,q')->EOK P E s a w o n r/\K:=by
   intro sh q1 e
   cases hr:eBuildSlice P s T len ps n sh with
   | none=>simp[hr]at e
   | some r'=>
    simp only[hr,aP,aa,al]at e
    obtain⟨rfl,rfl,rfl⟩:=e
    have hl:r'.new.length<=1:=by
     unfold eBuildSlice at hr
     repeat (split at hr<;>first|(cases hr;done)|skip)
     simp only[aa]at hr;subst hr;simp
    exact⟨Y14a h ho hr λi h1 h2=>hroom i h1 (by simp only[Ynx,ho];omega),vc⟩
  split at e
  ·split at e
   ·exact fin e
   ·cases e
  ·exact fin e
 ·rename_i T lo co ho
  cases hr:eMake P s T lo co n with
  | none=>simp[hr]at e
  | some r'=>
   obtain⟨r1,it1⟩:=r'
   simp only[hr,aP,aa,al]at e
   obtain⟨rfl,rfl,rfl⟩:=e
   have hl:r1.new.length<=1:=by
    unfold eMake at hr;cases hr
   exact Y1hv h ho hr vc λi h1 h2=>hroom i h1 (by simp only[Ynx,ho];omega)
 ·rename_i T ad x ho
  split at e
  ·rename_i r' hr
   simp only[aa,al]at e
   obtain⟨rfl,rfl,rfl⟩:=e
   exact⟨Y17u h ho hr,vc⟩
  ·split at e
   ·rename_i r1 hr
    simp only[aa]at e;subst e
    exact Y18e h ho hr vc
   ·refine Y18o h ho e vc λi h1 h2=>hroom i h1 ?_
    have hl:r.new.length<=1:=by
     unfold eStoreSub at e
     repeat (split at e<;>first|(cases e;done)|skip)
     simp only[aa,al]at e;obtain⟨rfl,_⟩:=e;simp
    simp only[Ynx,ho];omega
 ·rename_i args tys ho
  split at e
  ·rename_i r1 hr
   simp only[aa]at e;subst e
   refine Y1bz h ho hr vc λi h1 h2=>hroom i h1 ?_
   have hl:r.new.length<=1:=by
    unfold eAppend at hr
    repeat (split at hr<;>first|(cases hr;done)|skip)
    simp only[aa,al]at hr;obtain⟨rfl,_⟩:=hr;simp
   simp only[Ynx,ho];omega
  ·refine Y15y h ho e vc λi h1 h2=>hroom i h1 ?_
   have hl:r.new.length<=2:=by
    unfold eAppendSub at e
    repeat (split at e<;>first|(cases e;done)|skip)
    simp only[aa,al]at e;obtain⟨rfl,_⟩:=e;simp
   simp only[Ynx,ho];omega
 ·rename_i x args tys ho
  split at e
  ·rename_i f hf
   exact Y14d h ho (Y1h9 h hf) (ex:=[]) trivial e vc λi h1 h2=>hroom i h1 (by simp only[Ynx,ho];exact h2)
  ·split at e
   ·rename_i f v hf
    obtain⟨p,hp,hr⟩:=Y1qv h hf
    exact Y14d h ho hp (ex:=[_]) ⟨hr,trivial⟩ e vc λi h1 h2=>hroom i h1 (by simp only[Ynx,ho];exact h2)
   ·cases e
 ·rename_i args tys ho
  exact Y15s h ho e vc
 ·rename_i T m x ok ho
  refine Y1by h ho e vc λi h1 h2=>hroom i h1 ?_
  have hl:r.new.length<=1:=by
   unfold eLookup at e
   split at e
   ·split at e
    ·split at e
     ·split at e
      ·split at e
       ·simp only[aa,al]at e;obtain⟨rfl,_⟩:=e;simp
       ·split at e
        ·simp only[aa,al]at e;obtain⟨rfl,_⟩:=e;simp
        ·cases e
       ·simp only[aa,al]at e;obtain⟨rfl,_⟩:=e;simp
       ·cases e
      ·cases e
     ·cases e
    ·cases e
   ·cases e
  simp only[Ynx,ho];omega
 ·rename_i T hint ho
  refine Y19u h ho e vc λi h1 h2=>hroom i h1 ?_
  have hl:r.new.length<=1:=by
   unfold Y114 at e
   split at e
   ·split at e
    ·simp only[aa,al]at e;obtain⟨rfl,_⟩:=e;simp
    ·cases e
   ·cases e
  simp only[Ynx,ho];omega
 ·rename_i T m x y ho
  exact Yww h (.inl ho) e vc
 ·rename_i T m x y ho
  exact Yww h (.inr ho) e vc
 ·rename_i op T x y z ho
  split at e
  ·rename_i r' hr
   obtain⟨x1,it1,q1⟩:=r'
   simp only[aa,al]at e
   obtain⟨rfl,rfl,rfl⟩:=e
   obtain⟨h1,h2⟩:=Yy9 h hr vc
   exact⟨Y13v h h1 n,h2⟩
  ·cases hr:eMapNil P s op T x y with
   | none=>
    simp only[hr]at e
    cases hr2:eSliceNil P s op T x y with
    | none=>simp[hr2]at e
    | some r'=>
     obtain⟨x1,it1⟩:=r'
     simp only[hr2,aP,aa,al]at e
     obtain⟨rfl,rfl,rfl⟩:=e
     exact Y18c h ho hr2 vc
   | some r'=>
    simp only[hr,aa,al]at e
    obtain⟨rfl,rfl,rfl⟩:=e
    exact⟨Y1c2 h ho hr,vc⟩
 ·rename_i src dst x ho
  split at e
  ·rename_i hb
   simp only[af,beq_iff_eq]at hb
   obtain⟨rfl,hb⟩:=hb
   cases hr:eMark s x with
   | none=>simp[hr]at e
   | some r'=>
    simp only[hr,aP,aa,al]at e
    obtain⟨rfl,rfl,rfl⟩:=e
    exact⟨Y1ho h ho hb hr,vc⟩
  ·cases hr:vop P s o q with
   | none=>simp[hr]at e
   | some r'=>
    obtain⟨x,it1,q1⟩:=r'
    simp only[hr,aP,aa,al]at e
    obtain⟨rfl,rfl,rfl⟩:=e
    obtain⟨h1,h2⟩:=Yy9 h hr vc
    exact⟨Y13v h h1 n,h2⟩
 ·rename_i T x ho
  split at e
  ·rename_i r1 hr
   simp only[aa]at e;subst e
   refine Y182 h ho hr vc λi h1 h2=>hroom i h1 ?_
   have hl:r.new.length<=2:=by
    unfold eLoadPull at hr
    repeat (split at hr<;>first|(cases hr;done)|skip)
    rename_i hc
    simp only[aa,al]at hr;obtain⟨rfl,_⟩:=hr
    simp only[af]at hc
    exact bz hc.2.2
   simp only[Ynx,ho];omega
  ·cases hr:vop P s o q with
   | none=>simp[hr]at e
   | some r'=>
    obtain⟨x,it1,q1⟩:=r'
    simp only[hr,aP,aa,al]at e
    obtain⟨rfl,rfl,rfl⟩:=e
    obtain⟨h1,h2⟩:=Yy9 h hr vc
    exact⟨Y13v h h1 n,h2⟩
 ·cases hr:vop P s o q with
  | none=>simp[hr]at e
  | some r'=>
   obtain⟨x,it1,q1⟩:=r'
   simp only[hr,aP,aa,al]at e
   obtain⟨rfl,rfl,rfl⟩:=e
   obtain⟨h1,h2⟩:=Yy9 h hr vc
   exact⟨Y13v h h1 n,h2⟩
def Y1tx (P:Program) (s:St) (o:Oper) (n:Nat) (q:List Orc):Option (Res×List Item×List Orc):=
 match o.op with
 | .call { callee:=.value (.func f),args:=args,.. }=>match Y15b P s f args n q with
  | some r=>some r
  | none=>aop P s o n q
 | _=>aop P s o n q
theorem Y1m7 (h:Rel E s ι a w) {o:Oper}{n:Nat}{r:Res}{it:List Item}{q q':List Orc}{K:Prop}(e:Y1tx P s o n q=some (r,it,q')) (vc:VC it K) (hroom:Yqw s n (Ynx o)) :
  EOK P E s a w o n r/\K:=by
 unfold Y1tx at e
 split at e
 ·rename_i f args tys ho
  split at e
  ·rename_i r0 hr0
   simp only[aa]at e;subst e
   exact Y18y h ho hr0 vc λi h1 h2=>hroom i h1 (by simp only[Ynx,ho];exact h2)
  ·exact Y12v h e vc hroom
 ·exact Y12v h e vc hroom
end
def Yoy {α:Type}(f:α->(α->Prop)->Prop):List α->(List α->Prop)->Prop
 | [],k=>k []
 | a :: l,k=>f a λa=>Yoy f l λl=>k (a :: l)
theorem Ynl {α:Type}{f:α->(α->Prop)->Prop}(hf:∀ a k,f a k=k a):∀ (l:List α) (k:List α->Prop),Yoy f l k=k l
 | [],k=>rfl
 | a :: l,k=>by rw[Yoy,hf,Ynl hf l]
def fId {α:Type}(a:α) (k:α->Prop):Prop:=k a
theorem Y1h8 {α:Type}(a:α) (k:α->Prop):fId a k=k a:=rfl
def Yqb:Nat->(Nat->Prop)->Prop
 | 0,k=>k 0
 | n+1,k=>k (n+1)
theorem Ypv:∀ (n:Nat) (k:Nat->Prop),Yqb n k=k n
 | 0,_=>rfl
 | _+1,_=>rfl
def fV:Value->(Value->Prop)->Prop
 | .bool b,k=>k (.bool b)
 | .int kd n,k=>k (.int kd n)
 | .string s,k=>k (.string s)
 | v,k=>k v
theorem Y1n7 (v:Value) (k:Value->Prop):fV v k=k v:=by cases v<;>rfl
def Y148:Cell->(Cell->Prop)->Prop
 | .lit v,k=>fV v λv=>k (.lit v)
 | .list es,k=>k (.list es)
 | .any,k=>k .any
 | .cap v,k=>fV v λv=>k (.cap v)
 | .clo f v,k=>Yqb f λf=>fV v λv=>k (.clo f v)
theorem Y1s6 (c:Cell) (k:Cell->Prop):Y148 c k=k c:=by
 cases c with
 | lit v=>rw[Y148,Y1n7]
 | list es=>rfl
 | any=>rfl
 | cap v=>rw[Y148,Y1n7]
 | clo f v=>rw[Y148,Ypv,Y1n7]
def fAC:AC->(AC->Prop)->Prop
 | .top,k=>k .top
 | .val c,k=>Y148 c λc=>k (.val c)
 | .ref i,k=>Yqb i λi=>k (.ref i)
 | .bor i c,k=>Yqb i λi=>Y148 c λc=>k (.bor i c)
 | .ptr i o,k=>Yqb i λi=>Yqb o λo=>k (.ptr i o)
 | .eptr i j o,k=>Yqb i λi=>Yqb o λo=>k (.eptr i j o)
 | .iptr src cs,k=>match src with
  | none=>k (.iptr none cs)
  | some i=>Yqb i λi=>k (.iptr (some i) cs)
 | .sub i j p,k=>Yqb i λi=>Yqb p λp=>k (.sub i j p)
 | .mref i,k=>Yqb i λi=>k (.mref i)
theorem Y1d6 (c:AC) (k:AC->Prop):fAC c k=k c:=by
 cases c with
 | iptr src cs=>cases src<;>simp[fAC,Ypv]
 | _=>simp[fAC,Ypv,Y1s6]
def fSV:SV->(SV->Prop)->Prop
 | .one c,k=>fAC c λc=>k (.one c)
 | .agg cs,k=>Yoy fAC cs λcs=>k (.agg cs)
theorem Y1ox (x:SV) (k:SV->Prop):fSV x k=k x:=by
 cases x with
 | one c=>simp[fSV,Y1d6]
 | agg cs=>simp[fSV,Ynl Y1d6]
def fAV:AV->(AV->Prop)->Prop
 | .sv x,k=>fSV x λx=>k (.sv x)
 | .tup l,k=>Yoy fSV l λl=>k (.tup l)
theorem Y1r1 (x:AV) (k:AV->Prop):fAV x k=k x:=by
 cases x with
 | sv x=>simp[fAV,Y1ox]
 | tup l=>simp[fAV,Ynl Y1ox]
def fOb:Ob->(Ob->Prop)->Prop
 | .free,k=>k .free
 | .dead,k=>k .dead
 | .box cs,k=>Yoy fAC cs λcs=>k (.box cs)
 | .arr own sz es,k=>match own with
  | true=>k (.arr true sz es)
  | false=>k (.arr false sz es)
 | .map nn kd f,k=>k (.map nn kd f)
theorem Y1g6 (o:Ob) (k:Ob->Prop):fOb o k=k o:=by
 cases o with
 | box cs=>simp[fOb,Ynl Y1d6]
 | arr own sz es=>cases own<;>rfl
 | _=>rfl
def fSt (s:St) (k:St->Prop):Prop:=match s with
 | ⟨regs,objs,m⟩=>Yoy fAV regs λregs=>Yoy fOb objs λobjs=>Yqb m λm=>k ⟨regs,objs,m⟩
theorem Yx7 (s:St) (k:St->Prop):fSt s k=k s:=by
 cases s;simp[fSt,Ynl Y1r1,Ynl Y1g6,Ypv]
def Y1s9 (p:Nat×Ob) (k:Nat×Ob->Prop):Prop:=match p with
 | (i,o)=>Yqb i λi=>fOb o λo=>k (i,o)
theorem Y1yn (p:Nat×Ob) (k:Nat×Ob->Prop):Y1s9 p k=k p:=by
 cases p;simp[Y1s9,Ypv,Y1g6]
def Y1tl (r:Res) (k:Res->Prop):Prop:=match r with
 | ⟨val,new,upd,inv⟩=>fAV val λval=>Yoy fOb new λnew=>Yoy Y1s9 upd λupd=>Yoy Yqb inv λinv=>k ⟨val,new,upd,inv⟩
theorem Y1xj (r:Res) (k:Res->Prop):Y1tl r k=k r:=by
 cases r;simp[Y1tl,Y1r1,Ynl Y1g6,Ynl Y1yn,Ynl Ypv]
inductive StuckOp (s:St) (o:Oper) (n:Nat):Prop
inductive StuckB (b:Bool):Prop
inductive StuckGuard (s:St) (o:Oper):Prop
inductive StuckGhost (s:St) (g:Ghost):Prop
inductive StuckLoop (s:St) (c:Code):Prop
inductive StuckFin (s:St):Prop
inductive StuckPull (s:St) (o:Oper):Prop
inductive StuckOut (e:AEx) (s:St):Prop
inductive StuckCode (c:Code):Prop
inductive StuckCond (s:St) (x:Operand):Prop
def Y1gm:Ob->List Ob->List Ob
 | .free,[]=>[]
 | o,acc=>o :: acc
def Y1la:List Ob->List Ob
 | []=>[]
 | o :: l=>Y1gm o (Y1la l)
theorem Y1h2 (o:Ob) (l:List Ob) (i:Nat):(Y1gm o l).getD i .free=(o :: l).getD i .free:=by
 cases o<;>cases l<;>first|rfl|(cases i<;>rfl)
theorem Y1dn:∀ (l:List Ob) (i:Nat),(Y1la l).getD i .free=l.getD i .free
 | [],_=>rfl
 | o :: l,i=>by
  rw[Y1la,Y1h2]
  cases i with
  | zero=>rfl
  | succ i=>exact Y1dn l i
def St.grow (s:St) (k:Nat):St:={ s with objs:=s.objs++List.replicate k .free }
def St.shrink (s:St):St:={ s with objs:=Y1la s.objs }
theorem Y1mx (s:St):s.shrink.obj=s.obj:=funext λi=>Y1dn s.objs i
theorem Yqs (s:St) (k:Nat):(s.grow k).obj=s.obj:=by
 funext i
 simp only[St.grow,St.obj,ao,bY,List.getElem?_replicate]
 by_cases h:i<s.objs.length
 ·simp[h]
 ·rw[ab h,bf (cG h)]
  split<;>rfl
section
variable {P:Program}{E:Ent P}{s:St}{ι:Interp}{a:Act}{w:World}
theorem Rel.shrink (h:Rel E s ι a w):Rel E s.shrink ι a w:=h.sameObj rfl (Y1mx s) rfl
theorem Rel.grow (h:Rel E s ι a w) (k:Nat):Rel E (s.grow k) ι a w:=h.sameObj rfl (Yqs s k) rfl
theorem Rel.world (h:Rel E s ι a w) {w':World}(hh:w'.heap=w.heap) (ho:w'.os=w.os) (hp:w'.output=w.output):Rel E s ι a w':=by
 have hb:∀ b:Nat,w'.heap[b]? = w.heap[b]? := λb=>by rw[hh]
 have hx:Ext (λ_=>True) w ι s.obj w' ι s.obj:=⟨λb hg=>⟨hg,hb b⟩,λi=>by cases s.obj i<;>simp[Ync,hb]<;>exact λb hf=>.inl hf⟩
 refine Rel.step h hx (λt=>.inl ⟨rfl,λ_ _ _ _=>trivial⟩) rfl rfl (λi=>.inl ⟨rfl,⟨rfl,rfl,λb=>dQ,λb _=>hb b⟩,λ_ _ _ _=>trivial⟩)
  h.disj h.gfp h.own (by rw[hh];exact h.lt) (by rw[hh];exact h.glt) (λb _ _=>hb b) (by rw[hh];exact aC _) ho hp
theorem Yye (s:St) (k:Nat):Yqw (s.grow k) s.objs.length k:=by
 intro i h1 h2
 refine⟨?_,by simp[St.grow];omega⟩
 rw[Yqs]
 simp[St.obj,bf h1]
def St.bit (s:St) (t:Nat):Option (Option Bool):=match s.reg t with
 | .sv (.one (.val (.lit (.bool b))))=>some (some b)
 | .tup []=>some none
 | _=>none
def Ysj (ops:Array Oper) (s:St) (o:Oper):Option Bool:=
 match o.guard with
 | none=>some true
 | some (g,want)=>match (ops[g]?).bind (·.dst) with
  | some t=>match s.bit t with
   | some (some b)=>some (b == want)
   | some none=>some false
   | none=>none
  | none=>none
def Y21n:Option Bool->Value->Prop
 | some b,v=>v=.bool b
 | none,v=>∃ arr,v=.tuple arr
theorem Y1o2 {s:St}{t:Nat}{x:Option Bool}(e:s.bit t=some x):t<s.regs.length:=by
 rcases bH t s.regs.length with h|h
 ·exact h
 ·simp[St.bit,St.reg,bf h]at e
theorem Y1ku (h:Rel E s ι a w) {t:Nat}{x:Option Bool}(e:s.bit t=some x):∃ v,a.tmps[t]? = some v/\Y21n x v:=by
 have hr:=h.regs t
 have ht:=Y1o2 e
 rw[h.len]at ht
 refine⟨a.tmps.getD t undef,by simp[ht],?_⟩
 unfold St.bit at e
 split at e
 ·rename_i b hb
  simp only[aa]at e;subst e
  rw[hb]at hr
  exact(Rd.lit_inv (show Rd w ι.G _ (.lit (.bool b)) from hr.1)).1
 ·rename_i hb
  simp only[aa]at e;subst e
  rw[hb]at hr
  obtain⟨arr,e1,e2⟩:=hr
  exact⟨arr,e1⟩
 ·cases e
theorem Ywd (h:Rel E s ι a w) {ops:Array Oper}{o:Oper}{b:Bool}(e:Ysj ops s o=some b):Region.wanted o (yielded ops a.tmps)=b:=by
 unfold Ysj at e
 unfold Region.wanted
 split at e
 ·rename_i hg;simp only[aa]at e;subst e;simp[hg]
 ·rename_i g want hg
  simp only[hg]
  split at e
  ·rename_i t ht
   unfold yielded
   rw[ht]
   simp only[dE]
   split at e
   ·rename_i x hx
    simp only[aa]at e;subst e
    obtain⟨v,h1,h2⟩:=Y1ku h hx
    simp only[Y21n]at h2
    subst h2
    rw[h1];rfl
   ·rename_i hx
    simp only[aa]at e;subst e
    obtain⟨v,h1,arr,rfl⟩:=Y1ku h hx
    rw[h1];rfl
   ·cases e
  ·cases e
def Y1ve (ops:Array Oper) (i:Nat):Bool:=ops.any λo=>match o.guard with|some (g,_)=>g == i|none=>false
def Yyt (b:Bool):AV:=.sv (.one (.val (.lit (.bool b))))
def Y19e (s:St) (t:Nat) (q:List Orc) (k:St->List Orc->Prop):Prop:=
 match s.reg t with
 | .sv (.one (.val (.lit (.bool b))))=>match q with
  | .bool d :: q=>b=d/\k (s.put (some t) (Yyt d)) q
  | .br l r :: _=>(b->k (s.put (some t) (Yyt true)) l)/\(b=false->k (s.put (some t) (Yyt false)) r)
  | _=>StuckB b
 | .tup []=>k s q
 | _=>k s q
theorem Yv0 (a:Act) (t:Nat):a.put (some t) (a.tmps.getD t undef)=a:=by
 simp only[Act.put]
 congr 1
 apply Array.ext_getElem?
 intro i
 rw[cF]
 by_cases h:t=i
 ·subst h
  by_cases hs:t<a.tmps.size
  ·simp[hs]
  ·simp[hs]
 ·simp[h]
theorem Y1hz (h:Rel E s ι a w) {t:Nat}{q:List Orc}{k:St->List Orc->Prop}(hd:Y19e s t q k):∃ s' q',k s' q'/\Rel E s' ι a w:=by
 unfold Y19e at hd
 split at hd
 ·rename_i b hb
  have hr:=h.regs t
  rw[hb]at hr
  have hput:∀ d,b=d->Rel E (s.put (some t) (Yyt d)) ι a w:=by
   rintro d rfl
   have:=Rel.put h (some t) (x:=Yyt b) (v:=a.tmps.getD t undef) hr
   rwa [Yv0]at this
  split at hd
  ·exact⟨_,_,hd.2,hput _ hd.1⟩
  ·cases b
   ·exact⟨_,_,hd.2 rfl,hput _ rfl⟩
   ·exact⟨_,_,hd.1 rfl,hput _ rfl⟩
  ·cases hd
 ·exact⟨_,_,hd,h⟩
 ·exact⟨_,_,hd,h⟩
def Y199 (src:Bool) (dst:Option Nat) (s:St) (q:List Orc) (k:St->List Orc->Prop):Prop:=
 match src,dst with
 | true,some t=>Y19e s t q k
 | _,_=>k s q
theorem Y1hq (h:Rel E s ι a w) {src:Bool}{dst:Option Nat}{q:List Orc}{k:St->List Orc->Prop}(hd:Y199 src dst s q k):∃ s' q',k s' q'/\Rel E s' ι a w:=by
 unfold Y199 at hd
 split at hd
 ·exact Y1hz h hd
 ·exact⟨_,_,hd,h⟩
theorem Y1ae {ob:Nat->Ob}:Ymg w ι ob (.tup []) undef:=⟨#[],rfl,trivial⟩
end
end Go.Proofs.YtcbodhkhppgkiaaGreat.Ab
end
