/- Part 4 of a proof. No condition. -/
import Derived.Test.YtclpofblehlojaaGreatIng3
set_option linter.unusedVariables false
set_option linter.unusedSimpArgs false
section
namespace Go.Proofs.YtclpofblehlojaaGreat
open Go Ab
theorem Y14n {c:List YC} {u:Nat} (h:u<c.length):((c.take u).map Yp3++(c.drop u).map Yfo)[u]? = some (Yg7 (c.getD u default)):=by
 rw [<- Row.eq (C:=Yfo) (F:=Yg7)]; exact Y1co h
theorem Y146 {c:List YC} {u:Nat} (h:u<c.length):((c.take u).map Yp3++(c.drop u).map Yfo).set u (Yp3 (c.getD u default))=(c.take (u+1)).map Yp3++(c.drop (u+1)).map Yfo:=Y1bi h
theorem Y1a3 {c:List YC} {u:Nat} (h:u<c.length):u<(c.take u).length+(c.drop u).length:=by
 rw [List.length_take,List.length_drop]; omega
theorem Y16d (L:List YC) (u:Nat) (x:YC) (y:List Cell) (h:Yg7 x=y):(L.map Yfo).set u y=(L.set u x).map Yfo:=by
 subst h; rw [List.map_set,Row.eq (C:=Yfo) (F:=Yg7)]
theorem Y1hh {α:Type} (l:List α) (z v:α):(l++[z]).set l.length v=l++[v]:=by
 rw [List.set_append_right _ _ (Nat.le_refl _)]; simp
theorem Y1ga (E:List YC) (z:List Cell) (x:YC):(E.map Yfo++[z]).set E.length (Yg7 x)=(E++[x]).map Yfo:=by
 have:=Y1hh (E.map Yfo) z (Yg7 x)
 rw [List.length_map] at this
 rw [this]; exact Yfs (C:=Yfo) E x
theorem Y11i {V:List YC} {R:List (List YC)} {c:List YC} {u:Nat} (z:List Cell) (h:u<V.length) :
  ((Yhr V R c u).map Yfo).set u [cI ((Yhr V R c u).getD u default).name.kind,cI ((Yhr V R c u).getD u default).name.number,cS ((Yhr V R c u).getD u default).name.text,
   Cell.list (List.map Yfr ((Yhr V R c u).getD u default).name.scopes),Cell.list (List.map Yfn ((Yhr V R c u).getD u default).name.items),cI ((Yhr V R c u).getD u default).depth,
   cI ((Yhr V R c u).getD u default).form.kind,cI ((Yhr V R c u).getD u default).form.number,cS ((Yhr V R c u).getD u default).form.text,
   Cell.list (List.map Yfr ((Yhr V R c u).getD u default).form.scopes),Cell.list (List.map Yfn ((Yhr V R c u).getD u default).form.items),
   Cell.list ((List.map Yfo ((Yhr V R c u).getD u default).each++[z]).set ((Yhr V R c u).getD u default).each.length (Yg7 (c.getD u default)))]=(Yhr V R c (u+1)).map Yfo:=by
 rw [Y1ga]
 have e:=Y16d (Yhr V R c u) u ⟨((Yhr V R c u).getD u default).name,((Yhr V R c u).getD u default).depth,((Yhr V R c u).getD u default).form,((Yhr V R c u).getD u default).each++[c.getD u default]⟩ _ rfl
 refine Eq.trans e ?_
 rw [Y16m h,Y1ec h]
theorem Y16b (H:YS->Bool) (A:List YS->Int):∀ (p:YS) (d:Int),∀ y∈nm H A p d,y.each=[]:=by
 intro p
 refine YS.ind (P:=fun p=>∀ d,∀ y∈nm H A p d,y.each=[]) (fun p ih d y hy => ?_) p
 rw [Yl2] at hy
 split at hy
 ·split at hy
  ·cases hy
  ·rw [List.mem_singleton] at hy; subst hy; rfl
 ·split at hy
  ·have go:∀ (l:List YS) (i a e:Int),(∀ x∈l,∀ d,∀ y∈nm H A x d,y.each=[])->∀ y∈nms H A l i a e,y.each=[]:=by
    intro l
    induction l with
    | nil=>intro i a e _ y hy; simp [nms] at hy
    | cons x r ihr=>
     intro i a e hl y hy
     rw [nms] at hy
     rcases List.mem_append.1 hy with hy | hy
     ·revert hy; repeat' split
      all_goals (intro hy; first | cases hy | exact hl x List.mem_cons_self _ y hy)
     ·exact ihr _ _ _ (fun z hz=>hl z (List.mem_cons_of_mem _ hz)) y hy
   exact go p.items _ _ _ ih y hy
  ·cases hy
theorem Y16x {V:List YC} {R:List (List YC)} {c:List YC} {u:Nat} (hV:∀ y∈V,y.each=[]) (h:u<V.length):((Yhr V R c u).getD u default).each.length=R.length:=by
 rw [Y16m h,Y15m h]
 simp only [List.length_append,List.length_map]
 rw [hV _ (Yfx h)]; simp
section
variable {B:List YB} {Ls:List YS} {p f:YS} {o:List YC} {s t u:Nat}
theorem Y1gx (h:(gS B Ls (p.items.getD s default) (f.items.getD (kS B Ls p f o s+t) default)).isSome=true):(Ylv B Ls p f o s t).length=(nS Ls (p.items.getD s default)).length:=by
 obtain ⟨c,hc⟩:=Option.isSome_iff_exists.1 h
 unfold Ylv; rw [hc]; exact Y1fa hc
theorem Y1dy (hq:qS B Ls p f o s t=true) (h:((gS B Ls (p.items.getD s default) (f.items.getD (kS B Ls p f o s+t) default)).isSome||decide (u=0))=true)
  (hc:(gS B Ls (p.items.getD s default) (f.items.getD (kS B Ls p f o s+t) default)).isSome=false ∨ (nS Ls (p.items.getD s default)).length<=u) :
  (Yhr (nS Ls (p.items.getD s default)) (rS B Ls p f o s t) (Ylv B Ls p f o s t) u).map Yfo=(rp (nS Ls (p.items.getD s default)) (rS B Ls p f o s (t+1))).map Yfo:=by
 cases hg:gS B Ls (p.items.getD s default) (f.items.getD (kS B Ls p f o s+t) default) with
 | none=>
  rw [hg] at h
  have hu:u=0:=by simpa using h
  rw [hu,Yuc,(Y10l hq hg).1]
 | some c=>
  rw [hg] at hc
  have hu:(nS Ls (p.items.getD s default)).length<=u:=by simpa using hc
  have e1:Ylv B Ls p f o s t=c:=by unfold Ylv; rw [hg]; rfl
  rw [Y14l hu,e1,(Y102 hq hg).1]
theorem Y1e7 (hu:u<(nS Ls (p.items.getD s default)).length):((Yhr (nS Ls (p.items.getD s default)) (rS B Ls p f o s t) (Ylv B Ls p f o s t) u).getD u default).each.length=(rS B Ls p f o s t).length:=
 Y16x (Y16b _ _ _ _) hu
end
section
variable {B:List YB} {Ls:List YS} {p f:YS} {o:List YC}
theorem Y1qy (ha:0<=aS p.items) (hm:0<=(f.items.length:Int) - ((p.items.length:Int) - 2)):(mS p f:Int)=(f.items.length:Int) - ((p.items.length:Int) - 2):=by
 unfold mS Yli; rw [if_pos ha]; omega
theorem Y1qa (ha:aS p.items<0):mS p f=0:=by
 unfold mS Yli; rw [if_neg (by omega)]; rfl
theorem Y1rn (hk:f.kind=0) (ha:0<=aS p.items) (hm:0<=(f.items.length:Int) - ((p.items.length:Int) - 2)):fS p f=true:=by
 rw [Yvz]; unfold Yli; rw [if_pos ha]; simp only [hk,ha,hm,decide_true,Bool.true_or,Bool.and_true]
theorem Y1rq (hk:f.kind=0) (ha:aS p.items<0) (hm:f.items.length=p.items.length):fS p f=true:=by
 rw [Yvz]; unfold Yli; rw [if_neg (by omega)]; simp [hk,hm]
theorem Y16y (h0:p.kind=0) (h:fS p f=false):smO p o (gS B Ls p f)=[]/\(gS B Ls p f).isSome=false:=by
 rw [Y1mt h0 h]; exact ⟨Ynz h0,rfl⟩
theorem Y1pc (h0:p.kind=0) (hk:¬ f.kind=0):smO p o (gS B Ls p f)=[]/\(gS B Ls p f).isSome=false:=by
 refine Y16y h0 ?_
 rw [Yvz]; simp [hk]
theorem Y1q1 (h0:p.kind=0) (ha:0<=aS p.items) (hm:(f.items.length:Int) - ((p.items.length:Int) - 2)<0):smO p o (gS B Ls p f)=[]/\(gS B Ls p f).isSome=false:=by
 refine Y16y h0 ?_
 rw [Yvz]; unfold Yli; rw [if_pos ha]
 have:¬ 0<=(f.items.length:Int) - ((p.items.length:Int) - 2):=by omega
 simp only [this,decide_false,Bool.and_false,Bool.false_and]
theorem Y1pt (h0:p.kind=0) (ha:aS p.items<0) (hm:¬ f.items.length=p.items.length):smO p o (gS B Ls p f)=[]/\(gS B Ls p f).isSome=false:=by
 refine Y16y h0 ?_
 rw [Yvz]
 have:¬ 0<=aS p.items:=by omega
 simp only [this,hm,decide_false,Bool.or_false,Bool.and_false]
theorem Y1pa (h0:p.kind=0) (hf:fS p f=true) (hb:bS B Ls p f o p.items.length=true):smO p o (gS B Ls p f)=oS B Ls p f o p.items.length/\(gS B Ls p f).isSome=true:=by
 have h:=@Y1fl B Ls p f o h0 hf
 rw [if_pos hb] at h; exact ⟨h.2,h.1.trans hb⟩
theorem Y1pq (h0:p.kind=0) (hf:fS p f=true) (hb:bS B Ls p f o p.items.length=false):smO p o (gS B Ls p f)=[]/\(gS B Ls p f).isSome=false:=by
 have h:=@Y1fl B Ls p f o h0 hf
 rw [if_neg (by rw [hb]; simp)] at h; exact ⟨h.2,h.1.trans hb⟩
end
section
variable {B:List YB} {Ls:List YS} {p f:YS} {t u:Nat}
theorem Y1f4 (hq:qI B Ls p f t=true) (h:(gI B Ls (xI p) (f.items.getD (aT p+t) default)).isSome=true) (hc:(nI Ls (xI p)).length<=u) :
  (Yhr (nI Ls (xI p)) (rI B Ls p f t) (Ykz B Ls p f t) u).map Yfo=(rp (nI Ls (xI p)) (rI B Ls p f (t+1))).map Yfo:=by
 rw [Y14l hc,(Y18j hq h).1]
theorem Y1e8 (hu:u<(nI Ls (xI p)).length):((Yhr (nI Ls (xI p)) (rI B Ls p f t) (Ykz B Ls p f t) u).getD u default).each.length=(rI B Ls p f t).length:=
 Y16x (Y16b _ _ _ _) hu
end
def atB (p:YS) (s:Nat):Bool:=decide (s<p.items.length)&&decide ((s:Int)+1=aS p.items)
theorem Yrv {p:YS} {s:Nat} (h:atB p s=true):s<p.items.length/\(s:Int)+1=aS p.items:=by
 simpa [atB] using h
theorem Y1ol {p:YS} {s:Nat} (h:s<p.items.length) (h2:(s:Int)+1=aS p.items):atB p s=true:=by
 simp [atB,h,h2]
theorem Y13c (Ls:List YS) (x:YS):(vrS Ls x 0 []).getD []=eV Ls x:=rfl
theorem Yz3 (l:List YS):(if okS l=true then atS l else (-1:Int))=aS l:=rfl
theorem Y1ia (H:YS->Bool) (A:List YS->Int):∀ (p:YS) (d:Int),∀ y∈nm H A p d,d<=y.depth/\y.depth<=d+Yge p:=by
 intro p
 refine YS.ind (P:=fun p=>∀ d,∀ y∈nm H A p d,d<=y.depth/\y.depth<=d+Yge p) (fun p ih d y hy => ?_) p
 rw [Yl2] at hy
 split at hy
 ·split at hy
  ·cases hy
  ·rw [List.mem_singleton] at hy; subst hy
   have:(Ynw p d).depth=d:=rfl
   omega
 ·split at hy
  ·have go:∀ (l:List YS) (i a e:Int) (n:Nat),(∀ x∈l,Yge x+1<=n/\∀ d,∀ y∈nm H A x d,d<=y.depth/\y.depth<=d+Yge x)->∀ y∈nms H A l i a e,e<=y.depth/\y.depth<=e+n:=by
    intro l
    induction l with
    | nil=>intro i a e n _ y hy; simp [nms] at hy
    | cons x r ihr=>
     intro i a e n hl y hy
     rw [nms] at hy
     have hx:=hl x List.mem_cons_self
     rcases List.mem_append.1 hy with hy | hy
     ·revert hy; repeat' split
      all_goals (intro hy; first | cases hy | (have:=hx.2 _ y hy; omega))
     ·exact ihr _ _ _ n (fun z hz=>hl z (List.mem_cons_of_mem _ hz)) y hy
   refine go p.items _ _ _ _ (fun x hx=>⟨?_,ih x hx⟩) y hy
   obtain ⟨k,hk,e⟩:=Yt6 hx
   rw [<- e]; exact Yjj hk
  ·cases hy
section
variable {B:List YB} {Ls:List YS} {p f:YS} {o:List YC} {s t u k1:Nat}
theorem Yoc {x:YS} (h:s<x.items.length):wY (x.items.getD s default)<=wY x/\Yft (x.items.getD s default)<=Yft x/\Yge (x.items.getD s default)<=Yge x/\x.items.length<=wY x/\x.items.getD s default∈x.items:=by
 have h1:=Yj5 h
 have h2:=Yjj h
 have h3:=Yhn x
 exact ⟨h1.2,by omega,by omega,by omega,Yfx h⟩
theorem Y1af (x:YS):x.items.length<=wY x:=by have:=Yhn x; omega
theorem Y1i3 (hg:good Ls p) (h0:p.kind=0) (h:atB p s=true):good Ls (p.items.getD s default):=by
 have h:=Yrv h
 have h1:=Yti hg h0 h.1 h.2
 exact ⟨Yjd hg.1 _ (Yfx h.1),0,[],_,Int.le_refl _,h1.1⟩
theorem Y1jc (hg:good Ls p) (h0:p.kind=0) (h:atB p s=true):eV Ls (p.items.getD s default)=nm (Ygw Ls) aS (p.items.getD s default) 0:=by
 have h:=Yrv h
 unfold eV; rw [(Yti hg h0 h.1 h.2).1]; rfl
theorem Y1kt (hg:good Ls p) (h0:p.kind=0) (h:atB p s=true):(eV Ls (p.items.getD s default)).length<=Yft p:=by
 have h1:=Yrv h
 rw [Y1jc hg h0 h]
 have h2:=Yrw (Ygw Ls) aS (p.items.getD s default) 0
 have h3:=Yoc h1.1
 omega
theorem Y1gf (hg:good Ls p) (h0:p.kind=0) (h:atB p s=true) (hd:Yge p<=40) (hu:u<(eV Ls (p.items.getD s default)).length):0<=((Yh3 (eV Ls (p.items.getD s default)) u).getD u default).depth/\((Yh3 (eV Ls (p.items.getD s default)) u).getD u default).depth<=40:=by
 have h1:=Yrv h
 have h3:=Yoc h1.1
 rw [Y12v hu]
 have hm:=Yfx hu
 rw [Y1jc hg h0 h] at hm ⊢
 have:=Y1ia (Ygw Ls) aS (p.items.getD s default) 0 _ hm
 omega
theorem Y1kx {V:List YC} (h:u<V.length) :
  ((Yh3 V u).map Yfo).set u [cI ((Yh3 V u).getD u default).name.kind,cI ((Yh3 V u).getD u default).name.number,cS ((Yh3 V u).getD u default).name.text,
   Cell.list (List.map Yfr ((Yh3 V u).getD u default).name.scopes),Cell.list (List.map Yfn ((Yh3 V u).getD u default).name.items),cI (((Yh3 V u).getD u default).depth+1),
   cI ((Yh3 V u).getD u default).form.kind,cI ((Yh3 V u).getD u default).form.number,cS ((Yh3 V u).getD u default).form.text,
   Cell.list (List.map Yfr ((Yh3 V u).getD u default).form.scopes),Cell.list (List.map Yfn ((Yh3 V u).getD u default).form.items),
   Cell.list (List.map Yfo ((Yh3 V u).getD u default).each)]=(Yh3 V (u+1)).map Yfo:=by
 have e:=Y16d (Yh3 V u) u (upC ((Yh3 V u).getD u default)) _ rfl
 refine Eq.trans e ?_
 rw [Y12v h,Y1cv h]
theorem Y1mk (hg:good Ls p) (h0:p.kind=0) (h:atB p s=true) (hu:(eV Ls (p.items.getD s default)).length<=u):(Yh3 (eV Ls (p.items.getD s default)) u).map Yfo=(nS Ls (p.items.getD s default)).map Yfo:=by
 have h1:=Yrv h
 rw [Y1hg hu,(Y1r6 hg h0 h1.1 h1.2).1]
theorem Y1gk:(smO (p.items.getD s default) [] (gS B Ls (p.items.getD s default) (f.items.getD (kS B Ls p f o s+t) default))).map Yfo=((Ylv B Ls p f o s t).take 0).map Yp3++(Ylv B Ls p f o s t).map Yfo:=by
 rw [Yvi]; rfl
theorem Y1nk (hq:qS B Ls p f o s t=true):(gS B Ls (p.items.getD s default) (f.items.getD (kS B Ls p f o s+t) default)).isSome=qS B Ls p f o s (t+1):=by
 cases e:gS B Ls (p.items.getD s default) (f.items.getD (kS B Ls p f o s+t) default) with
 | none=>rw [(Y10l hq e).2]; rfl
 | some c=>rw [(Y102 hq e).2]; rfl
theorem Y1rb (hq:qS B Ls p f o s t=true):(qS B Ls p f o s (t+1)||decide (t+1=(rS B Ls p f o s (t+1)).length+1))=true:=by
 cases e:gS B Ls (p.items.getD s default) (f.items.getD (kS B Ls p f o s+t) default) with
 | none=>rw [(Y10l hq e).1,Y1cu hq]; simp
 | some c=>rw [(Y102 hq e).2]; rfl
end
section
variable {B:List YB} {Ls:List YS} {p f:YS}
theorem Y13g (h:¬ p.text.data.toList=[95]):Yh8 p=false:=decide_eq_false h
theorem Y1ju (hk:p.kind=1) (hu:¬ p.text.data.toList=[95]) (hl:Ygw Ls p=true) (hf:f.kind=1):mng B p f=(gS B Ls p f).isSome:=by
 rw [(Y13m (o:=[]) hk (Y13g hu) hl).1]; simp [hf]
theorem Y1la (hk:p.kind=1) (hu:¬ p.text.data.toList=[95]) (hl:Ygw Ls p=true) (hf:¬ f.kind=1):false=(gS B Ls p f).isSome:=by
 rw [(Y13m (o:=[]) hk (Y13g hu) hl).1]; simp [hf]
theorem Y1ob (hk:p.kind=1) (hu:¬ p.text.data.toList=[95]) (hl:Ygw Ls p=false):true=(gS B Ls p f).isSome:=by
 rw [(Y1fw (o:=[]) hk (Y13g hu) hl).1]; rfl
theorem Y19e {a b:ByteArray}:b=a ↔ a.data.toList=b.data.toList:=
 ⟨fun h=>by rw [h],fun h=>by cases a; cases b; congr 1; exact (Array.toList_inj.1 h).symm⟩
theorem Y1r3 (h1:¬ p.kind=1) (h0:¬ p.kind=0) (hk:p.kind=f.kind) (hn:p.number=f.number):decide (p.text.data.toList=f.text.data.toList)=(gS B Ls p f).isSome:=by
 rw [(Ytc (o:=[]) h1 h0).1]; simp [hk,hn,Y19e]
theorem Y1pj (h1:¬ p.kind=1) (h0:¬ p.kind=0) (hk:p.kind=f.kind) (hn:¬ p.number=f.number):false=(gS B Ls p f).isSome:=by
 rw [(Ytc (o:=[]) h1 h0).1]; simp [hk.symm,show ¬ f.number=p.number from fun h=>hn h.symm]
theorem Y1qx (h1:¬ p.kind=1) (h0:¬ p.kind=0) (hk:¬ p.kind=f.kind):false=(gS B Ls p f).isSome:=by
 rw [(Ytc (o:=[]) h1 h0).1]; simp [show ¬ f.kind=p.kind from fun h=>hk h.symm]
end
section
variable {B:List YB} {Ls:List YS} {p f:YS} {o:List YC} {k:Nat}
theorem Y1bf {b:Bool} (h:(!b)=false):b=true:=by simpa using h
theorem Y1jf {b:Bool} (h:(!b)=true):b=false:=by simpa using h
theorem Y1fj (p:YS):p.items.getD (atI p.items - 1).toNat default=xI p:=rfl
theorem Y19g (h:fI p f=true):(List.take (atI p.items - 1).toNat p.items).length=aT p:=by
 have:=Ypq h
 have e:(atI p.items - 1).toNat=aT p:=rfl
 rw [e,List.length_take]; omega
theorem Y1hi (h:fI p f=true):(atI p.items+1).toNat=aT p+2:=by
 have:=Ypq h; omega
theorem Yp4 {α:Type} (L:List α) (n:Nat):List.take (L.length - n) (List.drop n L)=List.drop n L:=by
 apply List.take_of_length_le; rw [List.length_drop]; exact Nat.le_refl _
theorem Y1i9 (h:fI p f=true):((List.take (p.items.length - (atI p.items+1).toNat) (List.drop (atI p.items+1).toNat p.items)).length:Int)=p.items.length - (aT p+2):=by
 have:=Ypq h
 rw [Yp4,List.length_drop]; omega
theorem Y1ao (h:fI p f=true) (hk:k<mI2 p f) (hq:qI B Ls p f k=true) (hn:(gI B Ls (xI p) (f.items.getD (aT p+k) default)).isSome=false):(gI B Ls p f).isSome=false:=by
 cases e:gI B Ls (xI p) (f.items.getD (aT p+k) default) with
 | none=>rw [Y1if h hk (Y1k5 hq e)]; rfl
 | some c=>rw [e] at hn; cases hn
theorem Y1cs:(smO (xI p) [] (gI B Ls (xI p) (f.items.getD (aT p+k) default))).map Yfo=((Ykz B Ls p f k).take 0).map Yp3++(Ykz B Ls p f k).map Yfo:=by
 rw [Yvi]; rfl
theorem Y1mh (h:k=mI2 p f):(rp (nI Ls (xI p)) (rI B Ls p f k)).map Yfo=(rp (nI Ls (xI p)) (rI B Ls p f (mI2 p f))).map Yfo:=by rw [h]
theorem Y1ns (h:k=mI2 p f) (hq:qI B Ls p f k=true):qI B Ls p f (mI2 p f)=true:=by rw [<- h]; exact hq
end
section
variable {B:List YB} {Ls:List YS} {p f:YS} {o:List YC}
theorem Y1kd (p:YS):p.items.getD (aT p) default=xI p:=rfl
theorem Y1nw (p:YS):(atI p.items - 1).toNat=aT p:=rfl
theorem Y1fd (hg:good Ls p) (h0:p.kind=0) (ha:¬ atI p.items<0):((f.items.length:Int) - ((List.take (atI p.items - 1).toNat p.items).length:Nat) - ((List.take (p.items.length - (atI p.items+1).toNat) (List.drop (atI p.items+1).toNat p.items)).length:Nat))=(f.items.length:Int) - ((p.items.length:Int) - 2):=by
 have h:=(Yot hg h0).2
 rw [Yp4,List.length_drop,List.length_take]; omega
theorem Y1pn (hg:good Ls p) (h0:¬¬p.kind=0) (hf:¬¬f.kind=0) (ha:¬ atI p.items<0) (hc:¬ ((f.items.length:Int) - ((List.take (atI p.items - 1).toNat p.items).length:Nat) - ((List.take (p.items.length - (atI p.items+1).toNat) (List.drop (atI p.items+1).toNat p.items)).length:Nat))<0):fI p f=true:=by
 have h0:=Decidable.not_not.1 h0
 have:=Y1fd (f:=f) hg h0 ha
 exact Y1pv h0 (Decidable.not_not.1 hf) (by omega) hg (by omega)
theorem Y1db (hg:good Ls p) (h0:¬¬p.kind=0) (hf:¬¬f.kind=0) (ha:¬ atI p.items<0) (hc:((f.items.length:Int) - ((List.take (atI p.items - 1).toNat p.items).length:Nat) - ((List.take (p.items.length - (atI p.items+1).toNat) (List.drop (atI p.items+1).toNat p.items)).length:Nat))<0):[]=(smO p o (gI B Ls p f)).map Yfo/\false=(gI B Ls p f).isSome:=by
 have h0:=Decidable.not_not.1 h0
 have:=Y1fd (f:=f) hg h0 ha
 rw [Y1o6 h0 (Decidable.not_not.1 hf) (by omega) (by omega),Ynz h0]; exact ⟨rfl,rfl⟩
theorem Y198 (h0:¬¬p.kind=0) (hf:¬f.kind=0):[]=(smO p o (gI B Ls p f)).map Yfo/\false=(gI B Ls p f).isSome:=by
 have h0:=Decidable.not_not.1 h0
 rw [Y1ki h0 hf,Ynz h0]; exact ⟨rfl,rfl⟩
theorem Y19v (h0:¬¬p.kind=0) (hf:¬¬f.kind=0) (ha:atI p.items<0) (hl:¬ (p.items.length:Int)=(f.items.length:Int)):[]=(smO p o (gI B Ls p f)).map Yfo/\false=(gI B Ls p f).isSome:=by
 have h0:=Decidable.not_not.1 h0
 rw [Y1ij h0 (Decidable.not_not.1 hf) ha (by omega),Ynz h0]; exact ⟨rfl,rfl⟩
theorem Y1cq (hf:fI p f=true) (h:(!(alM (gI B Ls) (List.take (aT p) p.items) (List.take (aT p) f.items)).isSome)=true):[]=(smO p o (gI B Ls p f)).map Yfo/\false=(gI B Ls p f).isSome:=by
 rw [Y1p0 hf (Y1jf h),Ynz (Yku hf).1]; exact ⟨rfl,rfl⟩
theorem Y18q (h0:¬¬p.kind=0) (h:(gI B Ls p f).isSome=false):[]=(smO p o (gI B Ls p f)).map Yfo/\false=(gI B Ls p f).isSome:=by
 have h0:=Decidable.not_not.1 h0
 cases e:gI B Ls p f with
 | none=>rw [Ynz h0]; exact ⟨rfl,rfl⟩
 | some c=>rw [e] at h; cases h
theorem Y1dj (hf:fI p f=true) (h:(!(alM (gI B Ls) (List.take (aT p) p.items) (List.take (aT p) f.items)).isSome)=false) (hq:qI B Ls p f (mI2 p f)=true) :
  (alO (alO o (alM (gI B Ls) (List.take (aT p) p.items) (List.take (aT p) f.items))++rp (nI Ls (xI p)) (rI B Ls p f (mI2 p f))) (alM (gI B Ls) (List.drop (aT p+2) p.items) (List.drop (aT p+mI2 p f) f.items))).map Yfo=(smO p o (gI B Ls p f)).map Yfo /\
  (alM (gI B Ls) (List.drop (aT p+2) p.items) (List.drop (aT p+mI2 p f) f.items)).isSome=(gI B Ls p f).isSome:=by
 have h1:=@Y1k8 B Ls p f o hf (Y1bf h) hq
 rw [h1.2]; exact ⟨rfl,h1.1.symm⟩
theorem Y1ho (hl:Ls.all Yip=true) (hg:good Ls p) (hf:fI p f=true):((vrI Ls (xI p) 1 []).getD []).map Yfo=(rp (nI Ls (xI p)) (rI B Ls p f 0)).map Yfo:=by
 rw [Y1qj hl hg hf]
 have e:rI B Ls p f 0=[]:=rfl
 rw [e,Y1ex]; rfl
theorem Y1gw (hf:fI p f=true):(List.take (aT p) p.items).length=aT p:=Y19g hf
theorem Y1ma (hf:fI p f=true):((f.items.length:Int) - (aT p:Nat) - ((List.drop (aT p+2) p.items).length:Nat))=(mI2 p f:Nat):=by
 have:=Ypq hf
 rw [List.length_drop]; omega
theorem Y1jo (a b:Nat):((a:Int)+(b:Int)).toNat=a+b:=by omega
theorem Y1nm (f:YS) (n:Nat):sumBy wY (List.take n f.items)<=wY f/\sumBy wY (List.drop n f.items)<=wY f:=by
 have h1:=Yhj wY f.items n
 have h2:=Ytu wY f.items n
 have h3:=Yhn f
 omega
theorem Y1q9 (h1:¬p.kind=1) (h0:¬p.kind=0) (hk:f.kind=p.kind) (hn:f.number=p.number):decide (f.text.data.toList=p.text.data.toList)=(gI B Ls p f).isSome:=by
 rw [(Y14k (o:=[]) h1 h0).1]
 have:(f.text=p.text) ↔ f.text.data.toList=p.text.data.toList:=by rw [Y19e]; exact eq_comm
 simp [hk,hn,this]
end
end Go.Proofs.YtclpofblehlojaaGreat
end
section
namespace Go.Proofs.YtclpofblehlojaaGreat
open Go Ab
set_option maxHeartbeats 4000000
abbrev Z6z (B:List YB) (Ls:List YS) (p:YS) (f:YS) (o:List YC):Ct:=⟨100,[.arr true 12 (o.map Yfo)],[ll (B.map Yfq),ll (Ls.map Yfn),ll (p.items.map Yfn),Ygb f,.one (.ref 0)],[.dead,.arr true 12 ((smO p o (gS B Ls p f)).map Yfo)],.tup [.one (.ref 1),lb (gS B Ls p f).isSome]⟩
abbrev Zg (B:List YB) (Ls:List YS) (p:YS) (f:YS) (o:List YC):Ct:=⟨38,[.arr true 12 (o.map Yfo)],[ll (B.map Yfq),ll (Ls.map Yfn),Ygb p,Ygb f,.one (.ref 0)],[.dead,.arr true 12 ((smO p o (gS B Ls p f)).map Yfo)],.tup [.one (.ref 1),lb (gS B Ls p f).isSome]⟩
def Z4h (B:List YB) (Ls:List YS) (p:YS) (f:YS) (o:List YC) (k:Nat) (k1:Nat):Lp Nat:=.mk 174 1 (fun x=>[(0,ll (List.map Yfq
 B)),(1,ll (Ls.map Yfn)),(2,ll (p.items.map Yfn)),(4,.one (.ref 1)),(8,.one (.ptr 2 0)),(12,li (if okS p.items=true then atS p.items else (-1
 : Int))),(14,li (↑(p.items.map Yfn).length:Int)),(15,li (↑(mS p f):Int)),(16,lb (gS B Ls (p.items.getD k default) (f.items.getD (kS B Ls p f o k+k1)
 default)).isSome),(17,li ((↑(kS B Ls p f o k):Int)+(k1:Int)+1)),(18,li (k:Int)),(19,.one (.ref 3)),(22,li (k1:Int)),(23,.one (.ref 4)),(24,hs x
 0)]) (fun x=>[.dead,.arr true 12 ((oS B Ls p f o k).map Yfo),.box (vals (Yfu f)),ho x 1,ho x 2]) (fun k2=>[.s (li (k2:Int)),.o (.arr true 12
 ((Yhr (nS Ls (p.items.getD k default)) (rS B Ls p f o k k1) (Ylv B Ls p f o k k1) k2).map Yfo)),.o (.arr true 12 ((List.take k2 (Ylv B Ls p f o k
 k1)).map Yp3++(List.drop k2 (Ylv B Ls p f o k k1)).map Yfo))]) (fun k2=>k2<=(nS Ls (p.items.getD k default)).length/\(nS Ls (p.items.getD k default)).length <=
 9223372036854775807/\((gS B Ls (p.items.getD k default) (f.items.getD (kS B Ls p f o k+k1) default)).isSome||decide (k2=0))=true/\qS B Ls p f o k k1=true/\(rS B Ls p
 f o k k1).length<=1000000000) (fun k2=>(nS Ls (p.items.getD k default)).length - k2) [.mk True (.exit 6) (fun x=>[(0,ll (B.map Yfq)),(1,ll (List.map Yfn
 Ls)),(2,ll (p.items.map Yfn)),(4,.one (.ref 1)),(8,.one (.ptr 2 0)),(12,li (if okS p.items=true then atS p.items else (-1:Int))),(14,li (↑(List.map
 Yfn p.items).length:Int)),(15,li (↑(mS p f):Int)),(16,lb (gS B Ls (p.items.getD k default) (f.items.getD (kS B Ls p f o k+k1) default)).isSome),(17,li ((↑(kS B Ls
 p f o k):Int)+(k1:Int)+1)),(18,li (k:Int)),(19,.one (.ref 3)),(22,li (k1:Int))]) (fun x=>[.dead,.arr true 12 ((oS B Ls p f o k).map Yfo),
 .box (vals (Yfu f)),ho x 0]) [.o (.arr true 12 ((rp (nS Ls (p.items.getD k default)) (rS B Ls p f o k (k1+1))).map Yfo))]]
def Z4i (B:List YB) (Ls:List YS) (p:YS) (f:YS) (o:List YC) (k:Nat):Lp Nat:=.mk 174 1 (fun x=>[(0,ll (B.map Yfq)),(1,ll
 (Ls.map Yfn)),(2,ll (p.items.map Yfn)),(4,.one (.ref 1)),(8,.one (.ptr 2 0)),(12,li (if okS p.items=true then atS p.items else (-1:Int))),
 (14,li (↑(p.items.map Yfn).length:Int)),(15,li (↑(mS p f):Int)),(16,hs x 2),(17,hs x 1),(18,li (k:Int)),(19,.one (.ref 3)),(22,hs x 0)]) (fun x=>
 [.dead,.arr true 12 ((oS B Ls p f o k).map Yfo),.box (vals (Yfu f)),ho x 3]) (fun k1=>[.s (li (k1:Int)),.s (li ((↑(kS B Ls p f o k):Int)+(↑k1 :
 Int))),.s (lb (qS B Ls p f o k k1)),.o (.arr true 12 ((rp (nS Ls (p.items.getD k default)) (rS B Ls p f o k k1)).map Yfo))]) (fun k1=>k1<=mS p f/\kS B Ls p f o k
 + mS p f<=f.items.length/\(qS B Ls p f o k k1||decide (k1=(rS B Ls p f o k k1).length+1))=true/\atB p k=true/\wY p<=1048576/\Yft p<=2147483647/\Yge p<=40 /\
 wY f<=1000000000) (fun k1=>mS p f - k1) [.mk True (.exit 4) (fun x=>[(0,ll (B.map Yfq)),(1,ll (Ls.map Yfn)),(2,ll (p.items.map Yfn)),(4,
 .one (.ref 1)),(8,.one (.ptr 2 0)),(12,li (if okS p.items=true then atS p.items else (-1:Int))),(14,li (↑(p.items.map Yfn).length:Int)),(15,li (↑(mS
 p f):Int)),(16,hs x 1),(17,hs x 0),(18,li (k:Int)),(19,.one (.ref 3))]) (fun x=>[.dead,.arr true 12 ((oS B Ls p f o k).map Yfo),.box (vals
 (Yfu f)),ho x 2]) [.s (li ((↑(kS B Ls p f o k):Int)+(↑(if qS B Ls p f o k (mS p f)=true then mS p f else (rS B Ls p f o k (mS p f)).length+1):Int))),.s (lb (qS B
 Ls p f o k (mS p f))),.o (.arr true 12 ((rp (nS Ls (p.items.getD k default)) (rS B Ls p f o k (mS p f))).map Yfo))]]
def Z4j (B:List YB) (Ls:List YS) (p:YS) (f:YS) (o:List YC) (k:Nat):Lp Nat:=.mk 174 1 (fun x=>[(0,ll (B.map Yfq)),(1,ll
 (Ls.map Yfn)),(2,ll (p.items.map Yfn)),(4,.one (.ref 1)),(8,.one (.ptr 2 0)),(12,li (if okS p.items=true then atS p.items else (-1:Int))),
 (14,li (↑(p.items.map Yfn).length:Int)),(15,li (↑(mS p f):Int)),(16,lb (bS B Ls p f o k)),(17,li (↑(kS B Ls p f o k):Int)),(18,li (k:Int)),(19,.one
 (.ref 3)),(102,li (↑(((vrS Ls (p.items.getD k default) 0 []).getD []).map Yfo).length:Int)),(103,hs x 0)]) (fun x=>[.dead,.arr true 12 (List.map Yfo
 (oS B Ls p f o k)),.box (vals (Yfu f)),ho x 1]) (fun k1=>[.s (li (k1:Int)),.o (.arr true 12 ((Yh3 (eV Ls (p.items.getD k default)) k1).map Yfo))]) (fun
 k1=>k1<=(eV Ls (p.items.getD k default)).length/\(eV Ls (p.items.getD k default)).length<=1000000000/\atB p k=true/\Yge p<=40) (fun k1=>(eV Ls (p.items.getD k
 default)).length - k1) [.mk True (.exit 2) (fun x=>[(0,ll (B.map Yfq)),(1,ll (Ls.map Yfn)),(2,ll (p.items.map Yfn)),(4,.one (.ref 1)),(8,
 .one (.ptr 2 0)),(12,li (if okS p.items=true then atS p.items else (-1:Int))),(14,li (↑(p.items.map Yfn).length:Int)),(15,li (↑(mS p f):Int)),(16,lb
 (bS B Ls p f o k)),(17,li (↑(kS B Ls p f o k):Int)),(18,li (k:Int)),(19,.one (.ref 3))]) (fun x=>[.dead,.arr true 12 ((oS B Ls p f o k).map Yfo),
 .box (vals (Yfu f)),ho x 0]) [.o (.arr true 12 ((nS Ls (p.items.getD k default)).map Yfo))]]
def Z1g (B:List YB) (Ls:List YS) (p:YS) (f:YS) (o:List YC):Lp Nat:=.mk 174 1 (fun x=>[(0,ll (B.map Yfq)),(1,ll (List.map
 Yfn Ls)),(2,ll (p.items.map Yfn)),(4,.one (.ref 1)),(8,.one (.ptr 2 0)),(12,li (if okS p.items=true then atS p.items else (-1:Int))),(14,li
 (↑(p.items.map Yfn).length:Int)),(15,hs x 1),(16,hs x 3),(17,hs x 2),(18,hs x 0)]) (fun x=>[.dead,ho x 4,.box (vals (Yfu f))]) (fun k=>[.s (li (↑k
 : Int)),.s (li (↑(mS p f):Int)),.s (li (↑(kS B Ls p f o k):Int)),.s (lb (bS B Ls p f o k)),.o (.arr true 12 ((oS B Ls p f o k).map Yfo))]) (fun k=>k <=
 p.items.length/\p.items.length<=9223372036854775807/\fS p f=true) (fun k=>p.items.length - k) [.mk True (.exit 0) (fun x=>[(4,.one (.ref 1)),(16,hs x 0)]) (fun x
 => [.dead,ho x 1]) [.s (lb (bS B Ls p f o p.items.length)),.o (.arr true 12 ((oS B Ls p f o p.items.length).map Yfo))]]
theorem Zcm (B:List YB) (Ls:List YS) (p:YS) (f:YS) (o:List YC) (h:B.length<=1048577/\sumBy wB B<=1048577/\wY p<=1048576/\wY f <=
 1000000000/\o.length+Yft p<=2147483647/\Yge p<=40) (hg:good Ls p/\p.kind=0) (ih:∀ (z:YS),z∈p.items->∀ (B:List YB) (Ls:List YS) (f:YS)
 (o:List YC),B.length<=1048577/\sumBy wB B<=1048577/\wY z<=1048576/\wY f<=1000000000/\o.length+Yft z<=2147483647/\Yge z<=40->good Ls z->OK (Zg B Ls
 z f o)) (k:Nat) (k1:Nat):Lp.Sem Tryz.prog (Yg6 Tryz.f100 3) (Z4h B Ls p f o k k1):=Ygf (fun k2=>let v9:=(Yhr (nS Ls (p.items.getD k default)) (rS B Ls p f
 o k k1) (Ylv B Ls p f o k k1) k2); let v1:=(v9.getD (k2:Int).toNat default); let v2:=[cI 0,cI 0,cS (ByteArray.mk #[]),.list [],.list [],cI 0,cI 0,cI 0,cS
 (ByteArray.mk #[]),.list [],.list [],.list []]; let v3:=(v9.map Yfo); let v4:=((Ylv B Ls p f o k k1).getD k2 default); let v5:=(List.map Yp3
 (List.take k2 (Ylv B Ls p f o k k1))++(List.drop k2 (Ylv B Ls p f o k k1)).map Yfo); let v6:=[(k2:Int).toNat,(k2:Int).toNat,(k2:Int).toNat,(↑k2 :
 Int).toNat,(k2:Int).toNat]; let v7:=[cI v1.name.kind,cI v1.name.number,cS v1.name.text,.list (v1.name.scopes.map Yfr),.list (List.map Yfn
 v1.name.items),cI v1.depth,cI v1.form.kind,cI v1.form.number,cS v1.form.text,.list (v1.form.scopes.map Yfr),.list (v1.form.items.map Yfn),.any];
 let v11:=(v1.each.map Yfo++[v2]); let v10:=(↑(v1.each.map Yfo).length:Int); let v8:=[cI v1.name.kind,cI v1.name.number,cS v1.name.text,.list
 (v1.name.scopes.map Yfr),.list (v1.name.items.map Yfn),cI v1.depth,cI v1.form.kind,cI v1.form.number,cS v1.form.text,.list (List.map Yfr
 v1.form.scopes),.list (v1.form.items.map Yfn),.list (v11.set v10.toNat (Yg7 v4))]; .z Yfo v9 (.i ((k2:Int)<(↑(v9.map Yfo).length :
 Int)) (.b (gS B Ls (p.items.getD k default) (f.items.getD (kS B Ls p f o k+k1) default)).isSome (.w (.drawT 13 16 12 [(11,[3,9]),(13,[4,11]),(16,[11,3])]) (.p (0<=(↑k2
 : Int)/\(k2:Int).toNat<v3.length) (.w .sub (.p ((k2:Int).toNat<v3.length) (.p (0<=(k2:Int)/\(k2:Int).toNat<v5.length) (.w (.subs (Yg7 v4)) (.p (v5[(↑k2 :
 Int).toNat]? = some (Yg7 v4)) (.w (.cells (Yg7 v1)) (.p (v3[(k2:Int).toNat]? = some (Yg7 v1)) (.w (.subcall (Yg7 v1) (v1.each.map Yfo) 12) (.p
 (v3[(k2:Int).toNat]? = some (Yg7 v1)) (.p (some (Cell.list (v1.each.map Yfo))=some (Cell.list (v1.each.map Yfo))) (.p (∀ (x:List Cell),x ∈
 v1.each.map Yfo->x.length=12) (.p (((v1.each.map Yfo).length+1) * 192<=140737488355328) (.p (0<=v10/\v10.toNat<v11.length) (.w (.subs (Yg7 v4))
 (.w (.cells v2) (.p (v6=v6) (.p (v5[(k2:Int).toNat]? = some (Yg7 v4)) (.p (v11[v10.toNat]? = some v2) (.p (0<=(k2:Int)/\(k2:Int).toNat<(v3.set (↑k2 :
 Int).toNat v7).length) (.w (.take v7 (v3.set (k2:Int).toNat v8) 0) (.p ((v3.set (k2:Int).toNat v7)[(k2:Int).toNat]? = some v7) (.p ((v3.set (k2:Int).toNat v7).set (↑k2
 : Int).toNat v8=v3.set (k2:Int).toNat v8) (.p (v10.toNat<v11.length) (.p ((k2:Int).toNat<(v3.set (k2:Int).toNat v7).length) (.z Yfo v1.each (.r ((k2:Int) +
 1) (.g [0,1,2,3,4] (k2+1) [.s (li ((k2:Int)+1)),.o (.arr true 12 (v3.set (k2:Int).toNat v8)),.o (.arr true 12 (v5.set (k2:Int).toNat [cI v4.name.kind,cI
 v4.name.number,cS v4.name.text,.any,.any,cI v4.depth,cI v4.form.kind,cI v4.form.number,cS v4.form.text,.any,.any,
 .any]))]))))))))))))))))))))))))))))) (.o 0 [0,1,2,3] [.o (.arr true 12 v3)])) (.y false (.o 0 [0,1,2,3] [.o (.arr true 12 v3)])))) (by
 intro k2 h; try dsimp only [Yfp,Yg0,Z4h] at h ⊢
 have g3:=Y12y (nS Ls (p.items.getD k default)) (rS B Ls p f o k k1) (Ylv B Ls p f o k k1) k2
 have gc:=@Y1gx B Ls p f o k k1
 have ge:=@Y1e7 B Ls p f o k k1 k2
 have gz:=@Y1dy B Ls p f o k k1 k2
 with_reducible repeat' (first | apply And.intro | exact zR | (intro))
 all_goals ((try simp only [std,inj] at *); with_reducible and_intros)
 all_goals try first | exact z | exact List.set_set .. | exact Y14n (by grind) | exact Y146 (by grind) | exact Y1a3 (by grind) | exact Y11i _ (by omega) | exact gz h.2.2.2.1 h.2.2.1 (.inl ‹_›) | exact gz h.2.2.2.1 h.2.2.1 (.inr (by omega)) | grind)
theorem Zcn (B:List YB) (Ls:List YS) (p:YS) (f:YS) (o:List YC) (h:B.length<=1048577/\sumBy wB B<=1048577/\wY p<=1048576/\wY f <=
 1000000000/\o.length+Yft p<=2147483647/\Yge p<=40) (hg:good Ls p/\p.kind=0) (ih:∀ (z:YS),z∈p.items->∀ (B:List YB) (Ls:List YS) (f:YS)
 (o:List YC),B.length<=1048577/\sumBy wB B<=1048577/\wY z<=1048576/\wY f<=1000000000/\o.length+Yft z<=2147483647/\Yge z<=40->good Ls z->OK (Zg B Ls
 z f o)) (k:Nat):Lp.Sem Tryz.prog (Yg6 Tryz.f100 2) (Z4i B Ls p f o k):=Ygf (fun k1=>.i ((k1:Int)<(↑(mS p f):Int)) (.b (qS B Ls p f o k k1) (.w (.bool
 false) (.w (.draw [(12,[4])]) (.x (k:Int) (p.items.map Yfn) (Yfu (p.items.getD k default)) (.x ((↑(kS B Ls p f o k):Int)+(k1:Int)) (List.map Yfn
 f.items) (Yfu (f.items.getD (kS B Ls p f o k+k1) default)) (.d [.rd,.rd,.rd,.rd,.own true 12] (Zg B Ls (p.items.getD k default) (f.items.getD (kS B Ls p f o k +
 k1) default) []) (.r ((↑(kS B Ls p f o k):Int)+(k1:Int)+1) (.l (Z4h B Ls p f o k k1) (Zcm B Ls p f o h hg ih k k1) [0,1,2,3,12] [.s (li 0),.o (.arr
 true 12 ((rp (nS Ls (p.items.getD k default)) (rS B Ls p f o k k1)).map Yfo)),.o (.arr true 12 ((smO (p.items.getD k default) [] (gS B Ls
 (p.items.getD k default) (f.items.getD (kS B Ls p f o k+k1) default))).map Yfo))] 0 (.t (.r ((k1:Int)+1) (.g [0,1,2,3] (k1+1) [.s (li ((k1:Int)+1)),.s (li ((↑(kS B Ls p
 f o k):Int)+(k1:Int)+1)),.s (lb (gS B Ls (p.items.getD k default) (f.items.getD (kS B Ls p f o k+k1) default)).isSome),.o (.arr true 12 ((rp (nS
 Ls (p.items.getD k default)) (rS B Ls p f o k (k1+1))).map Yfo))])) .q)))))))) (.o 0 [0,1,2,3] [.s (li ((↑(kS B Ls p f o k):Int)+(k1:Int))),.s (lb (qS B Ls p f o k k1)),.o
 (.arr true 12 ((rp (nS Ls (p.items.getD k default)) (rS B Ls p f o k k1)).map Yfo))])) (.y false (.o 0 [0,1,2,3] [.s (li ((↑(kS B Ls p f o k):Int)+(↑k1 :
 Int))),.s (lb (qS B Ls p f o k k1)),.o (.arr true 12 ((rp (nS Ls (p.items.getD k default)) (rS B Ls p f o k k1)).map Yfo))]))) (by
 intro k1 h; try dsimp only [Yfp,Yg0,Z4i,Z4h] at h ⊢
 have ga:=Yrv h.2.2.2.1
 have gi:=Yoc ga.1
 have gl:=Y1af f
 have gf:=@Yoc (kS B Ls p f o k+k1) f
 have g3:=@Y1cu B Ls p f o k k1
 have g4:=@Y1lq B Ls p f o k k1
 have g5:=Yzy (Ls:=Ls) (p.items.getD k default)
 have g6:=Ymw (p.items.getD k default)
 have g7:=@Yuc (nS Ls (p.items.getD k default)) (rS B Ls p f o k k1) (Ylv B Ls p f o k k1)
 have gr:=@Y1i3 Ls p k hg.1 hg.2
 with_reducible repeat' (first | apply And.intro | exact zR | exact ih | (intro))
 all_goals (try simp only [std,inj,Y13c,Yz3] at *)
 all_goals with_reducible and_intros
 all_goals try first | with_reducible apply ih
 all_goals try first | exact zw | exact gi.2.2.2.2 | exact gr h.2.2.2.1 | exact Y1gk | exact Y1nk ‹_› | exact Y1rb ‹_› | (have q:=gf (by omega); omega) | (have q:=g3 ‹_›; omega) | (simp only [List.length_nil]; omega) | grind)
theorem Zco (B:List YB) (Ls:List YS) (p:YS) (f:YS) (o:List YC) (h:B.length<=1048577/\sumBy wB B<=1048577/\wY p<=1048576/\wY f <=
 1000000000/\o.length+Yft p<=2147483647/\Yge p<=40) (hg:good Ls p/\p.kind=0) (ih:∀ (z:YS),z∈p.items->∀ (B:List YB) (Ls:List YS) (f:YS)
 (o:List YC),B.length<=1048577/\sumBy wB B<=1048577/\wY z<=1048576/\wY f<=1000000000/\o.length+Yft z<=2147483647/\Yge z<=40->good Ls z->OK (Zg B Ls
 z f o)) (k:Nat):Lp.Sem Tryz.prog (Yg6 Tryz.f100 1) (Z4j B Ls p f o k):=Ygf (fun k1=>.i ((k1:Int)<(↑(((vrS Ls (p.items.getD k default) 0
 []).getD []).map Yfo).length:Int)) (.p (0<=(k1:Int)/\(k1:Int).toNat<((Yh3 (eV Ls (p.items.getD k default)) k1).map Yfo).length) (.w (.cells (Yg7 ((Yh3 (eV Ls
 (p.items.getD k default)) k1).getD (k1:Int).toNat default))) (.p (((Yh3 (eV Ls (p.items.getD k default)) k1).map Yfo)[(k1:Int).toNat]? = some (Yg7 ((Yh3 (eV
 Ls (p.items.getD k default)) k1).getD (k1:Int).toNat default))) (.r (((Yh3 (eV Ls (p.items.getD k default)) k1).getD (k1:Int).toNat default).depth+1) (.p (0<=(k1:Int)
 /\ (k1:Int).toNat<((Yh3 (eV Ls (p.items.getD k default)) k1).map Yfo).length) (.w (.cells (Yg7 ((Yh3 (eV Ls (p.items.getD k default)) k1).getD (↑k1 :
 Int).toNat default))) (.p (((Yh3 (eV Ls (p.items.getD k default)) k1).map Yfo)[(k1:Int).toNat]? = some (Yg7 ((Yh3 (eV Ls (p.items.getD k default)) k1).getD
 (k1:Int).toNat default))) (.r ((k1:Int)+1) (.g [0,1,2,3] (k1+1) [.s (li ((k1:Int)+1)),.o (.arr true 12 (((Yh3 (eV Ls (p.items.getD k
 default)) k1).map Yfo).set (k1:Int).toNat [cI ((Yh3 (eV Ls (p.items.getD k default)) k1).getD (k1:Int).toNat default).name.kind,cI ((Yh3 (eV Ls (p.items.getD k default)) k1).getD
 (k1:Int).toNat default).name.number,cS ((Yh3 (eV Ls (p.items.getD k default)) k1).getD (k1:Int).toNat default).name.text,.list (((Yh3 (eV Ls
 (p.items.getD k default)) k1).getD (k1:Int).toNat default).name.scopes.map Yfr),.list (((Yh3 (eV Ls (p.items.getD k default)) k1).getD (k1:Int).toNat
 default).name.items.map Yfn),cI (((Yh3 (eV Ls (p.items.getD k default)) k1).getD (k1:Int).toNat default).depth+1),cI ((Yh3 (eV Ls (p.items.getD k default)) k1).getD (↑k1 :
 Int).toNat default).form.kind,cI ((Yh3 (eV Ls (p.items.getD k default)) k1).getD (k1:Int).toNat default).form.number,cS ((Yh3 (eV Ls (p.items.getD k default)) k1).getD (↑k1
 : Int).toNat default).form.text,.list (((Yh3 (eV Ls (p.items.getD k default)) k1).getD (k1:Int).toNat default).form.scopes.map Yfr),.list (List.map Yfn
 ((Yh3 (eV Ls (p.items.getD k default)) k1).getD (k1:Int).toNat default).form.items),.list (((Yh3 (eV Ls (p.items.getD k default)) k1).getD (↑k1 :
 Int).toNat default).each.map Yfo)]))]))))))))) (.o 0 [0,1,2,3] [.o (.arr true 12 ((Yh3 (eV Ls (p.items.getD k default)) k1).map Yfo))])) (by
 intro k1 h; try dsimp only [Yfp,Yg0,Z4j] at h ⊢
 have g3:=Y1i7 (eV Ls (p.items.getD k default)) k1
 have gd:=@Y1gf Ls p k k1 hg.1 hg.2
 have ge:=@Y1mk Ls p k k1 hg.1 hg.2
 with_reducible repeat' (first | apply And.intro | exact zR | (intro))
 all_goals (try simp only [std,inj,Y13c,Yz3] at *)
 all_goals with_reducible and_intros
 all_goals try first | exact zw | exact Y1kx (by omega) | (have q:=gd h.2.2.1 h.2.2.2 (by omega); omega) | exact ge h.2.2.1 (by omega) | grind)
theorem Z4k (B:List YB) (Ls:List YS) (p:YS) (f:YS) (o:List YC) (h:B.length<=1048577/\sumBy wB B<=1048577/\wY p<=1048576/\wY f <=
 1000000000/\o.length+Yft p<=2147483647/\Yge p<=40) (hg:good Ls p/\p.kind=0) (ih:∀ (z:YS),z∈p.items->∀ (B:List YB) (Ls:List YS) (f:YS)
 (o:List YC),B.length<=1048577/\sumBy wB B<=1048577/\wY z<=1048576/\wY f<=1000000000/\o.length+Yft z<=2147483647/\Yge z<=40->good Ls z->OK (Zg B Ls
 z f o)):Lp.Sem Tryz.prog (Yg6 Tryz.f100 0) (Z1g B Ls p f o):=Ygf (fun k=>.i ((k:Int)<(↑(p.items.map Yfn).length:Int)) (.b (bS B Ls p f o k) (.i
 ((k:Int)=if okS p.items=true then atS p.items else (-1:Int)) (.r ((k:Int)+1) (.g [0,1,2] (k+1) [.s (li ((k:Int)+1)),.s (li (↑(mS p f):Int)),.s (li (↑(kS
 B Ls p f o k):Int)),.s (lb (bS B Ls p f o k)),.o (.arr true 12 ((oS B Ls p f o k).map Yfo))])) (.r ((k:Int)+1) (.i ((k:Int)+(1:Int)≠if okS p.items =
 true then atS p.items else (-1:Int)) (.w (.draw [(12,[1])]) (.x (k:Int) (p.items.map Yfn) (Yfu (p.items.getD k default)) (.x (↑(kS B Ls p f o k):Int)
 (f.items.map Yfn) (Yfu (f.items.getD (kS B Ls p f o k) default)) (.d [.rd,.rd,.rd,.rd,.own true 12] (Zg B Ls (p.items.getD k default) (f.items.getD (kS B Ls
 p f o k) default) (oS B Ls p f o k)) (.r ((↑(kS B Ls p f o k):Int)+1) (.r ((k:Int)+1) (.g [0,10,2] (k+1) [.s (li ((k:Int)+1)),.s (li (↑(mS p f):Int)),.s (li
 ((↑(kS B Ls p f o k):Int)+1)),.s (lb (gS B Ls (p.items.getD k default) (f.items.getD (kS B Ls p f o k) default)).isSome),.o (.arr true 12 ((smO
 (p.items.getD k default) (oS B Ls p f o k) (gS B Ls (p.items.getD k default) (f.items.getD (kS B Ls p f o k) default))).map Yfo))]))))))) (.x (k:Int) (p.items.map Yfn)
 (Yfu (p.items.getD k default)) (.w (.bool false) (.d [.rd,.rd,.rd,.own true 12] (Zr Ls (p.items.getD k default) 0 []) (.z Yfo ((vrS Ls (p.items.getD k default)
 0 []).getD []) (.l (Z4j B Ls p f o k) (Zco B Ls p f o h hg ih k) [0,1,2,5] [.s (li 0),.o (.arr true 12 (((vrS Ls (p.items.getD k default) 0
 []).getD []).map Yfo))] 0 (.t (.l (Z4i B Ls p f o k) (Zcn B Ls p f o h hg ih k) [0,1,2,3] [.s (li 0),.s (li (↑(kS B Ls p f o k):Int)),.s (lb (bS B Ls p f o k)),.o
 (.arr true 12 ((nS Ls (p.items.getD k default)).map Yfo))] 0 (.t (.p ((((oS B Ls p f o k).map Yfo).length+((rp (nS Ls (p.items.getD k
 default)) (rS B Ls p f o k (mS p f))).map Yfo).length) * 192<=140737488355328) (.r ((k:Int)+1) (.g [0,4,2] (k+1) [.s (li ((k:Int)+1)),.s (li (↑(mS p f):Int)),.s (li
 ((↑(kS B Ls p f o k):Int)+(↑(if qS B Ls p f o k (mS p f)=true then mS p f else (rS B Ls p f o k (mS p f)).length+1):Int))),.s (lb (qS B Ls p f o k (mS p f))),.o
 (.arr true 12 ((oS B Ls p f o k).map Yfo++(rp (nS Ls (p.items.getD k default)) (rS B Ls p f o k (mS p f))).map Yfo))]))) .q)) .q))))))))) (.o 0 [0,1] [.s
 (lb (bS B Ls p f o k)),.o (.arr true 12 ((oS B Ls p f o k).map Yfo))])) (.y false (.o 0 [0,1] [.s (lb (bS B Ls p f o k)),.o (.arr true 12 ((oS B
 Ls p f o k).map Yfo))]))) (by
 intro k h; try dsimp only [Yfp,Yg0,Z1g,Z4i,Z4j] at h ⊢
 rename_i hh
 have gs:=@Y1km B Ls p f o k
 have g1:=@Y1oc B Ls p f o k
 have gr:=@Y1nj B Ls p f o k
 have gst:=@Y1l8 B Ls p f o k p.items.length
 have gat:=fun a=>@Y1qi B Ls p f o h.2.2 k a
 have gi:=@Yoc k p
 have gf:=@Yoc (kS B Ls p f o k) f
 have gl:=Y1af f
 have gg:=@Yn4 Ls p hg.1 hg.2 k
 have gn:=Yzy (Ls:=Ls) (p.items.getD k default)
 have g11:=Y1ex (nS Ls (p.items.getD k default))
 have g12:=Y1ey (eV Ls (p.items.getD k default))
 have g13:=@Y1l3 B Ls p f o k
 have ge:=@Y1kt Ls p k hg.1 hg.2
 have ga:=@Y1ol p k
 have gc:=Yl8 (nS Ls (p.items.getD k default)) (rS B Ls p f o k (mS p f))
 have gz:=Ymw p
 with_reducible repeat' (first | apply And.intro | exact zR | exact ih | (intro) | apply Z5x)
 all_goals (try simp only [std,inj,Y13c,Yz3,ne_eq,Decidable.not_not] at *)
 all_goals with_reducible and_intros
 all_goals try first | with_reducible apply ih
 all_goals try first | exact zw | exact (gi (by omega)).2.2.2.2 | (have q:=gi (by omega); omega) | (have q:=gat (by omega) ‹_›; have q2:=gi (by omega); omega) | (have q:=gat (by omega) ‹_›; have q2:=gf (by omega); omega) | grind)
theorem Z8x (B:List YB) (Ls:List YS) (p f:YS) (o:List YC) (h:B.length<=1048577/\sumBy wB B<=1048577/\wY p<=1048576/\wY f<=1000000000 /\
 o.length+Yft p<=2147483647/\Yge p<=40) (hg:good Ls p/\p.kind=0) (ih:∀ z∈p.items,∀ (B:List YB) (Ls:List YS) (f:YS) (o:List YC) (h :
 B.length<=1048577/\sumBy wB B<=1048577/\wY z<=1048576/\wY f<=1000000000/\o.length+Yft z<=2147483647/\Yge z<=40) (hg:good Ls z),Zg B Ls z f o)  : Z6z
 B Ls p f o:=Yg4 Tryz.call100 Tryz.func100 (.c [.rd] (Zeu p.items) (.z Yfn p.items (.i (0<=if okS p.items=true then atS p.items else (-1:Int)) (.z Yfn f.items (.r
 ((↑(p.items.map Yfn).length:Int) - 2) (.r ((↑(f.items.map Yfn).length:Int) - ((↑(p.items.map Yfn).length:Int) - 2)) (.i (f.kind≠0) (.y true (.y
 true (.w (.ghost (.nilreg 10 true 12)) (.w (.ghost (.move 0)) (.f [2] [.dead,.arr true 12 []] (.tup [.one (.ref 1),lb false])))))) (.i ((↑(List.map Yfn
 f.items).length:Int) - ((↑(p.items.map Yfn).length:Int) - 2)<0) (.y true (.w (.ghost (.nilreg 10 true 12)) (.w (.ghost (.move 0)) (.f [2] [.dead,.arr true 12
 []] (.tup [.one (.ref 1),lb false]))))) (.i ((if okS p.items=true then atS p.items else (-1:Int))<0) (.z Yfn f.items (.i ((↑(f.items.map Yfn).length :
 Int)≠(↑(p.items.map Yfn).length:Int)) (.w (.ghost (.nilreg 10 true 12)) (.w (.ghost (.move 0)) (.f [2] [.dead,.arr true 12 []] (.tup [.one (.ref 1),lb
 false])))) (.w (.ghost (.move 0)) (.l (Z1g B Ls p f o) (Z4k B Ls p f o h hg ih) [0,2,1] [.s (li 0),.s (li ((↑(f.items.map Yfn).length:Int) -
 ((↑(p.items.map Yfn).length:Int) - 2))),.s (li 0),.s (lb true),.o (.arr true 12 (o.map Yfo))] 0 (.t (.b (!bS B Ls p f o p.items.length) (.w (.ghost
 (.nilreg 10 true 12)) (.f [2] [.dead,.arr true 12 []] (.tup [.one (.ref 1),lb false]))) (.f [1] [.dead,.arr true 12 ((oS B Ls p f o
 p.items.length).map Yfo)] (.tup [.one (.ref 1),lb true]))) .q))))) (.y false (.w (.ghost (.move 0)) (.l (Z1g B Ls p f o) (Z4k B Ls p f o h hg ih) [0,2,1] [.s (li
 0),.s (li ((↑(f.items.map Yfn).length:Int) - ((↑(p.items.map Yfn).length:Int) - 2))),.s (li 0),.s (lb true),.o (.arr true 12 (o.map Yfo))] 0
 (.t (.b (!bS B Ls p f o p.items.length) (.w (.ghost (.nilreg 10 true 12)) (.f [2] [.dead,.arr true 12 []] (.tup [.one (.ref 1),lb false]))) (.f [1] [.dead,.arr
 true 12 ((oS B Ls p f o p.items.length).map Yfo)] (.tup [.one (.ref 1),lb true]))) .q)))))))))) (.i (f.kind≠0) (.y true (.y true (.w (.ghost (.nilreg 10 true
 12)) (.w (.ghost (.move 0)) (.f [2] [.dead,.arr true 12 []] (.tup [.one (.ref 1),lb false])))))) (.y false (.i ((if okS p.items=true then atS p.items else (-1 :
 Int))<0) (.z Yfn f.items (.i ((↑(f.items.map Yfn).length:Int)≠(↑(p.items.map Yfn).length:Int)) (.w (.ghost (.nilreg 10 true 12)) (.w (.ghost (.move
 0)) (.f [2] [.dead,.arr true 12 []] (.tup [.one (.ref 1),lb false])))) (.w (.ghost (.move 0)) (.l (Z1g B Ls p f o) (Z4k B Ls p f o h hg ih) [0,2,1] [.s
 (li 0),.s (li 0),.s (li 0),.s (lb true),.o (.arr true 12 (o.map Yfo))] 0 (.t (.b (!bS B Ls p f o p.items.length) (.w (.ghost (.nilreg 10 true 12)) (.f [2]
 [.dead,.arr true 12 []] (.tup [.one (.ref 1),lb false]))) (.f [1] [.dead,.arr true 12 ((oS B Ls p f o p.items.length).map Yfo)] (.tup [.one (.ref
 1),lb true]))) .q))))) (.y false (.w (.ghost (.move 0)) (.l (Z1g B Ls p f o) (Z4k B Ls p f o h hg ih) [0,2,1] [.s (li 0),.s (li 0),.s (li 0),.s (lb true),.o
 (.arr true 12 (o.map Yfo))] 0 (.t (.b (!bS B Ls p f o p.items.length) (.w (.ghost (.nilreg 10 true 12)) (.f [2] [.dead,.arr true 12 []] (.tup [.one (.ref
 1),lb false]))) (.f [1] [.dead,.arr true 12 ((oS B Ls p f o p.items.length).map Yfo)] (.tup [.one (.ref 1),lb true]))) .q)))))))))) (by
 dsimp only [Yfp,Z6z,Yg0,Z1g]
 have g1:=@Y1lh B Ls p f o
 have g2:=@Y1qy p f
 have g3:=@Y1qa p f
 have g4:=@Y1rn p f
 have g5:=@Y1rq p f
 have g6:=@Y1pc B Ls p f o hg.2
 have g7:=@Y1q1 B Ls p f o hg.2
 have g8:=@Y1pt B Ls p f o hg.2
 have g9:=@Y1pa B Ls p f o hg.2
 have g10:=@Y1pq B Ls p f o hg.2
 have g11:=Yhn f
 with_reducible repeat' (first | apply And.intro | exact zR | (intro))
 all_goals (try simp only [std,inj,Yz3,Decidable.not_not] at *)
 all_goals with_reducible and_intros
 all_goals try first | exact zw | grind)
theorem Zep (B:List YB) (Ls:List YS) (p f:YS) (o:List YC) (h:B.length<=1048577/\sumBy wB B<=1048577/\wY p<=1048576/\wY f<=1000000000 /\
 o.length+Yft p<=2147483647/\Yge p<=40) (hg:good Ls p) (ih:∀ z∈p.items,∀ (B:List YB) (Ls:List YS) (f:YS) (o:List YC) (h:B.length <=
 1048577/\sumBy wB B<=1048577/\wY z<=1048576/\wY f<=1000000000/\o.length+Yft z<=2147483647/\Yge z<=40) (hg:good Ls z),Zg B Ls z f o)  : Zg B Ls p f o
 := Yg4 Tryz.call38 Tryz.func38 (.i (p.kind=1) (.i (p.text.data.toList=[(95:UInt8)]) (.w (.ghost (.move 0)) (.f [3] [.dead,.arr true 12 (o.map Yfo)] (.tup
 [.one (.ref 1),lb true]))) (.c [.rd,.rd] (Z4p Ls p) (.b (Ygw Ls p) (.i (f.kind=1) (.d [.rd,.rd,.rd] (Z6x B p f) (.w (.ghost (.move 0)) (.f [3] [.dead,
 .arr true 12 (o.map Yfo)] (.tup [.one (.ref 1),lb (mng B p f)])))) (.w (.ghost (.move 0)) (.f [3] [.dead,.arr true 12 (o.map Yfo)] (.tup
 [.one (.ref 1),lb false])))) (.w (.draw [(6,[5,6,15,16]),(7,[0,23])]) (.d [.rd] (Zl p) (.d [.rd] (Zl f) (.p (((o.map Yfo).length+1) * 192 <=
 140737488355328) (.f [24] [.dead,.arr true 12 (o.map Yfo++[[cI p.kind,cI p.number,cS p.text,.list (p.scopes.map Yfr),.list (List.map Yfn
 p.items),cI 0,cI f.kind,cI f.number,cS f.text,.list (f.scopes.map Yfr),.list (f.items.map Yfn),.list []]])] (.tup [.one (.ref 1),lb
 true]))))))))) (.i (p.kind=0) (.d [.rd,.rd,.rd,.rd,.own true 12] (Z6z B Ls p f o) (.f [4] [.dead,.arr true 12 ((smO p o (gS B Ls p f)).map Yfo)] (.tup
 [.one (.ref 1),lb (gS B Ls p f).isSome]))) (.w (.draw []) (.i (p.kind=f.kind) (.i (p.number=f.number) (.w (.ghost (.move 0)) (.f [3] [.dead,.arr true 12 (List.map
 Yfo o)] (.tup [.one (.ref 1),lb (decide (p.text.data.toList=f.text.data.toList))]))) (.w (.ghost (.move 0)) (.f [3] [.dead,.arr true 12 (o.map Yfo)]
 (.tup [.one (.ref 1),lb false])))) (.y false (.w (.ghost (.move 0)) (.f [3] [.dead,.arr true 12 (o.map Yfo)] (.tup [.one (.ref 1),lb false]))))))))
 (by
 dsimp only [Yfp,Zg]
 have g1:=@Y1fw B Ls p f o
 have g2:=@Y1kk B Ls p f o
 have g3:=@Y13m B Ls p f o
 have g4:=@Ytc B Ls p f o
 have g5:=Y12e o p f
 have g6:Yh8 p=decide (p.text.data.toList=[95]):=rfl
 have g7:p.kind=1->Yh8 p=true->(gS B Ls p f).isSome=true:=fun a b=>by rw [(g2 a b).1]; rfl
 with_reducible repeat' (first | apply And.intro | exact zR | exact ih | (intro) | apply mIc | apply mOc | apply mSc | apply mLc | apply Z4p | apply Z8w | apply Z5 | apply Z8x)
 all_goals ((try simp only [std,inj] at *); with_reducible and_intros)
 all_goals try first | with_reducible (first | apply Z4p | apply Z8w | apply Z5 | apply Z8x | apply ih) | (simp only [<- List.map_append]; with_reducible first | apply Z4p | apply Z8w | apply Z5 | apply Z8x | apply ih)
 all_goals try first | exact zw | exact zM | grind [Yfy,Yfz,Yfs]
 all_goals (first | exact Y1ju ‹_› ‹_› ‹_› ‹_› | exact Y1la ‹_› ‹_› ‹_› ‹_› | exact Y1ob ‹_› ‹_› ‹_› | exact Y1r3 ‹_› ‹_› ‹_› ‹_› | exact Y1pj ‹_› ‹_› ‹_› ‹_› | exact Y1qx ‹_› ‹_› ‹_›))
theorem Z8k (p:YS):∀ (B:List YB) (Ls:List YS) (f:YS) (o:List YC) (h:B.length<=1048577/\sumBy wB B<=1048577/\wY p<=1048576/\wY f<=1000000000/\o.length+Yft p<=2147483647/\Yge p<=40) (hg:good Ls p),Zg B Ls p f o:=YS.ind (P:=fun p=>∀ (B:List YB) (Ls:List YS) (f:YS) (o:List YC) (h:B.length<=1048577/\sumBy wB B<=1048577/\wY p<=1048576/\wY f<=1000000000/\o.length+Yft p<=2147483647/\Yge p<=40) (hg:good Ls p),Zg B Ls p f o) (fun p ih B Ls f o h hg=>Zep B Ls p f o h hg ih) p
set_option maxHeartbeats 4000000
abbrev Z22 (B:List YB) (Ls:List YS) (ps:List YS) (fs:List YS) (o:List YC):Ct:=⟨93,[.arr true 12 (o.map Yfo)],[.agg [vL (B.map Yfq),vL (Ls.map Yfn)],ll (ps.map Yfn),ll (fs.map Yfn),.one (.ref 0)],[.dead,.arr true 12 ((alO o (alM (gI B Ls) ps fs)).map Yfo)],.tup [.one (.ref 1),lb (alM (gI B Ls) ps fs).isSome]⟩
abbrev Zk (B:List YB) (Ls:List YS) (p:YS) (f:YS) (o:List YC):Ct:=⟨35,[.arr true 12 (o.map Yfo)],[.agg [vL (B.map Yfq),vL (Ls.map Yfn)],Ygb p,Ygb f,.one (.ref 0)],[.dead,.arr true 12 ((smO p o (gI B Ls p f)).map Yfo)],.tup [.one (.ref 1),lb (gI B Ls p f).isSome]⟩
def Z5k (B:List YB) (Ls:List YS) (ps:List YS) (fs:List YS) (o:List YC):Lp Nat:=.mk 37 1 (fun x=>[(1,ll (ps.map Yfn)),(2,ll
 (fs.map Yfn)),(3,.one (.ref 1)),(4,.one (.ptr 2 0)),(14,li (↑(ps.map Yfn).length:Int)),(15,hs x 0)]) (fun x=>[.dead,ho x 1,.box [vL
 (B.map Yfq),vL (Ls.map Yfn)]]) (fun k=>[.s (li (k:Int)),.o (.arr true 12 ((alO o (alM (gI B Ls) (ps.take k) fs)).map Yfo))]) (fun k=>k
 <= ps.length/\ps.length<=9223372036854775807/\(alM (gI B Ls) (ps.take k) fs).isSome=true) (fun k=>ps.length - k) [.mk ((alM (gI B Ls) ps fs).isSome=true) (.exit 0)
 (fun x=>[(3,.one (.ref 1))]) (fun x=>[.dead,ho x 0]) [.o (.arr true 12 ((alO o (alM (gI B Ls) ps fs)).map Yfo))],.mk ((alM (gI B Ls) ps fs).isSome =
 false) .ret (fun x=>[(8,hs x 0),(9,hs x 1)]) (fun x=>[.dead]) [.s (.one (.val (.lit (.slice none 0 0)))),.s (lb false)]]
theorem Zdx (B:List YB) (Ls:List YS) (ps:List YS) (fs:List YS) (o:List YC) (h:B.length<=1048577/\sumBy wB B<=1048577/\sumBy wY ps <=
 1048576/\sumBy wY fs<=1000000000/\o.length+sumBy Yft ps<=2147483647/\ps.length<=fs.length/\ps.length<=1048576) (hd:∀ (z:YS),z∈ps->good Ls z/\Yge z<=40)
 (hl:Ls.all Yip=true) (ih:∀ (z:YS),z∈ps->∀ (B:List YB) (Ls:List YS) (f:YS) (o:List YC),B.length<=1048577/\sumBy wB B<=1048577/\wY z
 <= 1048576/\wY f<=1000000000/\o.length+Yft z<=2147483647/\Yge z<=40->Ls.all Yip=true->good Ls z->OK (Zk B Ls z f o)):Lp.Sem Tryz.prog (Yg6 Tryz.f93 0)
 (Z5k B Ls ps fs o):=Ygf (fun k=>.i ((k:Int)<(↑(ps.map Yfn).length:Int)) (.w (.draw [(10,[1])]) (.x (k:Int) (ps.map Yfn) (Yfu (ps.getD k
 default)) (.x (k:Int) (fs.map Yfn) (Yfu (fs.getD k default)) (.d [.rd,.rd,.rd,.own true 12] (Zk B Ls (ps.getD k default) (fs.getD k default) (alO o (alM
 (gI B Ls) (ps.take k) fs))) (.b (!(gI B Ls (ps.getD k default) (fs.getD k default)).isSome) (.o 1 [0] [.s (.one (.val (.lit (.slice none 0 0)))),.s (lb false)])
 (.r ((k:Int)+1) (.g [0,10,2] (k+1) [.s (li ((k:Int)+1)),.o (.arr true 12 ((smO (ps.getD k default) (alO o (alM (gI B Ls) (ps.take k) fs))
 (gI B Ls (ps.getD k default) (fs.getD k default))).map Yfo))]))))))) (.o 0 [0,1] [.o (.arr true 12 ((alO o (alM (gI B Ls) (ps.take k) fs)).map Yfo))])) (by
 intro k h; try dsimp only [Yfp,Yg0,Z5k] at h ⊢
 have g1:=@Y1q6 (gI B Ls) ps fs o k
 have g2:=@Y1l0 (gI B Ls) ps fs (k+1)
 have g3:=@Y1ng (gI B Ls) ps fs k
 have g4:=@Y19s B Ls o (ps.take k) fs
 have g5:=hd (ps.getD k default)
 have g6:=@Ygt _ wY ps (ps.getD k default)
 have g7:=@Ygt _ wY fs (fs.getD k default)
 have g8:=@Yih _ _ Yft ps k
 have g9:=Yhj Yft ps (k+1)
 with_reducible repeat' (first | apply And.intro | exact zR | exact ih | (intro) | apply ih)
 all_goals ((try simp only [std,inj] at *); with_reducible and_intros)
 all_goals try with_reducible first | apply ih
 all_goals try first | exact z | grind [Yfx,Yfy,Yfz,Yfs])
theorem Zbe (B:List YB) (Ls:List YS) (ps fs:List YS) (o:List YC) (h:B.length<=1048577/\sumBy wB B<=1048577/\sumBy wY ps<=1048576/\sumBy wY fs <=
 1000000000/\o.length+sumBy Yft ps<=2147483647/\ps.length<=fs.length/\ps.length<=1048576) (hd:∀ z∈ps,good Ls z/\Yge z<=40) (hl:Ls.all Yip=true) (ih:∀ z ∈
 ps,∀ (B:List YB) (Ls:List YS) (f:YS) (o:List YC) (h:B.length<=1048577/\sumBy wB B<=1048577/\wY z<=1048576/\wY f<=1000000000/\o.length+Yft
 z<=2147483647/\Yge z<=40) (hl:Ls.all Yip=true) (hg:good Ls z),Zk B Ls z f o)  : Z22 B Ls ps fs o:=Yg4 Tryz.call93 Tryz.func93 (.z Yfn ps (.w (.ghost
 (.move 0)) (.l (Z5k B Ls ps fs o) (Zdx B Ls ps fs o h hd hl ih) [0,2,1] [.s (li 0),.o (.arr true 12 (o.map Yfo))] 0 (.t (.f [1] [.dead,.arr true 12
 ((alO o (alM (gI B Ls) ps fs)).map Yfo)] (.tup [.one (.ref 1),lb true])) (.t (.w (.ghost (.nilreg 8 true 12)) (.f [1] [.dead,.arr true 12 []] (.tup [.one
 (.ref 1),lb false]))) .q))))) (by
 dsimp only [Yfp,Z22,Yg0,Z5k]
 have g1:=@Y1ji (gI B Ls) ps fs o
 have g2:(alM (gI B Ls) ps fs).isSome=false->alO o (alM (gI B Ls) ps fs)=[]:=fun h=>by cases e:alM (gI B Ls) ps fs <;> simp_all [alO]
 with_reducible repeat' (first | apply And.intro | exact zR | exact ih | (intro))
 all_goals ((try simp only [std,inj] at *); with_reducible and_intros)
 all_goals try with_reducible first | apply ih
 all_goals (try exact zG))
def Z3w (B:List YB) (Ls:List YS) (p:YS) (f:YS) (o:List YC) (k:Nat):Lp Nat:=.mk 217 1 (fun x=>[(3,.one (.ref 1)),(4,.one
 (.ptr 2 0)),(5,.one (.ptr 3 0)),(6,.one (.ptr 4 0)),(10,li (atI p.items)),(11,ll (List.take ((atI p.items - 1).toNat - 0) (List.drop 0 (List.map Yfn
 p.items)))),(12,ll (List.take ((p.items.map Yfn).length - (atI p.items+1).toNat) (List.drop (atI p.items+1).toNat (p.items.map Yfn)))),(13,li
 ((↑(f.items.map Yfn).length:Int) - (↑(List.take ((atI p.items - 1).toNat - 0) (List.drop 0 (p.items.map Yfn))).length:Int) - (↑(List.take ((List.map Yfn
 p.items).length - (atI p.items+1).toNat) (List.drop (atI p.items+1).toNat (p.items.map Yfn))).length:Int))),(15,.one (.ref 5)),(17,li (k:Int)),(18,
 .one (.ref 6)),(181,li (↑((rp (nI Ls (xI p)) (rI B Ls p f k)).map Yfo).length:Int)),(182,hs x 0)]) (fun x=>[.dead,.arr true 12 ((alO o
 (alM (gI B Ls) (List.take ((atI p.items - 1).toNat - 0) (p.items.drop 0)) (List.take ((↑(List.take ((atI p.items - 1).toNat - 0) (List.drop 0 (List.map Yfn
 p.items))).length:Int).toNat - 0) (f.items.drop 0)))).map Yfo),.box [vL (B.map Yfq),vL (Ls.map Yfn)],.box (vals (Yfu p)),.box (vals (Yfu f)),
 ho x 1,ho x 2]) (fun k1=>[.s (li (k1:Int)),.o (.arr true 12 ((Yhr (nI Ls (xI p)) (rI B Ls p f k) (Ykz B Ls p f k) k1).map Yfo)),.o (.arr true 12 (List.map
 Yp3 (List.take k1 (Ykz B Ls p f k))++(List.drop k1 (Ykz B Ls p f k)).map Yfo))]) (fun k1=>k1<=(nI Ls (xI p)).length/\(nI Ls (xI p)).length<=9223372036854775807
 /\ k<mI2 p f/\fI p f=true/\qI B Ls p f k=true/\(gI B Ls (xI p) (f.items.getD (aT p+k) default)).isSome=true/\(rI B Ls p f k).length<=1000000000) (fun k1=>(nI Ls
 (xI p)).length - k1) [.mk True (.exit 3) (fun x=>[(3,.one (.ref 1)),(4,.one (.ptr 2 0)),(5,.one (.ptr 3 0)),(6,.one (.ptr 4 0)),(10,li (atI p.items)),
 (11,ll (List.take ((atI p.items - 1).toNat - 0) (List.drop 0 (p.items.map Yfn)))),(12,ll (List.take ((p.items.map Yfn).length - (atI p.items+1).toNat)
 (List.drop (atI p.items+1).toNat (p.items.map Yfn)))),(13,li ((↑(f.items.map Yfn).length:Int) - (↑(List.take ((atI p.items - 1).toNat - 0) (List.drop 0
 (p.items.map Yfn))).length:Int) - (↑(List.take ((p.items.map Yfn).length - (atI p.items+1).toNat) (List.drop (atI p.items+1).toNat (List.map Yfn
 p.items))).length:Int))),(15,.one (.ref 5)),(17,li (k:Int))]) (fun x=>[.dead,.arr true 12 ((alO o (alM (gI B Ls) (List.take ((atI p.items -
 1).toNat - 0) (p.items.drop 0)) (List.take ((↑(List.take ((atI p.items - 1).toNat - 0) (List.drop 0 (p.items.map Yfn))).length:Int).toNat - 0) (List.drop 0
 f.items)))).map Yfo),.box [vL (B.map Yfq),vL (Ls.map Yfn)],.box (vals (Yfu p)),.box (vals (Yfu f)),ho x 0]) [.o (.arr true 12 (List.map Yfo
 (rp (nI Ls (xI p)) (rI B Ls p f (k+1)))))]]
def Z2b (B:List YB) (Ls:List YS) (p:YS) (f:YS) (o:List YC):Lp Nat:=.mk 217 1 (fun x=>[(3,.one (.ref 1)),(4,.one (.ptr 2
 0)),(5,.one (.ptr 3 0)),(6,.one (.ptr 4 0)),(10,li (atI p.items)),(11,ll (List.take ((atI p.items - 1).toNat - 0) (List.drop 0 (p.items.map Yfn)))),(12,
 ll (List.take ((p.items.map Yfn).length - (atI p.items+1).toNat) (List.drop (atI p.items+1).toNat (p.items.map Yfn)))),(13,li ((↑(List.map Yfn
 f.items).length:Int) - (↑(List.take ((atI p.items - 1).toNat - 0) (List.drop 0 (p.items.map Yfn))).length:Int) - (↑(List.take ((p.items.map Yfn).length -
 (atI p.items+1).toNat) (List.drop (atI p.items+1).toNat (p.items.map Yfn))).length:Int))),(15,.one (.ref 5)),(17,hs x 0)]) (fun x=>[.dead,.arr true
 12 ((alO o (alM (gI B Ls) (List.take ((atI p.items - 1).toNat - 0) (p.items.drop 0)) (List.take ((↑(List.take ((atI p.items - 1).toNat - 0) (List.drop 0
 (p.items.map Yfn))).length:Int).toNat - 0) (f.items.drop 0)))).map Yfo),.box [vL (B.map Yfq),vL (Ls.map Yfn)],.box (vals (Yfu p)),.box
 (vals (Yfu f)),ho x 1]) (fun k=>[.s (li (k:Int)),.o (.arr true 12 ((rp (nI Ls (xI p)) (rI B Ls p f k)).map Yfo))]) (fun k=>k<=mI2 p f/\fI p f=true /\
 qI B Ls p f k=true) (fun k=>mI2 p f - k) [.mk (qI B Ls p f (mI2 p f)=true) (.exit 1) (fun x=>[(3,.one (.ref 1)),(4,.one (.ptr 2 0)),(6,.one (.ptr 3 0)),
 (11,ll (List.take ((atI p.items - 1).toNat - 0) (List.drop 0 (p.items.map Yfn)))),(12,ll (List.take ((p.items.map Yfn).length - (atI p.items+1).toNat)
 (List.drop (atI p.items+1).toNat (p.items.map Yfn)))),(13,li ((↑(f.items.map Yfn).length:Int) - (↑(List.take ((atI p.items - 1).toNat - 0) (List.drop 0
 (p.items.map Yfn))).length:Int) - (↑(List.take ((p.items.map Yfn).length - (atI p.items+1).toNat) (List.drop (atI p.items+1).toNat (List.map Yfn
 p.items))).length:Int))),(15,.one (.ref 4))]) (fun x=>[.dead,.arr true 12 ((alO o (alM (gI B Ls) (List.take ((atI p.items - 1).toNat - 0)
 (p.items.drop 0)) (List.take ((↑(List.take ((atI p.items - 1).toNat - 0) (List.drop 0 (p.items.map Yfn))).length:Int).toNat - 0) (f.items.drop 0)))).map Yfo),.box
 [vL (B.map Yfq),vL (Ls.map Yfn)],.box (vals (Yfu f)),ho x 0]) [.o (.arr true 12 ((rp (nI Ls (xI p)) (rI B Ls p f (mI2 p f))).map Yfo))],
 .mk ((gI B Ls p f).isSome=false) .ret (fun x=>[(8,hs x 0),(9,hs x 1)]) (fun x=>[.dead]) [.s (.one (.val (.lit (.slice none 0 0)))),.s (lb false)]]
theorem Zbq (B:List YB) (Ls:List YS) (p:YS) (f:YS) (o:List YC) (h:B.length<=1048577/\sumBy wB B<=1048577/\wY p<=1048576/\wY f <=
 1000000000/\o.length+Yft p<=2147483647/\Yge p<=40) (hl:Ls.all Yip=true) (hg:good Ls p) (ih:∀ (z:YS),z∈p.items->∀ (B:List YB) (Ls:List YS)
 (f:YS) (o:List YC),B.length<=1048577/\sumBy wB B<=1048577/\wY z<=1048576/\wY f<=1000000000/\o.length+Yft z<=2147483647/\Yge z<=40->Ls.all Yip =
 true->good Ls z->OK (Zk B Ls z f o)) (k:Nat):Lp.Sem Tryz.prog (Yg6 Tryz.f35 1) (Z3w B Ls p f o k):=Ygf (fun k1=>let v1:=((Yhr (nI Ls (xI p)) (rI B
 Ls p f k) (Ykz B Ls p f k) k1).getD (k1:Int).toNat default); let v2:=[cI 0,cI 0,cS (ByteArray.mk #[]),.list [],.list [],cI 0,cI 0,cI 0,cS (ByteArray.mk #[]),
 .list [],.list [],.list []]; let v3:=((Yhr (nI Ls (xI p)) (rI B Ls p f k) (Ykz B Ls p f k) k1).map Yfo); let v4:=((Ykz B Ls p f k).getD k1 default);
 let v5:=((List.take k1 (Ykz B Ls p f k)).map Yp3++(List.drop k1 (Ykz B Ls p f k)).map Yfo); let v6:=[(k1:Int).toNat,(k1:Int).toNat,(↑k1 :
 Int).toNat,(k1:Int).toNat,(k1:Int).toNat]; let v7:=[cI v1.name.kind,cI v1.name.number,cS v1.name.text,.list (v1.name.scopes.map Yfr),.list (List.map
 Yfn v1.name.items),cI v1.depth,cI v1.form.kind,cI v1.form.number,cS v1.form.text,.list (v1.form.scopes.map Yfr),.list (v1.form.items.map Yfn),
 .any]; let v10:=(v1.each.map Yfo++[v2]); let v9:=(↑(v1.each.map Yfo).length:Int); let v8:=[cI v1.name.kind,cI v1.name.number,cS v1.name.text,
 .list (v1.name.scopes.map Yfr),.list (v1.name.items.map Yfn),cI v1.depth,cI v1.form.kind,cI v1.form.number,cS v1.form.text,.list (List.map Yfr
 v1.form.scopes),.list (v1.form.items.map Yfn),.list (v10.set v9.toNat (Yg7 v4))]; .i ((k1:Int)<(↑((rp (nI Ls (xI p)) (rI B Ls p f
 k)).map Yfo).length:Int)) (.w (.drawT 13 16 12 [(11,[5,11]),(13,[6,13]),(16,[13,5])]) (.p (0<=(k1:Int)/\(k1:Int).toNat<v3.length) (.w .sub (.p ((k1:Int).toNat <
 v3.length) (.p (0<=(k1:Int)/\(k1:Int).toNat<v5.length) (.w (.subs (Yg7 v4)) (.p (v5[(k1:Int).toNat]? = some (Yg7 v4)) (.w (.cells (Yg7 v1)) (.p
 (v3[(k1:Int).toNat]? = some (Yg7 v1)) (.w (.subcall (Yg7 v1) (v1.each.map Yfo) 12) (.p (v3[(k1:Int).toNat]? = some (Yg7 v1)) (.p (some (Cell.list
 (v1.each.map Yfo))=some (Cell.list (v1.each.map Yfo))) (.p (∀ (x:List Cell),x∈v1.each.map Yfo->x.length=12) (.p (((List.map Yfo
 v1.each).length+1) * 192<=140737488355328) (.p (0<=v9/\v9.toNat<v10.length) (.w (.subs (Yg7 v4)) (.w (.cells v2) (.p (v6=v6) (.p (v5[(k1:Int).toNat]? = some
 (Yg7 v4)) (.p (v10[v9.toNat]? = some v2) (.p (0<=(k1:Int)/\(k1:Int).toNat<(v3.set (k1:Int).toNat v7).length) (.w (.take v7 (v3.set (k1:Int).toNat v8) 0) (.p
 ((v3.set (k1:Int).toNat v7)[(k1:Int).toNat]? = some v7) (.p ((v3.set (k1:Int).toNat v7).set (k1:Int).toNat v8=v3.set (k1:Int).toNat v8) (.p (v9.toNat <
 v10.length) (.p ((k1:Int).toNat<(v3.set (k1:Int).toNat v7).length) (.z Yfo v1.each (.r ((k1:Int)+1) (.g [0,1,2,3,4,5,6] (k1+1) [.s (li ((k1:Int) +
 1)),.o (.arr true 12 (v3.set (k1:Int).toNat v8)),.o (.arr true 12 (v5.set (k1:Int).toNat [cI v4.name.kind,cI v4.name.number,cS v4.name.text,.any,.any,cI
 v4.depth,cI v4.form.kind,cI v4.form.number,cS v4.form.text,.any,.any,.any]))]))))))))))))))))))))))))))))) (.o 0 [0,1,2,3,4,5] [.o (.arr true 12 v3)]))
 (by
 intro k1 h; try dsimp only [Yfp,Yg0,Z3w] at h ⊢
 have gl:=Yl8 (nI Ls (xI p)) (rI B Ls p f k)
 have g3:=Y12y (nI Ls (xI p)) (rI B Ls p f k) (Ykz B Ls p f k) k1
 have gc:=@Y1g3 B Ls p f k
 have ge:=@Y1e8 B Ls p f k k1
 have gz:=@Y1f4 B Ls p f k k1
 with_reducible repeat' (first | apply And.intro | exact zR | (intro))
 all_goals ((try simp only [std,inj] at *); with_reducible and_intros)
 all_goals try first | exact zw | exact List.set_set .. | exact Y14n (by grind) | exact Y146 (by grind) | exact Y1a3 (by grind) | exact Y11i _ (by omega) | exact gz h.2.2.2.2.1 h.2.2.2.2.2.1 (by omega) | grind)
theorem Z7l (B:List YB) (Ls:List YS) (p:YS) (f:YS) (o:List YC) (h:B.length<=1048577/\sumBy wB B<=1048577/\wY p<=1048576/\wY f <=
 1000000000/\o.length+Yft p<=2147483647/\Yge p<=40) (hl:Ls.all Yip=true) (hg:good Ls p) (ih:∀ (z:YS),z∈p.items->∀ (B:List YB) (Ls:List YS)
 (f:YS) (o:List YC),B.length<=1048577/\sumBy wB B<=1048577/\wY z<=1048576/\wY f<=1000000000/\o.length+Yft z<=2147483647/\Yge z<=40->Ls.all Yip =
 true->good Ls z->OK (Zk B Ls z f o)):Lp.Sem Tryz.prog (Yg6 Tryz.f35 0) (Z2b B Ls p f o):=Ygf (fun k=>.i ((k:Int)<(↑(f.items.map Yfn).length
 : Int) - (↑(List.take ((atI p.items - 1).toNat - 0) (List.drop 0 (p.items.map Yfn))).length:Int) - (↑(List.take ((p.items.map Yfn).length - (atI p.items +
 1).toNat) (List.drop (atI p.items+1).toNat (p.items.map Yfn))).length:Int)) (.w (.draw []) (.r (atI p.items - 1) (.x (atI p.items - 1) (p.items.map Yfn)
 (Yfu (p.items.getD (atI p.items - 1).toNat default)) (.r ((↑(List.take ((atI p.items - 1).toNat - 0) (List.drop 0 (p.items.map Yfn))).length:Int)+(k:Int)) (.x
 ((↑(List.take ((atI p.items - 1).toNat - 0) (List.drop 0 (p.items.map Yfn))).length:Int)+(k:Int)) (f.items.map Yfn) (Yfu (f.items.getD ((List.take
 ((atI p.items - 1).toNat - 0) (List.drop 0 (p.items.map Yfn))).length+k) default)) (.d [.rd,.rd,.rd,.own true 12] (Zk B Ls (p.items.getD (atI p.items -
 1).toNat default) (f.items.getD ((List.take ((atI p.items - 1).toNat - 0) (List.drop 0 (p.items.map Yfn))).length+k) default) []) (.h ((List.take ((atI p.items -
 1).toNat - 0) (List.drop 0 (p.items.map Yfn))).length<=9223372036854775807) (.b (!(gI B Ls (p.items.getD (atI p.items - 1).toNat default) (f.items.getD ((List.take ((atI
 p.items - 1).toNat - 0) (List.drop 0 (p.items.map Yfn))).length+k) default)).isSome) (.o 1 [0] [.s (.one (.val (.lit (.slice none 0 0)))),.s (lb false)])
 (.z Yfo (rp (nI Ls (xI p)) (rI B Ls p f k)) (.l (Z3w B Ls p f o k) (Zbq B Ls p f o h hl hg ih k) [0,1,2,3,4,5,17] [.s (li 0),.o (.arr true 12
 ((rp (nI Ls (xI p)) (rI B Ls p f k)).map Yfo)),.o (.arr true 12 ((smO (p.items.getD (atI p.items - 1).toNat default) [] (gI B Ls (p.items.getD (atI
 p.items - 1).toNat default) (f.items.getD ((List.take ((atI p.items - 1).toNat - 0) (List.drop 0 (p.items.map Yfn))).length+k) default))).map Yfo))] 0 (.t (.r ((k:Int)+1)
 (.g [0,1,2,3,4,5] (k+1) [.s (li ((k:Int)+1)),.o (.arr true 12 ((rp (nI Ls (xI p)) (rI B Ls p f (k+1))).map Yfo))])) .q))))))))))) (.o 0 [0,1,2,4,5]
 [.o (.arr true 12 ((rp (nI Ls (xI p)) (rI B Ls p f k)).map Yfo))])) (by
 intro k h; try dsimp only [Yfp,Yg0,Z2b,Z3w] at h ⊢
 rename_i hh
 have gn:=Ypq h.2.1
 have gx:=Y1m8 h.2.1 hg
 have e1:=Y19g h.2.1
 have e2:=Y1i9 h.2.1
 have e3:=Y1ms h.2.2
 have gl:=Y1af f
 have gs:=Y109 (Ls:=Ls) (xI p)
 have gt:=Ymw (xI p)
 have g10:=Yuc (nI Ls (xI p)) (rI B Ls p f k) (Ykz B Ls p f k)
 have g12:=Yl8 (nI Ls (xI p)) (rI B Ls p f k)
 have gw:=@Yoc (aT p+k) f
 with_reducible repeat' (first | apply And.intro | exact zR | exact ih | (intro))
 all_goals (try simp only [std,inj,e1,Y1fj] at *)
 all_goals with_reducible and_intros
 all_goals try first | with_reducible apply ih
 all_goals try first | exact zw | (have q:=gw (by omega); omega) | exact Y1ao h.2.1 (by omega) h.2.2 (Y1jf ‹_›) | exact Y1cs | exact Y1bf ‹_› | exact (Y18j h.2.2 (Y1bf ‹_›)).2 | exact Y1ns (by omega) h.2.2 | exact Y1mh (by omega) | grind)
theorem Zeq (B:List YB) (Ls:List YS) (p f:YS) (o:List YC) (h:B.length<=1048577/\sumBy wB B<=1048577/\wY p<=1048576/\wY f<=1000000000 /\
 o.length+Yft p<=2147483647/\Yge p<=40) (hl:Ls.all Yip=true) (hg:good Ls p) (ih:∀ z∈p.items,∀ (B:List YB) (Ls:List YS) (f:YS) (o:List
 YC) (h:B.length<=1048577/\sumBy wB B<=1048577/\wY z<=1048576/\wY f<=1000000000/\o.length+Yft z<=2147483647/\Yge z<=40) (hl:Ls.all Yip=true) (hg:good
 Ls z),Zk B Ls z f o)  : Zk B Ls p f o:=Yg4 Tryz.call35 Tryz.func35 (let v15:=(atI p.items - 1); let v14:=(p.items.map Yfn); let v7:=(↑(List.take
 (v15.toNat - 0) (v14.drop 0)).length:Int); let v11:=(↑(f.items.map Yfn).length:Int); let v17:=(atI p.items+1); let v9:=(↑(List.take (v14.length -
 v17.toNat) (List.drop v17.toNat v14)).length:Int); let v1:=(v7+(v11 - v7 - v9)); let v12:=(List.take (v15.toNat - 0) (p.items.drop 0)); let v18:=(List.take
 (v7.toNat - 0) (f.items.drop 0)); let v2:=(alM (gI B Ls) v12 v18); let v3:=(List.take (v14.length - v17.toNat) (List.drop v17.toNat p.items)); let v4:=((List.take
 (v15.toNat - 0) (v14.drop 0)).length<=9223372036854775807); let v26:=(.ref 1); let v5:=(.tup [.one v26,lb false]); let v6:=(0<=v7+(v11 - v7 - v9)); let v27
 := (List.take (v14.length - v17.toNat) (List.drop v17.toNat v14)); let v25:=(f.items.map Yfn); let v28:=(alO o v2++rp (nI Ls (xI p)) (rI B Ls p f (mI2 p f))); let
 v13:=(List.take (v25.length - v1.toNat) (List.drop v1.toNat f.items)); let v21:=[.dead,.arr true 12 ((alO v28 (alM (gI B Ls) v3 v13)).map Yfo)]; let v24:=
 (.tup [.one v26,lb (alM (gI B Ls) v3 v13).isSome]); let v8:=(Yjg Tryz.prog 93 [.arr true 12 ((alO o v2).map Yfo++(rp (nI Ls (xI p)) (rI B
 Ls p f (mI2 p f))).map Yfo)] [.agg [vL (B.map Yfq),vL (Ls.map Yfn)],ll v27,ll (List.take (v25.length - v1.toNat) (List.drop v1.toNat v25)),.one (.ref 0)] v21
 v24); let v10:=[.dead,.arr true 12 (o.map Yfo)]; let v16:=[.dead,.arr true 12 []]; let v19:=(Yjg Tryz.prog 93 [.arr true 12 (o.map Yfo)]
 [.agg [vL (B.map Yfq),vL (Ls.map Yfn)],ll (List.take (v15.toNat - 0) (v14.drop 0)),ll (List.take (v7.toNat - 0) (v25.drop 0)),.one (.ref 0)]
 [.dead,.arr true 12 ((alO o v2).map Yfo)] (.tup [.one v26,lb v2.isSome])); let v20:=[.dead,.arr true 12 (o.map Yfo++[[cI p.kind,cI
 p.number,cS p.text,.list (p.scopes.map Yfr),.list v14,cI 0,cI f.kind,cI f.number,cS f.text,.list (f.scopes.map Yfr),.list v25,.list
 []]])]; let v22:=((((alO o v2).map Yfo).length+((rp (nI Ls (xI p)) (rI B Ls p f (mI2 p f))).map Yfo).length) * 192<=140737488355328); let v23:=
 (p.items.getD v15.toNat default); let v29:=[(6,[6,7,16,17]),(7,[0,24])]; let v30:=[.dead,.arr true 12 ((alO o (alM (gI B Ls) p.items f.items)).map Yfo)];
 let v31:=(((o.map Yfo).length+1) * 192<=140737488355328); let v32:=(.arr true 12 (((vrI Ls v23 1 []).getD []).map Yfo)); .c [.rd] (Z76 p) (.b
 (decide (p.kind=1)&&Yh8 p) (.w (.ghost (.move 0)) (.f [4] v10 (.tup [.one v26,lb true]))) (.i (p.kind=1) (.c [.rd,.rd] (Z8r Ls p) (.b (Yi6 Ls p) (.i (f.kind =
 1) (.d [.rd,.rd,.rd] (Z6y B p f) (.w (.ghost (.move 0)) (.f [4] v10 (.tup [.one v26,lb (mng B p f)])))) (.w (.ghost (.move 0)) (.f [4] v10 v5))) (.i (p.kind=1) (.w
 (.draw v29) (.d [.rd] (Zm p) (.d [.rd] (Zm f) (.p v31 (.f [25] v20 (.tup [.one v26,lb true])))))) (.i (p.kind≠0) (.w (.draw []) (.i (f.kind=p.kind) (.i
 (f.number=p.number) (.w (.ghost (.move 0)) (.f [4] v10 (.tup [.one v26,lb (decide (f.text.data.toList=p.text.data.toList))]))) (.w (.ghost (.move 0)) (.f [4] v10 v5)))
 (.y false (.w (.ghost (.move 0)) (.f [4] v10 v5))))) (.i (f.kind≠0) (.w (.ghost (.nilreg 8 true 12)) (.w (.ghost (.move 0)) (.f [4] v16 v5))) (.c [.rd] (Z9z p.items) (.i (atI
 p.items<0) (.z Yfn p.items (.z Yfn f.items (.i ((↑(p.items.map Yfn).length:Int)≠v11) (.w (.ghost (.nilreg 8 true 12)) (.w (.ghost (.move 0)) (.f [4] v16
 v5))) (.d [.rd,.rd,.rd,.own true 12] (Z22 B Ls p.items f.items o) (.f [5] v30 (.tup [.one v26,lb (alM (gI B Ls) p.items f.items).isSome])))))) (.r v15 (.p (0<=atI
 p.items - 1) (.p (0<=v15.toNat/\v15.toNat<=v14.length/\∀ (e:List Cell),e∈p.items.map Yfn->e.length=5) (.r v17 (.p (0<=atI p.items+1) (.p (v17.toNat <=
 v14.length/\v14.length<=v14.length/\∀ (e:List Cell),e∈p.items.map Yfn->e.length=5) (.z Yfn f.items (.h v4 (.r (v11 - v7) (.h (v27.length <=
 9223372036854775807) (.r (v11 - v7 - v9) (.i (v11 - v7 - v9<0) (.w (.ghost (.nilreg 8 true 12)) (.w (.ghost (.move 0)) (.f [4] v16 v5))) (.w (.draw [(8,[0])]) (.p (0<=v7) (.p
 (0<=v7.toNat/\v7.toNat<=v25.length/\∀ (e:List Cell),e∈f.items.map Yfn->e.length=5) (.u [.rd,.rd,.rd,.own true 12] (Z22 B Ls v12 v18 o) (.p v19 (.h v4
 (.b (!(alM (gI B Ls) v12 v18).isSome) (.w (.ghost (.nilreg 8 true 12)) (.f [10] v16 v5)) (.w (.draw []) (.r v15 (.x v15 v14 (Yfu v23) (.d [.rd,.rd,.rd,.own true 12]
 (Ze Ls v23 1 []) (.l (Z2b B Ls p f o) (Z7l B Ls p f o h hl hg ih) [0,9,1,2,3,17] [.s (li 0),.o v32] 0 (.t (.p v22 (.w (.draw [(10,[5])]) (.r v1 (.p
 v6 (.p (v1.toNat<=v25.length/\v25.length<=v25.length/\∀ (e:List Cell),e∈f.items.map Yfn->e.length=5) (.u [.rd,.rd,.rd,.own true 12] (Z22 B Ls v3 v13
 v28) (.p v8 (.h v4 (.f [11] v21 v24))))))))) (.t (.w (.ghost (.nilreg 8 true 12)) (.f [1] v16 v5)) .q))))))))))))))))))))))))))))))))) (.y false (.i (p.kind=1) (.w (.draw v29)
 (.d [.rd] (Zm p) (.d [.rd] (Zm f) (.p v31 (.f [25] v20 (.tup [.one v26,lb true])))))) (.i (p.kind≠0) (.w (.draw []) (.i (f.kind=p.kind) (.i (f.number =
 p.number) (.w (.ghost (.move 0)) (.f [4] v10 (.tup [.one v26,lb (decide (f.text.data.toList=p.text.data.toList))]))) (.w (.ghost (.move 0)) (.f [4] v10 v5))) (.y false (.w
 (.ghost (.move 0)) (.f [4] v10 v5))))) (.i (f.kind≠0) (.w (.ghost (.nilreg 8 true 12)) (.w (.ghost (.move 0)) (.f [4] v16 v5))) (.c [.rd] (Z9z p.items) (.i (atI p.items<0)
 (.z Yfn p.items (.z Yfn f.items (.i ((↑(p.items.map Yfn).length:Int)≠v11) (.w (.ghost (.nilreg 8 true 12)) (.w (.ghost (.move 0)) (.f [4] v16 v5))) (.d [.rd,
 .rd,.rd,.own true 12] (Z22 B Ls p.items f.items o) (.f [5] v30 (.tup [.one v26,lb (alM (gI B Ls) p.items f.items).isSome])))))) (.r v15 (.p (0<=atI p.items - 1) (.p
 (0<=v15.toNat/\v15.toNat<=v14.length/\∀ (e:List Cell),e∈p.items.map Yfn->e.length=5) (.r v17 (.p (0<=atI p.items+1) (.p (v17.toNat<=v14.length /\
 v14.length<=v14.length/\∀ (e:List Cell),e∈p.items.map Yfn->e.length=5) (.z Yfn f.items (.h v4 (.r (v11 - v7) (.h (v27.length<=9223372036854775807) (.r (v11
 - v7 - v9) (.i (v11 - v7 - v9<0) (.w (.ghost (.nilreg 8 true 12)) (.w (.ghost (.move 0)) (.f [4] v16 v5))) (.w (.draw [(8,[0])]) (.p (0<=v7) (.p (0<=v7.toNat/\v7.toNat <=
 v25.length/\∀ (e:List Cell),e∈f.items.map Yfn->e.length=5) (.u [.rd,.rd,.rd,.own true 12] (Z22 B Ls v12 v18 o) (.p v19 (.h v4 (.b (!(alM (gI B Ls) v12
 v18).isSome) (.w (.ghost (.nilreg 8 true 12)) (.f [10] v16 v5)) (.w (.draw []) (.r v15 (.x v15 v14 (Yfu v23) (.d [.rd,.rd,.rd,.own true 12] (Ze Ls v23 1 []) (.l
 (Z2b B Ls p f o) (Z7l B Ls p f o h hl hg ih) [0,9,1,2,3,17] [.s (li 0),.o v32] 0 (.t (.p v22 (.w (.draw [(10,[5])]) (.r v1 (.p v6 (.p (v1.toNat<=v25.length
 /\ v25.length<=v25.length/\∀ (e:List Cell),e∈f.items.map Yfn->e.length=5) (.u [.rd,.rd,.rd,.own true 12] (Z22 B Ls v3 v13 v28) (.p v8 (.h v4 (.f [11] v21
 v24))))))))) (.t (.w (.ghost (.nilreg 8 true 12)) (.f [1] v16 v5)) .q))))))))))))))))))))))))))))))))))) (by
 dsimp only [Yfp,Zk,Yg0,Z2b]
 have g1:=@Y1m0 B Ls p f o
 have g2:=@Y1nh B Ls p f o
 have g3:=@Y1os B Ls p f o
 have g4:=@Y14k B Ls p f o
 have g6:=@Y1gg B Ls p f o
 have g14:=@Y1f9 Ls p hg
 have g19:=Yhn f
 have g20:=Yhn p
 have g21:=Ygo p
 have g22:=Y12e o p f
 with_reducible repeat' (first | apply And.intro | exact zR | (intro) | apply Z76 | apply Z8r | apply Zc3 | apply Z3 | apply Z9z | apply Zbe | apply Z77)
 all_goals ((try simp only [std,inj] at *); with_reducible and_intros)
 all_goals try first | with_reducible apply Zc3 | with_reducible apply Z3 | with_reducible apply Zbe | with_reducible apply Z77 | (simp only [<- List.map_append]; with_reducible apply Zbe)
 all_goals (try (
  have hf:=Y1pn hg ‹_› ‹_› ‹_› ‹_›
  have e1:=Y1gw hf
  have e2:=Y1hi hf
  have e3:=Y1ma hf
  simp only [Y1nw,e1,e2,e3,Yp4,Y1fj,Y1kd,Y1jo] at *
  have gn:=Ypq hf
  have gx:=Y1m8 hf hg
  have pl:=Y14y (Yku hf).2.2.1 (Yku hf).2.2.2.1
  have s1:=Y1nm f (aT p)
  have s2:=Y1nm f (aT p+mI2 p f)
  have s3:=@Y19s B Ls o (List.take (aT p) p.items) (List.take (aT p) f.items)
  have s4:=Y109 (Ls:=Ls) (xI p)
  have s5:=Yl8 (nI Ls (xI p)) (rI B Ls p f (mI2 p f))))
 all_goals with_reducible and_intros
 all_goals try first | exact zw | (have q:=Yot hg (Decidable.not_not.1 ‹¬¬p.kind=0›); omega) | exact (Y198 ‹_› ‹_›).1 | exact (Y198 (o:=o) ‹_› ‹_›).2 | exact (Y19v ‹_› ‹_› ‹_› ‹_›).1 | exact (Y19v (o:=o) ‹_› ‹_› ‹_› ‹_›).2 | exact (Y1db hg ‹_› ‹_› ‹_› ‹_›).1 | exact (Y1db (o:=o) hg ‹_› ‹_› ‹_› ‹_›).2 | exact Y1q9 ‹_› ‹_› ‹_› ‹_› | exact (Y1cq hf ‹_›).1 | exact (Y1cq (o:=o) hf ‹_›).2 | exact (Y18q ‹_› ‹_›).1 | exact (Y18q (o:=o) ‹_› ‹_›).2 | exact (Y1dj hf ‹_› ‹_›).1 | exact (Y1dj (o:=o) hf ‹_› ‹_›).2 | exact Y1ho hl hg hf | exact Y1hc hg (Yku hf).1 (Yku hf).2.2.1 (Yku hf).2.2.2.1 (by omega) | exact Y1cr hg (Yku hf).1 (Yku hf).2.2.1 (Yku hf).2.2.2.1 (by omega) | (simp only [List.length_append,List.length_take,List.length_drop,List.length_nil] at *; omega) | rfl | grind)
theorem Z8l (p:YS):∀ (B:List YB) (Ls:List YS) (f:YS) (o:List YC) (h:B.length<=1048577/\sumBy wB B<=1048577/\wY p<=1048576/\wY f<=1000000000/\o.length+Yft p<=2147483647/\Yge p<=40) (hl:Ls.all Yip=true) (hg:good Ls p),Zk B Ls p f o:=YS.ind (P:=fun p=>∀ (B:List YB) (Ls:List YS) (f:YS) (o:List YC) (h:B.length<=1048577/\sumBy wB B<=1048577/\wY p<=1048576/\wY f<=1000000000/\o.length+Yft p<=2147483647/\Yge p<=40) (hl:Ls.all Yip=true) (hg:good Ls p),Zk B Ls p f o) (fun p ih B Ls f o h hl hg=>Zeq B Ls p f o h hl hg ih) p
set_option maxHeartbeats 4000000
mutual
/-- the names of a form,each once -/
def Yfv:YS->List YS->List YS
 | ⟨k,n,t,s,l⟩,o=>Yyp l (if k=1/\Ygw o ⟨k,n,t,s,l⟩=false then o++[⟨k,n,t,s,l⟩] else o)
def Yyp:List YS->List YS->List YS
 | [],o=>o
 | x :: r,o=>Yyp r (Yfv x o)
end
theorem Y16a:∀ (l:List YS) (o:List YS),Yyp l o=l.foldl (fun o x=>Yfv x o) o
 | [],_=>by rw [Yyp]; rfl
 | x :: r,o=>by rw [Yyp,Y16a r]; rfl
def Yjm (s:YS) (o:List YS):List YS:=if s.kind=1/\Ygw o s=false then o++[s] else o
theorem Ypo (s:YS) (o:List YS):Yfv s o=s.items.foldl (fun o x=>Yfv x o) (Yjm s o):=by cases s; simp only [Yfv,Y16a,Yjm]
theorem Yx2 (s:YS) (o:List YS):(Yjm s o).length<=o.length+1:=by unfold Yjm; split <;> simp
theorem Ys6:∀ (L:List YS),(∀ x∈L,∀ o,(Yfv x o).length<=o.length+Yft x)->∀ o,(L.foldl (fun o x=>Yfv x o) o).length<=o.length+sumBy Yft L
 | [],_,o=>by simp [sumBy]
 | x :: r,h,o=>by
  have h1:=h x List.mem_cons_self o
  have h2:=Ys6 r (fun y hy=>h y (List.mem_cons_of_mem _ hy)) (Yfv x o)
  simp only [List.foldl_cons,sumBy]; omega
theorem Yqc:∀ (s:YS) (o:List YS),(Yfv s o).length<=o.length+Yft s:=by
 refine YS.ind fun s ih o => ?_
 have h1:=Ys6 s.items ih (Yjm s o)
 have h2:=Yx2 s o
 rw [Ypo,Ygo]; omega
abbrev Z16 (s:YS) (o:List YS):Ct:=⟨43,[.arr true 5 (o.map Yfn)],[Ygb s,.one (.ref 0)],[.dead,.arr true 5 ((Yfv s o).map Yfn)],.sv (.one (.ref 1))⟩
def Z1o (s:YS) (o:List YS):Lp Nat:=.mk 33 1 (fun x=>[(1,.one (.ref 1)),(22,ll (s.items.map Yfn)),(23,li (↑(List.map Yfn
 s.items).length:Int)),(24,hs x 0)]) (fun x=>[.dead,ho x 1]) (fun k=>[.s (li (k:Int)),.o (.arr true 5 ((List.foldl (fun o x=>Yfv x o) (Yjm s
 o) (s.items.take k)).map Yfn))]) (fun k=>k<=s.items.length/\s.items.length<=9223372036854775807) (fun k=>s.items.length - k) [.mk True (.exit 0) (fun x=>[(1,.one (.ref
 1))]) (fun x=>[.dead,ho x 0]) [.o (.arr true 5 ((Yfv s o).map Yfn))]]
theorem Z5t (s:YS) (o:List YS) (h:o.length+Yft s<=2147483647/\wY s<=1000000000) (ih:∀ (z:YS),z∈s.items->∀ (o:List YS),o.length +
 Yft z<=2147483647/\wY z<=1000000000->OK (Z16 z o)):Lp.Sem Tryz.prog (Yg6 Tryz.f43 0) (Z1o s o):=Ygf (fun k=>.i ((k:Int)<(↑(List.map Yfn
 s.items).length:Int)) (.x (k:Int) (s.items.map Yfn) (Yfu (s.items.getD k default)) (.d [.rd,.own true 5] (Z16 (s.items.getD k default) (List.foldl (fun o x
 => Yfv x o) (Yjm s o) (s.items.take k))) (.r ((k:Int)+1) (.g [0,4] (k+1) [.s (li ((k:Int)+1)),.o (.arr true 5 ((Yfv (s.items.getD k
 default) (List.foldl (fun o x=>Yfv x o) (Yjm s o) (s.items.take k))).map Yfn))])))) (.o 0 [0,1] [.o (.arr true 5 ((List.foldl (fun o x=>Yfv x o) (Yjm s o)
 (s.items.take k)).map Yfn))])) (by
 intro k h; try dsimp only [Yfp,Yg0,Z1o] at h ⊢
 have g1:=Ys6 (s.items.take k) (fun x _ o=>Yqc x o) (Yjm s o)
 have g2:=Yx2 s o
 have g3:=@Yj5 s k
 have g4:=Ygo s
 with_reducible repeat' (first | apply And.intro | exact zR | exact ih | (intro) | apply Z5 | apply ih)
 all_goals ((try simp only [std,inj] at *); with_reducible and_intros)
 all_goals try with_reducible first | apply Z5 | apply ih
 all_goals try first | exact z | grind [Ypo,Ymc,Yfx,Yfy,Yfz,Yfs])
theorem Zer (s:YS) (o:List YS) (h:o.length+Yft s<=2147483647/\wY s<=1000000000) (ih:∀ z∈s.items,∀ (o:List YS) (h:o.length+Yft z <=
 2147483647/\wY z<=1000000000),Z16 z o)  : Z16 s o:=Yg4 Tryz.call43 Tryz.func43 (.i (s.kind=1) (.c [.rd,.rd] (Z4p o s) (.b (!Ygw o s) (.d [.rd] (Zl s)
 (.p (((o.map Yfn).length+1) * 80<=140737488355328) (.z Yfn s.items (.l (Z1o s o) (Z5t s o h ih) [0,5] [.s (li 0),.o (.arr true 5 (List.map
 Yfn o++[Yfu s]))] 0 (.t (.f [1] [.dead,.arr true 5 ((Yfv s o).map Yfn)] (.sv (.one (.ref 1)))) .q))))) (.z Yfn s.items (.w (.ghost (.move 0))
 (.l (Z1o s o) (Z5t s o h ih) [0,2] [.s (li 0),.o (.arr true 5 (o.map Yfn))] 0 (.t (.f [1] [.dead,.arr true 5 ((Yfv s o).map Yfn)]
 (.sv (.one (.ref 1)))) .q)))))) (.y false (.z Yfn s.items (.w (.ghost (.move 0)) (.l (Z1o s o) (Z5t s o h ih) [0,2] [.s (li 0),.o (.arr true 5
 (o.map Yfn))] 0 (.t (.f [1] [.dead,.arr true 5 ((Yfv s o).map Yfn)] (.sv (.one (.ref 1)))) .q)))))) (by
 dsimp only [Yfp,Z16,Yg0,Z1o]
 have g4:=Ygo s
 with_reducible repeat' (first | apply And.intro | exact zR | exact ih | (intro) | apply Z5)
 all_goals ((try simp only [std,inj] at *); with_reducible and_intros)
 all_goals try first | with_reducible (first | apply Z5 | apply ih) | (simp only [<- List.map_append]; with_reducible first | apply Z5 | apply ih)
 all_goals try first | exact z | grind [Yjm,Yfy,Yfz,Yfs])
theorem Z2c (s:YS):∀ (o:List YS) (h:o.length+Yft s<=2147483647/\wY s<=1000000000),Z16 s o:=YS.ind (P:=fun s=>∀ (o:List YS) (h:o.length+Yft s<=2147483647/\wY s<=1000000000),Z16 s o) (fun s ih o h=>Zer s o h ih) s
def Yql (C:List YC) (a:Nat):List YS->List YC
 | []=>C
 | x :: r=>let O:=Yql C a r; if 0<=fnd C x/\0<(C.getD (fnd C x).toNat default).depth then O.set (fnd C x).toNat ((C.getD (fnd C x).toNat default).each.getD a default) else O
def Yi3 (C:List YC) (a:Nat) (I:List YS) (k:Nat):List YC:=Yql C a (I.take k).reverse
theorem Yse (C:List YC) (a:Nat):∀ I,(Yql C a I).length=C.length
 | []=>rfl
 | x :: r=>by simp only [Yql]; split <;> simp [Yse C a r]
theorem Y1ag {C:List YC} {a:Nat} {I:List YS} {k:Nat} (h:k<I.length):Yi3 C a I (k+1)=if 0<=fnd C (I.getD k default)/\0<(C.getD (fnd C (I.getD k default)).toNat default).depth then (Yi3 C a I k).set (fnd C (I.getD k default)).toNat ((C.getD (fnd C (I.getD k default)).toNat default).each.getD a default) else Yi3 C a I k:=by
 unfold Yi3; rw [Ygg h,List.reverse_append]; rfl
theorem Y1rl {L:List YC} {k:Nat} {x:YC}:(L.map Yfo).set k (Yg7 x)=(L.set k x).map Yfo:=by rw [List.map_set,Ymm]
theorem Yn5 (s:YS):Yft s<=wY s+1:=by
 refine YS.ind (P:=fun s=>Yft s<=wY s+1) (fun s ih => ?_) s
 have:∀ L:List YS,(∀ x∈L,Yft x<=wY x+1)->sumBy Yft L<=L.length+sumBy wY L:=by
  intro L
  induction L with
  | nil=>intro _; simp [sumBy]
  | cons x r ihr=>
   intro h
   have h1:=h x List.mem_cons_self
   have h2:=ihr fun y hy=>h y (List.mem_cons_of_mem _ hy)
   simp only [sumBy,List.length_cons]; omega
 have h1:=this s.items ih
 have h2:=Yhn s
 rw [Ygo]; omega
abbrev Z70 (C:List YC) (t:YS) (a:Nat):Ct:=⟨220,[],[ll (C.map Yfo),Ygb t,li a],[],.sv (ll ((Yi3 C a (Yfv t []) (Yfv t []).length).map Yfo))⟩
def Z4l (C:List YC) (t:YS) (a:Nat):Lp Nat:=.mk 48 0 (fun x=>[(0,ll (C.map Yfo)),(2,li (a:Int)),(7,.one (.ref 0)),(16,.one
 (.ref 1)),(17,li (↑((Yfv t []).map Yfn).length:Int)),(18,hs x 0)]) (fun x=>[ho x 1,.arr true 5 ((Yfv t []).map Yfn)]) (fun k=>[.s (li (↑k :
 Int)),.o (.arr false 12 ((Yi3 C a (Yfv t []) k).map Yfo))]) (fun k=>k<=(Yfv t []).length/\(Yfv t []).length<=9223372036854775807) (fun k=>(Yfv t
 []).length - k) [.mk True (.exit 0) (fun x=>[(7,.one (.ref 0))]) (fun x=>[ho x 0]) [.o (.arr false 12 ((Yi3 C a (Yfv t []) (Yfv t []).length).map Yfo))]]
theorem Zcp (C:List YC) (t:YS) (a:Nat) (h:C.length<=1000000000/\wY t<=1000000000/\a<=1000000000) (hb:∀ (x:YS),x∈Yfv t []->0<=fnd C x->0
 < (C.getD (fnd C x).toNat default).depth->a<(C.getD (fnd C x).toNat default).each.length):Lp.Sem Tryz.prog (Yg6 Tryz.f220 0) (Z4l C t a):=Ygf (fun k=>.i ((↑k :
 Int)<(↑((Yfv t []).map Yfn).length:Int)) (.p (0<=(k:Int)/\(k:Int).toNat<((Yfv t []).map Yfn).length) (.w (.cells (Yfu ((Yfv t []).getD (↑k :
 Int).toNat default))) (.p (((Yfv t []).map Yfn)[(k:Int).toNat]? = some (Yfu ((Yfv t []).getD (k:Int).toNat default))) (.c [.rd,.rd] (Z4o C ((Yfv t
 []).getD (k:Int).toNat default)) (.i (0<=fnd C ((Yfv t []).getD (k:Int).toNat default)) (.x (fnd C ((Yfv t []).getD (k:Int).toNat default)) (C.map Yfo)
 (Yg7 (C.getD (fnd C ((Yfv t []).getD (k:Int).toNat default)).toNat default)) (.i (0<(C.getD (fnd C ((Yfv t []).getD (k:Int).toNat default)).toNat default).depth)
 (.x (fnd C ((Yfv t []).getD (k:Int).toNat default)) (C.map Yfo) (Yg7 (C.getD (fnd C ((Yfv t []).getD (k:Int).toNat default)).toNat default)) (.x (a:Int)
 ((C.getD (fnd C ((Yfv t []).getD (k:Int).toNat default)).toNat default).each.map Yfo) (Yg7 ((C.getD (fnd C ((Yfv t []).getD (k:Int).toNat default)).toNat
 default).each.getD a default)) (.p (0<=fnd C ((Yfv t []).getD (k:Int).toNat default)/\(fnd C ((Yfv t []).getD (k:Int).toNat default)).toNat<((Yi3 C
 a (Yfv t []) k).map Yfo).length) (.w (.cells (Yg7 ((Yi3 C a (Yfv t []) k).getD (fnd C ((Yfv t []).getD (k:Int).toNat default)).toNat default))) (.p (((Yi3
 C a (Yfv t []) k).map Yfo)[(fnd C ((Yfv t []).getD (k:Int).toNat default)).toNat]? = some (Yg7 ((Yi3 C a (Yfv t []) k).getD (fnd C ((Yfv t []).getD (k:Int).toNat
 default)).toNat default))) (.r ((k:Int)+1) (.g [0,1] (k+1) [.s (li ((k:Int)+1)),.o (.arr false 12 (((Yi3 C a (Yfv t []) k).map Yfo).set (fnd C ((Yfv
 t []).getD (k:Int).toNat default)).toNat (Yg7 ((C.getD (fnd C ((Yfv t []).getD (k:Int).toNat default)).toNat default).each.getD a default))))]))))))) (.r ((k:Int) +
 1) (.g [0,1] (k+1) [.s (li ((k:Int)+1)),.o (.arr false 12 ((Yi3 C a (Yfv t []) k).map Yfo))])))) (.y false (.r ((k:Int)+1) (.g [0,1] (k+1) [.s (li
 ((k:Int)+1)),.o (.arr false 12 ((Yi3 C a (Yfv t []) k).map Yfo))])))))))) (.o 0 [0] [.o (.arr false 12 ((Yi3 C a (Yfv t []) k).map Yfo))])) (by
 intro k h; try dsimp only [Yfp,Yg0,Z4l] at h ⊢
 have g1:=Yl7 C ((Yfv t []).getD k default)
 have g2:=@Y1ag C a (Yfv t []) k
 have g3:(Yi3 C a (Yfv t []) k).length=C.length:=Yse C a ((Yfv t []).take k).reverse
 have g4:=hb ((Yfv t []).getD k default)
 with_reducible repeat' (first | apply And.intro | exact zR | (intro) | apply Z2c)
 all_goals ((try simp only [std,inj] at *); with_reducible and_intros)
 all_goals try with_reducible first | apply Z2c
 all_goals try first | exact z | grind [Yfx,Y1rl,Yfy,Yfz,Yfs])
theorem Z2y (C:List YC) (t:YS) (a:Nat) (h:C.length<=1000000000/\wY t<=1000000000/\a<=1000000000) (hb:∀ x∈Yfv t [],0<=fnd C x->0<(C.getD (fnd C
 x).toNat default).depth->a<(C.getD (fnd C x).toNat default).each.length)  : Z70 C t a:=Yg4 Tryz.call220 Tryz.func220 (.w (.bool true) (.p (∀ (e:List Cell),e ∈
 C.map Yfo->e.length=12) (.p ((0+(C.map Yfo).length) * 192<=140737488355328) (.w (.bool false) (.d [.rd,.own true 5] (Z16 t []) (.z Yfn (Yfv t
 []) (.l (Z4l C t a) (Zcp C t a h hb) [2,5] [.s (li 0),.o (.arr false 12 (C.map Yfo))] 0 (.t (.w (.ghost (.lock 0)) (.s (ll ((Yi3 C
 a (Yfv t []) (Yfv t []).length).map Yfo)))) .q)))))))) (by
 dsimp only [Yfp,Z70,Yg0,Z4l]
 have g1:=Yqc t []
 have g2:=Yn5 t
 have g5:Yi3 C a (Yfv t []) 0=C:=rfl
 with_reducible repeat' (first | apply And.intro | exact zR | (intro) | apply Z2c)
 all_goals ((try simp only [std,inj] at *); with_reducible and_intros)
 all_goals try with_reducible first | apply Z2c
 all_goals (try exact zG))
abbrev Zs (t:YS):Ct:=⟨174,[],[Ygb t],[],.sv (lb (Yjh t))⟩
def Z28 (t:YS):Lp Nat:=.mk 42 0 (fun x=>[(1,.one (.ptr 0 0)),(6,ll (t.items.map Yfn)),(7,li (↑(t.items.map Yfn).length:Int)),
 (8,hs x 0)]) (fun x=>[.box (vals (Yfu t))]) (fun k=>[.s (li (k:Int))]) (fun k=>k<=t.items.length/\t.items.length<=9223372036854775807/\Yh0 true t.items =
 Yh0 (Yk2 t.items k) (t.items.drop k)) (fun k=>t.items.length - k) [.mk (Yh0 true t.items=true) (.exit 0) (fun x=>[(1,.one (.ptr 0 0))]) (fun x=>[.box
 (vals (Yfu t))]) [],.mk (Yh0 true t.items=false) .ret (fun x=>[(2,hs x 0)]) (fun x=>[]) [.s (lb false)]]
theorem Z8y (t:YS) (ih:∀ (z:YS),z∈t.items->OK (Zs z)):Lp.Sem Tryz.prog (Yg6 Tryz.f174 0) (Z28 t):=Ygf (fun k=>.i ((↑k :
 Int)<(↑(t.items.map Yfn).length:Int)) (.x (k:Int) (t.items.map Yfn) (Yfu (t.items.getD k default)) (.c [.rd] (Zb (t.items.getD k default)) (.b
 (Yfw (t.items.getD k default)) (.i ((k:Int)=0) (.y true (.y true (.o 1 [] [.s (lb false)]))) (.r ((k:Int) - 1) (.x ((k:Int) - 1) (t.items.map Yfn) (Yfu
 (t.items.getD ((k:Int) - 1).toNat default)) (.c [.rd] (Zb (t.items.getD ((k:Int) - 1).toNat default)) (.b (Yfw (t.items.getD ((k:Int) - 1).toNat default)) (.y
 true (.o 1 [] [.s (lb false)])) (.c [.rd] (Zb (t.items.getD k default)) (.b (!Yfw (t.items.getD k default)) (.d [.rd] (Zs (t.items.getD k default)) (.b (!Yjh
 (t.items.getD k default)) (.o 1 [] [.s (lb false)]) (.r ((k:Int)+1) (.g [0] (k+1) [.s (li ((k:Int)+1))])))) (.y false (.r ((k:Int)+1) (.g [0] (k+1) [.s (li ((↑k
 : Int)+1))])))))))))) (.y false (.c [.rd] (Zb (t.items.getD k default)) (.b (!Yfw (t.items.getD k default)) (.d [.rd] (Zs (t.items.getD k default)) (.b (!Yjh
 (t.items.getD k default)) (.o 1 [] [.s (lb false)]) (.r ((k:Int)+1) (.g [0] (k+1) [.s (li ((k:Int)+1))])))) (.y false (.r ((k:Int)+1) (.g [0] (k+1) [.s (li ((↑k
 : Int)+1))]))))))))) (.o 0 [0] [])) (by
 intro k h; try dsimp only [Yfp,Yg0,Z28] at h ⊢
 have g1:=@Yy1 t.items (Yk2 t.items k) k
 have g2:=@Y11g t.items (Yk2 t.items k) k
 have e:((k:Int) - 1).toNat=k - 1:=by omega
 have g3:Yk2 t.items k=(decide (k=0)||Yfw (t.items.getD (k - 1) default)):=rfl
 have g4:Yk2 t.items (k+1)=Yfw (t.items.getD k default):=by simp [Yk2]
 with_reducible repeat' (first | apply And.intro | exact zR | exact ih | (intro) | apply ih)
 all_goals ((try simp only [std,inj] at *); with_reducible and_intros)
 all_goals try with_reducible first | apply ih
 all_goals try first | exact z | grind [Yfx,Yfy,Yfz,Yfs])
theorem Zbr (t:YS) (ih:∀ z∈t.items,Zs z)  : Zs t:=Yg4 Tryz.call174 Tryz.func174 (.z Yfn t.items (.l (Z28 t) (Z8y t
 ih) [0] [.s (li 0)] 0 (.t (.c [.rd] (Zb t) (.s (lb !Yfw t))) (.t (.s (lb false)) .q)))) (by
 dsimp only [Yfp,Zs,Yg0,Z28]
 have g1:=Yvk t
 have g2:Yk2 t.items 0=true:=rfl
 have g3:t.items.drop 0=t.items:=rfl
 with_reducible repeat' (first | apply And.intro | exact zR | exact ih | (intro))
 all_goals ((try simp only [std,inj] at *); with_reducible and_intros)
 all_goals try with_reducible first | apply ih
 all_goals (try exact zG))
theorem Zdy (t:YS):Zs t:=YS.ind (P:=fun t=>Zs t) (fun t ih=>Zbr t ih) t
def Ygn (C:List YC) (x:YS):YC:=C.getD (fnd C x).toNat default
def rep (C:List YC) (x:YS):Bool:=decide (0<=fnd C x)&&decide (0<(Ygn C x).depth)
def cnN (C:List YC) (I:List YS):Nat->Int
 | 0 => -1
 | k+1=>if rep C (I.getD k default)=true then ((Ygn C (I.getD k default)).each.length:Int) else cnN C I k
def Yj0 (C:List YC) (I:List YS):Nat->Bool
 | 0=>true
 | k+1=>Yj0 C I k&&(!rep C (I.getD k default)||decide (cnN C I k<0)||decide (cnN C I k=((Ygn C (I.getD k default)).each.length:Int)))
theorem Y1a6 (C:List YC) (I:List YS):∀ (m k:Nat),k<=m->Yj0 C I m=true->Yj0 C I k=true
 | 0,k,h,_=>by
  obtain rfl:k=0:=by omega
  rfl
 | m+1,k,h,ht=>by
  by_cases e:k=m+1
  ·rw [e]; exact ht
  ·refine Y1a6 C I m k (by omega) ?_
   simp only [Yj0,Bool.and_eq_true] at ht; exact ht.1
abbrev Z5u (C:List YC) (t:YS):Ct:=⟨219,[],[ll (C.map Yfo),Ygb t],[],.tup [li (if Yj0 C (Yfv t []) (Yfv t []).length=true then cnN C (Yfv t []) (Yfv t []).length else 0),lb (Yj0 C (Yfv t []) (Yfv t []).length&&decide (0<=cnN C (Yfv t []) (Yfv t []).length))]⟩
def Z3f (C:List YC) (t:YS):Lp Nat:=.mk 53 0 (fun x=>[(0,ll (C.map Yfo)),(6,hs x 1),(12,.one (.ref 0)),(13,li (↑(List.map Yfn
 (Yfv t [])).length:Int)),(14,hs x 0)]) (fun x=>[.arr true 5 ((Yfv t []).map Yfn)]) (fun k=>[.s (li (k:Int)),.s (li (cnN C (Yfv t []) k))]) (fun k=>k <=
 (Yfv t []).length/\(Yfv t []).length<=9223372036854775807/\Yj0 C (Yfv t []) k=true) (fun k=>(Yfv t []).length - k) [.mk (Yj0 C (Yfv t []) (Yfv t []).length=true)
 (.exit 0) (fun x=>[(6,hs x 0)]) (fun x=>[]) [.s (li (cnN C (Yfv t []) (Yfv t []).length))],.mk (Yj0 C (Yfv t []) (Yfv t []).length=false) .ret (fun x=>[(4,hs x 0),
 (5,hs x 1)]) (fun x=>[]) [.s (li 0),.s (lb false)]]
theorem Zbf (C:List YC) (t:YS) (h:wY t<=1000000000):Lp.Sem Tryz.prog (Yg6 Tryz.f219 0) (Z3f C t):=Ygf (fun k=>.i ((k:Int) <
 (↑((Yfv t []).map Yfn).length:Int)) (.p (0<=(k:Int)/\(k:Int).toNat<((Yfv t []).map Yfn).length) (.w (.cells (Yfu ((Yfv t []).getD (↑k :
 Int).toNat default))) (.p (((Yfv t []).map Yfn)[(k:Int).toNat]? = some (Yfu ((Yfv t []).getD (k:Int).toNat default))) (.c [.rd,.rd] (Z4o C ((Yfv t
 []).getD (k:Int).toNat default)) (.i (fnd C ((Yfv t []).getD (k:Int).toNat default)<0) (.y true (.r ((k:Int)+1) (.g [0] (k+1) [.s (li ((k:Int)+1)),.s (li
 (cnN C (Yfv t []) k))]))) (.x (fnd C ((Yfv t []).getD (k:Int).toNat default)) (C.map Yfo) (Yg7 (C.getD (fnd C ((Yfv t []).getD (k:Int).toNat
 default)).toNat default)) (.i ((C.getD (fnd C ((Yfv t []).getD (k:Int).toNat default)).toNat default).depth<=0) (.r ((k:Int)+1) (.g [0] (k+1) [.s (li ((k:Int) +
 1)),.s (li (cnN C (Yfv t []) k))])) (.i (0<=cnN C (Yfv t []) k) (.x (fnd C ((Yfv t []).getD (k:Int).toNat default)) (C.map Yfo) (Yg7 (C.getD (fnd C ((Yfv t
 []).getD (k:Int).toNat default)).toNat default)) (.z Yfo (C.getD (fnd C ((Yfv t []).getD (k:Int).toNat default)).toNat default).each (.i (cnN C (Yfv t []) k ≠
 (↑((C.getD (fnd C ((Yfv t []).getD (k:Int).toNat default)).toNat default).each.map Yfo).length:Int)) (.o 1 [] [.s (li 0),.s (lb false)]) (.x (fnd C ((Yfv t
 []).getD (k:Int).toNat default)) (C.map Yfo) (Yg7 (C.getD (fnd C ((Yfv t []).getD (k:Int).toNat default)).toNat default)) (.z Yfo (C.getD (fnd C ((Yfv
 t []).getD (k:Int).toNat default)).toNat default).each (.r ((k:Int)+1) (.g [0] (k+1) [.s (li ((k:Int)+1)),.s (li (↑((C.getD (fnd C ((Yfv t
 []).getD (k:Int).toNat default)).toNat default).each.map Yfo).length:Int))]))))))) (.y false (.x (fnd C ((Yfv t []).getD (k:Int).toNat default)) (C.map Yfo) (Yg7
 (C.getD (fnd C ((Yfv t []).getD (k:Int).toNat default)).toNat default)) (.z Yfo (C.getD (fnd C ((Yfv t []).getD (k:Int).toNat default)).toNat default).each (.r ((↑k :
 Int)+1) (.g [0] (k+1) [.s (li ((k:Int)+1)),.s (li (↑((C.getD (fnd C ((Yfv t []).getD (k:Int).toNat default)).toNat default).each.map Yfo).length :
 Int))]))))))))))))) (.o 0 [] [.s (li (cnN C (Yfv t []) k))])) (by
 intro k h; try dsimp only [Yfp,Yg0,Z3f] at h ⊢
 have g1:=Y1a6 C (Yfv t []) (Yfv t []).length (k+1)
 have g2:Yj0 C (Yfv t []) (k+1)=(Yj0 C (Yfv t []) k&&(!rep C ((Yfv t []).getD k default)||decide (cnN C (Yfv t []) k<0)||decide (cnN C (Yfv t []) k=((Ygn C ((Yfv t []).getD k default)).each.length:Int)))):=rfl
 have g3:cnN C (Yfv t []) (k+1)=if rep C ((Yfv t []).getD k default)=true then ((Ygn C ((Yfv t []).getD k default)).each.length:Int) else cnN C (Yfv t []) k:=rfl
 have g4:=Yl7 C ((Yfv t []).getD k default)
 have g5:Ygn C ((Yfv t []).getD k default)=C.getD (fnd C ((Yfv t []).getD k default)).toNat default:=rfl
 have g6:rep C ((Yfv t []).getD k default)=(decide (0<=fnd C ((Yfv t []).getD k default))&&decide (0<(Ygn C ((Yfv t []).getD k default)).depth)):=rfl
 with_reducible repeat' (first | apply And.intro | exact zR | (intro) | apply Z2c)
 all_goals ((try simp only [std,inj] at *); with_reducible and_intros)
 all_goals try with_reducible first | apply Z2c
 all_goals try first | exact z | grind [Yfx,Yfy,Yfz,Yfs])
theorem Z1e (C:List YC) (t:YS) (h:wY t<=1000000000)  : Z5u C t:=Yg4 Tryz.call219 Tryz.func219 (.w (.bool false) (.d [.rd,.own true 5] (Z16 t
 []) (.z Yfn (Yfv t []) (.l (Z3f C t) (Zbf C t h) [3] [.s (li 0),.s (li (-1:Int))] 0 (.t (.f [] [] (.tup [li (cnN C (Yfv t []) (Yfv t []).length),lb
 (decide (0<=cnN C (Yfv t []) (Yfv t []).length))])) (.t (.f [] [] (.tup [li 0,lb false])) .q)))))) (by
 dsimp only [Yfp,Z5u,Yg0,Z3f]
 have g1:=Yqc t []
 have g2:=Yn5 t
 with_reducible repeat' (first | apply And.intro | exact zR | (intro) | apply Z2c)
 all_goals ((try simp only [std,inj] at *); with_reducible and_intros)
 all_goals try with_reducible first | apply Z2c
 all_goals try first | exact z | grind [cnN,Yj0,Yfy,Yfz,Yfs])
abbrev Z9m (L:List Int) (n:Int):Ct:=⟨172,[],[ll (L.map Yfr),li n],[],.sv (lb (decide (n∈L)))⟩
def Z4m (L:List Int) (n:Int):Lp Nat:=.mk 17 0 (fun x=>[(1,li n),(7,ll (L.map Yfr)),(8,li (↑(L.map Yfr).length:Int)),(9,hs x 0)]) (fun x=>[])
 (fun k=>[.s (li (k:Int))]) (fun k=>k<=L.length/\L.length<=9223372036854775807/\decide (n∈L.take k)=false) (fun k=>L.length - k) [.mk (decide (n∈L)=false)
 (.exit 0) (fun x=>[]) (fun x=>[]) [],.mk (decide (n∈L)=true) .ret (fun x=>[(4,hs x 0)]) (fun x=>[]) [.s (lb true)]]
theorem Zcq (L:List Int) (n:Int):Lp.Sem Tryz.prog (Yg6 Tryz.f172 0) (Z4m L n):=Ygf (fun k=>.i ((k:Int)<(↑(L.map Yfr).length:Int)) (.x (↑k :
 Int) (L.map Yfr) [cI (L.getD k 0)] (.i (L.getD k 0=n) (.o 1 [] [.s (lb true)]) (.r ((k:Int)+1) (.g [] (k+1) [.s (li ((k:Int)+1))])))) (.o 0 [] [])) (by
 intro k h; try dsimp only [Yfp,Yg0,Z4m] at h ⊢
 with_reducible repeat' (first | apply And.intro | exact zR | (intro))
 all_goals ((try simp only [std,inj] at *); with_reducible and_intros)
 all_goals try first | exact z | grind [Ygg,Yfx,Yfy,Yfz,Yfs])
theorem Zf6 (L:List Int) (n:Int)  : Z9m L n:=Yg4 Tryz.call172 Tryz.func172 (.z Yfr L (.l (Z4m L n) (Zcq L n) [] [.s (li 0)] 0 (.t (.s (lb false)) (.t
 (.s (lb true)) .q)))) (by
 dsimp only [Yfp,Z9m,Yg0,Z4m]
 exact zV)
mutual
/-- the places of the captures of more than one form that a template names,each once -/
def rpi (C:List YC):YS->List Int->List Int
 | ⟨k,n,t,s,l⟩,o=>Y16j C l (if k=1/\rep C ⟨k,n,t,s,l⟩=true/\fnd C ⟨k,n,t,s,l⟩ ∉ o then o++[fnd C ⟨k,n,t,s,l⟩] else o)
def Y16j (C:List YC):List YS->List Int->List Int
 | [],o=>o
 | x :: r,o=>Y16j C r (rpi C x o)
end
theorem Y19p (C:List YC):∀ (l:List YS) (o:List Int),Y16j C l o=l.foldl (fun o x=>rpi C x o) o
 | [],_=>by rw [Y16j]; rfl
 | x :: r,o=>by rw [Y16j,Y19p C r]; rfl
def Yp6 (C:List YC) (t:YS) (o:List Int):List Int:=if t.kind=1/\rep C t=true/\fnd C t ∉ o then o++[fnd C t] else o
theorem Y14a (C:List YC) (t:YS) (o:List Int):rpi C t o=t.items.foldl (fun o x=>rpi C x o) (Yp6 C t o):=by cases t; simp only [rpi,Y19p,Yp6]
theorem Y13o (C:List YC) (t:YS) (o:List Int):(Yp6 C t o).length<=o.length+1:=by unfold Yp6; split <;> simp
theorem Y10a (C:List YC):∀ (L:List YS),(∀ x∈L,∀ o,(rpi C x o).length<=o.length+Yft x)->∀ o,(L.foldl (fun o x=>rpi C x o) o).length<=o.length+sumBy Yft L
 | [],_,o=>by simp [sumBy]
 | x :: r,h,o=>by
  have h1:=h x List.mem_cons_self o
  have h2:=Y10a C r (fun y hy=>h y (List.mem_cons_of_mem _ hy)) (rpi C x o)
  simp only [List.foldl_cons,sumBy]; omega
theorem Y181 (C:List YC):∀ (t:YS) (o:List Int),(rpi C t o).length<=o.length+Yft t:=by
 refine YS.ind fun t ih o => ?_
 have h1:=Y10a C t.items ih (Yp6 C t o)
 have h2:=Y13o C t o
 rw [Y14a,Ygo]; omega
abbrev Z23 (t:YS) (C:List YC) (o:List Int):Ct:=⟨107,[.arr true 1 (o.map Yfr)],[Ygb t,ll (C.map Yfo),.one (.ref 0)],[.dead,.arr true 1 ((rpi C t o).map Yfr)],.sv (.one (.ref 1))⟩
def Z17 (t:YS) (C:List YC) (o:List Int):Lp Nat:=.mk 46 1 (fun x=>[(1,ll (C.map Yfo)),(2,.one (.ref 1)),(34,ll (List.map Yfn
 t.items)),(35,li (↑(t.items.map Yfn).length:Int)),(36,hs x 0)]) (fun x=>[.dead,ho x 1]) (fun k=>[.s (li (k:Int)),.o (.arr true 1 (List.map Yfr
 (List.foldl (fun o x=>rpi C x o) (Yp6 C t o) (t.items.take k))))]) (fun k=>k<=t.items.length/\t.items.length<=9223372036854775807) (fun k=>t.items.length - k) [.mk
 True (.exit 0) (fun x=>[(2,.one (.ref 1))]) (fun x=>[.dead,ho x 0]) [.o (.arr true 1 ((rpi C t o).map Yfr))]]
theorem Z3x (t:YS) (C:List YC) (o:List Int) (h:o.length+Yft t<=2147483647) (ih:∀ (z:YS),z∈t.items->∀ (C:List YC) (o:List Int),
 o.length+Yft z<=2147483647->OK (Z23 z C o)):Lp.Sem Tryz.prog (Yg6 Tryz.f107 0) (Z17 t C o):=Ygf (fun k=>.i ((k:Int)<(↑(List.map Yfn
 t.items).length:Int)) (.x (k:Int) (t.items.map Yfn) (Yfu (t.items.getD k default)) (.d [.rd,.rd,.own true 1] (Z23 (t.items.getD k default) C (List.foldl
 (fun o x=>rpi C x o) (Yp6 C t o) (t.items.take k))) (.r ((k:Int)+1) (.g [0,4] (k+1) [.s (li ((k:Int)+1)),.o (.arr true 1 ((rpi C
 (t.items.getD k default) (List.foldl (fun o x=>rpi C x o) (Yp6 C t o) (t.items.take k))).map Yfr))])))) (.o 0 [0,1] [.o (.arr true 1 ((List.foldl (fun o x=>rpi
 C x o) (Yp6 C t o) (t.items.take k)).map Yfr))])) (by
 intro k h; try dsimp only [Yfp,Yg0,Z17] at h ⊢
 have g1:=Y10a C (t.items.take k) (fun x _ o=>Y181 C x o) (Yp6 C t o)
 have g2:=Y13o C t o
 have g3:=@Yj5 t k
 with_reducible repeat' (first | apply And.intro | exact zR | exact ih | (intro) | apply ih)
 all_goals ((try simp only [std,inj] at *); with_reducible and_intros)
 all_goals try with_reducible first | apply ih
 all_goals try first | exact z | grind [Y14a,Ymc,Yfx,Yfy,Yfz,Yfs])
theorem Zes (t:YS) (C:List YC) (o:List Int) (h:o.length+Yft t<=2147483647) (ih:∀ z∈t.items,∀ (C:List YC) (o:List Int) (h:o.length+Yft
 z<=2147483647),Z23 z C o)  : Z23 t C o:=Yg4 Tryz.call107 Tryz.func107 (.c [.rd,.rd] (Z74 C t) (.i (0<=if t.kind=1 then fnd C t else (-1:Int)) (.x (if t.kind
 = 1 then fnd C t else (-1:Int)) (C.map Yfo) (Yg7 (C.getD (if t.kind=1 then fnd C t else (-1:Int)).toNat default)) (.i (0<(C.getD (if t.kind=1 then fnd C t
 else (-1:Int)).toNat default).depth) (.c [.rd,.rd] (Zf6 o (if t.kind=1 then fnd C t else (-1:Int))) (.b (!decide ((if t.kind=1 then fnd C t else (-1:Int))∈o)) (.p
 (((o.map Yfr).length+1) * 8<=140737488355328) (.z Yfn t.items (.l (Z17 t C o) (Z3x t C o h ih) [0,3] [.s (li 0),.o (.arr true 1 (o.map Yfr
 ++ [[cI (if t.kind=1 then fnd C t else (-1:Int))]]))] 0 (.t (.f [1] [.dead,.arr true 1 ((rpi C t o).map Yfr)] (.sv (.one (.ref 1)))) .q)))) (.z Yfn
 t.items (.w (.ghost (.move 0)) (.l (Z17 t C o) (Z3x t C o h ih) [0,2] [.s (li 0),.o (.arr true 1 (o.map Yfr))] 0 (.t (.f [1] [.dead,.arr true 1
 ((rpi C t o).map Yfr)] (.sv (.one (.ref 1)))) .q)))))) (.y false (.z Yfn t.items (.w (.ghost (.move 0)) (.l (Z17 t C o) (Z3x t C o h ih) [0,2] [.s
 (li 0),.o (.arr true 1 (o.map Yfr))] 0 (.t (.f [1] [.dead,.arr true 1 ((rpi C t o).map Yfr)] (.sv (.one (.ref 1)))) .q))))))) (.y false (.y false (.z
 Yfn t.items (.w (.ghost (.move 0)) (.l (Z17 t C o) (Z3x t C o h ih) [0,2] [.s (li 0),.o (.arr true 1 (o.map Yfr))] 0 (.t (.f [1] [.dead,.arr
 true 1 ((rpi C t o).map Yfr)] (.sv (.one (.ref 1)))) .q)))))))) (by
 dsimp only [Yfp,Z23,Yg0,Z17]
 have g1:=Yl7 C t
 have g2:=Ygo t
 have g3:rep C t=(decide (0<=fnd C t)&&decide (0<(Ygn C t).depth)):=rfl
 have g4:Ygn C t=C.getD (fnd C t).toNat default:=rfl
 with_reducible repeat' (first | apply And.intro | exact zR | exact ih | (intro))
 all_goals ((try simp only [std,inj] at *); with_reducible and_intros)
 all_goals try first | with_reducible (first | apply ih) | (simp only [<- List.map_append]; with_reducible first | apply ih)
 all_goals try first | exact z | grind [Yp6,Yfy,Yfz,Yfs])
theorem Z1j (t:YS):∀ (C:List YC) (o:List Int) (h:o.length+Yft t<=2147483647),Z23 t C o:=YS.ind (P:=fun t=>∀ (C:List YC) (o:List Int) (h:o.length+Yft t<=2147483647),Z23 t C o) (fun t ih C o h=>Zes t C o h ih) t
def itr (f:Nat->Int->YS × Bool × Int):Nat->Int->List YS->List YS × Bool × Int
 | 0,m,O=>(O,true,m)
 | k+1,m,O=>let p:=itr f k m O; if p.2.1=true then (p.1++[(f k p.2.2).1],(f k p.2.2).2.1,(f k p.2.2).2.2) else p
def zY:YS:=⟨0,0,mkS [],[],[]⟩
mutual
/-- what the reference builds of a template: the form,whether all went well,the nodes that are left -/
def bld : YS -> List YC -> Int -> YS × Bool × Int
  | ⟨k, n, x, s, l⟩, C, m => if m - 1 < 0 then (zY, false, m - 1) else if k = 1 then
      (if Yfw ⟨k, n, x, s, l⟩ = true ∨ fnd C ⟨k, n, x, s, l⟩ < 0 then (⟨k, n, x, s, l⟩, !Yfw ⟨k, n, x, s, l⟩, m - 1)
       else if (Ygn C ⟨k, n, x, s, l⟩).depth ≠ 0 then (zY, false, m)
       else if (Yft (Ygn C ⟨k, n, x, s, l⟩).form : Int) <= m then ((Ygn C ⟨k, n, x, s, l⟩).form, true, max (m - Yft (Ygn C ⟨k, n, x, s, l⟩).form) (-1))
       else (zY, false, max (m - Yft (Ygn C ⟨k, n, x, s, l⟩).form) (-1)))
    else if (Ygy l C (m - 1) []).2.1 = true then (⟨k, n, x, [], (Ygy l C (m - 1) []).1⟩, true, (Ygy l C (m - 1) []).2.2) else (zY, false, (Ygy l C (m - 1) []).2.2)
def Ygy : List YS -> List YC -> Int -> List YS -> List YS × Bool × Int
  | [], _, m, O => (O, true, m)
  | [x], C, m, O => if (bld x C m).2.1 = true then (O ++ [(bld x C m).1], true, (bld x C m).2.2) else (O, false, (bld x C m).2.2)
  | x :: y :: r, C, m, O => if Yfw y = true then
      (if (Yj0 C (Yfv x []) (Yfv x []).length && decide (0 <= cnN C (Yfv x []) (Yfv x []).length)) = true then
        (if (itr (fun j m => bld x (Yi3 C j (Yfv x []) (Yfv x []).length) m) (cnN C (Yfv x []) (Yfv x []).length).toNat m O).2.1 = true then
          Ygy r C (itr (fun j m => bld x (Yi3 C j (Yfv x []) (Yfv x []).length) m) (cnN C (Yfv x []) (Yfv x []).length).toNat m O).2.2 (itr (fun j m => bld x (Yi3 C j (Yfv x []) (Yfv x []).length) m) (cnN C (Yfv x []) (Yfv x []).length).toNat m O).1
         else itr (fun j m => bld x (Yi3 C j (Yfv x []) (Yfv x []).length) m) (cnN C (Yfv x []) (Yfv x []).length).toNat m O)
       else (O, false, m))
    else if (bld x C m).2.1 = true then Ygy (y :: r) C (bld x C m).2.2 (O ++ [(bld x C m).1]) else (O, false, (bld x C m).2.2)
end
mutual
/-- the greatest form or number of rounds in a capture -/
def mxP:YC->Nat
 | ⟨_,_,f,e⟩=>max (wY f) (max e.length (Ysg e))
def Ysg:List YC->Nat
 | []=>0
 | x :: r=>max (mxP x) (Ysg r)
end
theorem Ytx (x:YC):mxP x=max (wY x.form) (max x.each.length (Ysg x.each)):=by cases x; simp only [mxP]
theorem Y15d:∀ {l:List YC} {x:YC},x∈l->mxP x<=Ysg l
 | y :: r,x,h=>by
  rw [Ysg]
  rcases List.mem_cons.1 h with rfl | h
  ·omega
  ·have:=Y15d h; omega
theorem Y18o {m:Nat}:∀ {l:List YC},(∀ x∈l,mxP x<=m)->Ysg l<=m
 | [],_=>by simp [Ysg]
 | x :: r,h=>by
  have h1:=h x List.mem_cons_self
  have h2:=Y18o fun y hy=>h y (List.mem_cons_of_mem _ hy)
  rw [Ysg]; omega
def cnB (C:List YC) (x:YS):Bool:=Yj0 C (Yfv x []) (Yfv x []).length&&decide (0<=cnN C (Yfv x []) (Yfv x []).length)
abbrev bN (C:List YC) (x:YS):Nat:=(cnN C (Yfv x []) (Yfv x []).length).toNat
abbrev Ysm (C:List YC) (x:YS) (j:Nat):List YC:=Yi3 C j (Yfv x []) (Yfv x []).length
def bI (C:List YC) (x:YS) (j:Nat) (q:Int) (O:List YS):List YS × Bool × Int:=itr (fun j q=>bld x (Ysm C x j) q) j q O
def bJ (C:List YC) (x:YS) (j:Nat) (q:Int) (O:List YS):List YS × Bool × Int:=if cnB C x=true then bI C x j q O else (O,false,q)
def bR (C:List YC) (x:YS) (q:Int) (O:List YS):List YS × Bool × Int:=bJ C x (bN C x) q O
theorem Ylw (t : YS) (C : List YC) (q : Int) : bld t C q = if q - 1 < 0 then (zY, false, q - 1) else if t.kind = 1 then
      (if Yfw t = true ∨ fnd C t < 0 then (t, !Yfw t, q - 1)
       else if (Ygn C t).depth ≠ 0 then (zY, false, q)
       else if (Yft (Ygn C t).form : Int) <= q then ((Ygn C t).form, true, max (q - Yft (Ygn C t).form) (-1))
       else (zY, false, max (q - Yft (Ygn C t).form) (-1)))
    else if (Ygy t.items C (q - 1) []).2.1 = true then (⟨t.kind, t.number, t.text, [], (Ygy t.items C (q - 1) []).1⟩, true, (Ygy t.items C (q - 1) []).2.2) else (zY, false, (Ygy t.items C (q - 1) []).2.2) := by
  cases t; rw [bld]
theorem Ylu (C:List YC) (q:Int) (O:List YS):Ygy [] C q O=(O,true,q):=by rw [Ygy]
theorem Yqi (x:YS) (C:List YC) (q:Int) (O:List YS):Ygy [x] C q O=if (bld x C q).2.1=true then Ygy [] C (bld x C q).2.2 (O++[(bld x C q).1]) else (O,false,(bld x C q).2.2):=by
 rw [Ylu,Ygy]
theorem Yn8 (x y:YS) (r:List YS) (C:List YC) (q:Int) (O:List YS):Ygy (x :: y :: r) C q O=if Yfw y=true then (if (bR C x q O).2.1=true then Ygy r C (bR C x q O).2.2 (bR C x q O).1 else bR C x q O)
  else if (bld x C q).2.1=true then Ygy (y :: r) C (bld x C q).2.2 (O++[(bld x C q).1]) else (O,false,(bld x C q).2.2):=by
 rw [Ygy]
 split
 ·unfold bR bJ cnB
  split
  ·rfl
  ·rfl
 ·rfl
theorem Y1go {l:List YS} {k:Nat} {C:List YC} {q:Int} {O:List YS} (h:l.length<=k):Ygy (l.drop k) C q O=(O,true,q):=by
 rw [List.drop_eq_nil_of_le h,Ylu]
theorem Yyt {l:List YS} {k:Nat} {C:List YC} {q:Int} {O:List YS} (h:k<l.length) (hd:l.length<=k+1 ∨ Yfw (l.getD (k+1) default)=false) :
  Ygy (l.drop k) C q O=if (bld (l.getD k default) C q).2.1=true then Ygy (l.drop (k+1)) C (bld (l.getD k default) C q).2.2 (O++[(bld (l.getD k default) C q).1]) else (O,false,(bld (l.getD k default) C q).2.2):=by
 rw [Yhg h]
 rcases Nat.lt_or_ge (k+1) l.length with h1 | h1
 ·rw [Yhg h1,Yn8,if_neg (by rcases hd with h2 | h2 <;> first | (exfalso; omega) | (rw [h2]; decide))]
 ·rw [List.drop_eq_nil_of_le h1,Yqi]
theorem Y11m {l:List YS} {k:Nat} {C:List YC} {q:Int} {O:List YS} (h:k+1<l.length) (hd:Yfw (l.getD (k+1) default)=true) :
  Ygy (l.drop k) C q O=if (bR C (l.getD k default) q O).2.1=true then Ygy (l.drop (k+1+1)) C (bR C (l.getD k default) q O).2.2 (bR C (l.getD k default) q O).1 else bR C (l.getD k default) q O:=by
 rw [Yhg (by omega:k<l.length),Yhg h,Yn8,if_pos hd]
theorem Yu7 {f:Nat->Int->YS × Bool × Int} (hf:∀ j q,0<=q->(f j q).2.1=true->0<=(f j q).2.2/\(f j q).2.2+1<=q):∀ (j:Nat) (q:Int) (O:List YS),0<=q->(itr f j q O).2.1=true->0<=(itr f j q O).2.2/\((itr f j q O).1.length:Int)+(itr f j q O).2.2<=O.length+q
 | 0,q,O,h0,_=>by simp only [itr]; omega
 | j+1,q,O,h0,h=>by
  have ih:=Yu7 hf j q O h0
  simp only [itr] at h ⊢
  by_cases e:(itr f j q O).2.1=true
  ·rw [if_pos e] at h ⊢
   have h1:=ih e
   have h2:=hf j _ h1.1 h
   simp only [List.length_append,List.length_singleton]; omega
  ·rw [if_neg e] at h; exact absurd h e
theorem Ymx (f:Nat->Int->YS × Bool × Int) (j:Nat) (q:Int) (O:List YS) (h:(itr f j q O).2.1=true):itr f (j+1) q O=((itr f j q O).1++[(f j (itr f j q O).2.2).1],(f j (itr f j q O).2.2).2.1,(f j (itr f j q O).2.2).2.2):=by
 rw [itr,if_pos h]
theorem Yxt (f : Nat -> Int -> YS × Bool × Int) (j : Nat) (q : Int) (O : List YS) (h : (itr f j q O).2.1 = false) : ∀ n, j <= n -> itr f n q O = itr f j q O
  | 0, hn => by obtain rfl : j = 0 := by omega
                rfl
  | n + 1, hn => by
    by_cases e : j = n + 1
    · rw [e]
    · have := Yxt f j q O h n (by omega)
      rw [itr, this, h]; rfl
theorem Yvs:∀ (l:List YS),(∀ x∈l,∀ C q,0<=q->(bld x C q).2.1=true->0<=(bld x C q).2.2/\(bld x C q).2.2+1<=q)->∀ C q O,0<=q->(Ygy l C q O).2.1=true->0<=(Ygy l C q O).2.2/\((Ygy l C q O).1.length:Int)+(Ygy l C q O).2.2<=O.length+q
 | [],_,C,q,O,h0,_=>by rw [Ylu]; simp only; omega
 | [x],hx,C,q,O,h0,h=>by
  rw [Yqi] at h ⊢
  by_cases e:(bld x C q).2.1=true
  ·rw [if_pos e] at h ⊢
   have h1:=hx x List.mem_cons_self C q h0 e
   have h2:=Yvs [] (fun _ h=>by cases h) C _ (O++[(bld x C q).1]) h1.1 h
   simp only [List.length_append,List.length_singleton] at h2; omega
  ·rw [if_neg e] at h; cases h
 | x :: y :: r,hx,C,q,O,h0,h=>by
  rw [Yn8] at h ⊢
  by_cases d:Yfw y=true
  ·rw [if_pos d] at h ⊢
   by_cases e:(bR C x q O).2.1=true
   ·rw [if_pos e] at h ⊢
    have h1:0<=(bR C x q O).2.2/\((bR C x q O).1.length:Int)+(bR C x q O).2.2<=O.length+q:=by
     unfold bR bJ at e ⊢
     by_cases c:cnB C x=true
     ·rw [if_pos c] at e ⊢
      exact Yu7 (fun j q=>hx x List.mem_cons_self _ q) _ q O h0 e
     ·rw [if_neg c] at e; cases e
    have h2:=Yvs r (fun z hz=>hx z (List.mem_cons_of_mem _ (List.mem_cons_of_mem _ hz))) C _ (bR C x q O).1 h1.1 h
    omega
   ·rw [if_neg e] at h; exact absurd h e
  ·rw [if_neg d] at h ⊢
   by_cases e:(bld x C q).2.1=true
   ·rw [if_pos e] at h ⊢
    have h1:=hx x List.mem_cons_self C q h0 e
    have h2:=Yvs (y :: r) (fun z hz=>hx z (List.mem_cons_of_mem _ hz)) C _ (O++[(bld x C q).1]) h1.1 h
    simp only [List.length_append,List.length_singleton] at h2; omega
   ·rw [if_neg e] at h; cases h
theorem Y1eq:∀ (t:YS) (C:List YC) (q:Int),0<=q->(bld t C q).2.1=true->0<=(bld t C q).2.2/\(bld t C q).2.2+1<=q:=by
 refine YS.ind fun t ih C q h0 h => ?_
 have h3:=Ygo (Ygn C t).form
 rw [Ylw] at h ⊢
 by_cases c1:q - 1<0
 ·rw [if_pos c1] at h; cases h
 rw [if_neg c1] at h ⊢
 by_cases c2:t.kind=1
 ·rw [if_pos c2] at h ⊢
  by_cases c3:Yfw t=true ∨ fnd C t<0
  ·rw [if_pos c3]; simp only; omega
  ·rw [if_neg c3] at h ⊢
   by_cases c4:(Ygn C t).depth≠0
   ·rw [if_pos c4] at h; cases h
   ·rw [if_neg c4] at h ⊢
    by_cases c5:(Yft (Ygn C t).form:Int)<=q
    ·rw [if_pos c5]; simp only; omega
    ·rw [if_neg c5] at h; cases h
 ·rw [if_neg c2] at h ⊢
  by_cases c6:(Ygy t.items C (q - 1) []).2.1=true
  ·rw [if_pos c6]
   have:=Yvs t.items ih C (q - 1) [] (by omega) c6
   simp only [List.length_nil] at this ⊢; omega
  ·rw [if_neg c6] at h; cases h
theorem Y1it (C:List YC) (x:YS) (j:Nat) (q:Int) (O:List YS) (h0:0<=q) (h:(bI C x j q O).2.1=true):0<=(bI C x j q O).2.2/\((bI C x j q O).1.length:Int)+(bI C x j q O).2.2<=O.length+q:=
 Yu7 (fun j q=>Y1eq x _ q) j q O h0 h
theorem Y12u (C:List YC) (x:YS) (j:Nat) (q:Int) (O:List YS) (h0:0<=q) (h:(bJ C x j q O).2.1=true):0<=(bJ C x j q O).2.2/\((bJ C x j q O).1.length:Int)+(bJ C x j q O).2.2<=O.length+q/\cnB C x=true:=by
 unfold bJ at h ⊢
 by_cases c:cnB C x=true
 ·rw [if_pos c] at h ⊢; exact ⟨(Y1it C x j q O h0 h).1,(Y1it C x j q O h0 h).2,c⟩
 ·rw [if_neg c] at h; cases h
theorem Y10g (C:List YC) (x:YS) (q:Int) (O:List YS):bJ C x 0 q O=(O,cnB C x,q):=by
 unfold bJ bI itr
 cases h:cnB C x <;> simp
theorem Y1kl (C:List YC) (x:YS) (j:Nat) (q:Int) (O:List YS) (h:(bJ C x j q O).2.1=true):bJ C x (j+1) q O=((bJ C x j q O).1++[(bld x (Ysm C x j) (bJ C x j q O).2.2).1],(bld x (Ysm C x j) (bJ C x j q O).2.2).2.1,(bld x (Ysm C x j) (bJ C x j q O).2.2).2.2):=by
 unfold bJ at h ⊢
 by_cases c:cnB C x=true
 ·simp only [if_pos c] at h ⊢; exact Ymx _ j q O h
 ·rw [if_neg c] at h; cases h
theorem Y1m2 (C:List YC) (x:YS) (j:Nat) (q:Int) (O:List YS) (h:(bJ C x j q O).2.1=false) (hn:j<=bN C x):bR C x q O=bJ C x j q O:=by
 unfold bR bJ at *
 by_cases c:cnB C x=true
 ·simp only [if_pos c] at h ⊢; exact Yxt _ j q O h _ hn
 ·rw [if_neg c,if_neg c]
theorem Y1my (C:List YC) (x:YS) (j:Nat) (q:Int) (O:List YS) (hn:j=bN C x):bR C x q O=bJ C x j q O:=by rw [hn]; rfl
theorem Yzm {C:List YC} {I:List YS}:∀ (m j:Nat),j<m->Yj0 C I m=true->rep C (I.getD j default)=true->((Ygn C (I.getD j default)).each.length:Int)=cnN C I m
 | 0,j,h,_,_=>by omega
 | m+1,j,h,ht,hr=>by
  simp only [Yj0,Bool.and_eq_true,Bool.or_eq_true,Bool.not_eq_true',decide_eq_true_eq] at ht
  simp only [cnN]
  by_cases e:j=m
  ·subst e; rw [if_pos hr]
  ·have ih:=Yzm m j (by omega) ht.1 hr
   split
   ·rename_i h2
    rcases ht.2 with (h3 | h3) | h3
    ·rw [h2] at h3; cases h3
    ·omega
    ·omega
   ·exact ih
theorem Y161 {C:List YC} {x:YS} (h:cnB C x=true) {y:YS} (hy:y∈Yfv x []) (h1:0<=fnd C y) (h2:0<(C.getD (fnd C y).toNat default).depth):(C.getD (fnd C y).toNat default).each.length=bN C x:=by
 simp only [cnB,Bool.and_eq_true,decide_eq_true_eq] at h
 obtain ⟨j,hj,rfl⟩:=List.getElem_of_mem hy
 have e:(Yfv x [])[j]=(Yfv x []).getD j default:=by simp [hj]
 rw [e] at h1 h2 ⊢
 have:=Yzm (Yfv x []).length j hj h.1 (by simp only [rep,Ygn,Bool.and_eq_true]; exact ⟨by first | exact h1 | exact decide_eq_true h1,by first | exact h2 | exact decide_eq_true h2⟩)
 simp only [Ygn] at this
 simp only [bN]; omega
theorem Y1el {C:List YC} (hC:∀ z∈C,mxP z<=1000000000) (i a:Nat):mxP ((C.getD i default).each.getD a default)<=1000000000:=by
 have h0:mxP (default:YC)=0:=rfl
 rcases Nat.lt_or_ge a (C.getD i default).each.length with h1 | h1
 ·have h2:=Y15d (Yfx h1)
  have h3:=Ytx (C.getD i default)
  rcases Nat.lt_or_ge i C.length with h4 | h4
  ·have:=hC _ (Yfx h4); omega
  ·have e:C.getD i default=default:=by simp [h4]
   have e2:(default:YC).each.length=0:=rfl
   rw [e,e2] at h1; omega
 ·have e:(C.getD i default).each.getD a default=default:=by rw [List.getD_eq_getElem?_getD,List.getElem?_eq_none h1]; rfl
  rw [e,h0]; omega
theorem Y13s {C:List YC} (hC:∀ z∈C,mxP z<=1000000000) (a:Nat):∀ I,∀ z∈Yql C a I,mxP z<=1000000000
 | [],z,h=>hC z h
 | x :: r,z,h=>by
  simp only [Yql] at h
  split at h
  ·rcases List.mem_or_eq_of_mem_set h with h | h
   ·exact Y13s hC a r z h
   ·rw [h]; exact Y1el hC _ _
  ·exact Y13s hC a r z h
theorem Y1mj {C:List YC} (hC:∀ z∈C,mxP z<=1000000000) (x:YS) (j:Nat):∀ z∈Ysm C x j,mxP z<=1000000000:=Y13s hC j _
theorem Y152 (C:List YC) (x:YS) (j:Nat):(Ysm C x j).length=C.length:=Yse C j _
theorem Y108 {C:List YC} (hC:∀ z∈C,mxP z<=1000000000) {t:YS} (h:0<=fnd C t):wY (Ygn C t).form<=1000000000:=by
 have h1:=Yl7 C t
 have h2:=hC (Ygn C t) (Yfx (by omega))
 have h3:=Ytx (Ygn C t)
 omega
def lnI (C:List YC) (i:Int):Int:=((C.getD i.toNat default).each.length:Int)
abbrev rpX (C:List YC) (x:YS):List Int:=rpi C x []
def rqA (C:List YC) (I:List Int) (n:Int):Bool:=I.all fun i=>decide (lnI C i=n)
def rqB (C:List YC) (x:YS):Bool := !decide ((rpX C x).length=0)&&rqA C (rpX C x) (lnI C ((rpX C x).getD 0 default))
abbrev rqN (C:List YC) (x:YS):Nat:=(C.getD ((rpX C x).getD 0 default).toNat default).each.length
def Ykt (C:List YC) (a:Nat) (I:List Int):List YC:=I.foldl (fun O i=>O.set i.toNat ((C.getD i.toNat default).each.getD a default)) C
abbrev stq (C:List YC) (x:YS) (a:Nat):List YC:=Ykt C a (rpX C x)
theorem Y14c (C:List YC) (a:Nat) (I:List Int):(Ykt C a I).length=C.length:=by
 have:∀ (I:List Int) (O:List YC),(I.foldl (fun O i=>O.set i.toNat ((C.getD i.toNat default).each.getD a default)) O).length=O.length:=by
  intro I
  induction I with
  | nil=>intro O; rfl
  | cons x r ih=>intro O; rw [List.foldl_cons,ih,List.length_set]
 exact this I C
theorem Y1f2 {C:List YC} {a:Nat} {I:List Int} {k:Nat} (h:k<I.length):Ykt C a (I.take (k+1))=(Ykt C a (I.take k)).set (I.getD k default).toNat ((C.getD (I.getD k default).toNat default).each.getD a default):=by
 unfold Ykt; rw [Ymc _ _ h]
mutual
/-- what the program builds of a template: the form,whether all went well,the nodes that are left -/
def bli : YS -> List YC -> Int -> YS × Bool × Int
  | ⟨k, n, x, s, l⟩, C, m => if k = 1 /\ 0 <= fnd C ⟨k, n, x, s, l⟩ then
      (if (Ygn C ⟨k, n, x, s, l⟩).depth ≠ 0 then (zY, false, m)
       else if Ygc (Ygn C ⟨k, n, x, s, l⟩).form = true then ((Ygn C ⟨k, n, x, s, l⟩).form, decide (0 <= m - Yft (Ygn C ⟨k, n, x, s, l⟩).form), m - Yft (Ygn C ⟨k, n, x, s, l⟩).form)
       else (zY, false, m))
    else if m - 1 < 0 then (zY, false, m - 1)
    else if (Ygr l C (m - 1) []).2.1 = true then (⟨k, n, x, s, (Ygr l C (m - 1) []).1⟩, true, (Ygr l C (m - 1) []).2.2) else (zY, false, (Ygr l C (m - 1) []).2.2)
def Ygr : List YS -> List YC -> Int -> List YS -> List YS × Bool × Int
  | [], _, m, O => (O, true, m)
  | [x], C, m, O => if (bli x C m).2.1 = true then (O ++ [(bli x C m).1], true, (bli x C m).2.2) else (O, false, (bli x C m).2.2)
  | x :: y :: r, C, m, O => if Yfw y = true then
      (if rqB C x = true then
        (if (itr (fun j m => bli x (stq C x j) m) (rqN C x) m O).2.1 = true then
          Ygr r C (itr (fun j m => bli x (stq C x j) m) (rqN C x) m O).2.2 (itr (fun j m => bli x (stq C x j) m) (rqN C x) m O).1
         else itr (fun j m => bli x (stq C x j) m) (rqN C x) m O)
       else (O, false, m))
    else if (bli x C m).2.1 = true then Ygr (y :: r) C (bli x C m).2.2 (O ++ [(bli x C m).1]) else (O, false, (bli x C m).2.2)
end
def iI (C:List YC) (x:YS) (j:Nat) (q:Int) (O:List YS):List YS × Bool × Int:=itr (fun j q=>bli x (stq C x j) q) j q O
def iR (C:List YC) (x:YS) (q:Int) (O:List YS):List YS × Bool × Int:=if rqB C x=true then iI C x (rqN C x) q O else (O,false,q)
theorem Yne (t : YS) (C : List YC) (m : Int) : bli t C m = if t.kind = 1 /\ 0 <= fnd C t then
      (if (Ygn C t).depth ≠ 0 then (zY, false, m)
       else if Ygc (Ygn C t).form = true then ((Ygn C t).form, decide (0 <= m - Yft (Ygn C t).form), m - Yft (Ygn C t).form)
       else (zY, false, m))
    else if m - 1 < 0 then (zY, false, m - 1)
    else if (Ygr t.items C (m - 1) []).2.1 = true then (⟨t.kind, t.number, t.text, t.scopes, (Ygr t.items C (m - 1) []).1⟩, true, (Ygr t.items C (m - 1) []).2.2) else (zY, false, (Ygr t.items C (m - 1) []).2.2) := by
  cases t; rw [bli]
theorem Yo3 (C:List YC) (q:Int) (O:List YS):Ygr [] C q O=(O,true,q):=by rw [Ygr]
theorem Yxk (x:YS) (C:List YC) (q:Int) (O:List YS):Ygr [x] C q O=if (bli x C q).2.1=true then Ygr [] C (bli x C q).2.2 (O++[(bli x C q).1]) else (O,false,(bli x C q).2.2):=by
 rw [Yo3,Ygr]
theorem Yqq (x y:YS) (r:List YS) (C:List YC) (q:Int) (O:List YS):Ygr (x :: y :: r) C q O=if Yfw y=true then (if (iR C x q O).2.1=true then Ygr r C (iR C x q O).2.2 (iR C x q O).1 else iR C x q O)
  else if (bli x C q).2.1=true then Ygr (y :: r) C (bli x C q).2.2 (O++[(bli x C q).1]) else (O,false,(bli x C q).2.2):=by
 rw [Ygr]
 split
 ·unfold iR
  split
  ·rfl
  ·rfl
 ·rfl
theorem Y1hf {l:List YS} {k:Nat} {C:List YC} {q:Int} {O:List YS} (h:l.length<=k):Ygr (l.drop k) C q O=(O,true,q):=by
 rw [List.drop_eq_nil_of_le h,Yo3]
theorem Yy3 {l:List YS} {k:Nat} {C:List YC} {q:Int} {O:List YS} (h:k<l.length) (hd:l.length<=k+1 ∨ Yfw (l.getD (k+1) default)=false) :
  Ygr (l.drop k) C q O=if (bli (l.getD k default) C q).2.1=true then Ygr (l.drop (k+1)) C (bli (l.getD k default) C q).2.2 (O++[(bli (l.getD k default) C q).1]) else (O,false,(bli (l.getD k default) C q).2.2):=by
 rw [Yhg h]
 rcases Nat.lt_or_ge (k+1) l.length with h1 | h1
 ·rw [Yhg h1,Yqq,if_neg (by rcases hd with h2 | h2 <;> first | (exfalso; omega) | (rw [h2]; decide))]
 ·rw [List.drop_eq_nil_of_le h1,Yxk]
theorem Yqu {l:List YS} {k:Nat} {C:List YC} {q:Int} {O:List YS} (h:k+1<l.length) (hd:Yfw (l.getD (k+1) default)=true) :
  Ygr (l.drop k) C q O=if (iR C (l.getD k default) q O).2.1=true then Ygr (l.drop (k+1+1)) C (iR C (l.getD k default) q O).2.2 (iR C (l.getD k default) q O).1 else iR C (l.getD k default) q O:=by
 rw [Yhg (by omega:k<l.length),Yhg h,Yqq,if_pos hd]
theorem Yvp:∀ (l:List YS),(∀ x∈l,∀ C q,0<=q->(bli x C q).2.1=true->0<=(bli x C q).2.2/\(bli x C q).2.2+1<=q)->∀ C q O,0<=q->(Ygr l C q O).2.1=true->0<=(Ygr l C q O).2.2/\((Ygr l C q O).1.length:Int)+(Ygr l C q O).2.2<=O.length+q
 | [],_,C,q,O,h0,_=>by rw [Yo3]; simp only; omega
 | [x],hx,C,q,O,h0,h=>by
  rw [Yxk] at h ⊢
  by_cases e:(bli x C q).2.1=true
  ·rw [if_pos e] at h ⊢
   have h1:=hx x List.mem_cons_self C q h0 e
   have h2:=Yvp [] (fun _ h=>by cases h) C _ (O++[(bli x C q).1]) h1.1 h
   simp only [List.length_append,List.length_singleton] at h2; omega
  ·rw [if_neg e] at h; cases h
 | x :: y :: r,hx,C,q,O,h0,h=>by
  rw [Yqq] at h ⊢
  by_cases d:Yfw y=true
  ·rw [if_pos d] at h ⊢
   by_cases e:(iR C x q O).2.1=true
   ·rw [if_pos e] at h ⊢
    have h1:0<=(iR C x q O).2.2/\((iR C x q O).1.length:Int)+(iR C x q O).2.2<=O.length+q:=by
     unfold iR at e ⊢
     by_cases c:rqB C x=true
     ·rw [if_pos c] at e ⊢
      exact Yu7 (fun j q=>hx x List.mem_cons_self _ q) _ q O h0 e
     ·rw [if_neg c] at e; cases e
    have h2:=Yvp r (fun z hz=>hx z (List.mem_cons_of_mem _ (List.mem_cons_of_mem _ hz))) C _ (iR C x q O).1 h1.1 h
    omega
   ·rw [if_neg e] at h; exact absurd h e
  ·rw [if_neg d] at h ⊢
   by_cases e:(bli x C q).2.1=true
   ·rw [if_pos e] at h ⊢
    have h1:=hx x List.mem_cons_self C q h0 e
    have h2:=Yvp (y :: r) (fun z hz=>hx z (List.mem_cons_of_mem _ hz)) C _ (O++[(bli x C q).1]) h1.1 h
    simp only [List.length_append,List.length_singleton] at h2; omega
   ·rw [if_neg e] at h; cases h
theorem Yub:∀ (t:YS) (C:List YC) (q:Int),0<=q->(bli t C q).2.1=true->0<=(bli t C q).2.2/\(bli t C q).2.2+1<=q:=by
 refine YS.ind fun t ih C q h0 h => ?_
 have h3:=Ygo (Ygn C t).form
 rw [Yne] at h ⊢
 by_cases c2:t.kind=1/\0<=fnd C t
 ·rw [if_pos c2] at h ⊢
  by_cases c4:(Ygn C t).depth≠0
  ·rw [if_pos c4] at h; cases h
  ·rw [if_neg c4] at h ⊢
   by_cases c5:Ygc (Ygn C t).form=true
   ·rw [if_pos c5] at h ⊢
    simp only [decide_eq_true_eq] at h ⊢
    omega
   ·rw [if_neg c5] at h; cases h
 ·rw [if_neg c2] at h ⊢
  by_cases c1:q - 1<0
  ·rw [if_pos c1] at h; cases h
  rw [if_neg c1] at h ⊢
  by_cases c6:(Ygr t.items C (q - 1) []).2.1=true
  ·rw [if_pos c6]
   have:=Yvp t.items ih C (q - 1) [] (by omega) c6
   simp only [List.length_nil] at this ⊢; omega
  ·rw [if_neg c6] at h; cases h
theorem Y1is (C:List YC) (x:YS) (j:Nat) (q:Int) (O:List YS) (h0:0<=q) (h:(iI C x j q O).2.1=true):0<=(iI C x j q O).2.2/\((iI C x j q O).1.length:Int)+(iI C x j q O).2.2<=O.length+q:=
 Yu7 (fun j q=>Yub x _ q) j q O h0 h
theorem Y199 (C:List YC) (x:YS) (j:Nat) (q:Int) (O:List YS) (h:(iI C x j q O).2.1=true):iI C x (j+1) q O=((iI C x j q O).1++[(bli x (stq C x j) (iI C x j q O).2.2).1],(bli x (stq C x j) (iI C x j q O).2.2).2.1,(bli x (stq C x j) (iI C x j q O).2.2).2.2):=Ymx _ j q O h
theorem Y1kp (C:List YC) (x:YS) (j n:Nat) (q:Int) (O:List YS) (h:(iI C x j q O).2.1=false) (hn:j<=n):iI C x n q O=iI C x j q O:=Yxt _ j q O h n hn
theorem Y1oq {C:List YC} (hC:∀ z∈C,mxP z<=1000000000) (a:Nat) (I:List Int):∀ z∈Ykt C a I,mxP z<=1000000000:=by
 have:∀ (I:List Int) (O:List YC),(∀ z∈O,mxP z<=1000000000)->∀ z∈I.foldl (fun O i=>O.set i.toNat ((C.getD i.toNat default).each.getD a default)) O,mxP z<=1000000000:=by
  intro I
  induction I with
  | nil=>intro O h; exact h
  | cons x r ih=>
   intro O h
   rw [List.foldl_cons]
   refine ih _ fun z hz => ?_
   rcases List.mem_or_eq_of_mem_set hz with h2 | h2
   ·exact h z h2
   ·rw [h2]; exact Y1el hC _ _
 exact this I C hC
mutual
def nmZ:YS->List YS
 | ⟨k,n,t,s,l⟩=>(if k=1 then [⟨k,n,t,s,l⟩] else [])++Y16z l
def Y16z:List YS->List YS
 | []=>[]
 | x :: r=>nmZ x++Y16z r
end
theorem Y17z:∀ l,Y16z l=l.flatMap nmZ
 | []=>by simp [Y16z]
 | x :: r=>by rw [Y16z,Y17z r]; simp
theorem Yl6 (x:YS):nmZ x=(if x.kind=1 then [x] else [])++x.items.flatMap nmZ:=by cases x; simp only [nmZ,Y17z]
def Yns (o:List YS) (y:YS):List YS:=if Ygw o y=false then o++[y] else o
def Yve (C:List YC) (o:List Int) (y:YS):List Int:=if rep C y=true/\fnd C y ∉ o then o++[fnd C y] else o
theorem Ysk {α β γ:Type} (f:γ->α->γ) (g:γ->β->γ) (h:β->List α):∀ (l:List β),(∀ x∈l,∀ o,g o x=(h x).foldl f o)->∀ o,l.foldl g o=(l.flatMap h).foldl f o
 | [],_,o=>rfl
 | x :: r,hx,o=>by
  rw [List.foldl_cons,List.flatMap_cons,List.foldl_append,hx x List.mem_cons_self,Ysk f g h r fun y hy=>hx y (List.mem_cons_of_mem _ hy)]
theorem Ywr:∀ (x:YS) (o:List YS),Yfv x o=(nmZ x).foldl Yns o:=by
 refine YS.ind fun x ih o => ?_
 rw [Ypo,Yl6,List.foldl_append,Ysk Yns _ nmZ x.items ih]
 congr 1
 unfold Yjm
 by_cases h:x.kind=1
 ·rw [if_pos h]; simp [Yns,h]
 ·rw [if_neg h]; simp [h]
theorem Y1l6 (C:List YC):∀ (x:YS) (o:List Int),rpi C x o=(nmZ x).foldl (Yve C) o:=by
 refine YS.ind fun x ih o => ?_
 rw [Y14a,Yl6,List.foldl_append,Ysk (Yve C) _ nmZ x.items ih]
 congr 1
 unfold Yp6
 by_cases h:x.kind=1
 ·rw [if_pos h]; simp [Yve,h]
 ·rw [if_neg h]; simp [h]
theorem Ysp:∀ (x:YS),∀ y∈nmZ x,y.kind=1:=by
 refine YS.ind fun x ih y hy => ?_
 rw [Yl6,List.mem_append,List.mem_flatMap] at hy
 rcases hy with hy | ⟨z,hz,hy⟩
 ·split at hy
  ·rename_i h; rw [List.mem_singleton] at hy; subst hy; exact h
  ·cases hy
 ·exact ih z hz y hy
theorem Y133 {C:List YC} {a b:YS} (h1:a.text=b.text) (h2:a.scopes=b.scopes) (ha:a.kind=1) (hb:b.kind=1):fnd C a=fnd C b:=by
 have e:Yjn a=Yjn b:=by funext x; simp only [Yjn,h1,h2]
 simp only [fnd,Yks,Yfw,e,h1,ha,hb]
theorem Y1h0 {o:List YS} {y:YS}:Ygw o y=true ↔ ∃ z∈o,z.text=y.text/\z.scopes=y.scopes:=by
 simp only [Ygw,List.any_eq_true,Bool.and_eq_true,decide_eq_true_eq]
theorem Yuy (L:List YS):∀ (o:List YS),(∀ z∈L.foldl Yns o,z∈o ∨ z∈L)/\(∀ y,y∈o ∨ y∈L->∃ z∈L.foldl Yns o,z.text=y.text/\z.scopes=y.scopes):=by
 induction L with
 | nil=>intro o; exact ⟨fun z hz=>.inl hz,fun y hy=>⟨y,by simpa using hy,rfl,rfl⟩⟩
 | cons x r ih=>
  intro o
  rw [List.foldl_cons]
  obtain ⟨h1,h2⟩:=ih (Yns o x)
  constructor
  ·intro z hz
   rcases h1 z hz with h | h
   ·unfold Yns at h
    split at h
    ·rcases List.mem_append.1 h with h | h
     ·exact .inl h
     ·rw [List.mem_singleton.1 h]; exact .inr List.mem_cons_self
    ·exact .inl h
   ·exact .inr (List.mem_cons_of_mem _ h)
  ·intro y hy
   have h3:∃ z∈Yns o x,z.text=x.text/\z.scopes=x.scopes:=by
    unfold Yns
    by_cases e:Ygw o x=false
    ·rw [if_pos e]; exact ⟨x,by simp,rfl,rfl⟩
    ·rw [if_neg e]; exact Y1h0.1 (by simpa using e)
   have h4:∀ z∈o,z∈Yns o x:=fun z hz=>by unfold Yns; split <;> simp [hz]
   rcases hy with hy | hy
   ·exact h2 y (.inl (h4 y hy))
   ·rcases List.mem_cons.1 hy with rfl | hy
    ·obtain ⟨z,hz,e1,e2⟩:=h3
     obtain ⟨w,hw,e3,e4⟩:=h2 z (.inl hz)
     exact ⟨w,hw,e3.trans e1,e4.trans e2⟩
    ·exact h2 y (.inr hy)
theorem Y1e3 (C:List YC) (L:List YS):∀ (o:List Int) (i:Int),i∈L.foldl (Yve C) o ↔ (i∈o ∨ ∃ y∈L,rep C y=true/\fnd C y=i):=by
 induction L with
 | nil=>intro o i; simp
 | cons x r ih=>
  intro o i
  rw [List.foldl_cons,ih]
  have e:i∈Yve C o x ↔ (i∈o ∨ (rep C x=true/\fnd C x=i)):=by
   unfold Yve
   by_cases h:rep C x=true/\fnd C x ∉ o
   ·rw [if_pos h,List.mem_append,List.mem_singleton]
    constructor
    ·rintro (a | rfl)
     ·exact .inl a
     ·exact .inr ⟨h.1,rfl⟩
    ·rintro (a | ⟨_,rfl⟩)
     ·exact .inl a
     ·exact .inr rfl
   ·rw [if_neg h]
    constructor
    ·exact .inl
    ·rintro (a | ⟨a,rfl⟩)
     ·exact a
     ·exact Decidable.byContradiction fun n=>h ⟨a,n⟩
  rw [e]
  simp only [List.mem_cons,exists_eq_or_imp,or_assoc]
theorem Yoa {C:List YC} {x:YS} {i:Int}:i∈rpX C x ↔ ∃ y∈Yfv x [],rep C y=true/\fnd C y=i:=by
 unfold rpX
 rw [Y1l6,Y1e3,Ywr]
 have h:=Yuy (nmZ x) []
 constructor
 ·rintro (a | ⟨y,hy,h1,h2⟩)
  ·cases a
  ·obtain ⟨z,hz,e1,e2⟩:=h.2 y (.inr hy)
   have hz':z∈nmZ x:=by rcases h.1 z hz with a | a; cases a; exact a
   have e:=@Y133 C z y e1 e2 (Ysp x z hz') (Ysp x y hy)
   exact ⟨z,hz,by simpa [rep,Ygn,e] using h1,e.trans h2⟩
 ·rintro ⟨y,hy,h1,h2⟩
  refine .inr ⟨y,?_,h1,h2⟩
  rcases h.1 y hy with a | a
  ·cases a
  ·exact a
theorem Y110 {C:List YC} {y:YS} (h:rep C y=true):lnI C (fnd C y)=((Ygn C y).each.length:Int)/\0<=fnd C y:=by
 simp only [rep,Bool.and_eq_true,decide_eq_true_eq] at h
 exact ⟨rfl,h.1⟩
theorem Y1ix {C:List YC} {I:List YS} {n:Int} (h0:0<=n):∀ m,(∀ j,j<m->rep C (I.getD j default)=true->((Ygn C (I.getD j default)).each.length:Int)=n)->Yj0 C I m=true/\(cnN C I m=n ∨ cnN C I m = -1)
 | 0,_=>⟨rfl,.inr rfl⟩
 | m+1,h=>by
  obtain ⟨h1,h2⟩:=Y1ix h0 m fun j hj=>h j (by omega)
  have h3:=h m (by omega)
  simp only [Yj0,cnN,Bool.and_eq_true,Bool.or_eq_true,Bool.not_eq_true',decide_eq_true_eq]
  by_cases e:rep C (I.getD m default)=true
  ·rw [if_pos e]
   have:=h3 e
   refine ⟨⟨h1,?_⟩,.inl this⟩
   rcases h2 with h2 | h2
   ·exact .inr (by omega)
   ·exact .inl (.inr (by omega))
  ·rw [if_neg e]
   exact ⟨⟨h1,.inl (.inl (by simpa using e))⟩,h2⟩
theorem Yzo {C:List YC} {I:List YS}:∀ m,m<=I.length->0<=cnN C I m->∃ y∈I,rep C y=true
 | 0,_,h=>by simp only [cnN] at h; omega
 | m+1,hm,h=>by
  simp only [cnN] at h
  split at h
  ·rename_i e; exact ⟨_,Yfx (by omega),e⟩
  ·exact Yzo m (by omega) h
theorem Y1q8 (C:List YC) (x:YS):rqB C x=cnB C x/\(cnB C x=true->rqN C x=bN C x):=by
 have hall:cnB C x=true->∀ i∈rpX C x,lnI C i=cnN C (Yfv x []) (Yfv x []).length:=by
  intro h i hi
  simp only [cnB,Bool.and_eq_true,decide_eq_true_eq] at h
  obtain ⟨y,hy,h1,rfl⟩:=Yoa.1 hi
  rw [(Y110 h1).1]
  obtain ⟨j,hj,rfl⟩:=List.getElem_of_mem hy
  have e:(Yfv x [])[j]=(Yfv x []).getD j default:=by simp [hj]
  rw [e] at h1 ⊢
  exact Yzm _ j hj h.1 h1
 have hne:cnB C x=true->0<(rpX C x).length:=by
  intro h
  simp only [cnB,Bool.and_eq_true,decide_eq_true_eq] at h
  obtain ⟨y,hy,h1⟩:=Yzo _ (Nat.le_refl _) h.2
  exact List.length_pos_of_mem (Yoa.2 ⟨y,hy,h1,rfl⟩)
 refine ⟨?_,fun h => ?_⟩
 ·rw [Bool.eq_iff_iff]
  constructor
  ·intro h
   simp only [rqB,rqA,Bool.and_eq_true,Bool.not_eq_true',decide_eq_false_iff_not,List.all_eq_true,decide_eq_true_eq] at h
   have hl:0<(rpX C x).length:=by omega
   have h0:0<=lnI C ((rpX C x).getD 0 default):=by simp only [lnI]; omega
   have h1:=@Y1ix C (Yfv x []) _ h0 (Yfv x []).length fun j hj hr=>by
    rw [<- (Y110 hr).1]
    exact h.2 _ (Yoa.2 ⟨_,Yfx hj,hr,rfl⟩)
   obtain ⟨y,hy,hr,_⟩:=Yoa.1 (Yfx hl)
   obtain ⟨j,hj,rfl⟩:=List.getElem_of_mem hy
   have e:(Yfv x [])[j]=(Yfv x []).getD j default:=by simp [hj]
   rw [e] at hr
   have:=Yzm _ j hj h1.1 hr
   simp only [cnB,Bool.and_eq_true,decide_eq_true_eq]
   exact ⟨h1.1,by omega⟩
  ·intro h
   have h1:=hall h
   have h2:=hne h
   simp only [rqB,rqA,Bool.and_eq_true,Bool.not_eq_true',decide_eq_false_iff_not,List.all_eq_true,decide_eq_true_eq]
   exact ⟨by omega,fun i hi=>by rw [h1 i hi,h1 _ (Yfx h2)]⟩
 ·have h1:=hall h _ (Yfx (hne h))
  simp only [lnI] at h1
  simp only [rqN,bN]; omega
theorem Y185 (C:List YC) (a p:Nat):∀ L,(Yql C a L)[p]? = if (∃ y∈L,rep C y=true/\(fnd C y).toNat=p)/\p<C.length then some ((C.getD p default).each.getD a default) else C[p]?
 | []=>by simp [Yql]
 | x :: r=>by
  have ih:=Y185 C a p r
  have hl:=Yse C a r
  have er:(0<=fnd C x/\0<(C.getD (fnd C x).toNat default).depth) ↔ rep C x=true:=by
   unfold rep; rw [Bool.and_eq_true,decide_eq_true_eq,decide_eq_true_eq]; exact Iff.rfl
  simp only [Yql]
  by_cases e:rep C x=true
  ·rw [if_pos (er.2 e),List.getElem?_set,hl]
   by_cases e2:(fnd C x).toNat=p
   ·rw [if_pos e2]
    by_cases e3:p<C.length
    ·rw [if_pos (by omega),if_pos ⟨⟨x,List.mem_cons_self,e,e2⟩,e3⟩,e2]
    ·rw [if_neg (by omega),if_neg (fun h=>e3 h.2)]
     rw [List.getElem?_eq_none (by omega)]
   ·rw [if_neg e2,ih]
    congr 1
    apply propext
    constructor
    ·rintro ⟨⟨y,hy,h⟩,h2⟩; exact ⟨⟨y,List.mem_cons_of_mem _ hy,h⟩,h2⟩
    ·rintro ⟨⟨y,hy,h⟩,h2⟩
     rcases List.mem_cons.1 hy with rfl | hy
     ·exact absurd h.2 e2
     ·exact ⟨⟨y,hy,h⟩,h2⟩
  ·rw [if_neg (fun h=>e (er.1 h)),ih]
   congr 1
   apply propext
   constructor
   ·rintro ⟨⟨y,hy,h⟩,h2⟩; exact ⟨⟨y,List.mem_cons_of_mem _ hy,h⟩,h2⟩
   ·rintro ⟨⟨y,hy,h⟩,h2⟩
    rcases List.mem_cons.1 hy with rfl | hy
    ·exact absurd h.1 e
    ·exact ⟨⟨y,hy,h⟩,h2⟩
theorem Y1jj (C:List YC) (a p:Nat) (I:List Int):(Ykt C a I)[p]? = if (∃ i∈I,i.toNat=p)/\p<C.length then some ((C.getD p default).each.getD a default) else C[p]? := by
 have:∀ (I:List Int) (O:List YC),O.length=C.length->(I.foldl (fun O i=>O.set i.toNat ((C.getD i.toNat default).each.getD a default)) O)[p]? = if (∃ i∈I,i.toNat=p)/\p<C.length then some ((C.getD p default).each.getD a default) else O[p]? := by
  intro I
  induction I with
  | nil=>intro O _; simp
  | cons x r ih=>
   intro O hO
   rw [List.foldl_cons,ih _ (by rw [List.length_set]; exact hO),List.getElem?_set,hO]
   by_cases e3:p<C.length
   ·by_cases e:∃ i∈r,i.toNat=p
    ·obtain ⟨i,hi,h⟩:=e
     rw [if_pos ⟨⟨i,hi,h⟩,e3⟩,if_pos ⟨⟨i,List.mem_cons_of_mem _ hi,h⟩,e3⟩]
    ·rw [if_neg (fun h=>e h.1)]
     by_cases e2:x.toNat=p
     ·rw [if_pos e2,if_pos (by omega),if_pos ⟨⟨x,List.mem_cons_self,e2⟩,e3⟩,e2]
     ·rw [if_neg e2,if_neg]
      rintro ⟨⟨i,hi,h⟩,_⟩
      rcases List.mem_cons.1 hi with rfl | hi
      ·exact e2 h
      ·exact e ⟨i,hi,h⟩
   ·have n1:¬ ((∃ i∈r,i.toNat=p)/\p<C.length):=fun h=>e3 h.2
    have n2:¬ ((∃ i∈x :: r,i.toNat=p)/\p<C.length):=fun h=>e3 h.2
    rw [if_neg n1,if_neg n2]
    split
    ·rename_i h; rw [if_neg (by omega),List.getElem?_eq_none (by omega)]
    ·rfl
 exact this I C rfl
theorem Y1oj (C:List YC) (x:YS) (a:Nat):stq C x a=Ysm C x a:=by
 apply List.ext_getElem?
 intro p
 unfold stq Ysm Yi3
 rw [Y1jj,Y185,List.take_length]
 congr 1
 apply propext
 constructor
 ·rintro ⟨⟨i,hi,h⟩,h2⟩
  obtain ⟨y,hy,h3,rfl⟩:=Yoa.1 hi
  exact ⟨⟨y,List.mem_reverse.2 hy,h3,h⟩,h2⟩
 ·rintro ⟨⟨y,hy,h3,h⟩,h2⟩
  exact ⟨⟨_,Yoa.2 ⟨y,List.mem_reverse.1 hy,h3,rfl⟩,h⟩,h2⟩
def Ysa (s:YS):Prop:=okY s=true/\Yge s<=40
theorem Y12z {f:Nat->Int->YS × Bool × Int} {z:YS} {q:Int} {O:List YS} (h:z∈O):∀ j,z∈(itr f j q O).1
 | 0=>h
 | j+1=>by
  have:=Y12z (f:=f) (q:=q) h j
  simp only [itr]; split
  ·exact List.mem_append_left _ this
  ·exact this
theorem Y13n {f:Nat->Int->YS × Bool × Int} {q:Int} {O:List YS} {j:Nat} (h:(itr f (j+1) q O).2.1=true):(itr f j q O).2.1=true:=by
 simp only [itr] at h; split at h
 ·assumption
 ·exact h
theorem Y180 {f g:Nat->Int->YS × Bool × Int} (hg:∀ j q,0<=q->(g j q).2.1=true->0<=(g j q).2.2/\(g j q).2.2+1<=q)
  (h:∀ j q,0<=q->q<=2000->((g j q).2.1=true->f j q=g j q)/\((f j q).2.1=true->Ysa (f j q).1->(g j q).2.1=true)) {q:Int} (h0:0<=q) (h1:q<=2000) (O:List YS) :
  ∀ j,((itr g j q O).2.1=true->itr f j q O=itr g j q O/\0<=(itr g j q O).2.2/\(itr g j q O).2.2<=q)/\((itr f j q O).2.1=true->(∀ z∈(itr f j q O).1,Ysa z)->(itr g j q O).2.1=true)
 | 0=>⟨fun _=>⟨rfl,h0,Int.le_refl _⟩,fun _ _=>rfl⟩
 | j+1=>by
  obtain ⟨ih1,ih2⟩:=Y180 hg h h0 h1 O j
  constructor
  ·intro ht
   have hj:=Y13n ht
   obtain ⟨e,b1,b2⟩:=ih1 hj
   rw [Ymx g j q O hj] at ht ⊢
   rw [Ymx f j q O (by rw [e]; exact hj),e]
   have h3:=(h j _ b1 (by omega)).1 ht
   have h4:=hg j _ b1 ht
   rw [h3]
   exact ⟨rfl,h4.1,by simp only; omega⟩
  ·intro ht hz
   have hj:=Y13n ht
   rw [Ymx f j q O hj] at ht hz
   have hgj:=ih2 hj fun z hz'=>hz z (List.mem_append_left _ hz')
   obtain ⟨e,b1,b2⟩:=ih1 hgj
   rw [Ymx g j q O hgj]
   have h3:=(h j (itr f j q O).2.2 (by rw [e]; exact b1) (by rw [e]; omega)).2 ht (hz _ (List.mem_append_right _ (List.mem_singleton.2 rfl)))
   rw [e] at h3
   exact h3
theorem Y18l {C:List YC} {x z:YS} {q:Int} {O:List YS} (h:z∈O):z∈(bR C x q O).1:=by
 unfold bR bJ bI; split
 ·exact Y12z h _
 ·exact h
theorem Yoy:∀ (l:List YS) (C:List YC) (q:Int) (O:List YS) (z:YS),z∈O->z∈(Ygy l C q O).1
 | [],C,q,O,z,h=>by rw [Ylu]; exact h
 | [x],C,q,O,z,h=>by
  rw [Yqi]; split
  ·exact Yoy [] C _ _ z (List.mem_append_left _ h)
  ·exact h
 | x :: y :: r,C,q,O,z,h=>by
  rw [Yn8]; split
  ·split
   ·exact Yoy r C _ _ z (Y18l h)
   ·exact Y18l h
  ·split
   ·exact Yoy (y :: r) C _ _ z (List.mem_append_left _ h)
   ·exact h
def Y1g4 (x:YS):Prop:=∀ C q,0<=q->q<=2000->((bli x C q).2.1=true->bld x C q=bli x C q)/\((bld x C q).2.1=true->Ysa (bld x C q).1->(bli x C q).2.1=true)
theorem Y1ni {x:YS} (hx:Y1g4 x) (C:List YC) {q:Int} (h0:0<=q) (h1:q<=2000) (O:List YS) :
  ((iR C x q O).2.1=true->bR C x q O=iR C x q O/\0<=(iR C x q O).2.2/\(iR C x q O).2.2<=q)/\((bR C x q O).2.1=true->(∀ z∈(bR C x q O).1,Ysa z)->(iR C x q O).2.1=true):=by
 obtain ⟨e1,e2⟩:=Y1q8 C x
 unfold iR bR bJ
 rw [e1]
 by_cases c:cnB C x=true
 ·rw [if_pos c,if_pos c,e2 c]
  have e3:iI C x (bN C x) q O=itr (fun j q=>bli x (Ysm C x j) q) (bN C x) q O:=by unfold iI; congr 1; funext j m; rw [Y1oj]
  rw [e3]
  exact Y180 (fun j q=>Yub x _ q) (fun j q a b=>hx _ q a b) h0 h1 O (bN C x)
 ·rw [if_neg c,if_neg c]
  exact ⟨fun h=>(by cases h),fun h=>(by cases h)⟩
theorem Yqf:∀ (l:List YS) (b:Bool),(∀ x∈l,Yjh x=true->Y1g4 x)->(∀ x,l.head? = some x->Yfw x=false)->Yh0 b l=true->∀ C q O,0<=q->q<=2000 ->
  ((Ygr l C q O).2.1=true->Ygy l C q O=Ygr l C q O)/\((Ygy l C q O).2.1=true->(∀ z∈(Ygy l C q O).1,Ysa z)->(Ygr l C q O).2.1=true)
 | [],b,_,_,_,C,q,O,h0,h1=>by rw [Ylu,Yo3]; exact ⟨fun _=>rfl,fun _ _=>rfl⟩
 | [x],b,hx,hh,hd,C,q,O,h0,h1=>by
  have hn:Yfw x=false:=hh x rfl
  simp only [Yh0,hn,Bool.and_true] at hd
  have h:=hx x List.mem_cons_self (by simpa using hd) C q h0 h1
  rw [Yqi,Yxk,Ylu,Yo3]
  constructor
  ·intro ht
   by_cases e:(bli x C q).2.1=true
   ·rw [if_pos e,h.1 e,if_pos e]
   ·rw [if_neg e] at ht; cases ht
  ·intro ht hz
   by_cases e:(bld x C q).2.1=true
   ·rw [if_pos e] at hz
    have:=h.2 e (hz _ (List.mem_append_right _ (List.mem_singleton.2 rfl)))
    rw [if_pos this]
   ·rw [if_neg e] at ht; cases ht
 | x :: y :: r,b,hx,hh,hd,C,q,O,h0,h1=>by
  have hn:Yfw x=false:=hh x rfl
  have hd2:Yjh x=true/\Yh0 false (y :: r)=true:=by
   rw [Yh0,hn] at hd
   simpa using hd
  have hxr:=hx x List.mem_cons_self hd2.1
  rw [Yn8,Yqq]
  by_cases d:Yfw y=true
  ·rw [if_pos d,if_pos d]
   have hr:Yh0 true r=true:=by
    have:=hd2.2
    rw [Yh0,d] at this
    simpa using this
   have hrh:∀ z,r.head? = some z->Yfw z=false:=by
    intro z hz
    cases r with
    | nil=>cases hz
    | cons w r=>
     simp only [List.head?_cons,Option.some.injEq] at hz
     subst hz
     cases e:Yfw w with
     | false=>rfl
     | true=>rw [Yh0,e] at hr; simp at hr
   have h:=Y1ni hxr C h0 h1 O
   constructor
   ·intro ht
    by_cases e:(iR C x q O).2.1=true
    ·obtain ⟨e1,b1,b2⟩:=h.1 e
     rw [if_pos e] at ht ⊢
     rw [e1,if_pos e]
     exact (Yqf r true (fun z hz=>hx z (List.mem_cons_of_mem _ (List.mem_cons_of_mem _ hz))) hrh hr C _ _ b1 (by omega)).1 ht
    ·rw [if_neg e] at ht; exact absurd ht e
   ·intro ht hz
    by_cases e:(bR C x q O).2.1=true
    ·rw [if_pos e] at ht hz
     have hi:=h.2 e fun z hz'=>hz z (Yoy r C _ _ z hz')
     obtain ⟨e1,b1,b2⟩:=h.1 hi
     rw [if_pos hi]
     rw [e1] at ht hz
     exact (Yqf r true (fun z hz=>hx z (List.mem_cons_of_mem _ (List.mem_cons_of_mem _ hz))) hrh hr C _ _ b1 (by omega)).2 ht hz
    ·rw [if_neg e] at ht; exact absurd ht e
  ·rw [if_neg d,if_neg d]
   have h:=hxr C q h0 h1
   have hyh:∀ z,(y :: r).head? = some z->Yfw z=false:=by
    intro z hz
    simp only [List.head?_cons,Option.some.injEq] at hz
    subst hz; simpa using d
   constructor
   ·intro ht
    by_cases e:(bli x C q).2.1=true
    ·have hb:=Yub x C q h0 e
     rw [if_pos e] at ht ⊢
     rw [h.1 e,if_pos e]
     exact (Yqf (y :: r) false (fun z hz=>hx z (List.mem_cons_of_mem _ hz)) hyh hd2.2 C _ _ hb.1 (by omega)).1 ht
    ·rw [if_neg e] at ht; cases ht
   ·intro ht hz
    by_cases e:(bld x C q).2.1=true
    ·rw [if_pos e] at ht hz
     have hi:=h.2 e (hz _ (Yoy (y :: r) C _ _ _ (List.mem_append_right _ (List.mem_singleton.2 rfl))))
     have hb:=Yub x C q h0 hi
     rw [if_pos hi]
     rw [h.1 hi] at ht hz
     exact (Yqf (y :: r) false (fun z hz=>hx z (List.mem_cons_of_mem _ hz)) hyh hd2.2 C _ _ hb.1 (by omega)).2 ht hz
    ·rw [if_neg e] at ht; cases ht
theorem Y1ai {l:List YS} (h:Yh0 true l=true):∀ x,l.head? = some x->Yfw x=false:=by
 intro x hx
 cases l with
 | nil=>cases hx
 | cons y r=>
  simp only [List.head?_cons,Option.some.injEq] at hx
  subst hx
  cases e:Yfw y with
  | false=>rfl
  | true=>rw [Yh0,e] at h; simp at h
theorem Y1i0 {t:YS} (h:okY t=true):(t.kind=1->t.items=[])/\(t.kind≠1->t.scopes=[]):=by
 rw [Ym0] at h
 simp only [Ylq,Ym5,Bool.and_eq_true,Bool.or_eq_true,decide_eq_true_eq] at h
 constructor
 ·intro hk
  have:(t.items.length:Int)=0:=by omega
  exact List.length_eq_zero_iff.1 (by omega)
 ·intro hk
  have:(t.scopes.length:Int)=0:=by omega
  exact List.length_eq_zero_iff.1 (by omega)
theorem Y1rf (t:YS):t=⟨t.kind,t.number,t.text,t.scopes,t.items⟩:=by cases t; rfl
theorem Y1lu:∀ t,okY t=true->Yjh t=true->Y1g4 t:=by
 refine YS.ind fun t ih hok hdot C q h0 h1 => ?_
 have hn:=Y1i0 hok
 have hd:=Yvk t
 rw [hdot] at hd
 have hd1:Yfw t=false/\Yh0 true t.items=true:=by
  have:=hd.symm
  simpa using this
 have hsz:=Ygo (Ygn C t).form
 by_cases hc:t.kind=1/\0<=fnd C t
 ·rw [Yne,if_pos hc,Ylw,if_pos hc.1,if_neg (by rw [hd1.1]; simp; omega:¬ (Yfw t=true ∨ fnd C t<0))]
  by_cases c4:(Ygn C t).depth≠0
  ·rw [if_pos c4,if_pos c4]
   exact ⟨fun h=>(by cases h),fun h=>(by split at h <;> cases h)⟩
  ·rw [if_neg c4,if_neg c4]
   constructor
   ·intro h
    by_cases c5:Ygc (Ygn C t).form=true
    ·rw [if_pos c5] at h ⊢
     simp only [decide_eq_true_eq] at h
     rw [if_neg (by omega),if_pos (by omega)]
     have e:max (q - (Yft (Ygn C t).form:Int)) (-1)=q - Yft (Ygn C t).form:=by omega
     rw [e,decide_eq_true h]
    ·rw [if_neg c5] at h; cases h
   ·intro h hg
    by_cases c1:q - 1<0
    ·rw [if_pos c1] at h; cases h
    ·rw [if_neg c1] at h hg
     by_cases c6:(Yft (Ygn C t).form:Int)<=q
     ·rw [if_pos c6] at hg
      have c5:Ygc (Ygn C t).form=true:=by
       simp only [Ygc,Bool.and_eq_true,decide_eq_true_eq]
       exact ⟨⟨by omega,hg.2⟩,hg.1⟩
      rw [if_pos c5]
      simp only [decide_eq_true_eq]; omega
     ·rw [if_neg c6] at h; cases h
 ·rw [Yne,if_neg hc,Ylw]
  by_cases c1:q - 1<0
  ·rw [if_pos c1,if_pos c1]
   exact ⟨fun h=>(by cases h),fun h=>(by cases h)⟩
  ·rw [if_neg c1,if_neg c1]
   by_cases hk:t.kind=1
   ·have hi:=hn.1 hk
    rw [if_pos hk,if_pos (Or.inr (by omega):Yfw t=true ∨ fnd C t<0),hi,Yo3,hd1.1]
    refine ⟨fun _ => ?_,fun _ _=>rfl⟩
    have e:t=⟨t.kind,t.number,t.text,t.scopes,[]⟩:=Eq.trans (Y1rf t) (by rw [hi])
    show (t,true,q - 1)=((⟨t.kind,t.number,t.text,t.scopes,[]⟩:YS),true,q - 1)
    rw [<- e]
   ·rw [if_neg hk]
    have hs:=hn.2 hk
    have hall:∀ x∈t.items,okY x=true:=by
     rw [Ym0,Bool.and_eq_true,List.all_eq_true] at hok; exact hok.1
    have h:=Yqf t.items true (fun x hx=>ih x hx (hall x hx)) (Y1ai hd1.2) hd1.2 C (q - 1) [] (by omega) (by omega)
    constructor
    ·intro ht
     by_cases e:(Ygr t.items C (q - 1) []).2.1=true
     ·rw [if_pos e,h.1 e,if_pos e,hs]
     ·rw [if_neg e] at ht; cases ht
    ·intro ht hg
     by_cases e:(Ygy t.items C (q - 1) []).2.1=true
     ·rw [if_pos e] at hg
      have hz:∀ z∈(Ygy t.items C (q - 1) []).1,Ysa z:=by
       intro z hz
       obtain ⟨g1,g2⟩:=hg
       rw [Ym0,Bool.and_eq_true,List.all_eq_true] at g1
       rw [Ymb] at g2
       have:=Yu6 Yge hz
       exact ⟨g1.1 z hz,by simp only at g2; omega⟩
      rw [if_pos (h.2 e hz)]
     ·rw [if_neg e] at ht; cases ht
def Ymj (t:YS) (C:List YC):Bool:=Ygc t&&Yjh t&&(bld t C 2000).2.1&&Ygc (bld t C 2000).1
def Yj7 (t:YS) (C:List YC):YS:=if Ymj t C=true then (bld t C 2000).1 else zY
theorem Y1hu {t:YS} (C:List YC) (h1:Ygc t=true) (h2:Yjh t=true):Ymj t C=((bli t C 2000).2.1&&Ygc (bli t C 2000).1)/\((bli t C 2000).2.1=true->(bld t C 2000).1=(bli t C 2000).1):=by
 have hok:okY t=true:=by simp only [Ygc,Bool.and_eq_true] at h1; exact h1.2
 have h:=Y1lu t hok h2 C 2000 (by decide) (by decide)
 refine ⟨?_,fun e=>by rw [h.1 e]⟩
 unfold Ymj
 rw [h1,h2,Bool.eq_iff_iff]
 simp only [Bool.true_and,Bool.and_eq_true]
 constructor
 ·rintro ⟨a,b⟩
  have hg:Ysa (bld t C 2000).1:=by simp only [Ygc,Bool.and_eq_true,decide_eq_true_eq] at b; exact ⟨b.2,b.1.2⟩
  have:=h.2 a hg
  exact ⟨this,by rw [<- h.1 this]; exact b⟩
 ·rintro ⟨a,b⟩
  rw [h.1 a]; exact ⟨a,b⟩
section
variable {t:YS} {C:List YC} {q:Int}
theorem Y1mr (h:q - 1<0):bld t C q=(zY,false,q - 1):=by rw [Ylw,if_pos h]
theorem Y1nb (h:¬ q - 1<0) (h1:t.kind=1) (h2:Yfw t=true ∨ fnd C t<0):bld t C q=(t,!Yfw t,q - 1):=by rw [Ylw,if_neg h,if_pos h1,if_pos h2]
theorem Y1mx (h:¬ q - 1<0) (h1:t.kind=1) (h2:Yfw t=false) (h3:¬ fnd C t<0) (h4:¬ (C.getD (fnd C t).toNat default).depth=0):bld t C q=(zY,false,q):=by
 rw [Ylw,if_neg h,if_pos h1,if_neg (by rw [h2]; rintro (a | a); cases a; exact h3 a),if_pos (show (Ygn C t).depth≠0 from h4)]
theorem Y1p1 (h:¬ q - 1<0) (h1:t.kind=1) (h2:Yfw t=false) (h3:¬ fnd C t<0) (h4:(C.getD (fnd C t).toNat default).depth=0) (h5:¬ (Yft (C.getD (fnd C t).toNat default).form:Int)<=q):bld t C q=(zY,false,max (q - Yft (C.getD (fnd C t).toNat default).form) (-1)):=by
 rw [Ylw,if_neg h,if_pos h1,if_neg (by rw [h2]; rintro (a | a); cases a; exact h3 a),if_neg (by intro e; exact e h4),if_neg (show ¬ (Yft (Ygn C t).form:Int)<=q from h5)]; rfl
theorem Y1n0 (h:¬ q - 1<0) (h1:t.kind=1) (h2:Yfw t=false) (h3:¬ fnd C t<0) (h4:(C.getD (fnd C t).toNat default).depth=0) (h5:(Yft (C.getD (fnd C t).toNat default).form:Int)<=q):bld t C q=((C.getD (fnd C t).toNat default).form,true,max (q - Yft (C.getD (fnd C t).toNat default).form) (-1)):=by
 rw [Ylw,if_neg h,if_pos h1,if_neg (by rw [h2]; rintro (a | a); cases a; exact h3 a),if_neg (by intro e; exact e h4),if_pos (show (Yft (Ygn C t).form:Int)<=q from h5)]; rfl
theorem Y1nd (h:¬ q - 1<0) (h1:¬ t.kind=1) (h2:(Ygy t.items C (q - 1) []).2.1=true):bld t C q=(⟨t.kind,t.number,t.text,[],(Ygy t.items C (q - 1) []).1⟩,true,(Ygy t.items C (q - 1) []).2.2):=by
 rw [Ylw,if_neg h,if_neg h1,if_pos h2]
theorem Y1n9 (h:¬ q - 1<0) (h1:¬ t.kind=1) (h2:(Ygy t.items C (q - 1) []).2.1=false):bld t C q=(zY,false,(Ygy t.items C (q - 1) []).2.2):=by
 rw [Ylw,if_neg h,if_neg h1,if_neg (by rw [h2]; decide)]
theorem Y1o1 (h1:t.kind=1) (h3:0<=fnd C t) (h4:¬ (C.getD (fnd C t).toNat default).depth=0):bli t C q=(zY,false,q):=by
 rw [Yne,if_pos ⟨h1,h3⟩,if_pos (show (Ygn C t).depth≠0 from h4)]
theorem Y1ny (h1:t.kind=1) (h3:0<=fnd C t) (h4:(C.getD (fnd C t).toNat default).depth=0) (h5:(Yhb (C.getD (fnd C t).toNat default).form 1 0).1=false):bli t C q=(zY,false,q):=by
 rw [Ysy] at h5
 rw [Yne,if_pos ⟨h1,h3⟩,if_neg (by intro e; exact e h4),if_neg (by show ¬ Ygc (C.getD (fnd C t).toNat default).form=true; rw [h5]; decide)]
theorem Y1nu (h1:t.kind=1) (h3:0<=fnd C t) (h4:(C.getD (fnd C t).toNat default).depth=0) (h5:(Yhb (C.getD (fnd C t).toNat default).form 1 0).1=true):bli t C q=((C.getD (fnd C t).toNat default).form,decide (0<=q - (Yhb (C.getD (fnd C t).toNat default).form 1 0).2),q - (Yhb (C.getD (fnd C t).toNat default).form 1 0).2):=by
 have e:=(Yrl (C.getD (fnd C t).toNat default).form 1 0 (by decide)).2 h5
 rw [Ysy] at h5
 rw [Yne,if_pos ⟨h1,h3⟩,if_neg (by intro e; exact e h4),if_pos (show Ygc (Ygn C t).form=true from h5),e,Int.zero_add]; rfl
theorem Y1mg (h1:¬ (t.kind=1/\0<=fnd C t)) (h:q - 1<0):bli t C q=(zY,false,q - 1):=by rw [Yne,if_neg h1,if_pos h]
theorem Y1o8 (h1:¬ (t.kind=1/\0<=fnd C t)) (h:¬ q - 1<0) (h2:(Ygr t.items C (q - 1) []).2.1=true):bli t C q=(⟨t.kind,t.number,t.text,t.scopes,(Ygr t.items C (q - 1) []).1⟩,true,(Ygr t.items C (q - 1) []).2.2):=by rw [Yne,if_neg h1,if_neg h,if_pos h2]
theorem Y1oe (h1:¬ (t.kind=1/\0<=fnd C t)) (h:¬ q - 1<0) (h2:(Ygr t.items C (q - 1) []).2.1=false):bli t C q=(zY,false,(Ygr t.items C (q - 1) []).2.2):=by rw [Yne,if_neg h1,if_neg h,if_neg (by rw [h2]; decide)]
theorem Y1q2 (hC:∀ z∈C,mxP z<=1000000000) {x:YS} (h:cnB C x=true):bN C x<=1000000000:=by
 have h':=h
 simp only [cnB,Bool.and_eq_true,decide_eq_true_eq] at h'
 obtain ⟨y,hy,hr⟩:=Yzo _ (Nat.le_refl _) h'.2
 have hr':=hr
 unfold rep at hr'
 rw [Bool.and_eq_true,decide_eq_true_eq,decide_eq_true_eq] at hr'
 have e:=Y161 h hy hr'.1 hr'.2
 have h1:=Yl7 C y
 have h2:=hC (C.getD (fnd C y).toNat default) (Yfx (by omega))
 have h3:=Ytx (C.getD (fnd C y).toNat default)
 omega
theorem Y1of {x:YS} {k:Nat} (h:cnB C x=true) (hk:(k:Int)<if Yj0 C (Yfv x []) (Yfv x []).length=true then cnN C (Yfv x []) (Yfv x []).length else 0):k<bN C x:=by
 simp only [cnB,Bool.and_eq_true,decide_eq_true_eq] at h
 rw [if_pos h.1] at hk; simp only [bN]; omega
theorem Y1nt {x:YS} {k:Nat} (h:cnB C x=true) (hk:¬ (k:Int)<if Yj0 C (Yfv x []) (Yfv x []).length=true then cnN C (Yfv x []) (Yfv x []).length else 0):bN C x<=k:=by
 simp only [cnB,Bool.and_eq_true,decide_eq_true_eq] at h
 rw [if_pos h.1] at hk; simp only [bN]; omega
end
theorem Y1jl {C:List YC} {x:YS} {j:Nat} {q:Int} {O:List YS} (hj:j<=bN C x ∨ cnB C x=false) (h:(bJ C x j q O).2.1=false):bR C x q O=bJ C x j q O:=by
 rcases hj with hj | hj
 ·exact Y1m2 C x j q O h hj
 ·unfold bR bJ; rw [if_neg (by rw [hj]; decide),if_neg (by rw [hj]; decide)]
theorem Y1kv {C:List YC} {x:YS} {j:Nat} {q:Int} {O:List YS} (hj:j<=bN C x ∨ cnB C x=false) (h0:0<=q) (h:(bJ C x j q O).2.1=true) (hk:¬ (j:Int)<if Yj0 C (Yfv x []) (Yfv x []).length=true then cnN C (Yfv x []) (Yfv x []).length else 0):bR C x q O=bJ C x j q O:=by
 have h1:=(Y12u C x j q O h0 h).2.2
 have h2:=Y1nt h1 hk
 rcases hj with hj | hj
 ·exact Y1my C x j q O (by omega)
 ·rw [h1] at hj; cases hj
theorem Y1q7 (C:List YC) (x:YS) (q:Int) (O:List YS) (h0:0<=q) (h:(iR C x q O).2.1=true):0<=(iR C x q O).2.2/\((iR C x q O).1.length:Int)+(iR C x q O).2.2<=O.length+q:=by
 unfold iR at h ⊢
 by_cases c:rqB C x=true
 ·rw [if_pos c] at h ⊢; exact Y1is C x _ q O h0 h
 ·rw [if_neg c] at h; cases h
theorem Yv3 {C:List YC} {x:YS} {j:Nat} (h:j<(rpX C x).length):0<=(rpX C x).getD j 0/\(rpX C x).getD j 0<C.length/\((rpX C x).getD j 0).toNat<C.length:=by
 have h1:(rpX C x).getD j 0∈rpX C x:=Yfx h
 obtain ⟨y,_,hr,e⟩:=Yoa.1 h1
 have h2:=(Y110 hr).2
 have h3:=Yl7 C y
 rw [e] at h2 h3
 omega
theorem Y1g2 {C:List YC} {I:List Int} {n:Int} {j:Nat} (h:j<I.length) (h0:rqA C (I.take j) n=true) (e:((C.getD (I.getD j 0).toNat default).each.length:Int)=n):rqA C (I.take (j+1)) n=true:=by
 have e2:I.getD j default=I.getD j 0:=rfl
 unfold rqA at *; rw [Ygg h,List.all_append,h0,e2]
 simp only [List.all_cons,List.all_nil,Bool.and_true,Bool.true_and]; exact decide_eq_true (show lnI C (I.getD j 0)=n from e)
theorem Y1g9 {C:List YC} {I:List Int} {n:Int} {j:Nat} (h:j<I.length) (e:¬ ((C.getD (I.getD j 0).toNat default).each.length:Int)=n):rqA C I n=false:=by
 unfold rqA; rw [List.all_eq_false]; exact ⟨I.getD j 0,Yfx h,by rw [show decide (lnI C (I.getD j 0)=n)=false from decide_eq_false e]; decide⟩
theorem Y1mq {C:List YC} {x:YS} {j:Nat} (h0:0<(rpX C x).length) (h:(rpX C x).length<=j) (e:rqA C ((rpX C x).take j) (lnI C ((rpX C x).getD 0 0))=true):rqB C x=true:=by
 rw [List.take_of_length_le h] at e
 have e2:(rpX C x).getD 0 default=(rpX C x).getD 0 0:=rfl
 unfold rqB; rw [e2,e,decide_eq_false (by omega)]; rfl
theorem Y1p6 {C:List YC} {x:YS} {j:Nat} (h:j<(rpX C x).length) (e:¬ ((C.getD ((rpX C x).getD j 0).toNat default).each.length:Int)=((C.getD ((rpX C x).getD 0 0).toNat default).each.length:Int)) (q:Int) (O:List YS):iR C x q O=(O,false,q):=by
 have e2:(rpX C x).getD 0 default=(rpX C x).getD 0 0:=rfl
 have h1:=Y1g9 h e
 unfold iR rqB; rw [e2,show lnI C ((rpX C x).getD 0 0)=((C.getD ((rpX C x).getD 0 0).toNat default).each.length:Int) from rfl,h1]; simp
theorem Y1ge {C:List YC} {x:YS} (h:rqB C x=true) {j:Nat} (hj:j<(rpX C x).length):(C.getD ((rpX C x).getD j 0).toNat default).each.length=rqN C x:=by
 simp only [rqB,rqA,Bool.and_eq_true,List.all_eq_true,decide_eq_true_eq] at h
 have:=h.2 _ (Yfx hj)
 simp only [lnI] at this
 exact Int.ofNat.inj this
theorem Y1fk {C:List YC} (hC:∀ z∈C,mxP z<=1000000000) {x:YS} (h0:0<(rpX C x).length):rqN C x<=1000000000:=by
 have h1:=Yv3 h0
 have h2:=hC _ (Yfx h1.2.2)
 have h3:=Ytx (C.getD ((rpX C x).getD 0 0).toNat default)
 have e2:(rpX C x).getD 0 default=(rpX C x).getD 0 0:=rfl
 simp only [rqN,e2]; omega
theorem Y1k9 {C:List YC} {x:YS} {a k:Nat} (h:(rpX C x).length<=k):Ykt C a ((rpX C x).take k)=stq C x a:=by rw [List.take_of_length_le h]
theorem Y1pf {C:List YC} {x:YS} {j:Nat} {q:Int} {O:List YS} (h:rqB C x=true) (hj:j<=rqN C x) (hn:rqN C x<=j):iR C x q O=iI C x j q O:=by
 unfold iR; rw [if_pos h,show rqN C x=j by omega]
theorem Y1o2 {C:List YC} {x:YS} {j:Nat} {q:Int} {O:List YS} (h:rqB C x=true) (hj:j<rqN C x) (h1:(iI C x j q O).2.1=true) (h2:(bli x (stq C x j) (iI C x j q O).2.2).2.1=false):(iR C x q O).2.1=false/\(iR C x q O).2.2=(bli x (stq C x j) (iI C x j q O).2.2).2.2:=by
 have e:=Y199 C x j q O h1
 have e2:=Y1kp C x (j+1) (rqN C x) q O (by rw [e]; exact h2) (by omega)
 unfold iR; rw [if_pos h,e2,e]; exact ⟨h2,rfl⟩
theorem Y1jp {C:List YC} {k:Nat} {x:YC}:(C.map Yfo).set k (Yg7 x)=(C.set k x).map Yfo:=by rw [List.map_set,Ymm]
theorem dfI:(default:Int)=0:=rfl
theorem Y1fm {C:List YC} {I:List Int} {j:Nat} (h:j<I.length) (h0:rqA C (I.take j) (lnI C (I.getD 0 0))=true) (e:((C.getD (I.getD j 0).toNat default).each.length:Int)=((C.getD (I.getD 0 0).toNat default).each.length:Int)):rqA C (I.take (j+1)) (lnI C (I.getD 0 0))=true:=Y1g2 h h0 e
theorem Y1ko {k:Prop} [Decidable k] {x:Int} (h:0<=if k then x else -1):k/\0<=x:=by
 split at h
 ·exact ⟨‹_›,h⟩
 ·omega
theorem Y1l1 (s:YS) (h:(Yhb s 1 0).1=true):0<=(Yhb s 1 0).2/\(Yhb s 1 0).2<=2000:=by
 have h1:=((Yrl s 1 0 (by decide)).1).1 h
 have h2:=(Yrl s 1 0 (by decide)).2 h
 omega
end Go.Proofs.YtclpofblehlojaaGreat
end
