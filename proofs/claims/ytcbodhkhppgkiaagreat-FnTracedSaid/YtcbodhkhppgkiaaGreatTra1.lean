/- Part 1 of a proof. No condition. -/
import Derived.Test.YtcbodhkhppgkiaaGreatQ5
section
namespace Go.Proofs.YtcbodhkhppgkiaaGreat
open Go Go.Proofs.YtcbodhkhppgkiaaGreat.Ab
abbrev Ab.Ob.Aa (l:List Int):Ob:=.arr true 1 (l.map Yl4)
abbrev Ab.Ob.Ac (l:List YB):Ob:=.arr true 4 (l.map Yl2)
abbrev Ab.Ob.Ad (l:List YR_):Ob:=.arr true 3 (l.map Ylc)
abbrev Ab.Ob.Ae (l:List YS_):Ob:=.arr true 5 (l.map Yl1)
abbrev Af (l:List YS_):SV:=ll (l.map Yl1)
abbrev Ag (l:List Int):SV:=ll (l.map Yl4)
abbrev Ab.Ob.Ah (l:List Yd):Ob:=.arr true 4 (l.map Ylf)
abbrev Ab.Ob.Ai (l:List YC):Ob:=.arr true 12 (l.map Yl7)
abbrev Aj (l:List YB):SV:=ll (l.map Yl2)
abbrev Ab.Ob.Ak (l:List Yc):Ob:=.arr true 8 (l.map Ylo)
abbrev Al (l:List YC):SV:=ll (l.map Yl7)
abbrev Am (l:List YS_):AC:=vL (l.map Yl1)
abbrev An (l:List YB):AC:=vL (l.map Yl2)
abbrev Ab.Cell.Ao (l:List Int):Cell:=.list (l.map Yl4)
abbrev Ap (l:List Int):AC:=vL (l.map Yl4)
abbrev Aq (l:List Yd):SV:=ll (l.map Ylf)
abbrev Ar (l:List UInt8):AC:=vL (l.map Yml)
abbrev As (l:List YR_):AC:=vL (l.map Ylc)
abbrev Ab.Ob.At (l:List ByteArray):Ob:=.arr true 1 (l.map Ymj)
abbrev Ab.Cell.Au (l:List YS_):Cell:=.list (l.map Yl1)
abbrev Av (l:List UInt8):SV:=ll (l.map Yml)
abbrev Aw (l:List Yc):SV:=ll (l.map Ylo)
abbrev Ax (l:List ByteArray):SV:=ll (l.map Ymj)
abbrev Ab.Ob.y:=Ob.arr true
abbrev Ab.SV.y (n:Nat):SV:=.one (.ptr n 0)
abbrev Ab.SV.r (n:Nat):SV:=.one (.ref n)
abbrev Ab.Cell.y:Cell:=.lit (.slice none 0 0)
abbrev Ab.Orc.g:=Orc.ghost
abbrev Ab.Orc.m (n:Nat):Orc:=.ghost (.move n)
theorem zV {p : Prop} (h : p := by
  with_reducible repeat' (first | apply And.intro | exact zR | (intro; skip))
  all_goals (try simp only [std, inj] at *)
  all_goals with_reducible repeat' apply And.intro
  all_goals (try (first | exact z | grind [Yla, Ylb, Yl5]))) : p := h
theorem zW {p : Prop} (h : p := by
  with_reducible repeat' (first | apply And.intro | exact zR | (intro; skip))
  all_goals (try simp only [std, inj] at *)
  all_goals with_reducible repeat' apply And.intro
  all_goals (try (first | exact z | grind [Yla, Ylb, Yl5, Yl6]))) : p := h
theorem zG {p : Prop} (h : p := by first | exact z | grind [Yla, Ylb, Yl5]) : p := h
theorem z00 {p:Prop}(h:p:=by
 with_reducible repeat' (first|apply ah|exact zR|(intro)|apply Zia|apply Zib|apply Z1|apply Zag|apply Zg|apply Z0|apply Zl|apply Z2|apply Z28|apply Z6n|apply Z29|apply Z6c|apply Z1u|apply Zin|apply Z4m|apply Z3|apply Z3p|apply Zh|apply Z15|apply Z8|apply Z7|apply Zao|apply Z2j|apply Zjh|apply Zjg|apply Za5|apply Z89|apply Z6i|apply Z91|apply Z8a)
 all_goals ((try simp only[std,inj]at *);with_reducible and_intros)
 all_goals try with_reducible first|apply Zia|apply Zib|apply Z1|apply Zag|apply Zg|apply Z0|apply Zl|apply Z2|apply Z28|apply Z6n|apply Z29|apply Z6c|apply Z1u|apply Zin|apply Z4m|apply Z3|apply Z3p|apply Zh|apply Z15|apply Z8|apply Z7|apply Zao|apply Z2j|apply Zjh|apply Zjg|apply Za5|apply Z89|apply Z6i|apply Z91|apply Z8a
 all_goals (try exact zG)):p:=h
theorem z01 {p:Prop}(h:p:=by
 with_reducible repeat' (first|apply ah|exact zR|exact ih|(intro)|apply ih|apply Zh|apply Z1|apply Z2)
 all_goals ((try simp only[std,inj]at *);with_reducible and_intros)
 all_goals try with_reducible first|apply ih|apply Zh|apply Z1|apply Z2
 all_goals try first|exact z|grind[Yl6,Yla,Ylb,Yl5]):p:=h
theorem z02 {p:Prop}(h:p:=by
 with_reducible repeat' (first|apply ah|exact zR|exact ih|(intro))
 all_goals ((try simp only[std,inj]at *);with_reducible and_intros)
 all_goals try with_reducible first|apply ih
 all_goals (try exact zG)):p:=h
theorem z03 {p:Prop}(h:p:=by
 with_reducible repeat' (first|apply ah|exact zR|(intro)|apply Zf8|apply Z7|apply Z0|apply Zgu|apply Zbz|apply Zgv|apply Zgw|apply Zgx|apply Z3s|apply Z5j|apply Zjc|apply Zji|apply Z20|apply Z2)
 all_goals ((try simp only[std,inj]at *);with_reducible and_intros)
 all_goals try with_reducible first|apply Zf8|apply Z7|apply Z0|apply Zgu|apply Zbz|apply Zgv|apply Zgw|apply Zgx|apply Z3s|apply Z5j|apply Zjc|apply Zji|apply Z20|apply Z2
 all_goals try first|exact zw|grind[Yla,Ylb,Yl5]):p:=h
theorem z04 {p:Prop}(h:p:=by
 with_reducible repeat' (first|apply ah|exact zR|(intro))
 all_goals ((try simp only[std,inj]at *);with_reducible and_intros)
 all_goals (try exact zG)
 all_goals rfl):p:=h
theorem z05 {p:Prop}(h:p:=by
 with_reducible repeat' (first|apply ah|exact zR|exact ih|(intro)|apply Zg|apply ih|apply Z0|apply Z5k|apply Z6q)
 all_goals ((try simp only[std,inj]at *);with_reducible and_intros)
 all_goals try first|with_reducible (first|apply Zg|apply ih|apply Z0|apply Z5k|apply Z6q)|(simp only[<- aq];with_reducible first|apply Zg|apply ih|apply Z0|apply Z5k|apply Z6q)
 all_goals try first|exact z|grind[Ylk,Yl6,Yla,Ylb,Yl5,Yl6]):p:=h
theorem z06 {p:Prop}(h:p:=by
 with_reducible repeat' (first|apply ah|exact zR|(intro)|apply Zg|apply Zl|apply Z2|apply Z6n|apply Z29|apply Z3p|apply Zh|apply Z15|apply Za5|apply Z89)
 all_goals ((try simp only[std,inj]at *);with_reducible and_intros)
 all_goals try first|with_reducible (first|apply Zg|apply Zl|apply Z2|apply Z6n|apply Z29|apply Z3p|apply Zh|apply Z15|apply Za5|apply Z89)|(simp only[<- aq];with_reducible first|apply Zg|apply Zl|apply Z2|apply Z6n|apply Z29|apply Z3p|apply Zh|apply Z15|apply Za5|apply Z89)
 all_goals try first|exact z|grind[Ylk,Yla,Ylb,Yl5,Yl6]):p:=h
theorem z07 {p:Prop}(h:p:=by
 with_reducible repeat' (first|apply ah|exact zR|(intro))
 all_goals ((try simp only[std,inj]at *);with_reducible and_intros)
 all_goals try first|exact zw|grind[Yla,Ylb,Yl5]):p:=h
theorem z08 {p:Prop}(h:p:=by
 with_reducible repeat' (first|apply ah|exact zR|(intro))
 all_goals ((try simp only[std,inj]at *);with_reducible and_intros)
 all_goals try first|exact z|grind[Ylk,Yl6,Yla,Ylb,Yl5]):p:=h
theorem z09 {p:Prop}(h:p:=by
 with_reducible repeat' (first|apply ah|exact zR|(intro))
 all_goals ((try simp only[std,inj]at *);with_reducible and_intros)
 all_goals try first|exact z|grind[Yso,Yla,Ylb,Yl5]):p:=h
theorem z0a {p:Prop}(h:p:=by
 with_reducible repeat' (first|apply ah|exact zR|(intro)|apply Z4m|apply Z28|apply Z2|apply Z3|apply Z3p|apply Zh|apply Z15|apply Z7|apply Z0|apply Z1u)
 all_goals ((try simp only[std,inj]at *);with_reducible and_intros)
 all_goals try first|with_reducible (first|apply Z4m|apply Z28|apply Z2|apply Z3|apply Z3p|apply Zh|apply Z15|apply Z7|apply Z0|apply Z1u)|(simp only[<- aq];with_reducible first|apply Z4m|apply Z28|apply Z2|apply Z3|apply Z3p|apply Zh|apply Z15|apply Z7|apply Z0|apply Z1u)
 all_goals (try exact zG)):p:=h
theorem z0b {p:Prop}(h:p:=by
 with_reducible repeat' (first|apply ah|exact zR|exact ih|(intro)|apply ih)
 all_goals ((try simp only[std,inj]at *);with_reducible and_intros)
 all_goals try with_reducible first|apply ih
 all_goals try first|exact z|grind[Y113,Yl6,Yla,Ylb,Yl5]):p:=h
theorem z0c {p:Prop}(h:p:=by
 with_reducible repeat' (first|apply ah|exact zR|exact ih|(intro)|apply ih)
 all_goals ((try simp only[std,inj]at *);with_reducible and_intros)
 all_goals try with_reducible first|apply ih
 all_goals try first|exact z|grind[Ylk,Yl6,Yla,Ylb,Yl5]):p:=h
theorem z0d {p:Prop}(h:p:=by
 with_reducible repeat' (first|apply ah|exact zR|exact ih|(intro)|apply ih)
 all_goals ((try simp only[std,inj]at *);with_reducible and_intros)
 all_goals try with_reducible first|apply ih
 all_goals try first|exact z|grind[Yso,Yl6,Yla,Ylb,Yl5]):p:=h
theorem z0e {p:Prop}(h:p:=by
 with_reducible repeat' (first|apply ah|exact zR|exact ih|(intro))
 all_goals ((try simp only[std,inj]at *);with_reducible and_intros)
 all_goals try with_reducible first|apply ih
 all_goals try first|exact z|grind[Yok,Yla,Ylb,Yl5]):p:=h
theorem z0f {p:Prop}(h:p:=by
 with_reducible repeat' (first|apply ah|exact zR|exact ih|(intro)|apply Zg|apply ih|apply Z0|apply Z5k|apply Z6q)
 all_goals ((try simp only[std,inj]at *);with_reducible and_intros)
 all_goals try with_reducible first|apply Zg|apply ih|apply Z0|apply Z5k|apply Z6q
 all_goals (try exact zG)):p:=h
theorem z0g {p:Prop}(h:p:=by
 with_reducible repeat' (first|apply ah|exact zR|exact ih|(intro)|apply Z0|apply Z9n|apply ih|apply Z9o|apply Z9t)
 all_goals ((try simp only[std,inj]at *);with_reducible and_intros)
 all_goals try first|with_reducible (first|apply Z0|apply Z9n|apply ih|apply Z9o|apply Z9t)|(simp only[<- aq];with_reducible first|apply Z0|apply Z9n|apply ih|apply Z9o|apply Z9t)
 all_goals try first|exact zw|grind[Yl6,Yla,Ylb,Yl5,Yl6]):p:=h
theorem z0h {p:Prop}(h:p:=by
 with_reducible repeat' (first|apply ah|exact zR|exact ih|(intro)|apply Z0|apply Z9n|apply ih|apply Z9o|apply Z9t)
 all_goals ((try simp only[std,inj]at *);with_reducible and_intros)
 all_goals try with_reducible first|apply Z0|apply Z9n|apply ih|apply Z9o|apply Z9t
 all_goals try first|exact zw|grind[Yla,Ylb,Yl5]):p:=h
theorem z0i {p:Prop}(h:p:=by
 with_reducible repeat' (first|apply ah|exact zR|(intro))
 all_goals ((try simp only[std,inj]at *);with_reducible and_intros)
 all_goals try first|exact z|grind[Yqt,Yla,Ylb,Yl5]):p:=h
theorem z0j {p:Prop}(h:p:=by
 with_reducible repeat' (first|apply ah|exact zR|(intro))
 all_goals ((try simp only[std,inj]at *);with_reducible and_intros)
 all_goals try first|exact z|grind[Yox,Yla,Ylb,Yl5]):p:=h
theorem z0k {p:Prop}(h:p:=by
 with_reducible repeat' (first|apply ah|exact zR|(intro))
 all_goals ((try simp only[std,inj]at *);with_reducible and_intros)
 all_goals try first|exact z|grind[Yri,Yla,Ylb,Yl5]):p:=h
theorem z0l {p:Prop}(h:p:=by
 with_reducible repeat' (first|apply ah|exact zR|(intro))
 all_goals ((try simp only[std,inj]at *);with_reducible and_intros)
 all_goals try first|exact z|grind[Yq5,Yla,Ylb,Yl5]):p:=h
theorem z0m {p:Prop}(h:p:=by
 with_reducible repeat' (first|apply ah|exact zR|(intro))
 all_goals ((try simp only[std,inj]at *);with_reducible and_intros)
 all_goals try first|exact z|grind[Ypx,Yla,Ylb,Yl5]):p:=h
theorem z0n {p:Prop}(h:p:=by
 with_reducible repeat' (first|apply ah|exact zR|exact ih|(intro)|apply ih)
 all_goals ((try simp only[std,inj]at *);with_reducible and_intros)
 all_goals try with_reducible first|apply ih
 all_goals try first|exact z|grind[Yy4,Y122,Yl6,Yla,Ylb,Yl5]):p:=h
theorem z0o {p:Prop}(h:p:=by
 with_reducible repeat' (first|apply ah|exact zR|(intro))
 all_goals ((try simp only[std,inj]at *);with_reducible and_intros)
 all_goals try first|exact z|grind[Yo1,Yla,Ylb,Yl5]):p:=h
theorem z0p {p:Prop}(h:p:=by
 with_reducible repeat' (first|apply ah|exact zR|(intro))
 all_goals ((try simp only[std,inj]at *);with_reducible and_intros)
 all_goals try first|exact z|grind[Yns,Yla,Ylb,Yl5]):p:=h
theorem z0q {p:Prop}(h:p:=by
 with_reducible repeat' (first|apply ah|exact zR|(intro))
 all_goals ((try simp only[std,inj]at *);with_reducible and_intros)
 all_goals try first|exact z|grind[Yqg,Yla,Ylb,Yl5]):p:=h
theorem z0r {p:Prop}(h:p:=by
 with_reducible repeat' (first|apply ah|exact zR|(intro))
 all_goals ((try simp only[std,inj]at *);with_reducible and_intros)
 all_goals try first|exact z|grind[Ylj,Y1lg,Yla,Ylb,Yl5]):p:=h
theorem z0s {p:Prop}(h:p:=by
 with_reducible repeat' (first|apply ah|exact zR|(intro))
 all_goals ((try simp only[std,inj]at *);with_reducible and_intros)
 all_goals try first|exact z|grind[Yok,Yla,Ylb,Yl5]):p:=h
theorem z0t {p:Prop}(h:p:=by
 with_reducible repeat' (first|apply ah|exact zR|(intro)|apply Zbo|apply Zf|apply Zad)
 all_goals ((try simp only[std,inj]at *);with_reducible and_intros)
 all_goals try with_reducible first|apply Zbo|apply Zf|apply Zad
 all_goals try first|exact z|grind[Ylk,Ypz,Yl6,Yla,Ylb,Yl5]):p:=h
theorem z0u {p:Prop}(h:p:=by
 with_reducible repeat' (first|apply ah|exact zR|exact ih|(intro)|apply Zh|apply ih|apply Z1|apply Z2)
 all_goals ((try simp only[std,inj]at *);with_reducible and_intros)
 all_goals try first|with_reducible (first|apply Zh|apply ih|apply Z1|apply Z2)|(simp only[<- aq];with_reducible first|apply Zh|apply ih|apply Z1|apply Z2)
 all_goals (try exact zG)):p:=h
theorem z0v {p:Prop}(h:p:=by
 with_reducible repeat' (first|apply ah|exact zR|(intro)|apply Zah|apply Zaf|apply Z8e|apply Z1|apply Z3o|apply Zbr|apply Z8f)
 all_goals ((try simp only[std,inj]at *);with_reducible and_intros)
 all_goals try with_reducible first|apply Zah|apply Zaf|apply Z8e|apply Z1|apply Z3o|apply Zbr|apply Z8f
 all_goals try first|exact z|grind[clT,clP,tlY,Yl6,Yla,Ylb,Yl5]):p:=h
theorem z0w {p:Prop}(h:p:=by
 with_reducible repeat' (first|apply ah|exact zR|(intro)|apply Zah|apply Zaf|apply Z8e|apply Z1|apply Z3o|apply Zbr|apply Z8f)
 all_goals ((try simp only[std,inj]at *);with_reducible and_intros)
 all_goals try with_reducible first|apply Zah|apply Zaf|apply Z8e|apply Z1|apply Z3o|apply Zbr|apply Z8f
 all_goals try first|exact z|grind[Ymr,Yru,clN,Yla,Ylb,Yl5]):p:=h
theorem z0x {p:Prop}(h:p:=by
 with_reducible repeat' (first|apply ah|exact zR|(intro)|apply mIc|apply mOc|apply mSc|apply mLc)
 all_goals ((try simp only[std,inj]at *);with_reducible and_intros)
 all_goals try first|exact z|exact zM|grind[Ylk,Yni,clB,Yl6,Yok,Yla,Ylb,Yl5]):p:=h
theorem z0y {p:Prop}(h:p:=by
 with_reducible repeat' (first|apply ah|exact zR|(intro)|apply mIc|apply mOc|apply mSc|apply mLc)
 all_goals ((try simp only[std,inj]at *);with_reducible and_intros)
 all_goals try first|exact z|exact zM|grind[Yni,Yla,Ylb,Yl5]):p:=h
theorem z0z {p:Prop}(h:p:=by
 with_reducible repeat' (first|apply ah|exact zR|(intro)|apply mIc|apply mOc|apply mSc|apply mLc|apply Z3)
 all_goals ((try simp only[std,inj]at *);with_reducible and_intros)
 all_goals try with_reducible first|apply mIc|apply mOc|apply mSc|apply mLc|apply Z3
 all_goals try first|exact z|exact zM|grind[Yl6,Yla,Ylb,Yl5]):p:=h
theorem z10 {p:Prop}(h:p:=by
 with_reducible repeat' (first|apply ah|exact zR|(intro))
 all_goals ((try simp only[std,inj]at *);with_reducible and_intros)
 all_goals try first|exact z|grind[cdF,Yla,Ylb,Yl5]):p:=h
theorem z11 {p:Prop}(h:p:=by
 with_reducible repeat' (first|apply ah|exact zR|(intro))
 all_goals ((try simp only[std,inj]at *);with_reducible and_intros)
 all_goals try first|exact z|grind[Ylk,Yl6,Yp8,Yla,Ylb,Yl5]):p:=h
theorem z12 {p:Prop}(h:p:=by
 with_reducible repeat' (first|apply ah|exact zR|(intro))
 all_goals ((try simp only[std,inj]at *);with_reducible and_intros)
 all_goals try first|exact z|grind[Yp8,Yla,Ylb,Yl5]):p:=h
theorem z13 {p:Prop}(h:p:=by
 with_reducible repeat' (first|apply ah|exact zR|(intro)|apply Zl)
 all_goals ((try simp only[std,inj]at *);with_reducible and_intros)
 all_goals try with_reducible first|apply Zl
 all_goals try first|exact z|grind[Ys0,Yok,Yla,Ylb,Yl5]):p:=h
theorem z14 {p:Prop}(h:p:=by
 with_reducible repeat' (first|apply ah|exact zR|(intro)|apply Z8h|apply Zy|apply Zc1)
 all_goals ((try simp only[std,inj]at *);with_reducible and_intros)
 all_goals try with_reducible first|apply Z8h|apply Zy|apply Zc1
 all_goals try first|exact zw|grind[xsB,Yla,Ylb,Yl5]
 all_goals (try (exact Y1jb oW))):p:=h
theorem z15 {p:Prop}(h:p:=by
 with_reducible repeat' (first|apply ah|exact zR|(intro)|apply Z8h|apply Zy|apply Zc1)
 all_goals ((try simp only[std,inj]at *);with_reducible and_intros)
 all_goals try with_reducible first|apply Z8h|apply Zy|apply Zc1
 all_goals try first|exact zw|grind[xsB,Yla,Ylb,Yl5]):p:=h
theorem z16 {p:Prop}(h:p:=by
 with_reducible repeat' (first|apply ah|exact zR|(intro)|apply Za|apply Ze|apply Z5j|apply Z20|apply Z2)
 all_goals ((try simp only[std,inj]at *);with_reducible and_intros)
 all_goals try first|with_reducible (first|apply Za|apply Ze|apply Z5j|apply Z20|apply Z2)|(simp only[<- aq];with_reducible first|apply Za|apply Ze|apply Z5j|apply Z20|apply Z2)
 all_goals try first|exact zw|grind[Yla,Ylb,Yl5]):p:=h
theorem z17 {p:Prop}(h:p:=by
 with_reducible repeat' (first|apply ah|exact zR|exact ih|(intro))
 all_goals ((try simp only[std,inj]at *);with_reducible and_intros)
 all_goals try first|with_reducible (first|apply ih)|(simp only[<- aq];with_reducible first|apply ih)
 all_goals try first|exact zw|grind[Yla,Ylb,Yl5]):p:=h
theorem z18 {p:Prop}(h:p:=by
 with_reducible repeat' (first|apply ah|exact zR|(intro)|apply Z3)
 all_goals ((try simp only[std,inj]at *);with_reducible and_intros)
 all_goals try with_reducible first|apply Z3
 all_goals try first|exact z|grind[Yl6,Yla,Ylb,Yl5]):p:=h
theorem z19 {p:Prop}(h:p:=by
 with_reducible repeat' (first|apply ah|exact zR|(intro)|apply Zbh|apply Z9k|apply Zcu|apply Zct)
 all_goals ((try simp only[std,inj]at *);with_reducible and_intros)
 all_goals try first|with_reducible (first|apply Zbh|apply Z9k|apply Zcu|apply Zct)|(simp only[<- aq];with_reducible first|apply Zbh|apply Z9k|apply Zcu|apply Zct)
 all_goals try first|exact z|grind[bmL,Yla,Ylb,Yl5]):p:=h
end Go.Proofs.YtcbodhkhppgkiaaGreat
end
set_option maxHeartbeats 4000000
set_option linter.unusedVariables false
set_option linter.unusedSimpArgs false
section
namespace Go.Proofs.YtcbodhkhppgkiaaGreat
open Go Ab Proofs.Tryz
section
theorem Y10v {L:List UInt8}{p:UInt8->Bool}{k:Nat}(h:k<L.length) (hp:p (L.getD k 0)=false):L.all p=false:=by
 rw[bW]
 have e:L.getD k 0=L[k]:=by simp[h]
 exact⟨L[k],dh h,by rw[<- e,hp];decide⟩
theorem Y18n {L:List UInt8}{p:UInt8->Bool}{k:Nat}(h:k<L.length) (hp:p (L.getD k 0)) (ht:(L.take k).all p):(L.take (k+1)).all p:=by
 rw[Y23v h,cA,ht,dD,hp];rfl
theorem Y13m {L:List UInt8}{p:UInt8->Bool}{k:Nat}(h:L.length<=k) (ht:(L.take k).all p):L.all p:=by
 rwa [ar h]at ht
def lu (n:Int):SV:=.one (.val (.lit (.int .u8 n)))
def Yqt (n:Int):Bool:=decide (48<=n/\n<=57)
def Yv8:List Int:=[33,63,42,60,62,61,47,43,45,46,95]
def Yr7 (n:Int):Bool:=decide (97<=n/\n<=122)||Yqt n||decide (n∈Yv8)
theorem Y1xd {k:Nat}(h:k<11):((([33,63,42,60,62,61,47,43,45,46,95]:List UInt8).getD k 0).toNat:Int)=Yv8.g k:=by
 have:∀ k,k<11->((([33,63,42,60,62,61,47,43,45,46,95]:List UInt8).getD k 0).toNat:Int)=Yv8.g k:=by decide
 exact this k h
def Yri (n:Int):Bool:=decide (32<=n/\n<=126/\n≠34)
def Yox (s:ByteArray):Bool:=decide (1<=(s.size:Int)/\(s.size:Int)<=16) && !Yqt (s.data.toList.getD 0 0).toNat && !(decide (((s.data.toList.getD 0 0).toNat:Int)=45)&&decide (1<(s.size:Int))&&Yqt (s.data.toList.getD 1 0).toNat)&&s.data.toList.all λb=>Yr7 b.toNat
def Yq5 (s:ByteArray):Bool:=decide ((s.size:Int)<=20)&&s.data.toList.all λb=>Yri b.toNat
abbrev Zbl (n:Int):Ct:=⟨182,[],[lu n],[],.sv (lb (Yqt n))⟩
theorem Z8b (n:Int):Zbl n:=Ylh call182 func182 (.i (48<=n) (.s (lb (decide (n<=57)))) (.s (lb false))) (by
 dsimp only[Yl3,Zbl]
 exact z0i)
abbrev Zbm (n:Int):Ct:=⟨177,[],[lu n],[],.sv (lb (Yqt n))⟩
theorem Zed (n:Int):Zbm n:=Ylh call177 func177 (.i (48<=n) (.s (lb (decide (n<=57)))) (.s (lb false))) (by
 dsimp only[Yl3,Zbm]
 exact z0i)
abbrev Zcw (n:Int):Ct:=⟨183,[],[lu n],[],.sv (lb (Yr7 n))⟩
def Z5o (n:Int):Lp Nat:=.mk 26 0 (λx=>[(0,.one (.val (.lit (.int .u8 n)))),(3,ls (mkS [33,63,42,60,62,61,47,43,45,46,95])),(4,hs x 0)]) (λx=>[]) (λk=>[.s (li k)]) (λk=>k<=11/\¬n∈Yv8.take k) (λk=>11 - k) [.mk (decide (n∈Yv8)=false) (.exit 0) (λx=>[]) (λx=>[]) [],.mk (decide (n∈Yv8)) .ret (λx=>[(2,hs x 0)]) (λx=>[]) [.s (lb true)]]
theorem Zh1 (n:Int):Lp.Sem prog (Yli f183 0) (Z5o n):=Ylp (λk=>.h (11<=9223372036854775807) (.i ((k:Int)<11) (.p (0<=(k:Int)/\(k:Int).toNat<11) (.i ((↑([(33:UInt8),(63:UInt8),(42:UInt8),(60:UInt8),(62:UInt8),(61:UInt8),(47:UInt8),(43:UInt8),(45:UInt8),(46:UInt8),(95:UInt8)].getD (k:Int).toNat (0:UInt8)).toNat:Int)=n) (.o 1 [] [.s (lb true)]) (.r ((k:Int)+1) (.g [] (k+1) [.s (li ((k:Int)+1))])))) (.o 0 [] []))) (by
 intro k h;try dsimp only[Yl3,Yle,Z5o]at h|-
 have g:=@Y1xd k
 have e:Yv8.length=11:=rfl
 have e2:Yv8.take 11=Yv8:=rfl
 exact z08)
theorem Zkc (n:Int):Zcw n:=Ylh call183 func183 (let v1:Tq _ _:=.c [.rd] (Z8b n) (.b (Yqt n) (.s (lb true)) (.l (Z5o n) (Zh1 n) [] [.s (li 0)] 0 (.t (.s (lb false)) (.t (.s (lb true)) .q))));.i (97<=n) (.i (n<=122) (.y true (.s (lb true))) v1) (.y false v1)) (by
 dsimp only[Yl3,Zcw,Yle,Z5o]
 with_reducible repeat' (first|apply ah|exact zR|(intro))
 all_goals ((try simp only[std,inj]at *);with_reducible and_intros)
 all_goals try first|exact z|grind[Yr7,Yla,Ylb,Yl5])
abbrev Zcx (n:Int):Ct:=⟨178,[],[lu n],[],.sv (lb (Yr7 n))⟩
theorem Zkd (n:Int):Zcx n:=Ylh call178 func178 (let v2:Tq _ _:=.y true (.s (lb true));let v1:Tq _ _:=.i (n=33) v2 (.i (n=63) v2 (.i (n=42) v2 (.i (n=60) v2 (.i (n=62) v2 (.i (n=61) v2 (.i (n=47) v2 (.i (n=43) v2 (.i (n=45) v2 (.i (n=46) v2 (.i (n=95) (.s (lb true)) (.s (lb false))))))))))));let v3:Tq _ _:=.i (48<=n) (.i (n<=57) (.s (lb true)) v1) (.y false v1);.i (97<=n) (.i (n<=122) v2 v3) (.y false v3)) (by
 dsimp only[Yl3,Zcx]
 with_reducible repeat' (first|apply ah|exact zR|(intro))
 all_goals ((try simp only[std,inj]at *);with_reducible and_intros)
 all_goals (try exact zG)
 all_goals (symm;simp only[Yr7,Yqt,Yv8,aB,cV,aF,bp,ak,aM,or_false];omega))
abbrev Zee (x:Int) (a:Int) (b:Int):Ct:=⟨113,[],[li x,li a,li b],[],.sv (lb (decide (a<=x/\x<=b)))⟩
theorem Z6j (x a b:Int):Zee x a b:=Ylh call113 func113 (.i (a<=x) (.s (lb (decide (x<=b)))) (.s (lb false))) (by
 dsimp only[Yl3,Zee]
 exact zV)
abbrev Z92 (s:ByteArray):Ct:=⟨144,[],[ls s],[],.sv (lb (Yox s))⟩
def Z2l (s:ByteArray):Lp Nat:=.mk 39 0 (λx=>[(0,ls s),(3,hs x 0)]) (λx=>[]) (λk=>[.s (li k)]) (λk=>k<=s.size/\s.size<=16/\((s.data.toList.take k).all λb=>Yr7 (b.toNat:Int))=true) (λk=>s.size - k) [.mk ((s.data.toList.all λb=>Yr7 (b.toNat:Int))=true) (.exit 0) (λx=>[]) (λx=>[]) [],.mk ((s.data.toList.all λb=>Yr7 (b.toNat:Int))=false) .ret (λx=>[(2,hs x 0)]) (λx=>[]) [.s (lb false)]]
theorem Zcd (s:ByteArray):Lp.Sem prog (Yli f144 0) (Z2l s):=Ylp (λk=>let v1:=(↑(s.data.toList.getD (k:Int).toNat (0:UInt8)).toNat:Int);.h (s.data.toList.length<=9223372036854775807) (.i ((k:Int)<(s.data.toList.length:Int)) (.p (0<=(k:Int)/\(k:Int).toNat<s.data.toList.length) (.c [.rd] (Zkc v1) (.b (!Yr7 v1) (.o 1 [] [.s (lb false)]) (.r ((k:Int)+1) (.g [] (k+1) [.s (li ((k:Int)+1))]))))) (.o 0 [] []))) (by
 intro k h;try dsimp only[Yl3,Yle,Z2l]at h|-
 have g1:=@Y10v s.data.toList (λb=>Yr7 b.toNat) k
 have g2:=@Y18n s.data.toList (λb=>Yr7 b.toNat) k
 have g3:=@Y13m s.data.toList (λb=>Yr7 b.toNat) k
 exact zV)
theorem Z4s (s:ByteArray):Z92 s:=Ylh call144 func144 (let v1:Tq _ _:=.l (Z2l s) (Zcd s) [] [.s (li 0)] 0 (.t (.s (lb true)) (.t (.s (lb false)) .q));let v2:=(↑(s.data.toList.getD 0 (0:UInt8)).toNat:Int);let v3:=(↑(s.data.toList.getD 1 (0:UInt8)).toNat:Int);let v4:=s.data.toList.length<=9223372036854775807;let v5:=(0:Int)<=0/\0<s.data.toList.length;.h v4 (.c [.rd,.rd,.rd] (Z6j (s.data.toList.length:Int) 1 16) (.b (!decide (1<=(s.data.toList.length:Int)/\(s.data.toList.length:Int)<=16)) (.y true (.y true (.s (lb false)))) (.p v5 (.c [.rd] (Z8b v2) (.b (Yqt v2) (.y true (.s (lb false))) (.p v5 (.i (v2=45) (.h v4 (.i (1<(s.data.toList.length:Int)) (.p ((0:Int)<=1/\1<s.data.toList.length) (.c [.rd] (Z8b v3) (.b (Yqt v3) (.s (lb false)) v1))) (.y false v1))) (.y false (.y false v1)))))))))) (by
 dsimp only[Yl3,Z92,Yle,Z2l]
 exact z0j)
abbrev Z93 (s:ByteArray):Ct:=⟨137,[],[ls s],[],.sv (lb (Yox s))⟩
def Z2m (s:ByteArray):Lp Nat:=.mk 43 0 (λx=>[(0,ls s),(3,hs x 0)]) (λx=>[]) (λk=>[.s (li k)]) (λk=>k<=s.size/\s.size<=16/\((s.data.toList.take k).all λb=>Yr7 (b.toNat:Int))=true) (λk=>s.size - k) [.mk ((s.data.toList.all λb=>Yr7 (b.toNat:Int))=true) (.exit 0) (λx=>[]) (λx=>[]) [],.mk ((s.data.toList.all λb=>Yr7 (b.toNat:Int))=false) .ret (λx=>[(2,hs x 0)]) (λx=>[]) [.s (lb false)]]
theorem Zce (s:ByteArray):Lp.Sem prog (Yli f137 0) (Z2m s):=Ylp (λk=>let v1:=(↑(s.data.toList.getD (k:Int).toNat (0:UInt8)).toNat:Int);.h (s.data.toList.length<=9223372036854775807) (.i ((k:Int)<(s.data.toList.length:Int)) (.p (0<=(k:Int)/\(k:Int).toNat<s.data.toList.length) (.c [.rd] (Zkd v1) (.b (!Yr7 v1) (.o 1 [] [.s (lb false)]) (.r ((k:Int)+1) (.g [] (k+1) [.s (li ((k:Int)+1))]))))) (.o 0 [] []))) (by
 intro k h;try dsimp only[Yl3,Yle,Z2m]at h|-
 have g1:=@Y10v s.data.toList (λb=>Yr7 b.toNat) k
 have g2:=@Y18n s.data.toList (λb=>Yr7 b.toNat) k
 have g3:=@Y13m s.data.toList (λb=>Yr7 b.toNat) k
 exact zV)
theorem Z4t (s:ByteArray):Z93 s:=Ylh call137 func137 (let v1:Tq _ _:=.l (Z2m s) (Zce s) [] [.s (li 0)] 0 (.t (.s (lb true)) (.t (.s (lb false)) .q));let v2:=(↑(s.data.toList.getD 0 (0:UInt8)).toNat:Int);let v3:=s.data.toList.length<=9223372036854775807;let v4:=(↑(s.data.toList.getD 1 (0:UInt8)).toNat:Int);let v5:=(0:Int)<=0/\0<s.data.toList.length;let v6:Tq _ _:=.y true (.s (lb false));.h v3 (.i ((s.data.toList.length:Int)<1) (.y true (.y true v6)) (.h v3 (.i (16<(s.data.toList.length:Int)) (.y true v6) (.p v5 (.c [.rd] (Zed v2) (.b (Yqt v2) v6 (.p v5 (.i (v2=45) (.h v3 (.i (1<(s.data.toList.length:Int)) (.p ((0:Int)<=1/\1<s.data.toList.length) (.c [.rd] (Zed v4) (.b (Yqt v4) (.s (lb false)) v1))) (.y false v1))) (.y false (.y false v1))))))))))) (by
 dsimp only[Yl3,Z93,Yle,Z2m]
 exact z0j)
abbrev Zat (s:ByteArray):Ct:=⟨100,[],[ls s],[],.sv (lb (Yq5 s))⟩
def Z3t (s:ByteArray):Lp Nat:=.mk 29 0 (λx=>[(0,ls s),(3,hs x 0)]) (λx=>[]) (λk=>[.s (li k)]) (λk=>k<=s.size/\((s.data.toList.take k).all λb=>Yri (b.toNat:Int))=true) (λk=>s.size - k) [.mk ((s.data.toList.all λb=>Yri (b.toNat:Int))=true) (.exit 0) (λx=>[(0,ls s)]) (λx=>[]) [],.mk ((s.data.toList.all λb=>Yri (b.toNat:Int))=false) .ret (λx=>[(2,hs x 0)]) (λx=>[]) [.s (lb false)]]
theorem Zef (s:ByteArray):Lp.Sem prog (Yli f100 0) (Z3t s):=Ylp (λk=>let v1:=(↑(s.data.toList.getD (k:Int).toNat (0:UInt8)).toNat:Int);let v2:=0<=(k:Int)/\(k:Int).toNat<s.data.toList.length;.h (s.data.toList.length<=9223372036854775807) (.i ((k:Int)<(s.data.toList.length:Int)) (.p v2 (.i (v1<32) (.y true (.y true (.o 1 [] [.s (lb false)]))) (.p v2 (.i (126<v1) (.y true (.o 1 [] [.s (lb false)])) (.p v2 (.i (v1=34) (.o 1 [] [.s (lb false)]) (.r ((k:Int)+1) (.g [] (k+1) [.s (li ((k:Int)+1))])))))))) (.o 0 [] []))) (by
 intro k h;try dsimp only[Yl3,Yle,Z3t]at h|-
 have g1:=@Y10v s.data.toList (λb=>Yri b.toNat) k
 have g2:=@Y18n s.data.toList (λb=>Yri b.toNat) k
 have g3:=@Y13m s.data.toList (λb=>Yri b.toNat) k
 exact z0k)
theorem Z73 (s:ByteArray):Zat s:=Ylh call100 func100 (.l (Z3t s) (Zef s) [] [.s (li 0)] 0 (.t (.h (s.data.toList.length<=9223372036854775807) (.s (lb (decide ((s.data.toList.length:Int)<=20))))) (.t (.s (lb false)) .q))) (by
 dsimp only[Yl3,Zat,Yle,Z3t]
 exact z0l)
abbrev Zau (s:ByteArray):Ct:=⟨196,[],[ls s],[],.sv (lb (Yq5 s))⟩
def Z3u (s:ByteArray):Lp Nat:=.mk 29 0 (λx=>[(0,ls s),(3,hs x 0)]) (λx=>[]) (λk=>[.s (li k)]) (λk=>k<=s.size/\((s.data.toList.take k).all λb=>Yri (b.toNat:Int))=true) (λk=>s.size - k) [.mk ((s.data.toList.all λb=>Yri (b.toNat:Int))=true) (.exit 0) (λx=>[]) (λx=>[]) [],.mk ((s.data.toList.all λb=>Yri (b.toNat:Int))=false) .ret (λx=>[(2,hs x 0)]) (λx=>[]) [.s (lb false)]]
theorem Zeg (s:ByteArray):Lp.Sem prog (Yli f196 0) (Z3u s):=Ylp (λk=>let v1:=(↑(s.data.toList.getD (k:Int).toNat (0:UInt8)).toNat:Int);let v2:=0<=(k:Int)/\(k:Int).toNat<s.data.toList.length;.h (s.data.toList.length<=9223372036854775807) (.i ((k:Int)<(s.data.toList.length:Int)) (.p v2 (.i (v1<32) (.y true (.y true (.o 1 [] [.s (lb false)]))) (.p v2 (.i (126<v1) (.y true (.o 1 [] [.s (lb false)])) (.p v2 (.i (v1=34) (.o 1 [] [.s (lb false)]) (.r ((k:Int)+1) (.g [] (k+1) [.s (li ((k:Int)+1))])))))))) (.o 0 [] []))) (by
 intro k h;try dsimp only[Yl3,Yle,Z3u]at h|-
 have g1:=@Y10v s.data.toList (λb=>Yri b.toNat) k
 have g2:=@Y18n s.data.toList (λb=>Yri b.toNat) k
 have g3:=@Y13m s.data.toList (λb=>Yri b.toNat) k
 exact z0k)
theorem Zhy (s:ByteArray):Zau s:=Ylh call196 func196 (.h (s.data.toList.length<=9223372036854775807) (.i (20<(s.data.toList.length:Int)) (.s (lb false)) (.l (Z3u s) (Zeg s) [] [.s (li 0)] 0 (.t (.s (lb true)) (.t (.s (lb false)) .q))))) (by
 dsimp only[Yl3,Zau,Yle,Z3u]
 exact z0l)
def Y23l (s:ByteArray):Bool:=Yox s&&decide ((s.size:Int)<=8)
def Ypx (k n:Int) (t:ByteArray) (i:Int):Bool:=decide (k=0/\n=0/\t.data.toList=[])||decide (k=1/\n=0/\Yox t/\i=0)||decide (k=2 /\ -999999999<=n/\n<=999999999/\t.data.toList=[]/\i=0)||decide (k=3/\0<=n/\n<=1/\t.data.toList=[]/\i=0)||decide (k=4/\n=0/\Yq5 t/\i=0)
abbrev Zcy (k:Int) (n:Int) (t:ByteArray) (i:Int):Ct:=⟨111,[],[li k,li n,ls t,li i],[],.sv (lb (Ypx k n t i))⟩
theorem Zge (k n:Int) (t:ByteArray) (i:Int):Zcy k n t i:=Ylh call111 func111 (let v4:=lb false;let v1:Tq _ _:=.y false (.s v4);let v3:=lb (decide (i=0));let v2:Tq _ _:=.i (t.data.toList=[]) (.s v3) (.s v4);.i (k=0) (.i (n=0) (.s (lb (decide (t.data.toList=[])))) (.s v4)) (.i (k=1) (.i (n=0) (.c [.rd] (Z4s t) (.b (Yox t) (.s v3) (.s v4))) v1) (.i (k=2) (.c [.rd,.rd,.rd] (Z6j n (-999999999:Int) 999999999) (.i ((-999999999:Int)<=n/\n<=999999999) v2 v1)) (.i (k=3) (.c [.rd,.rd,.rd] (Z6j n 0 1) (.i (0<=n/\n<=1) v2 v1)) (.i (k=4) (.i (n=0) (.c [.rd] (Z73 t) (.b (Yq5 t) (.s v3) (.s v4))) v1) (.s v4)))))) (by
 dsimp only[Yl3,Zcy]
 exact z0m)
abbrev Zcz (k:Int) (n:Int) (t:ByteArray) (i:Int):Ct:=⟨160,[],[li k,li n,ls t,li i],[],.sv (lb (Ypx k n t i))⟩
theorem Zgf (k n:Int) (t:ByteArray) (i:Int):Zcz k n t i:=Ylh call160 func160 (let v3:=lb false;let v1:Tq _ _:=.i (t.data.toList=[]) (.s (lb (decide (i=0)))) (.s v3);let v2:Tq _ _:=.y false (.s v3);.i (k=0) (.i (n=0) (.s (lb (decide (t.data.toList=[])))) (.s v3)) (.i (k=1) (.i (n=0) (.i (i=0) (.c [.rd] (Z4t t) (.s (lb (Yox t)))) (.s v3)) v2) (.i (k=2) (.i ((-999999999:Int)<=n) (.i (n<=999999999) v1 v2) (.y false v2)) (.i (k=3) (.i (n=0) (.y true v1) (.i (n=1) v1 v2)) (.i (k=4) (.i (n=0) (.i (i=0) (.c [.rd] (Zhy t) (.s (lb (Yq5 t)))) (.s v3)) v2) (.s v3)))))) (by
 dsimp only[Yl3,Zcz]
 exact z0m)
mutual
def sizeD:Yd->Nat
 | ⟨_,_,_,l⟩=>Y12e l+1
def Y12e:List Yd->Nat
 | []=>0
 | c :: r=>sizeD c+Y12e r
end
theorem Y1ap:∀ l,Y12e l=sumBy sizeD l
 | []=>by simp[Y12e,sumBy]
 | c :: r=>by rw[Y12e,sumBy,Y1ap r]
theorem Ypj (c:Yd):sizeD c=sumBy sizeD c.Ia+1:=by cases c;simp only[sizeD,Y1ap]
mutual
def Yrs:Yd->Nat
 | ⟨_,_,_,l⟩=>Y16o l+1
def Y16o:List Yd->Nat
 | []=>0
 | c :: r=>max (Yrs c) (Y16o r)
end
theorem Y1cr:∀ l,Y16o l=Yma Yrs l
 | []=>by simp[Y16o,Yma]
 | c :: r=>by rw[Y16o,Yma,Y1cr r]
theorem Y13z (c:Yd):Yrs c=Yma Yrs c.Ia+1:=by cases c;simp only[Yrs,Y1cr]
theorem Y1ye:∀ c:Yd,Yrs c<=sizeD c:=by
 refine Yd.ind λc ih => ?_
 have:=Yy6 ih
 rw[Ypj,Y13z];omega
mutual
def okD:Yd->Bool
 | ⟨k,n,t,l⟩=>Y1f4 l&&Ypx k n t l.length
def Y1f4:List Yd->Bool
 | []=>true
 | c :: r=>okD c&&Y1f4 r
end
theorem Y1kq:∀ l,Y1f4 l=l.all okD
 | []=>by simp[Y1f4]
 | c :: r=>by rw[Y1f4,Y1kq r];rfl
theorem Y18b (c:Yd):okD c=(c.Ia.all okD&&Ypx c.Ka c.Na c.Ta c.Ia.length):=by cases c;simp only[okD,Y1kq]
def Ynp (d:Yd):Bool:=decide (sizeD d<=600)&&decide (Yrs d<=20)&&okD d
mutual
def Yog:Yd->Int->Int->Bool×Int
 | ⟨k,n,t,l⟩,deep,m=>if deep<=20/\m+1<=600/\Ypx k n t l.length then Y189 l (deep+1) (m+1) else (false,m+1)
def Y189:List Yd->Int->Int->Bool×Int
 | [],_,m=>(true,m)
 | x :: r,deep,m=>if (Yog x deep m).1 then Y189 r deep (Yog x deep m).2 else (false,(Yog x deep m).2)
end
theorem Y1h0:∀ l deep m,Y189 l deep m=Ylx (λx m=>Yog x deep m) l m
 | [],_,_=>by simp[Y189,Ylx]
 | x :: r,deep,m=>by simp only[Y189,Ylx,Y1h0 r]
theorem Y1iu (c:Yd) (deep m:Int):Yog c deep m=if deep<=20/\m+1<=600/\Ypx c.Ka c.Na c.Ta c.Ia.length then Ylx (λx m=>Yog x (deep+1) m) c.Ia (m+1) else (false,m+1):=by cases c;simp only[Yog,Y1h0]
theorem Y1kr:∀ (c:Yd) (deep m:Int),m<=600->((Yog c deep m).1 ↔ (m+sizeD c<=600/\(deep+Yrs c<=21/\okD c)))/\((Yog c deep m).1->(Yog c deep m).2=m+sizeD c):=by
 refine Yd.ind λc ih deep m hm => ?_
 rw[Y1iu,Ypj,Y13z,Y18b,af,am]
 by_cases h:deep<=20/\m+1<=600/\Ypx c.Ka c.Na c.Ta c.Ia.length
 ·rw[ae h]
  have h1:=Y140 (λx m=>Yog x (deep+1) m) sizeD (λx=>deep+1+Yrs x<=21/\okD x) 600 c.Ia (λx hx m hm=>ih x hx (deep+1) m hm) (m+1) h.2.1
  have h2:=Y10s Yrs (m:=(20 - deep).toNat) (L:=c.Ia)
  constructor
  ·rw[h1.1]
   constructor
   ·rintro⟨a,b⟩
    have:=h2.2 λx hx=>by have:=(b x hx).1;omega
    exact⟨by omega,by omega,λx hx=>(b x hx).2,h.2.2⟩
   ·rintro⟨a,b,d,e⟩
    have:=h2.1 oW
    exact⟨by omega,λx hx=>⟨by have:=this x hx;omega,d x hx⟩⟩
  ·intro ht;rw[h1.2 ht];omega
 ·rw[ab h]
  refine⟨⟨λe=>Bool.noConfusion e,?_⟩,λe=>Bool.noConfusion e⟩
  rintro⟨a,b,d,e⟩
  exact absurd ⟨by omega,by omega,e⟩ h
theorem Y1n1 (d:Yd):(Yog d 1 0).1=Ynp d:=by
 have h:=(Y1kr d 1 0 dW).1
 rw[cp,h]
 simp only[Ynp,af,ak,dv]
 constructor
 ·rintro⟨a,b,e⟩;exact⟨by omega,by omega,e⟩
 ·rintro⟨a,b,e⟩;exact⟨by omega,by omega,e⟩
abbrev Z1h (d:Yd) (l:Int):Ct:=⟨52,[.box [vI l]],[Yq0 d,.y 0],[.box [vI (max (l - sizeD d) (-1))]],.sv (lb (decide (sizeD d<=l)))⟩
def Z3v (d:Yd) (l:Int):Lp Nat:=.mk 36 1 (λx=>[(1,.y 0),(2,.y 1),(5,hs x 0)]) (λx=>[.box [ha x 1],.box (vals (Ym1 d))]) (λk=>[.s (li k),.a (vI (max (l - 1 - (↑(sumBy sizeD (d.Ia.take k)):Int)) (-1:Int)))]) (λk=>d.Ia.length >= k) (λk=>d.Ia.length - k) [.mk True (.exit 0) (λx=>[(1,.y 0)]) (λx=>[.box [ha x 0]]) [.a (vI (max (l - (↑(sizeD d):Int)) (-1:Int)))]]
theorem Zeh (d:Yd) (l:Int) (h:0<=l/\l<=1000000) (ih:∀ (z:Yd),z∈d.Ia->∀ (l:Int),0<=l/\l<=1000000->OK (Z1h z l)):Lp.Sem prog (Yli f52 0) (Z3v d l):=Ylp (λk=>let v1:=l - 1 - (↑(sumBy sizeD (d.Ia.take k)):Int);let v2:=d.Ia.g k;let v3:=(-1:Int);.z Ylf d.Ia (.i ((k:Int)<(d.Ia.map Ylf).length) (.i (0<=max v1 v3) (.x (k:Int) (d.Ia.map Ylf) (Ym1 v2) (.d [.rd,.ptr] (Z1h v2 (max v1 v3)) (.r ((k:Int)+1) (.g [0,1] (k+1) [.s (li ((k:Int)+1)),.a (vI (max (max v1 v3 - (↑(sizeD v2):Int)) v3))])))) (.o 0 [0] [.a (vI (max v1 v3))])) (.y false (.o 0 [0] [.a (vI (max v1 v3))])))) (by
 intro k h;try dsimp only[Yl3,Yle,Z3v]at h|-
 have g1:=Ypj d
 have g2:=Ymu sizeD d.Ia k
 have g3:=@Yom _ _ sizeD d.Ia k
 exact z01)
theorem Zhz (d:Yd) (l:Int) (h:0<=l/\l<=1000000) (ih:∀ z∈d.Ia,∀ (l:Int) (h:0<=l/\l<=1000000),Z1h z l):Z1h d l:=Ylh call52 func52 (.r (l - 1) (.l (Z3v d l) (Zeh d l h ih) [0,1] [.s (li 0),.a (vI (l - 1))] 0 (.t (.f [] [.box [vI (max (l - (↑(sizeD d):Int)) (-1:Int))]] (.sv (lb (decide (0<=max (l - (↑(sizeD d):Int)) (-1:Int)))))) .q))) (by
 dsimp only[Yl3,Z1h,Yle,Z3v]
 have g1:=Ypj d
 have g2:sumBy sizeD (d.Ia.take 0)=0:=rfl
 exact z02)
theorem Zgg (d:Yd):∀ (l:Int) (h:0<=l/\l<=1000000),Z1h d l:=Yd.ind (P:=λd=>∀ (l:Int) (h:0<=l/\l<=1000000),Z1h d l) (λd ih l h=>Zhz d l h ih) d
abbrev Z1i (d:Yd):Ct:=⟨53,[],[Yq0 d],[],.sv (li (Yrs d))⟩
def Z3w (d:Yd):Lp Nat:=.mk 20 0 (λx=>[(3,hs x 1),(7,Aq d.Ia),(8,li (d.Ia.map Ylf).length),(9,hs x 0)]) (λx=>[]) (λk=>[.s (li k),.s (li (↑(Yma Yrs (d.Ia.take k)):Int))]) (λk=>k<=d.Ia.length/\d.Ia.length<=9223372036854775807) (λk=>d.Ia.length - k) [.mk True (.exit 0) (λx=>[(3,hs x 0)]) (λx=>[]) [.s (li (↑(Yma Yrs d.Ia):Int))]]
theorem Zei (d:Yd) (h:sizeD d<=2147483647) (ih:∀ (z:Yd),z∈d.Ia->sizeD z<=2147483647->OK (Z1i z)):Lp.Sem prog (Yli f53 0) (Z3w d):=Ylp (λk=>let v1:=d.Ia.g k;let v2:=(↑(Yma Yrs (d.Ia.take k)):Int);.i ((k:Int)<(d.Ia.map Ylf).length) (.x (k:Int) (d.Ia.map Ylf) (Ym1 v1) (.d [.rd] (Z1i v1) (.r ((k:Int)+1) (.g [] (k+1) [.s (li ((k:Int)+1)),.s (li (max v2 (↑(Yrs v1):Int)))])))) (.o 0 [] [.s (li v2)])) (by
 intro k h;try dsimp only[Yl3,Yle,Z3w]at h|-
 have g1:=Ypj d
 have g2:=@Yls _ sizeD d.Ia (d.Ia.g k)
 exact z0b)
theorem Zi0 (d:Yd) (h:sizeD d<=2147483647) (ih:∀ z∈d.Ia,∀ (h:sizeD z<=2147483647),Z1i z):Z1i d:=Ylh call53 func53 (let v1:=(↑(Yma Yrs d.Ia):Int)+1;.z Ylf d.Ia (.l (Z3w d) (Zei d h ih) [] [.s (li 0),.s (li 0)] 0 (.t (.r v1 (.s (li v1))) .q))) (by
 dsimp only[Yl3,Z1i,Yle,Z3w]
 have h1:=Y1ye d
 have g2:Yma Yrs (d.Ia.take 0)=0:=rfl
 with_reducible repeat' (first|apply ah|exact zR|exact ih|(intro))
 all_goals ((try simp only[std,inj]at *);with_reducible and_intros)
 all_goals try with_reducible first|apply ih
 all_goals try first|exact z|grind[Y13z,Yla,Ylb,Yl5])
theorem Zgh (d:Yd):∀ (h:sizeD d<=2147483647),Z1i d:=Yd.ind (P:=λd=>∀ (h:sizeD d<=2147483647),Z1i d) (λd ih h=>Zi0 d h ih) d
abbrev Z3i (d:Yd):Ct:=⟨54,[],[Yq0 d],[],.sv (lb (okD d))⟩
def Z4u (d:Yd):Lp Nat:=.mk 26 0 (λx=>[(1,.y 0),(6,Aq d.Ia),(7,li (d.Ia.map Ylf).length),(8,hs x 0)]) (λx=>[.box (vals (Ym1 d))]) (λk=>[.s (li k)]) (λk=>k<=d.Ia.length/\d.Ia.length<=9223372036854775807/\(d.Ia.take k).all okD) (λk=>d.Ia.length - k) [.mk (d.Ia.all okD) (.exit 0) (λx=>[(1,.y 0)]) (λx=>[.box (vals (Ym1 d))]) [],.mk (d.Ia.all okD=false) .ret (λx=>[(2,hs x 0)]) (λx=>[]) [.s (lb false)]]
theorem Zfu (d:Yd) (ih:∀ (z:Yd),z∈d.Ia->OK (Z3i z)):Lp.Sem prog (Yli f54 0) (Z4u d):=Ylp (λk=>let v1:=d.Ia.g k;.i ((k:Int)<(d.Ia.map Ylf).length) (.x (k:Int) (d.Ia.map Ylf) (Ym1 v1) (.d [.rd] (Z3i v1) (.b (!okD v1) (.o 1 [] [.s (lb false)]) (.r ((k:Int)+1) (.g [0] (k+1) [.s (li ((k:Int)+1))]))))) (.o 0 [0] [])) (by
 intro k h;try dsimp only[Yl3,Yle,Z4u]at h|-
 exact z0c)
theorem Zjn (d:Yd) (ih:∀ z∈d.Ia,Z3i z):Z3i d:=Ylh call54 func54 (let v1:=((d.Ia.map Ylf).length:Int);.z Ylf d.Ia (.l (Z4u d) (Zfu d ih) [0] [.s (li 0)] 0 (.t (.z Ylf d.Ia (.c [.rd,.rd,.rd,.rd] (Zge d.Ka d.Na d.Ta v1) (.s (lb (Ypx d.Ka d.Na d.Ta v1))))) (.t (.s (lb false)) .q)))) (by
 dsimp only[Yl3,Z3i,Yle,Z4u]
 with_reducible repeat' (first|apply ah|exact zR|exact ih|(intro))
 all_goals ((try simp only[std,inj]at *);with_reducible and_intros)
 all_goals try with_reducible first|apply ih
 all_goals try first|exact z|grind[Y18b,Yla,Ylb,Yl5])
theorem Zkq (d:Yd):Z3i d:=Yd.ind (P:=λd=>Z3i d) (λd ih=>Zjn d ih) d
abbrev Z98 (d:Yd):Ct:=⟨23,[],[Yq0 d],[],.sv (lb (Ynp d))⟩
theorem Zbn (d:Yd):Z98 d:=Ylh call23 func23 (.d [.rd,.ptr] (Z1h d 600) (.i ((↑(sizeD d):Int)<=600) (.d [.rd] (Z1i d) (.i ((↑(Yrs d):Int)<=20) (.c [.rd] (Zkq d) (.s (lb (okD d)))) (.s (lb false)))) (.y false (.s (lb false))))) (by
 dsimp only[Yl3,Z98]
 with_reducible repeat' (first|apply ah|exact zR|(intro)|apply Zgg|apply Zgh)
 all_goals ((try simp only[std,inj]at *);with_reducible and_intros)
 all_goals try with_reducible first|apply Zgg|apply Zgh
 all_goals try first|exact z|grind[Ynp,Yla,Ylb,Yl5])
abbrev Z1j (d:Yd) (deep:Int) (q:Int):Ct:=⟨169,[.box [vI q]],[Yq0 d,li deep,.y 0],[.box [vI (Yog d deep q).2]],.sv (lb (Yog d deep q).1)⟩
def Z3x (d:Yd) (deep:Int) (q:Int):Lp Nat:=let v1:=deep+1;.mk 49 1 (λx=>[(1,li deep),(2,.y 0),(36,Aq d.Ia),(37,li (d.Ia.map Ylf).length),(38,hs x 0)]) (λx=>[.box [ha x 1]]) (λk=>[.s (li k),.a (vI (Ylx (λx m=>Yog x v1 m) (d.Ia.take k) (q+1)).2)]) (λk=>k<=d.Ia.length/\d.Ia.length<=9223372036854775807/\deep<=20/\(Ylx (λx m=>Yog x v1 m) (d.Ia.take k) (q+1)).1/\q<=(Ylx (λx m=>Yog x v1 m) (d.Ia.take k) (q+1)).2/\(Ylx (λx m=>Yog x v1 m) (d.Ia.take k) (q+1)).2<=600) (λk=>d.Ia.length - k) [.mk ((Ylx (λx m=>Yog x v1 m) d.Ia (q+1)).1) (.exit 0) (λx=>[]) (λx=>[.box [ha x 0]]) [.a (vI (Ylx (λx m=>Yog x v1 m) d.Ia (q+1)).2)],.mk ((Ylx (λx m=>Yog x v1 m) d.Ia (q+1)).1=false) .ret (λx=>[(6,hs x 0)]) (λx=>[.box [ha x 1]]) [.s (lb false),.a (vI (Ylx (λx m=>Yog x v1 m) d.Ia (q+1)).2)]]
theorem Zej (d:Yd) (deep:Int) (q:Int) (h:0<=deep/\deep<=21/\0<=q/\q<=600) (ih:∀ (z:Yd),z∈d.Ia->∀ (deep q:Int),0<=deep/\deep<=21/\0<=q/\q<=600->OK (Z1j z deep q)):Lp.Sem prog (Yli f169 0) (Z3x d deep q):=Ylp (λk=>let v1:=d.Ia.g k;let v2:=d.Ia.take k;let v3:=deep+1;.i ((k:Int)<(d.Ia.map Ylf).length) (.x (k:Int) (d.Ia.map Ylf) (Ym1 v1) (.r v3 (.d [.rd,.rd,.ptr] (Z1j v1 v3 (Ylx (λx m=>Yog x v3 m) v2 (q+1)).2) (.b (!(Yog v1 v3 (Ylx (λx m=>Yog x v3 m) v2 (q+1)).2).1) (.o 1 [0] [.s (lb false),.a (vI (Yog v1 v3 (Ylx (λx m=>Yog x v3 m) v2 (q+1)).2).2)]) (.r ((k:Int)+1) (.g [0] (k+1) [.s (li ((k:Int)+1)),.a (vI (Yog v1 v3 (Ylx (λx m=>Yog x v3 m) v2 (q+1)).2).2)])))))) (.o 0 [0] [.a (vI (Ylx (λx m=>Yog x v3 m) v2 (q+1)).2)])) (by
 intro k h;try dsimp only[Yl3,Yle,Z3x]at h|-
 have g1:=λx m=>Y1kr x (deep+1) m
 exact z0n)
theorem Zi1 (d:Yd) (deep q:Int) (h:0<=deep/\deep<=21/\0<=q/\q<=600) (ih:∀ z∈d.Ia,∀ (deep:Int) (q:Int) (h:0<=deep/\deep<=21/\0<=q/\q<=600),Z1j z deep q):Z1j d deep q:=Ylh call169 func169 (let v1:Tq _ _:=.f [] [.box [vI (q+1)]] (.sv (lb false));let v2:=((d.Ia.map Ylf).length:Int);.r (q+1) (.i (20<deep) (.y true (.y true v1)) (.i (600<q+1) (.y true v1) (.z Ylf d.Ia (.c [.rd,.rd,.rd,.rd] (Zgf d.Ka d.Na d.Ta v2) (.b (!Ypx d.Ka d.Na d.Ta v2) v1 (.z Ylf d.Ia (.l (Z3x d deep q) (Zej d deep q h ih) [0] [.s (li 0),.a (vI (q+1))] 0 (.t (.f [] [.box [vI (Ylx (λx m=>Yog x (deep+1) m) d.Ia (q+1)).2]] (.sv (lb true))) (.t (.f [] [.box [vI (Ylx (λx m=>Yog x (deep+1) m) d.Ia (q+1)).2]] (.sv (lb false))) .q)))))))))) (by
 dsimp only[Yl3,Z1j,Yle,Z3x]
 with_reducible repeat' (first|apply ah|exact zR|exact ih|(intro))
 all_goals ((try simp only[std,inj]at *);with_reducible and_intros)
 all_goals try with_reducible first|apply ih
 all_goals try first|exact z|grind[Y1iu,Ylx,Yla,Ylb,Yl5])
theorem Zgi (d:Yd):∀ (deep:Int) (q:Int) (h:0<=deep/\deep<=21/\0<=q/\q<=600),Z1j d deep q:=Yd.ind (P:=λd=>∀ (deep:Int) (q:Int) (h:0<=deep/\deep<=21/\0<=q/\q<=600),Z1j d deep q) (λd ih deep q h=>Zi1 d deep q h ih) d
abbrev Z99 (d:Yd):Ct:=⟨128,[],[Yq0 d],[],.sv (lb (Ynp d))⟩
theorem Z3y (d:Yd):Z99 d:=Ylh call128 func128 (.d [.rd,.rd,.ptr] (Z1j d 1 0) (.s (lb (Yog d 1 0).1))) (by
 dsimp only[Yl3,Z99]
 with_reducible repeat' (first|apply ah|exact zR|(intro)|apply Zgi)
 all_goals ((try simp only[std,inj]at *);with_reducible and_intros)
 all_goals try with_reducible first|apply Zgi
 all_goals try first|exact z|grind[Y1n1,Yla,Ylb,Yl5])
end
section
def Yo1 (n:Int):Int:=if 1<=n/\n<=99999 then (if n % 3=0 then 3 else n % 3) else 0
theorem Y18i {n:Int}:Yo1 n=0 ↔ ¬ (1<=n/\n<=99999):=by unfold Yo1;split<;>(try split)<;>omega
def Yqg (L:List Int):Nat->Bool
 | 0=>true
 | k+1=>Yqg L k&&decide (1<=L.g k/\L.g k<=99999)&&(decide (k=0)||decide (L.g (k - 1)<L.g k))
def Yns (L:List Int):Bool:=Yqg L L.length
theorem Y15d (L:List Int):∀ (m k:Nat),k<=m->Yqg L m->Yqg L k
 | 0,k,h,_=>by
  obtain rfl:k=0:=by omega
  rfl
 | m+1,k,h,ht=>by
  by_cases e:k=m+1
  ·rw[e];exact ht
  ·refine Y15d L m k oW ?_
   simp only[Yqg,af]at ht;exact ht.1.1
abbrev Zd0 (n:Int):Ct:=⟨158,[],[li n],[],.sv (li (Yo1 n))⟩
theorem Zgj (n:Int):Zd0 n:=Ylh call158 func158 (let v1:=[3,1,2].getD (n.tmod 3).toNat 0;.c [.rd,.rd,.rd] (Z6j n 1 99999) (.b (!decide (1<=n/\n<=99999)) (.s (li 0)) (.p ((3:Int)≠0) (.p (0<=n.tmod 3/\(n.tmod 3).toNat<3) (.w (.cells (Yl4 v1)) (.p ([[cI 3],[cI 1],[cI 2]][(n.tmod 3).toNat]? = some [cI v1]) (.s (li v1)))))))) (by
 dsimp only[Yl3,Zd0]
 exact z0o)
abbrev Zd1 (n:Int):Ct:=⟨162,[],[li n],[],.sv (li (Yo1 n))⟩
theorem Zab (n:Int):Zd1 n:=Ylh call162 func162 (.i (n<1) (.y true (.s (li 0))) (.i (99999<n) (.s (li 0)) (.p ((3:Int)≠0) (.i (n.tmod (3:Int)=1) (.s (li 1)) (.i (n.tmod (3:Int)=2) (.s (li 2)) (.s (li 3))))))) (by
 dsimp only[Yl3,Zd1]
 exact z0o)
abbrev Zav (L:List Int):Ct:=⟨201,[],[Ag L],[],.sv (lb (Yns L))⟩
def Z3z (L:List Int):Lp Nat:=.mk 29 0 (λx=>[(0,Ag L),(5,Ag L),(6,li (L.map Yl4).length),(7,hs x 0)]) (λx=>[]) (λk=>[.s (li k)]) (λk=>k<=L.length/\L.length<=9223372036854775807/\Yqg L k) (λk=>L.length - k) [.mk (Yns L) (.exit 0) (λx=>[]) (λx=>[]) [],.mk (Yns L=false) .ret (λx=>[(2,hs x 0)]) (λx=>[]) [.s (lb false)]]
theorem Zek (L:List Int):Lp.Sem prog (Yli f201 0) (Z3z L):=Ylp (λk=>let v1:Tq _ _:=.r ((k:Int)+1) (.g [] (k+1) [.s (li ((k:Int)+1))]);let v2:=(k:Int) - 1;.i ((k:Int)<(L.map Yl4).length) (.x (k:Int) (L.map Yl4) [cI (L.getD k 0)] (.c [.rd] (Zgj (L.getD k 0)) (.i (Yo1 (L.getD k 0)=0) (.y true (.o 1 [] [.s (lb false)])) (.i (0<(k:Int)) (.r v2 (.x v2 (L.map Yl4) [cI (L.getD v2.toNat 0)] (.i (L.getD k 0<=L.getD v2.toNat 0) (.o 1 [] [.s (lb false)]) v1))) (.y false v1))))) (.o 0 [] [])) (by
 intro k h;try dsimp only[Yl3,Yle,Z3z]at h|-
 have g1:=Y15d L L.length (k+1)
 have g2:=@Y18i (L.getD k 0)
 have e:((k:Int) - 1).toNat=k - 1:=by omega
 have g3:Yqg L (k+1)=(Yqg L k&&decide (1<=L.getD k 0/\L.getD k 0<=99999)&&(decide (k=0)||decide (L.getD (k - 1) 0<L.getD k 0))):=rfl
 exact z0p)
theorem Zi2 (L:List Int):Zav L:=Ylh call201 func201 (.z Yl4 L (.l (Z3z L) (Zek L) [] [.s (li 0)] 0 (.t (.s (lb true)) (.t (.s (lb false)) .q)))) (by
 dsimp only[Yl3,Zav,Yle,Z3z]
 exact z0q)
abbrev Zaw (L:List Int):Ct:=⟨138,[],[Ag L],[],.sv (lb (Yns L))⟩
def Z40 (L:List Int):Lp Nat:=.mk 29 0 (λx=>[(0,Ag L),(5,Ag L),(6,li (L.map Yl4).length),(7,hs x 0)]) (λx=>[]) (λk=>[.s (li k)]) (λk=>k<=L.length/\L.length<=9223372036854775807/\Yqg L k) (λk=>L.length - k) [.mk (Yns L) (.exit 0) (λx=>[]) (λx=>[]) [],.mk (Yns L=false) .ret (λx=>[(2,hs x 0)]) (λx=>[]) [.s (lb false)]]
theorem Zel (L:List Int):Lp.Sem prog (Yli f138 0) (Z40 L):=Ylp (λk=>let v1:Tq _ _:=.r ((k:Int)+1) (.g [] (k+1) [.s (li ((k:Int)+1))]);let v2:=(k:Int) - 1;.i ((k:Int)<(L.map Yl4).length) (.x (k:Int) (L.map Yl4) [cI (L.getD k 0)] (.c [.rd] (Zab (L.getD k 0)) (.i (Yo1 (L.getD k 0)=0) (.y true (.o 1 [] [.s (lb false)])) (.i (0<(k:Int)) (.r v2 (.x v2 (L.map Yl4) [cI (L.getD v2.toNat 0)] (.i (L.getD k 0<=L.getD v2.toNat 0) (.o 1 [] [.s (lb false)]) v1))) (.y false v1))))) (.o 0 [] [])) (by
 intro k h;try dsimp only[Yl3,Yle,Z40]at h|-
 have g1:=Y15d L L.length (k+1)
 have g2:=@Y18i (L.getD k 0)
 have e:((k:Int) - 1).toNat=k - 1:=by omega
 have g3:Yqg L (k+1)=(Yqg L k&&decide (1<=L.getD k 0/\L.getD k 0<=99999)&&(decide (k=0)||decide (L.getD (k - 1) 0<L.getD k 0))):=rfl
 exact z0p)
theorem Z7 (L:List Int):Zaw L:=Ylh call138 func138 (.z Yl4 L (.l (Z40 L) (Zel L) [] [.s (li 0)] 0 (.t (.s (lb true)) (.t (.s (lb false)) .q)))) (by
 dsimp only[Yl3,Zaw,Yle,Z40]
 exact z0q)
def Yq6 (k n:Int) (t:ByteArray) (s:List Int) (i:Int):Bool:=Ypx k n t i&&Yns s&&(decide ((s.length:Int)=0)||decide (k=1))
mutual
def Ylg:YS_->Nat
 | ⟨_,_,_,_,l⟩=>Y126 l+1
def Y126:List YS_->Nat
 | []=>0
 | c :: r=>Ylg c+Y126 r
end
theorem Y1bd:∀ l,Y126 l=sumBy Ylg l
 | []=>by simp[Y126,sumBy]
 | c :: r=>by rw[Y126,sumBy,Y1bd r]
theorem Ym7 (c:YS_):Ylg c=sumBy Ylg c.Ia+1:=by cases c;simp only[Ylg,Y1bd]
mutual
def Ylw:YS_->Nat
 | ⟨_,_,_,_,l⟩=>Y17e l+1
def Y17e:List YS_->Nat
 | []=>0
 | c :: r=>max (Ylw c) (Y17e r)
end
theorem Y1du:∀ l,Y17e l=Yma Ylw l
 | []=>by simp[Y17e,Yma]
 | c :: r=>by rw[Y17e,Yma,Y1du r]
theorem Yqd (c:YS_):Ylw c=Yma Ylw c.Ia+1:=by cases c;simp only[Ylw,Y1du]
theorem Y1y0:∀ c:YS_,Ylw c<=Ylg c:=by
 refine YS_.ind λc ih => ?_
 have:=Yy6 ih
 rw[Ym7,Yqd];omega
mutual
def okY:YS_->Bool
 | ⟨k,n,t,s,l⟩=>Y1d7 l&&Yq6 k n t s l.length
def Y1d7:List YS_->Bool
 | []=>true
 | c :: r=>okY c&&Y1d7 r
end
theorem Y1ib:∀ l,Y1d7 l=l.all okY
 | []=>by simp[Y1d7]
 | c :: r=>by rw[Y1d7,Y1ib r];rfl
theorem Ypo (c:YS_):okY c=(c.Ia.all okY&&Yq6 c.Ka c.Na c.Ta c.Sa c.Ia.length):=by cases c;simp only[okY,Y1ib]
def Yld (d:YS_):Bool:=decide (Ylg d<=2000)&&decide (Ylw d<=40)&&okY d
mutual
def Yn1:YS_->Int->Int->Bool×Int
 | ⟨k,n,t,s,l⟩,deep,m=>if deep<=40/\m+1<=2000/\Yq6 k n t s l.length then Y17m l (deep+1) (m+1) else (false,m+1)
def Y17m:List YS_->Int->Int->Bool×Int
 | [],_,m=>(true,m)
 | x :: r,deep,m=>if (Yn1 x deep m).1 then Y17m r deep (Yn1 x deep m).2 else (false,(Yn1 x deep m).2)
end
theorem Y1dq:∀ l deep m,Y17m l deep m=Ylx (λx m=>Yn1 x deep m) l m
 | [],_,_=>by simp[Y17m,Ylx]
 | x :: r,deep,m=>by simp only[Y17m,Ylx,Y1dq r]
theorem Y1je (c:YS_) (deep m:Int):Yn1 c deep m=if deep<=40/\m+1<=2000/\Yq6 c.Ka c.Na c.Ta c.Sa c.Ia.length then Ylx (λx m=>Yn1 x (deep+1) m) c.Ia (m+1) else (false,m+1):=by cases c;simp only[Yn1,Y1dq]
theorem Yz0:∀ (c:YS_) (deep m:Int),m<=2000->((Yn1 c deep m).1 ↔ (m+Ylg c<=2000/\(deep+Ylw c<=41/\okY c)))/\((Yn1 c deep m).1->(Yn1 c deep m).2=m+Ylg c):=by
 refine YS_.ind λc ih deep m hm => ?_
 rw[Y1je,Ym7,Yqd,Ypo,af,am]
 by_cases h:deep<=40/\m+1<=2000/\Yq6 c.Ka c.Na c.Ta c.Sa c.Ia.length
 ·rw[ae h]
  have h1:=Y140 (λx m=>Yn1 x (deep+1) m) Ylg (λx=>deep+1+Ylw x<=41/\okY x) 2000 c.Ia (λx hx m hm=>ih x hx (deep+1) m hm) (m+1) h.2.1
  have h2:=Y10s Ylw (m:=(40 - deep).toNat) (L:=c.Ia)
  constructor
  ·rw[h1.1]
   constructor
   ·rintro⟨a,b⟩
    have:=h2.2 λx hx=>by have:=(b x hx).1;omega
    exact⟨by omega,by omega,λx hx=>(b x hx).2,h.2.2⟩
   ·rintro⟨a,b,d,e⟩
    have:=h2.1 oW
    exact⟨by omega,λx hx=>⟨by have:=this x hx;omega,d x hx⟩⟩
  ·intro ht;rw[h1.2 ht];omega
 ·rw[ab h]
  refine⟨⟨λe=>Bool.noConfusion e,?_⟩,λe=>Bool.noConfusion e⟩
  rintro⟨a,b,d,e⟩
  exact absurd ⟨by omega,by omega,e⟩ h
theorem Y10w (d:YS_):(Yn1 d 1 0).1=Yld d:=by
 have h:=(Yz0 d 1 0 dW).1
 rw[cp,h]
 simp only[Yld,af,ak,dv]
 constructor
 ·rintro⟨a,b,e⟩;exact⟨by omega,by omega,e⟩
 ·rintro⟨a,b,e⟩;exact⟨by omega,by omega,e⟩
abbrev Z1k (d:YS_) (l:Int):Ct:=⟨189,[.box [vI l]],[Yln d,.y 0],[.box [vI (max (l - Ylg d) (-1))]],.sv (lb (decide (Ylg d<=l)))⟩
def Z41 (d:YS_) (l:Int):Lp Nat:=.mk 36 1 (λx=>[(1,.y 0),(2,.y 1),(5,hs x 0)]) (λx=>[.box [ha x 1],.box (vals (Yl8 d))]) (λk=>[.s (li k),.a (vI (max (l - 1 - (↑(sumBy Ylg (d.Ia.take k)):Int)) (-1:Int)))]) (λk=>d.Ia.length >= k) (λk=>d.Ia.length - k) [.mk True (.exit 0) (λx=>[(1,.y 0)]) (λx=>[.box [ha x 0]]) [.a (vI (max (l - (↑(Ylg d):Int)) (-1:Int)))]]
theorem Zem (d:YS_) (l:Int) (h:0<=l/\l<=1000000) (ih:∀ (z:YS_),z∈d.Ia->∀ (l:Int),0<=l/\l<=1000000->OK (Z1k z l)):Lp.Sem prog (Yli f189 0) (Z41 d l):=Ylp (λk=>let v1:=l - 1 - (↑(sumBy Ylg (d.Ia.take k)):Int);let v2:=d.Ia.g k;let v3:=(-1:Int);.z Yl1 d.Ia (.i ((k:Int)<(d.Ia.map Yl1).length) (.i (0<=max v1 v3) (.x (k:Int) (d.Ia.map Yl1) (Yl8 v2) (.d [.rd,.ptr] (Z1k v2 (max v1 v3)) (.r ((k:Int)+1) (.g [0,1] (k+1) [.s (li ((k:Int)+1)),.a (vI (max (max v1 v3 - (↑(Ylg v2):Int)) v3))])))) (.o 0 [0] [.a (vI (max v1 v3))])) (.y false (.o 0 [0] [.a (vI (max v1 v3))])))) (by
 intro k h;try dsimp only[Yl3,Yle,Z41]at h|-
 have g1:=Ym7 d
 have g2:=Ymu Ylg d.Ia k
 have g3:=@Yom _ _ Ylg d.Ia k
 exact z01)
theorem Zi3 (d:YS_) (l:Int) (h:0<=l/\l<=1000000) (ih:∀ z∈d.Ia,∀ (l:Int) (h:0<=l/\l<=1000000),Z1k z l):Z1k d l:=Ylh call189 func189 (.r (l - 1) (.l (Z41 d l) (Zem d l h ih) [0,1] [.s (li 0),.a (vI (l - 1))] 0 (.t (.f [] [.box [vI (max (l - (↑(Ylg d):Int)) (-1:Int))]] (.sv (lb (decide (0<=max (l - (↑(Ylg d):Int)) (-1:Int)))))) .q))) (by
 dsimp only[Yl3,Z1k,Yle,Z41]
 have g1:=Ym7 d
 have g2:sumBy Ylg (d.Ia.take 0)=0:=rfl
 exact z02)
theorem Zgk (d:YS_):∀ (l:Int) (h:0<=l/\l<=1000000),Z1k d l:=YS_.ind (P:=λd=>∀ (l:Int) (h:0<=l/\l<=1000000),Z1k d l) (λd ih l h=>Zi3 d l h ih) d
abbrev Z1l (d:YS_):Ct:=⟨190,[],[Yln d],[],.sv (li (Ylw d))⟩
def Z42 (d:YS_):Lp Nat:=.mk 20 0 (λx=>[(3,hs x 1),(7,Af d.Ia),(8,li (d.Ia.map Yl1).length),(9,hs x 0)]) (λx=>[]) (λk=>[.s (li k),.s (li (↑(Yma Ylw (d.Ia.take k)):Int))]) (λk=>k<=d.Ia.length/\d.Ia.length<=9223372036854775807) (λk=>d.Ia.length - k) [.mk True (.exit 0) (λx=>[(3,hs x 0)]) (λx=>[]) [.s (li (↑(Yma Ylw d.Ia):Int))]]
theorem Zen (d:YS_) (h:Ylg d<=2147483647) (ih:∀ (z:YS_),z∈d.Ia->Ylg z<=2147483647->OK (Z1l z)):Lp.Sem prog (Yli f190 0) (Z42 d):=Ylp (λk=>let v1:=d.Ia.g k;let v2:=(↑(Yma Ylw (d.Ia.take k)):Int);.i ((k:Int)<(d.Ia.map Yl1).length) (.x (k:Int) (d.Ia.map Yl1) (Yl8 v1) (.d [.rd] (Z1l v1) (.r ((k:Int)+1) (.g [] (k+1) [.s (li ((k:Int)+1)),.s (li (max v2 (↑(Ylw v1):Int)))])))) (.o 0 [] [.s (li v2)])) (by
 intro k h;try dsimp only[Yl3,Yle,Z42]at h|-
 have g1:=Ym7 d
 have g2:=@Yls _ Ylg d.Ia (d.Ia.g k)
 exact z0b)
theorem Zi4 (d:YS_) (h:Ylg d<=2147483647) (ih:∀ z∈d.Ia,∀ (h:Ylg z<=2147483647),Z1l z):Z1l d:=Ylh call190 func190 (let v1:=(↑(Yma Ylw d.Ia):Int)+1;.z Yl1 d.Ia (.l (Z42 d) (Zen d h ih) [] [.s (li 0),.s (li 0)] 0 (.t (.r v1 (.s (li v1))) .q))) (by
 dsimp only[Yl3,Z1l,Yle,Z42]
 have h1:=Y1y0 d
 have g2:Yma Ylw (d.Ia.take 0)=0:=rfl
 with_reducible repeat' (first|apply ah|exact zR|exact ih|(intro))
 all_goals ((try simp only[std,inj]at *);with_reducible and_intros)
 all_goals try with_reducible first|apply ih
 all_goals try first|exact z|grind[Yqd,Yla,Ylb,Yl5])
theorem Zgl (d:YS_):∀ (h:Ylg d<=2147483647),Z1l d:=YS_.ind (P:=λd=>∀ (h:Ylg d<=2147483647),Z1l d) (λd ih h=>Zi4 d h ih) d
abbrev Z3j (d:YS_):Ct:=⟨191,[],[Yln d],[],.sv (lb (okY d))⟩
def Z4v (d:YS_):Lp Nat:=.mk 42 0 (λx=>[(1,.y 0),(6,Af d.Ia),(7,li (d.Ia.map Yl1).length),(8,hs x 0)]) (λx=>[.box (vals (Yl8 d))]) (λk=>[.s (li k)]) (λk=>k<=d.Ia.length/\d.Ia.length<=9223372036854775807/\(d.Ia.take k).all okY) (λk=>d.Ia.length - k) [.mk (d.Ia.all okY) (.exit 0) (λx=>[(1,.y 0)]) (λx=>[.box (vals (Yl8 d))]) [],.mk (d.Ia.all okY=false) .ret (λx=>[(2,hs x 0)]) (λx=>[]) [.s (lb false)]]
theorem Zfv (d:YS_) (ih:∀ (z:YS_),z∈d.Ia->OK (Z3j z)):Lp.Sem prog (Yli f191 0) (Z4v d):=Ylp (λk=>let v1:=d.Ia.g k;.i ((k:Int)<(d.Ia.map Yl1).length) (.x (k:Int) (d.Ia.map Yl1) (Yl8 v1) (.d [.rd] (Z3j v1) (.b (!okY v1) (.o 1 [] [.s (lb false)]) (.r ((k:Int)+1) (.g [0] (k+1) [.s (li ((k:Int)+1))]))))) (.o 0 [0] [])) (by
 intro k h;try dsimp only[Yl3,Yle,Z4v]at h|-
 exact z0c)
theorem Zjo (d:YS_) (ih:∀ z∈d.Ia,Z3j z):Z3j d:=Ylh call191 func191 (let v1:=((d.Ia.map Yl1).length:Int);.z Yl1 d.Ia (.l (Z4v d) (Zfv d ih) [0] [.s (li 0)] 0 (.t (.z Yl1 d.Ia (.c [.rd,.rd,.rd,.rd] (Zge d.Ka d.Na d.Ta v1) (.b (Ypx d.Ka d.Na d.Ta v1) (.c [.rd] (Zi2 d.Sa) (.b (Yns d.Sa) (.z Yl4 d.Sa (.i (((d.Sa.map Yl4).length:Int)=0) (.s (lb true)) (.s (lb (decide (d.Ka=1)))))) (.s (lb false)))) (.y false (.s (lb false)))))) (.t (.s (lb false)) .q)))) (by
 dsimp only[Yl3,Z3j,Yle,Z4v]
 with_reducible repeat' (first|apply ah|exact zR|exact ih|(intro))
 all_goals ((try simp only[std,inj]at *);with_reducible and_intros)
 all_goals try with_reducible first|apply ih
 all_goals try first|exact z|grind[Ypo,Yq6,Yla,Ylb,Yl5])
theorem Zkr (d:YS_):Z3j d:=YS_.ind (P:=λd=>Z3j d) (λd ih=>Zjo d ih) d
abbrev Z94 (d:YS_):Ct:=⟨149,[],[Yln d],[],.sv (lb (Yld d))⟩
theorem Z81 (d:YS_):Z94 d:=Ylh call149 func149 (.d [.rd,.ptr] (Z1k d 2000) (.i ((↑(Ylg d):Int)<=2000) (.d [.rd] (Z1l d) (.i ((↑(Ylw d):Int)<=40) (.c [.rd] (Zkr d) (.s (lb (okY d)))) (.s (lb false)))) (.y false (.s (lb false))))) (by
 dsimp only[Yl3,Z94]
 with_reducible repeat' (first|apply ah|exact zR|(intro)|apply Zgk|apply Zgl)
 all_goals ((try simp only[std,inj]at *);with_reducible and_intros)
 all_goals try with_reducible first|apply Zgk|apply Zgl
 all_goals try first|exact z|grind[Yld,Yla,Ylb,Yl5])
abbrev Z12 (d:YS_) (deep:Int) (q:Int):Ct:=⟨117,[.box [vI q]],[Yln d,li deep,.y 0],[.box [vI (Yn1 d deep q).2]],.sv (lb (Yn1 d deep q).1)⟩
def Z22 (d:YS_) (deep:Int) (q:Int):Lp Nat:=let v1:=deep+1;.mk 64 1 (λx=>[(1,li deep),(2,.y 0),(51,Af d.Ia),(52,li (d.Ia.map Yl1).length),(53,hs x 0)]) (λx=>[.box [ha x 1]]) (λk=>[.s (li k),.a (vI (Ylx (λx m=>Yn1 x v1 m) (d.Ia.take k) (q+1)).2)]) (λk=>k<=d.Ia.length/\d.Ia.length<=9223372036854775807/\deep<=40/\(Ylx (λx m=>Yn1 x v1 m) (d.Ia.take k) (q+1)).1/\q<=(Ylx (λx m=>Yn1 x v1 m) (d.Ia.take k) (q+1)).2/\(Ylx (λx m=>Yn1 x v1 m) (d.Ia.take k) (q+1)).2<=2000) (λk=>d.Ia.length - k) [.mk ((Ylx (λx m=>Yn1 x v1 m) d.Ia (q+1)).1) (.exit 0) (λx=>[]) (λx=>[.box [ha x 0]]) [.a (vI (Ylx (λx m=>Yn1 x v1 m) d.Ia (q+1)).2)],.mk ((Ylx (λx m=>Yn1 x v1 m) d.Ia (q+1)).1=false) .ret (λx=>[(6,hs x 0)]) (λx=>[.box [ha x 1]]) [.s (lb false),.a (vI (Ylx (λx m=>Yn1 x v1 m) d.Ia (q+1)).2)]]
theorem Z9a (d:YS_) (deep:Int) (q:Int) (h:0<=deep/\deep<=41/\0<=q/\q<=2000) (ih:∀ (z:YS_),z∈d.Ia->∀ (deep q:Int),0<=deep/\deep<=41/\0<=q/\q<=2000->OK (Z12 z deep q)):Lp.Sem prog (Yli f117 0) (Z22 d deep q):=Ylp (λk=>let v1:=d.Ia.g k;let v2:=d.Ia.take k;let v3:=deep+1;.i ((k:Int)<(d.Ia.map Yl1).length) (.x (k:Int) (d.Ia.map Yl1) (Yl8 v1) (.r v3 (.d [.rd,.rd,.ptr] (Z12 v1 v3 (Ylx (λx m=>Yn1 x v3 m) v2 (q+1)).2) (.b (!(Yn1 v1 v3 (Ylx (λx m=>Yn1 x v3 m) v2 (q+1)).2).1) (.o 1 [0] [.s (lb false),.a (vI (Yn1 v1 v3 (Ylx (λx m=>Yn1 x v3 m) v2 (q+1)).2).2)]) (.r ((k:Int)+1) (.g [0] (k+1) [.s (li ((k:Int)+1)),.a (vI (Yn1 v1 v3 (Ylx (λx m=>Yn1 x v3 m) v2 (q+1)).2).2)])))))) (.o 0 [0] [.a (vI (Ylx (λx m=>Yn1 x v3 m) v2 (q+1)).2)])) (by
 intro k h;try dsimp only[Yl3,Yle,Z22]at h|-
 have g1:=λx m=>Yz0 x (deep+1) m
 exact z0n)
theorem Zi5 (d:YS_) (deep q:Int) (h:0<=deep/\deep<=41/\0<=q/\q<=2000) (ih:∀ z∈d.Ia,∀ (deep:Int) (q:Int) (h:0<=deep/\deep<=41/\0<=q/\q<=2000),Z12 z deep q):Z12 d deep q:=Ylh call117 func117 (let v3:AV:=.sv (lb false);let v1:Tq _ _:=.f [] [.box [vI (q+1)]] v3;let v2:=((d.Ia.map Yl1).length:Int);.r (q+1) (.i (40<deep) (.y true (.y true v1)) (.i (2000<q+1) (.y true v1) (.z Yl1 d.Ia (.c [.rd,.rd,.rd,.rd] (Zgf d.Ka d.Na d.Ta v2) (.b (!Ypx d.Ka d.Na d.Ta v2) v1 (.i (d.Ka≠1) (.z Yl4 d.Sa (.i (0<((d.Sa.map Yl4).length:Int)) (.y true v1) (.c [.rd] (Z7 d.Sa) (.b (!Yns d.Sa) v1 (.z Yl1 d.Ia (.l (Z22 d deep q) (Z9a d deep q h ih) [0] [.s (li 0),.a (vI (q+1))] 0 (.t (.f [] [.box [vI (Ylx (λx m=>Yn1 x (deep+1) m) d.Ia (q+1)).2]] (.sv (lb true))) (.t (.f [] [.box [vI (Ylx (λx m=>Yn1 x (deep+1) m) d.Ia (q+1)).2]] v3) .q)))))))) (.y false (.c [.rd] (Z7 d.Sa) (.b (!Yns d.Sa) v1 (.z Yl1 d.Ia (.l (Z22 d deep q) (Z9a d deep q h ih) [0] [.s (li 0),.a (vI (q+1))] 0 (.t (.f [] [.box [vI (Ylx (λx m=>Yn1 x (deep+1) m) d.Ia (q+1)).2]] (.sv (lb true))) (.t (.f [] [.box [vI (Ylx (λx m=>Yn1 x (deep+1) m) d.Ia (q+1)).2]] v3) .q)))))))))))))) (by
 dsimp only[Yl3,Z12,Yle,Z22]
 with_reducible repeat' (first|apply ah|exact zR|exact ih|(intro))
 all_goals ((try simp only[std,inj]at *);with_reducible and_intros)
 all_goals try with_reducible first|apply ih
 all_goals try first|exact z|grind[Y1je,Ylx,Yq6,Yla,Ylb,Yl5])
theorem Zn (d:YS_):∀ (deep:Int) (q:Int) (h:0<=deep/\deep<=41/\0<=q/\q<=2000),Z12 d deep q:=YS_.ind (P:=λd=>∀ (deep:Int) (q:Int) (h:0<=deep/\deep<=41/\0<=q/\q<=2000),Z12 d deep q) (λd ih deep q h=>Zi5 d deep q h ih) d
abbrev Z95 (d:YS_):Ct:=⟨69,[],[Yln d],[],.sv (lb (Yld d))⟩
theorem Zv (d:YS_):Z95 d:=Ylh call69 func69 (.d [.rd,.rd,.ptr] (Z12 d 1 0) (.s (lb (Yn1 d 1 0).1))) (by
 dsimp only[Yl3,Z95]
 with_reducible repeat' (first|apply ah|exact zR|(intro)|apply Zn)
 all_goals ((try simp only[std,inj]at *);with_reducible and_intros)
 all_goals try with_reducible first|apply Zn
 all_goals try first|exact z|grind[Y10w,Yla,Ylb,Yl5])
abbrev Zd2 (s:YS_):Ct:=⟨188,[],[Yln s],[],.sv (lb (decide (s.Ka=1)&&Yld s))⟩
theorem Zcf (s:YS_):Zd2 s:=Ylh call188 func188 (.i (s.Ka=1) (.c [.rd] (Z81 s) (.s (lb (Yld s)))) (.s (lb false))) (by
 dsimp only[Yl3,Zd2]
 exact zV)
abbrev Zd3 (s:YS_):Ct:=⟨139,[],[Yln s],[],.sv (lb (decide (s.Ka=1)&&Yld s))⟩
theorem Zf (s:YS_):Zd3 s:=Ylh call139 func139 (.i (s.Ka=1) (.c [.rd] (Zv s) (.s (lb (Yld s)))) (.s (lb false))) (by
 dsimp only[Yl3,Zd3]
 exact zV)
end
section
abbrev Z96 (A:List Int) (B:List Int):Ct:=⟨31,[],[Ag A,Ag B],[],.sv (lb (decide (A=B)))⟩
def Z2n (A:List Int) (B:List Int):Lp Nat:=.mk 26 0 (λx=>[(0,Ag A),(1,Ag B),(12,li (A.map Yl4).length),(13,hs x 0)]) (λx=>[]) (λk=>[.s (li k)]) (λk=>k<=A.length/\A.length<=9223372036854775807/\A.length=B.length/\A.take k=B.take k) (λk=>A.length - k) [.mk (A=B) (.exit 0) (λx=>[]) (λx=>[]) [],.mk (A≠B) .ret (λx=>[(4,hs x 0)]) (λx=>[]) [.s (lb false)]]
theorem Zcg (A:List Int) (B:List Int):Lp.Sem prog (Yli f31 0) (Z2n A B):=Ylp (λk=>.i ((k:Int)<(A.map Yl4).length) (.w (.draw []) (.x (k:Int) (A.map Yl4) [cI (A.getD k 0)] (.x (k:Int) (B.map Yl4) [cI (B.getD k 0)] (.i (A.getD k (0:Int)≠B.getD k 0) (.o 1 [] [.s (lb false)]) (.r ((k:Int)+1) (.g [] (k+1) [.s (li ((k:Int)+1))])))))) (.o 0 [] [])) (by
 intro k h;try dsimp only[Yl3,Yle,Z2n]at h|-
 exact z09)
theorem Z2v (A B:List Int):Z96 A B:=Ylh call31 func31 (.z Yl4 A (.z Yl4 B (.i (((A.map Yl4).length:Int)≠((B.map Yl4).length:Int)) (.s (lb false)) (.z Yl4 A (.l (Z2n A B) (Zcg A B) [] [.s (li 0)] 0 (.t (.s (lb true)) (.t (.s (lb false)) .q))))))) (by
 dsimp only[Yl3,Z96,Yle,Z2n]
 exact zV)
abbrev Zo (x:YS_) (y:YS_):Ct:=⟨10,[],[Yln x,Yln y],[],.sv (lb (decide (x=y)))⟩
def Z1q (x:YS_) (y:YS_):Lp Nat:=.mk 61 0 (λx_1=>[(2,.y 0),(3,.y 1),(44,li (x.Ia.map Yl1).length),(45,hs x_1 0)]) (λx_1=>[.box (vals (Yl8 x)),.box (vals (Yl8 y))]) (λk=>[.s (li k)]) (λk=>k<=x.Ia.length/\x.Ia.length<=9223372036854775807/\x.Ia.length=y.Ia.length/\x.Ia.take k=y.Ia.take k) (λk=>x.Ia.length - k) [.mk (x.Ia=y.Ia) (.exit 0) (λx=>[]) (λx=>[]) [],.mk (x.Ia≠y.Ia) .ret (λx=>[(4,hs x 0)]) (λx=>[]) [.s (lb false)]]
theorem Zb0 (x:YS_) (y:YS_) (ih:∀ (z:YS_),z∈x.Ia->∀ (y:YS_),OK (Zo z y)):Lp.Sem prog (Yli f10 0) (Z1q x y):=Ylp (λk=>.i ((k:Int)<(x.Ia.map Yl1).length) (.w (.draw []) (.x (k:Int) (x.Ia.map Yl1) (Yl8 (x.Ia.g k)) (.x (k:Int) (y.Ia.map Yl1) (Yl8 (y.Ia.g k)) (.d [.rd,.rd] (Zo (x.Ia.g k) (y.Ia.g k)) (.b (!decide (x.Ia.g k=y.Ia.g k)) (.o 1 [] [.s (lb false)]) (.r ((k:Int)+1) (.g [0,1] (k+1) [.s (li ((k:Int)+1))]))))))) (.o 0 [] [])) (by
 intro k h;try dsimp only[Yl3,Yle,Z1q]at h|-
 exact z0d)
theorem Zdr (x y:YS_) (ih:∀ z∈x.Ia,∀ (y:YS_),Zo z y):Zo x y:=Ylh call10 func10 (let v1:Tq _ _:=.y true (.s (lb false));.i (x.Ka≠y.Ka) (.y true (.y true (.y true v1))) (.i (x.Na≠y.Na) (.y true (.y true v1)) (.i (x.Ta.data.toList≠y.Ta.data.toList) (.y true v1) (.c [.rd,.rd] (Z2v x.Sa y.Sa) (.b (!decide (x.Sa=y.Sa)) v1 (.z Yl1 x.Ia (.z Yl1 y.Ia (.i (((x.Ia.map Yl1).length:Int)≠((y.Ia.map Yl1).length:Int)) (.s (lb false)) (.z Yl1 x.Ia (.l (Z1q x y) (Zb0 x y ih) [0,1] [.s (li 0)] 0 (.t (.s (lb true)) (.t (.s (lb false)) .q)))))))))))) (by
 dsimp only[Yl3,Zo,Yle,Z1q]
 simp only[Y1pu]
 exact z0e)
theorem Zax (x:YS_):∀ (y:YS_),Zo x y:=YS_.ind (P:=λx=>∀ (y:YS_),Zo x y) (λx ih y=>Zdr x y ih) x
abbrev Z74 (A:List YS_) (B:List YS_):Ct:=⟨86,[],[Af A,Af B],[],.sv (lb (decide (A=B)))⟩
def Z1r (A:List YS_) (B:List YS_):Lp Nat:=.mk 27 0 (λx=>[(0,Af A),(1,Af B),(12,li (A.map Yl1).length),(13,hs x 0)]) (λx=>[]) (λk=>[.s (li k)]) (λk=>k<=A.length/\A.length<=9223372036854775807/\A.length=B.length/\A.take k=B.take k) (λk=>A.length - k) [.mk (A=B) (.exit 0) (λx=>[]) (λx=>[]) [],.mk (A≠B) .ret (λx=>[(4,hs x 0)]) (λx=>[]) [.s (lb false)]]
theorem Zb1 (A:List YS_) (B:List YS_):Lp.Sem prog (Yli f86 0) (Z1r A B):=Ylp (λk=>.i ((k:Int)<(A.map Yl1).length) (.w (.draw []) (.x (k:Int) (A.map Yl1) (Yl8 (A.g k)) (.x (k:Int) (B.map Yl1) (Yl8 (B.g k)) (.c [.rd,.rd] (Zax (A.g k) (B.g k)) (.b (!decide (A.g k=B.g k)) (.o 1 [] [.s (lb false)]) (.r ((k:Int)+1) (.g [] (k+1) [.s (li ((k:Int)+1))]))))))) (.o 0 [] [])) (by
 intro k h;try dsimp only[Yl3,Yle,Z1r]at h|-
 exact z09)
theorem Z5l (A B:List YS_):Z74 A B:=Ylh call86 func86 (.z Yl1 A (.z Yl1 B (.i (((A.map Yl1).length:Int)≠((B.map Yl1).length:Int)) (.s (lb false)) (.z Yl1 A (.l (Z1r A B) (Zb1 A B) [] [.s (li 0)] 0 (.t (.s (lb true)) (.t (.s (lb false)) .q))))))) (by
 dsimp only[Yl3,Z74,Yle,Z1r]
 exact zV)
abbrev Z75 (A:List YB) (B:List YB):Ct:=⟨38,[],[Aj A,Aj B],[],.sv (lb (decide (A=B)))⟩
def Z1s (A:List YB) (B:List YB):Lp Nat:=.mk 68 0 (λx=>[(0,Aj A),(1,Aj B),(12,li (A.map Yl2).length),(13,hs x 0)]) (λx=>[]) (λk=>[.s (li k)]) (λk=>k<=A.length/\A.length<=9223372036854775807/\A.length=B.length/\A.take k=B.take k) (λk=>A.length - k) [.mk (A=B) (.exit 0) (λx=>[]) (λx=>[]) [],.mk (A≠B) .ret (λx=>[(4,hs x 0)]) (λx=>[]) [.s (lb false)]]
theorem Zb2 (A:List YB) (B:List YB):Lp.Sem prog (Yli f38 0) (Z1s A B):=Ylp (λk=>let v1:=B.g k;let v2:=A.g k;let v3:Tq _ _:=.y true (.o 1 [] [.s (lb false)]);let v4:=B.map Yl2;let v5:=A.map Yl2;.i ((k:Int)<(A.map Yl2).length) (.w (.draw []) (.x (k:Int) v5 (Ylv v2) (.x (k:Int) v4 (Ylv v1) (.i (v2.Ta.data.toList≠v1.Ta.data.toList) (.y true (.y true v3)) (.x (k:Int) v5 (Ylv v2) (.x (k:Int) v4 (Ylv v1) (.c [.rd,.rd] (Z2v v2.Sa v1.Sa) (.b (!decide (v2.Sa=v1.Sa)) (.y true v3) (.x (k:Int) v5 (Ylv v2) (.x (k:Int) v4 (Ylv v1) (.i (v2.Ka≠v1.Ka) v3 (.x (k:Int) v5 (Ylv v2) (.x (k:Int) v4 (Ylv v1) (.i (v2.Na≠v1.Na) (.o 1 [] [.s (lb false)]) (.r ((k:Int)+1) (.g [] (k+1) [.s (li ((k:Int)+1))])))))))))))))))) (.o 0 [] [])) (by
 intro k h;try dsimp only[Yl3,Yle,Z1s]at h|-
 with_reducible repeat' (first|apply ah|exact zR|(intro))
 all_goals ((try simp only[std,inj]at *);with_reducible and_intros)
 all_goals try first|exact z|grind[Yso,Y1lo,Yok,Yla,Ylb,Yl5])
theorem Zds (A B:List YB):Z75 A B:=Ylh call38 func38 (.z Yl2 A (.z Yl2 B (.i (((A.map Yl2).length:Int)≠((B.map Yl2).length:Int)) (.s (lb false)) (.z Yl2 A (.l (Z1s A B) (Zb2 A B) [] [.s (li 0)] 0 (.t (.s (lb true)) (.t (.s (lb false)) .q))))))) (by
 dsimp only[Yl3,Z75,Yle,Z1s]
 exact zV)
abbrev Z9b (x:YR_) (y:YR_):Ct:=⟨39,[],[Yvj x,Yvj y],[],.sv (lb (decide (x=y)))⟩
theorem Zh2 (x y:YR_):Z9b x y:=Ylh call39 func39 (.c [.rd,.rd] (Z5l x.La y.La) (.i (x.La=y.La) (.c [.rd,.rd] (Z5l x.Pb y.Pb) (.i (x.Pb=y.Pb) (.c [.rd,.rd] (Z5l x.Tb y.Tb) (.s (lb (decide (x.Tb=y.Tb))))) (.s (lb false)))) (.y false (.s (lb false))))) (by
 dsimp only[Yl3,Z9b]
 simp only[Y1ut]
 exact zV)
abbrev Z6k (x:YE) (y:YE):Ct:=⟨14,[],[Ypu x,Ypu y],[],.sv (lb (decide (x=y)))⟩
def Z1e (x:YE) (y:YE):Lp Nat:=.mk 61 0 (λx_1=>[(2,.y 0),(3,.y 1),(44,li (x.Ma.map Ylc).length),(45,hs x_1 0)]) (λx_1=>[.box (vals (Yn6 x)),.box (vals (Yn6 y))]) (λk=>[.s (li k)]) (λk=>k<=x.Ma.length/\x.Ma.length<=9223372036854775807/\x.Ma.length=y.Ma.length/\x.Ma.take k=y.Ma.take k) (λk=>x.Ma.length - k) [.mk (x.Ma=y.Ma) (.exit 0) (λx=>[]) (λx=>[]) [],.mk (x.Ma≠y.Ma) .ret (λx=>[(4,hs x 0)]) (λx=>[]) [.s (lb false)]]
theorem Zaq (x:YE) (y:YE):Lp.Sem prog (Yli f14 0) (Z1e x y):=Ylp (λk=>.i ((k:Int)<(x.Ma.map Ylc).length) (.w (.draw []) (.x (k:Int) (x.Ma.map Ylc) (Yod (x.Ma.g k)) (.x (k:Int) (y.Ma.map Ylc) (Yod (y.Ma.g k)) (.c [.rd,.rd] (Zh2 (x.Ma.g k) (y.Ma.g k)) (.b (!decide (x.Ma.g k=y.Ma.g k)) (.o 1 [] [.s (lb false)]) (.r ((k:Int)+1) (.g [0,1] (k+1) [.s (li ((k:Int)+1))]))))))) (.o 0 [] [])) (by
 intro k h;try dsimp only[Yl3,Yle,Z1e]at h|-
 exact z09)
theorem Zch (x y:YE):Z6k x y:=Ylh call14 func14 (let v1:Tq _ _:=.y true (.s (lb false));.c [.rd,.rd] (Zds x.Ba y.Ba) (.b (!decide (x.Ba=y.Ba)) (.y true (.y true (.y true v1))) (.z Ylc x.Ma (.z Ylc y.Ma (.i (((x.Ma.map Ylc).length:Int)≠((y.Ma.map Ylc).length:Int)) (.y true (.y true v1)) (.i (x.Sb≠y.Sb) (.y true v1) (.i (x.Va≠y.Va) v1 (.i (x.Sc≠y.Sc) (.s (lb false)) (.z Ylc x.Ma (.l (Z1e x y) (Zaq x y) [0,1] [.s (li 0)] 0 (.t (.s (lb true)) (.t (.s (lb false)) .q)))))))))))) (by
 dsimp only[Yl3,Z6k,Yle,Z1e]
 simp only[Y1hi]
 exact zV)
abbrev Z97 (A:List Int) (B:List Int):Ct:=⟨88,[],[Ag A,Ag B],[],.sv (lb (decide (A=B)))⟩
def Z2o (A:List Int) (B:List Int):Lp Nat:=.mk 26 0 (λx=>[(0,Ag A),(1,Ag B),(12,li (A.map Yl4).length),(13,hs x 0)]) (λx=>[]) (λk=>[.s (li k)]) (λk=>k<=A.length/\A.length<=9223372036854775807/\A.length=B.length/\A.take k=B.take k) (λk=>A.length - k) [.mk (A=B) (.exit 0) (λx=>[]) (λx=>[]) [],.mk (A≠B) .ret (λx=>[(4,hs x 0)]) (λx=>[]) [.s (lb false)]]
theorem Zci (A:List Int) (B:List Int):Lp.Sem prog (Yli f88 0) (Z2o A B):=Ylp (λk=>.i ((k:Int)<(A.map Yl4).length) (.w (.draw []) (.x (k:Int) (A.map Yl4) [cI (A.getD k 0)] (.x (k:Int) (B.map Yl4) [cI (B.getD k 0)] (.i (A.getD k (0:Int)≠B.getD k 0) (.o 1 [] [.s (lb false)]) (.r ((k:Int)+1) (.g [] (k+1) [.s (li ((k:Int)+1))])))))) (.o 0 [] [])) (by
 intro k h;try dsimp only[Yl3,Yle,Z2o]at h|-
 exact z09)
theorem Z82 (A B:List Int):Z97 A B:=Ylh call88 func88 (.z Yl4 A (.z Yl4 B (.i (((A.map Yl4).length:Int)≠((B.map Yl4).length:Int)) (.s (lb false)) (.z Yl4 A (.l (Z2o A B) (Zci A B) [] [.s (li 0)] 0 (.t (.s (lb true)) (.t (.s (lb false)) .q))))))) (by
 dsimp only[Yl3,Z97,Yle,Z2o]
 exact zV)
end
section
def Y1lg:List UInt8:=[46,46,46]
def Ylj (s:YS_):Bool:=decide (s.Ka=1)&&decide (s.Ta.data.toList=Y1lg)
def Ypz (s:YS_):Bool:=decide (s.Ka=1)&&Yld s
def Yq3 (s:YS_) (x:YC):Bool:=decide (x.name.Ta=s.Ta)&&decide (x.name.Sa=s.Sa)&&Ypz x.name
def Yrc (L:List YC) (s:YS_):Nat:=L.findIdx (Yq3 s)
def fnd (L:List YC) (s:YS_):Int:=if Ylj s=false/\Yrc L s<L.length then Yrc L s else -1
theorem Y1kn {L:List YC}{s:YS_}{k:Nat}(hk:k<L.length) (hb:k<=Yrc L s) (h:Yq3 s (L.g k)):Yrc L s=k:=by
 have h1:L.g k=L[k]:=by simp[hk]
 rw[h1]at h
 rcases bH k (Yrc L s) with h2|h2
 ·have:=List.not_of_lt_findIdx h2
  simp[h]at this
 ·omega
theorem Y1ao {L:List YC}{s:YS_}{k:Nat}(hk:k<L.length) (hb:k<=Yrc L s) (h:Yq3 s (L.g k)=false):k+1<=Yrc L s:=by
 have h1:L.g k=L[k]:=by simp[hk]
 rw[h1]at h
 rcases bH k (Yrc L s) with h2|h2
 ·exact h2
 ·have e:Yrc L s=k:=by omega
  have:=di (p:=Yq3 s) (xs:=L) (w:=by show Yrc L s<_;omega)
  have h3:Yq3 s (L[Yrc L s]'oW):=this
  simp only[e,h]at h3
  exact absurd h3 dW
theorem Y1ig (L:List YC) (s:YS_):Yrc L s<=L.length:=List.findIdx_le_length
theorem Yvi (L:List YC) (s:YS_) : -1<=fnd L s/\fnd L s<L.length:=by
 unfold fnd;split<;>omega
abbrev Zd4 (s:YS_):Ct:=⟨150,[],[Yln s],[],.sv (lb (Ylj s))⟩
theorem Z3n (s:YS_):Zd4 s:=Ylh call150 func150 (.i (s.Ka=1) (.s (lb (decide (s.Ta.data.toList=[46,46,46])))) (.s (lb false))) (by
 dsimp only[Yl3,Zd4]
 exact z0r)
abbrev Zd5 (s:YS_):Ct:=⟨90,[],[Yln s],[],.sv (lb (Ylj s))⟩
theorem Z1 (s:YS_):Zd5 s:=Ylh call90 func90 (.i (s.Ka=1) (.s (lb (decide (s.Ta.data.toList=[46,46,46])))) (.s (lb false))) (by
 dsimp only[Yl3,Zd5]
 exact z0r)
abbrev Zd6 (a:YS_) (b:YS_):Ct:=⟨202,[],[Yln a,Yln b],[],.sv (lb (decide (a.Ta=b.Ta)&&decide (a.Sa=b.Sa)))⟩
theorem Zgm (a b:YS_):Zd6 a b:=Ylh call202 func202 (.i (a.Ta.data.toList=b.Ta.data.toList) (.c [.rd,.rd] (Z2v a.Sa b.Sa) (.s (lb (decide (a.Sa=b.Sa))))) (.s (lb false))) (by
 dsimp only[Yl3,Zd6]
 exact z0s)
abbrev Zd7 (a:YS_) (b:YS_):Ct:=⟨179,[],[Yln a,Yln b],[],.sv (lb (decide (a.Ka=1)&&decide (b.Ka=1)&&decide (a.Ta=b.Ta)&&decide (a.Sa=b.Sa)))⟩
theorem Zcj (a b:YS_):Zd7 a b:=Ylh call179 func179 (.i (a.Ka=1) (.i (b.Ka=1) (.i (a.Ta.data.toList=b.Ta.data.toList) (.c [.rd,.rd] (Z82 a.Sa b.Sa) (.s (lb (decide (a.Sa=b.Sa))))) (.s (lb false))) (.y false (.s (lb false)))) (.y false (.y false (.s (lb false))))) (by
 dsimp only[Yl3,Zd7]
 exact z0s)
abbrev Zd8 (L:List YC) (s:YS_):Ct:=⟨193,[],[Al L,Yln s],[],.sv (li (fnd L s))⟩
def Z5p (L:List YC) (s:YS_):Lp Nat:=.mk 30 0 (λx=>[(3,.y 0),(7,Al L),(8,li (L.map Yl7).length),(9,hs x 0)]) (λx=>[.box (vals (Yl8 s))]) (λk=>[.s (li k)]) (λk=>k<=L.length/\L.length<=9223372036854775807/\(Ylj s\/k<=Yrc L s)) (λk=>L.length - k) [.mk (fnd L s=(-1:Int)) (.exit 0) (λx=>[]) (λx=>[]) [],.mk True .ret (λx=>[(4,hs x 0)]) (λx=>[]) [.s (li (fnd L s))]]
theorem Zh3 (L:List YC) (s:YS_):Lp.Sem prog (Yli f193 0) (Z5p L s):=Ylp (λk=>let v1:Tq _ _:=.r ((k:Int)+1) (.g [0] (k+1) [.s (li ((k:Int)+1))]);let v2:=L.g k;.i ((k:Int)<(L.map Yl7).length) (.x (k:Int) (L.map Yl7) (Ym3 v2) (.c [.rd,.rd] (Zgm v2.name s) (.b (decide (v2.name.Ta=s.Ta)&&decide (v2.name.Sa=s.Sa)) (.c [.rd] (Z3n s) (.b (!Ylj s) (.c [.rd] (Zcf v2.name) (.b (decide (v2.name.Ka=1)&&Yld v2.name) (.o 1 [] [.s (li k)]) v1)) (.y false v1))) (.y false (.y false v1))))) (.o 0 [] [])) (by
 intro k h;try dsimp only[Yl3,Yle,Z5p]at h|-
 have g1:=@Y1kn L s k
 have g2:=@Y1ao L s k
 have g3:=Y1ig L s
 with_reducible repeat' (first|apply ah|exact zR|(intro))
 all_goals ((try simp only[std,inj]at *);with_reducible and_intros)
 all_goals try first|exact z|grind[fnd,Yq3,Ypz,Yla,Ylb,Yl5])
theorem Zck (L:List YC) (s:YS_):Zd8 L s:=Ylh call193 func193 (.z Yl7 L (.l (Z5p L s) (Zh3 L s) [0] [.s (li 0)] 0 (.t (.s (li (-1:Int))) (.t (.s (li (fnd L s))) .q)))) (by
 dsimp only[Yl3,Zd8,Yle,Z5p]
 exact zV)
abbrev Zd9 (L:List YC) (s:YS_):Ct:=⟨180,[],[Al L,Yln s],[],.sv (li (if s.Ka=1 then fnd L s else -1))⟩
def Z5q (L:List YC) (s:YS_):Lp Nat:=.mk 32 0 (λx=>[(3,.y 0),(14,Al L),(15,li (L.map Yl7).length),(16,hs x 0)]) (λx=>[.box (vals (Yl8 s))]) (λk=>[.s (li k)]) (λk=>k<=L.length/\L.length<=9223372036854775807/\k<=Yrc L s/\s.Ka=1/\Ylj s=false) (λk=>L.length - k) [.mk (fnd L s=(-1:Int)) (.exit 0) (λx=>[]) (λx=>[]) [],.mk True .ret (λx=>[(4,hs x 0)]) (λx=>[]) [.s (li (fnd L s))]]
theorem Zh4 (L:List YC) (s:YS_):Lp.Sem prog (Yli f180 0) (Z5q L s):=Ylp (λk=>let v1:=L.g k;let v2:Tq _ _:=.r ((k:Int)+1) (.g [0] (k+1) [.s (li ((k:Int)+1))]);.i ((k:Int)<(L.map Yl7).length) (.x (k:Int) (L.map Yl7) (Ym3 v1) (.c [.rd] (Zf v1.name) (.b (decide (v1.name.Ka=1)&&Yld v1.name) (.c [.rd,.rd] (Zcj v1.name s) (.b (decide (v1.name.Ka=1)&&decide (s.Ka=1)&&decide (v1.name.Ta=s.Ta)&&decide (v1.name.Sa=s.Sa)) (.o 1 [] [.s (li k)]) v2)) (.y false v2)))) (.o 0 [] [])) (by
 intro k h;try dsimp only[Yl3,Yle,Z5q]at h|-
 have g1:=@Y1kn L s k
 have g2:=@Y1ao L s k
 have g3:=Y1ig L s
 with_reducible repeat' (first|apply ah|exact zR|(intro)|apply Zf)
 all_goals ((try simp only[std,inj]at *);with_reducible and_intros)
 all_goals try with_reducible first|apply Zf
 all_goals try first|exact z|grind[fnd,Yq3,Ypz,Yla,Ylb,Yl5])
theorem Zac (L:List YC) (s:YS_):Zd9 L s:=Ylh call180 func180 (.i (s.Ka≠1) (.y true (.s (li (-1:Int)))) (.c [.rd] (Z1 s) (.b (Ylj s) (.s (li (-1:Int))) (.z Yl7 L (.l (Z5q L s) (Zh4 L s) [0] [.s (li 0)] 0 (.t (.s (li (-1:Int))) (.t (.s (li (fnd L s))) .q))))))) (by
 dsimp only[Yl3,Zd9,Yle,Z5q]
 with_reducible repeat' (first|apply ah|exact zR|(intro)|apply Zf)
 all_goals ((try simp only[std,inj]at *);with_reducible and_intros)
 all_goals try with_reducible first|apply Zf
 all_goals try first|exact z|grind[fnd,Yla,Ylb,Yl5])
def Yvt (L:List YC) (s:YS_):Int:=(L.g (fnd L s).toNat).depth
mutual
def drv (L:List YC) (v:Int):YS_->Bool
 | ⟨k,n,t,s,l⟩=>if k=1 then decide (0<=fnd L ⟨k,n,t,s,l⟩)&&decide (v<Yvt L ⟨k,n,t,s,l⟩) else Y1dh L v l
def Y1dh (L:List YC) (v:Int):List YS_->Bool
 | []=>false
 | x :: r=>drv L v x||Y1dh L v r
end
theorem Y1ia (L:List YC) (v:Int):∀ l,Y1dh L v l=l.any (drv L v)
 | []=>by simp[Y1dh]
 | x :: r=>by rw[Y1dh,Y1ia L v r];rfl
theorem Y1pq (L:List YC) (v:Int) (t:YS_):drv L v t=if t.Ka=1 then decide (0<=fnd L t)&&decide (v<Yvt L t) else t.Ia.any (drv L v):=by cases t;simp only[drv,Y1ia]
mutual
def fit (L:List YC):YS_->Int->Bool
 | ⟨k,n,t,s,l⟩,v=>if k=1 then !Ylj ⟨k,n,t,s,l⟩&&(decide (fnd L ⟨k,n,t,s,l⟩<0)||decide (Yvt L ⟨k,n,t,s,l⟩<=v)) else Yqa L l v
def Yqa (L:List YC):List YS_->Int->Bool
 | [],_=>true
 | [x],v=>fit L x v
 | x :: y :: r,v=>if Ylj y then !Ylj x&&drv L v x&&fit L x (v+1)&&Yqa L r v else fit L x v&&Yqa L (y :: r) v
end
theorem Y1ei (L:List YC) (t:YS_) (v:Int):fit L t v=if t.Ka=1 then !Ylj t&&(decide (fnd L t<0)||decide (Yvt L t<=v)) else Yqa L t.Ia v:=by cases t;simp only[fit]
theorem Y1qt {L:List YC}{l:List YS_}{k:Nat}{v:Int}(h:k+1=l.length):Yqa L (l.drop k) v=fit L (l.g k) v:=by
 rw[Yof oW,bB oW,Yqa]
theorem Y1ld {L:List YC}{l:List YS_}{k:Nat}{v:Int}(h:k+1<l.length) (hd:Ylj (l.g (k+1))=false):Yqa L (l.drop k) v=(fit L (l.g k) v&&Yqa L (l.drop (k+1)) v):=by
 rw[Yof (by omega:k<l.length),Yof h,Yqa,hd];rfl
theorem Y1ny {L:List YC}{l:List YS_}{k:Nat}{v:Int}(h:k+1<l.length) (hd:Ylj (l.g (k+1))):Yqa L (l.drop k) v=(!Ylj (l.g k)&&drv L v (l.g k)&&fit L (l.g k) (v+1)&&Yqa L (l.drop (k+1+1)) v):=by
 rw[Yof (by omega:k<l.length),Yof h,Yqa,hd];rfl
theorem Y1h1 {L:List YC}{l:List YS_}{k:Nat}{v:Int}(h:l.length<=k):Yqa L (l.drop k) v:=by
 rw[bB h,Yqa]
theorem Yqh {t:YS_}{k:Nat}(h:k<t.Ia.length):Ylw (t.Ia.g k)+1<=Ylw t:=by
 have:=Ytj Ylw (Yl6 h)
 rw[Yqd t];omega
abbrev Z3k (L:List YC) (t:YS_) (v:Int):Ct:=⟨203,[],[Al L,Yln t,li v],[],.sv (lb (drv L v t))⟩
def Z4w (L:List YC) (t:YS_) (v:Int):Lp Nat:=.mk 39 0 (λx=>[(0,Al L),(2,li v),(28,Af t.Ia),(29,li (t.Ia.map Yl1).length),(30,hs x 0)]) (λx=>[]) (λk=>[.s (li k)]) (λk=>k<=t.Ia.length/\t.Ia.length<=9223372036854775807/\(t.Ia.take k).any (drv L v)=false) (λk=>t.Ia.length - k) [.mk (t.Ia.any (drv L v)=false) (.exit 0) (λx=>[]) (λx=>[]) [],.mk (t.Ia.any (drv L v)) .ret (λx=>[(6,hs x 0)]) (λx=>[]) [.s (lb true)]]
theorem Zfw (L:List YC) (t:YS_) (v:Int) (ih:∀ (z:YS_),z∈t.Ia->∀ (L:List YC) (v:Int),OK (Z3k L z v)):Lp.Sem prog (Yli f203 0) (Z4w L t v):=Ylp (λk=>let v1:=t.Ia.g k;.i ((k:Int)<(t.Ia.map Yl1).length) (.x (k:Int) (t.Ia.map Yl1) (Yl8 v1) (.d [.rd,.rd,.rd] (Z3k L v1 v) (.b (drv L v v1) (.o 1 [] [.s (lb true)]) (.r ((k:Int)+1) (.g [] (k+1) [.s (li ((k:Int)+1))]))))) (.o 0 [] [])) (by
 intro k h;try dsimp only[Yl3,Yle,Z4w]at h|-
 exact z0c)
theorem Zjp (L:List YC) (t:YS_) (v:Int) (ih:∀ z∈t.Ia,∀ (L:List YC) (v:Int),Z3k L z v):Z3k L t v:=Ylh call203 func203 (let v1:=L.g (fnd L t).toNat;.i (t.Ka=1) (.c [.rd,.rd] (Zck L t) (.i (0<=fnd L t) (.x (fnd L t) (L.map Yl7) (Ym3 v1) (.s (lb (decide (v<v1.depth))))) (.s (lb false)))) (.z Yl1 t.Ia (.l (Z4w L t v) (Zfw L t v ih) [] [.s (li 0)] 0 (.t (.s (lb false)) (.t (.s (lb true)) .q))))) (by
 dsimp only[Yl3,Z3k,Yle,Z4w]
 have g:=Yvi L t
 with_reducible repeat' (first|apply ah|exact zR|exact ih|(intro))
 all_goals ((try simp only[std,inj]at *);with_reducible and_intros)
 all_goals try with_reducible first|apply ih
 all_goals try first|exact z|grind[Y1pq,Yvt,Yla,Ylb,Yl5])
theorem Zks (t:YS_):∀ (L:List YC) (v:Int),Z3k L t v:=YS_.ind (P:=λt=>∀ (L:List YC) (v:Int),Z3k L t v) (λt ih L v=>Zjp L t v ih) t
abbrev Z1t (L:List YC) (t:YS_) (v:Int):Ct:=⟨195,[],[Al L,Yln t,li v],[],.sv (lb (fit L t v))⟩
def Z4x (L:List YC) (t:YS_) (v:Int):Lp Nat:=.mk 79 0 (λx=>[(0,Al L),(2,li v),(4,.y 0),(8,hs x 0)]) (λx=>[.box (vals (Yl8 t))]) (λk=>[.s (li k)]) (λk=>t.Ia.length >= k/\Yqa L t.Ia v=Yqa L (t.Ia.drop k) v) (λk=>t.Ia.length - k) [.mk (Yqa L t.Ia v) (.exit 0) (λx=>[]) (λx=>[]) [],.mk (Yqa L t.Ia v=false) .ret (λx=>[(6,hs x 0)]) (λx=>[]) [.s (lb false)]]
theorem Zfx (L:List YC) (t:YS_) (v:Int) (h:0<=v/\v+(↑(Ylw t):Int)<=1000) (ih:∀ (z:YS_),z∈t.Ia->∀ (L:List YC) (v:Int),0<=v/\v+(↑(Ylw z):Int)<=1000->OK (Z1t L z v)):Lp.Sem prog (Yli f195 0) (Z4x L t v):=Ylp (λk=>let v1:=t.Ia.g k;let v2:=(k:Int)+1;let v3:=t.Ia.g (k+1);let v4:=((t.Ia.map Yl1).length:Int);let v5:Tq _ _:=.d [.rd,.rd,.rd] (Z1t L v1 v) (.b (!fit L v1 v) (.o 1 [] [.s (lb false)]) (.r v2 (.g [0] (k+1) [.s (li v2)])));.z Yl1 t.Ia (.i ((k:Int)<v4) (.x (k:Int) (t.Ia.map Yl1) (Yl8 v1) (.r v2 (.z Yl1 t.Ia (.i ((k:Int)+1<v4) (.r v2 (.x v2 (t.Ia.map Yl1) (Yl8 v3) (.c [.rd] (Z3n v3) (.b (Ylj v3) (.c [.rd] (Z3n v1) (.b (Ylj v1) (.y true (.o 1 [] [.s (lb false)])) (.c [.rd,.rd,.rd] (Zks v1 L v) (.b (!drv L v v1) (.o 1 [] [.s (lb false)]) (.r (v+1) (.r v2 (.d [.rd,.rd,.rd] (Z1t L v1 (v+1)) (.b (!fit L v1 (v+1)) (.o 1 [] [.s (lb false)]) (.r ((k:Int)+1+1) (.g [0] (k+1+1) [.s (li ((k:Int)+1+1))])))))))))) v5)))) (.y false v5))))) (.o 0 [] []))) (by
 intro k h;try dsimp only[Yl3,Yle,Z4x]at h|-
 have g1:=@Y1qt L t.Ia k v
 have g2:=@Y1ld L t.Ia k v
 have g3:=@Y1ny L t.Ia k v
 have g4:=@Y1h1 L t.Ia k v
 have g5:=@Yqh t k
 have g6:=@Y1h1 L t.Ia (k+1) v
 exact z01)
theorem Zjq (L:List YC) (t:YS_) (v:Int) (h:0<=v/\v+Ylw t<=1000) (ih:∀ z∈t.Ia,∀ (L:List YC) (v:Int) (h:0<=v/\v+Ylw z<=1000),Z1t L z v):Z1t L t v:=Ylh call195 func195 (let v1:=L.g (fnd L t).toNat;.i (t.Ka=1) (.c [.rd,.rd] (Zck L t) (.c [.rd] (Z3n t) (.b (!Ylj t) (.i (fnd L t<0) (.s (lb true)) (.x (fnd L t) (L.map Yl7) (Ym3 v1) (.s (lb (decide (v1.depth<=v)))))) (.s (lb false))))) (.l (Z4x L t v) (Zfx L t v h ih) [0] [.s (li 0)] 0 (.t (.s (lb true)) (.t (.s (lb false)) .q)))) (by
 dsimp only[Yl3,Z1t,Yle,Z4x]
 have g:=Yvi L t
 with_reducible repeat' (first|apply ah|exact zR|exact ih|(intro))
 all_goals ((try simp only[std,inj]at *);with_reducible and_intros)
 all_goals try with_reducible first|apply ih
 all_goals try first|exact z|grind[Y1ei,Yvt,Yla,Ylb,Yl5])
theorem Zbo (t:YS_):∀ (L:List YC) (v:Int) (h:0<=v/\v+Ylw t<=1000),Z1t L t v:=YS_.ind (P:=λt=>∀ (L:List YC) (v:Int) (h:0<=v/\v+Ylw t<=1000),Z1t L t v) (λt ih L v h=>Zjq L t v h ih) t
def tmF (L:List YC) (t:YS_):Bool:=L.all (λx=>Ypz x.name&&decide (0<=x.depth))&&Yld t&&fit L t 0
abbrev Zeo (L:List YC) (t:YS_):Ct:=⟨153,[],[Al L,Yln t],[],.sv (lb (tmF L t))⟩
def Z76 (L:List YC) (t:YS_):Lp Nat:=let v1:=L.map Yl7;.mk 30 0 (λx=>[(0,ll v1),(3,.y 0),(7,ll v1),(8,li (L.map Yl7).length),(9,hs x 0)]) (λx=>[.box (vals (Yl8 t))]) (λk=>[.s (li k)]) (λk=>k<=L.length/\L.length<=9223372036854775807/\((L.take k).all λx=>Ypz x.name&&decide (0<=x.depth))=true) (λk=>L.length - k) [.mk ((L.all λx=>Ypz x.name&&decide (0<=x.depth))=true) (.exit 0) (λx=>[(0,ll v1),(3,.y 0)]) (λx=>[.box (vals (Yl8 t))]) [],.mk ((L.all λx=>Ypz x.name&&decide (0<=x.depth))=false) .ret (λx=>[(4,hs x 0)]) (λx=>[]) [.s (lb false)]]
theorem Zi6 (L:List YC) (t:YS_):Lp.Sem prog (Yli f153 0) (Z76 L t):=Ylp (λk=>let v1:=L.g k;.i ((k:Int)<(L.map Yl7).length) (.x (k:Int) (L.map Yl7) (Ym3 v1) (.c [.rd] (Zcf v1.name) (.b (!(decide (v1.name.Ka=1)&&Yld v1.name)) (.y true (.o 1 [] [.s (lb false)])) (.i (v1.depth<0) (.o 1 [] [.s (lb false)]) (.r ((k:Int)+1) (.g [0] (k+1) [.s (li ((k:Int)+1))])))))) (.o 0 [0] [])) (by
 intro k h;try dsimp only[Yl3,Yle,Z76]at h|-
 exact z0t)
theorem Zkt (L:List YC) (t:YS_):Zeo L t:=Ylh call153 func153 (.z Yl7 L (.l (Z76 L t) (Zi6 L t) [0] [.s (li 0)] 0 (.t (.c [.rd] (Z81 t) (.b (Yld t) (.d [.rd,.rd,.rd] (Z1t L t 0) (.s (lb (fit L t 0)))) (.s (lb false)))) (.t (.s (lb false)) .q)))) (by
 dsimp only[Yl3,Zeo,Yle,Z76]
 with_reducible repeat' (first|apply ah|exact zR|(intro)|apply Zbo)
 all_goals ((try simp only[std,inj]at *);with_reducible and_intros)
 all_goals try with_reducible first|apply Zbo
 all_goals try first|exact z|grind[tmF,Yld,Yla,Ylb,Yl5])
mutual
def Yrb:YS_->Bool
 | ⟨k,n,t,s,l⟩ => !Ylj ⟨k,n,t,s,l⟩&&Ymp true l
def Ymp:Bool->List YS_->Bool
 | _,[]=>true
 | b,x :: r=>if Ylj x then !b&&Ymp true r else Yrb x&&Ymp false r
end
theorem Y1a8 (t:YS_):Yrb t=(!Ylj t&&Ymp true t.Ia):=by cases t;simp only[Yrb]
def Yws (l:List YS_) (k:Nat):Bool:=decide (k=0)||Ylj (l.g (k - 1))
theorem Y1lb {l:List YS_}{b:Bool}{k:Nat}(h:k<l.length):Ymp b (l.drop k)=if Ylj (l.g k) then !b&&Ymp true (l.drop (k+1)) else Yrb (l.g k)&&Ymp false (l.drop (k+1)):=by
 rw[Yof h,Ymp]
theorem Y1p4 {l:List YS_}{b:Bool}{k:Nat}(h:l.length<=k):Ymp b (l.drop k):=by
 rw[bB h,Ymp]
abbrev Zw (t:YS_):Ct:=⟨142,[],[Yln t],[],.sv (lb (Yrb t))⟩
def Z21 (t:YS_):Lp Nat:=.mk 32 0 (λx=>[(1,.y 0),(8,Af t.Ia),(9,li (t.Ia.map Yl1).length),(10,hs x 0)]) (λx=>[.box (vals (Yl8 t))]) (λk=>[.s (li k)]) (λk=>k<=t.Ia.length/\t.Ia.length<=9223372036854775807/\Ymp true t.Ia=Ymp (Yws t.Ia k) (t.Ia.drop k)) (λk=>t.Ia.length - k) [.mk (Ymp true t.Ia) (.exit 0) (λx=>[]) (λx=>[]) [],.mk (Ymp true t.Ia=false) .ret (λx=>[(2,hs x 0)]) (λx=>[]) [.s (lb false)]]
theorem Zbp (t:YS_) (ih:∀ (z:YS_),z∈t.Ia->OK (Zw z)):Lp.Sem prog (Yli f142 0) (Z21 t):=Ylp (λk=>let v1:=t.Ia.g ((k:Int) - 1).toNat;let v2:=t.Ia.g k;let v3:Tq _ _:=.r ((k:Int)+1) (.g [0] (k+1) [.s (li ((k:Int)+1))]);.i ((k:Int)<(t.Ia.map Yl1).length) (.x (k:Int) (t.Ia.map Yl1) (Yl8 v2) (.c [.rd] (Z1 v2) (.b (Ylj v2) (.i ((k:Int)=0) (.y true (.o 1 [] [.s (lb false)])) (.r ((k:Int) - 1) (.x ((k:Int) - 1) (t.Ia.map Yl1) (Yl8 v1) (.c [.rd] (Z1 v1) (.b (Ylj v1) (.o 1 [] [.s (lb false)]) v3))))) (.d [.rd] (Zw v2) (.b (!Yrb v2) (.o 1 [] [.s (lb false)]) v3))))) (.o 0 [] [])) (by
 intro k h;try dsimp only[Yl3,Yle,Z21]at h|-
 have g1:=@Y1lb t.Ia (Yws t.Ia k) k
 have g2:=@Y1p4 t.Ia (Yws t.Ia k) k
 have e:((k:Int) - 1).toNat=k - 1:=by omega
 have g3:Yws t.Ia k=(decide (k=0)||Ylj (t.Ia.g (k - 1))):=rfl
 have g4:Yws t.Ia (k+1)=Ylj (t.Ia.g k):=by simp[Yws]
 exact z01)
theorem Zep (t:YS_) (ih:∀ z∈t.Ia,Zw z):Zw t:=Ylh call142 func142 (.c [.rd] (Z1 t) (.b (Ylj t) (.s (lb false)) (.z Yl1 t.Ia (.l (Z21 t) (Zbp t ih) [0] [.s (li 0)] 0 (.t (.s (lb true)) (.t (.s (lb false)) .q)))))) (by
 dsimp only[Yl3,Zw,Yle,Z21]
 with_reducible repeat' (first|apply ah|exact zR|exact ih|(intro))
 all_goals ((try simp only[std,inj]at *);with_reducible and_intros)
 all_goals try with_reducible first|apply ih
 all_goals try first|exact z|grind[Y1a8,Yws,Yla,Ylb,Yl5])
theorem Zbq (t:YS_):Zw t:=YS_.ind (P:=λt=>Zw t) (λt ih=>Zep t ih) t
mutual
def dee (L:List YC):YS_->Int
 | ⟨k,n,t,s,l⟩=>Y1go L l (if k=1/\0<=fnd L ⟨k,n,t,s,l⟩ then Yvt L ⟨k,n,t,s,l⟩ else -1)
def Y1go (L:List YC):List YS_->Int->Int
 | [],b=>b
 | x :: r,b=>Y1go L r (max b (dee L x))
end
theorem Y1ic (L:List YC):∀ l b,Y1go L l b=l.foldl (λb x=>max b (dee L x)) b
 | [],_=>by rw[Y1go];rfl
 | x :: r,b=>by rw[Y1go,Y1ic L r];rfl
def Y115 (L:List YC) (t:YS_):Int:=if t.Ka=1/\0<=fnd L t then Yvt L t else -1
theorem Y1rc (L:List YC) (t:YS_):dee L t=t.Ia.foldl (λb x=>max b (dee L x)) (Y115 L t):=by cases t;simp only[dee,Y1ic,Y115]
abbrev Z23 (L:List YC) (t:YS_):Ct:=⟨181,[],[Al L,Yln t],[],.sv (li (dee L t))⟩
def Z24 (L:List YC) (t:YS_):Lp Nat:=.mk 33 0 (λx=>[(0,Al L),(5,hs x 1),(20,Af t.Ia),(21,li (t.Ia.map Yl1).length),(22,hs x 0)]) (λx=>[]) (λk=>[.s (li k),.s (li (List.foldl (λb x=>max b (dee L x)) (Y115 L t) (t.Ia.take k)))]) (λk=>k<=t.Ia.length/\t.Ia.length<=9223372036854775807) (λk=>t.Ia.length - k) [.mk True (.exit 0) (λx=>[(5,hs x 0)]) (λx=>[]) [.s (li (dee L t))]]
theorem Z9c (L:List YC) (t:YS_) (ih:∀ (z:YS_),z∈t.Ia->∀ (L:List YC),OK (Z23 L z)):Lp.Sem prog (Yli f181 0) (Z24 L t):=Ylp (λk=>let v1:=t.Ia.g k;.i ((k:Int)<(t.Ia.map Yl1).length) (.x (k:Int) (t.Ia.map Yl1) (Yl8 v1) (.d [.rd,.rd] (Z23 L v1) (.r ((k:Int)+1) (.g [] (k+1) [.s (li ((k:Int)+1)),.s (li (max (List.foldl (λb x=>max b (dee L x)) (Y115 L t) (t.Ia.take k)) (dee L v1)))])))) (.o 0 [] [.s (li (List.foldl (λb x=>max b (dee L x)) (Y115 L t) (t.Ia.take k)))])) (by
 intro k h;try dsimp only[Yl3,Yle,Z24]at h|-
 with_reducible repeat' (first|apply ah|exact zR|exact ih|(intro)|apply ih)
 all_goals ((try simp only[std,inj]at *);with_reducible and_intros)
 all_goals try with_reducible first|apply ih
 all_goals try first|exact z|grind[Yse,Yl6,Y1rc,Yla,Ylb,Yl5])
theorem Zi7 (L:List YC) (t:YS_) (ih:∀ z∈t.Ia,∀ (L:List YC),Z23 L z):Z23 L t:=Ylh call181 func181 (let v1:=if t.Ka=1 then fnd L t else (-1:Int);.c [.rd,.rd] (Zac L t) (.i (0<=if t.Ka=1 then fnd L t else (-1:Int)) (.x v1 (L.map Yl7) (Ym3 (L.g v1.toNat)) (.z Yl1 t.Ia (.l (Z24 L t) (Z9c L t ih) [] [.s (li 0),.s (li (L.g v1.toNat).depth)] 0 (.t (.s (li (dee L t))) .q)))) (.z Yl1 t.Ia (.l (Z24 L t) (Z9c L t ih) [] [.s (li 0),.s (li (-1:Int))] 0 (.t (.s (li (dee L t))) .q))))) (by
 dsimp only[Yl3,Z23,Yle,Z24]
 have g:=Yvi L t
 with_reducible repeat' (first|apply ah|exact zR|exact ih|(intro))
 all_goals ((try simp only[std,inj]at *);with_reducible and_intros)
 all_goals try with_reducible first|apply ih
 all_goals try first|exact z|grind[Y115,Yvt,Yla,Ylb,Yl5])
theorem Zke (t:YS_):∀ (L:List YC),Z23 L t:=YS_.ind (P:=λt=>∀ (L:List YC),Z23 L t) (λt ih L=>Zi7 L t ih) t
mutual
def Ys1 (L:List YC):YS_->Int->Bool
 | ⟨k,n,t,s,l⟩,v=>if k=1/\0<=fnd L ⟨k,n,t,s,l⟩ then decide (Yvt L ⟨k,n,t,s,l⟩<=v) else Ynv L l v
def Ynv (L:List YC):List YS_->Int->Bool
 | [],_=>true
 | [x],v=>if Ylj x then true else Ys1 L x v
 | x :: y :: r,v=>if Ylj x then Ynv L (y :: r) v else if Ylj y then decide (v<dee L x)&&Ys1 L x (v+1)&&Ynv L (y :: r) v else Ys1 L x v&&Ynv L (y :: r) v
end
theorem Y1k4 (L:List YC) (t:YS_) (v:Int):Ys1 L t v=if t.Ka=1/\0<=fnd L t then decide (Yvt L t<=v) else Ynv L t.Ia v:=by cases t;simp only[Ys1]
theorem Y1mv {L:List YC}{l:List YS_}{k:Nat}{v:Int}(h:k+1=l.length):Ynv L (l.drop k) v=if Ylj (l.g k) then true else Ys1 L (l.g k) v:=by
 rw[Yof oW,bB oW,Ynv]
theorem Y1mk {L:List YC}{l:List YS_}{k:Nat}{v:Int}(h:k+1<l.length):Ynv L (l.drop k) v=if Ylj (l.g k) then Ynv L (l.drop (k+1)) v else
  if Ylj (l.g (k+1)) then decide (v<dee L (l.g k))&&Ys1 L (l.g k) (v+1)&&Ynv L (l.drop (k+1)) v else Ys1 L (l.g k) v&&Ynv L (l.drop (k+1)) v:=by
 rw[Yof (by omega:k<l.length),Yof h,Ynv]
theorem Y1b7 {L:List YC}{l:List YS_}{k:Nat}{v:Int}(h:l.length<=k):Ynv L (l.drop k) v:=by
 rw[bB h,Ynv]
abbrev Z13 (L:List YC) (t:YS_) (v:Int):Ct:=⟨143,[],[Al L,Yln t,li v],[],.sv (lb (Ys1 L t v))⟩
def Z43 (L:List YC) (t:YS_) (v:Int):Lp Nat:=.mk 62 0 (λx=>[(0,Al L),(2,li v),(4,.y 0),(24,Af t.Ia),(25,li (t.Ia.map Yl1).length),(26,hs x 0)]) (λx=>[.box (vals (Yl8 t))]) (λk=>[.s (li k)]) (λk=>k<=t.Ia.length/\t.Ia.length<=9223372036854775807/\Ynv L t.Ia v=Ynv L (t.Ia.drop k) v) (λk=>t.Ia.length - k) [.mk (Ynv L t.Ia v) (.exit 0) (λx=>[]) (λx=>[]) [],.mk (Ynv L t.Ia v=false) .ret (λx=>[(6,hs x 0)]) (λx=>[]) [.s (lb false)]]
theorem Zeq (L:List YC) (t:YS_) (v:Int) (h:0<=v/\v+(↑(Ylw t):Int)<=1000) (ih:∀ (z:YS_),z∈t.Ia->∀ (L:List YC) (v:Int),0<=v/\v+(↑(Ylw z):Int)<=1000->OK (Z13 L z v)):Lp.Sem prog (Yli f143 0) (Z43 L t v):=Ylp (λk=>let v1:=t.Ia.g k;let v6:=(k:Int)+1;let v2:Tq _ _:=.r v6 (.g [0] (k+1) [.s (li v6)]);let v3:=t.Ia.g (k+1);let v4:=((t.Ia.map Yl1).length:Int);let v5:Tq _ _:=.d [.rd,.rd,.rd] (Z13 L v1 v) (.b (!Ys1 L v1 v) (.o 1 [] [.s (lb false)]) v2);.i ((k:Int)<v4) (.x (k:Int) (t.Ia.map Yl1) (Yl8 v1) (.c [.rd] (Z1 v1) (.b (Ylj v1) v2 (.r v6 (.z Yl1 t.Ia (.i ((k:Int)+1<v4) (.r v6 (.x v6 (t.Ia.map Yl1) (Yl8 v3) (.c [.rd] (Z1 v3) (.b (Ylj v3) (.c [.rd,.rd] (Zke v1 L) (.i (dee L v1<=v) (.o 1 [] [.s (lb false)]) (.r (v+1) (.d [.rd,.rd,.rd] (Z13 L v1 (v+1)) (.b (!Ys1 L v1 (v+1)) (.o 1 [] [.s (lb false)]) v2))))) v5)))) (.y false v5))))))) (.o 0 [] [])) (by
 intro k h;try dsimp only[Yl3,Yle,Z43]at h|-
 have g1:=@Y1mv L t.Ia k v
 have g2:=@Y1mk L t.Ia k v
 have g3:=@Y1b7 L t.Ia (k+1) v
 have g4:=@Y1b7 L t.Ia k v
 have g5:=@Yqh t k
 exact z01)
theorem Zi8 (L:List YC) (t:YS_) (v:Int) (h:0<=v/\v+Ylw t<=1000) (ih:∀ z∈t.Ia,∀ (L:List YC) (v:Int) (h:0<=v/\v+Ylw z<=1000),Z13 L z v):Z13 L t v:=Ylh call143 func143 (let v1:=if t.Ka=1 then fnd L t else (-1:Int);.c [.rd,.rd] (Zac L t) (.i (0<=if t.Ka=1 then fnd L t else (-1:Int)) (.x v1 (L.map Yl7) (Ym3 (L.g v1.toNat)) (.s (lb (decide ((L.g v1.toNat).depth<=v))))) (.z Yl1 t.Ia (.l (Z43 L t v) (Zeq L t v h ih) [0] [.s (li 0)] 0 (.t (.s (lb true)) (.t (.s (lb false)) .q)))))) (by
 dsimp only[Yl3,Z13,Yle,Z43]
 have g:=Yvi L t
 with_reducible repeat' (first|apply ah|exact zR|exact ih|(intro))
 all_goals ((try simp only[std,inj]at *);with_reducible and_intros)
 all_goals try with_reducible first|apply ih
 all_goals try first|exact z|grind[Y1k4,Yvt,Yla,Ylb,Yl5])
theorem Zad (t:YS_):∀ (L:List YC) (v:Int) (h:0<=v/\v+Ylw t<=1000),Z13 L t v:=YS_.ind (P:=λt=>∀ (L:List YC) (v:Int) (h:0<=v/\v+Ylw t<=1000),Z13 L t v) (λt ih L v h=>Zi8 L t v h ih) t
theorem Y1ar (f:YS_->Int) (v:Int):∀ (l:List YS_) (b:Int),v<l.foldl (λb x=>max b (f x)) b ↔ v<b\/∃ x∈l,v<f x
 | [],b=>by simp
 | x :: r,b=>by
  rw[bL,Y1ar f v r]
  have e:v<max b (f x) ↔ v<b\/v<f x:=by omega
  simp only[aB,exists_eq_or_imp,e,or_assoc]
theorem Y19s {t:YS_}(h:okY t) (hk:t.Ka=1):t.Ia=[]:=by
 rw[Ypo]at h
 simp only[Yq6,Ypx,af,aF,ak]at h
 have:t.Ia.length=0:=by omega
 exact List.length_eq_zero_iff.1 this
theorem Yop {t:YS_}(h:okY t):∀ x∈t.Ia,okY x:=by
 rw[Ypo,af,am]at h;exact h.1
theorem Y1xf (L:List YC) (v:Int) (hv:0<=v):∀ t:YS_,okY t->(drv L v t=decide (v<dee L t)):=by
 refine YS_.ind λt ih h => ?_
 rw[cp,ak,Y1pq,Y1rc,Y1ar]
 by_cases hk:t.Ka=1
 ·rw[ae hk,Y19s h hk]
  simp only[af,ak,cV,false_and,exists_false,or_false,Y115,hk,true_and]
  split<;>omega
 ·rw[ab hk,cJ]
  have:¬ v<Y115 L t:=by unfold Y115;rw[ab oW];omega
  constructor
  ·rintro⟨x,hx,e⟩
   exact .inr ⟨x,hx,by have:=ih x hx (Yop h x hx);rw[e]at this;exact dB this.symm⟩
  ·rintro(e|⟨x,hx,e⟩)
   ·exact absurd e this
   ·exact⟨x,hx,by rw[ih x hx (Yop h x hx)];exact bF e⟩
theorem Y1dy {L:List YC}{x:YS_}{v:Int}(h:Ylj x):fit L x v=false:=by
 have hk:x.Ka=1:=by simp only[Ylj,af,ak]at h;exact h.1
 rw[Y1ei,ae hk,h];rfl
theorem Y1l9 {x:YS_}{r:List YS_}{b:Bool}(h:Ylj x=false):Ymp b (x :: r)=Ymp true (x :: r):=by simp only[Ymp,h];rfl
theorem Y159 (L:List YC):∀ (l:List YS_),(∀ x∈l,okY x/\∀ v,0<=v->fit L x v=(Yrb x&&Ys1 L x v))->∀ v,0<=v->Yqa L l v=(Ymp true l&&Ynv L l v)
 | [],_,v,_=>by simp[Yqa,Ymp,Ynv]
 | [x],h,v,hv=>by
  rw[Yqa,Ynv,Ymp]
  have h1:=(h x aj).2 v hv
  by_cases e:Ylj x
  ·rw[ae e,ae e,Y1dy e];rfl
  ·rw[ab e,ab e,h1];simp[Ymp]
 | x :: y :: r,h,v,hv=>by
  have hx:=h x aj
  have h1:=hx.2 v hv
  have h2:=hx.2 (v+1) oW
  have ihr:=Y159 L r (λz hz=>h z (ai _ (ai _ hz))) v hv
  have ihy:=Y159 L (y :: r) (λz hz=>h z (ai _ hz)) v hv
  have hd:=Y1xf L v hv x hx.1
  rw[Yqa,Ynv]
  by_cases ey:Ylj y
  ·rw[ae ey]
   by_cases ex:Ylj x
   ·rw[ex,Ymp,ae ex];simp
   ·have ex':Ylj x=false:=by simpa using ex
    have hy:Ymp false (y :: r)=Ymp true r:=by rw[Ymp,ae ey];rfl
    have hyt:Ynv L (y :: r) v=Ynv L r v:=by
     cases r with
     | nil=>simp only[Ynv,ae ey]
     | cons z r=>rw[Ynv,ae ey]
    rw[ab ex,ae ey,Ymp,ab ex,hy,hyt,ihr,hd,h2,ex']
    cases Yrb x<;>cases Ymp true r<;>cases decide (v<dee L x)<;>cases Ys1 L x (v+1)<;>cases Ynv L r v<;>rfl
  ·have ey':Ylj y=false:=by simpa using ey
   rw[ab ey]
   by_cases ex:Ylj x
   ·rw[Y1dy ex,Ymp,ae ex];simp
   ·rw[ab ex,ab ey,Ymp,ab ex,Y1l9 ey',ihy,h1]
    cases Yrb x<;>cases Ymp true (y :: r)<;>cases Ys1 L x v<;>cases Ynv L (y :: r) v<;>rfl
theorem Y1yo (L:List YC):∀ t:YS_,okY t->∀ v,0<=v->fit L t v=(Yrb t&&Ys1 L t v):=by
 refine YS_.ind λt ih h v hv => ?_
 rw[Y1ei,Y1a8,Y1k4]
 by_cases hk:t.Ka=1
 ·rw[ae hk,Y19s h hk]
  by_cases h0:0<=fnd L t
  ·rw[ae ⟨hk,h0⟩,bK (by omega:¬ fnd L t<0)];simp[Ymp]
  ·rw[ab (λe=>h0 e.2),bF (by omega:fnd L t<0)];simp[Ymp,Ynv]
 ·have hd:Ylj t=false:=by simp[Ylj,hk]
  rw[ab hk,ab (λe=>hk e.1),hd,Y159 L t.Ia (λx hx=>⟨Yop h x hx,λv hv=>ih x hx (Yop h x hx) v hv⟩) v hv]
  simp
theorem Y21o (L:List YC) (t:YS_):tmF L t=(L.all (λx=>Ypz x.name&&decide (0<=x.depth))&&(Yld t&&(Yrb t&&Ys1 L t 0))):=by
 unfold tmF
 by_cases h:Yld t
 ·have h2:okY t:=by simp only[Yld,af]at h;exact h.2
  rw[Y1yo L t h2 0 (aJ _),Bool.and_assoc]
 ·have:Yld t=false:=by simpa using h
  rw[this];simp
abbrev Zer (L:List YC) (t:YS_):Ct:=⟨93,[],[Al L,Yln t],[],.sv (lb (tmF L t))⟩
def Z77 (L:List YC) (t:YS_):Lp Nat:=let v1:=L.map Yl7;.mk 34 0 (λx=>[(0,ll v1),(3,.y 0),(7,ll v1),(8,li (L.map Yl7).length),(9,hs x 0)]) (λx=>[.box (vals (Yl8 t))]) (λk=>[.s (li k)]) (λk=>k<=L.length/\L.length<=9223372036854775807/\((L.take k).all λx=>Ypz x.name&&decide (0<=x.depth))=true) (λk=>L.length - k) [.mk ((L.all λx=>Ypz x.name&&decide (0<=x.depth))=true) (.exit 0) (λx=>[(0,ll v1),(3,.y 0)]) (λx=>[.box (vals (Yl8 t))]) [],.mk ((L.all λx=>Ypz x.name&&decide (0<=x.depth))=false) .ret (λx=>[(4,hs x 0)]) (λx=>[]) [.s (lb false)]]
theorem Zi9 (L:List YC) (t:YS_):Lp.Sem prog (Yli f93 0) (Z77 L t):=Ylp (λk=>let v1:=L.g k;.i ((k:Int)<(L.map Yl7).length) (.x (k:Int) (L.map Yl7) (Ym3 v1) (.c [.rd] (Zf v1.name) (.b (!(decide (v1.name.Ka=1)&&Yld v1.name)) (.y true (.o 1 [] [.s (lb false)])) (.i (v1.depth<0) (.o 1 [] [.s (lb false)]) (.r ((k:Int)+1) (.g [0] (k+1) [.s (li ((k:Int)+1))])))))) (.o 0 [0] [])) (by
 intro k h;try dsimp only[Yl3,Yle,Z77]at h|-
 exact z0t)
theorem Zku (L:List YC) (t:YS_):Zer L t:=Ylh call93 func93 (.z Yl7 L (.l (Z77 L t) (Zi9 L t) [0] [.s (li 0)] 0 (.t (.c [.rd] (Zv t) (.b (Yld t) (.c [.rd] (Zbq t) (.b (Yrb t) (.d [.rd,.rd,.rd] (Z13 L t 0) (.s (lb (Ys1 L t 0)))) (.s (lb false)))) (.y false (.s (lb false))))) (.t (.s (lb false)) .q)))) (by
 dsimp only[Yl3,Zer,Yle,Z77]
 with_reducible repeat' (first|apply ah|exact zR|(intro)|apply Zf|apply Zad)
 all_goals ((try simp only[std,inj]at *);with_reducible and_intros)
 all_goals try with_reducible first|apply Zf|apply Zad
 all_goals try first|exact z|grind[Y21o,Yld,Yla,Ylb,Yl5])
end
section
theorem Y1w4 {α:Type}[Inhabited α] {p:α->Bool}{L:List α}{k:Nat}(hk:k<L.length) (hb:k<=L.findIdx p) (h:p (L.g k)):L.findIdx p=k:=by
 have h1:L.g k=L[k]:=by simp[hk]
 rw[h1]at h
 rcases bH k (L.findIdx p) with h2|h2
 ·have:=List.not_of_lt_findIdx h2
  simp[h]at this
 ·omega
theorem Y1i9 {α:Type}[Inhabited α] {p:α->Bool}{L:List α}{k:Nat}(hk:k<L.length) (hb:k<=L.findIdx p) (h:p (L.g k)=false):k+1<=L.findIdx p:=by
 have h1:L.g k=L[k]:=by simp[hk]
 rw[h1]at h
 rcases bH k (L.findIdx p) with h2|h2
 ·exact h2
 ·have e:L.findIdx p=k:=by omega
  have h3:=di (p:=p) (xs:=L) (w:=by omega)
  simp only[e,h]at h3
  exact absurd h3 dW
abbrev Z5f (L:List Int):Ct:=⟨107,[],[Ag L],[.Aa L],.sv (.r 0)⟩
theorem Zg (L:List Int) (h:L.length<=2147483647):Z5f L:=Ylh call107 func107 (.w (.bool false) (.p (∀ (e0:List Cell),e0∈L.map Yl4->∀ (c0:Cell),c0∈e0->∃ v0,c0=Cell.lit v0) (.p (∀ (x0:List Cell),x0∈L.map Yl4->x0.length=1) (.p ((0+(L.map Yl4).length) * 8<=140737488355328) (.f [1] [.Aa L] (.sv (.r 0))))))) (by
 dsimp only[Yl3,Z5f]
 exact zV)
abbrev Z6 (L:List Int):Ct:=⟨66,[],[Ag L],[.Aa L],.sv (.r 0)⟩
theorem Z0 (L:List Int) (h:L.length<=2147483647):Z6 L:=Ylh call66 func66 (.w (.bool true) (.p (∀ (e0:List Cell),e0∈L.map Yl4->∀ (c0:Cell),c0∈e0->∃ v0,c0=Cell.lit v0) (.p (∀ (x0:List Cell),x0∈L.map Yl4->x0.length=1) (.p ((0+(L.map Yl4).length) * 8<=140737488355328) (.f [0] [.Aa L] (.sv (.r 0))))))) (by
 dsimp only[Yl3,Z6]
 exact zV)
abbrev Z25 (s:YS_):Ct:=⟨51,[],[Yln s,li 0,li 0],Yp2 s,.sv (Yoq s 0)⟩
def Z4y (s:YS_):Lp Nat:=let v3:Cell:=.y;let v1:=[vI 0,vI 0,vS (mkS []),.val v3,.val v3];let v2:=[vI s.Ka,vI s.Na,vS s.Ta,.ref 2,.ref 3];.mk 62 0 (λx=>[(1,li 0),(2,li 0),(6,.y 0),(7,.y 1),(45,Af s.Ia),(46,li (s.Ia.map Yl1).length),(47,hs x 0)]) (λx=>[.box v1,.box v2,.Aa s.Sa,ho x 1]) (λk=>[.s (li k),.o (.Ae (s.Ia.take k))]) (λk=>k<=s.Ia.length/\s.Ia.length<=9223372036854775807) (λk=>s.Ia.length - k) [.mk True (.exit 1) (λx=>[(6,.y 0),(7,.y 1)]) (λx=>[.box v1,.box v2,.Aa s.Sa,ho x 0]) [.o (.Ae s.Ia)]]
theorem Zfy (s:YS_) (h:wY s<=1000000000) (ih:∀ (z:YS_),z∈s.Ia->wY z<=1000000000->OK (Z25 z)):Lp.Sem prog (Yli f51 0) (Z4y s):=Ylp (λk=>let v1:=s.Ia.g k;let v2:=(s.Ia.take k).map Yl1;.i ((k:Int)<(s.Ia.map Yl1).length) (.x (k:Int) (s.Ia.map Yl1) (Yl8 v1) (.w (.draw [(6,[9,10]),(7,[3,17]),(9,[1])]) (.d [.rd,.rd,.rd] (Z25 v1) (.p ((v2.length+1) * 80<=140737488355328) (.r ((k:Int)+1) (.g [0,1,2,18] (k+1) [.s (li ((k:Int)+1)),.o (.y 5 ((s.Ia.take k).map Yl1++[Yl8 v1]))])))))) (.o 0 [0,1,2,3] [.o (.y 5 v2)])) (by
 intro k h;try dsimp only[Yl3,Yle,Z4y]at h|-
 have g1:=Ymd s
 have g2:=@Yls _ wY s.Ia (s.Ia.g k)
 exact z05)
theorem Zjr (s:YS_) (h:wY s<=1000000000) (ih:∀ z∈s.Ia,∀ (h:wY z<=1000000000),Z25 z):Z25 s:=Ylh call51 func51 (let v1:Tq _ _:=.z Yl1 s.Ia (.w (.g (.nilbox 18 4 true 5)) (.l (Z4y s) (Zfy s h ih) [1,18,10,19] [.s (li 0),.o (.y 5 [])] 0 (.t (.f [2,3] [.Aa s.Sa,.Ae s.Ia] (.sv (.agg [vI s.Ka,vI s.Na,vS s.Ta,.ref 0,.ref 1]))) .q)));.w (.draw [(11,[18])]) (.d [.rd] (Z5f s.Sa) (.i (s.Ka=1) (.y false (.y false (.y false v1))) v1))) (by
 dsimp only[Yl3,Z25,Yle,Z4y]
 have g1:=Ymd s
 exact z0f)
theorem Zia (s:YS_):∀ (h:wY s<=1000000000),Z25 s:=YS_.ind (P:=λs=>∀ (h:wY s<=1000000000),Z25 s) (λs ih h=>Zjr s h ih) s
abbrev Z2p (s:YS_):Ct:=⟨104,[],[Yln s],Yp2 s,.sv (Yoq s 0)⟩
theorem Zh (s:YS_) (h:wY s<=1000000000):Z2p s:=Ylh call104 func104 (.d [.rd,.rd,.rd] (Z25 s) (.f [2,3] [.Aa s.Sa,.Ae s.Ia] (.sv (.agg [vI s.Ka,vI s.Na,vS s.Ta,.ref 0,.ref 1])))) (by
 dsimp only[Yl3,Z2p]
 exact z00)
def fnA (f:FuncId):SV:=.one (.val (.lit (.func (.func f) #[] #[])))
abbrev Z26 (s:YS_):Ct:=⟨65,[],[Yln s,fnA 66],Yp2 s,.sv (Yoq s 0)⟩
def Z2w (s:YS_):Lp Nat:=let v3:Cell:=.y;let v1:=[vI 0,vI 0,vS (mkS []),.val v3,.val v3];let v2:=[vI s.Ka,vI s.Na,vS s.Ta,.ref 2,.ref 3];.mk 43 0 (λx=>[(1,.one (.val (.lit (.func (Fn.func 66) #[] #[])))),(4,.y 0),(5,.y 1),(27,Af s.Ia),(28,li (s.Ia.map Yl1).length),(29,hs x 0)]) (λx=>[.box v1,.box v2,.Aa s.Sa,ho x 1]) (λk=>[.s (li k),.o (.Ae (s.Ia.take k))]) (λk=>k<=s.Ia.length/\s.Ia.length<=9223372036854775807) (λk=>s.Ia.length - k) [.mk True (.exit 0) (λx=>[(4,.y 0),(5,.y 1)]) (λx=>[.box v1,.box v2,.Aa s.Sa,ho x 0]) [.o (.Ae s.Ia)]]
theorem Zay (s:YS_) (h:wY s<=1000000000) (ih:∀ (z:YS_),z∈s.Ia->wY z<=1000000000->OK (Z26 z)):Lp.Sem prog (Yli f65 0) (Z2w s):=Ylp (λk=>let v1:=s.Ia.g k;let v2:=(s.Ia.take k).map Yl1;.i ((k:Int)<(s.Ia.map Yl1).length) (.x (k:Int) (s.Ia.map Yl1) (Yl8 v1) (.w (.draw [(5,[9,10]),(6,[3,17]),(8,[1])]) (.d [.rd,.rd] (Z26 v1) (.p ((v2.length+1) * 80<=140737488355328) (.r ((k:Int)+1) (.g [0,1,2,18] (k+1) [.s (li ((k:Int)+1)),.o (.y 5 ((s.Ia.take k).map Yl1++[Yl8 v1]))])))))) (.o 0 [0,1,2,3] [.o (.y 5 v2)])) (by
 intro k h;try dsimp only[Yl3,Yle,Z2w]at h|-
 have g1:=Ymd s
 have g2:=@Yls _ wY s.Ia (s.Ia.g k)
 exact z05)
theorem Zjs (s:YS_) (h:wY s<=1000000000) (ih:∀ z∈s.Ia,∀ (h:wY z<=1000000000),Z26 z):Z26 s:=Ylh call65 func65 (let v1:Tq _ _:=.t (.f [2,3] [.Aa s.Sa,.Ae s.Ia] (.sv (.agg [vI s.Ka,vI s.Na,vS s.Ta,.ref 0,.ref 1]))) .q;.w (.draw [(11,[18])]) (.d [.rd] (Z6 s.Sa) (.i (s.Ka=1) (.d [.rd] (Z6 s.Sa) (.z Yl1 s.Ia (.w (.g (.nilbox 18 4 true 5)) (.l (Z2w s) (Zay s h ih) [1,18,19,20] [.s (li 0),.o (.y 5 [])] 0 v1)))) (.z Yl1 s.Ia (.w (.g (.nilbox 18 4 true 5)) (.l (Z2w s) (Zay s h ih) [1,18,10,19] [.s (li 0),.o (.y 5 [])] 0 v1)))))) (by
 dsimp only[Yl3,Z26,Yle,Z2w]
 have g1:=Ymd s
 exact z0f)
theorem Zib (s:YS_):∀ (h:wY s<=1000000000),Z26 s:=YS_.ind (P:=λs=>∀ (h:wY s<=1000000000),Z26 s) (λs ih h=>Zjs s h ih) s
abbrev Zj (s:YS_):Ct:=⟨26,[],[Yln s],Yp2 s,.sv (Yoq s 0)⟩
theorem Z2 (s:YS_) (h:wY s<=1000000000):Zj s:=Ylh call26 func26 (.d [.rd,.rd] (Z26 s) (.f [2,3] [.Aa s.Sa,.Ae s.Ia] (.sv (.agg [vI s.Ka,vI s.Na,vS s.Ta,.ref 0,.ref 1])))) (by
 dsimp only[Yl3,Zj]
 exact z00)
def Ynb (s:YS_):Bool:=decide (s.Ta.data.toList=[95])
def Yot (x:YS_):Bool:=Ypz x && !Ylj x && !Ynb x
def okL (L:List YS_):Bool:=L.all Yot&&decide ((L.length:Int)<=8)
def Ynu (L:List YS_) (s:YS_):Bool:=L.any λx=>decide (x.Ta=s.Ta)&&decide (x.Sa=s.Sa)
def Yph (x s:YS_):Bool:=decide (x.Ka=1)&&decide (s.Ka=1)&&decide (x.Ta=s.Ta)&&decide (x.Sa=s.Sa)
def Yow (L:List YS_) (s:YS_):Bool:=L.any λx=>Yph x s
theorem Y1q6 {α:Type}[Inhabited α] {L:List α}{p:α->Bool}{k:Nat}(h:k<L.length) (hp:p (L.g k)=false):L.all p=false:=by
 rw[bW];exact⟨_,Yl6 h,by rw[hp];decide⟩
theorem Y195 (x:YS_):Yot x=((decide (x.Ka=1)&&Yld x) && !Ylj x && !decide (x.Ta.data.toList=[95])):=rfl
abbrev Zda (L:List YS_):Ct:=⟨148,[],[Af L],[],.sv (lb (okL L))⟩
def Z5r (L:List YS_):Lp Nat:=let v1:=L.map Yl1;.mk 27 0 (λx=>[(0,ll v1),(5,ll v1),(6,li (L.map Yl1).length),(7,hs x 0)]) (λx=>[]) (λk=>[.s (li k)]) (λk=>k<=L.length/\L.length<=9223372036854775807/\(L.take k).all Yot) (λk=>L.length - k) [.mk (L.all Yot) (.exit 0) (λx=>[(0,ll v1)]) (λx=>[]) [],.mk (L.all Yot=false) .ret (λx=>[(2,hs x 0)]) (λx=>[]) [.s (lb false)]]
theorem Zh5 (L:List YS_):Lp.Sem prog (Yli f148 0) (Z5r L):=Ylp (λk=>let v1:=L.g k;.i ((k:Int)<(L.map Yl1).length) (.x (k:Int) (L.map Yl1) (Yl8 v1) (.c [.rd] (Zcf v1) (.b (!(decide (v1.Ka=1)&&Yld v1)) (.y true (.y true (.o 1 [] [.s (lb false)]))) (.c [.rd] (Z3n v1) (.b (Ylj v1) (.y true (.o 1 [] [.s (lb false)])) (.i (v1.Ta.data.toList=[95]) (.o 1 [] [.s (lb false)]) (.r ((k:Int)+1) (.g [] (k+1) [.s (li ((k:Int)+1))])))))))) (.o 0 [] [])) (by
 intro k h;try dsimp only[Yl3,Yle,Z5r]at h|-
 have g1:=@Y1q6 _ _ L Yot k
 have g2:=Y195 (L.g k)
 with_reducible repeat' (first|apply ah|exact zR|(intro))
 all_goals ((try simp only[std,inj]at *);with_reducible and_intros)
 all_goals try first|exact z|grind[Ylk,Yla,Ylb,Yl5])
theorem Zkf (L:List YS_):Zda L:=Ylh call148 func148 (.z Yl1 L (.l (Z5r L) (Zh5 L) [] [.s (li 0)] 0 (.t (.z Yl1 L (.s (lb (decide (((L.map Yl1).length:Int)<=8))))) (.t (.s (lb false)) .q)))) (by
 dsimp only[Yl3,Zda,Yle,Z5r]
 with_reducible repeat' (first|apply ah|exact zR|(intro))
 all_goals ((try simp only[std,inj]at *);with_reducible and_intros)
 all_goals try first|exact z|grind[okL,Yla,Ylb,Yl5])
abbrev Zdb (s:YS_):Ct:=⟨140,[],[Yln s],[],.sv (lb (decide (s.Ka=1)&&Ynb s))⟩
theorem Zae (s:YS_):Zdb s:=Ylh call140 func140 (.i (s.Ka=1) (.s (lb (decide (s.Ta.data.toList=[95])))) (.s (lb false))) (by
 dsimp only[Yl3,Zdb]
 with_reducible repeat' (first|apply ah|exact zR|(intro))
 all_goals ((try simp only[std,inj]at *);with_reducible and_intros)
 all_goals try first|exact z|grind[Ynb,Yla,Ylb,Yl5])
abbrev Zdc (L:List YS_):Ct:=⟨89,[],[Af L],[],.sv (lb (okL L))⟩
def Z5s (L:List YS_):Lp Nat:=.mk 26 0 (λx=>[(8,Af L),(9,li (L.map Yl1).length),(10,hs x 0)]) (λx=>[]) (λk=>[.s (li k)]) (λk=>k<=L.length/\L.length<=9223372036854775807/\(L.take k).all Yot) (λk=>L.length - k) [.mk (L.all Yot) (.exit 0) (λx=>[]) (λx=>[]) [],.mk (L.all Yot=false) .ret (λx=>[(2,hs x 0)]) (λx=>[]) [.s (lb false)]]
theorem Zh6 (L:List YS_):Lp.Sem prog (Yli f89 0) (Z5s L):=Ylp (λk=>let v1:=L.g k;.i ((k:Int)<(L.map Yl1).length) (.x (k:Int) (L.map Yl1) (Yl8 v1) (.c [.rd] (Zf v1) (.b (!(decide (v1.Ka=1)&&Yld v1)) (.y true (.y true (.o 1 [] [.s (lb false)]))) (.c [.rd] (Z1 v1) (.b (Ylj v1) (.y true (.o 1 [] [.s (lb false)])) (.c [.rd] (Zae v1) (.b (decide (v1.Ka=1)&&Ynb v1) (.o 1 [] [.s (lb false)]) (.r ((k:Int)+1) (.g [] (k+1) [.s (li ((k:Int)+1))]))))))))) (.o 0 [] [])) (by
 intro k h;try dsimp only[Yl3,Yle,Z5s]at h|-
 with_reducible repeat' (first|apply ah|exact zR|(intro)|apply Zf|apply Z1)
 all_goals ((try simp only[std,inj]at *);with_reducible and_intros)
 all_goals try with_reducible first|apply Zf|apply Z1
 all_goals try first|exact z|grind[Ylk,Yot,Ypz,Yl6,Yla,Ylb,Yl5])
theorem Zgn (L:List YS_):Zdc L:=Ylh call89 func89 (.z Yl1 L (.i (8<((L.map Yl1).length:Int)) (.s (lb false)) (.z Yl1 L (.l (Z5s L) (Zh6 L) [] [.s (li 0)] 0 (.t (.s (lb true)) (.t (.s (lb false)) .q)))))) (by
 dsimp only[Yl3,Zdc,Yle,Z5s]
 with_reducible repeat' (first|apply ah|exact zR|(intro)|apply Zf|apply Z1)
 all_goals ((try simp only[std,inj]at *);with_reducible and_intros)
 all_goals try with_reducible first|apply Zf|apply Z1
 all_goals try first|exact z|grind[okL,Yla,Ylb,Yl5])
abbrev Zdd (L:List YS_) (s:YS_):Ct:=⟨192,[],[Af L,Yln s],[],.sv (lb (Ynu L s))⟩
def Z5t (L:List YS_) (s:YS_):Lp Nat:=.mk 17 0 (λx=>[(3,.y 0),(7,Af L),(8,li (L.map Yl1).length),(9,hs x 0)]) (λx=>[.box (vals (Yl8 s))]) (λk=>[.s (li k)]) (λk=>k<=L.length/\L.length<=9223372036854775807/\Ynu (L.take k) s=false) (λk=>L.length - k) [.mk (Ynu L s=false) (.exit 0) (λx=>[]) (λx=>[]) [],.mk (Ynu L s) .ret (λx=>[(4,hs x 0)]) (λx=>[]) [.s (lb true)]]
theorem Zh7 (L:List YS_) (s:YS_):Lp.Sem prog (Yli f192 0) (Z5t L s):=Ylp (λk=>let v1:=L.g k;.i ((k:Int)<(L.map Yl1).length) (.x (k:Int) (L.map Yl1) (Yl8 v1) (.c [.rd,.rd] (Zgm v1 s) (.b (decide (v1.Ta=s.Ta)&&decide (v1.Sa=s.Sa)) (.o 1 [] [.s (lb true)]) (.r ((k:Int)+1) (.g [0] (k+1) [.s (li ((k:Int)+1))]))))) (.o 0 [] [])) (by
 intro k h;try dsimp only[Yl3,Yle,Z5t]at h|-
 with_reducible repeat' (first|apply ah|exact zR|(intro))
 all_goals ((try simp only[std,inj]at *);with_reducible and_intros)
 all_goals try first|exact z|grind[Ylk,Ynu,Yl6,Yla,Ylb,Yl5])
theorem Zkg (L:List YS_) (s:YS_):Zdd L s:=Ylh call192 func192 (.z Yl1 L (.l (Z5t L s) (Zh7 L s) [0] [.s (li 0)] 0 (.t (.s (lb false)) (.t (.s (lb true)) .q)))) (by
 dsimp only[Yl3,Zdd,Yle,Z5t]
 with_reducible repeat' (first|apply ah|exact zR|(intro))
 all_goals ((try simp only[std,inj]at *);with_reducible and_intros)
 all_goals try first|exact z|grind[Ynu,Yla,Ylb,Yl5])
abbrev Zde (L:List YS_) (s:YS_):Ct:=⟨163,[],[Af L,Yln s],[],.sv (lb (Yow L s))⟩
def Z5u (L:List YS_) (s:YS_):Lp Nat:=.mk 17 0 (λx=>[(3,.y 0),(7,Af L),(8,li (L.map Yl1).length),(9,hs x 0)]) (λx=>[.box (vals (Yl8 s))]) (λk=>[.s (li k)]) (λk=>k<=L.length/\L.length<=9223372036854775807/\Yow (L.take k) s=false) (λk=>L.length - k) [.mk (Yow L s=false) (.exit 0) (λx=>[]) (λx=>[]) [],.mk (Yow L s) .ret (λx=>[(4,hs x 0)]) (λx=>[]) [.s (lb true)]]
theorem Zh8 (L:List YS_) (s:YS_):Lp.Sem prog (Yli f163 0) (Z5u L s):=Ylp (λk=>let v1:=L.g k;.i ((k:Int)<(L.map Yl1).length) (.x (k:Int) (L.map Yl1) (Yl8 v1) (.c [.rd,.rd] (Zcj v1 s) (.b (decide (v1.Ka=1)&&decide (s.Ka=1)&&decide (v1.Ta=s.Ta)&&decide (v1.Sa=s.Sa)) (.o 1 [] [.s (lb true)]) (.r ((k:Int)+1) (.g [0] (k+1) [.s (li ((k:Int)+1))]))))) (.o 0 [] [])) (by
 intro k h;try dsimp only[Yl3,Yle,Z5u]at h|-
 with_reducible repeat' (first|apply ah|exact zR|(intro))
 all_goals ((try simp only[std,inj]at *);with_reducible and_intros)
 all_goals try first|exact z|grind[Ylk,Yow,Yph,Yl6,Yla,Ylb,Yl5])
theorem Zcl (L:List YS_) (s:YS_):Zde L s:=Ylh call163 func163 (.z Yl1 L (.l (Z5u L s) (Zh8 L s) [0] [.s (li 0)] 0 (.t (.s (lb false)) (.t (.s (lb true)) .q)))) (by
 dsimp only[Yl3,Zde,Yle,Z5u]
 with_reducible repeat' (first|apply ah|exact zR|(intro))
 all_goals ((try simp only[std,inj]at *);with_reducible and_intros)
 all_goals try first|exact z|grind[Yow,Yla,Ylb,Yl5])
def atF (l:List YS_):Nat->Int
 | 0 => -1
 | k+1=>if Ylj (l.g k) then (k:Int) else atF l k
def okA (l:List YS_):Nat->Bool
 | 0=>true
 | k+1=>okA l k&&(!Ylj (l.g k)||(decide (k≠0)&&decide (atF l k<0)))
def atS (l:List YS_):Int:=atF l l.length
def okS (l:List YS_):Bool:=okA l l.length
theorem Y1qu (l:List YS_):∀ (m k:Nat),k<=m->okA l m->okA l k
 | 0,k,h,_=>by
  obtain rfl:k=0:=by omega
  rfl
 | m+1,k,h,ht=>by
  by_cases e:k=m+1
  ·rw[e];exact ht
  ·refine Y1qu l m k oW ?_
   simp only[okA,af]at ht;exact ht.1
def atI (l:List YS_):Int:=if l.findIdx Ylj<l.length then (l.findIdx Ylj:Int) else -1
abbrev Zgo (l:List YS_):Ct:=⟨194,[],[Af l],[],.tup [li (if okS l then atS l else -1),lb (okS l)]⟩
def Z8c (l:List YS_):Lp Nat:=.mk 26 0 (λx=>[(4,hs x 1),(7,Af l),(8,li (l.map Yl1).length),(9,hs x 0)]) (λx=>[]) (λk=>[.s (li k),.s (li (atF l k))]) (λk=>k<=l.length/\l.length<=9223372036854775807/\okA l k) (λk=>l.length - k) [.mk (okS l) (.exit 0) (λx=>[(4,hs x 0)]) (λx=>[]) [.s (li (atS l))],.mk (okS l=false) .ret (λx=>[(2,hs x 0),(3,hs x 1)]) (λx=>[]) [.s (li (-1:Int)),.s (lb false)]]
theorem Zjt (l:List YS_):Lp.Sem prog (Yli f194 0) (Z8c l):=Ylp (λk=>let v1:=(k:Int)+1;let v2:=l.g k;.i ((k:Int)<(l.map Yl1).length) (.x (k:Int) (l.map Yl1) (Yl8 v2) (.c [.rd] (Z3n v2) (.b (!Ylj v2) (.r v1 (.g [] (k+1) [.s (li v1),.s (li (atF l k))])) (.i ((k:Int)=0) (.y true (.o 1 [] [.s (li (-1:Int)),.s (lb false)])) (.i (0<=atF l k) (.o 1 [] [.s (li (-1:Int)),.s (lb false)]) (.r v1 (.g [] (k+1) [.s (li v1),.s (li k)]))))))) (.o 0 [] [.s (li (atF l k))])) (by
 intro k h;try dsimp only[Yl3,Yle,Z8c]at h|-
 have g1:=Y1qu l l.length (k+1)
 have g2:okA l (k+1)=(okA l k&&(!Ylj (l.g k)||(decide (k≠0)&&decide (atF l k<0)))):=rfl
 have g3:atF l (k+1)=if Ylj (l.g k) then (k:Int) else atF l k:=rfl
 with_reducible repeat' (first|apply ah|exact zR|(intro))
 all_goals ((try simp only[std,inj]at *);with_reducible and_intros)
 all_goals try first|exact z|grind[okS,atS,Yla,Ylb,Yl5])
theorem Zl0 (l:List YS_):Zgo l:=Ylh call194 func194 (.z Yl1 l (.l (Z8c l) (Zjt l) [] [.s (li 0),.s (li (-1:Int))] 0 (.t (.f [] [] (.tup [li (atS l),lb true])) (.t (.f [] [] (.tup [li (-1:Int),lb false])) .q)))) (by
 dsimp only[Yl3,Zgo,Yle,Z8c]
 with_reducible repeat' (first|apply ah|exact zR|(intro))
 all_goals ((try simp only[std,inj]at *);with_reducible and_intros)
 all_goals try first|exact z|grind[okA,atF,Yla,Ylb,Yl5])
abbrev Zgp (l:List YS_):Ct:=⟨165,[],[Af l],[],.sv (li (atI l))⟩
def Z8d (l:List YS_):Lp Nat:=.mk 16 0 (λx=>[(5,Af l),(6,li (l.map Yl1).length),(7,hs x 0)]) (λx=>[]) (λk=>[.s (li k)]) (λk=>k<=l.length/\l.length<=9223372036854775807/\k<=List.findIdx Ylj l) (λk=>l.length - k) [.mk (atI l=(-1:Int)) (.exit 0) (λx=>[]) (λx=>[]) [],.mk True .ret (λx=>[(2,hs x 0)]) (λx=>[]) [.s (li (atI l))]]
theorem Zju (l:List YS_):Lp.Sem prog (Yli f165 0) (Z8d l):=Ylp (λk=>let v1:=l.g k;.i ((k:Int)<(l.map Yl1).length) (.x (k:Int) (l.map Yl1) (Yl8 v1) (.c [.rd] (Z1 v1) (.b (Ylj v1) (.o 1 [] [.s (li k)]) (.r ((k:Int)+1) (.g [] (k+1) [.s (li ((k:Int)+1))]))))) (.o 0 [] [])) (by
 intro k h;try dsimp only[Yl3,Yle,Z8d]at h|-
 have g1:=@Y1w4 _ _ Ylj l k
 have g2:=@Y1i9 _ _ Ylj l k
 with_reducible repeat' (first|apply ah|exact zR|(intro)|apply Z1)
 all_goals ((try simp only[std,inj]at *);with_reducible and_intros)
 all_goals try with_reducible first|apply Z1
 all_goals try first|exact z|grind[atI,Yla,Ylb,Yl5])
theorem Zeb (l:List YS_):Zgp l:=Ylh call165 func165 (.z Yl1 l (.l (Z8d l) (Zju l) [] [.s (li 0)] 0 (.t (.s (li (-1:Int))) (.t (.s (li (atI l))) .q)))) (by
 dsimp only[Yl3,Zgp,Yle,Z8d]
 exact z00)
def wlk (f:YS_->Int->List YC->Option (List YC)):List YS_->Int->Int->Int->List YC->Option (List YC)
 | [],_,_,_,o=>some o
 | x :: r,i,a,d,o=>if i=a then wlk f r (i+1) a d o else match f x (if i+1=a then d+1 else d) o with
  | none=>none
  | some o'=>wlk f r (i+1) a d o'
theorem Yw4 (f:YS_->Int->List YC->Option (List YC)):∀ (A B:List YS_) (i a d:Int) (o:List YC),wlk f (A++B) i a d o=match wlk f A i a d o with
  | none=>none
  | some o'=>wlk f B (i+(A.length:Int)) a d o'
 | [],B,i,a,d,o=>by simp[wlk]
 | x :: A,B,i,a,d,o=>by
  have e:i+((x :: A).length:Int)=i+1+(A.length:Int):=by simp only[aD];omega
  simp only[bE,wlk,e]
  split
  ·exact Yw4 f A B _ a d o
  ·split
   ·rfl
   ·exact Yw4 f A B _ a d _
theorem Y119 {f:YS_->Int->List YC->Option (List YC)}{l:List YS_}{k:Nat}{a d:Int}{o o':List YC}(h:k<l.length) (e:wlk f (l.take k) 0 a d o=some o') :
  wlk f (l.take (k+1)) 0 a d o=if (k:Int)=a then some o' else f (l.g k) (if (k:Int)+1=a then d+1 else d) o':=by
 rw[Ylk h,Yw4,e]
 have:(0:Int)+((l.take k).length:Int)=(k:Int):=by simp;omega
 simp only[this,wlk]
 split
 ·rfl
 ·cases f (l.g k) (if (k:Int)+1=a then d+1 else d) o'<;>rfl
theorem Y1f8 {f:YS_->Int->List YC->Option (List YC)}{l:List YS_}{k:Nat}{a d:Int}{o:List YC}(e:wlk f (l.take k) 0 a d o=none):wlk f l 0 a d o=none:=by
 have:=Yw4 f (l.take k) (l.drop k) 0 a d o
 rw[be,e]at this;exact this
def Yue (p:YS_) (d:Int):YC:=⟨p,d,⟨0,0,mkS [],[],[]⟩,[]⟩
mutual
def vrS (Ls:List YS_):YS_->Int->List YC->Option (List YC)
 | ⟨k,n,t,s,l⟩,d,o=>if k=1 then (if Ynb ⟨k,n,t,s,l⟩=true\/Ynu Ls ⟨k,n,t,s,l⟩=true then some o else
   if Ylj ⟨k,n,t,s,l⟩=true\/0<=fnd o ⟨k,n,t,s,l⟩\/3<d then none else some (o++[Yue ⟨k,n,t,s,l⟩ d]))
  else if okS l then Y194 Ls l 0 (atS l) d o else none
def Y194 (Ls:List YS_):List YS_->Int->Int->Int->List YC->Option (List YC)
 | [],_,_,_,o=>some o
 | x :: r,i,a,d,o=>if i=a then Y194 Ls r (i+1) a d o else match vrS Ls x (if i+1=a then d+1 else d) o with
  | none=>none
  | some o'=>Y194 Ls r (i+1) a d o'
end
theorem Y1kh (Ls:List YS_):∀ l i a d o,Y194 Ls l i a d o=wlk (vrS Ls) l i a d o
 | [],i,a,d,o=>by simp[Y194,wlk]
 | x :: r,i,a,d,o=>by
  simp only[Y194,wlk,Y1kh Ls r]
theorem Yrl (Ls:List YS_) (p:YS_) (d:Int) (o:List YC):vrS Ls p d o=if p.Ka=1 then (if Ynb p\/Ynu Ls p then some o else if Ylj p\/0<=fnd o p\/3<d then none else some (o++[Yue p d]))
  else if okS p.Ia then wlk (vrS Ls) p.Ia 0 (atS p.Ia) d o else none:=by cases p;simp only[vrS,Y1kh]
theorem Yyz (f:YS_->Int->List YC->Option (List YC)):∀ (l:List YS_),(∀ x∈l,∀ d o o',f x d o=some o'->o'.length<=o.length+Ylg x)->∀ i a d o o',wlk f l i a d o=some o'->o'.length<=o.length+sumBy Ylg l
 | [],_,i,a,d,o,o',e=>by simp only[wlk,aa]at e;subst e;simp[sumBy]
 | x :: r,h,i,a,d,o,o',e=>by
  have ih:=Yyz f r λy hy=>h y (ai _ hy)
  simp only[wlk]at e
  simp only[sumBy]
  split at e
  ·have:=ih _ _ _ _ _ e;omega
  ·split at e
   ·cases e
   ·rename_i o1 h1
    have h2:=ih _ _ _ _ _ e
    have h3:=h x aj _ _ _ h1
    omega
theorem Y1wj (Ls:List YS_):∀ (p:YS_) (d:Int) (o o':List YC),vrS Ls p d o=some o'->o'.length<=o.length+Ylg p:=by
 refine YS_.ind λp ih d o o' e => ?_
 rw[Yrl]at e
 rw[Ym7]
 split at e
 ·split at e
  ·simp only[aa]at e;subst e;omega
  ·split at e
   ·cases e
   ·simp only[aa]at e;subst e;simp
 ·split at e
  ·have:=Yyz (vrS Ls) p.Ia (λx hx d o o' h=>ih x hx d o o' h) _ _ _ _ _ e;omega
  ·cases e
def vaS (Ls:List YS_) (p:YS_) (d:Int) (o:List YC) (k:Nat):List YC:=if okS p.Ia then (wlk (vrS Ls) (p.Ia.take k) 0 (atS p.Ia) d o).getD [] else o
def vbS (Ls:List YS_) (p:YS_) (d:Int) (o:List YC) (k:Nat):Bool:=okS p.Ia&&(wlk (vrS Ls) (p.Ia.take k) 0 (atS p.Ia) d o).isSome
theorem Y1yz {Ls:List YS_}{p:YS_}{d:Int}{o:List YC}{k:Nat}(hk:k<=p.Ia.length) (h:vbS Ls p d o k=false):vaS Ls p d o k=vaS Ls p d o p.Ia.length/\vbS Ls p d o p.Ia.length=false:=by
 unfold vaS vbS at *
 by_cases e:okS p.Ia
 ·rw[e]at h
  cases e2:wlk (vrS Ls) (p.Ia.take k) 0 (atS p.Ia) d o with
  | none=>rw[ae e,ae e,b8,Y1f8 e2];simp
  | some v=>rw[e2]at h;cases h
 ·have e':okS p.Ia=false:=by simpa using e
  rw[ab e,ab e,e'];simp
theorem Y1y5 {Ls:List YS_}{p:YS_}{d:Int}{o:List YC}{k:Nat}(hk:k<p.Ia.length) (h:vbS Ls p d o k) (e:(k:Int)=atS p.Ia):vaS Ls p d o (k+1)=vaS Ls p d o k/\vbS Ls p d o (k+1):=by
 unfold vaS vbS at *
 simp only[af]at h
 obtain⟨v,hv⟩:=Option.isSome_iff_exists.1 h.2
 rw[ae h.1,ae h.1,Y119 hk hv,ae e,hv,h.1];simp
theorem Y243 {Ls:List YS_}{p:YS_}{d:Int}{o:List YC}{k:Nat}(hk:k<p.Ia.length) (h:vbS Ls p d o k) (e:¬ (k:Int)=atS p.Ia) :
  vaS Ls p d o (k+1)=(vrS Ls (p.Ia.g k) (if (k:Int)+1=atS p.Ia then d+1 else d) (vaS Ls p d o k)).getD []/\vbS Ls p d o (k+1)=(vrS Ls (p.Ia.g k) (if (k:Int)+1=atS p.Ia then d+1 else d) (vaS Ls p d o k)).isSome:=by
 unfold vaS vbS at *
 simp only[af]at h
 obtain⟨v,hv⟩:=Option.isSome_iff_exists.1 h.2
 rw[ae h.1,ae h.1,Y119 hk hv,ab e,hv,h.1];simp
theorem Y22j {Ls:List YS_}{p:YS_}{d:Int}{o:List YC}{k:Nat}(h:vbS Ls p d o k):(vaS Ls p d o k).length<=o.length+sumBy Ylg (p.Ia.take k):=by
 unfold vaS vbS at *
 simp only[af]at h
 obtain⟨v,hv⟩:=Option.isSome_iff_exists.1 h.2
 rw[ae h.1,hv]
 exact Yyz (vrS Ls) _ (λx _ d o o' h=>Y1wj Ls x d o o' h) _ _ _ _ _ hv
theorem Y22t {Ls:List YS_}{p:YS_}{d:Int}{o:List YC}{k:Nat}(h:vbS Ls p d o k):okS p.Ia:=by
 unfold vbS at h;simp only[af]at h;exact h.1
theorem Y20w (Ls:List YS_) (p:YS_) (d:Int) (o:List YC) (hk:¬ p.Ka=1):(vrS Ls p d o).isSome=vbS Ls p d o p.Ia.length/\(vbS Ls p d o p.Ia.length->(vrS Ls p d o).getD []=vaS Ls p d o p.Ia.length)/\(vbS Ls p d o p.Ia.length=false->(vrS Ls p d o).getD []=[]):=by
 rw[Yrl,ab hk]
 unfold vaS vbS
 rw[b8]
 by_cases e:okS p.Ia
 ·rw[ae e,ae e,e]
  cases wlk (vrS Ls) p.Ia 0 (atS p.Ia) d o<;>simp
 ·have e':okS p.Ia=false:=by simpa using e
  rw[ab e,ab e,e'];simp
theorem Yth {p:YS_}{k:Nat}(h:k<p.Ia.length):sumBy Ylg (p.Ia.take k)+Ylg (p.Ia.g k)+1<=Ylg p/\wY (p.Ia.g k)<=wY p:=by
 have g1:=Ym7 p
 have g2:=@Yom _ _ Ylg p.Ia k h
 have g3:=Ymu Ylg p.Ia (k+1)
 have g4:=@Yls _ wY p.Ia _ (Yl6 h)
 have g5:=Ymd p
 omega
theorem Y1gs (o:List YC) (p:YS_) (d:Int):o.map Yl7++[[cI p.Ka,cI p.Na,cS p.Ta,Cell.list (List.map Yl4 p.Sa),Cell.list (List.map Yl1 p.Ia),cI d,cI 0,cI 0,cS (mkS []),Cell.list [],Cell.list [],Cell.list []]]=(o++[Yue p d]).map Yl7:=
 Yl5 (C:=Yl7) o (Yue p d)
theorem Y1ks (Ls:List YS_) (p:YS_) (d:Int) (o:List YC) (hk:p.Ka=1) (h:Ynb p\/Ynu Ls p):vrS Ls p d o=some o:=by
 rw[Yrl,ae hk,ae h]
theorem Y136 (Ls:List YS_) (p:YS_) (d:Int) (o:List YC) (hk:p.Ka=1) (h:Ynb p=false) (h2:Ynu Ls p=false) (h3:Ylj p\/0<=fnd o p\/3<d):vrS Ls p d o=none:=by
 rw[Yrl,ae hk,ab (by rw[h,h2];simp),ae h3]
theorem Y1jl (Ls:List YS_) (p:YS_) (d:Int) (o:List YC) (hk:p.Ka=1) (h:Ynb p=false) (h2:Ynu Ls p=false) (h3:Ylj p=false) (h4:fnd o p<0) (h5:d<=3):vrS Ls p d o=some (o++[Yue p d]):=by
 rw[Yrl,ae hk,ab (by rw[h,h2];simp),ab (by rw[h3];simp;omega)]
abbrev Z14 (Ls:List YS_) (p:YS_) (d:Int) (o:List YC):Ct:=⟨151,[.Ai o],[Af Ls,Yln p,li d,.r 0],[.dead,.Ai ((vrS Ls p d o).getD [])],.tup [.r 1,lb (vrS Ls p d o).isSome]⟩
def Z44 (Ls:List YS_) (p:YS_) (d:Int) (o:List YC):Lp Nat:=.mk 84 1 (λx=>[(0,Af Ls),(2,li d),(3,.r 1),(10,li (if okS p.Ia then atS p.Ia else (-1:Int))),(11,hs x 1),(53,Af p.Ia),(54,li (p.Ia.map Yl1).length),(55,hs x 0)]) (λx=>[.dead,ho x 2]) (λk=>[.s (li k),.s (lb (vbS Ls p d o k)),.o (.Ai (vaS Ls p d o k))]) (λk=>k<=p.Ia.length/\p.Ia.length<=9223372036854775807) (λk=>p.Ia.length - k) [.mk True (.exit 0) (λx=>[(3,.r 1),(11,hs x 0)]) (λx=>[.dead,ho x 1]) [.s (lb (vbS Ls p d o p.Ia.length)),.o (.Ai (vaS Ls p d o p.Ia.length))]]
theorem Zes (Ls:List YS_) (p:YS_) (d:Int) (o:List YC) (h:0<=d/\d+(↑(Ylw p):Int)<=1000/\wY p<=1000000000/\o.length+Ylg p<=2147483647) (ih:∀ (z:YS_),z∈p.Ia->∀ (Ls:List YS_) (d:Int) (o:List YC),0<=d/\d+(↑(Ylw z):Int)<=1000/\wY z<=1000000000/\o.length+Ylg z<=2147483647->OK (Z14 Ls z d o)):Lp.Sem prog (Yli f151 0) (Z44 Ls p d o):=Ylp (λk=>let v1:=p.Ia.g k;let v5:=vaS Ls p d o k;let v2:Ob:=.Ai v5;let v3:=(k:Int)+1;let v4:=lb (vbS Ls p d o k);.i ((k:Int)<(p.Ia.map Yl1).length) (.x (k:Int) (p.Ia.map Yl1) (Yl8 v1) (.b (!vbS Ls p d o k) (.o 0 [0,1] [.s v4,.o v2]) (.i ((k:Int)=if okS p.Ia then atS p.Ia else (-1:Int)) (.r v3 (.g [0,1] (k+1) [.s (li v3),.s v4,.o v2])) (.r v3 (.i ((k:Int)+1=if okS p.Ia then atS p.Ia else (-1:Int)) (.r (d+1) (.d [.rd,.rd,.rd,.own true 12] (Z14 Ls v1 (d+1) v5) (.r v3 (.g [0,4] (k+1) [.s (li v3),.s (lb (vrS Ls v1 (d+1) v5).isSome),.o (.Ai ((vrS Ls v1 (d+1) v5).getD []))])))) (.d [.rd,.rd,.rd,.own true 12] (Z14 Ls v1 d v5) (.r v3 (.g [0,4] (k+1) [.s (li v3),.s (lb (vrS Ls v1 d v5).isSome),.o (.Ai ((vrS Ls v1 d v5).getD []))])))))))) (.o 0 [0,1] [.s v4,.o v2])) (by
 intro k h;try dsimp only[Yl3,Yle,Z44]at h|-
 have g1:=@Y1yz Ls p d o k
 have g2:=@Y1y5 Ls p d o k
 have g3:=@Y243 Ls p d o k
 have g4:=@Y22j Ls p d o k
 have g5:=@Y22t Ls p d o k
 have g6:=@Yqh p k
 have g7:=@Yth p k
 have g8:k<p.Ia.length\/k=p.Ia.length\/p.Ia.length<k:=by omega
 exact z01)
theorem Zic (Ls:List YS_) (p:YS_) (d:Int) (o:List YC) (h:0<=d/\d+Ylw p<=1000/\wY p<=1000000000/\o.length+Ylg p<=2147483647) (ih:∀ z∈p.Ia,∀ (Ls:List YS_) (d:Int) (o:List YC) (h:0<=d/\d+Ylw z<=1000/\wY z<=1000000000/\o.length+Ylg z<=2147483647),Z14 Ls z d o):Z14 Ls p d o:=Ylh call151 func151 (let v4:Tq _ _:=.f [2] [.dead,.y 12 []] (.tup [.r 1,lb false]);let v1:Tq _ _:=.w (.g (.nilreg 8 true 12)) (.w (.m 0) v4);let v5:=o.map Yl7;let v3:AV:=.tup [.r 1,lb true];let v2:Tq _ _:=.w (.m 0) (.f [2] [.dead,.y 12 v5] v3);.i (p.Ka=1) (.i (p.Ta.data.toList=[95]) (.y true v2) (.c [.rd,.rd] (Zkg Ls p) (.b (Ynu Ls p) v2 (.c [.rd] (Z3n p) (.b (Ylj p) (.y true (.y true v1)) (.c [.rd,.rd] (Zck o p) (.i (0<=fnd o p) (.y true v1) (.i (3<d) v1 (.d [.rd] (Z2p p) (.p ((v5.length+1) * 192<=140737488355328) (.f [5] [.dead,.y 12 (o.map Yl7++[[cI p.Ka,cI p.Na,cS p.Ta,.Ao p.Sa,.Au p.Ia,cI d,cI 0,cI 0,cS (mkS []),.list [],.list [],.list []]])] v3))))))))))) (.c [.rd] (Zl0 p.Ia) (.z Yl1 p.Ia (.w (.m 0) (.l (Z44 Ls p d o) (Zes Ls p d o h ih) [0,2] [.s (li 0),.s (lb (okS p.Ia)),.o (.y 12 v5)] 0 (.t (.b (!vbS Ls p d o p.Ia.length) (.w (.g (.nilreg 8 true 12)) v4) (.f [1] [.dead,.Ai (vaS Ls p d o p.Ia.length)] v3)) .q)))))) (by
 dsimp only[Yl3,Z14,Yle,Z44]
 have g1:=Y20w Ls p d o
 have g2:=Ym7 p
 have g3:Ynb p=decide (p.Ta.data.toList=[95]):=rfl
 have g4:=Y1ks Ls p d o
 have g5:=Y136 Ls p d o
 have g6:=Y1jl Ls p d o
 have g7:¬p.Ka=1->okS p.Ia=false->vbS Ls p d o 0=false:=λ_ h=>by unfold vbS;rw[h];rfl
 have g8:okS p.Ia->vbS Ls p d o 0:=λh=>by unfold vbS;rw[h];simp[wlk]
 have g9:vaS Ls p d o 0=o:=by unfold vaS;split<;>simp[wlk]
 have g10:okS p.Ia=vbS Ls p d o 0:=by unfold vbS;simp[wlk]
 have g11:=Y1gs o p d
 have g12:p.Ka=1->Ynb p=false->Ynu Ls p=false->Ylj p=false->fnd o p<0->d<=3->(vrS Ls p d o).getD []=o++[Yue p d]:=λa b c e f g=>by rw[g6 a b c e f g];rfl
 exact z0u)
theorem Zaf (p:YS_):∀ (Ls:List YS_) (d:Int) (o:List YC) (h:0<=d/\d+Ylw p<=1000/\wY p<=1000000000/\o.length+Ylg p<=2147483647),Z14 Ls p d o:=YS_.ind (P:=λp=>∀ (Ls:List YS_) (d:Int) (o:List YC) (h:0<=d/\d+Ylw p<=1000/\wY p<=1000000000/\o.length+Ylg p<=2147483647),Z14 Ls p d o) (λp ih Ls d o h=>Zic Ls p d o h ih) p
mutual
def vrI (Ls:List YS_):YS_->Int->List YC->Option (List YC)
 | ⟨k,n,t,s,l⟩,d,o=>if k=1 then (if Ylj ⟨k,n,t,s,l⟩=true then none else if Ynb ⟨k,n,t,s,l⟩=true\/Yow Ls ⟨k,n,t,s,l⟩=true then some o else
   if 3<d then none else if (o.any λc=>Yph c.name ⟨k,n,t,s,l⟩)=true then none else some (o++[Yue ⟨k,n,t,s,l⟩ d]))
  else if k≠0 then some o else if atI l=0 then none else Y192 Ls l 0 (atI l) d o
def Y192 (Ls:List YS_):List YS_->Int->Int->Int->List YC->Option (List YC)
 | [],_,_,_,o=>some o
 | x :: r,i,a,d,o=>if i=a then Y192 Ls r (i+1) a d o else match vrI Ls x (if i+1=a then d+1 else d) o with
  | none=>none
  | some o'=>Y192 Ls r (i+1) a d o'
end
theorem Y1kc (Ls:List YS_):∀ l i a d o,Y192 Ls l i a d o=wlk (vrI Ls) l i a d o
 | [],i,a,d,o=>by simp[Y192,wlk]
 | x :: r,i,a,d,o=>by
  simp only[Y192,wlk,Y1kc Ls r]
theorem Ys7 (Ls:List YS_) (p:YS_) (d:Int) (o:List YC):vrI Ls p d o=if p.Ka=1 then (if Ylj p then none else if Ynb p\/Yow Ls p then some o else if 3<d then none else if (o.any λc=>Yph c.name p)=true then none else some (o++[Yue p d]))
  else if p.Ka≠0 then some o else if atI p.Ia=0 then none else wlk (vrI Ls) p.Ia 0 (atI p.Ia) d o:=by cases p;simp only[vrI,Y1kc]
theorem Y1ww (Ls:List YS_):∀ (p:YS_) (d:Int) (o o':List YC),vrI Ls p d o=some o'->o'.length<=o.length+Ylg p:=by
 refine YS_.ind λp ih d o o' e => ?_
 rw[Ys7]at e
 rw[Ym7]
 split at e
 ·split at e
  ·cases e
  ·split at e
   ·simp only[aa]at e;subst e;omega
   ·split at e
    ·cases e
    ·split at e
     ·cases e
     ·simp only[aa]at e;subst e;simp
 ·split at e
  ·simp only[aa]at e;subst e;omega
  ·split at e
   ·cases e
   ·have:=Yyz (vrI Ls) p.Ia (λx hx d o o' h=>ih x hx d o o' h) _ _ _ _ _ e;omega
def wqI (Ls:List YS_) (p:YS_) (d:Int) (o:List YC) (k:Nat):Option (List YC):=wlk (vrI Ls) (p.Ia.take k) 0 (atI p.Ia) d o
def vaI (Ls:List YS_) (p:YS_) (d:Int) (o:List YC) (k:Nat):List YC:=(wqI Ls p d o k).getD []
def vbI (Ls:List YS_) (p:YS_) (d:Int) (o:List YC) (k:Nat):Bool:=(wqI Ls p d o k).isSome
theorem Y1yp {Ls:List YS_}{p:YS_}{d:Int}{o:List YC}{k:Nat}(hk:k<p.Ia.length) (h:vbI Ls p d o k) (e:(k:Int)=atI p.Ia):vaI Ls p d o (k+1)=vaI Ls p d o k/\vbI Ls p d o (k+1):=by
 unfold vaI vbI wqI at *
 obtain⟨v,hv⟩:=Option.isSome_iff_exists.1 h
 rw[Y119 hk hv,ae e,hv];simp
theorem Y24d {Ls:List YS_}{p:YS_}{d:Int}{o:List YC}{k:Nat}(hk:k<p.Ia.length) (h:vbI Ls p d o k) (e:¬ (k:Int)=atI p.Ia) :
  vaI Ls p d o (k+1)=(vrI Ls (p.Ia.g k) (if (k:Int)+1=atI p.Ia then d+1 else d) (vaI Ls p d o k)).getD []/\vbI Ls p d o (k+1)=(vrI Ls (p.Ia.g k) (if (k:Int)+1=atI p.Ia then d+1 else d) (vaI Ls p d o k)).isSome:=by
 unfold vaI vbI wqI at *
 obtain⟨v,hv⟩:=Option.isSome_iff_exists.1 h
 rw[Y119 hk hv,ab e,hv];simp
theorem Y1yg {Ls:List YS_}{p:YS_}{d:Int}{o:List YC}{k:Nat}(h:vbI Ls p d o k=false):vbI Ls p d o p.Ia.length=false:=by
 unfold vbI wqI at *
 cases e2:wlk (vrI Ls) (p.Ia.take k) 0 (atI p.Ia) d o with
 | none=>rw[b8,Y1f8 e2];rfl
 | some v=>rw[e2]at h;cases h
theorem Y1zm {Ls:List YS_}{p:YS_}{d:Int}{o:List YC}{k:Nat}(h:vbI Ls p d o k):(vaI Ls p d o k).length<=o.length+sumBy Ylg (p.Ia.take k):=by
 unfold vaI vbI wqI at *
 obtain⟨v,hv⟩:=Option.isSome_iff_exists.1 h
 rw[hv]
 exact Yyz (vrI Ls) _ (λx _ d o o' h=>Y1ww Ls x d o o' h) _ _ _ _ _ hv
theorem Y21c (Ls:List YS_) (p:YS_) (d:Int) (o:List YC) (hk:¬ p.Ka=1) (h0:p.Ka=0) (ha:¬ atI p.Ia=0):(vrI Ls p d o).isSome=vbI Ls p d o p.Ia.length/\(vrI Ls p d o).getD []=vaI Ls p d o p.Ia.length:=by
 rw[Ys7,ab hk,ab (by simp[h0]),ab ha]
 unfold vaI vbI wqI
 rw[b8];exact⟨rfl,rfl⟩
theorem Y15q {Ls:List YS_}{p:YS_}{d:Int}{o:List YC}(hk:p.Ka=1) (h:Ylj p):vrI Ls p d o=none:=by
 rw[Ys7,ae hk,ae h]
theorem Y1i6 {Ls:List YS_}{p:YS_}{d:Int}{o:List YC}(hk:p.Ka=1) (h:Ylj p=false) (h2:Ynb p\/Yow Ls p):vrI Ls p d o=some o:=by
 rw[Ys7,ae hk,ab (by simp[h]),ae h2]
theorem Y1dv {Ls:List YS_}{p:YS_}{d:Int}{o:List YC}(hk:p.Ka=1) (h:Ylj p=false) (h2:Ynb p=false) (h3:Yow Ls p=false) (h4:3<d):vrI Ls p d o=none:=by
 rw[Ys7,ae hk,ab (by simp[h]),ab (by simp[h2,h3]),ae h4]
theorem Y1bn {Ls:List YS_}{p:YS_}{d:Int}{o:List YC}(hk:p.Ka=1) (h:Ylj p=false) (h2:Ynb p=false) (h3:Yow Ls p=false) (h5:(o.any λc=>Yph c.name p)=true):vrI Ls p d o=none:=by
 rw[Ys7,ae hk,ab (by simp[h]),ab (by simp[h2,h3])]
 split
 ·rfl
 ·first|rfl|rw[ae h5]
theorem Y1k0 {Ls:List YS_}{p:YS_}{d:Int}{o:List YC}(hk:p.Ka=1) (h:Ylj p=false) (h2:Ynb p=false) (h3:Yow Ls p=false) (h4:d<=3) (h5:(o.any λc=>Yph c.name p)=false):vrI Ls p d o=some (o++[Yue p d]):=by
 rw[Ys7,ae hk,ab (by simp[h]),ab (by simp[h2,h3]),ab oW,ab (by simp[h5])]
theorem Y1al {Ls:List YS_}{p:YS_}{d:Int}{o:List YC}(hk:¬ p.Ka=1) (h0:¬ p.Ka=0):vrI Ls p d o=some o:=by
 rw[Ys7,ab hk,ae h0]
theorem Y1b4 {Ls:List YS_}{p:YS_}{d:Int}{o:List YC}(hk:¬ p.Ka=1) (h0:p.Ka=0) (ha:atI p.Ia=0):vrI Ls p d o=none:=by
 rw[Ys7,ab hk,ab (by simp[h0]),ae ha]
abbrev Zd (Ls:List YS_) (p:YS_) (d:Int) (o:List YC):Ct:=⟨141,[.Ai o],[Af Ls,Yln p,li d,.r 0],[.dead,.Ai ((vrI Ls p d o).getD [])],.tup [.r 1,lb (vrI Ls p d o).isSome]⟩
def Z45 (Ls:List YS_) (p:YS_) (d:Int) (o:List YC):Lp Nat:=.mk 93 1 (λx=>[(0,Af Ls),(2,li d),(3,.r 1),(12,li (atI p.Ia)),(63,Af p.Ia),(64,li (p.Ia.map Yl1).length),(65,hs x 0)]) (λx=>[.dead,ho x 1]) (λk=>[.s (li k),.o (.Ai (vaI Ls p d o k))]) (λk=>k<=p.Ia.length/\p.Ia.length<=9223372036854775807/\vbI Ls p d o k) (λk=>p.Ia.length - k) [.mk (vbI Ls p d o p.Ia.length) (.exit 3) (λx=>[(3,.r 1)]) (λx=>[.dead,ho x 0]) [.o (.Ai (vaI Ls p d o p.Ia.length))],.mk (vbI Ls p d o p.Ia.length=false) .ret (λx=>[(8,hs x 0),(9,hs x 1)]) (λx=>[.dead]) [.s (.one (.val (.y))),.s (lb false)]]
def Z46 (Ls:List YS_) (p:YS_) (d:Int) (o:List YC):Lp Nat:=let v1:List Ob:=[.dead,.Ai o,.box (vals (Yl8 p))];.mk 93 1 (λx=>[(2,li d),(3,.r 1),(5,.y 2),(34,.r 1),(35,li (o.map Yl7).length),(36,hs x 0)]) (λx=>v1) (λk=>[.s (li k)]) (λk=>k<=o.length/\o.length<=9223372036854775807/\((o.take k).any λc=>Yph c.name p)=false) (λk=>o.length - k) [.mk ((o.any λc=>Yph c.name p)=false) (.exit 1) (λx=>[(2,li d),(3,.r 1),(5,.y 2)]) (λx=>v1) [],.mk ((o.any λc=>Yph c.name p)=true) .ret (λx=>[(8,hs x 0),(9,hs x 1)]) (λx=>[.dead]) [.s (.one (.val (.y))),.s (lb false)]]
theorem Zet (Ls:List YS_) (p:YS_) (d:Int) (o:List YC) (h:0<=d/\d+(↑(Ylw p):Int)<=1000/\wY p<=1000000000/\o.length+Ylg p<=2147483647) (ih:∀ (z:YS_),z∈p.Ia->∀ (Ls:List YS_) (d:Int) (o:List YC),0<=d/\d+(↑(Ylw z):Int)<=1000/\wY z<=1000000000/\o.length+Ylg z<=2147483647->OK (Zd Ls z d o)):Lp.Sem prog (Yli f141 1) (Z45 Ls p d o):=Ylp (λk=>let v1:=p.Ia.g k;let v2:=vaI Ls p d o k;let v3:=(k:Int)+1;let v4:SV:=.one (.val (.y));let v5:Ob:=.Ai v2;.i ((k:Int)<(p.Ia.map Yl1).length) (.x (k:Int) (p.Ia.map Yl1) (Yl8 v1) (.i ((k:Int)=atI p.Ia) (.r v3 (.g [0,1] (k+1) [.s (li v3),.o v5])) (.r v3 (.i ((k:Int)+1=atI p.Ia) (.r (d+1) (.d [.rd,.rd,.rd,.own true 12] (Zd Ls v1 (d+1) v2) (.b (!(vrI Ls v1 (d+1) v2).isSome) (.o 1 [0] [.s v4,.s (lb false)]) (.r v3 (.g [0,4] (k+1) [.s (li v3),.o (.Ai ((vrI Ls v1 (d+1) v2).getD []))]))))) (.d [.rd,.rd,.rd,.own true 12] (Zd Ls v1 d v2) (.b (!(vrI Ls v1 d v2).isSome) (.o 1 [0] [.s v4,.s (lb false)]) (.r v3 (.g [0,4] (k+1) [.s (li v3),.o (.Ai ((vrI Ls v1 d v2).getD []))])))))))) (.o 0 [0,1] [.o v5])) (by
 intro k h;try dsimp only[Yl3,Yle,Z45]at h|-
 have g1:=@Y1yg Ls p d o (k+1)
 have g2:=@Y1yp Ls p d o k
 have g3:=@Y24d Ls p d o k
 have g4:=@Y1zm Ls p d o k
 have g6:=@Yqh p k
 have g7:=@Yth p k
 have g8:k<p.Ia.length\/k=p.Ia.length\/p.Ia.length<k:=by omega
 exact z01)
theorem Zeu (Ls:List YS_) (p:YS_) (d:Int) (o:List YC) (h:0<=d/\d+(↑(Ylw p):Int)<=1000/\wY p<=1000000000/\o.length+Ylg p<=2147483647) (ih:∀ (z:YS_),z∈p.Ia->∀ (Ls:List YS_) (d:Int) (o:List YC),0<=d/\d+(↑(Ylw z):Int)<=1000/\wY z<=1000000000/\o.length+Ylg z<=2147483647->OK (Zd Ls z d o)):Lp.Sem prog (Yli f141 0) (Z46 Ls p d o):=Ylp (λk=>let v1:=o.g (k:Int).toNat;.i ((k:Int)<(o.map Yl7).length) (.p (0<=(k:Int)/\(k:Int).toNat<(o.map Yl7).length) (.w (.cells (Ym3 v1)) (.p ((o.map Yl7)[(k:Int).toNat]? = some (Ym3 v1)) (.c [.rd,.rd] (Zcj v1.name p) (.b (decide (v1.name.Ka=1)&&decide (p.Ka=1)&&decide (v1.name.Ta=p.Ta)&&decide (v1.name.Sa=p.Sa)) (.o 1 [0] [.s (.one (.val (.y))),.s (lb false)]) (.r ((k:Int)+1) (.g [0,1,2] (k+1) [.s (li ((k:Int)+1))]))))))) (.o 0 [0,1,2] [])) (by
 intro k h;try dsimp only[Yl3,Yle,Z46]at h|-
 have g:k<o.length->Yph (o.g k).name p->(o.any λc=>Yph c.name p)=true:=λh1 h2=>by
  rw[cJ];exact⟨_,Yl6 h1,h2⟩
 have g2:Yph (o.g k).name p=(decide ((o.g k).name.Ka=1)&&decide (p.Ka=1)&&decide ((o.g k).name.Ta=p.Ta)&&decide ((o.g k).name.Sa=p.Sa)):=rfl
 with_reducible repeat' (first|apply ah|exact zR|exact ih|(intro)|apply Z1|apply Z2)
 all_goals ((try simp only[std,inj]at *);with_reducible and_intros)
 all_goals try with_reducible first|apply Z1|apply Z2|apply ih
 all_goals try first|exact z|grind[Ylk,Yla,Ylb,Yl5])
theorem Zid (Ls:List YS_) (p:YS_) (d:Int) (o:List YC) (h:0<=d/\d+Ylw p<=1000/\wY p<=1000000000/\o.length+Ylg p<=2147483647) (ih:∀ z∈p.Ia,∀ (Ls:List YS_) (d:Int) (o:List YC) (h:0<=d/\d+Ylw z<=1000/\wY z<=1000000000/\o.length+Ylg z<=2147483647),Zd Ls z d o):Zd Ls p d o:=Ylh call141 func141 (let v6:AV:=.tup [.r 1,lb false];let v1:Tq _ _:=.w (.g (.nilreg 8 true 12)) (.w (.m 0) (.f [2] [.dead,.y 12 []] v6));let v5:=o.map Yl7;let v4:AV:=.tup [.r 1,lb true];let v2:Tq _ _:=.w (.m 0) (.f [2] [.dead,.y 12 v5] v4);let v3:Tq _ _:=.t (.w (.g (.nilreg 8 true 12)) (.f [1] [.dead,.y 12 []] v6)) .q;.i (p.Ka=1) (.c [.rd] (Z1 p) (.b (Ylj p) v1 (.c [.rd] (Zae p) (.b (decide (p.Ka=1)&&Ynb p) (.y true v2) (.c [.rd,.rd] (Zcl Ls p) (.b (Yow Ls p) v2 (.i (3<d) v1 (.z Yl7 o (.w (.m 0) (.l (Z46 Ls p d o) (Zeu Ls p d o h ih) [0,2,1] [.s (li 0)] 0 (.t (.d [.rd] (Zj p) (.p ((v5.length+1) * 192<=140737488355328) (.f [6] [.dead,.y 12 (o.map Yl7++[[cI p.Ka,cI p.Na,cS p.Ta,.Ao p.Sa,.Au p.Ia,cI d,cI 0,cI 0,cS (mkS []),.list [],.list [],.list []]])] v4))) v3))))))))))) (.i (p.Ka≠0) v2 (.c [.rd] (Zeb p.Ia) (.i (atI p.Ia=0) v1 (.z Yl1 p.Ia (.w (.m 0) (.l (Z45 Ls p d o) (Zet Ls p d o h ih) [0,2] [.s (li 0),.o (.y 12 v5)] 0 (.t (.f [1] [.dead,.Ai (vaI Ls p d o p.Ia.length)] v4) v3)))))))) (by
 dsimp only[Yl3,Zd,Yle,Z46,Z45]
 have g1:=Y21c Ls p d o
 have g2:=Ym7 p
 have g3:=@Y15q Ls p d o
 have g4:=@Y1i6 Ls p d o
 have g5:=@Y1dv Ls p d o
 have g6:=@Y1bn Ls p d o
 have g7:=@Y1k0 Ls p d o
 have g8:=@Y1al Ls p d o
 have g9:=@Y1b4 Ls p d o
 have g10:vbI Ls p d o 0:=by unfold vbI wqI;simp[wlk]
 have g11:vaI Ls p d o 0=o:=by unfold vaI wqI;simp[wlk]
 have g12:=Y1gs o p d
 have g13:Ynb p=decide (p.Ta.data.toList=[95]):=rfl
 have g14:p.Ka=1->Ylj p=false->Ynb p=false->Yow Ls p=false->d<=3->(o.any λc=>Yph c.name p)=false->(vrI Ls p d o).getD []=o++[Yue p d]:=λa b c e f g=>by rw[g7 a b c e f g];rfl
 have g15:(vrI Ls p d o).isSome=false->(vrI Ls p d o).getD []=[]:=λh=>by cases e:vrI Ls p d o<;>simp_all
 exact z0u)
theorem Zag (p:YS_):∀ (Ls:List YS_) (d:Int) (o:List YC) (h:0<=d/\d+Ylw p<=1000/\wY p<=1000000000/\o.length+Ylg p<=2147483647),Zd Ls p d o:=YS_.ind (P:=λp=>∀ (Ls:List YS_) (d:Int) (o:List YC) (h:0<=d/\d+Ylw p<=1000/\wY p<=1000000000/\o.length+Ylg p<=2147483647),Zd Ls p d o) (λp ih Ls d o h=>Zid Ls p d o h ih) p
theorem Y1az {Ls:List YS_}{p:YS_}(hL:∀ x∈Ls,Yot x) (hk:p.Ka=1):Ynu Ls p=Yow Ls p:=by
 unfold Ynu Yow
 rw[cp];simp only[cJ]
 constructor
 ·rintro⟨x,hx,e⟩
  have:=hL x hx
  simp only[Y195,af,ak]at this e
  exact⟨x,hx,by simp only[Yph,af,ak];exact⟨⟨⟨this.1.1.1,hk⟩,e.1⟩,e.2⟩⟩
 ·rintro⟨x,hx,e⟩
  simp only[Yph,af,ak]at e
  exact⟨x,hx,by simp only[af,ak];exact⟨e.1.2,e.2⟩⟩
theorem Y1tv {Ls:List YS_}{p:YS_}(hL:∀ x∈Ls,Yot x) (hd:Ylj p):Ynu Ls p=false/\Ynb p=false:=by
 simp only[Ylj,af,ak]at hd
 constructor
 ·unfold Ynu;rw[bV]
  intro x hx e
  have:=hL x hx
  simp only[Y195,af,ak,aL,Ylj,cL,aM]at this e
  rcases this.1.2 with h|h
  ·exact h this.1.1.1
  ·exact h (by rw[e.1];exact hd.2)
 ·unfold Ynb;rw[hd.2];rfl
theorem Y1xi {o:List YC}{p:YS_}(ho:∀ x∈o,Ypz x.name) (hk:p.Ka=1) (hd:Ylj p=false):(o.any λc=>Yph c.name p)=true ↔ 0<=fnd o p:=by
 have h1:Yrc o p<o.length ↔ ∃ x∈o,Yq3 p x:=List.findIdx_lt_length
 have h2:(o.any λc=>Yph c.name p)=true ↔ Yrc o p<o.length:=by
  rw[h1,cJ]
  constructor
  ·rintro⟨x,hx,e⟩
   refine⟨x,hx,?_⟩
   simp only[Yph,af,ak]at e
   simp only[Yq3,af,ak]
   exact⟨⟨e.1.2,e.2⟩,ho x hx⟩
  ·rintro⟨x,hx,e⟩
   refine⟨x,hx,?_⟩
   simp only[Yq3,Ypz,af,ak]at e
   simp only[Yph,af,ak]
   exact⟨⟨⟨e.2.1,hk⟩,e.1.1⟩,e.1.2⟩
 rw[h2];unfold fnd;rw[hd]
 simp only[true_and]
 split<;>omega
theorem Y1nh {α:Type}[Inhabited α] {p:α->Bool}{L:List α}:∀ k,k<=L.length->(∀ j,j<k->p (L.g j)=false)->k<=L.findIdx p
 | 0,_,_=>cm _
 | k+1,hk,h=>Y1i9 oW (Y1nh k oW λj hj=>h j oW) (h k oW)
theorem Y188 (l:List YS_):∀ k,k<=l.length->okA l k->(atF l k = -1/\∀ j,j<k->Ylj (l.g j)=false)\/∃ m:Nat,0<m/\m<k/\atF l k=m/\Ylj (l.g m)/\∀ j,j<k->j≠m->Ylj (l.g j)=false
 | 0,_,_=>.inl ⟨rfl,λj h=>absurd h oW⟩
 | k+1,hk,h=>by
  simp only[okA,af,aF,aL,ak]at h
  have ih:=Y188 l k oW h.1
  cases e:Ylj (l.g k) with
  | false=>
   have e2:atF l (k+1)=atF l k:=by simp only[atF,e];rfl
   rcases ih with ⟨h1,h2⟩|⟨m,h1,h2,h3,h4,h5⟩
   ·exact .inl ⟨by rw[e2];exact h1,λj hj=>by
     by_cases ej:j=k
     ·rw[ej];exact e
     ·exact h2 j oW⟩
   ·exact .inr ⟨m,h1,by omega,by rw[e2];exact h3,h4,λj hj hm=>by
     by_cases ej:j=k
     ·rw[ej];exact e
     ·exact h5 j oW hm⟩
  | true=>
   have e2:atF l (k+1)=(k:Int):=by simp only[atF,e];rfl
   rcases h.2 with h0|⟨h0,h0'⟩
   ·rw[e]at h0;cases h0
   ·rcases ih with ⟨h1,h2⟩|⟨m,h1,h2,h3,h4,h5⟩
    ·exact .inr ⟨k,by omega,by omega,e2,e,λj hj hm=>h2 j oW⟩
    ·omega
theorem Y1dj {l:List YS_}{m:Nat}(hm:m<l.length) (h:Ylj (l.g m)) (h2:∀ j,j<m->Ylj (l.g j)=false):atI l=m:=by
 have:=Y1w4 hm (Y1nh m oW h2) h
 unfold atI;rw[this,ae hm]
theorem Y1cy {l:List YS_}(h:okS l):atI l=atS l/\atI l≠0:=by
 rcases Y188 l l.length (aC _) h with ⟨h1,h2⟩|⟨m,h1,h2,h3,h4,h5⟩
 ·have:=Y1nh (p:=Ylj) l.length (aC _) h2
  have e:atI l = -1:=by unfold atI;rw[ab oW]
  exact⟨by rw[e];exact h1.symm,by omega⟩
 ·have e:=Y1dj h2 h4 λj hj=>h5 j oW oW
  exact⟨by rw[e];exact h3.symm,by omega⟩
theorem Y1x0 {l:List YS_}(h:okS l=false):atI l=0\/∃ j,j<l.length/\(j:Int)≠atI l/\Ylj (l.g j):=by
 have:∃ k,k<l.length/\okA l k/\okA l (k+1)=false:=by
  have:∀ m,m<=l.length->okA l m=false->∃ k,k<m/\okA l k/\okA l (k+1)=false:=by
   intro m
   induction m with
   | zero=>intro _ e;cases e
   | succ m ih=>
    intro hm e
    cases e2:okA l m with
    | true=>exact⟨m,by omega,e2,e⟩
    | false=>obtain⟨k,h1,h2⟩:=ih oW e2;exact⟨k,by omega,h2⟩
  obtain⟨k,h1,h2⟩:=this l.length (aC _) h
  exact⟨k,h1,h2⟩
 obtain⟨k,hk,h1,h2⟩:=this
 have hd:Ylj (l.g k)/\(k=0\/0<=atF l k):=by
  simp only[okA,h1,dk,bp,cw,cL,aM]at h2
  exact⟨h2.1,h2.2.elim (λh=>.inl oW) λh=>.inr oW⟩
 rcases hd.2 with e|e
 ·subst e
  exact .inl (Y1dj hk hd.1 λj hj=>absurd hj (Nat.not_lt_zero j))
 ·rcases Y188 l k oW h1 with ⟨h3,_⟩|⟨m,h3,h4,h5,h6,h7⟩
  ·omega
  ·have e:=Y1dj oW h6 λj hj=>h7 j oW oW
   exact .inr ⟨k,hk,by omega,hd.1⟩
theorem Y1h7 {f g:YS_->Int->List YC->Option (List YC)}{good:List YC->Prop}:∀ (l:List YS_),(∀ x∈l,∀ d o,good o->f x d o=g x d o/\∀ o',g x d o=some o'->good o')->∀ i a d o,good o->wlk f l i a d o=wlk g l i a d o/\∀ o',wlk g l i a d o=some o'->good o'
 | [],_,i,a,d,o,ho=>⟨rfl,λo' e=>by simp only[wlk,aa]at e;subst e;exact ho⟩
 | x :: r,h,i,a,d,o,ho=>by
  have ih:=Y1h7 r λy hy=>h y (ai _ hy)
  simp only[wlk]
  by_cases e:i=a
  ·rw[ae e,ae e];exact ih _ _ _ _ ho
  ·rw[ab e,ab e]
   have hx:=h x aj (if i+1=a then d+1 else d) o ho
   rw[hx.1]
   cases e2:g x (if i+1=a then d+1 else d) o with
   | none=>exact⟨rfl,λo' e=>by cases e⟩
   | some o1=>exact ih _ _ _ _ (hx.2 o1 e2)
theorem Y1kt {f:YS_->Int->List YC->Option (List YC)}:∀ (l:List YS_) (j:Nat) (i a d:Int) (o:List YC),j<l.length->i+(j:Int)≠a->(∀ d o,f (l.g j) d o=none)->wlk f l i a d o=none
 | [],j,_,_,_,_,h,_,_=>absurd h sW
 | x :: r,0,i,a,d,o,_,h1,h2=>by
  simp only[wlk]
  rw[ab oW]
  have:=h2 (if i+1=a then d+1 else d) o
  simp only[cq]at this
  rw[this]
 | x :: r,j+1,i,a,d,o,h,h1,h2=>by
  have ih:=λd o=>Y1kt r j (i+1) a d o (by simpa using h) oW (by simpa using h2)
  simp only[wlk]
  split
  ·exact ih d o
  ·split
   ·rfl
   ·exact ih d _
theorem Y1th {p:YS_}(h:okY p) (hk:p.Ka=1):Ypz p:=by
 have hi:=Y19s h hk
 simp only[Ypz,Yld,af,ak]
 refine⟨hk,⟨?_,?_⟩,h⟩
 ·rw[Ym7,hi];simp[sumBy]
 ·rw[Yqd,hi];simp[Yma]
theorem Y1d9 {p:YS_}(h:okY p) (h1:¬ p.Ka=1) (h0:¬ p.Ka=0):p.Ia=[]:=by
 rw[Ypo]at h
 simp only[Yq6,Ypx,af,aF,ak]at h
 have:p.Ia.length=0:=by omega
 exact List.length_eq_zero_iff.1 this
theorem Y1jd {Ls:List YS_}(hL:∀ x∈Ls,Yot x):∀ p:YS_,okY p->∀ d o,(∀ x∈o,Ypz x.name)->vrI Ls p d o=vrS Ls p d o/\∀ o',vrS Ls p d o=some o'->∀ x∈o',Ypz x.name:=by
 refine YS_.ind λp ih h d o ho => ?_
 by_cases hk:p.Ka=1
 ·have hn:∀ x∈o++[Yue p d],Ypz x.name:=by
   intro x hx
   rcases List.mem_append.1 hx with hx|hx
   ·exact ho x hx
   ·rw[List.mem_singleton.1 hx];exact Y1th h hk
  cases hd:Ylj p with
  | true=>
   have h1:=Y1tv hL hd
   rw[Y15q hk hd,Y136 Ls p d o hk h1.2 h1.1 (.inl hd)]
   exact⟨rfl,λo' e=>by cases e⟩
  | false=>
   have hj:=Y1az hL hk
   by_cases h1:Ynb p\/Ynu Ls p
   ·rw[Y1i6 hk hd (hj ▸ h1),Y1ks Ls p d o hk h1]
    exact⟨rfl,λo' e=>by simp only[aa]at e;subst e;exact ho⟩
   ·have hu:Ynb p=false:=by cases e:Ynb p<;>simp_all
    have hI:Ynu Ls p=false:=by cases e:Ynu Ls p<;>simp_all
    have hJ:Yow Ls p=false:=by rw[<- hj];exact hI
    by_cases h3:3<d
    ·rw[Y1dv hk hd hu hJ h3,Y136 Ls p d o hk hu hI (.inr (.inr h3))]
     exact⟨rfl,λo' e=>by cases e⟩
    ·have hf:=Y1xi ho hk hd
     cases h5:(o.any λc=>Yph c.name p) with
     | true=>
      rw[Y1bn hk hd hu hJ h5,Y136 Ls p d o hk hu hI (.inr (.inl (hf.1 h5)))]
      exact⟨rfl,λo' e=>by cases e⟩
     | false=>
      have h6:fnd o p<0:=by
       by_cases h6:fnd o p<0
       ·exact h6
       ·rw[hf.2 oW]at h5;cases h5
      rw[Y1k0 hk hd hu hJ oW h5,Y1jl Ls p d o hk hu hI hd h6 oW]
      exact⟨rfl,λo' e=>by simp only[aa]at e;subst e;exact hn⟩
 ·by_cases h0:p.Ka=0
  ·rw[Yrl,ab hk]
   cases hs:okS p.Ia with
   | true=>
    have ha:=Y1cy hs
    rw[Ys7,ab hk,ab (by simp[h0]),ab ha.2,ae rfl,ha.1]
    exact Y1h7 (good:=λo=>∀ x∈o,Ypz x.name) p.Ia (λx hx d o ho=>ih x hx (Yop h x hx) d o ho) _ _ _ _ ho
   | false=>
    refine⟨?_,λo' e=>by simp at e⟩
    rw[ab sW]
    rcases Y1x0 hs with ha|⟨j,hj,hja,hjd⟩
    ·exact Y1b4 hk h0 ha
    ·rw[Ys7,ab hk,ab (by simp[h0])]
     split
     ·rfl
     ·refine Y1kt p.Ia j _ _ _ _ hj oW λd o=>Y15q ?_ hjd
      simp only[Ylj,af,ak]at hjd;exact hjd.1
  ·have hi:=Y1d9 h hk h0
   rw[Y1al hk h0,Yrl,ab hk,hi]
   simp only[okS,bo,okA,bx,wlk]
   exact⟨trivial,λo' e=>by simp only[aa]at e;subst e;exact ho⟩
theorem Y209 {Ls:List YS_}{p:YS_}(hL:okL Ls) (hp:Yld p):vrI Ls p 0 []=vrS Ls p 0 []:=by
 simp only[okL,af,am]at hL
 simp only[Yld,af]at hp
 exact(Y1jd hL.1 p hp.2 0 [] (λx hx=>by cases hx)).1
abbrev Zb3 (Ls:List YS_) (p:YS_):Ct:=⟨91,[],[Af Ls,Yln p],[.Ai (if okL Ls/\Yld p then (vrS Ls p 0 []).getD [] else [])],.tup [.r 0,lb (okL Ls&&Yld p&&(vrS Ls p 0 []).isSome)]⟩
theorem Zbr (Ls:List YS_) (p:YS_) (h:wY p<=1000000000):Zb3 Ls p:=Ylh call91 func91 (let v1:Tq _ _:=.w (.g (.nilreg 4 true 12)) (.f [1] [.y 12 []] (.tup [.r 0,lb false]));.c [.rd] (Zgn Ls) (.b (!okL Ls) (.y true v1) (.c [.rd] (Zv p) (.b (!Yld p) v1 (.d [.rd,.rd,.rd,.own true 12] (Zd Ls p 0 []) (.f [2] [.Ai ((vrI Ls p 0 []).getD [])] (.tup [.r 0,lb (vrI Ls p 0 []).isSome]))))))) (by
 dsimp only[Yl3,Zb3]
 have g:Yld p->Ylg p<=2000/\Ylw p<=40:=λh=>by simp only[Yld,af,ak]at h;exact⟨h.1.1,h.1.2⟩
 have g2:=@Y209 Ls p
 exact z00)
end
section
set_option maxRecDepth 20000
def tlY (s:YS_):YS_:=⟨0,0,mkS [],[],s.Ia.drop 1⟩
theorem Yxk (s:YS_):Ylg s<=wY s+1:=by
 refine YS_.ind (P:=λs=>Ylg s<=wY s+1) (λs ih => ?_) s
 have:∀ L:List YS_,(∀ x∈L,Ylg x<=wY x+1)->sumBy Ylg L<=L.length+sumBy wY L:=by
  intro L
  induction L with
  | nil=>intro _;simp[sumBy]
  | cons x r ihr=>
   intro h
   have h1:=h x aj
   have h2:=ihr λy hy=>h y (ai _ hy)
   simp only[sumBy,aD];omega
 have h1:=this s.Ia ih
 have h2:=Ymd s
 rw[Ym7];omega
theorem Y1a4 {s:YS_}(h:Yld s):Yld (tlY s):=by
 simp only[Yld,af,ak]at h|-
 have e:s.Ia=s.Ia.take 1++s.Ia.drop 1:=(be 1 s.Ia).symm
 have h1:sumBy Ylg s.Ia=sumBy Ylg (s.Ia.take 1)+sumBy Ylg (s.Ia.drop 1):=by rw[<- Yp0,<- e]
 have h2:Yma Ylw s.Ia=max (Yma Ylw (s.Ia.take 1)) (Yma Ylw (s.Ia.drop 1)):=by rw[<- Ywy,<- e]
 have h3:=Ym7 s
 have h4:=Yqd s
 have h5:=Yop h.2
 refine⟨⟨?_,?_⟩,?_⟩
 ·rw[Ym7];simp only[tlY];omega
 ·rw[Yqd];simp only[tlY];omega
 ·rw[Ypo,af,am]
  refine⟨λx hx=>h5 x (aG hx),?_⟩
  simp[tlY,Yq6,Ypx,Yns,Yqg,mkS]
theorem Y1c8 (s:YS_):wY (tlY s)<=wY s:=by
 have e:s.Ia=s.Ia.take 1++s.Ia.drop 1:=(be 1 s.Ia).symm
 have h1:sumBy wY s.Ia=sumBy wY (s.Ia.take 1)+sumBy wY (s.Ia.drop 1):=by rw[<- Yp0,<- e]
 have h2:=Ymd s
 have h3:=Ymd (tlY s)
 have h4:(tlY s).Ta.size=0:=rfl
 have h5:(s.Ia.drop 1).length<=s.Ia.length:=by rw[ax];omega
 simp only[tlY,bo]at h3 h4
 rw[tlY];omega
abbrev Z9d (s:YS_):Ct:=⟨152,[],[Yln s],[],.sv (.agg [vI 0,vI 0,vS (mkS []),.val (.y),Am (s.Ia.drop 1)])⟩
theorem Zah (s:YS_) (h:1<=s.Ia.length):Z9d s:=Ylh call152 func152 (let v1:=s.Ia.map Yl1;.p ((0:Int)<=1) (.p (1<=v1.length/\v1.length<=v1.length/\∀ (x0:List Cell),x0∈s.Ia.map Yl1->x0.length=5) (.s (.agg [vI 0,vI 0,vS (mkS []),.val (.y),vL (List.take (v1.length - 1) (v1.drop 1))])))) (by
 dsimp only[Yl3,Z9d]
 have e:(s.Ia.drop 1).take (s.Ia.length - 1)=s.Ia.drop 1:=ar (by rw[ax];omega)
 exact zV)
abbrev Z5g (s:YS_):Ct:=⟨92,[],[Yln s],[],.sv (.agg [vI 0,vI 0,vS (mkS []),.val (.y),Am (s.Ia.drop 1)])⟩
theorem Z3o (s:YS_) (h:1<=s.Ia.length):Z5g s:=Ylh call92 func92 (let v1:=s.Ia.map Yl1;.p ((0:Int)<=1) (.p (1<=v1.length/\v1.length<=v1.length/\∀ (x0:List Cell),x0∈s.Ia.map Yl1->x0.length=5) (.s (.agg [vI 0,vI 0,vS (mkS []),.val (.y),vL (List.take (v1.length - 1) (v1.drop 1))])))) (by
 dsimp only[Yl3,Z5g]
 have e:(s.Ia.drop 1).take (s.Ia.length - 1)=s.Ia.drop 1:=ar (by rw[ax];omega)
 exact zV)
abbrev Zs (s:YS_):Ct:=⟨154,[],[Yln s],[],.sv (li (Ylg s))⟩
def Z30 (s:YS_):Lp Nat:=.mk 19 0 (λx=>[(3,hs x 1),(7,Af s.Ia),(8,li (s.Ia.map Yl1).length),(9,hs x 0)]) (λx=>[]) (λk=>[.s (li k),.s (li (↑(1+sumBy Ylg (s.Ia.take k)):Int))]) (λk=>k<=s.Ia.length/\s.Ia.length<=9223372036854775807) (λk=>s.Ia.length - k) [.mk True (.exit 0) (λx=>[(3,hs x 0)]) (λx=>[]) [.s (li (↑(1+sumBy Ylg s.Ia):Int))]]
theorem Zdt (s:YS_) (h:wY s<=1000000000) (ih:∀ (z:YS_),z∈s.Ia->wY z<=1000000000->OK (Zs z)):Lp.Sem prog (Yli f154 0) (Z30 s):=Ylp (λk=>let v2:=(↑(1+sumBy Ylg (s.Ia.take k)):Int);let v3:=s.Ia.g k;let v1:=v2+(↑(Ylg v3):Int);.i ((k:Int)<(s.Ia.map Yl1).length) (.x (k:Int) (s.Ia.map Yl1) (Yl8 v3) (.d [.rd] (Zs v3) (.r v1 (.r ((k:Int)+1) (.g [] (k+1) [.s (li ((k:Int)+1)),.s (li v1)]))))) (.o 0 [] [.s (li v2)])) (by
 intro k h;try dsimp only[Yl3,Yle,Z30]at h|-
 have g1:=Ymd s
 have g2:=@Yls _ wY s.Ia (s.Ia.g k)
 have g3:=@Yom _ _ Ylg s.Ia k
 have g4:=Ymu Ylg s.Ia (k+1)
 have g5:=Yxk s
 have g6:=Ym7 s
 have g7:s.Ia.length<=k->s.Ia.take k=s.Ia:=λh=>ar h
 exact z01)
theorem Zh9 (s:YS_) (h:wY s<=1000000000) (ih:∀ z∈s.Ia,∀ (h:wY z<=1000000000),Zs z):Zs s:=Ylh call154 func154 (.z Yl1 s.Ia (.l (Z30 s) (Zdt s h ih) [] [.s (li 0),.s (li 1)] 0 (.t (.s (li (↑(1+sumBy Ylg s.Ia):Int))) .q))) (by
 dsimp only[Yl3,Zs,Yle,Z30]
 have g6:=Ym7 s
 have g7:sumBy Ylg (s.Ia.take 0)=0:=rfl
 exact z02)
theorem Z8e (s:YS_):∀ (h:wY s<=1000000000),Zs s:=YS_.ind (P:=λs=>∀ (h:wY s<=1000000000),Zs s) (λs ih h=>Zh9 s h ih) s
abbrev Zt (s:YS_):Ct:=⟨94,[],[Yln s],[],.sv (li (Ylg s))⟩
def Z31 (s:YS_):Lp Nat:=.mk 19 0 (λx=>[(3,hs x 1),(7,Af s.Ia),(8,li (s.Ia.map Yl1).length),(9,hs x 0)]) (λx=>[]) (λk=>[.s (li k),.s (li (↑(1+sumBy Ylg (s.Ia.take k)):Int))]) (λk=>k<=s.Ia.length/\s.Ia.length<=9223372036854775807) (λk=>s.Ia.length - k) [.mk True (.exit 0) (λx=>[(3,hs x 0)]) (λx=>[]) [.s (li (↑(1+sumBy Ylg s.Ia):Int))]]
theorem Zdu (s:YS_) (h:wY s<=1000000000) (ih:∀ (z:YS_),z∈s.Ia->wY z<=1000000000->OK (Zt z)):Lp.Sem prog (Yli f94 0) (Z31 s):=Ylp (λk=>let v2:=(↑(1+sumBy Ylg (s.Ia.take k)):Int);let v3:=s.Ia.g k;let v1:=v2+(↑(Ylg v3):Int);.i ((k:Int)<(s.Ia.map Yl1).length) (.x (k:Int) (s.Ia.map Yl1) (Yl8 v3) (.d [.rd] (Zt v3) (.r v1 (.r ((k:Int)+1) (.g [] (k+1) [.s (li ((k:Int)+1)),.s (li v1)]))))) (.o 0 [] [.s (li v2)])) (by
 intro k h;try dsimp only[Yl3,Yle,Z31]at h|-
 have g1:=Ymd s
 have g2:=@Yls _ wY s.Ia (s.Ia.g k)
 have g3:=@Yom _ _ Ylg s.Ia k
 have g4:=Ymu Ylg s.Ia (k+1)
 have g5:=Yxk s
 have g6:=Ym7 s
 have g7:s.Ia.length<=k->s.Ia.take k=s.Ia:=λh=>ar h
 exact z01)
theorem Zha (s:YS_) (h:wY s<=1000000000) (ih:∀ z∈s.Ia,∀ (h:wY z<=1000000000),Zt z):Zt s:=Ylh call94 func94 (.z Yl1 s.Ia (.l (Z31 s) (Zdu s h ih) [] [.s (li 0),.s (li 1)] 0 (.t (.s (li (↑(1+sumBy Ylg s.Ia):Int))) .q))) (by
 dsimp only[Yl3,Zt,Yle,Z31]
 have g6:=Ym7 s
 have g7:sumBy Ylg (s.Ia.take 0)=0:=rfl
 exact z02)
theorem Z8f (s:YS_):∀ (h:wY s<=1000000000),Zt s:=YS_.ind (P:=λs=>∀ (h:wY s<=1000000000),Zt s) (λs ih h=>Zha s h ih) s
def clP (Ls:List YS_) (p:YS_):Bool:=Yld p&&decide (p.Ka=0) && !decide ((p.Ia.length:Int)=0)&&decide ((p.Ia.g 0).Ka=1) && !Ylj (p.Ia.g 0)&&(vrS Ls (tlY p) 0 []).isSome
def clT (Ls:List YS_) (p t:YS_):Bool:=clP Ls p&&tmF ((vrS Ls (tlY p) 0 []).getD []) t
def Yru (r:YR_):Nat->Bool
 | 0=>true
 | k+1=>Yru r k&&clT r.La (r.Pb.g k) (r.Tb.g k)
def clN (r:YR_):Nat->Nat
 | 0=>0
 | k+1=>clN r k+Ylg (r.Pb.g k)+Ylg (r.Tb.g k)
theorem Y13r (r:YR_):∀ (m k:Nat),k<=m->Yru r m->Yru r k
 | 0,k,h,_=>by
  obtain rfl:k=0:=by omega
  rfl
 | m+1,k,h,ht=>by
  by_cases e:k=m+1
  ·rw[e];exact ht
  ·refine Y13r r m k oW ?_
   simp only[Yru,af]at ht;exact ht.1
theorem Y1do (r:YR_):∀ k,k<=r.Pb.length->r.Pb.length=r.Tb.length->clN r k<=2 * k+sumBy wY (r.Pb.take k)+sumBy wY (r.Tb.take k)
 | 0,_,_=>by simp[clN,sumBy]
 | k+1,hk,hl=>by
  have ih:=Y1do r k oW hl
  have h1:=@Yom _ _ wY r.Pb k oW
  have h2:=@Yom _ _ wY r.Tb k oW
  have h3:=Yxk (r.Pb.g k)
  have h4:=Yxk (r.Tb.g k)
  simp only[clN];omega
def Ymr (r:YR_):Bool:=okL r.La&&decide ((r.Pb.length:Int)=r.Tb.length)&&decide (1<=(r.Pb.length:Int)/\(r.Pb.length:Int)<=12)&&Yru r r.Pb.length&&decide ((clN r r.Pb.length:Int)<=2000)
abbrev Z6l (r:YR_):Ct:=⟨105,[],[Yvj r],[],.sv (lb (Ymr r))⟩
def Z32 (r:YR_):Lp Nat:=.mk 100 0 (λx=>[(1,.y 0),(3,hs x 1),(29,Af r.Pb),(30,li (r.Pb.map Yl1).length),(31,hs x 0)]) (λx=>[.box (vals (Yod r))]) (λk=>[.s (li k),.s (li (↑(clN r k):Int))]) (λk=>k<=r.Pb.length/\r.Pb.length<=9223372036854775807/\r.Pb.length=r.Tb.length/\r.Pb.length<=12/\Yru r k) (λk=>r.Pb.length - k) [.mk (Yru r r.Pb.length) (.exit 0) (λx=>[(3,hs x 0)]) (λx=>[]) [.s (li (↑(clN r r.Pb.length):Int))],.mk (Yru r r.Pb.length=false) .ret (λx=>[(2,hs x 0)]) (λx=>[]) [.s (lb false)]]
theorem Zdv (r:YR_) (h:wR r<=1000000000):Lp.Sem prog (Yli f105 0) (Z32 r):=Ylp (λk=>let v1:=r.Pb.g k;let v2:=r.Tb.g k;let v3:Tq _ _:=.y true (.o 1 [] [.s (lb false)]);let v4:=(↑(clN r k):Int);let v5:=YS_.mk 0 0 (mkS []) [] (v1.Ia.drop 1);let v6:=v1.Ia.g 0;let v7:=v4+(↑(Ylg v1):Int)+(↑(Ylg v2):Int);let v8:=(0:Int)<=0/\(v1.Ia.map Yl1)[0]? = some (Yl8 v6);let v9:=(vrS r.La v5 0 []).getD [];.i ((k:Int)<(r.Pb.map Yl1).length) (.x (k:Int) (r.Pb.map Yl1) (Yl8 v1) (.c [.rd] (Z81 v1) (.b (!Yld v1) (.y true (.y true (.y true v3))) (.i (v1.Ka≠0) (.y true (.y true v3)) (.z Yl1 v1.Ia (.i (((v1.Ia.map Yl1).length:Int)=0) (.y true v3) (.w (.cells (Yl8 v6)) (.p v8 (.i (v6.Ka≠1) v3 (.w (.cells (Yl8 v6)) (.p v8 (.c [.rd] (Z3n v6) (.b (Ylj v6) (.o 1 [] [.s (lb false)]) (.w (.draw [(5,[14])]) (.d [.rd] (Z9d v1) (.w (.bool false) (.d [.rd,.rd,.rd,.own true 12] (Z14 r.La v5 0 []) (.b (!(vrS r.La v5 0 []).isSome) v3 (.x (k:Int) (r.Tb.map Yl1) (Yl8 v2) (.c [.rd,.rd] (Zkt v9 v2) (.b (!tmF v9 v2) (.o 1 [] [.s (lb false)]) (.w (.draw []) (.d [.rd] (Zs v1) (.r (v4+(↑(Ylg v1):Int)) (.x (k:Int) (r.Tb.map Yl1) (Yl8 v2) (.d [.rd] (Zs v2) (.r v7 (.r ((k:Int)+1) (.g [0] (k+1) [.s (li ((k:Int)+1)),.s (li v7)]))))))))))))))))))))))))))))) (.o 0 [] [.s (li v4)])) (by
 intro k h;try dsimp only[Yl3,Yle,Z32]at h|-
 have g1:=Y13r r r.Pb.length (k+1)
 have g2:Yru r (k+1)=(Yru r k&&clT r.La (r.Pb.g k) (r.Tb.g k)):=rfl
 have g3:clN r (k+1)=clN r k+Ylg (r.Pb.g k)+Ylg (r.Tb.g k):=rfl
 have g4:=Y1do r (k+1)
 have g5:=Ymu wY r.Pb (k+1)
 have g6:=Ymu wY r.Tb (k+1)
 have g7:=Y16m r
 have g8:=@Yls _ wY r.Pb (r.Pb.g k)
 have g9:=@Yls _ wY r.Tb (r.Tb.g k)
 have g10:=@Y1a4 (r.Pb.g k)
 have g11:=Y1c8 (r.Pb.g k)
 have g12:∀ p,Yld p->Ylg p<=2000/\Ylw p<=40:=λp h=>by simp only[Yld,af,ak]at h;exact⟨h.1.1,h.1.2⟩
 exact z0v)
theorem Z15 (r:YR_) (h:wR r<=1000000000):Z6l r:=Ylh call105 func105 (let v1:=((r.Pb.map Yl1).length:Int);.c [.rd] (Zkf r.La) (.b (!okL r.La) (.y true (.y true (.s (lb false)))) (.z Yl1 r.Pb (.z Yl1 r.Tb (.i (v1≠((r.Tb.map Yl1).length:Int)) (.y true (.s (lb false))) (.z Yl1 r.Pb (.c [.rd,.rd,.rd] (Z6j v1 1 12) (.b (!decide (1<=v1/\v1<=12)) (.s (lb false)) (.z Yl1 r.Pb (.l (Z32 r) (Zdv r h) [0] [.s (li 0),.s (li 0)] 0 (.t (.s (lb (decide ((↑(clN r r.Pb.length):Int)<=2000)))) (.t (.s (lb false)) .q)))))))))))) (by
 dsimp only[Yl3,Z6l,Yle,Z32]
 exact z0w)
abbrev Z27 (r:YR_):Ct:=⟨41,[],[Yvj r],[],.sv (lb (Ymr r))⟩
def Z33 (r:YR_):Lp Nat:=.mk 104 0 (λx=>[(1,.y 0),(3,hs x 1),(34,Af r.Pb),(35,li (r.Pb.map Yl1).length),(36,hs x 0)]) (λx=>[.box (vals (Yod r))]) (λk=>[.s (li k),.s (li (↑(clN r k):Int))]) (λk=>k<=r.Pb.length/\r.Pb.length<=9223372036854775807/\r.Pb.length=r.Tb.length/\r.Pb.length<=12/\Yru r k/\okL r.La) (λk=>r.Pb.length - k) [.mk (Yru r r.Pb.length) (.exit 0) (λx=>[(3,hs x 0)]) (λx=>[]) [.s (li (↑(clN r r.Pb.length):Int))],.mk (Yru r r.Pb.length=false) .ret (λx=>[(2,hs x 0)]) (λx=>[]) [.s (lb false)]]
theorem Zdw (r:YR_) (h:wR r<=1000000000):Lp.Sem prog (Yli f41 0) (Z33 r):=Ylp (λk=>let v1:=r.Pb.g k;let v2:=r.Tb.g k;let v3:Tq _ _:=.y true (.o 1 [] [.s (lb false)]);let v4:=(↑(clN r k):Int);let v5:=YS_.mk 0 0 (mkS []) [] (v1.Ia.drop 1);let v6:=v1.Ia.g 0;let v7:=(↑(Ylg v1):Int)+(↑(Ylg v2):Int);let v8:=if okL r.La/\Yld v5 then (vrS r.La v5 0 []).getD [] else [];let v9:=(0:Int)<=0/\(v1.Ia.map Yl1)[0]? = some (Yl8 v6);.i ((k:Int)<(r.Pb.map Yl1).length) (.x (k:Int) (r.Pb.map Yl1) (Yl8 v1) (.c [.rd] (Zv v1) (.b (!Yld v1) (.y true (.y true (.y true v3))) (.i (v1.Ka≠0) (.y true (.y true v3)) (.z Yl1 v1.Ia (.i (((v1.Ia.map Yl1).length:Int)=0) (.y true v3) (.w (.cells (Yl8 v6)) (.p v9 (.i (v6.Ka≠1) v3 (.w (.cells (Yl8 v6)) (.p v9 (.c [.rd] (Z1 v6) (.b (Ylj v6) (.o 1 [] [.s (lb false)]) (.w (.draw []) (.d [.rd] (Z5g v1) (.d [.rd,.rd] (Zb3 r.La v5) (.b (!(okL r.La&&Yld v5&&(vrS r.La v5 0 []).isSome)) v3 (.x (k:Int) (r.Tb.map Yl1) (Yl8 v2) (.c [.rd,.rd] (Zku v8 v2) (.b (!tmF v8 v2) (.o 1 [] [.s (lb false)]) (.w (.draw []) (.d [.rd] (Zt v1) (.x (k:Int) (r.Tb.map Yl1) (Yl8 v2) (.d [.rd] (Zt v2) (.r v7 (.r (v4+v7) (.r ((k:Int)+1) (.g [0] (k+1) [.s (li ((k:Int)+1)),.s (li (v4+v7))])))))))))))))))))))))))))))) (.o 0 [] [.s (li v4)])) (by
 intro k h;try dsimp only[Yl3,Yle,Z33]at h|-
 have g1:=Y13r r r.Pb.length (k+1)
 have g2:Yru r (k+1)=(Yru r k&&clT r.La (r.Pb.g k) (r.Tb.g k)):=rfl
 have g3:clN r (k+1)=clN r k+Ylg (r.Pb.g k)+Ylg (r.Tb.g k):=rfl
 have g4:=Y1do r (k+1)
 have g5:=Ymu wY r.Pb (k+1)
 have g6:=Ymu wY r.Tb (k+1)
 have g7:=Y16m r
 have g8:=@Yls _ wY r.Pb (r.Pb.g k)
 have g9:=@Yls _ wY r.Tb (r.Tb.g k)
 have g10:=@Y1a4 (r.Pb.g k)
 have g11:=Y1c8 (r.Pb.g k)
 have g12:∀ p,Yld p->Ylg p<=2000/\Ylw p<=40:=λp h=>by simp only[Yld,af,ak]at h;exact⟨h.1.1,h.1.2⟩
 exact z0v)
theorem Z3 (r:YR_) (h:wR r<=1000000000):Z27 r:=Ylh call41 func41 (let v1:=((r.Pb.map Yl1).length:Int);let v2:Tq _ _:=.y true (.s (lb false));.c [.rd] (Zgn r.La) (.b (!okL r.La) (.y true (.y true v2)) (.z Yl1 r.Pb (.z Yl1 r.Tb (.i (v1≠((r.Tb.map Yl1).length:Int)) (.y true v2) (.z Yl1 r.Pb (.i (v1<1) v2 (.z Yl1 r.Pb (.i (12<v1) (.s (lb false)) (.z Yl1 r.Pb (.l (Z33 r) (Zdw r h) [0] [.s (li 0),.s (li 0)] 0 (.t (.s (lb (decide ((↑(clN r r.Pb.length):Int)<=2000)))) (.t (.s (lb false)) .q))))))))))))) (by
 dsimp only[Yl3,Z27,Yle,Z33]
 exact z0w)
end
section
def Yms:List ByteArray:=[mkS [113,117,111,116,101],mkS [108,97,109,98,100,97],mkS [105,102],mkS [115,101,116,33],mkS [98,101,103,105,110],mkS [114,101,115,101,116],mkS [115,104,105,102,116],mkS [100,101,102,105,110,101],mkS [100,101,102,105,110,101,45,115,121,110,116,97,120],mkS [108,101,116,45,115,121,110,116,97,120],mkS [115,121,110,116,97,120,45,114,117,108,101,115],mkS [108,111,99,97,108]]
def Yor:List ByteArray:=[mkS [43],mkS [45],mkS [42],mkS [61],mkS [60],mkS [99,111,110,115],mkS [99,97,114],mkS [99,100,114],mkS [110,117,108,108,63],mkS [112,97,105,114,63],mkS [110,117,109,98,101,114,63],mkS [101,113,63],mkS [110,111,116],mkS [100,105,115,112,108,97,121]]
def Y151 (Ka:Int):List ByteArray->Int->List YB
 | [],_=>[]
 | s :: r,i=>⟨s,[],Ka,i⟩ :: Y151 Ka r (i+1)
def Yo3:List YB:=Y151 1 Yms 0++Y151 2 Yor 0
def Ype (k:Nat):List YB:=Yo3.take k
theorem Y16i {k:Nat}:(Ype k).length<=k:=by unfold Ype;rw[au];exact Nat.min_le_left _ _
theorem Y14m {k:Nat}(h:k<12):Ype (k+1)=Ype k++[⟨Yms.g k,[],1,k⟩]:=by
 have:∀ k,k<12->Ype (k+1)=Ype k++[⟨Yms.g k,[],1,k⟩]:=by
  intro k h;have:k=0\/k=1\/k=2\/k=3\/k=4\/k=5\/k=6\/k=7\/k=8\/k=9\/k=10\/k=11:=by omega
  rcases this with rfl|rfl|rfl|rfl|rfl|rfl|rfl|rfl|rfl|rfl|rfl|rfl<;>rfl
 exact this k h
theorem Y1hk {k:Nat}(h:k<14):Ype (12+(k+1))=Ype (12+k)++[⟨Yor.g k,[],2,k⟩]:=by
 have:∀ k,k<14->Ype (12+(k+1))=Ype (12+k)++[⟨Yor.g k,[],2,k⟩]:=by
  intro k h;have:k=0\/k=1\/k=2\/k=3\/k=4\/k=5\/k=6\/k=7\/k=8\/k=9\/k=10\/k=11\/k=12\/k=13:=by omega
  rcases this with rfl|rfl|rfl|rfl|rfl|rfl|rfl|rfl|rfl|rfl|rfl|rfl|rfl|rfl<;>rfl
 exact this k h
def Yrj (k:Nat):List YB:=Yo3.take (12+k)
theorem Y1mr {k:Nat}:(Yrj k).length<=12+k:=Y16i
theorem Y14p {k:Nat}(h:k<14):Yrj (k+1)=Yrj k++[⟨Yor.g k,[],2,k⟩]:=Y1hk h
theorem Y1hn:Ype 12=Yrj 0:=rfl
theorem Y1ne:Ype 0=[]:=rfl
theorem Y1mo:Yrj 14=Yo3:=rfl
abbrev Z85:Ct:=⟨96,[],[],[.At Yms],.sv (.r 0)⟩
theorem Zev:Z85:=Ylh call96 func96 (.f [0] [.y 1 [[cS (mkS [113,117,111,116,101])],[cS (mkS [108,97,109,98,100,97])],[cS (mkS [105,102])],[cS (mkS [115,101,116,33])],[cS (mkS [98,101,103,105,110])],[cS (mkS [114,101,115,101,116])],[cS (mkS [115,104,105,102,116])],[cS (mkS [100,101,102,105,110,101])],[cS (mkS [100,101,102,105,110,101,45,115,121,110,116,97,120])],[cS (mkS [108,101,116,45,115,121,110,116,97,120])],[cS (mkS [115,121,110,116,97,120,45,114,117,108,101,115])],[cS (mkS [108,111,99,97,108])]]] (.sv (.r 0))) (by
 dsimp only[Yl3,Z85]
 exact z04)
abbrev Z4k:Ct:=⟨97,[],[],[.At Yor],.sv (.r 0)⟩
theorem Zar:Z4k:=Ylh call97 func97 (.f [0] [.y 1 [[cS (mkS [43])],[cS (mkS [45])],[cS (mkS [42])],[cS (mkS [61])],[cS (mkS [60])],[cS (mkS [99,111,110,115])],[cS (mkS [99,97,114])],[cS (mkS [99,100,114])],[cS (mkS [110,117,108,108,63])],[cS (mkS [112,97,105,114,63])],[cS (mkS [110,117,109,98,101,114,63])],[cS (mkS [101,113,63])],[cS (mkS [110,111,116])],[cS (mkS [100,105,115,112,108,97,121])]]] (.sv (.r 0))) (by
 dsimp only[Yl3,Z4k]
 exact z04)
abbrev Z5m:Ct:=⟨44,[],[],[.Ac Yo3],.sv (.r 0)⟩
def Z16:Lp Nat:=.mk 36 0 (λx=>[(1,.r 0),(21,.r 1),(22,li 14),(23,hs x 0)]) (λx=>[ho x 1,.At Yor]) (λk=>[.s (li k),.o (.Ac (Yrj k))]) (λk=>k<=14) (λk=>14 - k) [.mk True (.exit 2) (λx=>[(1,.r 0)]) (λx=>[ho x 0]) [.o (.Ac Yo3)]]
def Z17:Lp Nat:=.mk 36 0 (λx=>[(1,.r 0),(7,.r 1),(8,li 12),(9,hs x 0)]) (λx=>[ho x 1,.At Yms]) (λk=>[.s (li k),.o (.Ac (Ype k))]) (λk=>k<=12) (λk=>12 - k) [.mk True (.exit 0) (λx=>[(1,.r 0)]) (λx=>[ho x 0]) [.o (.Ac (Yrj 0))]]
theorem Z9e:Lp.Sem prog (Yli f44 1) Z16:=Ylp (λk=>let v1:=Yor.g (k:Int).toNat;.i ((k:Int)<14) (.p (0<=(k:Int)/\(k:Int).toNat<14) (.w (.cells (Ymj v1)) (.p ((Yor.map Ymj)[(k:Int).toNat]? = some [cS v1]) (.p ((((Yrj k).map Yl2).length+1) * 56<=140737488355328) (.r ((k:Int)+1) (.g [3,1] (k+1) [.s (li ((k:Int)+1)),.o (.y 4 ((Yrj k).map Yl2++[[cS v1,.list [],cI 2,cI (k:Int)]]))])))))) (.o 0 [0] [.o (.Ac (Yrj k))])) (by
 intro k h;try dsimp only[Yl3,Yle,Z16]at h|-
 have e:Yor.length=14:=rfl
 have g:=@Y1mr k
 have g2:=@Y14p k
 with_reducible repeat' (first|apply ah|exact zR|(intro))
 all_goals ((try simp only[std,inj]at *);with_reducible and_intros)
 all_goals try first|exact z|grind[Y1mo,Yla,Ylb,Yl5]
 all_goals (rw[Y14p oW];exact Yl5 (C:=Yl2) (Yrj k) ⟨Yor.g k,[],2,k⟩))
theorem Z9f:Lp.Sem prog (Yli f44 0) Z17:=Ylp (λk=>let v1:=Yms.g (k:Int).toNat;.i ((k:Int)<12) (.p (0<=(k:Int)/\(k:Int).toNat<12) (.w (.cells (Ymj v1)) (.p ((Yms.map Ymj)[(k:Int).toNat]? = some [cS v1]) (.p ((((Ype k).map Yl2).length+1) * 56<=140737488355328) (.r ((k:Int)+1) (.g [3,1] (k+1) [.s (li ((k:Int)+1)),.o (.y 4 ((Ype k).map Yl2++[[cS v1,.list [],cI 1,cI (k:Int)]]))])))))) (.o 0 [0] [.o (.Ac (Ype k))])) (by
 intro k h;try dsimp only[Yl3,Yle,Z17]at h|-
 have e:Yms.length=12:=rfl
 have g:=@Y16i k
 have g2:=@Y14m k
 with_reducible repeat' (first|apply ah|exact zR|(intro))
 all_goals ((try simp only[std,inj]at *);with_reducible and_intros)
 all_goals try first|exact z|grind[Y1ne,Y1hn,Yla,Ylb,Yl5]
 all_goals (rw[Y14m oW];exact Yl5 (C:=Yl2) (Ype k) ⟨Yms.g k,[],1,k⟩))
theorem Zbs:Z5m:=Ylh call44 func44 (.w (.bool false) (.c [] Zev (.h (12<=9223372036854775807) (.l Z17 Z9f [0,1] [.s (li 0),.o (.y 4 [])] 0 (.t (.c [] Zar (.h (14<=9223372036854775807) (.l Z16 Z9e [0,1] [.s (li 0),.o (.Ac (Yrj 0))] 0 (.t (.f [0] [.Ac Yo3] (.sv (.r 0))) .q)))) .q))))) (by
 dsimp only[Yl3,Z5m,Yle,Z17,Z16]
 exact z04)
abbrev Z6m:Ct:=⟨18,[],[],[.Ac Yo3],.sv (.agg [.ref 0,.val (.y),vI 0,vI 0,vI 200])⟩
theorem Zcm:Z6m:=Ylh call18 func18 (.c [] Zbs (.f [1] [.Ac Yo3] (.sv (.agg [.ref 0,.val (.y),vI 0,vI 0,vI 200])))) (by
 dsimp only[Yl3,Z6m]
 exact zV)
abbrev Z86:Ct:=⟨127,[],[],[.At Yms],.sv (.r 0)⟩
theorem Zx:Z86:=Ylh call127 func127 (.f [0] [.y 1 [[cS (mkS [113,117,111,116,101])],[cS (mkS [108,97,109,98,100,97])],[cS (mkS [105,102])],[cS (mkS [115,101,116,33])],[cS (mkS [98,101,103,105,110])],[cS (mkS [114,101,115,101,116])],[cS (mkS [115,104,105,102,116])],[cS (mkS [100,101,102,105,110,101])],[cS (mkS [100,101,102,105,110,101,45,115,121,110,116,97,120])],[cS (mkS [108,101,116,45,115,121,110,116,97,120])],[cS (mkS [115,121,110,116,97,120,45,114,117,108,101,115])],[cS (mkS [108,111,99,97,108])]]] (.sv (.r 0))) (by
 dsimp only[Yl3,Z86]
 exact z04)
abbrev Z4l:Ct:=⟨135,[],[],[.At Yor],.sv (.r 0)⟩
theorem Z5n:Z4l:=Ylh call135 func135 (.f [0] [.y 1 [[cS (mkS [43])],[cS (mkS [45])],[cS (mkS [42])],[cS (mkS [61])],[cS (mkS [60])],[cS (mkS [99,111,110,115])],[cS (mkS [99,97,114])],[cS (mkS [99,100,114])],[cS (mkS [110,117,108,108,63])],[cS (mkS [112,97,105,114,63])],[cS (mkS [110,117,109,98,101,114,63])],[cS (mkS [101,113,63])],[cS (mkS [110,111,116])],[cS (mkS [100,105,115,112,108,97,121])]]] (.sv (.r 0))) (by
 dsimp only[Yl3,Z4l]
 exact z04)
end
end Go.Proofs.YtcbodhkhppgkiaaGreat
end
