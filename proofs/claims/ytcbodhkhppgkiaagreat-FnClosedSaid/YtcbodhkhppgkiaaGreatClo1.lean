/- Part 1 of a proof. No condition. -/
import Derived.Test.YtcbodhkhppgkiaaGreatQ5
section
namespace Go.Proofs.YtcbodhkhppgkiaaGreat
open Go Go.Proofs.YtcbodhkhppgkiaaGreat.Ab
abbrev Ab.Ob.Aa (l:List Int):Ob:=.arr true 1 (l.map Yke)
abbrev Ab.Ob.Ac (l:List YB):Ob:=.arr true 4 (l.map Ykc)
abbrev Ab.Ob.Ad (l:List YR_):Ob:=.arr true 3 (l.map Ykn)
abbrev Ab.Ob.Ae (l:List YS_):Ob:=.arr true 5 (l.map Ykb)
abbrev Af (l:List YS_):SV:=ll (l.map Ykb)
abbrev Ag (l:List Int):SV:=ll (l.map Yke)
abbrev Ab.Ob.Ah (l:List Yd):Ob:=.arr true 4 (l.map Ykq)
abbrev Ab.Ob.Ai (l:List YC):Ob:=.arr true 12 (l.map Ykh)
abbrev Aj (l:List YB):SV:=ll (l.map Ykc)
abbrev Ab.Ob.Ak (l:List Yc):Ob:=.arr true 8 (l.map Ykz)
abbrev Al (l:List YC):SV:=ll (l.map Ykh)
abbrev Am (l:List YS_):AC:=vL (l.map Ykb)
abbrev Ab.Cell.Ao (l:List Int):Cell:=.list (l.map Yke)
abbrev Ap (l:List Yd):SV:=ll (l.map Ykq)
abbrev Aq (l:List UInt8):AC:=vL (l.map Ym0)
abbrev Ab.Ob.Ar (l:List ByteArray):Ob:=.arr true 1 (l.map Ylu)
abbrev As (l:List YB):AC:=vL (l.map Ykc)
abbrev At (l:List Int):AC:=vL (l.map Yke)
abbrev Ab.Cell.Au (l:List YS_):Cell:=.list (l.map Ykb)
abbrev Av (l:List Yc):SV:=ll (l.map Ykz)
abbrev Aw (l:List ByteArray):SV:=ll (l.map Ylu)
abbrev Ax (l:List UInt8):SV:=ll (l.map Ym0)
abbrev Ab.Ob.y:=Ob.arr true
abbrev Ab.SV.y (n:Nat):SV:=.one (.ptr n 0)
abbrev Ab.SV.r (n:Nat):SV:=.one (.ref n)
abbrev Ab.Cell.y:Cell:=.lit (.slice none 0 0)
abbrev Ab.Orc.g:=Orc.ghost
abbrev Ab.Orc.m (n:Nat):Orc:=.ghost (.move n)
theorem zV {p : Prop} (h : p := by
  with_reducible repeat' (first | apply And.intro | exact zR | (intro; skip))
  all_goals (try simp only [std, inj] at *)
  all_goals with_reducible repeat' apply And.intro
  all_goals (try (first | exact z | grind [Ykl, Ykm, Ykf]))) : p := h
theorem zW {p : Prop} (h : p := by
  with_reducible repeat' (first | apply And.intro | exact zR | (intro; skip))
  all_goals (try simp only [std, inj] at *)
  all_goals with_reducible repeat' apply And.intro
  all_goals (try (first | exact z | grind [Ykl, Ykm, Ykf, Ykg]))) : p := h
theorem zG {p : Prop} (h : p := by first | exact z | grind [Ykl, Ykm, Ykf]) : p := h
theorem z00 {p:Prop}(h:p:=by
 with_reducible repeat' (first|apply ah|exact zR|(intro)|apply Zhk|apply Zhl|apply Z1|apply Z9w|apply Zf|apply Z0|apply Zi|apply Z2|apply Z22|apply Z6g|apply Z23|apply Z65|apply Z1p|apply Zhw|apply Z4f|apply Za|apply Z3i|apply Zg|apply Z12|apply Zb|apply Z6|apply Za3|apply Z2d|apply Ziq|apply Zip|apply Z9o|apply Z7z|apply Z6b|apply Z8l|apply Z80)
 all_goals ((try simp only[std,inj]at *);with_reducible and_intros)
 all_goals try with_reducible first|apply Zhk|apply Zhl|apply Z1|apply Z9w|apply Zf|apply Z0|apply Zi|apply Z2|apply Z22|apply Z6g|apply Z23|apply Z65|apply Z1p|apply Zhw|apply Z4f|apply Za|apply Z3i|apply Zg|apply Z12|apply Zb|apply Z6|apply Za3|apply Z2d|apply Ziq|apply Zip|apply Z9o|apply Z7z|apply Z6b|apply Z8l|apply Z80
 all_goals (try exact zG)):p:=h
theorem z01 {p:Prop}(h:p:=by
 with_reducible repeat' (first|apply ah|exact zR|exact ih|(intro)|apply ih|apply Zg|apply Z1|apply Z2)
 all_goals ((try simp only[std,inj]at *);with_reducible and_intros)
 all_goals try with_reducible first|apply ih|apply Zg|apply Z1|apply Z2
 all_goals try first|exact z|grind[Ykg,Ykl,Ykm,Ykf]):p:=h
theorem z02 {p:Prop}(h:p:=by
 with_reducible repeat' (first|apply ah|exact zR|exact ih|(intro))
 all_goals ((try simp only[std,inj]at *);with_reducible and_intros)
 all_goals try with_reducible first|apply ih
 all_goals (try exact zG)):p:=h
theorem z03 {p:Prop}(h:p:=by
 with_reducible repeat' (first|apply ah|exact zR|(intro))
 all_goals ((try simp only[std,inj]at *);with_reducible and_intros)
 all_goals (try exact zG)
 all_goals rfl):p:=h
theorem z04 {p:Prop}(h:p:=by
 with_reducible repeat' (first|apply ah|exact zR|(intro)|apply Zeh|apply Z6|apply Z0|apply Zg3|apply Zbb|apply Zg4|apply Zg5|apply Zg6|apply Z3j|apply Z5b|apply Zil|apply Zir)
 all_goals ((try simp only[std,inj]at *);with_reducible and_intros)
 all_goals try with_reducible first|apply Zeh|apply Z6|apply Z0|apply Zg3|apply Zbb|apply Zg4|apply Zg5|apply Zg6|apply Z3j|apply Z5b|apply Zil|apply Zir
 all_goals try first|exact zw|grind[Ykl,Ykm,Ykf]):p:=h
theorem z05 {p:Prop}(h:p:=by
 with_reducible repeat' (first|apply ah|exact zR|exact ih|(intro)|apply Zf|apply ih|apply Z0|apply Z5c|apply Z6i)
 all_goals ((try simp only[std,inj]at *);with_reducible and_intros)
 all_goals try first|with_reducible (first|apply Zf|apply ih|apply Z0|apply Z5c|apply Z6i)|(simp only[<- ar];with_reducible first|apply Zf|apply ih|apply Z0|apply Z5c|apply Z6i)
 all_goals try first|exact z|grind[Yku,Ykg,Ykl,Ykm,Ykf,Ykg]):p:=h
theorem z06 {p:Prop}(h:p:=by
 with_reducible repeat' (first|apply ah|exact zR|(intro)|apply Zf|apply Zi|apply Z2|apply Z6g|apply Z23|apply Z3i|apply Zg|apply Z12|apply Z9o|apply Z7z)
 all_goals ((try simp only[std,inj]at *);with_reducible and_intros)
 all_goals try first|with_reducible (first|apply Zf|apply Zi|apply Z2|apply Z6g|apply Z23|apply Z3i|apply Zg|apply Z12|apply Z9o|apply Z7z)|(simp only[<- ar];with_reducible first|apply Zf|apply Zi|apply Z2|apply Z6g|apply Z23|apply Z3i|apply Zg|apply Z12|apply Z9o|apply Z7z)
 all_goals try first|exact z|grind[Yku,Ykl,Ykm,Ykf,Ykg]):p:=h
theorem z07 {p:Prop}(h:p:=by
 with_reducible repeat' (first|apply ah|exact zR|(intro))
 all_goals ((try simp only[std,inj]at *);with_reducible and_intros)
 all_goals try first|exact zw|grind[Ykl,Ykm,Ykf]):p:=h
theorem z08 {p:Prop}(h:p:=by
 with_reducible repeat' (first|apply ah|exact zR|(intro))
 all_goals ((try simp only[std,inj]at *);with_reducible and_intros)
 all_goals try first|exact z|grind[Yku,Ykg,Ykl,Ykm,Ykf]):p:=h
theorem z09 {p:Prop}(h:p:=by
 with_reducible repeat' (first|apply ah|exact zR|(intro))
 all_goals ((try simp only[std,inj]at *);with_reducible and_intros)
 all_goals try first|exact z|grind[Yu8,Ykl,Ykm,Ykf]):p:=h
theorem z0a {p:Prop}(h:p:=by
 with_reducible repeat' (first|apply ah|exact zR|(intro)|apply Z4f|apply Z22|apply Z2|apply Za|apply Z3i|apply Zg|apply Z12|apply Z6|apply Z0|apply Z1p)
 all_goals ((try simp only[std,inj]at *);with_reducible and_intros)
 all_goals try first|with_reducible (first|apply Z4f|apply Z22|apply Z2|apply Za|apply Z3i|apply Zg|apply Z12|apply Z6|apply Z0|apply Z1p)|(simp only[<- ar];with_reducible first|apply Z4f|apply Z22|apply Z2|apply Za|apply Z3i|apply Zg|apply Z12|apply Z6|apply Z0|apply Z1p)
 all_goals (try exact zG)):p:=h
theorem z0b {p:Prop}(h:p:=by
 with_reducible repeat' (first|apply ah|exact zR|exact ih|(intro)|apply ih)
 all_goals ((try simp only[std,inj]at *);with_reducible and_intros)
 all_goals try with_reducible first|apply ih
 all_goals try first|exact z|grind[Y108,Ykg,Ykl,Ykm,Ykf]):p:=h
theorem z0c {p:Prop}(h:p:=by
 with_reducible repeat' (first|apply ah|exact zR|exact ih|(intro)|apply ih)
 all_goals ((try simp only[std,inj]at *);with_reducible and_intros)
 all_goals try with_reducible first|apply ih
 all_goals try first|exact z|grind[Yku,Ykg,Ykl,Ykm,Ykf]):p:=h
theorem z0d {p:Prop}(h:p:=by
 with_reducible repeat' (first|apply ah|exact zR|exact ih|(intro)|apply Zf|apply ih|apply Z0|apply Z5c|apply Z6i)
 all_goals ((try simp only[std,inj]at *);with_reducible and_intros)
 all_goals try with_reducible first|apply Zf|apply ih|apply Z0|apply Z5c|apply Z6i
 all_goals (try exact zG)):p:=h
theorem z0e {p:Prop}(h:p:=by
 with_reducible repeat' (first|apply ah|exact zR|exact ih|(intro)|apply Z0|apply Z98|apply ih|apply Z99|apply Z9e)
 all_goals ((try simp only[std,inj]at *);with_reducible and_intros)
 all_goals try first|with_reducible (first|apply Z0|apply Z98|apply ih|apply Z99|apply Z9e)|(simp only[<- ar];with_reducible first|apply Z0|apply Z98|apply ih|apply Z99|apply Z9e)
 all_goals try first|exact zw|grind[Ykg,Ykl,Ykm,Ykf,Ykg]):p:=h
theorem z0f {p:Prop}(h:p:=by
 with_reducible repeat' (first|apply ah|exact zR|exact ih|(intro)|apply Z0|apply Z98|apply ih|apply Z99|apply Z9e)
 all_goals ((try simp only[std,inj]at *);with_reducible and_intros)
 all_goals try with_reducible first|apply Z0|apply Z98|apply ih|apply Z99|apply Z9e
 all_goals try first|exact zw|grind[Ykl,Ykm,Ykf]):p:=h
theorem z0g {p:Prop}(h:p:=by
 with_reducible repeat' (first|apply ah|exact zR|(intro))
 all_goals ((try simp only[std,inj]at *);with_reducible and_intros)
 all_goals try first|exact z|grind[Yq0,Ykl,Ykm,Ykf]):p:=h
theorem z0h {p:Prop}(h:p:=by
 with_reducible repeat' (first|apply ah|exact zR|(intro))
 all_goals ((try simp only[std,inj]at *);with_reducible and_intros)
 all_goals try first|exact z|grind[Yo1,Ykl,Ykm,Ykf]):p:=h
theorem z0i {p:Prop}(h:p:=by
 with_reducible repeat' (first|apply ah|exact zR|(intro))
 all_goals ((try simp only[std,inj]at *);with_reducible and_intros)
 all_goals try first|exact z|grind[Yqo,Ykl,Ykm,Ykf]):p:=h
theorem z0j {p:Prop}(h:p:=by
 with_reducible repeat' (first|apply ah|exact zR|(intro))
 all_goals ((try simp only[std,inj]at *);with_reducible and_intros)
 all_goals try first|exact z|grind[Ypc,Ykl,Ykm,Ykf]):p:=h
theorem z0k {p:Prop}(h:p:=by
 with_reducible repeat' (first|apply ah|exact zR|(intro))
 all_goals ((try simp only[std,inj]at *);with_reducible and_intros)
 all_goals try first|exact z|grind[Yp4,Ykl,Ykm,Ykf]):p:=h
theorem z0l {p:Prop}(h:p:=by
 with_reducible repeat' (first|apply ah|exact zR|exact ih|(intro)|apply ih)
 all_goals ((try simp only[std,inj]at *);with_reducible and_intros)
 all_goals try with_reducible first|apply ih
 all_goals try first|exact z|grind[Yx6,Y116,Ykg,Ykl,Ykm,Ykf]):p:=h
theorem z0m {p:Prop}(h:p:=by
 with_reducible repeat' (first|apply ah|exact zR|(intro))
 all_goals ((try simp only[std,inj]at *);with_reducible and_intros)
 all_goals try first|exact z|grind[Yna,Ykl,Ykm,Ykf]):p:=h
theorem z0n {p:Prop}(h:p:=by
 with_reducible repeat' (first|apply ah|exact zR|(intro))
 all_goals ((try simp only[std,inj]at *);with_reducible and_intros)
 all_goals try first|exact z|grind[Ymz,Ykl,Ykm,Ykf]):p:=h
theorem z0o {p:Prop}(h:p:=by
 with_reducible repeat' (first|apply ah|exact zR|(intro))
 all_goals ((try simp only[std,inj]at *);with_reducible and_intros)
 all_goals try first|exact z|grind[Ypn,Ykl,Ykm,Ykf]):p:=h
theorem z0p {p:Prop}(h:p:=by
 with_reducible repeat' (first|apply ah|exact zR|(intro))
 all_goals ((try simp only[std,inj]at *);with_reducible and_intros)
 all_goals try first|exact z|grind[Ykt,Y1k6,Ykl,Ykm,Ykf]):p:=h
theorem z0q {p:Prop}(h:p:=by
 with_reducible repeat' (first|apply ah|exact zR|(intro))
 all_goals ((try simp only[std,inj]at *);with_reducible and_intros)
 all_goals try first|exact z|grind[Yo9,Ykl,Ykm,Ykf]):p:=h
theorem z0r {p:Prop}(h:p:=by
 with_reducible repeat' (first|apply ah|exact zR|(intro)|apply Zb1|apply Ze|apply Z9t)
 all_goals ((try simp only[std,inj]at *);with_reducible and_intros)
 all_goals try with_reducible first|apply Zb1|apply Ze|apply Z9t
 all_goals try first|exact z|grind[Yku,Yp6,Ykg,Ykl,Ykm,Ykf]):p:=h
theorem z0s {p:Prop}(h:p:=by
 with_reducible repeat' (first|apply ah|exact zR|exact ih|(intro)|apply Zg|apply ih|apply Z1|apply Z2)
 all_goals ((try simp only[std,inj]at *);with_reducible and_intros)
 all_goals try first|with_reducible (first|apply Zg|apply ih|apply Z1|apply Z2)|(simp only[<- ar];with_reducible first|apply Zg|apply ih|apply Z1|apply Z2)
 all_goals (try exact zG)):p:=h
theorem z0t {p:Prop}(h:p:=by
 with_reducible repeat' (first|apply ah|exact zR|(intro)|apply Z9x|apply Z9v|apply Z84|apply Z1|apply Z3h|apply Zb4|apply Z85)
 all_goals ((try simp only[std,inj]at *);with_reducible and_intros)
 all_goals try with_reducible first|apply Z9x|apply Z9v|apply Z84|apply Z1|apply Z3h|apply Zb4|apply Z85
 all_goals try first|exact z|grind[clT,clP,tlY,Ykg,Ykl,Ykm,Ykf]):p:=h
theorem z0u {p:Prop}(h:p:=by
 with_reducible repeat' (first|apply ah|exact zR|(intro)|apply Z9x|apply Z9v|apply Z84|apply Z1|apply Z3h|apply Zb4|apply Z85)
 all_goals ((try simp only[std,inj]at *);with_reducible and_intros)
 all_goals try with_reducible first|apply Z9x|apply Z9v|apply Z84|apply Z1|apply Z3h|apply Zb4|apply Z85
 all_goals try first|exact z|grind[Ym8,Yqz,clN,Ykl,Ykm,Ykf]):p:=h
theorem z0v {p:Prop}(h:p:=by
 with_reducible repeat' (first|apply ah|exact zR|(intro)|apply mIc|apply mOc|apply mSc|apply mLc)
 all_goals ((try simp only[std,inj]at *);with_reducible and_intros)
 all_goals try first|exact z|exact zM|grind[Yku,Ymo,clB,Ykg,Yo9,Ykl,Ykm,Ykf]):p:=h
theorem z0w {p:Prop}(h:p:=by
 with_reducible repeat' (first|apply ah|exact zR|(intro)|apply mIc|apply mOc|apply mSc|apply mLc)
 all_goals ((try simp only[std,inj]at *);with_reducible and_intros)
 all_goals try first|exact z|exact zM|grind[Ymo,Ykl,Ykm,Ykf]):p:=h
theorem z0x {p:Prop}(h:p:=by
 with_reducible repeat' (first|apply ah|exact zR|(intro))
 all_goals ((try simp only[std,inj]at *);with_reducible and_intros)
 all_goals try first|exact z|grind[cdF,Ykl,Ykm,Ykf]):p:=h
theorem z0y {p:Prop}(h:p:=by
 with_reducible repeat' (first|apply ah|exact zR|(intro))
 all_goals ((try simp only[std,inj]at *);with_reducible and_intros)
 all_goals try first|exact z|grind[Yku,Ykg,Yog,Ykl,Ykm,Ykf]):p:=h
theorem z0z {p:Prop}(h:p:=by
 with_reducible repeat' (first|apply ah|exact zR|(intro))
 all_goals ((try simp only[std,inj]at *);with_reducible and_intros)
 all_goals try first|exact z|grind[Yog,Ykl,Ykm,Ykf]):p:=h
theorem z10 {p:Prop}(h:p:=by
 with_reducible repeat' (first|apply ah|exact zR|(intro)|apply Zi)
 all_goals ((try simp only[std,inj]at *);with_reducible and_intros)
 all_goals try with_reducible first|apply Zi
 all_goals try first|exact z|grind[Yr5,Yo9,Ykl,Ykm,Ykf]):p:=h
theorem z11 {p:Prop}(h:p:=by
 with_reducible repeat' (first|apply ah|exact zR|(intro)|apply mIc|apply mOc|apply mSc|apply mLc|apply Z4h)
 all_goals ((try simp only[std,inj]at *);with_reducible and_intros)
 all_goals try first|with_reducible (first|apply mIc|apply mOc|apply mSc|apply mLc|apply Z4h)|(simp only[<- ar];with_reducible first|apply mIc|apply mOc|apply mSc|apply mLc|apply Z4h)
 all_goals try first|exact z|exact zM|grind[Ykl,Ykm,Ykf]):p:=h
theorem z12 {p:Prop}(h:p:=by
 with_reducible repeat' (first|apply ah|exact zR|exact ih|(intro))
 all_goals ((try simp only[std,inj]at *);with_reducible and_intros)
 all_goals try first|with_reducible (first|apply ih)|(simp only[<- ar];with_reducible first|apply ih)
 all_goals try first|exact zw|grind[Ykl,Ykm,Ykf]):p:=h
theorem z13 {p:Prop}(h:p:=by
 with_reducible repeat' (first|apply ah|exact zR|(intro)|apply Za)
 all_goals ((try simp only[std,inj]at *);with_reducible and_intros)
 all_goals try with_reducible first|apply Za
 all_goals try first|exact z|grind[Ykg,Ykl,Ykm,Ykf]):p:=h
theorem z14 {p:Prop}(h:p:=by
 with_reducible repeat' (first|apply ah|exact zR|(intro)|apply Zav|apply Z95|apply Zc5|apply Zc4)
 all_goals ((try simp only[std,inj]at *);with_reducible and_intros)
 all_goals try first|with_reducible (first|apply Zav|apply Z95|apply Zc5|apply Zc4)|(simp only[<- ar];with_reducible first|apply Zav|apply Z95|apply Zc5|apply Zc4)
 all_goals try first|exact z|grind[bmL,Ykl,Ykm,Ykf]):p:=h
end Go.Proofs.YtcbodhkhppgkiaaGreat
end
set_option maxHeartbeats 4000000
set_option linter.unusedVariables false
set_option linter.unusedSimpArgs false
section
namespace Go.Proofs.YtcbodhkhppgkiaaGreat
open Go Ab Proofs.Tryz
section
theorem Y100 {L:List UInt8}{p:UInt8->Bool}{k:Nat}(h:k<L.length) (hp:p (L.getD k 0)=false):L.all p=false:=by
 rw[bX]
 have e:L.getD k 0=L[k]:=by simp[h]
 exact⟨L[k],di h,by rw[<- e,hp];decide⟩
theorem Y17p {L:List UInt8}{p:UInt8->Bool}{k:Nat}(h:k<L.length) (hp:p (L.getD k 0)) (ht:(L.take k).all p):(L.take (k+1)).all p:=by
 rw[Y22t h,cC,ht,dE,hp];rfl
theorem Y12p {L:List UInt8}{p:UInt8->Bool}{k:Nat}(h:L.length<=k) (ht:(L.take k).all p):L.all p:=by
 rwa [av h]at ht
def lu (n:Int):SV:=.one (.val (.lit (.int .u8 n)))
def Yq0 (n:Int):Bool:=decide (48<=n/\n<=57)
def Yub:List Int:=[33,63,42,60,62,61,47,43,45,46,95]
def Yqc (n:Int):Bool:=decide (97<=n/\n<=122)||Yq0 n||decide (n∈Yub)
theorem Y1w4 {k:Nat}(h:k<11):((([33,63,42,60,62,61,47,43,45,46,95]:List UInt8).getD k 0).toNat:Int)=Yub.g k:=by
 have:∀ k,k<11->((([33,63,42,60,62,61,47,43,45,46,95]:List UInt8).getD k 0).toNat:Int)=Yub.g k:=by decide
 exact this k h
def Yqo (n:Int):Bool:=decide (32<=n/\n<=126/\n≠34)
def Yo1 (s:ByteArray):Bool:=decide (1<=(s.size:Int)/\(s.size:Int)<=16) && !Yq0 (s.data.toList.getD 0 0).toNat && !(decide (((s.data.toList.getD 0 0).toNat:Int)=45)&&decide (1<(s.size:Int))&&Yq0 (s.data.toList.getD 1 0).toNat)&&s.data.toList.all λb=>Yqc b.toNat
def Ypc (s:ByteArray):Bool:=decide ((s.size:Int)<=20)&&s.data.toList.all λb=>Yqo b.toNat
abbrev Zay (n:Int):Ct:=⟨182,[],[lu n],[],.sv (lb (Yq0 n))⟩
theorem Z81 (n:Int):Zay n:=Ykr call182 func182 (.i (48<=n) (.s (lb (decide (n<=57)))) (.s (lb false))) (by
 dsimp only[Ykd,Zay]
 exact z0g)
abbrev Zaz (n:Int):Ct:=⟨177,[],[lu n],[],.sv (lb (Yq0 n))⟩
theorem Zdm (n:Int):Zaz n:=Ykr call177 func177 (.i (48<=n) (.s (lb (decide (n<=57)))) (.s (lb false))) (by
 dsimp only[Ykd,Zaz]
 exact z0g)
abbrev Zc6 (n:Int):Ct:=⟨183,[],[lu n],[],.sv (lb (Yqc n))⟩
def Z5g (n:Int):Lp Nat:=.mk 26 0 (λx=>[(0,.one (.val (.lit (.int .u8 n)))),(3,ls (mkS [33,63,42,60,62,61,47,43,45,46,95])),(4,hs x 0)]) (λx=>[]) (λk=>[.s (li k)]) (λk=>k<=11/\¬n∈Yub.take k) (λk=>11 - k) [.mk (decide (n∈Yub)=false) (.exit 0) (λx=>[]) (λx=>[]) [],.mk (decide (n∈Yub)) .ret (λx=>[(2,hs x 0)]) (λx=>[]) [.s (lb true)]]
theorem Zgb (n:Int):Lp.Sem prog (Yks f183 0) (Z5g n):=Yl0 (λk=>.h (11<=9223372036854775807) (.i ((k:Int)<11) (.p (0<=(k:Int)/\(k:Int).toNat<11) (.i ((↑([(33:UInt8),(63:UInt8),(42:UInt8),(60:UInt8),(62:UInt8),(61:UInt8),(47:UInt8),(43:UInt8),(45:UInt8),(46:UInt8),(95:UInt8)].getD (k:Int).toNat (0:UInt8)).toNat:Int)=n) (.o 1 [] [.s (lb true)]) (.r ((k:Int)+1) (.g [] (k+1) [.s (li ((k:Int)+1))])))) (.o 0 [] []))) (by
 intro k h;try dsimp only[Ykd,Yko,Z5g]at h|-
 have g:=@Y1w4 k
 have e:Yub.length=11:=rfl
 have e2:Yub.take 11=Yub:=rfl
 exact z08)
theorem Zjk (n:Int):Zc6 n:=Ykr call183 func183 (let v1:Tq _ _:=.c [.rd] (Z81 n) (.b (Yq0 n) (.s (lb true)) (.l (Z5g n) (Zgb n) [] [.s (li 0)] 0 (.t (.s (lb false)) (.t (.s (lb true)) .q))));.i (97<=n) (.i (n<=122) (.y true (.s (lb true))) v1) (.y false v1)) (by
 dsimp only[Ykd,Zc6,Yko,Z5g]
 with_reducible repeat' (first|apply ah|exact zR|(intro))
 all_goals ((try simp only[std,inj]at *);with_reducible and_intros)
 all_goals try first|exact z|grind[Yqc,Ykl,Ykm,Ykf])
abbrev Zc7 (n:Int):Ct:=⟨178,[],[lu n],[],.sv (lb (Yqc n))⟩
theorem Zjl (n:Int):Zc7 n:=Ykr call178 func178 (let v2:Tq _ _:=.y true (.s (lb true));let v1:Tq _ _:=.i (n=33) v2 (.i (n=63) v2 (.i (n=42) v2 (.i (n=60) v2 (.i (n=62) v2 (.i (n=61) v2 (.i (n=47) v2 (.i (n=43) v2 (.i (n=45) v2 (.i (n=46) v2 (.i (n=95) (.s (lb true)) (.s (lb false))))))))))));let v3:Tq _ _:=.i (48<=n) (.i (n<=57) (.s (lb true)) v1) (.y false v1);.i (97<=n) (.i (n<=122) v2 v3) (.y false v3)) (by
 dsimp only[Ykd,Zc7]
 with_reducible repeat' (first|apply ah|exact zR|(intro))
 all_goals ((try simp only[std,inj]at *);with_reducible and_intros)
 all_goals (try exact zG)
 all_goals (symm;simp only[Yqc,Yq0,Yub,aC,cV,aG,bq,ak,aP,or_false];omega))
abbrev Zdn (x:Int) (a:Int) (b:Int):Ct:=⟨113,[],[li x,li a,li b],[],.sv (lb (decide (a<=x/\x<=b)))⟩
theorem Z6c (x a b:Int):Zdn x a b:=Ykr call113 func113 (.i (a<=x) (.s (lb (decide (x<=b)))) (.s (lb false))) (by
 dsimp only[Ykd,Zdn]
 exact zV)
abbrev Z8m (s:ByteArray):Ct:=⟨144,[],[ls s],[],.sv (lb (Yo1 s))⟩
def Z2f (s:ByteArray):Lp Nat:=.mk 39 0 (λx=>[(0,ls s),(3,hs x 0)]) (λx=>[]) (λk=>[.s (li k)]) (λk=>k<=s.size/\s.size<=16/\((s.data.toList.take k).all λb=>Yqc (b.toNat:Int))=true) (λk=>s.size - k) [.mk ((s.data.toList.all λb=>Yqc (b.toNat:Int))=true) (.exit 0) (λx=>[]) (λx=>[]) [],.mk ((s.data.toList.all λb=>Yqc (b.toNat:Int))=false) .ret (λx=>[(2,hs x 0)]) (λx=>[]) [.s (lb false)]]
theorem Zbo (s:ByteArray):Lp.Sem prog (Yks f144 0) (Z2f s):=Yl0 (λk=>let v1:=(↑(s.data.toList.getD (k:Int).toNat (0:UInt8)).toNat:Int);.h (s.data.toList.length<=9223372036854775807) (.i ((k:Int)<(s.data.toList.length:Int)) (.p (0<=(k:Int)/\(k:Int).toNat<s.data.toList.length) (.c [.rd] (Zjk v1) (.b (!Yqc v1) (.o 1 [] [.s (lb false)]) (.r ((k:Int)+1) (.g [] (k+1) [.s (li ((k:Int)+1))]))))) (.o 0 [] []))) (by
 intro k h;try dsimp only[Ykd,Yko,Z2f]at h|-
 have g1:=@Y100 s.data.toList (λb=>Yqc b.toNat) k
 have g2:=@Y17p s.data.toList (λb=>Yqc b.toNat) k
 have g3:=@Y12p s.data.toList (λb=>Yqc b.toNat) k
 exact zV)
theorem Z4m (s:ByteArray):Z8m s:=Ykr call144 func144 (let v1:Tq _ _:=.l (Z2f s) (Zbo s) [] [.s (li 0)] 0 (.t (.s (lb true)) (.t (.s (lb false)) .q));let v2:=(↑(s.data.toList.getD 0 (0:UInt8)).toNat:Int);let v3:=(↑(s.data.toList.getD 1 (0:UInt8)).toNat:Int);let v4:=s.data.toList.length<=9223372036854775807;let v5:=(0:Int)<=0/\0<s.data.toList.length;.h v4 (.c [.rd,.rd,.rd] (Z6c (s.data.toList.length:Int) 1 16) (.b (!decide (1<=(s.data.toList.length:Int)/\(s.data.toList.length:Int)<=16)) (.y true (.y true (.s (lb false)))) (.p v5 (.c [.rd] (Z81 v2) (.b (Yq0 v2) (.y true (.s (lb false))) (.p v5 (.i (v2=45) (.h v4 (.i (1<(s.data.toList.length:Int)) (.p ((0:Int)<=1/\1<s.data.toList.length) (.c [.rd] (Z81 v3) (.b (Yq0 v3) (.s (lb false)) v1))) (.y false v1))) (.y false (.y false v1)))))))))) (by
 dsimp only[Ykd,Z8m,Yko,Z2f]
 exact z0h)
abbrev Z8n (s:ByteArray):Ct:=⟨137,[],[ls s],[],.sv (lb (Yo1 s))⟩
def Z2g (s:ByteArray):Lp Nat:=.mk 43 0 (λx=>[(0,ls s),(3,hs x 0)]) (λx=>[]) (λk=>[.s (li k)]) (λk=>k<=s.size/\s.size<=16/\((s.data.toList.take k).all λb=>Yqc (b.toNat:Int))=true) (λk=>s.size - k) [.mk ((s.data.toList.all λb=>Yqc (b.toNat:Int))=true) (.exit 0) (λx=>[]) (λx=>[]) [],.mk ((s.data.toList.all λb=>Yqc (b.toNat:Int))=false) .ret (λx=>[(2,hs x 0)]) (λx=>[]) [.s (lb false)]]
theorem Zbp (s:ByteArray):Lp.Sem prog (Yks f137 0) (Z2g s):=Yl0 (λk=>let v1:=(↑(s.data.toList.getD (k:Int).toNat (0:UInt8)).toNat:Int);.h (s.data.toList.length<=9223372036854775807) (.i ((k:Int)<(s.data.toList.length:Int)) (.p (0<=(k:Int)/\(k:Int).toNat<s.data.toList.length) (.c [.rd] (Zjl v1) (.b (!Yqc v1) (.o 1 [] [.s (lb false)]) (.r ((k:Int)+1) (.g [] (k+1) [.s (li ((k:Int)+1))]))))) (.o 0 [] []))) (by
 intro k h;try dsimp only[Ykd,Yko,Z2g]at h|-
 have g1:=@Y100 s.data.toList (λb=>Yqc b.toNat) k
 have g2:=@Y17p s.data.toList (λb=>Yqc b.toNat) k
 have g3:=@Y12p s.data.toList (λb=>Yqc b.toNat) k
 exact zV)
theorem Z4n (s:ByteArray):Z8n s:=Ykr call137 func137 (let v1:Tq _ _:=.l (Z2g s) (Zbp s) [] [.s (li 0)] 0 (.t (.s (lb true)) (.t (.s (lb false)) .q));let v2:=(↑(s.data.toList.getD 0 (0:UInt8)).toNat:Int);let v3:=s.data.toList.length<=9223372036854775807;let v4:=(↑(s.data.toList.getD 1 (0:UInt8)).toNat:Int);let v5:=(0:Int)<=0/\0<s.data.toList.length;let v6:Tq _ _:=.y true (.s (lb false));.h v3 (.i ((s.data.toList.length:Int)<1) (.y true (.y true v6)) (.h v3 (.i (16<(s.data.toList.length:Int)) (.y true v6) (.p v5 (.c [.rd] (Zdm v2) (.b (Yq0 v2) v6 (.p v5 (.i (v2=45) (.h v3 (.i (1<(s.data.toList.length:Int)) (.p ((0:Int)<=1/\1<s.data.toList.length) (.c [.rd] (Zdm v4) (.b (Yq0 v4) (.s (lb false)) v1))) (.y false v1))) (.y false (.y false v1))))))))))) (by
 dsimp only[Ykd,Z8n,Yko,Z2g]
 exact z0h)
abbrev Za7 (s:ByteArray):Ct:=⟨100,[],[ls s],[],.sv (lb (Ypc s))⟩
def Z3k (s:ByteArray):Lp Nat:=.mk 29 0 (λx=>[(0,ls s),(3,hs x 0)]) (λx=>[]) (λk=>[.s (li k)]) (λk=>k<=s.size/\((s.data.toList.take k).all λb=>Yqo (b.toNat:Int))=true) (λk=>s.size - k) [.mk ((s.data.toList.all λb=>Yqo (b.toNat:Int))=true) (.exit 0) (λx=>[(0,ls s)]) (λx=>[]) [],.mk ((s.data.toList.all λb=>Yqo (b.toNat:Int))=false) .ret (λx=>[(2,hs x 0)]) (λx=>[]) [.s (lb false)]]
theorem Zdo (s:ByteArray):Lp.Sem prog (Yks f100 0) (Z3k s):=Yl0 (λk=>let v1:=(↑(s.data.toList.getD (k:Int).toNat (0:UInt8)).toNat:Int);let v2:=0<=(k:Int)/\(k:Int).toNat<s.data.toList.length;.h (s.data.toList.length<=9223372036854775807) (.i ((k:Int)<(s.data.toList.length:Int)) (.p v2 (.i (v1<32) (.y true (.y true (.o 1 [] [.s (lb false)]))) (.p v2 (.i (126<v1) (.y true (.o 1 [] [.s (lb false)])) (.p v2 (.i (v1=34) (.o 1 [] [.s (lb false)]) (.r ((k:Int)+1) (.g [] (k+1) [.s (li ((k:Int)+1))])))))))) (.o 0 [] []))) (by
 intro k h;try dsimp only[Ykd,Yko,Z3k]at h|-
 have g1:=@Y100 s.data.toList (λb=>Yqo b.toNat) k
 have g2:=@Y17p s.data.toList (λb=>Yqo b.toNat) k
 have g3:=@Y12p s.data.toList (λb=>Yqo b.toNat) k
 exact z0i)
theorem Z6w (s:ByteArray):Za7 s:=Ykr call100 func100 (.l (Z3k s) (Zdo s) [] [.s (li 0)] 0 (.t (.h (s.data.toList.length<=9223372036854775807) (.s (lb (decide ((s.data.toList.length:Int)<=20))))) (.t (.s (lb false)) .q))) (by
 dsimp only[Ykd,Za7,Yko,Z3k]
 exact z0j)
abbrev Za8 (s:ByteArray):Ct:=⟨196,[],[ls s],[],.sv (lb (Ypc s))⟩
def Z3l (s:ByteArray):Lp Nat:=.mk 29 0 (λx=>[(0,ls s),(3,hs x 0)]) (λx=>[]) (λk=>[.s (li k)]) (λk=>k<=s.size/\((s.data.toList.take k).all λb=>Yqo (b.toNat:Int))=true) (λk=>s.size - k) [.mk ((s.data.toList.all λb=>Yqo (b.toNat:Int))=true) (.exit 0) (λx=>[]) (λx=>[]) [],.mk ((s.data.toList.all λb=>Yqo (b.toNat:Int))=false) .ret (λx=>[(2,hs x 0)]) (λx=>[]) [.s (lb false)]]
theorem Zdp (s:ByteArray):Lp.Sem prog (Yks f196 0) (Z3l s):=Yl0 (λk=>let v1:=(↑(s.data.toList.getD (k:Int).toNat (0:UInt8)).toNat:Int);let v2:=0<=(k:Int)/\(k:Int).toNat<s.data.toList.length;.h (s.data.toList.length<=9223372036854775807) (.i ((k:Int)<(s.data.toList.length:Int)) (.p v2 (.i (v1<32) (.y true (.y true (.o 1 [] [.s (lb false)]))) (.p v2 (.i (126<v1) (.y true (.o 1 [] [.s (lb false)])) (.p v2 (.i (v1=34) (.o 1 [] [.s (lb false)]) (.r ((k:Int)+1) (.g [] (k+1) [.s (li ((k:Int)+1))])))))))) (.o 0 [] []))) (by
 intro k h;try dsimp only[Ykd,Yko,Z3l]at h|-
 have g1:=@Y100 s.data.toList (λb=>Yqo b.toNat) k
 have g2:=@Y17p s.data.toList (λb=>Yqo b.toNat) k
 have g3:=@Y12p s.data.toList (λb=>Yqo b.toNat) k
 exact z0i)
theorem Zh8 (s:ByteArray):Za8 s:=Ykr call196 func196 (.h (s.data.toList.length<=9223372036854775807) (.i (20<(s.data.toList.length:Int)) (.s (lb false)) (.l (Z3l s) (Zdp s) [] [.s (li 0)] 0 (.t (.s (lb true)) (.t (.s (lb false)) .q))))) (by
 dsimp only[Ykd,Za8,Yko,Z3l]
 exact z0j)
def Y22j (s:ByteArray):Bool:=Yo1 s&&decide ((s.size:Int)<=8)
def Yp4 (k n:Int) (t:ByteArray) (i:Int):Bool:=decide (k=0/\n=0/\t.data.toList=[])||decide (k=1/\n=0/\Yo1 t/\i=0)||decide (k=2 /\ -999999999<=n/\n<=999999999/\t.data.toList=[]/\i=0)||decide (k=3/\0<=n/\n<=1/\t.data.toList=[]/\i=0)||decide (k=4/\n=0/\Ypc t/\i=0)
abbrev Zc8 (k:Int) (n:Int) (t:ByteArray) (i:Int):Ct:=⟨111,[],[li k,li n,ls t,li i],[],.sv (lb (Yp4 k n t i))⟩
theorem Zfo (k n:Int) (t:ByteArray) (i:Int):Zc8 k n t i:=Ykr call111 func111 (let v4:=lb false;let v1:Tq _ _:=.y false (.s v4);let v3:=lb (decide (i=0));let v2:Tq _ _:=.i (t.data.toList=[]) (.s v3) (.s v4);.i (k=0) (.i (n=0) (.s (lb (decide (t.data.toList=[])))) (.s v4)) (.i (k=1) (.i (n=0) (.c [.rd] (Z4m t) (.b (Yo1 t) (.s v3) (.s v4))) v1) (.i (k=2) (.c [.rd,.rd,.rd] (Z6c n (-999999999:Int) 999999999) (.i ((-999999999:Int)<=n/\n<=999999999) v2 v1)) (.i (k=3) (.c [.rd,.rd,.rd] (Z6c n 0 1) (.i (0<=n/\n<=1) v2 v1)) (.i (k=4) (.i (n=0) (.c [.rd] (Z6w t) (.b (Ypc t) (.s v3) (.s v4))) v1) (.s v4)))))) (by
 dsimp only[Ykd,Zc8]
 exact z0k)
abbrev Zc9 (k:Int) (n:Int) (t:ByteArray) (i:Int):Ct:=⟨160,[],[li k,li n,ls t,li i],[],.sv (lb (Yp4 k n t i))⟩
theorem Zfp (k n:Int) (t:ByteArray) (i:Int):Zc9 k n t i:=Ykr call160 func160 (let v3:=lb false;let v1:Tq _ _:=.i (t.data.toList=[]) (.s (lb (decide (i=0)))) (.s v3);let v2:Tq _ _:=.y false (.s v3);.i (k=0) (.i (n=0) (.s (lb (decide (t.data.toList=[])))) (.s v3)) (.i (k=1) (.i (n=0) (.i (i=0) (.c [.rd] (Z4n t) (.s (lb (Yo1 t)))) (.s v3)) v2) (.i (k=2) (.i ((-999999999:Int)<=n) (.i (n<=999999999) v1 v2) (.y false v2)) (.i (k=3) (.i (n=0) (.y true v1) (.i (n=1) v1 v2)) (.i (k=4) (.i (n=0) (.i (i=0) (.c [.rd] (Zh8 t) (.s (lb (Ypc t)))) (.s v3)) v2) (.s v3)))))) (by
 dsimp only[Ykd,Zc9]
 exact z0k)
mutual
def sizeD:Yd->Nat
 | ⟨_,_,_,l⟩=>Y11i l+1
def Y11i:List Yd->Nat
 | []=>0
 | c :: r=>sizeD c+Y11i r
end
theorem Y19p:∀ l,Y11i l=sumBy sizeD l
 | []=>by simp[Y11i,sumBy]
 | c :: r=>by rw[Y11i,sumBy,Y19p r]
theorem Yos (c:Yd):sizeD c=sumBy sizeD c.Ia+1:=by cases c;simp only[sizeD,Y19p]
mutual
def Yqx:Yd->Nat
 | ⟨_,_,_,l⟩=>Y15r l+1
def Y15r:List Yd->Nat
 | []=>0
 | c :: r=>max (Yqx c) (Y15r r)
end
theorem Y1bo:∀ l,Y15r l=Yll Yqx l
 | []=>by simp[Y15r,Yll]
 | c :: r=>by rw[Y15r,Yll,Y1bo r]
theorem Y132 (c:Yd):Yqx c=Yll Yqx c.Ia+1:=by cases c;simp only[Yqx,Y1bo]
theorem Y1x7:∀ c:Yd,Yqx c<=sizeD c:=by
 refine Yd.ind λc ih => ?_
 have:=Yx8 ih
 rw[Yos,Y132];omega
mutual
def okD:Yd->Bool
 | ⟨k,n,t,l⟩=>Y1e0 l&&Yp4 k n t l.length
def Y1e0:List Yd->Bool
 | []=>true
 | c :: r=>okD c&&Y1e0 r
end
theorem Y1jh:∀ l,Y1e0 l=l.all okD
 | []=>by simp[Y1e0]
 | c :: r=>by rw[Y1e0,Y1jh r];rfl
theorem Y17d (c:Yd):okD c=(c.Ia.all okD&&Yp4 c.Ka c.Na c.Ta c.Ia.length):=by cases c;simp only[okD,Y1jh]
def Yn6 (d:Yd):Bool:=decide (sizeD d<=600)&&decide (Yqx d<=20)&&okD d
mutual
def Ynl:Yd->Int->Int->Bool×Int
 | ⟨k,n,t,l⟩,deep,m=>if deep<=20/\m+1<=600/\Yp4 k n t l.length then Y17b l (deep+1) (m+1) else (false,m+1)
def Y17b:List Yd->Int->Int->Bool×Int
 | [],_,m=>(true,m)
 | x :: r,deep,m=>if (Ynl x deep m).1 then Y17b r deep (Ynl x deep m).2 else (false,(Ynl x deep m).2)
end
theorem Y1fs:∀ l deep m,Y17b l deep m=Yl8 (λx m=>Ynl x deep m) l m
 | [],_,_=>by simp[Y17b,Yl8]
 | x :: r,deep,m=>by simp only[Y17b,Yl8,Y1fs r]
theorem Y1hk (c:Yd) (deep m:Int):Ynl c deep m=if deep<=20/\m+1<=600/\Yp4 c.Ka c.Na c.Ta c.Ia.length then Yl8 (λx m=>Ynl x (deep+1) m) c.Ia (m+1) else (false,m+1):=by cases c;simp only[Ynl,Y1fs]
theorem Y1ji:∀ (c:Yd) (deep m:Int),m<=600->((Ynl c deep m).1 ↔ (m+sizeD c<=600/\(deep+Yqx c<=21/\okD c)))/\((Ynl c deep m).1->(Ynl c deep m).2=m+sizeD c):=by
 refine Yd.ind λc ih deep m hm => ?_
 rw[Y1hk,Yos,Y132,Y17d,af,am]
 by_cases h:deep<=20/\m+1<=600/\Yp4 c.Ka c.Na c.Ta c.Ia.length
 ·rw[ae h]
  have h1:=Y133 (λx m=>Ynl x (deep+1) m) sizeD (λx=>deep+1+Yqx x<=21/\okD x) 600 c.Ia (λx hx m hm=>ih x hx (deep+1) m hm) (m+1) h.2.1
  have h2:=Yzx Yqx (m:=(20 - deep).toNat) (L:=c.Ia)
  constructor
  ·rw[h1.1]
   constructor
   ·rintro⟨a,b⟩
    have:=h2.2 λx hx=>by have:=(b x hx).1;omega
    exact⟨by omega,by omega,λx hx=>(b x hx).2,h.2.2⟩
   ·rintro⟨a,b,d,e⟩
    have:=h2.1 oW
    exact⟨by omega,λx hx=>⟨by have:=this x hx;omega,d x hx⟩⟩
  ·intro ht;rw[h1.2 ht];omega
 ·rw[ab h]
  refine⟨⟨λe=>Bool.noConfusion e,?_⟩,λe=>Bool.noConfusion e⟩
  rintro⟨a,b,d,e⟩
  exact absurd ⟨by omega,by omega,e⟩ h
theorem Y1lo (d:Yd):(Ynl d 1 0).1=Yn6 d:=by
 have h:=(Y1ji d 1 0 dW).1
 rw[cm,h]
 simp only[Yn6,af,ak,dw]
 constructor
 ·rintro⟨a,b,e⟩;exact⟨by omega,by omega,e⟩
 ·rintro⟨a,b,e⟩;exact⟨by omega,by omega,e⟩
abbrev Z1c (d:Yd) (l:Int):Ct:=⟨52,[.box [vI l]],[Yq3 d,.y 0],[.box [vI (max (l - sizeD d) (-1))]],.sv (lb (decide (sizeD d<=l)))⟩
def Z3m (d:Yd) (l:Int):Lp Nat:=.mk 36 1 (λx=>[(1,.y 0),(2,.y 1),(5,hs x 0)]) (λx=>[.box [ha x 1],.box (vals (Yld d))]) (λk=>[.s (li k),.a (vI (max (l - 1 - (↑(sumBy sizeD (d.Ia.take k)):Int)) (-1:Int)))]) (λk=>d.Ia.length >= k) (λk=>d.Ia.length - k) [.mk True (.exit 0) (λx=>[(1,.y 0)]) (λx=>[.box [ha x 0]]) [.a (vI (max (l - (↑(sizeD d):Int)) (-1:Int)))]]
theorem Zdq (d:Yd) (l:Int) (h:0<=l/\l<=1000000) (ih:∀ (z:Yd),z∈d.Ia->∀ (l:Int),0<=l/\l<=1000000->OK (Z1c z l)):Lp.Sem prog (Yks f52 0) (Z3m d l):=Yl0 (λk=>let v1:=l - 1 - (↑(sumBy sizeD (d.Ia.take k)):Int);let v2:=d.Ia.g k;let v3:=(-1:Int);.z Ykq d.Ia (.i ((k:Int)<(d.Ia.map Ykq).length) (.i (0<=max v1 v3) (.x (k:Int) (d.Ia.map Ykq) (Yld v2) (.d [.rd,.ptr] (Z1c v2 (max v1 v3)) (.r ((k:Int)+1) (.g [0,1] (k+1) [.s (li ((k:Int)+1)),.a (vI (max (max v1 v3 - (↑(sizeD v2):Int)) v3))])))) (.o 0 [0] [.a (vI (max v1 v3))])) (.y false (.o 0 [0] [.a (vI (max v1 v3))])))) (by
 intro k h;try dsimp only[Ykd,Yko,Z3m]at h|-
 have g1:=Yos d
 have g2:=Ym2 sizeD d.Ia k
 have g3:=@Ynp _ _ sizeD d.Ia k
 exact z01)
theorem Zh9 (d:Yd) (l:Int) (h:0<=l/\l<=1000000) (ih:∀ z∈d.Ia,∀ (l:Int) (h:0<=l/\l<=1000000),Z1c z l):Z1c d l:=Ykr call52 func52 (.r (l - 1) (.l (Z3m d l) (Zdq d l h ih) [0,1] [.s (li 0),.a (vI (l - 1))] 0 (.t (.f [] [.box [vI (max (l - (↑(sizeD d):Int)) (-1:Int))]] (.sv (lb (decide (0<=max (l - (↑(sizeD d):Int)) (-1:Int)))))) .q))) (by
 dsimp only[Ykd,Z1c,Yko,Z3m]
 have g1:=Yos d
 have g2:sumBy sizeD (d.Ia.take 0)=0:=rfl
 exact z02)
theorem Zfq (d:Yd):∀ (l:Int) (h:0<=l/\l<=1000000),Z1c d l:=Yd.ind (P:=λd=>∀ (l:Int) (h:0<=l/\l<=1000000),Z1c d l) (λd ih l h=>Zh9 d l h ih) d
abbrev Z1d (d:Yd):Ct:=⟨53,[],[Yq3 d],[],.sv (li (Yqx d))⟩
def Z3n (d:Yd):Lp Nat:=.mk 20 0 (λx=>[(3,hs x 1),(7,Ap d.Ia),(8,li (d.Ia.map Ykq).length),(9,hs x 0)]) (λx=>[]) (λk=>[.s (li k),.s (li (↑(Yll Yqx (d.Ia.take k)):Int))]) (λk=>k<=d.Ia.length/\d.Ia.length<=9223372036854775807) (λk=>d.Ia.length - k) [.mk True (.exit 0) (λx=>[(3,hs x 0)]) (λx=>[]) [.s (li (↑(Yll Yqx d.Ia):Int))]]
theorem Zdr (d:Yd) (h:sizeD d<=2147483647) (ih:∀ (z:Yd),z∈d.Ia->sizeD z<=2147483647->OK (Z1d z)):Lp.Sem prog (Yks f53 0) (Z3n d):=Yl0 (λk=>let v1:=d.Ia.g k;let v2:=(↑(Yll Yqx (d.Ia.take k)):Int);.i ((k:Int)<(d.Ia.map Ykq).length) (.x (k:Int) (d.Ia.map Ykq) (Yld v1) (.d [.rd] (Z1d v1) (.r ((k:Int)+1) (.g [] (k+1) [.s (li ((k:Int)+1)),.s (li (max v2 (↑(Yqx v1):Int)))])))) (.o 0 [] [.s (li v2)])) (by
 intro k h;try dsimp only[Ykd,Yko,Z3n]at h|-
 have g1:=Yos d
 have g2:=@Yl3 _ sizeD d.Ia (d.Ia.g k)
 exact z0b)
theorem Zha (d:Yd) (h:sizeD d<=2147483647) (ih:∀ z∈d.Ia,∀ (h:sizeD z<=2147483647),Z1d z):Z1d d:=Ykr call53 func53 (let v1:=(↑(Yll Yqx d.Ia):Int)+1;.z Ykq d.Ia (.l (Z3n d) (Zdr d h ih) [] [.s (li 0),.s (li 0)] 0 (.t (.r v1 (.s (li v1))) .q))) (by
 dsimp only[Ykd,Z1d,Yko,Z3n]
 have h1:=Y1x7 d
 have g2:Yll Yqx (d.Ia.take 0)=0:=rfl
 with_reducible repeat' (first|apply ah|exact zR|exact ih|(intro))
 all_goals ((try simp only[std,inj]at *);with_reducible and_intros)
 all_goals try with_reducible first|apply ih
 all_goals try first|exact z|grind[Y132,Ykl,Ykm,Ykf])
theorem Zfr (d:Yd):∀ (h:sizeD d<=2147483647),Z1d d:=Yd.ind (P:=λd=>∀ (h:sizeD d<=2147483647),Z1d d) (λd ih h=>Zha d h ih) d
abbrev Z3b (d:Yd):Ct:=⟨54,[],[Yq3 d],[],.sv (lb (okD d))⟩
def Z4o (d:Yd):Lp Nat:=.mk 26 0 (λx=>[(1,.y 0),(6,Ap d.Ia),(7,li (d.Ia.map Ykq).length),(8,hs x 0)]) (λx=>[.box (vals (Yld d))]) (λk=>[.s (li k)]) (λk=>k<=d.Ia.length/\d.Ia.length<=9223372036854775807/\(d.Ia.take k).all okD) (λk=>d.Ia.length - k) [.mk (d.Ia.all okD) (.exit 0) (λx=>[(1,.y 0)]) (λx=>[.box (vals (Yld d))]) [],.mk (d.Ia.all okD=false) .ret (λx=>[(2,hs x 0)]) (λx=>[]) [.s (lb false)]]
theorem Zf4 (d:Yd) (ih:∀ (z:Yd),z∈d.Ia->OK (Z3b z)):Lp.Sem prog (Yks f54 0) (Z4o d):=Yl0 (λk=>let v1:=d.Ia.g k;.i ((k:Int)<(d.Ia.map Ykq).length) (.x (k:Int) (d.Ia.map Ykq) (Yld v1) (.d [.rd] (Z3b v1) (.b (!okD v1) (.o 1 [] [.s (lb false)]) (.r ((k:Int)+1) (.g [0] (k+1) [.s (li ((k:Int)+1))]))))) (.o 0 [0] [])) (by
 intro k h;try dsimp only[Ykd,Yko,Z4o]at h|-
 exact z0c)
theorem Ziu (d:Yd) (ih:∀ z∈d.Ia,Z3b z):Z3b d:=Ykr call54 func54 (let v1:=((d.Ia.map Ykq).length:Int);.z Ykq d.Ia (.l (Z4o d) (Zf4 d ih) [0] [.s (li 0)] 0 (.t (.z Ykq d.Ia (.c [.rd,.rd,.rd,.rd] (Zfo d.Ka d.Na d.Ta v1) (.s (lb (Yp4 d.Ka d.Na d.Ta v1))))) (.t (.s (lb false)) .q)))) (by
 dsimp only[Ykd,Z3b,Yko,Z4o]
 with_reducible repeat' (first|apply ah|exact zR|exact ih|(intro))
 all_goals ((try simp only[std,inj]at *);with_reducible and_intros)
 all_goals try with_reducible first|apply ih
 all_goals try first|exact z|grind[Y17d,Ykl,Ykm,Ykf])
theorem Zjz (d:Yd):Z3b d:=Yd.ind (P:=λd=>Z3b d) (λd ih=>Ziu d ih) d
abbrev Z8t (d:Yd):Ct:=⟨23,[],[Yq3 d],[],.sv (lb (Yn6 d))⟩
theorem Zb0 (d:Yd):Z8t d:=Ykr call23 func23 (.d [.rd,.ptr] (Z1c d 600) (.i ((↑(sizeD d):Int)<=600) (.d [.rd] (Z1d d) (.i ((↑(Yqx d):Int)<=20) (.c [.rd] (Zjz d) (.s (lb (okD d)))) (.s (lb false)))) (.y false (.s (lb false))))) (by
 dsimp only[Ykd,Z8t]
 with_reducible repeat' (first|apply ah|exact zR|(intro)|apply Zfq|apply Zfr)
 all_goals ((try simp only[std,inj]at *);with_reducible and_intros)
 all_goals try with_reducible first|apply Zfq|apply Zfr
 all_goals try first|exact z|grind[Yn6,Ykl,Ykm,Ykf])
abbrev Z1e (d:Yd) (deep:Int) (q:Int):Ct:=⟨169,[.box [vI q]],[Yq3 d,li deep,.y 0],[.box [vI (Ynl d deep q).2]],.sv (lb (Ynl d deep q).1)⟩
def Z3o (d:Yd) (deep:Int) (q:Int):Lp Nat:=let v1:=deep+1;.mk 49 1 (λx=>[(1,li deep),(2,.y 0),(36,Ap d.Ia),(37,li (d.Ia.map Ykq).length),(38,hs x 0)]) (λx=>[.box [ha x 1]]) (λk=>[.s (li k),.a (vI (Yl8 (λx m=>Ynl x v1 m) (d.Ia.take k) (q+1)).2)]) (λk=>k<=d.Ia.length/\d.Ia.length<=9223372036854775807/\deep<=20/\(Yl8 (λx m=>Ynl x v1 m) (d.Ia.take k) (q+1)).1/\q<=(Yl8 (λx m=>Ynl x v1 m) (d.Ia.take k) (q+1)).2/\(Yl8 (λx m=>Ynl x v1 m) (d.Ia.take k) (q+1)).2<=600) (λk=>d.Ia.length - k) [.mk ((Yl8 (λx m=>Ynl x v1 m) d.Ia (q+1)).1) (.exit 0) (λx=>[]) (λx=>[.box [ha x 0]]) [.a (vI (Yl8 (λx m=>Ynl x v1 m) d.Ia (q+1)).2)],.mk ((Yl8 (λx m=>Ynl x v1 m) d.Ia (q+1)).1=false) .ret (λx=>[(6,hs x 0)]) (λx=>[.box [ha x 1]]) [.s (lb false),.a (vI (Yl8 (λx m=>Ynl x v1 m) d.Ia (q+1)).2)]]
theorem Zds (d:Yd) (deep:Int) (q:Int) (h:0<=deep/\deep<=21/\0<=q/\q<=600) (ih:∀ (z:Yd),z∈d.Ia->∀ (deep q:Int),0<=deep/\deep<=21/\0<=q/\q<=600->OK (Z1e z deep q)):Lp.Sem prog (Yks f169 0) (Z3o d deep q):=Yl0 (λk=>let v1:=d.Ia.g k;let v2:=d.Ia.take k;let v3:=deep+1;.i ((k:Int)<(d.Ia.map Ykq).length) (.x (k:Int) (d.Ia.map Ykq) (Yld v1) (.r v3 (.d [.rd,.rd,.ptr] (Z1e v1 v3 (Yl8 (λx m=>Ynl x v3 m) v2 (q+1)).2) (.b (!(Ynl v1 v3 (Yl8 (λx m=>Ynl x v3 m) v2 (q+1)).2).1) (.o 1 [0] [.s (lb false),.a (vI (Ynl v1 v3 (Yl8 (λx m=>Ynl x v3 m) v2 (q+1)).2).2)]) (.r ((k:Int)+1) (.g [0] (k+1) [.s (li ((k:Int)+1)),.a (vI (Ynl v1 v3 (Yl8 (λx m=>Ynl x v3 m) v2 (q+1)).2).2)])))))) (.o 0 [0] [.a (vI (Yl8 (λx m=>Ynl x v3 m) v2 (q+1)).2)])) (by
 intro k h;try dsimp only[Ykd,Yko,Z3o]at h|-
 have g1:=λx m=>Y1ji x (deep+1) m
 exact z0l)
theorem Zhb (d:Yd) (deep q:Int) (h:0<=deep/\deep<=21/\0<=q/\q<=600) (ih:∀ z∈d.Ia,∀ (deep:Int) (q:Int) (h:0<=deep/\deep<=21/\0<=q/\q<=600),Z1e z deep q):Z1e d deep q:=Ykr call169 func169 (let v1:Tq _ _:=.f [] [.box [vI (q+1)]] (.sv (lb false));let v2:=((d.Ia.map Ykq).length:Int);.r (q+1) (.i (20<deep) (.y true (.y true v1)) (.i (600<q+1) (.y true v1) (.z Ykq d.Ia (.c [.rd,.rd,.rd,.rd] (Zfp d.Ka d.Na d.Ta v2) (.b (!Yp4 d.Ka d.Na d.Ta v2) v1 (.z Ykq d.Ia (.l (Z3o d deep q) (Zds d deep q h ih) [0] [.s (li 0),.a (vI (q+1))] 0 (.t (.f [] [.box [vI (Yl8 (λx m=>Ynl x (deep+1) m) d.Ia (q+1)).2]] (.sv (lb true))) (.t (.f [] [.box [vI (Yl8 (λx m=>Ynl x (deep+1) m) d.Ia (q+1)).2]] (.sv (lb false))) .q)))))))))) (by
 dsimp only[Ykd,Z1e,Yko,Z3o]
 with_reducible repeat' (first|apply ah|exact zR|exact ih|(intro))
 all_goals ((try simp only[std,inj]at *);with_reducible and_intros)
 all_goals try with_reducible first|apply ih
 all_goals try first|exact z|grind[Y1hk,Yl8,Ykl,Ykm,Ykf])
theorem Zfs (d:Yd):∀ (deep:Int) (q:Int) (h:0<=deep/\deep<=21/\0<=q/\q<=600),Z1e d deep q:=Yd.ind (P:=λd=>∀ (deep:Int) (q:Int) (h:0<=deep/\deep<=21/\0<=q/\q<=600),Z1e d deep q) (λd ih deep q h=>Zhb d deep q h ih) d
abbrev Z8u (d:Yd):Ct:=⟨128,[],[Yq3 d],[],.sv (lb (Yn6 d))⟩
theorem Z3p (d:Yd):Z8u d:=Ykr call128 func128 (.d [.rd,.rd,.ptr] (Z1e d 1 0) (.s (lb (Ynl d 1 0).1))) (by
 dsimp only[Ykd,Z8u]
 with_reducible repeat' (first|apply ah|exact zR|(intro)|apply Zfs)
 all_goals ((try simp only[std,inj]at *);with_reducible and_intros)
 all_goals try with_reducible first|apply Zfs
 all_goals try first|exact z|grind[Y1lo,Ykl,Ykm,Ykf])
end
section
def Yna (n:Int):Int:=if 1<=n/\n<=99999 then (if n % 3=0 then 3 else n % 3) else 0
theorem Y17k {n:Int}:Yna n=0 ↔ ¬ (1<=n/\n<=99999):=by unfold Yna;split<;>(try split)<;>omega
def Ypn (L:List Int):Nat->Bool
 | 0=>true
 | k+1=>Ypn L k&&decide (1<=L.g k/\L.g k<=99999)&&(decide (k=0)||decide (L.g (k - 1)<L.g k))
def Ymz (L:List Int):Bool:=Ypn L L.length
theorem Y14f (L:List Int):∀ (m k:Nat),k<=m->Ypn L m->Ypn L k
 | 0,k,h,_=>by
  obtain rfl:k=0:=by omega
  rfl
 | m+1,k,h,ht=>by
  by_cases e:k=m+1
  ·rw[e];exact ht
  ·refine Y14f L m k oW ?_
   simp only[Ypn,af]at ht;exact ht.1.1
abbrev Zca (n:Int):Ct:=⟨158,[],[li n],[],.sv (li (Yna n))⟩
theorem Zft (n:Int):Zca n:=Ykr call158 func158 (let v1:=[3,1,2].getD (n.tmod 3).toNat 0;.c [.rd,.rd,.rd] (Z6c n 1 99999) (.b (!decide (1<=n/\n<=99999)) (.s (li 0)) (.p ((3:Int)≠0) (.p (0<=n.tmod 3/\(n.tmod 3).toNat<3) (.w (.cells (Yke v1)) (.p ([[cI 3],[cI 1],[cI 2]][(n.tmod 3).toNat]? = some [cI v1]) (.s (li v1)))))))) (by
 dsimp only[Ykd,Zca]
 exact z0m)
abbrev Zcb (n:Int):Ct:=⟨162,[],[li n],[],.sv (li (Yna n))⟩
theorem Z9r (n:Int):Zcb n:=Ykr call162 func162 (.i (n<1) (.y true (.s (li 0))) (.i (99999<n) (.s (li 0)) (.p ((3:Int)≠0) (.i (n.tmod (3:Int)=1) (.s (li 1)) (.i (n.tmod (3:Int)=2) (.s (li 2)) (.s (li 3))))))) (by
 dsimp only[Ykd,Zcb]
 exact z0m)
abbrev Za9 (L:List Int):Ct:=⟨201,[],[Ag L],[],.sv (lb (Ymz L))⟩
def Z3q (L:List Int):Lp Nat:=.mk 29 0 (λx=>[(0,Ag L),(5,Ag L),(6,li (L.map Yke).length),(7,hs x 0)]) (λx=>[]) (λk=>[.s (li k)]) (λk=>k<=L.length/\L.length<=9223372036854775807/\Ypn L k) (λk=>L.length - k) [.mk (Ymz L) (.exit 0) (λx=>[]) (λx=>[]) [],.mk (Ymz L=false) .ret (λx=>[(2,hs x 0)]) (λx=>[]) [.s (lb false)]]
theorem Zdt (L:List Int):Lp.Sem prog (Yks f201 0) (Z3q L):=Yl0 (λk=>let v1:Tq _ _:=.r ((k:Int)+1) (.g [] (k+1) [.s (li ((k:Int)+1))]);let v2:=(k:Int) - 1;.i ((k:Int)<(L.map Yke).length) (.x (k:Int) (L.map Yke) [cI (L.getD k 0)] (.c [.rd] (Zft (L.getD k 0)) (.i (Yna (L.getD k 0)=0) (.y true (.o 1 [] [.s (lb false)])) (.i (0<(k:Int)) (.r v2 (.x v2 (L.map Yke) [cI (L.getD v2.toNat 0)] (.i (L.getD k 0<=L.getD v2.toNat 0) (.o 1 [] [.s (lb false)]) v1))) (.y false v1))))) (.o 0 [] [])) (by
 intro k h;try dsimp only[Ykd,Yko,Z3q]at h|-
 have g1:=Y14f L L.length (k+1)
 have g2:=@Y17k (L.getD k 0)
 have e:((k:Int) - 1).toNat=k - 1:=by omega
 have g3:Ypn L (k+1)=(Ypn L k&&decide (1<=L.getD k 0/\L.getD k 0<=99999)&&(decide (k=0)||decide (L.getD (k - 1) 0<L.getD k 0))):=rfl
 exact z0n)
theorem Zhc (L:List Int):Za9 L:=Ykr call201 func201 (.z Yke L (.l (Z3q L) (Zdt L) [] [.s (li 0)] 0 (.t (.s (lb true)) (.t (.s (lb false)) .q)))) (by
 dsimp only[Ykd,Za9,Yko,Z3q]
 exact z0o)
abbrev Zaa (L:List Int):Ct:=⟨138,[],[Ag L],[],.sv (lb (Ymz L))⟩
def Z3r (L:List Int):Lp Nat:=.mk 29 0 (λx=>[(0,Ag L),(5,Ag L),(6,li (L.map Yke).length),(7,hs x 0)]) (λx=>[]) (λk=>[.s (li k)]) (λk=>k<=L.length/\L.length<=9223372036854775807/\Ypn L k) (λk=>L.length - k) [.mk (Ymz L) (.exit 0) (λx=>[]) (λx=>[]) [],.mk (Ymz L=false) .ret (λx=>[(2,hs x 0)]) (λx=>[]) [.s (lb false)]]
theorem Zdu (L:List Int):Lp.Sem prog (Yks f138 0) (Z3r L):=Yl0 (λk=>let v1:Tq _ _:=.r ((k:Int)+1) (.g [] (k+1) [.s (li ((k:Int)+1))]);let v2:=(k:Int) - 1;.i ((k:Int)<(L.map Yke).length) (.x (k:Int) (L.map Yke) [cI (L.getD k 0)] (.c [.rd] (Z9r (L.getD k 0)) (.i (Yna (L.getD k 0)=0) (.y true (.o 1 [] [.s (lb false)])) (.i (0<(k:Int)) (.r v2 (.x v2 (L.map Yke) [cI (L.getD v2.toNat 0)] (.i (L.getD k 0<=L.getD v2.toNat 0) (.o 1 [] [.s (lb false)]) v1))) (.y false v1))))) (.o 0 [] [])) (by
 intro k h;try dsimp only[Ykd,Yko,Z3r]at h|-
 have g1:=Y14f L L.length (k+1)
 have g2:=@Y17k (L.getD k 0)
 have e:((k:Int) - 1).toNat=k - 1:=by omega
 have g3:Ypn L (k+1)=(Ypn L k&&decide (1<=L.getD k 0/\L.getD k 0<=99999)&&(decide (k=0)||decide (L.getD (k - 1) 0<L.getD k 0))):=rfl
 exact z0n)
theorem Z6 (L:List Int):Zaa L:=Ykr call138 func138 (.z Yke L (.l (Z3r L) (Zdu L) [] [.s (li 0)] 0 (.t (.s (lb true)) (.t (.s (lb false)) .q)))) (by
 dsimp only[Ykd,Zaa,Yko,Z3r]
 exact z0o)
def Ypd (k n:Int) (t:ByteArray) (s:List Int) (i:Int):Bool:=Yp4 k n t i&&Ymz s&&(decide ((s.length:Int)=0)||decide (k=1))
mutual
def Ykp:YS_->Nat
 | ⟨_,_,_,_,l⟩=>Y11a l+1
def Y11a:List YS_->Nat
 | []=>0
 | c :: r=>Ykp c+Y11a r
end
theorem Y1ad:∀ l,Y11a l=sumBy Ykp l
 | []=>by simp[Y11a,sumBy]
 | c :: r=>by rw[Y11a,sumBy,Y1ad r]
theorem Yli (c:YS_):Ykp c=sumBy Ykp c.Ia+1:=by cases c;simp only[Ykp,Y1ad]
mutual
def Yl5:YS_->Nat
 | ⟨_,_,_,_,l⟩=>Y16h l+1
def Y16h:List YS_->Nat
 | []=>0
 | c :: r=>max (Yl5 c) (Y16h r)
end
theorem Y1cp:∀ l,Y16h l=Yll Yl5 l
 | []=>by simp[Y16h,Yll]
 | c :: r=>by rw[Y16h,Yll,Y1cp r]
theorem Ypk (c:YS_):Yl5 c=Yll Yl5 c.Ia+1:=by cases c;simp only[Yl5,Y1cp]
theorem Y1ws:∀ c:YS_,Yl5 c<=Ykp c:=by
 refine YS_.ind λc ih => ?_
 have:=Yx8 ih
 rw[Yli,Ypk];omega
mutual
def okY:YS_->Bool
 | ⟨k,n,t,s,l⟩=>Y1c2 l&&Ypd k n t s l.length
def Y1c2:List YS_->Bool
 | []=>true
 | c :: r=>okY c&&Y1c2 r
end
theorem Y1h1:∀ l,Y1c2 l=l.all okY
 | []=>by simp[Y1c2]
 | c :: r=>by rw[Y1c2,Y1h1 r];rfl
theorem Yow (c:YS_):okY c=(c.Ia.all okY&&Ypd c.Ka c.Na c.Ta c.Sa c.Ia.length):=by cases c;simp only[okY,Y1h1]
def Ykk (d:YS_):Bool:=decide (Ykp d<=2000)&&decide (Yl5 d<=40)&&okY d
mutual
def Ym9:YS_->Int->Int->Bool×Int
 | ⟨k,n,t,s,l⟩,deep,m=>if deep<=40/\m+1<=2000/\Ypd k n t s l.length then Y16o l (deep+1) (m+1) else (false,m+1)
def Y16o:List YS_->Int->Int->Bool×Int
 | [],_,m=>(true,m)
 | x :: r,deep,m=>if (Ym9 x deep m).1 then Y16o r deep (Ym9 x deep m).2 else (false,(Ym9 x deep m).2)
end
theorem Y1ck:∀ l deep m,Y16o l deep m=Yl8 (λx m=>Ym9 x deep m) l m
 | [],_,_=>by simp[Y16o,Yl8]
 | x :: r,deep,m=>by simp only[Y16o,Yl8,Y1ck r]
theorem Y1i2 (c:YS_) (deep m:Int):Ym9 c deep m=if deep<=40/\m+1<=2000/\Ypd c.Ka c.Na c.Ta c.Sa c.Ia.length then Yl8 (λx m=>Ym9 x (deep+1) m) c.Ia (m+1) else (false,m+1):=by cases c;simp only[Ym9,Y1ck]
theorem Yy5:∀ (c:YS_) (deep m:Int),m<=2000->((Ym9 c deep m).1 ↔ (m+Ykp c<=2000/\(deep+Yl5 c<=41/\okY c)))/\((Ym9 c deep m).1->(Ym9 c deep m).2=m+Ykp c):=by
 refine YS_.ind λc ih deep m hm => ?_
 rw[Y1i2,Yli,Ypk,Yow,af,am]
 by_cases h:deep<=40/\m+1<=2000/\Ypd c.Ka c.Na c.Ta c.Sa c.Ia.length
 ·rw[ae h]
  have h1:=Y133 (λx m=>Ym9 x (deep+1) m) Ykp (λx=>deep+1+Yl5 x<=41/\okY x) 2000 c.Ia (λx hx m hm=>ih x hx (deep+1) m hm) (m+1) h.2.1
  have h2:=Yzx Yl5 (m:=(40 - deep).toNat) (L:=c.Ia)
  constructor
  ·rw[h1.1]
   constructor
   ·rintro⟨a,b⟩
    have:=h2.2 λx hx=>by have:=(b x hx).1;omega
    exact⟨by omega,by omega,λx hx=>(b x hx).2,h.2.2⟩
   ·rintro⟨a,b,d,e⟩
    have:=h2.1 oW
    exact⟨by omega,λx hx=>⟨by have:=this x hx;omega,d x hx⟩⟩
  ·intro ht;rw[h1.2 ht];omega
 ·rw[ab h]
  refine⟨⟨λe=>Bool.noConfusion e,?_⟩,λe=>Bool.noConfusion e⟩
  rintro⟨a,b,d,e⟩
  exact absurd ⟨by omega,by omega,e⟩ h
theorem Y101 (d:YS_):(Ym9 d 1 0).1=Ykk d:=by
 have h:=(Yy5 d 1 0 dW).1
 rw[cm,h]
 simp only[Ykk,af,ak,dw]
 constructor
 ·rintro⟨a,b,e⟩;exact⟨by omega,by omega,e⟩
 ·rintro⟨a,b,e⟩;exact⟨by omega,by omega,e⟩
abbrev Z1f (d:YS_) (l:Int):Ct:=⟨189,[.box [vI l]],[Ykx d,.y 0],[.box [vI (max (l - Ykp d) (-1))]],.sv (lb (decide (Ykp d<=l)))⟩
def Z3s (d:YS_) (l:Int):Lp Nat:=.mk 36 1 (λx=>[(1,.y 0),(2,.y 1),(5,hs x 0)]) (λx=>[.box [ha x 1],.box (vals (Yki d))]) (λk=>[.s (li k),.a (vI (max (l - 1 - (↑(sumBy Ykp (d.Ia.take k)):Int)) (-1:Int)))]) (λk=>d.Ia.length >= k) (λk=>d.Ia.length - k) [.mk True (.exit 0) (λx=>[(1,.y 0)]) (λx=>[.box [ha x 0]]) [.a (vI (max (l - (↑(Ykp d):Int)) (-1:Int)))]]
theorem Zdv (d:YS_) (l:Int) (h:0<=l/\l<=1000000) (ih:∀ (z:YS_),z∈d.Ia->∀ (l:Int),0<=l/\l<=1000000->OK (Z1f z l)):Lp.Sem prog (Yks f189 0) (Z3s d l):=Yl0 (λk=>let v1:=l - 1 - (↑(sumBy Ykp (d.Ia.take k)):Int);let v2:=d.Ia.g k;let v3:=(-1:Int);.z Ykb d.Ia (.i ((k:Int)<(d.Ia.map Ykb).length) (.i (0<=max v1 v3) (.x (k:Int) (d.Ia.map Ykb) (Yki v2) (.d [.rd,.ptr] (Z1f v2 (max v1 v3)) (.r ((k:Int)+1) (.g [0,1] (k+1) [.s (li ((k:Int)+1)),.a (vI (max (max v1 v3 - (↑(Ykp v2):Int)) v3))])))) (.o 0 [0] [.a (vI (max v1 v3))])) (.y false (.o 0 [0] [.a (vI (max v1 v3))])))) (by
 intro k h;try dsimp only[Ykd,Yko,Z3s]at h|-
 have g1:=Yli d
 have g2:=Ym2 Ykp d.Ia k
 have g3:=@Ynp _ _ Ykp d.Ia k
 exact z01)
theorem Zhd (d:YS_) (l:Int) (h:0<=l/\l<=1000000) (ih:∀ z∈d.Ia,∀ (l:Int) (h:0<=l/\l<=1000000),Z1f z l):Z1f d l:=Ykr call189 func189 (.r (l - 1) (.l (Z3s d l) (Zdv d l h ih) [0,1] [.s (li 0),.a (vI (l - 1))] 0 (.t (.f [] [.box [vI (max (l - (↑(Ykp d):Int)) (-1:Int))]] (.sv (lb (decide (0<=max (l - (↑(Ykp d):Int)) (-1:Int)))))) .q))) (by
 dsimp only[Ykd,Z1f,Yko,Z3s]
 have g1:=Yli d
 have g2:sumBy Ykp (d.Ia.take 0)=0:=rfl
 exact z02)
theorem Zfu (d:YS_):∀ (l:Int) (h:0<=l/\l<=1000000),Z1f d l:=YS_.ind (P:=λd=>∀ (l:Int) (h:0<=l/\l<=1000000),Z1f d l) (λd ih l h=>Zhd d l h ih) d
abbrev Z1g (d:YS_):Ct:=⟨190,[],[Ykx d],[],.sv (li (Yl5 d))⟩
def Z3t (d:YS_):Lp Nat:=.mk 20 0 (λx=>[(3,hs x 1),(7,Af d.Ia),(8,li (d.Ia.map Ykb).length),(9,hs x 0)]) (λx=>[]) (λk=>[.s (li k),.s (li (↑(Yll Yl5 (d.Ia.take k)):Int))]) (λk=>k<=d.Ia.length/\d.Ia.length<=9223372036854775807) (λk=>d.Ia.length - k) [.mk True (.exit 0) (λx=>[(3,hs x 0)]) (λx=>[]) [.s (li (↑(Yll Yl5 d.Ia):Int))]]
theorem Zdw (d:YS_) (h:Ykp d<=2147483647) (ih:∀ (z:YS_),z∈d.Ia->Ykp z<=2147483647->OK (Z1g z)):Lp.Sem prog (Yks f190 0) (Z3t d):=Yl0 (λk=>let v1:=d.Ia.g k;let v2:=(↑(Yll Yl5 (d.Ia.take k)):Int);.i ((k:Int)<(d.Ia.map Ykb).length) (.x (k:Int) (d.Ia.map Ykb) (Yki v1) (.d [.rd] (Z1g v1) (.r ((k:Int)+1) (.g [] (k+1) [.s (li ((k:Int)+1)),.s (li (max v2 (↑(Yl5 v1):Int)))])))) (.o 0 [] [.s (li v2)])) (by
 intro k h;try dsimp only[Ykd,Yko,Z3t]at h|-
 have g1:=Yli d
 have g2:=@Yl3 _ Ykp d.Ia (d.Ia.g k)
 exact z0b)
theorem Zhe (d:YS_) (h:Ykp d<=2147483647) (ih:∀ z∈d.Ia,∀ (h:Ykp z<=2147483647),Z1g z):Z1g d:=Ykr call190 func190 (let v1:=(↑(Yll Yl5 d.Ia):Int)+1;.z Ykb d.Ia (.l (Z3t d) (Zdw d h ih) [] [.s (li 0),.s (li 0)] 0 (.t (.r v1 (.s (li v1))) .q))) (by
 dsimp only[Ykd,Z1g,Yko,Z3t]
 have h1:=Y1ws d
 have g2:Yll Yl5 (d.Ia.take 0)=0:=rfl
 with_reducible repeat' (first|apply ah|exact zR|exact ih|(intro))
 all_goals ((try simp only[std,inj]at *);with_reducible and_intros)
 all_goals try with_reducible first|apply ih
 all_goals try first|exact z|grind[Ypk,Ykl,Ykm,Ykf])
theorem Zfv (d:YS_):∀ (h:Ykp d<=2147483647),Z1g d:=YS_.ind (P:=λd=>∀ (h:Ykp d<=2147483647),Z1g d) (λd ih h=>Zhe d h ih) d
abbrev Z3c (d:YS_):Ct:=⟨191,[],[Ykx d],[],.sv (lb (okY d))⟩
def Z4p (d:YS_):Lp Nat:=.mk 42 0 (λx=>[(1,.y 0),(6,Af d.Ia),(7,li (d.Ia.map Ykb).length),(8,hs x 0)]) (λx=>[.box (vals (Yki d))]) (λk=>[.s (li k)]) (λk=>k<=d.Ia.length/\d.Ia.length<=9223372036854775807/\(d.Ia.take k).all okY) (λk=>d.Ia.length - k) [.mk (d.Ia.all okY) (.exit 0) (λx=>[(1,.y 0)]) (λx=>[.box (vals (Yki d))]) [],.mk (d.Ia.all okY=false) .ret (λx=>[(2,hs x 0)]) (λx=>[]) [.s (lb false)]]
theorem Zf5 (d:YS_) (ih:∀ (z:YS_),z∈d.Ia->OK (Z3c z)):Lp.Sem prog (Yks f191 0) (Z4p d):=Yl0 (λk=>let v1:=d.Ia.g k;.i ((k:Int)<(d.Ia.map Ykb).length) (.x (k:Int) (d.Ia.map Ykb) (Yki v1) (.d [.rd] (Z3c v1) (.b (!okY v1) (.o 1 [] [.s (lb false)]) (.r ((k:Int)+1) (.g [0] (k+1) [.s (li ((k:Int)+1))]))))) (.o 0 [0] [])) (by
 intro k h;try dsimp only[Ykd,Yko,Z4p]at h|-
 exact z0c)
theorem Ziv (d:YS_) (ih:∀ z∈d.Ia,Z3c z):Z3c d:=Ykr call191 func191 (let v1:=((d.Ia.map Ykb).length:Int);.z Ykb d.Ia (.l (Z4p d) (Zf5 d ih) [0] [.s (li 0)] 0 (.t (.z Ykb d.Ia (.c [.rd,.rd,.rd,.rd] (Zfo d.Ka d.Na d.Ta v1) (.b (Yp4 d.Ka d.Na d.Ta v1) (.c [.rd] (Zhc d.Sa) (.b (Ymz d.Sa) (.z Yke d.Sa (.i (((d.Sa.map Yke).length:Int)=0) (.s (lb true)) (.s (lb (decide (d.Ka=1)))))) (.s (lb false)))) (.y false (.s (lb false)))))) (.t (.s (lb false)) .q)))) (by
 dsimp only[Ykd,Z3c,Yko,Z4p]
 with_reducible repeat' (first|apply ah|exact zR|exact ih|(intro))
 all_goals ((try simp only[std,inj]at *);with_reducible and_intros)
 all_goals try with_reducible first|apply ih
 all_goals try first|exact z|grind[Yow,Ypd,Ykl,Ykm,Ykf])
theorem Zk0 (d:YS_):Z3c d:=YS_.ind (P:=λd=>Z3c d) (λd ih=>Ziv d ih) d
abbrev Z8o (d:YS_):Ct:=⟨149,[],[Ykx d],[],.sv (lb (Ykk d))⟩
theorem Z7r (d:YS_):Z8o d:=Ykr call149 func149 (.d [.rd,.ptr] (Z1f d 2000) (.i ((↑(Ykp d):Int)<=2000) (.d [.rd] (Z1g d) (.i ((↑(Yl5 d):Int)<=40) (.c [.rd] (Zk0 d) (.s (lb (okY d)))) (.s (lb false)))) (.y false (.s (lb false))))) (by
 dsimp only[Ykd,Z8o]
 with_reducible repeat' (first|apply ah|exact zR|(intro)|apply Zfu|apply Zfv)
 all_goals ((try simp only[std,inj]at *);with_reducible and_intros)
 all_goals try with_reducible first|apply Zfu|apply Zfv
 all_goals try first|exact z|grind[Ykk,Ykl,Ykm,Ykf])
abbrev Zz (d:YS_) (deep:Int) (q:Int):Ct:=⟨117,[.box [vI q]],[Ykx d,li deep,.y 0],[.box [vI (Ym9 d deep q).2]],.sv (lb (Ym9 d deep q).1)⟩
def Z1x (d:YS_) (deep:Int) (q:Int):Lp Nat:=let v1:=deep+1;.mk 64 1 (λx=>[(1,li deep),(2,.y 0),(51,Af d.Ia),(52,li (d.Ia.map Ykb).length),(53,hs x 0)]) (λx=>[.box [ha x 1]]) (λk=>[.s (li k),.a (vI (Yl8 (λx m=>Ym9 x v1 m) (d.Ia.take k) (q+1)).2)]) (λk=>k<=d.Ia.length/\d.Ia.length<=9223372036854775807/\deep<=40/\(Yl8 (λx m=>Ym9 x v1 m) (d.Ia.take k) (q+1)).1/\q<=(Yl8 (λx m=>Ym9 x v1 m) (d.Ia.take k) (q+1)).2/\(Yl8 (λx m=>Ym9 x v1 m) (d.Ia.take k) (q+1)).2<=2000) (λk=>d.Ia.length - k) [.mk ((Yl8 (λx m=>Ym9 x v1 m) d.Ia (q+1)).1) (.exit 0) (λx=>[]) (λx=>[.box [ha x 0]]) [.a (vI (Yl8 (λx m=>Ym9 x v1 m) d.Ia (q+1)).2)],.mk ((Yl8 (λx m=>Ym9 x v1 m) d.Ia (q+1)).1=false) .ret (λx=>[(6,hs x 0)]) (λx=>[.box [ha x 1]]) [.s (lb false),.a (vI (Yl8 (λx m=>Ym9 x v1 m) d.Ia (q+1)).2)]]
theorem Z8v (d:YS_) (deep:Int) (q:Int) (h:0<=deep/\deep<=41/\0<=q/\q<=2000) (ih:∀ (z:YS_),z∈d.Ia->∀ (deep q:Int),0<=deep/\deep<=41/\0<=q/\q<=2000->OK (Zz z deep q)):Lp.Sem prog (Yks f117 0) (Z1x d deep q):=Yl0 (λk=>let v1:=d.Ia.g k;let v2:=d.Ia.take k;let v3:=deep+1;.i ((k:Int)<(d.Ia.map Ykb).length) (.x (k:Int) (d.Ia.map Ykb) (Yki v1) (.r v3 (.d [.rd,.rd,.ptr] (Zz v1 v3 (Yl8 (λx m=>Ym9 x v3 m) v2 (q+1)).2) (.b (!(Ym9 v1 v3 (Yl8 (λx m=>Ym9 x v3 m) v2 (q+1)).2).1) (.o 1 [0] [.s (lb false),.a (vI (Ym9 v1 v3 (Yl8 (λx m=>Ym9 x v3 m) v2 (q+1)).2).2)]) (.r ((k:Int)+1) (.g [0] (k+1) [.s (li ((k:Int)+1)),.a (vI (Ym9 v1 v3 (Yl8 (λx m=>Ym9 x v3 m) v2 (q+1)).2).2)])))))) (.o 0 [0] [.a (vI (Yl8 (λx m=>Ym9 x v3 m) v2 (q+1)).2)])) (by
 intro k h;try dsimp only[Ykd,Yko,Z1x]at h|-
 have g1:=λx m=>Yy5 x (deep+1) m
 exact z0l)
theorem Zhf (d:YS_) (deep q:Int) (h:0<=deep/\deep<=41/\0<=q/\q<=2000) (ih:∀ z∈d.Ia,∀ (deep:Int) (q:Int) (h:0<=deep/\deep<=41/\0<=q/\q<=2000),Zz z deep q):Zz d deep q:=Ykr call117 func117 (let v3:AV:=.sv (lb false);let v1:Tq _ _:=.f [] [.box [vI (q+1)]] v3;let v2:=((d.Ia.map Ykb).length:Int);.r (q+1) (.i (40<deep) (.y true (.y true v1)) (.i (2000<q+1) (.y true v1) (.z Ykb d.Ia (.c [.rd,.rd,.rd,.rd] (Zfp d.Ka d.Na d.Ta v2) (.b (!Yp4 d.Ka d.Na d.Ta v2) v1 (.i (d.Ka≠1) (.z Yke d.Sa (.i (0<((d.Sa.map Yke).length:Int)) (.y true v1) (.c [.rd] (Z6 d.Sa) (.b (!Ymz d.Sa) v1 (.z Ykb d.Ia (.l (Z1x d deep q) (Z8v d deep q h ih) [0] [.s (li 0),.a (vI (q+1))] 0 (.t (.f [] [.box [vI (Yl8 (λx m=>Ym9 x (deep+1) m) d.Ia (q+1)).2]] (.sv (lb true))) (.t (.f [] [.box [vI (Yl8 (λx m=>Ym9 x (deep+1) m) d.Ia (q+1)).2]] v3) .q)))))))) (.y false (.c [.rd] (Z6 d.Sa) (.b (!Ymz d.Sa) v1 (.z Ykb d.Ia (.l (Z1x d deep q) (Z8v d deep q h ih) [0] [.s (li 0),.a (vI (q+1))] 0 (.t (.f [] [.box [vI (Yl8 (λx m=>Ym9 x (deep+1) m) d.Ia (q+1)).2]] (.sv (lb true))) (.t (.f [] [.box [vI (Yl8 (λx m=>Ym9 x (deep+1) m) d.Ia (q+1)).2]] v3) .q)))))))))))))) (by
 dsimp only[Ykd,Zz,Yko,Z1x]
 with_reducible repeat' (first|apply ah|exact zR|exact ih|(intro))
 all_goals ((try simp only[std,inj]at *);with_reducible and_intros)
 all_goals try with_reducible first|apply ih
 all_goals try first|exact z|grind[Y1i2,Yl8,Ypd,Ykl,Ykm,Ykf])
theorem Zk (d:YS_):∀ (deep:Int) (q:Int) (h:0<=deep/\deep<=41/\0<=q/\q<=2000),Zz d deep q:=YS_.ind (P:=λd=>∀ (deep:Int) (q:Int) (h:0<=deep/\deep<=41/\0<=q/\q<=2000),Zz d deep q) (λd ih deep q h=>Zhf d deep q h ih) d
abbrev Z8p (d:YS_):Ct:=⟨69,[],[Ykx d],[],.sv (lb (Ykk d))⟩
theorem Z17 (d:YS_):Z8p d:=Ykr call69 func69 (.d [.rd,.rd,.ptr] (Zz d 1 0) (.s (lb (Ym9 d 1 0).1))) (by
 dsimp only[Ykd,Z8p]
 with_reducible repeat' (first|apply ah|exact zR|(intro)|apply Zk)
 all_goals ((try simp only[std,inj]at *);with_reducible and_intros)
 all_goals try with_reducible first|apply Zk
 all_goals try first|exact z|grind[Y101,Ykl,Ykm,Ykf])
abbrev Zcc (s:YS_):Ct:=⟨188,[],[Ykx s],[],.sv (lb (decide (s.Ka=1)&&Ykk s))⟩
theorem Zbq (s:YS_):Zcc s:=Ykr call188 func188 (.i (s.Ka=1) (.c [.rd] (Z7r s) (.s (lb (Ykk s)))) (.s (lb false))) (by
 dsimp only[Ykd,Zcc]
 exact zV)
abbrev Zcd (s:YS_):Ct:=⟨139,[],[Ykx s],[],.sv (lb (decide (s.Ka=1)&&Ykk s))⟩
theorem Ze (s:YS_):Zcd s:=Ykr call139 func139 (.i (s.Ka=1) (.c [.rd] (Z17 s) (.s (lb (Ykk s)))) (.s (lb false))) (by
 dsimp only[Ykd,Zcd]
 exact zV)
end
section
abbrev Z8q (A:List Int) (B:List Int):Ct:=⟨31,[],[Ag A,Ag B],[],.sv (lb (decide (A=B)))⟩
def Z2h (A:List Int) (B:List Int):Lp Nat:=.mk 26 0 (λx=>[(0,Ag A),(1,Ag B),(12,li (A.map Yke).length),(13,hs x 0)]) (λx=>[]) (λk=>[.s (li k)]) (λk=>k<=A.length/\A.length<=9223372036854775807/\A.length=B.length/\A.take k=B.take k) (λk=>A.length - k) [.mk (A=B) (.exit 0) (λx=>[]) (λx=>[]) [],.mk (A≠B) .ret (λx=>[(4,hs x 0)]) (λx=>[]) [.s (lb false)]]
theorem Zbr (A:List Int) (B:List Int):Lp.Sem prog (Yks f31 0) (Z2h A B):=Yl0 (λk=>.i ((k:Int)<(A.map Yke).length) (.w (.draw []) (.x (k:Int) (A.map Yke) [cI (A.getD k 0)] (.x (k:Int) (B.map Yke) [cI (B.getD k 0)] (.i (A.getD k (0:Int)≠B.getD k 0) (.o 1 [] [.s (lb false)]) (.r ((k:Int)+1) (.g [] (k+1) [.s (li ((k:Int)+1))])))))) (.o 0 [] [])) (by
 intro k h;try dsimp only[Ykd,Yko,Z2h]at h|-
 exact z09)
theorem Z4q (A B:List Int):Z8q A B:=Ykr call31 func31 (.z Yke A (.z Yke B (.i (((A.map Yke).length:Int)≠((B.map Yke).length:Int)) (.s (lb false)) (.z Yke A (.l (Z2h A B) (Zbr A B) [] [.s (li 0)] 0 (.t (.s (lb true)) (.t (.s (lb false)) .q))))))) (by
 dsimp only[Ykd,Z8q,Yko,Z2h]
 exact zV)
abbrev Zl (x:YS_) (y:YS_):Ct:=⟨10,[],[Ykx x,Ykx y],[],.sv (lb (decide (x=y)))⟩
def Z1l (x:YS_) (y:YS_):Lp Nat:=.mk 61 0 (λx_1=>[(2,.y 0),(3,.y 1),(44,li (x.Ia.map Ykb).length),(45,hs x_1 0)]) (λx_1=>[.box (vals (Yki x)),.box (vals (Yki y))]) (λk=>[.s (li k)]) (λk=>k<=x.Ia.length/\x.Ia.length<=9223372036854775807/\x.Ia.length=y.Ia.length/\x.Ia.take k=y.Ia.take k) (λk=>x.Ia.length - k) [.mk (x.Ia=y.Ia) (.exit 0) (λx=>[]) (λx=>[]) [],.mk (x.Ia≠y.Ia) .ret (λx=>[(4,hs x 0)]) (λx=>[]) [.s (lb false)]]
theorem Zae (x:YS_) (y:YS_) (ih:∀ (z:YS_),z∈x.Ia->∀ (y:YS_),OK (Zl z y)):Lp.Sem prog (Yks f10 0) (Z1l x y):=Yl0 (λk=>.i ((k:Int)<(x.Ia.map Ykb).length) (.w (.draw []) (.x (k:Int) (x.Ia.map Ykb) (Yki (x.Ia.g k)) (.x (k:Int) (y.Ia.map Ykb) (Yki (y.Ia.g k)) (.d [.rd,.rd] (Zl (x.Ia.g k) (y.Ia.g k)) (.b (!decide (x.Ia.g k=y.Ia.g k)) (.o 1 [] [.s (lb false)]) (.r ((k:Int)+1) (.g [0,1] (k+1) [.s (li ((k:Int)+1))]))))))) (.o 0 [] [])) (by
 intro k h;try dsimp only[Ykd,Yko,Z1l]at h|-
 with_reducible repeat' (first|apply ah|exact zR|exact ih|(intro)|apply ih)
 all_goals ((try simp only[std,inj]at *);with_reducible and_intros)
 all_goals try with_reducible first|apply ih
 all_goals try first|exact z|grind[Yu8,Ykg,Ykl,Ykm,Ykf])
theorem Zd1 (x y:YS_) (ih:∀ z∈x.Ia,∀ (y:YS_),Zl z y):Zl x y:=Ykr call10 func10 (let v1:Tq _ _:=.y true (.s (lb false));.i (x.Ka≠y.Ka) (.y true (.y true (.y true v1))) (.i (x.Na≠y.Na) (.y true (.y true v1)) (.i (x.Ta.data.toList≠y.Ta.data.toList) (.y true v1) (.c [.rd,.rd] (Z4q x.Sa y.Sa) (.b (!decide (x.Sa=y.Sa)) v1 (.z Ykb x.Ia (.z Ykb y.Ia (.i (((x.Ia.map Ykb).length:Int)≠((y.Ia.map Ykb).length:Int)) (.s (lb false)) (.z Ykb x.Ia (.l (Z1l x y) (Zae x y ih) [0,1] [.s (li 0)] 0 (.t (.s (lb true)) (.t (.s (lb false)) .q)))))))))))) (by
 dsimp only[Ykd,Zl,Yko,Z1l]
 simp only[Y1oc]
 with_reducible repeat' (first|apply ah|exact zR|exact ih|(intro))
 all_goals ((try simp only[std,inj]at *);with_reducible and_intros)
 all_goals try with_reducible first|apply ih
 all_goals try first|exact z|grind[Yo9,Ykl,Ykm,Ykf])
theorem Zf6 (x:YS_):∀ (y:YS_),Zl x y:=YS_.ind (P:=λx=>∀ (y:YS_),Zl x y) (λx ih y=>Zd1 x y ih) x
abbrev Z6x (A:List YS_) (B:List YS_):Ct:=⟨86,[],[Af A,Af B],[],.sv (lb (decide (A=B)))⟩
def Z1m (A:List YS_) (B:List YS_):Lp Nat:=.mk 27 0 (λx=>[(0,Af A),(1,Af B),(12,li (A.map Ykb).length),(13,hs x 0)]) (λx=>[]) (λk=>[.s (li k)]) (λk=>k<=A.length/\A.length<=9223372036854775807/\A.length=B.length/\A.take k=B.take k) (λk=>A.length - k) [.mk (A=B) (.exit 0) (λx=>[]) (λx=>[]) [],.mk (A≠B) .ret (λx=>[(4,hs x 0)]) (λx=>[]) [.s (lb false)]]
theorem Zaf (A:List YS_) (B:List YS_):Lp.Sem prog (Yks f86 0) (Z1m A B):=Yl0 (λk=>.i ((k:Int)<(A.map Ykb).length) (.w (.draw []) (.x (k:Int) (A.map Ykb) (Yki (A.g k)) (.x (k:Int) (B.map Ykb) (Yki (B.g k)) (.c [.rd,.rd] (Zf6 (A.g k) (B.g k)) (.b (!decide (A.g k=B.g k)) (.o 1 [] [.s (lb false)]) (.r ((k:Int)+1) (.g [] (k+1) [.s (li ((k:Int)+1))]))))))) (.o 0 [] [])) (by
 intro k h;try dsimp only[Ykd,Yko,Z1m]at h|-
 exact z09)
theorem Z5d (A B:List YS_):Z6x A B:=Ykr call86 func86 (.z Ykb A (.z Ykb B (.i (((A.map Ykb).length:Int)≠((B.map Ykb).length:Int)) (.s (lb false)) (.z Ykb A (.l (Z1m A B) (Zaf A B) [] [.s (li 0)] 0 (.t (.s (lb true)) (.t (.s (lb false)) .q))))))) (by
 dsimp only[Ykd,Z6x,Yko,Z1m]
 exact zV)
abbrev Z6y (A:List YB) (B:List YB):Ct:=⟨38,[],[Aj A,Aj B],[],.sv (lb (decide (A=B)))⟩
def Z1n (A:List YB) (B:List YB):Lp Nat:=.mk 68 0 (λx=>[(0,Aj A),(1,Aj B),(12,li (A.map Ykc).length),(13,hs x 0)]) (λx=>[]) (λk=>[.s (li k)]) (λk=>k<=A.length/\A.length<=9223372036854775807/\A.length=B.length/\A.take k=B.take k) (λk=>A.length - k) [.mk (A=B) (.exit 0) (λx=>[]) (λx=>[]) [],.mk (A≠B) .ret (λx=>[(4,hs x 0)]) (λx=>[]) [.s (lb false)]]
theorem Zag (A:List YB) (B:List YB):Lp.Sem prog (Yks f38 0) (Z1n A B):=Yl0 (λk=>let v1:=B.g k;let v2:=A.g k;let v3:Tq _ _:=.y true (.o 1 [] [.s (lb false)]);let v4:=B.map Ykc;let v5:=A.map Ykc;.i ((k:Int)<(A.map Ykc).length) (.w (.draw []) (.x (k:Int) v5 (Yl6 v2) (.x (k:Int) v4 (Yl6 v1) (.i (v2.Ta.data.toList≠v1.Ta.data.toList) (.y true (.y true v3)) (.x (k:Int) v5 (Yl6 v2) (.x (k:Int) v4 (Yl6 v1) (.c [.rd,.rd] (Z4q v2.Sa v1.Sa) (.b (!decide (v2.Sa=v1.Sa)) (.y true v3) (.x (k:Int) v5 (Yl6 v2) (.x (k:Int) v4 (Yl6 v1) (.i (v2.Ka≠v1.Ka) v3 (.x (k:Int) v5 (Yl6 v2) (.x (k:Int) v4 (Yl6 v1) (.i (v2.Na≠v1.Na) (.o 1 [] [.s (lb false)]) (.r ((k:Int)+1) (.g [] (k+1) [.s (li ((k:Int)+1))])))))))))))))))) (.o 0 [] [])) (by
 intro k h;try dsimp only[Ykd,Yko,Z1n]at h|-
 with_reducible repeat' (first|apply ah|exact zR|(intro))
 all_goals ((try simp only[std,inj]at *);with_reducible and_intros)
 all_goals try first|exact z|grind[Yu8,Y1ke,Yo9,Ykl,Ykm,Ykf])
theorem Zd2 (A B:List YB):Z6y A B:=Ykr call38 func38 (.z Ykc A (.z Ykc B (.i (((A.map Ykc).length:Int)≠((B.map Ykc).length:Int)) (.s (lb false)) (.z Ykc A (.l (Z1n A B) (Zag A B) [] [.s (li 0)] 0 (.t (.s (lb true)) (.t (.s (lb false)) .q))))))) (by
 dsimp only[Ykd,Z6y,Yko,Z1n]
 exact zV)
abbrev Z8w (x:YR_) (y:YR_):Ct:=⟨39,[],[Yum x,Yum y],[],.sv (lb (decide (x=y)))⟩
theorem Zgc (x y:YR_):Z8w x y:=Ykr call39 func39 (.c [.rd,.rd] (Z5d x.La y.La) (.i (x.La=y.La) (.c [.rd,.rd] (Z5d x.Pb y.Pb) (.i (x.Pb=y.Pb) (.c [.rd,.rd] (Z5d x.Tb y.Tb) (.s (lb (decide (x.Tb=y.Tb))))) (.s (lb false)))) (.y false (.s (lb false))))) (by
 dsimp only[Ykd,Z8w]
 simp only[Y1tk]
 exact zV)
abbrev Z6d (x:YE) (y:YE):Ct:=⟨14,[],[Ysi x,Ysi y],[],.sv (lb (decide (x=y)))⟩
def Z1a (x:YE) (y:YE):Lp Nat:=.mk 61 0 (λx_1=>[(2,.y 0),(3,.y 1),(44,li (x.Ma.map Ykn).length),(45,hs x_1 0)]) (λx_1=>[.box (vals (Yp1 x)),.box (vals (Yp1 y))]) (λk=>[.s (li k)]) (λk=>k<=x.Ma.length/\x.Ma.length<=9223372036854775807/\x.Ma.length=y.Ma.length/\x.Ma.take k=y.Ma.take k) (λk=>x.Ma.length - k) [.mk (x.Ma=y.Ma) (.exit 0) (λx=>[]) (λx=>[]) [],.mk (x.Ma≠y.Ma) .ret (λx=>[(4,hs x 0)]) (λx=>[]) [.s (lb false)]]
theorem Za5 (x:YE) (y:YE):Lp.Sem prog (Yks f14 0) (Z1a x y):=Yl0 (λk=>.i ((k:Int)<(x.Ma.map Ykn).length) (.w (.draw []) (.x (k:Int) (x.Ma.map Ykn) (Ynw (x.Ma.g k)) (.x (k:Int) (y.Ma.map Ykn) (Ynw (y.Ma.g k)) (.c [.rd,.rd] (Zgc (x.Ma.g k) (y.Ma.g k)) (.b (!decide (x.Ma.g k=y.Ma.g k)) (.o 1 [] [.s (lb false)]) (.r ((k:Int)+1) (.g [0,1] (k+1) [.s (li ((k:Int)+1))]))))))) (.o 0 [] [])) (by
 intro k h;try dsimp only[Ykd,Yko,Z1a]at h|-
 exact z09)
theorem Zbs (x y:YE):Z6d x y:=Ykr call14 func14 (let v1:Tq _ _:=.y true (.s (lb false));.c [.rd,.rd] (Zd2 x.Ba y.Ba) (.b (!decide (x.Ba=y.Ba)) (.y true (.y true (.y true v1))) (.z Ykn x.Ma (.z Ykn y.Ma (.i (((x.Ma.map Ykn).length:Int)≠((y.Ma.map Ykn).length:Int)) (.y true (.y true v1)) (.i (x.Sb≠y.Sb) (.y true v1) (.i (x.Va≠y.Va) v1 (.i (x.Sc≠y.Sc) (.s (lb false)) (.z Ykn x.Ma (.l (Z1a x y) (Za5 x y) [0,1] [.s (li 0)] 0 (.t (.s (lb true)) (.t (.s (lb false)) .q)))))))))))) (by
 dsimp only[Ykd,Z6d,Yko,Z1a]
 simp only[Y1g8]
 exact zV)
abbrev Z8r (A:List Int) (B:List Int):Ct:=⟨88,[],[Ag A,Ag B],[],.sv (lb (decide (A=B)))⟩
def Z2i (A:List Int) (B:List Int):Lp Nat:=.mk 26 0 (λx=>[(0,Ag A),(1,Ag B),(12,li (A.map Yke).length),(13,hs x 0)]) (λx=>[]) (λk=>[.s (li k)]) (λk=>k<=A.length/\A.length<=9223372036854775807/\A.length=B.length/\A.take k=B.take k) (λk=>A.length - k) [.mk (A=B) (.exit 0) (λx=>[]) (λx=>[]) [],.mk (A≠B) .ret (λx=>[(4,hs x 0)]) (λx=>[]) [.s (lb false)]]
theorem Zbt (A:List Int) (B:List Int):Lp.Sem prog (Yks f88 0) (Z2i A B):=Yl0 (λk=>.i ((k:Int)<(A.map Yke).length) (.w (.draw []) (.x (k:Int) (A.map Yke) [cI (A.getD k 0)] (.x (k:Int) (B.map Yke) [cI (B.getD k 0)] (.i (A.getD k (0:Int)≠B.getD k 0) (.o 1 [] [.s (lb false)]) (.r ((k:Int)+1) (.g [] (k+1) [.s (li ((k:Int)+1))])))))) (.o 0 [] [])) (by
 intro k h;try dsimp only[Ykd,Yko,Z2i]at h|-
 exact z09)
theorem Z7s (A B:List Int):Z8r A B:=Ykr call88 func88 (.z Yke A (.z Yke B (.i (((A.map Yke).length:Int)≠((B.map Yke).length:Int)) (.s (lb false)) (.z Yke A (.l (Z2i A B) (Zbt A B) [] [.s (li 0)] 0 (.t (.s (lb true)) (.t (.s (lb false)) .q))))))) (by
 dsimp only[Ykd,Z8r,Yko,Z2i]
 exact zV)
end
section
def Y1k6:List UInt8:=[46,46,46]
def Ykt (s:YS_):Bool:=decide (s.Ka=1)&&decide (s.Ta.data.toList=Y1k6)
def Yp6 (s:YS_):Bool:=decide (s.Ka=1)&&Ykk s
def Ypa (s:YS_) (x:YC):Bool:=decide (x.name.Ta=s.Ta)&&decide (x.name.Sa=s.Sa)&&Yp6 x.name
def Yqh (L:List YC) (s:YS_):Nat:=L.findIdx (Ypa s)
def fnd (L:List YC) (s:YS_):Int:=if Ykt s=false/\Yqh L s<L.length then Yqh L s else -1
theorem Y1je {L:List YC}{s:YS_}{k:Nat}(hk:k<L.length) (hb:k<=Yqh L s) (h:Ypa s (L.g k)):Yqh L s=k:=by
 have h1:L.g k=L[k]:=by simp[hk]
 rw[h1]at h
 rcases bH k (Yqh L s) with h2|h2
 ·have:=List.not_of_lt_findIdx h2
  simp[h]at this
 ·omega
theorem Y19o {L:List YC}{s:YS_}{k:Nat}(hk:k<L.length) (hb:k<=Yqh L s) (h:Ypa s (L.g k)=false):k+1<=Yqh L s:=by
 have h1:L.g k=L[k]:=by simp[hk]
 rw[h1]at h
 rcases bH k (Yqh L s) with h2|h2
 ·exact h2
 ·have e:Yqh L s=k:=by omega
  have:=dk (p:=Ypa s) (xs:=L) (w:=by show Yqh L s<_;omega)
  have h3:Ypa s (L[Yqh L s]'oW):=this
  simp only[e,h]at h3
  exact absurd h3 dW
theorem Y1h6 (L:List YC) (s:YS_):Yqh L s<=L.length:=List.findIdx_le_length
theorem Yul (L:List YC) (s:YS_) : -1<=fnd L s/\fnd L s<L.length:=by
 unfold fnd;split<;>omega
abbrev Zce (s:YS_):Ct:=⟨150,[],[Ykx s],[],.sv (lb (Ykt s))⟩
theorem Z3g (s:YS_):Zce s:=Ykr call150 func150 (.i (s.Ka=1) (.s (lb (decide (s.Ta.data.toList=[46,46,46])))) (.s (lb false))) (by
 dsimp only[Ykd,Zce]
 exact z0p)
abbrev Zcf (s:YS_):Ct:=⟨90,[],[Ykx s],[],.sv (lb (Ykt s))⟩
theorem Z1 (s:YS_):Zcf s:=Ykr call90 func90 (.i (s.Ka=1) (.s (lb (decide (s.Ta.data.toList=[46,46,46])))) (.s (lb false))) (by
 dsimp only[Ykd,Zcf]
 exact z0p)
abbrev Zcg (a:YS_) (b:YS_):Ct:=⟨202,[],[Ykx a,Ykx b],[],.sv (lb (decide (a.Ta=b.Ta)&&decide (a.Sa=b.Sa)))⟩
theorem Zfw (a b:YS_):Zcg a b:=Ykr call202 func202 (.i (a.Ta.data.toList=b.Ta.data.toList) (.c [.rd,.rd] (Z4q a.Sa b.Sa) (.s (lb (decide (a.Sa=b.Sa))))) (.s (lb false))) (by
 dsimp only[Ykd,Zcg]
 exact z0q)
abbrev Zch (a:YS_) (b:YS_):Ct:=⟨179,[],[Ykx a,Ykx b],[],.sv (lb (decide (a.Ka=1)&&decide (b.Ka=1)&&decide (a.Ta=b.Ta)&&decide (a.Sa=b.Sa)))⟩
theorem Zbu (a b:YS_):Zch a b:=Ykr call179 func179 (.i (a.Ka=1) (.i (b.Ka=1) (.i (a.Ta.data.toList=b.Ta.data.toList) (.c [.rd,.rd] (Z7s a.Sa b.Sa) (.s (lb (decide (a.Sa=b.Sa))))) (.s (lb false))) (.y false (.s (lb false)))) (.y false (.y false (.s (lb false))))) (by
 dsimp only[Ykd,Zch]
 exact z0q)
abbrev Zci (L:List YC) (s:YS_):Ct:=⟨193,[],[Al L,Ykx s],[],.sv (li (fnd L s))⟩
def Z5h (L:List YC) (s:YS_):Lp Nat:=.mk 30 0 (λx=>[(3,.y 0),(7,Al L),(8,li (L.map Ykh).length),(9,hs x 0)]) (λx=>[.box (vals (Yki s))]) (λk=>[.s (li k)]) (λk=>k<=L.length/\L.length<=9223372036854775807/\(Ykt s\/k<=Yqh L s)) (λk=>L.length - k) [.mk (fnd L s=(-1:Int)) (.exit 0) (λx=>[]) (λx=>[]) [],.mk True .ret (λx=>[(4,hs x 0)]) (λx=>[]) [.s (li (fnd L s))]]
theorem Zgd (L:List YC) (s:YS_):Lp.Sem prog (Yks f193 0) (Z5h L s):=Yl0 (λk=>let v1:Tq _ _:=.r ((k:Int)+1) (.g [0] (k+1) [.s (li ((k:Int)+1))]);let v2:=L.g k;.i ((k:Int)<(L.map Ykh).length) (.x (k:Int) (L.map Ykh) (Ylc v2) (.c [.rd,.rd] (Zfw v2.name s) (.b (decide (v2.name.Ta=s.Ta)&&decide (v2.name.Sa=s.Sa)) (.c [.rd] (Z3g s) (.b (!Ykt s) (.c [.rd] (Zbq v2.name) (.b (decide (v2.name.Ka=1)&&Ykk v2.name) (.o 1 [] [.s (li k)]) v1)) (.y false v1))) (.y false (.y false v1))))) (.o 0 [] [])) (by
 intro k h;try dsimp only[Ykd,Yko,Z5h]at h|-
 have g1:=@Y1je L s k
 have g2:=@Y19o L s k
 have g3:=Y1h6 L s
 with_reducible repeat' (first|apply ah|exact zR|(intro))
 all_goals ((try simp only[std,inj]at *);with_reducible and_intros)
 all_goals try first|exact z|grind[fnd,Ypa,Yp6,Ykl,Ykm,Ykf])
theorem Zbv (L:List YC) (s:YS_):Zci L s:=Ykr call193 func193 (.z Ykh L (.l (Z5h L s) (Zgd L s) [0] [.s (li 0)] 0 (.t (.s (li (-1:Int))) (.t (.s (li (fnd L s))) .q)))) (by
 dsimp only[Ykd,Zci,Yko,Z5h]
 exact zV)
abbrev Zcj (L:List YC) (s:YS_):Ct:=⟨180,[],[Al L,Ykx s],[],.sv (li (if s.Ka=1 then fnd L s else -1))⟩
def Z5i (L:List YC) (s:YS_):Lp Nat:=.mk 32 0 (λx=>[(3,.y 0),(14,Al L),(15,li (L.map Ykh).length),(16,hs x 0)]) (λx=>[.box (vals (Yki s))]) (λk=>[.s (li k)]) (λk=>k<=L.length/\L.length<=9223372036854775807/\k<=Yqh L s/\s.Ka=1/\Ykt s=false) (λk=>L.length - k) [.mk (fnd L s=(-1:Int)) (.exit 0) (λx=>[]) (λx=>[]) [],.mk True .ret (λx=>[(4,hs x 0)]) (λx=>[]) [.s (li (fnd L s))]]
theorem Zge (L:List YC) (s:YS_):Lp.Sem prog (Yks f180 0) (Z5i L s):=Yl0 (λk=>let v1:=L.g k;let v2:Tq _ _:=.r ((k:Int)+1) (.g [0] (k+1) [.s (li ((k:Int)+1))]);.i ((k:Int)<(L.map Ykh).length) (.x (k:Int) (L.map Ykh) (Ylc v1) (.c [.rd] (Ze v1.name) (.b (decide (v1.name.Ka=1)&&Ykk v1.name) (.c [.rd,.rd] (Zbu v1.name s) (.b (decide (v1.name.Ka=1)&&decide (s.Ka=1)&&decide (v1.name.Ta=s.Ta)&&decide (v1.name.Sa=s.Sa)) (.o 1 [] [.s (li k)]) v2)) (.y false v2)))) (.o 0 [] [])) (by
 intro k h;try dsimp only[Ykd,Yko,Z5i]at h|-
 have g1:=@Y1je L s k
 have g2:=@Y19o L s k
 have g3:=Y1h6 L s
 with_reducible repeat' (first|apply ah|exact zR|(intro)|apply Ze)
 all_goals ((try simp only[std,inj]at *);with_reducible and_intros)
 all_goals try with_reducible first|apply Ze
 all_goals try first|exact z|grind[fnd,Ypa,Yp6,Ykl,Ykm,Ykf])
theorem Z9s (L:List YC) (s:YS_):Zcj L s:=Ykr call180 func180 (.i (s.Ka≠1) (.y true (.s (li (-1:Int)))) (.c [.rd] (Z1 s) (.b (Ykt s) (.s (li (-1:Int))) (.z Ykh L (.l (Z5i L s) (Zge L s) [0] [.s (li 0)] 0 (.t (.s (li (-1:Int))) (.t (.s (li (fnd L s))) .q))))))) (by
 dsimp only[Ykd,Zcj,Yko,Z5i]
 with_reducible repeat' (first|apply ah|exact zR|(intro)|apply Ze)
 all_goals ((try simp only[std,inj]at *);with_reducible and_intros)
 all_goals try with_reducible first|apply Ze
 all_goals try first|exact z|grind[fnd,Ykl,Ykm,Ykf])
def Yuv (L:List YC) (s:YS_):Int:=(L.g (fnd L s).toNat).depth
mutual
/-- is there a name of a deeper capture? -/
def drv (L:List YC) (v:Int):YS_->Bool
 | ⟨k,n,t,s,l⟩=>if k=1 then decide (0<=fnd L ⟨k,n,t,s,l⟩)&&decide (v<Yuv L ⟨k,n,t,s,l⟩) else Y1cb L v l
def Y1cb (L:List YC) (v:Int):List YS_->Bool
 | []=>false
 | x :: r=>drv L v x||Y1cb L v r
end
theorem Y1h0 (L:List YC) (v:Int):∀ l,Y1cb L v l=l.any (drv L v)
 | []=>by simp[Y1cb]
 | x :: r=>by rw[Y1cb,Y1h0 L v r];rfl
theorem Y1o7 (L:List YC) (v:Int) (t:YS_):drv L v t=if t.Ka=1 then decide (0<=fnd L t)&&decide (v<Yuv L t) else t.Ia.any (drv L v):=by cases t;simp only[drv,Y1h0]
mutual
/-- the reference's test of a template -/
def fit (L:List YC):YS_->Int->Bool
 | ⟨k,n,t,s,l⟩,v=>if k=1 then !Ykt ⟨k,n,t,s,l⟩&&(decide (fnd L ⟨k,n,t,s,l⟩<0)||decide (Yuv L ⟨k,n,t,s,l⟩<=v)) else Yph L l v
def Yph (L:List YC):List YS_->Int->Bool
 | [],_=>true
 | [x],v=>fit L x v
 | x :: y :: r,v=>if Ykt y then !Ykt x&&drv L v x&&fit L x (v+1)&&Yph L r v else fit L x v&&Yph L (y :: r) v
end
theorem Y1dd (L:List YC) (t:YS_) (v:Int):fit L t v=if t.Ka=1 then !Ykt t&&(decide (fnd L t<0)||decide (Yuv L t<=v)) else Yph L t.Ia v:=by cases t;simp only[fit]
theorem Y1pb {L:List YC}{l:List YS_}{k:Nat}{v:Int}(h:k+1=l.length):Yph L (l.drop k) v=fit L (l.g k) v:=by
 rw[Ynk oW,bC oW,Yph]
theorem Y1k3 {L:List YC}{l:List YS_}{k:Nat}{v:Int}(h:k+1<l.length) (hd:Ykt (l.g (k+1))=false):Yph L (l.drop k) v=(fit L (l.g k) v&&Yph L (l.drop (k+1)) v):=by
 rw[Ynk (by omega:k<l.length),Ynk h,Yph,hd];rfl
theorem Y1mh {L:List YC}{l:List YS_}{k:Nat}{v:Int}(h:k+1<l.length) (hd:Ykt (l.g (k+1))):Yph L (l.drop k) v=(!Ykt (l.g k)&&drv L v (l.g k)&&fit L (l.g k) (v+1)&&Yph L (l.drop (k+1+1)) v):=by
 rw[Ynk (by omega:k<l.length),Ynk h,Yph,hd];rfl
theorem Y1ft {L:List YC}{l:List YS_}{k:Nat}{v:Int}(h:l.length<=k):Yph L (l.drop k) v:=by
 rw[bC h,Yph]
theorem Ypo {t:YS_}{k:Nat}(h:k<t.Ia.length):Yl5 (t.Ia.g k)+1<=Yl5 t:=by
 have:=Ysl Yl5 (Ykg h)
 rw[Ypk t];omega
abbrev Z3d (L:List YC) (t:YS_) (v:Int):Ct:=⟨203,[],[Al L,Ykx t,li v],[],.sv (lb (drv L v t))⟩
def Z4r (L:List YC) (t:YS_) (v:Int):Lp Nat:=.mk 39 0 (λx=>[(0,Al L),(2,li v),(28,Af t.Ia),(29,li (t.Ia.map Ykb).length),(30,hs x 0)]) (λx=>[]) (λk=>[.s (li k)]) (λk=>k<=t.Ia.length/\t.Ia.length<=9223372036854775807/\(t.Ia.take k).any (drv L v)=false) (λk=>t.Ia.length - k) [.mk (t.Ia.any (drv L v)=false) (.exit 0) (λx=>[]) (λx=>[]) [],.mk (t.Ia.any (drv L v)) .ret (λx=>[(6,hs x 0)]) (λx=>[]) [.s (lb true)]]
theorem Zf7 (L:List YC) (t:YS_) (v:Int) (ih:∀ (z:YS_),z∈t.Ia->∀ (L:List YC) (v:Int),OK (Z3d L z v)):Lp.Sem prog (Yks f203 0) (Z4r L t v):=Yl0 (λk=>let v1:=t.Ia.g k;.i ((k:Int)<(t.Ia.map Ykb).length) (.x (k:Int) (t.Ia.map Ykb) (Yki v1) (.d [.rd,.rd,.rd] (Z3d L v1 v) (.b (drv L v v1) (.o 1 [] [.s (lb true)]) (.r ((k:Int)+1) (.g [] (k+1) [.s (li ((k:Int)+1))]))))) (.o 0 [] [])) (by
 intro k h;try dsimp only[Ykd,Yko,Z4r]at h|-
 exact z0c)
theorem Ziw (L:List YC) (t:YS_) (v:Int) (ih:∀ z∈t.Ia,∀ (L:List YC) (v:Int),Z3d L z v):Z3d L t v:=Ykr call203 func203 (let v1:=L.g (fnd L t).toNat;.i (t.Ka=1) (.c [.rd,.rd] (Zbv L t) (.i (0<=fnd L t) (.x (fnd L t) (L.map Ykh) (Ylc v1) (.s (lb (decide (v<v1.depth))))) (.s (lb false)))) (.z Ykb t.Ia (.l (Z4r L t v) (Zf7 L t v ih) [] [.s (li 0)] 0 (.t (.s (lb false)) (.t (.s (lb true)) .q))))) (by
 dsimp only[Ykd,Z3d,Yko,Z4r]
 have g:=Yul L t
 with_reducible repeat' (first|apply ah|exact zR|exact ih|(intro))
 all_goals ((try simp only[std,inj]at *);with_reducible and_intros)
 all_goals try with_reducible first|apply ih
 all_goals try first|exact z|grind[Y1o7,Yuv,Ykl,Ykm,Ykf])
theorem Zk1 (t:YS_):∀ (L:List YC) (v:Int),Z3d L t v:=YS_.ind (P:=λt=>∀ (L:List YC) (v:Int),Z3d L t v) (λt ih L v=>Ziw L t v ih) t
abbrev Z1o (L:List YC) (t:YS_) (v:Int):Ct:=⟨195,[],[Al L,Ykx t,li v],[],.sv (lb (fit L t v))⟩
def Z4s (L:List YC) (t:YS_) (v:Int):Lp Nat:=.mk 79 0 (λx=>[(0,Al L),(2,li v),(4,.y 0),(8,hs x 0)]) (λx=>[.box (vals (Yki t))]) (λk=>[.s (li k)]) (λk=>t.Ia.length >= k/\Yph L t.Ia v=Yph L (t.Ia.drop k) v) (λk=>t.Ia.length - k) [.mk (Yph L t.Ia v) (.exit 0) (λx=>[]) (λx=>[]) [],.mk (Yph L t.Ia v=false) .ret (λx=>[(6,hs x 0)]) (λx=>[]) [.s (lb false)]]
theorem Zf8 (L:List YC) (t:YS_) (v:Int) (h:0<=v/\v+(↑(Yl5 t):Int)<=1000) (ih:∀ (z:YS_),z∈t.Ia->∀ (L:List YC) (v:Int),0<=v/\v+(↑(Yl5 z):Int)<=1000->OK (Z1o L z v)):Lp.Sem prog (Yks f195 0) (Z4s L t v):=Yl0 (λk=>let v1:=t.Ia.g k;let v2:=(k:Int)+1;let v3:=t.Ia.g (k+1);let v4:=((t.Ia.map Ykb).length:Int);let v5:Tq _ _:=.d [.rd,.rd,.rd] (Z1o L v1 v) (.b (!fit L v1 v) (.o 1 [] [.s (lb false)]) (.r v2 (.g [0] (k+1) [.s (li v2)])));.z Ykb t.Ia (.i ((k:Int)<v4) (.x (k:Int) (t.Ia.map Ykb) (Yki v1) (.r v2 (.z Ykb t.Ia (.i ((k:Int)+1<v4) (.r v2 (.x v2 (t.Ia.map Ykb) (Yki v3) (.c [.rd] (Z3g v3) (.b (Ykt v3) (.c [.rd] (Z3g v1) (.b (Ykt v1) (.y true (.o 1 [] [.s (lb false)])) (.c [.rd,.rd,.rd] (Zk1 v1 L v) (.b (!drv L v v1) (.o 1 [] [.s (lb false)]) (.r (v+1) (.r v2 (.d [.rd,.rd,.rd] (Z1o L v1 (v+1)) (.b (!fit L v1 (v+1)) (.o 1 [] [.s (lb false)]) (.r ((k:Int)+1+1) (.g [0] (k+1+1) [.s (li ((k:Int)+1+1))])))))))))) v5)))) (.y false v5))))) (.o 0 [] []))) (by
 intro k h;try dsimp only[Ykd,Yko,Z4s]at h|-
 have g1:=@Y1pb L t.Ia k v
 have g2:=@Y1k3 L t.Ia k v
 have g3:=@Y1mh L t.Ia k v
 have g4:=@Y1ft L t.Ia k v
 have g5:=@Ypo t k
 have g6:=@Y1ft L t.Ia (k+1) v
 exact z01)
theorem Zix (L:List YC) (t:YS_) (v:Int) (h:0<=v/\v+Yl5 t<=1000) (ih:∀ z∈t.Ia,∀ (L:List YC) (v:Int) (h:0<=v/\v+Yl5 z<=1000),Z1o L z v):Z1o L t v:=Ykr call195 func195 (let v1:=L.g (fnd L t).toNat;.i (t.Ka=1) (.c [.rd,.rd] (Zbv L t) (.c [.rd] (Z3g t) (.b (!Ykt t) (.i (fnd L t<0) (.s (lb true)) (.x (fnd L t) (L.map Ykh) (Ylc v1) (.s (lb (decide (v1.depth<=v)))))) (.s (lb false))))) (.l (Z4s L t v) (Zf8 L t v h ih) [0] [.s (li 0)] 0 (.t (.s (lb true)) (.t (.s (lb false)) .q)))) (by
 dsimp only[Ykd,Z1o,Yko,Z4s]
 have g:=Yul L t
 with_reducible repeat' (first|apply ah|exact zR|exact ih|(intro))
 all_goals ((try simp only[std,inj]at *);with_reducible and_intros)
 all_goals try with_reducible first|apply ih
 all_goals try first|exact z|grind[Y1dd,Yuv,Ykl,Ykm,Ykf])
theorem Zb1 (t:YS_):∀ (L:List YC) (v:Int) (h:0<=v/\v+Yl5 t<=1000),Z1o L t v:=YS_.ind (P:=λt=>∀ (L:List YC) (v:Int) (h:0<=v/\v+Yl5 t<=1000),Z1o L t v) (λt ih L v h=>Zix L t v h ih) t
def tmF (L:List YC) (t:YS_):Bool:=L.all (λx=>Yp6 x.name&&decide (0<=x.depth))&&Ykk t&&fit L t 0
abbrev Zdx (L:List YC) (t:YS_):Ct:=⟨153,[],[Al L,Ykx t],[],.sv (lb (tmF L t))⟩
def Z6z (L:List YC) (t:YS_):Lp Nat:=let v1:=L.map Ykh;.mk 30 0 (λx=>[(0,ll v1),(3,.y 0),(7,ll v1),(8,li (L.map Ykh).length),(9,hs x 0)]) (λx=>[.box (vals (Yki t))]) (λk=>[.s (li k)]) (λk=>k<=L.length/\L.length<=9223372036854775807/\((L.take k).all λx=>Yp6 x.name&&decide (0<=x.depth))=true) (λk=>L.length - k) [.mk ((L.all λx=>Yp6 x.name&&decide (0<=x.depth))=true) (.exit 0) (λx=>[(0,ll v1),(3,.y 0)]) (λx=>[.box (vals (Yki t))]) [],.mk ((L.all λx=>Yp6 x.name&&decide (0<=x.depth))=false) .ret (λx=>[(4,hs x 0)]) (λx=>[]) [.s (lb false)]]
theorem Zhg (L:List YC) (t:YS_):Lp.Sem prog (Yks f153 0) (Z6z L t):=Yl0 (λk=>let v1:=L.g k;.i ((k:Int)<(L.map Ykh).length) (.x (k:Int) (L.map Ykh) (Ylc v1) (.c [.rd] (Zbq v1.name) (.b (!(decide (v1.name.Ka=1)&&Ykk v1.name)) (.y true (.o 1 [] [.s (lb false)])) (.i (v1.depth<0) (.o 1 [] [.s (lb false)]) (.r ((k:Int)+1) (.g [0] (k+1) [.s (li ((k:Int)+1))])))))) (.o 0 [0] [])) (by
 intro k h;try dsimp only[Ykd,Yko,Z6z]at h|-
 exact z0r)
theorem Zk2 (L:List YC) (t:YS_):Zdx L t:=Ykr call153 func153 (.z Ykh L (.l (Z6z L t) (Zhg L t) [0] [.s (li 0)] 0 (.t (.c [.rd] (Z7r t) (.b (Ykk t) (.d [.rd,.rd,.rd] (Z1o L t 0) (.s (lb (fit L t 0)))) (.s (lb false)))) (.t (.s (lb false)) .q)))) (by
 dsimp only[Ykd,Zdx,Yko,Z6z]
 with_reducible repeat' (first|apply ah|exact zR|(intro)|apply Zb1)
 all_goals ((try simp only[std,inj]at *);with_reducible and_intros)
 all_goals try with_reducible first|apply Zb1
 all_goals try first|exact z|grind[tmF,Ykk,Ykl,Ykm,Ykf])
mutual
def Yqg:YS_->Bool
 | ⟨k,n,t,s,l⟩ => !Ykt ⟨k,n,t,s,l⟩&&Yly true l
def Yly:Bool->List YS_->Bool
 | _,[]=>true
 | b,x :: r=>if Ykt x then !b&&Yly true r else Yqg x&&Yly false r
end
theorem Y199 (t:YS_):Yqg t=(!Ykt t&&Yly true t.Ia):=by cases t;simp only[Yqg]
def Yvt (l:List YS_) (k:Nat):Bool:=decide (k=0)||Ykt (l.g (k - 1))
theorem Y1k1 {l:List YS_}{b:Bool}{k:Nat}(h:k<l.length):Yly b (l.drop k)=if Ykt (l.g k) then !b&&Yly true (l.drop (k+1)) else Yqg (l.g k)&&Yly false (l.drop (k+1)):=by
 rw[Ynk h,Yly]
theorem Y1nm {l:List YS_}{b:Bool}{k:Nat}(h:l.length<=k):Yly b (l.drop k):=by
 rw[bC h,Yly]
abbrev Zu (t:YS_):Ct:=⟨142,[],[Ykx t],[],.sv (lb (Yqg t))⟩
def Z1w (t:YS_):Lp Nat:=.mk 32 0 (λx=>[(1,.y 0),(8,Af t.Ia),(9,li (t.Ia.map Ykb).length),(10,hs x 0)]) (λx=>[.box (vals (Yki t))]) (λk=>[.s (li k)]) (λk=>k<=t.Ia.length/\t.Ia.length<=9223372036854775807/\Yly true t.Ia=Yly (Yvt t.Ia k) (t.Ia.drop k)) (λk=>t.Ia.length - k) [.mk (Yly true t.Ia) (.exit 0) (λx=>[]) (λx=>[]) [],.mk (Yly true t.Ia=false) .ret (λx=>[(2,hs x 0)]) (λx=>[]) [.s (lb false)]]
theorem Zb2 (t:YS_) (ih:∀ (z:YS_),z∈t.Ia->OK (Zu z)):Lp.Sem prog (Yks f142 0) (Z1w t):=Yl0 (λk=>let v1:=t.Ia.g ((k:Int) - 1).toNat;let v2:=t.Ia.g k;let v3:Tq _ _:=.r ((k:Int)+1) (.g [0] (k+1) [.s (li ((k:Int)+1))]);.i ((k:Int)<(t.Ia.map Ykb).length) (.x (k:Int) (t.Ia.map Ykb) (Yki v2) (.c [.rd] (Z1 v2) (.b (Ykt v2) (.i ((k:Int)=0) (.y true (.o 1 [] [.s (lb false)])) (.r ((k:Int) - 1) (.x ((k:Int) - 1) (t.Ia.map Ykb) (Yki v1) (.c [.rd] (Z1 v1) (.b (Ykt v1) (.o 1 [] [.s (lb false)]) v3))))) (.d [.rd] (Zu v2) (.b (!Yqg v2) (.o 1 [] [.s (lb false)]) v3))))) (.o 0 [] [])) (by
 intro k h;try dsimp only[Ykd,Yko,Z1w]at h|-
 have g1:=@Y1k1 t.Ia (Yvt t.Ia k) k
 have g2:=@Y1nm t.Ia (Yvt t.Ia k) k
 have e:((k:Int) - 1).toNat=k - 1:=by omega
 have g3:Yvt t.Ia k=(decide (k=0)||Ykt (t.Ia.g (k - 1))):=rfl
 have g4:Yvt t.Ia (k+1)=Ykt (t.Ia.g k):=by simp[Yvt]
 exact z01)
theorem Zdy (t:YS_) (ih:∀ z∈t.Ia,Zu z):Zu t:=Ykr call142 func142 (.c [.rd] (Z1 t) (.b (Ykt t) (.s (lb false)) (.z Ykb t.Ia (.l (Z1w t) (Zb2 t ih) [0] [.s (li 0)] 0 (.t (.s (lb true)) (.t (.s (lb false)) .q)))))) (by
 dsimp only[Ykd,Zu,Yko,Z1w]
 with_reducible repeat' (first|apply ah|exact zR|exact ih|(intro))
 all_goals ((try simp only[std,inj]at *);with_reducible and_intros)
 all_goals try with_reducible first|apply ih
 all_goals try first|exact z|grind[Y199,Yvt,Ykl,Ykm,Ykf])
theorem Zb3 (t:YS_):Zu t:=YS_.ind (P:=λt=>Zu t) (λt ih=>Zdy t ih) t
mutual
def dee (L:List YC):YS_->Int
 | ⟨k,n,t,s,l⟩=>Y1fg L l (if k=1/\0<=fnd L ⟨k,n,t,s,l⟩ then Yuv L ⟨k,n,t,s,l⟩ else -1)
def Y1fg (L:List YC):List YS_->Int->Int
 | [],b=>b
 | x :: r,b=>Y1fg L r (max b (dee L x))
end
theorem Y1h2 (L:List YC):∀ l b,Y1fg L l b=l.foldl (λb x=>max b (dee L x)) b
 | [],_=>by rw[Y1fg];rfl
 | x :: r,b=>by rw[Y1fg,Y1h2 L r];rfl
def Y10a (L:List YC) (t:YS_):Int:=if t.Ka=1/\0<=fnd L t then Yuv L t else -1
theorem Y1px (L:List YC) (t:YS_):dee L t=t.Ia.foldl (λb x=>max b (dee L x)) (Y10a L t):=by cases t;simp only[dee,Y1h2,Y10a]
abbrev Z1y (L:List YC) (t:YS_):Ct:=⟨181,[],[Al L,Ykx t],[],.sv (li (dee L t))⟩
def Z1z (L:List YC) (t:YS_):Lp Nat:=.mk 33 0 (λx=>[(0,Al L),(5,hs x 1),(20,Af t.Ia),(21,li (t.Ia.map Ykb).length),(22,hs x 0)]) (λx=>[]) (λk=>[.s (li k),.s (li (List.foldl (λb x=>max b (dee L x)) (Y10a L t) (t.Ia.take k)))]) (λk=>k<=t.Ia.length/\t.Ia.length<=9223372036854775807) (λk=>t.Ia.length - k) [.mk True (.exit 0) (λx=>[(5,hs x 0)]) (λx=>[]) [.s (li (dee L t))]]
theorem Z8x (L:List YC) (t:YS_) (ih:∀ (z:YS_),z∈t.Ia->∀ (L:List YC),OK (Z1y L z)):Lp.Sem prog (Yks f181 0) (Z1z L t):=Yl0 (λk=>let v1:=t.Ia.g k;.i ((k:Int)<(t.Ia.map Ykb).length) (.x (k:Int) (t.Ia.map Ykb) (Yki v1) (.d [.rd,.rd] (Z1y L v1) (.r ((k:Int)+1) (.g [] (k+1) [.s (li ((k:Int)+1)),.s (li (max (List.foldl (λb x=>max b (dee L x)) (Y10a L t) (t.Ia.take k)) (dee L v1)))])))) (.o 0 [] [.s (li (List.foldl (λb x=>max b (dee L x)) (Y10a L t) (t.Ia.take k)))])) (by
 intro k h;try dsimp only[Ykd,Yko,Z1z]at h|-
 with_reducible repeat' (first|apply ah|exact zR|exact ih|(intro)|apply ih)
 all_goals ((try simp only[std,inj]at *);with_reducible and_intros)
 all_goals try with_reducible first|apply ih
 all_goals try first|exact z|grind[Yrk,Ykg,Y1px,Ykl,Ykm,Ykf])
theorem Zhh (L:List YC) (t:YS_) (ih:∀ z∈t.Ia,∀ (L:List YC),Z1y L z):Z1y L t:=Ykr call181 func181 (let v1:=if t.Ka=1 then fnd L t else (-1:Int);.c [.rd,.rd] (Z9s L t) (.i (0<=if t.Ka=1 then fnd L t else (-1:Int)) (.x v1 (L.map Ykh) (Ylc (L.g v1.toNat)) (.z Ykb t.Ia (.l (Z1z L t) (Z8x L t ih) [] [.s (li 0),.s (li (L.g v1.toNat).depth)] 0 (.t (.s (li (dee L t))) .q)))) (.z Ykb t.Ia (.l (Z1z L t) (Z8x L t ih) [] [.s (li 0),.s (li (-1:Int))] 0 (.t (.s (li (dee L t))) .q))))) (by
 dsimp only[Ykd,Z1y,Yko,Z1z]
 have g:=Yul L t
 with_reducible repeat' (first|apply ah|exact zR|exact ih|(intro))
 all_goals ((try simp only[std,inj]at *);with_reducible and_intros)
 all_goals try with_reducible first|apply ih
 all_goals try first|exact z|grind[Y10a,Yuv,Ykl,Ykm,Ykf])
theorem Zjm (t:YS_):∀ (L:List YC),Z1y L t:=YS_.ind (P:=λt=>∀ (L:List YC),Z1y L t) (λt ih L=>Zhh L t ih) t
mutual
def Yr6 (L:List YC):YS_->Int->Bool
 | ⟨k,n,t,s,l⟩,v=>if k=1/\0<=fnd L ⟨k,n,t,s,l⟩ then decide (Yuv L ⟨k,n,t,s,l⟩<=v) else Yn3 L l v
def Yn3 (L:List YC):List YS_->Int->Bool
 | [],_=>true
 | [x],v=>if Ykt x then true else Yr6 L x v
 | x :: y :: r,v=>if Ykt x then Yn3 L (y :: r) v else if Ykt y then decide (v<dee L x)&&Yr6 L x (v+1)&&Yn3 L (y :: r) v else Yr6 L x v&&Yn3 L (y :: r) v
end
theorem Y1iu (L:List YC) (t:YS_) (v:Int):Yr6 L t v=if t.Ka=1/\0<=fnd L t then decide (Yuv L t<=v) else Yn3 L t.Ia v:=by cases t;simp only[Yr6]
theorem Y1lj {L:List YC}{l:List YS_}{k:Nat}{v:Int}(h:k+1=l.length):Yn3 L (l.drop k) v=if Ykt (l.g k) then true else Yr6 L (l.g k) v:=by
 rw[Ynk oW,bC oW,Yn3]
theorem Y1l7 {L:List YC}{l:List YS_}{k:Nat}{v:Int}(h:k+1<l.length):Yn3 L (l.drop k) v=if Ykt (l.g k) then Yn3 L (l.drop (k+1)) v else
  if Ykt (l.g (k+1)) then decide (v<dee L (l.g k))&&Yr6 L (l.g k) (v+1)&&Yn3 L (l.drop (k+1)) v else Yr6 L (l.g k) v&&Yn3 L (l.drop (k+1)) v:=by
 rw[Ynk (by omega:k<l.length),Ynk h,Yn3]
theorem Y1a7 {L:List YC}{l:List YS_}{k:Nat}{v:Int}(h:l.length<=k):Yn3 L (l.drop k) v:=by
 rw[bC h,Yn3]
abbrev Z10 (L:List YC) (t:YS_) (v:Int):Ct:=⟨143,[],[Al L,Ykx t,li v],[],.sv (lb (Yr6 L t v))⟩
def Z3u (L:List YC) (t:YS_) (v:Int):Lp Nat:=.mk 62 0 (λx=>[(0,Al L),(2,li v),(4,.y 0),(24,Af t.Ia),(25,li (t.Ia.map Ykb).length),(26,hs x 0)]) (λx=>[.box (vals (Yki t))]) (λk=>[.s (li k)]) (λk=>k<=t.Ia.length/\t.Ia.length<=9223372036854775807/\Yn3 L t.Ia v=Yn3 L (t.Ia.drop k) v) (λk=>t.Ia.length - k) [.mk (Yn3 L t.Ia v) (.exit 0) (λx=>[]) (λx=>[]) [],.mk (Yn3 L t.Ia v=false) .ret (λx=>[(6,hs x 0)]) (λx=>[]) [.s (lb false)]]
theorem Zdz (L:List YC) (t:YS_) (v:Int) (h:0<=v/\v+(↑(Yl5 t):Int)<=1000) (ih:∀ (z:YS_),z∈t.Ia->∀ (L:List YC) (v:Int),0<=v/\v+(↑(Yl5 z):Int)<=1000->OK (Z10 L z v)):Lp.Sem prog (Yks f143 0) (Z3u L t v):=Yl0 (λk=>let v1:=t.Ia.g k;let v6:=(k:Int)+1;let v2:Tq _ _:=.r v6 (.g [0] (k+1) [.s (li v6)]);let v3:=t.Ia.g (k+1);let v4:=((t.Ia.map Ykb).length:Int);let v5:Tq _ _:=.d [.rd,.rd,.rd] (Z10 L v1 v) (.b (!Yr6 L v1 v) (.o 1 [] [.s (lb false)]) v2);.i ((k:Int)<v4) (.x (k:Int) (t.Ia.map Ykb) (Yki v1) (.c [.rd] (Z1 v1) (.b (Ykt v1) v2 (.r v6 (.z Ykb t.Ia (.i ((k:Int)+1<v4) (.r v6 (.x v6 (t.Ia.map Ykb) (Yki v3) (.c [.rd] (Z1 v3) (.b (Ykt v3) (.c [.rd,.rd] (Zjm v1 L) (.i (dee L v1<=v) (.o 1 [] [.s (lb false)]) (.r (v+1) (.d [.rd,.rd,.rd] (Z10 L v1 (v+1)) (.b (!Yr6 L v1 (v+1)) (.o 1 [] [.s (lb false)]) v2))))) v5)))) (.y false v5))))))) (.o 0 [] [])) (by
 intro k h;try dsimp only[Ykd,Yko,Z3u]at h|-
 have g1:=@Y1lj L t.Ia k v
 have g2:=@Y1l7 L t.Ia k v
 have g3:=@Y1a7 L t.Ia (k+1) v
 have g4:=@Y1a7 L t.Ia k v
 have g5:=@Ypo t k
 exact z01)
theorem Zhi (L:List YC) (t:YS_) (v:Int) (h:0<=v/\v+Yl5 t<=1000) (ih:∀ z∈t.Ia,∀ (L:List YC) (v:Int) (h:0<=v/\v+Yl5 z<=1000),Z10 L z v):Z10 L t v:=Ykr call143 func143 (let v1:=if t.Ka=1 then fnd L t else (-1:Int);.c [.rd,.rd] (Z9s L t) (.i (0<=if t.Ka=1 then fnd L t else (-1:Int)) (.x v1 (L.map Ykh) (Ylc (L.g v1.toNat)) (.s (lb (decide ((L.g v1.toNat).depth<=v))))) (.z Ykb t.Ia (.l (Z3u L t v) (Zdz L t v h ih) [0] [.s (li 0)] 0 (.t (.s (lb true)) (.t (.s (lb false)) .q)))))) (by
 dsimp only[Ykd,Z10,Yko,Z3u]
 have g:=Yul L t
 with_reducible repeat' (first|apply ah|exact zR|exact ih|(intro))
 all_goals ((try simp only[std,inj]at *);with_reducible and_intros)
 all_goals try with_reducible first|apply ih
 all_goals try first|exact z|grind[Y1iu,Yuv,Ykl,Ykm,Ykf])
theorem Z9t (t:YS_):∀ (L:List YC) (v:Int) (h:0<=v/\v+Yl5 t<=1000),Z10 L t v:=YS_.ind (P:=λt=>∀ (L:List YC) (v:Int) (h:0<=v/\v+Yl5 t<=1000),Z10 L t v) (λt ih L v h=>Zhi L t v h ih) t
theorem Y19r (f:YS_->Int) (v:Int):∀ (l:List YS_) (b:Int),v<l.foldl (λb x=>max b (f x)) b ↔ v<b\/∃ x∈l,v<f x
 | [],b=>by simp
 | x :: r,b=>by
  rw[bL,Y19r f v r]
  have e:v<max b (f x) ↔ v<b\/v<f x:=by omega
  simp only[aC,exists_eq_or_imp,e,or_assoc]
theorem Y18t {t:YS_}(h:okY t) (hk:t.Ka=1):t.Ia=[]:=by
 rw[Yow]at h
 simp only[Ypd,Yp4,af,aG,ak]at h
 have:t.Ia.length=0:=by omega
 exact List.length_eq_zero_iff.1 this
theorem Yns {t:YS_}(h:okY t):∀ x∈t.Ia,okY x:=by
 rw[Yow,af,am]at h;exact h.1
theorem Y1w6 (L:List YC) (v:Int) (hv:0<=v):∀ t:YS_,okY t->(drv L v t=decide (v<dee L t)):=by
 refine YS_.ind λt ih h => ?_
 rw[cm,ak,Y1o7,Y1px,Y19r]
 by_cases hk:t.Ka=1
 ·rw[ae hk,Y18t h hk]
  simp only[af,ak,cV,false_and,exists_false,or_false,Y10a,hk,true_and]
  split<;>omega
 ·rw[ab hk,cK]
  have:¬ v<Y10a L t:=by unfold Y10a;rw[ab oW];omega
  constructor
  ·rintro⟨x,hx,e⟩
   exact .inr ⟨x,hx,by have:=ih x hx (Yns h x hx);rw[e]at this;exact dC this.symm⟩
  ·rintro(e|⟨x,hx,e⟩)
   ·exact absurd e this
   ·exact⟨x,hx,by rw[ih x hx (Yns h x hx)];exact bM e⟩
theorem Y1ct {L:List YC}{x:YS_}{v:Int}(h:Ykt x):fit L x v=false:=by
 have hk:x.Ka=1:=by simp only[Ykt,af,ak]at h;exact h.1
 rw[Y1dd,ae hk,h];rfl
theorem Y1jz {x:YS_}{r:List YS_}{b:Bool}(h:Ykt x=false):Yly b (x :: r)=Yly true (x :: r):=by simp only[Yly,h];rfl
theorem Y14b (L:List YC):∀ (l:List YS_),(∀ x∈l,okY x/\∀ v,0<=v->fit L x v=(Yqg x&&Yr6 L x v))->∀ v,0<=v->Yph L l v=(Yly true l&&Yn3 L l v)
 | [],_,v,_=>by simp[Yph,Yly,Yn3]
 | [x],h,v,hv=>by
  rw[Yph,Yn3,Yly]
  have h1:=(h x aj).2 v hv
  by_cases e:Ykt x
  ·rw[ae e,ae e,Y1ct e];rfl
  ·rw[ab e,ab e,h1];simp[Yly]
 | x :: y :: r,h,v,hv=>by
  have hx:=h x aj
  have h1:=hx.2 v hv
  have h2:=hx.2 (v+1) oW
  have ihr:=Y14b L r (λz hz=>h z (ai _ (ai _ hz))) v hv
  have ihy:=Y14b L (y :: r) (λz hz=>h z (ai _ hz)) v hv
  have hd:=Y1w6 L v hv x hx.1
  rw[Yph,Yn3]
  by_cases ey:Ykt y
  ·rw[ae ey]
   by_cases ex:Ykt x
   ·rw[ex,Yly,ae ex];simp
   ·have ex':Ykt x=false:=by simpa using ex
    have hy:Yly false (y :: r)=Yly true r:=by rw[Yly,ae ey];rfl
    have hyt:Yn3 L (y :: r) v=Yn3 L r v:=by
     cases r with
     | nil=>simp only[Yn3,ae ey]
     | cons z r=>rw[Yn3,ae ey]
    rw[ab ex,ae ey,Yly,ab ex,hy,hyt,ihr,hd,h2,ex']
    cases Yqg x<;>cases Yly true r<;>cases decide (v<dee L x)<;>cases Yr6 L x (v+1)<;>cases Yn3 L r v<;>rfl
  ·have ey':Ykt y=false:=by simpa using ey
   rw[ab ey]
   by_cases ex:Ykt x
   ·rw[Y1ct ex,Yly,ae ex];simp
   ·rw[ab ex,ab ey,Yly,ab ex,Y1jz ey',ihy,h1]
    cases Yqg x<;>cases Yly true (y :: r)<;>cases Yr6 L x v<;>cases Yn3 L (y :: r) v<;>rfl
theorem Y1xg (L:List YC):∀ t:YS_,okY t->∀ v,0<=v->fit L t v=(Yqg t&&Yr6 L t v):=by
 refine YS_.ind λt ih h v hv => ?_
 rw[Y1dd,Y199,Y1iu]
 by_cases hk:t.Ka=1
 ·rw[ae hk,Y18t h hk]
  by_cases h0:0<=fnd L t
  ·rw[ae ⟨hk,h0⟩,bK (by omega:¬ fnd L t<0)];simp[Yly]
  ·rw[ab (λe=>h0 e.2),bM (by omega:fnd L t<0)];simp[Yly,Yn3]
 ·have hd:Ykt t=false:=by simp[Ykt,hk]
  rw[ab hk,ab (λe=>hk e.1),hd,Y14b L t.Ia (λx hx=>⟨Yns h x hx,λv hv=>ih x hx (Yns h x hx) v hv⟩) v hv]
  simp
theorem Y20q (L:List YC) (t:YS_):tmF L t=(L.all (λx=>Yp6 x.name&&decide (0<=x.depth))&&(Ykk t&&(Yqg t&&Yr6 L t 0))):=by
 unfold tmF
 by_cases h:Ykk t
 ·have h2:okY t:=by simp only[Ykk,af]at h;exact h.2
  rw[Y1xg L t h2 0 (aJ _),Bool.and_assoc]
 ·have:Ykk t=false:=by simpa using h
  rw[this];simp
abbrev Ze0 (L:List YC) (t:YS_):Ct:=⟨93,[],[Al L,Ykx t],[],.sv (lb (tmF L t))⟩
def Z70 (L:List YC) (t:YS_):Lp Nat:=let v1:=L.map Ykh;.mk 34 0 (λx=>[(0,ll v1),(3,.y 0),(7,ll v1),(8,li (L.map Ykh).length),(9,hs x 0)]) (λx=>[.box (vals (Yki t))]) (λk=>[.s (li k)]) (λk=>k<=L.length/\L.length<=9223372036854775807/\((L.take k).all λx=>Yp6 x.name&&decide (0<=x.depth))=true) (λk=>L.length - k) [.mk ((L.all λx=>Yp6 x.name&&decide (0<=x.depth))=true) (.exit 0) (λx=>[(0,ll v1),(3,.y 0)]) (λx=>[.box (vals (Yki t))]) [],.mk ((L.all λx=>Yp6 x.name&&decide (0<=x.depth))=false) .ret (λx=>[(4,hs x 0)]) (λx=>[]) [.s (lb false)]]
theorem Zhj (L:List YC) (t:YS_):Lp.Sem prog (Yks f93 0) (Z70 L t):=Yl0 (λk=>let v1:=L.g k;.i ((k:Int)<(L.map Ykh).length) (.x (k:Int) (L.map Ykh) (Ylc v1) (.c [.rd] (Ze v1.name) (.b (!(decide (v1.name.Ka=1)&&Ykk v1.name)) (.y true (.o 1 [] [.s (lb false)])) (.i (v1.depth<0) (.o 1 [] [.s (lb false)]) (.r ((k:Int)+1) (.g [0] (k+1) [.s (li ((k:Int)+1))])))))) (.o 0 [0] [])) (by
 intro k h;try dsimp only[Ykd,Yko,Z70]at h|-
 exact z0r)
theorem Zk3 (L:List YC) (t:YS_):Ze0 L t:=Ykr call93 func93 (.z Ykh L (.l (Z70 L t) (Zhj L t) [0] [.s (li 0)] 0 (.t (.c [.rd] (Z17 t) (.b (Ykk t) (.c [.rd] (Zb3 t) (.b (Yqg t) (.d [.rd,.rd,.rd] (Z10 L t 0) (.s (lb (Yr6 L t 0)))) (.s (lb false)))) (.y false (.s (lb false))))) (.t (.s (lb false)) .q)))) (by
 dsimp only[Ykd,Ze0,Yko,Z70]
 with_reducible repeat' (first|apply ah|exact zR|(intro)|apply Ze|apply Z9t)
 all_goals ((try simp only[std,inj]at *);with_reducible and_intros)
 all_goals try with_reducible first|apply Ze|apply Z9t
 all_goals try first|exact z|grind[Y20q,Ykk,Ykl,Ykm,Ykf])
end
section
theorem Y1uu {α:Type}[Inhabited α] {p:α->Bool}{L:List α}{k:Nat}(hk:k<L.length) (hb:k<=L.findIdx p) (h:p (L.g k)):L.findIdx p=k:=by
 have h1:L.g k=L[k]:=by simp[hk]
 rw[h1]at h
 rcases bH k (L.findIdx p) with h2|h2
 ·have:=List.not_of_lt_findIdx h2
  simp[h]at this
 ·omega
theorem Y1gz {α:Type}[Inhabited α] {p:α->Bool}{L:List α}{k:Nat}(hk:k<L.length) (hb:k<=L.findIdx p) (h:p (L.g k)=false):k+1<=L.findIdx p:=by
 have h1:L.g k=L[k]:=by simp[hk]
 rw[h1]at h
 rcases bH k (L.findIdx p) with h2|h2
 ·exact h2
 ·have e:L.findIdx p=k:=by omega
  have h3:=dk (p:=p) (xs:=L) (w:=by omega)
  simp only[e,h]at h3
  exact absurd h3 dW
abbrev Z57 (L:List Int):Ct:=⟨107,[],[Ag L],[.Aa L],.sv (.r 0)⟩
theorem Zf (L:List Int) (h:L.length<=2147483647):Z57 L:=Ykr call107 func107 (.w (.bool false) (.p (∀ (e0:List Cell),e0∈L.map Yke->∀ (c0:Cell),c0∈e0->∃ v0,c0=Cell.lit v0) (.p (∀ (x0:List Cell),x0∈L.map Yke->x0.length=1) (.p ((0+(L.map Yke).length) * 8<=140737488355328) (.f [1] [.Aa L] (.sv (.r 0))))))) (by
 dsimp only[Ykd,Z57]
 exact zV)
abbrev Z5 (L:List Int):Ct:=⟨66,[],[Ag L],[.Aa L],.sv (.r 0)⟩
theorem Z0 (L:List Int) (h:L.length<=2147483647):Z5 L:=Ykr call66 func66 (.w (.bool true) (.p (∀ (e0:List Cell),e0∈L.map Yke->∀ (c0:Cell),c0∈e0->∃ v0,c0=Cell.lit v0) (.p (∀ (x0:List Cell),x0∈L.map Yke->x0.length=1) (.p ((0+(L.map Yke).length) * 8<=140737488355328) (.f [0] [.Aa L] (.sv (.r 0))))))) (by
 dsimp only[Ykd,Z5]
 exact zV)
abbrev Z20 (s:YS_):Ct:=⟨51,[],[Ykx s,li 0,li 0],Yo8 s,.sv (Yo7 s 0)⟩
def Z4t (s:YS_):Lp Nat:=let v3:Cell:=.y;let v1:=[vI 0,vI 0,vS (mkS []),.val v3,.val v3];let v2:=[vI s.Ka,vI s.Na,vS s.Ta,.ref 2,.ref 3];.mk 62 0 (λx=>[(1,li 0),(2,li 0),(6,.y 0),(7,.y 1),(45,Af s.Ia),(46,li (s.Ia.map Ykb).length),(47,hs x 0)]) (λx=>[.box v1,.box v2,.Aa s.Sa,ho x 1]) (λk=>[.s (li k),.o (.Ae (s.Ia.take k))]) (λk=>k<=s.Ia.length/\s.Ia.length<=9223372036854775807) (λk=>s.Ia.length - k) [.mk True (.exit 1) (λx=>[(6,.y 0),(7,.y 1)]) (λx=>[.box v1,.box v2,.Aa s.Sa,ho x 0]) [.o (.Ae s.Ia)]]
theorem Zf9 (s:YS_) (h:wY s<=1000000000) (ih:∀ (z:YS_),z∈s.Ia->wY z<=1000000000->OK (Z20 z)):Lp.Sem prog (Yks f51 0) (Z4t s):=Yl0 (λk=>let v1:=s.Ia.g k;let v2:=(s.Ia.take k).map Ykb;.i ((k:Int)<(s.Ia.map Ykb).length) (.x (k:Int) (s.Ia.map Ykb) (Yki v1) (.w (.draw [(6,[9,10]),(7,[3,17]),(9,[1])]) (.d [.rd,.rd,.rd] (Z20 v1) (.p ((v2.length+1) * 80<=140737488355328) (.r ((k:Int)+1) (.g [0,1,2,18] (k+1) [.s (li ((k:Int)+1)),.o (.y 5 ((s.Ia.take k).map Ykb++[Yki v1]))])))))) (.o 0 [0,1,2,3] [.o (.y 5 v2)])) (by
 intro k h;try dsimp only[Ykd,Yko,Z4t]at h|-
 have g1:=Ylo s
 have g2:=@Yl3 _ wY s.Ia (s.Ia.g k)
 exact z05)
theorem Ziy (s:YS_) (h:wY s<=1000000000) (ih:∀ z∈s.Ia,∀ (h:wY z<=1000000000),Z20 z):Z20 s:=Ykr call51 func51 (let v1:Tq _ _:=.z Ykb s.Ia (.w (.g (.nilbox 18 4 true 5)) (.l (Z4t s) (Zf9 s h ih) [1,18,10,19] [.s (li 0),.o (.y 5 [])] 0 (.t (.f [2,3] [.Aa s.Sa,.Ae s.Ia] (.sv (.agg [vI s.Ka,vI s.Na,vS s.Ta,.ref 0,.ref 1]))) .q)));.w (.draw [(11,[18])]) (.d [.rd] (Z57 s.Sa) (.i (s.Ka=1) (.y false (.y false (.y false v1))) v1))) (by
 dsimp only[Ykd,Z20,Yko,Z4t]
 have g1:=Ylo s
 exact z0d)
theorem Zhk (s:YS_):∀ (h:wY s<=1000000000),Z20 s:=YS_.ind (P:=λs=>∀ (h:wY s<=1000000000),Z20 s) (λs ih h=>Ziy s h ih) s
abbrev Z2j (s:YS_):Ct:=⟨104,[],[Ykx s],Yo8 s,.sv (Yo7 s 0)⟩
theorem Zg (s:YS_) (h:wY s<=1000000000):Z2j s:=Ykr call104 func104 (.d [.rd,.rd,.rd] (Z20 s) (.f [2,3] [.Aa s.Sa,.Ae s.Ia] (.sv (.agg [vI s.Ka,vI s.Na,vS s.Ta,.ref 0,.ref 1])))) (by
 dsimp only[Ykd,Z2j]
 exact z00)
def fnA (f:FuncId):SV:=.one (.val (.lit (.func (.func f) #[] #[])))
abbrev Z21 (s:YS_):Ct:=⟨65,[],[Ykx s,fnA 66],Yo8 s,.sv (Yo7 s 0)⟩
def Z2p (s:YS_):Lp Nat:=let v3:Cell:=.y;let v1:=[vI 0,vI 0,vS (mkS []),.val v3,.val v3];let v2:=[vI s.Ka,vI s.Na,vS s.Ta,.ref 2,.ref 3];.mk 43 0 (λx=>[(1,.one (.val (.lit (.func (Fn.func 66) #[] #[])))),(4,.y 0),(5,.y 1),(27,Af s.Ia),(28,li (s.Ia.map Ykb).length),(29,hs x 0)]) (λx=>[.box v1,.box v2,.Aa s.Sa,ho x 1]) (λk=>[.s (li k),.o (.Ae (s.Ia.take k))]) (λk=>k<=s.Ia.length/\s.Ia.length<=9223372036854775807) (λk=>s.Ia.length - k) [.mk True (.exit 0) (λx=>[(4,.y 0),(5,.y 1)]) (λx=>[.box v1,.box v2,.Aa s.Sa,ho x 0]) [.o (.Ae s.Ia)]]
theorem Zab (s:YS_) (h:wY s<=1000000000) (ih:∀ (z:YS_),z∈s.Ia->wY z<=1000000000->OK (Z21 z)):Lp.Sem prog (Yks f65 0) (Z2p s):=Yl0 (λk=>let v1:=s.Ia.g k;let v2:=(s.Ia.take k).map Ykb;.i ((k:Int)<(s.Ia.map Ykb).length) (.x (k:Int) (s.Ia.map Ykb) (Yki v1) (.w (.draw [(5,[9,10]),(6,[3,17]),(8,[1])]) (.d [.rd,.rd] (Z21 v1) (.p ((v2.length+1) * 80<=140737488355328) (.r ((k:Int)+1) (.g [0,1,2,18] (k+1) [.s (li ((k:Int)+1)),.o (.y 5 ((s.Ia.take k).map Ykb++[Yki v1]))])))))) (.o 0 [0,1,2,3] [.o (.y 5 v2)])) (by
 intro k h;try dsimp only[Ykd,Yko,Z2p]at h|-
 have g1:=Ylo s
 have g2:=@Yl3 _ wY s.Ia (s.Ia.g k)
 exact z05)
theorem Ziz (s:YS_) (h:wY s<=1000000000) (ih:∀ z∈s.Ia,∀ (h:wY z<=1000000000),Z21 z):Z21 s:=Ykr call65 func65 (let v1:Tq _ _:=.t (.f [2,3] [.Aa s.Sa,.Ae s.Ia] (.sv (.agg [vI s.Ka,vI s.Na,vS s.Ta,.ref 0,.ref 1]))) .q;.w (.draw [(11,[18])]) (.d [.rd] (Z5 s.Sa) (.i (s.Ka=1) (.d [.rd] (Z5 s.Sa) (.z Ykb s.Ia (.w (.g (.nilbox 18 4 true 5)) (.l (Z2p s) (Zab s h ih) [1,18,19,20] [.s (li 0),.o (.y 5 [])] 0 v1)))) (.z Ykb s.Ia (.w (.g (.nilbox 18 4 true 5)) (.l (Z2p s) (Zab s h ih) [1,18,10,19] [.s (li 0),.o (.y 5 [])] 0 v1)))))) (by
 dsimp only[Ykd,Z21,Yko,Z2p]
 have g1:=Ylo s
 exact z0d)
theorem Zhl (s:YS_):∀ (h:wY s<=1000000000),Z21 s:=YS_.ind (P:=λs=>∀ (h:wY s<=1000000000),Z21 s) (λs ih h=>Ziz s h ih) s
abbrev Zp (s:YS_):Ct:=⟨26,[],[Ykx s],Yo8 s,.sv (Yo7 s 0)⟩
theorem Z2 (s:YS_) (h:wY s<=1000000000):Zp s:=Ykr call26 func26 (.d [.rd,.rd] (Z21 s) (.f [2,3] [.Aa s.Sa,.Ae s.Ia] (.sv (.agg [vI s.Ka,vI s.Na,vS s.Ta,.ref 0,.ref 1])))) (by
 dsimp only[Ykd,Zp]
 exact z00)
def Ymj (s:YS_):Bool:=decide (s.Ta.data.toList=[95])
def Ynx (x:YS_):Bool:=Yp6 x && !Ykt x && !Ymj x
def okL (L:List YS_):Bool:=L.all Ynx&&decide ((L.length:Int)<=8)
def Yn1 (L:List YS_) (s:YS_):Bool:=L.any λx=>decide (x.Ta=s.Ta)&&decide (x.Sa=s.Sa)
def Yoq (x s:YS_):Bool:=decide (x.Ka=1)&&decide (s.Ka=1)&&decide (x.Ta=s.Ta)&&decide (x.Sa=s.Sa)
def Yo0 (L:List YS_) (s:YS_):Bool:=L.any λx=>Yoq x s
theorem Y1op {α:Type}[Inhabited α] {L:List α}{p:α->Bool}{k:Nat}(h:k<L.length) (hp:p (L.g k)=false):L.all p=false:=by
 rw[bX];exact⟨_,Ykg h,by rw[hp];decide⟩
theorem Y186 (x:YS_):Ynx x=((decide (x.Ka=1)&&Ykk x) && !Ykt x && !decide (x.Ta.data.toList=[95])):=rfl
abbrev Zck (L:List YS_):Ct:=⟨148,[],[Af L],[],.sv (lb (okL L))⟩
def Z5j (L:List YS_):Lp Nat:=let v1:=L.map Ykb;.mk 27 0 (λx=>[(0,ll v1),(5,ll v1),(6,li (L.map Ykb).length),(7,hs x 0)]) (λx=>[]) (λk=>[.s (li k)]) (λk=>k<=L.length/\L.length<=9223372036854775807/\(L.take k).all Ynx) (λk=>L.length - k) [.mk (L.all Ynx) (.exit 0) (λx=>[(0,ll v1)]) (λx=>[]) [],.mk (L.all Ynx=false) .ret (λx=>[(2,hs x 0)]) (λx=>[]) [.s (lb false)]]
theorem Zgf (L:List YS_):Lp.Sem prog (Yks f148 0) (Z5j L):=Yl0 (λk=>let v1:=L.g k;.i ((k:Int)<(L.map Ykb).length) (.x (k:Int) (L.map Ykb) (Yki v1) (.c [.rd] (Zbq v1) (.b (!(decide (v1.Ka=1)&&Ykk v1)) (.y true (.y true (.o 1 [] [.s (lb false)]))) (.c [.rd] (Z3g v1) (.b (Ykt v1) (.y true (.o 1 [] [.s (lb false)])) (.i (v1.Ta.data.toList=[95]) (.o 1 [] [.s (lb false)]) (.r ((k:Int)+1) (.g [] (k+1) [.s (li ((k:Int)+1))])))))))) (.o 0 [] [])) (by
 intro k h;try dsimp only[Ykd,Yko,Z5j]at h|-
 have g1:=@Y1op _ _ L Ynx k
 have g2:=Y186 (L.g k)
 with_reducible repeat' (first|apply ah|exact zR|(intro))
 all_goals ((try simp only[std,inj]at *);with_reducible and_intros)
 all_goals try first|exact z|grind[Yku,Ykl,Ykm,Ykf])
theorem Zjn (L:List YS_):Zck L:=Ykr call148 func148 (.z Ykb L (.l (Z5j L) (Zgf L) [] [.s (li 0)] 0 (.t (.z Ykb L (.s (lb (decide (((L.map Ykb).length:Int)<=8))))) (.t (.s (lb false)) .q)))) (by
 dsimp only[Ykd,Zck,Yko,Z5j]
 with_reducible repeat' (first|apply ah|exact zR|(intro))
 all_goals ((try simp only[std,inj]at *);with_reducible and_intros)
 all_goals try first|exact z|grind[okL,Ykl,Ykm,Ykf])
abbrev Zcl (s:YS_):Ct:=⟨140,[],[Ykx s],[],.sv (lb (decide (s.Ka=1)&&Ymj s))⟩
theorem Z9u (s:YS_):Zcl s:=Ykr call140 func140 (.i (s.Ka=1) (.s (lb (decide (s.Ta.data.toList=[95])))) (.s (lb false))) (by
 dsimp only[Ykd,Zcl]
 with_reducible repeat' (first|apply ah|exact zR|(intro))
 all_goals ((try simp only[std,inj]at *);with_reducible and_intros)
 all_goals try first|exact z|grind[Ymj,Ykl,Ykm,Ykf])
abbrev Zcm (L:List YS_):Ct:=⟨89,[],[Af L],[],.sv (lb (okL L))⟩
def Z5k (L:List YS_):Lp Nat:=.mk 26 0 (λx=>[(8,Af L),(9,li (L.map Ykb).length),(10,hs x 0)]) (λx=>[]) (λk=>[.s (li k)]) (λk=>k<=L.length/\L.length<=9223372036854775807/\(L.take k).all Ynx) (λk=>L.length - k) [.mk (L.all Ynx) (.exit 0) (λx=>[]) (λx=>[]) [],.mk (L.all Ynx=false) .ret (λx=>[(2,hs x 0)]) (λx=>[]) [.s (lb false)]]
theorem Zgg (L:List YS_):Lp.Sem prog (Yks f89 0) (Z5k L):=Yl0 (λk=>let v1:=L.g k;.i ((k:Int)<(L.map Ykb).length) (.x (k:Int) (L.map Ykb) (Yki v1) (.c [.rd] (Ze v1) (.b (!(decide (v1.Ka=1)&&Ykk v1)) (.y true (.y true (.o 1 [] [.s (lb false)]))) (.c [.rd] (Z1 v1) (.b (Ykt v1) (.y true (.o 1 [] [.s (lb false)])) (.c [.rd] (Z9u v1) (.b (decide (v1.Ka=1)&&Ymj v1) (.o 1 [] [.s (lb false)]) (.r ((k:Int)+1) (.g [] (k+1) [.s (li ((k:Int)+1))]))))))))) (.o 0 [] [])) (by
 intro k h;try dsimp only[Ykd,Yko,Z5k]at h|-
 with_reducible repeat' (first|apply ah|exact zR|(intro)|apply Ze|apply Z1)
 all_goals ((try simp only[std,inj]at *);with_reducible and_intros)
 all_goals try with_reducible first|apply Ze|apply Z1
 all_goals try first|exact z|grind[Yku,Ynx,Yp6,Ykg,Ykl,Ykm,Ykf])
theorem Zfx (L:List YS_):Zcm L:=Ykr call89 func89 (.z Ykb L (.i (8<((L.map Ykb).length:Int)) (.s (lb false)) (.z Ykb L (.l (Z5k L) (Zgg L) [] [.s (li 0)] 0 (.t (.s (lb true)) (.t (.s (lb false)) .q)))))) (by
 dsimp only[Ykd,Zcm,Yko,Z5k]
 with_reducible repeat' (first|apply ah|exact zR|(intro)|apply Ze|apply Z1)
 all_goals ((try simp only[std,inj]at *);with_reducible and_intros)
 all_goals try with_reducible first|apply Ze|apply Z1
 all_goals try first|exact z|grind[okL,Ykl,Ykm,Ykf])
abbrev Zcn (L:List YS_) (s:YS_):Ct:=⟨192,[],[Af L,Ykx s],[],.sv (lb (Yn1 L s))⟩
def Z5l (L:List YS_) (s:YS_):Lp Nat:=.mk 17 0 (λx=>[(3,.y 0),(7,Af L),(8,li (L.map Ykb).length),(9,hs x 0)]) (λx=>[.box (vals (Yki s))]) (λk=>[.s (li k)]) (λk=>k<=L.length/\L.length<=9223372036854775807/\Yn1 (L.take k) s=false) (λk=>L.length - k) [.mk (Yn1 L s=false) (.exit 0) (λx=>[]) (λx=>[]) [],.mk (Yn1 L s) .ret (λx=>[(4,hs x 0)]) (λx=>[]) [.s (lb true)]]
theorem Zgh (L:List YS_) (s:YS_):Lp.Sem prog (Yks f192 0) (Z5l L s):=Yl0 (λk=>let v1:=L.g k;.i ((k:Int)<(L.map Ykb).length) (.x (k:Int) (L.map Ykb) (Yki v1) (.c [.rd,.rd] (Zfw v1 s) (.b (decide (v1.Ta=s.Ta)&&decide (v1.Sa=s.Sa)) (.o 1 [] [.s (lb true)]) (.r ((k:Int)+1) (.g [0] (k+1) [.s (li ((k:Int)+1))]))))) (.o 0 [] [])) (by
 intro k h;try dsimp only[Ykd,Yko,Z5l]at h|-
 with_reducible repeat' (first|apply ah|exact zR|(intro))
 all_goals ((try simp only[std,inj]at *);with_reducible and_intros)
 all_goals try first|exact z|grind[Yku,Yn1,Ykg,Ykl,Ykm,Ykf])
theorem Zjo (L:List YS_) (s:YS_):Zcn L s:=Ykr call192 func192 (.z Ykb L (.l (Z5l L s) (Zgh L s) [0] [.s (li 0)] 0 (.t (.s (lb false)) (.t (.s (lb true)) .q)))) (by
 dsimp only[Ykd,Zcn,Yko,Z5l]
 with_reducible repeat' (first|apply ah|exact zR|(intro))
 all_goals ((try simp only[std,inj]at *);with_reducible and_intros)
 all_goals try first|exact z|grind[Yn1,Ykl,Ykm,Ykf])
abbrev Zco (L:List YS_) (s:YS_):Ct:=⟨163,[],[Af L,Ykx s],[],.sv (lb (Yo0 L s))⟩
def Z5m (L:List YS_) (s:YS_):Lp Nat:=.mk 17 0 (λx=>[(3,.y 0),(7,Af L),(8,li (L.map Ykb).length),(9,hs x 0)]) (λx=>[.box (vals (Yki s))]) (λk=>[.s (li k)]) (λk=>k<=L.length/\L.length<=9223372036854775807/\Yo0 (L.take k) s=false) (λk=>L.length - k) [.mk (Yo0 L s=false) (.exit 0) (λx=>[]) (λx=>[]) [],.mk (Yo0 L s) .ret (λx=>[(4,hs x 0)]) (λx=>[]) [.s (lb true)]]
theorem Zgi (L:List YS_) (s:YS_):Lp.Sem prog (Yks f163 0) (Z5m L s):=Yl0 (λk=>let v1:=L.g k;.i ((k:Int)<(L.map Ykb).length) (.x (k:Int) (L.map Ykb) (Yki v1) (.c [.rd,.rd] (Zbu v1 s) (.b (decide (v1.Ka=1)&&decide (s.Ka=1)&&decide (v1.Ta=s.Ta)&&decide (v1.Sa=s.Sa)) (.o 1 [] [.s (lb true)]) (.r ((k:Int)+1) (.g [0] (k+1) [.s (li ((k:Int)+1))]))))) (.o 0 [] [])) (by
 intro k h;try dsimp only[Ykd,Yko,Z5m]at h|-
 with_reducible repeat' (first|apply ah|exact zR|(intro))
 all_goals ((try simp only[std,inj]at *);with_reducible and_intros)
 all_goals try first|exact z|grind[Yku,Yo0,Yoq,Ykg,Ykl,Ykm,Ykf])
theorem Zbw (L:List YS_) (s:YS_):Zco L s:=Ykr call163 func163 (.z Ykb L (.l (Z5m L s) (Zgi L s) [0] [.s (li 0)] 0 (.t (.s (lb false)) (.t (.s (lb true)) .q)))) (by
 dsimp only[Ykd,Zco,Yko,Z5m]
 with_reducible repeat' (first|apply ah|exact zR|(intro))
 all_goals ((try simp only[std,inj]at *);with_reducible and_intros)
 all_goals try first|exact z|grind[Yo0,Ykl,Ykm,Ykf])
def atF (l:List YS_):Nat->Int
 | 0 => -1
 | k+1=>if Ykt (l.g k) then (k:Int) else atF l k
def okA (l:List YS_):Nat->Bool
 | 0=>true
 | k+1=>okA l k&&(!Ykt (l.g k)||(decide (k≠0)&&decide (atF l k<0)))
def atS (l:List YS_):Int:=atF l l.length
def okS (l:List YS_):Bool:=okA l l.length
theorem Y1pc (l:List YS_):∀ (m k:Nat),k<=m->okA l m->okA l k
 | 0,k,h,_=>by
  obtain rfl:k=0:=by omega
  rfl
 | m+1,k,h,ht=>by
  by_cases e:k=m+1
  ·rw[e];exact ht
  ·refine Y1pc l m k oW ?_
   simp only[okA,af]at ht;exact ht.1
def atI (l:List YS_):Int:=if l.findIdx Ykt<l.length then (l.findIdx Ykt:Int) else -1
abbrev Zfy (l:List YS_):Ct:=⟨194,[],[Af l],[],.tup [li (if okS l then atS l else -1),lb (okS l)]⟩
def Z82 (l:List YS_):Lp Nat:=.mk 26 0 (λx=>[(4,hs x 1),(7,Af l),(8,li (l.map Ykb).length),(9,hs x 0)]) (λx=>[]) (λk=>[.s (li k),.s (li (atF l k))]) (λk=>k<=l.length/\l.length<=9223372036854775807/\okA l k) (λk=>l.length - k) [.mk (okS l) (.exit 0) (λx=>[(4,hs x 0)]) (λx=>[]) [.s (li (atS l))],.mk (okS l=false) .ret (λx=>[(2,hs x 0),(3,hs x 1)]) (λx=>[]) [.s (li (-1:Int)),.s (lb false)]]
theorem Zj0 (l:List YS_):Lp.Sem prog (Yks f194 0) (Z82 l):=Yl0 (λk=>let v1:=(k:Int)+1;let v2:=l.g k;.i ((k:Int)<(l.map Ykb).length) (.x (k:Int) (l.map Ykb) (Yki v2) (.c [.rd] (Z3g v2) (.b (!Ykt v2) (.r v1 (.g [] (k+1) [.s (li v1),.s (li (atF l k))])) (.i ((k:Int)=0) (.y true (.o 1 [] [.s (li (-1:Int)),.s (lb false)])) (.i (0<=atF l k) (.o 1 [] [.s (li (-1:Int)),.s (lb false)]) (.r v1 (.g [] (k+1) [.s (li v1),.s (li k)]))))))) (.o 0 [] [.s (li (atF l k))])) (by
 intro k h;try dsimp only[Ykd,Yko,Z82]at h|-
 have g1:=Y1pc l l.length (k+1)
 have g2:okA l (k+1)=(okA l k&&(!Ykt (l.g k)||(decide (k≠0)&&decide (atF l k<0)))):=rfl
 have g3:atF l (k+1)=if Ykt (l.g k) then (k:Int) else atF l k:=rfl
 with_reducible repeat' (first|apply ah|exact zR|(intro))
 all_goals ((try simp only[std,inj]at *);with_reducible and_intros)
 all_goals try first|exact z|grind[okS,atS,Ykl,Ykm,Ykf])
theorem Zka (l:List YS_):Zfy l:=Ykr call194 func194 (.z Ykb l (.l (Z82 l) (Zj0 l) [] [.s (li 0),.s (li (-1:Int))] 0 (.t (.f [] [] (.tup [li (atS l),lb true])) (.t (.f [] [] (.tup [li (-1:Int),lb false])) .q)))) (by
 dsimp only[Ykd,Zfy,Yko,Z82]
 with_reducible repeat' (first|apply ah|exact zR|(intro))
 all_goals ((try simp only[std,inj]at *);with_reducible and_intros)
 all_goals try first|exact z|grind[okA,atF,Ykl,Ykm,Ykf])
abbrev Zfz (l:List YS_):Ct:=⟨165,[],[Af l],[],.sv (li (atI l))⟩
def Z83 (l:List YS_):Lp Nat:=.mk 16 0 (λx=>[(5,Af l),(6,li (l.map Ykb).length),(7,hs x 0)]) (λx=>[]) (λk=>[.s (li k)]) (λk=>k<=l.length/\l.length<=9223372036854775807/\k<=List.findIdx Ykt l) (λk=>l.length - k) [.mk (atI l=(-1:Int)) (.exit 0) (λx=>[]) (λx=>[]) [],.mk True .ret (λx=>[(2,hs x 0)]) (λx=>[]) [.s (li (atI l))]]
theorem Zj1 (l:List YS_):Lp.Sem prog (Yks f165 0) (Z83 l):=Yl0 (λk=>let v1:=l.g k;.i ((k:Int)<(l.map Ykb).length) (.x (k:Int) (l.map Ykb) (Yki v1) (.c [.rd] (Z1 v1) (.b (Ykt v1) (.o 1 [] [.s (li k)]) (.r ((k:Int)+1) (.g [] (k+1) [.s (li ((k:Int)+1))]))))) (.o 0 [] [])) (by
 intro k h;try dsimp only[Ykd,Yko,Z83]at h|-
 have g1:=@Y1uu _ _ Ykt l k
 have g2:=@Y1gz _ _ Ykt l k
 with_reducible repeat' (first|apply ah|exact zR|(intro)|apply Z1)
 all_goals ((try simp only[std,inj]at *);with_reducible and_intros)
 all_goals try with_reducible first|apply Z1
 all_goals try first|exact z|grind[atI,Ykl,Ykm,Ykf])
theorem Zdk (l:List YS_):Zfz l:=Ykr call165 func165 (.z Ykb l (.l (Z83 l) (Zj1 l) [] [.s (li 0)] 0 (.t (.s (li (-1:Int))) (.t (.s (li (atI l))) .q)))) (by
 dsimp only[Ykd,Zfz,Yko,Z83]
 exact z00)
def wlk (f:YS_->Int->List YC->Option (List YC)):List YS_->Int->Int->Int->List YC->Option (List YC)
 | [],_,_,_,o=>some o
 | x :: r,i,a,d,o=>if i=a then wlk f r (i+1) a d o else match f x (if i+1=a then d+1 else d) o with
  | none=>none
  | some o'=>wlk f r (i+1) a d o'
theorem Yv6 (f:YS_->Int->List YC->Option (List YC)):∀ (A B:List YS_) (i a d:Int) (o:List YC),wlk f (A++B) i a d o=match wlk f A i a d o with
  | none=>none
  | some o'=>wlk f B (i+(A.length:Int)) a d o'
 | [],B,i,a,d,o=>by simp[wlk]
 | x :: A,B,i,a,d,o=>by
  have e:i+((x :: A).length:Int)=i+1+(A.length:Int):=by simp only[aE];omega
  simp only[bF,wlk,e]
  split
  ·exact Yv6 f A B _ a d o
  ·split
   ·rfl
   ·exact Yv6 f A B _ a d _
theorem Y10e {f:YS_->Int->List YC->Option (List YC)}{l:List YS_}{k:Nat}{a d:Int}{o o':List YC}(h:k<l.length) (e:wlk f (l.take k) 0 a d o=some o') :
  wlk f (l.take (k+1)) 0 a d o=if (k:Int)=a then some o' else f (l.g k) (if (k:Int)+1=a then d+1 else d) o':=by
 rw[Yku h,Yv6,e]
 have:(0:Int)+((l.take k).length:Int)=(k:Int):=by simp;omega
 simp only[this,wlk]
 split
 ·rfl
 ·cases f (l.g k) (if (k:Int)+1=a then d+1 else d) o'<;>rfl
theorem Y1e4 {f:YS_->Int->List YC->Option (List YC)}{l:List YS_}{k:Nat}{a d:Int}{o:List YC}(e:wlk f (l.take k) 0 a d o=none):wlk f l 0 a d o=none:=by
 have:=Yv6 f (l.take k) (l.drop k) 0 a d o
 rw[bf,e]at this;exact this
def Yte (p:YS_) (d:Int):YC:=⟨p,d,⟨0,0,mkS [],[],[]⟩,[]⟩
mutual
def vrS (Ls:List YS_):YS_->Int->List YC->Option (List YC)
 | ⟨k,n,t,s,l⟩,d,o=>if k=1 then (if Ymj ⟨k,n,t,s,l⟩=true\/Yn1 Ls ⟨k,n,t,s,l⟩=true then some o else
   if Ykt ⟨k,n,t,s,l⟩=true\/0<=fnd o ⟨k,n,t,s,l⟩\/3<d then none else some (o++[Yte ⟨k,n,t,s,l⟩ d]))
  else if okS l then Y185 Ls l 0 (atS l) d o else none
def Y185 (Ls:List YS_):List YS_->Int->Int->Int->List YC->Option (List YC)
 | [],_,_,_,o=>some o
 | x :: r,i,a,d,o=>if i=a then Y185 Ls r (i+1) a d o else match vrS Ls x (if i+1=a then d+1 else d) o with
  | none=>none
  | some o'=>Y185 Ls r (i+1) a d o'
end
theorem Y1j7 (Ls:List YS_):∀ l i a d o,Y185 Ls l i a d o=wlk (vrS Ls) l i a d o
 | [],i,a,d,o=>by simp[Y185,wlk]
 | x :: r,i,a,d,o=>by
  simp only[Y185,wlk,Y1j7 Ls r]
theorem Yqs (Ls:List YS_) (p:YS_) (d:Int) (o:List YC):vrS Ls p d o=if p.Ka=1 then (if Ymj p\/Yn1 Ls p then some o else if Ykt p\/0<=fnd o p\/3<d then none else some (o++[Yte p d]))
  else if okS p.Ia then wlk (vrS Ls) p.Ia 0 (atS p.Ia) d o else none:=by cases p;simp only[vrS,Y1j7]
theorem Yy4 (f:YS_->Int->List YC->Option (List YC)):∀ (l:List YS_),(∀ x∈l,∀ d o o',f x d o=some o'->o'.length<=o.length+Ykp x)->∀ i a d o o',wlk f l i a d o=some o'->o'.length<=o.length+sumBy Ykp l
 | [],_,i,a,d,o,o',e=>by simp only[wlk,aa]at e;subst e;simp[sumBy]
 | x :: r,h,i,a,d,o,o',e=>by
  have ih:=Yy4 f r λy hy=>h y (ai _ hy)
  simp only[wlk]at e
  simp only[sumBy]
  split at e
  ·have:=ih _ _ _ _ _ e;omega
  ·split at e
   ·cases e
   ·rename_i o1 h1
    have h2:=ih _ _ _ _ _ e
    have h3:=h x aj _ _ _ h1
    omega
theorem Y1v8 (Ls:List YS_):∀ (p:YS_) (d:Int) (o o':List YC),vrS Ls p d o=some o'->o'.length<=o.length+Ykp p:=by
 refine YS_.ind λp ih d o o' e => ?_
 rw[Yqs]at e
 rw[Yli]
 split at e
 ·split at e
  ·simp only[aa]at e;subst e;omega
  ·split at e
   ·cases e
   ·simp only[aa]at e;subst e;simp
 ·split at e
  ·have:=Yy4 (vrS Ls) p.Ia (λx hx d o o' h=>ih x hx d o o' h) _ _ _ _ _ e;omega
  ·cases e
def vaS (Ls:List YS_) (p:YS_) (d:Int) (o:List YC) (k:Nat):List YC:=if okS p.Ia then (wlk (vrS Ls) (p.Ia.take k) 0 (atS p.Ia) d o).getD [] else o
def vbS (Ls:List YS_) (p:YS_) (d:Int) (o:List YC) (k:Nat):Bool:=okS p.Ia&&(wlk (vrS Ls) (p.Ia.take k) 0 (atS p.Ia) d o).isSome
theorem Y1xr {Ls:List YS_}{p:YS_}{d:Int}{o:List YC}{k:Nat}(hk:k<=p.Ia.length) (h:vbS Ls p d o k=false):vaS Ls p d o k=vaS Ls p d o p.Ia.length/\vbS Ls p d o p.Ia.length=false:=by
 unfold vaS vbS at *
 by_cases e:okS p.Ia
 ·rw[e]at h
  cases e2:wlk (vrS Ls) (p.Ia.take k) 0 (atS p.Ia) d o with
  | none=>rw[ae e,ae e,b9,Y1e4 e2];simp
  | some v=>rw[e2]at h;cases h
 ·have e':okS p.Ia=false:=by simpa using e
  rw[ab e,ab e,e'];simp
theorem Y1wx {Ls:List YS_}{p:YS_}{d:Int}{o:List YC}{k:Nat}(hk:k<p.Ia.length) (h:vbS Ls p d o k) (e:(k:Int)=atS p.Ia):vaS Ls p d o (k+1)=vaS Ls p d o k/\vbS Ls p d o (k+1):=by
 unfold vaS vbS at *
 simp only[af]at h
 obtain⟨v,hv⟩:=Option.isSome_iff_exists.1 h.2
 rw[ae h.1,ae h.1,Y10e hk hv,ae e,hv,h.1];simp
theorem Y230 {Ls:List YS_}{p:YS_}{d:Int}{o:List YC}{k:Nat}(hk:k<p.Ia.length) (h:vbS Ls p d o k) (e:¬ (k:Int)=atS p.Ia) :
  vaS Ls p d o (k+1)=(vrS Ls (p.Ia.g k) (if (k:Int)+1=atS p.Ia then d+1 else d) (vaS Ls p d o k)).getD []/\vbS Ls p d o (k+1)=(vrS Ls (p.Ia.g k) (if (k:Int)+1=atS p.Ia then d+1 else d) (vaS Ls p d o k)).isSome:=by
 unfold vaS vbS at *
 simp only[af]at h
 obtain⟨v,hv⟩:=Option.isSome_iff_exists.1 h.2
 rw[ae h.1,ae h.1,Y10e hk hv,ab e,hv,h.1];simp
theorem Y21m {Ls:List YS_}{p:YS_}{d:Int}{o:List YC}{k:Nat}(h:vbS Ls p d o k):(vaS Ls p d o k).length<=o.length+sumBy Ykp (p.Ia.take k):=by
 unfold vaS vbS at *
 simp only[af]at h
 obtain⟨v,hv⟩:=Option.isSome_iff_exists.1 h.2
 rw[ae h.1,hv]
 exact Yy4 (vrS Ls) _ (λx _ d o o' h=>Y1v8 Ls x d o o' h) _ _ _ _ _ hv
theorem Y21v {Ls:List YS_}{p:YS_}{d:Int}{o:List YC}{k:Nat}(h:vbS Ls p d o k):okS p.Ia:=by
 unfold vbS at h;simp only[af]at h;exact h.1
theorem Y1zu (Ls:List YS_) (p:YS_) (d:Int) (o:List YC) (hk:¬ p.Ka=1):(vrS Ls p d o).isSome=vbS Ls p d o p.Ia.length/\(vbS Ls p d o p.Ia.length->(vrS Ls p d o).getD []=vaS Ls p d o p.Ia.length)/\(vbS Ls p d o p.Ia.length=false->(vrS Ls p d o).getD []=[]):=by
 rw[Yqs,ab hk]
 unfold vaS vbS
 rw[b9]
 by_cases e:okS p.Ia
 ·rw[ae e,ae e,e]
  cases wlk (vrS Ls) p.Ia 0 (atS p.Ia) d o<;>simp
 ·have e':okS p.Ia=false:=by simpa using e
  rw[ab e,ab e,e'];simp
theorem Ysj {p:YS_}{k:Nat}(h:k<p.Ia.length):sumBy Ykp (p.Ia.take k)+Ykp (p.Ia.g k)+1<=Ykp p/\wY (p.Ia.g k)<=wY p:=by
 have g1:=Yli p
 have g2:=@Ynp _ _ Ykp p.Ia k h
 have g3:=Ym2 Ykp p.Ia (k+1)
 have g4:=@Yl3 _ wY p.Ia _ (Ykg h)
 have g5:=Ylo p
 omega
theorem Y1fk (o:List YC) (p:YS_) (d:Int):o.map Ykh++[[cI p.Ka,cI p.Na,cS p.Ta,Cell.list (List.map Yke p.Sa),Cell.list (List.map Ykb p.Ia),cI d,cI 0,cI 0,cS (mkS []),Cell.list [],Cell.list [],Cell.list []]]=(o++[Yte p d]).map Ykh:=
 Ykf (C:=Ykh) o (Yte p d)
theorem Y1jj (Ls:List YS_) (p:YS_) (d:Int) (o:List YC) (hk:p.Ka=1) (h:Ymj p\/Yn1 Ls p):vrS Ls p d o=some o:=by
 rw[Yqs,ae hk,ae h]
theorem Y129 (Ls:List YS_) (p:YS_) (d:Int) (o:List YC) (hk:p.Ka=1) (h:Ymj p=false) (h2:Yn1 Ls p=false) (h3:Ykt p\/0<=fnd o p\/3<d):vrS Ls p d o=none:=by
 rw[Yqs,ae hk,ab (by rw[h,h2];simp),ae h3]
theorem Y1ia (Ls:List YS_) (p:YS_) (d:Int) (o:List YC) (hk:p.Ka=1) (h:Ymj p=false) (h2:Yn1 Ls p=false) (h3:Ykt p=false) (h4:fnd o p<0) (h5:d<=3):vrS Ls p d o=some (o++[Yte p d]):=by
 rw[Yqs,ae hk,ab (by rw[h,h2];simp),ab (by rw[h3];simp;omega)]
abbrev Z11 (Ls:List YS_) (p:YS_) (d:Int) (o:List YC):Ct:=⟨151,[.Ai o],[Af Ls,Ykx p,li d,.r 0],[.dead,.Ai ((vrS Ls p d o).getD [])],.tup [.r 1,lb (vrS Ls p d o).isSome]⟩
def Z3v (Ls:List YS_) (p:YS_) (d:Int) (o:List YC):Lp Nat:=.mk 84 1 (λx=>[(0,Af Ls),(2,li d),(3,.r 1),(10,li (if okS p.Ia then atS p.Ia else (-1:Int))),(11,hs x 1),(53,Af p.Ia),(54,li (p.Ia.map Ykb).length),(55,hs x 0)]) (λx=>[.dead,ho x 2]) (λk=>[.s (li k),.s (lb (vbS Ls p d o k)),.o (.Ai (vaS Ls p d o k))]) (λk=>k<=p.Ia.length/\p.Ia.length<=9223372036854775807) (λk=>p.Ia.length - k) [.mk True (.exit 0) (λx=>[(3,.r 1),(11,hs x 0)]) (λx=>[.dead,ho x 1]) [.s (lb (vbS Ls p d o p.Ia.length)),.o (.Ai (vaS Ls p d o p.Ia.length))]]
theorem Ze1 (Ls:List YS_) (p:YS_) (d:Int) (o:List YC) (h:0<=d/\d+(↑(Yl5 p):Int)<=1000/\wY p<=1000000000/\o.length+Ykp p<=2147483647) (ih:∀ (z:YS_),z∈p.Ia->∀ (Ls:List YS_) (d:Int) (o:List YC),0<=d/\d+(↑(Yl5 z):Int)<=1000/\wY z<=1000000000/\o.length+Ykp z<=2147483647->OK (Z11 Ls z d o)):Lp.Sem prog (Yks f151 0) (Z3v Ls p d o):=Yl0 (λk=>let v1:=p.Ia.g k;let v5:=vaS Ls p d o k;let v2:Ob:=.Ai v5;let v3:=(k:Int)+1;let v4:=lb (vbS Ls p d o k);.i ((k:Int)<(p.Ia.map Ykb).length) (.x (k:Int) (p.Ia.map Ykb) (Yki v1) (.b (!vbS Ls p d o k) (.o 0 [0,1] [.s v4,.o v2]) (.i ((k:Int)=if okS p.Ia then atS p.Ia else (-1:Int)) (.r v3 (.g [0,1] (k+1) [.s (li v3),.s v4,.o v2])) (.r v3 (.i ((k:Int)+1=if okS p.Ia then atS p.Ia else (-1:Int)) (.r (d+1) (.d [.rd,.rd,.rd,.own true 12] (Z11 Ls v1 (d+1) v5) (.r v3 (.g [0,4] (k+1) [.s (li v3),.s (lb (vrS Ls v1 (d+1) v5).isSome),.o (.Ai ((vrS Ls v1 (d+1) v5).getD []))])))) (.d [.rd,.rd,.rd,.own true 12] (Z11 Ls v1 d v5) (.r v3 (.g [0,4] (k+1) [.s (li v3),.s (lb (vrS Ls v1 d v5).isSome),.o (.Ai ((vrS Ls v1 d v5).getD []))])))))))) (.o 0 [0,1] [.s v4,.o v2])) (by
 intro k h;try dsimp only[Ykd,Yko,Z3v]at h|-
 have g1:=@Y1xr Ls p d o k
 have g2:=@Y1wx Ls p d o k
 have g3:=@Y230 Ls p d o k
 have g4:=@Y21m Ls p d o k
 have g5:=@Y21v Ls p d o k
 have g6:=@Ypo p k
 have g7:=@Ysj p k
 have g8:k<p.Ia.length\/k=p.Ia.length\/p.Ia.length<k:=by omega
 exact z01)
theorem Zhm (Ls:List YS_) (p:YS_) (d:Int) (o:List YC) (h:0<=d/\d+Yl5 p<=1000/\wY p<=1000000000/\o.length+Ykp p<=2147483647) (ih:∀ z∈p.Ia,∀ (Ls:List YS_) (d:Int) (o:List YC) (h:0<=d/\d+Yl5 z<=1000/\wY z<=1000000000/\o.length+Ykp z<=2147483647),Z11 Ls z d o):Z11 Ls p d o:=Ykr call151 func151 (let v4:Tq _ _:=.f [2] [.dead,.y 12 []] (.tup [.r 1,lb false]);let v1:Tq _ _:=.w (.g (.nilreg 8 true 12)) (.w (.m 0) v4);let v5:=o.map Ykh;let v3:AV:=.tup [.r 1,lb true];let v2:Tq _ _:=.w (.m 0) (.f [2] [.dead,.y 12 v5] v3);.i (p.Ka=1) (.i (p.Ta.data.toList=[95]) (.y true v2) (.c [.rd,.rd] (Zjo Ls p) (.b (Yn1 Ls p) v2 (.c [.rd] (Z3g p) (.b (Ykt p) (.y true (.y true v1)) (.c [.rd,.rd] (Zbv o p) (.i (0<=fnd o p) (.y true v1) (.i (3<d) v1 (.d [.rd] (Z2j p) (.p ((v5.length+1) * 192<=140737488355328) (.f [5] [.dead,.y 12 (o.map Ykh++[[cI p.Ka,cI p.Na,cS p.Ta,.Ao p.Sa,.Au p.Ia,cI d,cI 0,cI 0,cS (mkS []),.list [],.list [],.list []]])] v3))))))))))) (.c [.rd] (Zka p.Ia) (.z Ykb p.Ia (.w (.m 0) (.l (Z3v Ls p d o) (Ze1 Ls p d o h ih) [0,2] [.s (li 0),.s (lb (okS p.Ia)),.o (.y 12 v5)] 0 (.t (.b (!vbS Ls p d o p.Ia.length) (.w (.g (.nilreg 8 true 12)) v4) (.f [1] [.dead,.Ai (vaS Ls p d o p.Ia.length)] v3)) .q)))))) (by
 dsimp only[Ykd,Z11,Yko,Z3v]
 have g1:=Y1zu Ls p d o
 have g2:=Yli p
 have g3:Ymj p=decide (p.Ta.data.toList=[95]):=rfl
 have g4:=Y1jj Ls p d o
 have g5:=Y129 Ls p d o
 have g6:=Y1ia Ls p d o
 have g7:¬p.Ka=1->okS p.Ia=false->vbS Ls p d o 0=false:=λ_ h=>by unfold vbS;rw[h];rfl
 have g8:okS p.Ia->vbS Ls p d o 0:=λh=>by unfold vbS;rw[h];simp[wlk]
 have g9:vaS Ls p d o 0=o:=by unfold vaS;split<;>simp[wlk]
 have g10:okS p.Ia=vbS Ls p d o 0:=by unfold vbS;simp[wlk]
 have g11:=Y1fk o p d
 have g12:p.Ka=1->Ymj p=false->Yn1 Ls p=false->Ykt p=false->fnd o p<0->d<=3->(vrS Ls p d o).getD []=o++[Yte p d]:=λa b c e f g=>by rw[g6 a b c e f g];rfl
 exact z0s)
theorem Z9v (p:YS_):∀ (Ls:List YS_) (d:Int) (o:List YC) (h:0<=d/\d+Yl5 p<=1000/\wY p<=1000000000/\o.length+Ykp p<=2147483647),Z11 Ls p d o:=YS_.ind (P:=λp=>∀ (Ls:List YS_) (d:Int) (o:List YC) (h:0<=d/\d+Yl5 p<=1000/\wY p<=1000000000/\o.length+Ykp p<=2147483647),Z11 Ls p d o) (λp ih Ls d o h=>Zhm Ls p d o h ih) p
mutual
def vrI (Ls:List YS_):YS_->Int->List YC->Option (List YC)
 | ⟨k,n,t,s,l⟩,d,o=>if k=1 then (if Ykt ⟨k,n,t,s,l⟩=true then none else if Ymj ⟨k,n,t,s,l⟩=true\/Yo0 Ls ⟨k,n,t,s,l⟩=true then some o else
   if 3<d then none else if (o.any λc=>Yoq c.name ⟨k,n,t,s,l⟩)=true then none else some (o++[Yte ⟨k,n,t,s,l⟩ d]))
  else if k≠0 then some o else if atI l=0 then none else Y183 Ls l 0 (atI l) d o
def Y183 (Ls:List YS_):List YS_->Int->Int->Int->List YC->Option (List YC)
 | [],_,_,_,o=>some o
 | x :: r,i,a,d,o=>if i=a then Y183 Ls r (i+1) a d o else match vrI Ls x (if i+1=a then d+1 else d) o with
  | none=>none
  | some o'=>Y183 Ls r (i+1) a d o'
end
theorem Y1j2 (Ls:List YS_):∀ l i a d o,Y183 Ls l i a d o=wlk (vrI Ls) l i a d o
 | [],i,a,d,o=>by simp[Y183,wlk]
 | x :: r,i,a,d,o=>by
  simp only[Y183,wlk,Y1j2 Ls r]
theorem Yrc (Ls:List YS_) (p:YS_) (d:Int) (o:List YC):vrI Ls p d o=if p.Ka=1 then (if Ykt p then none else if Ymj p\/Yo0 Ls p then some o else if 3<d then none else if (o.any λc=>Yoq c.name p)=true then none else some (o++[Yte p d]))
  else if p.Ka≠0 then some o else if atI p.Ia=0 then none else wlk (vrI Ls) p.Ia 0 (atI p.Ia) d o:=by cases p;simp only[vrI,Y1j2]
theorem Y1vl (Ls:List YS_):∀ (p:YS_) (d:Int) (o o':List YC),vrI Ls p d o=some o'->o'.length<=o.length+Ykp p:=by
 refine YS_.ind λp ih d o o' e => ?_
 rw[Yrc]at e
 rw[Yli]
 split at e
 ·split at e
  ·cases e
  ·split at e
   ·simp only[aa]at e;subst e;omega
   ·split at e
    ·cases e
    ·split at e
     ·cases e
     ·simp only[aa]at e;subst e;simp
 ·split at e
  ·simp only[aa]at e;subst e;omega
  ·split at e
   ·cases e
   ·have:=Yy4 (vrI Ls) p.Ia (λx hx d o o' h=>ih x hx d o o' h) _ _ _ _ _ e;omega
def wqI (Ls:List YS_) (p:YS_) (d:Int) (o:List YC) (k:Nat):Option (List YC):=wlk (vrI Ls) (p.Ia.take k) 0 (atI p.Ia) d o
def vaI (Ls:List YS_) (p:YS_) (d:Int) (o:List YC) (k:Nat):List YC:=(wqI Ls p d o k).getD []
def vbI (Ls:List YS_) (p:YS_) (d:Int) (o:List YC) (k:Nat):Bool:=(wqI Ls p d o k).isSome
theorem Y1xh {Ls:List YS_}{p:YS_}{d:Int}{o:List YC}{k:Nat}(hk:k<p.Ia.length) (h:vbI Ls p d o k) (e:(k:Int)=atI p.Ia):vaI Ls p d o (k+1)=vaI Ls p d o k/\vbI Ls p d o (k+1):=by
 unfold vaI vbI wqI at *
 obtain⟨v,hv⟩:=Option.isSome_iff_exists.1 h
 rw[Y10e hk hv,ae e,hv];simp
theorem Y239 {Ls:List YS_}{p:YS_}{d:Int}{o:List YC}{k:Nat}(hk:k<p.Ia.length) (h:vbI Ls p d o k) (e:¬ (k:Int)=atI p.Ia) :
  vaI Ls p d o (k+1)=(vrI Ls (p.Ia.g k) (if (k:Int)+1=atI p.Ia then d+1 else d) (vaI Ls p d o k)).getD []/\vbI Ls p d o (k+1)=(vrI Ls (p.Ia.g k) (if (k:Int)+1=atI p.Ia then d+1 else d) (vaI Ls p d o k)).isSome:=by
 unfold vaI vbI wqI at *
 obtain⟨v,hv⟩:=Option.isSome_iff_exists.1 h
 rw[Y10e hk hv,ab e,hv];simp
theorem Y1x9 {Ls:List YS_}{p:YS_}{d:Int}{o:List YC}{k:Nat}(h:vbI Ls p d o k=false):vbI Ls p d o p.Ia.length=false:=by
 unfold vbI wqI at *
 cases e2:wlk (vrI Ls) (p.Ia.take k) 0 (atI p.Ia) d o with
 | none=>rw[b9,Y1e4 e2];rfl
 | some v=>rw[e2]at h;cases h
theorem Y1yd {Ls:List YS_}{p:YS_}{d:Int}{o:List YC}{k:Nat}(h:vbI Ls p d o k):(vaI Ls p d o k).length<=o.length+sumBy Ykp (p.Ia.take k):=by
 unfold vaI vbI wqI at *
 obtain⟨v,hv⟩:=Option.isSome_iff_exists.1 h
 rw[hv]
 exact Yy4 (vrI Ls) _ (λx _ d o o' h=>Y1vl Ls x d o o' h) _ _ _ _ _ hv
theorem Y20d (Ls:List YS_) (p:YS_) (d:Int) (o:List YC) (hk:¬ p.Ka=1) (h0:p.Ka=0) (ha:¬ atI p.Ia=0):(vrI Ls p d o).isSome=vbI Ls p d o p.Ia.length/\(vrI Ls p d o).getD []=vaI Ls p d o p.Ia.length:=by
 rw[Yrc,ab hk,ab (by simp[h0]),ab ha]
 unfold vaI vbI wqI
 rw[b9];exact⟨rfl,rfl⟩
theorem Y14s {Ls:List YS_}{p:YS_}{d:Int}{o:List YC}(hk:p.Ka=1) (h:Ykt p):vrI Ls p d o=none:=by
 rw[Yrc,ae hk,ae h]
theorem Y1gw {Ls:List YS_}{p:YS_}{d:Int}{o:List YC}(hk:p.Ka=1) (h:Ykt p=false) (h2:Ymj p\/Yo0 Ls p):vrI Ls p d o=some o:=by
 rw[Yrc,ae hk,ab (by simp[h]),ae h2]
theorem Y1cq {Ls:List YS_}{p:YS_}{d:Int}{o:List YC}(hk:p.Ka=1) (h:Ykt p=false) (h2:Ymj p=false) (h3:Yo0 Ls p=false) (h4:3<d):vrI Ls p d o=none:=by
 rw[Yrc,ae hk,ab (by simp[h]),ab (by simp[h2,h3]),ae h4]
theorem Y1am {Ls:List YS_}{p:YS_}{d:Int}{o:List YC}(hk:p.Ka=1) (h:Ykt p=false) (h2:Ymj p=false) (h3:Yo0 Ls p=false) (h5:(o.any λc=>Yoq c.name p)=true):vrI Ls p d o=none:=by
 rw[Yrc,ae hk,ab (by simp[h]),ab (by simp[h2,h3])]
 split
 ·rfl
 ·first|rfl|rw[ae h5]
theorem Y1iq {Ls:List YS_}{p:YS_}{d:Int}{o:List YC}(hk:p.Ka=1) (h:Ykt p=false) (h2:Ymj p=false) (h3:Yo0 Ls p=false) (h4:d<=3) (h5:(o.any λc=>Yoq c.name p)=false):vrI Ls p d o=some (o++[Yte p d]):=by
 rw[Yrc,ae hk,ab (by simp[h]),ab (by simp[h2,h3]),ab oW,ab (by simp[h5])]
theorem Y19l {Ls:List YS_}{p:YS_}{d:Int}{o:List YC}(hk:¬ p.Ka=1) (h0:¬ p.Ka=0):vrI Ls p d o=some o:=by
 rw[Yrc,ab hk,ae h0]
theorem Y1a4 {Ls:List YS_}{p:YS_}{d:Int}{o:List YC}(hk:¬ p.Ka=1) (h0:p.Ka=0) (ha:atI p.Ia=0):vrI Ls p d o=none:=by
 rw[Yrc,ab hk,ab (by simp[h0]),ae ha]
abbrev Zc (Ls:List YS_) (p:YS_) (d:Int) (o:List YC):Ct:=⟨141,[.Ai o],[Af Ls,Ykx p,li d,.r 0],[.dead,.Ai ((vrI Ls p d o).getD [])],.tup [.r 1,lb (vrI Ls p d o).isSome]⟩
def Z3w (Ls:List YS_) (p:YS_) (d:Int) (o:List YC):Lp Nat:=.mk 93 1 (λx=>[(0,Af Ls),(2,li d),(3,.r 1),(12,li (atI p.Ia)),(63,Af p.Ia),(64,li (p.Ia.map Ykb).length),(65,hs x 0)]) (λx=>[.dead,ho x 1]) (λk=>[.s (li k),.o (.Ai (vaI Ls p d o k))]) (λk=>k<=p.Ia.length/\p.Ia.length<=9223372036854775807/\vbI Ls p d o k) (λk=>p.Ia.length - k) [.mk (vbI Ls p d o p.Ia.length) (.exit 3) (λx=>[(3,.r 1)]) (λx=>[.dead,ho x 0]) [.o (.Ai (vaI Ls p d o p.Ia.length))],.mk (vbI Ls p d o p.Ia.length=false) .ret (λx=>[(8,hs x 0),(9,hs x 1)]) (λx=>[.dead]) [.s (.one (.val (.y))),.s (lb false)]]
def Z3x (Ls:List YS_) (p:YS_) (d:Int) (o:List YC):Lp Nat:=let v1:List Ob:=[.dead,.Ai o,.box (vals (Yki p))];.mk 93 1 (λx=>[(2,li d),(3,.r 1),(5,.y 2),(34,.r 1),(35,li (o.map Ykh).length),(36,hs x 0)]) (λx=>v1) (λk=>[.s (li k)]) (λk=>k<=o.length/\o.length<=9223372036854775807/\((o.take k).any λc=>Yoq c.name p)=false) (λk=>o.length - k) [.mk ((o.any λc=>Yoq c.name p)=false) (.exit 1) (λx=>[(2,li d),(3,.r 1),(5,.y 2)]) (λx=>v1) [],.mk ((o.any λc=>Yoq c.name p)=true) .ret (λx=>[(8,hs x 0),(9,hs x 1)]) (λx=>[.dead]) [.s (.one (.val (.y))),.s (lb false)]]
theorem Ze2 (Ls:List YS_) (p:YS_) (d:Int) (o:List YC) (h:0<=d/\d+(↑(Yl5 p):Int)<=1000/\wY p<=1000000000/\o.length+Ykp p<=2147483647) (ih:∀ (z:YS_),z∈p.Ia->∀ (Ls:List YS_) (d:Int) (o:List YC),0<=d/\d+(↑(Yl5 z):Int)<=1000/\wY z<=1000000000/\o.length+Ykp z<=2147483647->OK (Zc Ls z d o)):Lp.Sem prog (Yks f141 1) (Z3w Ls p d o):=Yl0 (λk=>let v1:=p.Ia.g k;let v2:=vaI Ls p d o k;let v3:=(k:Int)+1;let v4:SV:=.one (.val (.y));let v5:Ob:=.Ai v2;.i ((k:Int)<(p.Ia.map Ykb).length) (.x (k:Int) (p.Ia.map Ykb) (Yki v1) (.i ((k:Int)=atI p.Ia) (.r v3 (.g [0,1] (k+1) [.s (li v3),.o v5])) (.r v3 (.i ((k:Int)+1=atI p.Ia) (.r (d+1) (.d [.rd,.rd,.rd,.own true 12] (Zc Ls v1 (d+1) v2) (.b (!(vrI Ls v1 (d+1) v2).isSome) (.o 1 [0] [.s v4,.s (lb false)]) (.r v3 (.g [0,4] (k+1) [.s (li v3),.o (.Ai ((vrI Ls v1 (d+1) v2).getD []))]))))) (.d [.rd,.rd,.rd,.own true 12] (Zc Ls v1 d v2) (.b (!(vrI Ls v1 d v2).isSome) (.o 1 [0] [.s v4,.s (lb false)]) (.r v3 (.g [0,4] (k+1) [.s (li v3),.o (.Ai ((vrI Ls v1 d v2).getD []))])))))))) (.o 0 [0,1] [.o v5])) (by
 intro k h;try dsimp only[Ykd,Yko,Z3w]at h|-
 have g1:=@Y1x9 Ls p d o (k+1)
 have g2:=@Y1xh Ls p d o k
 have g3:=@Y239 Ls p d o k
 have g4:=@Y1yd Ls p d o k
 have g6:=@Ypo p k
 have g7:=@Ysj p k
 have g8:k<p.Ia.length\/k=p.Ia.length\/p.Ia.length<k:=by omega
 exact z01)
theorem Ze3 (Ls:List YS_) (p:YS_) (d:Int) (o:List YC) (h:0<=d/\d+(↑(Yl5 p):Int)<=1000/\wY p<=1000000000/\o.length+Ykp p<=2147483647) (ih:∀ (z:YS_),z∈p.Ia->∀ (Ls:List YS_) (d:Int) (o:List YC),0<=d/\d+(↑(Yl5 z):Int)<=1000/\wY z<=1000000000/\o.length+Ykp z<=2147483647->OK (Zc Ls z d o)):Lp.Sem prog (Yks f141 0) (Z3x Ls p d o):=Yl0 (λk=>let v1:=o.g (k:Int).toNat;.i ((k:Int)<(o.map Ykh).length) (.p (0<=(k:Int)/\(k:Int).toNat<(o.map Ykh).length) (.w (.cells (Ylc v1)) (.p ((o.map Ykh)[(k:Int).toNat]? = some (Ylc v1)) (.c [.rd,.rd] (Zbu v1.name p) (.b (decide (v1.name.Ka=1)&&decide (p.Ka=1)&&decide (v1.name.Ta=p.Ta)&&decide (v1.name.Sa=p.Sa)) (.o 1 [0] [.s (.one (.val (.y))),.s (lb false)]) (.r ((k:Int)+1) (.g [0,1,2] (k+1) [.s (li ((k:Int)+1))]))))))) (.o 0 [0,1,2] [])) (by
 intro k h;try dsimp only[Ykd,Yko,Z3x]at h|-
 have g:k<o.length->Yoq (o.g k).name p->(o.any λc=>Yoq c.name p)=true:=λh1 h2=>by
  rw[cK];exact⟨_,Ykg h1,h2⟩
 have g2:Yoq (o.g k).name p=(decide ((o.g k).name.Ka=1)&&decide (p.Ka=1)&&decide ((o.g k).name.Ta=p.Ta)&&decide ((o.g k).name.Sa=p.Sa)):=rfl
 with_reducible repeat' (first|apply ah|exact zR|exact ih|(intro)|apply Z1|apply Z2)
 all_goals ((try simp only[std,inj]at *);with_reducible and_intros)
 all_goals try with_reducible first|apply Z1|apply Z2|apply ih
 all_goals try first|exact z|grind[Yku,Ykl,Ykm,Ykf])
theorem Zhn (Ls:List YS_) (p:YS_) (d:Int) (o:List YC) (h:0<=d/\d+Yl5 p<=1000/\wY p<=1000000000/\o.length+Ykp p<=2147483647) (ih:∀ z∈p.Ia,∀ (Ls:List YS_) (d:Int) (o:List YC) (h:0<=d/\d+Yl5 z<=1000/\wY z<=1000000000/\o.length+Ykp z<=2147483647),Zc Ls z d o):Zc Ls p d o:=Ykr call141 func141 (let v6:AV:=.tup [.r 1,lb false];let v1:Tq _ _:=.w (.g (.nilreg 8 true 12)) (.w (.m 0) (.f [2] [.dead,.y 12 []] v6));let v5:=o.map Ykh;let v4:AV:=.tup [.r 1,lb true];let v2:Tq _ _:=.w (.m 0) (.f [2] [.dead,.y 12 v5] v4);let v3:Tq _ _:=.t (.w (.g (.nilreg 8 true 12)) (.f [1] [.dead,.y 12 []] v6)) .q;.i (p.Ka=1) (.c [.rd] (Z1 p) (.b (Ykt p) v1 (.c [.rd] (Z9u p) (.b (decide (p.Ka=1)&&Ymj p) (.y true v2) (.c [.rd,.rd] (Zbw Ls p) (.b (Yo0 Ls p) v2 (.i (3<d) v1 (.z Ykh o (.w (.m 0) (.l (Z3x Ls p d o) (Ze3 Ls p d o h ih) [0,2,1] [.s (li 0)] 0 (.t (.d [.rd] (Zp p) (.p ((v5.length+1) * 192<=140737488355328) (.f [6] [.dead,.y 12 (o.map Ykh++[[cI p.Ka,cI p.Na,cS p.Ta,.Ao p.Sa,.Au p.Ia,cI d,cI 0,cI 0,cS (mkS []),.list [],.list [],.list []]])] v4))) v3))))))))))) (.i (p.Ka≠0) v2 (.c [.rd] (Zdk p.Ia) (.i (atI p.Ia=0) v1 (.z Ykb p.Ia (.w (.m 0) (.l (Z3w Ls p d o) (Ze2 Ls p d o h ih) [0,2] [.s (li 0),.o (.y 12 v5)] 0 (.t (.f [1] [.dead,.Ai (vaI Ls p d o p.Ia.length)] v4) v3)))))))) (by
 dsimp only[Ykd,Zc,Yko,Z3x,Z3w]
 have g1:=Y20d Ls p d o
 have g2:=Yli p
 have g3:=@Y14s Ls p d o
 have g4:=@Y1gw Ls p d o
 have g5:=@Y1cq Ls p d o
 have g6:=@Y1am Ls p d o
 have g7:=@Y1iq Ls p d o
 have g8:=@Y19l Ls p d o
 have g9:=@Y1a4 Ls p d o
 have g10:vbI Ls p d o 0:=by unfold vbI wqI;simp[wlk]
 have g11:vaI Ls p d o 0=o:=by unfold vaI wqI;simp[wlk]
 have g12:=Y1fk o p d
 have g13:Ymj p=decide (p.Ta.data.toList=[95]):=rfl
 have g14:p.Ka=1->Ykt p=false->Ymj p=false->Yo0 Ls p=false->d<=3->(o.any λc=>Yoq c.name p)=false->(vrI Ls p d o).getD []=o++[Yte p d]:=λa b c e f g=>by rw[g7 a b c e f g];rfl
 have g15:(vrI Ls p d o).isSome=false->(vrI Ls p d o).getD []=[]:=λh=>by cases e:vrI Ls p d o<;>simp_all
 exact z0s)
theorem Z9w (p:YS_):∀ (Ls:List YS_) (d:Int) (o:List YC) (h:0<=d/\d+Yl5 p<=1000/\wY p<=1000000000/\o.length+Ykp p<=2147483647),Zc Ls p d o:=YS_.ind (P:=λp=>∀ (Ls:List YS_) (d:Int) (o:List YC) (h:0<=d/\d+Yl5 p<=1000/\wY p<=1000000000/\o.length+Ykp p<=2147483647),Zc Ls p d o) (λp ih Ls d o h=>Zhn Ls p d o h ih) p
theorem Y19z {Ls:List YS_}{p:YS_}(hL:∀ x∈Ls,Ynx x) (hk:p.Ka=1):Yn1 Ls p=Yo0 Ls p:=by
 unfold Yn1 Yo0
 rw[cm];simp only[cK]
 constructor
 ·rintro⟨x,hx,e⟩
  have:=hL x hx
  simp only[Y186,af,ak]at this e
  exact⟨x,hx,by simp only[Yoq,af,ak];exact⟨⟨⟨this.1.1.1,hk⟩,e.1⟩,e.2⟩⟩
 ·rintro⟨x,hx,e⟩
  simp only[Yoq,af,ak]at e
  exact⟨x,hx,by simp only[af,ak];exact⟨e.1.2,e.2⟩⟩
theorem Y1sk {Ls:List YS_}{p:YS_}(hL:∀ x∈Ls,Ynx x) (hd:Ykt p):Yn1 Ls p=false/\Ymj p=false:=by
 simp only[Ykt,af,ak]at hd
 constructor
 ·unfold Yn1;rw[bW]
  intro x hx e
  have:=hL x hx
  simp only[Y186,af,ak,aM,Ykt,df,aP]at this e
  rcases this.1.2 with h|h
  ·exact h this.1.1.1
  ·exact h (by rw[e.1];exact hd.2)
 ·unfold Ymj;rw[hd.2];rfl
theorem Y1wa {o:List YC}{p:YS_}(ho:∀ x∈o,Yp6 x.name) (hk:p.Ka=1) (hd:Ykt p=false):(o.any λc=>Yoq c.name p)=true ↔ 0<=fnd o p:=by
 have h1:Yqh o p<o.length ↔ ∃ x∈o,Ypa p x:=List.findIdx_lt_length
 have h2:(o.any λc=>Yoq c.name p)=true ↔ Yqh o p<o.length:=by
  rw[h1,cK]
  constructor
  ·rintro⟨x,hx,e⟩
   refine⟨x,hx,?_⟩
   simp only[Yoq,af,ak]at e
   simp only[Ypa,af,ak]
   exact⟨⟨e.1.2,e.2⟩,ho x hx⟩
  ·rintro⟨x,hx,e⟩
   refine⟨x,hx,?_⟩
   simp only[Ypa,Yp6,af,ak]at e
   simp only[Yoq,af,ak]
   exact⟨⟨⟨e.2.1,hk⟩,e.1.1⟩,e.1.2⟩
 rw[h2];unfold fnd;rw[hd]
 simp only[true_and]
 split<;>omega
theorem Y1m2 {α:Type}[Inhabited α] {p:α->Bool}{L:List α}:∀ k,k<=L.length->(∀ j,j<k->p (L.g j)=false)->k<=L.findIdx p
 | 0,_,_=>cr _
 | k+1,hk,h=>Y1gz oW (Y1m2 k oW λj hj=>h j oW) (h k oW)
theorem Y17a (l:List YS_):∀ k,k<=l.length->okA l k->(atF l k = -1/\∀ j,j<k->Ykt (l.g j)=false)\/∃ m:Nat,0<m/\m<k/\atF l k=m/\Ykt (l.g m)/\∀ j,j<k->j≠m->Ykt (l.g j)=false
 | 0,_,_=>.inl ⟨rfl,λj h=>absurd h oW⟩
 | k+1,hk,h=>by
  simp only[okA,af,aG,aM,ak]at h
  have ih:=Y17a l k oW h.1
  cases e:Ykt (l.g k) with
  | false=>
   have e2:atF l (k+1)=atF l k:=by simp only[atF,e];rfl
   rcases ih with ⟨h1,h2⟩|⟨m,h1,h2,h3,h4,h5⟩
   ·exact .inl ⟨by rw[e2];exact h1,λj hj=>by
     by_cases ej:j=k
     ·rw[ej];exact e
     ·exact h2 j oW⟩
   ·exact .inr ⟨m,h1,by omega,by rw[e2];exact h3,h4,λj hj hm=>by
     by_cases ej:j=k
     ·rw[ej];exact e
     ·exact h5 j oW hm⟩
  | true=>
   have e2:atF l (k+1)=(k:Int):=by simp only[atF,e];rfl
   rcases h.2 with h0|⟨h0,h0'⟩
   ·rw[e]at h0;cases h0
   ·rcases ih with ⟨h1,h2⟩|⟨m,h1,h2,h3,h4,h5⟩
    ·exact .inr ⟨k,by omega,by omega,e2,e,λj hj hm=>h2 j oW⟩
    ·omega
theorem Y1cd {l:List YS_}{m:Nat}(hm:m<l.length) (h:Ykt (l.g m)) (h2:∀ j,j<m->Ykt (l.g j)=false):atI l=m:=by
 have:=Y1uu hm (Y1m2 m oW h2) h
 unfold atI;rw[this,ae hm]
theorem Y1bu {l:List YS_}(h:okS l):atI l=atS l/\atI l≠0:=by
 rcases Y17a l l.length (aD _) h with ⟨h1,h2⟩|⟨m,h1,h2,h3,h4,h5⟩
 ·have:=Y1m2 (p:=Ykt) l.length (aD _) h2
  have e:atI l = -1:=by unfold atI;rw[ab oW]
  exact⟨by rw[e];exact h1.symm,by omega⟩
 ·have e:=Y1cd h2 h4 λj hj=>h5 j oW oW
  exact⟨by rw[e];exact h3.symm,by omega⟩
theorem Y1vp {l:List YS_}(h:okS l=false):atI l=0\/∃ j,j<l.length/\(j:Int)≠atI l/\Ykt (l.g j):=by
 have:∃ k,k<l.length/\okA l k/\okA l (k+1)=false:=by
  have:∀ m,m<=l.length->okA l m=false->∃ k,k<m/\okA l k/\okA l (k+1)=false:=by
   intro m
   induction m with
   | zero=>intro _ e;cases e
   | succ m ih=>
    intro hm e
    cases e2:okA l m with
    | true=>exact⟨m,by omega,e2,e⟩
    | false=>obtain⟨k,h1,h2⟩:=ih oW e2;exact⟨k,by omega,h2⟩
  obtain⟨k,h1,h2⟩:=this l.length (aD _) h
  exact⟨k,h1,h2⟩
 obtain⟨k,hk,h1,h2⟩:=this
 have hd:Ykt (l.g k)/\(k=0\/0<=atF l k):=by
  simp only[okA,h1,dl,bq,cA,df,aP]at h2
  exact⟨h2.1,h2.2.elim (λh=>.inl oW) λh=>.inr oW⟩
 rcases hd.2 with e|e
 ·subst e
  exact .inl (Y1cd hk hd.1 λj hj=>absurd hj (Nat.not_lt_zero j))
 ·rcases Y17a l k oW h1 with ⟨h3,_⟩|⟨m,h3,h4,h5,h6,h7⟩
  ·omega
  ·have e:=Y1cd oW h6 λj hj=>h7 j oW oW
   exact .inr ⟨k,hk,by omega,hd.1⟩
theorem Y1fz {f g:YS_->Int->List YC->Option (List YC)}{good:List YC->Prop}:∀ (l:List YS_),(∀ x∈l,∀ d o,good o->f x d o=g x d o/\∀ o',g x d o=some o'->good o')->∀ i a d o,good o->wlk f l i a d o=wlk g l i a d o/\∀ o',wlk g l i a d o=some o'->good o'
 | [],_,i,a,d,o,ho=>⟨rfl,λo' e=>by simp only[wlk,aa]at e;subst e;exact ho⟩
 | x :: r,h,i,a,d,o,ho=>by
  have ih:=Y1fz r λy hy=>h y (ai _ hy)
  simp only[wlk]
  by_cases e:i=a
  ·rw[ae e,ae e];exact ih _ _ _ _ ho
  ·rw[ab e,ab e]
   have hx:=h x aj (if i+1=a then d+1 else d) o ho
   rw[hx.1]
   cases e2:g x (if i+1=a then d+1 else d) o with
   | none=>exact⟨rfl,λo' e=>by cases e⟩
   | some o1=>exact ih _ _ _ _ (hx.2 o1 e2)
theorem Y1jk {f:YS_->Int->List YC->Option (List YC)}:∀ (l:List YS_) (j:Nat) (i a d:Int) (o:List YC),j<l.length->i+(j:Int)≠a->(∀ d o,f (l.g j) d o=none)->wlk f l i a d o=none
 | [],j,_,_,_,_,h,_,_=>absurd h sW
 | x :: r,0,i,a,d,o,_,h1,h2=>by
  simp only[wlk]
  rw[ab oW]
  have:=h2 (if i+1=a then d+1 else d) o
  simp only[cn]at this
  rw[this]
 | x :: r,j+1,i,a,d,o,h,h1,h2=>by
  have ih:=λd o=>Y1jk r j (i+1) a d o (by simpa using h) oW (by simpa using h2)
  simp only[wlk]
  split
  ·exact ih d o
  ·split
   ·rfl
   ·exact ih d _
theorem Y1s5 {p:YS_}(h:okY p) (hk:p.Ka=1):Yp6 p:=by
 have hi:=Y18t h hk
 simp only[Yp6,Ykk,af,ak]
 refine⟨hk,⟨?_,?_⟩,h⟩
 ·rw[Yli,hi];simp[sumBy]
 ·rw[Ypk,hi];simp[Yll]
theorem Y1c3 {p:YS_}(h:okY p) (h1:¬ p.Ka=1) (h0:¬ p.Ka=0):p.Ia=[]:=by
 rw[Yow]at h
 simp only[Ypd,Yp4,af,aG,ak]at h
 have:p.Ia.length=0:=by omega
 exact List.length_eq_zero_iff.1 this
theorem Y1i1 {Ls:List YS_}(hL:∀ x∈Ls,Ynx x):∀ p:YS_,okY p->∀ d o,(∀ x∈o,Yp6 x.name)->vrI Ls p d o=vrS Ls p d o/\∀ o',vrS Ls p d o=some o'->∀ x∈o',Yp6 x.name:=by
 refine YS_.ind λp ih h d o ho => ?_
 by_cases hk:p.Ka=1
 ·have hn:∀ x∈o++[Yte p d],Yp6 x.name:=by
   intro x hx
   rcases List.mem_append.1 hx with hx|hx
   ·exact ho x hx
   ·rw[List.mem_singleton.1 hx];exact Y1s5 h hk
  cases hd:Ykt p with
  | true=>
   have h1:=Y1sk hL hd
   rw[Y14s hk hd,Y129 Ls p d o hk h1.2 h1.1 (.inl hd)]
   exact⟨rfl,λo' e=>by cases e⟩
  | false=>
   have hj:=Y19z hL hk
   by_cases h1:Ymj p\/Yn1 Ls p
   ·rw[Y1gw hk hd (hj ▸ h1),Y1jj Ls p d o hk h1]
    exact⟨rfl,λo' e=>by simp only[aa]at e;subst e;exact ho⟩
   ·have hu:Ymj p=false:=by cases e:Ymj p<;>simp_all
    have hI:Yn1 Ls p=false:=by cases e:Yn1 Ls p<;>simp_all
    have hJ:Yo0 Ls p=false:=by rw[<- hj];exact hI
    by_cases h3:3<d
    ·rw[Y1cq hk hd hu hJ h3,Y129 Ls p d o hk hu hI (.inr (.inr h3))]
     exact⟨rfl,λo' e=>by cases e⟩
    ·have hf:=Y1wa ho hk hd
     cases h5:(o.any λc=>Yoq c.name p) with
     | true=>
      rw[Y1am hk hd hu hJ h5,Y129 Ls p d o hk hu hI (.inr (.inl (hf.1 h5)))]
      exact⟨rfl,λo' e=>by cases e⟩
     | false=>
      have h6:fnd o p<0:=by
       by_cases h6:fnd o p<0
       ·exact h6
       ·rw[hf.2 oW]at h5;cases h5
      rw[Y1iq hk hd hu hJ oW h5,Y1ia Ls p d o hk hu hI hd h6 oW]
      exact⟨rfl,λo' e=>by simp only[aa]at e;subst e;exact hn⟩
 ·by_cases h0:p.Ka=0
  ·rw[Yqs,ab hk]
   cases hs:okS p.Ia with
   | true=>
    have ha:=Y1bu hs
    rw[Yrc,ab hk,ab (by simp[h0]),ab ha.2,ae rfl,ha.1]
    exact Y1fz (good:=λo=>∀ x∈o,Yp6 x.name) p.Ia (λx hx d o ho=>ih x hx (Yns h x hx) d o ho) _ _ _ _ ho
   | false=>
    refine⟨?_,λo' e=>by simp at e⟩
    rw[ab sW]
    rcases Y1vp hs with ha|⟨j,hj,hja,hjd⟩
    ·exact Y1a4 hk h0 ha
    ·rw[Yrc,ab hk,ab (by simp[h0])]
     split
     ·rfl
     ·refine Y1jk p.Ia j _ _ _ _ hj oW λd o=>Y14s ?_ hjd
      simp only[Ykt,af,ak]at hjd;exact hjd.1
  ·have hi:=Y1c3 h hk h0
   rw[Y19l hk h0,Yqs,ab hk,hi]
   simp only[okS,bp,okA,bz,wlk]
   exact⟨trivial,λo' e=>by simp only[aa]at e;subst e;exact ho⟩
theorem Y1z4 {Ls:List YS_}{p:YS_}(hL:okL Ls) (hp:Ykk p):vrI Ls p 0 []=vrS Ls p 0 []:=by
 simp only[okL,af,am]at hL
 simp only[Ykk,af]at hp
 exact(Y1i1 hL.1 p hp.2 0 [] (λx hx=>by cases hx)).1
abbrev Zah (Ls:List YS_) (p:YS_):Ct:=⟨91,[],[Af Ls,Ykx p],[.Ai (if okL Ls/\Ykk p then (vrS Ls p 0 []).getD [] else [])],.tup [.r 0,lb (okL Ls&&Ykk p&&(vrS Ls p 0 []).isSome)]⟩
theorem Zb4 (Ls:List YS_) (p:YS_) (h:wY p<=1000000000):Zah Ls p:=Ykr call91 func91 (let v1:Tq _ _:=.w (.g (.nilreg 4 true 12)) (.f [1] [.y 12 []] (.tup [.r 0,lb false]));.c [.rd] (Zfx Ls) (.b (!okL Ls) (.y true v1) (.c [.rd] (Z17 p) (.b (!Ykk p) v1 (.d [.rd,.rd,.rd,.own true 12] (Zc Ls p 0 []) (.f [2] [.Ai ((vrI Ls p 0 []).getD [])] (.tup [.r 0,lb (vrI Ls p 0 []).isSome]))))))) (by
 dsimp only[Ykd,Zah]
 have g:Ykk p->Ykp p<=2000/\Yl5 p<=40:=λh=>by simp only[Ykk,af,ak]at h;exact⟨h.1.1,h.1.2⟩
 have g2:=@Y1z4 Ls p
 exact z00)
end
section
set_option maxRecDepth 20000
def tlY (s:YS_):YS_:=⟨0,0,mkS [],[],s.Ia.drop 1⟩
theorem Ywl (s:YS_):Ykp s<=wY s+1:=by
 refine YS_.ind (P:=λs=>Ykp s<=wY s+1) (λs ih => ?_) s
 have:∀ L:List YS_,(∀ x∈L,Ykp x<=wY x+1)->sumBy Ykp L<=L.length+sumBy wY L:=by
  intro L
  induction L with
  | nil=>intro _;simp[sumBy]
  | cons x r ihr=>
   intro h
   have h1:=h x aj
   have h2:=ihr λy hy=>h y (ai _ hy)
   simp only[sumBy,aE];omega
 have h1:=this s.Ia ih
 have h2:=Ylo s
 rw[Yli];omega
theorem Y195 {s:YS_}(h:Ykk s):Ykk (tlY s):=by
 simp only[Ykk,af,ak]at h|-
 have e:s.Ia=s.Ia.take 1++s.Ia.drop 1:=(bf 1 s.Ia).symm
 have h1:sumBy Ykp s.Ia=sumBy Ykp (s.Ia.take 1)+sumBy Ykp (s.Ia.drop 1):=by rw[<- Yo4,<- e]
 have h2:Yll Yl5 s.Ia=max (Yll Yl5 (s.Ia.take 1)) (Yll Yl5 (s.Ia.drop 1)):=by rw[<- Yvz,<- e]
 have h3:=Yli s
 have h4:=Ypk s
 have h5:=Yns h.2
 refine⟨⟨?_,?_⟩,?_⟩
 ·rw[Yli];simp only[tlY];omega
 ·rw[Ypk];simp only[tlY];omega
 ·rw[Yow,af,am]
  refine⟨λx hx=>h5 x (aH hx),?_⟩
  simp[tlY,Ypd,Yp4,Ymz,Ypn,mkS]
theorem Y1b6 (s:YS_):wY (tlY s)<=wY s:=by
 have e:s.Ia=s.Ia.take 1++s.Ia.drop 1:=(bf 1 s.Ia).symm
 have h1:sumBy wY s.Ia=sumBy wY (s.Ia.take 1)+sumBy wY (s.Ia.drop 1):=by rw[<- Yo4,<- e]
 have h2:=Ylo s
 have h3:=Ylo (tlY s)
 have h4:(tlY s).Ta.size=0:=rfl
 have h5:(s.Ia.drop 1).length<=s.Ia.length:=by rw[ay];omega
 simp only[tlY,bp]at h3 h4
 rw[tlY];omega
abbrev Z8y (s:YS_):Ct:=⟨152,[],[Ykx s],[],.sv (.agg [vI 0,vI 0,vS (mkS []),.val (.y),Am (s.Ia.drop 1)])⟩
theorem Z9x (s:YS_) (h:1<=s.Ia.length):Z8y s:=Ykr call152 func152 (let v1:=s.Ia.map Ykb;.p ((0:Int)<=1) (.p (1<=v1.length/\v1.length<=v1.length/\∀ (x0:List Cell),x0∈s.Ia.map Ykb->x0.length=5) (.s (.agg [vI 0,vI 0,vS (mkS []),.val (.y),vL (List.take (v1.length - 1) (v1.drop 1))])))) (by
 dsimp only[Ykd,Z8y]
 have e:(s.Ia.drop 1).take (s.Ia.length - 1)=s.Ia.drop 1:=av (by rw[ay];omega)
 exact zV)
abbrev Z58 (s:YS_):Ct:=⟨92,[],[Ykx s],[],.sv (.agg [vI 0,vI 0,vS (mkS []),.val (.y),Am (s.Ia.drop 1)])⟩
theorem Z3h (s:YS_) (h:1<=s.Ia.length):Z58 s:=Ykr call92 func92 (let v1:=s.Ia.map Ykb;.p ((0:Int)<=1) (.p (1<=v1.length/\v1.length<=v1.length/\∀ (x0:List Cell),x0∈s.Ia.map Ykb->x0.length=5) (.s (.agg [vI 0,vI 0,vS (mkS []),.val (.y),vL (List.take (v1.length - 1) (v1.drop 1))])))) (by
 dsimp only[Ykd,Z58]
 have e:(s.Ia.drop 1).take (s.Ia.length - 1)=s.Ia.drop 1:=av (by rw[ay];omega)
 exact zV)
abbrev Zq (s:YS_):Ct:=⟨154,[],[Ykx s],[],.sv (li (Ykp s))⟩
def Z2t (s:YS_):Lp Nat:=.mk 19 0 (λx=>[(3,hs x 1),(7,Af s.Ia),(8,li (s.Ia.map Ykb).length),(9,hs x 0)]) (λx=>[]) (λk=>[.s (li k),.s (li (↑(1+sumBy Ykp (s.Ia.take k)):Int))]) (λk=>k<=s.Ia.length/\s.Ia.length<=9223372036854775807) (λk=>s.Ia.length - k) [.mk True (.exit 0) (λx=>[(3,hs x 0)]) (λx=>[]) [.s (li (↑(1+sumBy Ykp s.Ia):Int))]]
theorem Zd3 (s:YS_) (h:wY s<=1000000000) (ih:∀ (z:YS_),z∈s.Ia->wY z<=1000000000->OK (Zq z)):Lp.Sem prog (Yks f154 0) (Z2t s):=Yl0 (λk=>let v2:=(↑(1+sumBy Ykp (s.Ia.take k)):Int);let v3:=s.Ia.g k;let v1:=v2+(↑(Ykp v3):Int);.i ((k:Int)<(s.Ia.map Ykb).length) (.x (k:Int) (s.Ia.map Ykb) (Yki v3) (.d [.rd] (Zq v3) (.r v1 (.r ((k:Int)+1) (.g [] (k+1) [.s (li ((k:Int)+1)),.s (li v1)]))))) (.o 0 [] [.s (li v2)])) (by
 intro k h;try dsimp only[Ykd,Yko,Z2t]at h|-
 have g1:=Ylo s
 have g2:=@Yl3 _ wY s.Ia (s.Ia.g k)
 have g3:=@Ynp _ _ Ykp s.Ia k
 have g4:=Ym2 Ykp s.Ia (k+1)
 have g5:=Ywl s
 have g6:=Yli s
 have g7:s.Ia.length<=k->s.Ia.take k=s.Ia:=λh=>av h
 exact z01)
theorem Zgj (s:YS_) (h:wY s<=1000000000) (ih:∀ z∈s.Ia,∀ (h:wY z<=1000000000),Zq z):Zq s:=Ykr call154 func154 (.z Ykb s.Ia (.l (Z2t s) (Zd3 s h ih) [] [.s (li 0),.s (li 1)] 0 (.t (.s (li (↑(1+sumBy Ykp s.Ia):Int))) .q))) (by
 dsimp only[Ykd,Zq,Yko,Z2t]
 have g6:=Yli s
 have g7:sumBy Ykp (s.Ia.take 0)=0:=rfl
 exact z02)
theorem Z84 (s:YS_):∀ (h:wY s<=1000000000),Zq s:=YS_.ind (P:=λs=>∀ (h:wY s<=1000000000),Zq s) (λs ih h=>Zgj s h ih) s
abbrev Zr (s:YS_):Ct:=⟨94,[],[Ykx s],[],.sv (li (Ykp s))⟩
def Z2u (s:YS_):Lp Nat:=.mk 19 0 (λx=>[(3,hs x 1),(7,Af s.Ia),(8,li (s.Ia.map Ykb).length),(9,hs x 0)]) (λx=>[]) (λk=>[.s (li k),.s (li (↑(1+sumBy Ykp (s.Ia.take k)):Int))]) (λk=>k<=s.Ia.length/\s.Ia.length<=9223372036854775807) (λk=>s.Ia.length - k) [.mk True (.exit 0) (λx=>[(3,hs x 0)]) (λx=>[]) [.s (li (↑(1+sumBy Ykp s.Ia):Int))]]
theorem Zd4 (s:YS_) (h:wY s<=1000000000) (ih:∀ (z:YS_),z∈s.Ia->wY z<=1000000000->OK (Zr z)):Lp.Sem prog (Yks f94 0) (Z2u s):=Yl0 (λk=>let v2:=(↑(1+sumBy Ykp (s.Ia.take k)):Int);let v3:=s.Ia.g k;let v1:=v2+(↑(Ykp v3):Int);.i ((k:Int)<(s.Ia.map Ykb).length) (.x (k:Int) (s.Ia.map Ykb) (Yki v3) (.d [.rd] (Zr v3) (.r v1 (.r ((k:Int)+1) (.g [] (k+1) [.s (li ((k:Int)+1)),.s (li v1)]))))) (.o 0 [] [.s (li v2)])) (by
 intro k h;try dsimp only[Ykd,Yko,Z2u]at h|-
 have g1:=Ylo s
 have g2:=@Yl3 _ wY s.Ia (s.Ia.g k)
 have g3:=@Ynp _ _ Ykp s.Ia k
 have g4:=Ym2 Ykp s.Ia (k+1)
 have g5:=Ywl s
 have g6:=Yli s
 have g7:s.Ia.length<=k->s.Ia.take k=s.Ia:=λh=>av h
 exact z01)
theorem Zgk (s:YS_) (h:wY s<=1000000000) (ih:∀ z∈s.Ia,∀ (h:wY z<=1000000000),Zr z):Zr s:=Ykr call94 func94 (.z Ykb s.Ia (.l (Z2u s) (Zd4 s h ih) [] [.s (li 0),.s (li 1)] 0 (.t (.s (li (↑(1+sumBy Ykp s.Ia):Int))) .q))) (by
 dsimp only[Ykd,Zr,Yko,Z2u]
 have g6:=Yli s
 have g7:sumBy Ykp (s.Ia.take 0)=0:=rfl
 exact z02)
theorem Z85 (s:YS_):∀ (h:wY s<=1000000000),Zr s:=YS_.ind (P:=λs=>∀ (h:wY s<=1000000000),Zr s) (λs ih h=>Zgk s h ih) s
def clP (Ls:List YS_) (p:YS_):Bool:=Ykk p&&decide (p.Ka=0) && !decide ((p.Ia.length:Int)=0)&&decide ((p.Ia.g 0).Ka=1) && !Ykt (p.Ia.g 0)&&(vrS Ls (tlY p) 0 []).isSome
def clT (Ls:List YS_) (p t:YS_):Bool:=clP Ls p&&tmF ((vrS Ls (tlY p) 0 []).getD []) t
def Yqz (r:YR_):Nat->Bool
 | 0=>true
 | k+1=>Yqz r k&&clT r.La (r.Pb.g k) (r.Tb.g k)
def clN (r:YR_):Nat->Nat
 | 0=>0
 | k+1=>clN r k+Ykp (r.Pb.g k)+Ykp (r.Tb.g k)
theorem Y12u (r:YR_):∀ (m k:Nat),k<=m->Yqz r m->Yqz r k
 | 0,k,h,_=>by
  obtain rfl:k=0:=by omega
  rfl
 | m+1,k,h,ht=>by
  by_cases e:k=m+1
  ·rw[e];exact ht
  ·refine Y12u r m k oW ?_
   simp only[Yqz,af]at ht;exact ht.1
theorem Y1ci (r:YR_):∀ k,k<=r.Pb.length->r.Pb.length=r.Tb.length->clN r k<=2 * k+sumBy wY (r.Pb.take k)+sumBy wY (r.Tb.take k)
 | 0,_,_=>by simp[clN,sumBy]
 | k+1,hk,hl=>by
  have ih:=Y1ci r k oW hl
  have h1:=@Ynp _ _ wY r.Pb k oW
  have h2:=@Ynp _ _ wY r.Tb k oW
  have h3:=Ywl (r.Pb.g k)
  have h4:=Ywl (r.Tb.g k)
  simp only[clN];omega
def Ym8 (r:YR_):Bool:=okL r.La&&decide ((r.Pb.length:Int)=r.Tb.length)&&decide (1<=(r.Pb.length:Int)/\(r.Pb.length:Int)<=12)&&Yqz r r.Pb.length&&decide ((clN r r.Pb.length:Int)<=2000)
abbrev Z6e (r:YR_):Ct:=⟨105,[],[Yum r],[],.sv (lb (Ym8 r))⟩
def Z2v (r:YR_):Lp Nat:=.mk 100 0 (λx=>[(1,.y 0),(3,hs x 1),(29,Af r.Pb),(30,li (r.Pb.map Ykb).length),(31,hs x 0)]) (λx=>[.box (vals (Ynw r))]) (λk=>[.s (li k),.s (li (↑(clN r k):Int))]) (λk=>k<=r.Pb.length/\r.Pb.length<=9223372036854775807/\r.Pb.length=r.Tb.length/\r.Pb.length<=12/\Yqz r k) (λk=>r.Pb.length - k) [.mk (Yqz r r.Pb.length) (.exit 0) (λx=>[(3,hs x 0)]) (λx=>[]) [.s (li (↑(clN r r.Pb.length):Int))],.mk (Yqz r r.Pb.length=false) .ret (λx=>[(2,hs x 0)]) (λx=>[]) [.s (lb false)]]
theorem Zd5 (r:YR_) (h:wR r<=1000000000):Lp.Sem prog (Yks f105 0) (Z2v r):=Yl0 (λk=>let v1:=r.Pb.g k;let v2:=r.Tb.g k;let v3:Tq _ _:=.y true (.o 1 [] [.s (lb false)]);let v4:=(↑(clN r k):Int);let v5:=YS_.mk 0 0 (mkS []) [] (v1.Ia.drop 1);let v6:=v1.Ia.g 0;let v7:=v4+(↑(Ykp v1):Int)+(↑(Ykp v2):Int);let v8:=(0:Int)<=0/\(v1.Ia.map Ykb)[0]? = some (Yki v6);let v9:=(vrS r.La v5 0 []).getD [];.i ((k:Int)<(r.Pb.map Ykb).length) (.x (k:Int) (r.Pb.map Ykb) (Yki v1) (.c [.rd] (Z7r v1) (.b (!Ykk v1) (.y true (.y true (.y true v3))) (.i (v1.Ka≠0) (.y true (.y true v3)) (.z Ykb v1.Ia (.i (((v1.Ia.map Ykb).length:Int)=0) (.y true v3) (.w (.cells (Yki v6)) (.p v8 (.i (v6.Ka≠1) v3 (.w (.cells (Yki v6)) (.p v8 (.c [.rd] (Z3g v6) (.b (Ykt v6) (.o 1 [] [.s (lb false)]) (.w (.draw [(5,[14])]) (.d [.rd] (Z8y v1) (.w (.bool false) (.d [.rd,.rd,.rd,.own true 12] (Z11 r.La v5 0 []) (.b (!(vrS r.La v5 0 []).isSome) v3 (.x (k:Int) (r.Tb.map Ykb) (Yki v2) (.c [.rd,.rd] (Zk2 v9 v2) (.b (!tmF v9 v2) (.o 1 [] [.s (lb false)]) (.w (.draw []) (.d [.rd] (Zq v1) (.r (v4+(↑(Ykp v1):Int)) (.x (k:Int) (r.Tb.map Ykb) (Yki v2) (.d [.rd] (Zq v2) (.r v7 (.r ((k:Int)+1) (.g [0] (k+1) [.s (li ((k:Int)+1)),.s (li v7)]))))))))))))))))))))))))))))) (.o 0 [] [.s (li v4)])) (by
 intro k h;try dsimp only[Ykd,Yko,Z2v]at h|-
 have g1:=Y12u r r.Pb.length (k+1)
 have g2:Yqz r (k+1)=(Yqz r k&&clT r.La (r.Pb.g k) (r.Tb.g k)):=rfl
 have g3:clN r (k+1)=clN r k+Ykp (r.Pb.g k)+Ykp (r.Tb.g k):=rfl
 have g4:=Y1ci r (k+1)
 have g5:=Ym2 wY r.Pb (k+1)
 have g6:=Ym2 wY r.Tb (k+1)
 have g7:=Y15q r
 have g8:=@Yl3 _ wY r.Pb (r.Pb.g k)
 have g9:=@Yl3 _ wY r.Tb (r.Tb.g k)
 have g10:=@Y195 (r.Pb.g k)
 have g11:=Y1b6 (r.Pb.g k)
 have g12:∀ p,Ykk p->Ykp p<=2000/\Yl5 p<=40:=λp h=>by simp only[Ykk,af,ak]at h;exact⟨h.1.1,h.1.2⟩
 exact z0t)
theorem Z12 (r:YR_) (h:wR r<=1000000000):Z6e r:=Ykr call105 func105 (let v1:=((r.Pb.map Ykb).length:Int);.c [.rd] (Zjn r.La) (.b (!okL r.La) (.y true (.y true (.s (lb false)))) (.z Ykb r.Pb (.z Ykb r.Tb (.i (v1≠((r.Tb.map Ykb).length:Int)) (.y true (.s (lb false))) (.z Ykb r.Pb (.c [.rd,.rd,.rd] (Z6c v1 1 12) (.b (!decide (1<=v1/\v1<=12)) (.s (lb false)) (.z Ykb r.Pb (.l (Z2v r) (Zd5 r h) [0] [.s (li 0),.s (li 0)] 0 (.t (.s (lb (decide ((↑(clN r r.Pb.length):Int)<=2000)))) (.t (.s (lb false)) .q)))))))))))) (by
 dsimp only[Ykd,Z6e,Yko,Z2v]
 exact z0u)
abbrev Z3y (r:YR_):Ct:=⟨41,[],[Yum r],[],.sv (lb (Ym8 r))⟩
def Z2w (r:YR_):Lp Nat:=.mk 104 0 (λx=>[(1,.y 0),(3,hs x 1),(34,Af r.Pb),(35,li (r.Pb.map Ykb).length),(36,hs x 0)]) (λx=>[.box (vals (Ynw r))]) (λk=>[.s (li k),.s (li (↑(clN r k):Int))]) (λk=>k<=r.Pb.length/\r.Pb.length<=9223372036854775807/\r.Pb.length=r.Tb.length/\r.Pb.length<=12/\Yqz r k/\okL r.La) (λk=>r.Pb.length - k) [.mk (Yqz r r.Pb.length) (.exit 0) (λx=>[(3,hs x 0)]) (λx=>[]) [.s (li (↑(clN r r.Pb.length):Int))],.mk (Yqz r r.Pb.length=false) .ret (λx=>[(2,hs x 0)]) (λx=>[]) [.s (lb false)]]
theorem Zd6 (r:YR_) (h:wR r<=1000000000):Lp.Sem prog (Yks f41 0) (Z2w r):=Yl0 (λk=>let v1:=r.Pb.g k;let v2:=r.Tb.g k;let v3:Tq _ _:=.y true (.o 1 [] [.s (lb false)]);let v4:=(↑(clN r k):Int);let v5:=YS_.mk 0 0 (mkS []) [] (v1.Ia.drop 1);let v6:=v1.Ia.g 0;let v7:=(↑(Ykp v1):Int)+(↑(Ykp v2):Int);let v8:=if okL r.La/\Ykk v5 then (vrS r.La v5 0 []).getD [] else [];let v9:=(0:Int)<=0/\(v1.Ia.map Ykb)[0]? = some (Yki v6);.i ((k:Int)<(r.Pb.map Ykb).length) (.x (k:Int) (r.Pb.map Ykb) (Yki v1) (.c [.rd] (Z17 v1) (.b (!Ykk v1) (.y true (.y true (.y true v3))) (.i (v1.Ka≠0) (.y true (.y true v3)) (.z Ykb v1.Ia (.i (((v1.Ia.map Ykb).length:Int)=0) (.y true v3) (.w (.cells (Yki v6)) (.p v9 (.i (v6.Ka≠1) v3 (.w (.cells (Yki v6)) (.p v9 (.c [.rd] (Z1 v6) (.b (Ykt v6) (.o 1 [] [.s (lb false)]) (.w (.draw []) (.d [.rd] (Z58 v1) (.d [.rd,.rd] (Zah r.La v5) (.b (!(okL r.La&&Ykk v5&&(vrS r.La v5 0 []).isSome)) v3 (.x (k:Int) (r.Tb.map Ykb) (Yki v2) (.c [.rd,.rd] (Zk3 v8 v2) (.b (!tmF v8 v2) (.o 1 [] [.s (lb false)]) (.w (.draw []) (.d [.rd] (Zr v1) (.x (k:Int) (r.Tb.map Ykb) (Yki v2) (.d [.rd] (Zr v2) (.r v7 (.r (v4+v7) (.r ((k:Int)+1) (.g [0] (k+1) [.s (li ((k:Int)+1)),.s (li (v4+v7))])))))))))))))))))))))))))))) (.o 0 [] [.s (li v4)])) (by
 intro k h;try dsimp only[Ykd,Yko,Z2w]at h|-
 have g1:=Y12u r r.Pb.length (k+1)
 have g2:Yqz r (k+1)=(Yqz r k&&clT r.La (r.Pb.g k) (r.Tb.g k)):=rfl
 have g3:clN r (k+1)=clN r k+Ykp (r.Pb.g k)+Ykp (r.Tb.g k):=rfl
 have g4:=Y1ci r (k+1)
 have g5:=Ym2 wY r.Pb (k+1)
 have g6:=Ym2 wY r.Tb (k+1)
 have g7:=Y15q r
 have g8:=@Yl3 _ wY r.Pb (r.Pb.g k)
 have g9:=@Yl3 _ wY r.Tb (r.Tb.g k)
 have g10:=@Y195 (r.Pb.g k)
 have g11:=Y1b6 (r.Pb.g k)
 have g12:∀ p,Ykk p->Ykp p<=2000/\Yl5 p<=40:=λp h=>by simp only[Ykk,af,ak]at h;exact⟨h.1.1,h.1.2⟩
 exact z0t)
theorem Za (r:YR_) (h:wR r<=1000000000):Z3y r:=Ykr call41 func41 (let v1:=((r.Pb.map Ykb).length:Int);let v2:Tq _ _:=.y true (.s (lb false));.c [.rd] (Zfx r.La) (.b (!okL r.La) (.y true (.y true v2)) (.z Ykb r.Pb (.z Ykb r.Tb (.i (v1≠((r.Tb.map Ykb).length:Int)) (.y true v2) (.z Ykb r.Pb (.i (v1<1) v2 (.z Ykb r.Pb (.i (12<v1) (.s (lb false)) (.z Ykb r.Pb (.l (Z2w r) (Zd6 r h) [0] [.s (li 0),.s (li 0)] 0 (.t (.s (lb (decide ((↑(clN r r.Pb.length):Int)<=2000)))) (.t (.s (lb false)) .q))))))))))))) (by
 dsimp only[Ykd,Z3y,Yko,Z2w]
 exact z0u)
end
section
def Ym1:List ByteArray:=[mkS [113,117,111,116,101],mkS [108,97,109,98,100,97],mkS [105,102],mkS [115,101,116,33],mkS [98,101,103,105,110],mkS [114,101,115,101,116],mkS [115,104,105,102,116],mkS [100,101,102,105,110,101],mkS [100,101,102,105,110,101,45,115,121,110,116,97,120],mkS [108,101,116,45,115,121,110,116,97,120],mkS [115,121,110,116,97,120,45,114,117,108,101,115],mkS [108,111,99,97,108]]
def Ynu:List ByteArray:=[mkS [43],mkS [45],mkS [42],mkS [61],mkS [60],mkS [99,111,110,115],mkS [99,97,114],mkS [99,100,114],mkS [110,117,108,108,63],mkS [112,97,105,114,63],mkS [110,117,109,98,101,114,63],mkS [101,113,63],mkS [110,111,116],mkS [100,105,115,112,108,97,121]]
def Y143 (Ka:Int):List ByteArray->Int->List YB
 | [],_=>[]
 | s :: r,i=>⟨s,[],Ka,i⟩ :: Y143 Ka r (i+1)
def Ync:List YB:=Y143 1 Ym1 0++Y143 2 Ynu 0
def Yon (k:Nat):List YB:=Ync.take k
theorem Y15l {k:Nat}:(Yon k).length<=k:=by unfold Yon;rw[au];exact Nat.min_le_left _ _
theorem Y13p {k:Nat}(h:k<12):Yon (k+1)=Yon k++[⟨Ym1.g k,[],1,k⟩]:=by
 have:∀ k,k<12->Yon (k+1)=Yon k++[⟨Ym1.g k,[],1,k⟩]:=by
  intro k h;have:k=0\/k=1\/k=2\/k=3\/k=4\/k=5\/k=6\/k=7\/k=8\/k=9\/k=10\/k=11:=by omega
  rcases this with rfl|rfl|rfl|rfl|rfl|rfl|rfl|rfl|rfl|rfl|rfl|rfl<;>rfl
 exact this k h
theorem Y1ga {k:Nat}(h:k<14):Yon (12+(k+1))=Yon (12+k)++[⟨Ynu.g k,[],2,k⟩]:=by
 have:∀ k,k<14->Yon (12+(k+1))=Yon (12+k)++[⟨Ynu.g k,[],2,k⟩]:=by
  intro k h;have:k=0\/k=1\/k=2\/k=3\/k=4\/k=5\/k=6\/k=7\/k=8\/k=9\/k=10\/k=11\/k=12\/k=13:=by omega
  rcases this with rfl|rfl|rfl|rfl|rfl|rfl|rfl|rfl|rfl|rfl|rfl|rfl|rfl|rfl<;>rfl
 exact this k h
def Yqq (k:Nat):List YB:=Ync.take (12+k)
theorem Y1lf {k:Nat}:(Yqq k).length<=12+k:=Y15l
theorem Y13s {k:Nat}(h:k<14):Yqq (k+1)=Yqq k++[⟨Ynu.g k,[],2,k⟩]:=Y1ga h
theorem Y1gd:Yon 12=Yqq 0:=rfl
theorem Y1m0:Yon 0=[]:=rfl
theorem Y1lc:Yqq 14=Ync:=rfl
abbrev Z7v:Ct:=⟨96,[],[],[.Ar Ym1],.sv (.r 0)⟩
theorem Ze4:Z7v:=Ykr call96 func96 (.f [0] [.y 1 [[cS (mkS [113,117,111,116,101])],[cS (mkS [108,97,109,98,100,97])],[cS (mkS [105,102])],[cS (mkS [115,101,116,33])],[cS (mkS [98,101,103,105,110])],[cS (mkS [114,101,115,101,116])],[cS (mkS [115,104,105,102,116])],[cS (mkS [100,101,102,105,110,101])],[cS (mkS [100,101,102,105,110,101,45,115,121,110,116,97,120])],[cS (mkS [108,101,116,45,115,121,110,116,97,120])],[cS (mkS [115,121,110,116,97,120,45,114,117,108,101,115])],[cS (mkS [108,111,99,97,108])]]] (.sv (.r 0))) (by
 dsimp only[Ykd,Z7v]
 exact z03)
abbrev Z4c:Ct:=⟨97,[],[],[.Ar Ynu],.sv (.r 0)⟩
theorem Za6:Z4c:=Ykr call97 func97 (.f [0] [.y 1 [[cS (mkS [43])],[cS (mkS [45])],[cS (mkS [42])],[cS (mkS [61])],[cS (mkS [60])],[cS (mkS [99,111,110,115])],[cS (mkS [99,97,114])],[cS (mkS [99,100,114])],[cS (mkS [110,117,108,108,63])],[cS (mkS [112,97,105,114,63])],[cS (mkS [110,117,109,98,101,114,63])],[cS (mkS [101,113,63])],[cS (mkS [110,111,116])],[cS (mkS [100,105,115,112,108,97,121])]]] (.sv (.r 0))) (by
 dsimp only[Ykd,Z4c]
 exact z03)
abbrev Z5e:Ct:=⟨44,[],[],[.Ac Ync],.sv (.r 0)⟩
def Z13:Lp Nat:=.mk 36 0 (λx=>[(1,.r 0),(21,.r 1),(22,li 14),(23,hs x 0)]) (λx=>[ho x 1,.Ar Ynu]) (λk=>[.s (li k),.o (.Ac (Yqq k))]) (λk=>k<=14) (λk=>14 - k) [.mk True (.exit 2) (λx=>[(1,.r 0)]) (λx=>[ho x 0]) [.o (.Ac Ync)]]
def Z14:Lp Nat:=.mk 36 0 (λx=>[(1,.r 0),(7,.r 1),(8,li 12),(9,hs x 0)]) (λx=>[ho x 1,.Ar Ym1]) (λk=>[.s (li k),.o (.Ac (Yon k))]) (λk=>k<=12) (λk=>12 - k) [.mk True (.exit 0) (λx=>[(1,.r 0)]) (λx=>[ho x 0]) [.o (.Ac (Yqq 0))]]
theorem Z8z:Lp.Sem prog (Yks f44 1) Z13:=Yl0 (λk=>let v1:=Ynu.g (k:Int).toNat;.i ((k:Int)<14) (.p (0<=(k:Int)/\(k:Int).toNat<14) (.w (.cells (Ylu v1)) (.p ((Ynu.map Ylu)[(k:Int).toNat]? = some [cS v1]) (.p ((((Yqq k).map Ykc).length+1) * 56<=140737488355328) (.r ((k:Int)+1) (.g [3,1] (k+1) [.s (li ((k:Int)+1)),.o (.y 4 ((Yqq k).map Ykc++[[cS v1,.list [],cI 2,cI (k:Int)]]))])))))) (.o 0 [0] [.o (.Ac (Yqq k))])) (by
 intro k h;try dsimp only[Ykd,Yko,Z13]at h|-
 have e:Ynu.length=14:=rfl
 have g:=@Y1lf k
 have g2:=@Y13s k
 with_reducible repeat' (first|apply ah|exact zR|(intro))
 all_goals ((try simp only[std,inj]at *);with_reducible and_intros)
 all_goals try first|exact z|grind[Y1lc,Ykl,Ykm,Ykf]
 all_goals (rw[Y13s oW];exact Ykf (C:=Ykc) (Yqq k) ⟨Ynu.g k,[],2,k⟩))
theorem Z90:Lp.Sem prog (Yks f44 0) Z14:=Yl0 (λk=>let v1:=Ym1.g (k:Int).toNat;.i ((k:Int)<12) (.p (0<=(k:Int)/\(k:Int).toNat<12) (.w (.cells (Ylu v1)) (.p ((Ym1.map Ylu)[(k:Int).toNat]? = some [cS v1]) (.p ((((Yon k).map Ykc).length+1) * 56<=140737488355328) (.r ((k:Int)+1) (.g [3,1] (k+1) [.s (li ((k:Int)+1)),.o (.y 4 ((Yon k).map Ykc++[[cS v1,.list [],cI 1,cI (k:Int)]]))])))))) (.o 0 [0] [.o (.Ac (Yon k))])) (by
 intro k h;try dsimp only[Ykd,Yko,Z14]at h|-
 have e:Ym1.length=12:=rfl
 have g:=@Y15l k
 have g2:=@Y13p k
 with_reducible repeat' (first|apply ah|exact zR|(intro))
 all_goals ((try simp only[std,inj]at *);with_reducible and_intros)
 all_goals try first|exact z|grind[Y1m0,Y1gd,Ykl,Ykm,Ykf]
 all_goals (rw[Y13p oW];exact Ykf (C:=Ykc) (Yon k) ⟨Ym1.g k,[],1,k⟩))
theorem Zb5:Z5e:=Ykr call44 func44 (.w (.bool false) (.c [] Ze4 (.h (12<=9223372036854775807) (.l Z14 Z90 [0,1] [.s (li 0),.o (.y 4 [])] 0 (.t (.c [] Za6 (.h (14<=9223372036854775807) (.l Z13 Z8z [0,1] [.s (li 0),.o (.Ac (Yqq 0))] 0 (.t (.f [0] [.Ac Ync] (.sv (.r 0))) .q)))) .q))))) (by
 dsimp only[Ykd,Z5e,Yko,Z14,Z13]
 exact z03)
abbrev Z6f:Ct:=⟨18,[],[],[.Ac Ync],.sv (.agg [.ref 0,.val (.y),vI 0,vI 0,vI 200])⟩
theorem Zbx:Z6f:=Ykr call18 func18 (.c [] Zb5 (.f [1] [.Ac Ync] (.sv (.agg [.ref 0,.val (.y),vI 0,vI 0,vI 200])))) (by
 dsimp only[Ykd,Z6f]
 exact zV)
abbrev Z7w:Ct:=⟨127,[],[],[.Ar Ym1],.sv (.r 0)⟩
theorem Zv:Z7w:=Ykr call127 func127 (.f [0] [.y 1 [[cS (mkS [113,117,111,116,101])],[cS (mkS [108,97,109,98,100,97])],[cS (mkS [105,102])],[cS (mkS [115,101,116,33])],[cS (mkS [98,101,103,105,110])],[cS (mkS [114,101,115,101,116])],[cS (mkS [115,104,105,102,116])],[cS (mkS [100,101,102,105,110,101])],[cS (mkS [100,101,102,105,110,101,45,115,121,110,116,97,120])],[cS (mkS [108,101,116,45,115,121,110,116,97,120])],[cS (mkS [115,121,110,116,97,120,45,114,117,108,101,115])],[cS (mkS [108,111,99,97,108])]]] (.sv (.r 0))) (by
 dsimp only[Ykd,Z7w]
 exact z03)
abbrev Z4d:Ct:=⟨135,[],[],[.Ar Ynu],.sv (.r 0)⟩
theorem Z5f:Z4d:=Ykr call135 func135 (.f [0] [.y 1 [[cS (mkS [43])],[cS (mkS [45])],[cS (mkS [42])],[cS (mkS [61])],[cS (mkS [60])],[cS (mkS [99,111,110,115])],[cS (mkS [99,97,114])],[cS (mkS [99,100,114])],[cS (mkS [110,117,108,108,63])],[cS (mkS [112,97,105,114,63])],[cS (mkS [110,117,109,98,101,114,63])],[cS (mkS [101,113,63])],[cS (mkS [110,111,116])],[cS (mkS [100,105,115,112,108,97,121])]]] (.sv (.r 0))) (by
 dsimp only[Ykd,Z4d]
 exact z03)
end
end Go.Proofs.YtcbodhkhppgkiaaGreat
end
