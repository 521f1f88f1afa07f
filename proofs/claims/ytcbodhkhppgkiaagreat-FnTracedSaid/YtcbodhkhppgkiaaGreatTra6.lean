/- The last form of a trace expands as the first one does, in the expander that the steps leave. No condition. -/
import Derived.Test.YtcbodhkhppgkiaaGreatTra5
import Derived.Lib.AtoiErr
set_option maxHeartbeats 4000000
set_option linter.unusedVariables false
set_option linter.unusedSimpArgs false
section
namespace Go.Proofs.YtcbodhkhppgkiaaGreat
open Go Ab Proofs.Tryz
section
abbrev Zbf (b:List UInt8):Ct:=⟨25,[],[Av b],[crO (Yt9 b)],.sv (.y 0)⟩
def Z7u (b:List UInt8):Lp Nat:=.mk 32 0 (λx=>[(0,Av b),(3,hs x 1),(4,hs x 0)]) (λx=>[]) (λk=>[.s (li k),.s (li (hN b k))]) (λk=>k<=b.length/\b.length<=9223372036854775807/\k<=4000) (λk=>b.length - k) [.mk True (.exit 0) (λx=>[(0,Av b),(3,hs x 0)]) (λx=>[]) [.s (li (hN b (min b.length 4000)))]]
theorem Zjb (b:List UInt8) (h:b.length<=1048576):Lp.Sem prog (Yli f25 0) (Z7u b):=Ylp (λk=>let v1:=(↑(b.g k).toNat:Int);.z Yml b (.i ((k:Int)<(b.map Yml).length) (.i ((k:Int)<4000) (.r (hN b k * 1103) (.x (k:Int) (b.map Yml) [.lit (.int .u8 v1)] (.r v1 (.r (hN b k * 1103+v1) (.r (hN b k * 1103+v1+7) (.r ((k:Int)+1) (.g [] (k+1) [.s (li ((k:Int)+1)),.s (li (Yt3 .i64 (hN b k * 1103+v1+7) 1073741823))]))))))) (.o 0 [] [.s (li (hN b k))])) (.y false (.o 0 [] [.s (li (hN b k))])))) (by
 intro k h;try dsimp only[Yl3,Yle,Z7u]at h|-
 have g1:=Y24h (b:=b) tW k
 have g2:hN b (k+1)=Yt3 .i64 (hN b k * 1103+((b.getD k 0).toNat:Int)+7) 1073741823:=rfl
 have g3:=(b.getD k 0).toNat_lt
 have g4:b.length<=k->k<=4000->min b.length 4000=k\/b.length<k:=by omega
 have g5:4000<=k->k<=4000->k<=b.length->min b.length 4000=k:=by omega
 have g6:k<b.length->(b.map Yml)[k]? = some [.lit (.int .u8 ((b.getD k 0).toNat:Int))]:=λe=>by simp[Yml,ao,e]
 exact z07)
theorem Zjc (b:List UInt8) (h:b.length<=1048576):Zbf b:=Ylh call25 func25 (let v1:=3220+((b.map Yml).length:Int);.z Yml b (.r v1 (.l (Z7u b) (Zjb b h) [] [.s (li 0),.s (li v1)] 0 (.t (.f [0] [.box [Ar b,vI 0,vI (hN b (min b.length 4000))]] (.sv (.y 0))) .q)))) (by
 dsimp only[Yl3,Zbf,Yle,Z7u]
 have g1:hN b 0=3220+(b.length:Int):=rfl
 have g2:crO (Yt9 b)=.box [vL (b.map Yml),vI 0,vI (hN b (min b.length 4000))]:=rfl
 exact z07)
abbrev Z2g (c:Cr):Ct:=⟨112,[crO c],[.y 0],[crO (nxC c)],.sv (li (nxX c))⟩
theorem Zgz (c:Cr) (h:okK c):Z2g c:=Ylh call112 func112 (let v1:=wI .i64 (wI .i64 (c.h * 6364136223846793005)+1442695040888963407);let v2:=(↑(c.b.g c.i).toNat:Int);let v3:=c.b.map Yml;let v4:=Y1ga .i64 (Y11t .i64 v1 33) (Y11t .i64 v1 45);.w (.draw []) (.p ((0:Int)<=33) (.p ((0:Int)<=45) (.w (.draw []) (.z Yml c.b (.i ((c.i:Int)<((c.b.map Yml).length:Int)) (.w (.draw []) (.x (c.i:Int) v3 [.lit (.int .u8 v2)] (.r v2 (.r (Yt3 .i64 v4 255+v2) (.r ((c.i:Int)+1) (.f [] [.box [vL v3,vI ((c.i:Int)+1),vI v1]] (.sv (li (Yt3 .i64 (Yt3 .i64 v4 255+v2) 255))))))))) (.f [] [.box [vL v3,vI (c.i:Int),vI v1]] (.sv (li (Yt3 .i64 v4 255)))))))))) (by
 dsimp only[Yl3,Z2g]
 have g1:=Y1qz c
 have g2:nwR c=Yt3 .i64 (Y1ga .i64 (Y11t .i64 (wI .i64 (wI .i64 (c.h * 6364136223846793005)+1442695040888963407)) 33) (Y11t .i64 (wI .i64 (wI .i64 (c.h * 6364136223846793005)+1442695040888963407)) 45)) 255:=rfl
 have g3:=(c.b.getD c.i 0).toNat_lt
 have g4:c.i<c.b.length->(c.b.map Yml)[c.i]? = some [.lit (.int .u8 ((c.b.getD c.i 0).toNat:Int))]:=λe=>by simp[Yml,ao,e]
 have g5:(c.i:Int)<c.b.length->crO (nxC c)=.box [vL (c.b.map Yml),vI ((c.i:Int)+1),vI (wI .i64 (wI .i64 (c.h * 6364136223846793005)+1442695040888963407))]:=λe=>by rw[Y1e4];show Ob.box [_,vI ((if (c.i:Int)<(c.b.length:Int) then c.i+1 else c.i:Nat):Int),_]=_;rw[ae e];rfl
 have g6:¬ (c.i:Int)<c.b.length->crO (nxC c)=.box [vL (c.b.map Yml),vI (c.i:Int),vI (wI .i64 (wI .i64 (c.h * 6364136223846793005)+1442695040888963407))]:=λe=>by rw[Y1e4];show Ob.box [_,vI ((if (c.i:Int)<(c.b.length:Int) then c.i+1 else c.i:Nat):Int),_]=_;rw[ab e];rfl
 have g7:=Y1pf c
 with_reducible repeat' (first|apply ah|exact zR|(intro))
 all_goals ((try simp only[std,inj]at *);with_reducible and_intros)
 all_goals try first|exact zw|grind[Y1md,Yla,Ylb,Yl5])
abbrev Z4 (c:Cr) (n:Int):Ct:=⟨55,[crO c],[.y 0,li n],[crO (beC c n)],.sv (li (beX c n))⟩
theorem Z6z (c:Cr) (n:Int) (h:okK c):Z4 c n:=Ylh call55 func55 (let v1:=nxC (nxC c);let v2:=nxX c * 16777216+nxX (nxC c) * 65536+nxX v1 * 256+nxX (nxC v1);.i (n<=0) (.f [] [.box [Ar c.b,vI (c.i:Int),vI c.h]] (.sv (li 0))) (.i (n<=256) (.d [.ptr] (Z2g c) (.p (n≠0) (.f [] [.box [Ar (nxC c).b,vI (↑(nxC c).i:Int),vI (nxC c).h]] (.sv (li ((nxX c).tmod n)))))) (.d [.ptr] (Z2g c) (.d [.ptr] (Z2g (nxC c)) (.d [.ptr] (Z2g v1) (.d [.ptr] (Z2g (nxC v1)) (.r (nxX c * 16777216) (.r (nxX (nxC c) * 65536) (.r (nxX c * 16777216+nxX (nxC c) * 65536) (.r (nxX v1 * 256) (.r (nxX c * 16777216+nxX (nxC c) * 65536+nxX v1 * 256) (.r v2 (.p (n≠0) (.f [] [.box [Ar (nxC (nxC v1)).b,vI (↑(nxC (nxC v1)).i:Int),vI (nxC (nxC v1)).h]] (.sv (li (v2.tmod n))))))))))))))))) (by
 dsimp only[Yl3,Z4]
 have g1:=Yvq c
 have g2:=Yvq (nxC c)
 have g3:=Yvq (nxC (nxC c))
 have g4:=Yvq (nxC (nxC (nxC c)))
 have g5:=@Y25k c n
 have g6:=@Y26f c n
 have g7:=@Y26a c n
 with_reducible repeat' (first|apply ah|exact zR|(intro)|apply Zgz)
 all_goals ((try simp only[std,inj]at *);with_reducible and_intros)
 all_goals try with_reducible first|apply Zgz
 all_goals try first|exact zw|grind[Yzc,crO,Yla,Ylb,Yl5])
abbrev Z2h (c:Cr) (L:List ByteArray):Ct:=⟨60,[crO c,.At L],[.y 0,.r 1],[crO (beC c (L.length:Int)),.dead],.sv (ls (L.g (beX c (L.length:Int)).toNat))⟩
theorem Zcs (c:Cr) (L:List ByteArray) (h:okK c/\0<L.length/\L.length<=1000):Z2h c L:=Ylh call60 func60 (let v1:=((L.map Ymj).length:Int);let v2:=L.g (beX c v1).toNat;.z Ymj L (.d [.ptr,.rd] (Z4 c v1) (.p (0<=beX c v1/\(beX c v1).toNat<(L.map Ymj).length) (.w (.cells (Ymj v2)) (.p ((L.map Ymj)[(beX c v1).toNat]? = some [cS v2]) (.w (.m 1) (.f [] [.box [Ar (beC c v1).b,vI (↑(beC c v1).i:Int),vI (beC c v1).h],.dead] (.sv (ls v2))))))))) (by
 dsimp only[Yl3,Z2h]
 have g1:=Ysc c (n:=(L.length:Int)) oW
 have g2:(L.map Ymj)[(beX c (L.length:Int)).toNat]? = some [cS (L.g (beX c (L.length:Int)).toNat)]:=Yyi oW rfl
 with_reducible repeat' (first|apply ah|exact zR|(intro)|apply Z6z)
 all_goals ((try simp only[std,inj]at *);with_reducible and_intros)
 all_goals try with_reducible first|apply Z6z
 all_goals try first|exact zw|grind[crO,Yla,Ylb,Yl5])
end
def Y19p:Yd:=⟨0,0,mkS [],[]⟩
def Ymv (s:ByteArray):Yd:=if Yox s then Y1rm s else Y19p
def Yxd (s:ByteArray):Yd:=if Yq5 s then ⟨4,0,s,[]⟩ else Y19p
def Yo8 (n:Int):Yd:=if -999999999<=n/\n<=999999999 then ⟨2,n,mkS [],[]⟩ else Y19p
def Ywz (b:Bool):Yd:=⟨3,if b then 1 else 0,mkS [],[]⟩
section
abbrev Zfh (s:ByteArray):Ct:=⟨99,[],[ls s],[],.sv (.agg [vI (Ymv s).Ka,vI (Ymv s).Na,vS (Ymv s).Ta,.val (.y)])⟩
theorem Zky (s:ByteArray):Zfh s:=Ylh call99 func99 (let v1:Cell:=.y;.c [.rd] (Z4s s) (.b (!Yox s) (.s (.agg [vI 0,vI 0,vS (mkS []),.val v1])) (.s (.agg [vI 1,vI 0,vS s,.val v1])))) (by
 dsimp only[Yl3,Zfh]
 with_reducible repeat' (first|apply ah|exact zR|(intro))
 all_goals ((try simp only[std,inj]at *);with_reducible and_intros)
 all_goals try first|exact z|grind[Ymv,Y1rm,Y19p,Yla,Ylb,Yl5])
abbrev Zfi (s:ByteArray):Ct:=⟨59,[],[ls s],[],.sv (.agg [vI (Yxd s).Ka,vI (Yxd s).Na,vS (Yxd s).Ta,.val (.y)])⟩
theorem Z70 (s:ByteArray):Zfi s:=Ylh call59 func59 (let v1:Cell:=.y;.c [.rd] (Z73 s) (.b (!Yq5 s) (.s (.agg [vI 0,vI 0,vS (mkS []),.val v1])) (.s (.agg [vI 4,vI 0,vS s,.val v1])))) (by
 dsimp only[Yl3,Zfi]
 with_reducible repeat' (first|apply ah|exact zR|(intro))
 all_goals ((try simp only[std,inj]at *);with_reducible and_intros)
 all_goals try first|exact z|grind[Yxd,Y19p,Yla,Ylb,Yl5])
abbrev Zfj (n:Int):Ct:=⟨57,[],[li n],[],.sv (.agg [vI (Yo8 n).Ka,vI (Yo8 n).Na,vS (Yo8 n).Ta,.val (.y)])⟩
theorem Z10 (n:Int):Zfj n:=Ylh call57 func57 (let v1:Cell:=.y;.c [.rd,.rd,.rd] (Z6j n (-999999999:Int) 999999999) (.b (!decide ((-999999999:Int)<=n/\n<=999999999)) (.s (.agg [vI 0,vI 0,vS (mkS []),.val v1])) (.s (.agg [vI 2,vI n,vS (mkS []),.val v1])))) (by
 dsimp only[Yl3,Zfj]
 with_reducible repeat' (first|apply ah|exact zR|(intro))
 all_goals ((try simp only[std,inj]at *);with_reducible and_intros)
 all_goals try first|exact z|grind[Yo8,Y19p,Yla,Ylb,Yl5])
abbrev Zfk (b:Bool):Ct:=⟨58,[],[lb b],[],.sv (.agg [vI (Ywz b).Ka,vI (Ywz b).Na,vS (Ywz b).Ta,.val (.y)])⟩
theorem Zc2 (b:Bool):Zfk b:=Ylh call58 func58 (let v1:Cell:=.y;.b b (.s (.agg [vI 3,vI 1,vS (mkS []),.val v1])) (.s (.agg [vI 3,vI 0,vS (mkS []),.val v1]))) (by
 dsimp only[Yl3,Zfk]
 with_reducible repeat' (first|apply ah|exact zR|(intro))
 all_goals ((try simp only[std,inj]at *);with_reducible and_intros)
 all_goals try first|exact z|grind[Ywz,Yla,Ylb,Yl5])
end
theorem Y18z {u:Nat}(h:u<10):Lib.decDigits u=[UInt8.ofNat (48+u)]:=by rw[Lib.decDigits,dif_pos h]
theorem Y1gw {u:Nat}(h:¬ u<10):Lib.decDigits u=Lib.decDigits (u / 10)++[UInt8.ofNat (48+u % 10)]:=by rw[Lib.decDigits,dif_neg h]
theorem Y1ji:∀ (k u:Nat),u<10 ^ (k+1)->(Lib.decDigits u).length<=k+1
 | k,u,h=>by
  by_cases hu:u<10
  ·rw[Y18z hu];simp
  ·cases k with
   | zero=>exact absurd (by simpa using h) hu
   | succ k=>
    have:=Y1ji k (u / 10) (by rw[Nat.pow_succ]at h;omega)
    rw[Y1gw hu];simp only[aw,aD,bo];omega
def dgs (u:Nat):List UInt8:=if u=0 then [] else Lib.decDigits u
theorem Y1t7 {u:Nat}(h:u≠0):dgs u=dgs (u / 10)++[UInt8.ofNat (48+u % 10)]:=by
 unfold dgs
 rw[ab h]
 by_cases hu:u<10
 ·rw[Y18z hu,ae oW,Nat.mod_eq_of_lt hu];rfl
 ·rw[Y1gw hu,ab oW]
theorem Y1tn:dgs 0=[]:=rfl
theorem Y226 {u:Nat}(h:u≠0):dgs u=Lib.decDigits u:=ab h
theorem Y1h4 {n:Int}(h:0<=n):Lib.itoa n=Lib.decDigits n.natAbs:=by
 unfold Lib.itoa;rw[ab oW];congr 1;omega
theorem Y1so {n:Int}(h:n<0):Lib.itoa n=45 :: Lib.decDigits n.natAbs:=by unfold Lib.itoa;rw[ae h]
theorem Y1oo:Lib.itoa 0=[48]:=by rw[Y1h4 dW];exact Y18z dW
theorem Y1pg {n:Int}(h : -9223372036854775808<=n/\n<=9223372036854775807):(Lib.decDigits n.natAbs).length<=20:=by
 have e:(10:Nat) ^ (19+1)=100000000000000000000:=by decide
 exact Y1ji 19 n.natAbs oW
def atN (s:ByteArray):Nat:=if 0<(s.size:Int)/\((s.data.toList.getD 0 0).toNat:Int)=45 then 1 else 0
def Y1na (s:ByteArray):Option Nat:=Lib.decFrom 0 ((tx s).drop (atN s))
def Y132 (s:ByteArray):Bool:=(Y1na s).isSome
def magN (s:ByteArray):Nat:=(Y1na s).getD 0
def sgN (s:ByteArray):Int:=if atN s=1 then 0 - (magN s:Int) else magN s
def Y1uk (s:ByteArray):Bool:=decide (atN s<s.size/\s.size<=atN s+9)&&Y132 s
def Ysz (s:ByteArray):Bool:=Y1uk s&&decide (Lib.itoa (sgN s)=tx s)
def Yug (s:ByteArray):Int:=if Ysz s then sgN s else 0
def Yym (s:ByteArray) (k:Nat):Option Nat:=Lib.decFrom 0 (((tx s).drop (atN s)).take (k - atN s))
theorem Y1s0 (s:ByteArray):Yym s (atN s)=some 0:=by simp[Yym,Lib.decFrom]
theorem Y1x9 {s:ByteArray}{m:Nat}(h:Yym s s.size=some m):Y132 s/\magN s=m:=by
 have e:((tx s).drop (atN s)).take (s.size - atN s)=(tx s).drop (atN s):=ar (by rw[ax];exact aC _)
 unfold Yym at h;rw[e]at h
 simp[Y132,magN,Y1na,h]
theorem Y22u (s:ByteArray):atN s<=1:=by unfold atN;split<;>omega
theorem Y1g7 {l:List UInt8}{a k:Nat}(h1:a<=k) (h2:k<l.length):(l.drop a)[k - a]? = some (l.getD k 0):=by
 rw[aX,show a+(k - a)=k by omega];simp[h2]
theorem Y1s4 {s:ByteArray}{k m:Nat}(h1:atN s<=k) (h2:k<s.size) (h:Yym s k=some m) (hd:48<=((tx s).getD k 0).toNat/\((tx s).getD k 0).toNat<=57) :
  Yym s (k+1)=some (m * 10+(((tx s).getD k 0).toNat - 48)):=by
 unfold Yym at *
 rw[show k+1 - atN s=k - atN s+1 by omega]
 exact Lib.decFrom_take _ _ _ _ _ _ h (Y1g7 h1 h2) (by unfold Lib.digitVal;rw[ae hd])
theorem Y1t5 {s:ByteArray}{k:Nat}(h1:atN s<=k) (h2:k<s.size) (hd:¬ (48<=((tx s).getD k 0).toNat/\((tx s).getD k 0).toNat<=57)):Y132 s=false:=by
 cases e:Y1na s with
 | none=>simp[Y132,e]
 | some m=>
  obtain⟨d,hd'⟩:=Lib.digit_of_decFrom _ _ _ e _ _ (Y1g7 h1 h2)
  unfold Lib.digitVal at hd'
  rw[ab hd]at hd';cases hd'
theorem Y1qc {s:ByteArray}{k m:Nat}(h:Yym s k=some m) (hk:k<=atN s+9):m<1000000000:=by
 have h1:=Lib.decFrom_lt _ 0 m h
 have h2:(((tx s).drop (atN s)).take (k - atN s)).length<=9:=by rw[au];omega
 have h3:=Nat.pow_le_pow_right (n:=10) dW h2
 have e:(10:Nat) ^ 9=1000000000:=by decide
 omega
theorem Y1qr {s:ByteArray}(h:Y132 s) (hk:s.size<=atN s+9):magN s<1000000000:=by
 have e:((tx s).drop (atN s)).take (s.size - atN s)=(tx s).drop (atN s):=ar (by rw[ax];exact aC _)
 obtain⟨m,hm⟩:=Option.isSome_iff_exists.1 h
 have:=Y1qc (s:=s) (k:=s.size) (m:=m) (by unfold Yym;rw[e];exact hm) hk
 simp only[magN,hm,cH];exact this
theorem Y1q8 {s:ByteArray}(h:Ysz s) : -999999999<=Yug s/\Yug s<=999999999/\Yug s=sgN s/\Lib.itoa (sgN s)=tx s:=by
 have e:Yug s=sgN s:=by unfold Yug;rw[ae h]
 simp only[Ysz,Y1uk,af,ak]at h
 have:=Y1qr h.1.2 h.1.1.2
 refine⟨?_,?_,e,h.2⟩<;>rw[e]<;>unfold sgN<;>split<;>omega
theorem Y1ta {s:ByteArray}(h:Ysz s=false):Yug s=0:=by unfold Yug;rw[h];rfl
theorem Y1o3 {n:Int}:rng .u8 n ↔ 0<=n/\n<=255:=by
 simp[rng,IntKind.min,IntKind.max,IntKind.signed,IntKind.bits]
theorem Y1yy {m:Int}(h:0<=m/\m<=255):((UInt8.ofNat m.toNat).toNat:Int)=m:=by
 rw[UInt8.toNat_ofNat'];omega
def Yqc (n:Int):Bool:=decide (n=32\/n=10\/n=9)
def Y12r (n:Int):Bool:=decide (n=40\/n=41\/n=34\/n=59\/n=39)
def isRu (n:Int):Bool := !Yqc n && !Y12r n
def pas (p:Int->Bool):List UInt8->List UInt8
 | []=>[]
 | b :: r=>if p b.toNat then pas p r else b :: r
def pre (p:Int->Bool):List UInt8->List UInt8
 | []=>[]
 | b :: r=>if p b.toNat then b :: pre p r else []
def noQ (n:Int):Bool := !decide (n=34)
theorem Yuk (p:Int->Bool):∀ r,pas p r <:+ r
 | []=>List.suffix_refl _
 | b :: r=>by
  unfold pas;split
  ·exact(Yuk p r).trans (List.suffix_cons b r)
  ·exact List.suffix_refl _
theorem Y1ij (p:Int->Bool):∀ r,pre p r++pas p r=r
 | []=>rfl
 | b :: r=>by
  unfold pas pre;split
  ·rw[bE,Y1ij p r]
  ·rfl
theorem Y1dk (p:Int->Bool):∀ r,pas p (pas p r)=pas p r
 | []=>rfl
 | b :: r=>by
  by_cases h:p b.toNat
  ·have e:pas p (b :: r)=pas p r:=by show (if p b.toNat then pas p r else b :: r)=_;rw[ae h]
   rw[e];exact Y1dk p r
  ·have e:pas p (b :: r)=b :: r:=by show (if p b.toNat then pas p r else b :: r)=_;rw[ab h]
   rw[e,e]
abbrev skp:=pas Yqc
def by0 (r:List UInt8):Int:=((r.getD 0 0).toNat:Int)
def Yqk (t:ByteArray):Option Yd:=
 if Ysz t then some ⟨2,Yug t,mkS [],[]⟩ else if tx t=[35,116] then some ⟨3,1,mkS [],[]⟩ else if tx t=[35,102] then some ⟨3,0,mkS [],[]⟩ else if Yox t then some ⟨1,0,t,[]⟩ else none
def clo (r:List UInt8):Option (List UInt8):=if skp r≠[]/\by0 (skp r)=41 then some ((skp r).drop 1) else none
mutual
def ckD:Yd->List UInt8->Option (List UInt8)
 | ⟨k,n,t,l⟩,r=>
  if skp r=[]\/by0 (skp r)=41\/by0 (skp r)=39\/by0 (skp r)=59 then none
  else if by0 (skp r)=40 then (if k=0/\n=0/\t=mkS [] then (ckP l ((skp r).drop 1)).bind clo else none)
  else if by0 (skp r)=34 then (if k=4/\n=0/\t=mkS (pre noQ ((skp r).drop 1))/\l=[]/\Yq5 t/\pas noQ ((skp r).drop 1)≠[] then some ((pas noQ ((skp r).drop 1)).drop 1) else none)
  else if Yqk (mkS (pre isRu (skp r)))=some ⟨k,n,t,l⟩ then some (pas isRu (skp r)) else none
def ckP:List Yd->List UInt8->Option (List UInt8)
 | [],r=>some r
 | x :: l,r=>(ckD x r).bind λq=>ckP l q
end
theorem Y1pi (d:Yd) (r:List UInt8):ckD d r =
  if skp r=[]\/by0 (skp r)=41\/by0 (skp r)=39\/by0 (skp r)=59 then none
  else if by0 (skp r)=40 then (if d.Ka=0/\d.Na=0/\d.Ta=mkS [] then (ckP d.Ia ((skp r).drop 1)).bind clo else none)
  else if by0 (skp r)=34 then (if d.Ka=4/\d.Na=0/\d.Ta=mkS (pre noQ ((skp r).drop 1))/\d.Ia=[]/\Yq5 d.Ta/\pas noQ ((skp r).drop 1)≠[] then some ((pas noQ ((skp r).drop 1)).drop 1) else none)
  else if Yqk (mkS (pre isRu (skp r)))=some d then some (pas isRu (skp r)) else none:=by
 cases d;rw[ckD]
theorem Y1eg {r q:List UInt8}(h:clo r=some q):skp r≠[]/\by0 (skp r)=41/\q=(skp r).drop 1:=by
 unfold clo at h;split at h
 ·rename_i e;exact⟨e.1,e.2,(ce h).symm⟩
 ·cases h
theorem Y11y (l:List UInt8):l.drop 1 <:+ l:=List.drop_suffix 1 l
theorem Y19t {L:List Yd}(ih:∀ (d:Yd),d∈L->∀ r q,ckD d r=some q->q <:+ r):∀ (l:List Yd),(∀ d∈l,d∈L)->∀ r q,ckP l r=some q->q <:+ r
 | [],_,r,q,h=>by simp only[ckP,aa]at h;rw[h];exact List.suffix_refl _
 | x :: l,hl,r,q,h=>by
  simp only[ckP,cX]at h
  obtain⟨m,h1,h2⟩:=h
  exact(Y19t ih l (λd hd=>hl d (ai _ hd)) m q h2).trans (ih x (hl x aj) r m h1)
theorem Y1iv:∀ (d:Yd) (r q:List UInt8),ckD d r=some q->q <:+ r:=by
 refine Yd.ind λd ih r q h => ?_
 have hs:=Yuk Yqc r
 have h1:=(Y11y (skp r)).trans hs
 rw[Y1pi]at h
 split at h
 ·cases h
 split at h
 ·split at h
  ·rw[cX]at h
   obtain⟨m,h2,h3⟩:=h
   have h4:=Y1eg h3
   rw[h4.2.2]
   exact((Y11y _).trans (Yuk Yqc m)).trans ((Y19t ih d.Ia (λ_ h=>h) _ _ h2).trans h1)
  ·cases h
 split at h
 ·split at h
  ·rw[<- ce h]
   exact((Y11y _).trans (Yuk noQ _)).trans h1
  ·cases h
 split at h
 ·rw[<- ce h];exact(Yuk isRu _).trans hs
 ·cases h
def rs (s:ByteArray) (a:Nat):List UInt8:=(tx s).drop a
def plR (s:ByteArray) (r:List UInt8):Nat:=s.size - r.length
theorem Ywn (s:ByteArray) (a:Nat):(rs s a).length=s.size - a:=by unfold rs;rw[ax];rfl
theorem Y17z {s:ByteArray}{a:Nat}{q:List UInt8}(ha:a<=s.size) (h:q <:+ rs s a):rs s (plR s q)=q/\a<=plR s q/\plR s q<=s.size/\q.length=s.size - plR s q:=by
 have h1:=h.length_le
 rw[Ywn]at h1
 have h2:q <:+ tx s:=h.trans (List.drop_suffix a _)
 have h3:=(List.suffix_iff_eq_drop.1 h2)
 have e:(tx s).length=s.size:=rfl
 rw[e]at h3
 exact⟨h3.symm,by unfold plR;omega,by unfold plR;omega,by unfold plR;omega⟩
theorem Ytf {s:ByteArray}{a:Nat}(h:a<s.size):rs s a=(tx s).getD a 0 :: rs s (a+1):=Yof (L:=tx s) h
theorem Y1pv {s:ByteArray}{a:Nat}(h:s.size<=a):rs s a=[]:=bB h
theorem Y1nl {s:ByteArray}{a:Nat}:rs s a≠[] ↔ a<s.size:=by
 constructor
 ·intro h;rcases bH a s.size with e|e
  ·exact e
  ·exact absurd (Y1pv e) h
 ·intro h;rw[Ytf h];simp
theorem Y1q5 {s:ByteArray}{a:Nat}(h:a<s.size):by0 (rs s a)=(((tx s).getD a 0).toNat:Int):=by rw[Ytf h];rfl
def pst (p:Int->Bool) (s:ByteArray) (a:Nat):Nat:=plR s (pas p (rs s a))
theorem Yua (p:Int->Bool) {s:ByteArray}{a:Nat}(h:a<=s.size):rs s (pst p s a)=pas p (rs s a)/\a<=pst p s a/\pst p s a<=s.size:=by
 have:=Y17z h (Yuk p (rs s a));exact⟨this.1,this.2.1,this.2.2.1⟩
theorem Y1fc (p:Int->Bool) {s:ByteArray}{a:Nat}(h:a<s.size) (hp:p ((tx s).getD a 0).toNat):pst p s (a+1)=pst p s a:=by
 unfold pst;rw[Ytf h];simp only[pas];rw[ae hp]
theorem Y155 (p:Int->Bool) {s:ByteArray}{a:Nat}(h:a<=s.size) (hp:a<s.size->p ((tx s).getD a 0).toNat=false):pst p s a=a:=by
 rcases bH a s.size with e|e
 ·unfold pst;rw[Ytf e];simp only[pas];rw[ab (by rw[hp e];decide),<- Ytf e]
  unfold plR;rw[Ywn];omega
 ·unfold pst;rw[Y1pv e];unfold pas plR;simp;omega
theorem Y1se (p:Int->Bool) {s:ByteArray}{a:Nat}(h:a<=s.size):pst p s (pst p s a)=pst p s a:=by
 have h1:=Yua p h
 unfold pst at h1|-;rw[h1.1,Y1dk]
theorem Y1kw (p:Int->Bool) {s:ByteArray}{a:Nat}(h:a<=s.size):(rs s a).take (pst p s a - a)=pre p (rs s a):=by
 have h1:=Y1ij p (rs s a)
 have h2:=Y17z h (Yuk p (rs s a))
 have h3:=ci List.length h1
 rw[aw,Ywn]at h3
 have h4:(pre p (rs s a)).length=pst p s a - a:=by unfold pst;omega
 have h5:(pre p (rs s a)++pas p (rs s a)).take (pre p (rs s a)).length=pre p (rs s a):=List.take_left
 rw[h1,h4]at h5;exact h5
def okR (d:Yd) (s:ByteArray) (a:Nat):Bool:=(ckD d (rs s a)).isSome
def enR (d:Yd) (s:ByteArray) (a:Nat):Nat:=plR s ((ckD d (rs s a)).getD [])
def okP (l:List Yd) (s:ByteArray) (a:Nat):Bool:=(ckP l (rs s a)).isSome
def enP (l:List Yd) (s:ByteArray) (a:Nat):Nat:=plR s ((ckP l (rs s a)).getD [])
def sk (s:ByteArray) (a:Nat):Nat:=pst Yqc s a
theorem Y1ue (l:List Yd) (r q:List UInt8) (h:ckP l r=some q):q <:+ r:=Y19t (L:=l) (λd _=>Y1iv d) l (λ_ h=>h) r q h
theorem Y1zf {d:Yd}{s:ByteArray}{a:Nat}(h:a<=s.size) (hd:okR d s a):ckD d (rs s a)=some (rs s (enR d s a))/\a<=enR d s a/\enR d s a<=s.size:=by
 obtain⟨q,hq⟩:=Option.isSome_iff_exists.1 hd
 have:=Y17z h (Y1iv d _ _ hq)
 unfold enR;rw[hq,cH,this.1];exact⟨rfl,this.2.1,this.2.2.1⟩
theorem Y11r {l:List Yd}{s:ByteArray}{a:Nat}(h:a<=s.size) (hd:okP l s a):ckP l (rs s a)=some (rs s (enP l s a))/\a<=enP l s a/\enP l s a<=s.size:=by
 obtain⟨q,hq⟩:=Option.isSome_iff_exists.1 hd
 have:=Y17z h (Y1ue l _ _ hq)
 unfold enP;rw[hq,cH,this.1];exact⟨rfl,this.2.1,this.2.2.1⟩
theorem Y19i (s:ByteArray) {a:Nat}(h:a<=s.size):enP [] s a=a:=by
 unfold enP;rw[ckP];unfold plR;rw[cH,Ywn];omega
theorem Yzt:∀ (l m:List Yd) (r:List UInt8),ckP (l++m) r=(ckP l r).bind λq=>ckP m q
 | [],m,r=>by simp[ckP]
 | x :: l,m,r=>by
  rw[bE,ckP,ckP]
  cases ckD x r with
  | none=>rfl
  | some q=>simp only[dE];exact Yzt l m q
theorem Y102 {l:List Yd}{s:ByteArray}{a k:Nat}(h:a<=s.size) (hd:okP l s a):okP (l.take k) s a:=by
 unfold okP at *;rw[<- be k l,Yzt]at hd
 cases e:ckP (l.take k) (rs s a) with
 | none=>rw[e]at hd;cases hd
 | some q=>rfl
theorem Y1em {l:List Yd}{s:ByteArray}{a k:Nat}(h:a<=s.size) (hd:okP l s a) (hk:k<l.length) :
  okR (l.g k) s (enP (l.take k) s a)/\enP (l.take (k+1)) s a=enR (l.g k) s (enP (l.take k) s a):=by
 have h1:=Y102 (k:=k) h hd
 have h2:=Y102 (k:=k+1) h hd
 have h3:=Y11r h h1
 rw[Ylk hk]at h2
 have h4:ckP (l.take k++[l.g k]) (rs s a)=ckD (l.g k) (rs s (enP (l.take k) s a)):=by
  rw[Yzt,h3.1,dE,ckP]
  cases ckD (l.g k) (rs s (enP (l.take k) s a))<;>rfl
 constructor
 ·unfold okR;unfold okP at h2;rw[h4]at h2;exact h2
 ·rw[Ylk hk];unfold enP enR;rw[h4];rfl
def byt (s:ByteArray) (a:Nat):Int:=((s.data.toList.getD a 0).toNat:Int)
theorem Y1qi (s:ByteArray) (a:Nat):byt s a=(((tx s).getD a 0).toNat:Int):=rfl
def noc (s:ByteArray) (a:Nat):Bool := !(decide (sk s a<s.size)&&decide (byt s (sk s a)=59))
def sbs (s:ByteArray) (a b:Nat):ByteArray:=mkS (((tx s).drop a).take (b - a))
theorem Y222 {s:ByteArray}{a:Nat}(h:a<=s.size) {q:List UInt8}(hq:clo (rs s a)=some q):sk s a<s.size/\byt s (sk s a)=41/\plR s q=sk s a+1/\noc s a:=by
 have h1:=Y1eg hq
 have h2:=(Yua Yqc h).1
 have h3:sk s a<s.size:=Y1nl.1 (by unfold sk;rw[h2];exact h1.1)
 have h4:byt s (sk s a)=41:=by rw[Y1qi,<- Y1q5 h3];unfold sk;rw[h2];exact h1.2.1
 refine⟨h3,h4,?_,by simp[noc,h4]⟩
 have h5:q=rs s (sk s a+1):=by
  rw[h1.2.2];show (pas Yqc (rs s a)).drop 1=_;rw[<- h2];show (rs s (sk s a)).drop 1=_;rw[Ytf h3];rfl
 rw[h5];unfold plR;rw[Ywn];omega
theorem Yr4 {d:Yd}{s:ByteArray}{a:Nat}(h:a<=s.size) (hd:okR d s a) :
  noc s a/\sk s a<s.size/\byt s (sk s a)≠41/\byt s (sk s a)≠39/\byt s (sk s a)≠59 /\
  ((byt s (sk s a)=40/\d.Ka=0/\d.Na=0/\d.Ta=mkS []/\okP d.Ia s (sk s a+1)/\noc s (enP d.Ia s (sk s a+1))/\sk s (enP d.Ia s (sk s a+1))<s.size/\byt s (sk s (enP d.Ia s (sk s a+1)))=41/\enR d s a=sk s (enP d.Ia s (sk s a+1))+1)\/(byt s (sk s a)=34/\d.Ka=4/\d.Na=0/\d.Ia=[]/\d.Ta=sbs s (sk s a+1) (pst noQ s (sk s a+1))/\Yq5 d.Ta/\pst noQ s (sk s a+1)<s.size/\enR d s a=pst noQ s (sk s a+1)+1)\/(byt s (sk s a)≠40/\byt s (sk s a)≠34/\Yqk (sbs s (sk s a) (pst isRu s (sk s a)))=some d/\enR d s a=pst isRu s (sk s a))):=by
 obtain⟨q,hq⟩:=Option.isSome_iff_exists.1 hd
 have he:enR d s a=plR s q:=by unfold enR;rw[hq];rfl
 have h2:=Yua Yqc h
 rw[Y1pi]at hq
 change rs s (sk s a)=skp (rs s a)/\a<=sk s a/\sk s a<=s.size at h2
 rw[<- h2.1]at hq
 split at hq
 ·cases hq
 rename_i h3
 simp only[not_or]at h3
 have h4:sk s a<s.size:=Y1nl.1 h3.1
 have hb:by0 (rs s (sk s a))=byt s (sk s a):=by rw[Y1q5 h4,Y1qi]
 have hd1:(rs s (sk s a)).drop 1=rs s (sk s a+1):=by rw[Ytf h4];rfl
 rw[hb]at h3 hq
 rw[hd1]at hq
 refine⟨by simp[noc,h3.2.2.2],h4,h3.2.1,h3.2.2.1,h3.2.2.2,?_⟩
 split at hq
 ·rename_i h5
  split at hq
  ·rename_i h6
   rw[cX]at hq
   obtain⟨m,h7,h8⟩:=hq
   have ho:okP d.Ia s (sk s a+1):=by unfold okP;rw[h7];rfl
   have h9:=Y11r oW ho
   rw[h7,aa]at h9
   rw[h9.1]at h8
   have h10:=Y222 h9.2.2 h8
   exact .inl ⟨h5,h6.1,h6.2.1,h6.2.2,ho,h10.2.2.2,h10.1,h10.2.1,by rw[he,h10.2.2.1]⟩
  ·cases hq
 rename_i h5
 split at hq
 ·rename_i h6
  split at hq
  ·rename_i h7
   have h8:=Yua noQ (s:=s) (a:=sk s a+1) oW
   rw[<- h8.1]at h7
   have h9:=Y1nl.1 h7.2.2.2.2.2
   refine .inr (.inl ⟨h6,h7.1,h7.2.1,h7.2.2.2.1,?_,h7.2.2.2.2.1,h9,?_⟩)
   ·unfold sbs;rw[h7.2.2.1,<- Y1kw noQ oW];rfl
   ·rw[he,<- ce hq,<- h8.1,Ytf h9]
    show plR s (rs s _)=_
    unfold plR;rw[Ywn];omega
  ·cases hq
 rename_i h6
 split at hq
 ·rename_i h7
  have h8:=Yua isRu (s:=s) (a:=sk s a) oW
  refine .inr (.inr ⟨h5,h6,?_,?_⟩)
  ·unfold sbs;rw[show (tx s).drop (sk s a)=rs s (sk s a) from rfl,Y1kw isRu oW];exact h7
  ·rw[he,<- ce hq,<- h8.1];unfold plR;rw[Ywn];omega
 ·cases hq
theorem Y1vr {s:ByteArray}{a:Nat}(h:a<=s.size):a<=sk s a/\sk s a<=s.size:=(Yua Yqc h).2
def Yx9 (L:List Yd) (s:ByteArray):Bool:=okP L s 0&&decide (sk s (enP L s 0)=s.size)&&L.all Ynp&&decide (sumBy sizeD L<=600)&&decide (s.size<=15000)
theorem Y21l (s:ByteArray) (a b:Nat):tx (sbs s a b)=(s.data.toList.drop a).take (b - a):=Y1q4 _
theorem Y21v (s:ByteArray) (a b:Nat):sbs s a b=mkS ((s.data.toList.drop a).take (b - a)):=rfl
theorem Y1ac {s:ByteArray}{a:Nat}(h:a<=s.size):sk s (sk s a)=sk s a:=Y1se Yqc h
theorem Y21y {s:ByteArray}{a:Nat}(h:a<=s.size):noc s (sk s a)=noc s a:=by unfold noc;rw[Y1ac h]
theorem Y24l {d:Yd}{s:ByteArray}{a:Nat}(h:a<=s.size) (hd:okR d s a):noc s a/\sk s a<s.size/\byt s (sk s a)≠41/\byt s (sk s a)≠39/\byt s (sk s a)≠59/\a<=sk s a/\sk s (sk s a)=sk s a/\noc s (sk s a):=by
 have g:=Yr4 h hd
 exact⟨g.1,g.2.1,g.2.2.1,g.2.2.2.1,g.2.2.2.2.1,(Y1vr h).1,Y1ac h,by rw[Y21y h];exact g.1⟩
theorem Y1xk {d:Yd}{s:ByteArray}{a:Nat}(h:a<=s.size) (hd:okR d s a) (hb:byt s (sk s a)=40):d.Ka=0/\d.Na=0/\d.Ta=mkS []/\enR d s a=sk s (enP d.Ia s (sk s a+1))+1:=by
 rcases(Yr4 h hd).2.2.2.2.2 with g|g|g
 ·exact⟨g.2.1,g.2.2.1,g.2.2.2.1,g.2.2.2.2.2.2.2.2⟩
 ·omega
 ·omega
theorem Y20l {d:Yd}{s:ByteArray}{a:Nat}(h:a<=s.size) (hd:okR d s a) (hb:byt s (sk s a)=34):d.Ka=4/\d.Na=0/\d.Ia=[]/\d.Ta=mkS ((s.data.toList.drop (sk s a+1)).take (pst noQ s (sk s a+1) - (sk s a+1)))/\Yq5 (mkS ((s.data.toList.drop (sk s a+1)).take (pst noQ s (sk s a+1) - (sk s a+1))))/\pst noQ s (sk s a+1)<s.size/\enR d s a=pst noQ s (sk s a+1)+1:=by
 rcases(Yr4 h hd).2.2.2.2.2 with g|g|g
 ·omega
 ·have e:=g.2.2.2.2.1
  refine⟨g.2.1,g.2.2.1,g.2.2.2.1,e,?_,g.2.2.2.2.2.2.1,g.2.2.2.2.2.2.2⟩
  have:=g.2.2.2.2.2.1;rw[e]at this;exact this
 ·omega
theorem Y223 {d:Yd}{s:ByteArray}{a:Nat}(h:a<=s.size) (hd:okR d s a) (h1:byt s (sk s a)≠40) (h2:byt s (sk s a)≠34):Yqk (sbs s (sk s a) (pst isRu s (sk s a)))=some d/\enR d s a=pst isRu s (sk s a):=by
 rcases(Yr4 h hd).2.2.2.2.2 with g|g|g
 ·omega
 ·omega
 ·exact g.2.2
theorem rdl {d:Yd}{s:ByteArray}{a:Nat}(h:a<=s.size) (hd:okR d s a) (hb:byt s (sk s a)=40) {k:Nat}(hk:k<=d.Ia.length) :
  enP (d.Ia.take k) s (sk s a+1)<=s.size/\noc s (enP (d.Ia.take k) s (sk s a+1))/\sk s (enP (d.Ia.take k) s (sk s a+1))<s.size/\(byt s (sk s (enP (d.Ia.take k) s (sk s a+1)))=41 ↔ k=d.Ia.length) /\
  (k<d.Ia.length->okR (d.Ia.g k) s (enP (d.Ia.take k) s (sk s a+1))/\enP (d.Ia.take (k+1)) s (sk s a+1)=enR (d.Ia.g k) s (enP (d.Ia.take k) s (sk s a+1))) /\
  (k=d.Ia.length->enP (d.Ia.take k) s (sk s a+1)=enP d.Ia s (sk s a+1)):=by
 have g:=Yr4 h hd
 rcases g.2.2.2.2.2 with c|c|c
 ·have hs:sk s a+1<=s.size:=g.2.1
  have hp:=Y11r hs (Y102 (k:=k) hs c.2.2.2.2.1)
  have e:k=d.Ia.length->enP (d.Ia.take k) s (sk s a+1)=enP d.Ia s (sk s a+1):=λe=>by rw[e,b8]
  rcases Nat.lt_or_eq_of_le hk with hl|hl
  ·have st:=Y1em hs c.2.2.2.2.1 hl
   have g2:=Yr4 hp.2.2 st.1
   exact⟨hp.2.2,g2.1,g2.2.1,⟨λq=>absurd q g2.2.2.1,λq=>by omega⟩,λ_=>st,e⟩
  ·rw[e hl]
   exact⟨by rw[<- e hl];exact hp.2.2,c.2.2.2.2.2.1,c.2.2.2.2.2.2.1,⟨λ_=>hl,λ_=>c.2.2.2.2.2.2.2.1⟩,λq=>by omega,λ_=>rfl⟩
 ·omega
 ·omega
theorem Y205 {d:Yd}{s:ByteArray}{a:Nat}(h:a<=s.size) (hd:okR d s a):enP (d.Ia.take 0) s (sk s a+1)=sk s a+1:=Y19i s (Yr4 h hd).2.1
def ggS (b:List UInt8):Yd:=⟨1,0,mkS b,[]⟩
def ggN (n:Int):Yd:=⟨2,n,mkS [],[]⟩
def ggL (l:List Yd):Yd:=⟨0,0,mkS [],l⟩
def Yts:List ByteArray:=[mkS [40,43,32,97,97,32,98,98,41],mkS [40,45,32,97,97,32,98,98,41],mkS [40,108,101,116,32,40,40,120,120,32,97,97,41,41,32,98,98,41],mkS [40,108,101,116,32,40,40,120,120,32,97,97,41,41,32,98,98,41],mkS [40,111,114,32,97,97,32,98,98,41],mkS [40,97,110,100,32,97,97,32,98,98,41],mkS [40,105,102,32,97,97,32,98,98,32,99,99,41],mkS [40,40,108,97,109,98,100,97,32,40,120,120,41,32,98,98,41,32,97,97,41],mkS [40,108,101,116,32,40,40,120,120,32,97,97,41,41,32,40,115,101,116,33,32,120,120,32,98,98,41,32,120,120,41],mkS [40,108,101,116,32,40,41,32,40,100,101,102,105,110,101,32,120,120,32,97,97,41,32,40,100,101,102,105,110,101,32,40,121,121,32,122,122,41,32,98,98,41,32,40,121,121,32,120,120,41,41],mkS [40,108,101,116,32,40,40,120,120,32,97,97,41,32,40,121,121,32,53,41,41,32,40,115,119,97,112,33,32,120,120,32,121,121,41,32,40,99,111,110,115,32,120,120,32,121,121,41,41],mkS [40,108,101,116,32,40,40,120,120,32,51,41,41,32,40,119,104,105,108,101,32,40,60,32,48,32,120,120,41,32,40,100,105,115,112,108,97,121,32,120,120,41,32,40,115,101,116,33,32,120,120,32,40,45,32,120,120,32,49,41,41,41,32,98,98,41],mkS [40,114,101,115,101,116,32,40,43,32,49,32,40,115,104,105,102,116,32,107,107,32,40,107,107,32,40,107,107,32,97,97,41,41,41,41,41],mkS [40,114,101,115,101,116,32,40,99,111,110,115,32,97,97,32,40,115,104,105,102,116,32,107,107,32,40,99,111,110,115,32,40,107,107,32,49,41,32,40,107,107,32,50,41,41,41,41,41],mkS [40,99,111,110,100,32,40,40,61,32,97,97,32,49,41,32,98,98,41,32,40,101,108,115,101,32,99,99,41,41],mkS [40,108,101,116,45,115,121,110,116,97,120,32,40,40,109,109,32,40,115,121,110,116,97,120,45,114,117,108,101,115,32,40,41,32,40,40,95,32,97,41,32,40,43,32,97,32,49,41,41,41,41,41,32,40,109,109,32,97,97,41,41],mkS [40,108,101,116,32,40,40,120,120,32,97,97,41,41,32,40,108,101,116,45,115,121,110,116,97,120,32,40,40,109,109,32,40,115,121,110,116,97,120,45,114,117,108,101,115,32,40,41,32,40,40,95,32,101,41,32,40,108,101,116,32,40,40,120,120,32,55,41,41,32,40,99,111,110,115,32,120,120,32,101,41,41,41,41,41,41,32,40,109,109,32,120,120,41,41,41],mkS [40,99,111,110,115,32,97,97,32,98,98,41],mkS [40,99,97,114,32,40,99,111,110,115,32,97,97,32,98,98,41,41],mkS [40,98,101,103,105,110,32,40,100,105,115,112,108,97,121,32,97,97,41,32,98,98,41],mkS [40,108,101,116,42,32,40,40,120,120,32,97,97,41,32,40,121,121,32,120,120,41,41,32,40,99,111,110,115,32,120,120,32,121,121,41,41],mkS [40,108,101,116,114,101,99,32,40,40,120,120,32,40,108,97,109,98,100,97,32,40,110,41,32,40,105,102,32,40,60,32,110,32,49,41,32,98,98,32,40,120,120,32,40,45,32,110,32,49,41,41,41,41,41,41,32,40,120,120,32,52,41,41],mkS [40,119,104,101,110,32,97,97,32,98,98,41],mkS [40,108,101,116,32,40,41,32,40,100,101,102,105,110,101,45,115,121,110,116,97,120,32,109,109,32,40,115,121,110,116,97,120,45,114,117,108,101,115,32,40,41,32,40,40,95,32,113,41,32,40,100,101,102,105,110,101,32,113,32,97,97,41,41,41,41,32,40,109,109,32,120,120,41,32,120,120,41],mkS [40,110,111,116,32,97,97,41],mkS [40,101,113,63,32,97,97,32,98,98,41],mkS [40,108,111,99,97,108,32,40,120,120,41,32,40,115,101,116,33,32,120,120,32,97,97,41,32,120,120,41],mkS [40,113,117,111,116,101,32,40,97,97,32,120,120,41,41]]
def Y269:List Yd:=[ggL [ggS [43],ggS [97,97],ggS [98,98]],ggL [ggS [45],ggS [97,97],ggS [98,98]],ggL [ggS [108,101,116],ggL [ggL [ggS [120,120],ggS [97,97]]],ggS [98,98]],ggL [ggS [108,101,116],ggL [ggL [ggS [120,120],ggS [97,97]]],ggS [98,98]],ggL [ggS [111,114],ggS [97,97],ggS [98,98]],ggL [ggS [97,110,100],ggS [97,97],ggS [98,98]],ggL [ggS [105,102],ggS [97,97],ggS [98,98],ggS [99,99]],ggL [ggL [ggS [108,97,109,98,100,97],ggL [ggS [120,120]],ggS [98,98]],ggS [97,97]],ggL [ggS [108,101,116],ggL [ggL [ggS [120,120],ggS [97,97]]],ggL [ggS [115,101,116,33],ggS [120,120],ggS [98,98]],ggS [120,120]],ggL [ggS [108,101,116],ggL [],ggL [ggS [100,101,102,105,110,101],ggS [120,120],ggS [97,97]],ggL [ggS [100,101,102,105,110,101],ggL [ggS [121,121],ggS [122,122]],ggS [98,98]],ggL [ggS [121,121],ggS [120,120]]],ggL [ggS [108,101,116],ggL [ggL [ggS [120,120],ggS [97,97]],ggL [ggS [121,121],ggN 5]],ggL [ggS [115,119,97,112,33],ggS [120,120],ggS [121,121]],ggL [ggS [99,111,110,115],ggS [120,120],ggS [121,121]]],ggL [ggS [108,101,116],ggL [ggL [ggS [120,120],ggN 3]],ggL [ggS [119,104,105,108,101],ggL [ggS [60],ggN 0,ggS [120,120]],ggL [ggS [100,105,115,112,108,97,121],ggS [120,120]],ggL [ggS [115,101,116,33],ggS [120,120],ggL [ggS [45],ggS [120,120],ggN 1]]],ggS [98,98]],ggL [ggS [114,101,115,101,116],ggL [ggS [43],ggN 1,ggL [ggS [115,104,105,102,116],ggS [107,107],ggL [ggS [107,107],ggL [ggS [107,107],ggS [97,97]]]]]],ggL [ggS [114,101,115,101,116],ggL [ggS [99,111,110,115],ggS [97,97],ggL [ggS [115,104,105,102,116],ggS [107,107],ggL [ggS [99,111,110,115],ggL [ggS [107,107],ggN 1],ggL [ggS [107,107],ggN 2]]]]],ggL [ggS [99,111,110,100],ggL [ggL [ggS [61],ggS [97,97],ggN 1],ggS [98,98]],ggL [ggS [101,108,115,101],ggS [99,99]]],ggL [ggS [108,101,116,45,115,121,110,116,97,120],ggL [ggL [ggS [109,109],ggL [ggS [115,121,110,116,97,120,45,114,117,108,101,115],ggL [],ggL [ggL [ggS [95],ggS [97]],ggL [ggS [43],ggS [97],ggN 1]]]]],ggL [ggS [109,109],ggS [97,97]]],ggL [ggS [108,101,116],ggL [ggL [ggS [120,120],ggS [97,97]]],ggL [ggS [108,101,116,45,115,121,110,116,97,120],ggL [ggL [ggS [109,109],ggL [ggS [115,121,110,116,97,120,45,114,117,108,101,115],ggL [],ggL [ggL [ggS [95],ggS [101]],ggL [ggS [108,101,116],ggL [ggL [ggS [120,120],ggN 7]],ggL [ggS [99,111,110,115],ggS [120,120],ggS [101]]]]]]],ggL [ggS [109,109],ggS [120,120]]]],ggL [ggS [99,111,110,115],ggS [97,97],ggS [98,98]],ggL [ggS [99,97,114],ggL [ggS [99,111,110,115],ggS [97,97],ggS [98,98]]],ggL [ggS [98,101,103,105,110],ggL [ggS [100,105,115,112,108,97,121],ggS [97,97]],ggS [98,98]],ggL [ggS [108,101,116,42],ggL [ggL [ggS [120,120],ggS [97,97]],ggL [ggS [121,121],ggS [120,120]]],ggL [ggS [99,111,110,115],ggS [120,120],ggS [121,121]]],ggL [ggS [108,101,116,114,101,99],ggL [ggL [ggS [120,120],ggL [ggS [108,97,109,98,100,97],ggL [ggS [110]],ggL [ggS [105,102],ggL [ggS [60],ggS [110],ggN 1],ggS [98,98],ggL [ggS [120,120],ggL [ggS [45],ggS [110],ggN 1]]]]]],ggL [ggS [120,120],ggN 4]],ggL [ggS [119,104,101,110],ggS [97,97],ggS [98,98]],ggL [ggS [108,101,116],ggL [],ggL [ggS [100,101,102,105,110,101,45,115,121,110,116,97,120],ggS [109,109],ggL [ggS [115,121,110,116,97,120,45,114,117,108,101,115],ggL [],ggL [ggL [ggS [95],ggS [113]],ggL [ggS [100,101,102,105,110,101],ggS [113],ggS [97,97]]]]],ggL [ggS [109,109],ggS [120,120]],ggS [120,120]],ggL [ggS [110,111,116],ggS [97,97]],ggL [ggS [101,113,63],ggS [97,97],ggS [98,98]],ggL [ggS [108,111,99,97,108],ggL [ggS [120,120]],ggL [ggS [115,101,116,33],ggS [120,120],ggS [97,97]],ggS [120,120]],ggL [ggS [113,117,111,116,101],ggL [ggS [97,97],ggS [120,120]]]]
def Ysa (i:Nat):Yd:=Y269.g i
theorem Y1zz:∀ i,i<28->Yx9 [Ysa i] (Yts.g i):=by decide +kernel
theorem Y1mz:∀ i,i<28->wD (Ysa i)<=120/\(Yts.g i).size<=120/\4<=(Yts.g i).size:=by decide +kernel
def Yxh:List ByteArray:=[mkS [120],mkS [121],mkS [116,109,112],mkS [116],mkS [108,111,111,112],mkS [110],mkS [107],mkS [102],mkS [108,105,115,116],mkS [101,108,115,101],mkS [105,102]]
def qqT:List ByteArray:=[mkS [113],mkS [103],mkS [104],mkS [119]]
def kkT:List ByteArray:=[mkS [107],mkS [107],mkS [116,109,112],mkS [99]]
def mmT:List ByteArray:=[mkS [109],mkS [108,101,116],mkS [109,97,99]]
def Y25n:List ByteArray:=[mkS [40,108,101,116],mkS [40,108,111,99],mkS [40,40,108,97]]
def Yt2:List ByteArray:=[mkS [97,97],mkS [98,98],mkS [99,99],mkS [120,120],mkS [121,121],mkS [122,122],mkS [107,107],mkS [109,109]]
def zzB:ByteArray:=mkS [122,122]
def zB:ByteArray:=mkS [122]
def sB:ByteArray:=mkS [115]
def idxN (L:List ByteArray) (s:ByteArray):Nat:=L.findIdx λx=>decide (x=s)
def Ypg (L:List ByteArray) (s:ByteArray):Int:=if idxN L s<L.length then (idxN L s:Int) else -1
theorem Y1wx {L:List ByteArray}{s:ByteArray}{k:Nat}(hk:k<L.length) (h:((L.take k).all λx => !decide (x=s))=true) (e:L.g k=s):Ypg L s=k:=by
 have e1:L.g k=L[k]:=by simp[hk]
 have h1:idxN L s=k:=by
  unfold idxN
  rw[List.findIdx_eq hk]
  refine⟨by rw[<- e1];exact bF e,λj hj => ?_⟩
  rw[am]at h
  have hm:L[j]∈L.take k:=by rw[List.mem_take_iff_getElem];exact⟨j,by omega,rfl⟩
  simpa using h _ hm
 unfold Ypg;rw[h1,ae hk]
theorem Y1xp {L:List ByteArray}{s:ByteArray}(h:(L.all λx => !decide (x=s))=true):Ypg L s = -1:=by
 unfold Ypg
 rw[ab]
 intro hl
 have h1:=di (xs:=L) (p:=λx=>decide (x=s)) (w:=hl)
 rw[am]at h
 have h2:decide (L[idxN L s]=s):=h1
 have:=h _ (dh hl)
 rw[h2]at this;cases this
mutual
def Ypk (N:List ByteArray) (P:List Yd):Yd->Yd
 | ⟨k,n,t,l⟩=>if k=1/\0<=Ypg N t/\Ypg N t<(P.length:Int) then P.g (Ypg N t).toNat else ⟨k,n,t,Y185 N P l⟩
def Y185 (N:List ByteArray) (P:List Yd):List Yd->List Yd
 | []=>[]
 | x :: r=>Ypk N P x :: Y185 N P r
end
theorem Y1fq (N:List ByteArray) (P:List Yd):∀ l,Y185 N P l=l.map (Ypk N P)
 | []=>by simp[Y185]
 | x :: r=>by rw[Y185,Y1fq N P r];rfl
theorem Y1jc (N:List ByteArray) (P:List Yd) (d:Yd):Ypk N P d=if d.Ka=1/\0<=Ypg N d.Ta/\Ypg N d.Ta<(P.length:Int) then P.g (Ypg N d.Ta).toNat else ⟨d.Ka,d.Na,d.Ta,d.Ia.map (Ypk N P)⟩:=by cases d;simp only[Ypk,Y1fq]
theorem Y204 {N:List ByteArray}{P:List Yd}{M:Nat}(hP:∀ x∈P,wD x<=M):∀ d:Yd,wD (Ypk N P d)+1<=(wD d+1) * (M+1):=by
 refine Yd.ind λd ih => ?_
 rw[Y1jc]
 split
 ·rename_i h
  have h1:=hP _ (Yl6 (L:=P) (k:=(Ypg N d.Ta).toNat) oW)
  have h2:M+1<=(wD d+1) * (M+1):=Nat.le_mul_of_pos_left _ (Nat.succ_pos _)
  omega
 ·have:∀ L:List Yd,(∀ x∈L,wD (Ypk N P x)+1<=(wD x+1) * (M+1))->sumBy wD (L.map (Ypk N P))+L.length<=(sumBy wD L+L.length) * (M+1):=by
   intro L
   induction L with
   | nil=>intro _;simp[sumBy]
   | cons x r ihr=>
    intro h
    have a:=h x aj
    have b:=ihr λy hy=>h y (ai _ hy)
    have e:(wD x+sumBy wD r+(r.length+1)) * (M+1)=(wD x+1) * (M+1)+(sumBy wD r+r.length) * (M+1):=by
     rw[<- bZ];congr 1;omega
    simp only[bO,sumBy,aD]
    omega
  have h3:=this d.Ia ih
  have h4:=Yve d
  rw[Yve]
  simp only[aO]
  have e:(wD d+1) * (M+1)=(sumBy wD d.Ia+d.Ia.length) * (M+1)+(d.Ta.size+1) * (M+1):=by
   rw[<- bZ];congr 1;omega
  have h5:d.Ta.size+1<=(d.Ta.size+1) * (M+1):=dx _ (Nat.succ_pos _)
  omega
def sy0 (s:ByteArray):Yd:=⟨(Ymv s).Ka,(Ymv s).Na,(Ymv s).Ta,[]⟩
theorem Y1yk (s:ByteArray):wD (Ymv s)<=30:=by
 unfold Ymv;split
 ·rename_i h;have:=Y1um h;rw[Yve];simp only[Y1rm,sumBy,bo];omega
 ·decide
theorem Y1zy (s:ByteArray):sy0 s=Ymv s:=by
 have e:(Ymv s).Ia=[]:=by unfold Ymv;split<;>rfl
 show (⟨(Ymv s).Ka,(Ymv s).Na,(Ymv s).Ta,[]⟩:Yd)=Ymv s
 rw[<- e]
 generalize Ymv s=d
 cases d;rfl
theorem Y1fv (s:ByteArray):wD (sy0 s)<=30:=by rw[Y1zy];exact Y1yk s
def nu0 (n:Int):Yd:=⟨(Yo8 n).Ka,(Yo8 n).Na,(Yo8 n).Ta,[]⟩
def bo0 (b:Bool):Yd:=⟨(Ywz b).Ka,(Ywz b).Na,(Ywz b).Ta,[]⟩
def st0 (s:ByteArray):Yd:=⟨(Yxd s).Ka,(Yxd s).Na,(Yxd s).Ta,[]⟩
def Y107:List Yd:=[nu0 1,nu0 2,nu0 7,bo0 false,st0 sB,sy0 zzB]
theorem Y1vv:∀ x∈Y107,wD x<=30:=by decide +kernel
def Y1tw (c:Cr) (N:List ByteArray):Yd×Cr:=
 if 0<(N.length:Int)/\0<beX c 3 then (sy0 (N.g (beX (beC c 3) (N.length:Int)).toNat),beC (beC c 3) (N.length:Int))
 else (Y107.g (beX (beC (if 0<(N.length:Int) then beC c 3 else c) 40) (5+(beX (if 0<(N.length:Int) then beC c 3 else c) 40).tdiv 39)).toNat,
  beC (beC (if 0<(N.length:Int) then beC c 3 else c) 40) (5+(beX (if 0<(N.length:Int) then beC c 3 else c) 40).tdiv 39))
def Ysr (c:Cr) (N:List ByteArray):Yd×Cr:=Yta (Y1tw c N)
def Y193 (i:Nat):Bool:=decide (0<=Ypg Y25n (mkS ((Yts.g i).data.toList.take 4)))
def Yre (c:Cr):Cr:=beC (beC (beC (beC c 28) 11) 4) 4
def Yrt (c:Cr):ByteArray:=Yxh.g (beX (beC c 28) 11).toNat
def Y15u (A B:Cr->List ByteArray->Yd×Cr) (c:Cr) (N:List ByteArray) (a b:Yd) (c2:Cr):List Yd:=
 [(A (Yre c) N).1,a,b,sy0 (Yrt c),sy0 (qqT.g (beX (beC (beC c 28) 11) 4).toNat),sy0 zB,sy0 (kkT.g (beX (beC (beC (beC c 28) 11) 4) 4).toNat),sy0 (mmT.g (beX c2 3).toNat)]
def Y154 (A B:Cr->List ByteArray->Yd×Cr) (c:Cr) (N:List ByteArray):Yd×Cr:=
 if Y193 (beX c 28).toNat then
  (Ypk Yt2 (Y15u A B c N (B (A (Yre c) N).2 (N++[Yrt c])).1 (B (B (A (Yre c) N).2 (N++[Yrt c])).2 N).1 (B (B (A (Yre c) N).2 (N++[Yrt c])).2 N).2) (Ysa (beX c 28).toNat),beC (B (B (A (Yre c) N).2 (N++[Yrt c])).2 N).2 3)
 else
  (Ypk Yt2 (Y15u A B c N (B (beC (B (B (A (Yre c) N).2 (N++[Yrt c])).2 N).2 3) N).1 (B (B (A (Yre c) N).2 (N++[Yrt c])).2 N).1 (B (B (A (Yre c) N).2 (N++[Yrt c])).2 N).2) (Ysa (beX c 28).toNat),(B (beC (B (B (A (Yre c) N).2 (N++[Yrt c])).2 N).2 3) N).2)
def Yyr:Nat->Cr->List ByteArray->Yd×Cr
 | 0,c,N=>Ysr (beC c 6) N
 | 1,c,N=>if beX c 6=0 then Ysr (beC c 6) N else Y154 (λc N=>Ysr (beC c 6) N) (λc N=>Ysr (beC c 6) N) (beC c 6) N
 | d+2,c,N=>if beX c 6=0 then Ysr (beC c 6) N else Y154 (Yyr (d+1)) (Yyr d) (beC c 6) N
def Yob (d:Int) (c:Cr) (N:List ByteArray):Yd×Cr:=Yta (Yyr d.toNat c N)
theorem Ywi (d:Int) (c:Cr) (N:List ByteArray):Yob d c N=Yyr d.toNat c N:=Yos _
theorem Y12x {d:Int}{c:Cr}{N:List ByteArray}(h:d<=0\/beX c 6=0):Yob d c N=Ysr (beC c 6) N:=by
 rw[Ywi]
 rcases h with h|h
 ·have e:d.toNat=0:=by omega
  rw[e];rfl
 ·match d.toNat with
  | 0=>rfl
  | 1=>exact ae h
  | n+2=>exact ae h
theorem Y17x {d:Int}{c:Cr}{N:List ByteArray}(h:¬ d<=0) (h2:¬ beX c 6=0):Yob d c N=Y154 (Yob (d - 1)) (Yob (d - 2)) (beC c 6) N:=by
 have e1:Yob (d - 1)=Yyr (d - 1).toNat:=funext λc=>funext λN=>Ywi _ c N
 have e2:Yob (d - 2)=Yyr (d - 2).toNat:=funext λc=>funext λN=>Ywi _ c N
 rw[Ywi,e1,e2]
 match hd:d.toNat with
 | 0=>omega
 | 1=>
  have a:(d - 1).toNat=0:=by omega
  have b:(d - 2).toNat=0:=by omega
  rw[a,b];exact ab h2
 | n+2=>
  have a:(d - 1).toNat=n+1:=by omega
  have b:(d - 2).toNat=n:=by omega
  rw[a,b];exact ab h2
theorem Y1ek {c:Cr}{N:List ByteArray}(h:0<(N.length:Int)) (h2:0<beX c 3):Ysr c N=(sy0 (N.g (beX (beC c 3) (N.length:Int)).toNat),beC (beC c 3) (N.length:Int)):=by
 unfold Ysr;rw[Yos];exact ae ⟨h,h2⟩
theorem Y1jg {c:Cr}{N:List ByteArray}(h:0<(N.length:Int)) (h2:¬ 0<beX c 3):Ysr c N=(Y107.g (beX (beC (beC c 3) 40) (5+(beX (beC c 3) 40).tdiv 39)).toNat,beC (beC (beC c 3) 40) (5+(beX (beC c 3) 40).tdiv 39)):=by
 unfold Ysr;rw[Yos];unfold Y1tw;rw[ab (λa=>h2 a.2)];simp only[ae h]
theorem Y1ed {c:Cr}{N:List ByteArray}(h:¬ 0<(N.length:Int)):Ysr c N=(Y107.g (beX (beC c 40) (5+(beX c 40).tdiv 39)).toNat,beC (beC c 40) (5+(beX c 40).tdiv 39)):=by
 unfold Ysr;rw[Yos];unfold Y1tw;rw[ab (λa=>h a.1)];simp only[ab h]
theorem Y1k1 {A B:Cr->List ByteArray->Yd×Cr}{c:Cr}{N:List ByteArray}(h:Y193 (beX c 28).toNat):Y154 A B c N =
  (Ypk Yt2 (Y15u A B c N (B (A (Yre c) N).2 (N++[Yrt c])).1 (B (B (A (Yre c) N).2 (N++[Yrt c])).2 N).1 (B (B (A (Yre c) N).2 (N++[Yrt c])).2 N).2) (Ysa (beX c 28).toNat),beC (B (B (A (Yre c) N).2 (N++[Yrt c])).2 N).2 3):=ae h
theorem Y1pr {A B:Cr->List ByteArray->Yd×Cr}{c:Cr}{N:List ByteArray}(h:Y193 (beX c 28).toNat=false):Y154 A B c N =
  (Ypk Yt2 (Y15u A B c N (B (beC (B (B (A (Yre c) N).2 (N++[Yrt c])).2 N).2 3) N).1 (B (B (A (Yre c) N).2 (N++[Yrt c])).2 N).1 (B (B (A (Yre c) N).2 (N++[Yrt c])).2 N).2) (Ysa (beX c 28).toNat),(B (beC (B (B (A (Yre c) N).2 (N++[Yrt c])).2 N).2 3) N).2):=ab (by rw[h];decide)
def geB:Nat->Nat
 | 0=>30
 | d+1=>121 * (geB d+1)+geB d
theorem Y18m {c:Cr}(h:okK c) (N:List ByteArray):okK (Ysr c N).2/\wD (Ysr c N).1<=30:=by
 by_cases h1:0<(N.length:Int)
 ·by_cases h2:0<beX c 3
  ·rw[Y1ek h1 h2];exact⟨Ymk (Ymk h),Y1fv _⟩
  ·rw[Y1jg h1 h2]
   refine⟨Ymk (Ymk (Ymk h)),Y1vv _ (Yl6 ?_)⟩
   have b:=Ysc (beC c 3) (n:=40) dW
   have e:(beX (beC c 3) 40).tdiv 39=0\/(beX (beC c 3) 40).tdiv 39=1:=by rw[dl b.1];omega
   have b2:=Ysc (beC (beC c 3) 40) (n:=5+(beX (beC c 3) 40).tdiv 39) oW
   have:Y107.length=6:=rfl
   omega
 ·rw[Y1ed h1]
  refine⟨Ymk (Ymk h),Y1vv _ (Yl6 ?_)⟩
  have b:=Ysc c (n:=40) dW
  have e:(beX c 40).tdiv 39=0\/(beX c 40).tdiv 39=1:=by rw[dl b.1];omega
  have b2:=Ysc (beC c 40) (n:=5+(beX c 40).tdiv 39) oW
  have:Y107.length=6:=rfl
  omega
theorem Y1oy {A B:Cr->List ByteArray->Yd×Cr}{M:Nat}(hM:30<=M) (hA:∀ c N,okK c->okK (A c N).2/\wD (A c N).1<=M) (hB:∀ c N,okK c->okK (B c N).2/\wD (B c N).1<=M) {c:Cr}(h:okK c) (N:List ByteArray) :
  okK (Y154 A B c N).2/\wD (Y154 A B c N).1<=121 * (M+1)+M:=by
 have k1:okK (Yre c):=Ymk (Ymk (Ymk (Ymk h)))
 have a1:=hA (Yre c) N k1
 have a2:=hB _ (N++[Yrt c]) a1.1
 have a3:=hB _ N a2.1
 have a4:=hB _ N (Ymk (n:=3) a3.1)
 have b:=Ysc c (n:=28) dW
 have w:=(Y1mz (beX c 28).toNat oW).1
 have s:=λx=>aN (Y1fv x) hM
 have key:∀ a b c2,wD a<=M->wD b<=M->wD (Ypk Yt2 (Y15u A B c N a b c2) (Ysa (beX c 28).toNat))<=121 * (M+1)+M:=by
  intro a b c2 ha hb
  have:=Y204 (N:=Yt2) (P:=Y15u A B c N a b c2) (M:=M) (by
   intro x hx
   simp only[Y15u,aB,cV,or_false]at hx
   rcases hx with rfl|rfl|rfl|rfl|rfl|rfl|rfl|rfl
   ·exact a1.2
   ·exact ha
   ·exact hb
   ·exact s _
   ·exact s _
   ·exact s _
   ·exact s _
   ·exact s _) (Ysa (beX c 28).toNat)
  have h2:(wD (Ysa (beX c 28).toNat)+1) * (M+1)<=121 * (M+1):=cP _ oW
  omega
 cases hl:Y193 (beX c 28).toNat with
 | true=>rw[Y1k1 hl];exact⟨Ymk a3.1,key _ _ _ a2.2 a3.2⟩
 | false=>rw[Y1pr hl];exact⟨a4.1,key _ _ _ a4.2 a3.2⟩
theorem Y17l (d:Nat):30<=geB d/\geB d<=geB (d+1):=by
 have:∀ d,30<=geB d:=by
  intro d
  induction d with
  | zero=>decide
  | succ d ih=>show 30<=121 * (geB d+1)+geB d;omega
 exact⟨this d,by show geB d<=121 * (geB d+1)+geB d;omega⟩
theorem Y17i:∀ (d:Nat) (c:Cr) (N:List ByteArray),okK c->okK (Yyr d c N).2/\wD (Yyr d c N).1<=geB d
 | 0,c,N,h=>Y18m (Ymk h) N
 | 1,c,N,h=>by
  have l:=Y18m (Ymk (n:=6) h) N
  have hB:∀ (c:Cr) (N:List ByteArray),okK c->okK (Ysr (beC c 6) N).2/\wD (Ysr (beC c 6) N).1<=30:=λc N h=>Y18m (Ymk h) N
  simp only[Yyr]
  split
  ·exact⟨l.1,by have:=(Y17l 1).1;omega⟩
  ·exact Y1oy (aC _) hB hB (Ymk h) N
 | d+2,c,N,h=>by
  have l:=Y18m (Ymk (n:=6) h) N
  have u:=Y17l d
  have u1:=Y17l (d+1)
  have u2:=Y17l (d+2)
  simp only[Yyr]
  split
  ·exact⟨l.1,by omega⟩
  ·exact Y1oy u1.1 (λc N h=>Y17i (d+1) c N h) (λc N h=>by have:=Y17i d c N h;exact⟨this.1,by omega⟩) (Ymk h) N
theorem Yz3 {d:Int}(hd:d<=3) {c:Cr}(h:okK c) (N:List ByteArray):okK (Yob d c N).2/\wD (Yob d c N).1<=60000000:=by
 rw[Ywi]
 have g:=Y17i d.toNat c N h
 have:geB d.toNat<=60000000:=by
  have h3:d.toNat=0\/d.toNat=1\/d.toNat=2\/d.toNat=3:=by omega
  rcases h3 with e|e|e|e<;>rw[e]<;>decide
 exact⟨g.1,by omega⟩
theorem Y10l {d:Int}(hd:d<=2) {c:Cr}(h:okK c) (N:List ByteArray):wD (Yob d c N).1<=1000000:=by
 rw[Ywi]
 have g:=Y17i d.toNat c N h
 have:geB d.toNat<=1000000:=by
  have h3:d.toNat=0\/d.toNat=1\/d.toNat=2:=by omega
  rcases h3 with e|e|e<;>rw[e]<;>decide
 omega
def Y1g0 (d:Yd):List Yd:=Yta [d]
theorem Y1ab (d:Yd):Y1g0 d=[d]:=Yos _
theorem Y1u9 (d:Yd):(Y1g0 d).length=1:=by rw[Y1ab];rfl
theorem Y1rr (d:Yd):(Y1g0 d).g 0=d:=by rw[Y1ab];rfl
section
abbrev Z8v (n:Int):Ct:=⟨184,[],[li n],[],.sv (ls (mkS (Lib.itoa n)))⟩
def Z7v (n:Int):Lp (Int×List UInt8):=.mk 31 0 (λx=>[(0,li n),(3,hs x 1),(4,hs x 0)]) (λx=>[]) (λk=>[.s (li k.1),.s (ls (mkS k.2))]) (λk=>n≠0/\dgs k.1.natAbs++k.2=Lib.decDigits n.natAbs/\(-9223372036854775808:Int)<=k.1/\k.1<=9223372036854775807) (λk=>k.1.natAbs) [.mk True (.exit 0) (λx=>[(0,li n),(3,hs x 0)]) (λx=>[]) [.s (ls (mkS (Lib.decDigits n.natAbs)))]]
theorem Zjd (n:Int) (h:(-9223372036854775808:Int)<=n/\n<=9223372036854775807):Lp.Sem prog (Yli f184 0) (Z7v n):=Ylp (λk=>let v1:=48+(0 - k.1.tmod 10);let v2:=48+k.1.tmod 10;let v3:=1+k.2.length<=9223372036854775807;let v4:=k.1.tdiv 10;let v5:=[UInt8.ofNat v2.toNat];let v6:=[UInt8.ofNat v1.toNat];.i (k.1≠0) (.p ((10:Int)≠0) (.i (k.1.tmod (10:Int)<0) (.r (0 - k.1.tmod 10) (.r v1 (.p (rng IntKind.u8 v1) (.w (.bytes v6) (.p ([[Cell.lit (Value.int IntKind.u8 v1)]]=[[Cell.lit (Value.int IntKind.u8 (↑(UInt8.ofNat v1.toNat).toNat:Int))]]) (.p v3 (.p ((10:Int)≠0) (.r v4 (.g [] (k.1.tdiv 10,v6++k.2) [.s (li v4),.s (ls (ByteArray.mk (v6++k.2).toArray))]))))))))) (.r v2 (.p (rng IntKind.u8 v2) (.w (.bytes v5) (.p ([[Cell.lit (Value.int IntKind.u8 v2)]]=[[Cell.lit (Value.int IntKind.u8 (↑(UInt8.ofNat v2.toNat).toNat:Int))]]) (.p v3 (.p ((10:Int)≠0) (.r v4 (.g [] (k.1.tdiv 10,v5++k.2) [.s (li v4),.s (ls (ByteArray.mk (v5++k.2).toArray))])))))))))) (.o 0 [] [.s (ls (mkS k.2))])) (by
 intro k h;try dsimp only[Yl3,Yle,Z7v]at h|-
 obtain⟨x,o⟩:=k
 simp only at *
 have g1:=@Y1t7 x.natAbs
 have g2:(x.tdiv 10).natAbs=x.natAbs / 10:=Int.natAbs_tdiv _ _
 have g3:(x.tmod 10).natAbs=x.natAbs % 10:=Int.natAbs_tmod _ _
 have g4:=ci List.length h.2.1
 have g5:=Y1pg (n:=n) tW
 with_reducible repeat' (first|apply ah|exact zR|(intro))
 all_goals ((try simp only[std,inj]at *);with_reducible and_intros)
 all_goals try first|exact zw|grind[Y1tn,Yla,Ylb,Yl5]
 all_goals first|(rw[Y1o3];omega)|(rw[Y1yy oW]))
theorem Zc3 (n:Int) (h : -9223372036854775808<=n/\n<=9223372036854775807):Z8v n:=Ylh call184 func184 (.i (n=0) (.s (ls (mkS [48]))) (.l (Z7v n) (Zjd n h) [] [.s (li n),.s (ls (mkS []))] (n,[]) (.t (.i (n<0) (.p (1+(Lib.decDigits n.natAbs).length<=9223372036854775807) (.s (ls (ByteArray.mk ([(45:UInt8)]++Lib.decDigits n.natAbs).toArray)))) (.s (ls (mkS (Lib.decDigits n.natAbs))))) .q))) (by
 dsimp only[Yl3,Z8v,Yle,Z7v]
 have g1:=@Y1h4 n
 have g2:=@Y1so n
 have g3:=Y1oo
 have g4:=Y1pg h
 with_reducible repeat' (first|apply ah|exact zR|(intro))
 all_goals ((try simp only[std,inj]at *);with_reducible and_intros)
 all_goals try first|exact zw|grind[Y226,Yla,Ylb,Yl5])
abbrev Zdl (s:ByteArray):Ct:=⟨146,[],[ls s],[],.tup [li (Yug s),lb (Ysz s)]⟩
def Z4h (s:ByteArray):Lp (Nat×Int):=.mk 55 0 (λx=>[(0,ls s),(4,hs x 0),(5,hs x 2),(6,hs x 1)]) (λx=>[]) (λk=>[.s (li (↑(atN s):Int)),.s (li (k.1:Int)),.s (li k.2)]) (λk=>atN s<=k.1/\k.1<=s.size/\Yym s k.1=some k.2.toNat/\0<=k.2/\s.size<=atN s+9/\atN s<s.size) (λk=>s.size - k.1) [.mk (Y132 s) (.exit 0) (λx=>[(0,ls s),(4,hs x 0),(5,hs x 1)]) (λx=>[]) [.s (li (↑(atN s):Int)),.s (li (↑(magN s):Int))],.mk (Y132 s=false/\s.size<=atN s+9/\atN s<s.size) .ret (λx=>[(2,hs x 0),(3,hs x 1)]) (λx=>[]) [.s (li 0),.s (lb false)]]
theorem Zc4 (s:ByteArray):Lp.Sem prog (Yli f146 0) (Z4h s):=Ylp (λk=>let v1:=(↑(s.data.toList.getD (k.1:Int).toNat (0:UInt8)).toNat:Int);let v2:=0<=(k.1:Int)/\(k.1:Int).toNat<s.data.toList.length;.h (s.data.toList.length<=9223372036854775807) (.i ((k.1:Int)<(s.data.toList.length:Int)) (.p v2 (.c [.rd] (Z8b v1) (.b (!Yqt v1) (.o 1 [] [.s (li 0),.s (lb false)]) (.r (10 * k.2) (.p v2 (.p (rng IntKind.u8 (v1 - 48)) (.r (v1 - 48) (.r (10 * k.2+(v1 - 48)) (.r ((k.1:Int)+1) (.g [] (k.1+1,10 * k.2+(v1 - 48)) [.s (li (↑(atN s):Int)),.s (li ((k.1:Int)+1)),.s (li (10 * k.2+(v1 - 48)))])))))))))) (.o 0 [] [.s (li (↑(atN s):Int)),.s (li k.2)]))) (by
 intro k h;try dsimp only[Yl3,Yle,Z4h]at h|-
 obtain⟨i,m⟩:=k
 simp only at *
 have g1:=@Y1s4 s i m.toNat
 have g2:=@Y1t5 s i
 have g3:=@Y1x9 s m.toNat
 have g4:=@Y1qc s i m.toNat
 with_reducible repeat' (first|apply ah|exact zR|(intro)|apply Zc3)
 all_goals ((try simp only[std,inj]at *);with_reducible and_intros)
 all_goals try with_reducible first|apply Zc3
 all_goals try first|exact zw|grind[Yqt,Yla,Ylb,Yl5]
 all_goals (rw[Y1o3];simp only[Yqt,cw,ak]at *;omega))
theorem Zkk (s:ByteArray):Zdl s:=Ylh call146 func146 (let v8:=(↑(magN s):Int);let v7:Tq _ _:=.f [] [] (.tup [li 0,lb false]);let v1:Tq _ _:=.t (.i ((↑(atN s):Int)=1) (.r (0 - v8) (.d [.rd] (Z8v (0 - v8)) (.i (Lib.itoa (0 - v8)≠s.data.toList) v7 (.f [] [] (.tup [li (0 - v8),lb true]))))) (.d [.rd] (Z8v v8) (.i (Lib.itoa v8≠s.data.toList) v7 (.f [] [] (.tup [li v8,lb true]))))) (.t v7 .q);let v2:=s.data.toList.length<=9223372036854775807;let v3:Tq _ _:=.y true v7;let v4:=9<(s.data.toList.length:Int) - 0;let v5:=0=(s.data.toList.length:Int);let v6:=(s.data.toList.length:Int) - 0;let v9:Tq _ _:=.l (Z4h s) (Zc4 s) [] [.s (li 0),.s (li 0),.s (li 0)] (atN s,0) v1;let v10:Tq _ _:=.h v2 (.i v5 v3 (.h v2 (.r v6 (.i v4 v7 v9))));.h v2 (.i (0<(s.data.toList.length:Int)) (.p ((0:Int)<=0/\0<s.data.toList.length) (.i ((↑(s.data.toList.getD 0 (0:UInt8)).toNat:Int)=45) (.h v2 (.i (1=(s.data.toList.length:Int)) v3 (.h v2 (.r ((s.data.toList.length:Int) - 1) (.i (9<(s.data.toList.length:Int) - 1) v7 (.l (Z4h s) (Zc4 s) [] [.s (li 1),.s (li 1),.s (li 0)] (atN s,0) v1)))))) v10)) (.y false v10))) (by
 dsimp only[Yl3,Zdl,Yle,Z4h]
 have g1:=Y1s0 s
 have g2:=@Y1qr s
 have g3:=@Y1ta s
 have g4:atN s=0\/atN s=1:=by have:=Y22u s;omega
 with_reducible repeat' (first|apply ah|exact zR|(intro)|apply Zc3)
 all_goals ((try simp only[std,inj]at *);with_reducible and_intros)
 all_goals try with_reducible first|apply Zc3
 all_goals try first|exact zw|grind[Ysz,Y1uk,Yug,sgN,atN,Yla,Ylb,Yl5])
end
section
abbrev Zc5 (n:Int):Ct:=⟨98,[],[lu n],[],.sv (lb (Yqc n))⟩
theorem Zfl (n:Int):Zc5 n:=Ylh call98 func98 (.i (n=32) (.y true (.s (lb true))) (.i (n=10) (.s (lb true)) (.s (lb (decide (n=9)))))) (by
 dsimp only[Yl3,Zc5]
 with_reducible repeat' (first|apply ah|exact zR|(intro))
 all_goals ((try simp only[std,inj]at *);with_reducible and_intros)
 all_goals try first|exact z|grind[Yqc,Yla,Ylb,Yl5])
abbrev Zdm (n:Int):Ct:=⟨145,[],[lu n],[],.sv (lb (Y12r n))⟩
theorem Zkl (n:Int):Zdm n:=Ylh call145 func145 (let v1:Tq _ _:=.y true (.s (lb true));.i (n=40) (.y true (.y true v1)) (.i (n=41) (.y true v1) (.i (n=34) v1 (.i (n=59) (.s (lb true)) (.s (lb (decide (n=39)))))))) (by
 dsimp only[Yl3,Zdm]
 with_reducible repeat' (first|apply ah|exact zR|(intro))
 all_goals ((try simp only[std,inj]at *);with_reducible and_intros)
 all_goals try first|exact z|grind[Y12r,Yla,Ylb,Yl5])
theorem Y240 {s:ByteArray}{a:Nat}(h:a<s.size) (hp:Yqc (byt s a)):sk s (a+1)=sk s a:=Y1fc Yqc h hp
theorem Y1j7 {s:ByteArray}{a:Nat}(h:a<=s.size) (hp:a<s.size->Yqc (byt s a)=false):sk s a=a:=Y155 Yqc h hp
theorem Y20r {s:ByteArray}{a k:Nat}(h:k<s.size) (hk:sk s k=sk s a) (hb:byt s k=59):noc s a=false:=by
 have h1:sk s k=k:=Y1j7 oW λ_=>by rw[hb];decide
 rw[hk]at h1
 unfold noc;rw[h1,hb];simp[h]
abbrev Z2i (s:ByteArray) (a:Nat) (b:Bool):Ct:=⟨45,[.box [vS s,vI (a:Nat),vB b]],[.y 0],[.box [vS s,vI (sk s a:Nat),vB b]],.tup []⟩
def Z66 (s:ByteArray) (a:Nat) (b:Bool) (k:Nat):Lp Nat:=.mk 82 1 (λx=>[(0,.y 0)]) (λx=>[.box [vS s,ha x 0,vB b]]) (λk1=>[.a (vI (↑(k+k1):Int))]) (λk1=>k<k/\k1<=s.size) (λk1=>s.size - k1) [.mk True (.exit 2) (λx=>[(0,.y 0)]) (λx=>[.box [vS s,ha x 0,vB b]]) [.a (vI (k:Int))]]
def Z67 (s:ByteArray) (a:Nat) (b:Bool):Lp Nat:=.mk 82 1 (λx=>[(0,.y 0)]) (λx=>[.box [vS s,ha x 0,vB b]]) (λk=>[.a (vI (k:Int))]) (λk=>a<=k/\k<=s.size/\sk s k=sk s a/\noc s a) (λk=>s.size - k) [.mk True (.exit 0) (λx=>[]) (λx=>[.box [vS s,ha x 0,vB b]]) [.a (vI (↑(sk s a):Int))]]
theorem Zhr (s:ByteArray) (a:Nat) (b:Bool) (h:a<=s.size/\noc s a) (k:Nat):Lp.Sem prog (Yli f45 1) (Z66 s a b k):=Ylp (λk1=>let v1:=(↑(k+k1):Int);let v2:=s.data.toList.length<=9223372036854775807;.w (.draw []) (.i (v1<(s.data.toList.length:Int)) (.p (0<=v1/\v1.toNat<s.data.toList.length) (.h v2 (.i ((↑(s.data.toList.getD v1.toNat (0:UInt8)).toNat:Int)≠10) (.r (v1+1) (.g [0] 1 [.a (vI (v1+1))])) (.o 0 [0] [.a (vI v1)])))) (.h v2 (.y false (.o 0 [0] [.a (vI v1)]))))) (by
 intro k1 h;try dsimp only[Yl3,Yle,Z66]at h|-
 exact zV)
theorem Zhs (s:ByteArray) (a:Nat) (b:Bool) (h:a<=s.size/\noc s a):Lp.Sem prog (Yli f45 0) (Z67 s a b):=Ylp (λk=>let v4:=0<=(k:Int)/\(k:Int).toNat<s.data.toList.length;let v3:=(↑(s.data.toList.getD (k:Int).toNat (0:UInt8)).toNat:Int);let v5:=vI (k:Int);let v1:Tq _ _:=.w (.draw []) (.p v4 (.i (v3=59) (.l (Z66 s a b k) (Zhr s a b h k) [0] [.a v5] 0 (.t (.g [0] k [.a v5]) .q)) (.r ((k:Int)+1) (.g [0] (k+1) [.a (vI ((k:Int)+1))]))));let v2:=s.data.toList.length<=9223372036854775807;.w (.draw []) (.i ((k:Int)<(s.data.toList.length:Int)) (.p v4 (.c [.rd] (Zfl v3) (.b (Yqc v3) (.h v2 (.y true v1)) (.p v4 (.h v2 (.i (v3=59) v1 (.o 0 [0] [.a v5]))))))) (.h v2 (.y false (.o 0 [0] [.a v5]))))) (by
 intro k h;try dsimp only[Yl3,Yle,Z67,Z66]at h|-
 have g1:=@Y240 s k
 have g2:=@Y1j7 s k
 have g3:=@Y20r s a k
 with_reducible repeat' (first|apply ah|exact zR|(intro))
 all_goals ((try simp only[std,inj]at *);with_reducible and_intros)
 all_goals try first|exact z|grind[byt,Yla,Ylb,Yl5])
theorem Z11 (s:ByteArray) (a:Nat) (b:Bool) (h:a<=s.size/\noc s a):Z2i s a b:=Ylh call45 func45 (.l (Z67 s a b) (Zhs s a b h) [0] [.a (vI (a:Int))] a (.t (.f [] [.box [vS s,vI (↑(sk s a):Int),vB b]] (.tup [])) .q)) (by
 dsimp only[Yl3,Z2i,Yle,Z67]
 exact zV)
abbrev Y1nj:AC:=.val (.lit (.slice none 0 0))
theorem Y1z1 {t:ByteArray}{d:Yd}(h:Yqk t=some d) (h1:Ysz t):d=⟨2,Yug t,mkS [],[]⟩:=by
 unfold Yqk at h;rw[ae h1]at h;exact(ce h).symm
theorem Y23p {t:ByteArray}{d:Yd}(h:Yqk t=some d) (h1:Ysz t=false) (h2:tx t=[35,116]):d=⟨3,1,mkS [],[]⟩:=by
 unfold Yqk at h;rw[ab (by simp[h1]),ae h2]at h;exact(ce h).symm
theorem Y230 {t:ByteArray}{d:Yd}(h:Yqk t=some d) (h1:Ysz t=false) (h2:tx t≠[35,116]) (h3:tx t=[35,102]):d=⟨3,0,mkS [],[]⟩:=by
 unfold Yqk at h;rw[ab (by simp[h1]),ab h2,ae h3]at h;exact(ce h).symm
theorem Y233 {t:ByteArray}{d:Yd}(h:Yqk t=some d) (h1:Ysz t=false) (h2:tx t≠[35,116]) (h3:tx t≠[35,102]):Yox t/\d=⟨1,0,t,[]⟩:=by
 unfold Yqk at h;rw[ab (by simp[h1]),ab h2,ab h3]at h
 split at h
 ·rename_i e;exact⟨e,(ce h).symm⟩
 ·cases h
abbrev Z9y (n:Int):Ct:=⟨57,[],[li n],[],.sv (.agg [vI 2,vI n,vS (mkS []),Y1nj])⟩
theorem Zao (n:Int) (h : -999999999<=n/\n<=999999999):Z9y n:=Ylh call57 func57 (let v1:Cell:=.y;.c [.rd,.rd,.rd] (Z6j n (-999999999:Int) 999999999) (.b (!decide ((-999999999:Int)<=n/\n<=999999999)) (.s (.agg [vI 0,vI 0,vS (mkS []),.val v1])) (.s (.agg [vI 2,vI n,vS (mkS []),.val v1])))) (by
 dsimp only[Yl3,Z9y]
 exact zV)
abbrev Zdn (b:Bool):Ct:=⟨58,[],[lb b],[],.sv (.agg [vI 3,vI (if b then 1 else 0),vS (mkS []),Y1nj])⟩
theorem Zkm (b:Bool):Zdn b:=Ylh call58 func58 (let v1:Cell:=.y;.b b (.s (.agg [vI 3,vI 1,vS (mkS []),.val v1])) (.s (.agg [vI 3,vI 0,vS (mkS []),.val v1]))) (by
 dsimp only[Yl3,Zdn]
 exact zV)
abbrev Z8w (s:ByteArray):Ct:=⟨99,[],[ls s],[],.sv (.agg [vI 1,vI 0,vS s,Y1nj])⟩
theorem Z2j (s:ByteArray) (h:Yox s):Z8w s:=Ylh call99 func99 (let v1:Cell:=.y;.c [.rd] (Z4s s) (.b (!Yox s) (.s (.agg [vI 0,vI 0,vS (mkS []),.val v1])) (.s (.agg [vI 1,vI 0,vS s,.val v1])))) (by
 dsimp only[Yl3,Z8w]
 exact zV)
abbrev Zbg (s:ByteArray):Ct:=⟨59,[],[ls s],[],.sv (.agg [vI 4,vI 0,vS s,Y1nj])⟩
theorem Z71 (s:ByteArray) (h:Yq5 s):Zbg s:=Ylh call59 func59 (let v1:Cell:=.y;.c [.rd] (Z73 s) (.b (!Yq5 s) (.s (.agg [vI 0,vI 0,vS (mkS []),.val v1])) (.s (.agg [vI 4,vI 0,vS s,.val v1])))) (by
 dsimp only[Yl3,Zbg]
 exact zV)
def atR (d:Yd) (a:Nat):Nat:=a
theorem Y1xc {s:ByteArray}{a:Nat}(h:a<s.size) (h1:Yqc (byt s a)=false) (h2:Y12r (byt s a)=false):pst isRu s (a+1)=pst isRu s a:=Y1fc isRu h (by show (!Yqc (byt s a) && !Y12r (byt s a));rw[h1,h2];rfl)
theorem Y1qh {s:ByteArray}{a:Nat}(h:a<=s.size) (hp:a<s.size->Yqc (byt s a)\/Y12r (byt s a)):pst isRu s a=a:=Y155 isRu h λe=>by
 have:=hp e
 show (!Yqc (byt s a) && !Y12r (byt s a))=false
 rcases this with e|e<;>rw[e]<;>simp
theorem Y1wp {s:ByteArray}{a:Nat}(h:a<s.size) (h1:byt s a≠34):pst noQ s (a+1)=pst noQ s a:=Y1fc noQ h (by show (!decide (byt s a=34));simp[h1])
theorem Y1o6 {s:ByteArray}{a:Nat}(h:a<=s.size) (hp:a<s.size->byt s a=34):pst noQ s a=a:=Y155 noQ h λe=>by show (!decide (byt s a=34))=false;simp[hp e]
def atG (t:ByteArray):Yd:=(Yqk t).getD default
abbrev Z9z (s:ByteArray) (a:Nat):Ct:=⟨101,[.box [vS s,vI (a:Nat),vB false]],[.y 0],.box [vS s,vI (pst isRu s a:Nat),vB false] :: Y17n (atG (sbs s a (pst isRu s a))),.sv (Yud (atG (sbs s a (pst isRu s a))) 1)⟩
def Z68 (s:ByteArray) (a:Nat):Lp Nat:=let v1:=[vI 0,vI 0,vS (mkS []),.val (.y)];let v2:=[(0,.y 0),(2,.y 1),(3,li (a:Int))];.mk 92 1 (λx=>v2) (λx=>[.box [vS s,ha x 0,vB false],.box v1]) (λk=>[.a (vI (k:Int))]) (λk=>a<=k/\k<=s.size/\pst isRu s k=pst isRu s a) (λk=>s.size - k) [.mk True (.exit 0) (λx=>v2) (λx=>[.box [vS s,ha x 0,vB false],.box v1]) [.a (vI (↑(pst isRu s a):Int))]]
theorem Zht (s:ByteArray) (a:Nat) (h:a<=s.size/\s.size<=15000/\(Yqk (sbs s a (pst isRu s a))).isSome):Lp.Sem prog (Yli f101 0) (Z68 s a):=Ylp (λk=>let v1:=(↑(s.data.toList.getD (k:Int).toNat (0:UInt8)).toNat:Int);let v4:=s.data.toList.length<=9223372036854775807;let v2:Tq _ _:=.h v4 (.y false (.o 0 [0,1] [.a (vI (k:Int))]));let v3:=0<=(k:Int)/\(k:Int).toNat<s.data.toList.length;.w (.draw []) (.i ((k:Int)<(s.data.toList.length:Int)) (.p v3 (.c [.rd] (Zfl v1) (.b (!Yqc v1) (.p v3 (.c [.rd] (Zkl v1) (.h v4 (.b (!Y12r v1) (.r ((k:Int)+1) (.g [0,1] (k+1) [.a (vI ((k:Int)+1))])) (.o 0 [0,1] [.a (vI (k:Int))]))))) v2))) (.y false v2))) (by
 intro k h;try dsimp only[Yl3,Yle,Z68]at h|-
 have g1:=@Y1xc s k
 have g2:=@Y1qh s k
 with_reducible repeat' (first|apply ah|exact zR|(intro)|apply Zao|apply Z2j)
 all_goals ((try simp only[std,inj]at *);with_reducible and_intros)
 all_goals try with_reducible first|apply Zao|apply Z2j
 all_goals try first|exact z|grind[byt,Yla,Ylb,Yl5])
theorem Z4r (s:ByteArray) (a:Nat) (h:a<=s.size/\s.size<=15000/\(Yqk (sbs s a (pst isRu s a))).isSome):Z9z s a:=Ylh call101 func101 (let v5:=(↑(pst isRu s a):Int);let v8:=v5.toNat - (a:Int).toNat;let v7:=List.drop (a:Int).toNat s.data.toList;let v1:=ByteArray.mk (v7.take v8).toArray;let v2:=v7.take v8=[(35:UInt8),(116:UInt8)];let v3:List Ob:=[.box [vS s,vI v5,vB false],.y 4 []];let v4:Orc:=.ghost (.nilbox 1 3 true 4);let v6:Tq _ _:=.c [.rd] (Zkm (decide v2)) (.w v4 (.f [2] v3 (.sv (.agg [vI 3,vI (if decide v2 then 1 else 0),vS (mkS []),.ref 1]))));.l (Z68 s a) (Zht s a h) [0,1] [.a (vI (a:Int))] a (.t (.w (.draw []) (.p (0<=(a:Int)) (.p (0<=v5) (.p ((a:Int).toNat<=v5.toNat/\v5.toNat<=s.data.toList.length) (.c [.rd] (Zkk v1) (.b (Ysz v1) (.d [.rd] (Z9y (Yug v1)) (.w v4 (.f [2] v3 (.sv (.agg [vI 2,vI (Yug v1),vS (mkS []),.ref 1]))))) (.i v2 (.y true v6) (.i (v7.take v8=[(35:UInt8),(102:UInt8)]) v6 (.c [.rd] (Z4s v1) (.b (Yox v1) (.d [.rd] (Z8w v1) (.w v4 (.f [2] v3 (.sv (.agg [vI 1,vI 0,vS v1,.ref 1]))))) (.w v4 (.f [2] [.box [vS s,vI v5,vB true],.y 4 []] (.sv (.agg [vI 0,vI 0,vS (mkS []),.ref 1])))))))))))))) .q)) (by
 dsimp only[Yl3,Z9z,Yle,Z68]
 have g0:Yqk (sbs s a (pst isRu s a))=some (atG (sbs s a (pst isRu s a))):=by obtain⟨d,e⟩:=Option.isSome_iff_exists.1 h.2.2;unfold atG;rw[e];rfl
 have g1:=@Y1z1 (sbs s a (pst isRu s a)) (atG (sbs s a (pst isRu s a))) g0
 have g2:=@Y23p (sbs s a (pst isRu s a)) (atG (sbs s a (pst isRu s a))) g0
 have g3:=@Y230 (sbs s a (pst isRu s a)) (atG (sbs s a (pst isRu s a))) g0
 have g4:=@Y233 (sbs s a (pst isRu s a)) (atG (sbs s a (pst isRu s a))) g0
 have g5:=@Y1q8 (sbs s a (pst isRu s a))
 have g7:=@Yua isRu s a
 have g8:=Y21l s a (pst isRu s a)
 have g9:=Y21v s a (pst isRu s a)
 exact z00)
theorem Yxy:∀ L:List Yd,L.length<=sumBy sizeD L
 | []=>aC _
 | x :: r=>by have:=Yxy r;have:=Ypj x;simp only[aD,sumBy];omega
theorem Y25z {d:Yd}{s:ByteArray}{a:Nat}(h:a<=s.size) (hd:okR d s a) (hb:byt s (sk s a)=40):noc s (sk s a+1):=by
 have:=(rdl h hd hb (cm _)).2.1
 rwa [Y205 h hd]at this
def dfD:Yd:=default
abbrev Zc6 (s:ByteArray) (n:Int):Ct:=⟨46,[.box [vS s,vI n,vB false]],[.y 0],.box [vS s,vI n,vB false] :: Y17n dfD,.sv (Yud dfD 1)⟩
theorem Z3m (s:ByteArray) (n:Int) (h:n<n):OK (Zc6 s n):=absurd h (Int.lt_irrefl n)
abbrev Zu (s:ByteArray) (a:Nat) (d:Yd):Ct:=⟨46,[.box [vS s,vI (sk s (atR d a):Nat),vB false]],[.y 0],.box [vS s,vI (enR d s a:Nat),vB false] :: Y17n d,.sv (Yud d 1)⟩
def Z3g (s:ByteArray) (a:Nat) (d:Yd):Lp Nat:=let v1:=[(0,.y 0),(2,.y 1),(4,.y 2)];let v2:=[vI 0,vI 0,vS (mkS []),.val (.y)];let v3:=[vI 0,vI 0,vS (mkS []),.ref 3];.mk 228 1 (λx=>v1) (λx=>[.box [vS s,ha x 0,vB false],.box v2,.box v3,ho x 1]) (λk=>[.a (vI (↑(sk s (atR (d.Ia.g k) (enP (d.Ia.take k) s (sk s a+1)))):Int)),.o (.Ah (d.Ia.take k))]) (λk=>k<=d.Ia.length/\d.Ia.length<=9223372036854775807/\a<=s.size/\s.size<=15000/\okR d s a/\byt s (sk s a)=40/\sizeD d<=600) (λk=>d.Ia.length - k) [.mk True (.exit 3) (λx=>v1) (λx=>[.box [vS s,ha x 0,vB false],.box v2,.box v3,ho x 1]) [.a (vI (↑(sk s (enP d.Ia s (sk s a+1))):Int)),.o (.Ah d.Ia)]]
def Z3h (s:ByteArray) (a:Nat) (d:Yd):Lp Nat:=let v1:=[vI 0,vI 0,vS (mkS []),.val (.y)];.mk 228 1 (λx=>[(0,.y 0),(2,.y 1),(3,hs x 1)]) (λx=>[.box [vS s,ha x 0,vB false],.box v1]) (λk=>[.a (vI (k:Int)),.s (li (↑(sk s a+1):Int))]) (λk=>sk s a+1<=k/\k<=s.size/\pst noQ s k=pst noQ s (sk s a+1)) (λk=>s.size - k) [.mk True (.exit 1) (λx=>[(0,.y 0),(2,.y 1),(3,hs x 1)]) (λx=>[.box [vS s,ha x 0,vB false],.box v1]) [.a (vI (↑(pst noQ s (sk s a+1)):Int)),.s (li (↑(sk s a+1):Int))]]
theorem Ze8 (s:ByteArray) (a:Nat) (d:Yd) (h:a<=s.size/\s.size<=15000/\okR d s a/\sizeD d<=600) (ih:∀ (z:Yd),z∈d.Ia->∀ (s:ByteArray) (a:Nat),a<=s.size/\s.size<=15000/\okR z s a/\sizeD z<=600->OK (Zu s a z)):Lp.Sem prog (Yli f46 1) (Z3g s a d):=Ylp (λk=>let v6:=d.Ia.g k;let v7:=d.Ia.take k;let v5:=enP v7 s (sk s a+1);let v1:=(↑(sk s (atR v6 v5)):Int);let v2:=enR v6 s v5;let v3:=v7.map Ylf;let v4:=s.data.toList.length<=9223372036854775807;.w (.draw []) (.y true (.i (v1<(s.data.toList.length:Int)) (.p (0<=v1/\v1.toNat<s.data.toList.length) (.h v4 (.i ((↑(s.data.toList.getD v1.toNat (0:UInt8)).toNat:Int)≠41) (.w (.draw [(3,[0]),(4,[7]),(5,[3,14]),(7,[2])]) (.d [.ptr] (Zu s v5 v6) (.p ((v3.length+1) * 56<=140737488355328) (.d [.ptr] (Z2i s v2 false) (.g [0,1,2,15] (k+1) [.a (vI (↑(sk s v2):Int)),.o (.y 4 (v7.map Ylf++[Ym1 v6]))]))))) (.o 0 [0,1,2,3] [.a (vI v1),.o (.y 4 v3)])))) (.h v4 (.y false (.o 0 [0,1,2,3] [.a (vI v1),.o (.y 4 v3)])))))) (by
 intro k h;try dsimp only[Yl3,Yle,Z3g]at h|-
 have hq:=h
 obtain⟨q1,q2,q3,q4,q5,q6,q7⟩:=hq
 have g7:=Ypj d
 have g8:=Yxy d.Ia
 have g9:=@Yls _ sizeD d.Ia (d.Ia.g k)
 have g4:=@rdl d s a q3 q5 q6 k q1
 have g5:k<d.Ia.length->_:=λhk=>@rdl d s a q3 q5 q6 (k+1) hk
 with_reducible repeat' (first|apply ah|exact zR|exact ih|(intro)|apply Z11|apply Z4r|apply Z71|apply Z2j|apply Z3m|apply ih)
 all_goals ((try simp only[std,inj]at *);with_reducible and_intros)
 all_goals try first|with_reducible (first|apply Z11|apply Z4r|apply Z71|apply Z2j|apply Z3m|apply ih)|(simp only[<- aq];with_reducible first|apply Z11|apply Z4r|apply Z71|apply Z2j|apply Z3m|apply ih)
 all_goals try first|exact z|grind[byt,atR,Ylk,Yl6,Yla,Ylb,Yl5])
theorem Ze9 (s:ByteArray) (a:Nat) (d:Yd) (h:a<=s.size/\s.size<=15000/\okR d s a/\sizeD d<=600) (ih:∀ (z:Yd),z∈d.Ia->∀ (s:ByteArray) (a:Nat),a<=s.size/\s.size<=15000/\okR z s a/\sizeD z<=600->OK (Zu s a z)):Lp.Sem prog (Yli f46 0) (Z3h s a d):=Ylp (λk=>let v1:=li (↑(sk s a+1):Int);let v2:=s.data.toList.length<=9223372036854775807;.w (.draw []) (.i ((k:Int)<(s.data.toList.length:Int)) (.p (0<=(k:Int)/\(k:Int).toNat<s.data.toList.length) (.h v2 (.i ((↑(s.data.toList.getD (k:Int).toNat (0:UInt8)).toNat:Int)≠34) (.r ((k:Int)+1) (.g [0,1] (k+1) [.a (vI ((k:Int)+1)),.s v1])) (.o 0 [0,1] [.a (vI (k:Int)),.s v1])))) (.h v2 (.y false (.o 0 [0,1] [.a (vI (k:Int)),.s v1]))))) (by
 intro k h;try dsimp only[Yl3,Yle,Z3h]at h|-
 have g1:=@Y1wp s k
 have g2:=@Y1o6 s k
 with_reducible repeat' (first|apply ah|exact zR|exact ih|(intro)|apply Z11|apply Z4r|apply Z71|apply Z2j|apply Z3m)
 all_goals ((try simp only[std,inj]at *);with_reducible and_intros)
 all_goals try with_reducible first|apply Z11|apply Z4r|apply Z71|apply Z2j|apply Z3m|apply ih
 all_goals try first|exact z|grind[byt,Yla,Ylb,Yl5])
theorem Zhu (s:ByteArray) (a:Nat) (d:Yd) (h:a<=s.size/\s.size<=15000/\okR d s a/\sizeD d<=600) (ih:∀ z∈d.Ia,∀ (s:ByteArray) (a:Nat) (h:a<=s.size/\s.size<=15000/\okR z s a/\sizeD z<=600),Zu s a z):Zu s a d:=Ylh call46 func46 (let v12:=sk s (atR d a);let v1:=(↑(sk s v12):Int);let v2:=(↑(pst noQ s (sk s a+1)):Int);let v3:AV:=.sv (.agg [vI 0,vI 0,vS (mkS []),.ref 1]);let v4:=atG (sbs s (sk s v12) (pst isRu s (sk s v12)));let v5:=(↑(sk s a+1):Int);let v6:=s.data.toList.length<=9223372036854775807;let v7:Orc:=.ghost (.nilbox 1 3 true 4);let v8:=mkS [113,117,111,116,101];let v9:=(↑(s.data.toList.getD v1.toNat (0:UInt8)).toNat:Int);let v17:=List.drop v5.toNat s.data.toList;let v10:=ByteArray.mk (List.take ((v2+1 - 1).toNat - v5.toNat) v17).toArray;let v11:=ByteArray.mk (List.take (v2.toNat - v5.toNat) v17).toArray;let v13:=(↑(sk s (enP d.Ia s (sk s a+1))):Int);let v14:Tq _ _:=.w v7 (.f [2] [.box [vS s,vI v2,vB true],.y 4 []] v3);let v15:Tq _ _:=.w v7 (.f [2] [.box [vS s,vI v1,vB true],.y 4 []] v3);let v16:=0<=v1/\v1.toNat<s.data.toList.length;.d [.ptr] (Z2i s v12 false) (.w (.draw []) (.y false (.i ((s.data.toList.length:Int)<=v1) (.h v6 (.y true v15)) (.p v16 (.h v6 (.i (v9=41) v15 (.w (.draw []) (.p v16 (.i (v9=39) (.r (v1+1) (.d [.rd] (Z8w v8) (.d [.ptr] (Zc6 s (v1+1)) (.f [4] [.box [vS s,vI (v1+1),vB false],.y 4 [[cI 1,cI 0,cS v8,.list []],[cI dfD.Ka,cI dfD.Na,cS dfD.Ta,.list []]]] v3)))) (.i (v9=34) (.r (v1+1) (.l (Z3h s a d) (Ze9 s a d h ih) [0,1] [.a (vI (v1+1)),.s (li (v1+1))] (sk s a+1) (.t (.w (.draw []) (.i ((s.data.toList.length:Int)<=v2) (.h v6 (.y true v14)) (.p (0<=v5) (.p (0<=v2) (.p (v5.toNat<=v2.toNat/\v2.toNat<=s.data.toList.length) (.c [.rd] (Z73 v11) (.h v6 (.b (!Yq5 v11) v14 (.r (v2+1) (.w (.draw [(12,[1])]) (.r (v2+1 - 1) (.p (0<=v5) (.p (0<=v2+1 - 1) (.p (v5.toNat<=(v2+1 - 1).toNat/\(v2+1 - 1).toNat<=s.data.toList.length) (.d [.rd] (Zbg v10) (.w v7 (.f [2] [.box [vS s,vI (v2+1),vB false],.y 4 []] (.sv (.agg [vI 4,vI 0,vS v10,.ref 1]))))))))))))))))))) .q))) (.i (v9=40) (.r (v1+1) (.d [.ptr] (Z2i s (sk s v12+1) false) (.w (.g (.nilbox 2 3 true 4)) (.l (Z3g s a d) (Ze8 s a d h ih) [0,1,2,3] [.a (vI (↑(sk s (sk s v12+1)):Int)),.o (.y 4 [])] 0 (.t (.w (.draw [(19,[0])]) (.y false (.h v6 (.r (v13+1) (.f [3] [.box [vS s,vI (v13+1),vB (decide ((s.data.toList.length:Int)<=v13))],.Ah d.Ia] v3))))) .q))))) (.d [.ptr] (Z9z s (sk s v12)) (.f [3] [.box [vS s,vI (↑(pst isRu s (sk s v12)):Int),vB false],.Ah v4.Ia] (.sv (.agg [vI v4.Ka,vI v4.Na,vS v4.Ta,.ref 1])))))))))))))))) (by
 dsimp only[Yl3,Zu,Yle,Z3h,Z3g]
 have g1:=@Y24l d s a
 have g2:=@Y1xk d s a
 have g3:=@Y20l d s a
 have g4:=@Y223 d s a
 have g5:=@Y205 d s a
 have g6:=@Y1vr s a
 have e0:sk s (atR d a)=sk s a:=rfl
 have g9:=@Y25z d s a
 have g17:Yqk (sbs s (sk s a) (pst isRu s (sk s a)))=some d->atG (sbs s (sk s a) (pst isRu s (sk s a)))=d:=λq=>by unfold atG;rw[q];rfl
 have g10:enR d s a<=s.size:=(Y1zf h.1 h.2.2.1).2.2
 have g11:d.Ia.length<=600:=by have:=Ypj d;have:=Yxy d.Ia;have:=h.2.2.2;omega
 have e1:sk s (sk s (atR d a))=sk s a:=Y1ac h.1
 have g7:sk s a+1<=s.size->sk s a+1<=pst noQ s (sk s a+1)/\pst noQ s (sk s a+1)<=s.size:=λq=>(Yua noQ q).2
 have g8:sk s a<=s.size->sk s a<=pst isRu s (sk s a)/\pst isRu s (sk s a)<=s.size:=λq=>(Yua isRu q).2
 with_reducible repeat' (first|apply ah|exact zR|exact ih|(intro)|apply Z11|apply Z4r|apply Z71|apply Z2j|apply Z3m)
 all_goals ((try simp only[std,inj]at *);with_reducible and_intros)
 all_goals try with_reducible first|apply Z11|apply Z4r|apply Z71|apply Z2j|apply Z3m|apply ih
 all_goals try first|exact z|grind[byt,atR,Yla,Ylb,Yl5])
theorem Z72 (d:Yd):∀ (s:ByteArray) (a:Nat) (h:a<=s.size/\s.size<=15000/\okR d s a/\sizeD d<=600),Zu s a d:=Yd.ind (P:=λd=>∀ (s:ByteArray) (a:Nat) (h:a<=s.size/\s.size<=15000/\okR d s a/\sizeD d<=600),Zu s a d) (λd ih s a h=>Zhu s a d h ih) d
theorem Y169 {L:List Yd}{s:ByteArray}{k:Nat}(h:Yx9 L s) (hk:k<L.length) :
  okR (L.g k) s (enP (L.take k) s 0)/\enP (L.take (k+1)) s 0=enR (L.g k) s (enP (L.take k) s 0)/\enP (L.take k) s 0<=s.size/\sk s (enP (L.take k) s 0)<s.size/\noc s (enP (L.take k) s 0):=by
 simp only[Yx9,af,ak]at h
 have h1:=Y1em (cm _) h.1.1.1.1 hk
 have h2:=(Y11r (cm _) (Y102 (k:=k) (cm _) h.1.1.1.1)).2.2
 have h3:=Yr4 h2 h1.1
 exact⟨h1.1,h1.2,h2,h3.2.1,h3.1⟩
theorem Y1wo {s:ByteArray}{a:Nat}(h:sk s a=s.size):noc s a:=by simp[noc,h]
theorem Y13u {L:List Yd}{s:ByteArray}(h:Yx9 L s):sk s (enP L s 0)=s.size/\enP L s 0<=s.size/\noc s (enP L s 0)/\L.all Ynp/\sumBy sizeD L<=600/\s.size<=15000/\L.length<=600:=by
 simp only[Yx9,af,ak]at h
 exact⟨h.1.1.1.2,(Y11r (cm _) h.1.1.1.1).2.2,Y1wo h.1.1.1.2,h.1.1.2,h.1.2,h.2,aN (Yxy L) h.1.2⟩
theorem Y1oz {L:List Yd}{s:ByteArray}{k:Nat}(h:Yx9 L s) (hk:k<=L.length):enP (L.take k) s 0<=s.size/\noc s (enP (L.take k) s 0)/\(k=L.length->sk s (enP (L.take k) s 0)=s.size):=by
 rcases Nat.lt_or_eq_of_le hk with hl|rfl
 ·have:=Y169 h hl;exact⟨this.2.2.1,this.2.2.2.2,λe=>by omega⟩
 ·have:=Y13u h;rw[b8];exact⟨this.2.1,this.2.2.1,λ_=>this.1⟩
theorem Y1fu {L:List Yd}{s:ByteArray}:enP (L.take 0) s 0=0:=Y19i s (cm _)
theorem Y1rs {L:List Yd}{s:ByteArray}(h:Yx9 L s):noc s 0:=by
 cases L with
 | nil=>have:=(Y13u h).2.2.1;rwa [Y19i s (cm _)]at this
 | cons x l=>have:=(Y169 (k:=0) h sW).2.2.2.2;rwa [Y1fu]at this
def Y1l2 (L:List Yd):Bool:=L.all Ynp&&decide ((sumBy sizeD L:Int)<=600)
abbrev Z1p (d:Yd):Ct:=⟨102,[],[Yq0 d],[],.sv (li (sizeD d:Nat))⟩
def Z4i (d:Yd):Lp Nat:=.mk 19 0 (λx=>[(3,hs x 1),(7,Aq d.Ia),(8,li (d.Ia.map Ylf).length),(9,hs x 0)]) (λx=>[]) (λk=>[.s (li k),.s (li (↑(1+sumBy sizeD (d.Ia.take k)):Int))]) (λk=>k<=d.Ia.length/\d.Ia.length<=9223372036854775807) (λk=>d.Ia.length - k) [.mk True (.exit 0) (λx=>[(3,hs x 0)]) (λx=>[]) [.s (li (↑(1+sumBy sizeD d.Ia):Int))]]
theorem Zfm (d:Yd) (h:sizeD d<=2147483647) (ih:∀ (z:Yd),z∈d.Ia->sizeD z<=2147483647->OK (Z1p z)):Lp.Sem prog (Yli f102 0) (Z4i d):=Ylp (λk=>let v2:=(↑(1+sumBy sizeD (d.Ia.take k)):Int);let v3:=d.Ia.g k;let v1:=v2+(↑(sizeD v3):Int);.i ((k:Int)<(d.Ia.map Ylf).length) (.x (k:Int) (d.Ia.map Ylf) (Ym1 v3) (.d [.rd] (Z1p v3) (.r v1 (.r ((k:Int)+1) (.g [] (k+1) [.s (li ((k:Int)+1)),.s (li v1)]))))) (.o 0 [] [.s (li v2)])) (by
 intro k h;try dsimp only[Yl3,Yle,Z4i]at h|-
 have g2:=@Yls _ sizeD d.Ia (d.Ia.g k)
 have g3:=@Yom _ _ sizeD d.Ia k
 have g4:=Ymu sizeD d.Ia (k+1)
 have g6:=Ypj d
 have g7:d.Ia.length<=k->d.Ia.take k=d.Ia:=λh=>ar h
 exact z01)
theorem Zje (d:Yd) (h:sizeD d<=2147483647) (ih:∀ z∈d.Ia,∀ (h:sizeD z<=2147483647),Z1p z):Z1p d:=Ylh call102 func102 (.z Ylf d.Ia (.l (Z4i d) (Zfm d h ih) [] [.s (li 0),.s (li 1)] 0 (.t (.s (li (↑(1+sumBy sizeD d.Ia):Int))) .q))) (by
 dsimp only[Yl3,Z1p,Yle,Z4i]
 have g6:=Ypj d
 have g7:sumBy sizeD (d.Ia.take 0)=0:=rfl
 exact z02)
theorem Zap (d:Yd):∀ (h:sizeD d<=2147483647),Z1p d:=Yd.ind (P:=λd=>∀ (h:sizeD d<=2147483647),Z1p d) (λd ih h=>Zje d h ih) d
abbrev Za0 (L:List Yd):Ct:=⟨47,[],[Aq L],[],.sv (lb (Y1l2 L))⟩
def Z69 (L:List Yd):Lp Nat:=.mk 22 0 (λx=>[(3,hs x 1),(6,Aq L),(7,li (L.map Ylf).length),(8,hs x 0)]) (λx=>[]) (λk=>[.s (li k),.s (li (↑(sumBy sizeD (L.take k)):Int))]) (λk=>k<=L.length/\L.length<=9223372036854775807/\L.length<=1000000/\(L.take k).all Ynp/\(↑(sumBy sizeD (L.take k)):Int)<=600 * (k:Int)) (λk=>L.length - k) [.mk (L.all Ynp) (.exit 0) (λx=>[(3,hs x 0)]) (λx=>[]) [.s (li (↑(sumBy sizeD L):Int))],.mk (L.all Ynp=false) .ret (λx=>[(2,hs x 0)]) (λx=>[]) [.s (lb false)]]
theorem Zhv (L:List Yd) (h:L.length<=1000000):Lp.Sem prog (Yli f47 0) (Z69 L):=Ylp (λk=>let v3:=(↑(sumBy sizeD (L.take k)):Int);let v2:=L.g k;let v1:=v3+(↑(sizeD v2):Int);.i ((k:Int)<(L.map Ylf).length) (.x (k:Int) (L.map Ylf) (Ym1 v2) (.c [.rd] (Zbn v2) (.b (!Ynp v2) (.o 1 [] [.s (lb false)]) (.d [.rd] (Z1p v2) (.r v1 (.r ((k:Int)+1) (.g [] (k+1) [.s (li ((k:Int)+1)),.s (li v1)]))))))) (.o 0 [] [.s (li v3)])) (by
 intro k h;try dsimp only[Yl3,Yle,Z69]at h|-
 have g3:=@Yom _ _ sizeD L k
 have g4:Ynp (L.g k)->sizeD (L.g k)<=600:=λh=>by simp only[Ynp,af,ak]at h;exact h.1.1
 with_reducible repeat' (first|apply ah|exact zR|(intro)|apply Zap)
 all_goals ((try simp only[std,inj]at *);with_reducible and_intros)
 all_goals try with_reducible first|apply Zap
 all_goals try first|exact z|grind[Ylk,Yla,Ylb,Yl5])
theorem Z88 (L:List Yd) (h:L.length<=1000000):Za0 L:=Ylh call47 func47 (.z Ylf L (.l (Z69 L) (Zhv L h) [] [.s (li 0),.s (li 0)] 0 (.t (.s (lb (decide ((↑(sumBy sizeD L):Int)<=600)))) (.t (.s (lb false)) .q)))) (by
 dsimp only[Yl3,Za0,Yle,Z69]
 with_reducible repeat' (first|apply ah|exact zR|(intro)|apply Zap)
 all_goals ((try simp only[std,inj]at *);with_reducible and_intros)
 all_goals try with_reducible first|apply Zap
 all_goals try first|exact z|grind[Y1l2,sumBy,Yla,Ylb,Yl5])
abbrev Zc7 (L:List Yd) (s:ByteArray):Ct:=⟨19,[],[ls s],[.Ah L],.tup [.r 0,lb true]⟩
def Z5d (L:List Yd) (s:ByteArray):Lp Nat:=let v1:=[(4,.y 0),(5,.r 1)];.mk 49 0 (λx=>v1) (λx=>[.box [vS s,ha x 0,vB false],ho x 1]) (λk=>[.a (vI (↑(sk s (atR (L.g k) (enP (L.take k) s 0))):Int)),.o (.Ah (L.take k))]) (λk=>k<=L.length/\L.length<=9223372036854775807/\Yx9 L s/\L.length<=600) (λk=>L.length - k) [.mk True (.exit 0) (λx=>v1) (λx=>[.box [vS s,ha x 0,vB false],ho x 1]) [.a (vI (s.size:Int)),.o (.Ah L)]]
theorem Zgc (L:List Yd) (s:ByteArray) (h:Yx9 L s):Lp.Sem prog (Yli f19 0) (Z5d L s):=Ylp (λk=>let v1:=enP (L.take k) s 0;let v2:=L.g k;let v3:=(L.take k).map Ylf;.w (.draw []) (.y true (.h (s.data.toList.length<=9223372036854775807) (.i ((↑(sk s (atR v2 v1)):Int)<(s.data.toList.length:Int)) (.d [.ptr] (Zu s v1 v2) (.p ((v3.length+1) * 56<=140737488355328) (.d [.ptr] (Z2i s (enR v2 s v1) false) (.g [0,5] (k+1) [.a (vI (↑(sk s (enR v2 s v1)):Int)),.o (.y 4 ((L.take k).map Ylf++[Ym1 v2]))])))) (.o 0 [0,1] [.a (vI (↑(sk s (atR v2 v1)):Int)),.o (.y 4 v3)]))))) (by
 intro k h;try dsimp only[Yl3,Yle,Z5d]at h|-
 have g1:=@Y169 L s k
 have g0:=@Y1oz L s (k+1)
 have g00:=@Y1oz L s k
 have g2:=@Y13u L s
 have g3:=@Yls _ sizeD L (L.g k)
 with_reducible repeat' (first|apply ah|exact zR|(intro)|apply Z11|apply Z72|apply Z88)
 all_goals ((try simp only[std,inj]at *);with_reducible and_intros)
 all_goals try first|with_reducible (first|apply Z11|apply Z72|apply Z88)|(simp only[<- aq];with_reducible first|apply Z11|apply Z72|apply Z88)
 all_goals try first|exact z|grind[atR,Ylk,Yl6,Yla,Ylb,Yl5])
theorem Zfn (L:List Yd) (s:ByteArray) (h:Yx9 L s):Zc7 L s:=Ylh call19 func19 (let v1:AV:=.tup [.r 0,lb false];.h (s.data.toList.length<=9223372036854775807) (.i (15000<(s.data.toList.length:Int)) (.w (.g (.nilreg 2 true 4)) (.f [0] [.y 4 []] v1)) (.w (.bool false) (.d [.ptr] (Z2i s 0 false) (.l (Z5d L s) (Zgc L s h) [0,1] [.a (vI (↑(sk s 0):Int)),.o (.y 4 [])] 0 (.t (.y false (.d [.rd] (Za0 L) (.b (!Y1l2 L) (.w (.g (.nilreg 2 true 4)) (.f [2] [.y 4 []] v1)) (.f [1] [.Ah L] (.tup [.r 0,lb true]))))) .q)))))) (by
 dsimp only[Yl3,Zc7,Yle,Z5d]
 have g1:=@Y13u L s
 have g2:=@Y1fu L s
 have g3:=@Y1rs L s
 with_reducible repeat' (first|apply ah|exact zR|(intro)|apply Z11|apply Z72|apply Z88)
 all_goals ((try simp only[std,inj]at *);with_reducible and_intros)
 all_goals try with_reducible first|apply Z11|apply Z72|apply Z88
 all_goals try first|exact z|grind[atR,Y1l2,Yla,Ylb,Yl5])
end
section
abbrev Z8x (L:List ByteArray) (s:ByteArray):Ct:=⟨63,[],[Ax L,ls s],[],.sv (li (Ypg L s))⟩
def Z7w (L:List ByteArray) (s:ByteArray):Lp Nat:=.mk 19 0 (λx=>[(1,ls s),(7,Ax L),(8,li (L.map Ymj).length),(9,hs x 0)]) (λx=>[]) (λk=>[.s (li k)]) (λk=>k<=L.length/\L.length<=9223372036854775807/\((L.take k).all λx => !decide (x=s))=true) (λk=>L.length - k) [.mk (Ypg L s=(-1:Int)) (.exit 0) (λx=>[]) (λx=>[]) [],.mk True .ret (λx=>[(4,hs x 0)]) (λx=>[]) [.s (li (Ypg L s))]]
theorem Zjf (L:List ByteArray) (s:ByteArray) (h:L.length<=1000):Lp.Sem prog (Yli f63 0) (Z7w L s):=Ylp (λk=>.i ((k:Int)<(L.map Ymj).length) (.x (k:Int) (L.map Ymj) [cS (L.g k)] (.i ((L.g k).data.toList=s.data.toList) (.o 1 [] [.s (li k)]) (.r ((k:Int)+1) (.g [] (k+1) [.s (li ((k:Int)+1))])))) (.o 0 [] [])) (by
 intro k h;try dsimp only[Yl3,Yle,Z7w]at h|-
 have g1:=@Y1wx L s k
 have g2:=@Y1xp L s
 have g3:L.length<=k->L.take k=L:=λh=>ar h
 with_reducible repeat' (first|apply ah|exact zR|(intro))
 all_goals ((try simp only[std,inj]at *);with_reducible and_intros)
 all_goals try first|exact z|grind[Ylk,Yok,Yla,Ylb,Yl5])
theorem Z5k (L:List ByteArray) (s:ByteArray) (h:L.length<=1000):Z8x L s:=Ylh call63 func63 (.z Ymj L (.l (Z7w L s) (Zjf L s h) [] [.s (li 0)] 0 (.t (.s (li (-1:Int))) (.t (.s (li (Ypg L s))) .q)))) (by
 dsimp only[Yl3,Z8x,Yle,Z7w]
 exact zV)
abbrev Z2k (d:Yd) (N:List ByteArray) (P:List Yd):Ct:=⟨114,[],[Yq0 d,Ax N,Aq P],[.Ah (Ypk N P d).Ia],.sv (Yud (Ypk N P d) 0)⟩
def Z5e (d:Yd) (N:List ByteArray) (P:List Yd):Lp Nat:=let v1:=[vI 0,vI 0,vS (mkS []),.val (.y)];let v2:=[vI d.Ka,vI d.Na,vS d.Ta,.ref 2];.mk 56 0 (λx=>[(1,Ax N),(2,Aq P),(6,.y 0),(8,.y 1),(39,Aq d.Ia),(40,li (d.Ia.map Ylf).length),(41,hs x 0)]) (λx=>[.box v1,.box v2,ho x 1]) (λk=>[.s (li k),.o (.Ah (List.map (Ypk N P) (d.Ia.take k)))]) (λk=>k<=d.Ia.length/\d.Ia.length<=9223372036854775807) (λk=>d.Ia.length - k) [.mk True (.exit 0) (λx=>[(6,.y 0),(8,.y 1)]) (λx=>[.box v1,.box v2,ho x 0]) [.o (.Ah (List.map (Ypk N P) d.Ia))]]
theorem Zgd (d:Yd) (N:List ByteArray) (P:List Yd) (h:wD d<=1000/\N.length<=1000/\∀ (x:Yd),x∈P->wD x<=1000000) (ih:∀ (z:Yd),z∈d.Ia->∀ (N:List ByteArray) (P:List Yd),(wD z<=1000/\N.length<=1000/\∀ (x:Yd),x∈P->wD x<=1000000)->OK (Z2k z N P)):Lp.Sem prog (Yli f114 0) (Z5e d N P):=Ylp (λk=>let v1:=List.map (Ypk N P) (d.Ia.take k);let v2:=d.Ia.g k;.i ((k:Int)<(d.Ia.map Ylf).length) (.x (k:Int) (d.Ia.map Ylf) (Ym1 v2) (.w (.draw [(6,[8]),(7,[2,16]),(9,[1])]) (.d [.rd,.rd,.rd] (Z2k v2 N P) (.p (((v1.map Ylf).length+1) * 56<=140737488355328) (.r ((k:Int)+1) (.g [0,1,17] (k+1) [.s (li ((k:Int)+1)),.o (.y 4 (v1.map Ylf++[Ym1 (Ypk N P v2)]))])))))) (.o 0 [0,1,2] [.o (.Ah v1)])) (by
 intro k h;try dsimp only[Yl3,Yle,Z5e]at h|-
 have g1:=Yve d
 have g2:=@Yls _ wD d.Ia (d.Ia.g k)
 exact z05)
theorem Zk8 (d:Yd) (N:List ByteArray) (P:List Yd) (h:wD d<=1000/\N.length<=1000/\∀ x∈P,wD x<=1000000) (ih:∀ z∈d.Ia,∀ (N:List ByteArray) (P:List Yd) (h:wD z<=1000/\N.length<=1000/\∀ x∈P,wD x<=1000000),Z2k z N P):Z2k d N P:=Ylh call114 func114 (let v1:Tq _ _:=.z Ylf d.Ia (.w (.g (.nilbox 2 3 true 4)) (.l (Z5e d N P) (Zgd d N P h ih) [1,2,3] [.s (li 0),.o (.y 4 [])] 0 (.t (.f [2] [.Ah (List.map (Ypk N P) d.Ia)] (.sv (.agg [vI d.Ka,vI d.Na,vS d.Ta,.ref 0]))) .q)));let v2:=P.g (Ypg N d.Ta).toNat;.i (d.Ka=1) (.d [.rd,.rd] (Z8x N d.Ta) (.i (0<=Ypg N d.Ta) (.z Ylf P (.i (Ypg N d.Ta<((P.map Ylf).length:Int)) (.x (Ypg N d.Ta) (P.map Ylf) (Ym1 v2) (.d [.rd] (Z1a v2) (.f [2] [.Ah v2.Ia] (.sv (.agg [vI v2.Ka,vI v2.Na,vS v2.Ta,.ref 0]))))) v1)) (.y false v1))) v1) (by
 dsimp only[Yl3,Z2k,Yle,Z5e]
 have g1:=Yve d
 have g2:=Y1jc N P d
 have g3:0<=Ypg N d.Ta->Ypg N d.Ta<(P.length:Int)->P.g (Ypg N d.Ta).toNat∈P:=λa b=>Yl6 oW
 exact z0f)
theorem Zjg (d:Yd):∀ (N:List ByteArray) (P:List Yd) (h:wD d<=1000/\N.length<=1000/\∀ x∈P,wD x<=1000000),Z2k d N P:=Yd.ind (P:=λd=>∀ (N:List ByteArray) (P:List Yd) (h:wD d<=1000/\N.length<=1000/\∀ x∈P,wD x<=1000000),Z2k d N P) (λd ih N P h=>Zk8 d N P h ih) d
abbrev Zfo (i:Nat):Ct:=⟨19,[],[ls (Yts.g i)],[.Ah (Y1g0 (Ysa i))],.tup [.r 0,lb true]⟩
theorem Zjh (i:Nat) (h:i<28):OK (Zfo i):=Zfn _ _ (by rw[Y1ab];exact Y1zz i h)
abbrev Z8y (i:Nat) (P:List Yd):Ct:=⟨64,[],[ls (Yts.g i),Ax Yt2,Aq P],[.Ah (Ypk Yt2 P (Ysa i)).Ia],.sv (Yud (Ypk Yt2 P (Ysa i)) 0)⟩
theorem Za1 (i:Nat) (P:List Yd) (h:i<28/\∀ x∈P,wD x<=1000000):Z8y i P:=Ylh call64 func64 (let v4:=Y1g0 (Ysa i);let v1:=v4.g 0;let v2:=v4.map Ylf;let v3:=Ypk Yt2 P v1;.d [.rd] (Zfo i) (.z Ylf v4 (.i (((v4.map Ylf).length:Int)=0) (.w (.g (.nilbox 0 3 true 4)) (.f [2] [.y 4 []] (.sv (.agg [vI 0,vI 0,vS (mkS []),.ref 0])))) (.p ((0:Int)<=0/\0<v2.length) (.w (.cells (Ym1 v1)) (.p (v2[0]? = some (Ym1 v1)) (.d [.rd,.rd,.rd] (Z2k v1 Yt2 P) (.f [2] [.Ah v3.Ia] (.sv (.agg [vI v3.Ka,vI v3.Na,vS v3.Ta,.ref 0])))))))))) (by
 dsimp only[Yl3,Z8y]
 have g0:Yt2.length=8:=rfl
 have g1:=Y1u9 (Ysa i)
 have g2:=Y1rr (Ysa i)
 have g3:=Y1mz i h.1
 exact z00)
abbrev Zfp:Ct:=⟨61,[],[],[.At Yts],.sv (.r 0)⟩
theorem Zc8:Zfp:=Ylh call61 func61 (let v1:=[cS (mkS [40,108,101,116,32,40,40,120,120,32,97,97,41,41,32,98,98,41])];.f [0] [.y 1 [[cS (mkS [40,43,32,97,97,32,98,98,41])],[cS (mkS [40,45,32,97,97,32,98,98,41])],v1,v1,[cS (mkS [40,111,114,32,97,97,32,98,98,41])],[cS (mkS [40,97,110,100,32,97,97,32,98,98,41])],[cS (mkS [40,105,102,32,97,97,32,98,98,32,99,99,41])],[cS (mkS [40,40,108,97,109,98,100,97,32,40,120,120,41,32,98,98,41,32,97,97,41])],[cS (mkS [40,108,101,116,32,40,40,120,120,32,97,97,41,41,32,40,115,101,116,33,32,120,120,32,98,98,41,32,120,120,41])],[cS (mkS [40,108,101,116,32,40,41,32,40,100,101,102,105,110,101,32,120,120,32,97,97,41,32,40,100,101,102,105,110,101,32,40,121,121,32,122,122,41,32,98,98,41,32,40,121,121,32,120,120,41,41])],[cS (mkS [40,108,101,116,32,40,40,120,120,32,97,97,41,32,40,121,121,32,53,41,41,32,40,115,119,97,112,33,32,120,120,32,121,121,41,32,40,99,111,110,115,32,120,120,32,121,121,41,41])],[cS (mkS [40,108,101,116,32,40,40,120,120,32,51,41,41,32,40,119,104,105,108,101,32,40,60,32,48,32,120,120,41,32,40,100,105,115,112,108,97,121,32,120,120,41,32,40,115,101,116,33,32,120,120,32,40,45,32,120,120,32,49,41,41,41,32,98,98,41])],[cS (mkS [40,114,101,115,101,116,32,40,43,32,49,32,40,115,104,105,102,116,32,107,107,32,40,107,107,32,40,107,107,32,97,97,41,41,41,41,41])],[cS (mkS [40,114,101,115,101,116,32,40,99,111,110,115,32,97,97,32,40,115,104,105,102,116,32,107,107,32,40,99,111,110,115,32,40,107,107,32,49,41,32,40,107,107,32,50,41,41,41,41,41])],[cS (mkS [40,99,111,110,100,32,40,40,61,32,97,97,32,49,41,32,98,98,41,32,40,101,108,115,101,32,99,99,41,41])],[cS (mkS [40,108,101,116,45,115,121,110,116,97,120,32,40,40,109,109,32,40,115,121,110,116,97,120,45,114,117,108,101,115,32,40,41,32,40,40,95,32,97,41,32,40,43,32,97,32,49,41,41,41,41,41,32,40,109,109,32,97,97,41,41])],[cS (mkS [40,108,101,116,32,40,40,120,120,32,97,97,41,41,32,40,108,101,116,45,115,121,110,116,97,120,32,40,40,109,109,32,40,115,121,110,116,97,120,45,114,117,108,101,115,32,40,41,32,40,40,95,32,101,41,32,40,108,101,116,32,40,40,120,120,32,55,41,41,32,40,99,111,110,115,32,120,120,32,101,41,41,41,41,41,41,32,40,109,109,32,120,120,41,41,41])],[cS (mkS [40,99,111,110,115,32,97,97,32,98,98,41])],[cS (mkS [40,99,97,114,32,40,99,111,110,115,32,97,97,32,98,98,41,41])],[cS (mkS [40,98,101,103,105,110,32,40,100,105,115,112,108,97,121,32,97,97,41,32,98,98,41])],[cS (mkS [40,108,101,116,42,32,40,40,120,120,32,97,97,41,32,40,121,121,32,120,120,41,41,32,40,99,111,110,115,32,120,120,32,121,121,41,41])],[cS (mkS [40,108,101,116,114,101,99,32,40,40,120,120,32,40,108,97,109,98,100,97,32,40,110,41,32,40,105,102,32,40,60,32,110,32,49,41,32,98,98,32,40,120,120,32,40,45,32,110,32,49,41,41,41,41,41,41,32,40,120,120,32,52,41,41])],[cS (mkS [40,119,104,101,110,32,97,97,32,98,98,41])],[cS (mkS [40,108,101,116,32,40,41,32,40,100,101,102,105,110,101,45,115,121,110,116,97,120,32,109,109,32,40,115,121,110,116,97,120,45,114,117,108,101,115,32,40,41,32,40,40,95,32,113,41,32,40,100,101,102,105,110,101,32,113,32,97,97,41,41,41,41,32,40,109,109,32,120,120,41,32,120,120,41])],[cS (mkS [40,110,111,116,32,97,97,41])],[cS (mkS [40,101,113,63,32,97,97,32,98,98,41])],[cS (mkS [40,108,111,99,97,108,32,40,120,120,41,32,40,115,101,116,33,32,120,120,32,97,97,41,32,120,120,41])],[cS (mkS [40,113,117,111,116,101,32,40,97,97,32,120,120,41,41])]]] (.sv (.r 0))) (by
 dsimp only[Yl3,Zfp]
 exact z04)
abbrev Zfq:Ct:=⟨62,[],[],[.At Yxh],.sv (.r 0)⟩
theorem Zc9:Zfq:=Ylh call62 func62 (.f [0] [.y 1 [[cS (mkS [120])],[cS (mkS [121])],[cS (mkS [116,109,112])],[cS (mkS [116])],[cS (mkS [108,111,111,112])],[cS (mkS [110])],[cS (mkS [107])],[cS (mkS [102])],[cS (mkS [108,105,115,116])],[cS (mkS [101,108,115,101])],[cS (mkS [105,102])]]] (.sv (.r 0))) (by
 dsimp only[Yl3,Zfq]
 exact z04)
abbrev Zfr (s:ByteArray):Ct:=⟨56,[],[ls s],[],.sv (.agg [vI (Ymv s).Ka,vI (Ymv s).Na,vS (Ymv s).Ta,.val (.y)])⟩
theorem Z1g (s:ByteArray):Zfr s:=Ylh call56 func56 (.c [.rd] (Zky s) (.s (.agg [vI (Ymv s).Ka,vI (Ymv s).Na,vS (Ymv s).Ta,.val (.y)]))) (by
 dsimp only[Yl3,Zfr]
 exact zV)
theorem Y22c:(Yts.length:Int)=28:=rfl
theorem Y22f:(Yxh.length:Int)=11:=rfl
theorem Y20o (c:Cr):0<=(beX c 40).tdiv 39/\(beX c 40).tdiv 39<=1:=by
 have b:=Ysc c (n:=40) dW
 rw[dl b.1];omega
theorem Y1y7 {i:Nat}(h:i<6):([[cI (Yo8 1).Ka,cI (Yo8 1).Na,cS (Yo8 1).Ta,Cell.list []],[cI (Yo8 2).Ka,cI (Yo8 2).Na,cS (Yo8 2).Ta,Cell.list []],[cI (Yo8 7).Ka,cI (Yo8 7).Na,cS (Yo8 7).Ta,Cell.list []],[cI (Ywz false).Ka,cI (Ywz false).Na,cS (Ywz false).Ta,Cell.list []],[cI (Yxd (mkS [115])).Ka,cI (Yxd (mkS [115])).Na,cS (Yxd (mkS [115])).Ta,Cell.list []],[cI (Ymv (mkS [122,122])).Ka,cI (Ymv (mkS [122,122])).Na,cS (Ymv (mkS [122,122])).Ta,Cell.list []]]:List (List Cell))[i]? = some (Ym1 (Y107.g i)):=by
 match i,h with
 | 0,_=>rfl
 | 1,_=>rfl
 | 2,_=>rfl
 | 3,_=>rfl
 | 4,_=>rfl
 | 5,_=>rfl
theorem Y24r (N:List ByteArray) (x:ByteArray):List.map Ymj N++[[cS x]]=List.map Ymj (N++[x]):=by rw[aq];rfl
theorem Y1kg (a b e:Yd) (s t u v w:ByteArray):[Ym1 a,Ym1 b,Ym1 e,[cI (Ymv s).Ka,cI (Ymv s).Na,cS (Ymv s).Ta,Cell.list []],[cI (Ymv t).Ka,cI (Ymv t).Na,cS (Ymv t).Ta,Cell.list []],[cI (Ymv u).Ka,cI (Ymv u).Na,cS (Ymv u).Ta,Cell.list []],[cI (Ymv v).Ka,cI (Ymv v).Na,cS (Ymv v).Ta,Cell.list []],[cI (Ymv w).Ka,cI (Ymv w).Na,cS (Ymv w).Ta,Cell.list []]]=List.map Ylf [a,b,e,sy0 s,sy0 t,sy0 u,sy0 v,sy0 w]:=by
 simp only[bO,List.map_nil,Y1bo];rfl
theorem Y1ik:[[cS (mkS [97,97])],[cS (mkS [98,98])],[cS (mkS [99,99])],[cS (mkS [120,120])],[cS (mkS [121,121])],[cS (mkS [122,122])],[cS (mkS [107,107])],[cS (mkS [109,109])]]=List.map Ymj Yt2:=rfl
theorem Y1ih {a b e:Yd}(ha:wD a<=1000000) (hb:wD b<=1000000) (he:wD e<=1000000) (s t u v w:ByteArray):∀ x∈[a,b,e,sy0 s,sy0 t,sy0 u,sy0 v,sy0 w],wD x<=1000000:=by
 intro x hx
 have k:=λs=>aN (Y1fv s) (show 30<=1000000 by decide)
 simp only[aB,cV,or_false]at hx
 rcases hx with rfl|rfl|rfl|rfl|rfl|rfl|rfl|rfl
 ·exact ha
 ·exact hb
 ·exact he
 all_goals exact k _
section
variable {d:Int}{c:Cr}{N:List ByteArray}(h:d<=0\/beX c 6=0)
include h
theorem Y1vs (h1:0<(N.length:Int)) (h2:0<beX (beC c 6) 3):Yob d c N=(sy0 (N.g (beX (beC (beC c 6) 3) (N.length:Int)).toNat),beC (beC (beC c 6) 3) (N.length:Int)):=by rw[Y12x h,Y1ek h1 h2]
theorem Y1w9 (h1:0<(N.length:Int)) (h2:¬ 0<beX (beC c 6) 3):Yob d c N=(Y107.g (beX (beC (beC (beC c 6) 3) 40) (5+(beX (beC (beC c 6) 3) 40).tdiv 39)).toNat,beC (beC (beC (beC c 6) 3) 40) (5+(beX (beC (beC c 6) 3) 40).tdiv 39)):=by rw[Y12x h,Y1jg h1 h2]
theorem Y1vn (h1:¬ 0<(N.length:Int)):Yob d c N=(Y107.g (beX (beC (beC c 6) 40) (5+(beX (beC c 6) 40).tdiv 39)).toNat,beC (beC (beC c 6) 40) (5+(beX (beC c 6) 40).tdiv 39)):=by rw[Y12x h,Y1ed h1]
end
abbrev Z1d (d:Int) (c:Cr) (N:List ByteArray):Ct:=⟨24,[crO c],[.y 0,li d,Ax N],[crO (Yob d c N).2,.Ah (Yob d c N).1.Ia],.sv (Yud (Yob d c N).1 1)⟩
theorem Zk9 (d:Int) (c:Cr) (N:List ByteArray) (h:okK c /\ -2<=d/\d<=3/\N.length+2 * d<=100) (ih:∀ (e:Int),-2<=e/\e<d->∀ (c:Cr) (N:List ByteArray) (h:okK c /\ -2<=e/\e<=3/\N.length+2 * e<=100),Z1d e c N):Z1d d c N:=Ylh call24 func24 (let vv49:=beC c 6;let vv41:=beC vv49 (Yts.length:Int);let vv17:=beC vv41 (Yxh.length:Int);let vv61:=beC vv17 4;let vv26:=Yob (d - 1) (beC vv61 4) N;let vv34:=N++[Yxh.g (beX vv41 (Yxh.length:Int)).toNat];let vv9:=Yob (d - 2) vv26.2 vv34;let vv25:=Yob (d - 2) vv9.2 N;let vv54:=beC vv25.2 3;let vv40:=Yob (d - 2) vv54 N;let vv13:=Yxh.g (beX vv41 (Yxh.length:Int)).toNat;let vv42:=Ymv vv13;let vv37:=[mkS [113],mkS [103],mkS [104],mkS [119]];let vv11:=vv37.g (beX vv17 4).toNat;let vv43:=Ymv vv11;let vv21:=Ymv (mkS [122]);let vv35:=[mkS [107],mkS [107],mkS [116,109,112],mkS [99]];let vv10:=vv35.g (beX vv61 4).toNat;let vv44:=Ymv vv10;let vv12:=[mkS [109],mkS [108,101,116],mkS [109,97,99]];let vv18:=vv12.g (beX vv25.2 3).toNat;let vv47:=Ymv vv18;let vv1:=[vv26.1,vv40.1,vv25.1,Yd.mk vv42.Ka vv42.Na vv42.Ta [],Yd.mk vv43.Ka vv43.Na vv43.Ta [],Yd.mk vv21.Ka vv21.Na vv21.Ta [],Yd.mk vv44.Ka vv44.Na vv44.Ta [],Yd.mk vv47.Ka vv47.Na vv47.Ta []];let vv2:=[vv26.1,vv9.1,vv25.1,Yd.mk vv42.Ka vv42.Na vv42.Ta [],Yd.mk vv43.Ka vv43.Na vv43.Ta [],Yd.mk vv21.Ka vv21.Na vv21.Ta [],Yd.mk vv44.Ka vv44.Na vv44.Ta [],Yd.mk vv47.Ka vv47.Na vv47.Ta []];let vv55:=Ywz false;let vv24:=mkS [115];let vv58:=Yxd vv24;let vv16:=mkS [122,122];let vv57:=Ymv vv16;let vv3:=[Yd.mk (Yo8 1).Ka (Yo8 1).Na (Yo8 1).Ta [],Yd.mk (Yo8 2).Ka (Yo8 2).Na (Yo8 2).Ta [],Yd.mk (Yo8 7).Ka (Yo8 7).Na (Yo8 7).Ta [],Yd.mk vv55.Ka vv55.Na vv55.Ta [],Yd.mk vv58.Ka vv58.Na vv58.Ta [],Yd.mk vv57.Ka vv57.Na vv57.Ta []];let vv4:=[[cI (Yo8 1).Ka,cI (Yo8 1).Na,cS (Yo8 1).Ta,.list []],[cI (Yo8 2).Ka,cI (Yo8 2).Na,cS (Yo8 2).Ta,.list []],[cI (Yo8 7).Ka,cI (Yo8 7).Na,cS (Yo8 7).Ta,.list []],[cI vv55.Ka,cI vv55.Na,cS vv55.Ta,.list []],[cI vv58.Ka,cI vv58.Na,cS vv58.Ta,.list []],[cI vv57.Ka,cI vv57.Na,cS vv57.Ta,.list []]];let vv5:=[cI vv47.Ka,cI vv47.Na,cS vv47.Ta,.list []];let vv20:=beC vv49 3;let vv45:=beC vv20 40;let vv31:=5+(beX vv20 40).tdiv 39;let vv6:=beX vv45 vv31;let vv23:=((N.map Ymj).length:Int);let vv36:=N.g (beX vv20 vv23).toNat;let vv7:Tq _ _:=.z Ymj N (.d [.ptr,.rd] (Z4 vv20 vv23) (.x (beX vv20 vv23) (N.map Ymj) [cS vv36] (.c [.rd] (Z1g vv36) (.w (.g (.nilbox 1 3 true 4)) (.f [2] [.box [Ar (beC vv20 vv23).b,vI (↑(beC vv20 vv23).i:Int),vI (beC vv20 vv23).h],.y 4 []] (.sv (.agg [vI (Ymv vv36).Ka,vI (Ymv vv36).Na,vS (Ymv vv36).Ta,.ref 1])))))));let vv39:=beC vv49 40;let vv27:=5+(beX vv49 40).tdiv 39;let vv8:=beX vv39 vv27;let vv14:=beX vv49 (Yts.length:Int);let vv30:=vv3.g vv6.toNat;let vv15:Tq _ _:=.f [3] [.box [Ar (beC vv45 vv31).b,vI (↑(beC vv45 vv31).i:Int),vI (beC vv45 vv31).h],.Ah vv30.Ia] (.sv (.agg [vI vv30.Ka,vI vv30.Na,vS vv30.Ta,.ref 1]));let vv29:=vv3.g vv8.toNat;let vv19:Tq _ _:=.f [3] [.box [Ar (beC vv39 vv27).b,vI (↑(beC vv39 vv27).i:Int),vI (beC vv39 vv27).h],.Ah vv29.Ia] (.sv (.agg [vI vv29.Ka,vI vv29.Na,vS vv29.Ta,.ref 1]));let vv22:=[[cS (mkS [97,97])],[cS (mkS [98,98])],[cS (mkS [99,99])],[cS (mkS [120,120])],[cS (mkS [121,121])],[cS vv16],[cS (mkS [107,107])],[cS (mkS [109,109])]];let vv28:=[mkS [40,108,101,116],mkS [40,108,111,99],mkS [40,40,108,97]];let vv32:=Ypk Yt2 vv2 (Ysa vv14.toNat);let vv33:=Ypk Yt2 vv1 (Ysa vv14.toNat);let vv38:=Yts.g vv14.toNat;let vv46:=ByteArray.mk (List.take 4 (vv38.data.toList.drop 0)).toArray;let vv48:=[cI vv21.Ka,cI vv21.Na,cS vv21.Ta,.list []];let vv50:=[cI vv44.Ka,cI vv44.Na,cS vv44.Ta,.list []];let vv51:=[cI vv43.Ka,cI vv43.Na,cS vv43.Ta,.list []];let vv52:=[cI vv42.Ka,cI vv42.Na,cS vv42.Ta,.list []];let vv53:List Ab.Mode:=[.ptr,.own true 1];let vv56:=(39:Int)≠0;let vv59:=vv4[vv8.toNat]? = some (Ym1 vv29);let vv60:=vv4[vv6.toNat]? = some (Ym1 vv30);let vv62:=0<=beX vv45 vv31/\vv6.toNat<6;let vv63:=0<=beX vv39 vv27/\vv8.toNat<6;let vv64:=Zc2 false;.d [.ptr,.rd] (Z4 c 6) (.i (d<=0) (.y true (.z Ymj N (.i (0<vv23) (.d [.ptr,.rd] (Z4 vv49 3) (.i (0<beX vv49 3) vv7 (.c [.rd] (Z10 1) (.c [.rd] (Z10 2) (.c [.rd] (Z10 7) (.c [.rd] vv64 (.c [.rd] (Z70 vv24) (.c [.rd] (Z1g vv16) (.d [.ptr,.rd] (Z4 vv20 40) (.p vv56 (.r ((beX vv20 40).tdiv 39) (.r vv31 (.d [.ptr,.rd] (Z4 vv45 vv31) (.p vv62 (.w (.pulls (Ym1 vv30) [4]) (.p vv60 (.p (∀ (x0:List Cell),x0∈vv30.Ia.map Ylf->x0.length=4) vv15))))))))))))))))) (.y false (.c [.rd] (Z10 1) (.c [.rd] (Z10 2) (.c [.rd] (Z10 7) (.c [.rd] vv64 (.c [.rd] (Z70 vv24) (.c [.rd] (Z1g vv16) (.d [.ptr,.rd] (Z4 vv49 40) (.p vv56 (.r ((beX vv49 40).tdiv 39) (.r vv27 (.d [.ptr,.rd] (Z4 vv39 vv27) (.p vv63 (.w (.pulls (Ym1 vv29) [4]) (.p vv59 (.p (∀ (x0:List Cell),x0∈vv29.Ia.map Ylf->x0.length=4) vv19))))))))))))))))))) (.i (beX c (6:Int)=0) (.z Ymj N (.i (0<vv23) (.d [.ptr,.rd] (Z4 vv49 3) (.i (0<beX vv49 3) vv7 (.c [.rd] (Z10 1) (.c [.rd] (Z10 2) (.c [.rd] (Z10 7) (.c [.rd] vv64 (.c [.rd] (Z70 vv24) (.c [.rd] (Z1g vv16) (.d [.ptr,.rd] (Z4 vv20 40) (.p vv56 (.r ((beX vv20 40).tdiv 39) (.r vv31 (.d [.ptr,.rd] (Z4 vv45 vv31) (.p vv62 (.w (.pulls (Ym1 vv30) [4]) (.p vv60 (.p (∀ (x0:List Cell),x0∈vv30.Ia.map Ylf->x0.length=4) vv15))))))))))))))))) (.y false (.c [.rd] (Z10 1) (.c [.rd] (Z10 2) (.c [.rd] (Z10 7) (.c [.rd] vv64 (.c [.rd] (Z70 vv24) (.c [.rd] (Z1g vv16) (.d [.ptr,.rd] (Z4 vv49 40) (.p vv56 (.r ((beX vv49 40).tdiv 39) (.r vv27 (.d [.ptr,.rd] (Z4 vv39 vv27) (.p vv63 (.w (.pulls (Ym1 vv29) [4]) (.p vv59 (.p (∀ (x0:List Cell),x0∈vv29.Ia.map Ylf->x0.length=4) vv19)))))))))))))))))) (.c [] Zc8 (.d vv53 (Z2h vv49 Yts) (.c [] Zc9 (.d vv53 (Z2h vv41 Yxh) (.d vv53 (Z2h vv17 vv37) (.d vv53 (Z2h vv61 vv35) (.w (.bool false) (.p (∀ (e0:List Cell),e0∈N.map Ymj->∀ (c0:Cell),c0∈e0->∃ v0,c0=Cell.lit v0) (.p (∀ (x0:List Cell),x0∈N.map Ymj->x0.length=1) (.p ((0+(N.map Ymj).length) * 16<=140737488355328) (.p (((N.map Ymj).length+1) * 16<=140737488355328) (.r (d - 1) (.d [.ptr,.rd,.rd] (Z1d (d - 1) (beC vv61 4) N) (.r (d - 2) (.w (.g (.lock 9)) (.u [.ptr,.rd,.rd] (Z1d (d - 2) vv26.2 vv34) (.p (Ynw prog 24 [Ob.box [Ar vv26.2.b,vI (↑(Yob (d - 1) (beC vv61 4) N).2.i:Int),vI vv26.2.h]] [SV.one (AC.ptr 0 0),li (d - 2),ll (N.map Ymj++[[cS vv13]])] [Ob.box [Ar vv9.2.b,vI (↑(Yob (d - 2) vv26.2 vv34).2.i:Int),vI vv9.2.h],Ob.arr true 4 (vv9.1.Ia.map Ylf)] (AV.sv (SV.agg [vI vv9.1.Ka,vI vv9.1.Na,vS vv9.1.Ta,AC.ref 1]))) (.r (d - 2) (.d [.ptr,.rd,.rd] (Z1d (d - 2) vv9.2 N) (.c [.rd] (Z1g vv13) (.c [.rd] (Z1g vv11) (.c [.rd] (Z1g (mkS [122])) (.c [.rd] (Z1g vv10) (.d vv53 (Z2h vv25.2 vv12) (.c [.rd] (Z1g vv18) (.p ((0:Int)<=4) (.p (0<=4/\4<=vv38.data.toList.length) (.d [.rd,.rd] (Z8x vv28 vv46) (.i (Ypg vv28 vv46<0) (.r (d - 2) (.d [.ptr,.rd,.rd] (Z1d (d - 2) vv54 N) (.p ((0:Int)<=1/\1<8) (.w (.cells (Ym1 vv9.1)) (.p (some (Ym1 vv9.1)=some (Ym1 vv9.1)) (.u [.rd,.rd,.rd] (Z8y vv14.toNat vv1) (.p (Ynw prog 64 [] [ls vv38,ll vv22,ll [Ym1 vv26.1,Ym1 vv40.1,Ym1 vv25.1,vv52,vv51,vv48,vv50,vv5]] [Ob.arr true 4 (vv33.Ia.map Ylf)] (AV.sv (SV.agg [vI vv33.Ka,vI vv33.Na,vS vv33.Ta,AC.ref 0]))) (.f [22] [.box [Ar vv40.2.b,vI (↑(Yob (d - 2) vv54 N).2.i:Int),vI vv40.2.h],.Ah vv33.Ia] (.sv (.agg [vI vv33.Ka,vI vv33.Na,vS vv33.Ta,.ref 1])))))))))) (.u [.rd,.rd,.rd] (Z8y vv14.toNat vv2) (.p (Ynw prog 64 [] [ls vv38,ll vv22,ll [Ym1 vv26.1,Ym1 vv9.1,Ym1 vv25.1,vv52,vv51,vv48,vv50,vv5]] [Ob.arr true 4 (vv32.Ia.map Ylf)] (AV.sv (SV.agg [vI vv32.Ka,vI vv32.Na,vS vv32.Ta,AC.ref 0]))) (.f [20] [.box [Ar vv54.b,vI (↑(beC vv25.2 3).i:Int),vI vv54.h],.Ah vv32.Ia] (.sv (.agg [vI vv32.Ka,vI vv32.Na,vS vv32.Ta,.ref 1]))))))))))))))))))))))))))))))))))))) (by
 dsimp only[Yl3,Z1d]
 have ls:=Y22c
 have lp:=Y22f
 have t1:=Y20o (beC c 6)
 have t2:=Y20o (beC (beC c 6) 3)
 have u0:=Ysc (beC c 6) (n:=28) dW
 have u1:=Ysc (beC (beC c 6) 40) (n:=5+(beX (beC c 6) 40).tdiv 39) oW
 have u2:=Ysc (beC (beC (beC c 6) 3) 40) (n:=5+(beX (beC (beC c 6) 3) 40).tdiv 39) oW
 have u3:=λa:0<(N.length:Int)=>Ysc (beC (beC c 6) 3) (n:=(N.length:Int)) a
 have q1:okK (beC (beC (beC (beC (beC c 6) 28) 11) 4) 4):=Ymk (Ymk (Ymk (Ymk (Ymk h.1))))
 have q2:=Yz3 (d:=d - 1) oW q1 N
 have q3:=Yz3 (d:=d - 2) oW q2.1 (N++[Yxh.g (beX (beC (beC c 6) 28) 11).toNat])
 have q4:=Yz3 (d:=d - 2) oW q3.1 N
 have r1:=Y10l (d:=d - 1) oW q1 N
 have r2:=Y10l (d:=d - 2) oW q2.1 (N++[Yxh.g (beX (beC (beC c 6) 28) 11).toNat])
 have r3:=Y10l (d:=d - 2) oW q3.1 N
 have r4:=Y10l (d:=d - 2) oW (Ymk (n:=3) q4.1) N
 have lN:Ypg [mkS [40,108,101,116],mkS [40,108,111,99],mkS [40,40,108,97]] (mkS (List.take 4 (Yts.g (beX (beC c 6) 28).toNat).data.toList))<0->Y193 (beX (beC c 6) 28).toNat=false:=λa=>bK (Int.not_le.2 a)
 have lY:¬ Ypg [mkS [40,108,101,116],mkS [40,108,111,99],mkS [40,40,108,97]] (mkS (List.take 4 (Yts.g (beX (beC c 6) 28).toNat).data.toList))<0->Y193 (beX (beC c 6) 28).toNat:=λa=>bF (Int.not_lt.1 a)
 with_reducible repeat' (first|apply ah|exact zR|exact ih|(intro)|apply Z6z|apply Z1g|apply Z10|apply Zc2|apply Z70|apply Zc8|apply Zc9|apply Zcs|apply Z5k|apply Za1)
 all_goals ((try simp only[std,inj]at *);with_reducible and_intros)
 all_goals try first|with_reducible (first|apply Z6z|apply Z1g|apply Z10|apply Zc2|apply Z70|apply Zc8|apply Zc9|apply Zcs|apply Z5k|apply Za1|apply ih)|(simp only[<- aq];with_reducible first|apply Z6z|apply Z1g|apply Z10|apply Zc2|apply Z70|apply Zc8|apply Zc9|apply Zcs|apply Z5k|apply Za1|apply ih)
 all_goals (try simp only[Y22c,Y22f]at *)
 all_goals first
  | exact b9|omega|exact h.1|exact Ymk h.1|exact Ymk (Ymk h.1)|exact Ymk (Ymk (Ymk h.1))|exact Ymk (Ymk (Ymk (Ymk h.1)))
  | exact(u3 aW).1|exact Yyi (by have:=u3 aW;omega) rfl|decide
  | exact(Y1mz _ oW).2.2|exact Y1y7 oW
  | exact⟨q1,by omega,by omega,by omega⟩|exact⟨q3.1,by omega,by omega,by omega⟩|exact⟨Ymk q4.1,by omega,by omega,by omega⟩|exact q4.1|exact q3.1|exact q2.1
  | (rw[Y24r];exact ih (d - 2) ⟨by omega,by omega⟩ _ _ ⟨q2.1,by omega,by omega,by rw[aw];simp only[aD,bo];omega⟩)
  | (rw[Y1kg,Y1ik];exact Za1 _ _ ⟨by omega,Y1ih r1 r4 r3 _ _ _ _ _⟩)|(rw[Y1kg,Y1ik];exact Za1 _ _ ⟨by omega,Y1ih r1 r2 r3 _ _ _ _ _⟩)
  | (rw[Y1vs (.inl aW) aW aW];rfl)|(rw[Y1vs (.inr aW) aW aW];rfl)
  | (rw[Y1w9 (.inl aW) aW aW];rfl)|(rw[Y1w9 (.inr aW) aW aW];rfl)
  | (rw[Y1vn (.inl aW) aW];rfl)|(rw[Y1vn (.inr aW) aW];rfl)
  | (rw[Y17x (d:=d) (c:=c) (N:=N) aW aW,Y1pr (lN aW)];rfl)|(rw[Y17x (d:=d) (c:=c) (N:=N) aW aW,Y1k1 (lY aW)];rfl)
  | skip)
theorem Zji (d:Int) (c:Cr) (N:List ByteArray) (h:okK c /\ -2<=d/\d<=3/\N.length+2 * d<=100):Z1d d c N:=
 have key:∀ (n:Nat) (d:Int),-2<=d->(d+2).toNat<n->∀ (c:Cr) (N:List ByteArray) (h:okK c /\ -2<=d/\d<=3/\N.length+2 * d<=100),OK (Z1d d c N):=λn=>by
  induction n with
  | zero=>intro d _ hn;exact absurd hn (Nat.not_lt_zero _)
  | succ n ih=>
   intro d hd hn c N h
   exact Zk9 d c N h λe he c N h=>ih e he.1 oW c N h
 key ((d+2).toNat+1) d h.2.1 (Nat.lt_succ_self _) c N h
abbrev Z8z (b:List UInt8):Ct:=⟨7,[],[Av b,li 3],[.Ah (Yob 3 (Yt9 b) []).1.Ia],.sv (Yud (Yob 3 (Yt9 b) []).1 0)⟩
theorem Za2 (b:List UInt8) (h:b.length<=1048576):Z8z b:=Ylh call7 func7 (let v1:=Yob 3 (Yt9 b) [];.d [.rd] (Zbf b) (.d [.ptr,.rd,.rd] (Z1d 3 (Yt9 b) []) (.f [3] [.Ah v1.1.Ia] (.sv (.agg [vI v1.1.Ka,vI v1.1.Na,vS v1.1.Ta,.ref 0]))))) (by
 dsimp only[Yl3,Z8z]
 have g1:=Y19n h
 exact z03)
end
section
set_option maxRecDepth 100000
def Y1ci:ByteArray:=mkS [40,100,101,102,105,110,101,45,115,121,110,116,97,120,32,108,101,116,32,40,115,121,110,116,97,120,45,114,117,108,101,115,32,40,41,32,40,40,95,32,40,40,120,32,101,41,32,46,46,46,41,32,98,32,46,46,46,41,32,40,40,108,97,109,98,100,97,32,40,120,32,46,46,46,41,32,98,32,46,46,46,41,32,101,32,46,46,46,41,41,41,41,10,40,100,101,102,105,110,101,45,115,121,110,116,97,120,32,108,101,116,42,32,40,115,121,110,116,97,120,45,114,117,108,101,115,32,40,41,32,40,40,95,32,40,41,32,98,32,46,46,46,41,32,40,108,101,116,32,40,41,32,98,32,46,46,46,41,41,32,40,40,95,32,40,97,32,109,32,46,46,46,41,32,98,32,46,46,46,41,32,40,108,101,116,32,40,97,41,32,40,108,101,116,42,32,40,109,32,46,46,46,41,32,98,32,46,46,46,41,41,41,41,41,10,40,100,101,102,105,110,101,45,115,121,110,116,97,120,32,108,101,116,114,101,99,32,40,115,121,110,116,97,120,45,114,117,108,101,115,32,40,41,32,40,40,95,32,40,40,120,32,101,41,32,46,46,46,41,32,98,32,46,46,46,41,32,40,108,101,116,32,40,41,32,40,100,101,102,105,110,101,32,120,32,101,41,32,46,46,46,32,40,108,101,116,32,40,41,32,98,32,46,46,46,41,41,41,41,41,10,40,100,101,102,105,110,101,45,115,121,110,116,97,120,32,97,110,100,32,40,115,121,110,116,97,120,45,114,117,108,101,115,32,40,41,32,40,40,95,41,32,35,116,41,32,40,40,95,32,101,41,32,101,41,32,40,40,95,32,101,32,109,32,46,46,46,41,32,40,105,102,32,101,32,40,97,110,100,32,109,32,46,46,46,41,32,35,102,41,41,41,41,10,40,100,101,102,105,110,101,45,115,121,110,116,97,120,32,111,114,32,40,115,121,110,116,97,120,45,114,117,108,101,115,32,40,41,32,40,40,95,41,32,35,102,41,32,40,40,95,32,101,41,32,101,41,32,40,40,95,32,101,32,109,32,46,46,46,41,32,40,108,101,116,32,40,40,116,32,101,41,41,32,40,105,102,32,116,32,116,32,40,111,114,32,109,32,46,46,46,41,41,41,41,41,41,10,40,100,101,102,105,110,101,45,115,121,110,116,97,120,32,119,104,101,110,32,40,115,121,110,116,97,120,45,114,117,108,101,115,32,40,41,32,40,40,95,32,99,32,101,32,46,46,46,41,32,40,105,102,32,99,32,40,98,101,103,105,110,32,101,32,46,46,46,41,32,35,102,41,41,41,41,10,40,100,101,102,105,110,101,45,115,121,110,116,97,120,32,99,111,110,100,32,40,115,121,110,116,97,120,45,114,117,108,101,115,32,40,101,108,115,101,41,32,40,40,95,41,32,35,102,41,32,40,40,95,32,40,101,108,115,101,32,101,32,46,46,46,41,41,32,40,98,101,103,105,110,32,101,32,46,46,46,41,41,32,40,40,95,32,40,99,32,101,32,46,46,46,41,32,109,32,46,46,46,41,32,40,105,102,32,99,32,40,98,101,103,105,110,32,101,32,46,46,46,41,32,40,99,111,110,100,32,109,32,46,46,46,41,41,41,41,41,10,40,100,101,102,105,110,101,45,115,121,110,116,97,120,32,119,104,105,108,101,32,40,115,121,110,116,97,120,45,114,117,108,101,115,32,40,41,32,40,40,95,32,99,32,98,32,46,46,46,41,32,40,108,101,116,32,40,41,32,40,100,101,102,105,110,101,32,40,108,111,111,112,41,32,40,105,102,32,99,32,40,98,101,103,105,110,32,98,32,46,46,46,32,40,108,111,111,112,41,41,32,35,102,41,41,32,40,108,111,111,112,41,41,41,41,41,10,40,100,101,102,105,110,101,45,115,121,110,116,97,120,32,115,119,97,112,33,32,40,115,121,110,116,97,120,45,114,117,108,101,115,32,40,41,32,40,40,95,32,97,32,98,41,32,40,108,101,116,32,40,40,116,109,112,32,97,41,41,32,40,115,101,116,33,32,97,32,98,41,32,40,115,101,116,33,32,98,32,116,109,112,41,41,41,41,41,10]
abbrev Zdo:Ct:=⟨20,[],[],[],.sv (ls Y1ci)⟩
theorem Zkn:Zdo:=Ylh call20 func20 (.s (ls (mkS [40,100,101,102,105,110,101,45,115,121,110,116,97,120,32,108,101,116,32,40,115,121,110,116,97,120,45,114,117,108,101,115,32,40,41,32,40,40,95,32,40,40,120,32,101,41,32,46,46,46,41,32,98,32,46,46,46,41,32,40,40,108,97,109,98,100,97,32,40,120,32,46,46,46,41,32,98,32,46,46,46,41,32,101,32,46,46,46,41,41,41,41,10,40,100,101,102,105,110,101,45,115,121,110,116,97,120,32,108,101,116,42,32,40,115,121,110,116,97,120,45,114,117,108,101,115,32,40,41,32,40,40,95,32,40,41,32,98,32,46,46,46,41,32,40,108,101,116,32,40,41,32,98,32,46,46,46,41,41,32,40,40,95,32,40,97,32,109,32,46,46,46,41,32,98,32,46,46,46,41,32,40,108,101,116,32,40,97,41,32,40,108,101,116,42,32,40,109,32,46,46,46,41,32,98,32,46,46,46,41,41,41,41,41,10,40,100,101,102,105,110,101,45,115,121,110,116,97,120,32,108,101,116,114,101,99,32,40,115,121,110,116,97,120,45,114,117,108,101,115,32,40,41,32,40,40,95,32,40,40,120,32,101,41,32,46,46,46,41,32,98,32,46,46,46,41,32,40,108,101,116,32,40,41,32,40,100,101,102,105,110,101,32,120,32,101,41,32,46,46,46,32,40,108,101,116,32,40,41,32,98,32,46,46,46,41,41,41,41,41,10,40,100,101,102,105,110,101,45,115,121,110,116,97,120,32,97,110,100,32,40,115,121,110,116,97,120,45,114,117,108,101,115,32,40,41,32,40,40,95,41,32,35,116,41,32,40,40,95,32,101,41,32,101,41,32,40,40,95,32,101,32,109,32,46,46,46,41,32,40,105,102,32,101,32,40,97,110,100,32,109,32,46,46,46,41,32,35,102,41,41,41,41,10,40,100,101,102,105,110,101,45,115,121,110,116,97,120,32,111,114,32,40,115,121,110,116,97,120,45,114,117,108,101,115,32,40,41,32,40,40,95,41,32,35,102,41,32,40,40,95,32,101,41,32,101,41,32,40,40,95,32,101,32,109,32,46,46,46,41,32,40,108,101,116,32,40,40,116,32,101,41,41,32,40,105,102,32,116,32,116,32,40,111,114,32,109,32,46,46,46,41,41,41,41,41,41,10,40,100,101,102,105,110,101,45,115,121,110,116,97,120,32,119,104,101,110,32,40,115,121,110,116,97,120,45,114,117,108,101,115,32,40,41,32,40,40,95,32,99,32,101,32,46,46,46,41,32,40,105,102,32,99,32,40,98,101,103,105,110,32,101,32,46,46,46,41,32,35,102,41,41,41,41,10,40,100,101,102,105,110,101,45,115,121,110,116,97,120,32,99,111,110,100,32,40,115,121,110,116,97,120,45,114,117,108,101,115,32,40,101,108,115,101,41,32,40,40,95,41,32,35,102,41,32,40,40,95,32,40,101,108,115,101,32,101,32,46,46,46,41,41,32,40,98,101,103,105,110,32,101,32,46,46,46,41,41,32,40,40,95,32,40,99,32,101,32,46,46,46,41,32,109,32,46,46,46,41,32,40,105,102,32,99,32,40,98,101,103,105,110,32,101,32,46,46,46,41,32,40,99,111,110,100,32,109,32,46,46,46,41,41,41,41,41,10,40,100,101,102,105,110,101,45,115,121,110,116,97,120,32,119,104,105,108,101,32,40,115,121,110,116,97,120,45,114,117,108,101,115,32,40,41,32,40,40,95,32,99,32,98,32,46,46,46,41,32,40,108,101,116,32,40,41,32,40,100,101,102,105,110,101,32,40,108,111,111,112,41,32,40,105,102,32,99,32,40,98,101,103,105,110,32,98,32,46,46,46,32,40,108,111,111,112,41,41,32,35,102,41,41,32,40,108,111,111,112,41,41,41,41,41,10,40,100,101,102,105,110,101,45,115,121,110,116,97,120,32,115,119,97,112,33,32,40,115,121,110,116,97,120,45,114,117,108,101,115,32,40,41,32,40,40,95,32,97,32,98,41,32,40,108,101,116,32,40,40,116,109,112,32,97,41,41,32,40,115,101,116,33,32,97,32,98,41,32,40,115,101,116,33,32,98,32,116,109,112,41,41,41,41,41,10]))) (by
 dsimp only[Yl3,Zdo]
 exact z04)
end
def lD (l:List Yd):Yd:=⟨0,0,mkS [],l⟩
def bD (n:Int):Yd:=⟨3,n,mkS [],[]⟩
def sD (l:List UInt8):Yd:=⟨1,0,mkS l,[]⟩
def bw0:Yd:=sD [100,101,102,105,110,101,45,115,121,110,116,97,120]
def bw1:Yd:=sD [108,101,116]
def bw2:Yd:=sD [115,121,110,116,97,120,45,114,117,108,101,115]
def bw3:Yd:=sD [95]
def bw4:Yd:=sD [120]
def bw5:Yd:=sD [101]
def bw6:Yd:=sD [46,46,46]
def bw7:Yd:=sD [98]
def bw8:Yd:=sD [108,97,109,98,100,97]
def bw9:Yd:=sD [108,101,116,42]
def Y1e7:Yd:=sD [97]
def Y11w:Yd:=sD [109]
def Y25u:Yd:=sD [108,101,116,114,101,99]
def Y1zh:Yd:=sD [100,101,102,105,110,101]
def Y21i:Yd:=sD [97,110,100]
def Y1eh:Yd:=sD [105,102]
def Y218:Yd:=sD [111,114]
def Y1ur:Yd:=sD [116]
def Y267:Yd:=sD [119,104,101,110]
def Y19h:Yd:=sD [99]
def Y1mm:Yd:=sD [98,101,103,105,110]
def Y1zv:Yd:=sD [99,111,110,100]
def Y22m:Yd:=sD [101,108,115,101]
def Y261:Yd:=sD [119,104,105,108,101]
def Y1tf:Yd:=sD [108,111,111,112]
def Y25e:Yd:=sD [115,119,97,112,33]
def Y20n:Yd:=sD [116,109,112]
def Y216:Yd:=sD [115,101,116,33]
def Yp5:List Yd:=
 [lD [bw0,bw1,lD [bw2,lD [],lD [lD [bw3,lD [lD [bw4,bw5],bw6],bw7,bw6],lD [lD [bw8,lD [bw4,bw6],bw7,bw6],bw5,bw6]]]],lD [bw0,bw9,lD [bw2,lD [],lD [lD [bw3,lD [],bw7,bw6],lD [bw1,lD [],bw7,bw6]],lD [lD [bw3,lD [Y1e7,Y11w,bw6],bw7,bw6],lD [bw1,lD [Y1e7],lD [bw9,lD [Y11w,bw6],bw7,bw6]]]]],lD [bw0,Y25u,lD [bw2,lD [],lD [lD [bw3,lD [lD [bw4,bw5],bw6],bw7,bw6],lD [bw1,lD [],lD [Y1zh,bw4,bw5],bw6,lD [bw1,lD [],bw7,bw6]]]]],lD [bw0,Y21i,lD [bw2,lD [],lD [lD [bw3],bD 1],lD [lD [bw3,bw5],bw5],lD [lD [bw3,bw5,Y11w,bw6],lD [Y1eh,bw5,lD [Y21i,Y11w,bw6],bD 0]]]],lD [bw0,Y218,lD [bw2,lD [],lD [lD [bw3],bD 0],lD [lD [bw3,bw5],bw5],lD [lD [bw3,bw5,Y11w,bw6],lD [bw1,lD [lD [Y1ur,bw5]],lD [Y1eh,Y1ur,Y1ur,lD [Y218,Y11w,bw6]]]]]],lD [bw0,Y267,lD [bw2,lD [],lD [lD [bw3,Y19h,bw5,bw6],lD [Y1eh,Y19h,lD [Y1mm,bw5,bw6],bD 0]]]],lD [bw0,Y1zv,lD [bw2,lD [Y22m],lD [lD [bw3],bD 0],lD [lD [bw3,lD [Y22m,bw5,bw6]],lD [Y1mm,bw5,bw6]],lD [lD [bw3,lD [Y19h,bw5,bw6],Y11w,bw6],lD [Y1eh,Y19h,lD [Y1mm,bw5,bw6],lD [Y1zv,Y11w,bw6]]]]],lD [bw0,Y261,lD [bw2,lD [],lD [lD [bw3,Y19h,bw7,bw6],lD [bw1,lD [],lD [Y1zh,lD [Y1tf],lD [Y1eh,Y19h,lD [Y1mm,bw7,bw6,lD [Y1tf]],bD 0]],lD [Y1tf]]]]],lD [bw0,Y25e,lD [bw2,lD [],lD [lD [bw3,Y1e7,bw7],lD [bw1,lD [lD [Y20n,Y1e7]],lD [Y216,Y1e7,bw7],lD [Y216,bw7,Y20n]]]]]]
theorem Y210:Yx9 Yp5 Y1ci:=by decide +kernel
section
abbrev Za3 (L:List YB) (b:YB):Ct:=⟨156,[.Ac L],[.r 0,Yx0 b],[.dead,.Ac (Y1n6 L b)],.tup [.r 1,lb (!(decide (1000<=(L.length:Int))||Yni L b.Ta b.Sa))]⟩
theorem Zh0 (L:List YB) (b:YB) (h:L.length<=1000000001/\sumBy wB L<=1000000001/\wB b<=1000000001):Za3 L b:=Ylh call156 func156 (let v1:Tq _ _:=.w (.m 0) (.f [2] [.dead,.Ac L] (.tup [.r 1,lb false]));.z Yl2 L (.i (1000<=((L.map Yl2).length:Int)) (.y true v1) (.c [.rd,.rd] (Zew L b) (.b (Yni L b.Ta b.Sa) v1 (.w (.draw [(5,[2,13])]) (.d [.rd] (Z47 L) (.d [.rd] (Z47 [b]) (.p (((L.map Yl2).length+1) * 56<=140737488355328) (.w (.m 0) (.f [21] [.dead,.y 4 (L.map Yl2++[Ylv b])] (.tup [.r 1,lb true]))))))))))) (by
 dsimp only[Yl3,Za3]
 have g:sumBy wB [b]=wB b:=rfl
 have g2:[b].length=1:=rfl
 have g3:=@Y1jh L b
 have g4:=@Y1et L b
 exact z0a)
end
section
abbrev stT (M:List YR_) (sc va st z c:Int):List Ob:=[.box [.top,.ref 1,vI sc,vI va,vI st,vI z,vI c],.arr true 3 (M.map Ylc)]
abbrev Zca (M:List YR_) (sc:Int) (va:Int) (st:Int) (z:Int) (c:Int) (e:Int):Ct:=⟨48,stT M sc va st z c,[.y 0,li e],stT M sc va st z (cdF c e),.sv (.agg [vI 0,vI 0,.val (.y),vI 0,vI 0,vS (mkS []),.val (.y),.val (.y)])⟩
theorem Zka (M:List YR_) (sc va st z c e:Int):Zca M sc va st z c e:=Ylh call48 func48 (let v2:Cell:=.y;let v1:AV:=.sv (.agg [vI 0,vI 0,.val v2,vI 0,vI 0,vS (mkS []),.val v2,.val v2]);.i (c=0) (.f [] [.box [.top,.ref 1,vI sc,vI va,vI st,vI z,vI e],.Ad M] v1) (.f [] [.box [.top,.ref 1,vI sc,vI va,vI st,vI z,vI c],.Ad M] v1)) (by
 dsimp only[Yl3,Zca]
 exact z10)
abbrev Z90 (x:YE) (z:Int) (c:Int) (id:YS_) (Ka:Int) (n:Int):Ct:=⟨106,stO x z c,[.y 0,Yln id,li Ka,li n],[.box [.ref 3,.ref 2,vI x.Sb,vI x.Va,vI x.Sc,vI z,vI (if bdE x id.Ta id.Sa=0 then c else cdF c (bdE x id.Ta id.Sa))],.dead,.Ad x.Ma,.Ac (bdL x id Ka n)],.tup []⟩
theorem Zbh (x:YE) (z c:Int) (id:YS_) (Ka n:Int) (h:x.Ba.length<=1000000000/\sumBy wB x.Ba<=1000000000/\wY id<=1000000000):Z90 x z c id Ka n:=Ylh call106 func106 (let v1:=YB.mk id.Ta id.Sa Ka n;let v2:=x.Ma.map Ylc;let v3:=(Y1n6 x.Ba v1).map Yl2;.w (.draw []) (.c [.rd,.rd] (Zew x.Ba v1) (.b (Yni x.Ba id.Ta id.Sa) (.c [.ptr,.rd] (Zai x z c 4) (.w (.m 1) (.f [5] [.box [.ref 3,.ref 2,vI x.Sb,vI x.Va,vI x.Sc,vI z,vI (cdF c 4)],.dead,.y 3 v2,.Ac x.Ba] (.tup [])))) (.w (.draw [(6,[1])]) (.d [.own true 4,.rd] (Za3 x.Ba v1) (.b (!!(decide (1000<=(x.Ba.length:Int))||Yni x.Ba id.Ta id.Sa)) (.w (.g (.blank 0 0)) (.c [.ptr,.rd] (Zka x.Ma x.Sb x.Va x.Sc z c 8) (.f [10] [.box [.ref 3,.ref 2,vI x.Sb,vI x.Va,vI x.Sc,vI z,vI (cdF c 8)],.dead,.y 3 v2,.y 4 v3] (.tup [])))) (.f [10] [.box [.ref 3,.ref 2,vI x.Sb,vI x.Va,vI x.Sc,vI z,vI c],.dead,.y 3 v2,.y 4 v3] (.tup [])))))))) (by
 dsimp only[Yl3,Z90]
 have g1:=Ysy x
 have g2:=Ymd id
 have g3:wB ⟨id.Ta,id.Sa,Ka,n⟩=id.Ta.size+id.Sa.length:=rfl
 have g4:=@Y1jh x.Ba ⟨id.Ta,id.Sa,Ka,n⟩
 have g5:=@Y1et x.Ba ⟨id.Ta,id.Sa,Ka,n⟩
 with_reducible repeat' (first|apply ah|exact zR|(intro)|apply Zh0)
 all_goals ((try simp only[std,inj]at *);with_reducible and_intros)
 all_goals try with_reducible first|apply Zh0
 all_goals try first|exact z|grind[bdE,bdL,Yla,Ylb,Yl5])
abbrev Za4 (x:YE) (z:Int) (c:Int) (id:YS_) (r:YR_):Ct:=⟨50,[.box [.ref 1,.ref 2,vI x.Sb,vI x.Va,vI x.Sc,vI z,vI c],.Ac x.Ba,.Ad x.Ma,.Ae r.La,.Ae r.Pb,.Ae r.Tb],[.y 0,Yln id,.agg [.ref 3,.ref 4,.ref 5]],[.box [.ref 6,.ref 7,vI x.Sb,vI x.Va,vI x.Sc,vI z,vI (if bmE x id=0 then c else cdF c (bmE x id))],.dead,.dead,.dead,.dead,.dead,.Ac (if 200<=(x.Ma.length:Int) then x.Ba else bdL x id 4 (x.Ma.length:Int)),.Ad (bmL x r)],.tup []⟩
theorem Zct (x:YE) (z c:Int) (id:YS_) (r:YR_) (h:x.Ba.length<=1000000000/\sumBy wB x.Ba<=1000000000/\wY id<=1000000000):Za4 x z c id r:=Ylh call50 func50 (let v1:=((x.Ma.map Ylc).length:Int);.z Ylc x.Ma (.i (200<=v1) (.c [.ptr,.rd] (Zai x z c 8) (.w (.m 1) (.w (.m 2) (.w (.m 3) (.w (.m 4) (.w (.m 5) (.f [8,9] [.box [.ref 6,.ref 7,vI x.Sb,vI x.Va,vI x.Sc,vI z,vI (cdF c 8)],.dead,.dead,.dead,.dead,.dead,.Ac x.Ba,.Ad x.Ma] (.tup [])))))))) (.w (.draw [(8,[0,1,2])]) (.d [.ptr,.rd,.rd,.rd] (Z90 x z c id 4 v1) (.z Ylc x.Ma (.w (.draw [(7,[3,4,5]),(8,[2,20]),(12,[0])]) (.p (((x.Ma.map Ylc).length+1) * 72<=140737488355328) (.f [15,21] [.box [.ref 6,.ref 7,vI x.Sb,vI x.Va,vI x.Sc,vI z,vI (if bdE x id.Ta id.Sa=0 then c else cdF c (bdE x id.Ta id.Sa))],.dead,.dead,.dead,.dead,.dead,.Ac (bdL x id 4 v1),.y 3 (x.Ma.map Ylc++[Yod r])] (.tup []))))))))) (by
 dsimp only[Yl3,Za4]
 have g1:=Ysy x
 have g2:bmE x id=if 200<=(x.Ma.length:Int) then 8 else bdE x id.Ta id.Sa:=rfl
 exact z19)
end
section
mutual
def Yo2:Yd->YS_
 | ⟨k,n,t,l⟩=>⟨k,n,t,[],Y16v l⟩
def Y16v:List Yd->List YS_
 | []=>[]
 | x :: r=>Yo2 x :: Y16v r
end
theorem Y1h5:∀ l,Y16v l=l.map Yo2
 | []=>by simp[Y16v]
 | x :: r=>by rw[Y16v,Y1h5 r];rfl
theorem Yz8 (d:Yd):Yo2 d=⟨d.Ka,d.Na,d.Ta,[],d.Ia.map Yo2⟩:=by cases d;simp only[Yo2,Y1h5]
abbrev Z2u (d:Yd):Ct:=⟨22,[],[Yq0 d],Yp2 (Yo2 d),.sv (Yoq (Yo2 d) 0)⟩
def Z6a (d:Yd):Lp Nat:=let v1:Cell:=.y;let v2:=[vI 0,vI 0,vS (mkS []),.val v1,.val v1];let v3:=[vI d.Ka,vI d.Na,vS d.Ta,.val v1,.ref 2];.mk 29 0 (λx=>[(2,.y 0),(3,.y 1),(14,Aq d.Ia),(15,li (d.Ia.map Ylf).length),(16,hs x 0)]) (λx=>[.box v2,.box v3,ho x 1]) (λk=>[.s (li k),.o (.Ae ((d.Ia.take k).map Yo2))]) (λk=>k<=d.Ia.length/\d.Ia.length<=9223372036854775807) (λk=>d.Ia.length - k) [.mk True (.exit 0) (λx=>[(2,.y 0),(3,.y 1)]) (λx=>[.box v2,.box v3,ho x 0]) [.o (.Ae (d.Ia.map Yo2))]]
theorem Zhw (d:Yd) (h:wD d<=1000000000) (ih:∀ (z:Yd),z∈d.Ia->wD z<=1000000000->OK (Z2u z)):Lp.Sem prog (Yli f22 0) (Z6a d):=Ylp (λk=>let v1:=(d.Ia.take k).map Yo2;let v2:=d.Ia.g k;.i ((k:Int)<(d.Ia.map Ylf).length) (.x (k:Int) (d.Ia.map Ylf) (Ym1 v2) (.w (.draw [(4,[8,9]),(5,[2,16]),(7,[1])]) (.d [.rd] (Z2u v2) (.p (((v1.map Yl1).length+1) * 80<=140737488355328) (.r ((k:Int)+1) (.g [0,1,17] (k+1) [.s (li ((k:Int)+1)),.o (.y 5 (v1.map Yl1++[Yl8 (Yo2 v2)]))])))))) (.o 0 [0,1,2] [.o (.Ae v1)])) (by
 intro k h;try dsimp only[Yl3,Yle,Z6a]at h|-
 have g1:=Yve d
 have g2:=@Yls _ wD d.Ia (d.Ia.g k)
 exact z05)
theorem Zko (d:Yd) (h:wD d<=1000000000) (ih:∀ z∈d.Ia,∀ (h:wD z<=1000000000),Z2u z):Z2u d:=Ylh call22 func22 (.z Ylf d.Ia (.w (.g (.nilbox 2 4 true 5)) (.l (Z6a d) (Zhw d h ih) [1,2,3] [.s (li 0),.o (.y 5 [])] 0 (.t (.w (.g (.nilbox 0 3 true 1)) (.f [3,2] [.y 1 [],.Ae (d.Ia.map Yo2)] (.sv (.agg [vI d.Ka,vI d.Na,vS d.Ta,.ref 0,.ref 1])))) .q)))) (by
 dsimp only[Yl3,Z2u,Yle,Z6a]
 have g1:=Yve d
 have g2:=Yz8 d
 exact z02)
theorem Z91 (d:Yd):∀ (h:wD d<=1000000000),Z2u d:=Yd.ind (P:=λd=>∀ (h:wD d<=1000000000),Z2u d) (λd ih h=>Zko d h ih) d
abbrev Zbi (L:List Int):Ct:=⟨110,[],[Ag L],[.y 1 []],.sv (.r 0)⟩
def Z7x (L:List Int):Lp Nat:=.mk 22 0 (λx=>[(3,.r 0),(7,Ag L),(8,li (L.map Yl4).length),(9,hs x 0)]) (λx=>[ho x 1]) (λk=>[.s (li k),.o (.y 1 [])]) (λk=>k<=L.length/\L.length<=9223372036854775807/\L.length=0) (λk=>L.length - k) [.mk True (.exit 0) (λx=>[(3,.r 0)]) (λx=>[ho x 0]) [.o (.y 1 [])]]
theorem Zjj (L:List Int) (h:L.length=0):Lp.Sem prog (Yli f110 0) (Z7x L):=Ylp (λk=>let v1:=(k:Int)+1;.i ((k:Int)<(L.map Yl4).length) (.x (k:Int) (L.map Yl4) [cI (L.getD k 0)] (.c [.rd] (Zgj (L.getD k 0)) (.i (Yo1 (L.getD k 0)≠3) (.p (8<=140737488355328) (.r v1 (.g [2] (k+1) [.s (li v1),.o (.y 1 [[cI (L.getD k 0)]])]))) (.r v1 (.g [0] (k+1) [.s (li v1),.o (.y 1 [])]))))) (.o 0 [0] [.o (.y 1 [])])) (by
 intro k h;try dsimp only[Yl3,Yle,Z7x]at h|-
 exact zV)
theorem Za5 (L:List Int) (h:L.length=0):Zbi L:=Ylh call110 func110 (.w (.bool false) (.z Yl4 L (.l (Z7x L) (Zjj L h) [0] [.s (li 0),.o (.y 1 [])] 0 (.t (.f [0] [.y 1 []] (.sv (.r 0))) .q)))) (by
 dsimp only[Yl3,Zbi,Yle,Z7x]
 exact zV)
abbrev Zdp (s:YS_) (m n:Int):Ct:=⟨51,[],[Yln s,li m,li n],Yp2 s,.sv (Yoq s 0)⟩
theorem Z89 (s:YS_) (m n:Int) (h:n<n):OK (Zdp s m n):=absurd h (Int.lt_irrefl n)
abbrev Za6 (s:YS_):Ct:=⟨51,[],[Yln s,li 3,li 0],Yp2 s,.sv (Yoq s 0)⟩
def Z4j (s:YS_):Lp Nat:=let v4:Cell:=.y;let v1:=[vI 0,vI 0,vS (mkS []),.val v4,.val v4];let v2:=[vI s.Ka,vI s.Na,vS s.Ta,.ref 2,.ref 3];let v3:Ob:=.Aa s.Sa;.mk 62 0 (λx=>[(1,li 3),(2,li 0),(6,.y 0),(7,.y 1),(45,Af s.Ia),(46,li (s.Ia.map Yl1).length),(47,hs x 0)]) (λx=>[.box v1,.box v2,ho x 2,ho x 1]) (λk=>[.s (li k),.o (.Ae (s.Ia.take k)),.o v3]) (λk=>k<=s.Ia.length/\s.Ia.length<=9223372036854775807/\s.Ia.length=0) (λk=>s.Ia.length - k) [.mk True (.exit 1) (λx=>[(6,.y 0),(7,.y 1)]) (λx=>[.box v1,.box v2,ho x 1,ho x 0]) [.o (.Ae s.Ia),.o v3]]
theorem Zcb (s:YS_) (h:s.Ka=1/\s.Sa.length=0/\s.Ia.length=0):Lp.Sem prog (Yli f51 0) (Z4j s):=Ylp (λk=>let v1:=s.Ia.g k;let v2:Ob:=.Aa s.Sa;let v3:=(s.Ia.take k).map Yl1;.i ((k:Int)<(s.Ia.map Yl1).length) (.x (k:Int) (s.Ia.map Yl1) (Yl8 v1) (.w (.draw [(6,[9,10]),(7,[3,17]),(9,[1])]) (.d [.rd,.rd,.rd] (Zdp v1 3 0) (.p ((v3.length+1) * 80<=140737488355328) (.r ((k:Int)+1) (.g [0,1,2,18] (k+1) [.s (li ((k:Int)+1)),.o (.y 5 ((s.Ia.take k).map Yl1++[Yl8 v1])),.o v2])))))) (.o 0 [0,1,2,3] [.o (.y 5 v3),.o v2])) (by
 intro k h;try dsimp only[Yl3,Yle,Z4j]at h|-
 exact z06)
theorem Zcu (s:YS_) (h:s.Ka=1/\s.Sa.length=0/\s.Ia.length=0):Za6 s:=Ylh call51 func51 (let v1:Tq _ _:=.t (.f [2,3] [.Aa s.Sa,.Ae s.Ia] (.sv (.agg [vI s.Ka,vI s.Na,vS s.Ta,.ref 0,.ref 1]))) .q;.w (.draw [(11,[18])]) (.d [.rd] (Z5f s.Sa) (.i (s.Ka=1) (.y false (.y false (.y true (.d [.rd] (Zbi s.Sa) (.z Yl1 s.Ia (.w (.g (.nilbox 18 4 true 5)) (.l (Z4j s) (Zcb s h) [1,18,19,20] [.s (li 0),.o (.y 5 []),.o (.y 1 [])] 0 v1))))))) (.z Yl1 s.Ia (.w (.g (.nilbox 18 4 true 5)) (.l (Z4j s) (Zcb s h) [1,18,10,19] [.s (li 0),.o (.y 5 []),.o (.Aa s.Sa)] 0 v1)))))) (by
 dsimp only[Yl3,Za6,Yle,Z4j]
 have g1:s.Sa.length=0->s.Sa=[]:=List.length_eq_zero_iff.1
 have g2:s.Ia.length=0->s.Ia=[]:=List.length_eq_zero_iff.1
 exact z00)
theorem Y1fe {d:Yd}{j:Nat}(h:j<d.Ia.length):(Yo2 d).Ia.g j=Yo2 (d.Ia.g j):=by
 rw[Yz8];simp[ao,h]
def idB (d:Yd):YS_:=(Yo2 d).Ia.g 1
def ruB (d:Yd):YS_:=(Yo2 d).Ia.g 2
def Y1uh (x:YE) (d:Yd):YE:=⟨x.Ba++[⟨(idB d).Ta,(idB d).Sa,4,(x.Ma.length:Int)⟩],x.Ma++[Ym2 (ruB d)],x.Sb,x.Va,x.Sc⟩
def baX:Nat->YE
 | 0=>⟨Yo3,[],0,0,200⟩
 | k+1=>Y1uh (baX k) (Yp5.g k)
def Y1ti (x:YE) (d:Yd):Bool:=
 decide (wD d<=1048576)&&decide (wX x<=1048576)&&decide (wY (Yo2 d)<=1048576)&&decide (d.Ia.length=3)&&decide ((idB d).Ka=1)&&decide ((idB d).Sa.length=0)&&decide ((idB d).Ia.length=0)&&decide (wY (idB d)<=1048576)&&decide (wY (ruB d)<=1048576)&&decide (wR (Ym2 (ruB d))<=1048576)&&Ymt x.Ba (ruB d)&&decide (bmE x (idB d)=0)
theorem Y1zg:∀ k,k<9->Y1ti (baX k) (Yp5.g k):=by decide +kernel
def baQ (k:Nat):YE:=if System.Platform.numBits=64 then baX k else baX k
theorem Y11h:baQ=baX:=by funext k;unfold baQ;split<;>rfl
theorem Y1sb:baQ 0=⟨Yo3,[],0,0,200⟩:=by rw[Y11h];rfl
theorem Y1ro (k:Nat):baQ (k+1)=Y1uh (baQ k) (Yp5.g k):=by rw[Y11h];rfl
theorem Y1u6 {k:Nat}(h:k<9):wD (Yp5.g k)<=1048576/\wX (baQ k)<=1048576/\wY (Yo2 (Yp5.g k))<=1048576/\(Yp5.g k).Ia.length=3/\(idB (Yp5.g k)).Ka=1/\(idB (Yp5.g k)).Sa.length=0/\(idB (Yp5.g k)).Ia.length=0 /\
  wY (idB (Yp5.g k))<=1048576/\wY (ruB (Yp5.g k))<=1048576/\wR (Ym2 (ruB (Yp5.g k)))<=1048576/\Ymt (baQ k).Ba (ruB (Yp5.g k))/\bmE (baQ k) (idB (Yp5.g k))=0 /\
  (baQ k).Ba.length<=1048577/\sumBy wB (baQ k).Ba<=1048577/\Yo2 ((Yp5.g k).Ia.g 1)=idB (Yp5.g k)/\Yo2 ((Yp5.g k).Ia.g 2)=ruB (Yp5.g k)/\(Yo2 (Yp5.g k)).Ia.length=3:=by
 have h1:Y1ti (baQ k) (Yp5.g k):=by rw[Y11h];exact Y1zg k h
 simp only[Y1ti,af,ak]at h1
 obtain⟨⟨⟨⟨⟨⟨⟨⟨⟨⟨⟨a,b⟩,c⟩,d⟩,e⟩,f⟩,g⟩,i⟩,j⟩,l⟩,m⟩,n⟩:=h1
 have hx:=Ysy (baQ k)
 refine⟨a,b,c,d,e,f,g,i,j,l,m,n,by omega,by omega,(Y1fe oW).symm,(Y1fe oW).symm,?_⟩
 rw[Yz8];simpa using d
theorem Y1pb:Yp5.length=9:=rfl
abbrev Zjk:Ct:=⟨19,[],[ls Y1ci],[.Ah Yp5],.tup [.r 0,lb true]⟩
theorem Z6i:OK Zjk:=Zfn Yp5 Y1ci Y210
abbrev Za7 (x:YE) (z:Int) (c:Int) (s:YS_):Ct:=⟨21,stO x z c,[.y 0,Yln s],[.box [.ref 3,.ref 4,vI x.Sb,vI x.Va,vI x.Sc,vI z,vI c],.dead,.dead,.Ac (x.Ba++[(⟨(s.Ia.g 1).Ta,(s.Ia.g 1).Sa,4,(x.Ma.length:Int)⟩:YB)]),.Ad (x.Ma++[Ym2 (s.Ia.g 2)])],.tup []⟩
theorem Z8a (x:YE) (z c:Int) (s:YS_) (h:wX x<=1048576/\wY s<=1048576/\s.Ia.length=3/\(s.Ia.g 1).Ka=1/\(s.Ia.g 1).Sa.length=0/\(s.Ia.g 1).Ia.length=0/\Ymt x.Ba (s.Ia.g 2)/\bmE x (s.Ia.g 1)=0):Za7 x z c s:=Ylh call21 func21 (let v1:List Ob:=[.box [.ref 3,.ref 4,vI x.Sb,vI x.Va,vI x.Sc,vI z,vI (cdF c 1)],.dead,.dead,.Ac x.Ba,.Ad x.Ma];let v2:=s.Ia.g 1;let v3:=s.Ia.g 2;let v4:=s.Ia.map Yl1;let v5:Tq _ _:=.c [.ptr,.rd] (Zai x z c 1) (.w (.m 1) (.w (.m 2) (.f [4,5] v1 (.tup []))));let v6:=(0:Int)<=1/\v4[1]? = some (Yl8 v2);.z Yl1 s.Ia (.i (((s.Ia.map Yl1).length:Int)≠3) (.y true v5) (.w (.cells (Yl8 v2)) (.p v6 (.i (v2.Ka≠1) v5 (.w (.draw [(14,[18])]) (.w (.cells (Yl8 v3)) (.p ((0:Int)<=2/\v4[2]? = some (Yl8 v3)) (.d [.rd,.rd] (Z83 x.Ba v3) (.b (!Ymt x.Ba v3) (.c [.ptr,.rd] (Zai x z c 1) (.w (.m 1) (.w (.m 2) (.f [19,20] v1 (.tup []))))) (.w (.draw [(7,[0,1,2,10,11,12])]) (.w (.cells (Yl8 v2)) (.p v6 (.d [.rd,.rd,.rd] (Za6 v2) (.d [.ptr,.rd,.agg [some (true,5),some (true,5),some (true,5)]] (Za4 x z c v2 (Yno x.Ba v3)) (.f [39,40] [.box [.ref 3,.ref 4,vI x.Sb,vI x.Va,vI x.Sc,vI z,vI (if bmE x v2=0 then c else cdF c (bmE x v2))],.dead,.dead,.Ac (if 200<=(x.Ma.length:Int) then x.Ba else bdL x v2 4 (x.Ma.length:Int)),.Ad (bmL x (Yno x.Ba v3))] (.tup []))))))))))))))))) (by
 dsimp only[Yl3,Za7]
 have g1:=Ysy x
 have e2:∀ j,j<s.Ia.length->wY (s.Ia.g j)<=wY s:=λj hj=>by have:=@Yls _ wY s.Ia _ (Yl6 hj);have:=Ymd s;omega
 have g2:bmE x (s.Ia.g 1)=if 200<=(x.Ma.length:Int) then 8 else bdE x (s.Ia.g 1).Ta (s.Ia.g 1).Sa:=rfl
 have g3:=@Y1z8 x (s.Ia.g 1) 4 (x.Ma.length:Int)
 have g5:(s.Ia.map Yl1)[1]? = some (Yl8 (s.Ia.g 1)):=Y1bm (by have:=h.2.2.1;omega)
 have g6:(s.Ia.map Yl1)[2]? = some (Yl8 (s.Ia.g 2)):=Y1bm (by have:=h.2.2.1;omega)
 have g4:Ymt x.Ba (s.Ia.g 2)->Yno x.Ba (s.Ia.g 2)=Ym2 (s.Ia.g 2):=λh=>ae h
 exact z19)
abbrev Zdq:Ct:=⟨5,[],[],[.Ac (baQ 9).Ba,.Ad (baQ 9).Ma],.sv (.agg [.ref 0,.ref 1,vI (baQ 9).Sb,vI (baQ 9).Va,vI (baQ 9).Sc])⟩
def Z6b:Lp Nat:=let v2:Cell:=.y;let v1:List AC:=[.val v2,.val v2,vI 0,vI 0,vI 0];.mk 29 0 (λx=>[(0,.y 0),(1,.y 1),(14,.r 2),(15,li 9),(16,hs x 0)]) (λx=>[.box v1,.box [.ref 3,.ref 4,ha x 3,ha x 4,ha x 5,vI 0,vI 0],.Ah Yp5,ho x 1,ho x 2]) (λk=>[.s (li k),.o (.Ac (baQ k).Ba),.o (.Ad (baQ k).Ma),.a (vI (baQ k).Sb),.a (vI (baQ k).Va),.a (vI (baQ k).Sc)]) (λk=>k<=9/\9<=9223372036854775807) (λk=>9 - k) [.mk True (.exit 0) (λx=>[(0,.y 0),(1,.y 1)]) (λx=>[.box v1,.box [.ref 2,.ref 3,ha x 2,ha x 3,ha x 4,vI 0,vI 0],ho x 0,ho x 1]) [.o (.Ac (baQ 9).Ba),.o (.Ad (baQ 9).Ma),.a (vI (baQ 9).Sb),.a (vI (baQ 9).Va),.a (vI (baQ 9).Sc)]]
theorem Zhx:Lp.Sem prog (Yli f5 0) Z6b:=Ylp (λk=>let v1:=Yp5.g (k:Int).toNat;let v2:=(Yo2 v1).Ia.g 1;.i ((k:Int)<9) (.p (0<=(k:Int)/\(k:Int).toNat<9) (.w (.cells (Ym1 v1)) (.p ((Yp5.map Ylf)[(k:Int).toNat]? = some (Ym1 v1)) (.d [.rd] (Z2u v1) (.d [.ptr,.rd] (Za7 (baQ k) 0 0 (Yo2 v1)) (.r ((k:Int)+1) (.g [0,1,2,11,12] (k+1) [.s (li ((k:Int)+1)),.o (.Ac ((baQ k).Ba++[YB.mk v2.Ta v2.Sa 4 (↑(baQ k).Ma.length:Int)])),.o (.Ad ((baQ k).Ma++[Ym2 ((Yo2 v1).Ia.g 2)])),.a (vI (baQ k).Sb),.a (vI (baQ k).Va),.a (vI (baQ k).Sc)]))))))) (.o 0 [0,1,3,4] [.o (.Ac (baQ k).Ba),.o (.Ad (baQ k).Ma),.a (vI (baQ k).Sb),.a (vI (baQ k).Va),.a (vI (baQ k).Sc)])) (by
 intro k h;try dsimp only[Yl3,Yle,Z6b]at h|-
 have g1:=@Y1u6 k
 have g2:=Y1pb
 have g3:=Y1ro k
 with_reducible repeat' (first|apply ah|exact zR|(intro)|apply Z6i|apply Z91|apply Z8a)
 all_goals ((try simp only[std,inj]at *);with_reducible and_intros)
 all_goals try first|with_reducible (first|apply Z6i|apply Z91|apply Z8a)|(simp only[<- aq];with_reducible first|apply Z6i|apply Z91|apply Z8a)
 all_goals try first|exact z|grind[Y1uh,idB,ruB,Yla,Ylb,Yl5])
theorem Zkp:Zdq:=Ylh call5 func5 (.c [] Zcm (.c [] Zkn (.c [.rd] Z6i (.h (9<=9223372036854775807) (.w (.g (.nilbox 2 1 true 3)) (.l Z6b Zhx [0,2,3,1,4] [.s (li 0),.o (.Ac Yo3),.o (.y 3 []),.a (vI 0),.a (vI 0),.a (vI 200)] 0 (.t (.f [2,3] [.Ac (baQ 9).Ba,.Ad (baQ 9).Ma] (.sv (.agg [.ref 0,.ref 1,vI (baQ 9).Sb,vI (baQ 9).Va,vI (baQ 9).Sc]))) .q))))))) (by
 dsimp only[Yl3,Zdq,Yle,Z6b]
 have g2:=Y1pb
 have g3:=Y1sb
 exact z00)
end
section
theorem Y19v:isB0 (baQ 9):=by
 rw[Y11h];exact⟨by decide +kernel,by decide +kernel,by decide +kernel,by decide +kernel⟩
theorem Ywq:okX (baQ 9):=Y1p0 Y19v.ex Y19v.mw
theorem Y1f9:wX (baQ 9)<=1048576:=by rw[Y11h];decide +kernel
def Ytv (d:Yd):YS_:=if Ynp d then Yo2 d else zY
theorem Y21b:∀ d:Yd,wY (Yo2 d)=wD d:=by
 refine Yd.ind λd ih => ?_
 rw[Yz8,Ymd,Yve]
 have:∀ L:List Yd,(∀ x∈L,wY (Yo2 x)=wD x)->sumBy wY (L.map Yo2)=sumBy wD L:=by
  intro L
  induction L with
  | nil=>intro _;rfl
  | cons x r ihr=>intro h;simp only[bO,sumBy,h x aj,ihr λy hy=>h y (ai _ hy)]
 simp only[this _ ih,aO,bo]
 omega
theorem Y1wk:∀ d:Yd,∀ y∈nmZ (Yo2 d),y.Sa=[]:=by
 refine Yd.ind λd ih => ?_
 intro y hy
 rw[Yz8,Yp4,az]at hy
 rcases hy with hy|hy
 ·simp only at hy
  split at hy
  ·rw[List.mem_singleton.1 hy]
  ·cases hy
 ·obtain⟨x,hx,hy⟩:=List.mem_flatMap.1 hy
  obtain⟨z,hz,rfl⟩:=List.mem_map.1 hx
  exact ih z hz y hy
theorem Y1wv (d:Yd):∀ y∈nmZ (Ytv d),y.Sa=[]:=by
 unfold Ytv;split
 ·exact Y1wk d
 ·have e:nmZ zY=[]:=by rw[Yp4];rfl
  rw[e];intro y hy;cases hy
theorem Y1nq (d:Yd):wY (Ytv d)<=wD d:=by
 unfold Ytv;split
 ·rw[Y21b];exact aC _
 ·have e:wY zY=0:=by rw[Ymd];rfl
  omega
abbrev Zbj (d:Yd):Ct:=⟨6,[],[Yq0 d],Yp2 (Ytv d),.sv (Yoq (Ytv d) 0)⟩
theorem Za8 (d:Yd) (h:wD d<=1000000000):Zbj d:=Ylh call6 func6 (.c [.rd] (Zbn d) (.b (!Ynp d) (.w (.g (.nilbox 1 3 true 1)) (.w (.g (.nilbox 1 4 true 5)) (.f [2,3] [.y 1 [],.y 5 []] (.sv (.agg [vI 0,vI 0,vS (mkS []),.ref 0,.ref 1]))))) (.d [.rd] (Z2u d) (.f [2,3] [.Aa (Yo2 d).Sa,.Ae (Yo2 d).Ia] (.sv (.agg [vI (Yo2 d).Ka,vI (Yo2 d).Na,vS (Yo2 d).Ta,.ref 0,.ref 1])))))) (by
 dsimp only[Yl3,Zbj]
 have g1:=λe:Ynp d=>show Ytv d=Yo2 d from ae e
 have g2:=λe:¬ Ynp d=>show Ytv d=zY from ab e
 have qz:=Y1lt
 exact z00)
abbrev Yty (b:List UInt8):YS_:=Ytv (Yob 3 (Yt9 b) []).1
abbrev Yps (b:List UInt8):Bool:=xsB (baQ 9) (Yty b)
abbrev Yn4 (b:List UInt8):YR Yc:=yX (Yty b) (ys0 (baQ 9))
theorem Y21g {b:List UInt8}(h:yrE (Yps b) (Yn4 b)=0):Yps b/\(Yn4 b).e=0/\Yly (Yn4 b).v<=3000/\Ypa (Yn4 b).v<=150:=by
 have hb:Yps b:=by
  cases e:Yps b with
  | true=>rfl
  | false=>unfold yrE at h;rw[e]at h;cases h
 have h2:Yuh (Yn4 b).v (Yn4 b).e=0:=by unfold yrE at h;rw[ae hb]at h;exact h
 unfold Yuh at h2
 split at h2
 ·cases h2
 ·rename_i c
  exact⟨hb,h2,by omega,by omega⟩
theorem Y1yd {b:List UInt8}(h:yrE (Yps b) (Yn4 b)=0) :
  yrC (Yps b) (Yn4 b)=(Yn4 b).v/\yrX (baQ 9) (Yps b) (Yn4 b)=(Yn4 b).m.x/\okX (Yn4 b).m.x/\(bnd (Yn4 b).v).length<=100000 /\
  Yxq (Yn4 b).v []/\Ym0 (Yn4 b).m.x/\(baQ 9).Sb<=(Yn4 b).m.Sb/\(Yn4 b).m.Va=(baQ 9).Va+((bnd (Yn4 b).v).length:Int)/\(baQ 9).Ba.length<=(Yn4 b).m.Ba.length/\wC (Yn4 b).v<=100000000:=by
 obtain⟨h1,h2,h3,h4⟩:=Y21g h
 have hs:=Y13o h1
 have g:=Y22a (x:=baQ 9) Y19v hs (Y1wv _) (r:=Yn4 b) rfl h2 h3 h4
 have g0:Ylt (ys0 (baQ 9)):=⟨Ywq,aJ _,by decide⟩
 have k:=(Ywm (Y109.f (Yty b) _ h2) hs g0).ok.1
 have v:=k.Va
 have v0:=Ywq.Va
 have e:(Yn4 b).m.x.Va=(Yn4 b).m.Va:=rfl
 exact⟨ae h,ae h,k,by have:=g.2.2.2.1;have v1:(Yn4 b).m.Va<=99999:=v.2;omega,g⟩
theorem Y1xx {b:List UInt8}(h:yrE (Yps b) (Yn4 b)=0) :
  Yxq (yrC (Yps b) (Yn4 b)) []/\Ym0 (yrX (baQ 9) (Yps b) (Yn4 b))/\(baQ 9).Sb<=(yrX (baQ 9) (Yps b) (Yn4 b)).Sb/\(yrX (baQ 9) (Yps b) (Yn4 b)).Va=(baQ 9).Va+((bnd (yrC (Yps b) (Yn4 b))).length:Int) /\
  (baQ 9).Ba.length<=(yrX (baQ 9) (Yps b) (Yn4 b)).Ba.length/\wC (yrC (Yps b) (Yn4 b))<=100000000/\okX (yrX (baQ 9) (Yps b) (Yn4 b))/\(bnd (yrC (Yps b) (Yn4 b))).length<=100000:=by
 have g:=Y1yd h
 rw[g.1,g.2.1]
 exact⟨g.2.2.2.2.1,g.2.2.2.2.2.1,g.2.2.2.2.2.2.1,g.2.2.2.2.2.2.2.1,g.2.2.2.2.2.2.2.2.1,g.2.2.2.2.2.2.2.2.2,g.2.2.1,g.2.2.2.1⟩
end
section
abbrev Zi (a:Yd) (b:Yd):Ct:=⟨37,[],[Yq0 a,Yq0 b],[],.sv (lb (decide (a=b)))⟩
def Z1f (a:Yd) (b:Yd):Lp Nat:=.mk 53 0 (λx=>[(2,.y 0),(3,.y 1),(36,li (a.Ia.map Ylf).length),(37,hs x 0)]) (λx=>[.box (vals (Ym1 a)),.box (vals (Ym1 b))]) (λk=>[.s (li k)]) (λk=>k<=a.Ia.length/\a.Ia.length<=9223372036854775807/\a.Ia.length=b.Ia.length/\a.Ia.take k=b.Ia.take k) (λk=>a.Ia.length - k) [.mk (a.Ia=b.Ia) (.exit 0) (λx=>[]) (λx=>[]) [],.mk (a.Ia≠b.Ia) .ret (λx=>[(4,hs x 0)]) (λx=>[]) [.s (lb false)]]
theorem Zas (a:Yd) (b:Yd) (ih:∀ (z:Yd),z∈a.Ia->∀ (b:Yd),OK (Zi z b)):Lp.Sem prog (Yli f37 0) (Z1f a b):=Ylp (λk=>.i ((k:Int)<(a.Ia.map Ylf).length) (.w (.draw []) (.x (k:Int) (a.Ia.map Ylf) (Ym1 (a.Ia.g k)) (.x (k:Int) (b.Ia.map Ylf) (Ym1 (b.Ia.g k)) (.d [.rd,.rd] (Zi (a.Ia.g k) (b.Ia.g k)) (.b (!decide (a.Ia.g k=b.Ia.g k)) (.o 1 [] [.s (lb false)]) (.r ((k:Int)+1) (.g [0,1] (k+1) [.s (li ((k:Int)+1))]))))))) (.o 0 [] [])) (by
 intro k h;try dsimp only[Yl3,Yle,Z1f]at h|-
 exact z0d)
theorem Zcv (a b:Yd) (ih:∀ z∈a.Ia,∀ (b:Yd),Zi z b):Zi a b:=Ylh call37 func37 (let v1:Tq _ _:=.y true (.s (lb false));.i (a.Ka≠b.Ka) (.y true (.y true v1)) (.i (a.Na≠b.Na) (.y true v1) (.i (a.Ta.data.toList≠b.Ta.data.toList) v1 (.z Ylf a.Ia (.z Ylf b.Ia (.i (((a.Ia.map Ylf).length:Int)≠((b.Ia.map Ylf).length:Int)) (.s (lb false)) (.z Ylf a.Ia (.l (Z1f a b) (Zas a b ih) [0,1] [.s (li 0)] 0 (.t (.s (lb true)) (.t (.s (lb false)) .q)))))))))) (by
 dsimp only[Yl3,Zi,Yle,Z1f]
 simp only[Y1he]
 exact z0e)
theorem Zfs (a:Yd):∀ (b:Yd),Zi a b:=Yd.ind (P:=λa=>∀ (b:Yd),Zi a b) (λa ih b=>Zcv a b ih) a
abbrev Zc (a:Yc) (b:Yc):Ct:=⟨13,[],[Yt0 a,Yt0 b],[],.sv (lb (decide (a=b)))⟩
def Z1b (a:Yc) (b:Yc):Lp Nat:=.mk 62 0 (λx=>[(2,.y 0),(3,.y 1),(45,li (a.Kb.map Ylo).length),(46,hs x 0)]) (λx=>[.box (vals (Ymz a)),.box (vals (Ymz b))]) (λk=>[.s (li k)]) (λk=>k<=a.Kb.length/\a.Kb.length<=9223372036854775807/\a.Kb.length=b.Kb.length/\a.Kb.take k=b.Kb.take k) (λk=>a.Kb.length - k) [.mk (a.Kb=b.Kb) (.exit 0) (λx=>[]) (λx=>[]) [],.mk (a.Kb≠b.Kb) .ret (λx=>[(4,hs x 0)]) (λx=>[]) [.s (lb false)]]
theorem Za9 (a:Yc) (b:Yc) (ih:∀ (z:Yc),z∈a.Kb->∀ (b:Yc),OK (Zc z b)):Lp.Sem prog (Yli f13 0) (Z1b a b):=Ylp (λk=>.i ((k:Int)<(a.Kb.map Ylo).length) (.w (.draw []) (.x (k:Int) (a.Kb.map Ylo) (Ymz (a.Kb.g k)) (.x (k:Int) (b.Kb.map Ylo) (Ymz (b.Kb.g k)) (.d [.rd,.rd] (Zc (a.Kb.g k) (b.Kb.g k)) (.b (!decide (a.Kb.g k=b.Kb.g k)) (.o 1 [] [.s (lb false)]) (.r ((k:Int)+1) (.g [0,1] (k+1) [.s (li ((k:Int)+1))]))))))) (.o 0 [] [])) (by
 intro k h;try dsimp only[Yl3,Yle,Z1b]at h|-
 exact z0d)
theorem Zcc (a b:Yc) (ih:∀ z∈a.Kb,∀ (b:Yc),Zc z b):Zc a b:=Ylh call13 func13 (let v1:Tq _ _:=.y true (.s (lb false));.i (a.Ka≠b.Ka) (.y true (.y true (.y true v1))) (.i (a.Na≠b.Na) (.y true (.y true v1)) (.c [.rd,.rd] (Z2v a.Pa b.Pa) (.b (!decide (a.Pa=b.Pa)) (.y true v1) (.c [.rd,.rd] (Zfs a.Da b.Da) (.b (!decide (a.Da=b.Da)) v1 (.z Ylo a.Kb (.z Ylo b.Kb (.i (((a.Kb.map Ylo).length:Int)≠((b.Kb.map Ylo).length:Int)) (.s (lb false)) (.z Ylo a.Kb (.l (Z1b a b) (Za9 a b ih) [0,1] [.s (li 0)] 0 (.t (.s (lb true)) (.t (.s (lb false)) .q))))))))))))) (by
 dsimp only[Yl3,Zc,Yle,Z1b]
 simp only[Y1yl]
 exact z0e)
theorem Zea (a:Yc):∀ (b:Yc),Zc a b:=Yc.ind (P:=λa=>∀ (b:Yc),Zc a b) (λa ih b=>Zcc a b ih) a
end
def sh (d:Int) (m:YS):YS:=⟨m.Ba,m.Ma,m.Sb,m.Va,m.Sc,m.z+d⟩
def shR {α:Type}(d:Int) (r:YR α):YR α:=⟨r.v,r.e,sh d r.m⟩
def Sh {α:Type}(d:Int) (r r':YR α):Prop:=¬ r.e=8->r=shR d r'
def yBd {α β:Type}(r:YR α) (c:β) (K:α->YS->YR β):YR β:=if r.e=0 then K r.v r.m else ⟨c,r.e,r.m⟩
section
variable {d:Int}{m:YS}{α β:Type}
theorem Y1v6:yCn (sh d m)=sh d (yCn m):=by
 show (⟨m.Ba,m.Ma,m.Sb,m.Va,m.Sc,m.z+d+1⟩:YS)=⟨m.Ba,m.Ma,m.Sb,m.Va,m.Sc,m.z+1+d⟩
 rw[Int.add_right_comm]
theorem Yo5 {v:α}{e:Int}:Sh d ⟨v,e,sh d m⟩ ⟨v,e,m⟩:=λ_=>rfl
theorem Ymm {c:Prop}[Decidable c] {a b a' b':YR α}(ha:Sh d a a') (hb:Sh d b b'):Sh d (if c then a else b) (if c then a' else b'):=by split<;>assumption
theorem Yss {r r':YR α}{c:β}{K K':α->YS->YR β}(hr:Sh d r r') (hK:∀ v q,Sh d (K v (sh d q)) (K' v q)):Sh d (yBd r c K) (yBd r' c K'):=by
 intro h8
 by_cases e8:r.e=8
 ·exact absurd (by unfold yBd;rw[ab (by rw[e8];decide)];exact e8) h8
 ·have e:=hr e8
  subst e
  unfold yBd at h8|-
  by_cases e0:r'.e=0
  ·rw[ae e0]
   rw[ae (show (shR d r').e=0 from e0)]at h8|-
   exact hK _ _ h8
  ·rw[ab e0,ab (show ¬ (shR d r').e=0 from e0)];rfl
theorem Yy8 [Inhabited α] {f f':α->YS->YR β}(hf:∀ x m,Sh d (f x (sh d m)) (f' x m)):∀ (L:List α) (m:YS),Sh d (Yl9 f L (sh d m)) (Yl9 f' L m)
 | [],m=>λ_=>rfl
 | x :: r,m=>by
  have e:∀ (g:α->YS->YR β) (m:YS),Yl9 g (x :: r) m=yBd (g x m) [] λv q=>if (Yl9 g r q).e=0 then ⟨v :: (Yl9 g r q).v,0,(Yl9 g r q).m⟩ else Yl9 g r q:=λg m=>Yoi x r
  rw[e,e]
  refine Yss (hf _ _) λv q => ?_
  have h:=Yy8 hf r q
  intro h8
  by_cases e0:(Yl9 f r (sh d q)).e=0
  ·have h1:=h (by rw[e0];decide)
   have e1:(Yl9 f' r q).e=0:=by rw[h1]at e0;exact e0
   rw[ae e0,ae e1,h1];rfl
  ·rw[ab e0]at h8|-
   have h1:=h h8
   have e1:¬ (Yl9 f' r q).e=0:=by rw[h1]at e0;exact e0
   rw[ab e1];exact h1
theorem Y1wa (s:YS_) (m:YS):Sh d (yVr s (sh d m)) (yVr s m):=Ymm (c:=bvE m.x s=0) (λ_=>rfl) (λ_=>rfl)
theorem Y1v2 (s:YS_) (r:YR_) (m:YS):Sh d (yMc s r (sh d m)) (yMc s r m):=Ymm (c:=bmE m.x s=0) (λ_=>rfl) (λ_=>rfl)
theorem Y1v4 (n:Int) (s:YS_) (m:YS):Sh d (ySt n s (sh d m)) (ySt n s m):=λ_=>rfl
theorem Y1vi (P:List YS_) (most:Int) (B:List YS_) (m:YS):Sh d (yPr P most B (sh d m)) (yPr P most B m):=by
 have e:∀ m,yPr P most B m=if Yr0 P=false then ⟨([],[]),1,m⟩ else if most<(P.length:Int) then ⟨([],[]),8,m⟩ else if cdN m.Sb 1=0 then
  yBd (Yl9 yVr (yAd (nxt m.Sb 1) P) (ySc 1 m)) ([],[]) (λv q=>⟨(v,yAd (nxt m.Sb 1) B),0,q⟩) else ⟨([],[]),cdN m.Sb 1,ySc 1 m⟩:=λ_=>rfl
 rw[e,e]
 exact Ymm Yo5 (Ymm Yo5 (Ymm (c:=cdN m.Sb 1=0) (Yss (Yy8 Y1wa _ (ySc 1 m)) λ_ _=>Yo5) (λ_=>rfl)))
variable {f f':YS_->YS->YR Yc}{b b':List YS_->YS->YR Yc}(hf:∀ s m,Sh d (f s (sh d m)) (f' s m)) (hb:∀ L m,Sh d (b L (sh d m)) (b' L m))
theorem Y1cn {g:α->Yc}{r r':YR α}(h:Sh d r r'):Sh d (yTo g r) (yTo g r'):=Yss (c:=yN) (K:=λv q=>⟨g v,0,q⟩) (K':=λv q=>⟨g v,0,q⟩) h λ_ _=>Yo5
include hb in
theorem Y1ch (k:Int) (P B:List YS_) (m:YS):Sh d (yPc b k P B (sh d m)) (yPc b' k P B m):=by
 have e:∀ b m,yPc b k P B m=yBd (yPr P 8 B m) yN λv q=>yBd (b v.2 q) yN λc q=>⟨yK k 0 v.1 [c],0,q⟩:=λ_ _=>rfl
 rw[e,e]
 exact Yss (Y1vi _ _ _ _) λ_ _=>Yss (hb _ _) λ_ _=>Yo5
include hb in
theorem Y24g (L B:List YS_) (m:YS):Sh d (yLs b L B (sh d m)) (yLs b' L B m):=by
 have e:∀ b m,yLs b L B m=if cdN m.Sb 1=0 then (if L.all (yLo m.Ba) then yBd (Yl9 (yM1 (nxt m.Sb 1)) L (ySc 1 m)) yN (λ_ q=>b (yAd (nxt m.Sb 1) B) q) else ⟨yN,1,ySc 1 m⟩) else ⟨yN,cdN m.Sb 1,ySc 1 m⟩:=λ_ _=>rfl
 rw[e,e]
 exact Ymm (c:=cdN m.Sb 1=0) (Ymm (c:=L.all (yLo m.Ba)) (Yss (Yy8 (λ_ _=>Y1v2 _ _ _) _ (ySc 1 m)) λ_ _=>hb _ _) (λ_=>rfl)) (λ_=>rfl)
def bdF (f:YS_->YS->YR Yc) (b:List YS_->YS->YR Yc) (k:Int) (s:YS_) (m:YS):YR Yc:=
 if k=0 then (if (s.Ia.length:Int)=2 then (if Ynp (yDt (s.Ia.g 1)) then ⟨⟨1,0,[],yDt (s.Ia.g 1),[]⟩,0,m⟩ else ⟨yN,8,m⟩) else ⟨yN,1,m⟩)
 else if k=2 then (if (s.Ia.length:Int)=4 then yTo (yK 7 0 []) (Yl9 f (s.Ia.drop 1) m) else ⟨yN,1,m⟩)
 else if k=4 then (if (s.Ia.length:Int)<2 then ⟨yN,1,m⟩ else yBd (Yl9 f (s.Ia.drop 1) m) yN λv q=>⟨sqV v,sqE v,q⟩)
 else if k=1 then (if (s.Ia.length:Int)<3\/¬ (s.Ia.g 1).Ka=0 then ⟨yN,1,m⟩ else yPc b 5 (s.Ia.g 1).Ia (s.Ia.drop 2) m)
 else if k=6 then (if (s.Ia.length:Int)<3 then ⟨yN,1,m⟩ else yPc b 11 ((s.Ia.drop 1).take 1) (s.Ia.drop 2) m)
 else if k=11 then (if (s.Ia.length:Int)<3\/¬ (s.Ia.g 1).Ka=0\/(s.Ia.g 1).Ia.length=0 then ⟨yN,1,m⟩
  else yBd (yPr (s.Ia.g 1).Ia 60 (s.Ia.drop 2) m) yN λv q=>yBd (Yl9 f v.2 q) yN λK q=>if 60<(K.length:Int) then ⟨yN,8,q⟩ else ⟨yK 9 0 v.1 K,0,q⟩)
 else if k=3 then (if ¬ (s.Ia.length:Int)=3\/¬ (s.Ia.g 1).Ka=1 then ⟨yN,1,m⟩
  else if yRe m.Ba (s.Ia.g 1).Ta (s.Ia.g 1).Sa=0 then
   (if (rsB m.Ba (s.Ia.g 1).Ta (s.Ia.g 1).Sa).Ka=3 then
    yTo (λc=>yK 4 (rsB m.Ba (s.Ia.g 1).Ta (s.Ia.g 1).Sa).Na [] [c]) (f (s.Ia.g 2) m) else ⟨yN,1,m⟩)
  else ⟨yN,yRe m.Ba (s.Ia.g 1).Ta (s.Ia.g 1).Sa,m⟩)
 else if k=5 then (if (s.Ia.length:Int)<2 then ⟨yN,1,m⟩ else yTo (λc=>yK 10 0 [] [c]) (b (s.Ia.drop 1) m))
 else if k=9 then (if (s.Ia.length:Int)<3\/¬ (s.Ia.g 1).Ka=0 then ⟨yN,1,m⟩ else yLs b (s.Ia.g 1).Ia (s.Ia.drop 2) m)
 else if k=7\/k=8 then ⟨yN,5,m⟩
 else ⟨yN,1,m⟩
theorem Y1pj:yFm f b=bdF f b:=rfl
include hf hb
theorem Y22v (k:Int) (s:YS_) (m:YS):Sh d (yFm f b k s (sh d m)) (yFm f' b' k s m):=by
 rw[Y1pj,Y1pj];unfold bdF
 refine Ymm (Ymm (Ymm Yo5 Yo5) Yo5) (Ymm (Ymm (Y1cn (Yy8 hf _ _)) Yo5) (Ymm (Ymm Yo5 (Yss (Yy8 hf _ _) λ_ _=>Yo5)) (Ymm (Ymm Yo5 (Y1ch hb _ _ _ _))
  (Ymm (Ymm Yo5 (Y1ch hb _ _ _ _)) (Ymm (Ymm Yo5 (Yss (Y1vi _ _ _ _) λ_ _=>Yss (Yy8 hf _ _) λ_ _=>Ymm Yo5 Yo5))
  (Ymm (Ymm Yo5 (Ymm (c:=yRe m.Ba (s.Ia.g 1).Ta (s.Ia.g 1).Sa=0) (Ymm (c:=(rsB m.Ba (s.Ia.g 1).Ta (s.Ia.g 1).Sa).Ka=3) (Y1cn (hf _ _)) Yo5) (λ_=>rfl)))
  (Ymm (Ymm Yo5 (Y1cn (hb _ _))) (Ymm (Ymm Yo5 (Y24g hb _ _ _)) (Ymm Yo5 Yo5)))))))))
theorem Y235 (hd:0<=d) (s:YS_) (m:YS):Sh d (yEx f b s (sh d m)) (yEx f' b' s m):=by
 have e:∀ f b m,yEx f b s m=if 3000<m.z+1 then ⟨yN,8,yCn m⟩
  else if s.Ka=1 then
   (if yRe m.Ba s.Ta s.Sa=0 then
    (if (rsB m.Ba s.Ta s.Sa).Ka=3 then ⟨yK 2 (rsB m.Ba s.Ta s.Sa).Na [] [],0,yCn m⟩ else if (rsB m.Ba s.Ta s.Sa).Ka=2 then ⟨yK 3 (rsB m.Ba s.Ta s.Sa).Na [] [],0,yCn m⟩ else ⟨yN,1,yCn m⟩) else ⟨yN,yRe m.Ba s.Ta s.Sa,yCn m⟩)
  else if s.Ka=2\/s.Ka=3\/s.Ka=4 then ⟨⟨1,0,[],yDt s,[]⟩,0,yCn m⟩
  else if s.Ia.length=0 then ⟨yN,1,yCn m⟩
  else if 0<=hdM m.x s then yBd (ySt (hdM m.x s) s (yCn m)) yN f
  else if 0<=hdN m.x s then yFm f b (hdN m.x s) s (yCn m)
  else yBd (Yl9 f s.Ia (yCn m)) yN λv q=>if 9<(v.length:Int) then ⟨yN,8,q⟩ else ⟨yK 6 0 [] v,0,q⟩:=λ_ _ _=>rfl
 rw[e,e]
 by_cases c:3000<(sh d m).z+1
 ·rw[ae c];exact λh=>absurd rfl h
 ·have c':¬ 3000<m.z+1:=by have:(sh d m).z=m.z+d:=rfl;omega
  rw[ab c,ab c',Y1v6]
  exact Ymm (Ymm (c:=yRe m.Ba s.Ta s.Sa=0) (Ymm (c:=(rsB m.Ba s.Ta s.Sa).Ka=3) (λ_=>rfl) (Ymm (c:=(rsB m.Ba s.Ta s.Sa).Ka=2) (λ_=>rfl) Yo5)) (λ_=>rfl))
   (Ymm Yo5 (Ymm Yo5 (Ymm (c:=0<=hdM m.x s) (Yss (Y1v4 _ _ (yCn m)) λ_ _=>hf _ _) (Ymm (c:=0<=hdN m.x s) (Y22v hf hb _ _ _) (Yss (Yy8 hf _ _) λ_ _=>Ymm Yo5 Yo5)))))
end
section
variable {d:Int}
theorem Y22s (s:YS_) (m:YS):Sh d (yDf s (sh d m)) (yDf s m):=by
 have key:∀ (g:Int->YP) (t:YS_),Sh d (⟨g (yVr t (sh d m)).v,(yVr t (sh d m)).e,(yVr t (sh d m)).m⟩:YR YP) ⟨g (yVr t m).v,(yVr t m).e,(yVr t m).m⟩:=λg t h=>by rw[Y1wa t m h];rfl
 unfold yDf
 exact Ymm Yo5 (Ymm (key (λn=>⟨true,n,_,false,[],[]⟩) _) (Ymm (key (λn=>⟨true,n,zY,true,_,_⟩) _) Yo5))
theorem Y23w (s:YS_) (m:YS):Sh d (ySy s (sh d m)) (ySy s m):=by
 unfold ySy
 exact Ymm (c:=(s.Ia.length:Int)=3/\(s.Ia.g 1).Ka=1/\Ymt m.Ba (s.Ia.g 2)) (Y1v2 _ _ _) Yo5
theorem Y13d (hd:0<=d) (j:Nat):∀ (n:Nat) (q:List YS_) (o:List YP) (m:YS),Sh d (yLk n q o (sh d m)) (yLk (n+j) q o m)
 | n,[],o,m=>by unfold yLk;exact Yo5
 | 0,s :: q,o,m=>λh=>absurd (by unfold yLk;rfl) h
 | n+1,s :: q,o,m=>by
  have e:∀ n m,yLk (n+1) (s :: q) o m=if 3000<m.z+1 then ⟨[],8,yCn m⟩
   else if 0<=hdM m.x s then yBd (ySt (hdM m.x s) s (yCn m)) [] λv p=>yLk n (v :: q) o p
   else if hdN m.x s=4 then yLk n (s.Ia.drop 1++q) o (yCn m)
   else if hdN m.x s=7 then yBd (yDf s (yCn m)) [] λv p=>yLk n q (o++[v]) p
   else if hdN m.x s=8 then yBd (ySy s (yCn m)) [] λ_ p=>yLk n q o p
   else yLk n q (o++[⟨false,0,s,false,[],[]⟩]) (yCn m):=λn m=>by rw[yLk];rfl
  have en:n+1+j=(n+j)+1:=by omega
  rw[en,e,e]
  by_cases c:3000<(sh d m).z+1
  ·rw[ae c];exact λh=>absurd rfl h
  ·have c':¬ 3000<m.z+1:=by have:(sh d m).z=m.z+d:=rfl;omega
   rw[ab c,ab c',Y1v6]
   exact Ymm (c:=0<=hdM m.x s) (Yss (Y1v4 _ _ (yCn m)) λ_ _=>Y13d hd j n _ _ _) (Ymm (c:=hdN m.x s=4) (Y13d hd j n _ _ _) (Ymm (c:=hdN m.x s=7) (Yss (Y22s _ _) λ_ _=>Y13d hd j n _ _ _)
    (Ymm (c:=hdN m.x s=8) (Yss (Y23w _ _) λ_ _=>Y13d hd j n _ _ _) (Y13d hd j n _ _ _))))
variable {f f':YS_->YS->YR Yc}{b b':List YS_->YS->YR Yc}(hf:∀ s m,Sh d (f s (sh d m)) (f' s m)) (hb:∀ L m,Sh d (b L (sh d m)) (b' L m))
include hf hb
theorem Y23k (p:YP) (m:YS):Sh d (yPt f b p (sh d m)) (yPt f' b' p m):=by
 unfold yPt
 exact Ymm (Y1cn (Ymm (Y1ch hb _ _ _ _) (hf _ _))) (Ymm (Y1ch hb _ _ _ _) (hf _ _))
theorem Y1n3 (hd:0<=d) (n j:Nat) (L:List YS_) (m:YS):Sh d (yBo f b n L (sh d m)) (yBo f' b' (n+j) L m):=by
 have e:∀ f b n m,yBo f b n L m=if cdN m.Sb 1=0 then yBd (yLk n (yAd (nxt m.Sb 1) L) [] (ySc 1 m)) yN (λv q=>if v.length=0\/(v.g (v.length - 1)).d then ⟨yN,1,q⟩ else
  yBd (Yl9 (yPt f b) v q) yN λK q=>if (yDv v).length=0 then ⟨sqV K,sqE K,q⟩ else if 60<((yDv v).length:Int)\/60<(K.length:Int) then ⟨yN,8,q⟩ else ⟨yK 9 0 (yDv v) K,0,q⟩) else ⟨yN,cdN m.Sb 1,ySc 1 m⟩:=λ_ _ _ _=>rfl
 rw[e,e]
 exact Ymm (c:=cdN m.Sb 1=0) (Yss (Y13d hd j n _ _ (ySc 1 m)) λ_ _=>Ymm Yo5 (Yss (Yy8 (Y23k hf hb) _ _) λ_ _=>Ymm Yo5 (Ymm Yo5 Yo5))) (λ_=>rfl)
end
theorem Y1qj {d:Int}(hd:0<=d) (j:Nat):∀ n,(∀ s m,Sh d ((Yub n).1 s (sh d m)) ((Yub (n+j)).1 s m))/\(∀ L m,Sh d ((Yub n).2 L (sh d m)) ((Yub (n+j)).2 L m))
 | 0=>by
  refine⟨λs m h=>absurd rfl h,λL m => ?_⟩
  cases j with
  | zero=>exact Y1n3 (f:=λ_ m=>⟨yN,8,yCn m⟩) (b:=λ_ m=>⟨yN,8,m⟩) (λ_ _ h=>absurd rfl h) (λ_ _ h=>absurd rfl h) hd 0 0 L m
  | succ j=>
   rw[show 0+(j+1)=j+1 by omega]
   have:=Y1n3 (f:=λ_ m=>⟨yN,8,yCn m⟩) (b:=λ_ m=>⟨yN,8,m⟩) (f':=(Yub j).1) (b':=(Yub j).2) (d:=d) (λ_ _ h=>absurd rfl h) (λ_ _ h=>absurd rfl h) hd 0 (j+1) L m
   rw[ck]at this
   exact this
 | n+1=>by
  have ih:=Y1qj hd j n
  have en:n+1+j=(n+j)+1:=by omega
  rw[en]
  refine⟨λs m=>Y235 ih.1 ih.2 hd s m,λL m => ?_⟩
  have:=Y1n3 ih.1 ih.2 hd (n+1) j L m
  rw[en]at this
  exact this
theorem Y242 {d:Int}(hd:0<=d) {s:YS_}{m:YS}(hz:m.z+d<=3000):Sh d (yX s (sh d m)) (yX s m):=by
 rw[Y17k,Y17k,Y12g,Y12g]
 have e:fuY m=fuY (sh d m)+d.toNat:=by unfold fuY;have:(sh d m).z=m.z+d:=rfl;omega
 rw[e]
 exact(Y1qj hd d.toNat _).1 s m
def trQ:Nat->YE->YS_->List YS_
 | 0,_,_=>[]
 | n+1,x,s=>if xsE x s=0 then xsY x s :: trQ n (xsX x s) (xsY x s) else []
def trO (x:YE) (s:YS_):List YS_:=trQ 300 x s
theorem Yvk {x:YE}{s:YS_}(h:xsE x s=0):1<=x.Sc/\x.Sc<=200/\(xsX x s).Sc=x.Sc - 1:=by
 have e:(xsX x s).Sc=x.Sc - 1:=by unfold xsX;rw[ae h]
 refine⟨?_,?_,e⟩ <;>
 ·unfold xsE at h
  split at h
  ·rename_i hc
   have hx:=hc.1
   simp only[xsB,af]at hx
   have h1:=Y14x hx.1.1
   unfold Yn3 at h
   split at h
   ·omega
   ·omega
  ·omega
theorem Y1d2:∀ (n:Nat) (x:YE) (s:YS_),x.Sc.toNat<n->trQ (n+1) x s=trQ n x s
 | 0,_,_,h=>by omega
 | n+1,x,s,h=>by
  show (if xsE x s=0 then xsY x s :: trQ (n+1) (xsX x s) (xsY x s) else [])=if xsE x s=0 then xsY x s :: trQ n (xsX x s) (xsY x s) else []
  by_cases e:xsE x s=0
  ·have h2:=Yvk e
   rw[ae e,ae e,Y1d2 n _ _ oW]
  ·rw[ab e,ab e]
theorem Y1ct {x:YE}{s:YS_}(e:xsE x s=0):trO x s=xsY x s :: trO (xsX x s) (xsY x s):=by
 have h2:=Yvk e
 have h3:=Y1d2 299 (xsX x s) (xsY x s) oW
 have h4:trO x s=xsY x s :: trQ 299 (xsX x s) (xsY x s):=ae e
 rw[h4,<- h3];rfl
theorem Y1gj {x:YE}{s:YS_}(e:¬ xsE x s=0):trO x s=[]:=ab e
theorem Y1wc:∀ (n:Nat) (x:YE) (s:YS_),sumBy wY (trQ n x s)<=400002000 * n/\(trQ n x s).length<=n
 | 0,_,_=>by simp[trQ,sumBy]
 | n+1,x,s=>by
  have ih:=Y1wc n (xsX x s) (xsY x s)
  have h2:=Y1m9 x s
  simp only[trQ]
  split
  ·simp only[sumBy,aD];omega
  ·simp[sumBy]
theorem Y247 (x:YE) (s:YS_):sumBy wY (trO x s)<=120000600000/\(trO x s).length<=300:=by
 have h:=Y1wc 300 x s
 unfold trO;omega
theorem Y1o9 (x:YE) (s:YS_):wX (xsX x s)=wX x:=by
 have h:=Y1zb x s
 rw[Ysy,Ysy x,h.1,h.2]
abbrev ysC (c:Int) (x:YE):YS:=⟨x.Ba,x.Ma,x.Sb,x.Va,x.Sc,c⟩
theorem Y1cj {x:YE}{s:YS_}(h:xsE x s=0):xsB x s/\0<=hdM x s/\Yn3 x (hdM x s) s=0:=by
 unfold xsE at h;split at h
 ·rename_i c;exact⟨c.1,c.2,h⟩
 ·omega
theorem Y1tj {x:YE}{s:YS_}(h:0<=hdM x s):s.Ka=0/\¬ s.Ia.length=0:=by
 unfold hdM at h;split at h
 ·rename_i c
  have:=c.1
  simp only[hdF,hdS,af,aL,ak,aM]at this
  exact⟨this.1.1.1,by have:=this.1.1.2;omega⟩
 ·omega
theorem Y1sq {x:YE}{s:YS_}(h:xsE x s=0) (c:Int):(ySt (hdM x s) s (ysC c x)).e=0/\(ySt (hdM x s) s (ysC c x)).v=xsY x s/\(ySt (hdM x s) s (ysC c x)).m=ysC c (xsX x s):=by
 obtain⟨h1,h2,h3⟩:=Y1cj h
 have e0:=Y15v h3
 have d:=(Y1vb h1 h2).2.1 h3
 refine⟨h3,d.1.symm,?_⟩
 have a1:¬ x.Sc=0:=e0.1
 have a2:nxR x.Sb 3<=99999:=e0.2
 show (⟨x.Ba,x.Ma,if x.Sc=0 then x.Sb else if nxR x.Sb 3<=99999 then nxS (scA x) 2 else x.Sb,x.Va,if x.Sc=0 then 0 else x.Sc - 1,c⟩:YS)=_
 rw[ab a1,ae a2,ab a1,d.2]
theorem Y252 {x:YE}{s:YS_}(h:xsE x s=0):xsB (xsX x s) (xsY x s):=by
 obtain⟨h1,h2,h3⟩:=Y1cj h
 have hb:=h1
 simp only[xsB,af]at hb
 have u:=Y1l1 (s:=s) (m:=ysC 0 x) hb.1.1 ⟨hb.1.2,hb.2⟩ h2 h3
 have t:=Y1sq h 0
 have u1:=u.1
 have u2:=u.2.2.2.1
 have e:(ySt (hdM (ysC 0 x).x s) s (ysC 0 x)).m=ysC 0 (xsX x s):=t.2.2
 rw[e]at u1 u2
 have e2:Yo7 (ysC 0 x).x (hdM (ysC 0 x).x s) s=xsY x s:=t.2.1
 rw[e2]at u2
 simp only[xsB,af]
 exact⟨⟨u1,u2.1⟩,u2.2⟩
theorem Y20a {x:YE}{s:YS_}(hx:okX x) (h:xsE x s=0):okX (xsX x s):=by
 have:=Yx5 (m:=ysC 0 x) (n:=hdM x s) (s:=s) hx
 rw[(Y1sq h 0).2.2]at this;exact this
theorem Y25j {x:YE}{s:YS_}(hx:okX x) (h:xsE x s=0) {c:Int}(h0:0<=c) (hc:c<3000):yX s (ysC c x)=yX (xsY x s) (ysC (c+1) (xsX x s)):=by
 obtain⟨h1,h2,h3⟩:=Y1cj h
 have hb:=h1
 simp only[xsB,af]at hb
 have l:=Y1tj h2
 have t:=Y1sq h (c+1)
 rw[Y1my (m:=ysC c x) ⟨hx,h0,by show c<=3000;omega⟩ hb.1.2]
 unfold yEx
 rw[ab (show ¬ 3000<(ysC c x).z+1 by show ¬ 3000<c+1;omega),ab oW,ab oW,ab l.2,ae (show 0<=hdM (ysC c x).x s from h2),ae (show (ySt (hdM (ysC c x).x s) s (yCn (ysC c x))).e=0 from t.1)]
 show yX (ySt (hdM x s) s (ysC (c+1) x)).v (ySt (hdM x s) s (ysC (c+1) x)).m=_
 rw[t.2.1,t.2.2]
def trI:Nat->YE->YS_->YE×YS_
 | 0,x,s=>(x,s)
 | n+1,x,s=>trI n (xsX x s) (xsY x s)
theorem Ywx:∀ (n:Nat) (x:YE) (s:YS_),trI (n+1) x s=(xsX (trI n x s).1 (trI n x s).2,xsY (trI n x s).1 (trI n x s).2)
 | 0,x,s=>rfl
 | n+1,x,s=>Ywx n (xsX x s) (xsY x s)
theorem Y183:∀ (k:Nat) (x:YE) (s:YS_),k<(trO x s).length->xsE (trI k x s).1 (trI k x s).2=0/\(trO x s).g k=(trI (k+1) x s).2
 | k,x,s,h=>by
  by_cases e:xsE x s=0
  ·rw[Y1ct e]at h|-
   match k,h with
   | 0,_=>exact⟨e,rfl⟩
   | k+1,h=>exact Y183 k (xsX x s) (xsY x s) (by simpa using h)
  ·rw[Y1gj e]at h;exact absurd h (Nat.not_lt_zero _)
theorem Y190:∀ (n:Nat) (x:YE) (s:YS_),x.Sc.toNat<=n->(trO x s).length<=n
 | n,x,s,h=>by
  by_cases e:xsE x s=0
  ·have k:=Yvk e
   rw[Y1ct e]
   match n,h with
   | 0,h=>omega
   | n+1,h=>have:=Y190 n (xsX x s) (xsY x s) oW;simpa using this
  ·rw[Y1gj e];exact cm _
theorem Y17f {x:YE}{s:YS_}(hx:okX x):∀ k:Nat,k<=(trO x s).length->okX (trI k x s).1/\(0<k->xsB (trI k x s).1 (trI k x s).2)/\(k<=3000->yX s (ysC 0 x)=yX (trI k x s).2 (ysC k (trI k x s).1))
 | 0,_=>⟨hx,λh=>absurd h dW,λ_=>rfl⟩
 | k+1,h=>by
  have ih:=Y17f (s:=s) hx k oW
  have a:=(Y183 k x s oW).1
  rw[Ywx]
  refine⟨Y20a ih.1 a,λ_=>Y252 a,λhk => ?_⟩
  rw[ih.2.2 oW,Y25j ih.1 a (c:=(k:Int)) oW oW]
  rfl
theorem Y23b {x:YE}{s:YS_}(hx:okX x) {k:Nat}(h:k<=(trO x s).length):xsB (trI k x s).1 (trI k x s).2=xsB x s:=by
 match k,h with
 | 0,_=>rfl
 | k+1,h=>
  rw[(Y17f hx (k+1) h).2.1 (Nat.succ_pos _)]
  have a:=(Y183 0 x s oW).1
  exact(Y1cj a).1.symm
theorem Y21w {x:YE}{s:YS_}(hx:okX x) (h:¬ (yX s (ysC 0 x)).e=8) :
  (yX s (ysC 0 x)).v=(yX (trI (trO x s).length x s).2 (ysC 0 (trI (trO x s).length x s).1)).v/\(yX s (ysC 0 x)).e=(yX (trI (trO x s).length x s).2 (ysC 0 (trI (trO x s).length x s).1)).e /\
  (yX s (ysC 0 x)).m.x=(yX (trI (trO x s).length x s).2 (ysC 0 (trI (trO x s).length x s).1)).m.x:=by
 have l:=Y190 200 x s (by have:=hx.Sc;omega)
 have k:=(Y17f (s:=s) hx _ (aC _)).2.2 oW
 rw[k]at h|-
 have e:ysC ((trO x s).length:Int) (trI (trO x s).length x s).1=sh ((trO x s).length:Int) (ysC 0 (trI (trO x s).length x s).1):=by
  show _=(⟨_,_,_,_,_,0+((trO x s).length:Int)⟩:YS)
  rw[Int.zero_add]
 rw[e]at h|-
 have g:=Y242 (d:=((trO x s).length:Int)) oW (s:=(trI (trO x s).length x s).2) (m:=ysC 0 (trI (trO x s).length x s).1) (by show 0+((trO x s).length:Int)<=3000;omega) h
 rw[g]
 exact⟨rfl,rfl,rfl⟩
section
theorem Y212 (x:YE):vals (Yn6 x)=[vL (x.Ba.map Yl2),vL (x.Ma.map Ylc),vI x.Sb,vI x.Va,vI x.Sc]:=rfl
theorem Y22d (s:YS_):vals (Yl8 s)=[vI s.Ka,vI s.Na,vS s.Ta,vL (s.Sa.map Yl4),vL (s.Ia.map Yl1)]:=rfl
abbrev Z7y (x:YE) (s:YS_):Ct:=⟨9,[],[Ypu x,Yln s],[],.tup [.agg [vI (xsY x s).Ka,vI (xsY x s).Na,vS (xsY x s).Ta,Ap (xsY x s).Sa,Am (xsY x s).Ia],.agg [An (xsX x s).Ba,As (xsX x s).Ma,vI (xsX x s).Sb,vI (xsX x s).Va,vI (xsX x s).Sc],li (xsE x s)]⟩
theorem Z20 (x:YE) (s:YS_) (h:wX x<=1048576/\wY s<=900000000):Z7y x s:=Ylh call9 func9 (let v2:=[vI 0,vI 0,vS (mkS []),vL [],vL []];let v1:Tq _ _:=.w (.draw [(3,[2]),(4,[3])]) (.w (.g (.nilbox 2 3 true 1)) (.w (.g (.nilbox 2 4 true 1)) (.w (.g (.lock 8)) (.w (.g (.lock 9)) (.w (.g (.lock 4)) (.w (.g (.lock 5)) (.f [] [] (.tup [.agg v2,.agg (vals (Yn6 x)),li 1]))))))));.d [.rd] (Z2q x) (.d [.rd,.rd] (Zb9 x s) (.b (!xsB x s) v1 (.d [.ptr,.rd] (Z8l x 0 s) (.i (hdM x s<0) v1 (.d [.ptr,.rd,.rd] (Z8m x 0 (hdM x s) s) (.i (Yn3 x (hdM x s) s≠0) (.d [.rd] (Z2q x) (.w (.g (.nilbox 2 3 true 1)) (.w (.g (.nilbox 2 4 true 1)) (.w (.g (.lock 16)) (.w (.g (.lock 17)) (.w (.g (.lock 14)) (.w (.g (.lock 15)) (.f [] [] (.tup [.agg v2,.agg (vals (Yn6 x)),li (Yn3 x (hdM x s) s)]))))))))) (.w (.draw [(3,[2]),(4,[3])]) (.w (.g (.lock 11)) (.w (.g (.lock 12)) (.w (.g (.lock 4)) (.w (.g (.lock 5)) (.f [] [] (.tup [.agg (vals (Yl8 (Yo7 x (hdM x s) s))),.agg [An x.Ba,As x.Ma,vI (if x.Sc=0 then x.Sb else if nxR x.Sb (3:Int)<=99999 then nxS (scA x) 2 else x.Sb),vI x.Va,vI (if x.Sc=0 then 0 else x.Sc - 1)],li 0])))))))))))))) (by
 dsimp only[Yl3,Z7y]
 have g1:=@Y14x x
 have g2:=Ysy x
 have g3:=@Ymx s
 have qz:=Y1lt
 have q1:=@Y22n x s
 have q2:=@Y1vb x s
 have q4:=@Y1zx x s
 have q6:=@Y15v x (hdM x s) s
 have q7:xsB x s->Ym0 x/\Yld s:=λh=>by simp only[xsB,af]at h;exact h.1
 with_reducible repeat' (first|apply ah|exact zR|(intro)|apply Z6o|apply Ziw|apply Zb8|apply Zf9)
 all_goals ((try simp only[std,inj]at *);with_reducible and_intros)
 all_goals try with_reducible first|apply Z6o|apply Ziw|apply Zb8|apply Zf9
 all_goals try first|exact zw|grind[Y212,Y22d,Yla,Ylb,Yl5])
abbrev Zbk (x:YE) (s:YS_):Ct:=⟨8,[],[Ypu x,Yln s],[.Ae (trO x s)],.sv (.r 0)⟩
def Z7z (x:YE) (s:YS_):Lp (YE×YS_×List YS_):=.mk 26 0 (λx=>[(2,.y 0),(3,.y 1),(5,.r 2)]) (λx=>[.box [ha x 0,ha x 1,ha x 2,ha x 3,ha x 4],.box [ha x 5,ha x 6,ha x 7,ha x 8,ha x 9],ho x 10]) (λk=>[.a (An k.1.Ba),.a (As k.1.Ma),.a (vI k.1.Sb),.a (vI k.1.Va),.a (vI k.1.Sc),.a (vI k.2.1.Ka),.a (vI k.2.1.Na),.a (vS k.2.1.Ta),.a (Ap k.2.1.Sa),.a (Am k.2.1.Ia),.o (.Ae k.2.2)]) (λk=>k.2.2++trO k.1 k.2.1=trO x s/\wX k.1<=1048576/\wY k.2.1<=900000000) (λk=>k.1.Sc.toNat) [.mk True .ret (λx=>[(4,.r 0)]) (λx=>[ho x 0]) [.o (.Ae (trO x s))]]
theorem Zjl (x:YE) (s:YS_) (h:wX x<=1048576/\wY s<=900000000):Lp.Sem prog (Yli f8 0) (Z7z x s):=Ylp (λk=>let v1:=xsY k.1 k.2.1;let v2:=xsX k.1 k.2.1;.d [.rd,.rd] (Z7y k.1 k.2.1) (.i (xsE k.1 k.2.1≠0) (.o 0 [2] [.o (.Ae k.2.2)]) (.d [.rd] (Zj v1) (.p (((k.2.2.map Yl1).length+1) * 80<=140737488355328) (.w (.draw [(2,[0]),(3,[1])]) (.g [0,1,8] (xsX k.1 k.2.1,xsY k.1 k.2.1,k.2.2++[xsY k.1 k.2.1]) [.a (An v2.Ba),.a (As v2.Ma),.a (vI v2.Sb),.a (vI v2.Va),.a (vI v2.Sc),.a (vI v1.Ka),.a (vI v1.Na),.a (vS v1.Ta),.a (Ap v1.Sa),.a (Am v1.Ia),.o (.y 5 (k.2.2.map Yl1++[Yl8 v1]))])))))) (by
 intro k h;try dsimp only[Yl3,Yle,Z7z]at h|-
 obtain⟨X,Z,L⟩:=k
 simp only at *
 have g1:=@Y1ct X Z
 have g2:=@Y1gj X Z
 have g3:=@Yvk X Z
 have g4:=Y1o9 X Z
 have g5:=Y1m9 X Z
 have g6:=Y247 x s
 have g7:=ci List.length h.1
 exact z16)
theorem Zaa (x:YE) (s:YS_) (h:wX x<=1048576/\wY s<=900000000):Zbk x s:=Ylh call8 func8 (.w (.g (.nilreg 5 true 5)) (.l (Z7z x s) (Zjl x s h) [0,1,2] [.a (An x.Ba),.a (As x.Ma),.a (vI x.Sb),.a (vI x.Va),.a (vI x.Sc),.a (vI s.Ka),.a (vI s.Na),.a (vS s.Ta),.a (Ap s.Sa),.a (Am s.Ia),.o (.y 5 [])] (x,s,[]) (.t (.f [0] [.Ae (trO x s)] (.sv (.r 0))) .q))) (by
 dsimp only[Yl3,Zbk,Yle,Z7z]
 exact z03)
end
section
def trN (b:List UInt8):Nat:=(trO (baQ 9) (Yty b)).length
abbrev trX (b:List UInt8) (k:Nat):YE:=(trI k (baQ 9) (Yty b)).1
abbrev trY (b:List UInt8) (k:Nat):YS_:=(trI k (baQ 9) (Yty b)).2
theorem Y139 {x:YE}{s:YS_}:∀ k:Nat,wX (trI k x s).1=wX x/\(wY s<=900000000->wY (trI k x s).2<=900000000)
 | 0=>⟨rfl,λh=>h⟩
 | k+1=>by
  have ih:=Y139 (x:=x) (s:=s) k
  rw[Ywx]
  exact⟨by rw[Y1o9];exact ih.1,λ_=>aN (Y1m9 (trI k x s).1 (trI k x s).2) dW⟩
theorem Y1zr (b:List UInt8):trN b<=200:=Y190 200 _ _ (by have:=Ywq.Sc;omega)
abbrev Y1n8 (b:List UInt8):Bool:=xsB (trX b (trN b)) (trY b (trN b))
abbrev Y11x (b:List UInt8):YR Yc:=yX (trY b (trN b)) (ys0 (trX b (trN b)))
theorem Y24o (b:List UInt8):Y1n8 b=Yps b:=Y23b Ywq (aC _)
theorem Y1z5 {b:List UInt8}(h:¬ yrE (Yps b) (Yn4 b)=8):yrE (Y1n8 b) (Y11x b)=yrE (Yps b) (Yn4 b)/\(yrE (Yps b) (Yn4 b)=0->yrC (Y1n8 b) (Y11x b)=yrC (Yps b) (Yn4 b)/\yrX (trX b (trN b)) (Y1n8 b) (Y11x b)=yrX (baQ 9) (Yps b) (Yn4 b)):=by
 rw[Y24o]
 cases hb:Yps b with
 | false=>exact⟨rfl,λh=>by cases h⟩
 | true=>
  have n8:¬ (Yn4 b).e=8:=λe=>h (by
   unfold yrE;rw[ae hb,e];unfold Yuh;split<;>rfl)
  have t:=Y21w (x:=baQ 9) (s:=Yty b) Ywq n8
  have e1:(Y11x b).v=(Yn4 b).v:=t.1.symm
  have e2:(Y11x b).e=(Yn4 b).e:=t.2.1.symm
  have e3:(Y11x b).m.x=(Yn4 b).m.x:=t.2.2.symm
  have eE:yrE true (Y11x b)=yrE true (Yn4 b):=by unfold yrE;rw[e1,e2]
  refine⟨eE,λh0 => ?_⟩
  have h1:yrE true (Y11x b)=0:=eE.trans h0
  exact⟨by unfold yrC;rw[ae h0,ae h1,e1],by unfold yrX;rw[ae h0,ae h1,e3]⟩
abbrev Zft (b:List UInt8):Ct:=⟨3,[],[Av b],[],.sv (lb true)⟩
def Z80 (b:List UInt8):Lp Nat:=let v1:=(trO (baQ 9) (Ytv (Yob 3 (Yt9 b) []).1)).map Yl1;let v2:=trY b (trN b);let v3:=trX b (trN b);.mk 108 0 (λx=>[(0,Av b),(3,.y 0),(4,.y 1),(5,.r 2),(6,.y 3),(7,hs x 0)]) (λx=>[.box (vals (Yn6 (baQ 9))),.box [ha x 6,ha x 7,ha x 8,ha x 9,ha x 10],.y 5 v1,.box [ha x 1,ha x 2,ha x 3,ha x 4,ha x 5]]) (λk=>[.s (li k),.a (An (trX b k).Ba),.a (As (trX b k).Ma),.a (vI (trX b k).Sb),.a (vI (trX b k).Va),.a (vI (trX b k).Sc),.a (vI (trY b k).Ka),.a (vI (trY b k).Na),.a (vS (trY b k).Ta),.a (Ap (trY b k).Sa),.a (Am (trY b k).Ia)]) (λk=>k<=trN b/\b.length<=1048576) (λk=>trN b - k) [.mk True (.exit 0) (λx=>[(0,Av b),(3,.y 0),(4,.y 1),(5,.r 2),(6,.y 3)]) (λx=>[.box (vals (Yn6 (baQ 9))),.box [ha x 5,ha x 6,ha x 7,ha x 8,ha x 9],.y 5 v1,.box [ha x 0,ha x 1,ha x 2,ha x 3,ha x 4]]) [.a (An v3.Ba),.a (As v3.Ma),.a (vI v3.Sb),.a (vI v3.Va),.a (vI v3.Sc),.a (vI v2.Ka),.a (vI v2.Na),.a (vS v2.Ta),.a (Ap v2.Sa),.a (Am v2.Ia)],.mk False .ret (λx=>[(2,hs x 0)]) (λx=>[]) [.s (lb false)]]
theorem Zjm (b:List UInt8):Lp.Sem prog (Yli f3 0) (Z80 b):=Ylp (λk=>let v1:=trO (baQ 9) (Ytv (Yob 3 (Yt9 b) []).1);let v5:=trX b k;let v6:=trY b k;let v2:=xsY v5 v6;let v3:=xsX v5 v6;let v4:=v1.g (k:Int).toNat;.z Yl1 v1 (.i ((k:Int)<(v1.map Yl1).length) (.d [.rd,.rd] (Z7y v5 v6) (.w (.draw []) (.i (xsE v5 v6≠0) (.y true (.y true (.o 1 [] [.s (lb false)]))) (.p (0<=(k:Int)/\(k:Int).toNat<(v1.map Yl1).length) (.w (.cells (Yl8 v4)) (.p ((v1.map Yl1)[(k:Int).toNat]? = some (Yl8 v4)) (.c [.rd,.rd] (Zax v2 v4) (.b (!decide (xsY v5 v6=v1.g (k:Int).toNat)) (.y true (.o 1 [] [.s (lb false)])) (.r (v5.Sc - 1) (.i (v3.Sc≠v5.Sc - 1) (.o 1 [] [.s (lb false)]) (.r ((k:Int)+1) (.g [0,1,2,3] (k+1) [.s (li ((k:Int)+1)),.a (An v3.Ba),.a (As v3.Ma),.a (vI v3.Sb),.a (vI v3.Va),.a (vI v3.Sc),.a (vI v2.Ka),.a (vI v2.Na),.a (vS v2.Ta),.a (Ap v2.Sa),.a (Am v2.Ia)])))))))))))) (.o 0 [0,1,2,3] [.a (An v5.Ba),.a (As v5.Ma),.a (vI v5.Sb),.a (vI v5.Va),.a (vI v5.Sc),.a (vI v6.Ka),.a (vI v6.Na),.a (vS v6.Ta),.a (Ap v6.Sa),.a (Am v6.Ia)]))) (by
 intro k h;try dsimp only[Yl3,Yle,Z80]at h|-
 have hk:(trO (baQ 9) (Ytv (Yob 3 (Yt9 b) []).1)).length=trN b:=rfl
 have hb:=h.2
 have ha:=λa:k<trN b=>Y183 k (baQ 9) (Yty b) a
 have e1:trX b (k+1)=xsX (trX b k) (trY b k):=ci Prod.fst (Ywx k (baQ 9) (Yty b))
 have e2:trY b (k+1)=xsY (trX b k) (trY b k):=ci Prod.snd (Ywx k (baQ 9) (Yty b))
 have eq:=λa:k<trN b=>e2.symm.trans (ha a).2.symm
 have hs:=λa:k<trN b=>Yvk (ha a).1
 have hr:k<trN b -> -9223372036854775808<=(trX b k).Sc - 1/\(trX b k).Sc - 1<=9223372036854775807:=λa=>by
  have:=hs a
  show -9223372036854775808<=(trI k (baQ 9) (Yty b)).1.Sc - 1/\(trI k (baQ 9) (Yty b)).1.Sc - 1<=9223372036854775807
  omega
 have w:=λh=>(Yz3 (d:=3) dW (Y19n (b:=b) h) []).2
 have wy:wY (Yty b)<=900000000:=aN (Y1nq _) (aN (w hb) dW)
 with_reducible repeat' (first|apply ah|exact zR|(intro)|apply Za2|apply Za8|apply Zaa|apply Z20|apply Z9x|apply Z5i)
 all_goals ((try simp only[std,inj]at *);with_reducible and_intros)
 all_goals try with_reducible first|apply Za2|apply Za8|apply Zaa|apply Z20|apply Z9x|apply Z5i
 all_goals (try simp only[aI]at *)
 all_goals first
  | exact b9|omega|exact aN (Nat.le_of_eq (Y139 k).1) Y1f9|exact(Y139 k).2 wy
  | exact absurd (ha oW).1 aW|exact Yqu oW|exact nb aW (bF (eq oW))|exact(hr oW).1|exact(hr oW).2|exact absurd (hs oW).2.2 aW
  | (rw[e1];done)|(rw[e2];done)|(rw[show k=trN b by omega];done)
  | skip)
theorem Zkz (b:List UInt8):Zft b:=Ylh call3 func3 (let v1:=Ytv (Yob 3 (Yt9 b) []).1;let v8:=trX b (trN b);let v2:=yX (trY b (trN b)) (ys0 v8);let v3:=xsB v8 (trY b (trN b));let v4:=ys0 (baQ 9);let v5:=Zbj (Yob 3 (Yt9 b) []).1;let v6:=xsB (baQ 9) v1;let v7:=yX v1 v4;.z Yml b (.i (1048576<((b.map Yml).length:Int)) (.s (lb true)) (.c [] Zkp (.d [.rd,.rd] (Z8z b) (.d [.rd] v5 (.d [.rd,.rd] (Zbk (baQ 9) v1) (.w (.g (.lock 0)) (.w (.g (.lock 1)) (.w (.g (.lock 4)) (.w (.g (.lock 5)) (.l (Z80 b) (Zjm b) [2,6,7,8] [.s (li 0),.a (An (baQ 9).Ba),.a (As (baQ 9).Ma),.a (vI (baQ 9).Sb),.a (vI (baQ 9).Va),.a (vI (baQ 9).Sc),.a (vI v1.Ka),.a (vI v1.Na),.a (vS v1.Ta),.a (Ap v1.Sa),.a (Am v1.Ia)] 0 (.t (.z Yl1 (trO (baQ 9) v1) (.i (200<(((trO (baQ 9) v1).map Yl1).length:Int)) (.s (lb false)) (.w (.draw [(11,[30]),(12,[31])]) (.d [.rd,.rd] (Z8z b) (.d [.rd] v5 (.d [.rd,.rd] (Z8u (baQ 9) v1) (.d [.rd,.rd] (Z8u v8 (trY b (trN b))) (.i (yrE v6 v7=8) (.y true (.s (lb true))) (.i (yrE v3 v2=8) (.s (lb true)) (.i (yrE v6 v7=yrE v3 v2) (.i (yrE v6 v7≠0) (.s (lb true)) (.d [.rd,.rd] (Z84 (yrC v6 v7) []) (.b (Yxq (yrC v6 v7) []) (.c [.rd,.rd] (Zea (yrC v6 v7) (yrC v3 v2)) (.i (yrC v6 v7=yrC v3 v2) (.c [.rd,.rd] (Zch (yrX (baQ 9) v6 v7) (yrX v8 v3 v2)) (.s (lb (decide (yrX (baQ 9) v6 v7=yrX v8 v3 v2))))) (.s (lb false)))) (.y false (.s (lb false)))))) (.s (lb false)))))))))))) (.t (.s (lb false)) .q))))))))))))) (by
 dsimp only[Yl3,Zft,Yle,Z80]
 have hk:(trO (baQ 9) (Ytv (Yob 3 (Yt9 b) []).1)).length=trN b:=rfl
 have hn:=Y1zr b
 have w:=λh=>(Yz3 (d:=3) dW (Y19n (b:=b) h) []).2
 have wy:=λh=>aN (Y1nq (Yob 3 (Yt9 b) []).1) (aN (w h) (show 60000000<=900000000 by decide))
 have ok:=(Y17f (s:=Yty b) Ywq (trN b) (aC _)).1
 have q:=λh=>Y1xx (b:=b) h
 have l:=λh=>Y1z5 (b:=b) h
 with_reducible repeat' (first|apply ah|exact zR|(intro)|apply Za2|apply Za8|apply Zaa|apply Z20|apply Z9x|apply Z5i)
 all_goals ((try simp only[std,inj]at *);with_reducible and_intros)
 all_goals try first|with_reducible (first|apply Za2|apply Za8|apply Zaa|apply Z20|apply Z9x|apply Z5i)|(simp only[<- aq];with_reducible first|apply Za2|apply Za8|apply Zaa|apply Z20|apply Z9x|apply Z5i)
 all_goals (try simp only[aI]at *)
 all_goals first
  | exact b9|omega|rfl|exact Ywq|exact Y1f9|exact aN (w oW) dW|exact wy oW|exact aN (wy oW) dW
  | exact ok|exact aN (Nat.le_of_eq (Y139 (trN b)).1) Y1f9|exact(Y139 (trN b)).2 (wy oW)|exact aN ((Y139 (trN b)).2 (wy oW)) dW
  | exact(q aW).2.2.2.2.2.1|exact cm _|exact((l aW).2 aW).2.symm|exact((l aW).2 aW).1.symm
  | exact absurd ((q aW).1.symm.trans aW) dW|exact absurd ((l aW).2 aW).1.symm aW|exact absurd (l aW).1.symm aW|exact absurd (l aW).1 aW
  | skip)
end
end Go.Proofs.YtcbodhkhppgkiaaGreat
end
section
namespace Go.Proofs.YtcbodhkhppgkiaaGreat.fnTraced
open Go Go.ChangeShapes Go.WideShapes Go.ChangeAt Go.RowKit Go.Proofs.YtcbodhkhppgkiaaGreat.Ab
theorem own:ownKnob Tryz.prog.godebug=none:=by kernel_rfl
theorem Y24z:laidOutB Tryz.prog:=by kernel_rfl
theorem Y23m:mapsRowed Tryz.prog:=by kernel_rfl
theorem Y23t:((List.range Tryz.prog.types.size).all λt=>match Tryz.prog.underlying t with|some (.slice e)=>decide (0<Tryz.prog.cellsOf e)|_=>true)=true:=by kernel_rfl
set_option maxRecDepth 100000 in
theorem Y21e (os:Os) (started:os.Started) (H:Type) (enc:TypeId×Value->H) :
  ReturnsInHanded {} Tryz.checked os 3 .any (Rows.fnTracedSpec.pre6 enc Tryz.prog Tryz.f3 Rows.fnTracedRow.domain false) (Rows.fnTracedSpec.post enc Tryz.prog Tryz.f3 false true false false):=by
 refine returnsInHanded_of_change (C:=Tryz.checked) own started (by kernel_rfl) Tryz.func3
  (ChangeSpec.witness6 (enc:=enc) (C:=Tryz.checked) false ⟨#[],#[.slice none 0 0],[]⟩ 12 (by kernel_rfl) (by kernel_rfl) (by kernel_rfl) (by kernel_rfl)) ?_
 intro W base args ds gs before hval0 hW hcnd _
 have hval:∀ (j:Nat) t v,Tryz.f3.params[j]? = some t->args[j]? = some v->Value.okWide Tryz.prog W .any base t v:=hval0
 have hW':=hW
 obtain⟨p,q,hA0,hV,rfl,hfz,hnd⟩:=hW
 obtain⟨rfl,rfl⟩:=trodVars_none hV
 have hA:DataW.TrodAll enc Tryz.prog W 0 (λ_=>true) true Tryz.f3.params.toList args.toList ds p:=hA0
 rw[Tryz.params3]at hA hval
 have hA2:=hA
 clear hA0 hval0
 obtain⟨v0,vs0,d0,ds0,p0,q0,hargs0,rfl,rfl,h0,r0⟩:=trodAll_cons hA
 obtain⟨rfl,rfl,rfl⟩:=trodAll_nil r0
 obtain rfl:args=#[v0]:=by cases args;simp_all
 obtain⟨a0,c0⟩:=(let ⟨fuel,hf⟩:=h0;Y1ux (C:=Yml) Tryz.underlying22 (by rw[show Tryz.prog.cellsOf 5=1 from by kernel_rfl];decide) (λa=>by kernel_rfl) (λm hm cs x h=>Y1xn Tryz.underlying5 h) hf)
 have s0:Ymo W (Y19o W) (Ynd []) (ll (a0.map Yml)) v0:=Y1y8 (by obtain⟨_,_,_,rfl⟩:=okWide_slice Tryz.underlying22 (hval 0 22 v0 rfl rfl);rfl) c0
 refine(Ynw.kept (w:=W) (vals:=#[v0]) (Zkz a0) (Kn.none (by kernel_rfl) (by kernel_rfl)) ⟨s0,trivial⟩).mono λe W' ⟨he,hg,_⟩ => ?_
 subst he
 exact⟨_,rfl,Y1fl (pv:=[]) hW' (λ_ _ _=>(trodAll_cons_mk (shut_bool Tryz.underlying4 _) trodAll_mk0))
  (λsp hsp=>Y12p Y24z Y23m Y23t hg (by decide +kernel) hA2 λy hy=>hsp y (by simpa using hy)) (λ_ _=>rfl) rfl
  hg (ok_one (by kernel_rfl) rfl (okWide_bool_mk Tryz.underlying4 _))⟩
set_option maxRecDepth 100000 in
set_option maxHeartbeats 0 in
theorem Y23c:joinedFacts Tryz.pinned.checked.prog 3 Tryz.f3 Rows.fnTracedSpec Rows.fnTracedRow:=by
 delta joinedFacts
 with_reducible repeat' apply Y24e
 all_goals (first|with_reducible exact Y217|(rw[Y23g];kernel_rfl)|(rw[Y24n];kernel_rfl)|decide +kernel)
theorem Y263:Rows.fnTracedRow.holds Tryz.pinned (OpenSpec.ofChange Rows.fnTracedSpec):=
 OpenClaim.holds_of_wide 3 Tryz.f3 rfl rfl rfl rfl rfl rfl rfl ⟨rfl,rfl,rfl,rfl,rfl⟩ rfl rfl rfl rfl rfl (by kernel_rfl) Tryz.func3 Y23c
  (dB (by kernel_rfl)) (by unfold Func.isWrapper;first|(rw[ae (by decide +kernel)];kernel_rfl)|(rw[ab (by decide +kernel)];exact⟨rfl,rfl⟩))
  (λos started H enc _=>Y21e os started H enc)
theorem proved:Rows.FnTracedSaid:=
 Y263
end Go.Proofs.YtcbodhkhppgkiaaGreat.fnTraced
end
