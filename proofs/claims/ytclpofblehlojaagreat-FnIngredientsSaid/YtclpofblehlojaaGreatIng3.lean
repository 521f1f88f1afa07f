/- Part 3 of a proof. No condition. -/
import Derived.Test.YtclpofblehlojaaGreatIng2
set_option linter.unusedVariables false
set_option linter.unusedSimpArgs false
section
namespace Go.Proofs.YtclpofblehlojaaGreat
open Go Ab
set_option maxHeartbeats 4000000
abbrev Z1z (n:Int):Ct:=⟨250,[],[li n],[],.sv (ls (mkS (Lib.itoa n)))⟩
def Z5c (n:Int):Lp (Int × List UInt8):=.mk 31 0 (fun x=>[(0,li n),(3,hs x 1),(4,hs x 0)]) (fun x=>[]) (fun k=>[.s (li k.fst),.s (ls (mkS k.snd))]) (fun k=>
 n≠0/\dgs k.fst.natAbs++k.snd=Lib.decDigits n.natAbs/\(-9223372036854775808:Int)<=k.fst/\k.fst<=9223372036854775807) (fun k=>k.fst.natAbs) [.mk True (.exit 0) (fun x
 => [(0,li n),(3,hs x 0)]) (fun x=>[]) [.s (ls (mkS (Lib.decDigits n.natAbs)))]]
theorem Zdh (n:Int) (h:(-9223372036854775808:Int)<=n/\n<=9223372036854775807):Lp.Sem Tryz.prog (Yg6 Tryz.f250 0) (Z5c n):=Ygf (fun k=>.i (k.fst≠0)
 (.p ((10:Int)≠0) (.i (k.fst.tmod (10:Int)<0) (.r (0 - k.fst.tmod 10) (.r (48+(0 - k.fst.tmod 10)) (.p (rng IntKind.u8 (48+(0 - k.fst.tmod 10))) (.w (.bytes
 [UInt8.ofNat (48+(0 - k.fst.tmod 10)).toNat]) (.p ([[Cell.lit (Value.int IntKind.u8 (48+(0 - k.fst.tmod 10)))]]=[[Cell.lit (Value.int IntKind.u8 (↑(UInt8.ofNat (48+(0 -
 k.fst.tmod 10)).toNat).toNat:Int))]]) (.p (1+k.snd.length<=9223372036854775807) (.p ((10:Int)≠0) (.r (k.fst.tdiv 10) (.g [] (k.fst.tdiv 10,[UInt8.ofNat (48+(0 -
 k.fst.tmod 10)).toNat]++k.snd) [.s (li (k.fst.tdiv 10)),.s (ls (ByteArray.mk ([UInt8.ofNat (48+(0 - k.fst.tmod 10)).toNat]++k.snd).toArray))]))))))))) (.r (48+k.fst.tmod
 10) (.p (rng IntKind.u8 (48+k.fst.tmod 10)) (.w (.bytes [UInt8.ofNat (48+k.fst.tmod 10).toNat]) (.p ([[Cell.lit (Value.int IntKind.u8 (48+k.fst.tmod 10))]]=[[Cell.lit
 (Value.int IntKind.u8 (↑(UInt8.ofNat (48+k.fst.tmod 10).toNat).toNat:Int))]]) (.p (1+k.snd.length<=9223372036854775807) (.p ((10:Int)≠0) (.r (k.fst.tdiv 10) (.g []
 (k.fst.tdiv 10,[UInt8.ofNat (48+k.fst.tmod 10).toNat]++k.snd) [.s (li (k.fst.tdiv 10)),.s (ls (ByteArray.mk ([UInt8.ofNat (48+k.fst.tmod 10).toNat] ++
 k.snd).toArray))])))))))))) (.o 0 [] [.s (ls (mkS k.snd))])) (by
 intro k h; try dsimp only [Yfp,Yg0,Z5c] at h ⊢
 obtain ⟨x,o⟩:=k
 simp only at *
 have g1:=@Y1i1 x.natAbs
 have g2:(x.tdiv 10).natAbs=x.natAbs / 10:=Int.natAbs_tdiv _ _
 have g3:(x.tmod 10).natAbs=x.natAbs % 10:=Int.natAbs_tmod _ _
 have g4:=congrArg List.length h.2.1
 have g5:=Y1fr (n:=n) (by assumption)
 with_reducible repeat' (first | apply And.intro | exact zR | (intro))
 all_goals ((try simp only [std,inj] at *); with_reducible and_intros)
 all_goals try first | exact zw | grind [Y1hw,Yfy,Yfz,Yfs]
 all_goals first | (rw [Y1ef]; omega) | (rw [Y1jm (by omega)]))
theorem Z8f (n:Int) (h : -9223372036854775808<=n/\n<=9223372036854775807)  : Z1z n:=Yg4 Tryz.call250 Tryz.func250 (.i (n=0) (.s (ls (ByteArray.mk #[(48:UInt8)])))
 (.l (Z5c n) (Zdh n h) [] [.s (li n),.s (ls (ByteArray.mk #[]))] (n,[]) (.t (.i (n<0) (.p (1+(Lib.decDigits n.natAbs).length<=9223372036854775807) (.s (ls
 (ByteArray.mk ([(45:UInt8)]++Lib.decDigits n.natAbs).toArray)))) (.s (ls (mkS (Lib.decDigits n.natAbs))))) .q))) (by
 dsimp only [Yfp,Z1z,Yg0,Z5c]
 have g1:=@Y13p n
 have g2:=@Y1i4 n
 have g3:=Y1de
 have g4:=Y1fr h
 with_reducible repeat' (first | apply And.intro | exact zR | (intro))
 all_goals ((try simp only [std,inj] at *); with_reducible and_intros)
 all_goals try first | exact zw | grind [Y1nq,Yfy,Yfz,Yfs])
abbrev Z9i (s:ByteArray):Ct:=⟨236,[],[ls s],[],.tup [li (Yo0 s),lb (Ymn s)]⟩
def Z27 (s:ByteArray):Lp (Nat × Int):=.mk 55 0 (fun x=>[(0,ls s),(4,hs x 0),(5,hs x 2),(6,hs x 1)]) (fun x=>[]) (fun k=>[.s (li (↑(atN s):Int)),.s (li
 (k.fst:Int)),.s (li k.snd)]) (fun k=>atN s<=k.fst/\k.fst<=s.size/\Yr8 s k.fst=some k.snd.toNat/\0<=k.snd/\s.size<=atN s+9/\atN s<s.size) (fun k=>s.size -
 k.fst) [.mk (Yue s=true) (.exit 0) (fun x=>[(0,ls s),(4,hs x 0),(5,hs x 1)]) (fun x=>[]) [.s (li (↑(atN s):Int)),.s (li (↑(magN s):Int))],.mk (Yue s=false /\
 s.size<=atN s+9/\atN s<s.size) .ret (fun x=>[(2,hs x 0),(3,hs x 1)]) (fun x=>[]) [.s (li 0),.s (lb false)]]
theorem Z6b (s:ByteArray):Lp.Sem Tryz.prog (Yg6 Tryz.f236 0) (Z27 s):=Ygf (fun k=>.h (s.data.toList.length<=9223372036854775807) (.i ((k.fst:Int) <
 (s.data.toList.length:Int)) (.p (0<=(k.fst:Int)/\(k.fst:Int).toNat<s.data.toList.length) (.c [.rd] (Z4r (↑(s.data.toList.getD (k.fst:Int).toNat (0 :
 UInt8)).toNat:Int)) (.b (!Yk6 (↑(s.data.toList.getD (k.fst:Int).toNat (0:UInt8)).toNat:Int)) (.o 1 [] [.s (li 0),.s (lb false)]) (.r (10 * k.snd) (.p (0<=(↑k.fst :
 Int)/\(k.fst:Int).toNat<s.data.toList.length) (.p (rng IntKind.u8 ((↑(s.data.toList.getD (k.fst:Int).toNat (0:UInt8)).toNat:Int) - 48)) (.r ((↑(s.data.toList.getD
 (k.fst:Int).toNat (0:UInt8)).toNat:Int) - 48) (.r (10 * k.snd+((↑(s.data.toList.getD (k.fst:Int).toNat (0:UInt8)).toNat:Int) - 48)) (.r ((k.fst:Int)+1) (.g []
 (k.fst+1,10 * k.snd+((↑(s.data.toList.getD (k.fst:Int).toNat (0:UInt8)).toNat:Int) - 48)) [.s (li (↑(atN s):Int)),.s (li ((k.fst:Int)+1)),.s (li (10 * k.snd +
 ((↑(s.data.toList.getD (k.fst:Int).toNat (0:UInt8)).toNat:Int) - 48)))])))))))))) (.o 0 [] [.s (li (↑(atN s):Int)),.s (li k.snd)]))) (by
 intro k h; try dsimp only [Yfp,Yg0,Z27] at h ⊢
 obtain ⟨i,m⟩:=k
 simp only at *
 have g1:=@Y1hq s i m.toNat
 have g2:=@Y1hb s i
 have g3:=@Y1lf s m.toNat
 have g4:=@Y1d7 s i m.toNat
 with_reducible repeat' (first | apply And.intro | exact zR | (intro) | apply Z8f)
 all_goals ((try simp only [std,inj] at *); with_reducible and_intros)
 all_goals try with_reducible first | apply Z8f
 all_goals try first | exact zw | grind [Yk6,Yfy,Yfz,Yfs]
 all_goals (rw [Y1ef]; simp only [Yk6,Bool.not_eq_false',decide_eq_true_eq] at *; omega))
theorem Zf3 (s:ByteArray)  : Z9i s:=Yg4 Tryz.call236 Tryz.func236 (.h (s.data.toList.length<=9223372036854775807) (.i (0<(s.data.toList.length:Int)) (.p ((0 :
 Int)<=0/\0<s.data.toList.length) (.i ((↑(s.data.toList.getD 0 (0:UInt8)).toNat:Int)=45) (.h (s.data.toList.length<=9223372036854775807) (.i (1=(↑s.data.toList.length
 : Int)) (.y true (.f [] [] (.tup [li 0,lb false]))) (.h (s.data.toList.length<=9223372036854775807) (.r ((s.data.toList.length:Int) - 1) (.i (9<(↑s.data.toList.length :
 Int) - 1) (.f [] [] (.tup [li 0,lb false])) (.l (Z27 s) (Z6b s) [] [.s (li 1),.s (li 1),.s (li 0)] (atN s,0) (.t (.i ((↑(atN s):Int)=1) (.r (0 - (↑(magN s)
 : Int)) (.d [.rd] (Z1z (0 - (↑(magN s):Int))) (.i (Lib.itoa (0 - (↑(magN s):Int))≠s.data.toList) (.f [] [] (.tup [li 0,lb false])) (.f [] [] (.tup [li (0 - (↑(magN
 s):Int)),lb true]))))) (.d [.rd] (Z1z (↑(magN s):Int)) (.i (Lib.itoa (↑(magN s):Int)≠s.data.toList) (.f [] [] (.tup [li 0,lb false])) (.f [] [] (.tup [li
 (↑(magN s):Int),lb true]))))) (.t (.f [] [] (.tup [li 0,lb false])) .q)))))))) (.h (s.data.toList.length<=9223372036854775807) (.i (0=(s.data.toList.length:Int)) (.y
 true (.f [] [] (.tup [li 0,lb false]))) (.h (s.data.toList.length<=9223372036854775807) (.r ((s.data.toList.length:Int) - 0) (.i (9<(s.data.toList.length:Int) - 0) (.f
 [] [] (.tup [li 0,lb false])) (.l (Z27 s) (Z6b s) [] [.s (li 0),.s (li 0),.s (li 0)] (atN s,0) (.t (.i ((↑(atN s):Int)=1) (.r (0 - (↑(magN s):Int)) (.d
 [.rd] (Z1z (0 - (↑(magN s):Int))) (.i (Lib.itoa (0 - (↑(magN s):Int))≠s.data.toList) (.f [] [] (.tup [li 0,lb false])) (.f [] [] (.tup [li (0 - (↑(magN s):Int)),
 lb true]))))) (.d [.rd] (Z1z (↑(magN s):Int)) (.i (Lib.itoa (↑(magN s):Int)≠s.data.toList) (.f [] [] (.tup [li 0,lb false])) (.f [] [] (.tup [li (↑(magN s):Int),
 lb true]))))) (.t (.f [] [] (.tup [li 0,lb false])) .q)))))))))) (.y false (.h (s.data.toList.length<=9223372036854775807) (.i (0=(s.data.toList.length:Int)) (.y true (.f
 [] [] (.tup [li 0,lb false]))) (.h (s.data.toList.length<=9223372036854775807) (.r ((s.data.toList.length:Int) - 0) (.i (9<(s.data.toList.length:Int) - 0) (.f [] []
 (.tup [li 0,lb false])) (.l (Z27 s) (Z6b s) [] [.s (li 0),.s (li 0),.s (li 0)] (atN s,0) (.t (.i ((↑(atN s):Int)=1) (.r (0 - (↑(magN s):Int)) (.d [.rd]
 (Z1z (0 - (↑(magN s):Int))) (.i (Lib.itoa (0 - (↑(magN s):Int))≠s.data.toList) (.f [] [] (.tup [li 0,lb false])) (.f [] [] (.tup [li (0 - (↑(magN s):Int)),lb
 true]))))) (.d [.rd] (Z1z (↑(magN s):Int)) (.i (Lib.itoa (↑(magN s):Int)≠s.data.toList) (.f [] [] (.tup [li 0,lb false])) (.f [] [] (.tup [li (↑(magN s):Int),lb
 true]))))) (.t (.f [] [] (.tup [li 0,lb false])) .q))))))))))) (by
 dsimp only [Yfp,Z9i,Yg0,Z27]
 have g1:=Y1h5 s
 have g2:=@Y1es s
 have g3:=@Y1ha s
 have g4:atN s=0 ∨ atN s=1:=by have:=Y1q5 s; omega
 with_reducible repeat' (first | apply And.intro | exact zR | (intro) | apply Z8f)
 all_goals ((try simp only [std,inj] at *); with_reducible and_intros)
 all_goals try with_reducible first | apply Z8f
 all_goals try first | exact zw | grind [Ymn,Y1ii,Yo0,sgN,atN,Yfy,Yfz,Yfs])
set_option maxHeartbeats 4000000
abbrev Z8g (n:Int):Ct:=⟨202,[],[lu n],[],.sv (lb (Yju n))⟩
theorem Zas (n:Int)  : Z8g n:=Yg4 Tryz.call202 Tryz.func202 (.i (n=32) (.y true (.s (lb true))) (.i (n=10) (.s (lb true)) (.s (lb (decide (n=9)))))) (by
 dsimp only [Yfp,Z8g]
 with_reducible repeat' (first | apply And.intro | exact zR | (intro))
 all_goals ((try simp only [std,inj] at *); with_reducible and_intros)
 all_goals try first | exact z | grind [Yju,Yfy,Yfz,Yfs])
abbrev Z9j (n:Int):Ct:=⟨235,[],[lu n],[],.sv (lb (Ytq n))⟩
theorem Zf4 (n:Int)  : Z9j n:=Yg4 Tryz.call235 Tryz.func235 (.i (n=40) (.y true (.y true (.y true (.s (lb true))))) (.i (n=41) (.y true (.y true (.s (lb true))))
 (.i (n=34) (.y true (.s (lb true))) (.i (n=59) (.s (lb true)) (.s (lb (decide (n=39)))))))) (by
 dsimp only [Yfp,Z9j]
 with_reducible repeat' (first | apply And.intro | exact zR | (intro))
 all_goals ((try simp only [std,inj] at *); with_reducible and_intros)
 all_goals try first | exact z | grind [Ytq,Yfy,Yfz,Yfs])
theorem Y1q4 {s:ByteArray} {a:Nat} (h:a<s.size) (hp:Yju (byt s a)=true):sk s (a+1)=sk s a:=Y15a Yju h hp
theorem Y18h {s:ByteArray} {a:Nat} (h:a<=s.size) (hp:a<s.size->Yju (byt s a)=false):sk s a=a:=Yxm Yju h hp
theorem Y1mb {s:ByteArray} {a k:Nat} (h:k<s.size) (hk:sk s k=sk s a) (hb:byt s k=59):noc s a=false:=by
 have h1:sk s k=k:=Y18h (by omega) fun _=>by rw [hb]; decide
 rw [hk] at h1
 unfold noc; rw [h1,hb]; simp [h]
abbrev Z20 (s:ByteArray) (a:Nat) (b:Bool):Ct:=⟨159,[.box [vS s,vI (a:Nat),vB b]],[.one (.ptr 0 0)],[.box [vS s,vI (sk s a:Nat),vB b]],.tup []⟩
def Z3d (s:ByteArray) (a:Nat) (b:Bool) (k:Nat):Lp Nat:=.mk 82 1 (fun x=>[(0,.one (.ptr 0 0))]) (fun x=>[.box [vS s,ha x 0,vB b]]) (fun k1=>[.a (vI
 (↑(k+k1):Int))]) (fun k1=>k<k/\k1<=s.size) (fun k1=>s.size - k1) [.mk True (.exit 2) (fun x=>[(0,.one (.ptr 0 0))]) (fun x=>[.box [vS s,ha x 0,vB b]]) [.a
 (vI (k:Int))]]
def Z4c (s:ByteArray) (a:Nat) (b:Bool):Lp Nat:=.mk 82 1 (fun x=>[(0,.one (.ptr 0 0))]) (fun x=>[.box [vS s,ha x 0,vB b]]) (fun k=>[.a (vI (↑k :
 Int))]) (fun k=>a<=k/\k<=s.size/\sk s k=sk s a/\noc s a=true) (fun k=>s.size - k) [.mk True (.exit 0) (fun x=>[]) (fun x=>[.box [vS s,ha x 0,vB b]]) [.a (vI
 (↑(sk s a):Int))]]
theorem Z8h (s:ByteArray) (a:Nat) (b:Bool) (h:a<=s.size/\noc s a=true) (k:Nat):Lp.Sem Tryz.prog (Yg6 Tryz.f159 1) (Z3d s a b k):=Ygf (fun k1=>
 .w (.draw []) (.i ((↑(k+k1):Int)<(s.data.toList.length:Int)) (.p (0<=(↑(k+k1):Int)/\(↑(k+k1):Int).toNat<s.data.toList.length) (.h (s.data.toList.length <=
 9223372036854775807) (.i ((↑(s.data.toList.getD (↑(k+k1):Int).toNat (0:UInt8)).toNat:Int)≠10) (.r ((↑(k+k1):Int)+1) (.g [0] 1 [.a (vI ((↑(k+k1):Int)+1))]))
 (.o 0 [0] [.a (vI (↑(k+k1):Int))])))) (.h (s.data.toList.length<=9223372036854775807) (.y false (.o 0 [0] [.a (vI (↑(k+k1):Int))]))))) (by
 intro k1 h; try dsimp only [Yfp,Yg0,Z3d] at h ⊢
 exact zV)
theorem Zcf (s:ByteArray) (a:Nat) (b:Bool) (h:a<=s.size/\noc s a=true):Lp.Sem Tryz.prog (Yg6 Tryz.f159 0) (Z4c s a b):=Ygf (fun k=>.w (.draw [])
 (.i ((k:Int)<(s.data.toList.length:Int)) (.p (0<=(k:Int)/\(k:Int).toNat<s.data.toList.length) (.c [.rd] (Zas (↑(s.data.toList.getD (k:Int).toNat (0 :
 UInt8)).toNat:Int)) (.b (Yju (↑(s.data.toList.getD (k:Int).toNat (0:UInt8)).toNat:Int)) (.h (s.data.toList.length<=9223372036854775807) (.y true (.w (.draw []) (.p (0 <=
 (k:Int)/\(k:Int).toNat<s.data.toList.length) (.i ((↑(s.data.toList.getD (k:Int).toNat (0:UInt8)).toNat:Int)=59) (.l (Z3d s a b k) (Z8h s a b h k)
 [0] [.a (vI (k:Int))] 0 (.t (.g [0] k [.a (vI (k:Int))]) .q)) (.r ((k:Int)+1) (.g [0] (k+1) [.a (vI ((k:Int)+1))]))))))) (.p (0<=(k:Int)/\(k:Int).toNat <
 s.data.toList.length) (.h (s.data.toList.length<=9223372036854775807) (.i ((↑(s.data.toList.getD (k:Int).toNat (0:UInt8)).toNat:Int)=59) (.w (.draw []) (.p (0<=(↑k :
 Int)/\(k:Int).toNat<s.data.toList.length) (.i ((↑(s.data.toList.getD (k:Int).toNat (0:UInt8)).toNat:Int)=59) (.l (Z3d s a b k) (Z8h s a b h k) [0] [.a
 (vI (k:Int))] 0 (.t (.g [0] k [.a (vI (k:Int))]) .q)) (.r ((k:Int)+1) (.g [0] (k+1) [.a (vI ((k:Int)+1))]))))) (.o 0 [0] [.a (vI (k:Int))]))))))) (.h
 (s.data.toList.length<=9223372036854775807) (.y false (.o 0 [0] [.a (vI (k:Int))]))))) (by
 intro k h; try dsimp only [Yfp,Yg0,Z4c,Z3d] at h ⊢
 have g1:=@Y1q4 s k
 have g2:=@Y18h s k
 have g3:=@Y1mb s a k
 with_reducible repeat' (first | apply And.intro | exact zR | (intro))
 all_goals ((try simp only [std,inj] at *); with_reducible and_intros)
 all_goals try first | exact z | grind [byt,Yfy,Yfz,Yfs])
theorem Zz (s:ByteArray) (a:Nat) (b:Bool) (h:a<=s.size/\noc s a=true)  : Z20 s a b:=Yg4 Tryz.call159 Tryz.func159 (.l (Z4c s a b) (Zcf s a b
 h) [0] [.a (vI (a:Int))] a (.t (.f [] [.box [vS s,vI (↑(sk s a):Int),vB b]] (.tup [])) .q)) (by
 dsimp only [Yfp,Z20,Yg0,Z4c]
 exact zV)
abbrev Y1b3:AC:=.val (.lit (.slice none 0 0))
theorem Y1lw {t:ByteArray} {d:Datum} (h:Yk1 t=some d) (h1:Ymn t=true):d=⟨2,Yo0 t,mkS [],[]⟩:=by
 unfold Yk1 at h; rw [if_pos h1] at h; exact (Option.some.inj h).symm
theorem Y1qc {t:ByteArray} {d:Datum} (h:Yk1 t=some d) (h1:Ymn t=false) (h2:tx t=[35,116]):d=⟨3,1,mkS [],[]⟩:=by
 unfold Yk1 at h; rw [if_neg (by simp [h1]),if_pos h2] at h; exact (Option.some.inj h).symm
theorem Y1ph {t:ByteArray} {d:Datum} (h:Yk1 t=some d) (h1:Ymn t=false) (h2:tx t≠[35,116]) (h3:tx t=[35,102]):d=⟨3,0,mkS [],[]⟩:=by
 unfold Yk1 at h; rw [if_neg (by simp [h1]),if_neg h2,if_pos h3] at h; exact (Option.some.inj h).symm
theorem Y1po {t:ByteArray} {d:Datum} (h:Yk1 t=some d) (h1:Ymn t=false) (h2:tx t≠[35,116]) (h3:tx t≠[35,102]):Yim t=true/\d=⟨1,0,t,[]⟩:=by
 unfold Yk1 at h; rw [if_neg (by simp [h1]),if_neg h2,if_neg h3] at h
 split at h
 ·rename_i e; exact ⟨e,(Option.some.inj h).symm⟩
 ·cases h
abbrev Z6t (n:Int):Ct:=⟨209,[],[li n],[],.sv (.agg [vI 2,vI n,vS (mkS []),Y1b3])⟩
theorem Z7a (n:Int) (h : -999999999<=n/\n<=999999999)  : Z6t n:=Yg4 Tryz.call209 Tryz.func209 (.c [.rd,.rd,.rd] (Z1i n (-999999999:Int) 999999999) (.b
 (!decide ((-999999999:Int)<=n/\n<=999999999)) (.s (.agg [vI 0,vI 0,vS (ByteArray.mk #[]),.val (.lit (.slice none 0 0))])) (.s (.agg [vI 2,vI n,vS
 (ByteArray.mk #[]),.val (.lit (.slice none 0 0))])))) (by
 dsimp only [Yfp,Z6t]
 exact zV)
abbrev Z9k (b:Bool):Ct:=⟨210,[],[lb b],[],.sv (.agg [vI 3,vI (if b=true then 1 else 0),vS (mkS []),Y1b3])⟩
theorem Zc2 (b:Bool)  : Z9k b:=Yg4 Tryz.call210 Tryz.func210 (.b b (.s (.agg [vI 3,vI 1,vS (ByteArray.mk #[]),.val (.lit (.slice none 0 0))])) (.s
 (.agg [vI 3,vI 0,vS (ByteArray.mk #[]),.val (.lit (.slice none 0 0))]))) (by
 dsimp only [Yfp,Z9k]
 exact zV)
abbrev Z6c (s:ByteArray):Ct:=⟨203,[],[ls s],[],.sv (.agg [vI 1,vI 0,vS s,Y1b3])⟩
theorem Z21 (s:ByteArray) (h:Yim s=true)  : Z6c s:=Yg4 Tryz.call203 Tryz.func203 (.c [.rd] (Zh s) (.b (!Yim s) (.s (.agg [vI 0,vI 0,vS (ByteArray.mk
 #[]),.val (.lit (.slice none 0 0))])) (.s (.agg [vI 1,vI 0,vS s,.val (.lit (.slice none 0 0))])))) (by
 dsimp only [Yfp,Z6c]
 exact zV)
abbrev Z7t (s:ByteArray):Ct:=⟨205,[],[ls s],[],.sv (.agg [vI 4,vI 0,vS s,Y1b3])⟩
theorem Z4x (s:ByteArray) (h:Yjr s=true)  : Z7t s:=Yg4 Tryz.call205 Tryz.func205 (.c [.rd] (Z50 s) (.b (!Yjr s) (.s (.agg [vI 0,vI 0,vS (ByteArray.mk
 #[]),.val (.lit (.slice none 0 0))])) (.s (.agg [vI 4,vI 0,vS s,.val (.lit (.slice none 0 0))])))) (by
 dsimp only [Yfp,Z7t]
 exact zV)
def atR (d:Datum) (a:Nat):Nat:=a
theorem Y1lo {s:ByteArray} {a:Nat} (h:a<s.size) (h1:Yju (byt s a)=false) (h2:Ytq (byt s a)=false):pst isRu s (a+1)=pst isRu s a:=Y15a isRu h (by show (!Yju (byt s a) && !Ytq (byt s a))=true; rw [h1,h2]; rfl)
theorem Y1fs {s:ByteArray} {a:Nat} (h:a<=s.size) (hp:a<s.size->Yju (byt s a)=true ∨ Ytq (byt s a)=true):pst isRu s a=a:=Yxm isRu h fun e=>by
 have:=hp e
 show (!Yju (byt s a) && !Ytq (byt s a))=false
 rcases this with e | e <;> rw [e] <;> simp
theorem Y1jt {s:ByteArray} {a:Nat} (h:a<s.size) (h1:byt s a≠34):pst noQ s (a+1)=pst noQ s a:=Y15a noQ h (by show (!decide (byt s a=34))=true; simp [h1])
theorem Y1dx {s:ByteArray} {a:Nat} (h:a<=s.size) (hp:a<s.size->byt s a=34):pst noQ s a=a:=Yxm noQ h fun e=>by show (!decide (byt s a=34))=false; simp [hp e]
def atG (t:ByteArray):Datum:=(Yk1 t).getD default
abbrev Z6u (s:ByteArray) (a:Nat):Ct:=⟨206,[.box [vS s,vI (a:Nat),vB false]],[.one (.ptr 0 0)],.box [vS s,vI (pst isRu s a:Nat),vB false] :: Y169 (atG (sbs s a (pst isRu s a))),.sv (Yua (atG (sbs s a (pst isRu s a))) 1)⟩
def Z4d (s:ByteArray) (a:Nat):Lp Nat:=.mk 92 1 (fun x=>[(0,.one (.ptr 0 0)),(2,.one (.ptr 1 0)),(3,li (a:Int))]) (fun x=>[.box [vS s,ha x 0,
 vB false],.box [vI 0,vI 0,vS (ByteArray.mk #[]),.val (.lit (.slice none 0 0))]]) (fun k=>[.a (vI (k:Int))]) (fun k=>a<=k/\k<=s.size/\pst isRu s k=pst
 isRu s a) (fun k=>s.size - k) [.mk True (.exit 0) (fun x=>[(0,.one (.ptr 0 0)),(2,.one (.ptr 1 0)),(3,li (a:Int))]) (fun x=>[.box [vS s,ha x 0,vB false],
 .box [vI 0,vI 0,vS (ByteArray.mk #[]),.val (.lit (.slice none 0 0))]]) [.a (vI (↑(pst isRu s a):Int))]]
theorem Zcg (s:ByteArray) (a:Nat) (h:a<=s.size/\s.size<=15000/\(Yk1 (sbs s a (pst isRu s a))).isSome=true):Lp.Sem Tryz.prog (Yg6 Tryz.f206 0) (Z4d
 s a):=Ygf (fun k=>.w (.draw []) (.i ((k:Int)<(s.data.toList.length:Int)) (.p (0<=(k:Int)/\(k:Int).toNat<s.data.toList.length) (.c [.rd] (Zas
 (↑(s.data.toList.getD (k:Int).toNat (0:UInt8)).toNat:Int)) (.b (!Yju (↑(s.data.toList.getD (k:Int).toNat (0:UInt8)).toNat:Int)) (.p (0<=(k:Int)/\(↑k :
 Int).toNat<s.data.toList.length) (.c [.rd] (Zf4 (↑(s.data.toList.getD (k:Int).toNat (0:UInt8)).toNat:Int)) (.h (s.data.toList.length<=9223372036854775807) (.b (!Ytq
 (↑(s.data.toList.getD (k:Int).toNat (0:UInt8)).toNat:Int)) (.r ((k:Int)+1) (.g [0,1] (k+1) [.a (vI ((k:Int)+1))])) (.o 0 [0,1] [.a (vI (k:Int))]))))) (.h
 (s.data.toList.length<=9223372036854775807) (.y false (.o 0 [0,1] [.a (vI (k:Int))])))))) (.y false (.h (s.data.toList.length<=9223372036854775807) (.y false (.o 0 [0,1]
 [.a (vI (k:Int))])))))) (by
 intro k h; try dsimp only [Yfp,Yg0,Z4d] at h ⊢
 have g1:=@Y1lo s k
 have g2:=@Y1fs s k
 with_reducible repeat' (first | apply And.intro | exact zR | (intro) | apply Z7a | apply Z21)
 all_goals ((try simp only [std,inj] at *); with_reducible and_intros)
 all_goals try with_reducible first | apply Z7a | apply Z21
 all_goals try first | exact z | grind [byt,Yfy,Yfz,Yfs])
theorem Z3k (s:ByteArray) (a:Nat) (h:a<=s.size/\s.size<=15000/\(Yk1 (sbs s a (pst isRu s a))).isSome=true)  : Z6u s a:=Yg4 Tryz.call206 Tryz.func206 (.l
 (Z4d s a) (Zcg s a h) [0,1] [.a (vI (a:Int))] a (.t (.w (.draw []) (.p (0<=(a:Int)) (.p (0<=(↑(pst isRu s a):Int)) (.p ((a:Int).toNat<=(↑(pst isRu s
 a):Int).toNat/\(↑(pst isRu s a):Int).toNat<=s.data.toList.length) (.c [.rd] (Zf3 (ByteArray.mk (List.take ((↑(pst isRu s a):Int).toNat - (a:Int).toNat) (List.drop
 (a:Int).toNat s.data.toList)).toArray)) (.b (Ymn (ByteArray.mk (List.take ((↑(pst isRu s a):Int).toNat - (a:Int).toNat) (List.drop (a:Int).toNat
 s.data.toList)).toArray)) (.d [.rd] (Z6t (Yo0 (ByteArray.mk (List.take ((↑(pst isRu s a):Int).toNat - (a:Int).toNat) (List.drop (a:Int).toNat
 s.data.toList)).toArray))) (.w (.ghost (.nilbox 1 3 true 4)) (.f [2] [.box [vS s,vI (↑(pst isRu s a):Int),vB false],.arr true 4 []] (.sv (.agg [vI 2,vI (Yo0
 (ByteArray.mk (List.take ((↑(pst isRu s a):Int).toNat - (a:Int).toNat) (List.drop (a:Int).toNat s.data.toList)).toArray)),vS (mkS []),.ref 1]))))) (.i (List.take
 ((↑(pst isRu s a):Int).toNat - (a:Int).toNat) (List.drop (a:Int).toNat s.data.toList)=[(35:UInt8),(116:UInt8)]) (.y true (.c [.rd] (Zc2 (decide (List.take
 ((↑(pst isRu s a):Int).toNat - (a:Int).toNat) (List.drop (a:Int).toNat s.data.toList)=[(35:UInt8),(116:UInt8)]))) (.w (.ghost (.nilbox 1 3 true 4)) (.f [2] [.box
 [vS s,vI (↑(pst isRu s a):Int),vB false],.arr true 4 []] (.sv (.agg [vI 3,vI (if decide (List.take ((↑(pst isRu s a):Int).toNat - (a:Int).toNat) (List.drop (↑a :
 Int).toNat s.data.toList)=[(35:UInt8),(116:UInt8)])=true then 1 else 0),vS (mkS []),.ref 1])))))) (.i (List.take ((↑(pst isRu s a):Int).toNat - (a:Int).toNat)
 (List.drop (a:Int).toNat s.data.toList)=[(35:UInt8),(102:UInt8)]) (.c [.rd] (Zc2 (decide (List.take ((↑(pst isRu s a):Int).toNat - (a:Int).toNat) (List.drop (↑a
 : Int).toNat s.data.toList)=[(35:UInt8),(116:UInt8)]))) (.w (.ghost (.nilbox 1 3 true 4)) (.f [2] [.box [vS s,vI (↑(pst isRu s a):Int),vB false],.arr true 4 []]
 (.sv (.agg [vI 3,vI (if decide (List.take ((↑(pst isRu s a):Int).toNat - (a:Int).toNat) (List.drop (a:Int).toNat s.data.toList)=[(35:UInt8),(116:UInt8)]) =
 true then 1 else 0),vS (mkS []),.ref 1]))))) (.c [.rd] (Zh (ByteArray.mk (List.take ((↑(pst isRu s a):Int).toNat - (a:Int).toNat) (List.drop (a:Int).toNat
 s.data.toList)).toArray)) (.b (Yim (ByteArray.mk (List.take ((↑(pst isRu s a):Int).toNat - (a:Int).toNat) (List.drop (a:Int).toNat s.data.toList)).toArray)) (.d [.rd]
 (Z6c (ByteArray.mk (List.take ((↑(pst isRu s a):Int).toNat - (a:Int).toNat) (List.drop (a:Int).toNat s.data.toList)).toArray)) (.w (.ghost (.nilbox 1 3 true 4)) (.f
 [2] [.box [vS s,vI (↑(pst isRu s a):Int),vB false],.arr true 4 []] (.sv (.agg [vI 1,vI 0,vS (ByteArray.mk (List.take ((↑(pst isRu s a):Int).toNat - (↑a :
 Int).toNat) (List.drop (a:Int).toNat s.data.toList)).toArray),.ref 1]))))) (.w (.ghost (.nilbox 1 3 true 4)) (.f [2] [.box [vS s,vI (↑(pst isRu s a):Int),vB true],
 .arr true 4 []] (.sv (.agg [vI 0,vI 0,vS (ByteArray.mk #[]),.ref 1])))))))))))))) .q)) (by
 dsimp only [Yfp,Z6u,Yg0,Z4d]
 have g0:Yk1 (sbs s a (pst isRu s a))=some (atG (sbs s a (pst isRu s a))):=by obtain ⟨d,e⟩:=Option.isSome_iff_exists.1 h.2.2; unfold atG; rw [e]; rfl
 have g1:=@Y1lw (sbs s a (pst isRu s a)) (atG (sbs s a (pst isRu s a))) g0
 have g2:=@Y1qc (sbs s a (pst isRu s a)) (atG (sbs s a (pst isRu s a))) g0
 have g3:=@Y1ph (sbs s a (pst isRu s a)) (atG (sbs s a (pst isRu s a))) g0
 have g4:=@Y1po (sbs s a (pst isRu s a)) (atG (sbs s a (pst isRu s a))) g0
 have g5:=@Y1cl (sbs s a (pst isRu s a))
 have g7:=@Ynj isRu s a
 have g8:=Y1n3 s a (pst isRu s a)
 have g9:=Y1n5 s a (pst isRu s a)
 with_reducible repeat' (first | apply And.intro | exact zR | (intro) | apply Z7a | apply Z21)
 all_goals ((try simp only [std,inj] at *); with_reducible and_intros)
 all_goals try with_reducible first | apply Z7a | apply Z21
 all_goals (try exact zG))
theorem Yr7:∀ L:List Datum,L.length<=sumBy sizeD L
 | []=>Nat.le_refl _
 | x :: r=>by have:=Yr7 r; have:=Ykx x; simp only [List.length_cons,sumBy]; omega
theorem Y1rc {d:Datum} {s:ByteArray} {a:Nat} (h:a<=s.size) (hd:okR d s a=true) (hb:byt s (sk s a)=40):noc s (sk s a+1)=true:=by
 have:=(rdl h hd hb (Nat.zero_le _)).2.1
 rwa [Y1n6 h hd] at this
def dfD:Datum:=default
abbrev Z8i (s:ByteArray) (n:Int):Ct:=⟨160,[.box [vS s,vI n,vB false]],[.one (.ptr 0 0)],.box [vS s,vI n,vB false] :: Y169 dfD,.sv (Yua dfD 1)⟩
theorem Z2s (s:ByteArray) (n:Int) (h:n<n):OK (Z8i s n):=absurd h (Int.lt_irrefl n)
abbrev Zp (s:ByteArray) (a:Nat) (d:Datum):Ct:=⟨160,[.box [vS s,vI (sk s (atR d a):Nat),vB false]],[.one (.ptr 0 0)],.box [vS s,vI (enR d s a:Nat),vB false] :: Y169 d,.sv (Yua d 1)⟩
def Z2h (s:ByteArray) (a:Nat) (d:Datum):Lp Nat:=.mk 228 1 (fun x=>[(0,.one (.ptr 0 0)),(2,.one (.ptr 1 0)),(4,.one (.ptr 2 0))]) (fun x=>
 [.box [vS s,ha x 0,vB false],.box [vI 0,vI 0,vS (ByteArray.mk #[]),.val (.lit (.slice none 0 0))],.box [vI 0,vI 0,vS (ByteArray.mk #[]),.ref 3],ho x
 1]) (fun k=>[.a (vI (↑(sk s (atR (d.items.getD k default) (enP (d.items.take k) s (sk s a+1)))):Int)),.o (.arr true 4 ((d.items.take k).map Yg2))]) (fun
 k=>k<=d.items.length/\d.items.length<=9223372036854775807/\a<=s.size/\s.size<=15000/\okR d s a=true/\byt s (sk s a)=40/\sizeD d<=600) (fun k=>d.items.length -
 k) [.mk True (.exit 3) (fun x=>[(0,.one (.ptr 0 0)),(2,.one (.ptr 1 0)),(4,.one (.ptr 2 0))]) (fun x=>[.box [vS s,ha x 0,vB false],.box [vI 0,vI 0,vS
 (ByteArray.mk #[]),.val (.lit (.slice none 0 0))],.box [vI 0,vI 0,vS (ByteArray.mk #[]),.ref 3],ho x 1]) [.a (vI (↑(sk s (enP d.items s (sk s a+1))) :
 Int)),.o (.arr true 4 (d.items.map Yg2))]]
def Z2i (s:ByteArray) (a:Nat) (d:Datum):Lp Nat:=.mk 228 1 (fun x=>[(0,.one (.ptr 0 0)),(2,.one (.ptr 1 0)),(3,hs x 1)]) (fun x=>[.box [vS s,
 ha x 0,vB false],.box [vI 0,vI 0,vS (ByteArray.mk #[]),.val (.lit (.slice none 0 0))]]) (fun k=>[.a (vI (k:Int)),.s (li (↑(sk s a+1):Int))]) (fun k=>
 sk s a+1<=k/\k<=s.size/\pst noQ s k=pst noQ s (sk s a+1)) (fun k=>s.size - k) [.mk True (.exit 1) (fun x=>[(0,.one (.ptr 0 0)),(2,.one (.ptr 1 0)),(3,hs
 x 1)]) (fun x=>[.box [vS s,ha x 0,vB false],.box [vI 0,vI 0,vS (ByteArray.mk #[]),.val (.lit (.slice none 0 0))]]) [.a (vI (↑(pst noQ s (sk s a+1)) :
 Int)),.s (li (↑(sk s a+1):Int))]]
theorem Z9r (s:ByteArray) (a:Nat) (d:Datum) (h:a<=s.size/\s.size<=15000/\okR d s a=true/\sizeD d<=600) (ih:∀ (z:Datum),z∈d.items->∀ (s :
 ByteArray) (a:Nat),a<=s.size/\s.size<=15000/\okR z s a=true/\sizeD z<=600->OK (Zp s a z)):Lp.Sem Tryz.prog (Yg6 Tryz.f160 1) (Z2h s a d):=Ygf
 (fun k=>.w (.draw []) (.y true (.i ((↑(sk s (atR (d.items.getD k default) (enP (d.items.take k) s (sk s a+1)))):Int)<(s.data.toList.length:Int)) (.p (0<=(↑(sk s
 (atR (d.items.getD k default) (enP (d.items.take k) s (sk s a+1)))):Int)/\(↑(sk s (atR (d.items.getD k default) (enP (d.items.take k) s (sk s a+1)))):Int).toNat
 < s.data.toList.length) (.h (s.data.toList.length<=9223372036854775807) (.i ((↑(s.data.toList.getD (↑(sk s (atR (d.items.getD k default) (enP (d.items.take k) s (sk s a +
 1)))):Int).toNat (0:UInt8)).toNat:Int)≠41) (.w (.draw [(3,[0]),(4,[7]),(5,[3,14]),(7,[2])]) (.d [.ptr] (Zp s (enP (d.items.take k) s (sk s a+1))
 (d.items.getD k default)) (.p ((((d.items.take k).map Yg2).length+1) * 56<=140737488355328) (.d [.ptr] (Z20 s (enR (d.items.getD k default) s (enP (List.take
 k d.items) s (sk s a+1))) false) (.g [0,1,2,15] (k+1) [.a (vI (↑(sk s (enR (d.items.getD k default) s (enP (d.items.take k) s (sk s a+1)))):Int)),.o (.arr true
 4 ((d.items.take k).map Yg2++[Yh9 (d.items.getD k default)]))]))))) (.o 0 [0,1,2,3] [.a (vI (↑(sk s (atR (d.items.getD k default) (enP (d.items.take k) s
 (sk s a+1)))):Int)),.o (.arr true 4 ((d.items.take k).map Yg2))])))) (.h (s.data.toList.length<=9223372036854775807) (.y false (.o 0 [0,1,2,3] [.a (vI
 (↑(sk s (atR (d.items.getD k default) (enP (d.items.take k) s (sk s a+1)))):Int)),.o (.arr true 4 ((d.items.take k).map Yg2))])))))) (by
 intro k h; try dsimp only [Yfp,Yg0,Z2h] at h ⊢
 have hq:=h
 obtain ⟨q1,q2,q3,q4,q5,q6,q7⟩:=hq
 have g7:=Ykx d
 have g8:=Yr7 d.items
 have g9:=@Ygt _ sizeD d.items (d.items.getD k default)
 have g4:=@rdl d s a q3 q5 q6 k q1
 have g5:k<d.items.length->_:=fun hk=>@rdl d s a q3 q5 q6 (k+1) hk
 with_reducible repeat' (first | apply And.intro | exact zR | exact ih | (intro) | apply Zz | apply Z3k | apply Z4x | apply Z21 | apply Z2s | apply ih)
 all_goals ((try simp only [std,inj] at *); with_reducible and_intros)
 all_goals try first | with_reducible (first | apply Zz | apply Z3k | apply Z4x | apply Z21 | apply Z2s | apply ih) | (simp only [<- List.map_append]; with_reducible first | apply Zz | apply Z3k | apply Z4x | apply Z21 | apply Z2s | apply ih)
 all_goals try first | exact z | grind [byt,atR,Ygg,Yfx,Yfy,Yfz,Yfs])
theorem Z9s (s:ByteArray) (a:Nat) (d:Datum) (h:a<=s.size/\s.size<=15000/\okR d s a=true/\sizeD d<=600) (ih:∀ (z:Datum),z∈d.items->∀ (s :
 ByteArray) (a:Nat),a<=s.size/\s.size<=15000/\okR z s a=true/\sizeD z<=600->OK (Zp s a z)):Lp.Sem Tryz.prog (Yg6 Tryz.f160 0) (Z2i s a d):=Ygf
 (fun k=>.w (.draw []) (.i ((k:Int)<(s.data.toList.length:Int)) (.p (0<=(k:Int)/\(k:Int).toNat<s.data.toList.length) (.h (s.data.toList.length <=
 9223372036854775807) (.i ((↑(s.data.toList.getD (k:Int).toNat (0:UInt8)).toNat:Int)≠34) (.r ((k:Int)+1) (.g [0,1] (k+1) [.a (vI ((k:Int)+1)),.s (li (↑(sk s
 a+1):Int))])) (.o 0 [0,1] [.a (vI (k:Int)),.s (li (↑(sk s a+1):Int))])))) (.h (s.data.toList.length<=9223372036854775807) (.y false (.o 0 [0,1] [.a (vI (k:Int)),
 .s (li (↑(sk s a+1):Int))]))))) (by
 intro k h; try dsimp only [Yfp,Yg0,Z2i] at h ⊢
 have g1:=@Y1jt s k
 have g2:=@Y1dx s k
 with_reducible repeat' (first | apply And.intro | exact zR | exact ih | (intro) | apply Zz | apply Z3k | apply Z4x | apply Z21 | apply Z2s)
 all_goals ((try simp only [std,inj] at *); with_reducible and_intros)
 all_goals try with_reducible first | apply Zz | apply Z3k | apply Z4x | apply Z21 | apply Z2s | apply ih
 all_goals try first | exact z | grind [byt,Yfy,Yfz,Yfs])
theorem Zch (s:ByteArray) (a:Nat) (d:Datum) (h:a<=s.size/\s.size<=15000/\okR d s a=true/\sizeD d<=600) (ih:∀ z∈d.items,∀ (s:ByteArray) (a:Nat) (h :
 a<=s.size/\s.size<=15000/\okR z s a=true/\sizeD z<=600),Zp s a z)  : Zp s a d:=Yg4 Tryz.call160 Tryz.func160 (let v1:=(↑(pst noQ s (sk s a+1)) :
 Int); let v12:=(sk s (atR d a)); let v2:=(↑(sk s v12):Int); let v3:=(.sv (.agg [vI 0,vI 0,vS (ByteArray.mk #[]),.ref 1])); let v4:=(↑(sk s a+1):Int); let v5
 := (atG (sbs s (sk s v12) (pst isRu s (sk s v12)))); let v6:=(s.data.toList.length<=9223372036854775807); let v7:=(↑(s.data.toList.getD v2.toNat (0:UInt8)).toNat:Int);
 let v8:=(ByteArray.mk (List.take ((v1+1 - 1).toNat - v4.toNat) (List.drop v4.toNat s.data.toList)).toArray); let v9:=(↑(sk s (enP d.items s (sk s a+1))):Int); let v10:=
 (ByteArray.mk (List.take (v1.toNat - v4.toNat) (List.drop v4.toNat s.data.toList)).toArray); let v11:=(ByteArray.mk #[(113:UInt8),(117:UInt8),(111:UInt8),(116:UInt8),
 (101:UInt8)]); .d [.ptr] (Z20 s v12 false) (.w (.draw []) (.y false (.i ((s.data.toList.length:Int)<=v2) (.h v6 (.y true (.w (.ghost (.nilbox 1 3 true 4)) (.f [2]
 [.box [vS s,vI v2,vB true],.arr true 4 []] v3)))) (.p (0<=v2/\v2.toNat<s.data.toList.length) (.h v6 (.i (v7=41) (.w (.ghost (.nilbox 1 3 true 4)) (.f [2] [.box [vS
 s,vI v2,vB true],.arr true 4 []] v3)) (.w (.draw []) (.p (0<=v2/\v2.toNat<s.data.toList.length) (.i (v7=39) (.r (v2+1) (.d [.rd] (Z6c v11) (.d [.ptr] (Z8i
 s (v2+1)) (.f [4] [.box [vS s,vI (v2+1),vB false],.arr true 4 [[cI 1,cI 0,cS v11,.list []],[cI dfD.kind,cI dfD.number,cS dfD.text,.list []]]] v3)))) (.i
 (v7=34) (.r (v2+1) (.l (Z2i s a d) (Z9s s a d h ih) [0,1] [.a (vI (v2+1)),.s (li (v2+1))] (sk s a+1) (.t (.w (.draw []) (.i ((↑s.data.toList.length
 : Int)<=v1) (.h v6 (.y true (.w (.ghost (.nilbox 1 3 true 4)) (.f [2] [.box [vS s,vI v1,vB true],.arr true 4 []] v3)))) (.p (0<=v4) (.p (0<=v1) (.p (v4.toNat<=v1.toNat
 /\ v1.toNat<=s.data.toList.length) (.c [.rd] (Z50 v10) (.h v6 (.b (!Yjr v10) (.w (.ghost (.nilbox 1 3 true 4)) (.f [2] [.box [vS s,vI v1,vB true],.arr true 4 []]
 v3)) (.r (v1+1) (.w (.draw [(12,[1])]) (.r (v1+1 - 1) (.p (0<=v4) (.p (0<=v1+1 - 1) (.p (v4.toNat<=(v1+1 - 1).toNat/\(v1+1 - 1).toNat<=s.data.toList.length) (.d
 [.rd] (Z7t v8) (.w (.ghost (.nilbox 1 3 true 4)) (.f [2] [.box [vS s,vI (v1+1),vB false],.arr true 4 []] (.sv (.agg [vI 4,vI 0,vS v8,.ref
 1]))))))))))))))))))) .q))) (.i (v7=40) (.r (v2+1) (.d [.ptr] (Z20 s (sk s v12+1) false) (.w (.ghost (.nilbox 2 3 true 4)) (.l (Z2h s a d) (Z9r s a
 d h ih) [0,1,2,3] [.a (vI (↑(sk s (sk s v12+1)):Int)),.o (.arr true 4 [])] 0 (.t (.w (.draw [(19,[0])]) (.y false (.h v6 (.r (v9+1) (.f [3] [.box [vS s,vI (v9 +
 1),vB (decide ((s.data.toList.length:Int)<=v9))],.arr true 4 (d.items.map Yg2)] v3))))) .q))))) (.d [.ptr] (Z6u s (sk s v12)) (.f [3] [.box [vS s,vI
 (↑(pst isRu s (sk s v12)):Int),vB false],.arr true 4 (v5.items.map Yg2)] (.sv (.agg [vI v5.kind,vI v5.number,vS v5.text,.ref 1])))))))))))))))) (by
 dsimp only [Yfp,Zp,Yg0,Z2i,Z2h]
 have g1:=@Y1q0 d s a
 have g2:=@Y1l5 d s a
 have g3:=@Y1m6 d s a
 have g4:=@Y1mi d s a
 have g5:=@Y1n6 d s a
 have g6:=@Y1jb s a
 have e0:sk s (atR d a)=sk s a:=rfl
 have g9:=@Y1rc d s a
 have g17:Yk1 (sbs s (sk s a) (pst isRu s (sk s a)))=some d->atG (sbs s (sk s a) (pst isRu s (sk s a)))=d:=fun q=>by unfold atG; rw [q]; rfl
 have g10:enR d s a<=s.size:=(Y1nz h.1 h.2.2.1).2.2
 have g11:d.items.length<=600:=by have:=Ykx d; have:=Yr7 d.items; have:=h.2.2.2; omega
 have e1:sk s (sk s (atR d a))=sk s a:=Y105 h.1
 have g7:sk s a+1<=s.size->sk s a+1<=pst noQ s (sk s a+1)/\pst noQ s (sk s a+1)<=s.size:=fun q=>(Ynj noQ q).2
 have g8:sk s a<=s.size->sk s a<=pst isRu s (sk s a)/\pst isRu s (sk s a)<=s.size:=fun q=>(Ynj isRu q).2
 with_reducible repeat' (first | apply And.intro | exact zR | exact ih | (intro) | apply Zz | apply Z3k | apply Z4x | apply Z21 | apply Z2s)
 all_goals ((try simp only [std,inj] at *); with_reducible and_intros)
 all_goals try with_reducible first | apply Zz | apply Z3k | apply Z4x | apply Z21 | apply Z2s | apply ih
 all_goals try first | exact z | grind [byt,atR,Yfy,Yfz,Yfs])
theorem Z4y (d:Datum):∀ (s:ByteArray) (a:Nat) (h:a<=s.size/\s.size<=15000/\okR d s a=true/\sizeD d<=600),Zp s a d:=Datum.ind (P:=fun d=>∀ (s:ByteArray) (a:Nat) (h:a<=s.size/\s.size<=15000/\okR d s a=true/\sizeD d<=600),Zp s a d) (fun d ih s a h=>Zch s a d h ih) d
theorem Yx8 {L:List Datum} {s:ByteArray} {k:Nat} (h:Ylm L s=true) (hk:k<L.length) :
  okR (L.getD k default) s (enP (L.take k) s 0)=true/\enP (L.take (k+1)) s 0=enR (L.getD k default) s (enP (L.take k) s 0)/\enP (L.take k) s 0<=s.size/\sk s (enP (L.take k) s 0)<s.size/\noc s (enP (L.take k) s 0)=true:=by
 simp only [Ylm,Bool.and_eq_true,decide_eq_true_eq] at h
 have h1:=Y14q (Nat.zero_le _) h.1.1.1.1 hk
 have h2:=(Yug (Nat.zero_le _) (Yt4 (k:=k) (Nat.zero_le _) h.1.1.1.1)).2.2
 have h3:=Ykp h2 h1.1
 exact ⟨h1.1,h1.2,h2,h3.2.1,h3.1⟩
theorem Y1kn {s:ByteArray} {a:Nat} (h:sk s a=s.size):noc s a=true:=by simp [noc,h]
theorem Yvd {L:List Datum} {s:ByteArray} (h:Ylm L s=true):sk s (enP L s 0)=s.size/\enP L s 0<=s.size/\noc s (enP L s 0)=true/\L.all Yny=true/\sumBy sizeD L<=600/\s.size<=15000/\L.length<=600:=by
 simp only [Ylm,Bool.and_eq_true,decide_eq_true_eq] at h
 exact ⟨h.1.1.1.2,(Yug (Nat.zero_le _) h.1.1.1.1).2.2,Y1kn h.1.1.1.2,h.1.1.2,h.1.2,h.2,Nat.le_trans (Yr7 L) h.1.2⟩
theorem Y1d0 {L:List Datum} {s:ByteArray} {k:Nat} (h:Ylm L s=true) (hk:k<=L.length):enP (L.take k) s 0<=s.size/\noc s (enP (L.take k) s 0)=true/\(k=L.length->sk s (enP (L.take k) s 0)=s.size):=by
 rcases Nat.lt_or_eq_of_le hk with hl | rfl
 ·have:=Yx8 h hl; exact ⟨this.2.2.1,this.2.2.2.2,fun e=>by omega⟩
 ·have:=Yvd h; rw [List.take_length]; exact ⟨this.2.1,this.2.2.1,fun _=>this.1⟩
theorem Y15u {L:List Datum} {s:ByteArray}:enP (L.take 0) s 0=0:=Yzt s (Nat.zero_le _)
theorem Y1h7 {L:List Datum} {s:ByteArray} (h:Ylm L s=true):noc s 0=true:=by
 cases L with
 | nil=>have:=(Yvd h).2.2.1; rwa [Yzt s (Nat.zero_le _)] at this
 | cons x l=>have:=(Yx8 (k:=0) h (by simp)).2.2.2.2; rwa [Y15u] at this
def Y1c0 (L:List Datum):Bool:=L.all Yny&&decide ((sumBy sizeD L:Int)<=600)
abbrev Z1d (d:Datum):Ct:=⟨208,[],[Ys0 d],[],.sv (li (sizeD d:Nat))⟩
def Z3e (d:Datum):Lp Nat:=.mk 19 0 (fun x=>[(3,hs x 1),(7,ll (d.items.map Yg2)),(8,li (↑(d.items.map Yg2).length:Int)),(9,hs x 0)]) (fun x
 => []) (fun k=>[.s (li (k:Int)),.s (li (↑(1+sumBy sizeD (d.items.take k)):Int))]) (fun k=>k<=d.items.length/\d.items.length<=9223372036854775807) (fun k=>
 d.items.length - k) [.mk True (.exit 0) (fun x=>[(3,hs x 0)]) (fun x=>[]) [.s (li (↑(1+sumBy sizeD d.items):Int))]]
theorem Zat (d:Datum) (h:sizeD d<=2147483647) (ih:∀ (z:Datum),z∈d.items->sizeD z<=2147483647->OK (Z1d z)):Lp.Sem Tryz.prog (Yg6 Tryz.f208 0)
 (Z3e d):=Ygf (fun k=>.i ((k:Int)<(↑(d.items.map Yg2).length:Int)) (.x (k:Int) (d.items.map Yg2) (Yh9 (d.items.getD k default)) (.d [.rd]
 (Z1d (d.items.getD k default)) (.r ((↑(1+sumBy sizeD (d.items.take k)):Int)+(↑(sizeD (d.items.getD k default)):Int)) (.r ((k:Int)+1) (.g [] (k+1) [.s (li
 ((k:Int)+1)),.s (li ((↑(1+sumBy sizeD (d.items.take k)):Int)+(↑(sizeD (d.items.getD k default)):Int)))]))))) (.o 0 [] [.s (li (↑(1+sumBy sizeD (List.take k
 d.items)):Int))])) (by
 intro k h; try dsimp only [Yfp,Yg0,Z3e] at h ⊢
 have g2:=@Ygt _ sizeD d.items (d.items.getD k default)
 have g3:=@Yih _ _ sizeD d.items k
 have g4:=Yhj sizeD d.items (k+1)
 have g6:=Ykx d
 have g7:d.items.length<=k->d.items.take k=d.items:=fun h=>List.take_of_length_le h
 with_reducible repeat' (first | apply And.intro | exact zR | exact ih | (intro) | apply ih)
 all_goals ((try simp only [std,inj] at *); with_reducible and_intros)
 all_goals try with_reducible first | apply ih
 all_goals try first | exact z | grind [Yfx,Yfy,Yfz,Yfs])
theorem Zdi (d:Datum) (h:sizeD d<=2147483647) (ih:∀ z∈d.items,∀ (h:sizeD z<=2147483647),Z1d z)  : Z1d d:=Yg4 Tryz.call208 Tryz.func208 (.z Yg2
 d.items (.l (Z3e d) (Zat d h ih) [] [.s (li 0),.s (li 1)] 0 (.t (.s (li (↑(1+sumBy sizeD d.items):Int))) .q))) (by
 dsimp only [Yfp,Z1d,Yg0,Z3e]
 have g6:=Ykx d
 have g7:sumBy sizeD (d.items.take 0)=0:=rfl
 with_reducible repeat' (first | apply And.intro | exact zR | exact ih | (intro))
 all_goals ((try simp only [std,inj] at *); with_reducible and_intros)
 all_goals try with_reducible first | apply ih
 all_goals (try exact zG))
theorem Z7b (d:Datum):∀ (h:sizeD d<=2147483647),Z1d d:=Datum.ind (P:=fun d=>∀ (h:sizeD d<=2147483647),Z1d d) (fun d ih h=>Zdi d h ih) d
abbrev Z6v (L:List Datum):Ct:=⟨161,[],[ll (L.map Yg2)],[],.sv (lb (Y1c0 L))⟩
def Z4e (L:List Datum):Lp Nat:=.mk 22 0 (fun x=>[(3,hs x 1),(6,ll (L.map Yg2)),(7,li (↑(L.map Yg2).length:Int)),(8,hs x 0)]) (fun x=>[])
 (fun k=>[.s (li (k:Int)),.s (li (↑(sumBy sizeD (L.take k)):Int))]) (fun k=>k<=L.length/\L.length<=9223372036854775807/\L.length<=1000000/\(L.take k).all
 Yny=true/\(↑(sumBy sizeD (L.take k)):Int)<=600 * (k:Int)) (fun k=>L.length - k) [.mk (L.all Yny=true) (.exit 0) (fun x=>[(3,hs x 0)]) (fun x=>[]) [.s
 (li (↑(sumBy sizeD L):Int))],.mk (L.all Yny=false) .ret (fun x=>[(2,hs x 0)]) (fun x=>[]) [.s (lb false)]]
theorem Zci (L:List Datum) (h:L.length<=1000000):Lp.Sem Tryz.prog (Yg6 Tryz.f161 0) (Z4e L):=Ygf (fun k=>.i ((k:Int)<(↑(L.map Yg2).length
 : Int)) (.x (k:Int) (L.map Yg2) (Yh9 (L.getD k default)) (.c [.rd] (Zc4 (L.getD k default)) (.b (!Yny (L.getD k default)) (.o 1 [] [.s (lb false)]) (.d
 [.rd] (Z1d (L.getD k default)) (.r ((↑(sumBy sizeD (L.take k)):Int)+(↑(sizeD (L.getD k default)):Int)) (.r ((k:Int)+1) (.g [] (k+1) [.s (li ((k:Int) +
 1)),.s (li ((↑(sumBy sizeD (L.take k)):Int)+(↑(sizeD (L.getD k default)):Int)))]))))))) (.o 0 [] [.s (li (↑(sumBy sizeD (L.take k)):Int))])) (by
 intro k h; try dsimp only [Yfp,Yg0,Z4e] at h ⊢
 have g3:=@Yih _ _ sizeD L k
 have g4:Yny (L.getD k default)=true->sizeD (L.getD k default)<=600:=fun h=>by simp only [Yny,Bool.and_eq_true,decide_eq_true_eq] at h; exact h.1.1
 with_reducible repeat' (first | apply And.intro | exact zR | (intro) | apply Z7b)
 all_goals ((try simp only [std,inj] at *); with_reducible and_intros)
 all_goals try with_reducible first | apply Z7b
 all_goals try first | exact z | grind [Ygg,Yfy,Yfz,Yfs])
theorem Z60 (L:List Datum) (h:L.length<=1000000)  : Z6v L:=Yg4 Tryz.call161 Tryz.func161 (.z Yg2 L (.l (Z4e L) (Zci L h) [] [.s (li 0),.s (li 0)]
 0 (.t (.s (lb (decide ((↑(sumBy sizeD L):Int)<=600)))) (.t (.s (lb false)) .q)))) (by
 dsimp only [Yfp,Z6v,Yg0,Z4e]
 with_reducible repeat' (first | apply And.intro | exact zR | (intro) | apply Z7b)
 all_goals ((try simp only [std,inj] at *); with_reducible and_intros)
 all_goals try with_reducible first | apply Z7b
 all_goals try first | exact z | grind [Y1c0,sumBy,Yfy,Yfz,Yfs])
abbrev Z8j (L:List Datum) (s:ByteArray):Ct:=⟨80,[],[ls s],[.arr true 4 (L.map Yg2)],.tup [.one (.ref 0),lb true]⟩
def Z3t (L:List Datum) (s:ByteArray):Lp Nat:=.mk 49 0 (fun x=>[(4,.one (.ptr 0 0)),(5,.one (.ref 1))]) (fun x=>[.box [vS s,ha x 0,vB false],ho x
 1]) (fun k=>[.a (vI (↑(sk s (atR (L.getD k default) (enP (L.take k) s 0))):Int)),.o (.arr true 4 ((L.take k).map Yg2))]) (fun k=>k<=L.length/\L.length
 <= 9223372036854775807/\Ylm L s=true/\L.length<=600) (fun k=>L.length - k) [.mk True (.exit 0) (fun x=>[(4,.one (.ptr 0 0)),(5,.one (.ref 1))]) (fun x=>
 [.box [vS s,ha x 0,vB false],ho x 1]) [.a (vI (s.size:Int)),.o (.arr true 4 (L.map Yg2))]]
theorem Zbo (L:List Datum) (s:ByteArray) (h:Ylm L s=true):Lp.Sem Tryz.prog (Yg6 Tryz.f80 0) (Z3t L s):=Ygf (fun k=>.w (.draw []) (.y true (.h
 (s.data.toList.length<=9223372036854775807) (.i ((↑(sk s (atR (L.getD k default) (enP (L.take k) s 0))):Int)<(s.data.toList.length:Int)) (.d [.ptr] (Zp s (enP
 (L.take k) s 0) (L.getD k default)) (.p ((((L.take k).map Yg2).length+1) * 56<=140737488355328) (.d [.ptr] (Z20 s (enR (L.getD k default) s (enP
 (L.take k) s 0)) false) (.g [0,5] (k+1) [.a (vI (↑(sk s (enR (L.getD k default) s (enP (L.take k) s 0))):Int)),.o (.arr true 4 ((L.take k).map Yg2
 ++ [Yh9 (L.getD k default)]))])))) (.o 0 [0,1] [.a (vI (↑(sk s (atR (L.getD k default) (enP (L.take k) s 0))):Int)),.o (.arr true 4 ((List.take k
 L).map Yg2))]))))) (by
 intro k h; try dsimp only [Yfp,Yg0,Z3t] at h ⊢
 have g1:=@Yx8 L s k
 have g0:=@Y1d0 L s (k+1)
 have g00:=@Y1d0 L s k
 have g2:=@Yvd L s
 have g3:=@Ygt _ sizeD L (L.getD k default)
 with_reducible repeat' (first | apply And.intro | exact zR | (intro) | apply Zz | apply Z4y | apply Z60)
 all_goals ((try simp only [std,inj] at *); with_reducible and_intros)
 all_goals try first | with_reducible (first | apply Zz | apply Z4y | apply Z60) | (simp only [<- List.map_append]; with_reducible first | apply Zz | apply Z4y | apply Z60)
 all_goals try first | exact z | grind [atR,Ygg,Yfx,Yfy,Yfz,Yfs])
theorem Z2t (L:List Datum) (s:ByteArray) (h:Ylm L s=true)  : Z8j L s:=Yg4 Tryz.call80 Tryz.func80 (.h (s.data.toList.length<=9223372036854775807) (.i (15000
 < (s.data.toList.length:Int)) (.w (.ghost (.nilreg 2 true 4)) (.f [0] [.arr true 4 []] (.tup [.one (.ref 0),lb false]))) (.w (.bool false) (.d [.ptr] (Z20 s 0
 false) (.l (Z3t L s) (Zbo L s h) [0,1] [.a (vI (↑(sk s 0):Int)),.o (.arr true 4 [])] 0 (.t (.y false (.d [.rd] (Z6v L) (.b (!Y1c0 L) (.w (.ghost
 (.nilreg 2 true 4)) (.f [2] [.arr true 4 []] (.tup [.one (.ref 0),lb false]))) (.f [1] [.arr true 4 (L.map Yg2)] (.tup [.one (.ref 0),lb true])))))
 .q)))))) (by
 dsimp only [Yfp,Z8j,Yg0,Z3t]
 have g1:=@Yvd L s
 have g2:=@Y15u L s
 have g3:=@Y1h7 L s
 with_reducible repeat' (first | apply And.intro | exact zR | (intro) | apply Zz | apply Z4y | apply Z60)
 all_goals ((try simp only [std,inj] at *); with_reducible and_intros)
 all_goals try with_reducible first | apply Zz | apply Z4y | apply Z60
 all_goals try first | exact z | grind [atR,Y1c0,Yfy,Yfz,Yfs])
set_option maxHeartbeats 4000000
abbrev Zau  : Ct:=⟨30,[],[],[.arr true 1 (Yll.map Yi1)],.sv (.one (.ref 0))⟩
theorem Zff   : Zau:=Yg4 Tryz.call30 Tryz.func30 (.f [0] [.arr true 1 [[cS (ByteArray.mk #[(40:UInt8),(120:UInt8),(32:UInt8),(121:UInt8),(41:UInt8)])],[cS
 (ByteArray.mk #[(40:UInt8),(120:UInt8),(32:UInt8),(46:UInt8),(46:UInt8),(46:UInt8),(41:UInt8)])],[cS (ByteArray.mk #[(40:UInt8),(40:UInt8),(120 :
 UInt8),(32:UInt8),(121:UInt8),(41:UInt8),(32:UInt8),(46:UInt8),(46:UInt8),(46:UInt8),(41:UInt8)])],[cS (ByteArray.mk #[(40:UInt8),(120:UInt8),(32 :
 UInt8),(46:UInt8),(46:UInt8),(46:UInt8),(32:UInt8),(121:UInt8),(41:UInt8)])],[cS (ByteArray.mk #[(40:UInt8),(40:UInt8),(120:UInt8),(32:UInt8),(46 :
 UInt8),(46:UInt8),(46:UInt8),(41:UInt8),(32:UInt8),(46:UInt8),(46:UInt8),(46:UInt8),(41:UInt8)])],[cS (ByteArray.mk #[(40:UInt8),(101:UInt8),(108 :
 UInt8),(115:UInt8),(101:UInt8),(32:UInt8),(120:UInt8),(41:UInt8)])],[cS (ByteArray.mk #[(95:UInt8)])],[cS (ByteArray.mk #[(120:UInt8)])],[cS (ByteArray.mk
 #[(40:UInt8),(49:UInt8),(32:UInt8),(120:UInt8),(41:UInt8)])],[cS (ByteArray.mk #[(40:UInt8),(120:UInt8),(32:UInt8),(120:UInt8),(41:UInt8)])],[cS
 (ByteArray.mk #[(40:UInt8),(46:UInt8),(46:UInt8),(46:UInt8),(32:UInt8),(120:UInt8),(41:UInt8)])],[cS (ByteArray.mk #[(40:UInt8),(120:UInt8),(32 :
 UInt8),(46:UInt8),(46:UInt8),(46:UInt8),(32:UInt8),(121:UInt8),(32:UInt8),(46:UInt8),(46:UInt8),(46:UInt8),(41:UInt8)])],[cS (ByteArray.mk #[(40 :
 UInt8),(34:UInt8),(97:UInt8),(34:UInt8),(32:UInt8),(40:UInt8),(120:UInt8),(41:UInt8),(32:UInt8),(46:UInt8),(46:UInt8),(46:UInt8),(41:UInt8)])],
 [cS (ByteArray.mk #[(40:UInt8),(41:UInt8)])],[cS (ByteArray.mk #[(40:UInt8),(40:UInt8),(40:UInt8),(40:UInt8),(120:UInt8),(32:UInt8),(46:UInt8),(46 :
 UInt8),(46:UInt8),(41:UInt8),(32:UInt8),(46:UInt8),(46:UInt8),(46:UInt8),(41:UInt8),(32:UInt8),(46:UInt8),(46:UInt8),(46:UInt8),(41:UInt8),(32
 : UInt8),(46:UInt8),(46:UInt8),(46:UInt8),(41:UInt8)])]]] (.sv (.one (.ref 0)))) (by
 dsimp only [Yfp,Zau]
 with_reducible repeat' (first | apply And.intro | exact zR | (intro))
 all_goals ((try simp only [std,inj] at *); with_reducible and_intros)
 all_goals (try exact zG)
 all_goals rfl)
abbrev Zav (i:Nat):Ct:=⟨80,[],[ls (Yll.getD i default)],[.arr true 4 ((Ygh (Yj3 i)).map Yg2)],.tup [.one (.ref 0),lb true]⟩
theorem Zdj (i:Nat) (h:i<15):OK (Zav i):=Z2t _ _ (rd1 (Y1op i h))
abbrev Z7u (i:Nat):Ct:=⟨28,[],[ls (Yll.getD i default)],Yhl (un (Yj3 i)),.sv (Yhp (un (Yj3 i)) 0)⟩
theorem Z61 (i:Nat) (h:i<15)  : Z7u i:=Yg4 Tryz.call28 Tryz.func28 (.d [.rd] (Zav i) (.z Yg2 (Ygh (Yj3 i)) (.i ((↑((Ygh (Yj3 i)).map Yg2).length
 : Int)=0) (.w (.ghost (.nilbox 0 3 true 1)) (.w (.ghost (.nilbox 0 4 true 5)) (.f [2,3] [.arr true 1 [],.arr true 5 []] (.sv (.agg [vI 0,vI 0,vS (ByteArray.mk #[]),
 .ref 0,.ref 1]))))) (.p ((0:Int)<=0/\0<((Ygh (Yj3 i)).map Yg2).length) (.w (.cells (Yh9 ((Ygh (Yj3 i)).getD 0 default))) (.p (((Ygh
 (Yj3 i)).map Yg2)[0]? = some (Yh9 ((Ygh (Yj3 i)).getD 0 default))) (.d [.rd] (Zd ((Ygh (Yj3 i)).getD 0 default)) (.f [2,3] [.arr true 1 ((Ygm ((Ygh (Yj3
 i)).getD 0 default)).scopes.map Yfr),.arr true 5 ((Ygm ((Ygh (Yj3 i)).getD 0 default)).items.map Yfn)] (.sv (.agg [vI (Ygm ((Ygh (Yj3 i)).getD 0 default)).kind,vI
 (Ygm ((Ygh (Yj3 i)).getD 0 default)).number,vS (Ygm ((Ygh (Yj3 i)).getD 0 default)).text,.ref 0,.ref 1])))))))))) (by
 dsimp only [Yfp,Z7u]
 have g1:=(Y1by i h).1
 have g2:=Ymt (Yj3 i)
 have g3:=Ym3 (Yj3 i)
 with_reducible repeat' (first | apply And.intro | exact zR | (intro) | apply Zdj | apply Zy)
 all_goals ((try simp only [std,inj] at *); with_reducible and_intros)
 all_goals try with_reducible first | apply Zdj | apply Zy
 all_goals (try exact zG))
abbrev Zaw  : Ct:=⟨32,[],[],[.arr true 1 (Ykg.map Yi1)],.sv (.one (.ref 0))⟩
theorem Zfg   : Zaw:=Yg4 Tryz.call32 Tryz.func32 (.f [0] [.arr true 1 [[cS (ByteArray.mk #[(40:UInt8),(49:UInt8),(32:UInt8),(50:UInt8),(41:UInt8)])],[cS
 (ByteArray.mk #[(40:UInt8),(41:UInt8)])],[cS (ByteArray.mk #[(40:UInt8),(40:UInt8),(49:UInt8),(32:UInt8),(50:UInt8),(41:UInt8),(32:UInt8),(40:UInt8),
 (51:UInt8),(32:UInt8),(52:UInt8),(41:UInt8),(41:UInt8)])],[cS (ByteArray.mk #[(40:UInt8),(49:UInt8),(32:UInt8),(50:UInt8),(32:UInt8),(51:UInt8),
 (41:UInt8)])],[cS (ByteArray.mk #[(40:UInt8),(40:UInt8),(49:UInt8),(32:UInt8),(50:UInt8),(41:UInt8),(32:UInt8),(40:UInt8),(41:UInt8),(32:UInt8),
 (40:UInt8),(51:UInt8),(41:UInt8),(41:UInt8)])],[cS (ByteArray.mk #[(40:UInt8),(101:UInt8),(108:UInt8),(115:UInt8),(101:UInt8),(32:UInt8),(53 :
 UInt8),(41:UInt8)])],[cS (ByteArray.mk #[(40:UInt8),(49:UInt8),(32:UInt8),(120:UInt8),(41:UInt8)])],[cS (ByteArray.mk #[(53:UInt8)])],[cS (ByteArray.mk
 #[(120:UInt8)])],[cS (ByteArray.mk #[(40:UInt8),(34:UInt8),(97:UInt8),(34:UInt8),(32:UInt8),(40:UInt8),(49:UInt8),(41:UInt8),(32:UInt8),(40:UInt8),
 (50:UInt8),(41:UInt8),(41:UInt8)])],[cS (ByteArray.mk #[(40:UInt8),(120:UInt8),(32:UInt8),(121:UInt8),(41:UInt8)])],[cS (ByteArray.mk #[(40:UInt8),(40 :
 UInt8),(97:UInt8),(45:UInt8),(98:UInt8),(32:UInt8),(49:UInt8),(41:UInt8),(32:UInt8),(40:UInt8),(102:UInt8),(32:UInt8),(50:UInt8),(41:UInt8),
 (41:UInt8)])]]] (.sv (.one (.ref 0)))) (by
 dsimp only [Yfp,Zaw]
 with_reducible repeat' (first | apply And.intro | exact zR | (intro))
 all_goals ((try simp only [std,inj] at *); with_reducible and_intros)
 all_goals (try exact zG)
 all_goals rfl)
abbrev Zax (i:Nat):Ct:=⟨80,[],[ls (Ykg.getD i default)],[.arr true 4 ((Ygh (Yj9 i)).map Yg2)],.tup [.one (.ref 0),lb true]⟩
theorem Zdk (i:Nat) (h:i<12):OK (Zax i):=Z2t _ _ (rd1 (Y1p3 i h))
abbrev Z7v (i:Nat):Ct:=⟨28,[],[ls (Ykg.getD i default)],Yhl (un (Yj9 i)),.sv (Yhp (un (Yj9 i)) 0)⟩
theorem Zay (i:Nat) (h:i<12)  : Z7v i:=Yg4 Tryz.call28 Tryz.func28 (.d [.rd] (Zax i) (.z Yg2 (Ygh (Yj9 i)) (.i ((↑((Ygh (Yj9 i)).map Yg2).length
 : Int)=0) (.w (.ghost (.nilbox 0 3 true 1)) (.w (.ghost (.nilbox 0 4 true 5)) (.f [2,3] [.arr true 1 [],.arr true 5 []] (.sv (.agg [vI 0,vI 0,vS (ByteArray.mk #[]),
 .ref 0,.ref 1]))))) (.p ((0:Int)<=0/\0<((Ygh (Yj9 i)).map Yg2).length) (.w (.cells (Yh9 ((Ygh (Yj9 i)).getD 0 default))) (.p (((Ygh
 (Yj9 i)).map Yg2)[0]? = some (Yh9 ((Ygh (Yj9 i)).getD 0 default))) (.d [.rd] (Zd ((Ygh (Yj9 i)).getD 0 default)) (.f [2,3] [.arr true 1 ((Ygm ((Ygh (Yj9
 i)).getD 0 default)).scopes.map Yfr),.arr true 5 ((Ygm ((Ygh (Yj9 i)).getD 0 default)).items.map Yfn)] (.sv (.agg [vI (Ygm ((Ygh (Yj9 i)).getD 0 default)).kind,vI
 (Ygm ((Ygh (Yj9 i)).getD 0 default)).number,vS (Ygm ((Ygh (Yj9 i)).getD 0 default)).text,.ref 0,.ref 1])))))))))) (by
 dsimp only [Yfp,Z7v]
 have g1:=(Y1ak i h).1
 have g2:=Ymt (Yj9 i)
 have g3:=Ym3 (Yj9 i)
 with_reducible repeat' (first | apply And.intro | exact zR | (intro) | apply Zdk | apply Zy)
 all_goals ((try simp only [std,inj] at *); with_reducible and_intros)
 all_goals try with_reducible first | apply Zdk | apply Zy
 all_goals (try exact zG))
abbrev Zel:Ct:=⟨80,[],[ls Yj4],[.arr true 4 ((Ygh (Yg3 Yj4)).map Yg2)],.tup [.one (.ref 0),lb true]⟩
theorem Zaz:OK Zel:=Z2t _ _ (rd1 Y1n4)
abbrev Zb0  : Ct:=⟨28,[],[ls Yj4],Yhl (un (Yg3 Yj4)),.sv (Yhp (un (Yg3 Yj4)) 0)⟩
theorem Zfh   : Zb0:=Yg4 Tryz.call28 Tryz.func28 (.c [.rd] Zaz (.z Yg2 (Ygh (Yg3 Yj4)) (.i (Int.ofNat ((Ygh (Yg3 Yj4)).map Yg2).length=0) (.w (.ghost
 (.nilbox 0 3 true 1)) (.w (.ghost (.nilbox 0 4 true 5)) (.f [2,3] [.arr true 1 [],.arr true 5 []] (.sv (.agg [vI 0,vI 0,vS (ByteArray.mk #[]),.ref 0,.ref 1])))))
 (.p ((0:Int)<=0/\0<((Ygh (Yg3 Yj4)).map Yg2).length) (.w (.cells (Yh9 ((Ygh (Yg3 Yj4)).getD 0 default))) (.p (((Ygh (Yg3 Yj4)).map Yg2)[0]? =
 some (Yh9 ((Ygh (Yg3 Yj4)).getD 0 default))) (.d [.rd] (Zd ((Ygh (Yg3 Yj4)).getD 0 default)) (.f [2,3] [.arr true 1 ((Ygm ((Ygh (Yg3 Yj4)).getD
 0 default)).scopes.map Yfr),.arr true 5 ((Ygm ((Ygh (Yg3 Yj4)).getD 0 default)).items.map Yfn)] (.sv (.agg [vI (Ygm ((Ygh (Yg3 Yj4)).getD 0 default)).kind,vI
 (Ygm ((Ygh (Yg3 Yj4)).getD 0 default)).number,vS (Ygm ((Ygh (Yg3 Yj4)).getD 0 default)).text,.ref 0,.ref 1])))))))))) (by
 dsimp only [Yfp,Zb0]
 have g1:wD (Yg3 Yj4)<=100:=by decide
 have g2:=Ymt (Yg3 Yj4)
 have g3:=Ym3 (Yg3 Yj4)
 with_reducible repeat' (first | apply And.intro | exact zR | (intro) | apply Zaz | apply Zy)
 all_goals ((try simp only [std,inj] at *); with_reducible and_intros)
 all_goals try with_reducible first | apply Zaz | apply Zy
 all_goals (try exact zG))
def Y107 (i:Nat):YS:=⟨0,0,mkS [],[],un (Yg3 Yiv) :: (un (Yj3 i)).items⟩
def Y174 (i:Nat):YS:=un (Yk9 i)
theorem Ysn (d:Datum):(un d).items.length+sumBy wY (un d).items<=wD d:=by
 have:=Y103 d
 rw [Yhn] at this; omega
theorem Y1ox (i:Nat) (h:i<15):wY (Y107 i)<=200:=by
 have h1:=Ysn (Yj3 i)
 have h2:=(Y1by i h).1
 have h3:=Y103 (Yg3 Yiv)
 have h4:wD (Yg3 Yiv)<=10:=by decide
 have h5:(mkS []).size=0:=rfl
 rw [Yhn]
 simp only [Y107,List.length_cons,List.length_nil,sumBy,h5]; omega
theorem Y1n2 (i:Nat) (h:i<13):wY (Y174 i)<=200:=by unfold Y174; rw [Y103]; have:=(Y1j6 i h).1; omega
def ruG:Nat->Cr->(List YS × List YS) × Cr
 | 0,c=>(([],[]),c)
 | n+1,c=>(((ruG n c).1.1++[Y107 (beX (ruG n c).2 15).toNat],(ruG n c).1.2++[Y174 (beX (beC (ruG n c).2 15) 13).toNat]),beC (beC (ruG n c).2 15) 13)
def ruH (n:Nat) (c:Cr):(List YS × List YS) × Cr:=Yje (ruG n c)
theorem Y13w (n:Nat) (c:Cr):ruH n c=ruG n c:=Yhd _
theorem Y166 (c:Cr):ruH 0 c=(([],[]),c):=by rw [Y13w]; rfl
theorem Y134 (n:Nat) (c:Cr):ruH (n+1) c=(((ruH n c).1.1++[Y107 (beX (ruH n c).2 15).toNat],(ruH n c).1.2++[Y174 (beX (beC (ruH n c).2 15) 13).toNat]),beC (beC (ruH n c).2 15) 13):=by rw [Y13w,Y13w]; rfl
theorem Y1ej {n:Nat} {c:Cr} (h:okK c):okK (ruH n c).2/\(ruH n c).1.1.length=n/\(ruH n c).1.2.length=n/\sumBy wY (ruH n c).1.1<=200 * n/\sumBy wY (ruH n c).1.2<=200 * n:=by
 induction n with
 | zero=>rw [Y166]; exact ⟨h,rfl,rfl,Nat.le_refl _,Nat.le_refl _⟩
 | succ n ih=>
  have h1:=Yhf (ruH n c).2 (n:=15) (by decide)
  have h2:=Yhf (beC (ruH n c).2 15) (n:=13) (by decide)
  have h3:=Y1ox (beX (ruH n c).2 15).toNat (by omega)
  have h4:=Y1n2 (beX (beC (ruH n c).2 15) 13).toNat (by omega)
  rw [Y134]
  refine ⟨Ygd (Ygd ih.1),?_,?_,?_,?_⟩ <;> simp only [List.length_append,List.length_singleton,Yha,sumBy] <;> omega
def r1 (c:Cr):Cr:=beC c 2
def r2 (c:Cr):Cr:=beC (r1 c) 3
def rwN (c:Cr):Int:=1+beX (r1 c) 3
def rwL (c:Cr):List YS:=Yje (if beX c 2=0 then [un (Yg3 Yj4)] else [])
theorem Y1j3 {c:Cr} (h:beX c 2=0):rwL c=[un (Yg3 Yj4)]:=by unfold rwL; rw [Yhd]; exact if_pos h
theorem Y1ja {c:Cr} (h:¬ beX c 2=0):rwL c=[]:=by unfold rwL; rw [Yhd]; exact if_neg h
def r3 (c:Cr):(List YS × List YS) × Cr:=ruH (rwN c).toNat (r2 c)
def rwT (c:Cr):List YS:=Yje (if beX (r3 c).2 12=0 then (r3 c).1.2++[un (Yg3 Yj2)] else (r3 c).1.2)
theorem Y1j8 {c:Cr} (h:beX (r3 c).2 12=0):rwT c=(r3 c).1.2++[un (Yg3 Yj2)]:=by unfold rwT; rw [Yhd]; exact if_pos h
theorem Y1ir {c:Cr} (h:¬ beX (r3 c).2 12=0):rwT c=(r3 c).1.2:=by unfold rwT; rw [Yhd]; exact if_neg h
def rwR (c:Cr):YR:=⟨rwL c,(r3 c).1.1,rwT c⟩
def rwE (c:Cr):Cr:=beC (r3 c).2 12
theorem Y143 (c:Cr):1<=rwN c/\rwN c<=3:=by have:=Yhf (r1 c) (n:=3) (by decide); unfold rwN; omega
theorem Y1bj {c:Cr} (h:okK c):okK (r3 c).2/\(r3 c).1.1.length<=3/\(r3 c).1.2.length<=3/\sumBy wY (r3 c).1.1<=600/\sumBy wY (r3 c).1.2<=600:=by
 have h1:=Y1ej (n:=(rwN c).toNat) (c:=r2 c) (Ygd (Ygd h))
 have h2:=Y143 c
 unfold r3
 exact ⟨h1.1,by omega,by omega,by omega,by omega⟩
theorem Y1qb {c:Cr} (h:okK c):wR (rwR c)<=5000:=by
 have h1:=Y1bj h
 have e1:wY (un (Yg3 Yj4))<=10:=by rw [Y103]; decide
 have e2:wY (un (Yg3 Yj2))<=10:=by rw [Y103]; decide
 have hL:(rwL c).length+sumBy wY (rwL c)<=20:=by
  by_cases a:beX c 2=0
  ·rw [Y1j3 a]; simp only [List.length_cons,List.length_nil,sumBy]; omega
  ·rw [Y1ja a]; simp [sumBy]
 have hT:(rwT c).length+sumBy wY (rwT c)<=1000:=by
  by_cases a:beX (r3 c).2 12=0
  ·rw [Y1j8 a,Yha,List.length_append]; simp only [List.length_cons,List.length_nil,sumBy]; omega
  ·rw [Y1ir a]; omega
 rw [Yvc]; simp only [rwR]; omega
def igB (b:List UInt8):List YB:=(taX (Yir b)).1
def ig1 (b:List UInt8):Cr:=(taX (Yir b)).2
def igR (b:List UInt8):YR:=rwR (ig1 b)
def ig2 (b:List UInt8):Cr:=rwE (ig1 b)
def ig3 (b:List UInt8):Cr:=beC (ig2 b) 12
def ig4 (b:List UInt8):Cr:=beC (ig3 b) 8
def igU (i:Nat):YS:=⟨0,0,mkS [],[],un (Yg3 Yj1) :: (un (Yj9 i)).items⟩
def igF (b:List UInt8):YS:=Yje (if beX (ig3 b) 8=0 then (ayX (ig4 b)).1 else igU (beX (ig2 b) 12).toNat)
theorem Y1j2 {b:List UInt8} (h:beX (ig3 b) 8=0):igF b=(ayX (ig4 b)).1:=by unfold igF; rw [Yhd]; exact if_pos h
theorem Y1j7 {b:List UInt8} (h:¬ beX (ig3 b) 8=0):igF b=igU (beX (ig2 b) 12).toNat:=by unfold igF; rw [Yhd]; exact if_neg h
theorem Y1au {b:List UInt8} (h:b.length<=1048576):okK (ig1 b)/\okK (ig2 b)/\okK (ig3 b)/\okK (ig4 b):=by
 have h1:=(Y1d8 (Yzv h)).1
 have h2:okK (ig2 b):=Ygd (Y1bj (c:=ig1 b) h1).1
 exact ⟨h1,h2,Ygd h2,Ygd (Ygd h2)⟩
theorem Y1qo {b:List UInt8} (h:b.length<=1048576):(igB b).length<=100/\sumBy wB (igB b)<=1000:=(Y1d8 (Yzv h)).2
theorem Y1jh {b:List UInt8} (h:b.length<=1048576):wR (igR b)<=5000:=Y1qb (Y1au h).1
theorem Y1j5 {b:List UInt8} (h:b.length<=1048576):wY (igF b)<=200000:=by
 by_cases a:beX (ig3 b) 8=0
 ·rw [Y1j2 a]; exact (Y1ok (Y1au h).2.2.2).2
 ·rw [Y1j7 a]
  have h1:=Yhf (ig2 b) (n:=12) (by decide)
  have h2:=(Y1ak (beX (ig2 b) 12).toNat (by omega)).1
  have h3:=Ysn (Yj9 (beX (ig2 b) 12).toNat)
  have h4:=Y103 (Yg3 Yj1)
  have h5:wD (Yg3 Yj1)<=10:=by decide
  have h6:(mkS []).size=0:=rfl
  rw [Yhn]
  simp only [igU,List.length_cons,List.length_nil,sumBy,h6]; omega
set_option maxHeartbeats 4000000
abbrev Zb1  : Ct:=⟨108,[],[],[.arr true 1 (Ynr.map Yi1)],.sv (.one (.ref 0))⟩
theorem Zfi   : Zb1:=Yg4 Tryz.call108 Tryz.func108 (.f [0] [.arr true 1 [[cS (ByteArray.mk #[(40:UInt8),(121:UInt8),(32:UInt8),(120:UInt8),(41:UInt8)])],
 [cS (ByteArray.mk #[(40:UInt8),(102:UInt8),(32:UInt8),(120:UInt8),(32:UInt8),(46:UInt8),(46:UInt8),(46:UInt8),(41:UInt8)])],[cS (ByteArray.mk #[(40 :
 UInt8),(40:UInt8),(121:UInt8),(32:UInt8),(120:UInt8),(41:UInt8),(32:UInt8),(46:UInt8),(46:UInt8),(46:UInt8),(41:UInt8)])],[cS (ByteArray.mk #[(40 :
 UInt8),(120:UInt8),(32:UInt8),(46:UInt8),(46:UInt8),(46:UInt8),(32:UInt8),(121:UInt8),(41:UInt8)])],[cS (ByteArray.mk #[(40:UInt8),(40:UInt8),(120 :
 UInt8),(32:UInt8),(46:UInt8),(46:UInt8),(46:UInt8),(41:UInt8),(32:UInt8),(46:UInt8),(46:UInt8),(46:UInt8),(41:UInt8)])],[cS (ByteArray.mk #[(40 :
 UInt8),(116:UInt8),(109:UInt8),(112:UInt8),(32:UInt8),(120:UInt8),(41:UInt8)])],[cS (ByteArray.mk #[(120:UInt8)])],[cS (ByteArray.mk #[(40:UInt8),(120 :
 UInt8),(32:UInt8),(121:UInt8),(32:UInt8),(46:UInt8),(46:UInt8),(46:UInt8),(41:UInt8)])],[cS (ByteArray.mk #[(40:UInt8),(120:UInt8),(32:UInt8),(46 :
 UInt8),(46:UInt8),(46:UInt8),(41:UInt8)])],[cS (ByteArray.mk #[(40:UInt8),(40:UInt8),(116:UInt8),(109:UInt8),(112:UInt8),(32:UInt8),(120:UInt8),(41
 : UInt8),(32:UInt8),(46:UInt8),(46:UInt8),(46:UInt8),(41:UInt8)])],[cS (ByteArray.mk #[(46:UInt8),(46:UInt8),(46:UInt8)])],[cS (ByteArray.mk #[(40 :
 UInt8),(120:UInt8),(32:UInt8),(46:UInt8),(46:UInt8),(46:UInt8),(32:UInt8),(46:UInt8),(46:UInt8),(46:UInt8),(41:UInt8)])],[cS (ByteArray.mk #[(55 :
 UInt8)])]]] (.sv (.one (.ref 0)))) (by
 dsimp only [Yfp,Zb1]
 with_reducible repeat' (first | apply And.intro | exact zR | (intro))
 all_goals ((try simp only [std,inj] at *); with_reducible and_intros)
 all_goals (try exact zG)
 all_goals rfl)
abbrev Zb2 (i:Nat):Ct:=⟨80,[],[ls (Ynr.getD i default)],[.arr true 4 ((Ygh (Yk9 i)).map Yg2)],.tup [.one (.ref 0),lb true]⟩
theorem Zdl (i:Nat) (h:i<13):OK (Zb2 i):=Z2t _ _ (rd1 (Y1nl i h))
abbrev Z7w (i:Nat):Ct:=⟨28,[],[ls (Ynr.getD i default)],Yhl (un (Yk9 i)),.sv (Yhp (un (Yk9 i)) 0)⟩
theorem Z62 (i:Nat) (h:i<13)  : Z7w i:=Yg4 Tryz.call28 Tryz.func28 (.d [.rd] (Zb2 i) (.z Yg2 (Ygh (Yk9 i)) (.i ((↑((Ygh (Yk9 i)).map Yg2).length
 : Int)=0) (.w (.ghost (.nilbox 0 3 true 1)) (.w (.ghost (.nilbox 0 4 true 5)) (.f [2,3] [.arr true 1 [],.arr true 5 []] (.sv (.agg [vI 0,vI 0,vS (ByteArray.mk #[]),
 .ref 0,.ref 1]))))) (.p ((0:Int)<=0/\0<((Ygh (Yk9 i)).map Yg2).length) (.w (.cells (Yh9 ((Ygh (Yk9 i)).getD 0 default))) (.p (((Ygh
 (Yk9 i)).map Yg2)[0]? = some (Yh9 ((Ygh (Yk9 i)).getD 0 default))) (.d [.rd] (Zd ((Ygh (Yk9 i)).getD 0 default)) (.f [2,3] [.arr true 1 ((Ygm ((Ygh (Yk9
 i)).getD 0 default)).scopes.map Yfr),.arr true 5 ((Ygm ((Ygh (Yk9 i)).getD 0 default)).items.map Yfn)] (.sv (.agg [vI (Ygm ((Ygh (Yk9 i)).getD 0 default)).kind,vI
 (Ygm ((Ygh (Yk9 i)).getD 0 default)).number,vS (Ygm ((Ygh (Yk9 i)).getD 0 default)).text,.ref 0,.ref 1])))))))))) (by
 dsimp only [Yfp,Z7w]
 have g1:=(Y1j6 i h).1
 have g2:=Ymt (Yk9 i)
 have g3:=Ym3 (Yk9 i)
 with_reducible repeat' (first | apply And.intro | exact zR | (intro) | apply Zdl | apply Zy)
 all_goals ((try simp only [std,inj] at *); with_reducible and_intros)
 all_goals try with_reducible first | apply Zdl | apply Zy
 all_goals (try exact zG))
abbrev Zem:Ct:=⟨80,[],[ls Yiv],[.arr true 4 ((Ygh (Yg3 Yiv)).map Yg2)],.tup [.one (.ref 0),lb true]⟩
theorem Zb3:OK Zem:=Z2t _ _ (rd1 Y1oa)
abbrev Zb4  : Ct:=⟨28,[],[ls Yiv],Yhl (un (Yg3 Yiv)),.sv (Yhp (un (Yg3 Yiv)) 0)⟩
theorem Zfj   : Zb4:=Yg4 Tryz.call28 Tryz.func28 (.c [.rd] Zb3 (.z Yg2 (Ygh (Yg3 Yiv)) (.i (Int.ofNat ((Ygh (Yg3 Yiv)).map Yg2).length=0) (.w (.ghost
 (.nilbox 0 3 true 1)) (.w (.ghost (.nilbox 0 4 true 5)) (.f [2,3] [.arr true 1 [],.arr true 5 []] (.sv (.agg [vI 0,vI 0,vS (ByteArray.mk #[]),.ref 0,.ref 1])))))
 (.p ((0:Int)<=0/\0<((Ygh (Yg3 Yiv)).map Yg2).length) (.w (.cells (Yh9 ((Ygh (Yg3 Yiv)).getD 0 default))) (.p (((Ygh (Yg3 Yiv)).map Yg2)[0]? =
 some (Yh9 ((Ygh (Yg3 Yiv)).getD 0 default))) (.d [.rd] (Zd ((Ygh (Yg3 Yiv)).getD 0 default)) (.f [2,3] [.arr true 1 ((Ygm ((Ygh (Yg3 Yiv)).getD
 0 default)).scopes.map Yfr),.arr true 5 ((Ygm ((Ygh (Yg3 Yiv)).getD 0 default)).items.map Yfn)] (.sv (.agg [vI (Ygm ((Ygh (Yg3 Yiv)).getD 0 default)).kind,vI
 (Ygm ((Ygh (Yg3 Yiv)).getD 0 default)).number,vS (Ygm ((Ygh (Yg3 Yiv)).getD 0 default)).text,.ref 0,.ref 1])))))))))) (by
 dsimp only [Yfp,Zb4]
 have g1:wD (Yg3 Yiv)<=100:=by decide
 have g2:=Ymt (Yg3 Yiv)
 have g3:=Ym3 (Yg3 Yiv)
 with_reducible repeat' (first | apply And.intro | exact zR | (intro) | apply Zb3 | apply Zy)
 all_goals ((try simp only [std,inj] at *); with_reducible and_intros)
 all_goals try with_reducible first | apply Zb3 | apply Zy
 all_goals (try exact zG))
abbrev Zen:Ct:=⟨80,[],[ls Yj1],[.arr true 4 ((Ygh (Yg3 Yj1)).map Yg2)],.tup [.one (.ref 0),lb true]⟩
theorem Zb5:OK Zen:=Z2t _ _ (rd1 Y1m4)
abbrev Zb6  : Ct:=⟨28,[],[ls Yj1],Yhl (un (Yg3 Yj1)),.sv (Yhp (un (Yg3 Yj1)) 0)⟩
theorem Zfk   : Zb6:=Yg4 Tryz.call28 Tryz.func28 (.c [.rd] Zb5 (.z Yg2 (Ygh (Yg3 Yj1)) (.i (Int.ofNat ((Ygh (Yg3 Yj1)).map Yg2).length=0) (.w (.ghost
 (.nilbox 0 3 true 1)) (.w (.ghost (.nilbox 0 4 true 5)) (.f [2,3] [.arr true 1 [],.arr true 5 []] (.sv (.agg [vI 0,vI 0,vS (ByteArray.mk #[]),.ref 0,.ref 1])))))
 (.p ((0:Int)<=0/\0<((Ygh (Yg3 Yj1)).map Yg2).length) (.w (.cells (Yh9 ((Ygh (Yg3 Yj1)).getD 0 default))) (.p (((Ygh (Yg3 Yj1)).map Yg2)[0]? =
 some (Yh9 ((Ygh (Yg3 Yj1)).getD 0 default))) (.d [.rd] (Zd ((Ygh (Yg3 Yj1)).getD 0 default)) (.f [2,3] [.arr true 1 ((Ygm ((Ygh (Yg3 Yj1)).getD
 0 default)).scopes.map Yfr),.arr true 5 ((Ygm ((Ygh (Yg3 Yj1)).getD 0 default)).items.map Yfn)] (.sv (.agg [vI (Ygm ((Ygh (Yg3 Yj1)).getD 0 default)).kind,vI
 (Ygm ((Ygh (Yg3 Yj1)).getD 0 default)).number,vS (Ygm ((Ygh (Yg3 Yj1)).getD 0 default)).text,.ref 0,.ref 1])))))))))) (by
 dsimp only [Yfp,Zb6]
 have g1:wD (Yg3 Yj1)<=100:=by decide
 have g2:=Ymt (Yg3 Yj1)
 have g3:=Ym3 (Yg3 Yj1)
 with_reducible repeat' (first | apply And.intro | exact zR | (intro) | apply Zb5 | apply Zy)
 all_goals ((try simp only [std,inj] at *); with_reducible and_intros)
 all_goals try with_reducible first | apply Zb5 | apply Zy
 all_goals (try exact zG))
abbrev Zeo:Ct:=⟨80,[],[ls Yj2],[.arr true 4 ((Ygh (Yg3 Yj2)).map Yg2)],.tup [.one (.ref 0),lb true]⟩
theorem Zb7:OK Zeo:=Z2t _ _ (rd1 Y1p2)
abbrev Zb8  : Ct:=⟨28,[],[ls Yj2],Yhl (un (Yg3 Yj2)),.sv (Yhp (un (Yg3 Yj2)) 0)⟩
theorem Zdm   : Zb8:=Yg4 Tryz.call28 Tryz.func28 (.c [.rd] Zb7 (.z Yg2 (Ygh (Yg3 Yj2)) (.i (Int.ofNat ((Ygh (Yg3 Yj2)).map Yg2).length=0) (.w (.ghost
 (.nilbox 0 3 true 1)) (.w (.ghost (.nilbox 0 4 true 5)) (.f [2,3] [.arr true 1 [],.arr true 5 []] (.sv (.agg [vI 0,vI 0,vS (ByteArray.mk #[]),.ref 0,.ref 1])))))
 (.p ((0:Int)<=0/\0<((Ygh (Yg3 Yj2)).map Yg2).length) (.w (.cells (Yh9 ((Ygh (Yg3 Yj2)).getD 0 default))) (.p (((Ygh (Yg3 Yj2)).map Yg2)[0]? =
 some (Yh9 ((Ygh (Yg3 Yj2)).getD 0 default))) (.d [.rd] (Zd ((Ygh (Yg3 Yj2)).getD 0 default)) (.f [2,3] [.arr true 1 ((Ygm ((Ygh (Yg3 Yj2)).getD
 0 default)).scopes.map Yfr),.arr true 5 ((Ygm ((Ygh (Yg3 Yj2)).getD 0 default)).items.map Yfn)] (.sv (.agg [vI (Ygm ((Ygh (Yg3 Yj2)).getD 0 default)).kind,vI
 (Ygm ((Ygh (Yg3 Yj2)).getD 0 default)).number,vS (Ygm ((Ygh (Yg3 Yj2)).getD 0 default)).text,.ref 0,.ref 1])))))))))) (by
 dsimp only [Yfp,Zb8]
 have g1:wD (Yg3 Yj2)<=100:=by decide
 have g2:=Ymt (Yg3 Yj2)
 have g3:=Ym3 (Yg3 Yj2)
 with_reducible repeat' (first | apply And.intro | exact zR | (intro) | apply Zb7 | apply Zy)
 all_goals ((try simp only [std,inj] at *); with_reducible and_intros)
 all_goals try with_reducible first | apply Zb7 | apply Zy
 all_goals (try exact zG))
theorem Y1ky (L:List YS) (i:Nat):L.map Yfn++[[cI 0,cI 0,cS (mkS []),.list [],.list (Yfu (un (Yg3 Yiv)) :: (un (Yj3 i)).items.map Yfn)]]=(L++[Y107 i]).map Yfn:=by
 rw [List.map_append,<- Ymh (un (Yg3 Yiv))]; simp only [List.map_cons,List.map_nil]; rw [Ymh (Y107 i)]; rfl
theorem Y1qf (i:Nat) (h:i<15):(un (Yj3 i)).items.length<=100:=by have:=Ysn (Yj3 i); have:=(Y1by i h).1; omega
theorem Y1pu (i:Nat) (h:i<12):(un (Yj9 i)).items.length<=100:=by have:=Ysn (Yj9 i); have:=(Y1ak i h).1; omega
abbrev Z8u (c:Cr):Ct:=⟨47,[crO c],[.one (.ptr 0 0)],crO (rwE c) :: Y1cx (rwR c),.sv (Y1fb (rwR c) 1)⟩
def Z4z (c:Cr):Lp (Int):=.mk 55 1 (fun x=>[(0,.one (.ptr 0 0)),(2,.one (.ptr 1 0)),(3,.one (.ptr 2 0)),(4,hs x 0)]) (fun x=>[ho x 1,.box
 [.val (.lit (.slice none 0 0)),.val (.lit (.slice none 0 0)),.val (.lit (.slice none 0 0))],.box [.ref 3,.ref 4,.ref 5],ho x 2,ho x
 3,ho x 4]) (fun k=>[.s (li k),.o (crO (ruH (rwN c - k).toNat (r2 c)).snd),.o (.arr true 5 ((rwL c).map Yfn)),.o (.arr true 5 ((ruH (rwN c -
 k).toNat (r2 c)).fst.fst.map Yfn)),.o (.arr true 5 ((ruH (rwN c - k).toNat (r2 c)).fst.snd.map Yfn))]) (fun k=>0<=k/\k<=rwN c/\okK c) (fun k=>k.toNat) [.mk True (.exit
 0) (fun x=>[(0,.one (.ptr 0 0)),(2,.one (.ptr 1 0)),(3,.one (.ptr 2 0))]) (fun x=>[ho x 0,.box [.val (.lit (.slice none 0 0)),.val (.lit
 (.slice none 0 0)),.val (.lit (.slice none 0 0))],.box [.ref 3,.ref 4,.ref 5],ho x 1,ho x 2,ho x 3]) [.o (crO (r3 c).snd),.o (.arr true 5
 ((rwL c).map Yfn)),.o (.arr true 5 ((r3 c).fst.fst.map Yfn)),.o (.arr true 5 ((r3 c).fst.snd.map Yfn))]]
theorem Zb9 (c:Cr) (h:okK c):Lp.Sem Tryz.prog (Yg6 Tryz.f47 0) (Z4z c):=Ygf (fun k=>.i (0<k) (.c [] Zff (.d [.ptr,.own true 1] (Z6 (ruH (rwN c
 - k).toNat (r2 c)).snd Yll) (.d [.rd] (Z7u (beX (ruH (rwN c - k).toNat (r2 c)).snd (Yll.length:Int)).toNat) (.w (.draw [(3,[12,13]),(6,[20,8]),(8,[23]),(9,[4,
 25]),(11,[2])]) (.c [.rd] Zfj (.p ((1+((un (Yj3 (beX (ruH (rwN c - k).toNat (r2 c)).snd (Yll.length:Int)).toNat)).items.map Yfn).length) * 80 <=
 140737488355328) (.p ((((ruH (rwN c - k).toNat (r2 c)).fst.fst.map Yfn).length+1) * 80<=140737488355328) (.w (.draw [(4,[0,29]),(6,[45,46]),(7,[5,53]),(9,
 [2])]) (.c [] Zfi (.d [.ptr,.own true 1] (Z6 (beC (ruH (rwN c - k).toNat (r2 c)).snd (Yll.length:Int)) Ynr) (.d [.rd] (Z7w (beX (beC (ruH (rwN c - k).toNat
 (r2 c)).snd (Yll.length:Int)) (Ynr.length:Int)).toNat) (.p ((((ruH (rwN c - k).toNat (r2 c)).fst.snd.map Yfn).length+1) * 80<=140737488355328) (.r (k - 1) (.g
 [0,1,2,3,26,54] (k - 1) [.s (li (k - 1)),.o (.box [vL ((beC (beC (ruH (rwN c - k).toNat (r2 c)).snd (Yll.length:Int)) (Ynr.length:Int)).b.map Yg9),vI
 (↑(beC (beC (ruH (rwN c - k).toNat (r2 c)).snd (Yll.length:Int)) (Ynr.length:Int)).i:Int),vI (beC (beC (ruH (rwN c - k).toNat (r2 c)).snd (Yll.length:Int))
 (Ynr.length:Int)).h]),.o (.arr true 5 ((rwL c).map Yfn)),.o (.arr true 5 ((ruH (rwN c - k).toNat (r2 c)).fst.fst.map Yfn++[[cI 0,cI 0,cS
 (ByteArray.mk #[]),.list [],.list (Yfu (un (Yg3 Yiv)) :: (un (Yj3 (beX (ruH (rwN c - k).toNat (r2 c)).snd (↑Yll.length :
 Int)).toNat)).items.map Yfn)]])),.o (.arr true 5 ((ruH (rwN c - k).toNat (r2 c)).fst.snd.map Yfn++[Yfu (un (Yk9 (beX (beC (ruH (rwN c - k).toNat (r2 c)).snd
 (Yll.length:Int)) (Ynr.length:Int)).toNat))]))])))))))))))))) (.o 0 [0,1,2,3,4,5] [.o (.box [vL ((ruH (rwN c - k).toNat (r2 c)).snd.b.map Yg9),vI (↑(ruH
 (rwN c - k).toNat (r2 c)).snd.i:Int),vI (ruH (rwN c - k).toNat (r2 c)).snd.h]),.o (.arr true 5 ((rwL c).map Yfn)),.o (.arr true 5 ((ruH (rwN c -
 k).toNat (r2 c)).fst.fst.map Yfn)),.o (.arr true 5 ((ruH (rwN c - k).toNat (r2 c)).fst.snd.map Yfn))])) (by
 intro k h; try dsimp only [Yfp,Yg0,Z4z] at h ⊢
 have hc:=h.2.2
 have ok:=Y1ej (n:=(rwN c - k).toNat) (c:=r2 c) (Ygd (Ygd hc))
 have l0:=Y143 c
 have l1:=Yhf (ruH (rwN c - k).toNat (r2 c)).2 (n:=15) (by decide)
 have l2:=Yhf (beC (ruH (rwN c - k).toNat (r2 c)).2 15) (n:=13) (by decide)
 have o2:=@Ygd _ 15 ok.1
 have g1:=Y134 (rwN c - k).toNat (r2 c)
 have g4:0<k->(rwN c - (k - 1)).toNat=(rwN c - k).toNat+1:=fun _=>by omega
 have g5:¬ 0<k->0<=k->ruH (rwN c - k).toNat (r2 c)=r3 c:=fun _ _=>by unfold r3; rw [show (rwN c - k).toNat=(rwN c).toNat by omega]
 have gs:=Y1ky (ruH (rwN c - k).toNat (r2 c)).1.1 (beX (ruH (rwN c - k).toNat (r2 c)).2 15).toNat
 have pl:((Yll.length:Nat):Int)=15:=rfl
 have tl:((Ynr.length:Nat):Int)=13:=rfl
 have n1:0<Yll.length:=by decide
 have n2:0<Ynr.length:=by decide
 have n3:Yll.length<=1000:=by decide
 have n4:Ynr.length<=1000:=by decide
 have i1:(beX (ruH (rwN c - k).toNat (r2 c)).2 15).toNat<15:=by omega
 have i2:(beX (beC (ruH (rwN c - k).toNat (r2 c)).2 15) 13).toNat<13:=by omega
 have b1:=Y1qf _ i1
 simp only [pl,tl]
 with_reducible repeat' (first | apply And.intro | exact zR | (intro) | apply Z2 | apply Z0 | apply Z8 | apply Z61 | apply Z62)
 all_goals ((try simp only [std,inj] at *); with_reducible and_intros)
 all_goals try first | with_reducible (first | apply Z2 | apply Z0 | apply Z8 | apply Z61 | apply Z62) | (simp only [<- List.map_append]; with_reducible first | apply Z2 | apply Z0 | apply Z8 | apply Z61 | apply Z62)
 all_goals try first | exact zw | grind [Y174,Yfy,Yfz,Yfs]
 all_goals first
  | exact Yma (by rw [g4 (by omega),g1]) | exact Yma (by rw [g5 (by omega) (by omega)])
  | (rw [g4 (by omega),g1]; exact gs))
theorem Zcj (c:Cr) (h:okK c)  : Z8u c:=Yg4 Tryz.call47 Tryz.func47 (.d [.ptr,.rd] (Z9 c 2) (.i (beX c (2:Int)=0) (.w (.draw [(3,[5,6]),(4,[13]),(6,
 [2])]) (.c [.rd] Zfh (.w (.bool true) (.p (80<=140737488355328) (.d [.ptr,.rd] (Z4 (beC c 2) 3) (.r (1+beX (beC c 2) 3) (.w (.ghost (.nilbox 2 1 true 5)) (.w
 (.ghost (.nilbox 2 2 true 5)) (.l (Z4z c) (Zb9 c h) [0,1,2,14,15,16] [.s (li (1+beX (beC c 2) 3)),.o (.box [vL ((beC (beC c 2) 3).b.map Yg9),vI (↑(beC
 (beC c 2) 3).i:Int),vI (beC (beC c 2) 3).h]),.o (.arr true 5 [Yfu (un (Yg3 Yj4))]),.o (.arr true 5 []),.o (.arr true 5 [])] (rwN c) (.t (.d [.ptr,.rd]
 (Z9 (r3 c).snd 12) (.i (beX (r3 c).snd (12:Int)=0) (.w (.draw [(3,[8,9]),(4,[5,16]),(6,[2])]) (.c [.rd] Zdm (.p ((((r3 c).fst.snd.map Yfn).length +
 1) * 80<=140737488355328) (.f [3,4,17] [.box [vL ((beC (r3 c).snd 12).b.map Yg9),vI (↑(beC (r3 c).snd 12).i:Int),vI (beC (r3 c).snd 12).h],.arr true 5 (List.map
 Yfn (rwL c)),.arr true 5 ((r3 c).fst.fst.map Yfn),.arr true 5 ((r3 c).fst.snd.map Yfn++[Yfu (un (Yg3 Yj2))])] (.sv (.agg [.ref 1,.ref
 2,.ref 3])))))) (.f [3,4,5] [.box [vL ((beC (r3 c).snd 12).b.map Yg9),vI (↑(beC (r3 c).snd 12).i:Int),vI (beC (r3 c).snd 12).h],.arr true 5 (List.map Yfn
 (rwL c)),.arr true 5 ((r3 c).fst.fst.map Yfn),.arr true 5 ((r3 c).fst.snd.map Yfn)] (.sv (.agg [.ref 1,.ref 2,.ref 3]))))) .q)))))))))) (.d
 [.ptr,.rd] (Z4 (beC c 2) 3) (.r (1+beX (beC c 2) 3) (.w (.ghost (.nilbox 2 0 true 5)) (.w (.ghost (.nilbox 2 1 true 5)) (.w (.ghost (.nilbox 2 2 true 5)) (.l (Z4z
 c) (Zb9 c h) [0,1,2,3,4,5] [.s (li (1+beX (beC c 2) 3)),.o (.box [vL ((beC (beC c 2) 3).b.map Yg9),vI (↑(beC (beC c 2) 3).i:Int),vI (beC (beC c 2)
 3).h]),.o (.arr true 5 []),.o (.arr true 5 []),.o (.arr true 5 [])] (rwN c) (.t (.d [.ptr,.rd] (Z9 (r3 c).snd 12) (.i (beX (r3 c).snd (12:Int)=0) (.w (.draw
 [(3,[8,9]),(4,[5,16]),(6,[2])]) (.c [.rd] Zdm (.p ((((r3 c).fst.snd.map Yfn).length+1) * 80<=140737488355328) (.f [3,4,17] [.box [vL ((beC
 (r3 c).snd 12).b.map Yg9),vI (↑(beC (r3 c).snd 12).i:Int),vI (beC (r3 c).snd 12).h],.arr true 5 ((rwL c).map Yfn),.arr true 5 ((r3 c).fst.fst.map Yfn),.arr
 true 5 ((r3 c).fst.snd.map Yfn++[Yfu (un (Yg3 Yj2))])] (.sv (.agg [.ref 1,.ref 2,.ref 3])))))) (.f [3,4,5] [.box [vL ((beC (r3
 c).snd 12).b.map Yg9),vI (↑(beC (r3 c).snd 12).i:Int),vI (beC (r3 c).snd 12).h],.arr true 5 ((rwL c).map Yfn),.arr true 5 ((r3 c).fst.fst.map Yfn),.arr true
 5 ((r3 c).fst.snd.map Yfn)] (.sv (.agg [.ref 1,.ref 2,.ref 3]))))) .q))))))))) (by
 dsimp only [Yfp,Z8u,Yg0,Z4z]
 have l0:=Y143 c
 have o3:=Y1bj h
 have o1:okK (r1 c):=Ygd h
 have o2:okK (r2 c):=Ygd o1
 have f1:=@Y1j3 c
 have f2:=@Y1ja c
 have f3:=@Y1j8 c
 have f4:=@Y1ir c
 have e0:(rwN c - rwN c).toNat=0:=by omega
 have m0:=Y166 (r2 c)
 have e1:r2 c=beC (beC c 2) 3:=rfl
 have e2:rwN c=1+beX (beC c 2) 3:=rfl
 with_reducible repeat' (first | apply And.intro | exact zR | (intro) | apply Z2 | apply Z0 | apply Z8 | apply Z61 | apply Z62)
 all_goals ((try simp only [std,inj] at *); with_reducible and_intros)
 all_goals try first | with_reducible (first | apply Z2 | apply Z0 | apply Z8 | apply Z61 | apply Z62) | (simp only [<- List.map_append]; with_reducible first | apply Z2 | apply Z0 | apply Z8 | apply Z61 | apply Z62)
 all_goals try first | exact zw | grind [Yfy,Yfz,Yfs]
 all_goals first
  | exact o1 | (with_reducible exact Yma rfl) | exact Yma (by rw [e0,m0,e1]) | with_reducible rfl
  | (rw [show (rwR c).literals=rwL c from rfl]; done) | (rw [show (rwR c).patterns=(r3 c).1.1 from rfl]; done)
  | (rw [show (rwR c).templates=rwT c from rfl,f3 (by omega),List.map_append]; simp only [List.map_cons,List.map_nil,Ymh]; done)
  | (rw [show (rwR c).templates=rwT c from rfl,f4 (by omega)]; done))
abbrev Z8v (b:List UInt8):Ct:=⟨14,[],[ll (b.map Yg9)],.arr true 4 ((igB b).map Yfq) :: (Y1cx (igR b)++Yhl (igF b)),.tup [.one (.ref 0),Y1fb (igR b) 1,Yhp (igF b) 4]⟩
theorem Z3u (b:List UInt8) (h:b.length<=1048576)  : Z8v b:=Yg4 Tryz.call14 Tryz.func14 (.d [.rd] (Z7n b) (.d [.ptr] (Z8t (Yir b)) (.d [.ptr] (Z8u (taX
 (Yir b)).snd) (.c [] Zfg (.d [.ptr,.own true 1] (Z6 (rwE (taX (Yir b)).snd) Ykg) (.d [.rd] (Z7v (beX (rwE (taX (Yir b)).snd) (Ykg.length:Int)).toNat) (.d
 [.ptr,.rd] (Z9 (beC (rwE (taX (Yir b)).snd) (Ykg.length:Int)) 8) (.i (beX (beC (rwE (taX (Yir b)).snd) (Ykg.length:Int)) (8:Int)=0) (.w (.draw [(3,[2]),(5,
 [0]),(6,[1])]) (.d [.ptr] (Z7s (beC (beC (rwE (taX (Yir b)).snd) (Ykg.length:Int)) 8)) (.f [4,6,7,8,17,18] [.arr true 4 ((taX (Yir b)).fst.map Yfq),
 .arr true 5 ((rwR (taX (Yir b)).snd).literals.map Yfn),.arr true 5 ((rwR (taX (Yir b)).snd).patterns.map Yfn),.arr true 5 ((rwR (taX
 (Yir b)).snd).templates.map Yfn),.arr true 1 ((ayX (beC (beC (rwE (taX (Yir b)).snd) (Ykg.length:Int)) 8)).fst.scopes.map Yfr),.arr true 5 ((ayX (beC
 (beC (rwE (taX (Yir b)).snd) (Ykg.length:Int)) 8)).fst.items.map Yfn)] (.tup [.one (.ref 0),.agg [.ref 1,.ref 2,.ref 3],.agg [vI (ayX (beC (beC (rwE (taX (Yir
 b)).snd) (Ykg.length:Int)) 8)).fst.kind,vI (ayX (beC (beC (rwE (taX (Yir b)).snd) (Ykg.length:Int)) 8)).fst.number,vS (ayX (beC (beC (rwE (taX (Yir b)).snd)
 (Ykg.length:Int)) 8)).fst.text,.ref 4,.ref 5]])))) (.w (.draw [(3,[16,17]),(6,[24,12]),(9,[0]),(10,[1])]) (.c [.rd] Zfk (.p ((1+((un (Yj9
 (beX (rwE (taX (Yir b)).snd) (Ykg.length:Int)).toNat)).items.map Yfn).length) * 80<=140737488355328) (.w (.ghost (.nilbox 1 3 true 1)) (.f [4,6,7,8,28,27] [.arr true 4
 ((taX (Yir b)).fst.map Yfq),.arr true 5 ((rwR (taX (Yir b)).snd).literals.map Yfn),.arr true 5 ((rwR (taX (Yir b)).snd).patterns.map Yfn),
 .arr true 5 ((rwR (taX (Yir b)).snd).templates.map Yfn),.arr true 1 [],.arr true 5 (Yfu (un (Yg3 Yj1)) :: (un (Yj9 (beX (rwE (taX (Yir
 b)).snd) (Ykg.length:Int)).toNat)).items.map Yfn)] (.tup [.one (.ref 0),.agg [.ref 1,.ref 2,.ref 3],.agg [vI 0,vI 0,vS (ByteArray.mk #[]),.ref 4,.ref
 5]])))))))))))))) (by
 dsimp only [Yfp,Z8v]
 have o:=Y1au h
 have o0:=Yzv h
 have l1:=Yhf (ig2 b) (n:=12) (by decide)
 have f3:=@Y1j2 b
 have f4:=@Y1j7 b
 have fl:((Ykg.length:Nat):Int)=12:=rfl
 have n1:0<Ykg.length:=by decide
 have n3:Ykg.length<=1000:=by decide
 have i2:(beX (ig2 b) 12).toNat<12:=by omega
 have b1:=Y1pu _ i2
 have e1:igB b=(taX (Yir b)).1:=rfl
 have e2:igR b=rwR (taX (Yir b)).2:=rfl
 simp only [ig4,ig3,ig2,ig1] at o l1 i2 b1 f3 f4
 simp only [fl]
 with_reducible repeat' (first | apply And.intro | exact zR | (intro) | apply Za6 | apply Zce | apply Zcj | apply Z8 | apply Zay | apply Z2 | apply Zar)
 all_goals ((try simp only [std,inj] at *); with_reducible and_intros)
 all_goals try first | with_reducible (first | apply Za6 | apply Zce | apply Zcj | apply Z8 | apply Zay | apply Z2 | apply Zar) | (simp only [<- List.map_append]; with_reducible first | apply Za6 | apply Zce | apply Zcj | apply Z8 | apply Zay | apply Z2 | apply Zar)
 all_goals first
  | exact True.intro | with_reducible rfl | with_reducible assumption | exact o.1 | exact o.2.1 | exact o.2.2.1 | exact o.2.2.2 | omega | decide
  | exact ⟨o.2.1,n1,by decide⟩ | exact ⟨o.2.1,by decide⟩
  | (rw [e1]; done) | (rw [e2]; done) | (rw [f3 (by assumption)]; done) | (rw [f4 (by assumption)]; done)
  | (rw [f3 (by assumption),e2]; rfl)
  | (rw [f4 (by assumption)]; with_reducible rfl)
  | (rw [f4 (by assumption)]; unfold igU; with_reducible rfl)
  | (rw [f4 (by assumption),e2]; simp only [igU,Yhl,List.map_cons,List.map_nil,Ymh (un (Yg3 Yj1))]; first | done | rfl))
set_option maxHeartbeats 4000000
abbrev Z6d (L:List YB):Ct:=⟨215,[],[ll (L.map Yfq)],[.arr true 4 (L.map Yfq)],.sv (.one (.ref 0))⟩
def Z3v (L:List YB):Lp Nat:=.mk 28 0 (fun x=>[(3,.one (.ref 0)),(7,ll (L.map Yfq)),(8,li (↑(L.map Yfq).length:Int)),(9,hs x
 0)]) (fun x=>[ho x 1]) (fun k=>[.s (li (k:Int)),.o (.arr true 4 ((L.take k).map Yfq))]) (fun k=>k<=L.length/\L.length<=9223372036854775807) (fun k=>
 L.length - k) [.mk True (.exit 0) (fun x=>[(3,.one (.ref 0))]) (fun x=>[ho x 0]) [.o (.arr true 4 (L.map Yfq))]]
theorem Zbp (L:List YB) (h:L.length<=1048577/\sumBy wB L<=1048577):Lp.Sem Tryz.prog (Yg6 Tryz.f215 0) (Z3v L):=Ygf (fun k=>.i ((k:Int) <
 (↑(L.map Yfq).length:Int)) (.x (k:Int) (L.map Yfq) (Ygi (L.getD k default)) (.w (.draw [(11,[6]),(12,[0,18])]) (.d [.rd] (Z55 (L.getD k
 default).scopes) (.p ((((L.take k).map Yfq).length+1) * 56<=140737488355328) (.r ((k:Int)+1) (.g [19] (k+1) [.s (li ((k:Int)+1)),.o (.arr true 4
 ((L.take k).map Yfq++[Ygi (L.getD k default)]))])))))) (.o 0 [0] [.o (.arr true 4 ((L.take k).map Yfq))])) (by
 intro k h; try dsimp only [Yfp,Yg0,Z3v] at h ⊢
 have g2:=@Ygt _ wB L (L.getD k default)
 have g3:=Yt0 (L.getD k default)
 with_reducible repeat' (first | apply And.intro | exact zR | (intro) | apply Z1m)
 all_goals ((try simp only [std,inj] at *); with_reducible and_intros)
 all_goals try first | with_reducible (first | apply Z1m) | (simp only [<- List.map_append]; with_reducible first | apply Z1m)
 all_goals try first | exact z | grind [Ygg,Yfy,Yfz,Yfs,Yfx])
theorem Z3l (L:List YB) (h:L.length<=1048577/\sumBy wB L<=1048577)  : Z6d L:=Yg4 Tryz.call215 Tryz.func215 (.w (.bool false) (.z Yfq L (.l
 (Z3v L) (Zbp L h) [0] [.s (li 0),.o (.arr true 4 [])] 0 (.t (.f [0] [.arr true 4 (L.map Yfq)] (.sv (.one (.ref 0)))) .q)))) (by
 dsimp only [Yfp,Z6d,Yg0,Z3v]
 with_reducible repeat' (first | apply And.intro | exact zR | (intro) | apply Z1m)
 all_goals ((try simp only [std,inj] at *); with_reducible and_intros)
 all_goals try with_reducible first | apply Z1m
 all_goals (try exact zG))
abbrev Z5s (b:YB):Ct:=⟨212,[],[Yqj b],Y15h b,.sv (Y15f b 0)⟩
theorem Z2x (b:YB) (h:wB b<=1048577)  : Z5s b:=Yg4 Tryz.call212 Tryz.func212 (.d [.rd] (Z26 b.scopes) (.f [2] [.arr true 1 (List.map Yfr
 b.scopes)] (.sv (.agg [vS b.text,.ref 0,vI b.kind,vI b.number])))) (by
 dsimp only [Yfp,Z5s]
 have g3:=Yt0 b
 with_reducible repeat' (first | apply And.intro | exact zR | (intro) | apply Z7)
 all_goals ((try simp only [std,inj] at *); with_reducible and_intros)
 all_goals try with_reducible first | apply Z7
 all_goals (try exact zG))
set_option maxHeartbeats 4000000
abbrev Zba (L:List Int) (n:Int):Ct:=⟨129,[],[ll (L.map Yfr),li n],[],.sv (lb (decide (n∈L)))⟩
def Z5d (L:List Int) (n:Int):Lp Nat:=.mk 17 0 (fun x=>[(1,li n),(7,ll (L.map Yfr)),(8,li (↑(L.map Yfr).length:Int)),(9,hs x 0)]) (fun x=>[])
 (fun k=>[.s (li (k:Int))]) (fun k=>k<=L.length/\L.length<=9223372036854775807/\decide (n∈L.take k)=false) (fun k=>L.length - k) [.mk (decide (n∈L)=false)
 (.exit 0) (fun x=>[]) (fun x=>[]) [],.mk (decide (n∈L)=true) .ret (fun x=>[(4,hs x 0)]) (fun x=>[]) [.s (lb true)]]
theorem Zdn (L:List Int) (n:Int):Lp.Sem Tryz.prog (Yg6 Tryz.f129 0) (Z5d L n):=Ygf (fun k=>.i ((k:Int)<(↑(L.map Yfr).length:Int)) (.x (↑k :
 Int) (L.map Yfr) [cI (L.getD k 0)] (.i (L.getD k 0=n) (.o 1 [] [.s (lb true)]) (.r ((k:Int)+1) (.g [] (k+1) [.s (li ((k:Int)+1))])))) (.o 0 [] [])) (by
 intro k h; try dsimp only [Yfp,Yg0,Z5d] at h ⊢
 with_reducible repeat' (first | apply And.intro | exact zR | (intro))
 all_goals ((try simp only [std,inj] at *); with_reducible and_intros)
 all_goals try first | exact z | grind [Ygg,Yfx,Yfy,Yfz,Yfs])
theorem Zfl (L:List Int) (n:Int)  : Zba L n:=Yg4 Tryz.call129 Tryz.func129 (.z Yfr L (.l (Z5d L n) (Zdn L n) [] [.s (li 0)] 0 (.t (.s (lb false)) (.t (.s
 (lb true)) .q)))) (by
 dsimp only [Yfp,Zba,Yg0,Z5d]
 exact zV)
abbrev Z9l (L:List Int) (n:Int):Ct:=⟨172,[],[ll (L.map Yfr),li n],[],.sv (lb (decide (n∈L)))⟩
def Z4f (L:List Int) (n:Int):Lp Nat:=.mk 17 0 (fun x=>[(1,li n),(7,ll (L.map Yfr)),(8,li (↑(L.map Yfr).length:Int)),(9,hs x 0)]) (fun x=>[])
 (fun k=>[.s (li (k:Int))]) (fun k=>k<=L.length/\L.length<=9223372036854775807/\decide (n∈L.take k)=false) (fun k=>L.length - k) [.mk (decide (n∈L)=false)
 (.exit 0) (fun x=>[]) (fun x=>[]) [],.mk (decide (n∈L)=true) .ret (fun x=>[(4,hs x 0)]) (fun x=>[]) [.s (lb true)]]
theorem Zck (L:List Int) (n:Int):Lp.Sem Tryz.prog (Yg6 Tryz.f172 0) (Z4f L n):=Ygf (fun k=>.i ((k:Int)<(↑(L.map Yfr).length:Int)) (.x (↑k :
 Int) (L.map Yfr) [cI (L.getD k 0)] (.i (L.getD k 0=n) (.o 1 [] [.s (lb true)]) (.r ((k:Int)+1) (.g [] (k+1) [.s (li ((k:Int)+1))])))) (.o 0 [] [])) (by
 intro k h; try dsimp only [Yfp,Yg0,Z4f] at h ⊢
 with_reducible repeat' (first | apply And.intro | exact zR | (intro))
 all_goals ((try simp only [std,inj] at *); with_reducible and_intros)
 all_goals try first | exact z | grind [Ygg,Yfx,Yfy,Yfz,Yfs])
theorem Zf5 (L:List Int) (n:Int)  : Z9l L n:=Yg4 Tryz.call172 Tryz.func172 (.z Yfr L (.l (Z4f L n) (Zck L n) [] [.s (li 0)] 0 (.t (.s (lb false)) (.t
 (.s (lb true)) .q)))) (by
 dsimp only [Yfp,Z9l,Yg0,Z4f]
 exact zV)
def Yjf (A B:List Int):Bool:=A.all fun n=>decide (n∈B)
abbrev Zbb (A:List Int) (B:List Int):Ct:=⟨214,[],[ll (A.map Yfr),ll (B.map Yfr)],[],.sv (lb (Yjf A B))⟩
def Z5e (A:List Int) (B:List Int):Lp Nat:=.mk 18 0 (fun x=>[(1,ll (B.map Yfr)),(7,ll (A.map Yfr)),(8,li (↑(A.map Yfr).length:Int)),(9,hs
 x 0)]) (fun x=>[]) (fun k=>[.s (li (k:Int))]) (fun k=>k<=A.length/\A.length<=9223372036854775807/\Yjf (A.take k) B=true) (fun k=>A.length - k) [.mk (Yjf A
 B=true) (.exit 0) (fun x=>[]) (fun x=>[]) [],.mk (Yjf A B=false) .ret (fun x=>[(4,hs x 0)]) (fun x=>[]) [.s (lb false)]]
theorem Zdo (A:List Int) (B:List Int):Lp.Sem Tryz.prog (Yg6 Tryz.f214 0) (Z5e A B):=Ygf (fun k=>.i ((k:Int)<(↑(A.map Yfr).length:Int)) (.x
 (k:Int) (A.map Yfr) [cI (A.getD k 0)] (.c [.rd,.rd] (Zfl B (A.getD k 0)) (.b (!decide (A.getD k 0∈B)) (.o 1 [] [.s (lb false)]) (.r ((k:Int)+1) (.g [] (k+1)
 [.s (li ((k:Int)+1))]))))) (.o 0 [] [])) (by
 intro k h; try dsimp only [Yfp,Yg0,Z5e] at h ⊢
 with_reducible repeat' (first | apply And.intro | exact zR | (intro))
 all_goals ((try simp only [std,inj] at *); with_reducible and_intros)
 all_goals try first | exact z | grind [Ygg,Yfx,Yjf,Yfy,Yfz,Yfs])
theorem Zdp (A B:List Int)  : Zbb A B:=Yg4 Tryz.call214 Tryz.func214 (.z Yfr A (.l (Z5e A B) (Zdo A B) [] [.s (li 0)] 0 (.t (.s (lb true)) (.t (.s (lb
 false)) .q)))) (by
 dsimp only [Yfp,Zbb,Yg0,Z5e]
 with_reducible repeat' (first | apply And.intro | exact zR | (intro))
 all_goals ((try simp only [std,inj] at *); with_reducible and_intros)
 all_goals try first | exact z | grind [Yjf,Yfy,Yfz,Yfs])
abbrev Zbc (A:List Int) (B:List Int):Ct:=⟨211,[],[ll (A.map Yfr),ll (B.map Yfr)],[],.sv (lb (Yjf A B))⟩
def Z5f (A:List Int) (B:List Int):Lp Nat:=.mk 18 0 (fun x=>[(1,ll (B.map Yfr)),(7,ll (A.map Yfr)),(8,li (↑(A.map Yfr).length:Int)),(9,hs
 x 0)]) (fun x=>[]) (fun k=>[.s (li (k:Int))]) (fun k=>k<=A.length/\A.length<=9223372036854775807/\Yjf (A.take k) B=true) (fun k=>A.length - k) [.mk (Yjf A
 B=true) (.exit 0) (fun x=>[]) (fun x=>[]) [],.mk (Yjf A B=false) .ret (fun x=>[(4,hs x 0)]) (fun x=>[]) [.s (lb false)]]
theorem Zdq (A:List Int) (B:List Int):Lp.Sem Tryz.prog (Yg6 Tryz.f211 0) (Z5f A B):=Ygf (fun k=>.i ((k:Int)<(↑(A.map Yfr).length:Int)) (.x
 (k:Int) (A.map Yfr) [cI (A.getD k 0)] (.c [.rd,.rd] (Zf5 B (A.getD k 0)) (.b (!decide (A.getD k 0∈B)) (.o 1 [] [.s (lb false)]) (.r ((k:Int)+1) (.g [] (k+1)
 [.s (li ((k:Int)+1))]))))) (.o 0 [] [])) (by
 intro k h; try dsimp only [Yfp,Yg0,Z5f] at h ⊢
 with_reducible repeat' (first | apply And.intro | exact zR | (intro))
 all_goals ((try simp only [std,inj] at *); with_reducible and_intros)
 all_goals try first | exact z | grind [Ygg,Yfx,Yjf,Yfy,Yfz,Yfs])
theorem Zbd (A B:List Int)  : Zbc A B:=Yg4 Tryz.call211 Tryz.func211 (.z Yfr A (.l (Z5f A B) (Zdq A B) [] [.s (li 0)] 0 (.t (.s (lb true)) (.t (.s (lb
 false)) .q)))) (by
 dsimp only [Yfp,Zbc,Yg0,Z5f]
 with_reducible repeat' (first | apply And.intro | exact zR | (intro))
 all_goals ((try simp only [std,inj] at *); with_reducible and_intros)
 all_goals try first | exact z | grind [Yjf,Yfy,Yfz,Yfs])
def Ynk (t:ByteArray) (s:List Int) (b:YB):Bool:=decide (b.text=t)&&Yjf b.scopes s
def cnd (L:List YB) (t:ByteArray) (s:List Int):List YB:=L.filter (Ynk t s)
theorem Y13t {L:List YB} {t:ByteArray} {s:List Int} {k:Nat} (h:k<L.length):cnd (L.take (k+1)) t s=if Ynk t s (L.getD k default)=true then cnd (L.take k) t s++[L.getD k default] else cnd (L.take k) t s:=by
 unfold cnd; rw [Ygg h,List.filter_append]
 by_cases e:Ynk t s (L.getD k default)=true
 ·rw [if_pos e,List.filter_cons_of_pos e]; rfl
 ·rw [if_neg e,List.filter_cons_of_neg e]; simp
theorem Y1lj (L:List YB) (t:ByteArray) (s:List Int) (k:Nat):(cnd (L.take k) t s).length<=k:=by
 have h1:=List.length_filter_le (Ynk t s) (L.take k)
 have h2:(L.take k).length<=k:=by rw [List.length_take]; exact Nat.min_le_left _ _
 unfold cnd; omega
abbrev Z6w (L:List YB) (y:YS):Ct:=⟨213,[],[ll (L.map Yfq),Ygb y],[],.sv (ll ((cnd L y.text y.scopes).map Yfq))⟩
def Z4g (L:List YB) (y:YS):Lp Nat:=.mk 33 0 (fun x=>[(3,.one (.ptr 0 0)),(5,.one (.ref 1)),(9,ll (L.map Yfq)),(10,li (↑(List.map
 Yfq L).length:Int)),(11,hs x 0)]) (fun x=>[.box (vals (Yfu y)),ho x 1]) (fun k=>[.s (li (k:Int)),.o (.arr false 4 ((cnd (L.take k)
 y.text y.scopes).map Yfq))]) (fun k=>k<=L.length/\L.length<=9223372036854775807) (fun k=>L.length - k) [.mk True (.exit 0) (fun x=>[(5,.one (.ref 0))]) (fun x=>[ho x 0])
 [.o (.arr false 4 ((cnd L y.text y.scopes).map Yfq))]]
theorem Zcl (L:List YB) (y:YS) (h:L.length<=1048577):Lp.Sem Tryz.prog (Yg6 Tryz.f213 0) (Z4g L y):=Ygf (fun k=>.i ((k:Int)<(↑(List.map
 Yfq L).length:Int)) (.x (k:Int) (L.map Yfq) (Ygi (L.getD k default)) (.i ((L.getD k default).text.data.toList=y.text.data.toList) (.c [.rd,.rd] (Zdp
 (L.getD k default).scopes y.scopes) (.b (Yjf (L.getD k default).scopes y.scopes) (.p ((((cnd (L.take k) y.text y.scopes).map Yfq).length+1) * 56 <=
 140737488355328) (.r ((k:Int)+1) (.g [0,4] (k+1) [.s (li ((k:Int)+1)),.o (.arr false 4 ((cnd (L.take k) y.text y.scopes).map Yfq++[Ygi
 (L.getD k default)]))]))) (.r ((k:Int)+1) (.g [0,1] (k+1) [.s (li ((k:Int)+1)),.o (.arr false 4 ((cnd (L.take k) y.text y.scopes).map Yfq))])))) (.y
 false (.r ((k:Int)+1) (.g [0,1] (k+1) [.s (li ((k:Int)+1)),.o (.arr false 4 ((cnd (L.take k) y.text y.scopes).map Yfq))]))))) (.o 0 [1] [.o (.arr
 false 4 ((cnd (L.take k) y.text y.scopes).map Yfq))])) (by
 intro k h; try dsimp only [Yfp,Yg0,Z4g] at h ⊢
 have g1:=@Y13t L y.text y.scopes k
 have g2:=Y1lj L y.text y.scopes k
 have g3:L.length<=k->L.take k=L:=fun h=>List.take_of_length_le h
 with_reducible repeat' (first | apply And.intro | exact zR | (intro))
 all_goals ((try simp only [std,inj] at *); with_reducible and_intros)
 all_goals try first | exact z | grind [Ynk,Ykr,Yfy,Yfz,Yfs])
theorem Z4q (L:List YB) (y:YS) (h:L.length<=1048577)  : Z6w L y:=Yg4 Tryz.call213 Tryz.func213 (.w (.bool true) (.z Yfq L (.l (Z4g L y)
 (Zcl L y h) [0,1] [.s (li 0),.o (.arr false 4 [])] 0 (.t (.w (.ghost (.lock 0)) (.s (ll ((cnd L y.text y.scopes).map Yfq)))) .q)))) (by
 dsimp only [Yfp,Z6w,Yg0,Z4g]
 have g1:cnd (L.take 0) y.text y.scopes=[]:=rfl
 exact zV)
def Yly (a b:YB):YB:=if a.scopes.length<b.scopes.length then b else a
def Yi0 (C:List YB):YB:=C.foldl Yly (C.getD 0 default)
theorem Y1gb (x:YB):Yi0 [x]=x:=by simp [Yi0,Yly]
theorem Y11q {C:List YB} (x:YB) (h:C≠[]):Yi0 (C++[x])=Yly (Yi0 C) x:=by
 cases C with
 | nil=>exact absurd rfl h
 | cons a r=>simp only [Yi0,List.foldl_append]; rfl
def amb (C:List YB):Bool:=C.all fun b=>Yjf b.scopes (Yi0 C).scopes
def rsC (L:List YB) (t:ByteArray) (s:List Int):Int:=if cnd L t s=[] then 0 else if amb (cnd L t s)=true then 1 else 2
def rsB (L:List YB) (t:ByteArray) (s:List Int):YB:=if rsC L t s=1 then Yi0 (cnd L t s) else ⟨mkS [],[],0,0⟩
theorem Y1hx {C:List YB}:∀ (a:YB),C.foldl Yly a=a ∨ C.foldl Yly a∈C:=by
 induction C with
 | nil=>intro a; exact .inl rfl
 | cons x r ih=>
  intro a
  rw [List.foldl_cons]
  rcases ih (Yly a x) with h | h
  ·rw [h]; unfold Yly; split
   ·exact .inr List.mem_cons_self
   ·exact .inl rfl
  ·exact .inr (List.mem_cons_of_mem _ h)
theorem Y1gl {C:List YB} (h:C≠[]):Yi0 C∈C:=by
 cases C with
 | nil=>exact absurd rfl h
 | cons a r=>
  rcases Y1hx (C:=a :: r) ((a :: r).getD 0 default) with h | h
  ·unfold Yi0; rw [h]; exact List.mem_cons_self
  ·exact h
theorem Y1pg (L:List YB) (t:ByteArray) (s:List Int):sumBy wB (cnd L t s)<=sumBy wB L:=by
 induction L with
 | nil=>exact Nat.le_refl _
 | cons x r ih=>
  unfold cnd at ih ⊢
  by_cases e:Ynk t s x=true
  ·rw [List.filter_cons_of_pos e]; simp only [sumBy]; omega
  ·rw [List.filter_cons_of_neg e]; simp only [sumBy]; omega
theorem Y1fv {L:List YB} {t:ByteArray} {s:List Int} (h:cnd L t s≠[]):wB (Yi0 (cnd L t s))<=sumBy wB L:=by
 have h1:=Ygt wB (Y1gl h)
 have h2:=Y1pg L t s
 omega
theorem Y1ih {C:List YB} {k:Nat} (hk:k<C.length) (h:Yjf (C.getD k default).scopes (Yi0 C).scopes=false):amb C=false:=by
 unfold amb; rw [List.all_eq_false]; exact ⟨_,Yfx hk,by rw [h]; decide⟩
def Yxg (C:List YB) (k:Nat):Bool:=(C.take k).all fun b=>Yjf b.scopes (Yi0 C).scopes
theorem Y1d6 {C:List YB} {k:Nat} (hk:k<C.length) (h0:Yxg C k=true) (h:Yjf (C.getD k default).scopes (Yi0 C).scopes=true):Yxg C (k+1)=true:=by
 unfold Yxg at *; rw [Ygg hk,List.all_append,h0]; simpa using h
theorem Y1i6 {C:List YB} {k:Nat} (hk:C.length<=k) (h0:Yxg C k=true):amb C=true:=by
 unfold Yxg at h0; rwa [List.take_of_length_le hk] at h0
abbrev Z6e (L:List YB) (y:YS):Ct:=⟨170,[],[ll (L.map Yfq),Ygb y],[],.tup [Yqj (rsB L y.text y.scopes),li (rsC L y.text y.scopes)]⟩
def Z5g (L:List YB) (y:YS):Lp Nat:=.mk 56 0 (fun x=>[(4,.one (.ptr 0 0)),(7,.one (.ptr 1 0)),(37,ll ((cnd L y.text
 y.scopes).map Yfq)),(38,li (↑((cnd L y.text y.scopes).map Yfq).length:Int)),(39,hs x 0)]) (fun x=>[.box [vS (ByteArray.mk #[]),.val (.lit (.slice none 0
 0)),vI 0,vI 0],.box (vals (Ygi (Yi0 (cnd L y.text y.scopes))))]) (fun k=>[.s (li (k:Int))]) (fun k=>k<=(cnd L y.text y.scopes).length/\(cnd L y.text
 y.scopes).length<=9223372036854775807/\0<(cnd L y.text y.scopes).length/\Yxg (cnd L y.text y.scopes) k=true) (fun k=>(cnd L y.text y.scopes).length - k) [.mk (amb (cnd L
 y.text y.scopes)=true) (.exit 2) (fun x=>[(4,.one (.ptr 0 0)),(7,.one (.ptr 1 0))]) (fun x=>[.box [vS (ByteArray.mk #[]),.val (.lit (.slice none 0
 0)),vI 0,vI 0],.box (vals (Ygi (Yi0 (cnd L y.text y.scopes))))]) [],.mk (amb (cnd L y.text y.scopes)=false) .ret (fun x=>[(4,.one (.ptr 0 0)),(5,hs x 1)])
 (fun x=>[ho x 0]) [.o (.box [vS (mkS []),.val (.lit (.slice none 0 0)),vI 0,vI 0]),.s (li 2)]]
def Z5h (L:List YB) (y:YS):Lp Nat:=.mk 56 0 (fun x=>[(4,.one (.ptr 0 0)),(6,ll ((cnd L y.text y.scopes).map Yfq)),(7,.one (.ptr 1
 0)),(22,ll ((cnd L y.text y.scopes).map Yfq)),(23,li (↑((cnd L y.text y.scopes).map Yfq).length:Int)),(24,hs x 0)]) (fun x=>[.box [vS (ByteArray.mk
 #[]),.val (.lit (.slice none 0 0)),vI 0,vI 0],ho x 1]) (fun k=>[.s (li (k:Int)),.o (.box (vals (Ygi (List.foldl Yly ((cnd L y.text y.scopes).getD 0
 default) (List.take k (cnd L y.text y.scopes))))))]) (fun k=>k<=(cnd L y.text y.scopes).length/\(cnd L y.text y.scopes).length<=9223372036854775807/\0<(cnd L y.text
 y.scopes).length) (fun k=>(cnd L y.text y.scopes).length - k) [.mk True (.exit 0) (fun x=>[(4,.one (.ptr 0 0)),(6,ll ((cnd L y.text y.scopes).map Yfq)),(7,
 .one (.ptr 1 0))]) (fun x=>[.box [vS (ByteArray.mk #[]),.val (.lit (.slice none 0 0)),vI 0,vI 0],ho x 0]) [.o (.box (vals (Ygi (Yi0 (cnd L y.text
 y.scopes)))))]]
theorem Zdr (L:List YB) (y:YS) (h:L.length<=1048577/\sumBy wB L<=1048577):Lp.Sem Tryz.prog (Yg6 Tryz.f170 1) (Z5g L y):=Ygf (fun k=>.i ((↑k
 : Int)<(↑((cnd L y.text y.scopes).map Yfq).length:Int)) (.x (k:Int) ((cnd L y.text y.scopes).map Yfq) (Ygi ((cnd L y.text y.scopes).getD k
 default)) (.c [.rd,.rd] (Zdp ((cnd L y.text y.scopes).getD k default).scopes (Yi0 (cnd L y.text y.scopes)).scopes) (.b (!Yjf ((cnd L y.text y.scopes).getD k default).scopes
 (Yi0 (cnd L y.text y.scopes)).scopes) (.o 1 [0] [.o (.box [vS (ByteArray.mk #[]),.val (.lit (.slice none 0 0)),vI 0,vI 0]),.s (li 2)]) (.r ((k:Int)+1) (.g
 [0,1] (k+1) [.s (li ((k:Int)+1))]))))) (.o 0 [0,1] [])) (by
 intro k h; try dsimp only [Yfp,Yg0,Z5g] at h ⊢
 have g1:=@Y1ih (cnd L y.text y.scopes) k
 have g2:=@Y1d6 (cnd L y.text y.scopes) k
 have g3:=@Y1i6 (cnd L y.text y.scopes) k
 with_reducible repeat' (first | apply And.intro | exact zR | (intro) | apply Z4q | apply Z3l)
 all_goals ((try simp only [std,inj] at *); with_reducible and_intros)
 all_goals try with_reducible first | apply Z4q | apply Z3l
 all_goals (try exact zG))
theorem Zds (L:List YB) (y:YS) (h:L.length<=1048577/\sumBy wB L<=1048577):Lp.Sem Tryz.prog (Yg6 Tryz.f170 0) (Z5h L y):=Ygf (fun k=>.i ((↑k
 : Int)<(↑((cnd L y.text y.scopes).map Yfq).length:Int)) (.x (k:Int) ((cnd L y.text y.scopes).map Yfq) (Ygi ((cnd L y.text y.scopes).getD k
 default)) (.z Yfr ((cnd L y.text y.scopes).getD k default).scopes (.z Yfr (List.foldl Yly ((cnd L y.text y.scopes).getD 0 default) (List.take k (cnd L y.text y.scopes))).scopes
 (.i ((↑((List.foldl Yly ((cnd L y.text y.scopes).getD 0 default) (List.take k (cnd L y.text y.scopes))).scopes.map Yfr).length:Int)<(↑(((cnd L y.text
 y.scopes).getD k default).scopes.map Yfr).length:Int)) (.r ((k:Int)+1) (.g [0,1] (k+1) [.s (li ((k:Int)+1)),.o (.box (vals (Ygi ((cnd L y.text y.scopes).getD k
 default))))])) (.r ((k:Int)+1) (.g [0,1] (k+1) [.s (li ((k:Int)+1)),.o (.box (vals (Ygi (List.foldl Yly ((cnd L y.text y.scopes).getD 0 default) (List.take k
 (cnd L y.text y.scopes))))))])))))) (.o 0 [0,1] [.o (.box (vals (Ygi (List.foldl Yly ((cnd L y.text y.scopes).getD 0 default) (List.take k (cnd L y.text y.scopes))))))]))
 (by
 intro k h; try dsimp only [Yfp,Yg0,Z5h] at h ⊢
 have g1:=@Ymc _ _ _ Yly ((cnd L y.text y.scopes).getD 0 default) (cnd L y.text y.scopes) k
 have g2:∀ a b,Yly a b=if a.scopes.length<b.scopes.length then b else a:=fun _ _=>rfl
 have g3:(cnd L y.text y.scopes).length<=k->(cnd L y.text y.scopes).take k=cnd L y.text y.scopes:=fun h=>List.take_of_length_le h
 have g4:Yi0 (cnd L y.text y.scopes)=(cnd L y.text y.scopes).foldl Yly ((cnd L y.text y.scopes).getD 0 default):=rfl
 with_reducible repeat' (first | apply And.intro | exact zR | (intro) | apply Z4q | apply Z3l)
 all_goals ((try simp only [std,inj] at *); with_reducible and_intros)
 all_goals try with_reducible first | apply Z4q | apply Z3l
 all_goals (try exact zG))
theorem Zdt (L:List YB) (y:YS) (h:L.length<=1048577/\sumBy wB L<=1048577)  : Z6e L y:=Yg4 Tryz.call170 Tryz.func170 (.d [.rd,.rd] (Z6w L y) (.z
 Yfq (cnd L y.text y.scopes) (.i ((↑((cnd L y.text y.scopes).map Yfq).length:Int)=0) (.w (.ghost (.nilbox 1 1 true 1)) (.w (.ghost (.lock 2)) (.f [] [] (.tup
 [.agg [vS (ByteArray.mk #[]),vL [],vI 0,vI 0],li 0])))) (.w (.cells (Ygi ((cnd L y.text y.scopes).getD 0 default))) (.p ((0:Int)<=0/\((cnd L
 y.text y.scopes).map Yfq)[0]? = some (Ygi ((cnd L y.text y.scopes).getD 0 default))) (.z Yfq (cnd L y.text y.scopes) (.l (Z5h L y) (Zds L y h) [1,2] [.s (li 0),.o
 (.box (vals (Ygi ((cnd L y.text y.scopes).getD 0 default))))] 0 (.t (.z Yfq (cnd L y.text y.scopes) (.l (Z5g L y) (Zdr L y h) [0,1] [.s (li 0)] 0 (.t (.d
 [.rd] (Z6d [Yi0 (cnd L y.text y.scopes)]) (.p ((0:Int)<=0/\0<1) (.w (.cells (Ygi (Yi0 (cnd L y.text y.scopes)))) (.p (some (Ygi (Yi0 (cnd L y.text
 y.scopes)))=some (Ygi (Yi0 (cnd L y.text y.scopes)))) (.w (.ghost (.lock 3)) (.f [] [] (.tup [.agg (vals (Ygi (Yi0 (cnd L y.text y.scopes)))),li 1]))))))) (.t
 (.w (.ghost (.nilbox 0 1 true 1)) (.w (.ghost (.lock 1)) (.f [] [] (.tup [.agg [vS (mkS []),vL [],vI 0,vI 0],li 2])))) .q)))) .q)))))))) (by
 dsimp only [Yfp,Z6e,Yg0,Z5h,Z5g]
 have g1:0<(cnd L y.text y.scopes).length->cnd L y.text y.scopes≠[]:=fun h=>List.length_pos_iff.1 h
 have g2:(cnd L y.text y.scopes).length=0->cnd L y.text y.scopes=[]:=fun h=>List.length_eq_zero_iff.1 h
 have g3:=@Y1fv L y.text y.scopes
 have g4:rsC L y.text y.scopes=if cnd L y.text y.scopes=[] then 0 else if amb (cnd L y.text y.scopes)=true then 1 else 2:=rfl
 have g5:rsC L y.text y.scopes=1->rsB L y.text y.scopes=Yi0 (cnd L y.text y.scopes):=fun h=>if_pos h
 have g6:¬ rsC L y.text y.scopes=1->rsB L y.text y.scopes=⟨mkS [],[],0,0⟩:=fun h=>if_neg h
 have g7:Yxg (cnd L y.text y.scopes) 0=true:=rfl
 have g8:∀ b:YB,[b].getD 0 default=b:=fun b=>rfl
 have g9:sumBy wB [Yi0 (cnd L y.text y.scopes)]=wB (Yi0 (cnd L y.text y.scopes)):=rfl
 have p1:¬ rsC L y.text y.scopes=1->SV.agg [vS (mkS []),vL [],vI 0,vI 0]=SV.agg (vals (Ygi (rsB L y.text y.scopes))):=fun h=>by rw [g6 h]; rfl
 have p2:rsC L y.text y.scopes=1->SV.agg [vS (Yi0 (cnd L y.text y.scopes)).text,vL ((Yi0 (cnd L y.text y.scopes)).scopes.map Yfr),vI (Yi0 (cnd L y.text y.scopes)).kind,vI (Yi0 (cnd L y.text y.scopes)).number]=SV.agg (vals (Ygi (rsB L y.text y.scopes))):=fun h=>by rw [g5 h]; rfl
 with_reducible repeat' (first | apply And.intro | exact zR | (intro) | apply Z4q | apply Z3l)
 all_goals ((try simp only [std,inj] at *); with_reducible and_intros)
 all_goals try with_reducible first | apply Z4q | apply Z3l
 all_goals (try exact zG))
def bsI (L:List YB) (t:ByteArray) (s:List Int):Nat->Int
 | 0 => -1
 | k+1=>if Ynk t s (L.getD k default)=true/\(bsI L t s k<0 ∨ (L.getD (bsI L t s k).toNat default).scopes.length<(L.getD k default).scopes.length) then (k:Int) else bsI L t s k
theorem Yye (L:List YB) (t:ByteArray) (s:List Int):∀ k,k<=L.length -> -1<=bsI L t s k/\bsI L t s k<k/\(bsI L t s k<0 ↔ cnd (L.take k) t s=[])/\(0<=bsI L t s k->L.getD (bsI L t s k).toNat default=Yi0 (cnd (L.take k) t s))
 | 0,_=>by simp [bsI,cnd]
 | k+1,hk=>by
  obtain ⟨h1,h2,h3,h4⟩:=Yye L t s k (by omega)
  have e:=@Y13t L t s k (by omega)
  simp only [bsI]
  by_cases c:Ynk t s (L.getD k default)=true
  ·rw [if_pos c] at e
   by_cases c2:bsI L t s k<0
   ·rw [if_pos ⟨c,.inl c2⟩,e,h3.1 c2]
    refine ⟨by omega,by omega,⟨fun h=>by omega,fun h=>by simp at h⟩,fun _ => ?_⟩
    rw [Int.toNat_natCast,List.nil_append,Y1gb]
   ·have hne:cnd (L.take k) t s≠[]:=fun h=>c2 (h3.2 h)
    have hb:=h4 (by omega)
    by_cases c3:(L.getD (bsI L t s k).toNat default).scopes.length<(L.getD k default).scopes.length
    ·rw [if_pos ⟨c,.inr c3⟩,e]
     refine ⟨by omega,by omega,⟨fun h=>by omega,fun h=>by simp at h⟩,fun _ => ?_⟩
     rw [Int.toNat_natCast,Y11q _ hne,Yly,if_pos (by rw [<- hb]; exact c3)]
    ·rw [if_neg (by rintro ⟨_,h | h⟩ <;> contradiction),e]
     refine ⟨h1,by omega,⟨fun h=>absurd h c2,fun h=>by simp at h⟩,fun _ => ?_⟩
     rw [Y11q _ hne,Yly,if_neg (by rw [<- hb]; exact c3)]; exact hb
  ·rw [if_neg (fun h=>c h.1),e,if_neg c]
   exact ⟨h1,by omega,h3,h4⟩
def Yxp (L:List YB) (t:ByteArray) (s:List Int) (k:Nat):Bool:=(L.take k).all fun b => !Ynk t s b||Yjf b.scopes (Yi0 (cnd L t s)).scopes
theorem Y1d4 {L:List YB} {t:ByteArray} {s:List Int} {k:Nat} (hk:k<L.length) (h0:Yxp L t s k=true) (h:Ynk t s (L.getD k default)=false ∨ Yjf (L.getD k default).scopes (Yi0 (cnd L t s)).scopes=true):Yxp L t s (k+1)=true:=by
 unfold Yxp at *; rw [Ygg hk,List.all_append,h0]; simpa using h
theorem Y1ht {L:List YB} {t:ByteArray} {s:List Int} {k:Nat} (hk:L.length<=k) (h0:Yxp L t s k=true):amb (cnd L t s)=true:=by
 unfold Yxp at h0; rw [List.take_of_length_le hk,List.all_eq_true] at h0
 unfold amb; rw [List.all_eq_true]
 intro x hx
 have h1:=List.mem_filter.1 hx
 have:=h0 x h1.1
 rw [h1.2] at this; simpa using this
theorem Y1dr {L:List YB} {t:ByteArray} {s:List Int} {k:Nat} (hk:k<L.length) (h1:Ynk t s (L.getD k default)=true) (h:Yjf (L.getD k default).scopes (Yi0 (cnd L t s)).scopes=false):amb (cnd L t s)=false:=by
 unfold amb; rw [List.all_eq_false]; exact ⟨_,List.mem_filter.2 ⟨Yfx hk,h1⟩,by rw [h]; decide⟩
abbrev Z6f (L:List YB) (y:YS):Ct:=⟨167,[],[ll (L.map Yfq),Ygb y],Y15h (rsB L y.text y.scopes),.tup [Y15f (rsB L y.text y.scopes) 0,li (rsC L y.text y.scopes)]⟩
def Z5i (L:List YB) (y:YS):Lp Nat:=.mk 87 0 (fun x=>[(0,ll (L.map Yfq)),(3,.one (.ptr 0 0)),(4,.one (.ptr 1 0)),(6,li (bsI L
 y.text y.scopes L.length)),(51,ll (L.map Yfq)),(52,li (↑(L.map Yfq).length:Int)),(53,hs x 0)]) (fun x=>[.box (vals (Yfu y)),.box [vS
 (ByteArray.mk #[]),.val (.lit (.slice none 0 0)),vI 0,vI 0]]) (fun k=>[.s (li (k:Int))]) (fun k=>k<=L.length/\L.length<=9223372036854775807/\0<=bsI L
 y.text y.scopes L.length/\Yxp L y.text y.scopes k=true) (fun k=>L.length - k) [.mk (amb (cnd L y.text y.scopes)=true) (.exit 2) (fun x=>[(0,ll (L.map Yfq)),
 (4,.one (.ptr 0 0)),(6,li (bsI L y.text y.scopes L.length))]) (fun x=>[.box [vS (ByteArray.mk #[]),.val (.lit (.slice none 0 0)),vI 0,vI 0]]) [],.mk (amb
 (cnd L y.text y.scopes)=false) .ret (fun x=>[(4,.one (.ptr 0 0)),(5,hs x 1)]) (fun x=>[ho x 0]) [.o (.box [vS (mkS []),.val (.lit (.slice none 0 0)),vI
 0,vI 0]),.s (li 2)]]
def Z5j (L:List YB) (y:YS):Lp Nat:=.mk 87 0 (fun x=>[(0,ll (L.map Yfq)),(3,.one (.ptr 0 0)),(4,.one (.ptr 1 0)),(6,hs x 1),(11,
 ll (L.map Yfq)),(12,li (↑(L.map Yfq).length:Int)),(13,hs x 0)]) (fun x=>[.box (vals (Yfu y)),.box [vS (ByteArray.mk #[]),.val (.lit
 (.slice none 0 0)),vI 0,vI 0]]) (fun k=>[.s (li (k:Int)),.s (li (bsI L y.text y.scopes k))]) (fun k=>k<=L.length/\L.length<=9223372036854775807) (fun k=>
 L.length - k) [.mk True (.exit 0) (fun x=>[(0,ll (L.map Yfq)),(3,.one (.ptr 0 0)),(4,.one (.ptr 1 0)),(6,hs x 0)]) (fun x=>[.box (vals (Yfu y)),
 .box [vS (ByteArray.mk #[]),.val (.lit (.slice none 0 0)),vI 0,vI 0]]) [.s (li (bsI L y.text y.scopes L.length))]]
theorem Zdu (L:List YB) (y:YS) (h:L.length<=1048577/\sumBy wB L<=1048577):Lp.Sem Tryz.prog (Yg6 Tryz.f167 1) (Z5i L y):=Ygf (fun k=>.i ((↑k
 : Int)<(↑(L.map Yfq).length:Int)) (.x (k:Int) (L.map Yfq) (Ygi (L.getD k default)) (.w (.draw []) (.i ((L.getD k default).text.data.toList =
 y.text.data.toList) (.c [.rd,.rd] (Zbd (L.getD k default).scopes y.scopes) (.b (Yjf (L.getD k default).scopes y.scopes) (.x (bsI L y.text y.scopes L.length) (List.map
 Yfq L) (Ygi (L.getD (bsI L y.text y.scopes L.length).toNat default)) (.c [.rd,.rd] (Zbd (L.getD k default).scopes (L.getD (bsI L y.text y.scopes L.length).toNat
 default).scopes) (.b (!Yjf (L.getD k default).scopes (L.getD (bsI L y.text y.scopes L.length).toNat default).scopes) (.o 1 [1] [.o (.box [vS (ByteArray.mk #[]),.val
 (.lit (.slice none 0 0)),vI 0,vI 0]),.s (li 2)]) (.r ((k:Int)+1) (.g [0,1] (k+1) [.s (li ((k:Int)+1))]))))) (.y false (.r ((k:Int)+1) (.g [0,1] (k +
 1) [.s (li ((k:Int)+1))]))))) (.y false (.y false (.r ((k:Int)+1) (.g [0,1] (k+1) [.s (li ((k:Int)+1))]))))))) (.o 0 [1] [])) (by
 intro k h; try dsimp only [Yfp,Yg0,Z5i] at h ⊢
 have g1:=Yye L y.text y.scopes L.length
 have g2:L.take L.length=L:=List.take_length
 have g3:=@Y1d4 L y.text y.scopes k
 have g4:=@Y1ht L y.text y.scopes k
 have g5:=@Y1dr L y.text y.scopes k
 with_reducible repeat' (first | apply And.intro | exact zR | (intro) | apply Z2x)
 all_goals ((try simp only [std,inj] at *); with_reducible and_intros)
 all_goals try with_reducible first | apply Z2x
 all_goals try first | exact z | grind [Ynk,Ykr,Yfy,Yfz,Yfs])
theorem Zdv (L:List YB) (y:YS) (h:L.length<=1048577/\sumBy wB L<=1048577):Lp.Sem Tryz.prog (Yg6 Tryz.f167 0) (Z5j L y):=Ygf (fun k=>.i ((↑k
 : Int)<(↑(L.map Yfq).length:Int)) (.x (k:Int) (L.map Yfq) (Ygi (L.getD k default)) (.w (.draw []) (.i ((L.getD k default).text.data.toList =
 y.text.data.toList) (.c [.rd,.rd] (Zbd (L.getD k default).scopes y.scopes) (.b (Yjf (L.getD k default).scopes y.scopes) (.i (bsI L y.text y.scopes k<0) (.y true (.r ((↑k :
 Int)+1) (.g [0,1] (k+1) [.s (li ((k:Int)+1)),.s (li (k:Int))]))) (.x (bsI L y.text y.scopes k) (L.map Yfq) (Ygi (L.getD (bsI L y.text y.scopes
 k).toNat default)) (.z Yfr (L.getD k default).scopes (.z Yfr (L.getD (bsI L y.text y.scopes k).toNat default).scopes (.i ((↑((L.getD (bsI L y.text y.scopes
 k).toNat default).scopes.map Yfr).length:Int)<(↑((L.getD k default).scopes.map Yfr).length:Int)) (.r ((k:Int)+1) (.g [0,1] (k+1) [.s (li ((k:Int)+1)),.s (li (↑k
 : Int))])) (.r ((k:Int)+1) (.g [0,1] (k+1) [.s (li ((k:Int)+1)),.s (li (bsI L y.text y.scopes k))]))))))) (.y false (.r ((k:Int)+1) (.g [0,1] (k+1) [.s (li
 ((k:Int)+1)),.s (li (bsI L y.text y.scopes k))]))))) (.y false (.y false (.r ((k:Int)+1) (.g [0,1] (k+1) [.s (li ((k:Int)+1)),.s (li (bsI L y.text y.scopes
 k))]))))))) (.o 0 [0,1] [.s (li (bsI L y.text y.scopes k))])) (by
 intro k h; try dsimp only [Yfp,Yg0,Z5j] at h ⊢
 have g1:=Yye L y.text y.scopes k
 have g2:bsI L y.text y.scopes (k+1)=if Ynk y.text y.scopes (L.getD k default)=true/\(bsI L y.text y.scopes k<0 ∨ (L.getD (bsI L y.text y.scopes k).toNat default).scopes.length<(L.getD k default).scopes.length) then (k:Int) else bsI L y.text y.scopes k:=rfl
 with_reducible repeat' (first | apply And.intro | exact zR | (intro) | apply Z2x)
 all_goals ((try simp only [std,inj] at *); with_reducible and_intros)
 all_goals try with_reducible first | apply Z2x
 all_goals try first | exact z | grind [Ynk,Ykr,Yfy,Yfz,Yfs])
theorem Zdw (L:List YB) (y:YS) (h:L.length<=1048577/\sumBy wB L<=1048577)  : Z6f L y:=Yg4 Tryz.call167 Tryz.func167 (.z Yfq L (.l (Z5j L y)
 (Zdv L y h) [0,1] [.s (li 0),.s (li (-1:Int))] 0 (.t (.i (bsI L y.text y.scopes L.length<0) (.w (.ghost (.nilbox 1 1 true 1)) (.f [2] [.arr true 1 []] (.tup
 [.agg [vS (ByteArray.mk #[]),.ref 0,vI 0,vI 0],li 0]))) (.z Yfq L (.l (Z5i L y) (Zdu L y h) [0,1] [.s (li 0)] 0 (.t (.x (bsI L y.text y.scopes L.length)
 (L.map Yfq) (Ygi (L.getD (bsI L y.text y.scopes L.length).toNat default)) (.d [.rd] (Z5s (L.getD (bsI L y.text y.scopes L.length).toNat default)) (.f [1]
 [.arr true 1 ((L.getD (bsI L y.text y.scopes L.length).toNat default).scopes.map Yfr)] (.tup [.agg [vS (L.getD (bsI L y.text y.scopes L.length).toNat default).text,
 .ref 0,vI (L.getD (bsI L y.text y.scopes L.length).toNat default).kind,vI (L.getD (bsI L y.text y.scopes L.length).toNat default).number],li 1])))) (.t (.w (.ghost (.nilbox 0
 1 true 1)) (.f [1] [.arr true 1 []] (.tup [.agg [vS (mkS []),.ref 0,vI 0,vI 0],li 2]))) .q))))) .q))) (by
 dsimp only [Yfp,Z6f,Yg0,Z5j,Z5i]
 have g1:=Yye L y.text y.scopes L.length
 have g2:L.take L.length=L:=List.take_length
 have g3:=@Y1fv L y.text y.scopes
 have g4:rsC L y.text y.scopes=if cnd L y.text y.scopes=[] then 0 else if amb (cnd L y.text y.scopes)=true then 1 else 2:=rfl
 have g5:rsC L y.text y.scopes=1->rsB L y.text y.scopes=Yi0 (cnd L y.text y.scopes):=fun h=>if_pos h
 have g6:¬ rsC L y.text y.scopes=1->rsB L y.text y.scopes=⟨mkS [],[],0,0⟩:=fun h=>if_neg h
 have g7:Yxp L y.text y.scopes 0=true:=rfl
 have g8:bsI L y.text y.scopes 0 = -1:=rfl
 with_reducible repeat' (first | apply And.intro | exact zR | (intro) | apply Z2x)
 all_goals ((try simp only [std,inj] at *); with_reducible and_intros)
 all_goals try with_reducible first | apply Z2x
 all_goals (try exact zG))
def mng (L:List YB) (a b:YS):Bool:=if rsC L a.text a.scopes=0/\rsC L b.text b.scopes=0 then decide (a.text=b.text) else decide (rsC L a.text a.scopes=1)&&decide (rsC L b.text b.scopes=1)&&decide ((rsB L a.text a.scopes).kind=(rsB L b.text b.scopes).kind)&&decide ((rsB L a.text a.scopes).number=(rsB L b.text b.scopes).number)
abbrev Z6x (L:List YB) (a:YS) (b:YS):Ct:=⟨98,[],[ll (L.map Yfq),Ygb a,Ygb b],[],.sv (lb (mng L a b))⟩
theorem Z8w (L:List YB) (a b:YS) (h:L.length<=1048577/\sumBy wB L<=1048577)  : Z6x L a b:=Yg4 Tryz.call98 Tryz.func98 (.d [.rd,.rd] (Z6e L a) (.d
 [.rd,.rd] (Z6e L b) (.i (rsC L a.text a.scopes=0) (.i (rsC L b.text b.scopes=0) (.s (lb (decide (a.text.data.toList=b.text.data.toList)))) (.i (rsC L a.text a.scopes =
 1) (.i (rsC L b.text b.scopes=1) (.i ((rsB L a.text a.scopes).kind=(rsB L b.text b.scopes).kind) (.s (lb (decide ((rsB L a.text a.scopes).number=(rsB L b.text
 b.scopes).number)))) (.s (lb false))) (.y false (.s (lb false)))) (.y false (.y false (.s (lb false)))))) (.y false (.i (rsC L a.text a.scopes=1) (.i (rsC L b.text b.scopes=1)
 (.i ((rsB L a.text a.scopes).kind=(rsB L b.text b.scopes).kind) (.s (lb (decide ((rsB L a.text a.scopes).number=(rsB L b.text b.scopes).number)))) (.s (lb false))) (.y false
 (.s (lb false)))) (.y false (.y false (.s (lb false))))))))) (by
 dsimp only [Yfp,Z6x]
 with_reducible repeat' (first | apply And.intro | exact zR | (intro) | apply Zdt)
 all_goals ((try simp only [std,inj] at *); with_reducible and_intros)
 all_goals try with_reducible first | apply Zdt
 all_goals try first | exact z | grind [mng,Ykr,Yfy,Yfz,Yfs])
abbrev Z6y (L:List YB) (a:YS) (b:YS):Ct:=⟨90,[],[ll (L.map Yfq),Ygb a,Ygb b],[],.sv (lb (mng L a b))⟩
theorem Zc3 (L:List YB) (a b:YS) (h:L.length<=1048577/\sumBy wB L<=1048577)  : Z6y L a b:=Yg4 Tryz.call90 Tryz.func90 (.d [.rd,.rd] (Z6f L a) (.d
 [.rd,.rd] (Z6f L b) (.i (rsC L a.text a.scopes=1) (.i (rsC L b.text b.scopes=1) (.i ((rsB L a.text a.scopes).kind=(rsB L b.text b.scopes).kind) (.s (lb (decide ((rsB L
 a.text a.scopes).number=(rsB L b.text b.scopes).number)))) (.s (lb false))) (.i (rsC L a.text a.scopes=0) (.i (rsC L b.text b.scopes=0) (.s (lb (decide (a.text.data.toList =
 b.text.data.toList)))) (.s (lb false))) (.y false (.s (lb false))))) (.y false (.i (rsC L a.text a.scopes=0) (.i (rsC L b.text b.scopes=0) (.s (lb (decide (a.text.data.toList
 = b.text.data.toList)))) (.s (lb false))) (.y false (.s (lb false)))))))) (by
 dsimp only [Yfp,Z6y]
 with_reducible repeat' (first | apply And.intro | exact zR | (intro) | apply Zdw)
 all_goals ((try simp only [std,inj] at *); with_reducible and_intros)
 all_goals try with_reducible first | apply Zdw
 all_goals try first | exact z | grind [mng,Ykr,Yfy,Yfz,Yfs])
def Yp7 (p f:YS):YC:=⟨p,0,f,[]⟩
mutual
/-- the variables of a pattern,in their order -/
def nm (H:YS->Bool) (A:List YS->Int):YS->Int->List YC
 | ⟨k,n,t,s,l⟩,d=>if k=1 then (if Yh8 ⟨k,n,t,s,l⟩=true ∨ H ⟨k,n,t,s,l⟩=true then [] else [Ynw ⟨k,n,t,s,l⟩ d]) else if k=0 then nms H A l 0 (A l) d else []
def nms (H:YS->Bool) (A:List YS->Int):List YS->Int->Int->Int->List YC
 | [],_,_,_=>[]
 | x :: r,i,a,d=>(if i=a then [] else nm H A x (if i+1=a then d+1 else d))++nms H A r (i+1) a d
end
theorem Yl2 (H:YS->Bool) (A:List YS->Int) (p:YS) (d:Int):nm H A p d=if p.kind=1 then (if Yh8 p=true ∨ H p=true then [] else [Ynw p d]) else if p.kind=0 then nms H A p.items 0 (A p.items) d else []:=by cases p; simp only [nm]
def upC (x:YC):YC:=⟨x.name,x.depth+1,x.form,x.each⟩
def rp (V:List YC) (R:List (List YC)):List YC:=(List.range V.length).map fun i=>⟨(V.getD i default).name,(V.getD i default).depth,(V.getD i default).form,(V.getD i default).each++R.map fun c=>c.getD i default⟩
theorem Yl8 (V:List YC) (R:List (List YC)):(rp V R).length=V.length:=by simp [rp]
def mtr (g:YS->Option (List YC)):List YS->Option (List (List YC))
 | []=>some []
 | f :: r=>match g f with
  | none=>none
  | some c=>match mtr g r with
   | none=>none
   | some R=>some (c :: R)
def Yli (a:Int) (n m:Nat):Int:=if 0<=a then (m:Int) - ((n:Int) - 2) else 0
def Yqk (a:Int) (l:List YS) (f:YS):Bool:=decide (f.kind=0)&&decide (0<=Yli a l.length f.items.length)&&(decide (0<=a)||decide (f.items.length=l.length))
mutual
/-- a match: what is captured -/
def mt (M:YS->YS->Bool) (H:YS->Bool) (A:List YS->Int):YS->YS->Option (List YC)
 | ⟨k,n,t,s,l⟩,f=>if k=1 then (if Yh8 ⟨k,n,t,s,l⟩=true then some [] else if H ⟨k,n,t,s,l⟩=true then (if f.kind=1/\M ⟨k,n,t,s,l⟩ f=true then some [] else none) else some [Yp7 ⟨k,n,t,s,l⟩ f])
  else if k=0 then (if Yqk (A l) l f=true then mts M H A l 0 (A l) (Yli (A l) l.length f.items.length).toNat f.items else none)
  else if f.kind=k/\f.number=n/\f.text=t then some [] else none
def mts (M:YS->YS->Bool) (H:YS->Bool) (A:List YS->Int):List YS->Int->Int->Nat->List YS->Option (List YC)
 | [],_,_,_,_=>some []
 | x :: r,i,a,m,fs=>if i=a then mts M H A r (i+1) a m fs
  else if i+1=a then (match mtr (mt M H A x) (fs.take m) with
   | none=>none
   | some R=>match mts M H A r (i+1) a m (fs.drop m) with
    | none=>none
    | some c=>some (rp (nm H A x 1) R++c))
  else match mt M H A x (fs.getD 0 default) with
   | none=>none
   | some c=>match mts M H A r (i+1) a m (fs.drop 1) with
    | none=>none
    | some d=>some (c++d)
end
theorem Yji (M:YS->YS->Bool) (H:YS->Bool) (A:List YS->Int) (p f:YS):mt M H A p f=if p.kind=1 then (if Yh8 p=true then some [] else if H p=true then (if f.kind=1/\M p f=true then some [] else none) else some [Yp7 p f])
  else if p.kind=0 then (if Yqk (A p.items) p.items f=true then mts M H A p.items 0 (A p.items) (Yli (A p.items) p.items.length f.items.length).toNat f.items else none)
  else if f.kind=p.kind/\f.number=p.number/\f.text=p.text then some [] else none:=by cases p; simp only [mt]
theorem Y18v (H:YS->Bool) (A:List YS->Int):∀ (l:List YS),(∀ x∈l,∀ d,nm H A x (d+1)=(nm H A x d).map upC)->∀ i a d,nms H A l i a (d+1)=(nms H A l i a d).map upC
 | [],_,i,a,d=>by simp [nms]
 | x :: r,h,i,a,d=>by
  simp only [nms,List.map_append,Y18v H A r (fun y hy=>h y (List.mem_cons_of_mem _ hy))]
  congr 1
  split
  ·rfl
  ·split
   ·exact h x List.mem_cons_self (d+1)
   ·exact h x List.mem_cons_self d
theorem Y1fg (H:YS->Bool) (A:List YS->Int):∀ (p:YS) (d:Int),nm H A p (d+1)=(nm H A p d).map upC:=by
 intro p
 refine YS.ind (P:=fun p=>∀ d,nm H A p (d+1)=(nm H A p d).map upC) (fun p ih d => ?_) p
 rw [Yl2,Yl2]
 split
 ·split
  ·rfl
  ·rfl
 ·split
  ·exact Y18v H A p.items ih 0 _ d
  ·rfl
theorem Y18u {M:YS->YS->Bool} {H:YS->Bool} {A:List YS->Int}:∀ (l:List YS),(∀ x∈l,∀ f c,mt M H A x f=some c->c.length=(nm H A x 0).length)->∀ i a m fs c,mts M H A l i a m fs=some c->c.length=(nms H A l i a 0).length
 | [],_,i,a,m,fs,c,e=>by simp only [mts,Option.some.injEq] at e; subst e; simp [nms]
 | x :: r,h,i,a,m,fs,c,e=>by
  have ih:=Y18u r (fun y hy=>h y (List.mem_cons_of_mem _ hy)) (i+1) a m
  simp only [mts] at e
  simp only [nms]
  split at e
  ·rename_i hi; rw [if_pos hi]; simpa using ih _ _ e
  ·rename_i hi
   rw [if_neg hi]
   split at e
   ·rename_i hi2
    rw [if_pos hi2]
    split at e
    ·cases e
    ·split at e
     ·cases e
     ·rename_i c' hc
      simp only [Option.some.injEq] at e; subst e
      rw [List.length_append,List.length_append,Yl8,ih _ _ hc]; rfl
   ·rename_i hi2
    rw [if_neg hi2]
    split at e
    ·cases e
    ·rename_i c1 h1
     split at e
     ·cases e
     ·rename_i c' hc
      simp only [Option.some.injEq] at e; subst e
      rw [List.length_append,List.length_append,h x List.mem_cons_self _ _ h1,ih _ _ hc]
theorem Y13r {M:YS->YS->Bool} {H:YS->Bool} {A:List YS->Int}:∀ (p f:YS) (c:List YC),mt M H A p f=some c->c.length=(nm H A p 0).length:=by
 intro p
 refine YS.ind (P:=fun p=>∀ f c,mt M H A p f=some c->c.length=(nm H A p 0).length) (fun p ih f c e => ?_) p
 rw [Yji] at e
 rw [Yl2]
 split at e
 ·rename_i hk
  rw [if_pos hk]
  split at e
  ·rename_i hu; simp only [Option.some.injEq] at e; subst e; rw [if_pos (.inl hu)]
  ·rename_i hu
   split at e
   ·rename_i hh
    split at e
    ·simp only [Option.some.injEq] at e; subst e; rw [if_pos (.inr hh)]
    ·cases e
   ·rename_i hh
    simp only [Option.some.injEq] at e; subst e
    rw [if_neg (by simp [hu,hh])]; rfl
 ·rename_i hk
  rw [if_neg hk]
  split at e
  ·rename_i h0
   rw [if_pos h0]
   split at e
   ·exact Y18u p.items ih _ _ _ _ _ e
   ·cases e
  ·rename_i h0
   rw [if_neg h0]
   split at e
   ·simp only [Option.some.injEq] at e; subst e; rfl
   ·cases e
theorem Y187 (H:YS->Bool) (A:List YS->Int) (p:YS):(nm H A p 1).length=(nm H A p 0).length:=by
 have:=Y1fg H A p 0
 rw [show (0:Int)+1=1 from rfl] at this
 rw [this,List.length_map]
def aS (l:List YS):Int:=if okS l=true then atS l else -1
theorem Y1ew {Ls:List YS}:∀ (l:List YS),(∀ x∈l,∀ d o r,vrS Ls x d o=some r->r=o++nm (Ygw Ls) aS x d)->∀ i a d o r,wlk (vrS Ls) l i a d o=some r->r=o++nms (Ygw Ls) aS l i a d
 | [],_,i,a,d,o,r,e=>by simp only [wlk,Option.some.injEq] at e; subst e; simp [nms]
 | x :: l,h,i,a,d,o,r,e=>by
  have ih:=Y1ew l fun y hy=>h y (List.mem_cons_of_mem _ hy)
  simp only [wlk] at e
  simp only [nms]
  split at e
  ·rename_i hi; rw [if_pos hi,ih _ _ _ _ _ e]; rfl
  ·rename_i hi
   rw [if_neg hi]
   split at e
   ·cases e
   ·rename_i o1 h1
    rw [ih _ _ _ _ _ e,h x List.mem_cons_self _ _ _ h1,List.append_assoc]
theorem Y1ck {Ls:List YS}:∀ (p:YS),okY p=true->∀ d o r,vrS Ls p d o=some r->r=o++nm (Ygw Ls) aS p d:=by
 refine YS.ind fun p ih h d o r e => ?_
 rw [Yla] at e
 rw [Yl2]
 split at e
 ·rename_i hk
  rw [if_pos hk]
  split at e
  ·rename_i hu; simp only [Option.some.injEq] at e; subst e; rw [if_pos hu]; simp
  ·rename_i hu
   rw [if_neg hu]
   split at e
   ·cases e
   ·simp only [Option.some.injEq] at e; exact e.symm
 ·rename_i hk
  rw [if_neg hk]
  split at e
  ·rename_i hs
   by_cases h0:p.kind=0
   ·rw [if_pos h0]
    have ha:aS p.items=atS p.items:=if_pos hs
    rw [ha]
    exact Y1ew p.items (fun x hx=>ih x hx (Yjd h x hx)) _ _ _ _ _ e
   ·rw [if_neg h0]
    rw [Y163 h hk h0] at e
    simp only [wlk,Option.some.injEq] at e; subst e; simp
  ·cases e
theorem Yvq (L:List YC) (q:YS):0<=fnd L q ↔ Yfw q=false/\L.any (Yjn q)=true:=by
 have h1:Yks L q<L.length ↔ L.any (Yjn q)=true:=by
  unfold Yks
  rw [List.findIdx_lt_length,List.any_eq_true]
 unfold fnd
 constructor
 ·intro h
  split at h
  ·rename_i hc; exact ⟨hc.1,h1.1 hc.2⟩
  ·omega
 ·rintro ⟨h2,h3⟩
  rw [if_pos ⟨h2,h1.2 h3⟩]; omega
theorem Y12w {Ls:List YS}:∀ (l:List YS),(∀ x∈l,∀ d o r,vrS Ls x d o=some r->∀ d' o',d'<=d->(∀ q,0<=fnd o' q->0<=fnd o q)->∃ r',vrS Ls x d' o'=some r'/\∀ q,0<=fnd r' q->0<=fnd r q) ->
  ∀ i a d o r,wlk (vrS Ls) l i a d o=some r->∀ d' o',d'<=d->(∀ q,0<=fnd o' q->0<=fnd o q)->∃ r',wlk (vrS Ls) l i a d' o'=some r'/\∀ q,0<=fnd r' q->0<=fnd r q
 | [],_,i,a,d,o,r,e,d',o',hd,ho=>by simp only [wlk,Option.some.injEq] at e ⊢; subst e; exact ⟨o',rfl,ho⟩
 | x :: l,h,i,a,d,o,r,e,d',o',hd,ho=>by
  have ih:=Y12w l fun y hy=>h y (List.mem_cons_of_mem _ hy)
  simp only [wlk] at e ⊢
  split at e
  ·rename_i hi; rw [if_pos hi]; exact ih _ _ _ _ _ e _ _ hd ho
  ·rename_i hi
   rw [if_neg hi]
   split at e
   ·cases e
   ·rename_i o1 h1
    obtain ⟨r1,e1,e2⟩:=h x List.mem_cons_self _ _ _ h1 (if i+1=a then d'+1 else d') o' (by split <;> omega) ho
    rw [e1]
    exact ih _ _ _ _ _ e _ _ hd e2
theorem Y165 {Ls:List YS}:∀ (p:YS) (d:Int) (o r:List YC),vrS Ls p d o=some r->∀ d' o',d'<=d->(∀ q,0<=fnd o' q->0<=fnd o q)->∃ r',vrS Ls p d' o'=some r'/\∀ q,0<=fnd r' q->0<=fnd r q:=by
 refine YS.ind fun p ih d o r e d' o' hd ho => ?_
 rw [Yla] at e ⊢
 split at e
 ·rename_i hk
  rw [if_pos hk]
  split at e
  ·rename_i hu; simp only [Option.some.injEq] at e; subst e; rw [if_pos hu]; exact ⟨o',rfl,ho⟩
  ·rename_i hu
   rw [if_neg hu]
   split at e
   ·cases e
   ·rename_i hb
    simp only [Option.some.injEq] at e; subst e
    rw [if_neg (fun hc=>hb (hc.imp id (Or.imp (ho p) (fun h=>by omega))))]
    refine ⟨_,rfl,fun q hq => ?_⟩
    rw [Yvq] at hq ⊢
    refine ⟨hq.1,?_⟩
    rw [List.any_append,Bool.or_eq_true] at hq ⊢
    rcases hq.2 with h1 | h1
    ·exact .inl ((Yvq o q).1 (ho q ((Yvq o' q).2 ⟨hq.1,h1⟩))).2
    ·exact .inr h1
 ·rename_i hk
  rw [if_neg hk]
  split at e
  ·rename_i hs
   rw [if_pos hs]
   exact Y12w p.items ih _ _ _ _ _ e _ _ hd ho
  ·cases e
theorem Yx9 {f:YS->Int->List YC->Option (List YC)}:∀ (l:List YS) (i a d:Int) (o r:List YC),wlk f l i a d o=some r->∀ k:Nat,k<l.length->i+k≠a ->
  ∃ o' r',f (l.getD k default) (if i+k+1=a then d+1 else d) o'=some r'
 | [],i,a,d,o,r,e,k,hk,_=>by simp at hk
 | x :: l,i,a,d,o,r,e,k,hk,hne=>by
  simp only [wlk] at e
  cases k with
  | zero=>
   split at e
   ·rename_i hi; exact absurd hi (by simpa using hne)
   ·split at e
    ·cases e
    ·rename_i o1 h1
     exact ⟨o,o1,by simpa using h1⟩
  | succ k=>
   have hk':k<l.length:=by simpa using hk
   have e1:i+((k+1:Nat):Int)=i+1+(k:Int):=by omega
   have:∃ o2 r2,wlk f l (i+1) a d o2=some r2:=by
    split at e
    ·exact ⟨_,_,e⟩
    ·split at e
     ·cases e
     ·exact ⟨_,_,e⟩
   obtain ⟨o2,r2,e2⟩:=this
   rw [e1] at hne ⊢
   simpa using Yx9 l (i+1) a d o2 r2 e2 k hk' hne
def good (Ls:List YS) (p:YS):Prop:=okY p=true/\∃ d o r,0<=d/\vrS Ls p d o=some r
theorem Ys2 {Ls:List YS} {p:YS} (h:good Ls p) (h0:p.kind=0):okS p.items=true:=by
 obtain ⟨_,d,o,r,_,e⟩:=h
 rw [Yla,if_neg (by omega)] at e
 cases hs:okS p.items with
 | true=>rfl
 | false=>rw [hs,if_neg (by simp)] at e; cases e
theorem Yn4 {Ls:List YS} {p:YS} (h:good Ls p) (h0:p.kind=0) {k:Nat} (hk:k<p.items.length) (hne:(k:Int)≠aS p.items):good Ls (p.items.getD k default):=by
 have hs:=Ys2 h h0
 obtain ⟨hy,d,o,r,hd,e⟩:=h
 refine ⟨Yjd hy _ (Yfx hk),?_⟩
 rw [Yla,if_neg (by omega),if_pos hs] at e
 have ha:aS p.items=atS p.items:=if_pos hs
 rw [ha] at hne
 obtain ⟨o',r',e'⟩:=Yx9 p.items 0 _ d o r e k hk (by omega)
 exact ⟨_,o',r',by split <;> omega,e'⟩
theorem Yti {Ls:List YS} {p:YS} (h:good Ls p) (h0:p.kind=0) {k:Nat} (hk:k<p.items.length) (ha:(k:Int)+1=aS p.items) :
  vrS Ls (p.items.getD k default) 0 []=some (nm (Ygw Ls) aS (p.items.getD k default) 0)/\vrS Ls (p.items.getD k default) 1 []=some (nm (Ygw Ls) aS (p.items.getD k default) 1):=by
 have hs:=Ys2 h h0
 obtain ⟨hy,d,o,r,hd,e⟩:=h
 have hy':=Yjd hy _ (Yfx hk)
 rw [Yla,if_neg (by omega),if_pos hs] at e
 have ha':aS p.items=atS p.items:=if_pos hs
 rw [ha'] at ha
 obtain ⟨o',r',e'⟩:=Yx9 p.items 0 _ d o r e k hk (by omega)
 rw [if_pos (by omega)] at e'
 have hn:∀ q,0<=fnd [] q->0<=fnd o' q:=fun q hq=>by rw [Yvq] at hq; simp at hq
 obtain ⟨r0,e0,_⟩:=Y165 _ _ _ _ e' 0 [] (by omega) hn
 obtain ⟨r1,e1,_⟩:=Y165 _ _ _ _ e' 1 [] (by omega) hn
 refine ⟨?_,?_⟩
 ·rw [e0]; exact congrArg some (by simpa using Y1ck _ hy' _ _ _ e0)
 ·rw [e1]; exact congrArg some (by simpa using Y1ck _ hy' _ _ _ e1)
theorem Y1cz {g g':YS->Option (List YC)} (h:∀ f,g f=g' f) (L:List YS):mtr g L=mtr g' L:=by rw [funext h]
theorem Y14h {M : YS -> YS -> Bool} {H H' : YS -> Bool} {A A' : List YS -> Int} {a : Int} : ∀ (l : List YS) (i : Int), (∀ k : Nat, k < l.length -> i + k ≠ a -> (∀ f, mt M H A (l.getD k default) f = mt M H' A' (l.getD k default) f) /\
      nm H A (l.getD k default) 1 = nm H' A' (l.getD k default) 1) -> ∀ m fs, mts M H A l i a m fs = mts M H' A' l i a m fs
  | [], i, _, m, fs => by simp only [mts]
  | x :: r, i, h, m, fs => by
    have ih := Y14h (a := a) r (i + 1) (fun k hk hne => by
      have := h (k + 1) (by simpa using hk) (by omega)
      simpa using this)
    simp only [mts, ih]
    by_cases hi : i = a
    · rw [if_pos hi, if_pos hi]
    · obtain ⟨h1, h2⟩ := h 0 (by simp) (by simpa using hi)
      simp only [List.getD_cons_zero] at h1 h2
      rw [if_neg hi, if_neg hi, Y1cz h1, h2, h1]
theorem Y14p {H H':YS->Bool} {A A':List YS->Int} {a:Int}:∀ (l:List YS) (i:Int),(∀ k:Nat,k<l.length->i+k≠a->∀ d,nm H A (l.getD k default) d=nm H' A' (l.getD k default) d)->∀ d,nms H A l i a d=nms H' A' l i a d
 | [],i,_,d=>by simp only [nms]
 | x :: r,i,h,d=>by
  have ih:=Y14p (a:=a) r (i+1) (fun k hk hne=>by
   have:=h (k+1) (by simpa using hk) (by omega)
   simpa using this)
  simp only [nms,ih]
  by_cases hi:i=a
  ·rw [if_pos hi,if_pos hi]
  ·have h1:=h 0 (by simp) (by simpa using hi)
   simp only [List.getD_cons_zero] at h1
   rw [if_neg hi,if_neg hi,h1]
theorem Y19k {M:YS->YS->Bool} {Ls:List YS} (hL:∀ x∈Ls,Yip x=true):∀ p:YS,good Ls p->(∀ f,mt M (Ygw Ls) aS p f=mt M (Yi6 Ls) atI p f)/\∀ d,nm (Ygw Ls) aS p d=nm (Yi6 Ls) atI p d:=by
 refine YS.ind fun p ih hg => ?_
 by_cases hk:p.kind=1
 ·have hh:=Y12c hL hk
  refine ⟨fun f => ?_,fun d => ?_⟩
  ·rw [Yji,Yji,if_pos hk,if_pos hk,hh]
  ·rw [Yl2,Yl2,if_pos hk,if_pos hk,hh]
 ·by_cases h0:p.kind=0
  ·have hs:=Ys2 hg h0
   have e1:aS p.items=atI p.items:=by rw [(Y15c hs).1]; exact if_pos hs
   have hit:∀ k:Nat,k<p.items.length->(0:Int)+k≠atI p.items->(∀ f,mt M (Ygw Ls) aS (p.items.getD k default) f=mt M (Yi6 Ls) atI (p.items.getD k default) f)/\∀ d,nm (Ygw Ls) aS (p.items.getD k default) d=nm (Yi6 Ls) atI (p.items.getD k default) d:=
    fun k hk' hne=>ih _ (Yfx hk') (Yn4 hg h0 hk' (by rw [e1]; omega))
   refine ⟨fun f => ?_,fun d => ?_⟩
   ·rw [Yji,Yji,if_neg hk,if_neg hk,if_pos h0,if_pos h0,e1,Y14h p.items 0 fun k hk' hne=>⟨(hit k hk' hne).1,(hit k hk' hne).2 1⟩]
   ·rw [Yl2,Yl2,if_neg hk,if_neg hk,if_pos h0,if_pos h0,e1,Y14p p.items 0 fun k hk' hne=>(hit k hk' hne).2]
  ·refine ⟨fun f => ?_,fun d => ?_⟩
   ·rw [Yji,Yji,if_neg hk,if_neg hk,if_neg h0,if_neg h0]
   ·rw [Yl2,Yl2,if_neg hk,if_neg hk,if_neg h0,if_neg h0]
theorem Y14b {H:YS->Bool} {A:List YS->Int}:∀ (l:List YS),(∀ x∈l,∀ d,(nm H A x d).length<=Yft x)->∀ i a d,(nms H A l i a d).length<=sumBy Yft l
 | [],_,i,a,d=>by simp [nms]
 | x :: r,h,i,a,d=>by
  have ih:=Y14b r (fun y hy=>h y (List.mem_cons_of_mem _ hy)) (i+1) a d
  simp only [nms,List.length_append,sumBy]
  split
  ·simp only [List.length_nil]; omega
  ·have:=h x List.mem_cons_self (if i+1=a then d+1 else d); omega
theorem Yrw (H:YS->Bool) (A:List YS->Int):∀ (p:YS) (d:Int),(nm H A p d).length<=Yft p:=by
 intro p
 refine YS.ind (P:=fun p=>∀ d,(nm H A p d).length<=Yft p) (fun p ih d => ?_) p
 have hz:=Ygo p
 rw [Yl2]
 split
 ·split
  ·simp
  ·simp only [List.length_singleton]; omega
 ·split
  ·have:=Y14b p.items ih 0 (A p.items) d; omega
  ·simp
def rws (g:YS->Option (List YC)) (fs:List YS) (k:Nat):Nat->List (List YC) × Bool
 | 0=>([],true)
 | j+1=>if (rws g fs k j).2=true then (match g (fs.getD (k+j) default) with | some c=>((rws g fs k j).1++[c],true) | none=>((rws g fs k j).1,false)) else rws g fs k j
theorem Y10i {g:YS->Option (List YC)} {fs:List YS} {k:Nat}:∀ j,(rws g fs k j).2=true->(rws g fs k j).1.length=j
 | 0,_=>rfl
 | j+1,h=>by
  simp only [rws] at h ⊢
  split at h
  ·rename_i hj
   rw [if_pos hj]
   split at h
   ·rename_i c hc; rw [List.length_append,Y10i j hj,List.length_singleton]
   ·cases h
  ·rename_i hj; exact absurd h hj
theorem Ysu {g:YS->Option (List YC)} {fs:List YS} {k j:Nat} (h:(rws g fs k j).2=false):∀ n,rws g fs k (j+n)=rws g fs k j
 | 0=>rfl
 | n+1=>by
  have ih:=Ysu h n
  rw [<- Nat.add_assoc]
  simp only [rws,ih,h]
  simp
theorem Ywx {g:YS->Option (List YC)} {fs:List YS} {k j:Nat} {c:List YC} (h:(rws g fs k j).2=true) (hc:g (fs.getD (k+j) default)=some c):rws g fs k (j+1)=((rws g fs k j).1++[c],true):=by
 simp only [rws]; rw [if_pos h,hc]
theorem Yxf {g:YS->Option (List YC)} {fs:List YS} {k j:Nat} (h:(rws g fs k j).2=true) (hc:g (fs.getD (k+j) default)=none):rws g fs k (j+1)=((rws g fs k j).1,false):=by
 simp only [rws]; rw [if_pos h,hc]
theorem Y16w (g:YS->Option (List YC)):∀ (L:List YS) (x:YS),mtr g (L++[x])=match mtr g L with | none=>none | some R=>match g x with | none=>none | some c=>some (R++[c])
 | [],x=>by cases h:g x <;> simp [mtr,h]
 | y :: L,x=>by
  simp only [List.cons_append,mtr,Y16w g L x]
  cases g y with
  | none=>rfl
  | some c=>
   cases mtr g L with
   | none=>rfl
   | some R=>cases g x <;> rfl
theorem Y10z {g:YS->Option (List YC)} {fs:List YS} {k:Nat}:∀ j,k+j<=fs.length->mtr g ((fs.drop k).take j)=if (rws g fs k j).2=true then some (rws g fs k j).1 else none
 | 0,_=>by simp [mtr,rws]
 | j+1,h=>by
  have hj:j<(fs.drop k).length:=by rw [List.length_drop]; omega
  have e:(fs.drop k).getD j default=fs.getD (k+j) default:=by simp [List.getD_eq_getElem?_getD,List.getElem?_drop]
  rw [Ygg hj,Y16w,Y10z j (by omega),e]
  by_cases hr:(rws g fs k j).2=true
  ·rw [if_pos hr]
   cases hg:g (fs.getD (k+j) default) with
   | none=>rw [Yxf hr hg]; rfl
   | some c=>rw [Ywx hr hg]; rfl
  ·have hr':(rws g fs k j).2=false:=by simpa using hr
   rw [if_neg hr,Ysu hr' 1,if_neg hr]
def flM (x:YS) (L:List YC):List YC:=if x.kind=0 then [] else L
def sA (g:YS->YS->Option (List YC)) (N:YS->List YC) (l fs:List YS) (a:Int) (m:Nat) (o:List YC):Nat->List YC × Nat × Bool
 | 0=>(o,0,true)
 | i+1=>if (sA g N l fs a m o i).2.2=true then (if (i:Int)=a then sA g N l fs a m o i
   else if (i:Int)+1=a then ((sA g N l fs a m o i).1++rp (N (l.getD i default)) (rws (g (l.getD i default)) fs (sA g N l fs a m o i).2.1 m).1,
    (sA g N l fs a m o i).2.1+(if (rws (g (l.getD i default)) fs (sA g N l fs a m o i).2.1 m).2=true then m else (rws (g (l.getD i default)) fs (sA g N l fs a m o i).2.1 m).1.length+1),
    (rws (g (l.getD i default)) fs (sA g N l fs a m o i).2.1 m).2)
   else match g (l.getD i default) (fs.getD (sA g N l fs a m o i).2.1 default) with
    | some c=>((sA g N l fs a m o i).1++c,(sA g N l fs a m o i).2.1+1,true)
    | none=>(flM (l.getD i default) (sA g N l fs a m o i).1,(sA g N l fs a m o i).2.1+1,false))
  else sA g N l fs a m o i
section
variable {g:YS->YS->Option (List YC)} {N:YS->List YC} {l fs:List YS} {a:Int} {m:Nat} {o:List YC}
def oA (g:YS->YS->Option (List YC)) (N:YS->List YC) (l fs:List YS) (a:Int) (m:Nat) (o:List YC) (i:Nat):List YC:=(sA g N l fs a m o i).1
def kA (g:YS->YS->Option (List YC)) (N:YS->List YC) (l fs:List YS) (a:Int) (m:Nat) (o:List YC) (i:Nat):Nat:=(sA g N l fs a m o i).2.1
def bA (g:YS->YS->Option (List YC)) (N:YS->List YC) (l fs:List YS) (a:Int) (m:Nat) (o:List YC) (i:Nat):Bool:=(sA g N l fs a m o i).2.2
theorem Y1lg:oA g N l fs a m o 0=o/\kA g N l fs a m o 0=0/\bA g N l fs a m o 0=true:=⟨rfl,rfl,rfl⟩
theorem Y18g {i:Nat} (h:bA g N l fs a m o i=true) (e:(i:Int)=a):oA g N l fs a m o (i+1)=oA g N l fs a m o i/\kA g N l fs a m o (i+1)=kA g N l fs a m o i/\bA g N l fs a m o (i+1)=true:=by
 have e1:sA g N l fs a m o (i+1)=sA g N l fs a m o i:=by
  have h':(sA g N l fs a m o i).2.2=true:=h
  simp only [sA]; rw [if_pos h',if_pos e]
 unfold oA kA bA at *; rw [e1]; exact ⟨rfl,rfl,h⟩
theorem Y151 {i:Nat} (h:bA g N l fs a m o i=true) (e:¬ (i:Int)=a) (e2:¬ (i:Int)+1=a) {c:Option (List YC)} (hc:g (l.getD i default) (fs.getD (kA g N l fs a m o i) default)=c) :
  oA g N l fs a m o (i+1)=c.elim (flM (l.getD i default) (oA g N l fs a m o i)) (fun c=>oA g N l fs a m o i++c)/\kA g N l fs a m o (i+1)=kA g N l fs a m o i+1/\bA g N l fs a m o (i+1)=c.isSome:=by
 have h':(sA g N l fs a m o i).2.2=true:=h
 have hc':g (l.getD i default) (fs.getD (sA g N l fs a m o i).2.1 default)=c:=hc
 cases c with
 | some c=>
  have e1:sA g N l fs a m o (i+1)=((sA g N l fs a m o i).1++c,(sA g N l fs a m o i).2.1+1,true):=by
   simp only [sA]; rw [if_pos h',if_neg e,if_neg e2,hc']
  unfold oA kA bA; rw [e1]; exact ⟨rfl,rfl,rfl⟩
 | none=>
  have e1:sA g N l fs a m o (i+1)=(flM (l.getD i default) (sA g N l fs a m o i).1,(sA g N l fs a m o i).2.1+1,false):=by
   simp only [sA]; rw [if_pos h',if_neg e,if_neg e2,hc']
  unfold oA kA bA; rw [e1]; exact ⟨rfl,rfl,rfl⟩
theorem Y1eg {i : Nat} (h : bA g N l fs a m o i = true) (e2 : (i : Int) + 1 = a) {k : Nat} (hk : kA g N l fs a m o i = k) {R : List (List YC) × Bool} (hR : rws (g (l.getD i default)) fs k m = R) :
    oA g N l fs a m o (i + 1) = oA g N l fs a m o i ++ rp (N (l.getD i default)) R.1 /\ kA g N l fs a m o (i + 1) = k + (if R.2 = true then m else R.1.length + 1) /\ bA g N l fs a m o (i + 1) = R.2 := by
  subst hk; subst hR
  have e1 : sA g N l fs a m o (i + 1) = ((sA g N l fs a m o i).1 ++ rp (N (l.getD i default)) (rws (g (l.getD i default)) fs (sA g N l fs a m o i).2.1 m).1,
        (sA g N l fs a m o i).2.1 + (if (rws (g (l.getD i default)) fs (sA g N l fs a m o i).2.1 m).2 = true then m else (rws (g (l.getD i default)) fs (sA g N l fs a m o i).2.1 m).1.length + 1),
        (rws (g (l.getD i default)) fs (sA g N l fs a m o i).2.1 m).2) := by
    have h' : (sA g N l fs a m o i).2.2 = true := h
    simp only [sA]; rw [if_pos h', if_neg (by omega), if_pos e2]
  unfold oA kA bA; rw [e1]; exact ⟨rfl, rfl, rfl⟩
theorem Y19m {i:Nat} (h:bA g N l fs a m o i=false):∀ n,sA g N l fs a m o (i+n)=sA g N l fs a m o i
 | 0=>rfl
 | n+1=>by
  have ih:=Y19m h n
  rw [<- Nat.add_assoc]
  have h':(sA g N l fs a m o i).2.2=false:=h
  simp only [sA,ih,h']
  simp
theorem Y1ct {i n:Nat} (h:bA g N l fs a m o i=false) (hn:i<=n):oA g N l fs a m o n=oA g N l fs a m o i/\kA g N l fs a m o n=kA g N l fs a m o i/\bA g N l fs a m o n=false:=by
 have:=Y19m h (n - i)
 rw [show i+(n - i)=n by omega] at this
 unfold oA kA bA at *; rw [this]; exact ⟨rfl,rfl,h⟩
end
def kF (a:Int) (m i:Nat):Int:=if a<0 ∨ (i:Int)<a then i else if (i:Int)=a then a - 1+m else (i:Int) - 2+m
section
variable {M:YS->YS->Bool} {H:YS->Bool} {A:List YS->Int} {l fs:List YS} {a:Int} {m:Nat} {o:List YC}
theorem Y183 (ha : 0 <= a -> 1 <= a /\ a < l.length /\ (fs.length : Int) = l.length - 2 + m) (hb : a < 0 -> fs.length = l.length) : ∀ i, i <= l.length -> (bA (mt M H A) (fun x => nm H A x 1) l fs a m o i = true ->
      (kA (mt M H A) (fun x => nm H A x 1) l fs a m o i : Int) = kF a m i /\ ∃ c, oA (mt M H A) (fun x => nm H A x 1) l fs a m o i = o ++ c /\ c.length <= sumBy Yft (l.take i) /\
        mts M H A l 0 a m fs = (mts M H A (l.drop i) i a m (fs.drop (kA (mt M H A) (fun x => nm H A x 1) l fs a m o i))).map (c ++ ·)) /\
    (bA (mt M H A) (fun x => nm H A x 1) l fs a m o i = false -> mts M H A l 0 a m fs = none)
  | 0, _ => ⟨fun _ => ⟨by simp [kF, kA, sA]; omega, [], by simp [oA, sA], by simp, by simp [kA, sA]⟩, fun h => by cases h⟩
  | i + 1, hi => by
    obtain ⟨ih1, ih2⟩ := Y183 ha hb i (by omega)
    have hil : i < l.length := by omega
    have hdrop := Yhg hil
    have hsum : sumBy Yft (l.take (i + 1)) = sumBy Yft (l.take i) + Yft (l.getD i default) := by rw [Ygg hil, Yha]; rfl
    cases hbi : bA (mt M H A) (fun x => nm H A x 1) l fs a m o i with
    | false =>
      have e := Y1ct hbi (Nat.le_succ i)
      refine ⟨fun h => ?_, fun _ => ih2 hbi⟩
      rw [e.2.2] at h; cases h
    | true =>
      obtain ⟨hk, c, hc1, hc2, hc3⟩ := ih1 hbi
      by_cases e : (i : Int) = a
      · obtain ⟨s1, s2, s3⟩ := Y18g hbi e
        refine ⟨fun _ => ⟨?_, c, ?_, ?_, ?_⟩, fun h => by rw [s3] at h; cases h⟩
        · rw [s2, hk]; unfold kF; rw [if_neg (by omega), if_pos e, if_neg (by omega), if_neg (by omega)]; omega
        · rw [s1, hc1]
        · omega
        · rw [hc3, s2, hdrop]
          simp only [mts, if_pos e]
          congr 1
      · by_cases e2 : (i : Int) + 1 = a
        · obtain ⟨s1, s2, s3⟩ := Y1eg hbi e2 rfl rfl
          have hkl : kA (mt M H A) (fun x => nm H A x 1) l fs a m o i + m <= fs.length := by
            have := ha (by omega)
            unfold kF at hk; rw [if_pos (by omega)] at hk; omega
          have hr := Y10z (g := mt M H A (l.getD i default)) m hkl
          have hstep : mts M H A (l.drop i) i a m (fs.drop (kA (mt M H A) (fun x => nm H A x 1) l fs a m o i)) = match mtr (mt M H A (l.getD i default)) ((fs.drop (kA (mt M H A) (fun x => nm H A x 1) l fs a m o i)).take m) with
              | none => none
              | some R => match mts M H A (l.drop (i + 1)) (i + 1) a m (fs.drop (kA (mt M H A) (fun x => nm H A x 1) l fs a m o i + m)) with
                | none => none
                | some c => some (rp (nm H A (l.getD i default) 1) R ++ c) := by
            rw [hdrop]
            simp only [mts, if_neg e, if_pos e2, List.drop_drop]
          refine ⟨fun h => ?_, fun h => ?_⟩
          · rw [s3] at h
            rw [if_pos h] at hr s2
            refine ⟨?_, c ++ rp (nm H A (l.getD i default) 1) _, by rw [s1, hc1, List.append_assoc], ?_, ?_⟩
            · rw [s2]; unfold kF at hk ⊢; rw [if_pos (by omega)] at hk; rw [if_neg (by omega), if_pos (by omega)]; omega
            · rw [List.length_append, Yl8, hsum]
              have := Yrw H A (l.getD i default) 1
              omega
            · rw [hc3, hstep, hr, s2]
              simp only [Int.natCast_add, Int.natCast_one]
              cases mts M H A (l.drop (i + 1)) ((i : Int) + 1) a m (fs.drop (kA (mt M H A) (fun x => nm H A x 1) l fs a m o i + m)) <;> simp
          · rw [s3] at h
            rw [if_neg (by rw [h]; simp)] at hr
            rw [hc3, hstep, hr]; rfl
        · have hstep : mts M H A (l.drop i) i a m (fs.drop (kA (mt M H A) (fun x => nm H A x 1) l fs a m o i)) = match mt M H A (l.getD i default) (fs.getD (kA (mt M H A) (fun x => nm H A x 1) l fs a m o i) default) with
              | none => none
              | some c => match mts M H A (l.drop (i + 1)) (i + 1) a m (fs.drop (kA (mt M H A) (fun x => nm H A x 1) l fs a m o i + 1)) with
                | none => none
                | some d => some (c ++ d) := by
            rw [hdrop]
            have eg : (fs.drop (kA (mt M H A) (fun x => nm H A x 1) l fs a m o i)).getD 0 default = fs.getD (kA (mt M H A) (fun x => nm H A x 1) l fs a m o i) default := by simp [List.getD_eq_getElem?_getD, List.getElem?_drop]
            simp only [mts, if_neg e, if_neg e2, List.drop_drop, eg]
          cases hg : mt M H A (l.getD i default) (fs.getD (kA (mt M H A) (fun x => nm H A x 1) l fs a m o i) default) with
          | none =>
            obtain ⟨s1, s2, s3⟩ := Y151 hbi e e2 hg
            refine ⟨fun h => ?_, fun h => ?_⟩
            · rw [s3] at h; cases h
            · rw [hc3, hstep, hg]; rfl
          | some c' =>
            obtain ⟨s1, s2, s3⟩ := Y151 hbi e e2 hg
            refine ⟨fun _ => ⟨?_, c ++ c', by rw [s1]; simp only [Option.elim]; rw [hc1, List.append_assoc], ?_, ?_⟩, fun h => by rw [s3] at h; cases h⟩
            · rw [s2]; unfold kF at hk ⊢
              by_cases ea : a < 0 ∨ (i : Int) < a
              · rw [if_pos ea] at hk; rw [if_pos (by omega)]; omega
              · rw [if_neg ea, if_neg e] at hk; rw [if_neg (by omega), if_neg (by omega)]; omega
            · rw [List.length_append, hsum, Y13r _ _ _ hg]
              have := Yrw H A (l.getD i default) 0
              omega
            · rw [hc3, hstep, hg, s2]
              simp only [Int.natCast_add, Int.natCast_one]
              cases mts M H A (l.drop (i + 1)) ((i : Int) + 1) a m (fs.drop (kA (mt M H A) (fun x => nm H A x 1) l fs a m o i + 1)) <;> simp
end
end Go.Proofs.YtclpofblehlojaaGreat
end
section
namespace Go.Proofs.YtclpofblehlojaaGreat
open Go Ab
abbrev gS (B:List YB) (Ls:List YS):YS->YS->Option (List YC):=mt (mng B) (Ygw Ls) aS
def nS (Ls:List YS) (x:YS):List YC:=nm (Ygw Ls) aS x 1
def eV (Ls:List YS) (x:YS):List YC:=(vrS Ls x 0 []).getD []
def smO (p:YS) (o:List YC) (r:Option (List YC)):List YC:=match r with | some c=>o++c | none=>flM p o
def mS (p f:YS):Nat:=(Yli (aS p.items) p.items.length f.items.length).toNat
def oS (B:List YB) (Ls:List YS) (p f:YS) (o:List YC) (i:Nat):List YC:=oA (gS B Ls) (fun x=>nm (Ygw Ls) aS x 1) p.items f.items (aS p.items) (mS p f) o i
def kS (B:List YB) (Ls:List YS) (p f:YS) (o:List YC) (i:Nat):Nat:=kA (gS B Ls) (fun x=>nm (Ygw Ls) aS x 1) p.items f.items (aS p.items) (mS p f) o i
def bS (B:List YB) (Ls:List YS) (p f:YS) (o:List YC) (i:Nat):Bool:=bA (gS B Ls) (fun x=>nm (Ygw Ls) aS x 1) p.items f.items (aS p.items) (mS p f) o i
def rS (B:List YB) (Ls:List YS) (p f:YS) (o:List YC) (i t:Nat):List (List YC):=(rws (gS B Ls (p.items.getD i default)) f.items (kS B Ls p f o i) t).1
def qS (B:List YB) (Ls:List YS) (p f:YS) (o:List YC) (i t:Nat):Bool:=(rws (gS B Ls (p.items.getD i default)) f.items (kS B Ls p f o i) t).2
def fS (p f:YS):Bool:=Yqk (aS p.items) p.items f
def Yh3 (V:List YC) (i:Nat):List YC:=(V.take i).map upC++V.drop i
abbrev Yp3 (x:YC):List Cell:=[cI x.name.kind,cI x.name.number,cS x.name.text,.any,.any,cI x.depth,cI x.form.kind,cI x.form.number,cS x.form.text,.any,.any,.any]
def Yhr (V:List YC) (R:List (List YC)) (c:List YC) (u:Nat):List YC:=(rp V (R++[c])).take u++(rp V R).drop u
theorem Y1iz (l:List YS):aS l = -1 ∨ ∃ a:Nat,aS l=a/\1<=a/\a<l.length:=by
 unfold aS
 split
 ·rename_i h
  rcases Yz2 l l.length (Nat.le_refl _) h with h1 | ⟨m,h1,h2,h3,_⟩
  ·exact .inl h1.1
  ·exact .inr ⟨m,h3,h1,h2⟩
 ·exact .inl rfl
theorem Yvz (p f:YS):fS p f=(decide (f.kind=0)&&decide (0<=Yli (aS p.items) p.items.length f.items.length)&&(decide (0<=aS p.items)||decide (f.items.length=p.items.length))):=rfl
theorem Y1iv {p f:YS} (h:fS p f=true):f.kind=0/\(aS p.items = -1/\f.items.length=p.items.length/\mS p f=0 ∨ ∃ a:Nat,aS p.items=a/\1<=a/\a<p.items.length/\(f.items.length:Int)=p.items.length - 2+mS p f):=by
 rw [Yvz] at h
 simp only [Bool.and_eq_true,Bool.or_eq_true,decide_eq_true_eq] at h
 obtain ⟨⟨h1,h2⟩,h3⟩:=h
 refine ⟨h1,?_⟩
 rcases Y1iz p.items with ha | ⟨a,ha,ha1,ha2⟩
 ·refine .inl ⟨ha,by rcases h3 with h3 | h3 <;> omega,?_⟩
  unfold mS Yli; rw [ha,if_neg (by omega)]; rfl
 ·refine .inr ⟨a,ha,ha1,ha2,?_⟩
  have e:Yli (aS p.items) p.items.length f.items.length=(f.items.length:Int) - ((p.items.length:Int) - 2):=if_pos (by omega)
  rw [e] at h2
  unfold mS; rw [e]; omega
section
variable {B:List YB} {Ls:List YS} {p f:YS} {o:List YC}
theorem Y1lh:oS B Ls p f o 0=o/\kS B Ls p f o 0=0/\bS B Ls p f o 0=true:=Y1lg
theorem Y1km {i:Nat} (h:bS B Ls p f o i=true) (e:(i:Int)=aS p.items):oS B Ls p f o (i+1)=oS B Ls p f o i/\kS B Ls p f o (i+1)=kS B Ls p f o i/\bS B Ls p f o (i+1)=true:=Y18g h e
theorem Y1oc {i : Nat} (h : bS B Ls p f o i = true) (e : ¬ (i : Int) = aS p.items) (e2 : ¬ (i : Int) + 1 = aS p.items) :
    oS B Ls p f o (i + 1) = smO (p.items.getD i default) (oS B Ls p f o i) (gS B Ls (p.items.getD i default) (f.items.getD (kS B Ls p f o i) default)) /\ kS B Ls p f o (i + 1) = kS B Ls p f o i + 1 /\ bS B Ls p f o (i + 1) = (gS B Ls (p.items.getD i default) (f.items.getD (kS B Ls p f o i) default)).isSome := by
  obtain ⟨h1, h2, h3⟩ := Y151 (N := fun x => nm (Ygw Ls) aS x 1) h e e2 rfl
  refine ⟨?_, h2, h3⟩
  have e3 : oS B Ls p f o (i + 1) = _ := h1
  rw [e3]
  unfold smO
  cases hg : gS B Ls (p.items.getD i default) (f.items.getD (kS B Ls p f o i) default) with
  | none => have hg' : gS B Ls (p.items.getD i default) (f.items.getD (kA (gS B Ls) (fun x => nm (Ygw Ls) aS x 1) p.items f.items (aS p.items) (mS p f) o i) default) = none := hg
            rw [hg']; rfl
  | some c => have hg' : gS B Ls (p.items.getD i default) (f.items.getD (kA (gS B Ls) (fun x => nm (Ygw Ls) aS x 1) p.items f.items (aS p.items) (mS p f) o i) default) = some c := hg
              rw [hg']; rfl
theorem Y1nj {i:Nat} (h:bS B Ls p f o i=true) (e2:(i:Int)+1=aS p.items) :
  oS B Ls p f o (i+1)=oS B Ls p f o i++rp (nS Ls (p.items.getD i default)) (rS B Ls p f o i (mS p f))/\kS B Ls p f o (i+1)=kS B Ls p f o i+(if qS B Ls p f o i (mS p f)=true then mS p f else (rS B Ls p f o i (mS p f)).length+1)/\bS B Ls p f o (i+1)=qS B Ls p f o i (mS p f):=
 Y1eg (N:=fun x=>nm (Ygw Ls) aS x 1) h e2 rfl rfl
theorem Y1l8 {i n:Nat} (h:bS B Ls p f o i=false) (hn:i<=n):oS B Ls p f o n=oS B Ls p f o i/\bS B Ls p f o n=false:=
 have t:=Y1ct (N:=fun x=>nm (Ygw Ls) aS x 1) h hn
 ⟨t.1,t.2.2⟩
theorem Y1a1 (hf : fS p f = true) (i : Nat) (hi : i <= p.items.length) : (bS B Ls p f o i = true -> (kS B Ls p f o i : Int) = kF (aS p.items) (mS p f) i /\ ∃ c, oS B Ls p f o i = o ++ c /\ c.length <= sumBy Yft (p.items.take i) /\
        mts (mng B) (Ygw Ls) aS p.items 0 (aS p.items) (mS p f) f.items = (mts (mng B) (Ygw Ls) aS (p.items.drop i) i (aS p.items) (mS p f) (f.items.drop (kS B Ls p f o i))).map (c ++ ·)) /\
    (bS B Ls p f o i = false -> mts (mng B) (Ygw Ls) aS p.items 0 (aS p.items) (mS p f) f.items = none) := by
  have h := Y1iv hf
  refine Y183 (fun ha => ?_) (fun ha => ?_) i hi
  · rcases h.2 with h | ⟨a, h⟩ <;> omega
  · rcases h.2 with h | ⟨a, h⟩ <;> omega
theorem Y1qi (hf:fS p f=true) {i:Nat} (hi:i<p.items.length) (h:bS B Ls p f o i=true):(oS B Ls p f o i).length+Yft (p.items.getD i default)+1<=o.length+Yft p /\
  (¬ (i:Int)=aS p.items->¬ (i:Int)+1=aS p.items->kS B Ls p f o i<f.items.length)/\((i:Int)+1=aS p.items->kS B Ls p f o i+mS p f<=f.items.length):=by
 obtain ⟨hk,c,hc,hl,_⟩:=(Y1a1 (B:=B) (Ls:=Ls) (o:=o) hf i (by omega)).1 h
 have hs:=Yj5 hi
 have hfs:=Y1iv hf
 refine ⟨by rw [hc,List.length_append]; omega,fun h1 h2 => ?_,fun h1 => ?_⟩
 ·unfold kF at hk
  rcases hfs.2 with h3 | ⟨a,h3⟩
  ·rw [if_pos (by omega)] at hk; omega
  ·split at hk
   ·omega
   ·first | omega | (rw [if_neg h1] at hk; omega)
 ·unfold kF at hk
  rcases hfs.2 with h3 | ⟨a,h3⟩
  ·omega
  ·rw [if_pos (by omega)] at hk; omega
theorem Y192 (h0:p.kind=0):gS B Ls p f=if fS p f=true then mts (mng B) (Ygw Ls) aS p.items 0 (aS p.items) (mS p f) f.items else none:=by
 unfold gS; rw [Yji,if_neg (by omega),if_pos h0]; rfl
theorem Y1mt (h0:p.kind=0) (hf:fS p f=false):gS B Ls p f=none:=by rw [Y192 h0,hf]; rfl
theorem Y1fl (h0:p.kind=0) (hf:fS p f=true):(gS B Ls p f).isSome=bS B Ls p f o p.items.length/\smO p o (gS B Ls p f)=if bS B Ls p f o p.items.length=true then oS B Ls p f o p.items.length else []:=by
 rw [Y192 h0,if_pos hf]
 have hm:=Y1a1 (B:=B) (Ls:=Ls) (o:=o) hf _ (Nat.le_refl _)
 cases hb:bS B Ls p f o p.items.length with
 | false=>rw [hm.2 hb]; exact ⟨rfl,by unfold smO flM; rw [if_pos h0]; rfl⟩
 | true=>
  obtain ⟨_,c,hc,_,he⟩:=hm.1 hb
  rw [he,hc,List.drop_length]
  simp only [mts,Option.map,smO,List.append_nil]
  exact ⟨rfl,rfl⟩
theorem Yvi (x:YS) (r:Option (List YC)):smO x [] r=r.getD []:=by cases r <;> simp [smO,flM]
theorem Ynz {x:YS} (h:x.kind=0):smO x o none=[]:=if_pos h
theorem Y1fa {x y:YS} {c:List YC} (h:gS B Ls x y=some c):c.length=(nS Ls x).length:=by
 rw [nS,Y187]; exact Y13r _ _ _ h
theorem Yzy (x:YS):(nS Ls x).length<=Yft x:=Yrw _ _ _ _
theorem Y1r6 (hg:good Ls p) (h0:p.kind=0) {i:Nat} (hi:i<p.items.length) (ha:(i:Int)+1=aS p.items):nS Ls (p.items.getD i default)=(eV Ls (p.items.getD i default)).map upC/\(vrS Ls (p.items.getD i default) 0 [])=some (eV Ls (p.items.getD i default)):=by
 obtain ⟨h1,_⟩:=Yti hg h0 hi ha
 have e:eV Ls (p.items.getD i default)=nm (Ygw Ls) aS (p.items.getD i default) 0:=by unfold eV; rw [h1]; rfl
 refine ⟨?_,by rw [e,h1]⟩
 rw [e]
 exact Y1fg _ _ _ 0
theorem Y1ey (V:List YC):Yh3 V 0=V:=by simp [Yh3]
theorem Y1hg {V:List YC} {i:Nat} (h:V.length<=i):Yh3 V i=V.map upC:=by simp [Yh3,List.take_of_length_le h,List.drop_eq_nil_of_le h]
theorem Y1i7 (V:List YC) (i:Nat):(Yh3 V i).length=V.length:=by simp [Yh3,List.length_take,List.length_drop]; omega
theorem Y12v {V:List YC} {i:Nat} (h:i<V.length):(Yh3 V i).getD i default=V.getD i default:=by
 simp [Yh3,List.getD_eq_getElem?_getD,List.getElem?_append,List.length_take,List.getElem?_drop,Nat.min_eq_left (Nat.le_of_lt h)]
theorem Y1cv {V:List YC} {i:Nat} (h:i<V.length):(Yh3 V i).set i (upC (V.getD i default))=Yh3 V (i+1):=by
 apply List.ext_getElem?
 intro j
 simp only [Yh3,List.getElem?_set,List.getElem?_append,List.length_map,List.length_take,List.length_append,List.length_drop,List.getElem?_map,List.getElem?_take,List.getElem?_drop,List.getD_eq_getElem?_getD,Nat.min_eq_left (Nat.le_of_lt h),Nat.min_eq_left (show i+1<=V.length from h)]
 by_cases h1:i=j
 ·subst h1; simp [h]; omega
 ·rw [if_neg h1]
  by_cases h2:j<i
  ·rw [if_pos h2,if_pos h2,if_pos (by omega),if_pos (by omega)]
  ·rw [if_neg h2,if_neg (by omega)]; congr 1; omega
theorem Y1rm (x:YC):(⟨x.name,x.depth,x.form,x.each⟩:YC)=x:=by cases x; rfl
theorem Y1ex (V:List YC):rp V []=V:=by
 apply List.ext_getElem?
 intro j
 simp only [rp,List.getElem?_map,List.getElem?_range',List.map_nil,List.append_nil,List.range_eq_range']
 by_cases h:j<V.length
 ·simp [h]; exact Y1rm _
 ·simp [h]
theorem Y15m {V:List YC} {R:List (List YC)} {i:Nat} (h:i<V.length):(rp V R).getD i default=⟨(V.getD i default).name,(V.getD i default).depth,(V.getD i default).form,(V.getD i default).each++R.map fun c=>c.getD i default⟩:=by
 simp [rp,List.getD_eq_getElem?_getD,List.getElem?_range,h]
theorem Yuc (V:List YC) (R:List (List YC)) (c:List YC):Yhr V R c 0=rp V R:=by simp [Yhr]
theorem Y14l {V:List YC} {R:List (List YC)} {c:List YC} {u:Nat} (h:V.length<=u):Yhr V R c u=rp V (R++[c]):=by
 unfold Yhr; rw [List.take_of_length_le (by rw [Yl8]; exact h),List.drop_eq_nil_of_le (by rw [Yl8]; exact h),List.append_nil]
theorem Y12y (V:List YC) (R:List (List YC)) (c:List YC) (u:Nat):(Yhr V R c u).length=V.length:=by
 simp only [Yhr,List.length_append,List.length_take,List.length_drop,Yl8]; omega
theorem Y16m {V:List YC} {R:List (List YC)} {c:List YC} {u:Nat} (h:u<V.length):(Yhr V R c u).getD u default=(rp V R).getD u default:=by
 simp [Yhr,List.getD_eq_getElem?_getD,List.getElem?_append,List.length_take,List.getElem?_drop,Yl8,Nat.min_eq_left (Nat.le_of_lt h)]
theorem Y1ec {V:List YC} {R:List (List YC)} {c:List YC} {u:Nat} (h:u<V.length):(Yhr V R c u).set u ⟨((rp V R).getD u default).name,((rp V R).getD u default).depth,((rp V R).getD u default).form,((rp V R).getD u default).each++[c.getD u default]⟩=Yhr V R c (u+1):=by
 have e:(⟨((rp V R).getD u default).name,((rp V R).getD u default).depth,((rp V R).getD u default).form,((rp V R).getD u default).each++[c.getD u default]⟩:YC)=(rp V (R++[c])).getD u default:=by
  rw [Y15m h,Y15m h]; simp
 rw [e]
 apply List.ext_getElem?
 intro j
 have hl:=Yl8 V R
 have hl2:=Yl8 V (R++[c])
 simp only [Yhr,List.getElem?_set,List.getElem?_append,List.length_take,List.length_append,List.length_drop,List.getElem?_take,List.getElem?_drop,List.getD_eq_getElem?_getD,hl,hl2,Nat.min_eq_left (Nat.le_of_lt h),Nat.min_eq_left (show u+1<=V.length from h)]
 by_cases h1:u=j
 ·subst h1
  rw [if_pos rfl,if_pos (by omega),if_pos (by omega)]
  have:(rp V (R++[c]))[u]? = some ((rp V (R++[c]))[u]'(by omega)):=List.getElem?_eq_getElem _
  rw [this,if_pos (Nat.lt_succ_self u)]; rfl
 ·rw [if_neg h1]
  by_cases h2:j<u
  ·rw [if_pos h2,if_pos h2,if_pos (by omega),if_pos (by omega)]
  ·rw [if_neg h2,if_neg (by omega)]; congr 1; omega
abbrev Yxv (L:List YC) (u:Nat):List (List Cell):=(L.take u).map Yp3++(L.drop u).map Yfo
theorem Y1co {L:List YC} {u:Nat} (h:u<L.length):(Yxv L u)[u]? = some (Yfo (L.getD u default)):=by
 simp [Yxv,List.getD_eq_getElem?_getD,List.getElem?_append,List.length_take,List.getElem?_drop,h,Nat.min_eq_left (Nat.le_of_lt h)]
theorem Y1bi {L:List YC} {u:Nat} (h:u<L.length):(Yxv L u).set u (Yp3 (L.getD u default))=Yxv L (u+1):=by
 apply List.ext_getElem?
 intro j
 simp only [Yxv,List.getElem?_set,List.getElem?_append,List.length_map,List.length_take,List.length_append,List.length_drop,List.getElem?_map,List.getElem?_take,List.getElem?_drop,List.getD_eq_getElem?_getD,Nat.min_eq_left (Nat.le_of_lt h),Nat.min_eq_left (show u+1<=L.length from h)]
 by_cases h1:u=j
 ·subst h1; simp [h]; omega
 ·rw [if_neg h1]
  by_cases h2:j<u
  ·rw [if_pos h2,if_pos h2,if_pos (by omega),if_pos (by omega)]
  ·rw [if_neg h2,if_neg (by omega)]; congr 2; omega
theorem Y1l3 (i:Nat):rS B Ls p f o i 0=[]/\qS B Ls p f o i 0=true:=⟨rfl,rfl⟩
theorem Y102 {i t:Nat} {c:List YC} (h:qS B Ls p f o i t=true) (hc:gS B Ls (p.items.getD i default) (f.items.getD (kS B Ls p f o i+t) default)=some c):rS B Ls p f o i (t+1)=rS B Ls p f o i t++[c]/\qS B Ls p f o i (t+1)=true:=by
 unfold rS qS; rw [Ywx h hc]; exact ⟨rfl,rfl⟩
theorem Y10l {i t:Nat} (h:qS B Ls p f o i t=true) (hc:gS B Ls (p.items.getD i default) (f.items.getD (kS B Ls p f o i+t) default)=none):rS B Ls p f o i (t+1)=rS B Ls p f o i t/\qS B Ls p f o i (t+1)=false:=by
 unfold rS qS; rw [Yxf h hc]; exact ⟨rfl,rfl⟩
theorem Y1cu {i t:Nat} (h:qS B Ls p f o i t=true):(rS B Ls p f o i t).length=t:=Y10i t h
theorem Y1lq {i t:Nat} (h:qS B Ls p f o i t=false) {n:Nat} (hn:t<=n):rS B Ls p f o i n=rS B Ls p f o i t/\qS B Ls p f o i n=false:=by
 have e:=Ysu h (n - t)
 rw [show t+(n - t)=n by omega] at e
 unfold rS qS at *; rw [e]; exact ⟨rfl,h⟩
end
def Ylv (B:List YB) (Ls:List YS) (p f:YS) (o:List YC) (s t:Nat):List YC:=(gS B Ls (p.items.getD s default) (f.items.getD (kS B Ls p f o s+t) default)).getD []
theorem Y1kk {B:List YB} {Ls:List YS} {p f:YS} {o:List YC} (hk:p.kind=1) (h:Yh8 p=true):gS B Ls p f=some []/\smO p o (gS B Ls p f)=o:=by
 have e:gS B Ls p f=some []:=by unfold gS; rw [Yji,if_pos hk,if_pos h]
 rw [e]; exact ⟨rfl,List.append_nil o⟩
theorem Y13m {B:List YB} {Ls:List YS} {p f:YS} {o:List YC} (hk:p.kind=1) (h:Yh8 p=false) (h2:Ygw Ls p=true):(gS B Ls p f).isSome=(decide (f.kind=1)&&mng B p f)/\smO p o (gS B Ls p f)=o:=by
 have e:gS B Ls p f=if f.kind=1/\mng B p f=true then some [] else none:=by unfold gS; rw [Yji,if_pos hk,if_neg (by simp [h]),if_pos h2]
 rw [e]
 by_cases hc:f.kind=1/\mng B p f=true
 ·rw [if_pos hc]; exact ⟨by simp [hc.1,hc.2],List.append_nil o⟩
 ·rw [if_neg hc]
  refine ⟨?_,by unfold smO flM; simp only; rw [if_neg (by omega)]⟩
  cases h3:decide (f.kind=1) <;> cases h4:mng B p f <;> simp_all
theorem Y1fw {B:List YB} {Ls:List YS} {p f:YS} {o:List YC} (hk:p.kind=1) (h:Yh8 p=false) (h2:Ygw Ls p=false):gS B Ls p f=some [Yp7 p f]/\smO p o (gS B Ls p f)=o++[Yp7 p f]:=by
 have e:gS B Ls p f=some [Yp7 p f]:=by unfold gS; rw [Yji,if_pos hk,if_neg (by simp [h]),if_neg (by simp [h2])]
 rw [e]; exact ⟨rfl,rfl⟩
theorem Ytc {B:List YB} {Ls:List YS} {p f:YS} {o:List YC} (hk:¬ p.kind=1) (h0:¬ p.kind=0):(gS B Ls p f).isSome=(decide (f.kind=p.kind)&&decide (f.number=p.number)&&decide (f.text=p.text))/\smO p o (gS B Ls p f)=o:=by
 have e:gS B Ls p f=if f.kind=p.kind/\f.number=p.number/\f.text=p.text then some [] else none:=by unfold gS; rw [Yji,if_neg hk,if_neg h0]
 rw [e]
 by_cases hc:f.kind=p.kind/\f.number=p.number/\f.text=p.text
 ·rw [if_pos hc]; exact ⟨by simp [hc.1,hc.2.1,hc.2.2],List.append_nil o⟩
 ·rw [if_neg hc]
  refine ⟨?_,by unfold smO flM; simp only; rw [if_neg h0]⟩
  symm; simp only [Option.isSome]; rw [Bool.eq_false_iff]; simp only [ne_eq,Bool.and_eq_true,decide_eq_true_eq]; rintro ⟨⟨a,b⟩,c⟩; exact hc ⟨a,b,c⟩
theorem Y12e (o:List YC) (p f:YS):o.map Yfo++[[cI p.kind,cI p.number,cS p.text,Cell.list (List.map Yfr p.scopes),Cell.list (List.map Yfn p.items),cI 0,cI f.kind,cI f.number,cS f.text,Cell.list (List.map Yfr f.scopes),Cell.list (List.map Yfn f.items),Cell.list []]]=(o++[Yp7 p f]).map Yfo:=
 Yfs (C:=Yfo) o (Yp7 p f)
theorem Y1kg {Ls:List YS} {p:YS} (hp:Ygc p=true) (hv:(vrS Ls p 0 []).isSome=true):good Ls p/\Yft p<=2000/\Yge p<=40:=by
 simp only [Ygc,Bool.and_eq_true,decide_eq_true_eq] at hp
 obtain ⟨r,hr⟩:=Option.isSome_iff_exists.1 hv
 exact ⟨⟨hp.2,0,[],r,by omega,hr⟩,hp.1.1,hp.1.2⟩
end Go.Proofs.YtclpofblehlojaaGreat
end
section
namespace Go.Proofs.YtclpofblehlojaaGreat
open Go Ab
def alM (g:YS->YS->Option (List YC)):List YS->List YS->Option (List YC)
 | [],_=>some []
 | x :: r,fs=>match g x (fs.getD 0 default) with
  | none=>none
  | some c=>match alM g r (fs.drop 1) with
   | none=>none
   | some d=>some (c++d)
def alO (o:List YC) (r:Option (List YC)):List YC:=match r with | none=>[] | some c=>o++c
theorem Yt3 (g:YS->YS->Option (List YC)):∀ (A C:List YS) (fs:List YS),alM g (A++C) fs=match alM g A fs with | none=>none | some c=>match alM g C (fs.drop A.length) with | none=>none | some d=>some (c++d)
 | [],C,fs=>by
  simp only [List.nil_append,alM,List.length_nil,List.drop_zero]
  cases alM g C fs <;> rfl
 | y :: A,C,fs=>by
  have e:(fs.drop 1).drop A.length=fs.drop (y :: A).length:=by rw [List.drop_drop,List.length_cons,Nat.add_comm]
  simp only [List.cons_append,alM,Yt3 g A C,e]
  cases g y (fs.getD 0 default) with
  | none=>rfl
  | some c=>
   cases alM g A (fs.drop 1) with
   | none=>rfl
   | some d=>
    cases alM g C (fs.drop (y :: A).length) with
    | none=>rfl
    | some d2=>simp [List.append_assoc]
theorem Y1hm {g:YS->YS->Option (List YC)} {ps fs:List YS} {k:Nat} (h:k<ps.length):alM g (ps.take (k+1)) fs=match alM g (ps.take k) fs with | none=>none | some c=>(match g (ps.getD k default) (fs.getD k default) with | none=>none | some d=>some (c++d)):=by
 have e:(fs.drop k).getD 0 default=fs.getD k default:=by simp [List.getD_eq_getElem?_getD]
 rw [Ygg h,Yt3,List.length_take,Nat.min_eq_left (Nat.le_of_lt h)]
 simp only [alM,e]
 cases alM g (ps.take k) fs with
 | none=>rfl
 | some c=>cases g (ps.getD k default) (fs.getD k default) <;> simp
theorem Y1ji {g:YS->YS->Option (List YC)} {ps fs:List YS} {o:List YC}:alO o (alM g (ps.take 0) fs)=o/\(alM g (ps.take 0) fs).isSome=true:=by
 simp [alM,alO]
theorem Y1q6 {g:YS->YS->Option (List YC)} {ps fs:List YS} {o:List YC} {k:Nat} (h:k<ps.length) (hs:(alM g (ps.take k) fs).isSome=true) :
  (alM g (ps.take (k+1)) fs).isSome=(g (ps.getD k default) (fs.getD k default)).isSome/\((g (ps.getD k default) (fs.getD k default)).isSome=true->alO o (alM g (ps.take (k+1)) fs)=smO (ps.getD k default) (alO o (alM g (ps.take k) fs)) (g (ps.getD k default) (fs.getD k default))):=by
 obtain ⟨c,hc⟩:=Option.isSome_iff_exists.1 hs
 rw [Y1hm h,hc]
 cases g (ps.getD k default) (fs.getD k default) with
 | none=>exact ⟨rfl,fun h=>by cases h⟩
 | some d=>exact ⟨rfl,fun _=>by simp [alO,smO,List.append_assoc]⟩
theorem Y1l0 {g:YS->YS->Option (List YC)} {ps fs:List YS} {k:Nat} (h:(alM g (ps.take k) fs).isSome=false):alM g ps fs=none:=by
 have e:=Yt3 g (ps.take k) (ps.drop k) fs
 rw [List.take_append_drop] at e
 cases h2:alM g (ps.take k) fs with
 | none=>rw [h2] at e; exact e
 | some c=>rw [h2] at h; cases h
theorem Y1ng {g:YS->YS->Option (List YC)} {ps fs:List YS} {k:Nat} (h:ps.length<=k):alM g (ps.take k) fs=alM g ps fs:=by rw [List.take_of_length_le h]
theorem Y19t {g:YS->YS->Option (List YC)}:∀ (ps:List YS) (fs:List YS) (c:List YC),(∀ x∈ps,∀ f c,g x f=some c->c.length<=Yft x)->alM g ps fs=some c->c.length<=sumBy Yft ps
 | [],fs,c,_,e=>by simp only [alM,Option.some.injEq] at e; subst e; simp [sumBy]
 | x :: r,fs,c,h,e=>by
  simp only [alM] at e
  simp only [sumBy]
  split at e
  ·cases e
  ·rename_i c1 h1
   split at e
   ·cases e
   ·rename_i c2 h2
    simp only [Option.some.injEq] at e; subst e
    have:=Y19t r _ _ (fun y hy=>h y (List.mem_cons_of_mem _ hy)) h2
    have:=h x List.mem_cons_self _ _ h1
    rw [List.length_append]; omega
theorem Y15l (g:YS->YS->Option (List YC)):∀ (ps fs:List YS) (n:Nat),ps.length<=n->alM g ps (fs.take n)=alM g ps fs
 | [],_,_,_=>rfl
 | x :: r,fs,n,h=>by
  cases n with
  | zero=>simp at h
  | succ n=>
   have h':r.length<=n:=by simpa using h
   cases fs with
   | nil=>simp [alM]
   | cons f fs=>simp only [alM,List.take_succ_cons,List.drop_succ_cons,List.drop_zero,List.getD_cons_zero,Y15l g r fs n h']
theorem Yv9 {M:YS->YS->Bool} {H:YS->Bool} {A:List YS->Int} {a:Int} {m:Nat}:∀ (l:List YS) (i:Int) (fs:List YS),(∀ k:Nat,k<l.length->i+k≠a/\i+k+1≠a)->mts M H A l i a m fs=alM (mt M H A) l fs
 | [],_,_,_=>by simp [mts,alM]
 | x :: r,i,fs,h=>by
  have h0:=h 0 (by simp)
  have ih:=Yv9 (M:=M) (H:=H) (A:=A) (a:=a) (m:=m) r (i+1) (fs.drop 1) (fun k hk=>by
   have:=h (k+1) (by simp; omega)
   rw [show i+((k+1:Nat):Int)=i+1+(k:Int) by omega] at this; exact this)
  simp only [mts,alM]
  rw [if_neg (by simpa using h0.1),if_neg (by simpa using h0.2),ih]
  all_goals rfl
theorem Y19y {M:YS->YS->Bool} {H:YS->Bool} {A:List YS->Int} {a:Int} {m:Nat} {x y:YS} {post:List YS}:∀ (pre:List YS) (i:Int) (fs:List YS),i+pre.length+1=a ->
  mts M H A (pre++x :: y :: post) i a m fs=match alM (mt M H A) pre fs with | none=>none | some c1=>(match mtr (mt M H A x) ((fs.drop pre.length).take m) with | none=>none | some R=>(match alM (mt M H A) post (fs.drop (pre.length+m)) with | none=>none | some c2=>some (c1++(rp (nm H A x 1) R++c2))))
 | [],i,fs,h=>by
  have h1:¬ i=a:=by simp at h; omega
  have h2:i+1=a:=by simpa using h
  have e:=Yv9 (M:=M) (H:=H) (A:=A) (a:=a) (m:=m) post (i+1+1) (fs.drop m) (fun k _=>by omega)
  simp only [List.nil_append,mts,alM,List.length_nil,List.drop_zero,Nat.zero_add]
  rw [if_neg h1,if_pos h2,if_pos h2,e]
  all_goals rfl
 | z :: pre,i,fs,h=>by
  have hl:((z :: pre).length:Int)=pre.length+1:=by simp
  have h1:¬ i=a:=by omega
  have h2:¬ i+1=a:=by omega
  have ih:=Y19y (M:=M) (H:=H) (A:=A) (a:=a) (m:=m) (x:=x) (y:=y) (post:=post) pre (i+1) (fs.drop 1) (by omega)
  have e1:(fs.drop 1).drop pre.length=fs.drop (z :: pre).length:=by rw [List.drop_drop,List.length_cons,Nat.add_comm]
  have e2:(fs.drop 1).drop (pre.length+m)=fs.drop ((z :: pre).length+m):=by rw [List.drop_drop,List.length_cons]; congr 1; omega
  simp only [List.cons_append,mts,alM]
  rw [if_neg h1,if_neg h2,ih,e1,e2]
  cases mt M H A z (fs.getD 0 default) with
  | none=>rfl
  | some c=>
   simp only
   cases alM (mt M H A) pre (fs.drop 1) with
   | none=>rfl
   | some c1=>
    simp only
    cases mtr (mt M H A x) ((fs.drop (z :: pre).length).take m) with
    | none=>rfl
    | some R=>
     simp only
     cases alM (mt M H A) post (fs.drop ((z :: pre).length+m)) with
     | none=>rfl
     | some c2=>simp [List.append_assoc]
def gI (B:List YB) (Ls:List YS):YS->YS->Option (List YC):=mt (mng B) (Yi6 Ls) atI
def nI (Ls:List YS) (x:YS):List YC:=nm (Yi6 Ls) atI x 1
def aT (p:YS):Nat:=(atI p.items - 1).toNat
def xI (p:YS):YS:=p.items.getD (aT p) default
def mI2 (p f:YS):Nat:=((f.items.length:Int) - ((p.items.length:Int) - 2)).toNat
def rI (B:List YB) (Ls:List YS) (p f:YS) (t:Nat):List (List YC):=(rws (gI B Ls (xI p)) f.items (aT p) t).1
def qI (B:List YB) (Ls:List YS) (p f:YS) (t:Nat):Bool:=(rws (gI B Ls (xI p)) f.items (aT p) t).2
section
variable {B:List YB} {Ls:List YS} {p f:YS} {o:List YC}
theorem Y1d3 {x y:YS} {c:List YC} (h:gI B Ls x y=some c):c.length=(nI Ls x).length:=by
 rw [nI,Y187]; exact Y13r _ _ _ h
theorem Y109 (x:YS):(nI Ls x).length<=Yft x:=Yrw _ _ _ _
theorem Y1lk {ps fs:List YS} {c:List YC} (h:alM (gI B Ls) ps fs=some c):c.length<=sumBy Yft ps:=
 Y19t ps fs c (fun x _ f c e=>by have:=Y1d3 e; have:=Y109 (Ls:=Ls) x; omega) h
theorem Y19s {ps fs:List YS}:(alO o (alM (gI B Ls) ps fs)).length<=o.length+sumBy Yft ps:=by
 cases h:alM (gI B Ls) ps fs with
 | none=>simp [alO]
 | some c=>have:=Y1lk h; simp only [alO,List.length_append]; omega
theorem Yvo (h0:p.kind=0):gI B Ls p f=if Yqk (atI p.items) p.items f=true then mts (mng B) (Yi6 Ls) atI p.items 0 (atI p.items) (Yli (atI p.items) p.items.length f.items.length).toNat f.items else none:=by
 unfold gI; rw [Yji,if_neg (by omega),if_pos h0]
theorem Y1ki (h0:p.kind=0) (hf:¬ f.kind=0):gI B Ls p f=none:=by
 rw [Yvo h0,if_neg (by simp [Yqk,hf])]
theorem Y190 (h0:p.kind=0) (hf:f.kind=0) (ha:atI p.items<0):gI B Ls p f=if p.items.length=f.items.length then alM (gI B Ls) p.items f.items else none:=by
 have e:Yqk (atI p.items) p.items f=decide (f.items.length=p.items.length):=by
  simp only [Yqk,Yli,if_neg (show ¬ 0<=atI p.items by omega),hf]; simp; omega
 rw [Yvo h0,e,Yv9 _ _ _ (fun k _=>by omega)]
 by_cases h:p.items.length=f.items.length
 ·rw [if_pos h,if_pos (by simp [h])]; rfl
 ·rw [if_neg h,if_neg (by simp; omega)]
theorem Y1m3 (h0:p.kind=0) (hf:f.kind=0) (ha:0<=atI p.items) (hm:(f.items.length:Int) - ((p.items.length:Int) - 2)<0):gI B Ls p f=none:=by
 have e:Yqk (atI p.items) p.items f=false:=by
  simp only [Yqk,Yli,if_pos ha]; simp; omega
 rw [Yvo h0,e]; rfl
theorem Y10c (h0:p.kind=0) (hf:f.kind=0) (ha:1<=atI p.items) (hl:atI p.items<p.items.length) (hm:0<=(f.items.length:Int) - ((p.items.length:Int) - 2)) :
  gI B Ls p f=match alM (gI B Ls) (p.items.take (aT p)) (f.items.take (aT p)) with | none=>none | some c1=>if qI B Ls p f (mI2 p f)=true then (match alM (gI B Ls) (p.items.drop (aT p+2)) (f.items.drop (aT p+mI2 p f)) with | none=>none | some c2=>some (c1++(rp (nI Ls (xI p)) (rI B Ls p f (mI2 p f))++c2))) else none:=by
 have e:Yqk (atI p.items) p.items f=true:=by
  simp only [Yqk,Yli,if_pos (show 0<=atI p.items by omega),hf]; simp; omega
 have ea:(aT p:Int)+1=atI p.items:=by unfold aT; omega
 have em:(Yli (atI p.items) p.items.length f.items.length).toNat=mI2 p f:=by unfold Yli mI2; rw [if_pos (by omega)]
 have h1:aT p<p.items.length:=by omega
 have h2:aT p+1<p.items.length:=by omega
 have es:p.items=p.items.take (aT p)++(xI p :: p.items.getD (aT p+1) default :: p.items.drop (aT p+2)):=by
  have e1:p.items.drop (aT p)=xI p :: p.items.drop (aT p+1):=by
   rw [List.drop_eq_getElem_cons h1]; simp [xI,h1]
  have e2:p.items.drop (aT p+1)=p.items.getD (aT p+1) default :: p.items.drop (aT p+2):=by
   rw [List.drop_eq_getElem_cons h2]; simp [h2]
  rw [<- e2,<- e1,List.take_append_drop]
 have el:(p.items.take (aT p)).length=aT p:=by rw [List.length_take,Nat.min_eq_left (by omega)]
 have er:aT p+mI2 p f<=f.items.length:=by unfold mI2; omega
 rw [Yvo h0,e,if_pos rfl,em]
 have k:=Y19y (M:=mng B) (H:=Yi6 Ls) (A:=atI) (a:=atI p.items) (m:=mI2 p f) (x:=xI p) (y:=p.items.getD (aT p+1) default) (post:=p.items.drop (aT p+2)) (p.items.take (aT p)) 0 f.items (by rw [el]; omega)
 rw [<- es,el] at k
 rw [k,Y10z (mI2 p f) er,Y15l _ _ _ _ (by rw [el]; exact Nat.le_refl _)]
 show (match alM (gI B Ls) _ _ with | none=>none | some c1=>_)=_
 cases alM (gI B Ls) (p.items.take (aT p)) f.items with
 | none=>rfl
 | some c1=>
  show (match (if qI B Ls p f (mI2 p f)=true then some (rI B Ls p f (mI2 p f)) else none) with | none=>none | some R=>_)=_
  by_cases hq:qI B Ls p f (mI2 p f)=true
  ·rw [if_pos hq]; simp only [hq,if_pos]; rfl
  ·rw [if_neg hq]; simp only; rw [if_neg hq]
theorem Y1nc (h0:p.kind=0) (hf:f.kind=0) (ha:1<=atI p.items) (hl:atI p.items<p.items.length) (hm:0<=(f.items.length:Int) - ((p.items.length:Int) - 2)) (h:(alM (gI B Ls) (p.items.take (aT p)) (f.items.take (aT p))).isSome=false):gI B Ls p f=none:=by
 rw [Y10c h0 hf ha hl hm]
 cases h2:alM (gI B Ls) (p.items.take (aT p)) (f.items.take (aT p)) with
 | none=>rfl
 | some c=>rw [h2] at h; cases h
theorem Y1k3 {t:Nat} (h:qI B Ls p f t=false) {n:Nat} (hn:t<=n):qI B Ls p f n=false:=by
 have e:=Ysu h (n - t)
 rw [show t+(n - t)=n by omega] at e
 unfold qI at *; rw [e]; exact h
theorem Y1gp (h0:p.kind=0) (hf:f.kind=0) (ha:1<=atI p.items) (hl:atI p.items<p.items.length) (hm:0<=(f.items.length:Int) - ((p.items.length:Int) - 2)) {t:Nat} (ht:t<=mI2 p f) (h:qI B Ls p f t=false):gI B Ls p f=none:=by
 rw [Y10c h0 hf ha hl hm,Y1k3 h ht]
 cases alM (gI B Ls) (p.items.take (aT p)) (f.items.take (aT p)) <;> rfl
theorem Y1ln (h0:p.kind=0) (hf:f.kind=0) (ha:1<=atI p.items) (hl:atI p.items<p.items.length) (hm:0<=(f.items.length:Int) - ((p.items.length:Int) - 2)) (h:(alM (gI B Ls) (p.items.take (aT p)) (f.items.take (aT p))).isSome=true) (hq:qI B Ls p f (mI2 p f)=true) :
  (gI B Ls p f).isSome=(alM (gI B Ls) (p.items.drop (aT p+2)) (f.items.drop (aT p+mI2 p f))).isSome/\smO p o (gI B Ls p f)=alO (alO o (alM (gI B Ls) (p.items.take (aT p)) (f.items.take (aT p)))++rp (nI Ls (xI p)) (rI B Ls p f (mI2 p f))) (alM (gI B Ls) (p.items.drop (aT p+2)) (f.items.drop (aT p+mI2 p f))):=by
 obtain ⟨c,hc⟩:=Option.isSome_iff_exists.1 h
 rw [Y10c h0 hf ha hl hm,hc]
 simp only [hq,↓reduceIte]
 cases alM (gI B Ls) (p.items.drop (aT p+2)) (f.items.drop (aT p+mI2 p f)) with
 | none=>exact ⟨rfl,by simp [smO,flM,h0,alO]⟩
 | some d=>exact ⟨rfl,by simp [smO,alO,List.append_assoc]⟩
theorem Y1gg (h0:p.kind=0) (hf:f.kind=0) (ha:atI p.items<0) (hl:p.items.length=f.items.length):(gI B Ls p f).isSome=(alM (gI B Ls) p.items f.items).isSome/\smO p o (gI B Ls p f)=alO o (alM (gI B Ls) p.items f.items):=by
 rw [Y190 h0 hf ha,if_pos hl]
 cases alM (gI B Ls) p.items f.items with
 | none=>exact ⟨rfl,by simp [smO,flM,h0,alO]⟩
 | some d=>exact ⟨rfl,rfl⟩
theorem Y1jn {t:Nat} {c:List YC} (h:qI B Ls p f t=true) (hc:gI B Ls (xI p) (f.items.getD (aT p+t) default)=some c):rI B Ls p f (t+1)=rI B Ls p f t++[c]/\qI B Ls p f (t+1)=true:=by
 unfold rI qI; rw [Ywx h hc]; exact ⟨rfl,rfl⟩
theorem Y1k5 {t:Nat} (h:qI B Ls p f t=true) (hc:gI B Ls (xI p) (f.items.getD (aT p+t) default)=none):qI B Ls p f (t+1)=false:=by
 unfold qI; rw [Yxf h hc]
theorem Y1ms {t:Nat} (h:qI B Ls p f t=true):(rI B Ls p f t).length=t:=Y10i t h
def Ykz (B:List YB) (Ls:List YS) (p f:YS) (t:Nat):List YC:=(gI B Ls (xI p) (f.items.getD (aT p+t) default)).getD []
theorem Yot (hg:good Ls p) (h0:p.kind=0):atI p.items=aS p.items/\(atI p.items = -1 ∨ 1<=atI p.items/\atI p.items<p.items.length):=by
 have hs:=Ys2 hg h0
 have e1:aS p.items=atI p.items:=by rw [(Y15c hs).1]; exact if_pos hs
 refine ⟨e1.symm,?_⟩
 rcases Y1iz p.items with h | ⟨a,h1,h2,h3⟩
 ·exact .inl (by rw [<- e1]; exact h)
 ·exact .inr ⟨by omega,by omega⟩
theorem Ytb (ha:1<=atI p.items) (hl:atI p.items<p.items.length):(aT p:Int)=atI p.items - 1/\aT p+2<=p.items.length:=by
 unfold aT; omega
theorem Y18m (hg:good Ls p) (h0:p.kind=0) (ha:1<=atI p.items) (hl:atI p.items<p.items.length):good Ls (xI p)/\xI p∈p.items:=by
 have h:=Ytb ha hl
 have e:=Yot hg h0
 exact ⟨Yn4 hg h0 (k:=aT p) (by omega) (by omega),Yfx (by omega)⟩
theorem Y1ps (hL:Ls.all Yip=true) (hg:good Ls p) (h0:p.kind=0) (ha:1<=atI p.items) (hl:atI p.items<p.items.length):vrI Ls (xI p) 1 []=some (nI Ls (xI p)):=by
 have h:=Ytb ha hl
 have e:=Yot hg h0
 have hL':=List.all_eq_true.1 hL
 have hx:=Y18m hg h0 ha hl
 have h1:=(Yti hg h0 (k:=aT p) (by omega) (by omega)).2
 have h2:=(Y182 hL' (xI p) hx.1.1 1 [] (by simp)).1
 have h3:=(Y19k (M:=fun _ _=>true) hL' (xI p) hx.1).2 1
 rw [h2]
 show vrS Ls (p.items.getD (aT p) default) 1 []=some (nm (Yi6 Ls) atI (xI p) 1)
 rw [h1]; exact congrArg some h3
theorem Yt6 {L:List YS} {z:YS} (h:z∈L):∃ k,k<L.length/\L.getD k default=z:=by
 obtain ⟨k,hk,e⟩:=List.mem_iff_getElem.1 h
 exact ⟨k,hk,by simp [hk,e]⟩
theorem Y1hc (hg:good Ls p) (h0:p.kind=0) (ha:1<=atI p.items) (hl:atI p.items<p.items.length) (hd:Yge p<=40):∀ z∈p.items.take (aT p),good Ls z/\Yge z<=40:=by
 intro z hz
 have h:=Ytb ha hl
 have e:=Yot hg h0
 obtain ⟨k,hk,rfl⟩:=Yt6 hz
 rw [List.length_take] at hk
 have e2:(p.items.take (aT p)).getD k default=p.items.getD k default:=by
  simp only [List.getD_eq_getElem?_getD,List.getElem?_take]; rw [if_pos (by omega)]
 rw [e2]
 have:=Yjj (t:=p) (k:=k) (by omega)
 exact ⟨Yn4 hg h0 (by omega) (by omega),by omega⟩
theorem Y1cr (hg:good Ls p) (h0:p.kind=0) (ha:1<=atI p.items) (hl:atI p.items<p.items.length) (hd:Yge p<=40):∀ z∈p.items.drop (aT p+2),good Ls z/\Yge z<=40:=by
 intro z hz
 have h:=Ytb ha hl
 have e:=Yot hg h0
 obtain ⟨k,hk,rfl⟩:=Yt6 hz
 rw [List.length_drop] at hk
 have e2:(p.items.drop (aT p+2)).getD k default=p.items.getD (aT p+2+k) default:=by
  simp only [List.getD_eq_getElem?_getD,List.getElem?_drop]
 rw [e2]
 have:=Yjj (t:=p) (k:=aT p+2+k) (by omega)
 exact ⟨Yn4 hg h0 (by omega) (by omega),by omega⟩
theorem Y1f9 (hg:good Ls p) (h0:p.kind=0) (ha:atI p.items<0) (hd:Yge p<=40):∀ z∈p.items,good Ls z/\Yge z<=40:=by
 intro z hz
 have e:=Yot hg h0
 obtain ⟨k,hk,rfl⟩:=Yt6 hz
 have:=Yjj (t:=p) (k:=k) hk
 exact ⟨Yn4 hg h0 hk (by omega),by omega⟩
theorem Ytu {α:Type} (c:α->Nat) (L:List α) (i:Nat):sumBy c (L.drop i)<=sumBy c L:=by
 have e:sumBy c (L.take i++L.drop i)=sumBy c L:=by rw [List.take_append_drop]
 rw [Yha] at e; omega
theorem Y14y (ha:1<=atI p.items) (hl:atI p.items<p.items.length):sumBy Yft (p.items.take (aT p))+Yft (xI p)+sumBy Yft (p.items.drop (aT p+2))+1<=Yft p/\sumBy wY (p.items.take (aT p))<=wY p/\wY (xI p)<=wY p/\sumBy wY (p.items.drop (aT p+2))<=wY p/\sumBy wY p.items<=wY p:=by
 have h:=Ytb ha hl
 have g1:=Ygo p
 have g2:=Yhn p
 have g3:=Yhj wY p.items (aT p)
 have g4:=Ytu wY p.items (aT p+2)
 have g5:=Ygt wY (Yfx (L:=p.items) (k:=aT p) (by omega))
 have g6:=Yyi Yft (L:=p.items) (k:=aT p) (by omega)
 have g7:=Yyi Yft (L:=p.items) (k:=aT p+1) (by omega)
 have e:sumBy Yft (p.items.take (aT p)++p.items.drop (aT p))=sumBy Yft p.items:=by rw [List.take_append_drop]
 rw [Yha] at e
 refine ⟨?_,by omega,?_,by omega,by omega⟩
 ·show _+Yft (p.items.getD (aT p) default)+_+1<=_
  rw [show aT p+1+1=aT p+2 by omega] at g7; omega
 ·show wY (p.items.getD (aT p) default)<=_
  omega
def fI (p f:YS):Bool:=decide (p.kind=0)&&decide (f.kind=0)&&decide (1<=atI p.items)&&decide (atI p.items<p.items.length)&&decide (0<=(f.items.length:Int) - ((p.items.length:Int) - 2))
theorem Yku (h:fI p f=true):p.kind=0/\f.kind=0/\1<=atI p.items/\atI p.items<p.items.length/\0<=(f.items.length:Int) - ((p.items.length:Int) - 2):=by
 simp only [fI,Bool.and_eq_true,decide_eq_true_eq] at h; exact ⟨h.1.1.1.1,h.1.1.1.2,h.1.1.2,h.1.2,h.2⟩
theorem Y1pv (h0:p.kind=0) (hf:f.kind=0) (ha:0<=atI p.items) (hg:good Ls p) (hm:0<=(f.items.length:Int) - ((p.items.length:Int) - 2)):fI p f=true:=by
 have e:=(Yot hg h0).2
 simp only [fI,Bool.and_eq_true,decide_eq_true_eq]; omega
theorem Ypq (h:fI p f=true):(aT p:Int)=atI p.items - 1/\aT p+2<=p.items.length/\(mI2 p f:Int)=(f.items.length:Int) - ((p.items.length:Int) - 2)/\aT p+mI2 p f<=f.items.length:=by
 obtain ⟨_,_,ha,hl,hm⟩:=Yku h
 have:=Ytb ha hl
 unfold mI2; omega
theorem Y1m8 (h:fI p f=true) (hg:good Ls p):good Ls (xI p)/\xI p∈p.items/\Yge (xI p)+1<=Yge p/\Yft (xI p)<=Yft p/\wY (xI p)<=wY p:=by
 obtain ⟨h0,_,ha,hl,_⟩:=Yku h
 have h1:=Y18m hg h0 ha hl
 have h2:=Y14y ha hl
 have h3:=Yjj (t:=p) (k:=aT p) (by have:=Ytb ha hl; omega)
 refine ⟨h1.1,h1.2,?_,by omega,by omega⟩
 show Yge (p.items.getD (aT p) default)+1<=_
 omega
theorem Y1p0 (h:fI p f=true) (hn:(alM (gI B Ls) (p.items.take (aT p)) (f.items.take (aT p))).isSome=false):gI B Ls p f=none:=by
 obtain ⟨h0,hf,ha,hl,hm⟩:=Yku h
 exact Y1nc h0 hf ha hl hm hn
theorem Y1if (h:fI p f=true) {t:Nat} (ht:t<=mI2 p f) (hq:qI B Ls p f t=false):gI B Ls p f=none:=by
 obtain ⟨h0,hf,ha,hl,hm⟩:=Yku h
 exact Y1gp h0 hf ha hl hm ht hq
theorem Y1k8 (h:fI p f=true) (hn:(alM (gI B Ls) (p.items.take (aT p)) (f.items.take (aT p))).isSome=true) (hq:qI B Ls p f (mI2 p f)=true) :
  (gI B Ls p f).isSome=(alM (gI B Ls) (p.items.drop (aT p+2)) (f.items.drop (aT p+mI2 p f))).isSome/\smO p o (gI B Ls p f)=alO (alO o (alM (gI B Ls) (p.items.take (aT p)) (f.items.take (aT p)))++rp (nI Ls (xI p)) (rI B Ls p f (mI2 p f))) (alM (gI B Ls) (p.items.drop (aT p+2)) (f.items.drop (aT p+mI2 p f))):=by
 obtain ⟨h0,hf,ha,hl,hm⟩:=Yku h
 exact Y1ln h0 hf ha hl hm hn hq
theorem Y1o6 (h0:p.kind=0) (hf:f.kind=0) (ha:0<=atI p.items) (hm:(f.items.length:Int) - ((p.items.length:Int) - 2)<0):gI B Ls p f=none:=Y1m3 h0 hf ha hm
theorem Y1qj (hL:Ls.all Yip=true) (hg:good Ls p) (h:fI p f=true):vrI Ls (xI p) 1 []=some (nI Ls (xI p)):=by
 obtain ⟨h0,_,ha,hl,_⟩:=Yku h
 exact Y1ps hL hg h0 ha hl
theorem Y1ij (h0:p.kind=0) (hf:f.kind=0) (ha:atI p.items<0) (hl:¬ p.items.length=f.items.length):gI B Ls p f=none:=by rw [Y190 h0 hf ha,if_neg hl]
theorem Y1g3 {t:Nat} (h:(gI B Ls (xI p) (f.items.getD (aT p+t) default)).isSome=true):(Ykz B Ls p f t).length=(nI Ls (xI p)).length:=by
 obtain ⟨c,hc⟩:=Option.isSome_iff_exists.1 h
 unfold Ykz; rw [hc]; exact Y1d3 hc
theorem Y18j {t:Nat} (hq:qI B Ls p f t=true) (h:(gI B Ls (xI p) (f.items.getD (aT p+t) default)).isSome=true):rI B Ls p f t++[Ykz B Ls p f t]=rI B Ls p f (t+1)/\qI B Ls p f (t+1)=true:=by
 obtain ⟨c,hc⟩:=Option.isSome_iff_exists.1 h
 have e:=Y1jn hq hc
 have e2:Ykz B Ls p f t=c:=by unfold Ykz; rw [hc]; rfl
 rw [e2]; exact ⟨e.1.symm,e.2⟩
theorem Y1m0 (hk:p.kind=1) (h:Yh8 p=true):gI B Ls p f=some []/\smO p o (gI B Ls p f)=o:=by
 have e:gI B Ls p f=some []:=by unfold gI; rw [Yji,if_pos hk,if_pos h]
 rw [e]; exact ⟨rfl,List.append_nil o⟩
theorem Y1nh (hk:p.kind=1) (h:Yh8 p=false) (h2:Yi6 Ls p=true):(gI B Ls p f).isSome=(decide (f.kind=1)&&mng B p f)/\smO p o (gI B Ls p f)=o:=by
 have e:gI B Ls p f=if f.kind=1/\mng B p f=true then some [] else none:=by unfold gI; rw [Yji,if_pos hk,if_neg (by simp [h]),if_pos h2]
 rw [e]
 by_cases hc:f.kind=1/\mng B p f=true
 ·rw [if_pos hc]; exact ⟨by simp [hc.1,hc.2],List.append_nil o⟩
 ·rw [if_neg hc]
  refine ⟨?_,by unfold smO flM; simp only; rw [if_neg (by omega)]⟩
  cases h3:decide (f.kind=1) <;> cases h4:mng B p f <;> simp_all
theorem Y1os (hk:p.kind=1) (h:Yh8 p=false) (h2:Yi6 Ls p=false):gI B Ls p f=some [Yp7 p f]/\smO p o (gI B Ls p f)=o++[Yp7 p f]:=by
 have e:gI B Ls p f=some [Yp7 p f]:=by unfold gI; rw [Yji,if_pos hk,if_neg (by simp [h]),if_neg (by simp [h2])]
 rw [e]; exact ⟨rfl,rfl⟩
theorem Y14k (hk:¬ p.kind=1) (h0:¬ p.kind=0):(gI B Ls p f).isSome=(decide (f.kind=p.kind)&&decide (f.number=p.number)&&decide (f.text=p.text))/\smO p o (gI B Ls p f)=o:=by
 have e:gI B Ls p f=if f.kind=p.kind/\f.number=p.number/\f.text=p.text then some [] else none:=by unfold gI; rw [Yji,if_neg hk,if_neg h0]
 rw [e]
 by_cases hc:f.kind=p.kind/\f.number=p.number/\f.text=p.text
 ·rw [if_pos hc]; exact ⟨by simp [hc.1,hc.2.1,hc.2.2],List.append_nil o⟩
 ·rw [if_neg hc]
  refine ⟨?_,by unfold smO flM; simp only; rw [if_neg h0]⟩
  symm; simp only [Option.isSome]; rw [Bool.eq_false_iff]; simp only [ne_eq,Bool.and_eq_true,decide_eq_true_eq]; rintro ⟨⟨a,b⟩,c⟩; exact hc ⟨a,b,c⟩
end
end Go.Proofs.YtclpofblehlojaaGreat
end
section
namespace Go.Proofs.YtclpofblehlojaaGreat
open Go Ab
theorem zw {p:Prop} (h:p:=by first | with_reducible rfl | exact True.intro | omega | with_reducible assumption | with_reducible exact dT ‹_› | with_reducible exact dF ‹_› | ((first | refine Y1dm ?_ | refine Yu9 ?_ rfl); (first | omega | (simp only [std]; omega) | grind))):p:=h
end Go.Proofs.YtclpofblehlojaaGreat
end
