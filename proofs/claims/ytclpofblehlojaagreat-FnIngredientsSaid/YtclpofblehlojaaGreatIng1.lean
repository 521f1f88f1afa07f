/- Part 1 of a proof. No condition. -/
import Derived.Test.YtclpofblehlojaaGreatQ5
section
namespace Go.Proofs.YtclpofblehlojaaGreat
open Go Go.Proofs.YtclpofblehlojaaGreat.Ab
theorem zV {p : Prop} (h : p := by
  with_reducible repeat' (first | apply And.intro | exact zR | (intro; skip))
  all_goals (try simp only [std, inj] at *)
  all_goals with_reducible repeat' apply And.intro
  all_goals (try (first | exact z | grind [Yfy, Yfz, Yfs]))) : p := h
theorem zW {p : Prop} (h : p := by
  with_reducible repeat' (first | apply And.intro | exact zR | (intro; skip))
  all_goals (try simp only [std, inj] at *)
  all_goals with_reducible repeat' apply And.intro
  all_goals (try (first | exact z | grind [Yfy, Yfz, Yfs, Yfx]))) : p := h
theorem zG {p : Prop} (h : p := by first | exact z | grind [Yfy, Yfz, Yfs]) : p := h
end Go.Proofs.YtclpofblehlojaaGreat
end
set_option linter.unusedVariables false
set_option linter.unusedSimpArgs false
section
namespace Go.Proofs.YtclpofblehlojaaGreat
open Go Ab
set_option maxHeartbeats 4000000
theorem Ys5 {L:List UInt8} {p:UInt8->Bool} {k:Nat} (h:k<L.length) (hp:p (L.getD k 0)=false):L.all p=false:=by
 rw [List.all_eq_false]
 have e:L.getD k 0=L[k]:=by simp [h]
 exact ⟨L[k],List.getElem_mem h,by rw [<- e,hp]; decide⟩
theorem Yyd {L:List UInt8} {p:UInt8->Bool} {k:Nat} (h:k<L.length) (hp:p (L.getD k 0)=true) (ht:(L.take k).all p=true):(L.take (k+1)).all p=true:=by
 rw [Y1pr h,List.all_append,ht,List.all_cons,hp]; rfl
theorem Yvb {L:List UInt8} {p:UInt8->Bool} {k:Nat} (h:L.length<=k) (ht:(L.take k).all p=true):L.all p=true:=by
 rwa [List.take_of_length_le h] at ht
def lu (n:Int):SV:=.one (.val (.lit (.int .u8 n)))
def Yk6 (n:Int):Bool:=decide (48<=n/\n<=57)
def Yos:List Int:=[33,63,42,60,62,61,47,43,45,46,95]
def Yl1 (n:Int):Bool:=decide (97<=n/\n<=122)||Yk6 n||decide (n∈Yos)
theorem Y1lm {k:Nat} (h:k<11):((([33,63,42,60,62,61,47,43,45,46,95]:List UInt8).getD k 0).toNat:Int)=Yos.getD k default:=by
 have:∀ k,k<11->((([33,63,42,60,62,61,47,43,45,46,95]:List UInt8).getD k 0).toNat:Int)=Yos.getD k default:=by decide
 exact this k h
def Yl3 (n:Int):Bool:=decide (32<=n/\n<=126/\n≠34)
def Yim (s:ByteArray):Bool:=decide (1<=(s.size:Int)/\(s.size:Int)<=16) && !Yk6 (s.data.toList.getD 0 0).toNat && !(decide (((s.data.toList.getD 0 0).toNat:Int)=45)&&decide (1<(s.size:Int))&&Yk6 (s.data.toList.getD 1 0).toNat)&&s.data.toList.all fun b=>Yl1 b.toNat
def Yjr (s:ByteArray):Bool:=decide ((s.size:Int)<=20)&&s.data.toList.all fun b=>Yl3 b.toNat
abbrev Z81 (n:Int):Ct:=⟨187,[],[lu n],[],.sv (lb (Yk6 n))⟩
theorem Z4r (n:Int)  : Z81 n:=Yg4 Tryz.call187 Tryz.func187 (.i (48<=n) (.s (lb (decide (n<=57)))) (.s (lb false))) (by
 dsimp only [Yfp,Z81]
 with_reducible repeat' (first | apply And.intro | exact zR | (intro))
 all_goals ((try simp only [std,inj] at *); with_reducible and_intros)
 all_goals try first | exact z | grind [Yk6,Yfy,Yfz,Yfs])
abbrev Z82 (n:Int):Ct:=⟨147,[],[lu n],[],.sv (lb (Yk6 n))⟩
theorem Za0 (n:Int)  : Z82 n:=Yg4 Tryz.call147 Tryz.func147 (.i (48<=n) (.s (lb (decide (n<=57)))) (.s (lb false))) (by
 dsimp only [Yfp,Z82]
 with_reducible repeat' (first | apply And.intro | exact zR | (intro))
 all_goals ((try simp only [std,inj] at *); with_reducible and_intros)
 all_goals try first | exact z | grind [Yk6,Yfy,Yfz,Yfs])
abbrev Z8z (n:Int):Ct:=⟨188,[],[lu n],[],.sv (lb (Yl1 n))⟩
def Z2z (n:Int):Lp Nat:=.mk 26 0 (fun x=>[(0,.one (.val (.lit (.int .u8 n)))),(3,ls (ByteArray.mk #[(33:UInt8),(63:UInt8),(42:UInt8),
 (60:UInt8),(62:UInt8),(61:UInt8),(47:UInt8),(43:UInt8),(45:UInt8),(46:UInt8),(95:UInt8)])),(4,hs x 0)]) (fun x=>[]) (fun k=>[.s (li (k:Int))]) (fun
 k=>k<=11/\¬n∈Yos.take k) (fun k=>11 - k) [.mk (decide (n∈Yos)=false) (.exit 0) (fun x=>[]) (fun x=>[]) [],.mk (decide (n∈Yos)=true) .ret (fun x=>
 [(2,hs x 0)]) (fun x=>[]) [.s (lb true)]]
theorem Z83 (n:Int):Lp.Sem Tryz.prog (Yg6 Tryz.f188 0) (Z2z n):=Ygf (fun k=>.h (11<=9223372036854775807) (.i ((k:Int)<11) (.p (0<=(k:Int)/\(↑k
 : Int).toNat<11) (.i ((↑([(33:UInt8),(63:UInt8),(42:UInt8),(60:UInt8),(62:UInt8),(61:UInt8),(47:UInt8),(43:UInt8),(45:UInt8),(46:UInt8),(95 :
 UInt8)].getD (k:Int).toNat (0:UInt8)).toNat:Int)=n) (.o 1 [] [.s (lb true)]) (.r ((k:Int)+1) (.g [] (k+1) [.s (li ((k:Int)+1))])))) (.o 0 [] []))) (by
 intro k h; try dsimp only [Yfp,Yg0,Z2z] at h ⊢
 have g:=@Y1lm k
 have e:Yos.length=11:=rfl
 have e2:Yos.take 11=Yos:=rfl
 with_reducible repeat' (first | apply And.intro | exact zR | (intro))
 all_goals ((try simp only [std,inj] at *); with_reducible and_intros)
 all_goals try first | exact z | grind [Ygg,Yfx,Yfy,Yfz,Yfs])
theorem Zev (n:Int)  : Z8z n:=Yg4 Tryz.call188 Tryz.func188 (.i (97<=n) (.i (n<=122) (.y true (.s (lb true))) (.c [.rd] (Z4r n) (.b (Yk6 n) (.s (lb true)) (.l
 (Z2z n) (Z83 n) [] [.s (li 0)] 0 (.t (.s (lb false)) (.t (.s (lb true)) .q)))))) (.y false (.c [.rd] (Z4r n) (.b (Yk6 n) (.s (lb true)) (.l (Z2z n)
 (Z83 n) [] [.s (li 0)] 0 (.t (.s (lb false)) (.t (.s (lb true)) .q))))))) (by
 dsimp only [Yfp,Z8z,Yg0,Z2z]
 with_reducible repeat' (first | apply And.intro | exact zR | (intro))
 all_goals ((try simp only [std,inj] at *); with_reducible and_intros)
 all_goals try first | exact z | grind [Yl1,Yfy,Yfz,Yfs])
abbrev Z90 (n:Int):Ct:=⟨148,[],[lu n],[],.sv (lb (Yl1 n))⟩
theorem Zew (n:Int)  : Z90 n:=Yg4 Tryz.call148 Tryz.func148 (.i (97<=n) (.i (n<=122) (.y true (.s (lb true))) (.i (48<=n) (.i (n<=57) (.s (lb true)) (.i (n=33)
 (.y true (.s (lb true))) (.i (n=63) (.y true (.s (lb true))) (.i (n=42) (.y true (.s (lb true))) (.i (n=60) (.y true (.s (lb true))) (.i (n=62) (.y true (.s (lb true)))
 (.i (n=61) (.y true (.s (lb true))) (.i (n=47) (.y true (.s (lb true))) (.i (n=43) (.y true (.s (lb true))) (.i (n=45) (.y true (.s (lb true))) (.i (n=46) (.y true (.s
 (lb true))) (.i (n=95) (.s (lb true)) (.s (lb false)))))))))))))) (.y false (.i (n=33) (.y true (.s (lb true))) (.i (n=63) (.y true (.s (lb true))) (.i (n=42) (.y true (.s
 (lb true))) (.i (n=60) (.y true (.s (lb true))) (.i (n=62) (.y true (.s (lb true))) (.i (n=61) (.y true (.s (lb true))) (.i (n=47) (.y true (.s (lb true))) (.i (n=43)
 (.y true (.s (lb true))) (.i (n=45) (.y true (.s (lb true))) (.i (n=46) (.y true (.s (lb true))) (.i (n=95) (.s (lb true)) (.s (lb false)))))))))))))))) (.y false (.i (48 <=
 n) (.i (n<=57) (.s (lb true)) (.i (n=33) (.y true (.s (lb true))) (.i (n=63) (.y true (.s (lb true))) (.i (n=42) (.y true (.s (lb true))) (.i (n=60) (.y true (.s (lb
 true))) (.i (n=62) (.y true (.s (lb true))) (.i (n=61) (.y true (.s (lb true))) (.i (n=47) (.y true (.s (lb true))) (.i (n=43) (.y true (.s (lb true))) (.i (n=45) (.y
 true (.s (lb true))) (.i (n=46) (.y true (.s (lb true))) (.i (n=95) (.s (lb true)) (.s (lb false)))))))))))))) (.y false (.i (n=33) (.y true (.s (lb true))) (.i (n=63) (.y
 true (.s (lb true))) (.i (n=42) (.y true (.s (lb true))) (.i (n=60) (.y true (.s (lb true))) (.i (n=62) (.y true (.s (lb true))) (.i (n=61) (.y true (.s (lb true))) (.i (n
 = 47) (.y true (.s (lb true))) (.i (n=43) (.y true (.s (lb true))) (.i (n=45) (.y true (.s (lb true))) (.i (n=46) (.y true (.s (lb true))) (.i (n=95) (.s (lb true)) (.s
 (lb false))))))))))))))))) (by
 dsimp only [Yfp,Z90]
 with_reducible repeat' (first | apply And.intro | exact zR | (intro))
 all_goals ((try simp only [std,inj] at *); with_reducible and_intros)
 all_goals (try exact zG)
 all_goals (symm; simp only [Yl1,Yk6,Yos,List.mem_cons,List.not_mem_nil,Bool.or_eq_true,Bool.or_eq_false_iff,decide_eq_true_eq,decide_eq_false_iff_not,or_false]; omega))
abbrev Za1 (x:Int) (a:Int) (b:Int):Ct:=⟨112,[],[li x,li a,li b],[],.sv (lb (decide (a<=x/\x<=b)))⟩
theorem Z1i (x a b:Int)  : Za1 x a b:=Yg4 Tryz.call112 Tryz.func112 (.i (a<=x) (.s (lb (decide (x<=b)))) (.s (lb false))) (by
 dsimp only [Yfp,Za1]
 exact zV)
abbrev Z6h (s:ByteArray):Ct:=⟨133,[],[ls s],[],.sv (lb (Yim s))⟩
def Zt (s:ByteArray):Lp Nat:=.mk 39 0 (fun x=>[(0,ls s),(3,hs x 0)]) (fun x=>[]) (fun k=>[.s (li (k:Int))]) (fun k=>k<=s.size/\s.size<=16 /\
 ((s.data.toList.take k).all fun b=>Yl1 (b.toNat:Int))=true) (fun k=>s.size - k) [.mk ((s.data.toList.all fun b=>Yl1 (b.toNat:Int))=true) (.exit 0) (fun x=>
 []) (fun x=>[]) [],.mk ((s.data.toList.all fun b=>Yl1 (b.toNat:Int))=false) .ret (fun x=>[(2,hs x 0)]) (fun x=>[]) [.s (lb false)]]
theorem Z3i (s:ByteArray):Lp.Sem Tryz.prog (Yg6 Tryz.f133 0) (Zt s):=Ygf (fun k=>.h (s.data.toList.length<=9223372036854775807) (.i ((k:Int)
 < (s.data.toList.length:Int)) (.p (0<=(k:Int)/\(k:Int).toNat<s.data.toList.length) (.c [.rd] (Zev (↑(s.data.toList.getD (k:Int).toNat (0:UInt8)).toNat :
 Int)) (.b (!Yl1 (↑(s.data.toList.getD (k:Int).toNat (0:UInt8)).toNat:Int)) (.o 1 [] [.s (lb false)]) (.r ((k:Int)+1) (.g [] (k+1) [.s (li ((k:Int)+1))])))))
 (.o 0 [] []))) (by
 intro k h; try dsimp only [Yfp,Yg0,Zt] at h ⊢
 have g1:=@Ys5 s.data.toList (fun b=>Yl1 b.toNat) k
 have g2:=@Yyd s.data.toList (fun b=>Yl1 b.toNat) k
 have g3:=@Yvb s.data.toList (fun b=>Yl1 b.toNat) k
 exact zV)
theorem Zh (s:ByteArray)  : Z6h s:=Yg4 Tryz.call133 Tryz.func133 (.h (s.data.toList.length<=9223372036854775807) (.c [.rd,.rd,.rd] (Z1i
 (s.data.toList.length:Int) 1 16) (.b (!decide (1<=(s.data.toList.length:Int)/\(s.data.toList.length:Int)<=16)) (.y true (.y true (.s (lb false)))) (.p ((0:Int)<=0 /\
 0<s.data.toList.length) (.c [.rd] (Z4r (↑(s.data.toList.getD 0 (0:UInt8)).toNat:Int)) (.b (Yk6 (↑(s.data.toList.getD 0 (0:UInt8)).toNat:Int)) (.y true (.s (lb
 false))) (.p ((0:Int)<=0/\0<s.data.toList.length) (.i ((↑(s.data.toList.getD 0 (0:UInt8)).toNat:Int)=45) (.h (s.data.toList.length<=9223372036854775807) (.i (1 <
 (s.data.toList.length:Int)) (.p ((0:Int)<=1/\1<s.data.toList.length) (.c [.rd] (Z4r (↑(s.data.toList.getD 1 (0:UInt8)).toNat:Int)) (.b (Yk6
 (↑(s.data.toList.getD 1 (0:UInt8)).toNat:Int)) (.s (lb false)) (.l (Zt s) (Z3i s) [] [.s (li 0)] 0 (.t (.s (lb true)) (.t (.s (lb false)) .q)))))) (.y
 false (.l (Zt s) (Z3i s) [] [.s (li 0)] 0 (.t (.s (lb true)) (.t (.s (lb false)) .q)))))) (.y false (.y false (.l (Zt s) (Z3i s) []
 [.s (li 0)] 0 (.t (.s (lb true)) (.t (.s (lb false)) .q))))))))))))) (by
 dsimp only [Yfp,Z6h,Yg0,Zt]
 with_reducible repeat' (first | apply And.intro | exact zR | (intro))
 all_goals ((try simp only [std,inj] at *); with_reducible and_intros)
 all_goals try first | exact z | grind [Yim,Yfy,Yfz,Yfs])
abbrev Z6i (s:ByteArray):Ct:=⟨70,[],[ls s],[],.sv (lb (Yim s))⟩
def Zu (s:ByteArray):Lp Nat:=.mk 43 0 (fun x=>[(0,ls s),(3,hs x 0)]) (fun x=>[]) (fun k=>[.s (li (k:Int))]) (fun k=>k<=s.size/\s.size<=16 /\
 ((s.data.toList.take k).all fun b=>Yl1 (b.toNat:Int))=true) (fun k=>s.size - k) [.mk ((s.data.toList.all fun b=>Yl1 (b.toNat:Int))=true) (.exit 0) (fun x=>
 []) (fun x=>[]) [],.mk ((s.data.toList.all fun b=>Yl1 (b.toNat:Int))=false) .ret (fun x=>[(2,hs x 0)]) (fun x=>[]) [.s (lb false)]]
theorem Z3j (s:ByteArray):Lp.Sem Tryz.prog (Yg6 Tryz.f70 0) (Zu s):=Ygf (fun k=>.h (s.data.toList.length<=9223372036854775807) (.i ((k:Int) <
 (s.data.toList.length:Int)) (.p (0<=(k:Int)/\(k:Int).toNat<s.data.toList.length) (.c [.rd] (Zew (↑(s.data.toList.getD (k:Int).toNat (0:UInt8)).toNat:Int))
 (.b (!Yl1 (↑(s.data.toList.getD (k:Int).toNat (0:UInt8)).toNat:Int)) (.o 1 [] [.s (lb false)]) (.r ((k:Int)+1) (.g [] (k+1) [.s (li ((k:Int)+1))]))))) (.o 0 []
 []))) (by
 intro k h; try dsimp only [Yfp,Yg0,Zu] at h ⊢
 have g1:=@Ys5 s.data.toList (fun b=>Yl1 b.toNat) k
 have g2:=@Yyd s.data.toList (fun b=>Yl1 b.toNat) k
 have g3:=@Yvb s.data.toList (fun b=>Yl1 b.toNat) k
 exact zV)
theorem Z3m (s:ByteArray)  : Z6i s:=Yg4 Tryz.call70 Tryz.func70 (.h (s.data.toList.length<=9223372036854775807) (.i ((s.data.toList.length:Int)<1) (.y
 true (.y true (.y true (.s (lb false))))) (.h (s.data.toList.length<=9223372036854775807) (.i (16<(s.data.toList.length:Int)) (.y true (.y true (.s (lb false)))) (.p ((0 :
 Int)<=0/\0<s.data.toList.length) (.c [.rd] (Za0 (↑(s.data.toList.getD 0 (0:UInt8)).toNat:Int)) (.b (Yk6 (↑(s.data.toList.getD 0 (0:UInt8)).toNat:Int)) (.y true
 (.s (lb false))) (.p ((0:Int)<=0/\0<s.data.toList.length) (.i ((↑(s.data.toList.getD 0 (0:UInt8)).toNat:Int)=45) (.h (s.data.toList.length<=9223372036854775807) (.i
 (1<(s.data.toList.length:Int)) (.p ((0:Int)<=1/\1<s.data.toList.length) (.c [.rd] (Za0 (↑(s.data.toList.getD 1 (0:UInt8)).toNat:Int)) (.b (Yk6
 (↑(s.data.toList.getD 1 (0:UInt8)).toNat:Int)) (.s (lb false)) (.l (Zu s) (Z3j s) [] [.s (li 0)] 0 (.t (.s (lb true)) (.t (.s (lb false)) .q)))))) (.y
 false (.l (Zu s) (Z3j s) [] [.s (li 0)] 0 (.t (.s (lb true)) (.t (.s (lb false)) .q)))))) (.y false (.y false (.l (Zu s) (Z3j s) []
 [.s (li 0)] 0 (.t (.s (lb true)) (.t (.s (lb false)) .q)))))))))))))) (by
 dsimp only [Yfp,Z6i,Yg0,Zu]
 with_reducible repeat' (first | apply And.intro | exact zR | (intro))
 all_goals ((try simp only [std,inj] at *); with_reducible and_intros)
 all_goals try first | exact z | grind [Yim,Yfy,Yfz,Yfs])
abbrev Z7d (s:ByteArray):Ct:=⟨204,[],[ls s],[],.sv (lb (Yjr s))⟩
def Z30 (s:ByteArray):Lp Nat:=.mk 29 0 (fun x=>[(0,ls s),(3,hs x 0)]) (fun x=>[]) (fun k=>[.s (li (k:Int))]) (fun k=>k<=s.size/\((List.take k
 s.data.toList).all fun b=>Yl3 (b.toNat:Int))=true) (fun k=>s.size - k) [.mk ((s.data.toList.all fun b=>Yl3 (b.toNat:Int))=true) (.exit 0) (fun x=>[(0,ls
 s)]) (fun x=>[]) [],.mk ((s.data.toList.all fun b=>Yl3 (b.toNat:Int))=false) .ret (fun x=>[(2,hs x 0)]) (fun x=>[]) [.s (lb false)]]
theorem Za2 (s:ByteArray):Lp.Sem Tryz.prog (Yg6 Tryz.f204 0) (Z30 s):=Ygf (fun k=>.h (s.data.toList.length<=9223372036854775807) (.i ((k:Int) <
 (s.data.toList.length:Int)) (.p (0<=(k:Int)/\(k:Int).toNat<s.data.toList.length) (.i ((↑(s.data.toList.getD (k:Int).toNat (0:UInt8)).toNat:Int)<32) (.y true
 (.y true (.o 1 [] [.s (lb false)]))) (.p (0<=(k:Int)/\(k:Int).toNat<s.data.toList.length) (.i (126<(↑(s.data.toList.getD (k:Int).toNat (0:UInt8)).toNat:Int))
 (.y true (.o 1 [] [.s (lb false)])) (.p (0<=(k:Int)/\(k:Int).toNat<s.data.toList.length) (.i ((↑(s.data.toList.getD (k:Int).toNat (0:UInt8)).toNat:Int)=34) (.o
 1 [] [.s (lb false)]) (.r ((k:Int)+1) (.g [] (k+1) [.s (li ((k:Int)+1))])))))))) (.o 0 [] []))) (by
 intro k h; try dsimp only [Yfp,Yg0,Z30] at h ⊢
 have g1:=@Ys5 s.data.toList (fun b=>Yl3 b.toNat) k
 have g2:=@Yyd s.data.toList (fun b=>Yl3 b.toNat) k
 have g3:=@Yvb s.data.toList (fun b=>Yl3 b.toNat) k
 with_reducible repeat' (first | apply And.intro | exact zR | (intro))
 all_goals ((try simp only [std,inj] at *); with_reducible and_intros)
 all_goals try first | exact z | grind [Yl3,Yfy,Yfz,Yfs])
theorem Z50 (s:ByteArray)  : Z7d s:=Yg4 Tryz.call204 Tryz.func204 (.l (Z30 s) (Za2 s) [] [.s (li 0)] 0 (.t (.h (s.data.toList.length <=
 9223372036854775807) (.s (lb (decide ((s.data.toList.length:Int)<=20))))) (.t (.s (lb false)) .q))) (by
 dsimp only [Yfp,Z7d,Yg0,Z30]
 with_reducible repeat' (first | apply And.intro | exact zR | (intro))
 all_goals ((try simp only [std,inj] at *); with_reducible and_intros)
 all_goals try first | exact z | grind [Yjr,Yfy,Yfz,Yfs])
abbrev Z7e (s:ByteArray):Ct:=⟨176,[],[ls s],[],.sv (lb (Yjr s))⟩
def Z31 (s:ByteArray):Lp Nat:=.mk 29 0 (fun x=>[(0,ls s),(3,hs x 0)]) (fun x=>[]) (fun k=>[.s (li (k:Int))]) (fun k=>k<=s.size/\((List.take k
 s.data.toList).all fun b=>Yl3 (b.toNat:Int))=true) (fun k=>s.size - k) [.mk ((s.data.toList.all fun b=>Yl3 (b.toNat:Int))=true) (.exit 0) (fun x=>[]) (fun x
 => []) [],.mk ((s.data.toList.all fun b=>Yl3 (b.toNat:Int))=false) .ret (fun x=>[(2,hs x 0)]) (fun x=>[]) [.s (lb false)]]
theorem Za3 (s:ByteArray):Lp.Sem Tryz.prog (Yg6 Tryz.f176 0) (Z31 s):=Ygf (fun k=>.h (s.data.toList.length<=9223372036854775807) (.i ((k:Int) <
 (s.data.toList.length:Int)) (.p (0<=(k:Int)/\(k:Int).toNat<s.data.toList.length) (.i ((↑(s.data.toList.getD (k:Int).toNat (0:UInt8)).toNat:Int)<32) (.y true
 (.y true (.o 1 [] [.s (lb false)]))) (.p (0<=(k:Int)/\(k:Int).toNat<s.data.toList.length) (.i (126<(↑(s.data.toList.getD (k:Int).toNat (0:UInt8)).toNat:Int))
 (.y true (.o 1 [] [.s (lb false)])) (.p (0<=(k:Int)/\(k:Int).toNat<s.data.toList.length) (.i ((↑(s.data.toList.getD (k:Int).toNat (0:UInt8)).toNat:Int)=34) (.o
 1 [] [.s (lb false)]) (.r ((k:Int)+1) (.g [] (k+1) [.s (li ((k:Int)+1))])))))))) (.o 0 [] []))) (by
 intro k h; try dsimp only [Yfp,Yg0,Z31] at h ⊢
 have g1:=@Ys5 s.data.toList (fun b=>Yl3 b.toNat) k
 have g2:=@Yyd s.data.toList (fun b=>Yl3 b.toNat) k
 have g3:=@Yvb s.data.toList (fun b=>Yl3 b.toNat) k
 with_reducible repeat' (first | apply And.intro | exact zR | (intro))
 all_goals ((try simp only [std,inj] at *); with_reducible and_intros)
 all_goals try first | exact z | grind [Yl3,Yfy,Yfz,Yfs])
theorem Zct (s:ByteArray)  : Z7e s:=Yg4 Tryz.call176 Tryz.func176 (.h (s.data.toList.length<=9223372036854775807) (.i (20<(s.data.toList.length:Int)) (.s (lb
 false)) (.l (Z31 s) (Za3 s) [] [.s (li 0)] 0 (.t (.s (lb true)) (.t (.s (lb false)) .q))))) (by
 dsimp only [Yfp,Z7e,Yg0,Z31]
 with_reducible repeat' (first | apply And.intro | exact zR | (intro))
 all_goals ((try simp only [std,inj] at *); with_reducible and_intros)
 all_goals try first | exact z | grind [Yjr,Yfy,Yfz,Yfs])
def Ym5 (k n:Int) (t:ByteArray) (i:Int):Bool:=decide (k=0/\n=0/\t.data.toList=[])||decide (k=1/\n=0/\Yim t=true/\i=0)||decide (k=2 /\ -999999999<=n/\n<=999999999/\t.data.toList=[]/\i=0)||decide (k=3/\0<=n/\n<=1/\t.data.toList=[]/\i=0)||decide (k=4/\n=0/\Yjr t=true/\i=0)
abbrev Z91 (k:Int) (n:Int) (t:ByteArray) (i:Int):Ct:=⟨169,[],[li k,li n,ls t,li i],[],.sv (lb (Ym5 k n t i))⟩
theorem Zbu (k n:Int) (t:ByteArray) (i:Int)  : Z91 k n t i:=Yg4 Tryz.call169 Tryz.func169 (.i (k=0) (.i (n=0) (.s (lb (decide (t.data.toList=[])))) (.s (lb
 false))) (.i (k=1) (.i (n=0) (.c [.rd] (Zh t) (.b (Yim t) (.s (lb (decide (i=0)))) (.s (lb false)))) (.y false (.s (lb false)))) (.i (k=2) (.c [.rd,.rd,.rd]
 (Z1i n (-999999999:Int) 999999999) (.i ((-999999999:Int)<=n/\n<=999999999) (.i (t.data.toList=[]) (.s (lb (decide (i=0)))) (.s (lb false))) (.y false (.s (lb
 false))))) (.i (k=3) (.c [.rd,.rd,.rd] (Z1i n 0 1) (.i (0<=n/\n<=1) (.i (t.data.toList=[]) (.s (lb (decide (i=0)))) (.s (lb false))) (.y false (.s (lb false))))) (.i
 (k=4) (.i (n=0) (.c [.rd] (Z50 t) (.b (Yjr t) (.s (lb (decide (i=0)))) (.s (lb false)))) (.y false (.s (lb false)))) (.s (lb false))))))) (by
 dsimp only [Yfp,Z91]
 with_reducible repeat' (first | apply And.intro | exact zR | (intro))
 all_goals ((try simp only [std,inj] at *); with_reducible and_intros)
 all_goals try first | exact z | grind [Ym5,Yfy,Yfz,Yfs])
abbrev Z92 (k:Int) (n:Int) (t:ByteArray) (i:Int):Ct:=⟨118,[],[li k,li n,ls t,li i],[],.sv (lb (Ym5 k n t i))⟩
theorem Zex (k n:Int) (t:ByteArray) (i:Int)  : Z92 k n t i:=Yg4 Tryz.call118 Tryz.func118 (.i (k=0) (.i (n=0) (.s (lb (decide (t.data.toList=[])))) (.s (lb
 false))) (.i (k=1) (.i (n=0) (.i (i=0) (.c [.rd] (Z3m t) (.s (lb (Yim t)))) (.s (lb false))) (.y false (.s (lb false)))) (.i (k=2) (.i ((-999999999:Int)<=n)
 (.i (n<=999999999) (.i (t.data.toList=[]) (.s (lb (decide (i=0)))) (.s (lb false))) (.y false (.s (lb false)))) (.y false (.y false (.s (lb false))))) (.i (k=3) (.i (n=0)
 (.y true (.i (t.data.toList=[]) (.s (lb (decide (i=0)))) (.s (lb false)))) (.i (n=1) (.i (t.data.toList=[]) (.s (lb (decide (i=0)))) (.s (lb false))) (.y false (.s (lb
 false))))) (.i (k=4) (.i (n=0) (.i (i=0) (.c [.rd] (Zct t) (.s (lb (Yjr t)))) (.s (lb false))) (.y false (.s (lb false)))) (.s (lb false))))))) (by
 dsimp only [Yfp,Z92]
 with_reducible repeat' (first | apply And.intro | exact zR | (intro))
 all_goals ((try simp only [std,inj] at *); with_reducible and_intros)
 all_goals try first | exact z | grind [Ym5,Yfy,Yfz,Yfs])
mutual
def sizeD:Datum->Nat
 | ⟨_,_,_,l⟩=>Yuh l+1
def Yuh:List Datum->Nat
 | []=>0
 | c :: r=>sizeD c+Yuh r
end
theorem Y11u:∀ l,Yuh l=sumBy sizeD l
 | []=>by simp [Yuh,sumBy]
 | c :: r=>by rw [Yuh,sumBy,Y11u r]
theorem Ykx (c:Datum):sizeD c=sumBy sizeD c.items+1:=by cases c; simp only [sizeD,Y11u]
mutual
def Ym6:Datum->Nat
 | ⟨_,_,_,l⟩=>Yxw l+1
def Yxw:List Datum->Nat
 | []=>0
 | c :: r=>max (Ym6 c) (Yxw r)
end
theorem Y144:∀ l,Yxw l=Yh2 Ym6 l
 | []=>by simp [Yxw,Yh2]
 | c :: r=>by rw [Yxw,Yh2,Y144 r]
theorem Y19f (c:Datum):Ym6 c=Yh2 Ym6 c.items+1:=by cases c; simp only [Ym6,Y144]
theorem Y1k2:∀ c:Datum,Ym6 c<=sizeD c:=by
 refine Datum.ind fun c ih => ?_
 have:=Yup ih
 rw [Ykx,Y19f]; omega
mutual
def okD:Datum->Bool
 | ⟨k,n,t,l⟩=>Y154 l&&Ym5 k n t l.length
def Y154:List Datum->Bool
 | []=>true
 | c :: r=>okD c&&Y154 r
end
theorem Y18r:∀ l,Y154 l=l.all okD
 | []=>by simp [Y154]
 | c :: r=>by rw [Y154,Y18r r]; rfl
theorem Y1o3 (c:Datum):okD c=(c.items.all okD&&Ym5 c.kind c.number c.text c.items.length):=by cases c; simp only [okD,Y18r]
def Yny (d:Datum):Bool:=decide (sizeD d<=600)&&decide (Ym6 d<=20)&&okD d
abbrev Z1a (d:Datum) (l:Int):Ct:=⟨237,[.box [vI l]],[Ys0 d,.one (.ptr 0 0)],[.box [vI (max (l - sizeD d) (-1))]],.sv (lb (decide (sizeD d<=l)))⟩
def Z32 (d:Datum) (l:Int):Lp Nat:=.mk 36 1 (fun x=>[(1,.one (.ptr 0 0)),(2,.one (.ptr 1 0)),(5,hs x 0)]) (fun x=>[.box [ha x 1],.box (vals
 (Yh9 d))]) (fun k=>[.s (li (k:Int)),.a (vI (max (l - 1 - (↑(sumBy sizeD (d.items.take k)):Int)) (-1:Int)))]) (fun k=>d.items.length >= k) (fun k=>
 d.items.length - k) [.mk True (.exit 0) (fun x=>[(1,.one (.ptr 0 0))]) (fun x=>[.box [ha x 0]]) [.a (vI (max (l - (↑(sizeD d):Int)) (-1:Int)))]]
theorem Za4 (d:Datum) (l:Int) (h:0<=l/\l<=1000000) (ih:∀ (z:Datum),z∈d.items->∀ (l:Int),0<=l/\l<=1000000->OK (Z1a z l)):Lp.Sem Tryz.prog
 (Yg6 Tryz.f237 0) (Z32 d l):=Ygf (fun k=>.z Yg2 d.items (.i ((k:Int)<(↑(d.items.map Yg2).length:Int)) (.i (0<=max (l - 1 - (↑(sumBy sizeD
 (d.items.take k)):Int)) (-1:Int)) (.x (k:Int) (d.items.map Yg2) (Yh9 (d.items.getD k default)) (.d [.rd,.ptr] (Z1a (d.items.getD k default) (max (l -
 1 - (↑(sumBy sizeD (d.items.take k)):Int)) (-1:Int))) (.r ((k:Int)+1) (.g [0,1] (k+1) [.s (li ((k:Int)+1)),.a (vI (max (max (l - 1 - (↑(sumBy sizeD
 (d.items.take k)):Int)) (-1:Int) - (↑(sizeD (d.items.getD k default)):Int)) (-1:Int)))])))) (.o 0 [0] [.a (vI (max (l - 1 - (↑(sumBy sizeD (d.items.take k)) :
 Int)) (-1:Int)))])) (.y false (.o 0 [0] [.a (vI (max (l - 1 - (↑(sumBy sizeD (d.items.take k)):Int)) (-1:Int)))])))) (by
 intro k h; try dsimp only [Yfp,Yg0,Z32] at h ⊢
 have g1:=Ykx d
 have g2:=Yhj sizeD d.items k
 have g3:=@Yih _ _ sizeD d.items k
 with_reducible repeat' (first | apply And.intro | exact zR | exact ih | (intro) | apply ih)
 all_goals ((try simp only [std,inj] at *); with_reducible and_intros)
 all_goals try with_reducible first | apply ih
 all_goals try first | exact z | grind [Yfx,Yfy,Yfz,Yfs])
theorem Zcu (d:Datum) (l:Int) (h:0<=l/\l<=1000000) (ih:∀ z∈d.items,∀ (l:Int) (h:0<=l/\l<=1000000),Z1a z l)  : Z1a d l:=Yg4 Tryz.call237
 Tryz.func237 (.r (l - 1) (.l (Z32 d l) (Za4 d l h ih) [0,1] [.s (li 0),.a (vI (l - 1))] 0 (.t (.f [] [.box [vI (max (l - (↑(sizeD d):Int)) (-1:Int))]]
 (.sv (lb (decide (0<=max (l - (↑(sizeD d):Int)) (-1:Int)))))) .q))) (by
 dsimp only [Yfp,Z1a,Yg0,Z32]
 have g1:=Ykx d
 have g2:sumBy sizeD (d.items.take 0)=0:=rfl
 with_reducible repeat' (first | apply And.intro | exact zR | exact ih | (intro))
 all_goals ((try simp only [std,inj] at *); with_reducible and_intros)
 all_goals try with_reducible first | apply ih
 all_goals (try exact zG))
theorem Zbv (d:Datum):∀ (l:Int) (h:0<=l/\l<=1000000),Z1a d l:=Datum.ind (P:=fun d=>∀ (l:Int) (h:0<=l/\l<=1000000),Z1a d l) (fun d ih l h=>Zcu d l h ih) d
abbrev Z1b (d:Datum):Ct:=⟨238,[],[Ys0 d],[],.sv (li (Ym6 d))⟩
def Z33 (d:Datum):Lp Nat:=.mk 20 0 (fun x=>[(3,hs x 1),(7,ll (d.items.map Yg2)),(8,li (↑(d.items.map Yg2).length:Int)),(9,hs x 0)]) (fun x
 => []) (fun k=>[.s (li (k:Int)),.s (li (↑(Yh2 Ym6 (d.items.take k)):Int))]) (fun k=>k<=d.items.length/\d.items.length<=9223372036854775807) (fun k=>
 d.items.length - k) [.mk True (.exit 0) (fun x=>[(3,hs x 0)]) (fun x=>[]) [.s (li (↑(Yh2 Ym6 d.items):Int))]]
theorem Za5 (d:Datum) (h:sizeD d<=2147483647) (ih:∀ (z:Datum),z∈d.items->sizeD z<=2147483647->OK (Z1b z)):Lp.Sem Tryz.prog (Yg6 Tryz.f238 0)
 (Z33 d):=Ygf (fun k=>.i ((k:Int)<(↑(d.items.map Yg2).length:Int)) (.x (k:Int) (d.items.map Yg2) (Yh9 (d.items.getD k default)) (.d [.rd]
 (Z1b (d.items.getD k default)) (.r ((k:Int)+1) (.g [] (k+1) [.s (li ((k:Int)+1)),.s (li (max (↑(Yh2 Ym6 (d.items.take k)):Int) (↑(Ym6 (d.items.getD k
 default)):Int)))])))) (.o 0 [] [.s (li (↑(Yh2 Ym6 (d.items.take k)):Int))])) (by
 intro k h; try dsimp only [Yfp,Yg0,Z33] at h ⊢
 have g1:=Ykx d
 have g2:=@Ygt _ sizeD d.items (d.items.getD k default)
 with_reducible repeat' (first | apply And.intro | exact zR | exact ih | (intro) | apply ih)
 all_goals ((try simp only [std,inj] at *); with_reducible and_intros)
 all_goals try with_reducible first | apply ih
 all_goals try first | exact z | grind [Yz1,Yfx,Yfy,Yfz,Yfs])
theorem Zcv (d:Datum) (h:sizeD d<=2147483647) (ih:∀ z∈d.items,∀ (h:sizeD z<=2147483647),Z1b z)  : Z1b d:=Yg4 Tryz.call238 Tryz.func238 (.z Yg2
 d.items (.l (Z33 d) (Za5 d h ih) [] [.s (li 0),.s (li 0)] 0 (.t (.r ((↑(Yh2 Ym6 d.items):Int)+1) (.s (li ((↑(Yh2 Ym6 d.items):Int)+1)))) .q))) (by
 dsimp only [Yfp,Z1b,Yg0,Z33]
 have h1:=Y1k2 d
 have g2:Yh2 Ym6 (d.items.take 0)=0:=rfl
 with_reducible repeat' (first | apply And.intro | exact zR | exact ih | (intro))
 all_goals ((try simp only [std,inj] at *); with_reducible and_intros)
 all_goals try with_reducible first | apply ih
 all_goals try first | exact z | grind [Y19f,Yfy,Yfz,Yfs])
theorem Zbw (d:Datum):∀ (h:sizeD d<=2147483647),Z1b d:=Datum.ind (P:=fun d=>∀ (h:sizeD d<=2147483647),Z1b d) (fun d ih h=>Zcv d h ih) d
abbrev Z2p (d:Datum):Ct:=⟨239,[],[Ys0 d],[],.sv (lb (okD d))⟩
def Z3n (d:Datum):Lp Nat:=.mk 26 0 (fun x=>[(1,.one (.ptr 0 0)),(6,ll (d.items.map Yg2)),(7,li (↑(d.items.map Yg2).length:Int)),(8,hs x
 0)]) (fun x=>[.box (vals (Yh9 d))]) (fun k=>[.s (li (k:Int))]) (fun k=>k<=d.items.length/\d.items.length<=9223372036854775807/\(d.items.take k).all okD =
 true) (fun k=>d.items.length - k) [.mk (d.items.all okD=true) (.exit 0) (fun x=>[(1,.one (.ptr 0 0))]) (fun x=>[.box (vals (Yh9 d))]) [],.mk (d.items.all okD =
 false) .ret (fun x=>[(2,hs x 0)]) (fun x=>[]) [.s (lb false)]]
theorem Zbj (d:Datum) (ih:∀ (z:Datum),z∈d.items->OK (Z2p z)):Lp.Sem Tryz.prog (Yg6 Tryz.f239 0) (Z3n d):=Ygf (fun k=>.i ((k:Int) <
 (↑(d.items.map Yg2).length:Int)) (.x (k:Int) (d.items.map Yg2) (Yh9 (d.items.getD k default)) (.d [.rd] (Z2p (d.items.getD k default)) (.b (!okD
 (d.items.getD k default)) (.o 1 [] [.s (lb false)]) (.r ((k:Int)+1) (.g [0] (k+1) [.s (li ((k:Int)+1))]))))) (.o 0 [0] [])) (by
 intro k h; try dsimp only [Yfp,Yg0,Z3n] at h ⊢
 with_reducible repeat' (first | apply And.intro | exact zR | exact ih | (intro) | apply ih)
 all_goals ((try simp only [std,inj] at *); with_reducible and_intros)
 all_goals try with_reducible first | apply ih
 all_goals try first | exact z | grind [Ygg,Yfx,Yfy,Yfz,Yfs])
theorem Ze8 (d:Datum) (ih:∀ z∈d.items,Z2p z)  : Z2p d:=Yg4 Tryz.call239 Tryz.func239 (.z Yg2 d.items (.l (Z3n d) (Zbj d ih) [0] [.s (li
 0)] 0 (.t (.z Yg2 d.items (.c [.rd,.rd,.rd,.rd] (Zbu d.kind d.number d.text (↑(d.items.map Yg2).length:Int)) (.s (lb (Ym5 d.kind d.number d.text (↑(List.map
 Yg2 d.items).length:Int)))))) (.t (.s (lb false)) .q)))) (by
 dsimp only [Yfp,Z2p,Yg0,Z3n]
 with_reducible repeat' (first | apply And.intro | exact zR | exact ih | (intro))
 all_goals ((try simp only [std,inj] at *); with_reducible and_intros)
 all_goals try with_reducible first | apply ih
 all_goals try first | exact z | grind [Y1o3,Yfy,Yfz,Yfs])
theorem Zf7 (d:Datum):Z2p d:=Datum.ind (P:=fun d=>Z2p d) (fun d ih=>Ze8 d ih) d
abbrev Z6n (d:Datum):Ct:=⟨207,[],[Ys0 d],[],.sv (lb (Yny d))⟩
theorem Zc4 (d:Datum)  : Z6n d:=Yg4 Tryz.call207 Tryz.func207 (.d [.rd,.ptr] (Z1a d 600) (.i ((↑(sizeD d):Int)<=600) (.d [.rd] (Z1b d) (.i
 ((↑(Ym6 d):Int)<=20) (.c [.rd] (Zf7 d) (.s (lb (okD d)))) (.s (lb false)))) (.y false (.s (lb false))))) (by
 dsimp only [Yfp,Z6n]
 with_reducible repeat' (first | apply And.intro | exact zR | (intro) | apply Zbv | apply Zbw)
 all_goals ((try simp only [std,inj] at *); with_reducible and_intros)
 all_goals try with_reducible first | apply Zbv | apply Zbw
 all_goals try first | exact z | grind [Yny,Yfy,Yfz,Yfs])
theorem Y1hv {n:Nat} (h:n<9223372036854775808):IntKind.wrap .i64 (n:Int)=n:=by
 apply Yoi; rw [Y19q]; omega
theorem Ywv {x:Int} {m:Nat} (hm:m<9223372036854775808):0<=Ymy .i64 x m/\Ymy .i64 x m<=m:=by
 unfold Ymy
 have h1:(BitVec.ofInt (IntKind.bits .i64) x &&& BitVec.ofInt (IntKind.bits .i64) (m:Int)).toNat<=m:=by
  rw [BitVec.toNat_and]
  refine Nat.le_trans Nat.and_le_right ?_
  rw [BitVec.toNat_ofInt]
  have e:((m:Int) % ((2 ^ IntKind.bits .i64:Nat):Int)).toNat=m:=by
   have:((2 ^ IntKind.bits .i64:Nat):Int)=18446744073709551616:=by decide
   rw [this]; omega
  rw [e]; exact Nat.le_refl _
 rw [Y1hv (by omega)]
 omega
structure Cr where
 b:List UInt8
 i:Nat
 h:Int
instance:Inhabited Cr:=⟨⟨[],0,0⟩⟩
def crO (c:Cr):Ob:=.box [vL (c.b.map Yg9),vI (c.i:Nat),vI c.h]
def hN (b:List UInt8):Nat->Int
 | 0=>3220+(b.length:Int)
 | k+1=>Ymy .i64 (hN b k * 1103+((b.getD k 0).toNat:Int)+7) 1073741823
theorem Y1px {b:List UInt8} (h:b.length<=1048576):∀ k,0<=hN b k/\hN b k<=1073741823
 | 0=>by unfold hN; omega
 | k+1=>by unfold hN; exact Ywv (m:=1073741823) (by decide)
def Yir (b:List UInt8):Cr:=⟨b,0,hN b (min b.length 4000)⟩
def nxH (c:Cr):Int:=wI .i64 (wI .i64 (c.h * 6364136223846793005)+1442695040888963407)
def nwR (c:Cr):Int:=Ymy .i64 (Yxl .i64 (Yp8 .i64 (nxH c) 33) (Yp8 .i64 (nxH c) 45)) 255
def Yje {α:Type} (x:α):α:=if System.Platform.numBits=64 then x else x
theorem Yhd {α:Type} (x:α):Yje x=x:=by unfold Yje; split <;> rfl
def Y1b2 (c:Cr):Int:=if (c.i:Int)<(c.b.length:Int) then Ymy .i64 (nwR c+((c.b.getD c.i 0).toNat:Int)) 255 else nwR c
def Y1ow (c:Cr):Cr:=⟨c.b,if (c.i:Int)<(c.b.length:Int) then c.i+1 else c.i,nxH c⟩
def nxX (c:Cr):Int:=Yje (Y1b2 c)
def nxC (c:Cr):Cr:=Yje (Y1ow c)
theorem Y1cn (c:Cr):nxX c=Y1b2 c:=Yhd _
theorem Y14w (c:Cr):nxC c=Y1ow c:=Yhd _
theorem Y1f6 (c:Cr):0<=nwR c/\nwR c<=255:=Ywv (m:=255) (by decide)
theorem Yov (c:Cr):0<=nxX c/\nxX c<=255:=by
 rw [Y1cn]; unfold Y1b2; split
 ·exact Ywv (m:=255) (by decide)
 ·exact Y1f6 c
def okK (c:Cr):Prop:=c.b.length<=1048576
theorem Yrt {c:Cr} (h:okK c):okK (nxC c):=by rw [Y14w]; exact h
theorem Yzv {b:List UInt8} (h:b.length<=1048576):okK (Yir b):=h
def Y1om (c:Cr):Int:=nxX c * 16777216+nxX (nxC c) * 65536+nxX (nxC (nxC c)) * 256+nxX (nxC (nxC (nxC c)))
def Y136 (c:Cr) (n:Int):Int:=if n<=0 then 0 else if n<=256 then (nxX c).tmod n else (Y1om c).tmod n
def Y13j (c:Cr) (n:Int):Cr:=if n<=0 then c else if n<=256 then nxC c else nxC (nxC (nxC (nxC c)))
def beX (c:Cr) (n:Int):Int:=Yje (Y136 c n)
def beC (c:Cr) (n:Int):Cr:=Yje (Y13j c n)
theorem Yy5 (c:Cr) (n:Int):beX c n=Y136 c n:=Yhd _
theorem Yyk (c:Cr) (n:Int):beC c n=Y13j c n:=Yhd _
theorem Ygd {c:Cr} {n:Int} (h:okK c):okK (beC c n):=by
 rw [Yyk]; unfold Y13j; split
 ·exact h
 ·split
  ·exact Yrt h
  ·exact Yrt (Yrt (Yrt (Yrt h)))
theorem Y1a5 {a n:Int} (ha:0<=a) (hn:0<n):0<=a.tmod n/\a.tmod n<n:=⟨Int.tmod_nonneg _ ha,Int.tmod_lt_of_pos _ hn⟩
theorem Yhf (c:Cr) {n:Int} (hn:0<n):0<=beX c n/\beX c n<n:=by
 have h1:=Yov c; have h2:=Yov (nxC c); have h3:=Yov (nxC (nxC c)); have h4:=Yov (nxC (nxC (nxC c)))
 rw [Yy5]; unfold Y136; rw [if_neg (by omega)]; split
 ·exact Y1a5 h1.1 hn
 ·exact Y1a5 (by unfold Y1om; omega) hn
theorem Y1gu {c:Cr} {n:Int} (hn:n<=0):beX c n=0:=by rw [Yy5]; exact if_pos hn
theorem Y1ri {c:Cr} {n:Int} (hn:n<=0):beX c n=0/\beC c n=c:=⟨Y1gu hn,by rw [Yyk]; exact if_pos hn⟩
theorem Y1rk {c:Cr} {n:Int} (h0:¬ n<=0) (hn:n<=256):beX c n=(nxX c).tmod n/\beC c n=nxC c:=
 ⟨by rw [Yy5]; unfold Y136; rw [if_neg h0,if_pos hn],by rw [Yyk]; unfold Y13j; rw [if_neg h0,if_pos hn]⟩
theorem Y1rd {c:Cr} {n:Int} (h0:¬ n<=0) (hn:¬ n<=256):beX c n=(nxX c * 16777216+nxX (nxC c) * 65536+nxX (nxC (nxC c)) * 256+nxX (nxC (nxC (nxC c)))).tmod n/\beC c n=nxC (nxC (nxC (nxC c))):=
 ⟨by rw [Yy5]; unfold Y136; rw [if_neg h0,if_neg hn]; rfl,by rw [Yyk]; unfold Y13j; rw [if_neg h0,if_neg hn]⟩
set_option maxHeartbeats 4000000
abbrev Z7n (b:List UInt8):Ct:=⟨25,[],[ll (b.map Yg9)],[crO (Yir b)],.sv (.one (.ptr 0 0))⟩
def Z51 (b:List UInt8):Lp Nat:=.mk 32 0 (fun x=>[(0,ll (b.map Yg9)),(3,hs x 1),(4,hs x 0)]) (fun x=>[]) (fun k=>[.s (li (k:Int)),.s (li (hN b
 k))]) (fun k=>k<=b.length/\b.length<=9223372036854775807/\k<=4000) (fun k=>b.length - k) [.mk True (.exit 0) (fun x=>[(0,ll (b.map Yg9)),(3,hs x 0)]) (fun x
 => []) [.s (li (hN b (min b.length 4000)))]]
theorem Zcw (b:List UInt8) (h:b.length<=1048576):Lp.Sem Tryz.prog (Yg6 Tryz.f25 0) (Z51 b):=Ygf (fun k=>.z Yg9 b (.i ((k:Int)<(↑(List.map Yg9
 b).length:Int)) (.i ((k:Int)<4000) (.r (hN b k * 1103) (.x (k:Int) (b.map Yg9) [.lit (.int .u8 (↑(b.getD k default).toNat:Int))] (.r (↑(b.getD k
 default).toNat:Int) (.r (hN b k * 1103+(↑(b.getD k default).toNat:Int)) (.r (hN b k * 1103+(↑(b.getD k default).toNat:Int)+7) (.r ((k:Int)+1) (.g [] (k+1) [.s
 (li ((k:Int)+1)),.s (li (Ymy .i64 (hN b k * 1103+(↑(b.getD k default).toNat:Int)+7) 1073741823))]))))))) (.o 0 [] [.s (li (hN b k))])) (.y false (.o 0 [] [.s
 (li (hN b k))])))) (by
 intro k h; try dsimp only [Yfp,Yg0,Z51] at h ⊢
 have g1:=Y1px (b:=b) (by assumption) k
 have g2:hN b (k+1)=Ymy .i64 (hN b k * 1103+((b.getD k 0).toNat:Int)+7) 1073741823:=rfl
 have g3:=(b.getD k 0).toNat_lt
 have g4:b.length<=k->k<=4000->min b.length 4000=k ∨ b.length<k:=by omega
 have g5:4000<=k->k<=4000->k<=b.length->min b.length 4000=k:=by omega
 have g6:k<b.length->(b.map Yg9)[k]? = some [.lit (.int .u8 ((b.getD k 0).toNat:Int))]:=fun e=>by simp [Yg9,List.getD_eq_getElem?_getD,e]
 with_reducible repeat' (first | apply And.intro | exact zR | (intro))
 all_goals ((try simp only [std,inj] at *); with_reducible and_intros)
 all_goals try first | exact zw | grind [Yfy,Yfz,Yfs])
theorem Za6 (b:List UInt8) (h:b.length<=1048576)  : Z7n b:=Yg4 Tryz.call25 Tryz.func25 (.z Yg9 b (.r (3220+(↑(b.map Yg9).length:Int)) (.l (Z51 b)
 (Zcw b h) [] [.s (li 0),.s (li (3220+(↑(b.map Yg9).length:Int)))] 0 (.t (.f [0] [.box [vL (b.map Yg9),vI 0,vI (hN b (min b.length 4000))]] (.sv
 (.one (.ptr 0 0)))) .q)))) (by
 dsimp only [Yfp,Z7n,Yg0,Z51]
 have g1:hN b 0=3220+(b.length:Int):=rfl
 have g2:crO (Yir b)=.box [vL (b.map Yg9),vI 0,vI (hN b (min b.length 4000))]:=rfl
 with_reducible repeat' (first | apply And.intro | exact zR | (intro))
 all_goals ((try simp only [std,inj] at *); with_reducible and_intros)
 all_goals try first | exact zw | grind [Yfy,Yfz,Yfs])
abbrev Z1s (c:Cr):Ct:=⟨155,[crO c],[.one (.ptr 0 0)],[crO (nxC c)],.sv (li (nxX c))⟩
theorem Zbx (c:Cr) (h:okK c)  : Z1s c:=Yg4 Tryz.call155 Tryz.func155 (.w (.draw []) (.p ((0:Int)<=33) (.p ((0:Int)<=45) (.w (.draw []) (.z Yg9 c.b (.i ((↑c.i
 : Int)<(↑(c.b.map Yg9).length:Int)) (.w (.draw []) (.x (c.i:Int) (c.b.map Yg9) [.lit (.int .u8 (↑(c.b.getD c.i default).toNat:Int))] (.r
 (↑(c.b.getD c.i default).toNat:Int) (.r (Ymy .i64 (Yxl .i64 (Yp8 .i64 (wI .i64 (wI .i64 (c.h * 6364136223846793005)+1442695040888963407))
 33) (Yp8 .i64 (wI .i64 (wI .i64 (c.h * 6364136223846793005)+1442695040888963407)) 45)) 255+(↑(c.b.getD c.i default).toNat:Int)) (.r ((c.i:Int)+1)
 (.f [] [.box [vL (c.b.map Yg9),vI ((c.i:Int)+1),vI (wI .i64 (wI .i64 (c.h * 6364136223846793005)+1442695040888963407))]] (.sv (li (Ymy
 .i64 (Ymy .i64 (Yxl .i64 (Yp8 .i64 (wI .i64 (wI .i64 (c.h * 6364136223846793005)+1442695040888963407)) 33) (Yp8 .i64 (wI
 .i64 (wI .i64 (c.h * 6364136223846793005)+1442695040888963407)) 45)) 255+(↑(c.b.getD c.i default).toNat:Int)) 255))))))))) (.f [] [.box [vL (List.map Yg9
 c.b),vI (c.i:Int),vI (wI .i64 (wI .i64 (c.h * 6364136223846793005)+1442695040888963407))]] (.sv (li (Ymy .i64 (Yxl .i64 (Yp8 .i64
 (wI .i64 (wI .i64 (c.h * 6364136223846793005)+1442695040888963407)) 33) (Yp8 .i64 (wI .i64 (wI .i64 (c.h * 6364136223846793005) +
 1442695040888963407)) 45)) 255)))))))))) (by
 dsimp only [Yfp,Z1s]
 have g1:=Y1f6 c
 have g2:nwR c=Ymy .i64 (Yxl .i64 (Yp8 .i64 (wI .i64 (wI .i64 (c.h * 6364136223846793005)+1442695040888963407)) 33) (Yp8 .i64 (wI .i64 (wI .i64 (c.h * 6364136223846793005)+1442695040888963407)) 45)) 255:=rfl
 have g3:=(c.b.getD c.i 0).toNat_lt
 have g4:c.i<c.b.length->(c.b.map Yg9)[c.i]? = some [.lit (.int .u8 ((c.b.getD c.i 0).toNat:Int))]:=fun e=>by simp [Yg9,List.getD_eq_getElem?_getD,e]
 have g5:(c.i:Int)<c.b.length->crO (nxC c)=.box [vL (c.b.map Yg9),vI ((c.i:Int)+1),vI (wI .i64 (wI .i64 (c.h * 6364136223846793005)+1442695040888963407))]:=fun e=>by rw [Y14w]; show Ob.box [_,vI ((if (c.i:Int)<(c.b.length:Int) then c.i+1 else c.i:Nat):Int),_]=_; rw [if_pos e]; rfl
 have g6:¬ (c.i:Int)<c.b.length->crO (nxC c)=.box [vL (c.b.map Yg9),vI (c.i:Int),vI (wI .i64 (wI .i64 (c.h * 6364136223846793005)+1442695040888963407))]:=fun e=>by rw [Y14w]; show Ob.box [_,vI ((if (c.i:Int)<(c.b.length:Int) then c.i+1 else c.i:Nat):Int),_]=_; rw [if_neg e]; rfl
 have g7:=Y1cn c
 with_reducible repeat' (first | apply And.intro | exact zR | (intro))
 all_goals ((try simp only [std,inj] at *); with_reducible and_intros)
 all_goals try first | exact zw | grind [Y1b2,Yfy,Yfz,Yfs])
abbrev Z4 (c:Cr) (n:Int):Ct:=⟨75,[crO c],[.one (.ptr 0 0),li n],[crO (beC c n)],.sv (li (beX c n))⟩
theorem Z0 (c:Cr) (n:Int) (h:okK c)  : Z4 c n:=Yg4 Tryz.call75 Tryz.func75 (.i (n<=0) (.f [] [.box [vL (c.b.map Yg9),vI (c.i:Int),vI c.h]]
 (.sv (li 0))) (.i (n<=256) (.d [.ptr] (Z1s c) (.p (n≠0) (.f [] [.box [vL ((nxC c).b.map Yg9),vI (↑(nxC c).i:Int),vI (nxC c).h]] (.sv (li ((nxX c).tmod
 n)))))) (.d [.ptr] (Z1s c) (.d [.ptr] (Z1s (nxC c)) (.d [.ptr] (Z1s (nxC (nxC c))) (.d [.ptr] (Z1s (nxC (nxC (nxC c)))) (.r (nxX c * 16777216) (.r (nxX
 (nxC c) * 65536) (.r (nxX c * 16777216+nxX (nxC c) * 65536) (.r (nxX (nxC (nxC c)) * 256) (.r (nxX c * 16777216+nxX (nxC c) * 65536+nxX (nxC (nxC c)) * 256) (.r (nxX c *
 16777216+nxX (nxC c) * 65536+nxX (nxC (nxC c)) * 256+nxX (nxC (nxC (nxC c)))) (.p (n≠0) (.f [] [.box [vL ((nxC (nxC (nxC (nxC c)))).b.map Yg9),vI (↑(nxC (nxC
 (nxC (nxC c)))).i:Int),vI (nxC (nxC (nxC (nxC c)))).h]] (.sv (li ((nxX c * 16777216+nxX (nxC c) * 65536+nxX (nxC (nxC c)) * 256+nxX (nxC (nxC (nxC c)))).tmod
 n))))))))))))))))) (by
 dsimp only [Yfp,Z4]
 have g1:=Yov c
 have g2:=Yov (nxC c)
 have g3:=Yov (nxC (nxC c))
 have g4:=Yov (nxC (nxC (nxC c)))
 have g5:=@Y1ri c n
 have g6:=@Y1rk c n
 have g7:=@Y1rd c n
 with_reducible repeat' (first | apply And.intro | exact zR | (intro) | apply Zbx)
 all_goals ((try simp only [std,inj] at *); with_reducible and_intros)
 all_goals try with_reducible first | apply Zbx
 all_goals try first | exact zw | grind [Yrt,crO,Yfy,Yfz,Yfs])
abbrev Z9 (c:Cr) (n:Int):Ct:=⟨27,[crO c],[.one (.ptr 0 0),li n],[crO (beC c n)],.sv (lb (decide (beX c n=0)))⟩
theorem Z2 (c:Cr) (n:Int) (h:okK c)  : Z9 c n:=Yg4 Tryz.call27 Tryz.func27 (.d [.ptr,.rd] (Z4 c n) (.f [] [.box [vL ((beC c n).b.map Yg9),vI
 (↑(beC c n).i:Int),vI (beC c n).h]] (.sv (lb (decide (beX c n=0)))))) (by
 dsimp only [Yfp,Z9]
 with_reducible repeat' (first | apply And.intro | exact zR | (intro) | apply Z0)
 all_goals ((try simp only [std,inj] at *); with_reducible and_intros)
 all_goals try with_reducible first | apply Z0
 all_goals try first | exact zw | grind [crO,Yfy,Yfz,Yfs])
abbrev Z6 (c:Cr) (L:List ByteArray):Ct:=⟨29,[crO c,.arr true 1 (L.map Yi1)],[.one (.ptr 0 0),.one (.ref 1)],[crO (beC c (L.length:Int)),.dead],.sv (ls (L.getD (beX c (L.length:Int)).toNat default))⟩
theorem Z8 (c:Cr) (L:List ByteArray) (h:okK c/\0<L.length/\L.length<=1000)  : Z6 c L:=Yg4 Tryz.call29 Tryz.func29 (.z Yi1 L (.d [.ptr,.rd] (Z4 c
 (↑(L.map Yi1).length:Int)) (.p (0<=beX c (↑(L.map Yi1).length:Int)/\(beX c (↑(L.map Yi1).length:Int)).toNat<(L.map Yi1).length) (.w (.cells (Yi1
 (L.getD (beX c (↑(L.map Yi1).length:Int)).toNat default))) (.p ((L.map Yi1)[(beX c (↑(L.map Yi1).length:Int)).toNat]? = some [cS (L.getD (beX c (↑(List.map
 Yi1 L).length:Int)).toNat default)]) (.w (.ghost (.move 1)) (.f [] [.box [vL ((beC c (↑(L.map Yi1).length:Int)).b.map Yg9),vI (↑(beC c (↑(List.map Yi1
 L).length:Int)).i:Int),vI (beC c (↑(L.map Yi1).length:Int)).h],.dead] (.sv (ls (L.getD (beX c (↑(L.map Yi1).length:Int)).toNat default)))))))))) (by
 dsimp only [Yfp,Z6]
 have g1:=Yhf c (n:=(L.length:Int)) (by omega)
 have g2:(L.map Yi1)[(beX c (L.length:Int)).toNat]? = some [cS (L.getD (beX c (L.length:Int)).toNat default)]:=Yu9 (by omega) rfl
 with_reducible repeat' (first | apply And.intro | exact zR | (intro) | apply Z0)
 all_goals ((try simp only [std,inj] at *); with_reducible and_intros)
 all_goals try with_reducible first | apply Z0
 all_goals try first | exact zw | grind [crO,Yfy,Yfz,Yfs])
abbrev Zv (c:Cr) (L:List Int):Ct:=⟨157,[crO c,.arr true 1 (L.map Yfr)],[.one (.ptr 0 0),.one (.ref 1)],[crO (beC c (L.length:Int)),.dead],.sv (li (L.getD (beX c (L.length:Int)).toNat default))⟩
theorem Zw (c:Cr) (L:List Int) (h:okK c/\0<L.length/\L.length<=1000)  : Zv c L:=Yg4 Tryz.call157 Tryz.func157 (.z Yfr L (.d [.ptr,.rd] (Z4 c
 (↑(L.map Yfr).length:Int)) (.p (0<=beX c (↑(L.map Yfr).length:Int)/\(beX c (↑(L.map Yfr).length:Int)).toNat<(L.map Yfr).length) (.w (.cells (Yfr
 (L.getD (beX c (↑(L.map Yfr).length:Int)).toNat default))) (.p ((L.map Yfr)[(beX c (↑(L.map Yfr).length:Int)).toNat]? = some [cI (L.getD (beX c (↑(List.map
 Yfr L).length:Int)).toNat 0)]) (.w (.ghost (.move 1)) (.f [] [.box [vL ((beC c (↑(L.map Yfr).length:Int)).b.map Yg9),vI (↑(beC c (↑(L.map Yfr).length :
 Int)).i:Int),vI (beC c (↑(L.map Yfr).length:Int)).h],.dead] (.sv (li (L.getD (beX c (↑(L.map Yfr).length:Int)).toNat 0)))))))))) (by
 dsimp only [Yfp,Zv]
 have g1:=Yhf c (n:=(L.length:Int)) (by omega)
 have g2:(L.map Yfr)[(beX c (L.length:Int)).toNat]? = some [cI (L.getD (beX c (L.length:Int)).toNat default)]:=Yu9 (by omega) rfl
 with_reducible repeat' (first | apply And.intro | exact zR | (intro) | apply Z0)
 all_goals ((try simp only [std,inj] at *); with_reducible and_intros)
 all_goals try with_reducible first | apply Z0
 all_goals try first | exact zw | grind [crO,Yfy,Yfz,Yfs])
set_option maxHeartbeats 4000000
instance memDec (s:ByteArray) (L:List ByteArray):Decidable (s∈L):=@List.instDecidableMemOfLawfulBEq ByteArray instBEqOfDecidableEq _ s L
def Yg3 (s:ByteArray):Datum:=⟨1,0,s,[]⟩
def Yh1 (L:List Datum):Datum:=⟨0,0,mkS [],L⟩
theorem Y1ik {s:ByteArray}:Yim s=true->(s.size:Int)<=16:=by
 unfold Yim; simp only [Bool.and_eq_true,decide_eq_true_eq]; intro h; exact h.1.1.1.2
def Yp9 {α σ:Type} (f:σ->α × σ):Nat->σ->List α × σ
 | 0,m=>([],m)
 | n+1,m=>((Yp9 f n m).1++[(f (Yp9 f n m).2).1],(f (Yp9 f n m).2).2)
theorem Y13v {α σ:Type} (f:σ->α × σ) (n:Nat) (m:σ):(Yp9 f n m).1.length=n:=by
 induction n with
 | zero=>rfl
 | succ n ih=>simp [Yp9,ih]
theorem Ywn {α σ:Type} {f:σ->α × σ} {I:σ->Prop} {P:α->Prop} (h:∀ m,I m->P (f m).1/\I (f m).2):∀ (n:Nat) (m:σ),I m->(∀ x∈(Yp9 f n m).1,P x)/\I (Yp9 f n m).2
 | 0,m,hm=>⟨by simp [Yp9],hm⟩
 | n+1,m,hm=>by
  have h1:=Ywn h n m hm
  have h2:=h _ h1.2
  refine ⟨fun x hx => ?_,h2.2⟩
  rcases List.mem_append.1 hx with hx | hx
  ·exact h1.1 x hx
  ·rw [List.mem_singleton.1 hx]; exact h2.1
theorem Y1dc {α:Type} (w:α->Nat) (m:Nat):∀ L:List α,(∀ x∈L,w x<=m)->sumBy w L<=L.length * m
 | [],_=>by simp [sumBy]
 | x :: r,h=>by
  have h1:=Y1dc w m r fun y hy=>h y (List.mem_cons_of_mem _ hy)
  have h2:=h x List.mem_cons_self
  simp only [sumBy,List.length_cons,Nat.add_mul,Nat.one_mul]; omega
def Yu4:Datum:=⟨0,0,mkS [],[]⟩
def Y1cd:List ByteArray:=[mkS [120],mkS [121],mkS [116,109,112],mkS [116],mkS [108,111,111,112],mkS [101,108,115,101],mkS [108,105,115,116],mkS [102],mkS [46,46,46],mkS [95],mkS [97,45,98],mkS [103,111,33]]
def Y1bk:List Int:=[0,1,7,-1,42,999999999,-999999999]
def Y1c7:List ByteArray:=[mkS [],mkS [97],mkS [105,116,32,105,115],mkS [40,59,39],mkS [49,50,51,52,53,54,55,56,57,48,49,50,51,52,53,54,55,56,57,48]]
def Ynt (s:ByteArray):Datum:=if Yim s=true then Yg3 s else Yu4
def Yno (s:ByteArray):Datum:=if Yjr s=true then ⟨4,0,s,[]⟩ else Yu4
def Ynl (n:Int):Datum:=if -999999999<=n/\n<=999999999 then ⟨2,n,mkS [],[]⟩ else Yu4
def Ypx (b:Bool):Datum:=⟨3,if b then 1 else 0,mkS [],[]⟩
def kdD (d:Nat) (c:Cr):Int:=if d<=1/\5<beX c 9 then beX c 9 - 5 else beX c 9
def Ymg (k:Int) (c:Cr):Datum × Cr:=
 if k=0 ∨ k=1 then (Ynt (Y1cd.getD (beX c 12).toNat default),beC c 12) else if k=2 ∨ k=3 then (Ynl (Y1bk.getD (beX c 7).toNat default),beC c 7)
 else if k=4 then (Ypx (decide (beX c 2=0)),beC c 2) else (Yno (Y1c7.getD (beX c 5).toNat default),beC c 5)
def Ylh:Nat->Cr->Datum × Cr
 | 0,c=>if kdD 0 c<=5 then Ymg (kdD 0 c) (beC c 9) else (Yu4,beC c 9)
 | d+1,c=>if kdD (d+1) c<=5 then Ymg (kdD (d+1) c) (beC c 9) else
   (Yh1 (Yp9 (Ylh d) (beX (beC c 9) 5).toNat (beC (beC c 9) 5)).1,(Yp9 (Ylh d) (beX (beC c 9) 5).toNat (beC (beC c 9) 5)).2)
theorem Y13f {k:Int} {c:Cr} (h:okK c):okK (Ymg k c).2/\wD (Ymg k c).1<=30:=by
 have hs:∀ s,wD (Ynt s)<=30:=fun s=>by
  unfold Ynt; split
  ·rename_i h; have:=Y1ik h; rw [Yl4]; simp only [Yg3,sumBy,List.length_nil]; omega
  ·decide
 have ht:∀ s,wD (Yno s)<=30:=fun s=>by
  unfold Yno; split
  ·rename_i h; simp only [Yjr,Bool.and_eq_true,decide_eq_true_eq] at h; rw [Yl4]; simp only [sumBy,List.length_nil]; omega
  ·decide
 have hn:∀ n,wD (Ynl n)<=30:=fun n=>by unfold Ynl; split <;> (rw [Yl4]; show (0:Nat)+(0+0)<=30; omega)
 have hb:∀ b,wD (Ypx b)<=30:=fun b=>by rw [Yl4]; show (0:Nat)+(0+0)<=30; omega
 unfold Ymg
 split
 ·exact ⟨Ygd h,hs _⟩
 ·split
  ·exact ⟨Ygd h,hn _⟩
  ·split
   ·exact ⟨Ygd h,hb _⟩
   ·exact ⟨Ygd h,ht _⟩
theorem Ypr:∀ (d:Nat) (c:Cr),okK c->wD (Ylh d c).1<=40 * 5 ^ d/\okK (Ylh d c).2
 | 0,c,h=>by
  unfold Ylh; split
  ·have:=Y13f (k:=kdD 0 c) (Ygd (n:=9) h); exact ⟨by simp; omega,this.1⟩
  ·exact ⟨by show wD Yu4<=40; decide,Ygd h⟩
 | d+1,c,h=>by
  unfold Ylh; split
  ·have:=Y13f (k:=kdD (d+1) c) (Ygd (n:=9) h)
   have h5:1<=5 ^ (d+1):=Nat.one_le_pow _ _ (by decide)
   exact ⟨by omega,this.1⟩
  ·have h1:=Ywn (f:=Ylh d) (I:=okK) (P:=fun x=>wD x<=40 * 5 ^ d) (fun m hm=>Ypr d m hm) (beX (beC c 9) 5).toNat (beC (beC c 9) 5) (Ygd (Ygd h))
   refine ⟨?_,h1.2⟩
   have h2:=Y13v (Ylh d) (beX (beC c 9) 5).toNat (beC (beC c 9) 5)
   have h3:=Yhf (beC c 9) (n:=5) (by decide)
   have h4:=Y1dc wD (40 * 5 ^ d) _ h1.1
   have h5:1<=5 ^ d:=Nat.one_le_pow _ _ (by decide)
   rw [Yl4]
   simp only [Yh1,h2] at *
   have h6:(beX (beC c 9) 5).toNat<=4:=by omega
   have h7:(beX (beC c 9) 5).toNat * (40 * 5 ^ d)<=4 * (40 * 5 ^ d):=Nat.mul_le_mul_right _ h6
   have h8:(5:Nat) ^ (d+1)=5 * 5 ^ d:=by rw [Nat.pow_succ,Nat.mul_comm]
   show 0+_<=_
   omega
def Yg1 (d:Int) (c:Cr):Datum × Cr:=Yje (Ylh d.toNat c)
theorem Yn9 (d:Int) (c:Cr):Yg1 d c=Ylh d.toNat c:=Yhd _
def Yi5 (d:Int) (k:Nat) (c:Cr):List Datum × Cr:=Yje (Yp9 (Yg1 d) k c)
theorem Yoj (d:Int) (k:Nat) (c:Cr):Yi5 d k c=Yp9 (Yg1 d) k c:=Yhd _
theorem Y1bg (d:Int) (c:Cr):Yi5 d 0 c=([],c):=by rw [Yoj]; rfl
theorem Y1c5 (d:Int) (k:Nat) (c:Cr):Yi5 d (k+1) c=((Yi5 d k c).1++[(Yg1 d (Yi5 d k c).2).1],(Yg1 d (Yi5 d k c).2).2):=by rw [Yoj,Yoj]; rfl
theorem Y1ed (d:Int) (k:Nat) (c:Cr):(Yi5 d k c).1.length=k:=by rw [Yoj,Y13v]
theorem Yzp {d:Int} {c:Cr} (h:okK c):okK (Yg1 d c).2:=by rw [Yn9]; exact (Ypr _ c h).2
theorem Y1hj {d:Int} {k:Nat} {c:Cr} (h:okK c):okK (Yi5 d k c).2:=by
 rw [Yoj]; exact (Ywn (f:=Yg1 d) (I:=okK) (P:=fun _=>True) (fun m hm=>⟨trivial,Yzp hm⟩) k c h).2
def kdH (d:Int) (c:Cr):Int:=if d<=1/\5<beX c 9 then beX c 9 - 5 else beX c 9
theorem Y130 {d:Int} (h:0<=d) (c:Cr):kdD d.toNat c=kdH d c:=by
 unfold kdD kdH
 by_cases e:d<=1
 ·have e1:d.toNat<=1:=by omega
  simp only [e,e1,true_and]
 ·have e1:¬ d.toNat<=1:=by omega
  simp only [e,e1,false_and,if_false]
theorem Yqx {d:Int} {c:Cr} (h:0<=d) (hk:kdH d c<=5):Yg1 d c=Ymg (kdH d c) (beC c 9):=by
 rw [Yn9,<- Y130 h]; rw [<- Y130 h] at hk
 cases e:d.toNat with
 | zero=>rw [e] at hk; unfold Ylh; rw [if_pos hk]
 | succ n=>rw [e] at hk; unfold Ylh; rw [if_pos hk]
theorem Y1fq {d:Int} {c:Cr} (h:0<=d) (hk:¬ kdH d c<=5):1<d/\Yg1 d c=(Yh1 (Yi5 (d - 1) (beX (beC c 9) 5).toNat (beC (beC c 9) 5)).1,(Yi5 (d - 1) (beX (beC c 9) 5).toNat (beC (beC c 9) 5)).2):=by
 have h9:=Yhf c (n:=9) (by decide)
 have h1:1<d:=by unfold kdH at hk; split at hk <;> omega
 refine ⟨h1,?_⟩
 have hf:Yg1 (d - 1)=Ylh (d - 1).toNat:=funext fun c=>Yn9 _ _
 rw [Yn9,Yoj,hf]
 rw [<- Y130 h] at hk
 have e:d.toNat=(d - 1).toNat+1:=by omega
 rw [e] at hk ⊢
 rw [Ylh,if_neg hk]
theorem Y1mp {k:Int} {c:Cr} (h:k=0 ∨ k=1):Ymg k c=(Ynt (Y1cd.getD (beX c 12).toNat default),beC c 12):=if_pos h
theorem Y1p5 {k:Int} {c:Cr} (h:k=2 ∨ k=3):Ymg k c=(Ynl (Y1bk.getD (beX c 7).toNat default),beC c 7):=by unfold Ymg; rw [if_neg (by omega),if_pos h]
theorem Y1mz {k:Int} {c:Cr} (h:k=4):Ymg k c=(Ypx (decide (beX c 2=0)),beC c 2):=by unfold Ymg; rw [if_neg (by omega),if_neg (by omega),if_pos h]
theorem Y1md {k:Int} {c:Cr} (h:k=5):Ymg k c=(Yno (Y1c7.getD (beX c 5).toNat default),beC c 5):=by unfold Ymg; rw [if_neg (by omega),if_neg (by omega),if_neg (by omega)]
theorem Y13h (s:ByteArray):(Ynt s).items=[]:=by unfold Ynt; split <;> rfl
theorem Y13e (s:ByteArray):(Yno s).items=[]:=by unfold Yno; split <;> rfl
theorem Y15x (n:Int):(Ynl n).items=[]:=by unfold Ynl; split <;> rfl
theorem Y1qe {d:Int} {c:Cr} (h:0<=d) (hk:kdH d c=0 ∨ kdH d c=1):Yg1 d c=(Ynt (Y1cd.getD (beX (beC c 9) 12).toNat default),beC (beC c 9) 12):=by rw [Yqx h (by omega),Y1mp hk]
theorem Y1q3 {d:Int} {c:Cr} (h:0<=d) (hk:kdH d c=2 ∨ kdH d c=3):Yg1 d c=(Ynl (Y1bk.getD (beX (beC c 9) 7).toNat default),beC (beC c 9) 7):=by rw [Yqx h (by omega),Y1p5 hk]
theorem Y1pz {d:Int} {c:Cr} (h:0<=d) (hk:kdH d c=4):Yg1 d c=(Ypx (decide (beX (beC c 9) 2=0)),beC (beC c 9) 2):=by rw [Yqx h (by omega),Y1mz hk]
theorem Y1pb {d:Int} {c:Cr} (h:0<=d) (hk:kdH d c=5):Yg1 d c=(Yno (Y1c7.getD (beX (beC c 9) 5).toNat default),beC (beC c 9) 5):=by rw [Yqx h (by omega),Y1md hk]
theorem Lv.ind {P:Int->Prop} (h:∀ d,(∀ e,0<=e/\e<d->P e)->P d):∀ d,P d:=by
 have key:∀ (n:Nat) (d:Int),d.toNat<=n->P d:=by
  intro n
  induction n with
  | zero=>intro d hd; exact h d fun e he=>absurd he.2 (by omega)
  | succ n ih=>intro d hd; exact h d fun e he=>ih e (by omega)
 exact fun d=>key d.toNat d (Nat.le_refl _)
def Y104:List ByteArray:=[mkS [],mkS [57],mkS [45,53],mkS [45],mkS [120,32,121],mkS [97,98,99,100,101,102,103,104,105,106,107,108,109,110,111,112,113],mkS [49,50,51,52,53,54,55,56,57,48,49,50,51,52,53,54,55,56,57,48,49]]
def Y1gs:List Int:=[1,2,1000000000,-1000000000]
def Yx4:Nat->Datum->Datum
 | 0,d=>d
 | n+1,d=>Yh1 [Yx4 n d]
theorem Y1o0 (n:Nat) (d:Datum):wD (Yx4 n d)=n+wD d:=by
 induction n with
 | zero=>simp [Yx4]
 | succ n ih=>rw [Yx4,Yl4]; simp only [Yh1,sumBy,ih,List.length_cons,List.length_nil]; show 0+_=_; omega
def Yrd (c:Cr):Datum × Cr:=
 let d:=(Yg1 4 c).1; let c1:=(Yg1 4 c).2; let k:=beX c1 12; let c2:=beC c1 12
 if k=0 then (⟨d.kind,Y1gs.getD (beX c2 4).toNat default,d.text,d.items⟩,beC c2 4)
 else if k=1 then (⟨d.kind,d.number,Y104.getD (beX c2 7).toNat default,d.items⟩,beC c2 7)
 else if k=2 then (⟨beX c2 7 - 1,d.number,d.text,d.items⟩,beC c2 7)
 else if k=3 then (⟨d.kind,d.number,d.text,d.items++[⟨9,0,mkS [],[]⟩]⟩,c2)
 else if k=4 then (Yx4 21 d,c2)
 else (d,c2)
theorem Y1lr:∀ n:Nat,(Y104.getD n default).size<=30:=by
 intro n
 rcases Nat.lt_or_ge n 7 with h | h
 ·have:∀ n,n<7->(Y104.getD n default).size<=30:=by decide
  exact this n h
 ·rw [List.getD_eq_getElem?_getD,List.getElem?_eq_none (by exact h)]; decide
theorem Y1lp {c:Cr} (h:okK c):wD (Yrd c).1<=30000/\okK (Yrd c).2:=by
 have hq:Yg1 4 c=Ylh 4 c:=Yn9 4 c
 have h1:=Ypr 4 c h
 rw [<- hq] at h1
 have h2:=Yl4 (Yg1 4 c).1
 have e:(40 * 5 ^ 4:Nat)=25000:=by decide
 rw [e] at h1
 have h3:=Y1lr
 unfold Yrd
 simp only
 repeat' split
 all_goals refine ⟨?_,by first | exact Ygd (Ygd h1.2) | exact Ygd h1.2⟩
 ·rw [Yl4]; show (Yg1 4 c).1.text.size+((Yg1 4 c).1.items.length+sumBy wD (Yg1 4 c).1.items)<=_; omega
 ·rw [Yl4]; have:=h3 (beX (beC (Yg1 4 c).2 12) 7).toNat; show (Y104.getD _ default).size+((Yg1 4 c).1.items.length+sumBy wD (Yg1 4 c).1.items)<=_; omega
 ·rw [Yl4]; show (Yg1 4 c).1.text.size+((Yg1 4 c).1.items.length+sumBy wD (Yg1 4 c).1.items)<=_; omega
 ·rw [Yl4]; simp only [List.length_append,List.length_cons,List.length_nil,Yha,sumBy]; have:wD ⟨9,0,mkS [],[]⟩=0:=by decide
  omega
 ·rw [Y1o0]; omega
 ·show wD (Yg1 4 c).1<=30000; omega
def Yjc (c:Cr):Datum × Cr:=Yje (Yrd c)
theorem Yom (c:Cr):Yjc c=Yrd c:=Yhd _
theorem Y186 {c:Cr} (h:okK c):wD (Yjc c).1<=30000/\okK (Yjc c).2:=by rw [Yom]; exact Y1lp h
def Yiy (n:Nat) (d:Datum):Datum:=Yje (Yx4 n d)
theorem Yss (n:Nat) (d:Datum):Yiy n d=Yx4 n d:=Yhd _
theorem Y1c6 (d:Datum):Yiy 0 d=d:=by rw [Yss]; rfl
theorem Y1am (n:Nat) (d:Datum):Yiy (n+1) d=Yh1 [Yiy n d]:=by rw [Yss,Yss]; rfl
section
variable {c:Cr}
theorem Y1pd (k:beX (Yg1 4 c).2 12=0):Yjc c=(⟨(Yg1 4 c).1.kind,Y1gs.getD (beX (beC (Yg1 4 c).2 12) 4).toNat default,(Yg1 4 c).1.text,(Yg1 4 c).1.items⟩,beC (beC (Yg1 4 c).2 12) 4):=by
 rw [Yom]; exact if_pos k
theorem Y1qu (k:beX (Yg1 4 c).2 12=1):Yjc c=(⟨(Yg1 4 c).1.kind,(Yg1 4 c).1.number,Y104.getD (beX (beC (Yg1 4 c).2 12) 7).toNat default,(Yg1 4 c).1.items⟩,beC (beC (Yg1 4 c).2 12) 7):=by
 rw [Yom]; unfold Yrd; simp only; rw [if_neg (by omega),if_pos k]
theorem Y1p9 (k:beX (Yg1 4 c).2 12=2):Yjc c=(⟨beX (beC (Yg1 4 c).2 12) 7 - 1,(Yg1 4 c).1.number,(Yg1 4 c).1.text,(Yg1 4 c).1.items⟩,beC (beC (Yg1 4 c).2 12) 7):=by
 rw [Yom]; unfold Yrd; simp only; rw [if_neg (by omega),if_neg (by omega),if_pos k]
theorem Y1r0 (k:beX (Yg1 4 c).2 12=3):Yjc c=(⟨(Yg1 4 c).1.kind,(Yg1 4 c).1.number,(Yg1 4 c).1.text,(Yg1 4 c).1.items++[⟨9,0,mkS [],[]⟩]⟩,beC (Yg1 4 c).2 12):=by
 rw [Yom]; unfold Yrd; simp only; rw [if_neg (by omega),if_neg (by omega),if_neg (by omega),if_pos k]
theorem Y1qp (k:beX (Yg1 4 c).2 12=4):Yjc c=(Yiy 21 (Yg1 4 c).1,beC (Yg1 4 c).2 12):=by
 rw [Yom,Yss]; unfold Yrd; simp only; rw [if_neg (by omega),if_neg (by omega),if_neg (by omega),if_neg (by omega),if_pos k]
theorem Y1qk (k:4<beX (Yg1 4 c).2 12):Yjc c=((Yg1 4 c).1,beC (Yg1 4 c).2 12):=by
 rw [Yom]; unfold Yrd; simp only; rw [if_neg (by omega),if_neg (by omega),if_neg (by omega),if_neg (by omega),if_neg (by omega)]
end
end Go.Proofs.YtclpofblehlojaaGreat
end
section
namespace Go.Proofs.YtclpofblehlojaaGreat
open Go Ab
set_option maxHeartbeats 4000000
abbrev Za7 (s:ByteArray):Ct:=⟨203,[],[ls s],[],.sv (.agg [vI (Ynt s).kind,vI (Ynt s).number,vS (Ynt s).text,.val (.lit (.slice none 0 0))])⟩
theorem Zf8 (s:ByteArray)  : Za7 s:=Yg4 Tryz.call203 Tryz.func203 (.c [.rd] (Zh s) (.b (!Yim s) (.s (.agg [vI 0,vI 0,vS (ByteArray.mk #[]),.val
 (.lit (.slice none 0 0))])) (.s (.agg [vI 1,vI 0,vS s,.val (.lit (.slice none 0 0))])))) (by
 dsimp only [Yfp,Za7]
 with_reducible repeat' (first | apply And.intro | exact zR | (intro))
 all_goals ((try simp only [std,inj] at *); with_reducible and_intros)
 all_goals try first | exact z | grind [Ynt,Yg3,Yu4,Yfy,Yfz,Yfs])
abbrev Za8 (s:ByteArray):Ct:=⟨205,[],[ls s],[],.sv (.agg [vI (Yno s).kind,vI (Yno s).number,vS (Yno s).text,.val (.lit (.slice none 0 0))])⟩
theorem Za9 (s:ByteArray)  : Za8 s:=Yg4 Tryz.call205 Tryz.func205 (.c [.rd] (Z50 s) (.b (!Yjr s) (.s (.agg [vI 0,vI 0,vS (ByteArray.mk #[]),.val (.lit
 (.slice none 0 0))])) (.s (.agg [vI 4,vI 0,vS s,.val (.lit (.slice none 0 0))])))) (by
 dsimp only [Yfp,Za8]
 with_reducible repeat' (first | apply And.intro | exact zR | (intro))
 all_goals ((try simp only [std,inj] at *); with_reducible and_intros)
 all_goals try first | exact z | grind [Yno,Yu4,Yfy,Yfz,Yfs])
abbrev Zaa (n:Int):Ct:=⟨209,[],[li n],[],.sv (.agg [vI (Ynl n).kind,vI (Ynl n).number,vS (Ynl n).text,.val (.lit (.slice none 0 0))])⟩
theorem Z5v (n:Int)  : Zaa n:=Yg4 Tryz.call209 Tryz.func209 (.c [.rd,.rd,.rd] (Z1i n (-999999999:Int) 999999999) (.b (!decide ((-999999999:Int)<=n/\n <=
 999999999)) (.s (.agg [vI 0,vI 0,vS (ByteArray.mk #[]),.val (.lit (.slice none 0 0))])) (.s (.agg [vI 2,vI n,vS (ByteArray.mk #[]),.val (.lit
 (.slice none 0 0))])))) (by
 dsimp only [Yfp,Zaa]
 with_reducible repeat' (first | apply And.intro | exact zR | (intro))
 all_goals ((try simp only [std,inj] at *); with_reducible and_intros)
 all_goals try first | exact z | grind [Ynl,Yu4,Yfy,Yfz,Yfs])
abbrev Zab (b:Bool):Ct:=⟨210,[],[lb b],[],.sv (.agg [vI (Ypx b).kind,vI (Ypx b).number,vS (Ypx b).text,.val (.lit (.slice none 0 0))])⟩
theorem Zac (b:Bool)  : Zab b:=Yg4 Tryz.call210 Tryz.func210 (.b b (.s (.agg [vI 3,vI 1,vS (ByteArray.mk #[]),.val (.lit (.slice none 0 0))])) (.s
 (.agg [vI 3,vI 0,vS (ByteArray.mk #[]),.val (.lit (.slice none 0 0))]))) (by
 dsimp only [Yfp,Zab]
 with_reducible repeat' (first | apply And.intro | exact zR | (intro))
 all_goals ((try simp only [std,inj] at *); with_reducible and_intros)
 all_goals try first | exact z | grind [Ypx,Yfy,Yfz,Yfs])
abbrev Z1f (d:Int) (c:Cr):Ct:=⟨162,[crO c],[.one (.ptr 0 0),li d],[crO (Yg1 d c).2,.arr true 4 ((Yg1 d c).1.items.map Yg2)],.sv (Yua (Yg1 d c).1 1)⟩
def Z1k (d:Int) (c:Cr):Lp (Int):=.mk 61 1 (fun x=>[(0,.one (.ptr 0 0)),(1,li d),(4,.one (.ptr 1 0)),(6,.one (.ptr 2 0)),(7,hs x 0)]) (fun x
 => [ho x 1,.box [vI 0,vI 0,vS (ByteArray.mk #[]),.val (.lit (.slice none 0 0))],.box [vI 0,vI 0,vS (ByteArray.mk #[]),.ref 3],ho x 2]) (fun k=>[.s (li
 k),.o (crO (Yi5 (d - 1) (beX (beC c 9) 5 - k).toNat (beC (beC c 9) 5)).snd),.o (.arr true 4 ((Yi5 (d - 1) (beX (beC c 9) 5 - k).toNat (beC (beC c 9)
 5)).fst.map Yg2))]) (fun k=>0<=k/\k<=beX (beC c 9) 5/\beX (beC c 9) (5:Int)<=4/\1<d/\d<=10) (fun k=>k.toNat) [.mk True (.exit 1) (fun x=>[(4,.one (.ptr 1 0)),(6,
 .one (.ptr 2 0))]) (fun x=>[ho x 0,.box [vI 0,vI 0,vS (ByteArray.mk #[]),.val (.lit (.slice none 0 0))],.box [vI 0,vI 0,vS (ByteArray.mk #[]),.ref
 3],ho x 1]) [.o (crO (Yi5 (d - 1) (beX (beC c 9) 5).toNat (beC (beC c 9) 5)).snd),.o (.arr true 4 ((Yi5 (d - 1) (beX (beC c 9) 5).toNat (beC (beC c 9)
 5)).fst.map Yg2))]]
theorem Z5q (d:Int) (c:Cr) (h:okK c/\0<=d/\d<=10) (ih:∀ (e:Int),0<=e/\e<d->∀ (c:Cr),okK c/\0<=e/\e<=10->OK (Z1f e c)):Lp.Sem Tryz.prog
 (Yg6 Tryz.f162 0) (Z1k d c):=Ygf (fun k=>.i (0<k) (.w (.draw [(5,[0]),(6,[7]),(7,[3,14]),(9,[2])]) (.r (d - 1) (.d [.ptr,.rd] (Z1f (d - 1) (Yi5
 (d - 1) (beX (beC c 9) 5 - k).toNat (beC (beC c 9) 5)).snd) (.p ((((Yi5 (d - 1) (beX (beC c 9) 5 - k).toNat (beC (beC c 9) 5)).fst.map Yg2).length+1) * 56 <=
 140737488355328) (.r (k - 1) (.g [0,1,2,15] (k - 1) [.s (li (k - 1)),.o (.box [vL ((Yg1 (d - 1) (Yi5 (d - 1) (beX (beC c 9) 5 - k).toNat (beC (beC c 9)
 5)).snd).snd.b.map Yg9),vI (↑(Yg1 (d - 1) (Yi5 (d - 1) (beX (beC c 9) 5 - k).toNat (beC (beC c 9) 5)).snd).snd.i:Int),vI (Yg1 (d - 1) (Yi5 (d - 1) (beX (beC c 9) 5 - k).toNat
 (beC (beC c 9) 5)).snd).snd.h]),.o (.arr true 4 ((Yi5 (d - 1) (beX (beC c 9) 5 - k).toNat (beC (beC c 9) 5)).fst.map Yg2++[Yh9 (Yg1 (d - 1) (Yi5 (d - 1) (beX
 (beC c 9) 5 - k).toNat (beC (beC c 9) 5)).snd).fst]))])))))) (.o 0 [0,1,2,3] [.o (.box [vL ((Yi5 (d - 1) (beX (beC c 9) 5 - k).toNat (beC (beC c 9)
 5)).snd.b.map Yg9),vI (↑(Yi5 (d - 1) (beX (beC c 9) 5 - k).toNat (beC (beC c 9) 5)).snd.i:Int),vI (Yi5 (d - 1) (beX (beC c 9) 5 - k).toNat (beC (beC c 9) 5)).snd.h]),.o (.arr
 true 4 ((Yi5 (d - 1) (beX (beC c 9) 5 - k).toNat (beC (beC c 9) 5)).fst.map Yg2))])) (by
 intro k h; try dsimp only [Yfp,Yg0,Z1k] at h ⊢
 have g1:=Y1c5 (d - 1) (beX (beC c 9) 5 - k).toNat (beC (beC c 9) 5)
 have g2:=Y1ed (d - 1) (beX (beC c 9) 5 - k).toNat (beC (beC c 9) 5)
 have g3:=Yhf (beC c 9) (n:=5) (by decide)
 have g4:0<k->(beX (beC c 9) 5 - (k - 1)).toNat=(beX (beC c 9) 5 - k).toNat+1:=fun _=>by omega
 have g5:¬ 0<k->0<=k->(beX (beC c 9) 5 - k).toNat=(beX (beC c 9) 5).toNat:=fun _ _=>by omega
 have g6:okK (Yi5 (d - 1) (beX (beC c 9) 5 - k).toNat (beC (beC c 9) 5)).2:=Y1hj (Ygd (Ygd (by have := ‹okK c/\_›; exact this.1)))
 with_reducible repeat' (first | apply And.intro | exact zR | exact ih | (intro) | apply Z0 | apply Z8 | apply Zw | apply Z2 | apply ih)
 all_goals ((try simp only [std,inj] at *); with_reducible and_intros)
 all_goals try first | with_reducible (first | apply Z0 | apply Z8 | apply Zw | apply Z2 | apply ih) | (simp only [<- List.map_append]; with_reducible first | apply Z0 | apply Z8 | apply Zw | apply Z2 | apply ih)
 all_goals try first | exact zw | grind [crO,Yfy,Yfz,Yfs])
theorem Ze9 (d:Int) (c:Cr) (h:okK c/\0<=d/\d<=10) (ih:∀ (e:Int),0<=e/\e<d->∀ (c:Cr) (h:okK c/\0<=e/\e<=10),Z1f e c)  : Z1f d c:=Yg4
 Tryz.call162 Tryz.func162 (let v1:=[ByteArray.mk #[(120:UInt8)],ByteArray.mk #[(121:UInt8)],ByteArray.mk #[(116:UInt8),(109:UInt8),(112:UInt8)],ByteArray.mk #[(116
 : UInt8)],ByteArray.mk #[(108:UInt8),(111:UInt8),(111:UInt8),(112:UInt8)],ByteArray.mk #[(101:UInt8),(108:UInt8),(115:UInt8),(101:UInt8)],ByteArray.mk
 #[(108:UInt8),(105:UInt8),(115:UInt8),(116:UInt8)],ByteArray.mk #[(102:UInt8)],ByteArray.mk #[(46:UInt8),(46:UInt8),(46:UInt8)],ByteArray.mk #[(95 :
 UInt8)],ByteArray.mk #[(97:UInt8),(45:UInt8),(98:UInt8)],ByteArray.mk #[(103:UInt8),(111:UInt8),(33:UInt8)]]; let v2:=[ByteArray.mk #[],ByteArray.mk #[(97 :
 UInt8)],ByteArray.mk #[(105:UInt8),(116:UInt8),(32:UInt8),(105:UInt8),(115:UInt8)],ByteArray.mk #[(40:UInt8),(59:UInt8),(39:UInt8)],ByteArray.mk #[(49 :
 UInt8),(50:UInt8),(51:UInt8),(52:UInt8),(53:UInt8),(54:UInt8),(55:UInt8),(56:UInt8),(57:UInt8),(48:UInt8),(49:UInt8),(50:UInt8),(51:UInt8),(52
 : UInt8),(53:UInt8),(54:UInt8),(55:UInt8),(56:UInt8),(57:UInt8),(48:UInt8)]]; let v8:=[0,1,7,(-1:Int),42,999999999,(-999999999:Int)]; let v7:=(beC
 c 9); let v3:=(v8.getD (beX v7 7).toNat 0); let v18:=(beX v7 5); let v22:=(Yi5 (d - 1) v18.toNat (beC v7 5)); let v4:=[.box [vL (v22.snd.b.map Yg9),vI (↑(Yi5
 (d - 1) v18.toNat (beC v7 5)).snd.i:Int),vI v22.snd.h],.arr true 4 (v22.fst.map Yg2)]; let v5:=[.box [vL ((beC v7 12).b.map Yg9),vI (↑(beC v7 12).i :
 Int),vI (beC v7 12).h],.arr true 4 []]; let v6:=[.box [vL ((beC v7 7).b.map Yg9),vI (↑(beC v7 7).i:Int),vI (beC v7 7).h],.arr true 4 []]; let v9:=(.sv
 (.agg [vI (Ynl v3).kind,vI (Ynl v3).number,vS (Ynl v3).text,.ref 1])); let v10:=(.sv (.agg [vI 0,vI 0,vS (ByteArray.mk #[]),.ref 1])); let v11:=[0,1,2,
 3]; let v20:=(v1.getD (beX v7 12).toNat default); let v12:=(.sv (.agg [vI (Ynt v20).kind,vI (Ynt v20).number,vS (Ynt v20).text,.ref 1])); let v13:=[vL (List.map
 Yg9 (beC v7 5).b),vI (↑(beC v7 5).i:Int),vI (beC v7 5).h]; let v21:=(v2.getD v18.toNat default); let v14:=(.sv (.agg [vI (Yno v21).kind,vI (Yno v21).number,vS
 (Yno v21).text,.ref 1])); let v19:=(decide (beX v7 (2:Int)=0)); let v15:=(.sv (.agg [vI (Ypx v19).kind,vI (Ypx v19).number,vS (Ypx v19).text,.ref 1])); let
 v16:=[.box [vL ((beC v7 2).b.map Yg9),vI (↑(beC v7 2).i:Int),vI (beC v7 2).h],.arr true 4 []]; let v17:=(Zf8 v20); .d [.ptr,.rd] (Z4 c 9) (.i (d <=
 1) (.i (5<beX c 9) (.r (beX c 9 - 5) (.i (beX c 9 - (5:Int)=0) (.y true (.d [.ptr,.own true 1] (Z6 v7 v1) (.c [.rd] v17 (.w (.ghost (.nilbox 1 3 true 4)) (.f [3] v5
 v12))))) (.i (beX c 9 - (5:Int)=1) (.d [.ptr,.own true 1] (Z6 v7 v1) (.c [.rd] v17 (.w (.ghost (.nilbox 1 3 true 4)) (.f [3] v5 v12)))) (.i (beX c 9 - (5:Int)=2)
 (.y true (.d [.ptr,.own true 1] (Zv v7 v8) (.c [.rd] (Z5v v3) (.w (.ghost (.nilbox 1 3 true 4)) (.f [3] v6 v9))))) (.i (beX c 9 - (5:Int)=3) (.d [.ptr,.own true 1]
 (Zv v7 v8) (.c [.rd] (Z5v v3) (.w (.ghost (.nilbox 1 3 true 4)) (.f [3] v6 v9)))) (.i (beX c 9 - (5:Int)=4) (.d [.ptr,.rd] (Z9 v7 2) (.c [.rd] (Zac v19)
 (.w (.ghost (.nilbox 1 3 true 4)) (.f [2] v16 v15)))) (.i (beX c 9 - (5:Int)=5) (.d [.ptr,.own true 1] (Z6 v7 v2) (.c [.rd] (Za9 v21) (.w (.ghost (.nilbox 1 3 true
 4)) (.f [3] [.box v13,.arr true 4 []] v14)))) (.d [.ptr,.rd] (Z4 v7 5) (.w (.ghost (.nilbox 2 3 true 4)) (.l (Z1k d c) (Z5q d c h ih) v11 [.s (li
 v18),.o (.box v13),.o (.arr true 4 [])] v18 (.t (.f [3] v4 v10) .q))))))))))) (.i (beX c (9:Int)=0) (.y true (.d [.ptr,.own true 1] (Z6 v7 v1) (.c [.rd] v17 (.w
 (.ghost (.nilbox 1 3 true 4)) (.f [3] v5 v12))))) (.i (beX c (9:Int)=1) (.d [.ptr,.own true 1] (Z6 v7 v1) (.c [.rd] v17 (.w (.ghost (.nilbox 1 3 true 4)) (.f [3] v5
 v12)))) (.i (beX c (9:Int)=2) (.y true (.d [.ptr,.own true 1] (Zv v7 v8) (.c [.rd] (Z5v v3) (.w (.ghost (.nilbox 1 3 true 4)) (.f [3] v6 v9))))) (.i (beX c (9:Int)
 = 3) (.d [.ptr,.own true 1] (Zv v7 v8) (.c [.rd] (Z5v v3) (.w (.ghost (.nilbox 1 3 true 4)) (.f [3] v6 v9)))) (.i (beX c (9:Int)=4) (.d [.ptr,.rd] (Z9 v7 2)
 (.c [.rd] (Zac v19) (.w (.ghost (.nilbox 1 3 true 4)) (.f [2] v16 v15)))) (.i (beX c (9:Int)=5) (.d [.ptr,.own true 1] (Z6 v7 v2) (.c [.rd] (Za9 v21) (.w (.ghost
 (.nilbox 1 3 true 4)) (.f [3] [.box v13,.arr true 4 []] v14)))) (.d [.ptr,.rd] (Z4 v7 5) (.w (.ghost (.nilbox 2 3 true 4)) (.l (Z1k d c) (Z5q d c h
 ih) v11 [.s (li v18),.o (.box v13),.o (.arr true 4 [])] v18 (.t (.f [3] v4 v10) .q))))))))))) (.y false (.i (beX c (9:Int)=0) (.y true (.d [.ptr,.own true 1] (Z6
 v7 v1) (.c [.rd] v17 (.w (.ghost (.nilbox 1 3 true 4)) (.f [3] v5 v12))))) (.i (beX c (9:Int)=1) (.d [.ptr,.own true 1] (Z6 v7 v1) (.c [.rd] v17 (.w (.ghost (.nilbox 1
 3 true 4)) (.f [3] v5 v12)))) (.i (beX c (9:Int)=2) (.y true (.d [.ptr,.own true 1] (Zv v7 v8) (.c [.rd] (Z5v v3) (.w (.ghost (.nilbox 1 3 true 4)) (.f [3] v6
 v9))))) (.i (beX c (9:Int)=3) (.d [.ptr,.own true 1] (Zv v7 v8) (.c [.rd] (Z5v v3) (.w (.ghost (.nilbox 1 3 true 4)) (.f [3] v6 v9)))) (.i (beX c (9:Int)=4) (.d
 [.ptr,.rd] (Z9 v7 2) (.c [.rd] (Zac v19) (.w (.ghost (.nilbox 1 3 true 4)) (.f [2] v16 v15)))) (.i (beX c (9:Int)=5) (.d [.ptr,.own true 1] (Z6 v7 v2) (.c
 [.rd] (Za9 v21) (.w (.ghost (.nilbox 1 3 true 4)) (.f [3] [.box v13,.arr true 4 []] v14)))) (.d [.ptr,.rd] (Z4 v7 5) (.w (.ghost (.nilbox 2 3 true 4)) (.l
 (Z1k d c) (Z5q d c h ih) v11 [.s (li v18),.o (.box v13),.o (.arr true 4 [])] v18 (.t (.f [3] v4 v10) .q))))))))))))) (by
 dsimp only [Yfp,Z1f,Yg0,Z1k]
 have ok1:okK (beC c 9):=Ygd h.1
 have g9:=Yhf c (n:=9) (by decide)
 have g5:=Yhf (beC c 9) (n:=5) (by decide)
 have k1:d<=1->5<beX c 9->kdH d c=beX c 9 - 5:=fun a b=>if_pos ⟨a,b⟩
 have k2:¬ d<=1->kdH d c=beX c 9:=fun a=>if_neg (fun e=>a e.1)
 have k3:¬ 5<beX c 9->kdH d c=beX c 9:=fun a=>if_neg (fun e=>a e.2)
 have f0:=@Y1qe d c h.2.1
 have f2:=@Y1q3 d c h.2.1
 have f4:=@Y1pz d c h.2.1
 have f5:=@Y1pb d c h.2.1
 have f6:=@Y1fq d c h.2.1
 have m0:=Y1bg (d - 1) (beC (beC c 9) 5)
 have e0:(beX (beC c 9) 5 - beX (beC c 9) 5).toNat=0:=by omega
 simp only [Y1cd,Y1bk,Y1c7] at f0 f2 f5
 with_reducible repeat' (first | apply And.intro | exact zR | exact ih | (intro) | apply Z0 | apply Z8 | apply Zw | apply Z2)
 all_goals ((try simp only [std,inj] at *); with_reducible and_intros)
 all_goals try with_reducible first | apply Z0 | apply Z8 | apply Zw | apply Z2 | apply ih
 all_goals first
  | exact True.intro | with_reducible rfl | with_reducible assumption | omega | exact h.1 | exact Nat.succ_pos _ | decide
  | (rw [f0 (by omega)]; first | done | (rw [Y13h]; done) | (rw [Y13h]; rfl) | rfl)
  | (rw [f2 (by omega)]; first | done | (rw [Y15x]; done) | (rw [Y15x]; rfl) | rfl)
  | (rw [f4 (by omega)]; first | done | rfl)
  | (rw [f5 (by omega)]; first | done | (rw [Y13e]; done) | (rw [Y13e]; rfl) | rfl)
  | (rw [(f6 (by omega)).2]; first | done | rfl)
  | exact (f6 (by omega)).1
  | (rw [e0,m0]; first | done | rfl))
theorem Z4s (d:Int):∀ (c:Cr) (h:okK c/\0<=d/\d<=10),Z1f d c:=Lv.ind (P:=fun d=>∀ (c:Cr) (h:okK c/\0<=d/\d<=10),Z1f d c) (fun d ih c h=>Ze9 d c h ih) d
set_option maxHeartbeats 4000000
abbrev Z7o (c:Cr):Ct:=⟨82,[crO c],[.one (.ptr 0 0)],[crO (Yjc c).2,.arr true 4 ((Yjc c).1.items.map Yg2)],.sv (Yua (Yjc c).1 1)⟩
def Z52 (c:Cr):Lp Nat:=.mk 45 1 (fun x=>[(2,.one (.ptr 1 0)),(3,.one (.ptr 2 0)),(4,hs x 0)]) (fun x=>[.box [vL ((beC (Yg1 4 c).snd
 12).b.map Yg9),vI (↑(beC (Yg1 4 c).snd 12).i:Int),vI (beC (Yg1 4 c).snd 12).h],.box [vI 0,vI 0,vS (ByteArray.mk #[]),.val (.lit (.slice none 0 0))],.box [ha x 1,
 ha x 2,ha x 3,.ref 3],ho x 4]) (fun k=>[.s (li (k:Int)),.a (vI (Yiy k (Yg1 4 c).fst).kind),.a (vI (Yiy k (Yg1 4 c).fst).number),.a (vS (Yiy k (Yg1 4
 c).fst).text),.o (.arr true 4 ((Yiy k (Yg1 4 c).fst).items.map Yg2))]) (fun k=>k<=21) (fun k=>21 - k) [.mk True (.exit 1) (fun x=>[(2,.one (.ptr 1 0)),
 (3,.one (.ptr 2 0))]) (fun x=>[.box [vL ((beC (Yg1 4 c).snd 12).b.map Yg9),vI (↑(beC (Yg1 4 c).snd 12).i:Int),vI (beC (Yg1 4 c).snd 12).h],.box [vI 0,vI
 0,vS (ByteArray.mk #[]),.val (.lit (.slice none 0 0))],.box [ha x 0,ha x 1,ha x 2,.ref 3],ho x 3]) [.a (vI (Yiy 21 (Yg1 4 c).fst).kind),.a (vI (Yiy 21
 (Yg1 4 c).fst).number),.a (vS (Yiy 21 (Yg1 4 c).fst).text),.o (.arr true 4 ((Yiy 21 (Yg1 4 c).fst).items.map Yg2))]]
theorem Zcx (c : Cr) (h : okK c) : Lp.Sem Tryz.prog (Yg6 Tryz.f82 0) (Z52 c) := Ygf (fun k => .i ((k : Int) < 21) (.r ((k : Int) + 1) (.g [0, 1, 2, 4] (k + 1) [.s
 (li ((k : Int) + 1)), .a (vI 0), .a (vI 0), .a (vS (ByteArray.mk #[])), .o (.arr true 4 [Yh9 (Yiy k (Yg1 4 c).fst)])])) (.o 0 [0, 1, 2, 3] [.a (vI (Yiy k (Yg1 4
 c).fst).kind), .a (vI (Yiy k (Yg1 4 c).fst).number), .a (vS (Yiy k (Yg1 4 c).fst).text), .o (.arr true 4 ((Yiy k (Yg1 4 c).fst).items.map Yg2))])) (by
  intro k h; try dsimp only [Yfp, Yg0, Z52] at h ⊢
  have g1 := Y1am k (Yg1 4 c).1
  with_reducible repeat' (first | apply And.intro | exact zR | (intro) | apply Z0 | apply Z8 | apply Zw | apply Z4s)
  all_goals ((try simp only [std, inj] at *); with_reducible and_intros)
  all_goals try with_reducible first | apply Z0 | apply Z8 | apply Zw | apply Z4s
  all_goals first
    | exact True.intro | with_reducible rfl | omega
    | (rw [g1]; first | done | rfl | (show _ = List.map Yg2 [_]; simp only [List.map_cons, List.map_nil, Yts]; done))
    | (have e : k = 21 := by omega
       rw [e]))
theorem Zcy (c:Cr) (h:okK c)  : Z7o c:=Yg4 Tryz.call82 Tryz.func82 (.d [.ptr,.rd] (Z1f 4 c) (.d [.ptr,.rd] (Z4 (Yg1 4 c).snd 12) (.i (beX (Yg1 4
 c).snd (12:Int)=0) (.d [.ptr,.own true 1] (Zv (beC (Yg1 4 c).snd 12) [1,2,1000000000,(-1000000000:Int)]) (.f [3] [.box [vL ((beC (beC (Yg1 4
 c).snd 12) 4).b.map Yg9),vI (↑(beC (beC (Yg1 4 c).snd 12) 4).i:Int),vI (beC (beC (Yg1 4 c).snd 12) 4).h],.arr true 4 ((Yg1 4 c).fst.items.map Yg2)] (.sv (.agg [vI
 (Yg1 4 c).fst.kind,vI ([1,2,1000000000,(-1000000000:Int)].getD (beX (beC (Yg1 4 c).snd 12) 4).toNat 0),vS (Yg1 4 c).fst.text,.ref 1])))) (.i (beX (Yg1 4 c).snd (12 :
 Int)=1) (.d [.ptr,.own true 1] (Z6 (beC (Yg1 4 c).snd 12) [ByteArray.mk #[],ByteArray.mk #[(57:UInt8)],ByteArray.mk #[(45:UInt8),(53:UInt8)],ByteArray.mk
 #[(45:UInt8)],ByteArray.mk #[(120:UInt8),(32:UInt8),(121:UInt8)],ByteArray.mk #[(97:UInt8),(98:UInt8),(99:UInt8),(100:UInt8),(101:UInt8),(102:UInt8),
 (103:UInt8),(104:UInt8),(105:UInt8),(106:UInt8),(107:UInt8),(108:UInt8),(109:UInt8),(110:UInt8),(111:UInt8),(112:UInt8),(113:UInt8)],ByteArray.mk
 #[(49:UInt8),(50:UInt8),(51:UInt8),(52:UInt8),(53:UInt8),(54:UInt8),(55:UInt8),(56:UInt8),(57:UInt8),(48:UInt8),(49:UInt8),(50:UInt8),(51 :
 UInt8),(52:UInt8),(53:UInt8),(54:UInt8),(55:UInt8),(56:UInt8),(57:UInt8),(48:UInt8),(49:UInt8)]]) (.f [3] [.box [vL ((beC (beC (Yg1 4
 c).snd 12) 7).b.map Yg9),vI (↑(beC (beC (Yg1 4 c).snd 12) 7).i:Int),vI (beC (beC (Yg1 4 c).snd 12) 7).h],.arr true 4 ((Yg1 4 c).fst.items.map Yg2)] (.sv (.agg [vI
 (Yg1 4 c).fst.kind,vI (Yg1 4 c).fst.number,vS ([ByteArray.mk #[],ByteArray.mk #[(57:UInt8)],ByteArray.mk #[(45:UInt8),(53:UInt8)],ByteArray.mk #[(45:UInt8)],
 ByteArray.mk #[(120:UInt8),(32:UInt8),(121:UInt8)],ByteArray.mk #[(97:UInt8),(98:UInt8),(99:UInt8),(100:UInt8),(101:UInt8),(102:UInt8),(103:UInt8),
 (104:UInt8),(105:UInt8),(106:UInt8),(107:UInt8),(108:UInt8),(109:UInt8),(110:UInt8),(111:UInt8),(112:UInt8),(113:UInt8)],ByteArray.mk #[(49:UInt8),
 (50:UInt8),(51:UInt8),(52:UInt8),(53:UInt8),(54:UInt8),(55:UInt8),(56:UInt8),(57:UInt8),(48:UInt8),(49:UInt8),(50:UInt8),(51:UInt8),(52 :
 UInt8),(53:UInt8),(54:UInt8),(55:UInt8),(56:UInt8),(57:UInt8),(48:UInt8),(49:UInt8)]].getD (beX (beC (Yg1 4 c).snd 12) 7).toNat default),.ref 1])))) (.i
 (beX (Yg1 4 c).snd (12:Int)=2) (.d [.ptr,.rd] (Z4 (beC (Yg1 4 c).snd 12) 7) (.r (beX (beC (Yg1 4 c).snd 12) 7 - 1) (.f [3] [.box [vL ((beC (beC
 (Yg1 4 c).snd 12) 7).b.map Yg9),vI (↑(beC (beC (Yg1 4 c).snd 12) 7).i:Int),vI (beC (beC (Yg1 4 c).snd 12) 7).h],.arr true 4 ((Yg1 4 c).fst.items.map Yg2)] (.sv
 (.agg [vI (beX (beC (Yg1 4 c).snd 12) 7 - 1),vI (Yg1 4 c).fst.number,vS (Yg1 4 c).fst.text,.ref 1]))))) (.i (beX (Yg1 4 c).snd (12:Int)=3) (.p (((List.map Yg2
 (Yg1 4 c).fst.items).length+1) * 56<=140737488355328) (.f [6] [.box [vL ((beC (Yg1 4 c).snd 12).b.map Yg9),vI (↑(beC (Yg1 4 c).snd 12).i:Int),vI (beC (Yg1 4
 c).snd 12).h],.arr true 4 ((Yg1 4 c).fst.items.map Yg2++[[cI 9,cI 0,cS (ByteArray.mk #[]),.list []]])] (.sv (.agg [vI (Yg1 4 c).fst.kind,vI (Yg1 4
 c).fst.number,vS (Yg1 4 c).fst.text,.ref 1])))) (.i (beX (Yg1 4 c).snd (12:Int)=4) (.l (Z52 c) (Zcx c h) [0,1,4,3] [.s (li 0),.a (vI (Yg1 4
 c).fst.kind),.a (vI (Yg1 4 c).fst.number),.a (vS (Yg1 4 c).fst.text),.o (.arr true 4 ((Yg1 4 c).fst.items.map Yg2))] 0 (.t (.f [3] [.box [vL ((beC
 (Yg1 4 c).snd 12).b.map Yg9),vI (↑(beC (Yg1 4 c).snd 12).i:Int),vI (beC (Yg1 4 c).snd 12).h],.arr true 4 ((Yiy 21 (Yg1 4 c).fst).items.map Yg2)] (.sv (.agg [vI
 (Yiy 21 (Yg1 4 c).fst).kind,vI (Yiy 21 (Yg1 4 c).fst).number,vS (Yiy 21 (Yg1 4 c).fst).text,.ref 1]))) .q)) (.f [3] [.box [vL ((beC (Yg1 4 c).snd
 12).b.map Yg9),vI (↑(beC (Yg1 4 c).snd 12).i:Int),vI (beC (Yg1 4 c).snd 12).h],.arr true 4 ((Yg1 4 c).fst.items.map Yg2)] (.sv (.agg [vI (Yg1 4 c).fst.kind,vI
 (Yg1 4 c).fst.number,vS (Yg1 4 c).fst.text,.ref 1])))))))))) (by
 dsimp only [Yfp,Z7o,Yg0,Z52]
 have ok1:okK (Yg1 4 c).2:=Yzp h
 have ok2:okK (beC (Yg1 4 c).2 12):=Ygd ok1
 have b12:=Yhf (Yg1 4 c).2 (n:=12) (by decide)
 have b7:=Yhf (beC (Yg1 4 c).2 12) (n:=7) (by decide)
 have w:=(Ypr 4 c h).1
 rw [<- show Yg1 4 c=Ylh 4 c from Yn9 4 c] at w
 have w1:=Yl4 (Yg1 4 c).1
 have f0:=@Y1pd c
 have f1:=@Y1qu c
 have f2:=@Y1p9 c
 have f3:=@Y1r0 c
 have f4:=@Y1qp c
 have f5:=@Y1qk c
 have n0:=Y1c6 (Yg1 4 c).1
 simp only [Y1gs,Y104] at f0 f1
 with_reducible repeat' (first | apply And.intro | exact zR | (intro) | apply Z0 | apply Z8 | apply Zw | apply Z4s)
 all_goals ((try simp only [std,inj] at *); with_reducible and_intros)
 all_goals try first | with_reducible (first | apply Z0 | apply Z8 | apply Zw | apply Z4s) | (simp only [<- List.map_append]; with_reducible first | apply Z0 | apply Z8 | apply Zw | apply Z4s)
 all_goals first
  | exact True.intro | with_reducible rfl | with_reducible assumption | exact ⟨h,by omega,by omega⟩ | exact ⟨h,by decide⟩ | omega | exact h | exact Nat.succ_pos _ | decide
  | (rw [f0 (by omega)]; first | done | rfl)
  | (rw [f1 (by omega)]; first | done | rfl)
  | (rw [f2 (by omega)]; first | done | rfl)
  | (rw [f3 (by omega)]; first | done | rfl | (rw [List.map_append,List.map_cons,List.map_nil,Yts ⟨9,0,mkS [],[]⟩]; rfl))
  | (rw [f4 (by omega)]; first | done | rfl)
  | (rw [f5 (by omega)]; first | done | rfl)
  | (rw [n0]; first | done | rfl)
  | rfl
  | skip)
def Ykb (n:Int):List Int->List Int
 | []=>[n]
 | x :: r=>if n<=x then (if x=n then x :: r else n :: x :: r) else x :: Ykb n r
def plN (n:Int) (L:List Int):Bool:=L.any fun x=>decide (n<=x)
theorem Y188 {n:Int}:∀ {A:List Int} (C:List Int),plN n A=true->Ykb n (A++C)=Ykb n A++C
 | [],_,h=>by cases h
 | x :: r,C,h=>by
  simp only [List.cons_append,Ykb]
  split
  ·split <;> rfl
  ·rename_i hx
   have:plN n r=true:=by simpa [plN,hx] using h
   rw [Y188 C this]; rfl
theorem Yth {n:Int}:∀ {A:List Int} (C:List Int),plN n A=false->Ykb n (A++C)=A++Ykb n C
 | [],_,_=>rfl
 | x :: r,C,h=>by
  simp only [plN,List.any_cons,Bool.or_eq_false_iff,decide_eq_false_iff_not] at h
  simp only [List.cons_append,Ykb]
  rw [if_neg h.1,Yth C (by simpa [plN] using h.2)]
def Yib (n:Int) (L:List Int) (k:Nat):List Int:=if plN n (L.take k)=true then Ykb n (L.take k) else L.take k
theorem Yq1 {n:Int} {L:List Int} {k:Nat} (h:k<L.length):plN n (L.take (k+1))=(plN n (L.take k)||decide (n<=L.getD k 0)):=by
 have e:=Ygg h
 unfold plN; rw [e,List.any_append]; simp
theorem Y1lv {n:Int} {L:List Int} {k:Nat} (h:k<L.length) (h1:plN n (L.take k)=true):Yib n L (k+1)=Yib n L k++[L.getD k 0]:=by
 have e:=Ygg h
 unfold Yib
 rw [if_pos (by rw [Yq1 h,h1]; rfl),if_pos h1,e,Y188 _ h1]; rfl
theorem Y1k6 {n:Int} {L:List Int} {k:Nat} (h:k<L.length) (h1:plN n (L.take k)=false) (h2:¬ n<=L.getD k 0):Yib n L (k+1)=Yib n L k++[L.getD k 0]:=by
 have e:=Ygg h
 unfold Yib
 rw [if_neg (by rw [Yq1 h,h1,decide_eq_false h2]; decide),if_neg (by rw [h1]; decide),e]; rfl
theorem Y1ka {n:Int} {L:List Int} {k:Nat} (h:k<L.length) (h1:plN n (L.take k)=false) (h2:n<=L.getD k 0) (h3:L.getD k 0=n):Yib n L (k+1)=Yib n L k++[L.getD k 0]:=by
 have e:=Ygg h
 unfold Yib
 rw [if_pos (by rw [Yq1 h,h1,decide_eq_true h2]; rfl),if_neg (by rw [h1]; decide),e,Yth _ h1]
 show L.take k++Ykb n [L.getD k 0]=_
 simp only [Ykb]; rw [if_pos h2,if_pos h3]
theorem Y1g8 {n:Int} {L:List Int} {k:Nat} (h:k<L.length) (h1:plN n (L.take k)=false) (h2:n<=L.getD k 0) (h3:¬ L.getD k 0=n):Yib n L (k+1)=Yib n L k++[n]++[L.getD k 0]:=by
 have e:=Ygg h
 unfold Yib
 rw [if_pos (by rw [Yq1 h,h1,decide_eq_true h2]; rfl),if_neg (by rw [h1]; decide),e,Yth _ h1]
 show L.take k++Ykb n [L.getD k 0]=_
 simp only [Ykb]; rw [if_pos h2,if_neg h3,List.append_assoc]; rfl
theorem Y1hz {n:Int} {L:List Int} {k:Nat} (h:L.length<=k):(plN n (L.take k)=true->Yib n L k=Ykb n L)/\(plN n (L.take k)=false->Yib n L k++[n]=Ykb n L):=by
 have e:=List.take_of_length_le h
 refine ⟨fun h1 => ?_,fun h1 => ?_⟩
 ·unfold Yib; rw [if_pos h1,e]
 ·unfold Yib; rw [if_neg (by rw [h1]; decide)]
  rw [e] at h1 ⊢
  have:=Yth [] h1
  rw [List.append_nil] at this; rw [this]; rfl
theorem Yxu (n:Int):∀ L:List Int,(Ykb n L).length<=L.length+1
 | []=>by simp [Ykb]
 | x :: r=>by
  have:=Yxu n r
  simp only [Ykb]; split
  ·split <;> simp
  ·simp only [List.length_cons]; omega
theorem Y16s (n:Int) (L:List Int) (k:Nat):(Yib n L k).length<=L.length+1:=by
 have h:(L.take k).length<=L.length:=by rw [List.length_take]; omega
 unfold Yib; split
 ·have:=Yxu n (L.take k); omega
 ·omega
set_option maxHeartbeats 4000000
def Yqz (n:Int):Int:=if 1<=n/\n<=99999 then (if n % 3=0 then 3 else n % 3) else 0
theorem Yyv {n:Int}:Yqz n=0 ↔ ¬ (1<=n/\n<=99999):=by unfold Yqz; split <;> (try split) <;> omega
def Yke (L:List Int):Nat->Bool
 | 0=>true
 | k+1=>Yke L k&&decide (1<=L.getD k default/\L.getD k default<=99999)&&(decide (k=0)||decide (L.getD (k - 1) default<L.getD k default))
def Yka (L:List Int):Bool:=Yke L L.length
theorem Yxs (L:List Int):∀ (m k:Nat),k<=m->Yke L m=true->Yke L k=true
 | 0,k,h,_=>by
  obtain rfl:k=0:=by omega
  rfl
 | m+1,k,h,ht=>by
  by_cases e:k=m+1
  ·rw [e]; exact ht
  ·refine Yxs L m k (by omega) ?_
   simp only [Yke,Bool.and_eq_true] at ht; exact ht.1.1
abbrev Z93 (n:Int):Ct:=⟨201,[],[li n],[],.sv (li (Yqz n))⟩
theorem Zey (n:Int)  : Z93 n:=Yg4 Tryz.call201 Tryz.func201 (.c [.rd,.rd,.rd] (Z1i n 1 99999) (.b (!decide (1<=n/\n<=99999)) (.s (li 0)) (.p ((3:Int)≠0)
 (.p (0<=n.tmod 3/\(n.tmod 3).toNat<3) (.w (.cells (Yfr ([3,1,2].getD (n.tmod 3).toNat 0))) (.p ([[cI 3],[cI 1],[cI 2]][(n.tmod 3).toNat]? = some [cI ([3,1,2].getD
 (n.tmod 3).toNat 0)]) (.s (li ([3,1,2].getD (n.tmod 3).toNat 0))))))))) (by
 dsimp only [Yfp,Z93]
 with_reducible repeat' (first | apply And.intro | exact zR | (intro))
 all_goals ((try simp only [std,inj] at *); with_reducible and_intros)
 all_goals try first | exact z | grind [Yqz,Yfy,Yfz,Yfs])
abbrev Z94 (n:Int):Ct:=⟨177,[],[li n],[],.sv (li (Yqz n))⟩
theorem Zez (n:Int)  : Z94 n:=Yg4 Tryz.call177 Tryz.func177 (.i (n<1) (.y true (.s (li 0))) (.i (99999<n) (.s (li 0)) (.p ((3:Int)≠0) (.i (n.tmod (3:Int) =
 1) (.s (li 1)) (.i (n.tmod (3:Int)=2) (.s (li 2)) (.s (li 3))))))) (by
 dsimp only [Yfp,Z94]
 with_reducible repeat' (first | apply And.intro | exact zR | (intro))
 all_goals ((try simp only [std,inj] at *); with_reducible and_intros)
 all_goals try first | exact z | grind [Yqz,Yfy,Yfz,Yfs])
abbrev Z7f (L:List Int):Ct:=⟨158,[],[ll (L.map Yfr)],[],.sv (lb (Yka L))⟩
def Z34 (L:List Int):Lp Nat:=.mk 29 0 (fun x=>[(0,ll (L.map Yfr)),(5,ll (L.map Yfr)),(6,li (↑(L.map Yfr).length:Int)),(7,hs x 0)]) (fun
 x=>[]) (fun k=>[.s (li (k:Int))]) (fun k=>k<=L.length/\L.length<=9223372036854775807/\Yke L k=true) (fun k=>L.length - k) [.mk (Yka L=true) (.exit 0) (fun x
 => []) (fun x=>[]) [],.mk (Yka L=false) .ret (fun x=>[(2,hs x 0)]) (fun x=>[]) [.s (lb false)]]
theorem Zad (L:List Int):Lp.Sem Tryz.prog (Yg6 Tryz.f158 0) (Z34 L):=Ygf (fun k=>.i ((k:Int)<(↑(L.map Yfr).length:Int)) (.x (k:Int)
 (L.map Yfr) [cI (L.getD k 0)] (.c [.rd] (Zey (L.getD k 0)) (.i (Yqz (L.getD k 0)=0) (.y true (.o 1 [] [.s (lb false)])) (.i (0<(k:Int)) (.r ((k:Int) - 1) (.x
 ((k:Int) - 1) (L.map Yfr) [cI (L.getD ((k:Int) - 1).toNat 0)] (.i (L.getD k 0<=L.getD ((k:Int) - 1).toNat 0) (.o 1 [] [.s (lb false)]) (.r ((k:Int)+1) (.g []
 (k+1) [.s (li ((k:Int)+1))]))))) (.y false (.r ((k:Int)+1) (.g [] (k+1) [.s (li ((k:Int)+1))]))))))) (.o 0 [] [])) (by
 intro k h; try dsimp only [Yfp,Yg0,Z34] at h ⊢
 have g1:=Yxs L L.length (k+1)
 have g2:=@Yyv (L.getD k 0)
 have e:((k:Int) - 1).toNat=k - 1:=by omega
 have g3:Yke L (k+1)=(Yke L k&&decide (1<=L.getD k 0/\L.getD k 0<=99999)&&(decide (k=0)||decide (L.getD (k - 1) 0<L.getD k 0))):=rfl
 with_reducible repeat' (first | apply And.intro | exact zR | (intro))
 all_goals ((try simp only [std,inj] at *); with_reducible and_intros)
 all_goals try first | exact z | grind [Yka,Yfy,Yfz,Yfs])
theorem Z2u (L:List Int)  : Z7f L:=Yg4 Tryz.call158 Tryz.func158 (.z Yfr L (.l (Z34 L) (Zad L) [] [.s (li 0)] 0 (.t (.s (lb true)) (.t (.s (lb
 false)) .q)))) (by
 dsimp only [Yfp,Z7f,Yg0,Z34]
 with_reducible repeat' (first | apply And.intro | exact zR | (intro))
 all_goals ((try simp only [std,inj] at *); with_reducible and_intros)
 all_goals try first | exact z | grind [Yke,Yfy,Yfz,Yfs])
abbrev Z7g (L:List Int):Ct:=⟨119,[],[ll (L.map Yfr)],[],.sv (lb (Yka L))⟩
def Z35 (L:List Int):Lp Nat:=.mk 29 0 (fun x=>[(0,ll (L.map Yfr)),(5,ll (L.map Yfr)),(6,li (↑(L.map Yfr).length:Int)),(7,hs x 0)]) (fun
 x=>[]) (fun k=>[.s (li (k:Int))]) (fun k=>k<=L.length/\L.length<=9223372036854775807/\Yke L k=true) (fun k=>L.length - k) [.mk (Yka L=true) (.exit 0) (fun x
 => []) (fun x=>[]) [],.mk (Yka L=false) .ret (fun x=>[(2,hs x 0)]) (fun x=>[]) [.s (lb false)]]
theorem Zae (L:List Int):Lp.Sem Tryz.prog (Yg6 Tryz.f119 0) (Z35 L):=Ygf (fun k=>.i ((k:Int)<(↑(L.map Yfr).length:Int)) (.x (k:Int)
 (L.map Yfr) [cI (L.getD k 0)] (.c [.rd] (Zez (L.getD k 0)) (.i (Yqz (L.getD k 0)=0) (.y true (.o 1 [] [.s (lb false)])) (.i (0<(k:Int)) (.r ((k:Int) - 1) (.x
 ((k:Int) - 1) (L.map Yfr) [cI (L.getD ((k:Int) - 1).toNat 0)] (.i (L.getD k 0<=L.getD ((k:Int) - 1).toNat 0) (.o 1 [] [.s (lb false)]) (.r ((k:Int)+1) (.g []
 (k+1) [.s (li ((k:Int)+1))]))))) (.y false (.r ((k:Int)+1) (.g [] (k+1) [.s (li ((k:Int)+1))]))))))) (.o 0 [] [])) (by
 intro k h; try dsimp only [Yfp,Yg0,Z35] at h ⊢
 have g1:=Yxs L L.length (k+1)
 have g2:=@Yyv (L.getD k 0)
 have e:((k:Int) - 1).toNat=k - 1:=by omega
 have g3:Yke L (k+1)=(Yke L k&&decide (1<=L.getD k 0/\L.getD k 0<=99999)&&(decide (k=0)||decide (L.getD (k - 1) 0<L.getD k 0))):=rfl
 with_reducible repeat' (first | apply And.intro | exact zR | (intro))
 all_goals ((try simp only [std,inj] at *); with_reducible and_intros)
 all_goals try first | exact z | grind [Yka,Yfy,Yfz,Yfs])
theorem Z40 (L:List Int)  : Z7g L:=Yg4 Tryz.call119 Tryz.func119 (.z Yfr L (.l (Z35 L) (Zae L) [] [.s (li 0)] 0 (.t (.s (lb true)) (.t (.s (lb
 false)) .q)))) (by
 dsimp only [Yfp,Z7g,Yg0,Z35]
 with_reducible repeat' (first | apply And.intro | exact zR | (intro))
 all_goals ((try simp only [std,inj] at *); with_reducible and_intros)
 all_goals try first | exact z | grind [Yke,Yfy,Yfz,Yfs])
def Ylq (k n:Int) (t:ByteArray) (s:List Int) (i:Int):Bool:=Ym5 k n t i&&Yka s&&(decide ((s.length:Int)=0)||decide (k=1))
mutual
def Yft:YS->Nat
 | ⟨_,_,_,_,l⟩=>Yuk l+1
def Yuk:List YS->Nat
 | []=>0
 | c :: r=>Yft c+Yuk r
end
theorem Y11e:∀ l,Yuk l=sumBy Yft l
 | []=>by simp [Yuk,sumBy]
 | c :: r=>by rw [Yuk,sumBy,Y11e r]
theorem Ygo (c:YS):Yft c=sumBy Yft c.items+1:=by cases c; simp only [Yft,Y11e]
mutual
def Yge:YS->Nat
 | ⟨_,_,_,_,l⟩=>Yzh l+1
def Yzh:List YS->Nat
 | []=>0
 | c :: r=>max (Yge c) (Yzh r)
end
theorem Y13q:∀ l,Yzh l=Yh2 Yge l
 | []=>by simp [Yzh,Yh2]
 | c :: r=>by rw [Yzh,Yh2,Y13q r]
theorem Ymb (c:YS):Yge c=Yh2 Yge c.items+1:=by cases c; simp only [Yge,Y13q]
theorem Y1l9:∀ c:YS,Yge c<=Yft c:=by
 refine YS.ind fun c ih => ?_
 have:=Yup ih
 rw [Ygo,Ymb]; omega
mutual
def okY:YS->Bool
 | ⟨k,n,t,s,l⟩=>Y142 l&&Ylq k n t s l.length
def Y142:List YS->Bool
 | []=>true
 | c :: r=>okY c&&Y142 r
end
theorem Y18n:∀ l,Y142 l=l.all okY
 | []=>by simp [Y142]
 | c :: r=>by rw [Y142,Y18n r]; rfl
theorem Ym0 (c:YS):okY c=(c.items.all okY&&Ylq c.kind c.number c.text c.scopes c.items.length):=by cases c; simp only [okY,Y18n]
def Ygc (d:YS):Bool:=decide (Yft d<=2000)&&decide (Yge d<=40)&&okY d
mutual
def Yhb:YS->Int->Int->Bool × Int
 | ⟨k,n,t,s,l⟩,deep,m=>if deep<=40/\m+1<=2000/\Ylq k n t s l.length=true then Yzb l (deep+1) (m+1) else (false,m+1)
def Yzb:List YS->Int->Int->Bool × Int
 | [],_,m=>(true,m)
 | x :: r,deep,m=>if (Yhb x deep m).1 then Yzb r deep (Yhb x deep m).2 else (false,(Yhb x deep m).2)
end
theorem Y15i:∀ l deep m,Yzb l deep m=Yhi (fun x m=>Yhb x deep m) l m
 | [],_,_=>by simp [Yzb,Yhi]
 | x :: r,deep,m=>by simp only [Yzb,Yhi,Y15i r]
theorem Y19b (c:YS) (deep m:Int):Yhb c deep m=if deep<=40/\m+1<=2000/\Ylq c.kind c.number c.text c.scopes c.items.length=true then Yhi (fun x m=>Yhb x (deep+1) m) c.items (m+1) else (false,m+1):=by cases c; simp only [Yhb,Y15i]
theorem Yrl:∀ (c:YS) (deep m:Int),m<=2000->((Yhb c deep m).1=true ↔ (m+Yft c<=2000/\(deep+Yge c<=41/\okY c=true)))/\((Yhb c deep m).1=true->(Yhb c deep m).2=m+Yft c):=by
 refine YS.ind fun c ih deep m hm => ?_
 rw [Y19b,Ygo,Ymb,Ym0,Bool.and_eq_true,List.all_eq_true]
 by_cases h:deep<=40/\m+1<=2000/\Ylq c.kind c.number c.text c.scopes c.items.length=true
 ·rw [if_pos h]
  have h1:=Y18y (fun x m=>Yhb x (deep+1) m) Yft (fun x=>deep+1+Yge x<=41/\okY x=true) 2000 c.items (fun x hx m hm=>ih x hx (deep+1) m hm) (m+1) h.2.1
  have h2:=Y13b Yge (m:=(40 - deep).toNat) (L:=c.items)
  constructor
  ·rw [h1.1]
   constructor
   ·rintro ⟨a,b⟩
    have:=h2.2 fun x hx=>by have:=(b x hx).1; omega
    exact ⟨by omega,by omega,fun x hx=>(b x hx).2,h.2.2⟩
   ·rintro ⟨a,b,d,e⟩
    have:=h2.1 (by omega)
    exact ⟨by omega,fun x hx=>⟨by have:=this x hx; omega,d x hx⟩⟩
  ·intro ht; rw [h1.2 ht]; omega
 ·rw [if_neg h]
  refine ⟨⟨fun e=>Bool.noConfusion e,?_⟩,fun e=>Bool.noConfusion e⟩
  rintro ⟨a,b,d,e⟩
  exact absurd ⟨by omega,by omega,e⟩ h
theorem Ysy (d:YS):(Yhb d 1 0).1=Ygc d:=by
 have h:=(Yrl d 1 0 (by decide)).1
 rw [Bool.eq_iff_iff,h]
 simp only [Ygc,Bool.and_eq_true,decide_eq_true_eq,and_assoc]
 constructor
 ·rintro ⟨a,b,e⟩; exact ⟨by omega,by omega,e⟩
 ·rintro ⟨a,b,e⟩; exact ⟨by omega,by omega,e⟩
abbrev Z10 (d:YS) (l:Int):Ct:=⟨94,[.box [vI l]],[Ygb d,.one (.ptr 0 0)],[.box [vI (max (l - Yft d) (-1))]],.sv (lb (decide (Yft d<=l)))⟩
def Z36 (d:YS) (l:Int):Lp Nat:=.mk 36 1 (fun x=>[(1,.one (.ptr 0 0)),(2,.one (.ptr 1 0)),(5,hs x 0)]) (fun x=>[.box [ha x 1],.box (vals
 (Yfu d))]) (fun k=>[.s (li (k:Int)),.a (vI (max (l - 1 - (↑(sumBy Yft (d.items.take k)):Int)) (-1:Int)))]) (fun k=>d.items.length >= k) (fun k=>
 d.items.length - k) [.mk True (.exit 0) (fun x=>[(1,.one (.ptr 0 0))]) (fun x=>[.box [ha x 0]]) [.a (vI (max (l - (↑(Yft d):Int)) (-1:Int)))]]
theorem Zaf (d:YS) (l:Int) (h:0<=l/\l<=1000000) (ih:∀ (z:YS),z∈d.items->∀ (l:Int),0<=l/\l<=1000000->OK (Z10 z l)):Lp.Sem Tryz.prog
 (Yg6 Tryz.f94 0) (Z36 d l):=Ygf (fun k=>.z Yfn d.items (.i ((k:Int)<(↑(d.items.map Yfn).length:Int)) (.i (0<=max (l - 1 - (↑(sumBy Yft
 (d.items.take k)):Int)) (-1:Int)) (.x (k:Int) (d.items.map Yfn) (Yfu (d.items.getD k default)) (.d [.rd,.ptr] (Z10 (d.items.getD k default) (max (l
 - 1 - (↑(sumBy Yft (d.items.take k)):Int)) (-1:Int))) (.r ((k:Int)+1) (.g [0,1] (k+1) [.s (li ((k:Int)+1)),.a (vI (max (max (l - 1 - (↑(sumBy Yft
 (d.items.take k)):Int)) (-1:Int) - (↑(Yft (d.items.getD k default)):Int)) (-1:Int)))])))) (.o 0 [0] [.a (vI (max (l - 1 - (↑(sumBy Yft (d.items.take k)) :
 Int)) (-1:Int)))])) (.y false (.o 0 [0] [.a (vI (max (l - 1 - (↑(sumBy Yft (d.items.take k)):Int)) (-1:Int)))])))) (by
 intro k h; try dsimp only [Yfp,Yg0,Z36] at h ⊢
 have g1:=Ygo d
 have g2:=Yhj Yft d.items k
 have g3:=@Yih _ _ Yft d.items k
 with_reducible repeat' (first | apply And.intro | exact zR | exact ih | (intro) | apply ih)
 all_goals ((try simp only [std,inj] at *); with_reducible and_intros)
 all_goals try with_reducible first | apply ih
 all_goals try first | exact z | grind [Yfx,Yfy,Yfz,Yfs])
theorem Zcz (d:YS) (l:Int) (h:0<=l/\l<=1000000) (ih:∀ z∈d.items,∀ (l:Int) (h:0<=l/\l<=1000000),Z10 z l)  : Z10 d l:=Yg4 Tryz.call94
 Tryz.func94 (.r (l - 1) (.l (Z36 d l) (Zaf d l h ih) [0,1] [.s (li 0),.a (vI (l - 1))] 0 (.t (.f [] [.box [vI (max (l - (↑(Yft d):Int)) (-1:Int))]]
 (.sv (lb (decide (0<=max (l - (↑(Yft d):Int)) (-1:Int)))))) .q))) (by
 dsimp only [Yfp,Z10,Yg0,Z36]
 have g1:=Ygo d
 have g2:sumBy Yft (d.items.take 0)=0:=rfl
 with_reducible repeat' (first | apply And.intro | exact zR | exact ih | (intro))
 all_goals ((try simp only [std,inj] at *); with_reducible and_intros)
 all_goals try with_reducible first | apply ih
 all_goals (try exact zG))
theorem Z1l (d:YS):∀ (l:Int) (h:0<=l/\l<=1000000),Z10 d l:=YS.ind (P:=fun d=>∀ (l:Int) (h:0<=l/\l<=1000000),Z10 d l) (fun d ih l h=>Zcz d l h ih) d
abbrev Z1c (d:YS):Ct:=⟨95,[],[Ygb d],[],.sv (li (Yge d))⟩
def Z37 (d:YS):Lp Nat:=.mk 20 0 (fun x=>[(3,hs x 1),(7,ll (d.items.map Yfn)),(8,li (↑(d.items.map Yfn).length:Int)),(9,hs x 0)])
 (fun x=>[]) (fun k=>[.s (li (k:Int)),.s (li (↑(Yh2 Yge (d.items.take k)):Int))]) (fun k=>k<=d.items.length/\d.items.length<=9223372036854775807) (fun k=>
 d.items.length - k) [.mk True (.exit 0) (fun x=>[(3,hs x 0)]) (fun x=>[]) [.s (li (↑(Yh2 Yge d.items):Int))]]
theorem Zag (d:YS) (h:Yft d<=2147483647) (ih:∀ (z:YS),z∈d.items->Yft z<=2147483647->OK (Z1c z)):Lp.Sem Tryz.prog (Yg6 Tryz.f95 0)
 (Z37 d):=Ygf (fun k=>.i ((k:Int)<(↑(d.items.map Yfn).length:Int)) (.x (k:Int) (d.items.map Yfn) (Yfu (d.items.getD k default)) (.d
 [.rd] (Z1c (d.items.getD k default)) (.r ((k:Int)+1) (.g [] (k+1) [.s (li ((k:Int)+1)),.s (li (max (↑(Yh2 Yge (d.items.take k)):Int) (↑(Yge
 (d.items.getD k default)):Int)))])))) (.o 0 [] [.s (li (↑(Yh2 Yge (d.items.take k)):Int))])) (by
 intro k h; try dsimp only [Yfp,Yg0,Z37] at h ⊢
 have g1:=Ygo d
 have g2:=@Ygt _ Yft d.items (d.items.getD k default)
 with_reducible repeat' (first | apply And.intro | exact zR | exact ih | (intro) | apply ih)
 all_goals ((try simp only [std,inj] at *); with_reducible and_intros)
 all_goals try with_reducible first | apply ih
 all_goals try first | exact z | grind [Yz1,Yfx,Yfy,Yfz,Yfs])
theorem Zd0 (d:YS) (h:Yft d<=2147483647) (ih:∀ z∈d.items,∀ (h:Yft z<=2147483647),Z1c z)  : Z1c d:=Yg4 Tryz.call95 Tryz.func95 (.z Yfn
 d.items (.l (Z37 d) (Zag d h ih) [] [.s (li 0),.s (li 0)] 0 (.t (.r ((↑(Yh2 Yge d.items):Int)+1) (.s (li ((↑(Yh2 Yge d.items):Int)+1)))) .q))) (by
 dsimp only [Yfp,Z1c,Yg0,Z37]
 have h1:=Y1l9 d
 have g2:Yh2 Yge (d.items.take 0)=0:=rfl
 with_reducible repeat' (first | apply And.intro | exact zR | exact ih | (intro))
 all_goals ((try simp only [std,inj] at *); with_reducible and_intros)
 all_goals try with_reducible first | apply ih
 all_goals try first | exact z | grind [Ymb,Yfy,Yfz,Yfs])
theorem Zby (d:YS):∀ (h:Yft d<=2147483647),Z1c d:=YS.ind (P:=fun d=>∀ (h:Yft d<=2147483647),Z1c d) (fun d ih h=>Zd0 d h ih) d
abbrev Z2q (d:YS):Ct:=⟨96,[],[Ygb d],[],.sv (lb (okY d))⟩
def Z3o (d:YS):Lp Nat:=.mk 42 0 (fun x=>[(1,.one (.ptr 0 0)),(6,ll (d.items.map Yfn)),(7,li (↑(d.items.map Yfn).length:Int)),(8,
 hs x 0)]) (fun x=>[.box (vals (Yfu d))]) (fun k=>[.s (li (k:Int))]) (fun k=>k<=d.items.length/\d.items.length<=9223372036854775807/\(d.items.take k).all
 okY=true) (fun k=>d.items.length - k) [.mk (d.items.all okY=true) (.exit 0) (fun x=>[(1,.one (.ptr 0 0))]) (fun x=>[.box (vals (Yfu d))]) [],.mk (d.items.all
 okY=false) .ret (fun x=>[(2,hs x 0)]) (fun x=>[]) [.s (lb false)]]
theorem Zbk (d:YS) (ih:∀ (z:YS),z∈d.items->OK (Z2q z)):Lp.Sem Tryz.prog (Yg6 Tryz.f96 0) (Z3o d):=Ygf (fun k=>.i ((k:Int) <
 (↑(d.items.map Yfn).length:Int)) (.x (k:Int) (d.items.map Yfn) (Yfu (d.items.getD k default)) (.d [.rd] (Z2q (d.items.getD k default)) (.b (!okY
 (d.items.getD k default)) (.o 1 [] [.s (lb false)]) (.r ((k:Int)+1) (.g [0] (k+1) [.s (li ((k:Int)+1))]))))) (.o 0 [0] [])) (by
 intro k h; try dsimp only [Yfp,Yg0,Z3o] at h ⊢
 with_reducible repeat' (first | apply And.intro | exact zR | exact ih | (intro) | apply ih)
 all_goals ((try simp only [std,inj] at *); with_reducible and_intros)
 all_goals try with_reducible first | apply ih
 all_goals try first | exact z | grind [Ygg,Yfx,Yfy,Yfz,Yfs])
theorem Zea (d:YS) (ih:∀ z∈d.items,Z2q z)  : Z2q d:=Yg4 Tryz.call96 Tryz.func96 (.z Yfn d.items (.l (Z3o d) (Zbk d ih) [0] [.s (li
 0)] 0 (.t (.z Yfn d.items (.c [.rd,.rd,.rd,.rd] (Zbu d.kind d.number d.text (↑(d.items.map Yfn).length:Int)) (.b (Ym5 d.kind d.number d.text (↑(List.map
 Yfn d.items).length:Int)) (.c [.rd] (Z2u d.scopes) (.b (Yka d.scopes) (.z Yfr d.scopes (.i ((↑(d.scopes.map Yfr).length:Int)=0) (.s (lb true)) (.s (lb
 (decide (d.kind=1)))))) (.s (lb false)))) (.y false (.s (lb false)))))) (.t (.s (lb false)) .q)))) (by
 dsimp only [Yfp,Z2q,Yg0,Z3o]
 with_reducible repeat' (first | apply And.intro | exact zR | exact ih | (intro))
 all_goals ((try simp only [std,inj] at *); with_reducible and_intros)
 all_goals try with_reducible first | apply ih
 all_goals try first | exact z | grind [Ym0,Ylq,Yfy,Yfz,Yfs])
theorem Zf9 (d:YS):Z2q d:=YS.ind (P:=fun d=>Z2q d) (fun d ih=>Zea d ih) d
abbrev Z6j (d:YS):Ct:=⟨37,[],[Ygb d],[],.sv (lb (Ygc d))⟩
theorem Z14 (d:YS)  : Z6j d:=Yg4 Tryz.call37 Tryz.func37 (.d [.rd,.ptr] (Z10 d 2000) (.i ((↑(Yft d):Int)<=2000) (.d [.rd] (Z1c d) (.i
 ((↑(Yge d):Int)<=40) (.c [.rd] (Zf9 d) (.s (lb (okY d)))) (.s (lb false)))) (.y false (.s (lb false))))) (by
 dsimp only [Yfp,Z6j]
 with_reducible repeat' (first | apply And.intro | exact zR | (intro) | apply Z1l | apply Zby)
 all_goals ((try simp only [std,inj] at *); with_reducible and_intros)
 all_goals try with_reducible first | apply Z1l | apply Zby
 all_goals try first | exact z | grind [Ygc,Yfy,Yfz,Yfs])
abbrev Z11 (d:YS) (deep:Int) (q:Int):Ct:=⟨54,[.box [vI q]],[Ygb d,li deep,.one (.ptr 0 0)],[.box [vI (Yhb d deep q).2]],.sv (lb (Yhb d deep q).1)⟩
def Z1t (d:YS) (deep:Int) (q:Int):Lp Nat:=.mk 64 1 (fun x=>[(1,li deep),(2,.one (.ptr 0 0)),(51,ll (d.items.map Yfn)),(52,li
 (↑(d.items.map Yfn).length:Int)),(53,hs x 0)]) (fun x=>[.box [ha x 1]]) (fun k=>[.s (li (k:Int)),.a (vI (Yhi (fun x m=>Yhb x (deep+1) m) (List.take k
 d.items) (q+1)).snd)]) (fun k=>k<=d.items.length/\d.items.length<=9223372036854775807/\deep<=40/\(Yhi (fun x m=>Yhb x (deep+1) m) (d.items.take k) (q +
 1)).fst=true/\q<=(Yhi (fun x m=>Yhb x (deep+1) m) (d.items.take k) (q+1)).snd/\(Yhi (fun x m=>Yhb x (deep+1) m) (d.items.take k) (q+1)).snd<=2000)
 (fun k=>d.items.length - k) [.mk ((Yhi (fun x m=>Yhb x (deep+1) m) d.items (q+1)).fst=true) (.exit 0) (fun x=>[]) (fun x=>[.box [ha x 0]]) [.a (vI (Yhi (fun x m
 => Yhb x (deep+1) m) d.items (q+1)).snd)],.mk ((Yhi (fun x m=>Yhb x (deep+1) m) d.items (q+1)).fst=false) .ret (fun x=>[(6,hs x 0)]) (fun x=>[.box [ha x
 1]]) [.s (lb false),.a (vI (Yhi (fun x m=>Yhb x (deep+1) m) d.items (q+1)).snd)]]
theorem Z6o (d:YS) (deep:Int) (q:Int) (h:0<=deep/\deep<=41/\0<=q/\q<=2000) (ih:∀ (z:YS),z∈d.items->∀ (deep q:Int),0<=deep/\deep<=41 /\
 0<=q/\q<=2000->OK (Z11 z deep q)):Lp.Sem Tryz.prog (Yg6 Tryz.f54 0) (Z1t d deep q):=Ygf (fun k=>.i ((k:Int)<(↑(d.items.map Yfn).length :
 Int)) (.x (k:Int) (d.items.map Yfn) (Yfu (d.items.getD k default)) (.r (deep+1) (.d [.rd,.rd,.ptr] (Z11 (d.items.getD k default) (deep+1) (Yhi (fun x
 m=>Yhb x (deep+1) m) (d.items.take k) (q+1)).snd) (.b (!(Yhb (d.items.getD k default) (deep+1) (Yhi (fun x m=>Yhb x (deep+1) m) (d.items.take k) (q +
 1)).snd).fst) (.o 1 [0] [.s (lb false),.a (vI (Yhb (d.items.getD k default) (deep+1) (Yhi (fun x m=>Yhb x (deep+1) m) (d.items.take k) (q+1)).snd).snd)]) (.r ((↑k
 : Int)+1) (.g [0] (k+1) [.s (li ((k:Int)+1)),.a (vI (Yhb (d.items.getD k default) (deep+1) (Yhi (fun x m=>Yhb x (deep+1) m) (d.items.take k) (q +
 1)).snd).snd)])))))) (.o 0 [0] [.a (vI (Yhi (fun x m=>Yhb x (deep+1) m) (d.items.take k) (q+1)).snd)])) (by
 intro k h; try dsimp only [Yfp,Yg0,Z1t] at h ⊢
 have g1:=fun x m=>Yrl x (deep+1) m
 with_reducible repeat' (first | apply And.intro | exact zR | exact ih | (intro) | apply ih)
 all_goals ((try simp only [std,inj] at *); with_reducible and_intros)
 all_goals try with_reducible first | apply ih
 all_goals try first | exact z | grind [Y128,Y1ep,Yfx,Yfy,Yfz,Yfs])
theorem Zd1 (d:YS) (deep q:Int) (h:0<=deep/\deep<=41/\0<=q/\q<=2000) (ih:∀ z∈d.items,∀ (deep:Int) (q:Int) (h:0<=deep/\deep<=41/\0<=q/\q <=
 2000),Z11 z deep q)  : Z11 d deep q:=Yg4 Tryz.call54 Tryz.func54 (.r (q+1) (.i (40<deep) (.y true (.y true (.f [] [.box [vI (q+1)]] (.sv (lb false))))) (.i
 (2000<q+1) (.y true (.f [] [.box [vI (q+1)]] (.sv (lb false)))) (.z Yfn d.items (.c [.rd,.rd,.rd,.rd] (Zex d.kind d.number d.text (↑(List.map Yfn
 d.items).length:Int)) (.b (!Ym5 d.kind d.number d.text (↑(d.items.map Yfn).length:Int)) (.f [] [.box [vI (q+1)]] (.sv (lb false))) (.i (d.kind≠1) (.z Yfr
 d.scopes (.i (0<(↑(d.scopes.map Yfr).length:Int)) (.y true (.f [] [.box [vI (q+1)]] (.sv (lb false)))) (.c [.rd] (Z40 d.scopes) (.b (!Yka d.scopes) (.f []
 [.box [vI (q+1)]] (.sv (lb false))) (.z Yfn d.items (.l (Z1t d deep q) (Z6o d deep q h ih) [0] [.s (li 0),.a (vI (q+1))] 0 (.t (.f [] [.box [vI
 (Yhi (fun x m=>Yhb x (deep+1) m) d.items (q+1)).snd]] (.sv (lb true))) (.t (.f [] [.box [vI (Yhi (fun x m=>Yhb x (deep+1) m) d.items (q+1)).snd]] (.sv (lb
 false))) .q)))))))) (.y false (.c [.rd] (Z40 d.scopes) (.b (!Yka d.scopes) (.f [] [.box [vI (q+1)]] (.sv (lb false))) (.z Yfn d.items (.l (Z1t d deep q)
 (Z6o d deep q h ih) [0] [.s (li 0),.a (vI (q+1))] 0 (.t (.f [] [.box [vI (Yhi (fun x m=>Yhb x (deep+1) m) d.items (q+1)).snd]] (.sv (lb true))) (.t (.f []
 [.box [vI (Yhi (fun x m=>Yhb x (deep+1) m) d.items (q+1)).snd]] (.sv (lb false))) .q)))))))))))))) (by
 dsimp only [Yfp,Z11,Yg0,Z1t]
 with_reducible repeat' (first | apply And.intro | exact zR | exact ih | (intro))
 all_goals ((try simp only [std,inj] at *); with_reducible and_intros)
 all_goals try with_reducible first | apply ih
 all_goals try first | exact z | grind [Y19b,Yhi,Ylq,Yfy,Yfz,Yfs])
theorem Zj (d:YS):∀ (deep:Int) (q:Int) (h:0<=deep/\deep<=41/\0<=q/\q<=2000),Z11 d deep q:=YS.ind (P:=fun d=>∀ (deep:Int) (q:Int) (h:0<=deep/\deep<=41/\0<=q/\q<=2000),Z11 d deep q) (fun d ih deep q h=>Zd1 d deep q h ih) d
abbrev Z6k (d:YS):Ct:=⟨19,[],[Ygb d],[],.sv (lb (Ygc d))⟩
theorem Zi (d:YS)  : Z6k d:=Yg4 Tryz.call19 Tryz.func19 (.d [.rd,.rd,.ptr] (Z11 d 1 0) (.s (lb (Yhb d 1 0).fst))) (by
 dsimp only [Yfp,Z6k]
 with_reducible repeat' (first | apply And.intro | exact zR | (intro) | apply Zj)
 all_goals ((try simp only [std,inj] at *); with_reducible and_intros)
 all_goals try with_reducible first | apply Zj
 all_goals try first | exact z | grind [Ysy,Yfy,Yfz,Yfs])
abbrev Z95 (s:YS):Ct:=⟨41,[],[Ygb s],[],.sv (lb (decide (s.kind=1)&&Ygc s))⟩
theorem Z5w (s:YS)  : Z95 s:=Yg4 Tryz.call41 Tryz.func41 (.i (s.kind=1) (.c [.rd] (Z14 s) (.s (lb (Ygc s)))) (.s (lb false))) (by
 dsimp only [Yfp,Z95]
 exact zV)
abbrev Z96 (s:YS):Ct:=⟨166,[],[Ygb s],[],.sv (lb (decide (s.kind=1)&&Ygc s))⟩
theorem Zf (s:YS)  : Z96 s:=Yg4 Tryz.call166 Tryz.func166 (.i (s.kind=1) (.c [.rd] (Zi s) (.s (lb (Ygc s)))) (.s (lb false))) (by
 dsimp only [Yfp,Z96]
 exact zV)
set_option maxHeartbeats 4000000
abbrev Z6l (A:List Int) (B:List Int):Ct:=⟨117,[],[ll (A.map Yfr),ll (B.map Yfr)],[],.sv (lb (decide (A=B)))⟩
def Z24 (A:List Int) (B:List Int):Lp Nat:=.mk 26 0 (fun x=>[(0,ll (A.map Yfr)),(1,ll (B.map Yfr)),(12,li (↑(A.map Yfr).length:Int)),
 (13,hs x 0)]) (fun x=>[]) (fun k=>[.s (li (k:Int))]) (fun k=>k<=A.length/\A.length<=9223372036854775807/\A.length=B.length/\A.take k=B.take k) (fun k
 => A.length - k) [.mk (A=B) (.exit 0) (fun x=>[]) (fun x=>[]) [],.mk (A≠B) .ret (fun x=>[(4,hs x 0)]) (fun x=>[]) [.s (lb false)]]
theorem Z8o (A:List Int) (B:List Int):Lp.Sem Tryz.prog (Yg6 Tryz.f117 0) (Z24 A B):=Ygf (fun k=>.i ((k:Int)<(↑(A.map Yfr).length :
 Int)) (.w (.draw []) (.x (k:Int) (A.map Yfr) [cI (A.getD k 0)] (.x (k:Int) (B.map Yfr) [cI (B.getD k 0)] (.i (A.getD k (0:Int)≠B.getD k 0) (.o 1 [] [.s (lb
 false)]) (.r ((k:Int)+1) (.g [] (k+1) [.s (li ((k:Int)+1))])))))) (.o 0 [] [])) (by
 intro k h; try dsimp only [Yfp,Yg0,Z24] at h ⊢
 with_reducible repeat' (first | apply And.intro | exact zR | (intro))
 all_goals ((try simp only [std,inj] at *); with_reducible and_intros)
 all_goals try first | exact z | grind [Y18i,Yfy,Yfz,Yfs])
theorem Z7h (A B:List Int)  : Z6l A B:=Yg4 Tryz.call117 Tryz.func117 (.z Yfr A (.z Yfr B (.i ((↑(A.map Yfr).length:Int)≠(↑(B.map Yfr).length
 : Int)) (.s (lb false)) (.z Yfr A (.l (Z24 A B) (Z8o A B) [] [.s (li 0)] 0 (.t (.s (lb true)) (.t (.s (lb false)) .q))))))) (by
 dsimp only [Yfp,Z6l,Yg0,Z24]
 exact zV)
abbrev Z6m (A:List Int) (B:List Int):Ct:=⟨46,[],[ll (A.map Yfr),ll (B.map Yfr)],[],.sv (lb (decide (A=B)))⟩
def Z25 (A:List Int) (B:List Int):Lp Nat:=.mk 26 0 (fun x=>[(0,ll (A.map Yfr)),(1,ll (B.map Yfr)),(12,li (↑(A.map Yfr).length:Int)),
 (13,hs x 0)]) (fun x=>[]) (fun k=>[.s (li (k:Int))]) (fun k=>k<=A.length/\A.length<=9223372036854775807/\A.length=B.length/\A.take k=B.take k) (fun k
 => A.length - k) [.mk (A=B) (.exit 0) (fun x=>[]) (fun x=>[]) [],.mk (A≠B) .ret (fun x=>[(4,hs x 0)]) (fun x=>[]) [.s (lb false)]]
theorem Z8p (A:List Int) (B:List Int):Lp.Sem Tryz.prog (Yg6 Tryz.f46 0) (Z25 A B):=Ygf (fun k=>.i ((k:Int)<(↑(A.map Yfr).length :
 Int)) (.w (.draw []) (.x (k:Int) (A.map Yfr) [cI (A.getD k 0)] (.x (k:Int) (B.map Yfr) [cI (B.getD k 0)] (.i (A.getD k (0:Int)≠B.getD k 0) (.o 1 [] [.s (lb
 false)]) (.r ((k:Int)+1) (.g [] (k+1) [.s (li ((k:Int)+1))])))))) (.o 0 [] [])) (by
 intro k h; try dsimp only [Yfp,Yg0,Z25] at h ⊢
 with_reducible repeat' (first | apply And.intro | exact zR | (intro))
 all_goals ((try simp only [std,inj] at *); with_reducible and_intros)
 all_goals try first | exact z | grind [Y18i,Yfy,Yfz,Yfs])
theorem Z7i (A B:List Int)  : Z6m A B:=Yg4 Tryz.call46 Tryz.func46 (.z Yfr A (.z Yfr B (.i ((↑(A.map Yfr).length:Int)≠(↑(B.map Yfr).length :
 Int)) (.s (lb false)) (.z Yfr A (.l (Z25 A B) (Z8p A B) [] [.s (li 0)] 0 (.t (.s (lb true)) (.t (.s (lb false)) .q))))))) (by
 dsimp only [Yfp,Z6m,Yg0,Z25]
 exact zV)
set_option maxHeartbeats 4000000
def Y1ab:List UInt8:=[46,46,46]
def Yfw (s:YS):Bool:=decide (s.kind=1)&&decide (s.text.data.toList=Y1ab)
def Yio (s:YS):Bool:=decide (s.kind=1)&&Ygc s
def Yjn (s:YS) (x:YC):Bool:=decide (x.name.text=s.text)&&decide (x.name.scopes=s.scopes)&&Yio x.name
def Yks (L:List YC) (s:YS):Nat:=L.findIdx (Yjn s)
def fnd (L:List YC) (s:YS):Int:=if Yfw s=false/\Yks L s<L.length then Yks L s else -1
theorem Y197 {L:List YC} {s:YS} {k:Nat} (hk:k<L.length) (hb:k<=Yks L s) (h:Yjn s (L.getD k default)=true):Yks L s=k:=by
 have h1:L.getD k default=L[k]:=by simp [hk]
 rw [h1] at h
 rcases Nat.lt_or_ge k (Yks L s) with h2 | h2
 ·have:=List.not_of_lt_findIdx h2
  simp [h] at this
 ·omega
theorem Y121 {L:List YC} {s:YS} {k:Nat} (hk:k<L.length) (hb:k<=Yks L s) (h:Yjn s (L.getD k default)=false):k+1<=Yks L s:=by
 have h1:L.getD k default=L[k]:=by simp [hk]
 rw [h1] at h
 rcases Nat.lt_or_ge k (Yks L s) with h2 | h2
 ·exact h2
 ·have e:Yks L s=k:=by omega
  have:=List.findIdx_getElem (p:=Yjn s) (xs:=L) (w:=by show Yks L s<_; omega)
  have h3:Yjn s (L[Yks L s]'(by omega))=true:=this
  simp only [e,h] at h3
  exact absurd h3 (by decide)
theorem Y1a2 (L:List YC) (s:YS):Yks L s<=L.length:=List.findIdx_le_length
theorem Yl7 (L:List YC) (s:YS) : -1<=fnd L s/\fnd L s<L.length:=by
 unfold fnd; split <;> omega
abbrev Z97 (s:YS):Ct:=⟨101,[],[Ygb s],[],.sv (lb (Yfw s))⟩
theorem Zb (s:YS)  : Z97 s:=Yg4 Tryz.call101 Tryz.func101 (.i (s.kind=1) (.s (lb (decide (s.text.data.toList=[(46:UInt8),(46:UInt8),(46:UInt8)]))))
 (.s (lb false))) (by
 dsimp only [Yfp,Z97]
 with_reducible repeat' (first | apply And.intro | exact zR | (intro))
 all_goals ((try simp only [std,inj] at *); with_reducible and_intros)
 all_goals try first | exact z | grind [Yfw,Y1ab,Yfy,Yfz,Yfs])
abbrev Z98 (s:YS):Ct:=⟨105,[],[Ygb s],[],.sv (lb (Yfw s))⟩
theorem Z1 (s:YS)  : Z98 s:=Yg4 Tryz.call105 Tryz.func105 (.i (s.kind=1) (.s (lb (decide (s.text.data.toList=[(46:UInt8),(46:UInt8),(46:UInt8)]))))
 (.s (lb false))) (by
 dsimp only [Yfp,Z98]
 with_reducible repeat' (first | apply And.intro | exact zR | (intro))
 all_goals ((try simp only [std,inj] at *); with_reducible and_intros)
 all_goals try first | exact z | grind [Yfw,Y1ab,Yfy,Yfz,Yfs])
abbrev Z99 (a:YS) (b:YS):Ct:=⟨53,[],[Ygb a,Ygb b],[],.sv (lb (decide (a.text=b.text)&&decide (a.scopes=b.scopes)))⟩
theorem Z8q (a b:YS)  : Z99 a b:=Yg4 Tryz.call53 Tryz.func53 (.i (a.text.data.toList=b.text.data.toList) (.c [.rd,.rd] (Z7h a.scopes b.scopes) (.s (lb
 (decide (a.scopes=b.scopes))))) (.s (lb false))) (by
 dsimp only [Yfp,Z99]
 with_reducible repeat' (first | apply And.intro | exact zR | (intro))
 all_goals ((try simp only [std,inj] at *); with_reducible and_intros)
 all_goals try first | exact z | grind [Ykr,Yfy,Yfz,Yfs])
abbrev Z9a (a:YS) (b:YS):Ct:=⟨116,[],[Ygb a,Ygb b],[],.sv (lb (decide (a.kind=1)&&decide (b.kind=1)&&decide (a.text=b.text)&&decide (a.scopes=b.scopes)))⟩
theorem Z73 (a b:YS)  : Z9a a b:=Yg4 Tryz.call116 Tryz.func116 (.i (a.kind=1) (.i (b.kind=1) (.i (a.text.data.toList=b.text.data.toList) (.c [.rd,.rd]
 (Z7i a.scopes b.scopes) (.s (lb (decide (a.scopes=b.scopes))))) (.s (lb false))) (.y false (.s (lb false)))) (.y false (.y false (.s (lb false))))) (by
 dsimp only [Yfp,Z9a]
 with_reducible repeat' (first | apply And.intro | exact zR | (intro))
 all_goals ((try simp only [std,inj] at *); with_reducible and_intros)
 all_goals try first | exact z | grind [Ykr,Yfy,Yfz,Yfs])
abbrev Z9b (L:List YC) (s:YS):Ct:=⟨102,[],[ll (L.map Yfo),Ygb s],[],.sv (li (fnd L s))⟩
def Z45 (L:List YC) (s:YS):Lp Nat:=.mk 30 0 (fun x=>[(3,.one (.ptr 0 0)),(7,ll (L.map Yfo)),(8,li (↑(L.map Yfo).length :
 Int)),(9,hs x 0)]) (fun x=>[.box (vals (Yfu s))]) (fun k=>[.s (li (k:Int))]) (fun k=>k<=L.length/\L.length<=9223372036854775807/\(Yfw s=true ∨ k<=Yks L
 s)) (fun k=>L.length - k) [.mk (fnd L s=(-1:Int)) (.exit 0) (fun x=>[]) (fun x=>[]) [],.mk True .ret (fun x=>[(4,hs x 0)]) (fun x=>[]) [.s (li (fnd L s))]]
theorem Zc5 (L:List YC) (s:YS):Lp.Sem Tryz.prog (Yg6 Tryz.f102 0) (Z45 L s):=Ygf (fun k=>.i ((k:Int)<(↑(L.map Yfo).length :
 Int)) (.x (k:Int) (L.map Yfo) (Yg7 (L.getD k default)) (.c [.rd,.rd] (Z8q (L.getD k default).name s) (.b (decide ((L.getD k default).name.text=s.text) &&
 decide ((L.getD k default).name.scopes=s.scopes)) (.c [.rd] (Zb s) (.b (!Yfw s) (.c [.rd] (Z5w (L.getD k default).name) (.b (decide ((L.getD k default).name.kind =
 1)&&Ygc (L.getD k default).name) (.o 1 [] [.s (li (k:Int))]) (.r ((k:Int)+1) (.g [0] (k+1) [.s (li ((k:Int)+1))])))) (.y false (.r ((k:Int)+1) (.g [0] (k +
 1) [.s (li ((k:Int)+1))]))))) (.y false (.y false (.r ((k:Int)+1) (.g [0] (k+1) [.s (li ((k:Int)+1))]))))))) (.o 0 [] [])) (by
 intro k h; try dsimp only [Yfp,Yg0,Z45] at h ⊢
 have g1:=@Y197 L s k
 have g2:=@Y121 L s k
 have g3:=Y1a2 L s
 with_reducible repeat' (first | apply And.intro | exact zR | (intro))
 all_goals ((try simp only [std,inj] at *); with_reducible and_intros)
 all_goals try first | exact z | grind [fnd,Yjn,Yio,Yfy,Yfz,Yfs])
theorem Z4o (L:List YC) (s:YS)  : Z9b L s:=Yg4 Tryz.call102 Tryz.func102 (.z Yfo L (.l (Z45 L s) (Zc5 L s) [0] [.s (li 0)] 0 (.t (.s (li
 (-1:Int))) (.t (.s (li (fnd L s))) .q)))) (by
 dsimp only [Yfp,Z9b,Yg0,Z45]
 exact zV)
abbrev Z9c (L:List YC) (s:YS):Ct:=⟨106,[],[ll (L.map Yfo),Ygb s],[],.sv (li (if s.kind=1 then fnd L s else -1))⟩
def Z46 (L:List YC) (s:YS):Lp Nat:=.mk 32 0 (fun x=>[(3,.one (.ptr 0 0)),(14,ll (L.map Yfo)),(15,li (↑(L.map Yfo).length :
 Int)),(16,hs x 0)]) (fun x=>[.box (vals (Yfu s))]) (fun k=>[.s (li (k:Int))]) (fun k=>k<=L.length/\L.length<=9223372036854775807/\k<=Yks L s/\s.kind=1 /\
 Yfw s=false) (fun k=>L.length - k) [.mk (fnd L s=(-1:Int)) (.exit 0) (fun x=>[]) (fun x=>[]) [],.mk True .ret (fun x=>[(4,hs x 0)]) (fun x=>[]) [.s (li (fnd L
 s))]]
theorem Zc6 (L:List YC) (s:YS):Lp.Sem Tryz.prog (Yg6 Tryz.f106 0) (Z46 L s):=Ygf (fun k=>.i ((k:Int)<(↑(L.map Yfo).length :
 Int)) (.x (k:Int) (L.map Yfo) (Yg7 (L.getD k default)) (.c [.rd] (Zf (L.getD k default).name) (.b (decide ((L.getD k default).name.kind=1)&&Ygc
 (L.getD k default).name) (.c [.rd,.rd] (Z73 (L.getD k default).name s) (.b (decide ((L.getD k default).name.kind=1)&&decide (s.kind=1)&&decide ((L.getD k
 default).name.text=s.text)&&decide ((L.getD k default).name.scopes=s.scopes)) (.o 1 [] [.s (li (k:Int))]) (.r ((k:Int)+1) (.g [0] (k+1) [.s (li ((k:Int) +
 1))])))) (.y false (.r ((k:Int)+1) (.g [0] (k+1) [.s (li ((k:Int)+1))])))))) (.o 0 [] [])) (by
 intro k h; try dsimp only [Yfp,Yg0,Z46] at h ⊢
 have g1:=@Y197 L s k
 have g2:=@Y121 L s k
 have g3:=Y1a2 L s
 with_reducible repeat' (first | apply And.intro | exact zR | (intro) | apply Zf)
 all_goals ((try simp only [std,inj] at *); with_reducible and_intros)
 all_goals try with_reducible first | apply Zf
 all_goals try first | exact z | grind [fnd,Yjn,Yio,Yfy,Yfz,Yfs])
theorem Z74 (L:List YC) (s:YS)  : Z9c L s:=Yg4 Tryz.call106 Tryz.func106 (.i (s.kind≠1) (.y true (.s (li (-1:Int)))) (.c [.rd] (Z1 s) (.b (Yfw
 s) (.s (li (-1:Int))) (.z Yfo L (.l (Z46 L s) (Zc6 L s) [0] [.s (li 0)] 0 (.t (.s (li (-1:Int))) (.t (.s (li (fnd L s))) .q))))))) (by
 dsimp only [Yfp,Z9c,Yg0,Z46]
 with_reducible repeat' (first | apply And.intro | exact zR | (intro) | apply Zf)
 all_goals ((try simp only [std,inj] at *); with_reducible and_intros)
 all_goals try with_reducible first | apply Zf
 all_goals try first | exact z | grind [fnd,Yfy,Yfz,Yfs])
def Yp5 (L:List YC) (s:YS):Int:=(L.getD (fnd L s).toNat default).depth
mutual
/-- is there a name of a deeper capture? -/
def drv (L:List YC) (v:Int):YS->Bool
 | ⟨k,n,t,s,l⟩=>if k=1 then decide (0<=fnd L ⟨k,n,t,s,l⟩)&&decide (v<Yp5 L ⟨k,n,t,s,l⟩) else Y15v L v l
def Y15v (L:List YC) (v:Int):List YS->Bool
 | []=>false
 | x :: r=>drv L v x||Y15v L v r
end
theorem Y18k (L:List YC) (v:Int):∀ l,Y15v L v l=l.any (drv L v)
 | []=>by simp [Y15v]
 | x :: r=>by rw [Y15v,Y18k L v r]; rfl
theorem Y1cp (L:List YC) (v:Int) (t:YS):drv L v t=if t.kind=1 then decide (0<=fnd L t)&&decide (v<Yp5 L t) else t.items.any (drv L v):=by cases t; simp only [drv,Y18k]
mutual
/-- the reference's test of a template -/
def fit (L:List YC):YS->Int->Bool
 | ⟨k,n,t,s,l⟩,v=>if k=1 then !Yfw ⟨k,n,t,s,l⟩&&(decide (fnd L ⟨k,n,t,s,l⟩<0)||decide (Yp5 L ⟨k,n,t,s,l⟩<=v)) else Yjs L l v
def Yjs (L:List YC):List YS->Int->Bool
 | [],_=>true
 | [x],v=>fit L x v
 | x :: y :: r,v=>if Yfw y then !Yfw x&&drv L v x&&fit L x (v+1)&&Yjs L r v else fit L x v&&Yjs L (y :: r) v
end
theorem Y147 (L:List YC) (t:YS) (v:Int):fit L t v=if t.kind=1 then !Yfw t&&(decide (fnd L t<0)||decide (Yp5 L t<=v)) else Yjs L t.items v:=by cases t; simp only [fit]
theorem Y1dv {L:List YC} {l:List YS} {k:Nat} {v:Int} (h:k+1=l.length):Yjs L (l.drop k) v=fit L (l.getD k default) v:=by
 rw [Yhg (by omega),List.drop_eq_nil_of_le (by omega),Yjs]
theorem Y1b6 {L:List YC} {l:List YS} {k:Nat} {v:Int} (h:k+1<l.length) (hd:Yfw (l.getD (k+1) default)=false):Yjs L (l.drop k) v=(fit L (l.getD k default) v&&Yjs L (l.drop (k+1)) v):=by
 rw [Yhg (by omega:k<l.length),Yhg h,Yjs,hd]; rfl
theorem Y1dz {L:List YC} {l:List YS} {k:Nat} {v:Int} (h:k+1<l.length) (hd:Yfw (l.getD (k+1) default)=true):Yjs L (l.drop k) v=(!Yfw (l.getD k default)&&drv L v (l.getD k default)&&fit L (l.getD k default) (v+1)&&Yjs L (l.drop (k+1+1)) v):=by
 rw [Yhg (by omega:k<l.length),Yhg h,Yjs,hd]; rfl
theorem Y14t {L:List YC} {l:List YS} {k:Nat} {v:Int} (h:l.length<=k):Yjs L (l.drop k) v=true:=by
 rw [List.drop_eq_nil_of_le h,Yjs]
theorem Yjj {t:YS} {k:Nat} (h:k<t.items.length):Yge (t.items.getD k default)+1<=Yge t:=by
 have:=Yu6 Yge (Yfx h)
 rw [Ymb t]; omega
abbrev Z2r (L:List YC) (t:YS) (v:Int):Ct:=⟨104,[],[ll (L.map Yfo),Ygb t,li v],[],.sv (lb (drv L v t))⟩
def Z3p (L:List YC) (t:YS) (v:Int):Lp Nat:=.mk 39 0 (fun x=>[(0,ll (L.map Yfo)),(2,li v),(28,ll (t.items.map Yfn)),(29,li
 (↑(t.items.map Yfn).length:Int)),(30,hs x 0)]) (fun x=>[]) (fun k=>[.s (li (k:Int))]) (fun k=>k<=t.items.length/\t.items.length<=9223372036854775807 /\
 (t.items.take k).any (drv L v)=false) (fun k=>t.items.length - k) [.mk (t.items.any (drv L v)=false) (.exit 0) (fun x=>[]) (fun x=>[]) [],.mk (t.items.any (drv L
 v)=true) .ret (fun x=>[(6,hs x 0)]) (fun x=>[]) [.s (lb true)]]
theorem Zbl (L:List YC) (t:YS) (v:Int) (ih:∀ (z:YS),z∈t.items->∀ (L:List YC) (v:Int),OK (Z2r L z v)):Lp.Sem Tryz.prog (Yg6
 Tryz.f104 0) (Z3p L t v):=Ygf (fun k=>.i ((k:Int)<(↑(t.items.map Yfn).length:Int)) (.x (k:Int) (t.items.map Yfn) (Yfu (t.items.getD k
 default)) (.d [.rd,.rd,.rd] (Z2r L (t.items.getD k default) v) (.b (drv L v (t.items.getD k default)) (.o 1 [] [.s (lb true)]) (.r ((k:Int)+1) (.g [] (k+1) [.s (li
 ((k:Int)+1))]))))) (.o 0 [] [])) (by
 intro k h; try dsimp only [Yfp,Yg0,Z3p] at h ⊢
 with_reducible repeat' (first | apply And.intro | exact zR | exact ih | (intro) | apply ih)
 all_goals ((try simp only [std,inj] at *); with_reducible and_intros)
 all_goals try with_reducible first | apply ih
 all_goals try first | exact z | grind [Ygg,Yfx,Yfy,Yfz,Yfs])
theorem Zeb (L:List YC) (t:YS) (v:Int) (ih:∀ z∈t.items,∀ (L:List YC) (v:Int),Z2r L z v)  : Z2r L t v:=Yg4 Tryz.call104 Tryz.func104
 (.i (t.kind=1) (.c [.rd,.rd] (Z4o L t) (.i (0<=fnd L t) (.x (fnd L t) (L.map Yfo) (Yg7 (L.getD (fnd L t).toNat default)) (.s (lb (decide (v<(L.getD (fnd L
 t).toNat default).depth))))) (.s (lb false)))) (.z Yfn t.items (.l (Z3p L t v) (Zbl L t v ih) [] [.s (li 0)] 0 (.t (.s (lb false)) (.t (.s (lb true)) .q)))))
 (by
 dsimp only [Yfp,Z2r,Yg0,Z3p]
 have g:=Yl7 L t
 with_reducible repeat' (first | apply And.intro | exact zR | exact ih | (intro))
 all_goals ((try simp only [std,inj] at *); with_reducible and_intros)
 all_goals try with_reducible first | apply ih
 all_goals try first | exact z | grind [Y1cp,Yp5,Yfy,Yfz,Yfs])
theorem Zfa (t:YS):∀ (L:List YC) (v:Int),Z2r L t v:=YS.ind (P:=fun t=>∀ (L:List YC) (v:Int),Z2r L t v) (fun t ih L v=>Zeb L t v ih) t
abbrev Z15 (L:List YC) (t:YS) (v:Int):Ct:=⟨42,[],[ll (L.map Yfo),Ygb t,li v],[],.sv (lb (fit L t v))⟩
def Z3q (L:List YC) (t:YS) (v:Int):Lp Nat:=.mk 79 0 (fun x=>[(0,ll (L.map Yfo)),(2,li v),(4,.one (.ptr 0 0)),(8,hs x 0)]) (fun x
 => [.box (vals (Yfu t))]) (fun k=>[.s (li (k:Int))]) (fun k=>t.items.length >= k/\Yjs L t.items v=Yjs L (t.items.drop k) v) (fun k=>t.items.length - k)
 [.mk (Yjs L t.items v=true) (.exit 0) (fun x=>[]) (fun x=>[]) [],.mk (Yjs L t.items v=false) .ret (fun x=>[(6,hs x 0)]) (fun x=>[]) [.s (lb false)]]
theorem Zbm (L:List YC) (t:YS) (v:Int) (h:0<=v/\v+(↑(Yge t):Int)<=1000) (ih:∀ (z:YS),z∈t.items->∀ (L:List YC) (v:Int),0<=v /\
 v+(↑(Yge z):Int)<=1000->OK (Z15 L z v)):Lp.Sem Tryz.prog (Yg6 Tryz.f42 0) (Z3q L t v):=Ygf (fun k=>.z Yfn t.items (.i ((k:Int)<(↑(List.map
 Yfn t.items).length:Int)) (.x (k:Int) (t.items.map Yfn) (Yfu (t.items.getD k default)) (.r ((k:Int)+1) (.z Yfn t.items (.i ((k:Int)+1 <
 (↑(t.items.map Yfn).length:Int)) (.r ((k:Int)+1) (.x ((k:Int)+1) (t.items.map Yfn) (Yfu (t.items.getD (k+1) default)) (.c [.rd] (Zb
 (t.items.getD (k+1) default)) (.b (Yfw (t.items.getD (k+1) default)) (.c [.rd] (Zb (t.items.getD k default)) (.b (Yfw (t.items.getD k default)) (.y true (.o 1 []
 [.s (lb false)])) (.c [.rd,.rd,.rd] (Zfa (t.items.getD k default) L v) (.b (!drv L v (t.items.getD k default)) (.o 1 [] [.s (lb false)]) (.r (v+1) (.r ((k:Int)+1) (.d
 [.rd,.rd,.rd] (Z15 L (t.items.getD k default) (v+1)) (.b (!fit L (t.items.getD k default) (v+1)) (.o 1 [] [.s (lb false)]) (.r ((k:Int)+1+1) (.g [0] (k+1+1)
 [.s (li ((k:Int)+1+1))])))))))))) (.d [.rd,.rd,.rd] (Z15 L (t.items.getD k default) v) (.b (!fit L (t.items.getD k default) v) (.o 1 [] [.s (lb false)]) (.r ((↑k :
 Int)+1) (.g [0] (k+1) [.s (li ((k:Int)+1))])))))))) (.y false (.d [.rd,.rd,.rd] (Z15 L (t.items.getD k default) v) (.b (!fit L (t.items.getD k default) v) (.o 1 []
 [.s (lb false)]) (.r ((k:Int)+1) (.g [0] (k+1) [.s (li ((k:Int)+1))]))))))))) (.o 0 [] []))) (by
 intro k h; try dsimp only [Yfp,Yg0,Z3q] at h ⊢
 have g1:=@Y1dv L t.items k v
 have g2:=@Y1b6 L t.items k v
 have g3:=@Y1dz L t.items k v
 have g4:=@Y14t L t.items k v
 have g5:=@Yjj t k
 have g6:=@Y14t L t.items (k+1) v
 with_reducible repeat' (first | apply And.intro | exact zR | exact ih | (intro) | apply ih)
 all_goals ((try simp only [std,inj] at *); with_reducible and_intros)
 all_goals try with_reducible first | apply ih
 all_goals try first | exact z | grind [Yfx,Yfy,Yfz,Yfs])
theorem Zec (L:List YC) (t:YS) (v:Int) (h:0<=v/\v+Yge t<=1000) (ih:∀ z∈t.items,∀ (L:List YC) (v:Int) (h:0<=v/\v+Yge z<=1000),
 Z15 L z v)  : Z15 L t v:=Yg4 Tryz.call42 Tryz.func42 (.i (t.kind=1) (.c [.rd,.rd] (Z4o L t) (.c [.rd] (Zb t) (.b (!Yfw t) (.i (fnd L t<0) (.s (lb
 true)) (.x (fnd L t) (L.map Yfo) (Yg7 (L.getD (fnd L t).toNat default)) (.s (lb (decide ((L.getD (fnd L t).toNat default).depth<=v)))))) (.s (lb false))))) (.l
 (Z3q L t v) (Zbm L t v h ih) [0] [.s (li 0)] 0 (.t (.s (lb true)) (.t (.s (lb false)) .q)))) (by
 dsimp only [Yfp,Z15,Yg0,Z3q]
 have g:=Yl7 L t
 with_reducible repeat' (first | apply And.intro | exact zR | exact ih | (intro))
 all_goals ((try simp only [std,inj] at *); with_reducible and_intros)
 all_goals try with_reducible first | apply ih
 all_goals try first | exact z | grind [Y147,Yp5,Yfy,Yfz,Yfs])
theorem Z84 (t:YS):∀ (L:List YC) (v:Int) (h:0<=v/\v+Yge t<=1000),Z15 L t v:=YS.ind (P:=fun t=>∀ (L:List YC) (v:Int) (h:0<=v/\v+Yge t<=1000),Z15 L t v) (fun t ih L v h=>Zec L t v h ih) t
def tmF (L:List YC) (t:YS):Bool:=L.all (fun x=>Yio x.name&&decide (0<=x.depth))&&Ygc t&&fit L t 0
abbrev Zah (L:List YC) (t:YS):Ct:=⟨10,[],[ll (L.map Yfo),Ygb t],[],.sv (lb (tmF L t))⟩
def Z53 (L:List YC) (t:YS):Lp Nat:=.mk 30 0 (fun x=>[(0,ll (L.map Yfo)),(3,.one (.ptr 0 0)),(7,ll (L.map Yfo)),(8,li
 (↑(L.map Yfo).length:Int)),(9,hs x 0)]) (fun x=>[.box (vals (Yfu t))]) (fun k=>[.s (li (k:Int))]) (fun k=>k<=L.length/\L.length <=
 9223372036854775807/\((L.take k).all fun x=>Yio x.name&&decide (0<=x.depth))=true) (fun k=>L.length - k) [.mk ((L.all fun x=>Yio x.name&&decide (0<=x.depth))
 = true) (.exit 0) (fun x=>[(0,ll (L.map Yfo)),(3,.one (.ptr 0 0))]) (fun x=>[.box (vals (Yfu t))]) [],.mk ((L.all fun x=>Yio x.name&&decide (0 <=
 x.depth))=false) .ret (fun x=>[(4,hs x 0)]) (fun x=>[]) [.s (lb false)]]
theorem Zd2 (L:List YC) (t:YS):Lp.Sem Tryz.prog (Yg6 Tryz.f10 0) (Z53 L t):=Ygf (fun k=>.i ((k:Int)<(↑(L.map Yfo).length:Int))
 (.x (k:Int) (L.map Yfo) (Yg7 (L.getD k default)) (.c [.rd] (Z5w (L.getD k default).name) (.b (!(decide ((L.getD k default).name.kind=1)&&Ygc (L.getD k
 default).name)) (.y true (.o 1 [] [.s (lb false)])) (.i ((L.getD k default).depth<0) (.o 1 [] [.s (lb false)]) (.r ((k:Int)+1) (.g [0] (k+1) [.s (li ((k:Int) +
 1))])))))) (.o 0 [0] [])) (by
 intro k h; try dsimp only [Yfp,Yg0,Z53] at h ⊢
 with_reducible repeat' (first | apply And.intro | exact zR | (intro) | apply Z84)
 all_goals ((try simp only [std,inj] at *); with_reducible and_intros)
 all_goals try with_reducible first | apply Z84
 all_goals try first | exact z | grind [Ygg,Yio,Yfx,Yfy,Yfz,Yfs])
theorem Zfb (L:List YC) (t:YS)  : Zah L t:=Yg4 Tryz.call10 Tryz.func10 (.z Yfo L (.l (Z53 L t) (Zd2 L t) [0] [.s (li 0)] 0 (.t (.c [.rd]
 (Z14 t) (.b (Ygc t) (.d [.rd,.rd,.rd] (Z15 L t 0) (.s (lb (fit L t 0)))) (.s (lb false)))) (.t (.s (lb false)) .q)))) (by
 dsimp only [Yfp,Zah,Yg0,Z53]
 with_reducible repeat' (first | apply And.intro | exact zR | (intro) | apply Z84)
 all_goals ((try simp only [std,inj] at *); with_reducible and_intros)
 all_goals try with_reducible first | apply Z84
 all_goals try first | exact z | grind [tmF,Ygc,Yfy,Yfz,Yfs])
mutual
def Yjh:YS->Bool
 | ⟨k,n,t,s,l⟩ => !Yfw ⟨k,n,t,s,l⟩&&Yh0 true l
def Yh0:Bool->List YS->Bool
 | _,[]=>true
 | b,x :: r=>if Yfw x then !b&&Yh0 true r else Yjh x&&Yh0 false r
end
theorem Yvk (t:YS):Yjh t=(!Yfw t&&Yh0 true t.items):=by cases t; simp only [Yjh]
def Yk2 (l:List YS) (k:Nat):Bool:=decide (k=0)||Yfw (l.getD (k - 1) default)
theorem Yy1 {l:List YS} {b:Bool} {k:Nat} (h:k<l.length):Yh0 b (l.drop k)=if Yfw (l.getD k default) then !b&&Yh0 true (l.drop (k+1)) else Yjh (l.getD k default)&&Yh0 false (l.drop (k+1)):=by
 rw [Yhg h,Yh0]
theorem Y11g {l:List YS} {b:Bool} {k:Nat} (h:l.length<=k):Yh0 b (l.drop k)=true:=by
 rw [List.drop_eq_nil_of_le h,Yh0]
abbrev Zx (t:YS):Ct:=⟨44,[],[Ygb t],[],.sv (lb (Yjh t))⟩
def Z1r (t:YS):Lp Nat:=.mk 32 0 (fun x=>[(1,.one (.ptr 0 0)),(8,ll (t.items.map Yfn)),(9,li (↑(t.items.map Yfn).length:Int)),
 (10,hs x 0)]) (fun x=>[.box (vals (Yfu t))]) (fun k=>[.s (li (k:Int))]) (fun k=>k<=t.items.length/\t.items.length<=9223372036854775807/\Yh0 true t.items =
 Yh0 (Yk2 t.items k) (t.items.drop k)) (fun k=>t.items.length - k) [.mk (Yh0 true t.items=true) (.exit 0) (fun x=>[]) (fun x=>[]) [],.mk (Yh0 true t.items =
 false) .ret (fun x=>[(2,hs x 0)]) (fun x=>[]) [.s (lb false)]]
theorem Z85 (t:YS) (ih:∀ (z:YS),z∈t.items->OK (Zx z)):Lp.Sem Tryz.prog (Yg6 Tryz.f44 0) (Z1r t):=Ygf (fun k=>.i ((↑k :
 Int)<(↑(t.items.map Yfn).length:Int)) (.x (k:Int) (t.items.map Yfn) (Yfu (t.items.getD k default)) (.c [.rd] (Z1 (t.items.getD k default)) (.b
 (Yfw (t.items.getD k default)) (.i ((k:Int)=0) (.y true (.o 1 [] [.s (lb false)])) (.r ((k:Int) - 1) (.x ((k:Int) - 1) (t.items.map Yfn) (Yfu
 (t.items.getD ((k:Int) - 1).toNat default)) (.c [.rd] (Z1 (t.items.getD ((k:Int) - 1).toNat default)) (.b (Yfw (t.items.getD ((k:Int) - 1).toNat default)) (.o 1
 [] [.s (lb false)]) (.r ((k:Int)+1) (.g [0] (k+1) [.s (li ((k:Int)+1))]))))))) (.d [.rd] (Zx (t.items.getD k default)) (.b (!Yjh (t.items.getD k default))
 (.o 1 [] [.s (lb false)]) (.r ((k:Int)+1) (.g [0] (k+1) [.s (li ((k:Int)+1))]))))))) (.o 0 [] [])) (by
 intro k h; try dsimp only [Yfp,Yg0,Z1r] at h ⊢
 have g1:=@Yy1 t.items (Yk2 t.items k) k
 have g2:=@Y11g t.items (Yk2 t.items k) k
 have e:((k:Int) - 1).toNat=k - 1:=by omega
 have g3:Yk2 t.items k=(decide (k=0)||Yfw (t.items.getD (k - 1) default)):=rfl
 have g4:Yk2 t.items (k+1)=Yfw (t.items.getD k default):=by simp [Yk2]
 with_reducible repeat' (first | apply And.intro | exact zR | exact ih | (intro) | apply ih)
 all_goals ((try simp only [std,inj] at *); with_reducible and_intros)
 all_goals try with_reducible first | apply ih
 all_goals try first | exact z | grind [Yfx,Yfy,Yfz,Yfs])
theorem Zai (t:YS) (ih:∀ z∈t.items,Zx z)  : Zx t:=Yg4 Tryz.call44 Tryz.func44 (.c [.rd] (Z1 t) (.b (Yfw t) (.s (lb false)) (.z
 Yfn t.items (.l (Z1r t) (Z85 t ih) [0] [.s (li 0)] 0 (.t (.s (lb true)) (.t (.s (lb false)) .q)))))) (by
 dsimp only [Yfp,Zx,Yg0,Z1r]
 with_reducible repeat' (first | apply And.intro | exact zR | exact ih | (intro))
 all_goals ((try simp only [std,inj] at *); with_reducible and_intros)
 all_goals try with_reducible first | apply ih
 all_goals try first | exact z | grind [Yvk,Yk2,Yfy,Yfz,Yfs])
theorem Z86 (t:YS):Zx t:=YS.ind (P:=fun t=>Zx t) (fun t ih=>Zai t ih) t
mutual
def dee (L:List YC):YS->Int
 | ⟨k,n,t,s,l⟩=>Y15k L l (if k=1/\0<=fnd L ⟨k,n,t,s,l⟩ then Yp5 L ⟨k,n,t,s,l⟩ else -1)
def Y15k (L:List YC):List YS->Int->Int
 | [],b=>b
 | x :: r,b=>Y15k L r (max b (dee L x))
end
theorem Y18s (L:List YC):∀ l b,Y15k L l b=l.foldl (fun b x=>max b (dee L x)) b
 | [],_=>by rw [Y15k]; rfl
 | x :: r,b=>by rw [Y15k,Y18s L r]; rfl
def Yt2 (L:List YC) (t:YS):Int:=if t.kind=1/\0<=fnd L t then Yp5 L t else -1
theorem Y1e6 (L:List YC) (t:YS):dee L t=t.items.foldl (fun b x=>max b (dee L x)) (Yt2 L t):=by cases t; simp only [dee,Y18s,Yt2]
abbrev Z1u (L:List YC) (t:YS):Ct:=⟨218,[],[ll (L.map Yfo),Ygb t],[],.sv (li (dee L t))⟩
def Z1v (L:List YC) (t:YS):Lp Nat:=.mk 33 0 (fun x=>[(0,ll (L.map Yfo)),(5,hs x 1),(20,ll (t.items.map Yfn)),(21,li
 (↑(t.items.map Yfn).length:Int)),(22,hs x 0)]) (fun x=>[]) (fun k=>[.s (li (k:Int)),.s (li (List.foldl (fun b x=>max b (dee L x)) (Yt2 L t) (List.take k
 t.items)))]) (fun k=>k<=t.items.length/\t.items.length<=9223372036854775807) (fun k=>t.items.length - k) [.mk True (.exit 0) (fun x=>[(5,hs x 0)]) (fun x=>[]) [.s (li
 (dee L t))]]
theorem Z6p (L:List YC) (t:YS) (ih:∀ (z:YS),z∈t.items->∀ (L:List YC),OK (Z1u L z)):Lp.Sem Tryz.prog (Yg6 Tryz.f218 0)
 (Z1v L t):=Ygf (fun k=>.i ((k:Int)<(↑(t.items.map Yfn).length:Int)) (.x (k:Int) (t.items.map Yfn) (Yfu (t.items.getD k default)) (.d
 [.rd,.rd] (Z1u L (t.items.getD k default)) (.r ((k:Int)+1) (.g [] (k+1) [.s (li ((k:Int)+1)),.s (li (max (List.foldl (fun b x=>max b (dee L x)) (Yt2 L t)
 (t.items.take k)) (dee L (t.items.getD k default))))])))) (.o 0 [] [.s (li (List.foldl (fun b x=>max b (dee L x)) (Yt2 L t) (t.items.take k)))])) (by
 intro k h; try dsimp only [Yfp,Yg0,Z1v] at h ⊢
 with_reducible repeat' (first | apply And.intro | exact zR | exact ih | (intro) | apply ih)
 all_goals ((try simp only [std,inj] at *); with_reducible and_intros)
 all_goals try with_reducible first | apply ih
 all_goals try first | exact z | grind [Ymc,Yfx,Y1e6,Yfy,Yfz,Yfs])
theorem Zd3 (L:List YC) (t:YS) (ih:∀ z∈t.items,∀ (L:List YC),Z1u L z)  : Z1u L t:=Yg4 Tryz.call218 Tryz.func218 (.c [.rd,.rd] (Z74
 L t) (.i (0<=if t.kind=1 then fnd L t else (-1:Int)) (.x (if t.kind=1 then fnd L t else (-1:Int)) (L.map Yfo) (Yg7 (L.getD (if t.kind=1 then fnd L t else
 (-1:Int)).toNat default)) (.z Yfn t.items (.l (Z1v L t) (Z6p L t ih) [] [.s (li 0),.s (li (L.getD (if t.kind=1 then fnd L t else (-1:Int)).toNat
 default).depth)] 0 (.t (.s (li (dee L t))) .q)))) (.z Yfn t.items (.l (Z1v L t) (Z6p L t ih) [] [.s (li 0),.s (li (-1:Int))] 0 (.t (.s (li (dee L t)))
 .q))))) (by
 dsimp only [Yfp,Z1u,Yg0,Z1v]
 have g:=Yl7 L t
 with_reducible repeat' (first | apply And.intro | exact zR | exact ih | (intro))
 all_goals ((try simp only [std,inj] at *); with_reducible and_intros)
 all_goals try with_reducible first | apply ih
 all_goals try first | exact z | grind [Yt2,Yp5,Yfy,Yfz,Yfs])
theorem Zf0 (t:YS):∀ (L:List YC),Z1u L t:=YS.ind (P:=fun t=>∀ (L:List YC),Z1u L t) (fun t ih L=>Zd3 L t ih) t
mutual
def Ylj (L:List YC):YS->Int->Bool
 | ⟨k,n,t,s,l⟩,v=>if k=1/\0<=fnd L ⟨k,n,t,s,l⟩ then decide (Yp5 L ⟨k,n,t,s,l⟩<=v) else Yhz L l v
def Yhz (L:List YC):List YS->Int->Bool
 | [],_=>true
 | [x],v=>if Yfw x then true else Ylj L x v
 | x :: y :: r,v=>if Yfw x then Yhz L (y :: r) v else if Yfw y then decide (v<dee L x)&&Ylj L x (v+1)&&Yhz L (y :: r) v else Ylj L x v&&Yhz L (y :: r) v
end
theorem Y196 (L:List YC) (t:YS) (v:Int):Ylj L t v=if t.kind=1/\0<=fnd L t then decide (Yp5 L t<=v) else Yhz L t.items v:=by cases t; simp only [Ylj]
theorem Y1al {L:List YC} {l:List YS} {k:Nat} {v:Int} (h:k+1=l.length):Yhz L (l.drop k) v=if Yfw (l.getD k default) then true else Ylj L (l.getD k default) v:=by
 rw [Yhg (by omega),List.drop_eq_nil_of_le (by omega),Yhz]
theorem Y1a8 {L:List YC} {l:List YS} {k:Nat} {v:Int} (h:k+1<l.length):Yhz L (l.drop k) v=if Yfw (l.getD k default) then Yhz L (l.drop (k+1)) v else
  if Yfw (l.getD (k+1) default) then decide (v<dee L (l.getD k default))&&Ylj L (l.getD k default) (v+1)&&Yhz L (l.drop (k+1)) v else Ylj L (l.getD k default) v&&Yhz L (l.drop (k+1)) v:=by
 rw [Yhg (by omega:k<l.length),Yhg h,Yhz]
theorem Y11o {L:List YC} {l:List YS} {k:Nat} {v:Int} (h:l.length<=k):Yhz L (l.drop k) v=true:=by
 rw [List.drop_eq_nil_of_le h,Yhz]
abbrev Zq (L:List YC) (t:YS) (v:Int):Ct:=⟨173,[],[ll (L.map Yfo),Ygb t,li v],[],.sv (lb (Ylj L t v))⟩
def Z38 (L:List YC) (t:YS) (v:Int):Lp Nat:=.mk 62 0 (fun x=>[(0,ll (L.map Yfo)),(2,li v),(4,.one (.ptr 0 0)),(24,ll (List.map
 Yfn t.items)),(25,li (↑(t.items.map Yfn).length:Int)),(26,hs x 0)]) (fun x=>[.box (vals (Yfu t))]) (fun k=>[.s (li (k:Int))]) (fun k=>k <=
 t.items.length/\t.items.length<=9223372036854775807/\Yhz L t.items v=Yhz L (t.items.drop k) v) (fun k=>t.items.length - k) [.mk (Yhz L t.items v=true) (.exit
 0) (fun x=>[]) (fun x=>[]) [],.mk (Yhz L t.items v=false) .ret (fun x=>[(6,hs x 0)]) (fun x=>[]) [.s (lb false)]]
theorem Zaj (L:List YC) (t:YS) (v:Int) (h:0<=v/\v+(↑(Yge t):Int)<=1000) (ih:∀ (z:YS),z∈t.items->∀ (L:List YC) (v:Int),0<=v
 /\ v+(↑(Yge z):Int)<=1000->OK (Zq L z v)):Lp.Sem Tryz.prog (Yg6 Tryz.f173 0) (Z38 L t v):=Ygf (fun k=>.i ((k:Int)<(↑(List.map Yfn
 t.items).length:Int)) (.x (k:Int) (t.items.map Yfn) (Yfu (t.items.getD k default)) (.c [.rd] (Z1 (t.items.getD k default)) (.b (Yfw (t.items.getD k
 default)) (.r ((k:Int)+1) (.g [0] (k+1) [.s (li ((k:Int)+1))])) (.r ((k:Int)+1) (.z Yfn t.items (.i ((k:Int)+1<(↑(t.items.map Yfn).length :
 Int)) (.r ((k:Int)+1) (.x ((k:Int)+1) (t.items.map Yfn) (Yfu (t.items.getD (k+1) default)) (.c [.rd] (Z1 (t.items.getD (k+1) default)) (.b (Yfw
 (t.items.getD (k+1) default)) (.c [.rd,.rd] (Zf0 (t.items.getD k default) L) (.i (dee L (t.items.getD k default)<=v) (.o 1 [] [.s (lb false)]) (.r (v+1) (.d [.rd,.rd,
 .rd] (Zq L (t.items.getD k default) (v+1)) (.b (!Ylj L (t.items.getD k default) (v+1)) (.o 1 [] [.s (lb false)]) (.r ((k:Int)+1) (.g [0] (k+1) [.s (li ((↑k :
 Int)+1))]))))))) (.d [.rd,.rd,.rd] (Zq L (t.items.getD k default) v) (.b (!Ylj L (t.items.getD k default) v) (.o 1 [] [.s (lb false)]) (.r ((k:Int)+1) (.g [0] (k
 + 1) [.s (li ((k:Int)+1))])))))))) (.y false (.d [.rd,.rd,.rd] (Zq L (t.items.getD k default) v) (.b (!Ylj L (t.items.getD k default) v) (.o 1 [] [.s (lb false)])
 (.r ((k:Int)+1) (.g [0] (k+1) [.s (li ((k:Int)+1))]))))))))))) (.o 0 [] [])) (by
 intro k h; try dsimp only [Yfp,Yg0,Z38] at h ⊢
 have g1:=@Y1al L t.items k v
 have g2:=@Y1a8 L t.items k v
 have g3:=@Y11o L t.items (k+1) v
 have g4:=@Y11o L t.items k v
 have g5:=@Yjj t k
 with_reducible repeat' (first | apply And.intro | exact zR | exact ih | (intro) | apply ih)
 all_goals ((try simp only [std,inj] at *); with_reducible and_intros)
 all_goals try with_reducible first | apply ih
 all_goals try first | exact z | grind [Yfx,Yfy,Yfz,Yfs])
theorem Zd4 (L:List YC) (t:YS) (v:Int) (h:0<=v/\v+Yge t<=1000) (ih:∀ z∈t.items,∀ (L:List YC) (v:Int) (h:0<=v/\v+Yge z<=1000),
 Zq L z v)  : Zq L t v:=Yg4 Tryz.call173 Tryz.func173 (.c [.rd,.rd] (Z74 L t) (.i (0<=if t.kind=1 then fnd L t else (-1:Int)) (.x (if t.kind=1 then fnd L
 t else (-1:Int)) (L.map Yfo) (Yg7 (L.getD (if t.kind=1 then fnd L t else (-1:Int)).toNat default)) (.s (lb (decide ((L.getD (if t.kind=1 then fnd L t else
 (-1:Int)).toNat default).depth<=v))))) (.z Yfn t.items (.l (Z38 L t v) (Zaj L t v h ih) [0] [.s (li 0)] 0 (.t (.s (lb true)) (.t (.s (lb false)) .q))))))
 (by
 dsimp only [Yfp,Zq,Yg0,Z38]
 have g:=Yl7 L t
 with_reducible repeat' (first | apply And.intro | exact zR | exact ih | (intro))
 all_goals ((try simp only [std,inj] at *); with_reducible and_intros)
 all_goals try with_reducible first | apply ih
 all_goals try first | exact z | grind [Y196,Yp5,Yfy,Yfz,Yfs])
theorem Z75 (t:YS):∀ (L:List YC) (v:Int) (h:0<=v/\v+Yge t<=1000),Zq L t v:=YS.ind (P:=fun t=>∀ (L:List YC) (v:Int) (h:0<=v/\v+Yge t<=1000),Zq L t v) (fun t ih L v h=>Zd4 L t v h ih) t
theorem Y127 (f:YS->Int) (v:Int):∀ (l:List YS) (b:Int),v<l.foldl (fun b x=>max b (f x)) b ↔ v<b ∨ ∃ x∈l,v<f x
 | [],b=>by simp
 | x :: r,b=>by
  rw [List.foldl_cons,Y127 f v r]
  have e:v<max b (f x) ↔ v<b ∨ v<f x:=by omega
  simp only [List.mem_cons,exists_eq_or_imp,e,or_assoc]
theorem Y10x {t:YS} (h:okY t=true) (hk:t.kind=1):t.items=[]:=by
 rw [Ym0] at h
 simp only [Ylq,Ym5,Bool.and_eq_true,Bool.or_eq_true,decide_eq_true_eq] at h
 have:t.items.length=0:=by omega
 exact List.length_eq_zero_iff.1 this
theorem Yjd {t:YS} (h:okY t=true):∀ x∈t.items,okY x=true:=by
 rw [Ym0,Bool.and_eq_true,List.all_eq_true] at h; exact h.1
theorem Y1jy (L:List YC) (v:Int) (hv:0<=v):∀ t:YS,okY t=true->(drv L v t=decide (v<dee L t)):=by
 refine YS.ind fun t ih h => ?_
 rw [Bool.eq_iff_iff,decide_eq_true_eq,Y1cp,Y1e6,Y127]
 by_cases hk:t.kind=1
 ·rw [if_pos hk,Y10x h hk]
  simp only [Bool.and_eq_true,decide_eq_true_eq,List.not_mem_nil,false_and,exists_false,or_false,Yt2,hk,true_and]
  split <;> omega
 ·rw [if_neg hk,List.any_eq_true]
  have:¬ v<Yt2 L t:=by unfold Yt2; rw [if_neg (by omega)]; omega
  constructor
  ·rintro ⟨x,hx,e⟩
   exact .inr ⟨x,hx,by have:=ih x hx (Yjd h x hx); rw [e] at this; exact of_decide_eq_true this.symm⟩
  ·rintro (e | ⟨x,hx,e⟩)
   ·exact absurd e this
   ·exact ⟨x,hx,by rw [ih x hx (Yjd h x hx)]; exact decide_eq_true e⟩
theorem Y13a {L:List YC} {x:YS} {v:Int} (h:Yfw x=true):fit L x v=false:=by
 have hk:x.kind=1:=by simp only [Yfw,Bool.and_eq_true,decide_eq_true_eq] at h; exact h.1
 rw [Y147,if_pos hk,h]; rfl
theorem Y1c4 {x:YS} {r:List YS} {b:Bool} (h:Yfw x=false):Yh0 b (x :: r)=Yh0 true (x :: r):=by simp only [Yh0,h]; rfl
theorem Yxn (L:List YC):∀ (l:List YS),(∀ x∈l,okY x=true/\∀ v,0<=v->fit L x v=(Yjh x&&Ylj L x v))->∀ v,0<=v->Yjs L l v=(Yh0 true l&&Yhz L l v)
 | [],_,v,_=>by simp [Yjs,Yh0,Yhz]
 | [x],h,v,hv=>by
  rw [Yjs,Yhz,Yh0]
  have h1:=(h x List.mem_cons_self).2 v hv
  by_cases e:Yfw x=true
  ·rw [if_pos e,if_pos e,Y13a e]; rfl
  ·rw [if_neg e,if_neg e,h1]; simp [Yh0]
 | x :: y :: r,h,v,hv=>by
  have hx:=h x List.mem_cons_self
  have h1:=hx.2 v hv
  have h2:=hx.2 (v+1) (by omega)
  have ihr:=Yxn L r (fun z hz=>h z (List.mem_cons_of_mem _ (List.mem_cons_of_mem _ hz))) v hv
  have ihy:=Yxn L (y :: r) (fun z hz=>h z (List.mem_cons_of_mem _ hz)) v hv
  have hd:=Y1jy L v hv x hx.1
  rw [Yjs,Yhz]
  by_cases ey:Yfw y=true
  ·rw [if_pos ey]
   by_cases ex:Yfw x=true
   ·rw [ex,Yh0,if_pos ex]; simp
   ·have ex':Yfw x=false:=by simpa using ex
    have hy:Yh0 false (y :: r)=Yh0 true r:=by rw [Yh0,if_pos ey]; rfl
    have hyt:Yhz L (y :: r) v=Yhz L r v:=by
     cases r with
     | nil=>simp only [Yhz,if_pos ey]
     | cons z r=>rw [Yhz,if_pos ey]
    rw [if_neg ex,if_pos ey,Yh0,if_neg ex,hy,hyt,ihr,hd,h2,ex']
    cases Yjh x <;> cases Yh0 true r <;> cases decide (v<dee L x) <;> cases Ylj L x (v+1) <;> cases Yhz L r v <;> rfl
  ·have ey':Yfw y=false:=by simpa using ey
   rw [if_neg ey]
   by_cases ex:Yfw x=true
   ·rw [Y13a ex,Yh0,if_pos ex]; simp
   ·rw [if_neg ex,if_neg ey,Yh0,if_neg ex,Y1c4 ey',ihy,h1]
    cases Yjh x <;> cases Yh0 true (y :: r) <;> cases Ylj L x v <;> cases Yhz L (y :: r) v <;> rfl
theorem Y1ks (L:List YC):∀ t:YS,okY t=true->∀ v,0<=v->fit L t v=(Yjh t&&Ylj L t v):=by
 refine YS.ind fun t ih h v hv => ?_
 rw [Y147,Yvk,Y196]
 by_cases hk:t.kind=1
 ·rw [if_pos hk,Y10x h hk]
  by_cases h0:0<=fnd L t
  ·rw [if_pos ⟨hk,h0⟩,decide_eq_false (by omega:¬ fnd L t<0)]; simp [Yh0]
  ·rw [if_neg (fun e=>h0 e.2),decide_eq_true (by omega:fnd L t<0)]; simp [Yh0,Yhz]
 ·have hd:Yfw t=false:=by simp [Yfw,hk]
  rw [if_neg hk,if_neg (fun e=>hk e.1),hd,Yxn L t.items (fun x hx=>⟨Yjd h x hx,fun v hv=>ih x hx (Yjd h x hx) v hv⟩) v hv]
  simp
theorem Y1oi (L:List YC) (t:YS):tmF L t=(L.all (fun x=>Yio x.name&&decide (0<=x.depth))&&(Ygc t&&(Yjh t&&Ylj L t 0))):=by
 unfold tmF
 by_cases h:Ygc t=true
 ·have h2:okY t=true:=by simp only [Ygc,Bool.and_eq_true] at h; exact h.2
  rw [Y1ks L t h2 0 (Int.le_refl _),Bool.and_assoc]
 ·have:Ygc t=false:=by simpa using h
  rw [this]; simp
abbrev Zak (L:List YC) (t:YS):Ct:=⟨110,[],[ll (L.map Yfo),Ygb t],[],.sv (lb (tmF L t))⟩
def Z54 (L:List YC) (t:YS):Lp Nat:=.mk 34 0 (fun x=>[(0,ll (L.map Yfo)),(3,.one (.ptr 0 0)),(7,ll (L.map Yfo)),(8,li
 (↑(L.map Yfo).length:Int)),(9,hs x 0)]) (fun x=>[.box (vals (Yfu t))]) (fun k=>[.s (li (k:Int))]) (fun k=>k<=L.length/\L.length <=
 9223372036854775807/\((L.take k).all fun x=>Yio x.name&&decide (0<=x.depth))=true) (fun k=>L.length - k) [.mk ((L.all fun x=>Yio x.name&&decide (0<=x.depth))
 = true) (.exit 0) (fun x=>[(0,ll (L.map Yfo)),(3,.one (.ptr 0 0))]) (fun x=>[.box (vals (Yfu t))]) [],.mk ((L.all fun x=>Yio x.name&&decide (0 <=
 x.depth))=false) .ret (fun x=>[(4,hs x 0)]) (fun x=>[]) [.s (lb false)]]
theorem Zd5 (L:List YC) (t:YS):Lp.Sem Tryz.prog (Yg6 Tryz.f110 0) (Z54 L t):=Ygf (fun k=>.i ((k:Int)<(↑(L.map Yfo).length:Int))
 (.x (k:Int) (L.map Yfo) (Yg7 (L.getD k default)) (.c [.rd] (Zf (L.getD k default).name) (.b (!(decide ((L.getD k default).name.kind=1)&&Ygc (L.getD k
 default).name)) (.y true (.o 1 [] [.s (lb false)])) (.i ((L.getD k default).depth<0) (.o 1 [] [.s (lb false)]) (.r ((k:Int)+1) (.g [0] (k+1) [.s (li ((k:Int) +
 1))])))))) (.o 0 [0] [])) (by
 intro k h; try dsimp only [Yfp,Yg0,Z54] at h ⊢
 with_reducible repeat' (first | apply And.intro | exact zR | (intro) | apply Zf | apply Z75)
 all_goals ((try simp only [std,inj] at *); with_reducible and_intros)
 all_goals try with_reducible first | apply Zf | apply Z75
 all_goals try first | exact z | grind [Ygg,Yio,Yfx,Yfy,Yfz,Yfs])
theorem Zfc (L:List YC) (t:YS)  : Zak L t:=Yg4 Tryz.call110 Tryz.func110 (.z Yfo L (.l (Z54 L t) (Zd5 L t) [0] [.s (li 0)] 0 (.t (.c [.rd]
 (Zi t) (.b (Ygc t) (.c [.rd] (Z86 t) (.b (Yjh t) (.d [.rd,.rd,.rd] (Zq L t 0) (.s (lb (Ylj L t 0)))) (.s (lb false)))) (.y false (.s (lb false)))))
 (.t (.s (lb false)) .q)))) (by
 dsimp only [Yfp,Zak,Yg0,Z54]
 with_reducible repeat' (first | apply And.intro | exact zR | (intro) | apply Zf | apply Z75)
 all_goals ((try simp only [std,inj] at *); with_reducible and_intros)
 all_goals try with_reducible first | apply Zf | apply Z75
 all_goals try first | exact z | grind [Y1oi,Ygc,Yfy,Yfz,Yfs])
end Go.Proofs.YtclpofblehlojaaGreat
end
