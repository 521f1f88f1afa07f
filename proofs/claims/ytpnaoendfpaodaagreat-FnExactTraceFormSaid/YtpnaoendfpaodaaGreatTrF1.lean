/- Part 1 of a proof. No condition. -/
import Derived.Test.YtpnaoendfpaodaaGreatQ4
section
namespace Go.Proofs.YtpnaoendfpaodaaGreat
open Go Go.Proofs.YtpnaoendfpaodaaGreat.Ab
theorem zV {p : Prop} (h : p := by
  with_reducible repeat' (first | apply And.intro | exact zR | (intro; skip))
  all_goals (try simp only [std, inj] at *)
  all_goals with_reducible repeat' apply And.intro
  all_goals (try (first | exact z | grind [Yhi, Yhh, Yhe]))) : p := h
theorem zW {p : Prop} (h : p := by
  with_reducible repeat' (first | apply And.intro | exact zR | (intro; skip))
  all_goals (try simp only [std, inj] at *)
  all_goals with_reducible repeat' apply And.intro
  all_goals (try (first | exact z | grind [Yhi, Yhh, Yhe, Yhj]))) : p := h
theorem zG {p : Prop} (h : p := by first | exact z | grind [Yhi, Yhh, Yhe]) : p := h
end Go.Proofs.YtpnaoendfpaodaaGreat
end
set_option linter.unusedVariables false
set_option linter.unusedSimpArgs false
section
namespace Go.Proofs.YtpnaoendfpaodaaGreat
open Go Ab
set_option maxHeartbeats 4000000
theorem Ysk {L : List UInt8} {p : UInt8 -> Bool} {k : Nat} (h : k < L.length) (hp : p (L.getD k 0) = false) : L.all p = false := by
 rw [List.all_eq_false]
 have e : L.getD k 0 = L[k] := by simp [h]
 exact ⟨L[k], List.getElem_mem h, by rw [<- e, hp]; decide⟩
theorem Yyc {L : List UInt8} {p : UInt8 -> Bool} {k : Nat} (h : k < L.length) (hp : p (L.getD k 0) = true) (ht : (L.take k).all p = true) : (L.take (k + 1)).all p = true := by
 rw [Y1m1 h, List.all_append, ht, List.all_cons, hp]; rfl
theorem Yvk {L : List UInt8} {p : UInt8 -> Bool} {k : Nat} (h : L.length <= k) (ht : (L.take k).all p = true) : L.all p = true := by
 rwa [List.take_of_length_le h] at ht
def lu (n : Int) : SV := .one (.val (.lit (.int .u8 n)))
def Ymt (n : Int) : Bool := decide (48 <= n /\ n <= 57)
def Yp9 : List Int := [33, 63, 42, 60, 62, 61, 47, 43, 45, 46, 95]
def Yma (n : Int) : Bool := decide (97 <= n /\ n <= 122) || Ymt n || decide (n ∈ Yp9)
theorem Y1h2 {k : Nat} (h : k < 11) : ((([33, 63, 42, 60, 62, 61, 47, 43, 45, 46, 95] : List UInt8).getD k 0).toNat : Int) = Yp9.getD k default := by
 have : ∀ k, k < 11 -> ((([33, 63, 42, 60, 62, 61, 47, 43, 45, 46, 95] : List UInt8).getD k 0).toNat : Int) = Yp9.getD k default := by decide
 exact this k h
def Ym9 (n : Int) : Bool := decide (32 <= n /\ n <= 126 /\ n ≠ 34)
def Ym3 (s : ByteArray) : Bool := decide (1 <= (s.size : Int) /\ (s.size : Int) <= 16) && !Ymt (s.data.toList.getD 0 0).toNat && !(decide (((s.data.toList.getD 0 0).toNat : Int) = 45) && decide (1 < (s.size : Int)) && Ymt (s.data.toList.getD 1 0).toNat) && s.data.toList.all fun b => Yma b.toNat
def Yr9 (s : ByteArray) : Bool := decide ((s.size : Int) <= 20) && s.data.toList.all fun b => Ym9 b.toNat
abbrev Z9r (n : Int) : Ct := ⟨296, [], [lu n], [], .sv (lb (Ymt n))⟩
theorem Z7d (n : Int)  : Z9r n := Yhq Tryz.call296 Tryz.func296 (.i (48 <= n) (.s (lb (decide (n <= 57)))) (.s (lb false))) (by
 dsimp only [Yhf, Z9r]
 with_reducible repeat' (first | apply And.intro | exact zR | (intro))
 all_goals ((try simp only [std, inj] at *); with_reducible and_intros)
 all_goals try first | exact z | grind [Ymt, Yhi, Yhh, Yhe])
abbrev Z9s (n : Int) : Ct := ⟨299, [], [lu n], [], .sv (lb (Ymt n))⟩
theorem Zc5 (n : Int)  : Z9s n := Yhq Tryz.call299 Tryz.func299 (.i (48 <= n) (.s (lb (decide (n <= 57)))) (.s (lb false))) (by
 dsimp only [Yhf, Z9s]
 with_reducible repeat' (first | apply And.intro | exact zR | (intro))
 all_goals ((try simp only [std, inj] at *); with_reducible and_intros)
 all_goals try first | exact z | grind [Ymt, Yhi, Yhh, Yhe])
abbrev Zat (n : Int) : Ct := ⟨297, [], [lu n], [], .sv (lb (Yma n))⟩
def Z3j (n : Int) : Lp Nat := .mk 26 0 (fun x => [(0, .one (.val (.lit (.int .u8 n)))), (3, ls (ByteArray.mk #[(33 : UInt8), (63 : UInt8), (42 : UInt8),
 (60 : UInt8), (62 : UInt8), (61 : UInt8), (47 : UInt8), (43 : UInt8), (45 : UInt8), (46 : UInt8), (95 : UInt8)])), (4, hs x 0)]) (fun x => []) (fun k => [.s (li (k : Int))]) (fun
 k => k <= 11 /\ ¬n ∈ Yp9.take k) (fun k => 11 - k) [.mk (decide (n ∈ Yp9) = false) (.exit 0) (fun x => []) (fun x => []) [], .mk (decide (n ∈ Yp9) = true) .ret (fun x =>
 [(2, hs x 0)]) (fun x => []) [.s (lb true)]]
theorem Z9t (n : Int) : Lp.Sem Tryz.prog (Yhp Tryz.f297 0) (Z3j n) := Yhz (fun k => .h (11 <= 9223372036854775807) (.i ((k : Int) < 11) (.p (0 <= (k : Int) /\ (↑k
 : Int).toNat < 11) (.i ((↑([(33 : UInt8), (63 : UInt8), (42 : UInt8), (60 : UInt8), (62 : UInt8), (61 : UInt8), (47 : UInt8), (43 : UInt8), (45 : UInt8), (46 : UInt8), (95 :
 UInt8)].getD (k : Int).toNat (0 : UInt8)).toNat : Int) = n) (.o 1 [] [.s (lb true)]) (.r ((k : Int) + 1) (.g [] (k + 1) [.s (li ((k : Int) + 1))])))) (.o 0 [] []))) (by
 intro k h; try dsimp only [Yhf, Yhl, Z3j] at h ⊢
 have g := @Y1h2 k
 have e : Yp9.length = 11 := rfl
 have e2 : Yp9.take 11 = Yp9 := rfl
 with_reducible repeat' (first | apply And.intro | exact zR | (intro))
 all_goals ((try simp only [std, inj] at *); with_reducible and_intros)
 all_goals try first | exact z | grind [Yhy, Yhj, Yhi, Yhh, Yhe])
theorem Zgt (n : Int)  : Zat n := Yhq Tryz.call297 Tryz.func297 (.i (97 <= n) (.i (n <= 122) (.y true (.s (lb true))) (.c [.rd] (Z7d n) (.b (Ymt n) (.s (lb true)) (.l
 (Z3j n) (Z9t n) [] [.s (li 0)] 0 (.t (.s (lb false)) (.t (.s (lb true)) .q)))))) (.y false (.c [.rd] (Z7d n) (.b (Ymt n) (.s (lb true)) (.l (Z3j n)
 (Z9t n) [] [.s (li 0)] 0 (.t (.s (lb false)) (.t (.s (lb true)) .q))))))) (by
 dsimp only [Yhf, Zat, Yhl, Z3j]
 with_reducible repeat' (first | apply And.intro | exact zR | (intro))
 all_goals ((try simp only [std, inj] at *); with_reducible and_intros)
 all_goals try first | exact z | grind [Yma, Yhi, Yhh, Yhe])
abbrev Zau (n : Int) : Ct := ⟨300, [], [lu n], [], .sv (lb (Yma n))⟩
theorem Zgu (n : Int)  : Zau n := Yhq Tryz.call300 Tryz.func300 (.i (97 <= n) (.i (n <= 122) (.y true (.s (lb true))) (.i (48 <= n) (.i (n <= 57) (.s (lb true)) (.i (n = 33)
 (.y true (.s (lb true))) (.i (n = 63) (.y true (.s (lb true))) (.i (n = 42) (.y true (.s (lb true))) (.i (n = 60) (.y true (.s (lb true))) (.i (n = 62) (.y true (.s (lb true)))
 (.i (n = 61) (.y true (.s (lb true))) (.i (n = 47) (.y true (.s (lb true))) (.i (n = 43) (.y true (.s (lb true))) (.i (n = 45) (.y true (.s (lb true))) (.i (n = 46) (.y true (.s
 (lb true))) (.i (n = 95) (.s (lb true)) (.s (lb false)))))))))))))) (.y false (.i (n = 33) (.y true (.s (lb true))) (.i (n = 63) (.y true (.s (lb true))) (.i (n = 42) (.y true (.s
 (lb true))) (.i (n = 60) (.y true (.s (lb true))) (.i (n = 62) (.y true (.s (lb true))) (.i (n = 61) (.y true (.s (lb true))) (.i (n = 47) (.y true (.s (lb true))) (.i (n = 43)
 (.y true (.s (lb true))) (.i (n = 45) (.y true (.s (lb true))) (.i (n = 46) (.y true (.s (lb true))) (.i (n = 95) (.s (lb true)) (.s (lb false)))))))))))))))) (.y false (.i (48 <=
 n) (.i (n <= 57) (.s (lb true)) (.i (n = 33) (.y true (.s (lb true))) (.i (n = 63) (.y true (.s (lb true))) (.i (n = 42) (.y true (.s (lb true))) (.i (n = 60) (.y true (.s (lb
 true))) (.i (n = 62) (.y true (.s (lb true))) (.i (n = 61) (.y true (.s (lb true))) (.i (n = 47) (.y true (.s (lb true))) (.i (n = 43) (.y true (.s (lb true))) (.i (n = 45) (.y
 true (.s (lb true))) (.i (n = 46) (.y true (.s (lb true))) (.i (n = 95) (.s (lb true)) (.s (lb false)))))))))))))) (.y false (.i (n = 33) (.y true (.s (lb true))) (.i (n = 63) (.y
 true (.s (lb true))) (.i (n = 42) (.y true (.s (lb true))) (.i (n = 60) (.y true (.s (lb true))) (.i (n = 62) (.y true (.s (lb true))) (.i (n = 61) (.y true (.s (lb true))) (.i (n
 = 47) (.y true (.s (lb true))) (.i (n = 43) (.y true (.s (lb true))) (.i (n = 45) (.y true (.s (lb true))) (.i (n = 46) (.y true (.s (lb true))) (.i (n = 95) (.s (lb true)) (.s
 (lb false))))))))))))))))) (by
 dsimp only [Yhf, Zau]
 with_reducible repeat' (first | apply And.intro | exact zR | (intro))
 all_goals ((try simp only [std, inj] at *); with_reducible and_intros)
 all_goals (try exact zG)
 all_goals (symm; simp only [Yma, Ymt, Yp9, List.mem_cons, List.not_mem_nil, Bool.or_eq_true, Bool.or_eq_false_iff, decide_eq_true_eq, decide_eq_false_iff_not, or_false]; omega))
abbrev Zc6 (x : Int) (a : Int) (b : Int) : Ct := ⟨132, [], [li x, li a, li b], [], .sv (lb (decide (a <= x /\ x <= b)))⟩
theorem Z1g (x a b : Int)  : Zc6 x a b := Yhq Tryz.call132 Tryz.func132 (.i (a <= x) (.s (lb (decide (x <= b)))) (.s (lb false))) (by
 dsimp only [Yhf, Zc6]
 exact zV)
abbrev Z80 (s : ByteArray) : Ct := ⟨246, [], [ls s], [], .sv (lb (Ym3 s))⟩
def Zy (s : ByteArray) : Lp Nat := .mk 39 0 (fun x => [(0, ls s), (3, hs x 0)]) (fun x => []) (fun k => [.s (li (k : Int))]) (fun k => k <= s.size /\ s.size <= 16 /\
 ((s.data.toList.take k).all fun b => Yma (b.toNat : Int)) = true) (fun k => s.size - k) [.mk ((s.data.toList.all fun b => Yma (b.toNat : Int)) = true) (.exit 0) (fun x =>
 []) (fun x => []) [], .mk ((s.data.toList.all fun b => Yma (b.toNat : Int)) = false) .ret (fun x => [(2, hs x 0)]) (fun x => []) [.s (lb false)]]
theorem Z40 (s : ByteArray) : Lp.Sem Tryz.prog (Yhp Tryz.f246 0) (Zy s) := Yhz (fun k => .h (s.data.toList.length <= 9223372036854775807) (.i ((k : Int)
 < (s.data.toList.length : Int)) (.p (0 <= (k : Int) /\ (k : Int).toNat < s.data.toList.length) (.c [.rd] (Zgt (↑(s.data.toList.getD (k : Int).toNat (0 : UInt8)).toNat :
 Int)) (.b (!Yma (↑(s.data.toList.getD (k : Int).toNat (0 : UInt8)).toNat : Int)) (.o 1 [] [.s (lb false)]) (.r ((k : Int) + 1) (.g [] (k + 1) [.s (li ((k : Int) + 1))])))))
 (.o 0 [] []))) (by
 intro k h; try dsimp only [Yhf, Yhl, Zy] at h ⊢
 have g1 := @Ysk s.data.toList (fun b => Yma b.toNat) k
 have g2 := @Yyc s.data.toList (fun b => Yma b.toNat) k
 have g3 := @Yvk s.data.toList (fun b => Yma b.toNat) k
 exact zV)
theorem Z1r (s : ByteArray)  : Z80 s := Yhq Tryz.call246 Tryz.func246 (.h (s.data.toList.length <= 9223372036854775807) (.c [.rd, .rd, .rd] (Z1g
 (s.data.toList.length : Int) 1 16) (.b (!decide (1 <= (s.data.toList.length : Int) /\ (s.data.toList.length : Int) <= 16)) (.y true (.y true (.s (lb false)))) (.p ((0 : Int) <= 0 /\
 0 < s.data.toList.length) (.c [.rd] (Z7d (↑(s.data.toList.getD 0 (0 : UInt8)).toNat : Int)) (.b (Ymt (↑(s.data.toList.getD 0 (0 : UInt8)).toNat : Int)) (.y true (.s (lb
 false))) (.p ((0 : Int) <= 0 /\ 0 < s.data.toList.length) (.i ((↑(s.data.toList.getD 0 (0 : UInt8)).toNat : Int) = 45) (.h (s.data.toList.length <= 9223372036854775807) (.i (1 <
 (s.data.toList.length : Int)) (.p ((0 : Int) <= 1 /\ 1 < s.data.toList.length) (.c [.rd] (Z7d (↑(s.data.toList.getD 1 (0 : UInt8)).toNat : Int)) (.b (Ymt
 (↑(s.data.toList.getD 1 (0 : UInt8)).toNat : Int)) (.s (lb false)) (.l (Zy s) (Z40 s) [] [.s (li 0)] 0 (.t (.s (lb true)) (.t (.s (lb false)) .q)))))) (.y
 false (.l (Zy s) (Z40 s) [] [.s (li 0)] 0 (.t (.s (lb true)) (.t (.s (lb false)) .q)))))) (.y false (.y false (.l (Zy s) (Z40 s) []
 [.s (li 0)] 0 (.t (.s (lb true)) (.t (.s (lb false)) .q))))))))))))) (by
 dsimp only [Yhf, Z80, Yhl, Zy]
 with_reducible repeat' (first | apply And.intro | exact zR | (intro))
 all_goals ((try simp only [std, inj] at *); with_reducible and_intros)
 all_goals try first | exact z | grind [Ym3, Yhi, Yhh, Yhe])
abbrev Z81 (s : ByteArray) : Ct := ⟨251, [], [ls s], [], .sv (lb (Ym3 s))⟩
def Zz (s : ByteArray) : Lp Nat := .mk 43 0 (fun x => [(0, ls s), (3, hs x 0)]) (fun x => []) (fun k => [.s (li (k : Int))]) (fun k => k <= s.size /\ s.size <= 16 /\
 ((s.data.toList.take k).all fun b => Yma (b.toNat : Int)) = true) (fun k => s.size - k) [.mk ((s.data.toList.all fun b => Yma (b.toNat : Int)) = true) (.exit 0) (fun x =>
 []) (fun x => []) [], .mk ((s.data.toList.all fun b => Yma (b.toNat : Int)) = false) .ret (fun x => [(2, hs x 0)]) (fun x => []) [.s (lb false)]]
theorem Z41 (s : ByteArray) : Lp.Sem Tryz.prog (Yhp Tryz.f251 0) (Zz s) := Yhz (fun k => .h (s.data.toList.length <= 9223372036854775807) (.i ((k : Int)
 < (s.data.toList.length : Int)) (.p (0 <= (k : Int) /\ (k : Int).toNat < s.data.toList.length) (.c [.rd] (Zgu (↑(s.data.toList.getD (k : Int).toNat (0 : UInt8)).toNat :
 Int)) (.b (!Yma (↑(s.data.toList.getD (k : Int).toNat (0 : UInt8)).toNat : Int)) (.o 1 [] [.s (lb false)]) (.r ((k : Int) + 1) (.g [] (k + 1) [.s (li ((k : Int) + 1))])))))
 (.o 0 [] []))) (by
 intro k h; try dsimp only [Yhf, Yhl, Zz] at h ⊢
 have g1 := @Ysk s.data.toList (fun b => Yma b.toNat) k
 have g2 := @Yyc s.data.toList (fun b => Yma b.toNat) k
 have g3 := @Yvk s.data.toList (fun b => Yma b.toNat) k
 exact zV)
theorem Z48 (s : ByteArray)  : Z81 s := Yhq Tryz.call251 Tryz.func251 (.h (s.data.toList.length <= 9223372036854775807) (.i ((s.data.toList.length : Int) < 1) (.y
 true (.y true (.y true (.s (lb false))))) (.h (s.data.toList.length <= 9223372036854775807) (.i (16 < (s.data.toList.length : Int)) (.y true (.y true (.s (lb false)))) (.p ((0 :
 Int) <= 0 /\ 0 < s.data.toList.length) (.c [.rd] (Zc5 (↑(s.data.toList.getD 0 (0 : UInt8)).toNat : Int)) (.b (Ymt (↑(s.data.toList.getD 0 (0 : UInt8)).toNat : Int)) (.y true
 (.s (lb false))) (.p ((0 : Int) <= 0 /\ 0 < s.data.toList.length) (.i ((↑(s.data.toList.getD 0 (0 : UInt8)).toNat : Int) = 45) (.h (s.data.toList.length <= 9223372036854775807) (.i
 (1 < (s.data.toList.length : Int)) (.p ((0 : Int) <= 1 /\ 1 < s.data.toList.length) (.c [.rd] (Zc5 (↑(s.data.toList.getD 1 (0 : UInt8)).toNat : Int)) (.b (Ymt
 (↑(s.data.toList.getD 1 (0 : UInt8)).toNat : Int)) (.s (lb false)) (.l (Zz s) (Z41 s) [] [.s (li 0)] 0 (.t (.s (lb true)) (.t (.s (lb false)) .q)))))) (.y
 false (.l (Zz s) (Z41 s) [] [.s (li 0)] 0 (.t (.s (lb true)) (.t (.s (lb false)) .q)))))) (.y false (.y false (.l (Zz s) (Z41 s) []
 [.s (li 0)] 0 (.t (.s (lb true)) (.t (.s (lb false)) .q)))))))))))))) (by
 dsimp only [Yhf, Z81, Yhl, Zz]
 with_reducible repeat' (first | apply And.intro | exact zR | (intro))
 all_goals ((try simp only [std, inj] at *); with_reducible and_intros)
 all_goals try first | exact z | grind [Ym3, Yhi, Yhh, Yhe])
abbrev Z97 (s : ByteArray) : Ct := ⟨298, [], [ls s], [], .sv (lb (Yr9 s))⟩
def Z3k (s : ByteArray) : Lp Nat := .mk 29 0 (fun x => [(0, ls s), (3, hs x 0)]) (fun x => []) (fun k => [.s (li (k : Int))]) (fun k => k <= s.size /\ ((List.take k
 s.data.toList).all fun b => Ym9 (b.toNat : Int)) = true) (fun k => s.size - k) [.mk ((s.data.toList.all fun b => Ym9 (b.toNat : Int)) = true) (.exit 0) (fun x => [(0, ls
 s)]) (fun x => []) [], .mk ((s.data.toList.all fun b => Ym9 (b.toNat : Int)) = false) .ret (fun x => [(2, hs x 0)]) (fun x => []) [.s (lb false)]]
theorem Zc7 (s : ByteArray) : Lp.Sem Tryz.prog (Yhp Tryz.f298 0) (Z3k s) := Yhz (fun k => .h (s.data.toList.length <= 9223372036854775807) (.i ((k : Int) <
 (s.data.toList.length : Int)) (.p (0 <= (k : Int) /\ (k : Int).toNat < s.data.toList.length) (.i ((↑(s.data.toList.getD (k : Int).toNat (0 : UInt8)).toNat : Int) < 32) (.y true
 (.y true (.o 1 [] [.s (lb false)]))) (.p (0 <= (k : Int) /\ (k : Int).toNat < s.data.toList.length) (.i (126 < (↑(s.data.toList.getD (k : Int).toNat (0 : UInt8)).toNat : Int))
 (.y true (.o 1 [] [.s (lb false)])) (.p (0 <= (k : Int) /\ (k : Int).toNat < s.data.toList.length) (.i ((↑(s.data.toList.getD (k : Int).toNat (0 : UInt8)).toNat : Int) = 34) (.o
 1 [] [.s (lb false)]) (.r ((k : Int) + 1) (.g [] (k + 1) [.s (li ((k : Int) + 1))])))))))) (.o 0 [] []))) (by
 intro k h; try dsimp only [Yhf, Yhl, Z3k] at h ⊢
 have g1 := @Ysk s.data.toList (fun b => Ym9 b.toNat) k
 have g2 := @Yyc s.data.toList (fun b => Ym9 b.toNat) k
 have g3 := @Yvk s.data.toList (fun b => Ym9 b.toNat) k
 with_reducible repeat' (first | apply And.intro | exact zR | (intro))
 all_goals ((try simp only [std, inj] at *); with_reducible and_intros)
 all_goals try first | exact z | grind [Ym9, Yhi, Yhh, Yhe])
theorem Zf8 (s : ByteArray)  : Z97 s := Yhq Tryz.call298 Tryz.func298 (.l (Z3k s) (Zc7 s) [] [.s (li 0)] 0 (.t (.h (s.data.toList.length <=
 9223372036854775807) (.s (lb (decide ((s.data.toList.length : Int) <= 20))))) (.t (.s (lb false)) .q))) (by
 dsimp only [Yhf, Z97, Yhl, Z3k]
 with_reducible repeat' (first | apply And.intro | exact zR | (intro))
 all_goals ((try simp only [std, inj] at *); with_reducible and_intros)
 all_goals try first | exact z | grind [Yr9, Yhi, Yhh, Yhe])
abbrev Z98 (s : ByteArray) : Ct := ⟨302, [], [ls s], [], .sv (lb (Yr9 s))⟩
def Z3l (s : ByteArray) : Lp Nat := .mk 29 0 (fun x => [(0, ls s), (3, hs x 0)]) (fun x => []) (fun k => [.s (li (k : Int))]) (fun k => k <= s.size /\ ((List.take k
 s.data.toList).all fun b => Ym9 (b.toNat : Int)) = true) (fun k => s.size - k) [.mk ((s.data.toList.all fun b => Ym9 (b.toNat : Int)) = true) (.exit 0) (fun x => []) (fun x
 => []) [], .mk ((s.data.toList.all fun b => Ym9 (b.toNat : Int)) = false) .ret (fun x => [(2, hs x 0)]) (fun x => []) [.s (lb false)]]
theorem Zc8 (s : ByteArray) : Lp.Sem Tryz.prog (Yhp Tryz.f302 0) (Z3l s) := Yhz (fun k => .h (s.data.toList.length <= 9223372036854775807) (.i ((k : Int) <
 (s.data.toList.length : Int)) (.p (0 <= (k : Int) /\ (k : Int).toNat < s.data.toList.length) (.i ((↑(s.data.toList.getD (k : Int).toNat (0 : UInt8)).toNat : Int) < 32) (.y true
 (.y true (.o 1 [] [.s (lb false)]))) (.p (0 <= (k : Int) /\ (k : Int).toNat < s.data.toList.length) (.i (126 < (↑(s.data.toList.getD (k : Int).toNat (0 : UInt8)).toNat : Int))
 (.y true (.o 1 [] [.s (lb false)])) (.p (0 <= (k : Int) /\ (k : Int).toNat < s.data.toList.length) (.i ((↑(s.data.toList.getD (k : Int).toNat (0 : UInt8)).toNat : Int) = 34) (.o
 1 [] [.s (lb false)]) (.r ((k : Int) + 1) (.g [] (k + 1) [.s (li ((k : Int) + 1))])))))))) (.o 0 [] []))) (by
 intro k h; try dsimp only [Yhf, Yhl, Z3l] at h ⊢
 have g1 := @Ysk s.data.toList (fun b => Ym9 b.toNat) k
 have g2 := @Yyc s.data.toList (fun b => Ym9 b.toNat) k
 have g3 := @Yvk s.data.toList (fun b => Ym9 b.toNat) k
 with_reducible repeat' (first | apply And.intro | exact zR | (intro))
 all_goals ((try simp only [std, inj] at *); with_reducible and_intros)
 all_goals try first | exact z | grind [Ym9, Yhi, Yhh, Yhe])
theorem Zf9 (s : ByteArray)  : Z98 s := Yhq Tryz.call302 Tryz.func302 (.h (s.data.toList.length <= 9223372036854775807) (.i (20 < (s.data.toList.length : Int)) (.s (lb
 false)) (.l (Z3l s) (Zc8 s) [] [.s (li 0)] 0 (.t (.s (lb true)) (.t (.s (lb false)) .q))))) (by
 dsimp only [Yhf, Z98, Yhl, Z3l]
 with_reducible repeat' (first | apply And.intro | exact zR | (intro))
 all_goals ((try simp only [std, inj] at *); with_reducible and_intros)
 all_goals try first | exact z | grind [Yr9, Yhi, Yhh, Yhe])
def Yoy (k n : Int) (t : ByteArray) (i : Int) : Bool := decide (k = 0 /\ n = 0 /\ t.data.toList = []) || decide (k = 1 /\ n = 0 /\ Ym3 t = true /\ i = 0) || decide (k = 2 /\ -999999999 <= n /\ n <= 999999999 /\ t.data.toList = [] /\ i = 0) || decide (k = 3 /\ 0 <= n /\ n <= 1 /\ t.data.toList = [] /\ i = 0) || decide (k = 4 /\ n = 0 /\ Yr9 t = true /\ i = 0)
abbrev Zav (k : Int) (n : Int) (t : ByteArray) (i : Int) : Ct := ⟨249, [], [li k, li n, ls t, li i], [], .sv (lb (Yoy k n t i))⟩
theorem Zgv (k n : Int) (t : ByteArray) (i : Int)  : Zav k n t i := Yhq Tryz.call249 Tryz.func249 (.i (k = 0) (.i (n = 0) (.s (lb (decide (t.data.toList = [])))) (.s (lb
 false))) (.i (k = 1) (.i (n = 0) (.c [.rd] (Z1r t) (.b (Ym3 t) (.s (lb (decide (i = 0)))) (.s (lb false)))) (.y false (.s (lb false)))) (.i (k = 2) (.c [.rd, .rd, .rd]
 (Z1g n (-999999999 : Int) 999999999) (.i ((-999999999 : Int) <= n /\ n <= 999999999) (.i (t.data.toList = []) (.s (lb (decide (i = 0)))) (.s (lb false))) (.y false (.s (lb
 false))))) (.i (k = 3) (.c [.rd, .rd, .rd] (Z1g n 0 1) (.i (0 <= n /\ n <= 1) (.i (t.data.toList = []) (.s (lb (decide (i = 0)))) (.s (lb false))) (.y false (.s (lb false))))) (.i
 (k = 4) (.i (n = 0) (.c [.rd] (Zf8 t) (.b (Yr9 t) (.s (lb (decide (i = 0)))) (.s (lb false)))) (.y false (.s (lb false)))) (.s (lb false))))))) (by
 dsimp only [Yhf, Zav]
 with_reducible repeat' (first | apply And.intro | exact zR | (intro))
 all_goals ((try simp only [std, inj] at *); with_reducible and_intros)
 all_goals try first | exact z | grind [Yoy, Yhi, Yhh, Yhe])
abbrev Zaw (k : Int) (n : Int) (t : ByteArray) (i : Int) : Ct := ⟨255, [], [li k, li n, ls t, li i], [], .sv (lb (Yoy k n t i))⟩
theorem Zgw (k n : Int) (t : ByteArray) (i : Int)  : Zaw k n t i := Yhq Tryz.call255 Tryz.func255 (.i (k = 0) (.i (n = 0) (.s (lb (decide (t.data.toList = [])))) (.s (lb
 false))) (.i (k = 1) (.i (n = 0) (.i (i = 0) (.c [.rd] (Z48 t) (.s (lb (Ym3 t)))) (.s (lb false))) (.y false (.s (lb false)))) (.i (k = 2) (.i ((-999999999 : Int) <= n)
 (.i (n <= 999999999) (.i (t.data.toList = []) (.s (lb (decide (i = 0)))) (.s (lb false))) (.y false (.s (lb false)))) (.y false (.y false (.s (lb false))))) (.i (k = 3) (.i (n = 0)
 (.y true (.i (t.data.toList = []) (.s (lb (decide (i = 0)))) (.s (lb false)))) (.i (n = 1) (.i (t.data.toList = []) (.s (lb (decide (i = 0)))) (.s (lb false))) (.y false (.s (lb
 false))))) (.i (k = 4) (.i (n = 0) (.i (i = 0) (.c [.rd] (Zf9 t) (.s (lb (Yr9 t)))) (.s (lb false))) (.y false (.s (lb false)))) (.s (lb false))))))) (by
 dsimp only [Yhf, Zaw]
 with_reducible repeat' (first | apply And.intro | exact zR | (intro))
 all_goals ((try simp only [std, inj] at *); with_reducible and_intros)
 all_goals try first | exact z | grind [Yoy, Yhi, Yhh, Yhe])
set_option maxHeartbeats 4000000
def Ym1 (n : Int) : Int := if 1 <= n /\ n <= 99999 then (if n % 3 = 0 then 3 else n % 3) else 0
theorem Yys {n : Int} : Ym1 n = 0 ↔ ¬ (1 <= n /\ n <= 99999) := by unfold Ym1; split <;> (try split) <;> omega
def Yll (L : List Int) : Nat -> Bool
 | 0 => true
 | k + 1 => Yll L k && decide (1 <= L.getD k default /\ L.getD k default <= 99999) && (decide (k = 0) || decide (L.getD (k - 1) default < L.getD k default))
def Yk8 (L : List Int) : Bool := Yll L L.length
theorem Yx6 (L : List Int) : ∀ (m k : Nat), k <= m -> Yll L m = true -> Yll L k = true
 | 0, k, h, _ => by
  obtain rfl : k = 0 := by omega
  rfl
 | m + 1, k, h, ht => by
  by_cases e : k = m + 1
  ·rw [e]; exact ht
  ·refine Yx6 L m k (by omega) ?_
   simp only [Yll, Bool.and_eq_true] at ht; exact ht.1.1
abbrev Zax (n : Int) : Ct := ⟨262, [], [li n], [], .sv (li (Ym1 n))⟩
theorem Zdy (n : Int)  : Zax n := Yhq Tryz.call262 Tryz.func262 (.c [.rd, .rd, .rd] (Z1g n 1 99999) (.b (!decide (1 <= n /\ n <= 99999)) (.s (li 0)) (.p ((3 : Int) ≠ 0)
 (.p (0 <= n.tmod 3 /\ (n.tmod 3).toNat < 3) (.w (.cells (Yhd ([3, 1, 2].getD (n.tmod 3).toNat 0))) (.p ([[cI 3], [cI 1], [cI 2]][(n.tmod 3).toNat]? = some [cI ([3, 1, 2].getD
 (n.tmod 3).toNat 0)]) (.s (li ([3, 1, 2].getD (n.tmod 3).toNat 0))))))))) (by
 dsimp only [Yhf, Zax]
 with_reducible repeat' (first | apply And.intro | exact zR | (intro))
 all_goals ((try simp only [std, inj] at *); with_reducible and_intros)
 all_goals try first | exact z | grind [Ym1, Yhi, Yhh, Yhe])
abbrev Zay (n : Int) : Ct := ⟨301, [], [li n], [], .sv (li (Ym1 n))⟩
theorem Zaf (n : Int)  : Zay n := Yhq Tryz.call301 Tryz.func301 (.i (n < 1) (.y true (.s (li 0))) (.i (99999 < n) (.s (li 0)) (.p ((3 : Int) ≠ 0) (.i (n.tmod (3 : Int) =
 1) (.s (li 1)) (.i (n.tmod (3 : Int) = 2) (.s (li 2)) (.s (li 3))))))) (by
 dsimp only [Yhf, Zay]
 with_reducible repeat' (first | apply And.intro | exact zR | (intro))
 all_goals ((try simp only [std, inj] at *); with_reducible and_intros)
 all_goals try first | exact z | grind [Ym1, Yhi, Yhh, Yhe])
abbrev Z99 (L : List Int) : Ct := ⟨247, [], [ll (L.map Yhd)], [], .sv (lb (Yk8 L))⟩
def Z3m (L : List Int) : Lp Nat := .mk 29 0 (fun x => [(0, ll (L.map Yhd)), (5, ll (L.map Yhd)), (6, li (↑(L.map Yhd).length : Int)), (7, hs x 0)]) (fun
 x => []) (fun k => [.s (li (k : Int))]) (fun k => k <= L.length /\ L.length <= 9223372036854775807 /\ Yll L k = true) (fun k => L.length - k) [.mk (Yk8 L = true) (.exit 0) (fun x
 => []) (fun x => []) [], .mk (Yk8 L = false) .ret (fun x => [(2, hs x 0)]) (fun x => []) [.s (lb false)]]
theorem Zc9 (L : List Int) : Lp.Sem Tryz.prog (Yhp Tryz.f247 0) (Z3m L) := Yhz (fun k => .i ((k : Int) < (↑(L.map Yhd).length : Int)) (.x (k : Int)
 (L.map Yhd) [cI (L.getD k 0)] (.c [.rd] (Zdy (L.getD k 0)) (.i (Ym1 (L.getD k 0) = 0) (.y true (.o 1 [] [.s (lb false)])) (.i (0 < (k : Int)) (.r ((k : Int) - 1) (.x
 ((k : Int) - 1) (L.map Yhd) [cI (L.getD ((k : Int) - 1).toNat 0)] (.i (L.getD k 0 <= L.getD ((k : Int) - 1).toNat 0) (.o 1 [] [.s (lb false)]) (.r ((k : Int) + 1) (.g []
 (k + 1) [.s (li ((k : Int) + 1))]))))) (.y false (.r ((k : Int) + 1) (.g [] (k + 1) [.s (li ((k : Int) + 1))]))))))) (.o 0 [] [])) (by
 intro k h; try dsimp only [Yhf, Yhl, Z3m] at h ⊢
 have g1 := Yx6 L L.length (k + 1)
 have g2 := @Yys (L.getD k 0)
 have e : ((k : Int) - 1).toNat = k - 1 := by omega
 have g3 : Yll L (k + 1) = (Yll L k && decide (1 <= L.getD k 0 /\ L.getD k 0 <= 99999) && (decide (k = 0) || decide (L.getD (k - 1) 0 < L.getD k 0))) := rfl
 with_reducible repeat' (first | apply And.intro | exact zR | (intro))
 all_goals ((try simp only [std, inj] at *); with_reducible and_intros)
 all_goals try first | exact z | grind [Yk8, Yhi, Yhh, Yhe])
theorem Z3e (L : List Int)  : Z99 L := Yhq Tryz.call247 Tryz.func247 (.z Yhd L (.l (Z3m L) (Zc9 L) [] [.s (li 0)] 0 (.t (.s (lb true)) (.t (.s (lb
 false)) .q)))) (by
 dsimp only [Yhf, Z99, Yhl, Z3m]
 with_reducible repeat' (first | apply And.intro | exact zR | (intro))
 all_goals ((try simp only [std, inj] at *); with_reducible and_intros)
 all_goals try first | exact z | grind [Yll, Yhi, Yhh, Yhe])
abbrev Z9a (L : List Int) : Ct := ⟨252, [], [ll (L.map Yhd)], [], .sv (lb (Yk8 L))⟩
def Z3n (L : List Int) : Lp Nat := .mk 29 0 (fun x => [(0, ll (L.map Yhd)), (5, ll (L.map Yhd)), (6, li (↑(L.map Yhd).length : Int)), (7, hs x 0)]) (fun
 x => []) (fun k => [.s (li (k : Int))]) (fun k => k <= L.length /\ L.length <= 9223372036854775807 /\ Yll L k = true) (fun k => L.length - k) [.mk (Yk8 L = true) (.exit 0) (fun x
 => []) (fun x => []) [], .mk (Yk8 L = false) .ret (fun x => [(2, hs x 0)]) (fun x => []) [.s (lb false)]]
theorem Zca (L : List Int) : Lp.Sem Tryz.prog (Yhp Tryz.f252 0) (Z3n L) := Yhz (fun k => .i ((k : Int) < (↑(L.map Yhd).length : Int)) (.x (k : Int)
 (L.map Yhd) [cI (L.getD k 0)] (.c [.rd] (Zaf (L.getD k 0)) (.i (Ym1 (L.getD k 0) = 0) (.y true (.o 1 [] [.s (lb false)])) (.i (0 < (k : Int)) (.r ((k : Int) - 1) (.x
 ((k : Int) - 1) (L.map Yhd) [cI (L.getD ((k : Int) - 1).toNat 0)] (.i (L.getD k 0 <= L.getD ((k : Int) - 1).toNat 0) (.o 1 [] [.s (lb false)]) (.r ((k : Int) + 1) (.g []
 (k + 1) [.s (li ((k : Int) + 1))]))))) (.y false (.r ((k : Int) + 1) (.g [] (k + 1) [.s (li ((k : Int) + 1))]))))))) (.o 0 [] [])) (by
 intro k h; try dsimp only [Yhf, Yhl, Z3n] at h ⊢
 have g1 := Yx6 L L.length (k + 1)
 have g2 := @Yys (L.getD k 0)
 have e : ((k : Int) - 1).toNat = k - 1 := by omega
 have g3 : Yll L (k + 1) = (Yll L k && decide (1 <= L.getD k 0 /\ L.getD k 0 <= 99999) && (decide (k = 0) || decide (L.getD (k - 1) 0 < L.getD k 0))) := rfl
 with_reducible repeat' (first | apply And.intro | exact zR | (intro))
 all_goals ((try simp only [std, inj] at *); with_reducible and_intros)
 all_goals try first | exact z | grind [Yk8, Yhi, Yhh, Yhe])
theorem Z1i (L : List Int)  : Z9a L := Yhq Tryz.call252 Tryz.func252 (.z Yhd L (.l (Z3n L) (Zca L) [] [.s (li 0)] 0 (.t (.s (lb true)) (.t (.s (lb
 false)) .q)))) (by
 dsimp only [Yhf, Z9a, Yhl, Z3n]
 with_reducible repeat' (first | apply And.intro | exact zR | (intro))
 all_goals ((try simp only [std, inj] at *); with_reducible and_intros)
 all_goals try first | exact z | grind [Yll, Yhi, Yhh, Yhe])
def Ymu (k n : Int) (t : ByteArray) (s : List Int) (i : Int) : Bool := Yoy k n t i && Yk8 s && (decide ((s.length : Int) = 0) || decide (k = 1))
mutual
def Yhk : YS -> Nat
 | ⟨_, _, _, _, l⟩ => Yuq l + 1
def Yuq : List YS -> Nat
 | [] => 0
 | c :: r => Yhk c + Yuq r
end
theorem Y112 : ∀ l, Yuq l = Yhb Yhk l
 | [] => by simp [Yuq, Yhb]
 | c :: r => by rw [Yuq, Yhb, Y112 r]
theorem Yi9 (c : YS) : Yhk c = Yhb Yhk c.items + 1 := by cases c; simp only [Yhk, Y112]
mutual
def Yi1 : YS -> Nat
 | ⟨_, _, _, _, l⟩ => Yyb l + 1
def Yyb : List YS -> Nat
 | [] => 0
 | c :: r => max (Yi1 c) (Yyb r)
end
theorem Y14l : ∀ l, Yyb l = Yje Yi1 l
 | [] => by simp [Yyb, Yje]
 | c :: r => by rw [Yyb, Yje, Y14l r]
theorem Yo6 (c : YS) : Yi1 c = Yje Yi1 c.items + 1 := by cases c; simp only [Yi1, Y14l]
theorem Y1h4 : ∀ c : YS, Yi1 c <= Yhk c := by
 refine YS.ind fun c ih => ?_
 have := Y10p ih
 rw [Yi9, Yo6]; omega
mutual
def okY : YS -> Bool
 | ⟨k, n, t, s, l⟩ => Y15h l && Ymu k n t s l.length
def Y15h : List YS -> Bool
 | [] => true
 | c :: r => okY c && Y15h r
end
theorem Y18o : ∀ l, Y15h l = l.all okY
 | [] => by simp [Y15h]
 | c :: r => by rw [Y15h, Y18o r]; rfl
theorem Ymh (c : YS) : okY c = (c.items.all okY && Ymu c.kind c.number c.text c.scopes c.items.length) := by cases c; simp only [okY, Y18o]
def Yi2 (d : YS) : Bool := decide (Yhk d <= 2000) && decide (Yi1 d <= 40) && okY d
mutual
def Yj0 : YS -> Int -> Int -> Bool × Int
 | ⟨k, n, t, s, l⟩, deep, m => if deep <= 40 /\ m + 1 <= 2000 /\ Ymu k n t s l.length = true then Yyf l (deep + 1) (m + 1) else (false, m + 1)
def Yyf : List YS -> Int -> Int -> Bool × Int
 | [], _, m => (true, m)
 | x :: r, deep, m => if (Yj0 x deep m).1 then Yyf r deep (Yj0 x deep m).2 else (false, (Yj0 x deep m).2)
end
theorem Y15e : ∀ l deep m, Yyf l deep m = Yj5 (fun x m => Yj0 x deep m) l m
 | [], _, _ => by simp [Yyf, Yj5]
 | x :: r, deep, m => by simp only [Yyf, Yj5, Y15e r]
theorem Y18a (c : YS) (deep m : Int) : Yj0 c deep m = if deep <= 40 /\ m + 1 <= 2000 /\ Ymu c.kind c.number c.text c.scopes c.items.length = true then Yj5 (fun x m => Yj0 x (deep + 1) m) c.items (m + 1) else (false, m + 1) := by cases c; simp only [Yj0, Y15e]
theorem Ysd : ∀ (c : YS) (deep m : Int), m <= 2000 -> ((Yj0 c deep m).1 = true ↔ (m + Yhk c <= 2000 /\ (deep + Yi1 c <= 41 /\ okY c = true))) /\ ((Yj0 c deep m).1 = true -> (Yj0 c deep m).2 = m + Yhk c) := by
 refine YS.ind fun c ih deep m hm => ?_
 rw [Y18a, Yi9, Yo6, Ymh, Bool.and_eq_true, List.all_eq_true]
 by_cases h : deep <= 40 /\ m + 1 <= 2000 /\ Ymu c.kind c.number c.text c.scopes c.items.length = true
 ·rw [if_pos h]
  have h1 := Y18m (fun x m => Yj0 x (deep + 1) m) Yhk (fun x => deep + 1 + Yi1 x <= 41 /\ okY x = true) 2000 c.items (fun x hx m hm => ih x hx (deep + 1) m hm) (m + 1) h.2.1
  have h2 := Y14x Yi1 (m := (40 - deep).toNat) (L := c.items)
  constructor
  ·rw [h1.1]
   constructor
   ·rintro ⟨a, b⟩
    have := h2.2 fun x hx => by have := (b x hx).1; omega
    exact ⟨by omega, by omega, fun x hx => (b x hx).2, h.2.2⟩
   ·rintro ⟨a, b, d, e⟩
    have := h2.1 (by omega)
    exact ⟨by omega, fun x hx => ⟨by have := this x hx; omega, d x hx⟩⟩
  ·intro ht; rw [h1.2 ht]; omega
 ·rw [if_neg h]
  refine ⟨⟨fun e => Bool.noConfusion e, ?_⟩, fun e => Bool.noConfusion e⟩
  rintro ⟨a, b, d, e⟩
  exact absurd ⟨by omega, by omega, e⟩ h
theorem Ytf (d : YS) : (Yj0 d 1 0).1 = Yi2 d := by
 have h := (Ysd d 1 0 (by decide)).1
 rw [Bool.eq_iff_iff, h]
 simp only [Yi2, Bool.and_eq_true, decide_eq_true_eq, and_assoc]
 constructor
 ·rintro ⟨a, b, e⟩; exact ⟨by omega, by omega, e⟩
 ·rintro ⟨a, b, e⟩; exact ⟨by omega, by omega, e⟩
abbrev Z15 (d : YS) (l : Int) : Ct := ⟨180, [.box [vI l]], [Yhu d, .one (.ptr 0 0)], [.box [vI (max (l - Yhk d) (-1))]], .sv (lb (decide (Yhk d <= l)))⟩
def Z3o (d : YS) (l : Int) : Lp Nat := .mk 36 1 (fun x => [(1, .one (.ptr 0 0)), (2, .one (.ptr 1 0)), (5, hs x 0)]) (fun x => [.box [ha x 1], .box (vals
 (Yhg d))]) (fun k => [.s (li (k : Int)), .a (vI (max (l - 1 - (↑(Yhb Yhk (d.items.take k)) : Int)) (-1 : Int)))]) (fun k => d.items.length >= k) (fun k =>
 d.items.length - k) [.mk True (.exit 0) (fun x => [(1, .one (.ptr 0 0))]) (fun x => [.box [ha x 0]]) [.a (vI (max (l - (↑(Yhk d) : Int)) (-1 : Int)))]]
theorem Zcb (d : YS) (l : Int) (h : 0 <= l /\ l <= 1000000) (ih : ∀ (z : YS), z ∈ d.items -> ∀ (l : Int), 0 <= l /\ l <= 1000000 -> OK (Z15 z l)) : Lp.Sem Tryz.prog
 (Yhp Tryz.f180 0) (Z3o d l) := Yhz (fun k => .z Yh9 d.items (.i ((k : Int) < (↑(d.items.map Yh9).length : Int)) (.i (0 <= max (l - 1 - (↑(Yhb Yhk
 (d.items.take k)) : Int)) (-1 : Int)) (.x (k : Int) (d.items.map Yh9) (Yhg (d.items.getD k default)) (.d [.rd, .ptr] (Z15 (d.items.getD k default) (max (l
 - 1 - (↑(Yhb Yhk (d.items.take k)) : Int)) (-1 : Int))) (.r ((k : Int) + 1) (.g [0, 1] (k + 1) [.s (li ((k : Int) + 1)), .a (vI (max (max (l - 1 - (↑(Yhb Yhk
 (d.items.take k)) : Int)) (-1 : Int) - (↑(Yhk (d.items.getD k default)) : Int)) (-1 : Int)))])))) (.o 0 [0] [.a (vI (max (l - 1 - (↑(Yhb Yhk (d.items.take k)) :
 Int)) (-1 : Int)))])) (.y false (.o 0 [0] [.a (vI (max (l - 1 - (↑(Yhb Yhk (d.items.take k)) : Int)) (-1 : Int)))])))) (by
 intro k h; try dsimp only [Yhf, Yhl, Z3o] at h ⊢
 have g1 := Yi9 d
 have g2 := Yiz Yhk d.items k
 have g3 := @Yjj _ _ Yhk d.items k
 with_reducible repeat' (first | apply And.intro | exact zR | exact ih | (intro) | apply ih)
 all_goals ((try simp only [std, inj] at *); with_reducible and_intros)
 all_goals try with_reducible first | apply ih
 all_goals try first | exact z | grind [Yhj, Yhi, Yhh, Yhe])
theorem Zfa (d : YS) (l : Int) (h : 0 <= l /\ l <= 1000000) (ih : ∀ z ∈ d.items, ∀ (l : Int) (h : 0 <= l /\ l <= 1000000), Z15 z l)  : Z15 d l := Yhq Tryz.call180
 Tryz.func180 (.r (l - 1) (.l (Z3o d l) (Zcb d l h ih) [0, 1] [.s (li 0), .a (vI (l - 1))] 0 (.t (.f [] [.box [vI (max (l - (↑(Yhk d) : Int)) (-1 : Int))]]
 (.sv (lb (decide (0 <= max (l - (↑(Yhk d) : Int)) (-1 : Int)))))) .q))) (by
 dsimp only [Yhf, Z15, Yhl, Z3o]
 have g1 := Yi9 d
 have g2 : Yhb Yhk (d.items.take 0) = 0 := rfl
 with_reducible repeat' (first | apply And.intro | exact zR | exact ih | (intro))
 all_goals ((try simp only [std, inj] at *); with_reducible and_intros)
 all_goals try with_reducible first | apply ih
 all_goals (try exact zG))
theorem Z1s (d : YS) : ∀ (l : Int) (h : 0 <= l /\ l <= 1000000), Z15 d l := YS.ind (P := fun d => ∀ (l : Int) (h : 0 <= l /\ l <= 1000000), Z15 d l) (fun d ih l h => Zfa d l h ih) d
abbrev Z1j (d : YS) : Ct := ⟨181, [], [Yhu d], [], .sv (li (Yi1 d))⟩
def Z3p (d : YS) : Lp Nat := .mk 20 0 (fun x => [(3, hs x 1), (7, ll (d.items.map Yh9)), (8, li (↑(d.items.map Yh9).length : Int)), (9, hs x 0)])
 (fun x => []) (fun k => [.s (li (k : Int)), .s (li (↑(Yje Yi1 (d.items.take k)) : Int))]) (fun k => k <= d.items.length /\ d.items.length <= 9223372036854775807) (fun k =>
 d.items.length - k) [.mk True (.exit 0) (fun x => [(3, hs x 0)]) (fun x => []) [.s (li (↑(Yje Yi1 d.items) : Int))]]
theorem Zcc (d : YS) (h : Yhk d <= 2147483647) (ih : ∀ (z : YS), z ∈ d.items -> Yhk z <= 2147483647 -> OK (Z1j z)) : Lp.Sem Tryz.prog (Yhp Tryz.f181 0)
 (Z3p d) := Yhz (fun k => .i ((k : Int) < (↑(d.items.map Yh9).length : Int)) (.x (k : Int) (d.items.map Yh9) (Yhg (d.items.getD k default)) (.d
 [.rd] (Z1j (d.items.getD k default)) (.r ((k : Int) + 1) (.g [] (k + 1) [.s (li ((k : Int) + 1)), .s (li (max (↑(Yje Yi1 (d.items.take k)) : Int) (↑(Yi1
 (d.items.getD k default)) : Int)))])))) (.o 0 [] [.s (li (↑(Yje Yi1 (d.items.take k)) : Int))])) (by
 intro k h; try dsimp only [Yhf, Yhl, Z3p] at h ⊢
 have g1 := Yi9 d
 have g2 := @Yi4 _ Yhk d.items (d.items.getD k default)
 with_reducible repeat' (first | apply And.intro | exact zR | exact ih | (intro) | apply ih)
 all_goals ((try simp only [std, inj] at *); with_reducible and_intros)
 all_goals try with_reducible first | apply ih
 all_goals try first | exact z | grind [Y19k, Yhj, Yhi, Yhh, Yhe])
theorem Zfb (d : YS) (h : Yhk d <= 2147483647) (ih : ∀ z ∈ d.items, ∀ (h : Yhk z <= 2147483647), Z1j z)  : Z1j d := Yhq Tryz.call181 Tryz.func181 (.z Yh9
 d.items (.l (Z3p d) (Zcc d h ih) [] [.s (li 0), .s (li 0)] 0 (.t (.r ((↑(Yje Yi1 d.items) : Int) + 1) (.s (li ((↑(Yje Yi1 d.items) : Int) + 1)))) .q))) (by
 dsimp only [Yhf, Z1j, Yhl, Z3p]
 have h1 := Y1h4 d
 have g2 : Yje Yi1 (d.items.take 0) = 0 := rfl
 with_reducible repeat' (first | apply And.intro | exact zR | exact ih | (intro))
 all_goals ((try simp only [std, inj] at *); with_reducible and_intros)
 all_goals try with_reducible first | apply ih
 all_goals try first | exact z | grind [Yo6, Yhi, Yhh, Yhe])
theorem Zdz (d : YS) : ∀ (h : Yhk d <= 2147483647), Z1j d := YS.ind (P := fun d => ∀ (h : Yhk d <= 2147483647), Z1j d) (fun d ih h => Zfb d h ih) d
abbrev Z3a (d : YS) : Ct := ⟨182, [], [Yhu d], [], .sv (lb (okY d))⟩
def Z49 (d : YS) : Lp Nat := .mk 42 0 (fun x => [(1, .one (.ptr 0 0)), (6, ll (d.items.map Yh9)), (7, li (↑(d.items.map Yh9).length : Int)), (8,
 hs x 0)]) (fun x => [.box (vals (Yhg d))]) (fun k => [.s (li (k : Int))]) (fun k => k <= d.items.length /\ d.items.length <= 9223372036854775807 /\ (d.items.take k).all
 okY = true) (fun k => d.items.length - k) [.mk (d.items.all okY = true) (.exit 0) (fun x => [(1, .one (.ptr 0 0))]) (fun x => [.box (vals (Yhg d))]) [], .mk (d.items.all
 okY = false) .ret (fun x => [(2, hs x 0)]) (fun x => []) [.s (lb false)]]
theorem Zdd (d : YS) (ih : ∀ (z : YS), z ∈ d.items -> OK (Z3a z)) : Lp.Sem Tryz.prog (Yhp Tryz.f182 0) (Z49 d) := Yhz (fun k => .i ((k : Int) <
 (↑(d.items.map Yh9).length : Int)) (.x (k : Int) (d.items.map Yh9) (Yhg (d.items.getD k default)) (.d [.rd] (Z3a (d.items.getD k default)) (.b (!okY
 (d.items.getD k default)) (.o 1 [] [.s (lb false)]) (.r ((k : Int) + 1) (.g [0] (k + 1) [.s (li ((k : Int) + 1))]))))) (.o 0 [0] [])) (by
 intro k h; try dsimp only [Yhf, Yhl, Z49] at h ⊢
 with_reducible repeat' (first | apply And.intro | exact zR | exact ih | (intro) | apply ih)
 all_goals ((try simp only [std, inj] at *); with_reducible and_intros)
 all_goals try with_reducible first | apply ih
 all_goals try first | exact z | grind [Yhy, Yhj, Yhi, Yhh, Yhe])
theorem Zgg (d : YS) (ih : ∀ z ∈ d.items, Z3a z)  : Z3a d := Yhq Tryz.call182 Tryz.func182 (.z Yh9 d.items (.l (Z49 d) (Zdd d ih) [0] [.s (li
 0)] 0 (.t (.z Yh9 d.items (.c [.rd, .rd, .rd, .rd] (Zgv d.kind d.number d.text (↑(d.items.map Yh9).length : Int)) (.b (Yoy d.kind d.number d.text (↑(List.map
 Yh9 d.items).length : Int)) (.c [.rd] (Z3e d.scopes) (.b (Yk8 d.scopes) (.z Yhd d.scopes (.i ((↑(d.scopes.map Yhd).length : Int) = 0) (.s (lb true)) (.s (lb
 (decide (d.kind = 1)))))) (.s (lb false)))) (.y false (.s (lb false)))))) (.t (.s (lb false)) .q)))) (by
 dsimp only [Yhf, Z3a, Yhl, Z49]
 with_reducible repeat' (first | apply And.intro | exact zR | exact ih | (intro))
 all_goals ((try simp only [std, inj] at *); with_reducible and_intros)
 all_goals try with_reducible first | apply ih
 all_goals try first | exact z | grind [Ymh, Ymu, Yhi, Yhh, Yhe])
theorem Zh2 (d : YS) : Z3a d := YS.ind (P := fun d => Z3a d) (fun d ih => Zgg d ih) d
abbrev Z82 (d : YS) : Ct := ⟨105, [], [Yhu d], [], .sv (lb (Yi2 d))⟩
theorem Z1t (d : YS)  : Z82 d := Yhq Tryz.call105 Tryz.func105 (.d [.rd, .ptr] (Z15 d 2000) (.i ((↑(Yhk d) : Int) <= 2000) (.d [.rd] (Z1j d) (.i
 ((↑(Yi1 d) : Int) <= 40) (.c [.rd] (Zh2 d) (.s (lb (okY d)))) (.s (lb false)))) (.y false (.s (lb false))))) (by
 dsimp only [Yhf, Z82]
 with_reducible repeat' (first | apply And.intro | exact zR | (intro) | apply Z1s | apply Zdz)
 all_goals ((try simp only [std, inj] at *); with_reducible and_intros)
 all_goals try with_reducible first | apply Z1s | apply Zdz
 all_goals try first | exact z | grind [Yi2, Yhi, Yhh, Yhe])
abbrev Z16 (d : YS) (deep : Int) (q : Int) : Ct := ⟨188, [.box [vI q]], [Yhu d, li deep, .one (.ptr 0 0)], [.box [vI (Yj0 d deep q).2]], .sv (lb (Yj0 d deep q).1)⟩
def Z21 (d : YS) (deep : Int) (q : Int) : Lp Nat := .mk 64 1 (fun x => [(1, li deep), (2, .one (.ptr 0 0)), (51, ll (d.items.map Yh9)), (52, li
 (↑(d.items.map Yh9).length : Int)), (53, hs x 0)]) (fun x => [.box [ha x 1]]) (fun k => [.s (li (k : Int)), .a (vI (Yj5 (fun x m => Yj0 x (deep + 1) m) (List.take k
 d.items) (q + 1)).snd)]) (fun k => k <= d.items.length /\ d.items.length <= 9223372036854775807 /\ deep <= 40 /\ (Yj5 (fun x m => Yj0 x (deep + 1) m) (d.items.take k) (q +
 1)).fst = true /\ q <= (Yj5 (fun x m => Yj0 x (deep + 1) m) (d.items.take k) (q + 1)).snd /\ (Yj5 (fun x m => Yj0 x (deep + 1) m) (d.items.take k) (q + 1)).snd <= 2000)
 (fun k => d.items.length - k) [.mk ((Yj5 (fun x m => Yj0 x (deep + 1) m) d.items (q + 1)).fst = true) (.exit 0) (fun x => []) (fun x => [.box [ha x 0]]) [.a (vI (Yj5 (fun x m
 => Yj0 x (deep + 1) m) d.items (q + 1)).snd)], .mk ((Yj5 (fun x m => Yj0 x (deep + 1) m) d.items (q + 1)).fst = false) .ret (fun x => [(6, hs x 0)]) (fun x => [.box [ha x
 1]]) [.s (lb false), .a (vI (Yj5 (fun x m => Yj0 x (deep + 1) m) d.items (q + 1)).snd)]]
theorem Z87 (d : YS) (deep : Int) (q : Int) (h : 0 <= deep /\ deep <= 41 /\ 0 <= q /\ q <= 2000) (ih : ∀ (z : YS), z ∈ d.items -> ∀ (deep q : Int), 0 <= deep /\ deep <= 41 /\
 0 <= q /\ q <= 2000 -> OK (Z16 z deep q)) : Lp.Sem Tryz.prog (Yhp Tryz.f188 0) (Z21 d deep q) := Yhz (fun k => .i ((k : Int) < (↑(d.items.map Yh9).length
 : Int)) (.x (k : Int) (d.items.map Yh9) (Yhg (d.items.getD k default)) (.r (deep + 1) (.d [.rd, .rd, .ptr] (Z16 (d.items.getD k default) (deep + 1) (Yj5 (fun
 x m => Yj0 x (deep + 1) m) (d.items.take k) (q + 1)).snd) (.b (!(Yj0 (d.items.getD k default) (deep + 1) (Yj5 (fun x m => Yj0 x (deep + 1) m) (d.items.take k) (q +
 1)).snd).fst) (.o 1 [0] [.s (lb false), .a (vI (Yj0 (d.items.getD k default) (deep + 1) (Yj5 (fun x m => Yj0 x (deep + 1) m) (d.items.take k) (q + 1)).snd).snd)]) (.r ((↑k
 : Int) + 1) (.g [0] (k + 1) [.s (li ((k : Int) + 1)), .a (vI (Yj0 (d.items.getD k default) (deep + 1) (Yj5 (fun x m => Yj0 x (deep + 1) m) (d.items.take k) (q +
 1)).snd).snd)])))))) (.o 0 [0] [.a (vI (Yj5 (fun x m => Yj0 x (deep + 1) m) (d.items.take k) (q + 1)).snd)])) (by
 intro k h; try dsimp only [Yhf, Yhl, Z21] at h ⊢
 have g1 := fun x m => Ysd x (deep + 1) m
 with_reducible repeat' (first | apply And.intro | exact zR | exact ih | (intro) | apply ih)
 all_goals ((try simp only [std, inj] at *); with_reducible and_intros)
 all_goals try with_reducible first | apply ih
 all_goals try first | exact z | grind [Y11c, Y1by, Yhj, Yhi, Yhh, Yhe])
theorem Zfc (d : YS) (deep q : Int) (h : 0 <= deep /\ deep <= 41 /\ 0 <= q /\ q <= 2000) (ih : ∀ z ∈ d.items, ∀ (deep : Int) (q : Int) (h : 0 <= deep /\ deep <= 41 /\ 0 <= q /\ q <=
 2000), Z16 z deep q)  : Z16 d deep q := Yhq Tryz.call188 Tryz.func188 (.r (q + 1) (.i (40 < deep) (.y true (.y true (.f [] [.box [vI (q + 1)]] (.sv (lb false)))))
 (.i (2000 < q + 1) (.y true (.f [] [.box [vI (q + 1)]] (.sv (lb false)))) (.z Yh9 d.items (.c [.rd, .rd, .rd, .rd] (Zgw d.kind d.number d.text (↑(List.map Yh9
 d.items).length : Int)) (.b (!Yoy d.kind d.number d.text (↑(d.items.map Yh9).length : Int)) (.f [] [.box [vI (q + 1)]] (.sv (lb false))) (.i (d.kind ≠ 1) (.z Yhd
 d.scopes (.i (0 < (↑(d.scopes.map Yhd).length : Int)) (.y true (.f [] [.box [vI (q + 1)]] (.sv (lb false)))) (.c [.rd] (Z1i d.scopes) (.b (!Yk8 d.scopes) (.f []
 [.box [vI (q + 1)]] (.sv (lb false))) (.z Yh9 d.items (.l (Z21 d deep q) (Z87 d deep q h ih) [0] [.s (li 0), .a (vI (q + 1))] 0 (.t (.f [] [.box [vI
 (Yj5 (fun x m => Yj0 x (deep + 1) m) d.items (q + 1)).snd]] (.sv (lb true))) (.t (.f [] [.box [vI (Yj5 (fun x m => Yj0 x (deep + 1) m) d.items (q + 1)).snd]] (.sv (lb
 false))) .q)))))))) (.y false (.c [.rd] (Z1i d.scopes) (.b (!Yk8 d.scopes) (.f [] [.box [vI (q + 1)]] (.sv (lb false))) (.z Yh9 d.items (.l (Z21 d deep q)
 (Z87 d deep q h ih) [0] [.s (li 0), .a (vI (q + 1))] 0 (.t (.f [] [.box [vI (Yj5 (fun x m => Yj0 x (deep + 1) m) d.items (q + 1)).snd]] (.sv (lb true))) (.t (.f []
 [.box [vI (Yj5 (fun x m => Yj0 x (deep + 1) m) d.items (q + 1)).snd]] (.sv (lb false))) .q)))))))))))))) (by
 dsimp only [Yhf, Z16, Yhl, Z21]
 with_reducible repeat' (first | apply And.intro | exact zR | exact ih | (intro))
 all_goals ((try simp only [std, inj] at *); with_reducible and_intros)
 all_goals try with_reducible first | apply ih
 all_goals try first | exact z | grind [Y18a, Yj5, Ymu, Yhi, Yhh, Yhe])
theorem Zq (d : YS) : ∀ (deep : Int) (q : Int) (h : 0 <= deep /\ deep <= 41 /\ 0 <= q /\ q <= 2000), Z16 d deep q := YS.ind (P := fun d => ∀ (deep : Int) (q : Int) (h : 0 <= deep /\ deep <= 41 /\ 0 <= q /\ q <= 2000), Z16 d deep q) (fun d ih deep q h => Zfc d deep q h ih) d
abbrev Z83 (d : YS) : Ct := ⟨109, [], [Yhu d], [], .sv (lb (Yi2 d))⟩
theorem Z1c (d : YS)  : Z83 d := Yhq Tryz.call109 Tryz.func109 (.d [.rd, .rd, .ptr] (Z16 d 1 0) (.s (lb (Yj0 d 1 0).fst))) (by
 dsimp only [Yhf, Z83]
 with_reducible repeat' (first | apply And.intro | exact zR | (intro) | apply Zq)
 all_goals ((try simp only [std, inj] at *); with_reducible and_intros)
 all_goals try with_reducible first | apply Zq
 all_goals try first | exact z | grind [Ytf, Yhi, Yhh, Yhe])
abbrev Zaz (s : YS) : Ct := ⟨130, [], [Yhu s], [], .sv (lb (decide (s.kind = 1) && Yi2 s))⟩
theorem Zag (s : YS)  : Zaz s := Yhq Tryz.call130 Tryz.func130 (.i (s.kind = 1) (.c [.rd] (Z1t s) (.s (lb (Yi2 s)))) (.s (lb false))) (by
 dsimp only [Yhf, Zaz]
 exact zV)
abbrev Zb0 (s : YS) : Ct := ⟨72, [], [Yhu s], [], .sv (lb (decide (s.kind = 1) && Yi2 s))⟩
theorem Zj (s : YS)  : Zb0 s := Yhq Tryz.call72 Tryz.func72 (.i (s.kind = 1) (.c [.rd] (Z1c s) (.s (lb (Yi2 s)))) (.s (lb false))) (by
 dsimp only [Yhf, Zb0]
 exact zV)
set_option maxHeartbeats 4000000
abbrev Z84 (A : List Int) (B : List Int) : Ct := ⟨248, [], [ll (A.map Yhd), ll (B.map Yhd)], [], .sv (lb (decide (A = B)))⟩
def Z2d (A : List Int) (B : List Int) : Lp Nat := .mk 26 0 (fun x => [(0, ll (A.map Yhd)), (1, ll (B.map Yhd)), (12, li (↑(A.map Yhd).length : Int)),
 (13, hs x 0)]) (fun x => []) (fun k => [.s (li (k : Int))]) (fun k => k <= A.length /\ A.length <= 9223372036854775807 /\ A.length = B.length /\ A.take k = B.take k) (fun k
 => A.length - k) [.mk (A = B) (.exit 0) (fun x => []) (fun x => []) [], .mk (A ≠ B) .ret (fun x => [(4, hs x 0)]) (fun x => []) [.s (lb false)]]
theorem Zah (A : List Int) (B : List Int) : Lp.Sem Tryz.prog (Yhp Tryz.f248 0) (Z2d A B) := Yhz (fun k => .i ((k : Int) < (↑(A.map Yhd).length :
 Int)) (.w (.draw []) (.x (k : Int) (A.map Yhd) [cI (A.getD k 0)] (.x (k : Int) (B.map Yhd) [cI (B.getD k 0)] (.i (A.getD k (0 : Int) ≠ B.getD k 0) (.o 1 [] [.s (lb
 false)]) (.r ((k : Int) + 1) (.g [] (k + 1) [.s (li ((k : Int) + 1))])))))) (.o 0 [] [])) (by
 intro k h; try dsimp only [Yhf, Yhl, Z2d] at h ⊢
 with_reducible repeat' (first | apply And.intro | exact zR | (intro))
 all_goals ((try simp only [std, inj] at *); with_reducible and_intros)
 all_goals try first | exact z | grind [Yq8, Yhi, Yhh, Yhe])
theorem Z9b (A B : List Int)  : Z84 A B := Yhq Tryz.call248 Tryz.func248 (.z Yhd A (.z Yhd B (.i ((↑(A.map Yhd).length : Int) ≠ (↑(B.map Yhd).length
 : Int)) (.s (lb false)) (.z Yhd A (.l (Z2d A B) (Zah A B) [] [.s (li 0)] 0 (.t (.s (lb true)) (.t (.s (lb false)) .q))))))) (by
 dsimp only [Yhf, Z84, Yhl, Z2d]
 exact zV)
abbrev Z85 (A : List Int) (B : List Int) : Ct := ⟨187, [], [ll (A.map Yhd), ll (B.map Yhd)], [], .sv (lb (decide (A = B)))⟩
def Z2e (A : List Int) (B : List Int) : Lp Nat := .mk 26 0 (fun x => [(0, ll (A.map Yhd)), (1, ll (B.map Yhd)), (12, li (↑(A.map Yhd).length : Int)),
 (13, hs x 0)]) (fun x => []) (fun k => [.s (li (k : Int))]) (fun k => k <= A.length /\ A.length <= 9223372036854775807 /\ A.length = B.length /\ A.take k = B.take k) (fun k
 => A.length - k) [.mk (A = B) (.exit 0) (fun x => []) (fun x => []) [], .mk (A ≠ B) .ret (fun x => [(4, hs x 0)]) (fun x => []) [.s (lb false)]]
theorem Zai (A : List Int) (B : List Int) : Lp.Sem Tryz.prog (Yhp Tryz.f187 0) (Z2e A B) := Yhz (fun k => .i ((k : Int) < (↑(A.map Yhd).length :
 Int)) (.w (.draw []) (.x (k : Int) (A.map Yhd) [cI (A.getD k 0)] (.x (k : Int) (B.map Yhd) [cI (B.getD k 0)] (.i (A.getD k (0 : Int) ≠ B.getD k 0) (.o 1 [] [.s (lb
 false)]) (.r ((k : Int) + 1) (.g [] (k + 1) [.s (li ((k : Int) + 1))])))))) (.o 0 [] [])) (by
 intro k h; try dsimp only [Yhf, Yhl, Z2e] at h ⊢
 with_reducible repeat' (first | apply And.intro | exact zR | (intro))
 all_goals ((try simp only [std, inj] at *); with_reducible and_intros)
 all_goals try first | exact z | grind [Yq8, Yhi, Yhh, Yhe])
theorem Z9c (A B : List Int)  : Z85 A B := Yhq Tryz.call187 Tryz.func187 (.z Yhd A (.z Yhd B (.i ((↑(A.map Yhd).length : Int) ≠ (↑(B.map Yhd).length
 : Int)) (.s (lb false)) (.z Yhd A (.l (Z2e A B) (Zai A B) [] [.s (li 0)] 0 (.t (.s (lb true)) (.t (.s (lb false)) .q))))))) (by
 dsimp only [Yhf, Z85, Yhl, Z2e]
 exact zV)
set_option maxHeartbeats 4000000
def Y1au : List UInt8 := [46, 46, 46]
def Yhn (s : YS) : Bool := decide (s.kind = 1) && decide (s.text.data.toList = Y1au)
def Yl5 (s : YS) : Bool := decide (s.kind = 1) && Yi2 s
def Yl7 (s : YS) (x : YC) : Bool := decide (x.name.text = s.text) && decide (x.name.scopes = s.scopes) && Yl5 x.name
def Ym4 (L : List YC) (s : YS) : Nat := L.findIdx (Yl7 s)
def fnd (L : List YC) (s : YS) : Int := if Yhn s = false /\ Ym4 L s < L.length then Ym4 L s else -1
theorem Y189 {L : List YC} {s : YS} {k : Nat} (hk : k < L.length) (hb : k <= Ym4 L s) (h : Yl7 s (L.getD k default) = true) : Ym4 L s = k := by
 have h1 : L.getD k default = L[k] := by simp [hk]
 rw [h1] at h
 rcases Nat.lt_or_ge k (Ym4 L s) with h2 | h2
 ·have := List.not_of_lt_findIdx h2
  simp [h] at this
 ·omega
theorem Y10k {L : List YC} {s : YS} {k : Nat} (hk : k < L.length) (hb : k <= Ym4 L s) (h : Yl7 s (L.getD k default) = false) : k + 1 <= Ym4 L s := by
 have h1 : L.getD k default = L[k] := by simp [hk]
 rw [h1] at h
 rcases Nat.lt_or_ge k (Ym4 L s) with h2 | h2
 ·exact h2
 ·have e : Ym4 L s = k := by omega
  have := List.findIdx_getElem (p := Yl7 s) (xs := L) (w := by show Ym4 L s < _; omega)
  have h3 : Yl7 s (L[Ym4 L s]'(by omega)) = true := this
  simp only [e, h] at h3
  exact absurd h3 (by decide)
theorem Y175 (L : List YC) (s : YS) : Ym4 L s <= L.length := List.findIdx_le_length
theorem Yme (L : List YC) (s : YS) : -1 <= fnd L s /\ fnd L s < L.length := by
 unfold fnd; split <;> omega
abbrev Zb1 (s : YS) : Ct := ⟨133, [], [Yhu s], [], .sv (lb (Yhn s))⟩
theorem Ze (s : YS)  : Zb1 s := Yhq Tryz.call133 Tryz.func133 (.i (s.kind = 1) (.s (lb (decide (s.text.data.toList = [(46 : UInt8), (46 : UInt8), (46 : UInt8)]))))
 (.s (lb false))) (by
 dsimp only [Yhf, Zb1]
 with_reducible repeat' (first | apply And.intro | exact zR | (intro))
 all_goals ((try simp only [std, inj] at *); with_reducible and_intros)
 all_goals try first | exact z | grind [Yhn, Y1au, Yhi, Yhh, Yhe])
abbrev Zb2 (s : YS) : Ct := ⟨145, [], [Yhu s], [], .sv (lb (Yhn s))⟩
theorem Z0 (s : YS)  : Zb2 s := Yhq Tryz.call145 Tryz.func145 (.i (s.kind = 1) (.s (lb (decide (s.text.data.toList = [(46 : UInt8), (46 : UInt8), (46 : UInt8)]))))
 (.s (lb false))) (by
 dsimp only [Yhf, Zb2]
 with_reducible repeat' (first | apply And.intro | exact zR | (intro))
 all_goals ((try simp only [std, inj] at *); with_reducible and_intros)
 all_goals try first | exact z | grind [Yhn, Y1au, Yhi, Yhh, Yhe])
abbrev Zb3 (a : YS) (b : YS) : Ct := ⟨250, [], [Yhu a, Yhu b], [], .sv (lb (decide (a.text = b.text) && decide (a.scopes = b.scopes)))⟩
theorem Ze0 (a b : YS)  : Zb3 a b := Yhq Tryz.call250 Tryz.func250 (.i (a.text.data.toList = b.text.data.toList) (.c [.rd, .rd] (Z9b a.scopes b.scopes) (.s (lb
 (decide (a.scopes = b.scopes))))) (.s (lb false))) (by
 dsimp only [Yhf, Zb3]
 with_reducible repeat' (first | apply And.intro | exact zR | (intro))
 all_goals ((try simp only [std, inj] at *); with_reducible and_intros)
 all_goals try first | exact z | grind [Ykg, Yhi, Yhh, Yhe])
abbrev Zb4 (a : YS) (b : YS) : Ct := ⟨256, [], [Yhu a, Yhu b], [], .sv (lb (decide (a.kind = 1) && decide (b.kind = 1) && decide (a.text = b.text) && decide (a.scopes = b.scopes)))⟩
theorem Zaj (a b : YS)  : Zb4 a b := Yhq Tryz.call256 Tryz.func256 (.i (a.kind = 1) (.i (b.kind = 1) (.i (a.text.data.toList = b.text.data.toList) (.c [.rd, .rd]
 (Z9c a.scopes b.scopes) (.s (lb (decide (a.scopes = b.scopes))))) (.s (lb false))) (.y false (.s (lb false)))) (.y false (.y false (.s (lb false))))) (by
 dsimp only [Yhf, Zb4]
 with_reducible repeat' (first | apply And.intro | exact zR | (intro))
 all_goals ((try simp only [std, inj] at *); with_reducible and_intros)
 all_goals try first | exact z | grind [Ykg, Yhi, Yhh, Yhe])
abbrev Zb5 (L : List YC) (s : YS) : Ct := ⟨223, [], [ll (L.map Yha), Yhu s], [], .sv (li (fnd L s))⟩
def Z55 (L : List YC) (s : YS) : Lp Nat := .mk 30 0 (fun x => [(3, .one (.ptr 0 0)), (7, ll (L.map Yha)), (8, li (↑(L.map Yha).length :
 Int)), (9, hs x 0)]) (fun x => [.box (vals (Yhg s))]) (fun k => [.s (li (k : Int))]) (fun k => k <= L.length /\ L.length <= 9223372036854775807 /\ (Yhn s = true ∨ k <= Ym4 L
 s)) (fun k => L.length - k) [.mk (fnd L s = (-1 : Int)) (.exit 0) (fun x => []) (fun x => []) [], .mk True .ret (fun x => [(4, hs x 0)]) (fun x => []) [.s (li (fnd L s))]]
theorem Zeg (L : List YC) (s : YS) : Lp.Sem Tryz.prog (Yhp Tryz.f223 0) (Z55 L s) := Yhz (fun k => .i ((k : Int) < (↑(L.map Yha).length :
 Int)) (.x (k : Int) (L.map Yha) (Yhw (L.getD k default)) (.c [.rd, .rd] (Ze0 (L.getD k default).name s) (.b (decide ((L.getD k default).name.text = s.text) &&
 decide ((L.getD k default).name.scopes = s.scopes)) (.c [.rd] (Ze s) (.b (!Yhn s) (.c [.rd] (Zag (L.getD k default).name) (.b (decide ((L.getD k default).name.kind =
 1) && Yi2 (L.getD k default).name) (.o 1 [] [.s (li (k : Int))]) (.r ((k : Int) + 1) (.g [0] (k + 1) [.s (li ((k : Int) + 1))])))) (.y false (.r ((k : Int) + 1) (.g [0] (k +
 1) [.s (li ((k : Int) + 1))]))))) (.y false (.y false (.r ((k : Int) + 1) (.g [0] (k + 1) [.s (li ((k : Int) + 1))]))))))) (.o 0 [] [])) (by
 intro k h; try dsimp only [Yhf, Yhl, Z55] at h ⊢
 have g1 := @Y189 L s k
 have g2 := @Y10k L s k
 have g3 := Y175 L s
 with_reducible repeat' (first | apply And.intro | exact zR | (intro))
 all_goals ((try simp only [std, inj] at *); with_reducible and_intros)
 all_goals try first | exact z | grind [fnd, Yl7, Yl5, Yhi, Yhh, Yhe])
theorem Z5y (L : List YC) (s : YS)  : Zb5 L s := Yhq Tryz.call223 Tryz.func223 (.z Yha L (.l (Z55 L s) (Zeg L s) [0] [.s (li 0)] 0 (.t (.s (li
 (-1 : Int))) (.t (.s (li (fnd L s))) .q)))) (by
 dsimp only [Yhf, Zb5, Yhl, Z55]
 exact zV)
abbrev Zb6 (L : List YC) (s : YS) : Ct := ⟨288, [], [ll (L.map Yha), Yhu s], [], .sv (li (if s.kind = 1 then fnd L s else -1))⟩
def Z56 (L : List YC) (s : YS) : Lp Nat := .mk 32 0 (fun x => [(3, .one (.ptr 0 0)), (14, ll (L.map Yha)), (15, li (↑(L.map Yha).length :
 Int)), (16, hs x 0)]) (fun x => [.box (vals (Yhg s))]) (fun k => [.s (li (k : Int))]) (fun k => k <= L.length /\ L.length <= 9223372036854775807 /\ k <= Ym4 L s /\ s.kind = 1 /\
 Yhn s = false) (fun k => L.length - k) [.mk (fnd L s = (-1 : Int)) (.exit 0) (fun x => []) (fun x => []) [], .mk True .ret (fun x => [(4, hs x 0)]) (fun x => []) [.s (li (fnd L
 s))]]
theorem Zeh (L : List YC) (s : YS) : Lp.Sem Tryz.prog (Yhp Tryz.f288 0) (Z56 L s) := Yhz (fun k => .i ((k : Int) < (↑(L.map Yha).length :
 Int)) (.x (k : Int) (L.map Yha) (Yhw (L.getD k default)) (.c [.rd] (Zj (L.getD k default).name) (.b (decide ((L.getD k default).name.kind = 1) && Yi2
 (L.getD k default).name) (.c [.rd, .rd] (Zaj (L.getD k default).name s) (.b (decide ((L.getD k default).name.kind = 1) && decide (s.kind = 1) && decide ((L.getD k
 default).name.text = s.text) && decide ((L.getD k default).name.scopes = s.scopes)) (.o 1 [] [.s (li (k : Int))]) (.r ((k : Int) + 1) (.g [0] (k + 1) [.s (li ((k : Int) +
 1))])))) (.y false (.r ((k : Int) + 1) (.g [0] (k + 1) [.s (li ((k : Int) + 1))])))))) (.o 0 [] [])) (by
 intro k h; try dsimp only [Yhf, Yhl, Z56] at h ⊢
 have g1 := @Y189 L s k
 have g2 := @Y10k L s k
 have g3 := Y175 L s
 with_reducible repeat' (first | apply And.intro | exact zR | (intro) | apply Zj)
 all_goals ((try simp only [std, inj] at *); with_reducible and_intros)
 all_goals try with_reducible first | apply Zj
 all_goals try first | exact z | grind [fnd, Yl7, Yl5, Yhi, Yhh, Yhe])
theorem Z90 (L : List YC) (s : YS)  : Zb6 L s := Yhq Tryz.call288 Tryz.func288 (.i (s.kind ≠ 1) (.y true (.s (li (-1 : Int)))) (.c [.rd] (Z0 s) (.b (Yhn
 s) (.s (li (-1 : Int))) (.z Yha L (.l (Z56 L s) (Zeh L s) [0] [.s (li 0)] 0 (.t (.s (li (-1 : Int))) (.t (.s (li (fnd L s))) .q))))))) (by
 dsimp only [Yhf, Zb6, Yhl, Z56]
 with_reducible repeat' (first | apply And.intro | exact zR | (intro) | apply Zj)
 all_goals ((try simp only [std, inj] at *); with_reducible and_intros)
 all_goals try with_reducible first | apply Zj
 all_goals try first | exact z | grind [fnd, Yhi, Yhh, Yhe])
def Ypq (L : List YC) (s : YS) : Int := (L.getD (fnd L s).toNat default).depth
mutual
/-- is there a name of a deeper capture? -/
def drv (L : List YC) (v : Int) : YS -> Bool
 | ⟨k, n, t, s, l⟩ => if k = 1 then decide (0 <= fnd L ⟨k, n, t, s, l⟩) && decide (v < Ypq L ⟨k, n, t, s, l⟩) else Y13e L v l
def Y13e (L : List YC) (v : Int) : List YS -> Bool
 | [] => false
 | x :: r => drv L v x || Y13e L v r
end
theorem Y17s (L : List YC) (v : Int) : ∀ l, Y13e L v l = l.any (drv L v)
 | [] => by simp [Y13e]
 | x :: r => by rw [Y13e, Y17s L v r]; rfl
theorem Y1cc (L : List YC) (v : Int) (t : YS) : drv L v t = if t.kind = 1 then decide (0 <= fnd L t) && decide (v < Ypq L t) else t.items.any (drv L v) := by cases t; simp only [drv, Y17s]
mutual
/-- the reference's test of a template -/
def fit (L : List YC) : YS -> Int -> Bool
 | ⟨k, n, t, s, l⟩, v => if k = 1 then !Yhn ⟨k, n, t, s, l⟩ && (decide (fnd L ⟨k, n, t, s, l⟩ < 0) || decide (Ypq L ⟨k, n, t, s, l⟩ <= v)) else Yld L l v
def Yld (L : List YC) : List YS -> Int -> Bool
 | [], _ => true
 | [x], v => fit L x v
 | x :: y :: r, v => if Yhn y then !Yhn x && drv L v x && fit L x (v + 1) && Yld L r v else fit L x v && Yld L (y :: r) v
end
theorem Y14p (L : List YC) (t : YS) (v : Int) : fit L t v = if t.kind = 1 then !Yhn t && (decide (fnd L t < 0) || decide (Ypq L t <= v)) else Yld L t.items v := by cases t; simp only [fit]
theorem Y1bw {L : List YC} {l : List YS} {k : Nat} {v : Int} (h : k + 1 = l.length) : Yld L (l.drop k) v = fit L (l.getD k default) v := by
 rw [Yiu (by omega), List.drop_eq_nil_of_le (by omega), Yld]
theorem Y1ae {L : List YC} {l : List YS} {k : Nat} {v : Int} (h : k + 1 < l.length) (hd : Yhn (l.getD (k + 1) default) = false) : Yld L (l.drop k) v = (fit L (l.getD k default) v && Yld L (l.drop (k + 1)) v) := by
 rw [Yiu (by omega : k < l.length), Yiu h, Yld, hd]; rfl
theorem Y1az {L : List YC} {l : List YS} {k : Nat} {v : Int} (h : k + 1 < l.length) (hd : Yhn (l.getD (k + 1) default) = true) : Yld L (l.drop k) v = (!Yhn (l.getD k default) && drv L v (l.getD k default) && fit L (l.getD k default) (v + 1) && Yld L (l.drop (k + 1 + 1)) v) := by
 rw [Yiu (by omega : k < l.length), Yiu h, Yld, hd]; rfl
theorem Y15v {L : List YC} {l : List YS} {k : Nat} {v : Int} (h : l.length <= k) : Yld L (l.drop k) v = true := by
 rw [List.drop_eq_nil_of_le h, Yld]
theorem Yl1 {t : YS} {k : Nat} (h : k < t.items.length) : Yi1 (t.items.getD k default) + 1 <= Yi1 t := by
 have := Yv6 Yi1 (Yhj h)
 rw [Yo6 t]; omega
abbrev Z3b (L : List YC) (t : YS) (v : Int) : Ct := ⟨287, [], [ll (L.map Yha), Yhu t, li v], [], .sv (lb (drv L v t))⟩
def Z4a (L : List YC) (t : YS) (v : Int) : Lp Nat := .mk 39 0 (fun x => [(0, ll (L.map Yha)), (2, li v), (28, ll (t.items.map Yh9)), (29, li
 (↑(t.items.map Yh9).length : Int)), (30, hs x 0)]) (fun x => []) (fun k => [.s (li (k : Int))]) (fun k => k <= t.items.length /\ t.items.length <= 9223372036854775807 /\
 (t.items.take k).any (drv L v) = false) (fun k => t.items.length - k) [.mk (t.items.any (drv L v) = false) (.exit 0) (fun x => []) (fun x => []) [], .mk (t.items.any (drv L
 v) = true) .ret (fun x => [(6, hs x 0)]) (fun x => []) [.s (lb true)]]
theorem Zde (L : List YC) (t : YS) (v : Int) (ih : ∀ (z : YS), z ∈ t.items -> ∀ (L : List YC) (v : Int), OK (Z3b L z v)) : Lp.Sem Tryz.prog (Yhp
 Tryz.f287 0) (Z4a L t v) := Yhz (fun k => .i ((k : Int) < (↑(t.items.map Yh9).length : Int)) (.x (k : Int) (t.items.map Yh9) (Yhg (t.items.getD k
 default)) (.d [.rd, .rd, .rd] (Z3b L (t.items.getD k default) v) (.b (drv L v (t.items.getD k default)) (.o 1 [] [.s (lb true)]) (.r ((k : Int) + 1) (.g [] (k + 1) [.s (li
 ((k : Int) + 1))]))))) (.o 0 [] [])) (by
 intro k h; try dsimp only [Yhf, Yhl, Z4a] at h ⊢
 with_reducible repeat' (first | apply And.intro | exact zR | exact ih | (intro) | apply ih)
 all_goals ((try simp only [std, inj] at *); with_reducible and_intros)
 all_goals try with_reducible first | apply ih
 all_goals try first | exact z | grind [Yhy, Yhj, Yhi, Yhh, Yhe])
theorem Zgh (L : List YC) (t : YS) (v : Int) (ih : ∀ z ∈ t.items, ∀ (L : List YC) (v : Int), Z3b L z v)  : Z3b L t v := Yhq Tryz.call287 Tryz.func287
 (.i (t.kind = 1) (.c [.rd, .rd] (Z5y L t) (.i (0 <= fnd L t) (.x (fnd L t) (L.map Yha) (Yhw (L.getD (fnd L t).toNat default)) (.s (lb (decide (v < (L.getD (fnd L
 t).toNat default).depth))))) (.s (lb false)))) (.z Yh9 t.items (.l (Z4a L t v) (Zde L t v ih) [] [.s (li 0)] 0 (.t (.s (lb false)) (.t (.s (lb true)) .q)))))
 (by
 dsimp only [Yhf, Z3b, Yhl, Z4a]
 have g := Yme L t
 with_reducible repeat' (first | apply And.intro | exact zR | exact ih | (intro))
 all_goals ((try simp only [std, inj] at *); with_reducible and_intros)
 all_goals try with_reducible first | apply ih
 all_goals try first | exact z | grind [Y1cc, Ypq, Yhi, Yhh, Yhe])
theorem Zh3 (t : YS) : ∀ (L : List YC) (v : Int), Z3b L t v := YS.ind (P := fun t => ∀ (L : List YC) (v : Int), Z3b L t v) (fun t ih L v => Zgh L t v ih) t
abbrev Z1d (L : List YC) (t : YS) (v : Int) : Ct := ⟨225, [], [ll (L.map Yha), Yhu t, li v], [], .sv (lb (fit L t v))⟩
def Z4b (L : List YC) (t : YS) (v : Int) : Lp Nat := .mk 79 0 (fun x => [(0, ll (L.map Yha)), (2, li v), (4, .one (.ptr 0 0)), (8, hs x 0)]) (fun x
 => [.box (vals (Yhg t))]) (fun k => [.s (li (k : Int))]) (fun k => t.items.length >= k /\ Yld L t.items v = Yld L (t.items.drop k) v) (fun k => t.items.length - k)
 [.mk (Yld L t.items v = true) (.exit 0) (fun x => []) (fun x => []) [], .mk (Yld L t.items v = false) .ret (fun x => [(6, hs x 0)]) (fun x => []) [.s (lb false)]]
theorem Zdf (L : List YC) (t : YS) (v : Int) (h : 0 <= v /\ v + (↑(Yi1 t) : Int) <= 1000) (ih : ∀ (z : YS), z ∈ t.items -> ∀ (L : List YC) (v : Int), 0 <= v /\
 v + (↑(Yi1 z) : Int) <= 1000 -> OK (Z1d L z v)) : Lp.Sem Tryz.prog (Yhp Tryz.f225 0) (Z4b L t v) := Yhz (fun k => .z Yh9 t.items (.i ((k : Int) < (↑(List.map
 Yh9 t.items).length : Int)) (.x (k : Int) (t.items.map Yh9) (Yhg (t.items.getD k default)) (.r ((k : Int) + 1) (.z Yh9 t.items (.i ((k : Int) + 1 <
 (↑(t.items.map Yh9).length : Int)) (.r ((k : Int) + 1) (.x ((k : Int) + 1) (t.items.map Yh9) (Yhg (t.items.getD (k + 1) default)) (.c [.rd] (Ze
 (t.items.getD (k + 1) default)) (.b (Yhn (t.items.getD (k + 1) default)) (.c [.rd] (Ze (t.items.getD k default)) (.b (Yhn (t.items.getD k default)) (.y true (.o 1 []
 [.s (lb false)])) (.c [.rd, .rd, .rd] (Zh3 (t.items.getD k default) L v) (.b (!drv L v (t.items.getD k default)) (.o 1 [] [.s (lb false)]) (.r (v + 1) (.r ((k : Int) + 1) (.d
 [.rd, .rd, .rd] (Z1d L (t.items.getD k default) (v + 1)) (.b (!fit L (t.items.getD k default) (v + 1)) (.o 1 [] [.s (lb false)]) (.r ((k : Int) + 1 + 1) (.g [0] (k + 1 + 1)
 [.s (li ((k : Int) + 1 + 1))])))))))))) (.d [.rd, .rd, .rd] (Z1d L (t.items.getD k default) v) (.b (!fit L (t.items.getD k default) v) (.o 1 [] [.s (lb false)]) (.r ((↑k :
 Int) + 1) (.g [0] (k + 1) [.s (li ((k : Int) + 1))])))))))) (.y false (.d [.rd, .rd, .rd] (Z1d L (t.items.getD k default) v) (.b (!fit L (t.items.getD k default) v) (.o 1 []
 [.s (lb false)]) (.r ((k : Int) + 1) (.g [0] (k + 1) [.s (li ((k : Int) + 1))]))))))))) (.o 0 [] []))) (by
 intro k h; try dsimp only [Yhf, Yhl, Z4b] at h ⊢
 have g1 := @Y1bw L t.items k v
 have g2 := @Y1ae L t.items k v
 have g3 := @Y1az L t.items k v
 have g4 := @Y15v L t.items k v
 have g5 := @Yl1 t k
 have g6 := @Y15v L t.items (k + 1) v
 with_reducible repeat' (first | apply And.intro | exact zR | exact ih | (intro) | apply ih)
 all_goals ((try simp only [std, inj] at *); with_reducible and_intros)
 all_goals try with_reducible first | apply ih
 all_goals try first | exact z | grind [Yhj, Yhi, Yhh, Yhe])
theorem Zgi (L : List YC) (t : YS) (v : Int) (h : 0 <= v /\ v + Yi1 t <= 1000) (ih : ∀ z ∈ t.items, ∀ (L : List YC) (v : Int) (h : 0 <= v /\ v + Yi1 z <= 1000),
 Z1d L z v)  : Z1d L t v := Yhq Tryz.call225 Tryz.func225 (.i (t.kind = 1) (.c [.rd, .rd] (Z5y L t) (.c [.rd] (Ze t) (.b (!Yhn t) (.i (fnd L t < 0) (.s (lb
 true)) (.x (fnd L t) (L.map Yha) (Yhw (L.getD (fnd L t).toNat default)) (.s (lb (decide ((L.getD (fnd L t).toNat default).depth <= v)))))) (.s (lb false))))) (.l
 (Z4b L t v) (Zdf L t v h ih) [0] [.s (li 0)] 0 (.t (.s (lb true)) (.t (.s (lb false)) .q)))) (by
 dsimp only [Yhf, Z1d, Yhl, Z4b]
 have g := Yme L t
 with_reducible repeat' (first | apply And.intro | exact zR | exact ih | (intro))
 all_goals ((try simp only [std, inj] at *); with_reducible and_intros)
 all_goals try with_reducible first | apply ih
 all_goals try first | exact z | grind [Y14p, Ypq, Yhi, Yhh, Yhe])
theorem Z9u (t : YS) : ∀ (L : List YC) (v : Int) (h : 0 <= v /\ v + Yi1 t <= 1000), Z1d L t v := YS.ind (P := fun t => ∀ (L : List YC) (v : Int) (h : 0 <= v /\ v + Yi1 t <= 1000), Z1d L t v) (fun t ih L v h => Zgi L t v h ih) t
def tmF (L : List YC) (t : YS) : Bool := L.all (fun x => Yl5 x.name && decide (0 <= x.depth)) && Yi2 t && fit L t 0
abbrev Zcd (L : List YC) (t : YS) : Ct := ⟨136, [], [ll (L.map Yha), Yhu t], [], .sv (lb (tmF L t))⟩
def Z6a (L : List YC) (t : YS) : Lp Nat := .mk 30 0 (fun x => [(0, ll (L.map Yha)), (3, .one (.ptr 0 0)), (7, ll (L.map Yha)), (8, li
 (↑(L.map Yha).length : Int)), (9, hs x 0)]) (fun x => [.box (vals (Yhg t))]) (fun k => [.s (li (k : Int))]) (fun k => k <= L.length /\ L.length <=
 9223372036854775807 /\ ((L.take k).all fun x => Yl5 x.name && decide (0 <= x.depth)) = true) (fun k => L.length - k) [.mk ((L.all fun x => Yl5 x.name && decide (0 <= x.depth))
 = true) (.exit 0) (fun x => [(0, ll (L.map Yha)), (3, .one (.ptr 0 0))]) (fun x => [.box (vals (Yhg t))]) [], .mk ((L.all fun x => Yl5 x.name && decide (0 <=
 x.depth)) = false) .ret (fun x => [(4, hs x 0)]) (fun x => []) [.s (lb false)]]
theorem Zfd (L : List YC) (t : YS) : Lp.Sem Tryz.prog (Yhp Tryz.f136 0) (Z6a L t) := Yhz (fun k => .i ((k : Int) < (↑(L.map Yha).length : Int))
 (.x (k : Int) (L.map Yha) (Yhw (L.getD k default)) (.c [.rd] (Zag (L.getD k default).name) (.b (!(decide ((L.getD k default).name.kind = 1) && Yi2 (L.getD k
 default).name)) (.y true (.o 1 [] [.s (lb false)])) (.i ((L.getD k default).depth < 0) (.o 1 [] [.s (lb false)]) (.r ((k : Int) + 1) (.g [0] (k + 1) [.s (li ((k : Int) +
 1))])))))) (.o 0 [0] [])) (by
 intro k h; try dsimp only [Yhf, Yhl, Z6a] at h ⊢
 with_reducible repeat' (first | apply And.intro | exact zR | (intro) | apply Z9u)
 all_goals ((try simp only [std, inj] at *); with_reducible and_intros)
 all_goals try with_reducible first | apply Z9u
 all_goals try first | exact z | grind [Yhy, Yl5, Yhj, Yhi, Yhh, Yhe])
theorem Zh4 (L : List YC) (t : YS)  : Zcd L t := Yhq Tryz.call136 Tryz.func136 (.z Yha L (.l (Z6a L t) (Zfd L t) [0] [.s (li 0)] 0 (.t (.c [.rd]
 (Z1t t) (.b (Yi2 t) (.d [.rd, .rd, .rd] (Z1d L t 0) (.s (lb (fit L t 0)))) (.s (lb false)))) (.t (.s (lb false)) .q)))) (by
 dsimp only [Yhf, Zcd, Yhl, Z6a]
 with_reducible repeat' (first | apply And.intro | exact zR | (intro) | apply Z9u)
 all_goals ((try simp only [std, inj] at *); with_reducible and_intros)
 all_goals try with_reducible first | apply Z9u
 all_goals try first | exact z | grind [tmF, Yi2, Yhi, Yhh, Yhe])
mutual
def Ykz : YS -> Bool
 | ⟨k, n, t, s, l⟩ => !Yhn ⟨k, n, t, s, l⟩ && Yik true l
def Yik : Bool -> List YS -> Bool
 | _, [] => true
 | b, x :: r => if Yhn x then !b && Yik true r else Ykz x && Yik false r
end
theorem Yvn (t : YS) : Ykz t = (!Yhn t && Yik true t.items) := by cases t; simp only [Ykz]
def Ylh (l : List YS) (k : Nat) : Bool := decide (k = 0) || Yhn (l.getD (k - 1) default)
theorem Yz1 {l : List YS} {b : Bool} {k : Nat} (h : k < l.length) : Yik b (l.drop k) = if Yhn (l.getD k default) then !b && Yik true (l.drop (k + 1)) else Ykz (l.getD k default) && Yik false (l.drop (k + 1)) := by
 rw [Yiu h, Yik]
theorem Y114 {l : List YS} {b : Bool} {k : Nat} (h : l.length <= k) : Yik b (l.drop k) = true := by
 rw [List.drop_eq_nil_of_le h, Yik]
abbrev Z11 (t : YS) : Ct := ⟨229, [], [Yhu t], [], .sv (lb (Ykz t))⟩
def Z1w (t : YS) : Lp Nat := .mk 32 0 (fun x => [(1, .one (.ptr 0 0)), (8, ll (t.items.map Yh9)), (9, li (↑(t.items.map Yh9).length : Int)),
 (10, hs x 0)]) (fun x => [.box (vals (Yhg t))]) (fun k => [.s (li (k : Int))]) (fun k => k <= t.items.length /\ t.items.length <= 9223372036854775807 /\ Yik true t.items =
 Yik (Ylh t.items k) (t.items.drop k)) (fun k => t.items.length - k) [.mk (Yik true t.items = true) (.exit 0) (fun x => []) (fun x => []) [], .mk (Yik true t.items =
 false) .ret (fun x => [(2, hs x 0)]) (fun x => []) [.s (lb false)]]
theorem Z9v (t : YS) (ih : ∀ (z : YS), z ∈ t.items -> OK (Z11 z)) : Lp.Sem Tryz.prog (Yhp Tryz.f229 0) (Z1w t) := Yhz (fun k => .i ((↑k
 : Int) < (↑(t.items.map Yh9).length : Int)) (.x (k : Int) (t.items.map Yh9) (Yhg (t.items.getD k default)) (.c [.rd] (Z0 (t.items.getD k default)) (.b
 (Yhn (t.items.getD k default)) (.i ((k : Int) = 0) (.y true (.o 1 [] [.s (lb false)])) (.r ((k : Int) - 1) (.x ((k : Int) - 1) (t.items.map Yh9) (Yhg
 (t.items.getD ((k : Int) - 1).toNat default)) (.c [.rd] (Z0 (t.items.getD ((k : Int) - 1).toNat default)) (.b (Yhn (t.items.getD ((k : Int) - 1).toNat default)) (.o 1
 [] [.s (lb false)]) (.r ((k : Int) + 1) (.g [0] (k + 1) [.s (li ((k : Int) + 1))]))))))) (.d [.rd] (Z11 (t.items.getD k default)) (.b (!Ykz (t.items.getD k default))
 (.o 1 [] [.s (lb false)]) (.r ((k : Int) + 1) (.g [0] (k + 1) [.s (li ((k : Int) + 1))]))))))) (.o 0 [] [])) (by
 intro k h; try dsimp only [Yhf, Yhl, Z1w] at h ⊢
 have g1 := @Yz1 t.items (Ylh t.items k) k
 have g2 := @Y114 t.items (Ylh t.items k) k
 have e : ((k : Int) - 1).toNat = k - 1 := by omega
 have g3 : Ylh t.items k = (decide (k = 0) || Yhn (t.items.getD (k - 1) default)) := rfl
 have g4 : Ylh t.items (k + 1) = Yhn (t.items.getD k default) := by simp [Ylh]
 with_reducible repeat' (first | apply And.intro | exact zR | exact ih | (intro) | apply ih)
 all_goals ((try simp only [std, inj] at *); with_reducible and_intros)
 all_goals try with_reducible first | apply ih
 all_goals try first | exact z | grind [Yhj, Yhi, Yhh, Yhe])
theorem Zce (t : YS) (ih : ∀ z ∈ t.items, Z11 z)  : Z11 t := Yhq Tryz.call229 Tryz.func229 (.c [.rd] (Z0 t) (.b (Yhn t) (.s (lb false)) (.z
 Yh9 t.items (.l (Z1w t) (Z9v t ih) [0] [.s (li 0)] 0 (.t (.s (lb true)) (.t (.s (lb false)) .q)))))) (by
 dsimp only [Yhf, Z11, Yhl, Z1w]
 with_reducible repeat' (first | apply And.intro | exact zR | exact ih | (intro))
 all_goals ((try simp only [std, inj] at *); with_reducible and_intros)
 all_goals try with_reducible first | apply ih
 all_goals try first | exact z | grind [Yvn, Ylh, Yhi, Yhh, Yhe])
theorem Z9w (t : YS) : Z11 t := YS.ind (P := fun t => Z11 t) (fun t ih => Zce t ih) t
mutual
def dee (L : List YC) : YS -> Int
 | ⟨k, n, t, s, l⟩ => Y147 L l (if k = 1 /\ 0 <= fnd L ⟨k, n, t, s, l⟩ then Ypq L ⟨k, n, t, s, l⟩ else -1)
def Y147 (L : List YC) : List YS -> Int -> Int
 | [], b => b
 | x :: r, b => Y147 L r (max b (dee L x))
end
theorem Y18k (L : List YC) : ∀ l b, Y147 L l b = l.foldl (fun b x => max b (dee L x)) b
 | [], _ => by rw [Y147]; rfl
 | x :: r, b => by rw [Y147, Y18k L r]; rfl
def Ysx (L : List YC) (t : YS) : Int := if t.kind = 1 /\ 0 <= fnd L t then Ypq L t else -1
theorem Y1bg (L : List YC) (t : YS) : dee L t = t.items.foldl (fun b x => max b (dee L x)) (Ysx L t) := by cases t; simp only [dee, Y18k, Ysx]
abbrev Z22 (L : List YC) (t : YS) : Ct := ⟨289, [], [ll (L.map Yha), Yhu t], [], .sv (li (dee L t))⟩
def Z23 (L : List YC) (t : YS) : Lp Nat := .mk 33 0 (fun x => [(0, ll (L.map Yha)), (5, hs x 1), (20, ll (t.items.map Yh9)), (21, li
 (↑(t.items.map Yh9).length : Int)), (22, hs x 0)]) (fun x => []) (fun k => [.s (li (k : Int)), .s (li (List.foldl (fun b x => max b (dee L x)) (Ysx L t) (List.take k
 t.items)))]) (fun k => k <= t.items.length /\ t.items.length <= 9223372036854775807) (fun k => t.items.length - k) [.mk True (.exit 0) (fun x => [(5, hs x 0)]) (fun x => []) [.s (li
 (dee L t))]]
theorem Z88 (L : List YC) (t : YS) (ih : ∀ (z : YS), z ∈ t.items -> ∀ (L : List YC), OK (Z22 L z)) : Lp.Sem Tryz.prog (Yhp Tryz.f289 0)
 (Z23 L t) := Yhz (fun k => .i ((k : Int) < (↑(t.items.map Yh9).length : Int)) (.x (k : Int) (t.items.map Yh9) (Yhg (t.items.getD k default)) (.d
 [.rd, .rd] (Z22 L (t.items.getD k default)) (.r ((k : Int) + 1) (.g [] (k + 1) [.s (li ((k : Int) + 1)), .s (li (max (List.foldl (fun b x => max b (dee L x)) (Ysx L t)
 (t.items.take k)) (dee L (t.items.getD k default))))])))) (.o 0 [] [.s (li (List.foldl (fun b x => max b (dee L x)) (Ysx L t) (t.items.take k)))])) (by
 intro k h; try dsimp only [Yhf, Yhl, Z23] at h ⊢
 with_reducible repeat' (first | apply And.intro | exact zR | exact ih | (intro) | apply ih)
 all_goals ((try simp only [std, inj] at *); with_reducible and_intros)
 all_goals try with_reducible first | apply ih
 all_goals try first | exact z | grind [Ynb, Yhj, Y1bg, Yhi, Yhh, Yhe])
theorem Zfe (L : List YC) (t : YS) (ih : ∀ z ∈ t.items, ∀ (L : List YC), Z22 L z)  : Z22 L t := Yhq Tryz.call289 Tryz.func289 (.c [.rd, .rd] (Z90
 L t) (.i (0 <= if t.kind = 1 then fnd L t else (-1 : Int)) (.x (if t.kind = 1 then fnd L t else (-1 : Int)) (L.map Yha) (Yhw (L.getD (if t.kind = 1 then fnd L t else
 (-1 : Int)).toNat default)) (.z Yh9 t.items (.l (Z23 L t) (Z88 L t ih) [] [.s (li 0), .s (li (L.getD (if t.kind = 1 then fnd L t else (-1 : Int)).toNat
 default).depth)] 0 (.t (.s (li (dee L t))) .q)))) (.z Yh9 t.items (.l (Z23 L t) (Z88 L t ih) [] [.s (li 0), .s (li (-1 : Int))] 0 (.t (.s (li (dee L t)))
 .q))))) (by
 dsimp only [Yhf, Z22, Yhl, Z23]
 have g := Yme L t
 with_reducible repeat' (first | apply And.intro | exact zR | exact ih | (intro))
 all_goals ((try simp only [std, inj] at *); with_reducible and_intros)
 all_goals try with_reducible first | apply ih
 all_goals try first | exact z | grind [Ysx, Ypq, Yhi, Yhh, Yhe])
theorem Zgx (t : YS) : ∀ (L : List YC), Z22 L t := YS.ind (P := fun t => ∀ (L : List YC), Z22 L t) (fun t ih L => Zfe L t ih) t
mutual
def Ymp (L : List YC) : YS -> Int -> Bool
 | ⟨k, n, t, s, l⟩, v => if k = 1 /\ 0 <= fnd L ⟨k, n, t, s, l⟩ then decide (Ypq L ⟨k, n, t, s, l⟩ <= v) else Yjo L l v
def Yjo (L : List YC) : List YS -> Int -> Bool
 | [], _ => true
 | [x], v => if Yhn x then true else Ymp L x v
 | x :: y :: r, v => if Yhn x then Yjo L (y :: r) v else if Yhn y then decide (v < dee L x) && Ymp L x (v + 1) && Yjo L (y :: r) v else Ymp L x v && Yjo L (y :: r) v
end
theorem Y18d (L : List YC) (t : YS) (v : Int) : Ymp L t v = if t.kind = 1 /\ 0 <= fnd L t then decide (Ypq L t <= v) else Yjo L t.items v := by cases t; simp only [Ymp]
theorem Y1a6 {L : List YC} {l : List YS} {k : Nat} {v : Int} (h : k + 1 = l.length) : Yjo L (l.drop k) v = if Yhn (l.getD k default) then true else Ymp L (l.getD k default) v := by
 rw [Yiu (by omega), List.drop_eq_nil_of_le (by omega), Yjo]
theorem Y19y {L : List YC} {l : List YS} {k : Nat} {v : Int} (h : k + 1 < l.length) : Yjo L (l.drop k) v = if Yhn (l.getD k default) then Yjo L (l.drop (k + 1)) v else
  if Yhn (l.getD (k + 1) default) then decide (v < dee L (l.getD k default)) && Ymp L (l.getD k default) (v + 1) && Yjo L (l.drop (k + 1)) v else Ymp L (l.getD k default) v && Yjo L (l.drop (k + 1)) v := by
 rw [Yiu (by omega : k < l.length), Yiu h, Yjo]
theorem Y117 {L : List YC} {l : List YS} {k : Nat} {v : Int} (h : l.length <= k) : Yjo L (l.drop k) v = true := by
 rw [List.drop_eq_nil_of_le h, Yjo]
abbrev Zv (L : List YC) (t : YS) (v : Int) : Ct := ⟨230, [], [ll (L.map Yha), Yhu t, li v], [], .sv (lb (Ymp L t v))⟩
def Z3q (L : List YC) (t : YS) (v : Int) : Lp Nat := .mk 62 0 (fun x => [(0, ll (L.map Yha)), (2, li v), (4, .one (.ptr 0 0)), (24, ll (List.map
 Yh9 t.items)), (25, li (↑(t.items.map Yh9).length : Int)), (26, hs x 0)]) (fun x => [.box (vals (Yhg t))]) (fun k => [.s (li (k : Int))]) (fun k => k <=
 t.items.length /\ t.items.length <= 9223372036854775807 /\ Yjo L t.items v = Yjo L (t.items.drop k) v) (fun k => t.items.length - k) [.mk (Yjo L t.items v = true) (.exit
 0) (fun x => []) (fun x => []) [], .mk (Yjo L t.items v = false) .ret (fun x => [(6, hs x 0)]) (fun x => []) [.s (lb false)]]
theorem Zcf (L : List YC) (t : YS) (v : Int) (h : 0 <= v /\ v + (↑(Yi1 t) : Int) <= 1000) (ih : ∀ (z : YS), z ∈ t.items -> ∀ (L : List YC) (v : Int), 0 <= v
 /\ v + (↑(Yi1 z) : Int) <= 1000 -> OK (Zv L z v)) : Lp.Sem Tryz.prog (Yhp Tryz.f230 0) (Z3q L t v) := Yhz (fun k => .i ((k : Int) < (↑(List.map Yh9
 t.items).length : Int)) (.x (k : Int) (t.items.map Yh9) (Yhg (t.items.getD k default)) (.c [.rd] (Z0 (t.items.getD k default)) (.b (Yhn (t.items.getD k
 default)) (.r ((k : Int) + 1) (.g [0] (k + 1) [.s (li ((k : Int) + 1))])) (.r ((k : Int) + 1) (.z Yh9 t.items (.i ((k : Int) + 1 < (↑(t.items.map Yh9).length :
 Int)) (.r ((k : Int) + 1) (.x ((k : Int) + 1) (t.items.map Yh9) (Yhg (t.items.getD (k + 1) default)) (.c [.rd] (Z0 (t.items.getD (k + 1) default)) (.b (Yhn
 (t.items.getD (k + 1) default)) (.c [.rd, .rd] (Zgx (t.items.getD k default) L) (.i (dee L (t.items.getD k default) <= v) (.o 1 [] [.s (lb false)]) (.r (v + 1) (.d [.rd, .rd,
 .rd] (Zv L (t.items.getD k default) (v + 1)) (.b (!Ymp L (t.items.getD k default) (v + 1)) (.o 1 [] [.s (lb false)]) (.r ((k : Int) + 1) (.g [0] (k + 1) [.s (li ((↑k :
 Int) + 1))]))))))) (.d [.rd, .rd, .rd] (Zv L (t.items.getD k default) v) (.b (!Ymp L (t.items.getD k default) v) (.o 1 [] [.s (lb false)]) (.r ((k : Int) + 1) (.g [0] (k
 + 1) [.s (li ((k : Int) + 1))])))))))) (.y false (.d [.rd, .rd, .rd] (Zv L (t.items.getD k default) v) (.b (!Ymp L (t.items.getD k default) v) (.o 1 [] [.s (lb false)])
 (.r ((k : Int) + 1) (.g [0] (k + 1) [.s (li ((k : Int) + 1))]))))))))))) (.o 0 [] [])) (by
 intro k h; try dsimp only [Yhf, Yhl, Z3q] at h ⊢
 have g1 := @Y1a6 L t.items k v
 have g2 := @Y19y L t.items k v
 have g3 := @Y117 L t.items (k + 1) v
 have g4 := @Y117 L t.items k v
 have g5 := @Yl1 t k
 with_reducible repeat' (first | apply And.intro | exact zR | exact ih | (intro) | apply ih)
 all_goals ((try simp only [std, inj] at *); with_reducible and_intros)
 all_goals try with_reducible first | apply ih
 all_goals try first | exact z | grind [Yhj, Yhi, Yhh, Yhe])
theorem Zff (L : List YC) (t : YS) (v : Int) (h : 0 <= v /\ v + Yi1 t <= 1000) (ih : ∀ z ∈ t.items, ∀ (L : List YC) (v : Int) (h : 0 <= v /\ v + Yi1 z <= 1000),
 Zv L z v)  : Zv L t v := Yhq Tryz.call230 Tryz.func230 (.c [.rd, .rd] (Z90 L t) (.i (0 <= if t.kind = 1 then fnd L t else (-1 : Int)) (.x (if t.kind = 1 then fnd L
 t else (-1 : Int)) (L.map Yha) (Yhw (L.getD (if t.kind = 1 then fnd L t else (-1 : Int)).toNat default)) (.s (lb (decide ((L.getD (if t.kind = 1 then fnd L t else
 (-1 : Int)).toNat default).depth <= v))))) (.z Yh9 t.items (.l (Z3q L t v) (Zcf L t v h ih) [0] [.s (li 0)] 0 (.t (.s (lb true)) (.t (.s (lb false)) .q))))))
 (by
 dsimp only [Yhf, Zv, Yhl, Z3q]
 have g := Yme L t
 with_reducible repeat' (first | apply And.intro | exact zR | exact ih | (intro))
 all_goals ((try simp only [std, inj] at *); with_reducible and_intros)
 all_goals try with_reducible first | apply ih
 all_goals try first | exact z | grind [Y18d, Ypq, Yhi, Yhh, Yhe])
theorem Z91 (t : YS) : ∀ (L : List YC) (v : Int) (h : 0 <= v /\ v + Yi1 t <= 1000), Zv L t v := YS.ind (P := fun t => ∀ (L : List YC) (v : Int) (h : 0 <= v /\ v + Yi1 t <= 1000), Zv L t v) (fun t ih L v h => Zff L t v h ih) t
theorem Y11n (f : YS -> Int) (v : Int) : ∀ (l : List YS) (b : Int), v < l.foldl (fun b x => max b (f x)) b ↔ v < b ∨ ∃ x ∈ l, v < f x
 | [], b => by simp
 | x :: r, b => by
  rw [List.foldl_cons, Y11n f v r]
  have e : v < max b (f x) ↔ v < b ∨ v < f x := by omega
  simp only [List.mem_cons, exists_eq_or_imp, e, or_assoc]
theorem Yzg {t : YS} (h : okY t = true) (hk : t.kind = 1) : t.items = [] := by
 rw [Ymh] at h
 simp only [Ymu, Yoy, Bool.and_eq_true, Bool.or_eq_true, decide_eq_true_eq] at h
 have : t.items.length = 0 := by omega
 exact List.length_eq_zero_iff.1 this
theorem Yl3 {t : YS} (h : okY t = true) : ∀ x ∈ t.items, okY x = true := by
 rw [Ymh, Bool.and_eq_true, List.all_eq_true] at h; exact h.1
theorem Y1hi (L : List YC) (v : Int) (hv : 0 <= v) : ∀ t : YS, okY t = true -> (drv L v t = decide (v < dee L t)) := by
 refine YS.ind fun t ih h => ?_
 rw [Bool.eq_iff_iff, decide_eq_true_eq, Y1cc, Y1bg, Y11n]
 by_cases hk : t.kind = 1
 ·rw [if_pos hk, Yzg h hk]
  simp only [Bool.and_eq_true, decide_eq_true_eq, List.not_mem_nil, false_and, exists_false, or_false, Ysx, hk, true_and]
  split <;> omega
 ·rw [if_neg hk, List.any_eq_true]
  have : ¬ v < Ysx L t := by unfold Ysx; rw [if_neg (by omega)]; omega
  constructor
  ·rintro ⟨x, hx, e⟩
   exact .inr ⟨x, hx, by have := ih x hx (Yl3 h x hx); rw [e] at this; exact of_decide_eq_true this.symm⟩
  ·rintro (e | ⟨x, hx, e⟩)
   ·exact absurd e this
   ·exact ⟨x, hx, by rw [ih x hx (Yl3 h x hx)]; exact decide_eq_true e⟩
theorem Y167 {L : List YC} {x : YS} {v : Int} (h : Yhn x = true) : fit L x v = false := by
 have hk : x.kind = 1 := by simp only [Yhn, Bool.and_eq_true, decide_eq_true_eq] at h; exact h.1
 rw [Y14p, if_pos hk, h]; rfl
theorem Y191 {x : YS} {r : List YS} {b : Bool} (h : Yhn x = false) : Yik b (x :: r) = Yik true (x :: r) := by simp only [Yik, h]; rfl
theorem Ywg (L : List YC) : ∀ (l : List YS), (∀ x ∈ l, okY x = true /\ ∀ v, 0 <= v -> fit L x v = (Ykz x && Ymp L x v)) -> ∀ v, 0 <= v -> Yld L l v = (Yik true l && Yjo L l v)
 | [], _, v, _ => by simp [Yld, Yik, Yjo]
 | [x], h, v, hv => by
  rw [Yld, Yjo, Yik]
  have h1 := (h x List.mem_cons_self).2 v hv
  by_cases e : Yhn x = true
  ·rw [if_pos e, if_pos e, Y167 e]; rfl
  ·rw [if_neg e, if_neg e, h1]; simp [Yik]
 | x :: y :: r, h, v, hv => by
  have hx := h x List.mem_cons_self
  have h1 := hx.2 v hv
  have h2 := hx.2 (v + 1) (by omega)
  have ihr := Ywg L r (fun z hz => h z (List.mem_cons_of_mem _ (List.mem_cons_of_mem _ hz))) v hv
  have ihy := Ywg L (y :: r) (fun z hz => h z (List.mem_cons_of_mem _ hz)) v hv
  have hd := Y1hi L v hv x hx.1
  rw [Yld, Yjo]
  by_cases ey : Yhn y = true
  ·rw [if_pos ey]
   by_cases ex : Yhn x = true
   ·rw [ex, Yik, if_pos ex]; simp
   ·have ex' : Yhn x = false := by simpa using ex
    have hy : Yik false (y :: r) = Yik true r := by rw [Yik, if_pos ey]; rfl
    have hyt : Yjo L (y :: r) v = Yjo L r v := by
     cases r with
     | nil => simp only [Yjo, if_pos ey]
     | cons z r => rw [Yjo, if_pos ey]
    rw [if_neg ex, if_pos ey, Yik, if_neg ex, hy, hyt, ihr, hd, h2, ex']
    cases Ykz x <;> cases Yik true r <;> cases decide (v < dee L x) <;> cases Ymp L x (v + 1) <;> cases Yjo L r v <;> rfl
  ·have ey' : Yhn y = false := by simpa using ey
   rw [if_neg ey]
   by_cases ex : Yhn x = true
   ·rw [Y167 ex, Yik, if_pos ex]; simp
   ·rw [if_neg ex, if_neg ey, Yik, if_neg ex, Y191 ey', ihy, h1]
    cases Ykz x <;> cases Yik true (y :: r) <;> cases Ymp L x v <;> cases Yjo L (y :: r) v <;> rfl
theorem Y1h1 (L : List YC) : ∀ t : YS, okY t = true -> ∀ v, 0 <= v -> fit L t v = (Ykz t && Ymp L t v) := by
 refine YS.ind fun t ih h v hv => ?_
 rw [Y14p, Yvn, Y18d]
 by_cases hk : t.kind = 1
 ·rw [if_pos hk, Yzg h hk]
  by_cases h0 : 0 <= fnd L t
  ·rw [if_pos ⟨hk, h0⟩, decide_eq_false (by omega : ¬ fnd L t < 0)]; simp [Yik]
  ·rw [if_neg (fun e => h0 e.2), decide_eq_true (by omega : fnd L t < 0)]; simp [Yik, Yjo]
 ·have hd : Yhn t = false := by simp [Yhn, hk]
  rw [if_neg hk, if_neg (fun e => hk e.1), hd, Ywg L t.items (fun x hx => ⟨Yl3 h x hx, fun v hv => ih x hx (Yl3 h x hx) v hv⟩) v hv]
  simp
theorem Y1jy (L : List YC) (t : YS) : tmF L t = (L.all (fun x => Yl5 x.name && decide (0 <= x.depth)) && (Yi2 t && (Ykz t && Ymp L t 0))) := by
 unfold tmF
 by_cases h : Yi2 t = true
 ·have h2 : okY t = true := by simp only [Yi2, Bool.and_eq_true] at h; exact h.2
  rw [Y1h1 L t h2 0 (Int.le_refl _), Bool.and_assoc]
 ·have : Yi2 t = false := by simpa using h
  rw [this]; simp
abbrev Zcg (L : List YC) (t : YS) : Ct := ⟨147, [], [ll (L.map Yha), Yhu t], [], .sv (lb (tmF L t))⟩
def Z6b (L : List YC) (t : YS) : Lp Nat := .mk 34 0 (fun x => [(0, ll (L.map Yha)), (3, .one (.ptr 0 0)), (7, ll (L.map Yha)), (8, li
 (↑(L.map Yha).length : Int)), (9, hs x 0)]) (fun x => [.box (vals (Yhg t))]) (fun k => [.s (li (k : Int))]) (fun k => k <= L.length /\ L.length <=
 9223372036854775807 /\ ((L.take k).all fun x => Yl5 x.name && decide (0 <= x.depth)) = true) (fun k => L.length - k) [.mk ((L.all fun x => Yl5 x.name && decide (0 <= x.depth))
 = true) (.exit 0) (fun x => [(0, ll (L.map Yha)), (3, .one (.ptr 0 0))]) (fun x => [.box (vals (Yhg t))]) [], .mk ((L.all fun x => Yl5 x.name && decide (0 <=
 x.depth)) = false) .ret (fun x => [(4, hs x 0)]) (fun x => []) [.s (lb false)]]
theorem Zfg (L : List YC) (t : YS) : Lp.Sem Tryz.prog (Yhp Tryz.f147 0) (Z6b L t) := Yhz (fun k => .i ((k : Int) < (↑(L.map Yha).length : Int))
 (.x (k : Int) (L.map Yha) (Yhw (L.getD k default)) (.c [.rd] (Zj (L.getD k default).name) (.b (!(decide ((L.getD k default).name.kind = 1) && Yi2 (L.getD k
 default).name)) (.y true (.o 1 [] [.s (lb false)])) (.i ((L.getD k default).depth < 0) (.o 1 [] [.s (lb false)]) (.r ((k : Int) + 1) (.g [0] (k + 1) [.s (li ((k : Int) +
 1))])))))) (.o 0 [0] [])) (by
 intro k h; try dsimp only [Yhf, Yhl, Z6b] at h ⊢
 with_reducible repeat' (first | apply And.intro | exact zR | (intro) | apply Zj | apply Z91)
 all_goals ((try simp only [std, inj] at *); with_reducible and_intros)
 all_goals try with_reducible first | apply Zj | apply Z91
 all_goals try first | exact z | grind [Yhy, Yl5, Yhj, Yhi, Yhh, Yhe])
theorem Zh5 (L : List YC) (t : YS)  : Zcg L t := Yhq Tryz.call147 Tryz.func147 (.z Yha L (.l (Z6b L t) (Zfg L t) [0] [.s (li 0)] 0 (.t (.c [.rd]
 (Z1c t) (.b (Yi2 t) (.c [.rd] (Z9w t) (.b (Ykz t) (.d [.rd, .rd, .rd] (Zv L t 0) (.s (lb (Ymp L t 0)))) (.s (lb false)))) (.y false (.s (lb false)))))
 (.t (.s (lb false)) .q)))) (by
 dsimp only [Yhf, Zcg, Yhl, Z6b]
 with_reducible repeat' (first | apply And.intro | exact zR | (intro) | apply Zj | apply Z91)
 all_goals ((try simp only [std, inj] at *); with_reducible and_intros)
 all_goals try with_reducible first | apply Zj | apply Z91
 all_goals try first | exact z | grind [Y1jy, Yi2, Yhi, Yhh, Yhe])
set_option maxHeartbeats 4000000
theorem Y1gc {α : Type} [Inhabited α] {p : α -> Bool} {L : List α} {k : Nat} (hk : k < L.length) (hb : k <= L.findIdx p) (h : p (L.getD k default) = true) : L.findIdx p = k := by
 have h1 : L.getD k default = L[k] := by simp [hk]
 rw [h1] at h
 rcases Nat.lt_or_ge k (L.findIdx p) with h2 | h2
 ·have := List.not_of_lt_findIdx h2
  simp [h] at this
 ·omega
theorem Y18q {α : Type} [Inhabited α] {p : α -> Bool} {L : List α} {k : Nat} (hk : k < L.length) (hb : k <= L.findIdx p) (h : p (L.getD k default) = false) : k + 1 <= L.findIdx p := by
 have h1 : L.getD k default = L[k] := by simp [hk]
 rw [h1] at h
 rcases Nat.lt_or_ge k (L.findIdx p) with h2 | h2
 ·exact h2
 ·have e : L.findIdx p = k := by omega
  have h3 := List.findIdx_getElem (p := p) (xs := L) (w := by omega)
  simp only [e, h] at h3
  exact absurd h3 (by decide)
abbrev Z3f (L : List Int) : Ct := ⟨163, [], [ll (L.map Yhd)], [.arr true 1 (L.map Yhd)], .sv (.one (.ref 0))⟩
theorem Z7 (L : List Int) (h : L.length <= 2147483647)  : Z3f L := Yhq Tryz.call163 Tryz.func163 (.w (.bool false) (.p (∀ (e : List Cell), e ∈ L.map Yhd -> ∀ (c :
 Cell), c ∈ e -> ∃ v, c = Cell.lit v) (.p (∀ (e : List Cell), e ∈ L.map Yhd -> e.length = 1) (.p ((0 + (L.map Yhd).length) * 8 <= 140737488355328) (.f [1] [.arr true 1
 (L.map Yhd)] (.sv (.one (.ref 0)))))))) (by
 dsimp only [Yhf, Z3f]
 exact zV)
abbrev Zl (L : List Int) : Ct := ⟨151, [], [ll (L.map Yhd)], [.arr true 1 (L.map Yhd)], .sv (.one (.ref 0))⟩
theorem Z2 (L : List Int) (h : L.length <= 2147483647)  : Zl L := Yhq Tryz.call151 Tryz.func151 (.w (.bool true) (.p (∀ (e : List Cell), e ∈ L.map Yhd -> ∀ (c :
 Cell), c ∈ e -> ∃ v, c = Cell.lit v) (.p (∀ (e : List Cell), e ∈ L.map Yhd -> e.length = 1) (.p ((0 + (L.map Yhd).length) * 8 <= 140737488355328) (.f [0] [.arr true 1
 (L.map Yhd)] (.sv (.one (.ref 0)))))))) (by
 dsimp only [Yhf, Zl]
 exact zV)
abbrev Z24 (s : YS) : Ct := ⟨199, [], [Yhu s, li 0, li 0], Yk5 s, .sv (Yjx s 0)⟩
def Z2l (s : YS) : Lp Nat := .mk 62 0 (fun x => [(1, li 0), (2, li 0), (6, .one (.ptr 0 0)), (7, .one (.ptr 1 0)), (45, ll (s.items.map Yh9)), (46, li
 (↑(s.items.map Yh9).length : Int)), (47, hs x 0)]) (fun x => [.box [vI 0, vI 0, vS (ByteArray.mk #[]), .val (.lit (.slice none 0 0)), .val (.lit
 (.slice none 0 0))], .box [vI s.kind, vI s.number, vS s.text, .ref 2, .ref 3], .arr true 1 (s.scopes.map Yhd), ho x 1]) (fun k => [.s (li (k : Int)), .o
 (.arr true 5 ((s.items.take k).map Yh9))]) (fun k => k <= s.items.length /\ s.items.length <= 9223372036854775807) (fun k => s.items.length - k) [.mk True (.exit 1)
 (fun x => [(6, .one (.ptr 0 0)), (7, .one (.ptr 1 0))]) (fun x => [.box [vI 0, vI 0, vS (ByteArray.mk #[]), .val (.lit (.slice none 0 0)), .val (.lit
 (.slice none 0 0))], .box [vI s.kind, vI s.number, vS s.text, .ref 2, .ref 3], .arr true 1 (s.scopes.map Yhd), ho x 0]) [.o (.arr true 5 (List.map Yh9
 s.items))]]
theorem Z9d (s : YS) (h : wY s <= 1000000000) (ih : ∀ (z : YS), z ∈ s.items -> wY z <= 1000000000 -> OK (Z24 z)) : Lp.Sem Tryz.prog (Yhp Tryz.f199 0)
 (Z2l s) := Yhz (fun k => .i ((k : Int) < (↑(s.items.map Yh9).length : Int)) (.x (k : Int) (s.items.map Yh9) (Yhg (s.items.getD k default)) (.w
 (.draw [(6, [5, 6]), (7, [3, 13]), (9, [1])]) (.d [.rd, .rd, .rd] (Z24 (s.items.getD k default)) (.p ((((s.items.take k).map Yh9).length + 1) * 80 <=
 140737488355328) (.r ((k : Int) + 1) (.g [0, 1, 2, 14] (k + 1) [.s (li ((k : Int) + 1)), .o (.arr true 5 ((s.items.take k).map Yh9 ++ [Yhg (s.items.getD k
 default)]))])))))) (.o 0 [0, 1, 2, 3] [.o (.arr true 5 ((s.items.take k).map Yh9))])) (by
 intro k h; try dsimp only [Yhf, Yhl, Z2l] at h ⊢
 have g1 := Yj6 s
 have g2 := @Yi4 _ wY s.items (s.items.getD k default)
 with_reducible repeat' (first | apply And.intro | exact zR | exact ih | (intro) | apply Z7 | apply ih)
 all_goals ((try simp only [std, inj] at *); with_reducible and_intros)
 all_goals try first | with_reducible (first | apply Z7 | apply ih) | (simp only [<- List.map_append]; with_reducible first | apply Z7 | apply ih)
 all_goals try first | exact z | grind [Yhy, Yhj, Yhi, Yhh, Yhe, Yhj])
theorem Zgj (s : YS) (h : wY s <= 1000000000) (ih : ∀ z ∈ s.items, ∀ (h : wY z <= 1000000000), Z24 z)  : Z24 s := Yhq Tryz.call199 Tryz.func199 (.w (.draw [(11,
 [10])]) (.d [.rd] (Z3f s.scopes) (.i (s.kind = 1) (.y false (.y false (.y false (.z Yh9 s.items (.w (.ghost (.nilbox 10 4 true 5)) (.l (Z2l s) (Z9d s h
 ih) [1, 10, 2, 11] [.s (li 0), .o (.arr true 5 [])] 0 (.t (.f [2, 3] [.arr true 1 (s.scopes.map Yhd), .arr true 5 (s.items.map Yh9)] (.sv (.agg [vI
 s.kind, vI s.number, vS s.text, .ref 0, .ref 1]))) .q))))))) (.z Yh9 s.items (.w (.ghost (.nilbox 10 4 true 5)) (.l (Z2l s) (Z9d s h ih) [1, 10, 2, 11] [.s
 (li 0), .o (.arr true 5 [])] 0 (.t (.f [2, 3] [.arr true 1 (s.scopes.map Yhd), .arr true 5 (s.items.map Yh9)] (.sv (.agg [vI s.kind, vI s.number, vS
 s.text, .ref 0, .ref 1]))) .q))))))) (by
 dsimp only [Yhf, Z24, Yhl, Z2l]
 have g1 := Yj6 s
 with_reducible repeat' (first | apply And.intro | exact zR | exact ih | (intro) | apply Z7)
 all_goals ((try simp only [std, inj] at *); with_reducible and_intros)
 all_goals try with_reducible first | apply Z7 | apply ih
 all_goals (try exact zG))
theorem Zfh (s : YS) : ∀ (h : wY s <= 1000000000), Z24 s := YS.ind (P := fun s => ∀ (h : wY s <= 1000000000), Z24 s) (fun s ih h => Zgj s h ih) s
abbrev Za (s : YS) : Ct := ⟨141, [], [Yhu s], Yk5 s, .sv (Yjx s 0)⟩
theorem Z1 (s : YS) (h : wY s <= 1000000000)  : Za s := Yhq Tryz.call141 Tryz.func141 (.d [.rd, .rd, .rd] (Z24 s) (.f [2, 3] [.arr true 1 (List.map Yhd
 s.scopes), .arr true 5 (s.items.map Yh9)] (.sv (.agg [vI s.kind, vI s.number, vS s.text, .ref 0, .ref 1])))) (by
 dsimp only [Yhf, Za]
 with_reducible repeat' (first | apply And.intro | exact zR | (intro) | apply Zfh)
 all_goals ((try simp only [std, inj] at *); with_reducible and_intros)
 all_goals try with_reducible first | apply Zfh
 all_goals (try exact zG))
def fnA (f : FuncId) : SV := .one (.val (.lit (.func (.func f) #[] #[])))
abbrev Z25 (s : YS) : Ct := ⟨204, [], [Yhu s, fnA 151], Yk5 s, .sv (Yjx s 0)⟩
def Z2m (s : YS) : Lp Nat := .mk 43 0 (fun x => [(1, .one (.val (.lit (.func (Fn.func 151) #[] #[])))), (4, .one (.ptr 0 0)), (5, .one (.ptr 1 0)),
 (27, ll (s.items.map Yh9)), (28, li (↑(s.items.map Yh9).length : Int)), (29, hs x 0)]) (fun x => [.box [vI 0, vI 0, vS (ByteArray.mk #[]), .val (.lit
 (.slice none 0 0)), .val (.lit (.slice none 0 0))], .box [vI s.kind, vI s.number, vS s.text, .ref 2, .ref 3], .arr true 1 (s.scopes.map Yhd), ho x
 1]) (fun k => [.s (li (k : Int)), .o (.arr true 5 ((s.items.take k).map Yh9))]) (fun k => k <= s.items.length /\ s.items.length <= 9223372036854775807) (fun k =>
 s.items.length - k) [.mk True (.exit 0) (fun x => [(4, .one (.ptr 0 0)), (5, .one (.ptr 1 0))]) (fun x => [.box [vI 0, vI 0, vS (ByteArray.mk #[]), .val (.lit
 (.slice none 0 0)), .val (.lit (.slice none 0 0))], .box [vI s.kind, vI s.number, vS s.text, .ref 2, .ref 3], .arr true 1 (s.scopes.map Yhd), ho x
 0]) [.o (.arr true 5 (s.items.map Yh9))]]
theorem Z9e (s : YS) (h : wY s <= 1000000000) (ih : ∀ (z : YS), z ∈ s.items -> wY z <= 1000000000 -> OK (Z25 z)) : Lp.Sem Tryz.prog (Yhp Tryz.f204 0)
 (Z2m s) := Yhz (fun k => .i ((k : Int) < (↑(s.items.map Yh9).length : Int)) (.x (k : Int) (s.items.map Yh9) (Yhg (s.items.getD k default)) (.w
 (.draw [(5, [5, 6]), (6, [3, 13]), (8, [1])]) (.d [.rd, .rd] (Z25 (s.items.getD k default)) (.p ((((s.items.take k).map Yh9).length + 1) * 80 <= 140737488355328)
 (.r ((k : Int) + 1) (.g [0, 1, 2, 14] (k + 1) [.s (li ((k : Int) + 1)), .o (.arr true 5 ((s.items.take k).map Yh9 ++ [Yhg (s.items.getD k default)]))]))))))
 (.o 0 [0, 1, 2, 3] [.o (.arr true 5 ((s.items.take k).map Yh9))])) (by
 intro k h; try dsimp only [Yhf, Yhl, Z2m] at h ⊢
 have g1 := Yj6 s
 have g2 := @Yi4 _ wY s.items (s.items.getD k default)
 with_reducible repeat' (first | apply And.intro | exact zR | exact ih | (intro) | apply Z2 | apply ih)
 all_goals ((try simp only [std, inj] at *); with_reducible and_intros)
 all_goals try first | with_reducible (first | apply Z2 | apply ih) | (simp only [<- List.map_append]; with_reducible first | apply Z2 | apply ih)
 all_goals try first | exact z | grind [Yhy, Yhj, Yhi, Yhh, Yhe, Yhj])
theorem Zgk (s : YS) (h : wY s <= 1000000000) (ih : ∀ z ∈ s.items, ∀ (h : wY z <= 1000000000), Z25 z)  : Z25 s := Yhq Tryz.call204 Tryz.func204 (.w (.draw [(11,
 [10])]) (.d [.rd] (Zl s.scopes) (.i (s.kind = 1) (.d [.rd] (Zl s.scopes) (.z Yh9 s.items (.w (.ghost (.nilbox 10 4 true 5)) (.l (Z2m s) (Z9e s
 h ih) [1, 10, 11, 12] [.s (li 0), .o (.arr true 5 [])] 0 (.t (.f [2, 3] [.arr true 1 (s.scopes.map Yhd), .arr true 5 (s.items.map Yh9)] (.sv (.agg [vI
 s.kind, vI s.number, vS s.text, .ref 0, .ref 1]))) .q))))) (.z Yh9 s.items (.w (.ghost (.nilbox 10 4 true 5)) (.l (Z2m s) (Z9e s h ih) [1, 10, 2, 11] [.s
 (li 0), .o (.arr true 5 [])] 0 (.t (.f [2, 3] [.arr true 1 (s.scopes.map Yhd), .arr true 5 (s.items.map Yh9)] (.sv (.agg [vI s.kind, vI s.number, vS
 s.text, .ref 0, .ref 1]))) .q))))))) (by
 dsimp only [Yhf, Z25, Yhl, Z2m]
 have g1 := Yj6 s
 with_reducible repeat' (first | apply And.intro | exact zR | exact ih | (intro) | apply Z2)
 all_goals ((try simp only [std, inj] at *); with_reducible and_intros)
 all_goals try with_reducible first | apply Z2 | apply ih
 all_goals (try exact zG))
theorem Zfi (s : YS) : ∀ (h : wY s <= 1000000000), Z25 s := YS.ind (P := fun s => ∀ (h : wY s <= 1000000000), Z25 s) (fun s ih h => Zgk s h ih) s
abbrev Zm (s : YS) : Ct := ⟨123, [], [Yhu s], Yk5 s, .sv (Yjx s 0)⟩
theorem Z3 (s : YS) (h : wY s <= 1000000000)  : Zm s := Yhq Tryz.call123 Tryz.func123 (.d [.rd, .rd] (Z25 s) (.f [2, 3] [.arr true 1 (List.map Yhd
 s.scopes), .arr true 5 (s.items.map Yh9)] (.sv (.agg [vI s.kind, vI s.number, vS s.text, .ref 0, .ref 1])))) (by
 dsimp only [Yhf, Zm]
 with_reducible repeat' (first | apply And.intro | exact zR | (intro) | apply Zfi)
 all_goals ((try simp only [std, inj] at *); with_reducible and_intros)
 all_goals try with_reducible first | apply Zfi
 all_goals (try exact zG))
def Yiv (s : YS) : Bool := decide (s.text.data.toList = [95])
def Yk9 (x : YS) : Bool := Yl5 x && !Yhn x && !Yiv x
def okL (L : List YS) : Bool := L.all Yk9 && decide ((L.length : Int) <= 8)
def Yii (L : List YS) (s : YS) : Bool := L.any fun x => decide (x.text = s.text) && decide (x.scopes = s.scopes)
def Ykt (x s : YS) : Bool := decide (x.kind = 1) && decide (s.kind = 1) && decide (x.text = s.text) && decide (x.scopes = s.scopes)
def Ykd (L : List YS) (s : YS) : Bool := L.any fun x => Ykt x s
theorem Y1aw {α : Type} [Inhabited α] {L : List α} {p : α -> Bool} {k : Nat} (h : k < L.length) (hp : p (L.getD k default) = false) : L.all p = false := by
 rw [List.all_eq_false]; exact ⟨_, Yhj h, by rw [hp]; decide⟩
theorem Yzi (x : YS) : Yk9 x = ((decide (x.kind = 1) && Yi2 x) && !Yhn x && !decide (x.text.data.toList = [95])) := rfl
abbrev Zb7 (L : List YS) : Ct := ⟨131, [], [ll (L.map Yh9)], [], .sv (lb (okL L))⟩
def Z57 (L : List YS) : Lp Nat := .mk 27 0 (fun x => [(0, ll (L.map Yh9)), (5, ll (L.map Yh9)), (6, li (↑(L.map Yh9).length : Int)), (7, hs x
 0)]) (fun x => []) (fun k => [.s (li (k : Int))]) (fun k => k <= L.length /\ L.length <= 9223372036854775807 /\ (L.take k).all Yk9 = true) (fun k => L.length - k) [.mk (L.all
 Yk9 = true) (.exit 0) (fun x => [(0, ll (L.map Yh9))]) (fun x => []) [], .mk (L.all Yk9 = false) .ret (fun x => [(2, hs x 0)]) (fun x => []) [.s (lb false)]]
theorem Zei (L : List YS) : Lp.Sem Tryz.prog (Yhp Tryz.f131 0) (Z57 L) := Yhz (fun k => .i ((k : Int) < (↑(L.map Yh9).length : Int)) (.x (k : Int)
 (L.map Yh9) (Yhg (L.getD k default)) (.c [.rd] (Zag (L.getD k default)) (.b (!(decide ((L.getD k default).kind = 1) && Yi2 (L.getD k default))) (.y true (.y
 true (.o 1 [] [.s (lb false)]))) (.c [.rd] (Ze (L.getD k default)) (.b (Yhn (L.getD k default)) (.y true (.o 1 [] [.s (lb false)])) (.i ((L.getD k
 default).text.data.toList = [(95 : UInt8)]) (.o 1 [] [.s (lb false)]) (.r ((k : Int) + 1) (.g [] (k + 1) [.s (li ((k : Int) + 1))])))))))) (.o 0 [] [])) (by
 intro k h; try dsimp only [Yhf, Yhl, Z57] at h ⊢
 have g1 := @Y1aw _ _ L Yk9 k
 have g2 := Yzi (L.getD k default)
 with_reducible repeat' (first | apply And.intro | exact zR | (intro))
 all_goals ((try simp only [std, inj] at *); with_reducible and_intros)
 all_goals try first | exact z | grind [Yhy, Yhi, Yhh, Yhe])
theorem Zgy (L : List YS)  : Zb7 L := Yhq Tryz.call131 Tryz.func131 (.z Yh9 L (.l (Z57 L) (Zei L) [] [.s (li 0)] 0 (.t (.z Yh9 L (.s (lb (decide
 ((↑(L.map Yh9).length : Int) <= 8))))) (.t (.s (lb false)) .q)))) (by
 dsimp only [Yhf, Zb7, Yhl, Z57]
 with_reducible repeat' (first | apply And.intro | exact zR | (intro))
 all_goals ((try simp only [std, inj] at *); with_reducible and_intros)
 all_goals try first | exact z | grind [okL, Yhi, Yhh, Yhe])
abbrev Zb8 (s : YS) : Ct := ⟨190, [], [Yhu s], [], .sv (lb (decide (s.kind = 1) && Yiv s))⟩
theorem Z92 (s : YS)  : Zb8 s := Yhq Tryz.call190 Tryz.func190 (.i (s.kind = 1) (.s (lb (decide (s.text.data.toList = [(95 : UInt8)])))) (.s (lb false))) (by
 dsimp only [Yhf, Zb8]
 with_reducible repeat' (first | apply And.intro | exact zR | (intro))
 all_goals ((try simp only [std, inj] at *); with_reducible and_intros)
 all_goals try first | exact z | grind [Yiv, Yhi, Yhh, Yhe])
abbrev Zb9 (L : List YS) : Ct := ⟨144, [], [ll (L.map Yh9)], [], .sv (lb (okL L))⟩
def Z58 (L : List YS) : Lp Nat := .mk 26 0 (fun x => [(8, ll (L.map Yh9)), (9, li (↑(L.map Yh9).length : Int)), (10, hs x 0)]) (fun x => []) (fun k =>
 [.s (li (k : Int))]) (fun k => k <= L.length /\ L.length <= 9223372036854775807 /\ (L.take k).all Yk9 = true) (fun k => L.length - k) [.mk (L.all Yk9 = true) (.exit 0) (fun x
 => []) (fun x => []) [], .mk (L.all Yk9 = false) .ret (fun x => [(2, hs x 0)]) (fun x => []) [.s (lb false)]]
theorem Zej (L : List YS) : Lp.Sem Tryz.prog (Yhp Tryz.f144 0) (Z58 L) := Yhz (fun k => .i ((k : Int) < (↑(L.map Yh9).length : Int)) (.x (k : Int)
 (L.map Yh9) (Yhg (L.getD k default)) (.c [.rd] (Zj (L.getD k default)) (.b (!(decide ((L.getD k default).kind = 1) && Yi2 (L.getD k default))) (.y true (.y
 true (.o 1 [] [.s (lb false)]))) (.c [.rd] (Z0 (L.getD k default)) (.b (Yhn (L.getD k default)) (.y true (.o 1 [] [.s (lb false)])) (.c [.rd] (Z92 (L.getD k default))
 (.b (decide ((L.getD k default).kind = 1) && Yiv (L.getD k default)) (.o 1 [] [.s (lb false)]) (.r ((k : Int) + 1) (.g [] (k + 1) [.s (li ((k : Int) + 1))]))))))))) (.o 0 []
 [])) (by
 intro k h; try dsimp only [Yhf, Yhl, Z58] at h ⊢
 with_reducible repeat' (first | apply And.intro | exact zR | (intro) | apply Zj | apply Z0)
 all_goals ((try simp only [std, inj] at *); with_reducible and_intros)
 all_goals try with_reducible first | apply Zj | apply Z0
 all_goals try first | exact z | grind [Yhy, Yk9, Yl5, Yhj, Yhi, Yhh, Yhe])
theorem Ze1 (L : List YS)  : Zb9 L := Yhq Tryz.call144 Tryz.func144 (.z Yh9 L (.i (8 < (↑(L.map Yh9).length : Int)) (.s (lb false)) (.z Yh9 L (.l
 (Z58 L) (Zej L) [] [.s (li 0)] 0 (.t (.s (lb true)) (.t (.s (lb false)) .q)))))) (by
 dsimp only [Yhf, Zb9, Yhl, Z58]
 with_reducible repeat' (first | apply And.intro | exact zR | (intro) | apply Zj | apply Z0)
 all_goals ((try simp only [std, inj] at *); with_reducible and_intros)
 all_goals try with_reducible first | apply Zj | apply Z0
 all_goals try first | exact z | grind [okL, Yhi, Yhh, Yhe])
abbrev Zba (L : List YS) (s : YS) : Ct := ⟨183, [], [ll (L.map Yh9), Yhu s], [], .sv (lb (Yii L s))⟩
def Z59 (L : List YS) (s : YS) : Lp Nat := .mk 17 0 (fun x => [(3, .one (.ptr 0 0)), (7, ll (L.map Yh9)), (8, li (↑(L.map Yh9).length : Int)),
 (9, hs x 0)]) (fun x => [.box (vals (Yhg s))]) (fun k => [.s (li (k : Int))]) (fun k => k <= L.length /\ L.length <= 9223372036854775807 /\ Yii (L.take k) s = false) (fun
 k => L.length - k) [.mk (Yii L s = false) (.exit 0) (fun x => []) (fun x => []) [], .mk (Yii L s = true) .ret (fun x => [(4, hs x 0)]) (fun x => []) [.s (lb true)]]
theorem Zek (L : List YS) (s : YS) : Lp.Sem Tryz.prog (Yhp Tryz.f183 0) (Z59 L s) := Yhz (fun k => .i ((k : Int) < (↑(L.map Yh9).length : Int))
 (.x (k : Int) (L.map Yh9) (Yhg (L.getD k default)) (.c [.rd, .rd] (Ze0 (L.getD k default) s) (.b (decide ((L.getD k default).text = s.text) && decide ((L.getD k
 default).scopes = s.scopes)) (.o 1 [] [.s (lb true)]) (.r ((k : Int) + 1) (.g [0] (k + 1) [.s (li ((k : Int) + 1))]))))) (.o 0 [] [])) (by
 intro k h; try dsimp only [Yhf, Yhl, Z59] at h ⊢
 with_reducible repeat' (first | apply And.intro | exact zR | (intro))
 all_goals ((try simp only [std, inj] at *); with_reducible and_intros)
 all_goals try first | exact z | grind [Yhy, Yii, Yhj, Yhi, Yhh, Yhe])
theorem Z5z (L : List YS) (s : YS)  : Zba L s := Yhq Tryz.call183 Tryz.func183 (.z Yh9 L (.l (Z59 L s) (Zek L s) [0] [.s (li 0)] 0 (.t (.s (lb
 false)) (.t (.s (lb true)) .q)))) (by
 dsimp only [Yhf, Zba, Yhl, Z59]
 with_reducible repeat' (first | apply And.intro | exact zR | (intro))
 all_goals ((try simp only [std, inj] at *); with_reducible and_intros)
 all_goals try first | exact z | grind [Yii, Yhi, Yhh, Yhe])
abbrev Zbb (L : List YS) (s : YS) : Ct := ⟨191, [], [ll (L.map Yh9), Yhu s], [], .sv (lb (Ykd L s))⟩
def Z5a (L : List YS) (s : YS) : Lp Nat := .mk 17 0 (fun x => [(3, .one (.ptr 0 0)), (7, ll (L.map Yh9)), (8, li (↑(L.map Yh9).length : Int)),
 (9, hs x 0)]) (fun x => [.box (vals (Yhg s))]) (fun k => [.s (li (k : Int))]) (fun k => k <= L.length /\ L.length <= 9223372036854775807 /\ Ykd (L.take k) s = false) (fun
 k => L.length - k) [.mk (Ykd L s = false) (.exit 0) (fun x => []) (fun x => []) [], .mk (Ykd L s = true) .ret (fun x => [(4, hs x 0)]) (fun x => []) [.s (lb true)]]
theorem Zel (L : List YS) (s : YS) : Lp.Sem Tryz.prog (Yhp Tryz.f191 0) (Z5a L s) := Yhz (fun k => .i ((k : Int) < (↑(L.map Yh9).length : Int))
 (.x (k : Int) (L.map Yh9) (Yhg (L.getD k default)) (.c [.rd, .rd] (Zaj (L.getD k default) s) (.b (decide ((L.getD k default).kind = 1) && decide (s.kind = 1) &&
 decide ((L.getD k default).text = s.text) && decide ((L.getD k default).scopes = s.scopes)) (.o 1 [] [.s (lb true)]) (.r ((k : Int) + 1) (.g [0] (k + 1) [.s (li ((k : Int) +
 1))]))))) (.o 0 [] [])) (by
 intro k h; try dsimp only [Yhf, Yhl, Z5a] at h ⊢
 with_reducible repeat' (first | apply And.intro | exact zR | (intro))
 all_goals ((try simp only [std, inj] at *); with_reducible and_intros)
 all_goals try first | exact z | grind [Yhy, Ykd, Ykt, Yhj, Yhi, Yhh, Yhe])
theorem Zak (L : List YS) (s : YS)  : Zbb L s := Yhq Tryz.call191 Tryz.func191 (.z Yh9 L (.l (Z5a L s) (Zel L s) [0] [.s (li 0)] 0 (.t (.s (lb
 false)) (.t (.s (lb true)) .q)))) (by
 dsimp only [Yhf, Zbb, Yhl, Z5a]
 with_reducible repeat' (first | apply And.intro | exact zR | (intro))
 all_goals ((try simp only [std, inj] at *); with_reducible and_intros)
 all_goals try first | exact z | grind [Ykd, Yhi, Yhh, Yhe])
def atF (l : List YS) : Nat -> Int
 | 0 => -1
 | k + 1 => if Yhn (l.getD k default) = true then (k : Int) else atF l k
def okA (l : List YS) : Nat -> Bool
 | 0 => true
 | k + 1 => okA l k && (!Yhn (l.getD k default) || (decide (k ≠ 0) && decide (atF l k < 0)))
def atS (l : List YS) : Int := atF l l.length
def okS (l : List YS) : Bool := okA l l.length
theorem Y1bk (l : List YS) : ∀ (m k : Nat), k <= m -> okA l m = true -> okA l k = true
 | 0, k, h, _ => by
  obtain rfl : k = 0 := by omega
  rfl
 | m + 1, k, h, ht => by
  by_cases e : k = m + 1
  ·rw [e]; exact ht
  ·refine Y1bk l m k (by omega) ?_
   simp only [okA, Bool.and_eq_true] at ht; exact ht.1
def atI (l : List YS) : Int := if l.findIdx Yhn < l.length then (l.findIdx Yhn : Int) else -1
abbrev Ze2 (l : List YS) : Ct := ⟨224, [], [ll (l.map Yh9)], [], .tup [li (if okS l = true then atS l else -1), lb (okS l)]⟩
def Z7e (l : List YS) : Lp Nat := .mk 26 0 (fun x => [(4, hs x 1), (7, ll (l.map Yh9)), (8, li (↑(l.map Yh9).length : Int)), (9, hs x 0)]) (fun x => [])
 (fun k => [.s (li (k : Int)), .s (li (atF l k))]) (fun k => k <= l.length /\ l.length <= 9223372036854775807 /\ okA l k = true) (fun k => l.length - k) [.mk (okS l = true) (.exit 0)
 (fun x => [(4, hs x 0)]) (fun x => []) [.s (li (atS l))], .mk (okS l = false) .ret (fun x => [(2, hs x 0), (3, hs x 1)]) (fun x => []) [.s (li (-1 : Int)), .s (lb false)]]
theorem Zgl (l : List YS) : Lp.Sem Tryz.prog (Yhp Tryz.f224 0) (Z7e l) := Yhz (fun k => .i ((k : Int) < (↑(l.map Yh9).length : Int)) (.x (k : Int)
 (l.map Yh9) (Yhg (l.getD k default)) (.c [.rd] (Ze (l.getD k default)) (.b (!Yhn (l.getD k default)) (.r ((k : Int) + 1) (.g [] (k + 1) [.s (li ((k : Int) +
 1)), .s (li (atF l k))])) (.i ((k : Int) = 0) (.y true (.o 1 [] [.s (li (-1 : Int)), .s (lb false)])) (.i (0 <= atF l k) (.o 1 [] [.s (li (-1 : Int)), .s (lb false)]) (.r ((↑k :
 Int) + 1) (.g [] (k + 1) [.s (li ((k : Int) + 1)), .s (li (k : Int))]))))))) (.o 0 [] [.s (li (atF l k))])) (by
 intro k h; try dsimp only [Yhf, Yhl, Z7e] at h ⊢
 have g1 := Y1bk l l.length (k + 1)
 have g2 : okA l (k + 1) = (okA l k && (!Yhn (l.getD k default) || (decide (k ≠ 0) && decide (atF l k < 0)))) := rfl
 have g3 : atF l (k + 1) = if Yhn (l.getD k default) = true then (k : Int) else atF l k := rfl
 with_reducible repeat' (first | apply And.intro | exact zR | (intro))
 all_goals ((try simp only [std, inj] at *); with_reducible and_intros)
 all_goals try first | exact z | grind [okS, atS, Yhi, Yhh, Yhe])
theorem Zgs (l : List YS)  : Ze2 l := Yhq Tryz.call224 Tryz.func224 (.z Yh9 l (.l (Z7e l) (Zgl l) [] [.s (li 0), .s (li (-1 : Int))] 0 (.t (.f [] [] (.tup
 [li (atS l), lb true])) (.t (.f [] [] (.tup [li (-1 : Int), lb false])) .q)))) (by
 dsimp only [Yhf, Ze2, Yhl, Z7e]
 with_reducible repeat' (first | apply And.intro | exact zR | (intro))
 all_goals ((try simp only [std, inj] at *); with_reducible and_intros)
 all_goals try first | exact z | grind [okA, atF, Yhi, Yhh, Yhe])
abbrev Ze3 (l : List YS) : Ct := ⟨193, [], [ll (l.map Yh9)], [], .sv (li (atI l))⟩
def Z7f (l : List YS) : Lp Nat := .mk 16 0 (fun x => [(5, ll (l.map Yh9)), (6, li (↑(l.map Yh9).length : Int)), (7, hs x 0)]) (fun x => []) (fun k => [.s
 (li (k : Int))]) (fun k => k <= l.length /\ l.length <= 9223372036854775807 /\ k <= List.findIdx Yhn l) (fun k => l.length - k) [.mk (atI l = (-1 : Int)) (.exit 0) (fun x => [])
 (fun x => []) [], .mk True .ret (fun x => [(2, hs x 0)]) (fun x => []) [.s (li (atI l))]]
theorem Zgm (l : List YS) : Lp.Sem Tryz.prog (Yhp Tryz.f193 0) (Z7f l) := Yhz (fun k => .i ((k : Int) < (↑(l.map Yh9).length : Int)) (.x (k : Int)
 (l.map Yh9) (Yhg (l.getD k default)) (.c [.rd] (Z0 (l.getD k default)) (.b (Yhn (l.getD k default)) (.o 1 [] [.s (li (k : Int))]) (.r ((k : Int) + 1) (.g []
 (k + 1) [.s (li ((k : Int) + 1))]))))) (.o 0 [] [])) (by
 intro k h; try dsimp only [Yhf, Yhl, Z7f] at h ⊢
 have g1 := @Y1gc _ _ Yhn l k
 have g2 := @Y18q _ _ Yhn l k
 with_reducible repeat' (first | apply And.intro | exact zR | (intro) | apply Z0)
 all_goals ((try simp only [std, inj] at *); with_reducible and_intros)
 all_goals try with_reducible first | apply Z0
 all_goals try first | exact z | grind [atI, Yhi, Yhh, Yhe])
theorem Zc4 (l : List YS)  : Ze3 l := Yhq Tryz.call193 Tryz.func193 (.z Yh9 l (.l (Z7f l) (Zgm l) [] [.s (li 0)] 0 (.t (.s (li (-1 : Int))) (.t (.s (li (atI
 l))) .q)))) (by
 dsimp only [Yhf, Ze3, Yhl, Z7f]
 with_reducible repeat' (first | apply And.intro | exact zR | (intro) | apply Z0)
 all_goals ((try simp only [std, inj] at *); with_reducible and_intros)
 all_goals try with_reducible first | apply Z0
 all_goals (try exact zG))
def wlk (f : YS -> Int -> List YC -> Option (List YC)) : List YS -> Int -> Int -> Int -> List YC -> Option (List YC)
 | [], _, _, _, o => some o
 | x :: r, i, a, d, o => if i = a then wlk f r (i + 1) a d o else match f x (if i + 1 = a then d + 1 else d) o with
  | none => none
  | some o' => wlk f r (i + 1) a d o'
theorem Yq2 (f : YS -> Int -> List YC -> Option (List YC)) : ∀ (A B : List YS) (i a d : Int) (o : List YC), wlk f (A ++ B) i a d o = match wlk f A i a d o with
  | none => none
  | some o' => wlk f B (i + (A.length : Int)) a d o'
 | [], B, i, a, d, o => by simp [wlk]
 | x :: A, B, i, a, d, o => by
  have e : i + ((x :: A).length : Int) = i + 1 + (A.length : Int) := by simp only [List.length_cons]; omega
  simp only [List.cons_append, wlk, e]
  split
  ·exact Yq2 f A B _ a d o
  ·split
   ·rfl
   ·exact Yq2 f A B _ a d _
theorem Yt9 {f : YS -> Int -> List YC -> Option (List YC)} {l : List YS} {k : Nat} {a d : Int} {o o' : List YC} (h : k < l.length) (e : wlk f (l.take k) 0 a d o = some o') :
  wlk f (l.take (k + 1)) 0 a d o = if (k : Int) = a then some o' else f (l.getD k default) (if (k : Int) + 1 = a then d + 1 else d) o' := by
 rw [Yhy h, Yq2, e]
 have : (0 : Int) + ((l.take k).length : Int) = (k : Int) := by simp; omega
 simp only [this, wlk]
 split
 ·rfl
 ·cases f (l.getD k default) (if (k : Int) + 1 = a then d + 1 else d) o' <;> rfl
theorem Y15s {f : YS -> Int -> List YC -> Option (List YC)} {l : List YS} {k : Nat} {a d : Int} {o : List YC} (e : wlk f (l.take k) 0 a d o = none) : wlk f l 0 a d o = none := by
 have := Yq2 f (l.take k) (l.drop k) 0 a d o
 rw [List.take_append_drop, e] at this; exact this
def Yoc (p : YS) (d : Int) : YC := ⟨p, d, ⟨0, 0, mkS [], [], []⟩, []⟩
mutual
def vrS (Ls : List YS) : YS -> Int -> List YC -> Option (List YC)
 | ⟨k, n, t, s, l⟩, d, o => if k = 1 then (if Yiv ⟨k, n, t, s, l⟩ = true ∨ Yii Ls ⟨k, n, t, s, l⟩ = true then some o else
   if Yhn ⟨k, n, t, s, l⟩ = true ∨ 0 <= fnd o ⟨k, n, t, s, l⟩ ∨ 3 < d then none else some (o ++ [Yoc ⟨k, n, t, s, l⟩ d]))
  else if okS l = true then Y101 Ls l 0 (atS l) d o else none
def Y101 (Ls : List YS) : List YS -> Int -> Int -> Int -> List YC -> Option (List YC)
 | [], _, _, _, o => some o
 | x :: r, i, a, d, o => if i = a then Y101 Ls r (i + 1) a d o else match vrS Ls x (if i + 1 = a then d + 1 else d) o with
  | none => none
  | some o' => Y101 Ls r (i + 1) a d o'
end
theorem Y179 (Ls : List YS) : ∀ l i a d o, Y101 Ls l i a d o = wlk (vrS Ls) l i a d o
 | [], i, a, d, o => by simp [Y101, wlk]
 | x :: r, i, a, d, o => by
  simp only [Y101, wlk, Y179 Ls r]
theorem Ymd (Ls : List YS) (p : YS) (d : Int) (o : List YC) : vrS Ls p d o = if p.kind = 1 then (if Yiv p = true ∨ Yii Ls p = true then some o else
      if Yhn p = true ∨ 0 <= fnd o p ∨ 3 < d then none else some (o ++ [Yoc p d]))
    else if okS p.items = true then wlk (vrS Ls) p.items 0 (atS p.items) d o else none := by cases p; simp only [vrS, Y179]
theorem Ys3 (f : YS -> Int -> List YC -> Option (List YC)) : ∀ (l : List YS), (∀ x ∈ l, ∀ d o o', f x d o = some o' -> o'.length <= o.length + Yhk x) -> ∀ i a d o o', wlk f l i a d o = some o' -> o'.length <= o.length + Yhb Yhk l
 | [], _, i, a, d, o, o', e => by simp only [wlk, Option.some.injEq] at e; subst e; simp [Yhb]
 | x :: r, h, i, a, d, o, o', e => by
  have ih := Ys3 f r fun y hy => h y (List.mem_cons_of_mem _ hy)
  simp only [wlk] at e
  simp only [Yhb]
  split at e
  ·have := ih _ _ _ _ _ e; omega
  ·split at e
   ·cases e
   ·rename_i o1 h1
    have h2 := ih _ _ _ _ _ e
    have h3 := h x List.mem_cons_self _ _ _ h1
    omega
theorem Y1gy (Ls : List YS) : ∀ (p : YS) (d : Int) (o o' : List YC), vrS Ls p d o = some o' -> o'.length <= o.length + Yhk p := by
 refine YS.ind fun p ih d o o' e => ?_
 rw [Ymd] at e
 rw [Yi9]
 split at e
 ·split at e
  ·simp only [Option.some.injEq] at e; subst e; omega
  ·split at e
   ·cases e
   ·simp only [Option.some.injEq] at e; subst e; simp
 ·split at e
  ·have := Ys3 (vrS Ls) p.items (fun x hx d o o' h => ih x hx d o o' h) _ _ _ _ _ e; omega
  ·cases e
def vaS (Ls : List YS) (p : YS) (d : Int) (o : List YC) (k : Nat) : List YC := if okS p.items = true then (wlk (vrS Ls) (p.items.take k) 0 (atS p.items) d o).getD [] else o
def vbS (Ls : List YS) (p : YS) (d : Int) (o : List YC) (k : Nat) : Bool := okS p.items && (wlk (vrS Ls) (p.items.take k) 0 (atS p.items) d o).isSome
theorem Y1hu {Ls : List YS} {p : YS} {d : Int} {o : List YC} {k : Nat} (hk : k <= p.items.length) (h : vbS Ls p d o k = false) : vaS Ls p d o k = vaS Ls p d o p.items.length /\ vbS Ls p d o p.items.length = false := by
 unfold vaS vbS at *
 by_cases e : okS p.items = true
 ·rw [e] at h
  cases e2 : wlk (vrS Ls) (p.items.take k) 0 (atS p.items) d o with
  | none => rw [if_pos e, if_pos e, List.take_length, Y15s e2]; simp
  | some v => rw [e2] at h; cases h
 ·have e' : okS p.items = false := by simpa using e
  rw [if_neg e, if_neg e, e']; simp
theorem Y1i4 {Ls : List YS} {p : YS} {d : Int} {o : List YC} {k : Nat} (hk : k < p.items.length) (h : vbS Ls p d o k = true) (e : (k : Int) = atS p.items) : vaS Ls p d o (k + 1) = vaS Ls p d o k /\ vbS Ls p d o (k + 1) = true := by
 unfold vaS vbS at *
 simp only [Bool.and_eq_true] at h
 obtain ⟨v, hv⟩ := Option.isSome_iff_exists.1 h.2
 rw [if_pos h.1, if_pos h.1, Yt9 hk hv, if_pos e, hv, h.1]; simp
theorem Y1lh {Ls : List YS} {p : YS} {d : Int} {o : List YC} {k : Nat} (hk : k < p.items.length) (h : vbS Ls p d o k = true) (e : ¬ (k : Int) = atS p.items) :
  vaS Ls p d o (k + 1) = (vrS Ls (p.items.getD k default) (if (k : Int) + 1 = atS p.items then d + 1 else d) (vaS Ls p d o k)).getD [] /\ vbS Ls p d o (k + 1) = (vrS Ls (p.items.getD k default) (if (k : Int) + 1 = atS p.items then d + 1 else d) (vaS Ls p d o k)).isSome := by
 unfold vaS vbS at *
 simp only [Bool.and_eq_true] at h
 obtain ⟨v, hv⟩ := Option.isSome_iff_exists.1 h.2
 rw [if_pos h.1, if_pos h.1, Yt9 hk hv, if_neg e, hv, h.1]; simp
theorem Y1ir {Ls : List YS} {p : YS} {d : Int} {o : List YC} {k : Nat} (h : vbS Ls p d o k = true) : (vaS Ls p d o k).length <= o.length + Yhb Yhk (p.items.take k) := by
 unfold vaS vbS at *
 simp only [Bool.and_eq_true] at h
 obtain ⟨v, hv⟩ := Option.isSome_iff_exists.1 h.2
 rw [if_pos h.1, hv]
 exact Ys3 (vrS Ls) _ (fun x _ d o o' h => Y1gy Ls x d o o' h) _ _ _ _ _ hv
theorem Y1lc {Ls : List YS} {p : YS} {d : Int} {o : List YC} {k : Nat} (h : vbS Ls p d o k = true) : okS p.items = true := by
 unfold vbS at h; simp only [Bool.and_eq_true] at h; exact h.1
theorem Y1j4 (Ls : List YS) (p : YS) (d : Int) (o : List YC) (hk : ¬ p.kind = 1) : (vrS Ls p d o).isSome = vbS Ls p d o p.items.length /\ (vbS Ls p d o p.items.length = true -> (vrS Ls p d o).getD [] = vaS Ls p d o p.items.length) /\ (vbS Ls p d o p.items.length = false -> (vrS Ls p d o).getD [] = []) := by
 rw [Ymd, if_neg hk]
 unfold vaS vbS
 rw [List.take_length]
 by_cases e : okS p.items = true
 ·rw [if_pos e, if_pos e, e]
  cases wlk (vrS Ls) p.items 0 (atS p.items) d o <;> simp
 ·have e' : okS p.items = false := by simpa using e
  rw [if_neg e, if_neg e, e']; simp
theorem Yl0 {p : YS} {k : Nat} (h : k < p.items.length) : Yhb Yhk (p.items.take k) + Yhk (p.items.getD k default) + 1 <= Yhk p /\ wY (p.items.getD k default) <= wY p := by
 have g1 := Yi9 p
 have g2 := @Yjj _ _ Yhk p.items k h
 have g3 := Yiz Yhk p.items (k + 1)
 have g4 := @Yi4 _ wY p.items _ (Yhj h)
 have g5 := Yj6 p
 omega
theorem Y13b (o : List YC) (p : YS) (d : Int) : o.map Yha ++ [[cI p.kind, cI p.number, cS p.text, Cell.list (List.map Yhd p.scopes), Cell.list (List.map Yh9 p.items), cI d, cI 0, cI 0, cS (mkS []), Cell.list [], Cell.list [], Cell.list []]] = (o ++ [Yoc p d]).map Yha :=
 Yhe (C := Yha) o (Yoc p d)
theorem Y17z (Ls : List YS) (p : YS) (d : Int) (o : List YC) (hk : p.kind = 1) (h : Yiv p = true ∨ Yii Ls p = true) : vrS Ls p d o = some o := by
 rw [Ymd, if_pos hk, if_pos h]
theorem Yvq (Ls : List YS) (p : YS) (d : Int) (o : List YC) (hk : p.kind = 1) (h : Yiv p = false) (h2 : Yii Ls p = false) (h3 : Yhn p = true ∨ 0 <= fnd o p ∨ 3 < d) : vrS Ls p d o = none := by
 rw [Ymd, if_pos hk, if_neg (by rw [h, h2]; simp), if_pos h3]
theorem Y17u (Ls : List YS) (p : YS) (d : Int) (o : List YC) (hk : p.kind = 1) (h : Yiv p = false) (h2 : Yii Ls p = false) (h3 : Yhn p = false) (h4 : fnd o p < 0) (h5 : d <= 3) : vrS Ls p d o = some (o ++ [Yoc p d]) := by
 rw [Ymd, if_pos hk, if_neg (by rw [h, h2]; simp), if_neg (by rw [h3]; simp; omega)]
abbrev Zw (Ls : List YS) (p : YS) (d : Int) (o : List YC) : Ct := ⟨134, [.arr true 12 (o.map Yha)], [ll (Ls.map Yh9), Yhu p, li d, .one (.ref 0)], [.dead, .arr true 12 (((vrS Ls p d o).getD []).map Yha)], .tup [.one (.ref 1), lb (vrS Ls p d o).isSome]⟩
def Z3r (Ls : List YS) (p : YS) (d : Int) (o : List YC) : Lp Nat := .mk 84 1 (fun x => [(0, ll (Ls.map Yh9)), (2, li d), (3, .one (.ref 1)), (10,
 li (if okS p.items = true then atS p.items else (-1 : Int))), (11, hs x 1), (53, ll (p.items.map Yh9)), (54, li (↑(p.items.map Yh9).length : Int)), (55, hs x
 0)]) (fun x => [.dead, ho x 2]) (fun k => [.s (li (k : Int)), .s (lb (vbS Ls p d o k)), .o (.arr true 12 ((vaS Ls p d o k).map Yha))]) (fun k => k <= p.items.length
 /\ p.items.length <= 9223372036854775807) (fun k => p.items.length - k) [.mk True (.exit 0) (fun x => [(3, .one (.ref 1)), (11, hs x 0)]) (fun x => [.dead, ho x 1]) [.s (lb
 (vbS Ls p d o p.items.length)), .o (.arr true 12 ((vaS Ls p d o p.items.length).map Yha))]]
theorem Zch (Ls : List YS) (p : YS) (d : Int) (o : List YC) (h : 0 <= d /\ d + (↑(Yi1 p) : Int) <= 1000 /\ wY p <= 1048576 /\ o.length + Yhk p <= 2147483647) (ih
 : ∀ (z : YS), z ∈ p.items -> ∀ (Ls : List YS) (d : Int) (o : List YC), 0 <= d /\ d + (↑(Yi1 z) : Int) <= 1000 /\ wY z <= 1048576 /\ o.length + Yhk z <= 2147483647 -> OK
 (Zw Ls z d o)) : Lp.Sem Tryz.prog (Yhp Tryz.f134 0) (Z3r Ls p d o) := Yhz (fun k => .i ((k : Int) < (↑(p.items.map Yh9).length : Int)) (.x (k : Int)
 (p.items.map Yh9) (Yhg (p.items.getD k default)) (.b (!vbS Ls p d o k) (.o 0 [0, 1] [.s (lb (vbS Ls p d o k)), .o (.arr true 12 ((vaS Ls p d o
 k).map Yha))]) (.i ((k : Int) = if okS p.items = true then atS p.items else (-1 : Int)) (.r ((k : Int) + 1) (.g [0, 1] (k + 1) [.s (li ((k : Int) + 1)), .s (lb (vbS Ls p d o k)), .o
 (.arr true 12 ((vaS Ls p d o k).map Yha))])) (.r ((k : Int) + 1) (.i ((k : Int) + 1 = if okS p.items = true then atS p.items else (-1 : Int)) (.r (d + 1) (.d [.rd,
 .rd, .rd, .own true 12] (Zw Ls (p.items.getD k default) (d + 1) (vaS Ls p d o k)) (.r ((k : Int) + 1) (.g [0, 4] (k + 1) [.s (li ((k : Int) + 1)), .s (lb (vrS Ls
 (p.items.getD k default) (d + 1) (vaS Ls p d o k)).isSome), .o (.arr true 12 (((vrS Ls (p.items.getD k default) (d + 1) (vaS Ls p d o k)).getD []).map Yha))])))) (.d
 [.rd, .rd, .rd, .own true 12] (Zw Ls (p.items.getD k default) d (vaS Ls p d o k)) (.r ((k : Int) + 1) (.g [0, 4] (k + 1) [.s (li ((k : Int) + 1)), .s (lb (vrS Ls
 (p.items.getD k default) d (vaS Ls p d o k)).isSome), .o (.arr true 12 (((vrS Ls (p.items.getD k default) d (vaS Ls p d o k)).getD []).map Yha))])))))))) (.o 0 [0, 1]
 [.s (lb (vbS Ls p d o k)), .o (.arr true 12 ((vaS Ls p d o k).map Yha))])) (by
 intro k h; try dsimp only [Yhf, Yhl, Z3r] at h ⊢
 have g1 := @Y1hu Ls p d o k
 have g2 := @Y1i4 Ls p d o k
 have g3 := @Y1lh Ls p d o k
 have g4 := @Y1ir Ls p d o k
 have g5 := @Y1lc Ls p d o k
 have g6 := @Yl1 p k
 have g7 := @Yl0 p k
 have g8 : k < p.items.length ∨ k = p.items.length ∨ p.items.length < k := by omega
 with_reducible repeat' (first | apply And.intro | exact zR | exact ih | (intro) | apply Z1 | apply ih)
 all_goals ((try simp only [std, inj] at *); with_reducible and_intros)
 all_goals try with_reducible first | apply Z1 | apply ih
 all_goals try first | exact z | grind [Yhj, Yhi, Yhh, Yhe])
theorem Zfj (Ls : List YS) (p : YS) (d : Int) (o : List YC) (h : 0 <= d /\ d + Yi1 p <= 1000 /\ wY p <= 1048576 /\ o.length + Yhk p <= 2147483647) (ih : ∀ z ∈
 p.items, ∀ (Ls : List YS) (d : Int) (o : List YC) (h : 0 <= d /\ d + Yi1 z <= 1000 /\ wY z <= 1048576 /\ o.length + Yhk z <= 2147483647), Zw Ls z d o)  : Zw Ls
 p d o := Yhq Tryz.call134 Tryz.func134 (.i (p.kind = 1) (.i (p.text.data.toList = [(95 : UInt8)]) (.y true (.w (.ghost (.move 0)) (.f [2] [.dead, .arr true 12 (List.map
 Yha o)] (.tup [.one (.ref 1), lb true])))) (.c [.rd, .rd] (Z5z Ls p) (.b (Yii Ls p) (.w (.ghost (.move 0)) (.f [2] [.dead, .arr true 12 (o.map Yha)]
 (.tup [.one (.ref 1), lb true]))) (.c [.rd] (Ze p) (.b (Yhn p) (.y true (.y true (.w (.ghost (.nilreg 8 true 12)) (.w (.ghost (.move 0)) (.f [2] [.dead, .arr
 true 12 []] (.tup [.one (.ref 1), lb false])))))) (.c [.rd, .rd] (Z5y o p) (.i (0 <= fnd o p) (.y true (.w (.ghost (.nilreg 8 true 12)) (.w (.ghost (.move 0)) (.f [2]
 [.dead, .arr true 12 []] (.tup [.one (.ref 1), lb false]))))) (.i (3 < d) (.w (.ghost (.nilreg 8 true 12)) (.w (.ghost (.move 0)) (.f [2] [.dead, .arr true 12 []]
 (.tup [.one (.ref 1), lb false])))) (.d [.rd] (Za p) (.p (((o.map Yha).length + 1) * 192 <= 140737488355328) (.f [5] [.dead, .arr true 12 (List.map
 Yha o ++ [[cI p.kind, cI p.number, cS p.text, .list (p.scopes.map Yhd), .list (p.items.map Yh9), cI d, cI 0, cI 0, cS (ByteArray.mk #[]), .list [],
 .list [], .list []]])] (.tup [.one (.ref 1), lb true])))))))))))) (.c [.rd] (Zgs p.items) (.z Yh9 p.items (.w (.ghost (.move 0)) (.l (Z3r Ls p d o)
 (Zch Ls p d o h ih) [0, 2] [.s (li 0), .s (lb (okS p.items)), .o (.arr true 12 (o.map Yha))] 0 (.t (.b (!vbS Ls p d o p.items.length) (.w (.ghost (.nilreg 8
 true 12)) (.f [2] [.dead, .arr true 12 []] (.tup [.one (.ref 1), lb false]))) (.f [1] [.dead, .arr true 12 ((vaS Ls p d o p.items.length).map Yha)] (.tup
 [.one (.ref 1), lb true]))) .q)))))) (by
 dsimp only [Yhf, Zw, Yhl, Z3r]
 have g1 := Y1j4 Ls p d o
 have g2 := Yi9 p
 have g3 : Yiv p = decide (p.text.data.toList = [95]) := rfl
 have g4 := Y17z Ls p d o
 have g5 := Yvq Ls p d o
 have g6 := Y17u Ls p d o
 have g7 : ¬p.kind = 1 -> okS p.items = false -> vbS Ls p d o 0 = false := fun _ h => by unfold vbS; rw [h]; rfl
 have g8 : okS p.items = true -> vbS Ls p d o 0 = true := fun h => by unfold vbS; rw [h]; simp [wlk]
 have g9 : vaS Ls p d o 0 = o := by unfold vaS; split <;> simp [wlk]
 have g10 : okS p.items = vbS Ls p d o 0 := by unfold vbS; simp [wlk]
 have g11 := Y13b o p d
 have g12 : p.kind = 1 -> Yiv p = false -> Yii Ls p = false -> Yhn p = false -> fnd o p < 0 -> d <= 3 -> (vrS Ls p d o).getD [] = o ++ [Yoc p d] := fun a b c e f g => by rw [g6 a b c e f g]; rfl
 with_reducible repeat' (first | apply And.intro | exact zR | exact ih | (intro) | apply Z1)
 all_goals ((try simp only [std, inj] at *); with_reducible and_intros)
 all_goals try first | with_reducible (first | apply Z1 | apply ih) | (simp only [<- List.map_append]; with_reducible first | apply Z1 | apply ih)
 all_goals (try exact zG))
theorem Z72 (p : YS) : ∀ (Ls : List YS) (d : Int) (o : List YC) (h : 0 <= d /\ d + Yi1 p <= 1000 /\ wY p <= 1048576 /\ o.length + Yhk p <= 2147483647), Zw Ls p d o := YS.ind (P := fun p => ∀ (Ls : List YS) (d : Int) (o : List YC) (h : 0 <= d /\ d + Yi1 p <= 1000 /\ wY p <= 1048576 /\ o.length + Yhk p <= 2147483647), Zw Ls p d o) (fun p ih Ls d o h => Zfj Ls p d o h ih) p
mutual
def vrI (Ls : List YS) : YS -> Int -> List YC -> Option (List YC)
 | ⟨k, n, t, s, l⟩, d, o => if k = 1 then (if Yhn ⟨k, n, t, s, l⟩ = true then none else if Yiv ⟨k, n, t, s, l⟩ = true ∨ Ykd Ls ⟨k, n, t, s, l⟩ = true then some o else
   if 3 < d then none else if (o.any fun c => Ykt c.name ⟨k, n, t, s, l⟩) = true then none else some (o ++ [Yoc ⟨k, n, t, s, l⟩ d]))
  else if k ≠ 0 then some o else if atI l = 0 then none else Y100 Ls l 0 (atI l) d o
def Y100 (Ls : List YS) : List YS -> Int -> Int -> Int -> List YC -> Option (List YC)
 | [], _, _, _, o => some o
 | x :: r, i, a, d, o => if i = a then Y100 Ls r (i + 1) a d o else match vrI Ls x (if i + 1 = a then d + 1 else d) o with
  | none => none
  | some o' => Y100 Ls r (i + 1) a d o'
end
theorem Y18n (Ls : List YS) : ∀ l i a d o, Y100 Ls l i a d o = wlk (vrI Ls) l i a d o
 | [], i, a, d, o => by simp [Y100, wlk]
 | x :: r, i, a, d, o => by
  simp only [Y100, wlk, Y18n Ls r]
theorem Ymy (Ls : List YS) (p : YS) (d : Int) (o : List YC) : vrI Ls p d o = if p.kind = 1 then (if Yhn p = true then none else if Yiv p = true ∨ Ykd Ls p = true then some o else
      if 3 < d then none else if (o.any fun c => Ykt c.name p) = true then none else some (o ++ [Yoc p d]))
    else if p.kind ≠ 0 then some o else if atI p.items = 0 then none else wlk (vrI Ls) p.items 0 (atI p.items) d o := by cases p; simp only [vrI, Y18n]
theorem Y1hf (Ls : List YS) : ∀ (p : YS) (d : Int) (o o' : List YC), vrI Ls p d o = some o' -> o'.length <= o.length + Yhk p := by
 refine YS.ind fun p ih d o o' e => ?_
 rw [Ymy] at e
 rw [Yi9]
 split at e
 ·split at e
  ·cases e
  ·split at e
   ·simp only [Option.some.injEq] at e; subst e; omega
   ·split at e
    ·cases e
    ·split at e
     ·cases e
     ·simp only [Option.some.injEq] at e; subst e; simp
 ·split at e
  ·simp only [Option.some.injEq] at e; subst e; omega
  ·split at e
   ·cases e
   ·have := Ys3 (vrI Ls) p.items (fun x hx d o o' h => ih x hx d o o' h) _ _ _ _ _ e; omega
def wI (Ls : List YS) (p : YS) (d : Int) (o : List YC) (k : Nat) : Option (List YC) := wlk (vrI Ls) (p.items.take k) 0 (atI p.items) d o
def vaI (Ls : List YS) (p : YS) (d : Int) (o : List YC) (k : Nat) : List YC := (wI Ls p d o k).getD []
def vbI (Ls : List YS) (p : YS) (d : Int) (o : List YC) (k : Nat) : Bool := (wI Ls p d o k).isSome
theorem Y1hc {Ls : List YS} {p : YS} {d : Int} {o : List YC} {k : Nat} (hk : k < p.items.length) (h : vbI Ls p d o k = true) (e : (k : Int) = atI p.items) : vaI Ls p d o (k + 1) = vaI Ls p d o k /\ vbI Ls p d o (k + 1) = true := by
 unfold vaI vbI wI at *
 obtain ⟨v, hv⟩ := Option.isSome_iff_exists.1 h
 rw [Yt9 hk hv, if_pos e, hv]; simp
theorem Y1kt {Ls : List YS} {p : YS} {d : Int} {o : List YC} {k : Nat} (hk : k < p.items.length) (h : vbI Ls p d o k = true) (e : ¬ (k : Int) = atI p.items) :
  vaI Ls p d o (k + 1) = (vrI Ls (p.items.getD k default) (if (k : Int) + 1 = atI p.items then d + 1 else d) (vaI Ls p d o k)).getD [] /\ vbI Ls p d o (k + 1) = (vrI Ls (p.items.getD k default) (if (k : Int) + 1 = atI p.items then d + 1 else d) (vaI Ls p d o k)).isSome := by
 unfold vaI vbI wI at *
 obtain ⟨v, hv⟩ := Option.isSome_iff_exists.1 h
 rw [Yt9 hk hv, if_neg e, hv]; simp
theorem Y1hy {Ls : List YS} {p : YS} {d : Int} {o : List YC} {k : Nat} (h : vbI Ls p d o k = false) : vbI Ls p d o p.items.length = false := by
 unfold vbI wI at *
 cases e2 : wlk (vrI Ls) (p.items.take k) 0 (atI p.items) d o with
 | none => rw [List.take_length, Y15s e2]; rfl
 | some v => rw [e2] at h; cases h
theorem Y1ip {Ls : List YS} {p : YS} {d : Int} {o : List YC} {k : Nat} (h : vbI Ls p d o k = true) : (vaI Ls p d o k).length <= o.length + Yhb Yhk (p.items.take k) := by
 unfold vaI vbI wI at *
 obtain ⟨v, hv⟩ := Option.isSome_iff_exists.1 h
 rw [hv]
 exact Ys3 (vrI Ls) _ (fun x _ d o o' h => Y1hf Ls x d o o' h) _ _ _ _ _ hv
theorem Y1k2 (Ls : List YS) (p : YS) (d : Int) (o : List YC) (hk : ¬ p.kind = 1) (h0 : p.kind = 0) (ha : ¬ atI p.items = 0) : (vrI Ls p d o).isSome = vbI Ls p d o p.items.length /\ (vrI Ls p d o).getD [] = vaI Ls p d o p.items.length := by
 rw [Ymy, if_neg hk, if_neg (by simp [h0]), if_neg ha]
 unfold vaI vbI wI
 rw [List.take_length]; exact ⟨rfl, rfl⟩
theorem Yxc {Ls : List YS} {p : YS} {d : Int} {o : List YC} (hk : p.kind = 1) (h : Yhn p = true) : vrI Ls p d o = none := by
 rw [Ymy, if_pos hk, if_pos h]
theorem Y16u {Ls : List YS} {p : YS} {d : Int} {o : List YC} (hk : p.kind = 1) (h : Yhn p = false) (h2 : Yiv p = true ∨ Ykd Ls p = true) : vrI Ls p d o = some o := by
 rw [Ymy, if_pos hk, if_neg (by simp [h]), if_pos h2]
theorem Y13a {Ls : List YS} {p : YS} {d : Int} {o : List YC} (hk : p.kind = 1) (h : Yhn p = false) (h2 : Yiv p = false) (h3 : Ykd Ls p = false) (h4 : 3 < d) : vrI Ls p d o = none := by
 rw [Ymy, if_pos hk, if_neg (by simp [h]), if_neg (by simp [h2, h3]), if_pos h4]
theorem Y116 {Ls : List YS} {p : YS} {d : Int} {o : List YC} (hk : p.kind = 1) (h : Yhn p = false) (h2 : Yiv p = false) (h3 : Ykd Ls p = false) (h5 : (o.any fun c => Ykt c.name p) = true) : vrI Ls p d o = none := by
 rw [Ymy, if_pos hk, if_neg (by simp [h]), if_neg (by simp [h2, h3])]
 split
 ·rfl
 ·first | rfl | rw [if_pos h5]
theorem Y183 {Ls : List YS} {p : YS} {d : Int} {o : List YC} (hk : p.kind = 1) (h : Yhn p = false) (h2 : Yiv p = false) (h3 : Ykd Ls p = false) (h4 : d <= 3) (h5 : (o.any fun c => Ykt c.name p) = false) : vrI Ls p d o = some (o ++ [Yoc p d]) := by
 rw [Ymy, if_pos hk, if_neg (by simp [h]), if_neg (by simp [h2, h3]), if_neg (by omega), if_neg (by simp [h5])]
theorem Y10s {Ls : List YS} {p : YS} {d : Int} {o : List YC} (hk : ¬ p.kind = 1) (h0 : ¬ p.kind = 0) : vrI Ls p d o = some o := by
 rw [Ymy, if_neg hk, if_pos h0]
theorem Y11j {Ls : List YS} {p : YS} {d : Int} {o : List YC} (hk : ¬ p.kind = 1) (h0 : p.kind = 0) (ha : atI p.items = 0) : vrI Ls p d o = none := by
 rw [Ymy, if_neg hk, if_neg (by simp [h0]), if_pos ha]
abbrev Zi (Ls : List YS) (p : YS) (d : Int) (o : List YC) : Ct := ⟨189, [.arr true 12 (o.map Yha)], [ll (Ls.map Yh9), Yhu p, li d, .one (.ref 0)], [.dead, .arr true 12 (((vrI Ls p d o).getD []).map Yha)], .tup [.one (.ref 1), lb (vrI Ls p d o).isSome]⟩
def Z3s (Ls : List YS) (p : YS) (d : Int) (o : List YC) : Lp Nat := .mk 93 1 (fun x => [(0, ll (Ls.map Yh9)), (2, li d), (3, .one (.ref 1)), (12,
 li (atI p.items)), (63, ll (p.items.map Yh9)), (64, li (↑(p.items.map Yh9).length : Int)), (65, hs x 0)]) (fun x => [.dead, ho x 1]) (fun k => [.s (li (↑k :
 Int)), .o (.arr true 12 ((vaI Ls p d o k).map Yha))]) (fun k => k <= p.items.length /\ p.items.length <= 9223372036854775807 /\ vbI Ls p d o k = true) (fun k =>
 p.items.length - k) [.mk (vbI Ls p d o p.items.length = true) (.exit 3) (fun x => [(3, .one (.ref 1))]) (fun x => [.dead, ho x 0]) [.o (.arr true 12 (List.map Yha
 (vaI Ls p d o p.items.length)))], .mk (vbI Ls p d o p.items.length = false) .ret (fun x => [(8, hs x 0), (9, hs x 1)]) (fun x => [.dead]) [.s (.one (.val (.lit
 (.slice none 0 0)))), .s (lb false)]]
def Z3t (Ls : List YS) (p : YS) (d : Int) (o : List YC) : Lp Nat := .mk 93 1 (fun x => [(2, li d), (3, .one (.ref 1)), (5, .one (.ptr 2 0)), (34,
 .one (.ref 1)), (35, li (↑(o.map Yha).length : Int)), (36, hs x 0)]) (fun x => [.dead, .arr true 12 (o.map Yha), .box (vals (Yhg p))]) (fun k =>
 [.s (li (k : Int))]) (fun k => k <= o.length /\ o.length <= 9223372036854775807 /\ ((o.take k).any fun c => Ykt c.name p) = false) (fun k => o.length - k) [.mk ((o.any fun c
 => Ykt c.name p) = false) (.exit 1) (fun x => [(2, li d), (3, .one (.ref 1)), (5, .one (.ptr 2 0))]) (fun x => [.dead, .arr true 12 (o.map Yha), .box
 (vals (Yhg p))]) [], .mk ((o.any fun c => Ykt c.name p) = true) .ret (fun x => [(8, hs x 0), (9, hs x 1)]) (fun x => [.dead]) [.s (.one (.val (.lit (.slice
 none 0 0)))), .s (lb false)]]
theorem Zci (Ls : List YS) (p : YS) (d : Int) (o : List YC) (h : 0 <= d /\ d + (↑(Yi1 p) : Int) <= 1000 /\ wY p <= 1048576 /\ o.length + Yhk p <= 2147483647) (ih
 : ∀ (z : YS), z ∈ p.items -> ∀ (Ls : List YS) (d : Int) (o : List YC), 0 <= d /\ d + (↑(Yi1 z) : Int) <= 1000 /\ wY z <= 1048576 /\ o.length + Yhk z <= 2147483647 -> OK
 (Zi Ls z d o)) : Lp.Sem Tryz.prog (Yhp Tryz.f189 1) (Z3s Ls p d o) := Yhz (fun k => .i ((k : Int) < (↑(p.items.map Yh9).length : Int)) (.x (k : Int)
 (p.items.map Yh9) (Yhg (p.items.getD k default)) (.i ((k : Int) = atI p.items) (.r ((k : Int) + 1) (.g [0, 1] (k + 1) [.s (li ((k : Int) + 1)), .o (.arr true 12
 ((vaI Ls p d o k).map Yha))])) (.r ((k : Int) + 1) (.i ((k : Int) + 1 = atI p.items) (.r (d + 1) (.d [.rd, .rd, .rd, .own true 12] (Zi Ls (p.items.getD k
 default) (d + 1) (vaI Ls p d o k)) (.b (!(vrI Ls (p.items.getD k default) (d + 1) (vaI Ls p d o k)).isSome) (.o 1 [0] [.s (.one (.val (.lit (.slice none 0 0)))), .s
 (lb false)]) (.r ((k : Int) + 1) (.g [0, 4] (k + 1) [.s (li ((k : Int) + 1)), .o (.arr true 12 (((vrI Ls (p.items.getD k default) (d + 1) (vaI Ls p d o
 k)).getD []).map Yha))]))))) (.d [.rd, .rd, .rd, .own true 12] (Zi Ls (p.items.getD k default) d (vaI Ls p d o k)) (.b (!(vrI Ls (p.items.getD k default) d (vaI Ls p d o
 k)).isSome) (.o 1 [0] [.s (.one (.val (.lit (.slice none 0 0)))), .s (lb false)]) (.r ((k : Int) + 1) (.g [0, 4] (k + 1) [.s (li ((k : Int) + 1)), .o (.arr true
 12 (((vrI Ls (p.items.getD k default) d (vaI Ls p d o k)).getD []).map Yha))])))))))) (.o 0 [0, 1] [.o (.arr true 12 ((vaI Ls p d o k).map Yha))])) (by
 intro k h; try dsimp only [Yhf, Yhl, Z3s] at h ⊢
 have g1 := @Y1hy Ls p d o (k + 1)
 have g2 := @Y1hc Ls p d o k
 have g3 := @Y1kt Ls p d o k
 have g4 := @Y1ip Ls p d o k
 have g6 := @Yl1 p k
 have g7 := @Yl0 p k
 have g8 : k < p.items.length ∨ k = p.items.length ∨ p.items.length < k := by omega
 with_reducible repeat' (first | apply And.intro | exact zR | exact ih | (intro) | apply Z0 | apply Z3 | apply ih)
 all_goals ((try simp only [std, inj] at *); with_reducible and_intros)
 all_goals try with_reducible first | apply Z0 | apply Z3 | apply ih
 all_goals try first | exact z | grind [Yhj, Yhi, Yhh, Yhe])
theorem Zcj (Ls : List YS) (p : YS) (d : Int) (o : List YC) (h : 0 <= d /\ d + (↑(Yi1 p) : Int) <= 1000 /\ wY p <= 1048576 /\ o.length + Yhk p <= 2147483647) (ih
 : ∀ (z : YS), z ∈ p.items -> ∀ (Ls : List YS) (d : Int) (o : List YC), 0 <= d /\ d + (↑(Yi1 z) : Int) <= 1000 /\ wY z <= 1048576 /\ o.length + Yhk z <= 2147483647 -> OK
 (Zi Ls z d o)) : Lp.Sem Tryz.prog (Yhp Tryz.f189 0) (Z3t Ls p d o) := Yhz (fun k => .i ((k : Int) < (↑(o.map Yha).length : Int)) (.p (0 <= (k : Int)
 /\ (k : Int).toNat < (o.map Yha).length) (.w (.cells (Yhw (o.getD (k : Int).toNat default))) (.p ((o.map Yha)[(k : Int).toNat]? = some (Yhw (o.getD
 (k : Int).toNat default))) (.c [.rd, .rd] (Zaj (o.getD (k : Int).toNat default).name p) (.b (decide ((o.getD (k : Int).toNat default).name.kind = 1) && decide (p.kind = 1)
 && decide ((o.getD (k : Int).toNat default).name.text = p.text) && decide ((o.getD (k : Int).toNat default).name.scopes = p.scopes)) (.o 1 [0] [.s (.one (.val (.lit
 (.slice none 0 0)))), .s (lb false)]) (.r ((k : Int) + 1) (.g [0, 1, 2] (k + 1) [.s (li ((k : Int) + 1))]))))))) (.o 0 [0, 1, 2] [])) (by
 intro k h; try dsimp only [Yhf, Yhl, Z3t] at h ⊢
 have g : k < o.length -> Ykt (o.getD k default).name p = true -> (o.any fun c => Ykt c.name p) = true := fun h1 h2 => by
  rw [List.any_eq_true]; exact ⟨_, Yhj h1, h2⟩
 have g2 : Ykt (o.getD k default).name p = (decide ((o.getD k default).name.kind = 1) && decide (p.kind = 1) && decide ((o.getD k default).name.text = p.text) && decide ((o.getD k default).name.scopes = p.scopes)) := rfl
 with_reducible repeat' (first | apply And.intro | exact zR | exact ih | (intro) | apply Z0 | apply Z3)
 all_goals ((try simp only [std, inj] at *); with_reducible and_intros)
 all_goals try with_reducible first | apply Z0 | apply Z3 | apply ih
 all_goals try first | exact z | grind [Yhy, Yhi, Yhh, Yhe])
theorem Zfk (Ls : List YS) (p : YS) (d : Int) (o : List YC) (h : 0 <= d /\ d + Yi1 p <= 1000 /\ wY p <= 1048576 /\ o.length + Yhk p <= 2147483647) (ih : ∀ z ∈
 p.items, ∀ (Ls : List YS) (d : Int) (o : List YC) (h : 0 <= d /\ d + Yi1 z <= 1000 /\ wY z <= 1048576 /\ o.length + Yhk z <= 2147483647), Zi Ls z d o)  : Zi Ls
 p d o := Yhq Tryz.call189 Tryz.func189 (.i (p.kind = 1) (.c [.rd] (Z0 p) (.b (Yhn p) (.w (.ghost (.nilreg 8 true 12)) (.w (.ghost (.move 0)) (.f [2] [.dead, .arr true
 12 []] (.tup [.one (.ref 1), lb false])))) (.c [.rd] (Z92 p) (.b (decide (p.kind = 1) && Yiv p) (.y true (.w (.ghost (.move 0)) (.f [2] [.dead, .arr true 12
 (o.map Yha)] (.tup [.one (.ref 1), lb true])))) (.c [.rd, .rd] (Zak Ls p) (.b (Ykd Ls p) (.w (.ghost (.move 0)) (.f [2] [.dead, .arr true 12 (List.map
 Yha o)] (.tup [.one (.ref 1), lb true]))) (.i (3 < d) (.w (.ghost (.nilreg 8 true 12)) (.w (.ghost (.move 0)) (.f [2] [.dead, .arr true 12 []] (.tup [.one
 (.ref 1), lb false])))) (.z Yha o (.w (.ghost (.move 0)) (.l (Z3t Ls p d o) (Zcj Ls p d o h ih) [0, 2, 1] [.s (li 0)] 0 (.t (.d [.rd] (Zm p) (.p
 (((o.map Yha).length + 1) * 192 <= 140737488355328) (.f [6] [.dead, .arr true 12 (o.map Yha ++ [[cI p.kind, cI p.number, cS p.text, .list (List.map Yhd
 p.scopes), .list (p.items.map Yh9), cI d, cI 0, cI 0, cS (ByteArray.mk #[]), .list [], .list [], .list []]])] (.tup [.one (.ref 1), lb true])))) (.t
 (.w (.ghost (.nilreg 8 true 12)) (.f [1] [.dead, .arr true 12 []] (.tup [.one (.ref 1), lb false]))) .q)))))))))))) (.i (p.kind ≠ 0) (.w (.ghost (.move 0)) (.f [2]
 [.dead, .arr true 12 (o.map Yha)] (.tup [.one (.ref 1), lb true]))) (.c [.rd] (Zc4 p.items) (.i (atI p.items = 0) (.w (.ghost (.nilreg 8 true 12)) (.w
 (.ghost (.move 0)) (.f [2] [.dead, .arr true 12 []] (.tup [.one (.ref 1), lb false])))) (.z Yh9 p.items (.w (.ghost (.move 0)) (.l (Z3s Ls p d o)
 (Zci Ls p d o h ih) [0, 2] [.s (li 0), .o (.arr true 12 (o.map Yha))] 0 (.t (.f [1] [.dead, .arr true 12 ((vaI Ls p d o
 p.items.length).map Yha)] (.tup [.one (.ref 1), lb true])) (.t (.w (.ghost (.nilreg 8 true 12)) (.f [1] [.dead, .arr true 12 []] (.tup [.one (.ref 1), lb false])))
 .q))))))))) (by
 dsimp only [Yhf, Zi, Yhl, Z3t, Z3s]
 have g1 := Y1k2 Ls p d o
 have g2 := Yi9 p
 have g3 := @Yxc Ls p d o
 have g4 := @Y16u Ls p d o
 have g5 := @Y13a Ls p d o
 have g6 := @Y116 Ls p d o
 have g7 := @Y183 Ls p d o
 have g8 := @Y10s Ls p d o
 have g9 := @Y11j Ls p d o
 have g10 : vbI Ls p d o 0 = true := by unfold vbI wI; simp [wlk]
 have g11 : vaI Ls p d o 0 = o := by unfold vaI wI; simp [wlk]
 have g12 := Y13b o p d
 have g13 : Yiv p = decide (p.text.data.toList = [95]) := rfl
 have g14 : p.kind = 1 -> Yhn p = false -> Yiv p = false -> Ykd Ls p = false -> d <= 3 -> (o.any fun c => Ykt c.name p) = false -> (vrI Ls p d o).getD [] = o ++ [Yoc p d] := fun a b c e f g => by rw [g7 a b c e f g]; rfl
 have g15 : (vrI Ls p d o).isSome = false -> (vrI Ls p d o).getD [] = [] := fun h => by cases e : vrI Ls p d o <;> simp_all
 with_reducible repeat' (first | apply And.intro | exact zR | exact ih | (intro) | apply Z0 | apply Z3)
 all_goals ((try simp only [std, inj] at *); with_reducible and_intros)
 all_goals try first | with_reducible (first | apply Z0 | apply Z3 | apply ih) | (simp only [<- List.map_append]; with_reducible first | apply Z0 | apply Z3 | apply ih)
 all_goals (try exact zG))
theorem Z93 (p : YS) : ∀ (Ls : List YS) (d : Int) (o : List YC) (h : 0 <= d /\ d + Yi1 p <= 1000 /\ wY p <= 1048576 /\ o.length + Yhk p <= 2147483647), Zi Ls p d o := YS.ind (P := fun p => ∀ (Ls : List YS) (d : Int) (o : List YC) (h : 0 <= d /\ d + Yi1 p <= 1000 /\ wY p <= 1048576 /\ o.length + Yhk p <= 2147483647), Zi Ls p d o) (fun p ih Ls d o h => Zfk Ls p d o h ih) p
theorem Y111 {Ls : List YS} {p : YS} (hL : ∀ x ∈ Ls, Yk9 x = true) (hk : p.kind = 1) : Yii Ls p = Ykd Ls p := by
 unfold Yii Ykd
 rw [Bool.eq_iff_iff]; simp only [List.any_eq_true]
 constructor
 ·rintro ⟨x, hx, e⟩
  have := hL x hx
  simp only [Yzi, Bool.and_eq_true, decide_eq_true_eq] at this e
  exact ⟨x, hx, by simp only [Ykt, Bool.and_eq_true, decide_eq_true_eq]; exact ⟨⟨⟨this.1.1.1, hk⟩, e.1⟩, e.2⟩⟩
 ·rintro ⟨x, hx, e⟩
  simp only [Ykt, Bool.and_eq_true, decide_eq_true_eq] at e
  exact ⟨x, hx, by simp only [Bool.and_eq_true, decide_eq_true_eq]; exact ⟨e.1.2, e.2⟩⟩
theorem Y1fo {Ls : List YS} {p : YS} (hL : ∀ x ∈ Ls, Yk9 x = true) (hd : Yhn p = true) : Yii Ls p = false /\ Yiv p = false := by
 simp only [Yhn, Bool.and_eq_true, decide_eq_true_eq] at hd
 constructor
 ·unfold Yii; rw [List.any_eq_false]
  intro x hx e
  have := hL x hx
  simp only [Yzi, Bool.and_eq_true, decide_eq_true_eq, Bool.not_eq_true', Yhn, Bool.and_eq_false_iff, decide_eq_false_iff_not] at this e
  rcases this.1.2 with h | h
  ·exact h this.1.1.1
  ·exact h (by rw [e.1]; exact hd.2)
 ·unfold Yiv; rw [hd.2]; rfl
theorem Y1hm {o : List YC} {p : YS} (ho : ∀ x ∈ o, Yl5 x.name = true) (hk : p.kind = 1) (hd : Yhn p = false) : (o.any fun c => Ykt c.name p) = true ↔ 0 <= fnd o p := by
 have h1 : Ym4 o p < o.length ↔ ∃ x ∈ o, Yl7 p x = true := List.findIdx_lt_length
 have h2 : (o.any fun c => Ykt c.name p) = true ↔ Ym4 o p < o.length := by
  rw [h1, List.any_eq_true]
  constructor
  ·rintro ⟨x, hx, e⟩
   refine ⟨x, hx, ?_⟩
   simp only [Ykt, Bool.and_eq_true, decide_eq_true_eq] at e
   simp only [Yl7, Bool.and_eq_true, decide_eq_true_eq]
   exact ⟨⟨e.1.2, e.2⟩, ho x hx⟩
  ·rintro ⟨x, hx, e⟩
   refine ⟨x, hx, ?_⟩
   simp only [Yl7, Yl5, Bool.and_eq_true, decide_eq_true_eq] at e
   simp only [Ykt, Bool.and_eq_true, decide_eq_true_eq]
   exact ⟨⟨⟨e.2.1, hk⟩, e.1.1⟩, e.1.2⟩
 rw [h2]; unfold fnd; rw [hd]
 simp only [true_and]
 split <;> omega
theorem Y19s {α : Type} [Inhabited α] {p : α -> Bool} {L : List α} : ∀ k, k <= L.length -> (∀ j, j < k -> p (L.getD j default) = false) -> k <= L.findIdx p
 | 0, _, _ => Nat.zero_le _
 | k + 1, hk, h => Y18q (by omega) (Y19s k (by omega) fun j hj => h j (by omega)) (h k (by omega))
theorem Yyp (l : List YS) : ∀ k, k <= l.length -> okA l k = true -> (atF l k = -1 /\ ∀ j, j < k -> Yhn (l.getD j default) = false) ∨ ∃ m : Nat, 0 < m /\ m < k /\ atF l k = m /\ Yhn (l.getD m default) = true /\ ∀ j, j < k -> j ≠ m -> Yhn (l.getD j default) = false
 | 0, _, _ => .inl ⟨rfl, fun j h => absurd h (by omega)⟩
 | k + 1, hk, h => by
  simp only [okA, Bool.and_eq_true, Bool.or_eq_true, Bool.not_eq_true', decide_eq_true_eq] at h
  have ih := Yyp l k (by omega) h.1
  cases e : Yhn (l.getD k default) with
  | false =>
   have e2 : atF l (k + 1) = atF l k := by simp only [atF, e]; rfl
   rcases ih with ⟨h1, h2⟩ | ⟨m, h1, h2, h3, h4, h5⟩
   ·exact .inl ⟨by rw [e2]; exact h1, fun j hj => by
     by_cases ej : j = k
     ·rw [ej]; exact e
     ·exact h2 j (by omega)⟩
   ·exact .inr ⟨m, h1, by omega, by rw [e2]; exact h3, h4, fun j hj hm => by
     by_cases ej : j = k
     ·rw [ej]; exact e
     ·exact h5 j (by omega) hm⟩
  | true =>
   have e2 : atF l (k + 1) = (k : Int) := by simp only [atF, e]; rfl
   rcases h.2 with h0 | ⟨h0, h0'⟩
   ·rw [e] at h0; cases h0
   ·rcases ih with ⟨h1, h2⟩ | ⟨m, h1, h2, h3, h4, h5⟩
    ·exact .inr ⟨k, by omega, by omega, e2, e, fun j hj hm => h2 j (by omega)⟩
    ·omega
theorem Y158 {l : List YS} {m : Nat} (hm : m < l.length) (h : Yhn (l.getD m default) = true) (h2 : ∀ j, j < m -> Yhn (l.getD j default) = false) : atI l = m := by
 have := Y1gc hm (Y19s m (by omega) h2) h
 unfold atI; rw [this, if_pos hm]
theorem Y143 {l : List YS} (h : okS l = true) : atI l = atS l /\ atI l ≠ 0 := by
 rcases Yyp l l.length (Nat.le_refl _) h with ⟨h1, h2⟩ | ⟨m, h1, h2, h3, h4, h5⟩
 ·have := Y19s (p := Yhn) l.length (Nat.le_refl _) h2
  have e : atI l = -1 := by unfold atI; rw [if_neg (by omega)]
  exact ⟨by rw [e]; exact h1.symm, by omega⟩
 ·have e := Y158 h2 h4 fun j hj => h5 j (by omega) (by omega)
  exact ⟨by rw [e]; exact h3.symm, by omega⟩
theorem Y1i7 {l : List YS} (h : okS l = false) : atI l = 0 ∨ ∃ j, j < l.length /\ (j : Int) ≠ atI l /\ Yhn (l.getD j default) = true := by
 have : ∃ k, k < l.length /\ okA l k = true /\ okA l (k + 1) = false := by
  have : ∀ m, m <= l.length -> okA l m = false -> ∃ k, k < m /\ okA l k = true /\ okA l (k + 1) = false := by
   intro m
   induction m with
   | zero => intro _ e; cases e
   | succ m ih =>
    intro hm e
    cases e2 : okA l m with
    | true => exact ⟨m, by omega, e2, e⟩
    | false => obtain ⟨k, h1, h2⟩ := ih (by omega) e2; exact ⟨k, by omega, h2⟩
  obtain ⟨k, h1, h2⟩ := this l.length (Nat.le_refl _) h
  exact ⟨k, h1, h2⟩
 obtain ⟨k, hk, h1, h2⟩ := this
 have hd : Yhn (l.getD k default) = true /\ (k = 0 ∨ 0 <= atF l k) := by
  simp only [okA, h1, Bool.true_and, Bool.or_eq_false_iff, Bool.not_eq_false', Bool.and_eq_false_iff, decide_eq_false_iff_not] at h2
  exact ⟨h2.1, h2.2.elim (fun h => .inl (by omega)) fun h => .inr (by omega)⟩
 rcases hd.2 with e | e
 ·subst e
  exact .inl (Y158 hk hd.1 fun j hj => absurd hj (Nat.not_lt_zero j))
 ·rcases Yyp l k (by omega) h1 with ⟨h3, _⟩ | ⟨m, h3, h4, h5, h6, h7⟩
  ·omega
  ·have e := Y158 (by omega) h6 fun j hj => h7 j (by omega) (by omega)
   exact .inr ⟨k, hk, by omega, hd.1⟩
theorem Y13p {f g : YS -> Int -> List YC -> Option (List YC)} {good : List YC -> Prop} : ∀ (l : List YS), (∀ x ∈ l, ∀ d o, good o -> f x d o = g x d o /\ ∀ o', g x d o = some o' -> good o') -> ∀ i a d o, good o -> wlk f l i a d o = wlk g l i a d o /\ ∀ o', wlk g l i a d o = some o' -> good o'
 | [], _, i, a, d, o, ho => ⟨rfl, fun o' e => by simp only [wlk, Option.some.injEq] at e; subst e; exact ho⟩
 | x :: r, h, i, a, d, o, ho => by
  have ih := Y13p r fun y hy => h y (List.mem_cons_of_mem _ hy)
  simp only [wlk]
  by_cases e : i = a
  ·rw [if_pos e, if_pos e]; exact ih _ _ _ _ ho
  ·rw [if_neg e, if_neg e]
   have hx := h x List.mem_cons_self (if i + 1 = a then d + 1 else d) o ho
   rw [hx.1]
   cases e2 : g x (if i + 1 = a then d + 1 else d) o with
   | none => exact ⟨rfl, fun o' e => by cases e⟩
   | some o1 => exact ih _ _ _ _ (hx.2 o1 e2)
theorem Y18u {f : YS -> Int -> List YC -> Option (List YC)} : ∀ (l : List YS) (j : Nat) (i a d : Int) (o : List YC), j < l.length -> i + (j : Int) ≠ a -> (∀ d o, f (l.getD j default) d o = none) -> wlk f l i a d o = none
 | [], j, _, _, _, _, h, _, _ => absurd h (by simp)
 | x :: r, 0, i, a, d, o, _, h1, h2 => by
  simp only [wlk]
  rw [if_neg (by omega)]
  have := h2 (if i + 1 = a then d + 1 else d) o
  simp only [List.getD_cons_zero] at this
  rw [this]
 | x :: r, j + 1, i, a, d, o, h, h1, h2 => by
  have ih := fun d o => Y18u r j (i + 1) a d o (by simpa using h) (by omega) (by simpa using h2)
  simp only [wlk]
  split
  ·exact ih d o
  ·split
   ·rfl
   ·exact ih d _
theorem Y1dz {p : YS} (h : okY p = true) (hk : p.kind = 1) : Yl5 p = true := by
 have hi := Yzg h hk
 simp only [Yl5, Yi2, Bool.and_eq_true, decide_eq_true_eq]
 refine ⟨hk, ⟨?_, ?_⟩, h⟩
 ·rw [Yi9, hi]; simp [Yhb]
 ·rw [Yo6, hi]; simp [Yje]
theorem Y166 {p : YS} (h : okY p = true) (h1 : ¬ p.kind = 1) (h0 : ¬ p.kind = 0) : p.items = [] := by
 rw [Ymh] at h
 simp only [Ymu, Yoy, Bool.and_eq_true, Bool.or_eq_true, decide_eq_true_eq] at h
 have : p.items.length = 0 := by omega
 exact List.length_eq_zero_iff.1 this
theorem Y17i {Ls : List YS} (hL : ∀ x ∈ Ls, Yk9 x = true) : ∀ p : YS, okY p = true -> ∀ d o, (∀ x ∈ o, Yl5 x.name = true) -> vrI Ls p d o = vrS Ls p d o /\ ∀ o', vrS Ls p d o = some o' -> ∀ x ∈ o', Yl5 x.name = true := by
 refine YS.ind fun p ih h d o ho => ?_
 by_cases hk : p.kind = 1
 ·have hn : ∀ x ∈ o ++ [Yoc p d], Yl5 x.name = true := by
   intro x hx
   rcases List.mem_append.1 hx with hx | hx
   ·exact ho x hx
   ·rw [List.mem_singleton.1 hx]; exact Y1dz h hk
  cases hd : Yhn p with
  | true =>
   have h1 := Y1fo hL hd
   rw [Yxc hk hd, Yvq Ls p d o hk h1.2 h1.1 (.inl hd)]
   exact ⟨rfl, fun o' e => by cases e⟩
  | false =>
   have hj := Y111 hL hk
   by_cases h1 : Yiv p = true ∨ Yii Ls p = true
   ·rw [Y16u hk hd (hj ▸ h1), Y17z Ls p d o hk h1]
    exact ⟨rfl, fun o' e => by simp only [Option.some.injEq] at e; subst e; exact ho⟩
   ·have hu : Yiv p = false := by cases e : Yiv p <;> simp_all
    have hI : Yii Ls p = false := by cases e : Yii Ls p <;> simp_all
    have hJ : Ykd Ls p = false := by rw [<- hj]; exact hI
    by_cases h3 : 3 < d
    ·rw [Y13a hk hd hu hJ h3, Yvq Ls p d o hk hu hI (.inr (.inr h3))]
     exact ⟨rfl, fun o' e => by cases e⟩
    ·have hf := Y1hm ho hk hd
     cases h5 : (o.any fun c => Ykt c.name p) with
     | true =>
      rw [Y116 hk hd hu hJ h5, Yvq Ls p d o hk hu hI (.inr (.inl (hf.1 h5)))]
      exact ⟨rfl, fun o' e => by cases e⟩
     | false =>
      have h6 : fnd o p < 0 := by
       by_cases h6 : fnd o p < 0
       ·exact h6
       ·rw [hf.2 (by omega)] at h5; cases h5
      rw [Y183 hk hd hu hJ (by omega) h5, Y17u Ls p d o hk hu hI hd h6 (by omega)]
      exact ⟨rfl, fun o' e => by simp only [Option.some.injEq] at e; subst e; exact hn⟩
 ·by_cases h0 : p.kind = 0
  ·rw [Ymd, if_neg hk]
   cases hs : okS p.items with
   | true =>
    have ha := Y143 hs
    rw [Ymy, if_neg hk, if_neg (by simp [h0]), if_neg ha.2, if_pos rfl, ha.1]
    exact Y13p (good := fun o => ∀ x ∈ o, Yl5 x.name = true) p.items (fun x hx d o ho => ih x hx (Yl3 h x hx) d o ho) _ _ _ _ ho
   | false =>
    refine ⟨?_, fun o' e => by simp at e⟩
    rw [if_neg (by simp)]
    rcases Y1i7 hs with ha | ⟨j, hj, hja, hjd⟩
    ·exact Y11j hk h0 ha
    ·rw [Ymy, if_neg hk, if_neg (by simp [h0])]
     split
     ·rfl
     ·refine Y18u p.items j _ _ _ _ hj (by omega) fun d o => Yxc ?_ hjd
      simp only [Yhn, Bool.and_eq_true, decide_eq_true_eq] at hjd; exact hjd.1
  ·have hi := Y166 h hk h0
   rw [Y10s hk h0, Ymd, if_neg hk, hi]
   simp only [okS, List.length_nil, okA, if_true, wlk]
   exact ⟨trivial, fun o' e => by simp only [Option.some.injEq] at e; subst e; exact ho⟩
theorem Y1kh {Ls : List YS} {p : YS} (hL : okL Ls = true) (hp : Yi2 p = true) : vrI Ls p 0 [] = vrS Ls p 0 [] := by
 simp only [okL, Bool.and_eq_true, List.all_eq_true] at hL
 simp only [Yi2, Bool.and_eq_true] at hp
 exact (Y17i hL.1 p hp.2 0 [] (fun x hx => by cases hx)).1
abbrev Z9h (Ls : List YS) (p : YS) : Ct := ⟨110, [], [ll (Ls.map Yh9), Yhu p], [.arr true 12 ((if okL Ls = true /\ Yi2 p = true then (vrS Ls p 0 []).getD [] else []).map Yha)], .tup [.one (.ref 0), lb (okL Ls && Yi2 p && (vrS Ls p 0 []).isSome)]⟩
theorem Z9x (Ls : List YS) (p : YS) (h : wY p <= 1048576)  : Z9h Ls p := Yhq Tryz.call110 Tryz.func110 (.c [.rd] (Ze1 Ls) (.b (!okL Ls) (.y true (.w (.ghost
 (.nilreg 4 true 12)) (.f [1] [.arr true 12 []] (.tup [.one (.ref 0), lb false])))) (.c [.rd] (Z1c p) (.b (!Yi2 p) (.w (.ghost (.nilreg 4 true 12)) (.f [1]
 [.arr true 12 []] (.tup [.one (.ref 0), lb false]))) (.d [.rd, .rd, .rd, .own true 12] (Zi Ls p 0 []) (.f [2] [.arr true 12 (((vrI Ls p 0
 []).getD []).map Yha)] (.tup [.one (.ref 0), lb (vrI Ls p 0 []).isSome]))))))) (by
 dsimp only [Yhf, Z9h]
 have g : Yi2 p = true -> Yhk p <= 2000 /\ Yi1 p <= 40 := fun h => by simp only [Yi2, Bool.and_eq_true, decide_eq_true_eq] at h; exact ⟨h.1.1, h.1.2⟩
 have g2 := @Y1kh Ls p
 with_reducible repeat' (first | apply And.intro | exact zR | (intro) | apply Z93)
 all_goals ((try simp only [std, inj] at *); with_reducible and_intros)
 all_goals try with_reducible first | apply Z93
 all_goals (try exact zG))
set_option maxHeartbeats 4000000
set_option maxRecDepth 20000
def tlY (s : YS) : YS := ⟨0, 0, mkS [], [], s.items.drop 1⟩
theorem Ynx (s : YS) : Yhk s <= wY s + 1 := by
 refine YS.ind (P := fun s => Yhk s <= wY s + 1) (fun s ih => ?_) s
 have : ∀ L : List YS, (∀ x ∈ L, Yhk x <= wY x + 1) -> Yhb Yhk L <= L.length + Yhb wY L := by
  intro L
  induction L with
  | nil => intro _; simp [Yhb]
  | cons x r ihr =>
   intro h
   have h1 := h x List.mem_cons_self
   have h2 := ihr fun y hy => h y (List.mem_cons_of_mem _ hy)
   simp only [Yhb, List.length_cons]; omega
 have h1 := this s.items ih
 have h2 := Yj6 s
 rw [Yi9]; omega
theorem Y107 {s : YS} (h : Yi2 s = true) : Yi2 (tlY s) = true := by
 simp only [Yi2, Bool.and_eq_true, decide_eq_true_eq] at h ⊢
 have e : s.items = s.items.take 1 ++ s.items.drop 1 := (List.take_append_drop 1 s.items).symm
 have h1 : Yhb Yhk s.items = Yhb Yhk (s.items.take 1) + Yhb Yhk (s.items.drop 1) := by rw [<- Ykq, <- e]
 have h2 : Yje Yi1 s.items = max (Yje Yi1 (s.items.take 1)) (Yje Yi1 (s.items.drop 1)) := by rw [<- Yqp, <- e]
 have h3 := Yi9 s
 have h4 := Yo6 s
 have h5 := Yl3 h.2
 refine ⟨⟨?_, ?_⟩, ?_⟩
 ·rw [Yi9]; simp only [tlY]; omega
 ·rw [Yo6]; simp only [tlY]; omega
 ·rw [Ymh, Bool.and_eq_true, List.all_eq_true]
  refine ⟨fun x hx => h5 x (List.mem_of_mem_drop hx), ?_⟩
  simp [tlY, Ymu, Yoy, Yk8, Yll, mkS]
theorem Yvt (s : YS) : wY (tlY s) <= wY s := by
 have e : s.items = s.items.take 1 ++ s.items.drop 1 := (List.take_append_drop 1 s.items).symm
 have h1 : Yhb wY s.items = Yhb wY (s.items.take 1) + Yhb wY (s.items.drop 1) := by rw [<- Ykq, <- e]
 have h2 := Yj6 s
 have h3 := Yj6 (tlY s)
 have h4 : (tlY s).text.size = 0 := rfl
 have h5 : (s.items.drop 1).length <= s.items.length := by rw [List.length_drop]; omega
 simp only [tlY, List.length_nil] at h3 h4
 rw [tlY]; omega
abbrev Z4z (s : YS) : Ct := ⟨135, [], [Yhu s], [], .sv (.agg [vI 0, vI 0, vS (mkS []), .val (.lit (.slice none 0 0)), vL ((s.items.drop 1).map Yh9)])⟩
theorem Z3g (s : YS) (h : 1 <= s.items.length)  : Z4z s := Yhq Tryz.call135 Tryz.func135 (.p ((0 : Int) <= 1) (.p (1 <= (s.items.map Yh9).length /\ (List.map
 Yh9 s.items).length <= (s.items.map Yh9).length /\ ∀ (e : List Cell), e ∈ s.items.map Yh9 -> e.length = 5) (.s (.agg [vI 0, vI 0, vS (ByteArray.mk #[]),
 .val (.lit (.slice none 0 0)), vL (List.take ((s.items.map Yh9).length - 1) (List.drop 1 (s.items.map Yh9)))])))) (by
 dsimp only [Yhf, Z4z]
 have e : (s.items.drop 1).take (s.items.length - 1) = s.items.drop 1 := List.take_of_length_le (by rw [List.length_drop]; omega)
 exact zV)
abbrev Z50 (s : YS) : Ct := ⟨146, [], [Yhu s], [], .sv (.agg [vI 0, vI 0, vS (mkS []), .val (.lit (.slice none 0 0)), vL ((s.items.drop 1).map Yh9)])⟩
theorem Z3h (s : YS) (h : 1 <= s.items.length)  : Z50 s := Yhq Tryz.call146 Tryz.func146 (.p ((0 : Int) <= 1) (.p (1 <= (s.items.map Yh9).length /\ (List.map
 Yh9 s.items).length <= (s.items.map Yh9).length /\ ∀ (e : List Cell), e ∈ s.items.map Yh9 -> e.length = 5) (.s (.agg [vI 0, vI 0, vS (ByteArray.mk #[]),
 .val (.lit (.slice none 0 0)), vL (List.take ((s.items.map Yh9).length - 1) (List.drop 1 (s.items.map Yh9)))])))) (by
 dsimp only [Yhf, Z50]
 have e : (s.items.drop 1).take (s.items.length - 1) = s.items.drop 1 := List.take_of_length_le (by rw [List.length_drop]; omega)
 exact zV)
abbrev Zs (s : YS) : Ct := ⟨137, [], [Yhu s], [], .sv (li (Yhk s))⟩
def Z2q (s : YS) : Lp Nat := .mk 19 0 (fun x => [(3, hs x 1), (7, ll (s.items.map Yh9)), (8, li (↑(s.items.map Yh9).length : Int)), (9, hs x 0)])
 (fun x => []) (fun k => [.s (li (k : Int)), .s (li (↑(1 + Yhb Yhk (s.items.take k)) : Int))]) (fun k => k <= s.items.length /\ s.items.length <= 9223372036854775807) (fun k
 => s.items.length - k) [.mk True (.exit 0) (fun x => [(3, hs x 0)]) (fun x => []) [.s (li (↑(1 + Yhb Yhk s.items) : Int))]]
theorem Zbk (s : YS) (h : wY s <= 1048576) (ih : ∀ (z : YS), z ∈ s.items -> wY z <= 1048576 -> OK (Zs z)) : Lp.Sem Tryz.prog (Yhp Tryz.f137 0)
 (Z2q s) := Yhz (fun k => .i ((k : Int) < (↑(s.items.map Yh9).length : Int)) (.x (k : Int) (s.items.map Yh9) (Yhg (s.items.getD k default)) (.d
 [.rd] (Zs (s.items.getD k default)) (.r ((↑(1 + Yhb Yhk (s.items.take k)) : Int) + (↑(Yhk (s.items.getD k default)) : Int)) (.r ((k : Int) + 1) (.g [] (k + 1)
 [.s (li ((k : Int) + 1)), .s (li ((↑(1 + Yhb Yhk (s.items.take k)) : Int) + (↑(Yhk (s.items.getD k default)) : Int)))]))))) (.o 0 [] [.s (li (↑(1 + Yhb Yhk
 (s.items.take k)) : Int))])) (by
 intro k h; try dsimp only [Yhf, Yhl, Z2q] at h ⊢
 have g1 := Yj6 s
 have g2 := @Yi4 _ wY s.items (s.items.getD k default)
 have g3 := @Yjj _ _ Yhk s.items k
 have g4 := Yiz Yhk s.items (k + 1)
 have g5 := Ynx s
 have g6 := Yi9 s
 have g7 : s.items.length <= k -> s.items.take k = s.items := fun h => List.take_of_length_le h
 with_reducible repeat' (first | apply And.intro | exact zR | exact ih | (intro) | apply ih)
 all_goals ((try simp only [std, inj] at *); with_reducible and_intros)
 all_goals try with_reducible first | apply ih
 all_goals try first | exact z | grind [Yhj, Yhi, Yhh, Yhe])
theorem Zem (s : YS) (h : wY s <= 1048576) (ih : ∀ z ∈ s.items, ∀ (h : wY z <= 1048576), Zs z)  : Zs s := Yhq Tryz.call137 Tryz.func137 (.z Yh9 s.items
 (.l (Z2q s) (Zbk s h ih) [] [.s (li 0), .s (li 1)] 0 (.t (.s (li (↑(1 + Yhb Yhk s.items) : Int))) .q))) (by
 dsimp only [Yhf, Zs, Yhl, Z2q]
 have g6 := Yi9 s
 have g7 : Yhb Yhk (s.items.take 0) = 0 := rfl
 with_reducible repeat' (first | apply And.intro | exact zR | exact ih | (intro))
 all_goals ((try simp only [std, inj] at *); with_reducible and_intros)
 all_goals try with_reducible first | apply ih
 all_goals (try exact zG))
theorem Z7g (s : YS) : ∀ (h : wY s <= 1048576), Zs s := YS.ind (P := fun s => ∀ (h : wY s <= 1048576), Zs s) (fun s ih h => Zem s h ih) s
abbrev Zt (s : YS) : Ct := ⟨148, [], [Yhu s], [], .sv (li (Yhk s))⟩
def Z2r (s : YS) : Lp Nat := .mk 19 0 (fun x => [(3, hs x 1), (7, ll (s.items.map Yh9)), (8, li (↑(s.items.map Yh9).length : Int)), (9, hs x 0)])
 (fun x => []) (fun k => [.s (li (k : Int)), .s (li (↑(1 + Yhb Yhk (s.items.take k)) : Int))]) (fun k => k <= s.items.length /\ s.items.length <= 9223372036854775807) (fun k
 => s.items.length - k) [.mk True (.exit 0) (fun x => [(3, hs x 0)]) (fun x => []) [.s (li (↑(1 + Yhb Yhk s.items) : Int))]]
theorem Zbl (s : YS) (h : wY s <= 1048576) (ih : ∀ (z : YS), z ∈ s.items -> wY z <= 1048576 -> OK (Zt z)) : Lp.Sem Tryz.prog (Yhp Tryz.f148 0)
 (Z2r s) := Yhz (fun k => .i ((k : Int) < (↑(s.items.map Yh9).length : Int)) (.x (k : Int) (s.items.map Yh9) (Yhg (s.items.getD k default)) (.d
 [.rd] (Zt (s.items.getD k default)) (.r ((↑(1 + Yhb Yhk (s.items.take k)) : Int) + (↑(Yhk (s.items.getD k default)) : Int)) (.r ((k : Int) + 1) (.g [] (k + 1)
 [.s (li ((k : Int) + 1)), .s (li ((↑(1 + Yhb Yhk (s.items.take k)) : Int) + (↑(Yhk (s.items.getD k default)) : Int)))]))))) (.o 0 [] [.s (li (↑(1 + Yhb Yhk
 (s.items.take k)) : Int))])) (by
 intro k h; try dsimp only [Yhf, Yhl, Z2r] at h ⊢
 have g1 := Yj6 s
 have g2 := @Yi4 _ wY s.items (s.items.getD k default)
 have g3 := @Yjj _ _ Yhk s.items k
 have g4 := Yiz Yhk s.items (k + 1)
 have g5 := Ynx s
 have g6 := Yi9 s
 have g7 : s.items.length <= k -> s.items.take k = s.items := fun h => List.take_of_length_le h
 with_reducible repeat' (first | apply And.intro | exact zR | exact ih | (intro) | apply ih)
 all_goals ((try simp only [std, inj] at *); with_reducible and_intros)
 all_goals try with_reducible first | apply ih
 all_goals try first | exact z | grind [Yhj, Yhi, Yhh, Yhe])
theorem Zen (s : YS) (h : wY s <= 1048576) (ih : ∀ z ∈ s.items, ∀ (h : wY z <= 1048576), Zt z)  : Zt s := Yhq Tryz.call148 Tryz.func148 (.z Yh9 s.items
 (.l (Z2r s) (Zbl s h ih) [] [.s (li 0), .s (li 1)] 0 (.t (.s (li (↑(1 + Yhb Yhk s.items) : Int))) .q))) (by
 dsimp only [Yhf, Zt, Yhl, Z2r]
 have g6 := Yi9 s
 have g7 : Yhb Yhk (s.items.take 0) = 0 := rfl
 with_reducible repeat' (first | apply And.intro | exact zR | exact ih | (intro))
 all_goals ((try simp only [std, inj] at *); with_reducible and_intros)
 all_goals try with_reducible first | apply ih
 all_goals (try exact zG))
theorem Z7h (s : YS) : ∀ (h : wY s <= 1048576), Zt s := YS.ind (P := fun s => ∀ (h : wY s <= 1048576), Zt s) (fun s ih h => Zen s h ih) s
def clP (Ls : List YS) (p : YS) : Bool := Yi2 p && decide (p.kind = 0) && !decide ((p.items.length : Int) = 0) && decide ((p.items.getD 0 default).kind = 1) && !Yhn (p.items.getD 0 default) && (vrS Ls (tlY p) 0 []).isSome
def clT (Ls : List YS) (p t : YS) : Bool := clP Ls p && tmF ((vrS Ls (tlY p) 0 []).getD []) t
def Ymo (r : YR) : Nat -> Bool
 | 0 => true
 | k + 1 => Ymo r k && clT r.literals (r.patterns.getD k default) (r.templates.getD k default)
def clN (r : YR) : Nat -> Nat
 | 0 => 0
 | k + 1 => clN r k + Yhk (r.patterns.getD k default) + Yhk (r.templates.getD k default)
theorem Yvs (r : YR) : ∀ (m k : Nat), k <= m -> Ymo r m = true -> Ymo r k = true
 | 0, k, h, _ => by
  obtain rfl : k = 0 := by omega
  rfl
 | m + 1, k, h, ht => by
  by_cases e : k = m + 1
  ·rw [e]; exact ht
  ·refine Yvs r m k (by omega) ?_
   simp only [Ymo, Bool.and_eq_true] at ht; exact ht.1
theorem Y14m (r : YR) : ∀ k, k <= r.patterns.length -> r.patterns.length = r.templates.length -> clN r k <= 2 * k + Yhb wY (r.patterns.take k) + Yhb wY (r.templates.take k)
 | 0, _, _ => by simp [clN, Yhb]
 | k + 1, hk, hl => by
  have ih := Y14m r k (by omega) hl
  have h1 := @Yjj _ _ wY r.patterns k (by omega)
  have h2 := @Yjj _ _ wY r.templates k (by omega)
  have h3 := Ynx (r.patterns.getD k default)
  have h4 := Ynx (r.templates.getD k default)
  simp only [clN]; omega
def Yko (r : YR) : Bool := okL r.literals && decide ((r.patterns.length : Int) = r.templates.length) && decide (1 <= (r.patterns.length : Int) /\ (r.patterns.length : Int) <= 12) && Ymo r r.patterns.length && decide ((clN r r.patterns.length : Int) <= 2000)
abbrev Z60 (r : YR) : Ct := ⟨63, [], [Ymf r], [], .sv (lb (Yko r))⟩
def Z2s (r : YR) : Lp Nat := .mk 100 0 (fun x => [(1, .one (.ptr 0 0)), (3, hs x 1), (29, ll (r.patterns.map Yh9)), (30, li (↑(List.map Yh9
 r.patterns).length : Int)), (31, hs x 0)]) (fun x => [.box (vals (Yix r))]) (fun k => [.s (li (k : Int)), .s (li (↑(clN r k) : Int))]) (fun k => k <= r.patterns.length /\
 r.patterns.length <= 9223372036854775807 /\ r.patterns.length = r.templates.length /\ r.patterns.length <= 12 /\ Ymo r k = true) (fun k => r.patterns.length - k) [.mk (Ymo r
 r.patterns.length = true) (.exit 0) (fun x => [(3, hs x 0)]) (fun x => []) [.s (li (↑(clN r r.patterns.length) : Int))], .mk (Ymo r r.patterns.length = false) .ret (fun x => [(2,
 hs x 0)]) (fun x => []) [.s (lb false)]]
theorem Zbm (r : YR) (h : wR r <= 1048576) : Lp.Sem Tryz.prog (Yhp Tryz.f63 0) (Z2s r) := Yhz (fun k => .i ((k : Int) < (↑(List.map Yh9
 r.patterns).length : Int)) (.x (k : Int) (r.patterns.map Yh9) (Yhg (r.patterns.getD k default)) (.c [.rd] (Z1t (r.patterns.getD k default)) (.b (!Yi2
 (r.patterns.getD k default)) (.y true (.y true (.y true (.y true (.o 1 [] [.s (lb false)]))))) (.i ((r.patterns.getD k default).kind ≠ 0) (.y true (.y true (.y true (.o 1 [] [.s
 (lb false)])))) (.z Yh9 (r.patterns.getD k default).items (.i ((↑((r.patterns.getD k default).items.map Yh9).length : Int) = 0) (.y true (.y true (.o 1 [] [.s (lb
 false)]))) (.w (.cells (Yhg ((r.patterns.getD k default).items.getD 0 default))) (.p ((0 : Int) <= 0 /\ ((r.patterns.getD k default).items.map Yh9)[0]? = some (Yhg
 ((r.patterns.getD k default).items.getD 0 default))) (.i (((r.patterns.getD k default).items.getD 0 default).kind ≠ 1) (.y true (.o 1 [] [.s (lb false)])) (.w (.cells (Yhg
 ((r.patterns.getD k default).items.getD 0 default))) (.p ((0 : Int) <= 0 /\ ((r.patterns.getD k default).items.map Yh9)[0]? = some (Yhg ((r.patterns.getD k
 default).items.getD 0 default))) (.c [.rd] (Ze ((r.patterns.getD k default).items.getD 0 default)) (.b (Yhn ((r.patterns.getD k default).items.getD 0 default)) (.o 1 []
 [.s (lb false)]) (.w (.draw [(5, [10])]) (.d [.rd] (Z4z (r.patterns.getD k default)) (.w (.bool false) (.d [.rd, .rd, .rd, .own true 12] (Zw r.literals (YS.mk 0 0
 (mkS []) [] (List.drop 1 (r.patterns.getD k default).items)) 0 []) (.b (!(vrS r.literals (YS.mk 0 0 (mkS []) [] (List.drop 1 (r.patterns.getD k default).items)) 0 []).isSome)
 (.y true (.o 1 [] [.s (lb false)])) (.x (k : Int) (r.templates.map Yh9) (Yhg (r.templates.getD k default)) (.c [.rd, .rd] (Zh4 ((vrS r.literals (YS.mk 0 0
 (mkS []) [] (List.drop 1 (r.patterns.getD k default).items)) 0 []).getD []) (r.templates.getD k default)) (.b (!tmF ((vrS r.literals (YS.mk 0 0 (mkS []) [] (List.drop 1
 (r.patterns.getD k default).items)) 0 []).getD []) (r.templates.getD k default)) (.o 1 [] [.s (lb false)]) (.w (.draw []) (.d [.rd] (Zs (r.patterns.getD k default)) (.r
 ((↑(clN r k) : Int) + (↑(Yhk (r.patterns.getD k default)) : Int)) (.x (k : Int) (r.templates.map Yh9) (Yhg (r.templates.getD k default)) (.d [.rd] (Zs
 (r.templates.getD k default)) (.r ((↑(clN r k) : Int) + (↑(Yhk (r.patterns.getD k default)) : Int) + (↑(Yhk (r.templates.getD k default)) : Int)) (.r ((k : Int) + 1) (.g [0]
 (k + 1) [.s (li ((k : Int) + 1)), .s (li ((↑(clN r k) : Int) + (↑(Yhk (r.patterns.getD k default)) : Int) + (↑(Yhk (r.templates.getD k default)) :
 Int)))]))))))))))))))))))))))))))))) (.o 0 [] [.s (li (↑(clN r k) : Int))])) (by
 intro k h; try dsimp only [Yhf, Yhl, Z2s] at h ⊢
 have g1 := Yvs r r.patterns.length (k + 1)
 have g2 : Ymo r (k + 1) = (Ymo r k && clT r.literals (r.patterns.getD k default) (r.templates.getD k default)) := rfl
 have g3 : clN r (k + 1) = clN r k + Yhk (r.patterns.getD k default) + Yhk (r.templates.getD k default) := rfl
 have g4 := Y14m r (k + 1)
 have g5 := Yiz wY r.patterns (k + 1)
 have g6 := Yiz wY r.templates (k + 1)
 have g7 := Ynp r
 have g8 := @Yi4 _ wY r.patterns (r.patterns.getD k default)
 have g9 := @Yi4 _ wY r.templates (r.templates.getD k default)
 have g10 := @Y107 (r.patterns.getD k default)
 have g11 := Yvt (r.patterns.getD k default)
 have g12 : ∀ p, Yi2 p = true -> Yhk p <= 2000 /\ Yi1 p <= 40 := fun p h => by simp only [Yi2, Bool.and_eq_true, decide_eq_true_eq] at h; exact ⟨h.1.1, h.1.2⟩
 with_reducible repeat' (first | apply And.intro | exact zR | (intro) | apply Z3g | apply Z72 | apply Z7g)
 all_goals ((try simp only [std, inj] at *); with_reducible and_intros)
 all_goals try with_reducible first | apply Z3g | apply Z72 | apply Z7g
 all_goals try first | exact z | grind [clT, clP, tlY, Yhj, Yhi, Yhh, Yhe])
theorem Z2f (r : YR) (h : wR r <= 1048576)  : Z60 r := Yhq Tryz.call63 Tryz.func63 (.c [.rd] (Zgy r.literals) (.b (!okL r.literals) (.y true (.y true (.s (lb
 false)))) (.z Yh9 r.patterns (.z Yh9 r.templates (.i ((↑(r.patterns.map Yh9).length : Int) ≠ (↑(r.templates.map Yh9).length : Int)) (.y true (.s (lb
 false))) (.z Yh9 r.patterns (.c [.rd, .rd, .rd] (Z1g (↑(r.patterns.map Yh9).length : Int) 1 12) (.b (!decide (1 <= (↑(r.patterns.map Yh9).length : Int) /\
 (↑(r.patterns.map Yh9).length : Int) <= 12)) (.s (lb false)) (.z Yh9 r.patterns (.l (Z2s r) (Zbm r h) [0] [.s (li 0), .s (li 0)] 0 (.t (.s (lb
 (decide ((↑(clN r r.patterns.length) : Int) <= 2000)))) (.t (.s (lb false)) .q)))))))))))) (by
 dsimp only [Yhf, Z60, Yhl, Z2s]
 with_reducible repeat' (first | apply And.intro | exact zR | (intro) | apply Z3g | apply Z72 | apply Z7g)
 all_goals ((try simp only [std, inj] at *); with_reducible and_intros)
 all_goals try with_reducible first | apply Z3g | apply Z72 | apply Z7g
 all_goals try first | exact z | grind [Yko, Ymo, clN, Yhi, Yhh, Yhe])
abbrev Z61 (r : YR) : Ct := ⟨74, [], [Ymf r], [], .sv (lb (Yko r))⟩
def Z2t (r : YR) : Lp Nat := .mk 104 0 (fun x => [(1, .one (.ptr 0 0)), (3, hs x 1), (34, ll (r.patterns.map Yh9)), (35, li (↑(List.map Yh9
 r.patterns).length : Int)), (36, hs x 0)]) (fun x => [.box (vals (Yix r))]) (fun k => [.s (li (k : Int)), .s (li (↑(clN r k) : Int))]) (fun k => k <= r.patterns.length /\
 r.patterns.length <= 9223372036854775807 /\ r.patterns.length = r.templates.length /\ r.patterns.length <= 12 /\ Ymo r k = true /\ okL r.literals = true) (fun k => r.patterns.length -
 k) [.mk (Ymo r r.patterns.length = true) (.exit 0) (fun x => [(3, hs x 0)]) (fun x => []) [.s (li (↑(clN r r.patterns.length) : Int))], .mk (Ymo r r.patterns.length = false)
 .ret (fun x => [(2, hs x 0)]) (fun x => []) [.s (lb false)]]
theorem Zbn (r : YR) (h : wR r <= 1048576) : Lp.Sem Tryz.prog (Yhp Tryz.f74 0) (Z2t r) := Yhz (fun k => .i ((k : Int) < (↑(List.map Yh9
 r.patterns).length : Int)) (.x (k : Int) (r.patterns.map Yh9) (Yhg (r.patterns.getD k default)) (.c [.rd] (Z1c (r.patterns.getD k default)) (.b (!Yi2
 (r.patterns.getD k default)) (.y true (.y true (.y true (.y true (.o 1 [] [.s (lb false)]))))) (.i ((r.patterns.getD k default).kind ≠ 0) (.y true (.y true (.y true (.o 1 [] [.s
 (lb false)])))) (.z Yh9 (r.patterns.getD k default).items (.i ((↑((r.patterns.getD k default).items.map Yh9).length : Int) = 0) (.y true (.y true (.o 1 [] [.s (lb
 false)]))) (.w (.cells (Yhg ((r.patterns.getD k default).items.getD 0 default))) (.p ((0 : Int) <= 0 /\ ((r.patterns.getD k default).items.map Yh9)[0]? = some (Yhg
 ((r.patterns.getD k default).items.getD 0 default))) (.i (((r.patterns.getD k default).items.getD 0 default).kind ≠ 1) (.y true (.o 1 [] [.s (lb false)])) (.w (.cells (Yhg
 ((r.patterns.getD k default).items.getD 0 default))) (.p ((0 : Int) <= 0 /\ ((r.patterns.getD k default).items.map Yh9)[0]? = some (Yhg ((r.patterns.getD k
 default).items.getD 0 default))) (.c [.rd] (Z0 ((r.patterns.getD k default).items.getD 0 default)) (.b (Yhn ((r.patterns.getD k default).items.getD 0 default)) (.o 1 []
 [.s (lb false)]) (.w (.draw []) (.d [.rd] (Z50 (r.patterns.getD k default)) (.d [.rd, .rd] (Z9h r.literals (YS.mk 0 0 (mkS []) [] (List.drop 1 (r.patterns.getD k
 default).items))) (.b (!(okL r.literals && Yi2 (YS.mk 0 0 (mkS []) [] (List.drop 1 (r.patterns.getD k default).items)) && (vrS r.literals (YS.mk 0 0 (mkS []) []
 (List.drop 1 (r.patterns.getD k default).items)) 0 []).isSome)) (.y true (.o 1 [] [.s (lb false)])) (.x (k : Int) (r.templates.map Yh9) (Yhg (r.templates.getD k
 default)) (.c [.rd, .rd] (Zh5 (if okL r.literals = true /\ Yi2 (YS.mk 0 0 (mkS []) [] (List.drop 1 (r.patterns.getD k default).items)) = true then (vrS r.literals
 (YS.mk 0 0 (mkS []) [] (List.drop 1 (r.patterns.getD k default).items)) 0 []).getD [] else []) (r.templates.getD k default)) (.b (!tmF (if okL r.literals = true /\ Yi2
 (YS.mk 0 0 (mkS []) [] (List.drop 1 (r.patterns.getD k default).items)) = true then (vrS r.literals (YS.mk 0 0 (mkS []) [] (List.drop 1 (r.patterns.getD k default).items))
 0 []).getD [] else []) (r.templates.getD k default)) (.o 1 [] [.s (lb false)]) (.w (.draw []) (.d [.rd] (Zt (r.patterns.getD k default)) (.x (k : Int) (List.map Yh9
 r.templates) (Yhg (r.templates.getD k default)) (.d [.rd] (Zt (r.templates.getD k default)) (.r ((↑(Yhk (r.patterns.getD k default)) : Int) + (↑(Yhk
 (r.templates.getD k default)) : Int)) (.r ((↑(clN r k) : Int) + ((↑(Yhk (r.patterns.getD k default)) : Int) + (↑(Yhk (r.templates.getD k default)) : Int))) (.r ((k : Int) +
 1) (.g [0] (k + 1) [.s (li ((k : Int) + 1)), .s (li ((↑(clN r k) : Int) + ((↑(Yhk (r.patterns.getD k default)) : Int) + (↑(Yhk (r.templates.getD k default)) :
 Int))))])))))))))))))))))))))))))))) (.o 0 [] [.s (li (↑(clN r k) : Int))])) (by
 intro k h; try dsimp only [Yhf, Yhl, Z2t] at h ⊢
 have g1 := Yvs r r.patterns.length (k + 1)
 have g2 : Ymo r (k + 1) = (Ymo r k && clT r.literals (r.patterns.getD k default) (r.templates.getD k default)) := rfl
 have g3 : clN r (k + 1) = clN r k + Yhk (r.patterns.getD k default) + Yhk (r.templates.getD k default) := rfl
 have g4 := Y14m r (k + 1)
 have g5 := Yiz wY r.patterns (k + 1)
 have g6 := Yiz wY r.templates (k + 1)
 have g7 := Ynp r
 have g8 := @Yi4 _ wY r.patterns (r.patterns.getD k default)
 have g9 := @Yi4 _ wY r.templates (r.templates.getD k default)
 have g10 := @Y107 (r.patterns.getD k default)
 have g11 := Yvt (r.patterns.getD k default)
 have g12 : ∀ p, Yi2 p = true -> Yhk p <= 2000 /\ Yi1 p <= 40 := fun p h => by simp only [Yi2, Bool.and_eq_true, decide_eq_true_eq] at h; exact ⟨h.1.1, h.1.2⟩
 with_reducible repeat' (first | apply And.intro | exact zR | (intro) | apply Z0 | apply Z3h | apply Z9x | apply Z7h)
 all_goals ((try simp only [std, inj] at *); with_reducible and_intros)
 all_goals try with_reducible first | apply Z0 | apply Z3h | apply Z9x | apply Z7h
 all_goals try first | exact z | grind [clT, clP, tlY, Yhj, Yhi, Yhh, Yhe])
theorem Z2g (r : YR) (h : wR r <= 1048576)  : Z61 r := Yhq Tryz.call74 Tryz.func74 (.c [.rd] (Ze1 r.literals) (.b (!okL r.literals) (.y true (.y true (.y true
 (.s (lb false))))) (.z Yh9 r.patterns (.z Yh9 r.templates (.i ((↑(r.patterns.map Yh9).length : Int) ≠ (↑(r.templates.map Yh9).length : Int)) (.y true (.y
 true (.s (lb false)))) (.z Yh9 r.patterns (.i ((↑(r.patterns.map Yh9).length : Int) < 1) (.y true (.s (lb false))) (.z Yh9 r.patterns (.i (12 < (↑(List.map
 Yh9 r.patterns).length : Int)) (.s (lb false)) (.z Yh9 r.patterns (.l (Z2t r) (Zbn r h) [0] [.s (li 0), .s (li 0)] 0 (.t (.s (lb (decide ((↑(clN r
 r.patterns.length) : Int) <= 2000)))) (.t (.s (lb false)) .q))))))))))))) (by
 dsimp only [Yhf, Z61, Yhl, Z2t]
 with_reducible repeat' (first | apply And.intro | exact zR | (intro) | apply Z0 | apply Z3h | apply Z9x | apply Z7h)
 all_goals ((try simp only [std, inj] at *); with_reducible and_intros)
 all_goals try with_reducible first | apply Z0 | apply Z3h | apply Z9x | apply Z7h
 all_goals try first | exact z | grind [Yko, Ymo, clN, Yhi, Yhh, Yhe])
set_option maxHeartbeats 4000000
def Yrj : List ByteArray := [mkS [113, 117, 111, 116, 101], mkS [108, 97, 109, 98, 100, 97], mkS [105, 102], mkS [115, 101, 116, 33], mkS [98, 101, 103, 105, 110], mkS [114, 101, 115, 101, 116], mkS [115, 104, 105, 102, 116], mkS [100, 101, 102, 105, 110, 101], mkS [100, 101, 102, 105, 110, 101, 45, 115, 121, 110, 116, 97, 120], mkS [108, 101, 116, 45, 115, 121, 110, 116, 97, 120], mkS [115, 121, 110, 116, 97, 120, 45, 114, 117, 108, 101, 115], mkS [108, 111, 99, 97, 108]]
def Yrc : List ByteArray := [mkS [43], mkS [45], mkS [42], mkS [61], mkS [60], mkS [99, 111, 110, 115], mkS [99, 97, 114], mkS [99, 100, 114], mkS [110, 117, 108, 108, 63], mkS [112, 97, 105, 114, 63], mkS [110, 117, 109, 98, 101, 114, 63], mkS [101, 113, 63], mkS [110, 111, 116], mkS [100, 105, 115, 112, 108, 97, 121]]
abbrev Z73  : Ct := ⟨244, [], [], [.arr true 1 (Yrj.map Yr2)], .sv (.one (.ref 0))⟩
theorem Zck   : Z73 := Yhq Tryz.call244 Tryz.func244 (.f [0] [.arr true 1 [[cS (ByteArray.mk #[(113 : UInt8), (117 : UInt8), (111 : UInt8), (116 : UInt8), (101
 : UInt8)])], [cS (ByteArray.mk #[(108 : UInt8), (97 : UInt8), (109 : UInt8), (98 : UInt8), (100 : UInt8), (97 : UInt8)])], [cS (ByteArray.mk #[(105 : UInt8), (102 : UInt8)])], [cS
 (ByteArray.mk #[(115 : UInt8), (101 : UInt8), (116 : UInt8), (33 : UInt8)])], [cS (ByteArray.mk #[(98 : UInt8), (101 : UInt8), (103 : UInt8), (105 : UInt8), (110 : UInt8)])], [cS
 (ByteArray.mk #[(114 : UInt8), (101 : UInt8), (115 : UInt8), (101 : UInt8), (116 : UInt8)])], [cS (ByteArray.mk #[(115 : UInt8), (104 : UInt8), (105 : UInt8), (102 : UInt8), (116
 : UInt8)])], [cS (ByteArray.mk #[(100 : UInt8), (101 : UInt8), (102 : UInt8), (105 : UInt8), (110 : UInt8), (101 : UInt8)])], [cS (ByteArray.mk #[(100 : UInt8), (101 : UInt8),
 (102 : UInt8), (105 : UInt8), (110 : UInt8), (101 : UInt8), (45 : UInt8), (115 : UInt8), (121 : UInt8), (110 : UInt8), (116 : UInt8), (97 : UInt8), (120 : UInt8)])], [cS
 (ByteArray.mk #[(108 : UInt8), (101 : UInt8), (116 : UInt8), (45 : UInt8), (115 : UInt8), (121 : UInt8), (110 : UInt8), (116 : UInt8), (97 : UInt8), (120 : UInt8)])], [cS
 (ByteArray.mk #[(115 : UInt8), (121 : UInt8), (110 : UInt8), (116 : UInt8), (97 : UInt8), (120 : UInt8), (45 : UInt8), (114 : UInt8), (117 : UInt8), (108 : UInt8), (101 : UInt8),
 (115 : UInt8)])], [cS (ByteArray.mk #[(108 : UInt8), (111 : UInt8), (99 : UInt8), (97 : UInt8), (108 : UInt8)])]]] (.sv (.one (.ref 0)))) (by
 dsimp only [Yhf, Z73]
 with_reducible repeat' (first | apply And.intro | exact zR | (intro))
 all_goals ((try simp only [std, inj] at *); with_reducible and_intros)
 all_goals (try exact zG)
 all_goals rfl)
abbrev Z3y  : Ct := ⟨245, [], [], [.arr true 1 (Yrc.map Yr2)], .sv (.one (.ref 0))⟩
theorem Z94   : Z3y := Yhq Tryz.call245 Tryz.func245 (.f [0] [.arr true 1 [[cS (ByteArray.mk #[(43 : UInt8)])], [cS (ByteArray.mk #[(45 : UInt8)])],
 [cS (ByteArray.mk #[(42 : UInt8)])], [cS (ByteArray.mk #[(61 : UInt8)])], [cS (ByteArray.mk #[(60 : UInt8)])], [cS (ByteArray.mk #[(99 : UInt8), (111 : UInt8), (110 : UInt8), (115
 : UInt8)])], [cS (ByteArray.mk #[(99 : UInt8), (97 : UInt8), (114 : UInt8)])], [cS (ByteArray.mk #[(99 : UInt8), (100 : UInt8), (114 : UInt8)])], [cS (ByteArray.mk #[(110 :
 UInt8), (117 : UInt8), (108 : UInt8), (108 : UInt8), (63 : UInt8)])], [cS (ByteArray.mk #[(112 : UInt8), (97 : UInt8), (105 : UInt8), (114 : UInt8), (63 : UInt8)])], [cS
 (ByteArray.mk #[(110 : UInt8), (117 : UInt8), (109 : UInt8), (98 : UInt8), (101 : UInt8), (114 : UInt8), (63 : UInt8)])], [cS (ByteArray.mk #[(101 : UInt8), (113 : UInt8), (63 :
 UInt8)])], [cS (ByteArray.mk #[(110 : UInt8), (111 : UInt8), (116 : UInt8)])], [cS (ByteArray.mk #[(100 : UInt8), (105 : UInt8), (115 : UInt8), (112 : UInt8), (108 : UInt8), (97 :
 UInt8), (121 : UInt8)])]]] (.sv (.one (.ref 0)))) (by
 dsimp only [Yhf, Z3y]
 with_reducible repeat' (first | apply And.intro | exact zR | (intro))
 all_goals ((try simp only [std, inj] at *); with_reducible and_intros)
 all_goals (try exact zG)
 all_goals rfl)
abbrev Z74  : Ct := ⟨253, [], [], [.arr true 1 (Yrj.map Yr2)], .sv (.one (.ref 0))⟩
theorem Zcl   : Z74 := Yhq Tryz.call253 Tryz.func253 (.f [0] [.arr true 1 [[cS (ByteArray.mk #[(113 : UInt8), (117 : UInt8), (111 : UInt8), (116 : UInt8), (101
 : UInt8)])], [cS (ByteArray.mk #[(108 : UInt8), (97 : UInt8), (109 : UInt8), (98 : UInt8), (100 : UInt8), (97 : UInt8)])], [cS (ByteArray.mk #[(105 : UInt8), (102 : UInt8)])], [cS
 (ByteArray.mk #[(115 : UInt8), (101 : UInt8), (116 : UInt8), (33 : UInt8)])], [cS (ByteArray.mk #[(98 : UInt8), (101 : UInt8), (103 : UInt8), (105 : UInt8), (110 : UInt8)])], [cS
 (ByteArray.mk #[(114 : UInt8), (101 : UInt8), (115 : UInt8), (101 : UInt8), (116 : UInt8)])], [cS (ByteArray.mk #[(115 : UInt8), (104 : UInt8), (105 : UInt8), (102 : UInt8), (116
 : UInt8)])], [cS (ByteArray.mk #[(100 : UInt8), (101 : UInt8), (102 : UInt8), (105 : UInt8), (110 : UInt8), (101 : UInt8)])], [cS (ByteArray.mk #[(100 : UInt8), (101 : UInt8),
 (102 : UInt8), (105 : UInt8), (110 : UInt8), (101 : UInt8), (45 : UInt8), (115 : UInt8), (121 : UInt8), (110 : UInt8), (116 : UInt8), (97 : UInt8), (120 : UInt8)])], [cS
 (ByteArray.mk #[(108 : UInt8), (101 : UInt8), (116 : UInt8), (45 : UInt8), (115 : UInt8), (121 : UInt8), (110 : UInt8), (116 : UInt8), (97 : UInt8), (120 : UInt8)])], [cS
 (ByteArray.mk #[(115 : UInt8), (121 : UInt8), (110 : UInt8), (116 : UInt8), (97 : UInt8), (120 : UInt8), (45 : UInt8), (114 : UInt8), (117 : UInt8), (108 : UInt8), (101 : UInt8),
 (115 : UInt8)])], [cS (ByteArray.mk #[(108 : UInt8), (111 : UInt8), (99 : UInt8), (97 : UInt8), (108 : UInt8)])]]] (.sv (.one (.ref 0)))) (by
 dsimp only [Yhf, Z74]
 with_reducible repeat' (first | apply And.intro | exact zR | (intro))
 all_goals ((try simp only [std, inj] at *); with_reducible and_intros)
 all_goals (try exact zG)
 all_goals rfl)
abbrev Z3z  : Ct := ⟨254, [], [], [.arr true 1 (Yrc.map Yr2)], .sv (.one (.ref 0))⟩
theorem Z95   : Z3z := Yhq Tryz.call254 Tryz.func254 (.f [0] [.arr true 1 [[cS (ByteArray.mk #[(43 : UInt8)])], [cS (ByteArray.mk #[(45 : UInt8)])],
 [cS (ByteArray.mk #[(42 : UInt8)])], [cS (ByteArray.mk #[(61 : UInt8)])], [cS (ByteArray.mk #[(60 : UInt8)])], [cS (ByteArray.mk #[(99 : UInt8), (111 : UInt8), (110 : UInt8), (115
 : UInt8)])], [cS (ByteArray.mk #[(99 : UInt8), (97 : UInt8), (114 : UInt8)])], [cS (ByteArray.mk #[(99 : UInt8), (100 : UInt8), (114 : UInt8)])], [cS (ByteArray.mk #[(110 :
 UInt8), (117 : UInt8), (108 : UInt8), (108 : UInt8), (63 : UInt8)])], [cS (ByteArray.mk #[(112 : UInt8), (97 : UInt8), (105 : UInt8), (114 : UInt8), (63 : UInt8)])], [cS
 (ByteArray.mk #[(110 : UInt8), (117 : UInt8), (109 : UInt8), (98 : UInt8), (101 : UInt8), (114 : UInt8), (63 : UInt8)])], [cS (ByteArray.mk #[(101 : UInt8), (113 : UInt8), (63 :
 UInt8)])], [cS (ByteArray.mk #[(110 : UInt8), (111 : UInt8), (116 : UInt8)])], [cS (ByteArray.mk #[(100 : UInt8), (105 : UInt8), (115 : UInt8), (112 : UInt8), (108 : UInt8), (97 :
 UInt8), (121 : UInt8)])]]] (.sv (.one (.ref 0)))) (by
 dsimp only [Yhf, Z3z]
 with_reducible repeat' (first | apply And.intro | exact zR | (intro))
 all_goals ((try simp only [std, inj] at *); with_reducible and_intros)
 all_goals (try exact zG)
 all_goals rfl)
end Go.Proofs.YtpnaoendfpaodaaGreat
end
