/- Part 1 of a proof. No condition. -/
import Derived.Test.YtclpofblehlojaaGreatQ5
section
namespace Go.Proofs.YtclpofblehlojaaGreat
open Go Go.Proofs.YtclpofblehlojaaGreat.Ab
theorem zV {p : Prop} (h : p := by
  with_reducible repeat' (first | apply And.intro | exact zR | (intro; skip))
  all_goals (try simp only [std, inj] at *)
  all_goals with_reducible repeat' apply And.intro
  all_goals (try (first | exact z | grind [Yd7, Yd8, Yd4]))) : p := h
theorem zW {p : Prop} (h : p := by
  with_reducible repeat' (first | apply And.intro | exact zR | (intro; skip))
  all_goals (try simp only [std, inj] at *)
  all_goals with_reducible repeat' apply And.intro
  all_goals (try (first | exact z | grind [Yd7, Yd8, Yd4, Yd6]))) : p := h
theorem zG {p : Prop} (h : p := by first | exact z | grind [Yd7, Yd8, Yd4]) : p := h
end Go.Proofs.YtclpofblehlojaaGreat
end
set_option linter.unusedVariables false
set_option linter.unusedSimpArgs false
section
namespace Go.Proofs.YtclpofblehlojaaGreat
open Go Ab
set_option maxHeartbeats 4000000
theorem Yps {L : List UInt8} {p : UInt8 -> Bool} {k : Nat} (h : k < L.length) (hp : p (L.getD k 0) = false) : L.all p = false := by
 rw [List.all_eq_false]
 have e : L.getD k 0 = L[k] := by simp [h]
 exact ⟨L[k], List.getElem_mem h, by rw [<- e, hp]; decide⟩
theorem Yue {L : List UInt8} {p : UInt8 -> Bool} {k : Nat} (h : k < L.length) (hp : p (L.getD k 0) = true) (ht : (L.take k).all p = true) : (L.take (k + 1)).all p = true := by
 rw [Y1ky h, List.all_append, ht, List.all_cons, hp]; rfl
theorem Ys8 {L : List UInt8} {p : UInt8 -> Bool} {k : Nat} (h : L.length <= k) (ht : (L.take k).all p = true) : L.all p = true := by
 rwa [List.take_of_length_le h] at ht
def lu (n : Int) : SV := .one (.val (.lit (.int .u8 n)))
def Ygz (n : Int) : Bool := decide (48 <= n /\ n <= 57)
def Yl6 : List Int := [33, 63, 42, 60, 62, 61, 47, 43, 45, 46, 95]
def Yhy (n : Int) : Bool := decide (97 <= n /\ n <= 122) || Ygz n || decide (n ∈ Yl6)
theorem Y1h8 {k : Nat} (h : k < 11) : ((([33, 63, 42, 60, 62, 61, 47, 43, 45, 46, 95] : List UInt8).getD k 0).toNat : Int) = Yl6.getD k default := by
 have : ∀ k, k < 11 -> ((([33, 63, 42, 60, 62, 61, 47, 43, 45, 46, 95] : List UInt8).getD k 0).toNat : Int) = Yl6.getD k default := by decide
 exact this k h
def Yht (n : Int) : Bool := decide (32 <= n /\ n <= 126 /\ n ≠ 34)
def Yft (s : ByteArray) : Bool := decide (1 <= (s.size : Int) /\ (s.size : Int) <= 16) && !Ygz (s.data.toList.getD 0 0).toNat && !(decide (((s.data.toList.getD 0 0).toNat : Int) = 45) && decide (1 < (s.size : Int)) && Ygz (s.data.toList.getD 1 0).toNat) && s.data.toList.all fun b => Yhy b.toNat
def Yh1 (s : ByteArray) : Bool := decide ((s.size : Int) <= 20) && s.data.toList.all fun b => Yht b.toNat
abbrev Z6m (n : Int) : Ct := ⟨187, [], [lu n], [], .sv (lb (Ygz n))⟩
theorem Z3t (n : Int)  : Z6m n := Yde Tryz.call187 Tryz.func187 (.i (48 <= n) (.s (lb (decide (n <= 57)))) (.s (lb false))) (by
 dsimp only [Yd3, Z6m]
 with_reducible repeat' (first | apply And.intro | exact zR | (intro))
 all_goals ((try simp only [std, inj] at *); with_reducible and_intros)
 all_goals try first | exact z | grind [Ygz, Yd7, Yd8, Yd4])
abbrev Z6n (n : Int) : Ct := ⟨147, [], [lu n], [], .sv (lb (Ygz n))⟩
theorem Z8a (n : Int)  : Z6n n := Yde Tryz.call147 Tryz.func147 (.i (48 <= n) (.s (lb (decide (n <= 57)))) (.s (lb false))) (by
 dsimp only [Yd3, Z6n]
 with_reducible repeat' (first | apply And.intro | exact zR | (intro))
 all_goals ((try simp only [std, inj] at *); with_reducible and_intros)
 all_goals try first | exact z | grind [Ygz, Yd7, Yd8, Yd4])
abbrev Z7e (n : Int) : Ct := ⟨188, [], [lu n], [], .sv (lb (Yhy n))⟩
def Z29 (n : Int) : Lp Nat := .mk 26 0 (fun x => [(0, .one (.val (.lit (.int .u8 n)))), (3, ls (ByteArray.mk #[(33 : UInt8), (63 : UInt8), (42 : UInt8),
 (60 : UInt8), (62 : UInt8), (61 : UInt8), (47 : UInt8), (43 : UInt8), (45 : UInt8), (46 : UInt8), (95 : UInt8)])), (4, hs x 0)]) (fun x => []) (fun k => [.s (li (k : Int))]) (fun
 k => k <= 11 /\ ¬n ∈ Yl6.take k) (fun k => 11 - k) [.mk (decide (n ∈ Yl6) = false) (.exit 0) (fun x => []) (fun x => []) [], .mk (decide (n ∈ Yl6) = true) .ret (fun x =>
 [(2, hs x 0)]) (fun x => []) [.s (lb true)]]
theorem Z6o (n : Int) : Lp.Sem Tryz.prog (Ydg Tryz.f188 0) (Z29 n) := Ydr (fun k => .h (11 <= 9223372036854775807) (.i ((k : Int) < 11) (.p (0 <= (k : Int) /\ (↑k
 : Int).toNat < 11) (.i ((↑([(33 : UInt8), (63 : UInt8), (42 : UInt8), (60 : UInt8), (62 : UInt8), (61 : UInt8), (47 : UInt8), (43 : UInt8), (45 : UInt8), (46 : UInt8), (95 :
 UInt8)].getD (k : Int).toNat (0 : UInt8)).toNat : Int) = n) (.o 1 [] [.s (lb true)]) (.r ((k : Int) + 1) (.g [] (k + 1) [.s (li ((k : Int) + 1))])))) (.o 0 [] []))) (by
 intro k h; try dsimp only [Yd3, Ydb, Z29] at h ⊢
 have g := @Y1h8 k
 have e : Yl6.length = 11 := rfl
 have e2 : Yl6.take 11 = Yl6 := rfl
 with_reducible repeat' (first | apply And.intro | exact zR | (intro))
 all_goals ((try simp only [std, inj] at *); with_reducible and_intros)
 all_goals try first | exact z | grind [Ydn, Yd6, Yd7, Yd8, Yd4])
theorem Zcd (n : Int)  : Z7e n := Yde Tryz.call188 Tryz.func188 (.i (97 <= n) (.i (n <= 122) (.y true (.s (lb true))) (.c [.rd] (Z3t n) (.b (Ygz n) (.s (lb true)) (.l
 (Z29 n) (Z6o n) [] [.s (li 0)] 0 (.t (.s (lb false)) (.t (.s (lb true)) .q)))))) (.y false (.c [.rd] (Z3t n) (.b (Ygz n) (.s (lb true)) (.l (Z29 n)
 (Z6o n) [] [.s (li 0)] 0 (.t (.s (lb false)) (.t (.s (lb true)) .q))))))) (by
 dsimp only [Yd3, Z7e, Ydb, Z29]
 with_reducible repeat' (first | apply And.intro | exact zR | (intro))
 all_goals ((try simp only [std, inj] at *); with_reducible and_intros)
 all_goals try first | exact z | grind [Yhy, Yd7, Yd8, Yd4])
abbrev Z7f (n : Int) : Ct := ⟨148, [], [lu n], [], .sv (lb (Yhy n))⟩
theorem Zce (n : Int)  : Z7f n := Yde Tryz.call148 Tryz.func148 (.i (97 <= n) (.i (n <= 122) (.y true (.s (lb true))) (.i (48 <= n) (.i (n <= 57) (.s (lb true)) (.i (n = 33)
 (.y true (.s (lb true))) (.i (n = 63) (.y true (.s (lb true))) (.i (n = 42) (.y true (.s (lb true))) (.i (n = 60) (.y true (.s (lb true))) (.i (n = 62) (.y true (.s (lb true)))
 (.i (n = 61) (.y true (.s (lb true))) (.i (n = 47) (.y true (.s (lb true))) (.i (n = 43) (.y true (.s (lb true))) (.i (n = 45) (.y true (.s (lb true))) (.i (n = 46) (.y true (.s
 (lb true))) (.i (n = 95) (.s (lb true)) (.s (lb false)))))))))))))) (.y false (.i (n = 33) (.y true (.s (lb true))) (.i (n = 63) (.y true (.s (lb true))) (.i (n = 42) (.y true (.s
 (lb true))) (.i (n = 60) (.y true (.s (lb true))) (.i (n = 62) (.y true (.s (lb true))) (.i (n = 61) (.y true (.s (lb true))) (.i (n = 47) (.y true (.s (lb true))) (.i (n = 43)
 (.y true (.s (lb true))) (.i (n = 45) (.y true (.s (lb true))) (.i (n = 46) (.y true (.s (lb true))) (.i (n = 95) (.s (lb true)) (.s (lb false)))))))))))))))) (.y false (.i (48 <=
 n) (.i (n <= 57) (.s (lb true)) (.i (n = 33) (.y true (.s (lb true))) (.i (n = 63) (.y true (.s (lb true))) (.i (n = 42) (.y true (.s (lb true))) (.i (n = 60) (.y true (.s (lb
 true))) (.i (n = 62) (.y true (.s (lb true))) (.i (n = 61) (.y true (.s (lb true))) (.i (n = 47) (.y true (.s (lb true))) (.i (n = 43) (.y true (.s (lb true))) (.i (n = 45) (.y
 true (.s (lb true))) (.i (n = 46) (.y true (.s (lb true))) (.i (n = 95) (.s (lb true)) (.s (lb false)))))))))))))) (.y false (.i (n = 33) (.y true (.s (lb true))) (.i (n = 63) (.y
 true (.s (lb true))) (.i (n = 42) (.y true (.s (lb true))) (.i (n = 60) (.y true (.s (lb true))) (.i (n = 62) (.y true (.s (lb true))) (.i (n = 61) (.y true (.s (lb true))) (.i (n
 = 47) (.y true (.s (lb true))) (.i (n = 43) (.y true (.s (lb true))) (.i (n = 45) (.y true (.s (lb true))) (.i (n = 46) (.y true (.s (lb true))) (.i (n = 95) (.s (lb true)) (.s
 (lb false))))))))))))))))) (by
 dsimp only [Yd3, Z7f]
 with_reducible repeat' (first | apply And.intro | exact zR | (intro))
 all_goals ((try simp only [std, inj] at *); with_reducible and_intros)
 all_goals (try exact zG)
 all_goals (symm; simp only [Yhy, Ygz, Yl6, List.mem_cons, List.not_mem_nil, Bool.or_eq_true, Bool.or_eq_false_iff, decide_eq_true_eq, decide_eq_false_iff_not, or_false]; omega))
abbrev Z8b (x : Int) (a : Int) (b : Int) : Ct := ⟨112, [], [li x, li a, li b], [], .sv (lb (decide (a <= x /\ x <= b)))⟩
theorem Z1b (x a b : Int)  : Z8b x a b := Yde Tryz.call112 Tryz.func112 (.i (a <= x) (.s (lb (decide (x <= b)))) (.s (lb false))) (by
 dsimp only [Yd3, Z8b]
 exact zV)
abbrev Z5f (s : ByteArray) : Ct := ⟨133, [], [ls s], [], .sv (lb (Yft s))⟩
def Zj (s : ByteArray) : Lp Nat := .mk 39 0 (fun x => [(0, ls s), (3, hs x 0)]) (fun x => []) (fun k => [.s (li (k : Int))]) (fun k => k <= s.size /\ s.size <= 16 /\
 ((s.data.toList.take k).all fun b => Yhy (b.toNat : Int)) = true) (fun k => s.size - k) [.mk ((s.data.toList.all fun b => Yhy (b.toNat : Int)) = true) (.exit 0) (fun x =>
 []) (fun x => []) [], .mk ((s.data.toList.all fun b => Yhy (b.toNat : Int)) = false) .ret (fun x => [(2, hs x 0)]) (fun x => []) [.s (lb false)]]
theorem Z2q (s : ByteArray) : Lp.Sem Tryz.prog (Ydg Tryz.f133 0) (Zj s) := Ydr (fun k => .h (s.data.toList.length <= 9223372036854775807) (.i ((k : Int)
 < (s.data.toList.length : Int)) (.p (0 <= (k : Int) /\ (k : Int).toNat < s.data.toList.length) (.c [.rd] (Zcd (↑(s.data.toList.getD (k : Int).toNat (0 : UInt8)).toNat :
 Int)) (.b (!Yhy (↑(s.data.toList.getD (k : Int).toNat (0 : UInt8)).toNat : Int)) (.o 1 [] [.s (lb false)]) (.r ((k : Int) + 1) (.g [] (k + 1) [.s (li ((k : Int) + 1))])))))
 (.o 0 [] []))) (by
 intro k h; try dsimp only [Yd3, Ydb, Zj] at h ⊢
 have g1 := @Yps s.data.toList (fun b => Yhy b.toNat) k
 have g2 := @Yue s.data.toList (fun b => Yhy b.toNat) k
 have g3 := @Ys8 s.data.toList (fun b => Yhy b.toNat) k
 exact zV)
theorem Zd (s : ByteArray)  : Z5f s := Yde Tryz.call133 Tryz.func133 (.h (s.data.toList.length <= 9223372036854775807) (.c [.rd, .rd, .rd] (Z1b
 (s.data.toList.length : Int) 1 16) (.b (!decide (1 <= (s.data.toList.length : Int) /\ (s.data.toList.length : Int) <= 16)) (.y true (.y true (.s (lb false)))) (.p ((0 : Int) <= 0 /\
 0 < s.data.toList.length) (.c [.rd] (Z3t (↑(s.data.toList.getD 0 (0 : UInt8)).toNat : Int)) (.b (Ygz (↑(s.data.toList.getD 0 (0 : UInt8)).toNat : Int)) (.y true (.s (lb
 false))) (.p ((0 : Int) <= 0 /\ 0 < s.data.toList.length) (.i ((↑(s.data.toList.getD 0 (0 : UInt8)).toNat : Int) = 45) (.h (s.data.toList.length <= 9223372036854775807) (.i (1 <
 (s.data.toList.length : Int)) (.p ((0 : Int) <= 1 /\ 1 < s.data.toList.length) (.c [.rd] (Z3t (↑(s.data.toList.getD 1 (0 : UInt8)).toNat : Int)) (.b (Ygz
 (↑(s.data.toList.getD 1 (0 : UInt8)).toNat : Int)) (.s (lb false)) (.l (Zj s) (Z2q s) [] [.s (li 0)] 0 (.t (.s (lb true)) (.t (.s (lb false)) .q)))))) (.y
 false (.l (Zj s) (Z2q s) [] [.s (li 0)] 0 (.t (.s (lb true)) (.t (.s (lb false)) .q)))))) (.y false (.y false (.l (Zj s) (Z2q s) []
 [.s (li 0)] 0 (.t (.s (lb true)) (.t (.s (lb false)) .q))))))))))))) (by
 dsimp only [Yd3, Z5f, Ydb, Zj]
 with_reducible repeat' (first | apply And.intro | exact zR | (intro))
 all_goals ((try simp only [std, inj] at *); with_reducible and_intros)
 all_goals try first | exact z | grind [Yft, Yd7, Yd8, Yd4])
abbrev Z5g (s : ByteArray) : Ct := ⟨70, [], [ls s], [], .sv (lb (Yft s))⟩
def Zk (s : ByteArray) : Lp Nat := .mk 43 0 (fun x => [(0, ls s), (3, hs x 0)]) (fun x => []) (fun k => [.s (li (k : Int))]) (fun k => k <= s.size /\ s.size <= 16 /\
 ((s.data.toList.take k).all fun b => Yhy (b.toNat : Int)) = true) (fun k => s.size - k) [.mk ((s.data.toList.all fun b => Yhy (b.toNat : Int)) = true) (.exit 0) (fun x =>
 []) (fun x => []) [], .mk ((s.data.toList.all fun b => Yhy (b.toNat : Int)) = false) .ret (fun x => [(2, hs x 0)]) (fun x => []) [.s (lb false)]]
theorem Z2r (s : ByteArray) : Lp.Sem Tryz.prog (Ydg Tryz.f70 0) (Zk s) := Ydr (fun k => .h (s.data.toList.length <= 9223372036854775807) (.i ((k : Int) <
 (s.data.toList.length : Int)) (.p (0 <= (k : Int) /\ (k : Int).toNat < s.data.toList.length) (.c [.rd] (Zce (↑(s.data.toList.getD (k : Int).toNat (0 : UInt8)).toNat : Int))
 (.b (!Yhy (↑(s.data.toList.getD (k : Int).toNat (0 : UInt8)).toNat : Int)) (.o 1 [] [.s (lb false)]) (.r ((k : Int) + 1) (.g [] (k + 1) [.s (li ((k : Int) + 1))]))))) (.o 0 []
 []))) (by
 intro k h; try dsimp only [Yd3, Ydb, Zk] at h ⊢
 have g1 := @Yps s.data.toList (fun b => Yhy b.toNat) k
 have g2 := @Yue s.data.toList (fun b => Yhy b.toNat) k
 have g3 := @Ys8 s.data.toList (fun b => Yhy b.toNat) k
 exact zV)
theorem Z2v (s : ByteArray)  : Z5g s := Yde Tryz.call70 Tryz.func70 (.h (s.data.toList.length <= 9223372036854775807) (.i ((s.data.toList.length : Int) < 1) (.y
 true (.y true (.y true (.s (lb false))))) (.h (s.data.toList.length <= 9223372036854775807) (.i (16 < (s.data.toList.length : Int)) (.y true (.y true (.s (lb false)))) (.p ((0 :
 Int) <= 0 /\ 0 < s.data.toList.length) (.c [.rd] (Z8a (↑(s.data.toList.getD 0 (0 : UInt8)).toNat : Int)) (.b (Ygz (↑(s.data.toList.getD 0 (0 : UInt8)).toNat : Int)) (.y true
 (.s (lb false))) (.p ((0 : Int) <= 0 /\ 0 < s.data.toList.length) (.i ((↑(s.data.toList.getD 0 (0 : UInt8)).toNat : Int) = 45) (.h (s.data.toList.length <= 9223372036854775807) (.i
 (1 < (s.data.toList.length : Int)) (.p ((0 : Int) <= 1 /\ 1 < s.data.toList.length) (.c [.rd] (Z8a (↑(s.data.toList.getD 1 (0 : UInt8)).toNat : Int)) (.b (Ygz
 (↑(s.data.toList.getD 1 (0 : UInt8)).toNat : Int)) (.s (lb false)) (.l (Zk s) (Z2r s) [] [.s (li 0)] 0 (.t (.s (lb true)) (.t (.s (lb false)) .q)))))) (.y
 false (.l (Zk s) (Z2r s) [] [.s (li 0)] 0 (.t (.s (lb true)) (.t (.s (lb false)) .q)))))) (.y false (.y false (.l (Zk s) (Z2r s) []
 [.s (li 0)] 0 (.t (.s (lb true)) (.t (.s (lb false)) .q)))))))))))))) (by
 dsimp only [Yd3, Z5g, Ydb, Zk]
 with_reducible repeat' (first | apply And.intro | exact zR | (intro))
 all_goals ((try simp only [std, inj] at *); with_reducible and_intros)
 all_goals try first | exact z | grind [Yft, Yd7, Yd8, Yd4])
abbrev Z65 (s : ByteArray) : Ct := ⟨204, [], [ls s], [], .sv (lb (Yh1 s))⟩
def Z2a (s : ByteArray) : Lp Nat := .mk 29 0 (fun x => [(0, ls s), (3, hs x 0)]) (fun x => []) (fun k => [.s (li (k : Int))]) (fun k => k <= s.size /\ ((List.take k
 s.data.toList).all fun b => Yht (b.toNat : Int)) = true) (fun k => s.size - k) [.mk ((s.data.toList.all fun b => Yht (b.toNat : Int)) = true) (.exit 0) (fun x => [(0, ls
 s)]) (fun x => []) [], .mk ((s.data.toList.all fun b => Yht (b.toNat : Int)) = false) .ret (fun x => [(2, hs x 0)]) (fun x => []) [.s (lb false)]]
theorem Z8c (s : ByteArray) : Lp.Sem Tryz.prog (Ydg Tryz.f204 0) (Z2a s) := Ydr (fun k => .h (s.data.toList.length <= 9223372036854775807) (.i ((k : Int) <
 (s.data.toList.length : Int)) (.p (0 <= (k : Int) /\ (k : Int).toNat < s.data.toList.length) (.i ((↑(s.data.toList.getD (k : Int).toNat (0 : UInt8)).toNat : Int) < 32) (.y true
 (.y true (.o 1 [] [.s (lb false)]))) (.p (0 <= (k : Int) /\ (k : Int).toNat < s.data.toList.length) (.i (126 < (↑(s.data.toList.getD (k : Int).toNat (0 : UInt8)).toNat : Int))
 (.y true (.o 1 [] [.s (lb false)])) (.p (0 <= (k : Int) /\ (k : Int).toNat < s.data.toList.length) (.i ((↑(s.data.toList.getD (k : Int).toNat (0 : UInt8)).toNat : Int) = 34) (.o
 1 [] [.s (lb false)]) (.r ((k : Int) + 1) (.g [] (k + 1) [.s (li ((k : Int) + 1))])))))))) (.o 0 [] []))) (by
 intro k h; try dsimp only [Yd3, Ydb, Z2a] at h ⊢
 have g1 := @Yps s.data.toList (fun b => Yht b.toNat) k
 have g2 := @Yue s.data.toList (fun b => Yht b.toNat) k
 have g3 := @Ys8 s.data.toList (fun b => Yht b.toNat) k
 with_reducible repeat' (first | apply And.intro | exact zR | (intro))
 all_goals ((try simp only [std, inj] at *); with_reducible and_intros)
 all_goals try first | exact z | grind [Yht, Yd7, Yd8, Yd4])
theorem Z43 (s : ByteArray)  : Z65 s := Yde Tryz.call204 Tryz.func204 (.l (Z2a s) (Z8c s) [] [.s (li 0)] 0 (.t (.h (s.data.toList.length <=
 9223372036854775807) (.s (lb (decide ((s.data.toList.length : Int) <= 20))))) (.t (.s (lb false)) .q))) (by
 dsimp only [Yd3, Z65, Ydb, Z2a]
 with_reducible repeat' (first | apply And.intro | exact zR | (intro))
 all_goals ((try simp only [std, inj] at *); with_reducible and_intros)
 all_goals try first | exact z | grind [Yh1, Yd7, Yd8, Yd4])
abbrev Z66 (s : ByteArray) : Ct := ⟨176, [], [ls s], [], .sv (lb (Yh1 s))⟩
def Z2b (s : ByteArray) : Lp Nat := .mk 29 0 (fun x => [(0, ls s), (3, hs x 0)]) (fun x => []) (fun k => [.s (li (k : Int))]) (fun k => k <= s.size /\ ((List.take k
 s.data.toList).all fun b => Yht (b.toNat : Int)) = true) (fun k => s.size - k) [.mk ((s.data.toList.all fun b => Yht (b.toNat : Int)) = true) (.exit 0) (fun x => []) (fun x
 => []) [], .mk ((s.data.toList.all fun b => Yht (b.toNat : Int)) = false) .ret (fun x => [(2, hs x 0)]) (fun x => []) [.s (lb false)]]
theorem Z8d (s : ByteArray) : Lp.Sem Tryz.prog (Ydg Tryz.f176 0) (Z2b s) := Ydr (fun k => .h (s.data.toList.length <= 9223372036854775807) (.i ((k : Int) <
 (s.data.toList.length : Int)) (.p (0 <= (k : Int) /\ (k : Int).toNat < s.data.toList.length) (.i ((↑(s.data.toList.getD (k : Int).toNat (0 : UInt8)).toNat : Int) < 32) (.y true
 (.y true (.o 1 [] [.s (lb false)]))) (.p (0 <= (k : Int) /\ (k : Int).toNat < s.data.toList.length) (.i (126 < (↑(s.data.toList.getD (k : Int).toNat (0 : UInt8)).toNat : Int))
 (.y true (.o 1 [] [.s (lb false)])) (.p (0 <= (k : Int) /\ (k : Int).toNat < s.data.toList.length) (.i ((↑(s.data.toList.getD (k : Int).toNat (0 : UInt8)).toNat : Int) = 34) (.o
 1 [] [.s (lb false)]) (.r ((k : Int) + 1) (.g [] (k + 1) [.s (li ((k : Int) + 1))])))))))) (.o 0 [] []))) (by
 intro k h; try dsimp only [Yd3, Ydb, Z2b] at h ⊢
 have g1 := @Yps s.data.toList (fun b => Yht b.toNat) k
 have g2 := @Yue s.data.toList (fun b => Yht b.toNat) k
 have g3 := @Ys8 s.data.toList (fun b => Yht b.toNat) k
 with_reducible repeat' (first | apply And.intro | exact zR | (intro))
 all_goals ((try simp only [std, inj] at *); with_reducible and_intros)
 all_goals try first | exact z | grind [Yht, Yd7, Yd8, Yd4])
theorem Zan (s : ByteArray)  : Z66 s := Yde Tryz.call176 Tryz.func176 (.h (s.data.toList.length <= 9223372036854775807) (.i (20 < (s.data.toList.length : Int)) (.s (lb
 false)) (.l (Z2b s) (Z8d s) [] [.s (li 0)] 0 (.t (.s (lb true)) (.t (.s (lb false)) .q))))) (by
 dsimp only [Yd3, Z66, Ydb, Z2b]
 with_reducible repeat' (first | apply And.intro | exact zR | (intro))
 all_goals ((try simp only [std, inj] at *); with_reducible and_intros)
 all_goals try first | exact z | grind [Yh1, Yd7, Yd8, Yd4])
def Yjf (k n : Int) (t : ByteArray) (i : Int) : Bool := decide (k = 0 /\ n = 0 /\ t.data.toList = []) || decide (k = 1 /\ n = 0 /\ Yft t = true /\ i = 0) || decide (k = 2 /\ -999999999 <= n /\ n <= 999999999 /\ t.data.toList = [] /\ i = 0) || decide (k = 3 /\ 0 <= n /\ n <= 1 /\ t.data.toList = [] /\ i = 0) || decide (k = 4 /\ n = 0 /\ Yh1 t = true /\ i = 0)
abbrev Z7g (k : Int) (n : Int) (t : ByteArray) (i : Int) : Ct := ⟨169, [], [li k, li n, ls t, li i], [], .sv (lb (Yjf k n t i))⟩
theorem Z9q (k n : Int) (t : ByteArray) (i : Int)  : Z7g k n t i := Yde Tryz.call169 Tryz.func169 (.i (k = 0) (.i (n = 0) (.s (lb (decide (t.data.toList = [])))) (.s (lb
 false))) (.i (k = 1) (.i (n = 0) (.c [.rd] (Zd t) (.b (Yft t) (.s (lb (decide (i = 0)))) (.s (lb false)))) (.y false (.s (lb false)))) (.i (k = 2) (.c [.rd, .rd, .rd]
 (Z1b n (-999999999 : Int) 999999999) (.i ((-999999999 : Int) <= n /\ n <= 999999999) (.i (t.data.toList = []) (.s (lb (decide (i = 0)))) (.s (lb false))) (.y false (.s (lb
 false))))) (.i (k = 3) (.c [.rd, .rd, .rd] (Z1b n 0 1) (.i (0 <= n /\ n <= 1) (.i (t.data.toList = []) (.s (lb (decide (i = 0)))) (.s (lb false))) (.y false (.s (lb false))))) (.i
 (k = 4) (.i (n = 0) (.c [.rd] (Z43 t) (.b (Yh1 t) (.s (lb (decide (i = 0)))) (.s (lb false)))) (.y false (.s (lb false)))) (.s (lb false))))))) (by
 dsimp only [Yd3, Z7g]
 with_reducible repeat' (first | apply And.intro | exact zR | (intro))
 all_goals ((try simp only [std, inj] at *); with_reducible and_intros)
 all_goals try first | exact z | grind [Yjf, Yd7, Yd8, Yd4])
abbrev Z7h (k : Int) (n : Int) (t : ByteArray) (i : Int) : Ct := ⟨118, [], [li k, li n, ls t, li i], [], .sv (lb (Yjf k n t i))⟩
theorem Zcf (k n : Int) (t : ByteArray) (i : Int)  : Z7h k n t i := Yde Tryz.call118 Tryz.func118 (.i (k = 0) (.i (n = 0) (.s (lb (decide (t.data.toList = [])))) (.s (lb
 false))) (.i (k = 1) (.i (n = 0) (.i (i = 0) (.c [.rd] (Z2v t) (.s (lb (Yft t)))) (.s (lb false))) (.y false (.s (lb false)))) (.i (k = 2) (.i ((-999999999 : Int) <= n)
 (.i (n <= 999999999) (.i (t.data.toList = []) (.s (lb (decide (i = 0)))) (.s (lb false))) (.y false (.s (lb false)))) (.y false (.y false (.s (lb false))))) (.i (k = 3) (.i (n = 0)
 (.y true (.i (t.data.toList = []) (.s (lb (decide (i = 0)))) (.s (lb false)))) (.i (n = 1) (.i (t.data.toList = []) (.s (lb (decide (i = 0)))) (.s (lb false))) (.y false (.s (lb
 false))))) (.i (k = 4) (.i (n = 0) (.i (i = 0) (.c [.rd] (Zan t) (.s (lb (Yh1 t)))) (.s (lb false))) (.y false (.s (lb false)))) (.s (lb false))))))) (by
 dsimp only [Yd3, Z7h]
 with_reducible repeat' (first | apply And.intro | exact zR | (intro))
 all_goals ((try simp only [std, inj] at *); with_reducible and_intros)
 all_goals try first | exact z | grind [Yjf, Yd7, Yd8, Yd4])
mutual
def sizeD : Datum -> Nat
 | ⟨_, _, _, l⟩ => Yr6 l + 1
def Yr6 : List Datum -> Nat
 | [] => 0
 | c :: r => sizeD c + Yr6 r
end
theorem Yyq : ∀ l, Yr6 l = sumBy sizeD l
 | [] => by simp [Yr6, sumBy]
 | c :: r => by rw [Yr6, sumBy, Yyq r]
theorem Yhz (c : Datum) : sizeD c = sumBy sizeD c.items + 1 := by cases c; simp only [sizeD, Yyq]
mutual
def Yiu : Datum -> Nat
 | ⟨_, _, _, l⟩ => Yvz l + 1
def Yvz : List Datum -> Nat
 | [] => 0
 | c :: r => max (Yiu c) (Yvz r)
end
theorem Y12b : ∀ l, Yvz l = Yeb Yiu l
 | [] => by simp [Yvz, Yeb]
 | c :: r => by rw [Yvz, Yeb, Y12b r]
theorem Y14e (c : Datum) : Yiu c = Yeb Yiu c.items + 1 := by cases c; simp only [Yiu, Y12b]
theorem Y1g9 : ∀ c : Datum, Yiu c <= sizeD c := by
 refine Datum.ind fun c ih => ?_
 have := Yr0 ih
 rw [Yhz, Y14e]; omega
mutual
def okD : Datum -> Bool
 | ⟨k, n, t, l⟩ => Y12q l && Yjf k n t l.length
def Y12q : List Datum -> Bool
 | [] => true
 | c :: r => okD c && Y12q r
end
theorem Y155 : ∀ l, Y12q l = l.all okD
 | [] => by simp [Y12q]
 | c :: r => by rw [Y12q, Y155 r]; rfl
theorem Y1i7 (c : Datum) : okD c = (c.items.all okD && Yjf c.kind c.number c.text c.items.length) := by cases c; simp only [okD, Y155]
def Yjt (d : Datum) : Bool := decide (sizeD d <= 600) && decide (Yiu d <= 20) && okD d
abbrev Zw (d : Datum) (l : Int) : Ct := ⟨237, [.box [vI l]], [Yol d, .one (.ptr 0 0)], [.box [vI (max (l - sizeD d) (-1))]], .sv (lb (decide (sizeD d <= l)))⟩
def Z2c (d : Datum) (l : Int) : Lp Nat := .mk 36 1 (fun x => [(1, .one (.ptr 0 0)), (2, .one (.ptr 1 0)), (5, hs x 0)]) (fun x => [.box [ha x 1], .box (vals
 (Yf8 d))]) (fun k => [.s (li (k : Int)), .a (vI (max (l - 1 - (↑(sumBy sizeD (d.items.take k)) : Int)) (-1 : Int)))]) (fun k => d.items.length >= k) (fun k =>
 d.items.length - k) [.mk True (.exit 0) (fun x => [(1, .one (.ptr 0 0))]) (fun x => [.box [ha x 0]]) [.a (vI (max (l - (↑(sizeD d) : Int)) (-1 : Int)))]]
theorem Z8e (d : Datum) (l : Int) (h : 0 <= l /\ l <= 1000000) (ih : ∀ (z : Datum), z ∈ d.items -> ∀ (l : Int), 0 <= l /\ l <= 1000000 -> OK (Zw z l)) : Lp.Sem Tryz.prog
 (Ydg Tryz.f237 0) (Z2c d l) := Ydr (fun k => .z Ydd d.items (.i ((k : Int) < (↑(d.items.map Ydd).length : Int)) (.i (0 <= max (l - 1 - (↑(sumBy sizeD
 (d.items.take k)) : Int)) (-1 : Int)) (.x (k : Int) (d.items.map Ydd) (Yf8 (d.items.getD k default)) (.d [.rd, .ptr] (Zw (d.items.getD k default) (max (l -
 1 - (↑(sumBy sizeD (d.items.take k)) : Int)) (-1 : Int))) (.r ((k : Int) + 1) (.g [0, 1] (k + 1) [.s (li ((k : Int) + 1)), .a (vI (max (max (l - 1 - (↑(sumBy sizeD
 (d.items.take k)) : Int)) (-1 : Int) - (↑(sizeD (d.items.getD k default)) : Int)) (-1 : Int)))])))) (.o 0 [0] [.a (vI (max (l - 1 - (↑(sumBy sizeD (d.items.take k)) :
 Int)) (-1 : Int)))])) (.y false (.o 0 [0] [.a (vI (max (l - 1 - (↑(sumBy sizeD (d.items.take k)) : Int)) (-1 : Int)))])))) (by
 intro k h; try dsimp only [Yd3, Ydb, Z2c] at h ⊢
 have g1 := Yhz d
 have g2 := Yg2 sizeD d.items k
 have g3 := @Ygx _ _ sizeD d.items k
 with_reducible repeat' (first | apply And.intro | exact zR | exact ih | (intro) | apply ih)
 all_goals ((try simp only [std, inj] at *); with_reducible and_intros)
 all_goals try with_reducible first | apply ih
 all_goals try first | exact z | grind [Yd6, Yd7, Yd8, Yd4])
theorem Zao (d : Datum) (l : Int) (h : 0 <= l /\ l <= 1000000) (ih : ∀ z ∈ d.items, ∀ (l : Int) (h : 0 <= l /\ l <= 1000000), Zw z l)  : Zw d l := Yde Tryz.call237
 Tryz.func237 (.r (l - 1) (.l (Z2c d l) (Z8e d l h ih) [0, 1] [.s (li 0), .a (vI (l - 1))] 0 (.t (.f [] [.box [vI (max (l - (↑(sizeD d) : Int)) (-1 : Int))]]
 (.sv (lb (decide (0 <= max (l - (↑(sizeD d) : Int)) (-1 : Int)))))) .q))) (by
 dsimp only [Yd3, Zw, Ydb, Z2c]
 have g1 := Yhz d
 have g2 : sumBy sizeD (d.items.take 0) = 0 := rfl
 with_reducible repeat' (first | apply And.intro | exact zR | exact ih | (intro))
 all_goals ((try simp only [std, inj] at *); with_reducible and_intros)
 all_goals try with_reducible first | apply ih
 all_goals (try exact zG))
theorem Z9r (d : Datum) : ∀ (l : Int) (h : 0 <= l /\ l <= 1000000), Zw d l := Datum.ind (P := fun d => ∀ (l : Int) (h : 0 <= l /\ l <= 1000000), Zw d l) (fun d ih l h => Zao d l h ih) d
abbrev Zx (d : Datum) : Ct := ⟨238, [], [Yol d], [], .sv (li (Yiu d))⟩
def Z2d (d : Datum) : Lp Nat := .mk 20 0 (fun x => [(3, hs x 1), (7, ll (d.items.map Ydd)), (8, li (↑(d.items.map Ydd).length : Int)), (9, hs x 0)]) (fun x
 => []) (fun k => [.s (li (k : Int)), .s (li (↑(Yeb Yiu (d.items.take k)) : Int))]) (fun k => k <= d.items.length /\ d.items.length <= 9223372036854775807) (fun k =>
 d.items.length - k) [.mk True (.exit 0) (fun x => [(3, hs x 0)]) (fun x => []) [.s (li (↑(Yeb Yiu d.items) : Int))]]
theorem Z8f (d : Datum) (h : sizeD d <= 2147483647) (ih : ∀ (z : Datum), z ∈ d.items -> sizeD z <= 2147483647 -> OK (Zx z)) : Lp.Sem Tryz.prog (Ydg Tryz.f238 0)
 (Z2d d) := Ydr (fun k => .i ((k : Int) < (↑(d.items.map Ydd).length : Int)) (.x (k : Int) (d.items.map Ydd) (Yf8 (d.items.getD k default)) (.d [.rd]
 (Zx (d.items.getD k default)) (.r ((k : Int) + 1) (.g [] (k + 1) [.s (li ((k : Int) + 1)), .s (li (max (↑(Yeb Yiu (d.items.take k)) : Int) (↑(Yiu (d.items.getD k
 default)) : Int)))])))) (.o 0 [] [.s (li (↑(Yeb Yiu (d.items.take k)) : Int))])) (by
 intro k h; try dsimp only [Yd3, Ydb, Z2d] at h ⊢
 have g1 := Yhz d
 have g2 := @Yew _ sizeD d.items (d.items.getD k default)
 with_reducible repeat' (first | apply And.intro | exact zR | exact ih | (intro) | apply ih)
 all_goals ((try simp only [std, inj] at *); with_reducible and_intros)
 all_goals try with_reducible first | apply ih
 all_goals try first | exact z | grind [Yv9, Yd6, Yd7, Yd8, Yd4])
theorem Zap (d : Datum) (h : sizeD d <= 2147483647) (ih : ∀ z ∈ d.items, ∀ (h : sizeD z <= 2147483647), Zx z)  : Zx d := Yde Tryz.call238 Tryz.func238 (.z Ydd
 d.items (.l (Z2d d) (Z8f d h ih) [] [.s (li 0), .s (li 0)] 0 (.t (.r ((↑(Yeb Yiu d.items) : Int) + 1) (.s (li ((↑(Yeb Yiu d.items) : Int) + 1)))) .q))) (by
 dsimp only [Yd3, Zx, Ydb, Z2d]
 have h1 := Y1g9 d
 have g2 : Yeb Yiu (d.items.take 0) = 0 := rfl
 with_reducible repeat' (first | apply And.intro | exact zR | exact ih | (intro))
 all_goals ((try simp only [std, inj] at *); with_reducible and_intros)
 all_goals try with_reducible first | apply ih
 all_goals try first | exact z | grind [Y14e, Yd7, Yd8, Yd4])
theorem Z9s (d : Datum) : ∀ (h : sizeD d <= 2147483647), Zx d := Datum.ind (P := fun d => ∀ (h : sizeD d <= 2147483647), Zx d) (fun d ih h => Zap d h ih) d
abbrev Z23 (d : Datum) : Ct := ⟨239, [], [Yol d], [], .sv (lb (okD d))⟩
def Z2w (d : Datum) : Lp Nat := .mk 26 0 (fun x => [(1, .one (.ptr 0 0)), (6, ll (d.items.map Ydd)), (7, li (↑(d.items.map Ydd).length : Int)), (8, hs x
 0)]) (fun x => [.box (vals (Yf8 d))]) (fun k => [.s (li (k : Int))]) (fun k => k <= d.items.length /\ d.items.length <= 9223372036854775807 /\ (d.items.take k).all okD =
 true) (fun k => d.items.length - k) [.mk (d.items.all okD = true) (.exit 0) (fun x => [(1, .one (.ptr 0 0))]) (fun x => [.box (vals (Yf8 d))]) [], .mk (d.items.all okD =
 false) .ret (fun x => [(2, hs x 0)]) (fun x => []) [.s (lb false)]]
theorem Z9h (d : Datum) (ih : ∀ (z : Datum), z ∈ d.items -> OK (Z23 z)) : Lp.Sem Tryz.prog (Ydg Tryz.f239 0) (Z2w d) := Ydr (fun k => .i ((k : Int) <
 (↑(d.items.map Ydd).length : Int)) (.x (k : Int) (d.items.map Ydd) (Yf8 (d.items.getD k default)) (.d [.rd] (Z23 (d.items.getD k default)) (.b (!okD
 (d.items.getD k default)) (.o 1 [] [.s (lb false)]) (.r ((k : Int) + 1) (.g [0] (k + 1) [.s (li ((k : Int) + 1))]))))) (.o 0 [0] [])) (by
 intro k h; try dsimp only [Yd3, Ydb, Z2w] at h ⊢
 with_reducible repeat' (first | apply And.intro | exact zR | exact ih | (intro) | apply ih)
 all_goals ((try simp only [std, inj] at *); with_reducible and_intros)
 all_goals try with_reducible first | apply ih
 all_goals try first | exact z | grind [Ydn, Yd6, Yd7, Yd8, Yd4])
theorem Zbu (d : Datum) (ih : ∀ z ∈ d.items, Z23 z)  : Z23 d := Yde Tryz.call239 Tryz.func239 (.z Ydd d.items (.l (Z2w d) (Z9h d ih) [0] [.s (li
 0)] 0 (.t (.z Ydd d.items (.c [.rd, .rd, .rd, .rd] (Z9q d.kind d.number d.text (↑(d.items.map Ydd).length : Int)) (.s (lb (Yjf d.kind d.number d.text (↑(List.map
 Ydd d.items).length : Int)))))) (.t (.s (lb false)) .q)))) (by
 dsimp only [Yd3, Z23, Ydb, Z2w]
 with_reducible repeat' (first | apply And.intro | exact zR | exact ih | (intro))
 all_goals ((try simp only [std, inj] at *); with_reducible and_intros)
 all_goals try with_reducible first | apply ih
 all_goals try first | exact z | grind [Y1i7, Yd7, Yd8, Yd4])
theorem Zcp (d : Datum) : Z23 d := Datum.ind (P := fun d => Z23 d) (fun d ih => Zbu d ih) d
abbrev Z5l (d : Datum) : Ct := ⟨207, [], [Yol d], [], .sv (lb (Yjt d))⟩
theorem Za2 (d : Datum)  : Z5l d := Yde Tryz.call207 Tryz.func207 (.d [.rd, .ptr] (Zw d 600) (.i ((↑(sizeD d) : Int) <= 600) (.d [.rd] (Zx d) (.i
 ((↑(Yiu d) : Int) <= 20) (.c [.rd] (Zcp d) (.s (lb (okD d)))) (.s (lb false)))) (.y false (.s (lb false))))) (by
 dsimp only [Yd3, Z5l]
 with_reducible repeat' (first | apply And.intro | exact zR | (intro) | apply Z9r | apply Z9s)
 all_goals ((try simp only [std, inj] at *); with_reducible and_intros)
 all_goals try with_reducible first | apply Z9r | apply Z9s
 all_goals try first | exact z | grind [Yjt, Yd7, Yd8, Yd4])
theorem Y1d3 {n : Nat} (h : n < 9223372036854775808) : IntKind.wrap .i64 (n : Int) = n := by
 apply Ykh; rw [Y13y]; omega
theorem Ytv {x : Int} {m : Nat} (hm : m < 9223372036854775808) : 0 <= Yji .i64 x m /\ Yji .i64 x m <= m := by
 unfold Yji
 have h1 : (BitVec.ofInt (IntKind.bits .i64) x &&& BitVec.ofInt (IntKind.bits .i64) (m : Int)).toNat <= m := by
  rw [BitVec.toNat_and]
  refine Nat.le_trans Nat.and_le_right ?_
  rw [BitVec.toNat_ofInt]
  have e : ((m : Int) % ((2 ^ IntKind.bits .i64 : Nat) : Int)).toNat = m := by
   have : ((2 ^ IntKind.bits .i64 : Nat) : Int) = 18446744073709551616 := by decide
   rw [this]; omega
  rw [e]; exact Nat.le_refl _
 rw [Y1d3 (by omega)]
 omega
structure Cr where
 b : List UInt8
 i : Nat
 h : Int
instance : Inhabited Cr := ⟨⟨[], 0, 0⟩⟩
def crO (c : Cr) : Ob := .box [vL (c.b.map Ydi), vI (c.i : Nat), vI c.h]
def hN (b : List UInt8) : Nat -> Int
 | 0 => 3220 + (b.length : Int)
 | k + 1 => Yji .i64 (hN b k * 1103 + ((b.getD k 0).toNat : Int) + 7) 1073741823
theorem Y1l2 {b : List UInt8} (h : b.length <= 1048576) : ∀ k, 0 <= hN b k /\ hN b k <= 1073741823
 | 0 => by unfold hN; omega
 | k + 1 => by unfold hN; exact Ytv (m := 1073741823) (by decide)
def Yn1 (b : List UInt8) : Cr := ⟨b, 0, hN b (min b.length 4000)⟩
def nxH (c : Cr) : Int := wI .i64 (wI .i64 (c.h * 6364136223846793005) + 1442695040888963407)
def nwR (c : Cr) : Int := Yji .i64 (Ytp .i64 (Yll .i64 (nxH c) 33) (Yll .i64 (nxH c) 45)) 255
def Ygg {α : Type} (x : α) : α := if System.Platform.numBits = 64 then x else x
theorem Yeq {α : Type} (x : α) : Ygg x = x := by unfold Ygg; split <;> rfl
def Y16k (c : Cr) : Int := if (c.i : Int) < (c.b.length : Int) then Yji .i64 (nwR c + ((c.b.getD c.i 0).toNat : Int)) 255 else nwR c
def Y1jr (c : Cr) : Cr := ⟨c.b, if (c.i : Int) < (c.b.length : Int) then c.i + 1 else c.i, nxH c⟩
def nxX (c : Cr) : Int := Ygg (Y16k c)
def nxC (c : Cr) : Cr := Ygg (Y1jr c)
theorem Y1a1 (c : Cr) : nxX c = Y16k c := Yeq _
theorem Y12p (c : Cr) : nxC c = Y1jr c := Yeq _
theorem Y191 (c : Cr) : 0 <= nwR c /\ nwR c <= 255 := Ytv (m := 255) (by decide)
theorem Ylf (c : Cr) : 0 <= nxX c /\ nxX c <= 255 := by
 rw [Y1a1]; unfold Y16k; split
 ·exact Ytv (m := 255) (by decide)
 ·exact Y191 c
def okK (c : Cr) : Prop := c.b.length <= 1048576
theorem Yod {c : Cr} (h : okK c) : okK (nxC c) := by rw [Y12p]; exact h
theorem Yxk {b : List UInt8} (h : b.length <= 1048576) : okK (Yn1 b) := h
def Y1jm (c : Cr) : Int := nxX c * 16777216 + nxX (nxC c) * 65536 + nxX (nxC (nxC c)) * 256 + nxX (nxC (nxC (nxC c)))
def Y10e (c : Cr) (n : Int) : Int := if n <= 0 then 0 else if n <= 256 then (nxX c).tmod n else (Y1jm c).tmod n
def Y12y (c : Cr) (n : Int) : Cr := if n <= 0 then c else if n <= 256 then nxC c else nxC (nxC (nxC (nxC c)))
def beX (c : Cr) (n : Int) : Int := Ygg (Y10e c n)
def beC (c : Cr) (n : Int) : Cr := Ygg (Y12y c n)
theorem Yuo (c : Cr) (n : Int) : beX c n = Y10e c n := Yeq _
theorem Yvu (c : Cr) (n : Int) : beC c n = Y12y c n := Yeq _
theorem Ydm {c : Cr} {n : Int} (h : okK c) : okK (beC c n) := by
 rw [Yvu]; unfold Y12y; split
 ·exact h
 ·split
  ·exact Yod h
  ·exact Yod (Yod (Yod (Yod h)))
theorem Y14u {a n : Int} (ha : 0 <= a) (hn : 0 < n) : 0 <= a.tmod n /\ a.tmod n < n := ⟨Int.tmod_nonneg _ ha, Int.tmod_lt_of_pos _ hn⟩
theorem Yer (c : Cr) {n : Int} (hn : 0 < n) : 0 <= beX c n /\ beX c n < n := by
 have h1 := Ylf c; have h2 := Ylf (nxC c); have h3 := Ylf (nxC (nxC c)); have h4 := Ylf (nxC (nxC (nxC c)))
 rw [Yuo]; unfold Y10e; rw [if_neg (by omega)]; split
 ·exact Y14u h1.1 hn
 ·exact Y14u (by unfold Y1jm; omega) hn
theorem Y1c7 {c : Cr} {n : Int} (hn : n <= 0) : beX c n = 0 := by rw [Yuo]; exact if_pos hn
theorem Y1m8 {c : Cr} {n : Int} (hn : n <= 0) : beX c n = 0 /\ beC c n = c := ⟨Y1c7 hn, by rw [Yvu]; exact if_pos hn⟩
theorem Y1ly {c : Cr} {n : Int} (h0 : ¬ n <= 0) (hn : n <= 256) : beX c n = (nxX c).tmod n /\ beC c n = nxC c :=
 ⟨by rw [Yuo]; unfold Y10e; rw [if_neg h0, if_pos hn], by rw [Yvu]; unfold Y12y; rw [if_neg h0, if_pos hn]⟩
theorem Y1m6 {c : Cr} {n : Int} (h0 : ¬ n <= 0) (hn : ¬ n <= 256) : beX c n = (nxX c * 16777216 + nxX (nxC c) * 65536 + nxX (nxC (nxC c)) * 256 + nxX (nxC (nxC (nxC c)))).tmod n /\ beC c n = nxC (nxC (nxC (nxC c))) :=
 ⟨by rw [Yuo]; unfold Y10e; rw [if_neg h0, if_neg hn]; rfl, by rw [Yvu]; unfold Y12y; rw [if_neg h0, if_neg hn]⟩
set_option maxHeartbeats 4000000
abbrev Z6d (b : List UInt8) : Ct := ⟨25, [], [ll (b.map Ydi)], [crO (Yn1 b)], .sv (.one (.ptr 0 0))⟩
def Z44 (b : List UInt8) : Lp Nat := .mk 32 0 (fun x => [(0, ll (b.map Ydi)), (3, hs x 1), (4, hs x 0)]) (fun x => []) (fun k => [.s (li (k : Int)), .s (li (hN b
 k))]) (fun k => k <= b.length /\ b.length <= 9223372036854775807 /\ k <= 4000) (fun k => b.length - k) [.mk True (.exit 0) (fun x => [(0, ll (b.map Ydi)), (3, hs x 0)]) (fun x
 => []) [.s (li (hN b (min b.length 4000)))]]
theorem Zaq (b : List UInt8) (h : b.length <= 1048576) : Lp.Sem Tryz.prog (Ydg Tryz.f25 0) (Z44 b) := Ydr (fun k => .z Ydi b (.i ((k : Int) < (↑(List.map Ydi
 b).length : Int)) (.i ((k : Int) < 4000) (.r (hN b k * 1103) (.x (k : Int) (b.map Ydi) [.lit (.int .u8 (↑(b.getD k default).toNat : Int))] (.r (↑(b.getD k
 default).toNat : Int) (.r (hN b k * 1103 + (↑(b.getD k default).toNat : Int)) (.r (hN b k * 1103 + (↑(b.getD k default).toNat : Int) + 7) (.r ((k : Int) + 1) (.g [] (k + 1) [.s
 (li ((k : Int) + 1)), .s (li (Yji .i64 (hN b k * 1103 + (↑(b.getD k default).toNat : Int) + 7) 1073741823))]))))))) (.o 0 [] [.s (li (hN b k))])) (.y false (.o 0 [] [.s
 (li (hN b k))])))) (by
 intro k h; try dsimp only [Yd3, Ydb, Z44] at h ⊢
 have g1 := Y1l2 (b := b) (by assumption) k
 have g2 : hN b (k + 1) = Yji .i64 (hN b k * 1103 + ((b.getD k 0).toNat : Int) + 7) 1073741823 := rfl
 have g3 := (b.getD k 0).toNat_lt
 have g4 : b.length <= k -> k <= 4000 -> min b.length 4000 = k ∨ b.length < k := by omega
 have g5 : 4000 <= k -> k <= 4000 -> k <= b.length -> min b.length 4000 = k := by omega
 have g6 : k < b.length -> (b.map Ydi)[k]? = some [.lit (.int .u8 ((b.getD k 0).toNat : Int))] := fun e => by simp [Ydi, List.getD_eq_getElem?_getD, e]
 with_reducible repeat' (first | apply And.intro | exact zR | (intro))
 all_goals ((try simp only [std, inj] at *); with_reducible and_intros)
 all_goals try first | exact zw | grind [Yd7, Yd8, Yd4])
theorem Z8g (b : List UInt8) (h : b.length <= 1048576)  : Z6d b := Yde Tryz.call25 Tryz.func25 (.z Ydi b (.r (3220 + (↑(b.map Ydi).length : Int)) (.l (Z44 b)
 (Zaq b h) [] [.s (li 0), .s (li (3220 + (↑(b.map Ydi).length : Int)))] 0 (.t (.f [0] [.box [vL (b.map Ydi), vI 0, vI (hN b (min b.length 4000))]] (.sv
 (.one (.ptr 0 0)))) .q)))) (by
 dsimp only [Yd3, Z6d, Ydb, Z44]
 have g1 : hN b 0 = 3220 + (b.length : Int) := rfl
 have g2 : crO (Yn1 b) = .box [vL (b.map Ydi), vI 0, vI (hN b (min b.length 4000))] := rfl
 with_reducible repeat' (first | apply And.intro | exact zR | (intro))
 all_goals ((try simp only [std, inj] at *); with_reducible and_intros)
 all_goals try first | exact zw | grind [Yd7, Yd8, Yd4])
abbrev Z1c (c : Cr) : Ct := ⟨155, [crO c], [.one (.ptr 0 0)], [crO (nxC c)], .sv (li (nxX c))⟩
theorem Z9t (c : Cr) (h : okK c)  : Z1c c := Yde Tryz.call155 Tryz.func155 (.w (.draw []) (.p ((0 : Int) <= 33) (.p ((0 : Int) <= 45) (.w (.draw []) (.z Ydi c.b (.i ((↑c.i
 : Int) < (↑(c.b.map Ydi).length : Int)) (.w (.draw []) (.x (c.i : Int) (c.b.map Ydi) [.lit (.int .u8 (↑(c.b.getD c.i default).toNat : Int))] (.r
 (↑(c.b.getD c.i default).toNat : Int) (.r (Yji .i64 (Ytp .i64 (Yll .i64 (wI .i64 (wI .i64 (c.h * 6364136223846793005) + 1442695040888963407))
 33) (Yll .i64 (wI .i64 (wI .i64 (c.h * 6364136223846793005) + 1442695040888963407)) 45)) 255 + (↑(c.b.getD c.i default).toNat : Int)) (.r ((c.i : Int) + 1)
 (.f [] [.box [vL (c.b.map Ydi), vI ((c.i : Int) + 1), vI (wI .i64 (wI .i64 (c.h * 6364136223846793005) + 1442695040888963407))]] (.sv (li (Yji
 .i64 (Yji .i64 (Ytp .i64 (Yll .i64 (wI .i64 (wI .i64 (c.h * 6364136223846793005) + 1442695040888963407)) 33) (Yll .i64 (wI
 .i64 (wI .i64 (c.h * 6364136223846793005) + 1442695040888963407)) 45)) 255 + (↑(c.b.getD c.i default).toNat : Int)) 255))))))))) (.f [] [.box [vL (List.map Ydi
 c.b), vI (c.i : Int), vI (wI .i64 (wI .i64 (c.h * 6364136223846793005) + 1442695040888963407))]] (.sv (li (Yji .i64 (Ytp .i64 (Yll .i64
 (wI .i64 (wI .i64 (c.h * 6364136223846793005) + 1442695040888963407)) 33) (Yll .i64 (wI .i64 (wI .i64 (c.h * 6364136223846793005) +
 1442695040888963407)) 45)) 255)))))))))) (by
 dsimp only [Yd3, Z1c]
 have g1 := Y191 c
 have g2 : nwR c = Yji .i64 (Ytp .i64 (Yll .i64 (wI .i64 (wI .i64 (c.h * 6364136223846793005) + 1442695040888963407)) 33) (Yll .i64 (wI .i64 (wI .i64 (c.h * 6364136223846793005) + 1442695040888963407)) 45)) 255 := rfl
 have g3 := (c.b.getD c.i 0).toNat_lt
 have g4 : c.i < c.b.length -> (c.b.map Ydi)[c.i]? = some [.lit (.int .u8 ((c.b.getD c.i 0).toNat : Int))] := fun e => by simp [Ydi, List.getD_eq_getElem?_getD, e]
 have g5 : (c.i : Int) < c.b.length -> crO (nxC c) = .box [vL (c.b.map Ydi), vI ((c.i : Int) + 1), vI (wI .i64 (wI .i64 (c.h * 6364136223846793005) + 1442695040888963407))] := fun e => by rw [Y12p]; show Ob.box [_, vI ((if (c.i : Int) < (c.b.length : Int) then c.i + 1 else c.i : Nat) : Int), _] = _; rw [if_pos e]; rfl
 have g6 : ¬ (c.i : Int) < c.b.length -> crO (nxC c) = .box [vL (c.b.map Ydi), vI (c.i : Int), vI (wI .i64 (wI .i64 (c.h * 6364136223846793005) + 1442695040888963407))] := fun e => by rw [Y12p]; show Ob.box [_, vI ((if (c.i : Int) < (c.b.length : Int) then c.i + 1 else c.i : Nat) : Int), _] = _; rw [if_neg e]; rfl
 have g7 := Y1a1 c
 with_reducible repeat' (first | apply And.intro | exact zR | (intro))
 all_goals ((try simp only [std, inj] at *); with_reducible and_intros)
 all_goals try first | exact zw | grind [Y16k, Yd7, Yd8, Yd4])
abbrev Z2 (c : Cr) (n : Int) : Ct := ⟨75, [crO c], [.one (.ptr 0 0), li n], [crO (beC c n)], .sv (li (beX c n))⟩
theorem Z0 (c : Cr) (n : Int) (h : okK c)  : Z2 c n := Yde Tryz.call75 Tryz.func75 (.i (n <= 0) (.f [] [.box [vL (c.b.map Ydi), vI (c.i : Int), vI c.h]]
 (.sv (li 0))) (.i (n <= 256) (.d [.ptr] (Z1c c) (.p (n ≠ 0) (.f [] [.box [vL ((nxC c).b.map Ydi), vI (↑(nxC c).i : Int), vI (nxC c).h]] (.sv (li ((nxX c).tmod
 n)))))) (.d [.ptr] (Z1c c) (.d [.ptr] (Z1c (nxC c)) (.d [.ptr] (Z1c (nxC (nxC c))) (.d [.ptr] (Z1c (nxC (nxC (nxC c)))) (.r (nxX c * 16777216) (.r (nxX
 (nxC c) * 65536) (.r (nxX c * 16777216 + nxX (nxC c) * 65536) (.r (nxX (nxC (nxC c)) * 256) (.r (nxX c * 16777216 + nxX (nxC c) * 65536 + nxX (nxC (nxC c)) * 256) (.r (nxX c *
 16777216 + nxX (nxC c) * 65536 + nxX (nxC (nxC c)) * 256 + nxX (nxC (nxC (nxC c)))) (.p (n ≠ 0) (.f [] [.box [vL ((nxC (nxC (nxC (nxC c)))).b.map Ydi), vI (↑(nxC (nxC
 (nxC (nxC c)))).i : Int), vI (nxC (nxC (nxC (nxC c)))).h]] (.sv (li ((nxX c * 16777216 + nxX (nxC c) * 65536 + nxX (nxC (nxC c)) * 256 + nxX (nxC (nxC (nxC c)))).tmod
 n))))))))))))))))) (by
 dsimp only [Yd3, Z2]
 have g1 := Ylf c
 have g2 := Ylf (nxC c)
 have g3 := Ylf (nxC (nxC c))
 have g4 := Ylf (nxC (nxC (nxC c)))
 have g5 := @Y1m8 c n
 have g6 := @Y1ly c n
 have g7 := @Y1m6 c n
 with_reducible repeat' (first | apply And.intro | exact zR | (intro) | apply Z9t)
 all_goals ((try simp only [std, inj] at *); with_reducible and_intros)
 all_goals try with_reducible first | apply Z9t
 all_goals try first | exact zw | grind [Yod, crO, Yd7, Yd8, Yd4])
abbrev Z8 (c : Cr) (n : Int) : Ct := ⟨27, [crO c], [.one (.ptr 0 0), li n], [crO (beC c n)], .sv (lb (decide (beX c n = 0)))⟩
theorem Z3 (c : Cr) (n : Int) (h : okK c)  : Z8 c n := Yde Tryz.call27 Tryz.func27 (.d [.ptr, .rd] (Z2 c n) (.f [] [.box [vL ((beC c n).b.map Ydi), vI
 (↑(beC c n).i : Int), vI (beC c n).h]] (.sv (lb (decide (beX c n = 0)))))) (by
 dsimp only [Yd3, Z8]
 with_reducible repeat' (first | apply And.intro | exact zR | (intro) | apply Z0)
 all_goals ((try simp only [std, inj] at *); with_reducible and_intros)
 all_goals try with_reducible first | apply Z0
 all_goals try first | exact zw | grind [crO, Yd7, Yd8, Yd4])
abbrev Z5 (c : Cr) (L : List ByteArray) : Ct := ⟨29, [crO c, .arr true 1 (L.map Yf5)], [.one (.ptr 0 0), .one (.ref 1)], [crO (beC c (L.length : Int)), .dead], .sv (ls (L.getD (beX c (L.length : Int)).toNat default))⟩
theorem Za (c : Cr) (L : List ByteArray) (h : okK c /\ 0 < L.length /\ L.length <= 1000)  : Z5 c L := Yde Tryz.call29 Tryz.func29 (.z Yf5 L (.d [.ptr, .rd] (Z2 c
 (↑(L.map Yf5).length : Int)) (.p (0 <= beX c (↑(L.map Yf5).length : Int) /\ (beX c (↑(L.map Yf5).length : Int)).toNat < (L.map Yf5).length) (.w (.cells (Yf5
 (L.getD (beX c (↑(L.map Yf5).length : Int)).toNat default))) (.p ((L.map Yf5)[(beX c (↑(L.map Yf5).length : Int)).toNat]? = some [cS (L.getD (beX c (↑(List.map
 Yf5 L).length : Int)).toNat default)]) (.w (.ghost (.move 1)) (.f [] [.box [vL ((beC c (↑(L.map Yf5).length : Int)).b.map Ydi), vI (↑(beC c (↑(List.map Yf5
 L).length : Int)).i : Int), vI (beC c (↑(L.map Yf5).length : Int)).h], .dead] (.sv (ls (L.getD (beX c (↑(L.map Yf5).length : Int)).toNat default)))))))))) (by
 dsimp only [Yd3, Z5]
 have g1 := Yer c (n := (L.length : Int)) (by omega)
 have g2 : (L.map Yf5)[(beX c (L.length : Int)).toNat]? = some [cS (L.getD (beX c (L.length : Int)).toNat default)] := Yq3 (by omega) rfl
 with_reducible repeat' (first | apply And.intro | exact zR | (intro) | apply Z0)
 all_goals ((try simp only [std, inj] at *); with_reducible and_intros)
 all_goals try with_reducible first | apply Z0
 all_goals try first | exact zw | grind [crO, Yd7, Yd8, Yd4])
abbrev Zl (c : Cr) (L : List Int) : Ct := ⟨157, [crO c, .arr true 1 (L.map Yd2)], [.one (.ptr 0 0), .one (.ref 1)], [crO (beC c (L.length : Int)), .dead], .sv (li (L.getD (beX c (L.length : Int)).toNat default))⟩
theorem Zm (c : Cr) (L : List Int) (h : okK c /\ 0 < L.length /\ L.length <= 1000)  : Zl c L := Yde Tryz.call157 Tryz.func157 (.z Yd2 L (.d [.ptr, .rd] (Z2 c
 (↑(L.map Yd2).length : Int)) (.p (0 <= beX c (↑(L.map Yd2).length : Int) /\ (beX c (↑(L.map Yd2).length : Int)).toNat < (L.map Yd2).length) (.w (.cells (Yd2
 (L.getD (beX c (↑(L.map Yd2).length : Int)).toNat default))) (.p ((L.map Yd2)[(beX c (↑(L.map Yd2).length : Int)).toNat]? = some [cI (L.getD (beX c (↑(List.map
 Yd2 L).length : Int)).toNat 0)]) (.w (.ghost (.move 1)) (.f [] [.box [vL ((beC c (↑(L.map Yd2).length : Int)).b.map Ydi), vI (↑(beC c (↑(L.map Yd2).length :
 Int)).i : Int), vI (beC c (↑(L.map Yd2).length : Int)).h], .dead] (.sv (li (L.getD (beX c (↑(L.map Yd2).length : Int)).toNat 0)))))))))) (by
 dsimp only [Yd3, Zl]
 have g1 := Yer c (n := (L.length : Int)) (by omega)
 have g2 : (L.map Yd2)[(beX c (L.length : Int)).toNat]? = some [cI (L.getD (beX c (L.length : Int)).toNat default)] := Yq3 (by omega) rfl
 with_reducible repeat' (first | apply And.intro | exact zR | (intro) | apply Z0)
 all_goals ((try simp only [std, inj] at *); with_reducible and_intros)
 all_goals try with_reducible first | apply Z0
 all_goals try first | exact zw | grind [crO, Yd7, Yd8, Yd4])
set_option maxHeartbeats 4000000
instance memDec (s : ByteArray) (L : List ByteArray) : Decidable (s ∈ L) := @List.instDecidableMemOfLawfulBEq ByteArray instBEqOfDecidableEq _ s L
def Ye0 (s : ByteArray) : Datum := ⟨1, 0, s, []⟩
def Yej (L : List Datum) : Datum := ⟨0, 0, mkS [], L⟩
theorem Y1bq {s : ByteArray} : Yft s = true -> (s.size : Int) <= 16 := by
 unfold Yft; simp only [Bool.and_eq_true, decide_eq_true_eq]; intro h; exact h.1.1.1.2
def Ylk {α σ : Type} (f : σ -> α × σ) : Nat -> σ -> List α × σ
 | 0, m => ([], m)
 | n + 1, m => ((Ylk f n m).1 ++ [(f (Ylk f n m).2).1], (f (Ylk f n m).2).2)
theorem Y10l {α σ : Type} (f : σ -> α × σ) (n : Nat) (m : σ) : (Ylk f n m).1.length = n := by
 induction n with
 | zero => rfl
 | succ n ih => simp [Ylk, ih]
theorem Ytu {α σ : Type} {f : σ -> α × σ} {I : σ -> Prop} {P : α -> Prop} (h : ∀ m, I m -> P (f m).1 /\ I (f m).2) : ∀ (n : Nat) (m : σ), I m -> (∀ x ∈ (Ylk f n m).1, P x) /\ I (Ylk f n m).2
 | 0, m, hm => ⟨by simp [Ylk], hm⟩
 | n + 1, m, hm => by
  have h1 := Ytu h n m hm
  have h2 := h _ h1.2
  refine ⟨fun x hx => ?_, h2.2⟩
  rcases List.mem_append.1 hx with hx | hx
  ·exact h1.1 x hx
  ·rw [List.mem_singleton.1 hx]; exact h2.1
theorem Y19m {α : Type} (w : α -> Nat) (m : Nat) : ∀ L : List α, (∀ x ∈ L, w x <= m) -> sumBy w L <= L.length * m
 | [], _ => by simp [sumBy]
 | x :: r, h => by
  have h1 := Y19m w m r fun y hy => h y (List.mem_cons_of_mem _ hy)
  have h2 := h x List.mem_cons_self
  simp only [sumBy, List.length_cons, Nat.add_mul, Nat.one_mul]; omega
def Yq5 : Datum := ⟨0, 0, mkS [], []⟩
def Y16l : List ByteArray := [mkS [120], mkS [121], mkS [116, 109, 112], mkS [116], mkS [108, 111, 111, 112], mkS [101, 108, 115, 101], mkS [108, 105, 115, 116], mkS [102], mkS [46, 46, 46], mkS [95], mkS [97, 45, 98], mkS [103, 111, 33]]
def Y187 : List Int := [0, 1, 7, -1, 42, 999999999, -999999999]
def Y16s : List ByteArray := [mkS [], mkS [97], mkS [105, 116, 32, 105, 115], mkS [40, 59, 39], mkS [49, 50, 51, 52, 53, 54, 55, 56, 57, 48, 49, 50, 51, 52, 53, 54, 55, 56, 57, 48]]
def Yju (s : ByteArray) : Datum := if Yft s = true then Ye0 s else Yq5
def Yjv (s : ByteArray) : Datum := if Yh1 s = true then ⟨4, 0, s, []⟩ else Yq5
def Yk2 (n : Int) : Datum := if -999999999 <= n /\ n <= 999999999 then ⟨2, n, mkS [], []⟩ else Yq5
def Ymj (b : Bool) : Datum := ⟨3, if b then 1 else 0, mkS [], []⟩
def kdD (d : Nat) (c : Cr) : Int := if d <= 1 /\ 5 < beX c 9 then beX c 9 - 5 else beX c 9
def Yj1 (k : Int) (c : Cr) : Datum × Cr :=
 if k = 0 ∨ k = 1 then (Yju (Y16l.getD (beX c 12).toNat default), beC c 12) else if k = 2 ∨ k = 3 then (Yk2 (Y187.getD (beX c 7).toNat default), beC c 7)
 else if k = 4 then (Ymj (decide (beX c 2 = 0)), beC c 2) else (Yjv (Y16s.getD (beX c 5).toNat default), beC c 5)
def Yid : Nat -> Cr -> Datum × Cr
 | 0, c => if kdD 0 c <= 5 then Yj1 (kdD 0 c) (beC c 9) else (Yq5, beC c 9)
 | d + 1, c => if kdD (d + 1) c <= 5 then Yj1 (kdD (d + 1) c) (beC c 9) else
   (Yej (Ylk (Yid d) (beX (beC c 9) 5).toNat (beC (beC c 9) 5)).1, (Ylk (Yid d) (beX (beC c 9) 5).toNat (beC (beC c 9) 5)).2)
theorem Y132 {k : Int} {c : Cr} (h : okK c) : okK (Yj1 k c).2 /\ wD (Yj1 k c).1 <= 30 := by
 have hs : ∀ s, wD (Yju s) <= 30 := fun s => by
  unfold Yju; split
  ·rename_i h; have := Y1bq h; rw [Yhs]; simp only [Ye0, sumBy, List.length_nil]; omega
  ·decide
 have ht : ∀ s, wD (Yjv s) <= 30 := fun s => by
  unfold Yjv; split
  ·rename_i h; simp only [Yh1, Bool.and_eq_true, decide_eq_true_eq] at h; rw [Yhs]; simp only [sumBy, List.length_nil]; omega
  ·decide
 have hn : ∀ n, wD (Yk2 n) <= 30 := fun n => by unfold Yk2; split <;> (rw [Yhs]; show (0 : Nat) + (0 + 0) <= 30; omega)
 have hb : ∀ b, wD (Ymj b) <= 30 := fun b => by rw [Yhs]; show (0 : Nat) + (0 + 0) <= 30; omega
 unfold Yj1
 split
 ·exact ⟨Ydm h, hs _⟩
 ·split
  ·exact ⟨Ydm h, hn _⟩
  ·split
   ·exact ⟨Ydm h, hb _⟩
   ·exact ⟨Ydm h, ht _⟩
theorem Ymc : ∀ (d : Nat) (c : Cr), okK c -> wD (Yid d c).1 <= 40 * 5 ^ d /\ okK (Yid d c).2
 | 0, c, h => by
  unfold Yid; split
  ·have := Y132 (k := kdD 0 c) (Ydm (n := 9) h); exact ⟨by simp; omega, this.1⟩
  ·exact ⟨by show wD Yq5 <= 40; decide, Ydm h⟩
 | d + 1, c, h => by
  unfold Yid; split
  ·have := Y132 (k := kdD (d + 1) c) (Ydm (n := 9) h)
   have h5 : 1 <= 5 ^ (d + 1) := Nat.one_le_pow _ _ (by decide)
   exact ⟨by omega, this.1⟩
  ·have h1 := Ytu (f := Yid d) (I := okK) (P := fun x => wD x <= 40 * 5 ^ d) (fun m hm => Ymc d m hm) (beX (beC c 9) 5).toNat (beC (beC c 9) 5) (Ydm (Ydm h))
   refine ⟨?_, h1.2⟩
   have h2 := Y10l (Yid d) (beX (beC c 9) 5).toNat (beC (beC c 9) 5)
   have h3 := Yer (beC c 9) (n := 5) (by decide)
   have h4 := Y19m wD (40 * 5 ^ d) _ h1.1
   have h5 : 1 <= 5 ^ d := Nat.one_le_pow _ _ (by decide)
   rw [Yhs]
   simp only [Yej, h2] at *
   have h6 : (beX (beC c 9) 5).toNat <= 4 := by omega
   have h7 : (beX (beC c 9) 5).toNat * (40 * 5 ^ d) <= 4 * (40 * 5 ^ d) := Nat.mul_le_mul_right _ h6
   have h8 : (5 : Nat) ^ (d + 1) = 5 * 5 ^ d := by rw [Nat.pow_succ, Nat.mul_comm]
   show 0 + _ <= _
   omega
def Yd9 (d : Int) (c : Cr) : Datum × Cr := Ygg (Yid d.toNat c)
theorem Yjl (d : Int) (c : Cr) : Yd9 d c = Yid d.toNat c := Yeq _
def Yf4 (d : Int) (k : Nat) (c : Cr) : List Datum × Cr := Ygg (Ylk (Yd9 d) k c)
theorem Yko (d : Int) (k : Nat) (c : Cr) : Yf4 d k c = Ylk (Yd9 d) k c := Yeq _
theorem Y16f (d : Int) (c : Cr) : Yf4 d 0 c = ([], c) := by rw [Yko]; rfl
theorem Y16g (d : Int) (k : Nat) (c : Cr) : Yf4 d (k + 1) c = ((Yf4 d k c).1 ++ [(Yd9 d (Yf4 d k c).2).1], (Yd9 d (Yf4 d k c).2).2) := by rw [Yko, Yko]; rfl
theorem Y1b9 (d : Int) (k : Nat) (c : Cr) : (Yf4 d k c).1.length = k := by rw [Yko, Y10l]
theorem Yx5 {d : Int} {c : Cr} (h : okK c) : okK (Yd9 d c).2 := by rw [Yjl]; exact (Ymc _ c h).2
theorem Y1du {d : Int} {k : Nat} {c : Cr} (h : okK c) : okK (Yf4 d k c).2 := by
 rw [Yko]; exact (Ytu (f := Yd9 d) (I := okK) (P := fun _ => True) (fun m hm => ⟨trivial, Yx5 hm⟩) k c h).2
def kdH (d : Int) (c : Cr) : Int := if d <= 1 /\ 5 < beX c 9 then beX c 9 - 5 else beX c 9
theorem Y10f {d : Int} (h : 0 <= d) (c : Cr) : kdD d.toNat c = kdH d c := by
 unfold kdD kdH
 by_cases e : d <= 1
 ·have e1 : d.toNat <= 1 := by omega
  simp only [e, e1, true_and]
 ·have e1 : ¬ d.toNat <= 1 := by omega
  simp only [e, e1, false_and, if_false]
theorem Ynf {d : Int} {c : Cr} (h : 0 <= d) (hk : kdH d c <= 5) : Yd9 d c = Yj1 (kdH d c) (beC c 9) := by
 rw [Yjl, <- Y10f h]; rw [<- Y10f h] at hk
 cases e : d.toNat with
 | zero => rw [e] at hk; unfold Yid; rw [if_pos hk]
 | succ n => rw [e] at hk; unfold Yid; rw [if_pos hk]
theorem Y1ad {d : Int} {c : Cr} (h : 0 <= d) (hk : ¬ kdH d c <= 5) : 1 < d /\ Yd9 d c = (Yej (Yf4 (d - 1) (beX (beC c 9) 5).toNat (beC (beC c 9) 5)).1, (Yf4 (d - 1) (beX (beC c 9) 5).toNat (beC (beC c 9) 5)).2) := by
 have h9 := Yer c (n := 9) (by decide)
 have h1 : 1 < d := by unfold kdH at hk; split at hk <;> omega
 refine ⟨h1, ?_⟩
 have hf : Yd9 (d - 1) = Yid (d - 1).toNat := funext fun c => Yjl _ _
 rw [Yjl, Yko, hf]
 rw [<- Y10f h] at hk
 have e : d.toNat = (d - 1).toNat + 1 := by omega
 rw [e] at hk ⊢
 rw [Yid, if_neg hk]
theorem Y1ii {k : Int} {c : Cr} (h : k = 0 ∨ k = 1) : Yj1 k c = (Yju (Y16l.getD (beX c 12).toNat default), beC c 12) := if_pos h
theorem Y1j0 {k : Int} {c : Cr} (h : k = 2 ∨ k = 3) : Yj1 k c = (Yk2 (Y187.getD (beX c 7).toNat default), beC c 7) := by unfold Yj1; rw [if_neg (by omega), if_pos h]
theorem Y1hf {k : Int} {c : Cr} (h : k = 4) : Yj1 k c = (Ymj (decide (beX c 2 = 0)), beC c 2) := by unfold Yj1; rw [if_neg (by omega), if_neg (by omega), if_pos h]
theorem Y1hq {k : Int} {c : Cr} (h : k = 5) : Yj1 k c = (Yjv (Y16s.getD (beX c 5).toNat default), beC c 5) := by unfold Yj1; rw [if_neg (by omega), if_neg (by omega), if_neg (by omega)]
theorem Yzl (s : ByteArray) : (Yju s).items = [] := by unfold Yju; split <;> rfl
theorem Yzo (s : ByteArray) : (Yjv s).items = [] := by unfold Yjv; split <;> rfl
theorem Yzs (n : Int) : (Yk2 n).items = [] := by unfold Yk2; split <;> rfl
theorem Y1lv {d : Int} {c : Cr} (h : 0 <= d) (hk : kdH d c = 0 ∨ kdH d c = 1) : Yd9 d c = (Yju (Y16l.getD (beX (beC c 9) 12).toNat default), beC (beC c 9) 12) := by rw [Ynf h (by omega), Y1ii hk]
theorem Y1ln {d : Int} {c : Cr} (h : 0 <= d) (hk : kdH d c = 2 ∨ kdH d c = 3) : Yd9 d c = (Yk2 (Y187.getD (beX (beC c 9) 7).toNat default), beC (beC c 9) 7) := by rw [Ynf h (by omega), Y1j0 hk]
theorem Y1lu {d : Int} {c : Cr} (h : 0 <= d) (hk : kdH d c = 4) : Yd9 d c = (Ymj (decide (beX (beC c 9) 2 = 0)), beC (beC c 9) 2) := by rw [Ynf h (by omega), Y1hf hk]
theorem Y1kw {d : Int} {c : Cr} (h : 0 <= d) (hk : kdH d c = 5) : Yd9 d c = (Yjv (Y16s.getD (beX (beC c 9) 5).toNat default), beC (beC c 9) 5) := by rw [Ynf h (by omega), Y1hq hk]
theorem Lv.ind {P : Int -> Prop} (h : ∀ d, (∀ e, 0 <= e /\ e < d -> P e) -> P d) : ∀ d, P d := by
 have key : ∀ (n : Nat) (d : Int), d.toNat <= n -> P d := by
  intro n
  induction n with
  | zero => intro d hd; exact h d fun e he => absurd he.2 (by omega)
  | succ n ih => intro d hd; exact h d fun e he => ih e (by omega)
 exact fun d => key d.toNat d (Nat.le_refl _)
def Yw5 : List ByteArray := [mkS [], mkS [57], mkS [45, 53], mkS [45], mkS [120, 32, 121], mkS [97, 98, 99, 100, 101, 102, 103, 104, 105, 106, 107, 108, 109, 110, 111, 112, 113], mkS [49, 50, 51, 52, 53, 54, 55, 56, 57, 48, 49, 50, 51, 52, 53, 54, 55, 56, 57, 48, 49]]
def Y1bs : List Int := [1, 2, 1000000000, -1000000000]
def Yth : Nat -> Datum -> Datum
 | 0, d => d
 | n + 1, d => Yej [Yth n d]
theorem Y1i8 (n : Nat) (d : Datum) : wD (Yth n d) = n + wD d := by
 induction n with
 | zero => simp [Yth]
 | succ n ih => rw [Yth, Yhs]; simp only [Yej, sumBy, ih, List.length_cons, List.length_nil]; show 0 + _ = _; omega
def Yo0 (c : Cr) : Datum × Cr :=
 let d := (Yd9 4 c).1; let c1 := (Yd9 4 c).2; let k := beX c1 12; let c2 := beC c1 12
 if k = 0 then (⟨d.kind, Y1bs.getD (beX c2 4).toNat default, d.text, d.items⟩, beC c2 4)
 else if k = 1 then (⟨d.kind, d.number, Yw5.getD (beX c2 7).toNat default, d.items⟩, beC c2 7)
 else if k = 2 then (⟨beX c2 7 - 1, d.number, d.text, d.items⟩, beC c2 7)
 else if k = 3 then (⟨d.kind, d.number, d.text, d.items ++ [⟨9, 0, mkS [], []⟩]⟩, c2)
 else if k = 4 then (Yth 21 d, c2)
 else (d, c2)
theorem Y1ga : ∀ n : Nat, (Yw5.getD n default).size <= 30 := by
 intro n
 rcases Nat.lt_or_ge n 7 with h | h
 ·have : ∀ n, n < 7 -> (Yw5.getD n default).size <= 30 := by decide
  exact this n h
 ·rw [List.getD_eq_getElem?_getD, List.getElem?_eq_none (by exact h)]; decide
theorem Y1gc {c : Cr} (h : okK c) : wD (Yo0 c).1 <= 30000 /\ okK (Yo0 c).2 := by
 have hq : Yd9 4 c = Yid 4 c := Yjl 4 c
 have h1 := Ymc 4 c h
 rw [<- hq] at h1
 have h2 := Yhs (Yd9 4 c).1
 have e : (40 * 5 ^ 4 : Nat) = 25000 := by decide
 rw [e] at h1
 have h3 := Y1ga
 unfold Yo0
 simp only
 repeat' split
 all_goals refine ⟨?_, by first | exact Ydm (Ydm h1.2) | exact Ydm h1.2⟩
 ·rw [Yhs]; show (Yd9 4 c).1.text.size + ((Yd9 4 c).1.items.length + sumBy wD (Yd9 4 c).1.items) <= _; omega
 ·rw [Yhs]; have := h3 (beX (beC (Yd9 4 c).2 12) 7).toNat; show (Yw5.getD _ default).size + ((Yd9 4 c).1.items.length + sumBy wD (Yd9 4 c).1.items) <= _; omega
 ·rw [Yhs]; show (Yd9 4 c).1.text.size + ((Yd9 4 c).1.items.length + sumBy wD (Yd9 4 c).1.items) <= _; omega
 ·rw [Yhs]; simp only [List.length_append, List.length_cons, List.length_nil, Yes, sumBy]; have : wD ⟨9, 0, mkS [], []⟩ = 0 := by decide
  omega
 ·rw [Y1i8]; omega
 ·show wD (Yd9 4 c).1 <= 30000; omega
def Ygc (c : Cr) : Datum × Cr := Ygg (Yo0 c)
theorem Yki (c : Cr) : Ygc c = Yo0 c := Yeq _
theorem Y14n {c : Cr} (h : okK c) : wD (Ygc c).1 <= 30000 /\ okK (Ygc c).2 := by rw [Yki]; exact Y1gc h
def Yfw (n : Nat) (d : Datum) : Datum := Ygg (Yth n d)
theorem Ypr (n : Nat) (d : Datum) : Yfw n d = Yth n d := Yeq _
theorem Y185 (d : Datum) : Yfw 0 d = d := by rw [Ypr]; rfl
theorem Y16b (n : Nat) (d : Datum) : Yfw (n + 1) d = Yej [Yfw n d] := by rw [Ypr, Ypr]; rfl
section
variable {c : Cr}
theorem Y1lp (k : beX (Yd9 4 c).2 12 = 0) : Ygc c = (⟨(Yd9 4 c).1.kind, Y1bs.getD (beX (beC (Yd9 4 c).2 12) 4).toNat default, (Yd9 4 c).1.text, (Yd9 4 c).1.items⟩, beC (beC (Yd9 4 c).2 12) 4) := by
 rw [Yki]; exact if_pos k
theorem Y1lo (k : beX (Yd9 4 c).2 12 = 1) : Ygc c = (⟨(Yd9 4 c).1.kind, (Yd9 4 c).1.number, Yw5.getD (beX (beC (Yd9 4 c).2 12) 7).toNat default, (Yd9 4 c).1.items⟩, beC (beC (Yd9 4 c).2 12) 7) := by
 rw [Yki]; unfold Yo0; simp only; rw [if_neg (by omega), if_pos k]
theorem Y1k5 (k : beX (Yd9 4 c).2 12 = 2) : Ygc c = (⟨beX (beC (Yd9 4 c).2 12) 7 - 1, (Yd9 4 c).1.number, (Yd9 4 c).1.text, (Yd9 4 c).1.items⟩, beC (beC (Yd9 4 c).2 12) 7) := by
 rw [Yki]; unfold Yo0; simp only; rw [if_neg (by omega), if_neg (by omega), if_pos k]
theorem Y1kk (k : beX (Yd9 4 c).2 12 = 3) : Ygc c = (⟨(Yd9 4 c).1.kind, (Yd9 4 c).1.number, (Yd9 4 c).1.text, (Yd9 4 c).1.items ++ [⟨9, 0, mkS [], []⟩]⟩, beC (Yd9 4 c).2 12) := by
 rw [Yki]; unfold Yo0; simp only; rw [if_neg (by omega), if_neg (by omega), if_neg (by omega), if_pos k]
theorem Y1k4 (k : beX (Yd9 4 c).2 12 = 4) : Ygc c = (Yfw 21 (Yd9 4 c).1, beC (Yd9 4 c).2 12) := by
 rw [Yki, Ypr]; unfold Yo0; simp only; rw [if_neg (by omega), if_neg (by omega), if_neg (by omega), if_neg (by omega), if_pos k]
theorem Y1k1 (k : 4 < beX (Yd9 4 c).2 12) : Ygc c = ((Yd9 4 c).1, beC (Yd9 4 c).2 12) := by
 rw [Yki]; unfold Yo0; simp only; rw [if_neg (by omega), if_neg (by omega), if_neg (by omega), if_neg (by omega), if_neg (by omega)]
end
end Go.Proofs.YtclpofblehlojaaGreat
end
section
namespace Go.Proofs.YtclpofblehlojaaGreat
open Go Ab
set_option maxHeartbeats 4000000
abbrev Z8h (s : ByteArray) : Ct := ⟨203, [], [ls s], [], .sv (.agg [vI (Yju s).kind, vI (Yju s).number, vS (Yju s).text, .val (.lit (.slice none 0 0))])⟩
theorem Zcq (s : ByteArray)  : Z8h s := Yde Tryz.call203 Tryz.func203 (.c [.rd] (Zd s) (.b (!Yft s) (.s (.agg [vI 0, vI 0, vS (ByteArray.mk #[]), .val
 (.lit (.slice none 0 0))])) (.s (.agg [vI 1, vI 0, vS s, .val (.lit (.slice none 0 0))])))) (by
 dsimp only [Yd3, Z8h]
 with_reducible repeat' (first | apply And.intro | exact zR | (intro))
 all_goals ((try simp only [std, inj] at *); with_reducible and_intros)
 all_goals try first | exact z | grind [Yju, Ye0, Yq5, Yd7, Yd8, Yd4])
abbrev Z8i (s : ByteArray) : Ct := ⟨205, [], [ls s], [], .sv (.agg [vI (Yjv s).kind, vI (Yjv s).number, vS (Yjv s).text, .val (.lit (.slice none 0 0))])⟩
theorem Z8j (s : ByteArray)  : Z8i s := Yde Tryz.call205 Tryz.func205 (.c [.rd] (Z43 s) (.b (!Yh1 s) (.s (.agg [vI 0, vI 0, vS (ByteArray.mk #[]), .val (.lit
 (.slice none 0 0))])) (.s (.agg [vI 4, vI 0, vS s, .val (.lit (.slice none 0 0))])))) (by
 dsimp only [Yd3, Z8i]
 with_reducible repeat' (first | apply And.intro | exact zR | (intro))
 all_goals ((try simp only [std, inj] at *); with_reducible and_intros)
 all_goals try first | exact z | grind [Yjv, Yq5, Yd7, Yd8, Yd4])
abbrev Z8k (n : Int) : Ct := ⟨209, [], [li n], [], .sv (.agg [vI (Yk2 n).kind, vI (Yk2 n).number, vS (Yk2 n).text, .val (.lit (.slice none 0 0))])⟩
theorem Z4t (n : Int)  : Z8k n := Yde Tryz.call209 Tryz.func209 (.c [.rd, .rd, .rd] (Z1b n (-999999999 : Int) 999999999) (.b (!decide ((-999999999 : Int) <= n /\ n <=
 999999999)) (.s (.agg [vI 0, vI 0, vS (ByteArray.mk #[]), .val (.lit (.slice none 0 0))])) (.s (.agg [vI 2, vI n, vS (ByteArray.mk #[]), .val (.lit
 (.slice none 0 0))])))) (by
 dsimp only [Yd3, Z8k]
 with_reducible repeat' (first | apply And.intro | exact zR | (intro))
 all_goals ((try simp only [std, inj] at *); with_reducible and_intros)
 all_goals try first | exact z | grind [Yk2, Yq5, Yd7, Yd8, Yd4])
abbrev Z8l (b : Bool) : Ct := ⟨210, [], [lb b], [], .sv (.agg [vI (Ymj b).kind, vI (Ymj b).number, vS (Ymj b).text, .val (.lit (.slice none 0 0))])⟩
theorem Z8m (b : Bool)  : Z8l b := Yde Tryz.call210 Tryz.func210 (.b b (.s (.agg [vI 3, vI 1, vS (ByteArray.mk #[]), .val (.lit (.slice none 0 0))])) (.s
 (.agg [vI 3, vI 0, vS (ByteArray.mk #[]), .val (.lit (.slice none 0 0))]))) (by
 dsimp only [Yd3, Z8l]
 with_reducible repeat' (first | apply And.intro | exact zR | (intro))
 all_goals ((try simp only [std, inj] at *); with_reducible and_intros)
 all_goals try first | exact z | grind [Ymj, Yd7, Yd8, Yd4])
abbrev Z11 (d : Int) (c : Cr) : Ct := ⟨162, [crO c], [.one (.ptr 0 0), li d], [crO (Yd9 d c).2, .arr true 4 ((Yd9 d c).1.items.map Ydd)], .sv (Yro (Yd9 d c).1 1)⟩
def Z15 (d : Int) (c : Cr) : Lp (Int) := .mk 61 1 (fun x => [(0, .one (.ptr 0 0)), (1, li d), (4, .one (.ptr 1 0)), (6, .one (.ptr 2 0)), (7, hs x 0)]) (fun x
 => [ho x 1, .box [vI 0, vI 0, vS (ByteArray.mk #[]), .val (.lit (.slice none 0 0))], .box [vI 0, vI 0, vS (ByteArray.mk #[]), .ref 3], ho x 2]) (fun k => [.s (li
 k), .o (crO (Yf4 (d - 1) (beX (beC c 9) 5 - k).toNat (beC (beC c 9) 5)).snd), .o (.arr true 4 ((Yf4 (d - 1) (beX (beC c 9) 5 - k).toNat (beC (beC c 9)
 5)).fst.map Ydd))]) (fun k => 0 <= k /\ k <= beX (beC c 9) 5 /\ beX (beC c 9) (5 : Int) <= 4 /\ 1 < d /\ d <= 10) (fun k => k.toNat) [.mk True (.exit 1) (fun x => [(4, .one (.ptr 1 0)), (6,
 .one (.ptr 2 0))]) (fun x => [ho x 0, .box [vI 0, vI 0, vS (ByteArray.mk #[]), .val (.lit (.slice none 0 0))], .box [vI 0, vI 0, vS (ByteArray.mk #[]), .ref
 3], ho x 1]) [.o (crO (Yf4 (d - 1) (beX (beC c 9) 5).toNat (beC (beC c 9) 5)).snd), .o (.arr true 4 ((Yf4 (d - 1) (beX (beC c 9) 5).toNat (beC (beC c 9)
 5)).fst.map Ydd))]]
theorem Z4o (d : Int) (c : Cr) (h : okK c /\ 0 <= d /\ d <= 10) (ih : ∀ (e : Int), 0 <= e /\ e < d -> ∀ (c : Cr), okK c /\ 0 <= e /\ e <= 10 -> OK (Z11 e c)) : Lp.Sem Tryz.prog
 (Ydg Tryz.f162 0) (Z15 d c) := Ydr (fun k => .i (0 < k) (.w (.draw [(5, [0]), (6, [7]), (7, [3, 14]), (9, [2])]) (.r (d - 1) (.d [.ptr, .rd] (Z11 (d - 1) (Yf4
 (d - 1) (beX (beC c 9) 5 - k).toNat (beC (beC c 9) 5)).snd) (.p ((((Yf4 (d - 1) (beX (beC c 9) 5 - k).toNat (beC (beC c 9) 5)).fst.map Ydd).length + 1) * 56 <=
 140737488355328) (.r (k - 1) (.g [0, 1, 2, 15] (k - 1) [.s (li (k - 1)), .o (.box [vL ((Yd9 (d - 1) (Yf4 (d - 1) (beX (beC c 9) 5 - k).toNat (beC (beC c 9)
 5)).snd).snd.b.map Ydi), vI (↑(Yd9 (d - 1) (Yf4 (d - 1) (beX (beC c 9) 5 - k).toNat (beC (beC c 9) 5)).snd).snd.i : Int), vI (Yd9 (d - 1) (Yf4 (d - 1) (beX (beC c 9) 5 - k).toNat
 (beC (beC c 9) 5)).snd).snd.h]), .o (.arr true 4 ((Yf4 (d - 1) (beX (beC c 9) 5 - k).toNat (beC (beC c 9) 5)).fst.map Ydd ++ [Yf8 (Yd9 (d - 1) (Yf4 (d - 1) (beX
 (beC c 9) 5 - k).toNat (beC (beC c 9) 5)).snd).fst]))])))))) (.o 0 [0, 1, 2, 3] [.o (.box [vL ((Yf4 (d - 1) (beX (beC c 9) 5 - k).toNat (beC (beC c 9)
 5)).snd.b.map Ydi), vI (↑(Yf4 (d - 1) (beX (beC c 9) 5 - k).toNat (beC (beC c 9) 5)).snd.i : Int), vI (Yf4 (d - 1) (beX (beC c 9) 5 - k).toNat (beC (beC c 9) 5)).snd.h]), .o (.arr
 true 4 ((Yf4 (d - 1) (beX (beC c 9) 5 - k).toNat (beC (beC c 9) 5)).fst.map Ydd))])) (by
 intro k h; try dsimp only [Yd3, Ydb, Z15] at h ⊢
 have g1 := Y16g (d - 1) (beX (beC c 9) 5 - k).toNat (beC (beC c 9) 5)
 have g2 := Y1b9 (d - 1) (beX (beC c 9) 5 - k).toNat (beC (beC c 9) 5)
 have g3 := Yer (beC c 9) (n := 5) (by decide)
 have g4 : 0 < k -> (beX (beC c 9) 5 - (k - 1)).toNat = (beX (beC c 9) 5 - k).toNat + 1 := fun _ => by omega
 have g5 : ¬ 0 < k -> 0 <= k -> (beX (beC c 9) 5 - k).toNat = (beX (beC c 9) 5).toNat := fun _ _ => by omega
 have g6 : okK (Yf4 (d - 1) (beX (beC c 9) 5 - k).toNat (beC (beC c 9) 5)).2 := Y1du (Ydm (Ydm (by have := ‹okK c /\ _›; exact this.1)))
 with_reducible repeat' (first | apply And.intro | exact zR | exact ih | (intro) | apply Z0 | apply Za | apply Zm | apply Z3 | apply ih)
 all_goals ((try simp only [std, inj] at *); with_reducible and_intros)
 all_goals try first | with_reducible (first | apply Z0 | apply Za | apply Zm | apply Z3 | apply ih) | (simp only [<- List.map_append]; with_reducible first | apply Z0 | apply Za | apply Zm | apply Z3 | apply ih)
 all_goals try first | exact zw | grind [crO, Yd7, Yd8, Yd4])
theorem Zbv (d : Int) (c : Cr) (h : okK c /\ 0 <= d /\ d <= 10) (ih : ∀ (e : Int), 0 <= e /\ e < d -> ∀ (c : Cr) (h : okK c /\ 0 <= e /\ e <= 10), Z11 e c)  : Z11 d c := Yde
 Tryz.call162 Tryz.func162 (let v1 := [ByteArray.mk #[(120 : UInt8)], ByteArray.mk #[(121 : UInt8)], ByteArray.mk #[(116 : UInt8), (109 : UInt8), (112 : UInt8)], ByteArray.mk #[(116
 : UInt8)], ByteArray.mk #[(108 : UInt8), (111 : UInt8), (111 : UInt8), (112 : UInt8)], ByteArray.mk #[(101 : UInt8), (108 : UInt8), (115 : UInt8), (101 : UInt8)], ByteArray.mk
 #[(108 : UInt8), (105 : UInt8), (115 : UInt8), (116 : UInt8)], ByteArray.mk #[(102 : UInt8)], ByteArray.mk #[(46 : UInt8), (46 : UInt8), (46 : UInt8)], ByteArray.mk #[(95 :
 UInt8)], ByteArray.mk #[(97 : UInt8), (45 : UInt8), (98 : UInt8)], ByteArray.mk #[(103 : UInt8), (111 : UInt8), (33 : UInt8)]]; let v2 := [ByteArray.mk #[], ByteArray.mk #[(97 :
 UInt8)], ByteArray.mk #[(105 : UInt8), (116 : UInt8), (32 : UInt8), (105 : UInt8), (115 : UInt8)], ByteArray.mk #[(40 : UInt8), (59 : UInt8), (39 : UInt8)], ByteArray.mk #[(49 :
 UInt8), (50 : UInt8), (51 : UInt8), (52 : UInt8), (53 : UInt8), (54 : UInt8), (55 : UInt8), (56 : UInt8), (57 : UInt8), (48 : UInt8), (49 : UInt8), (50 : UInt8), (51 : UInt8), (52
 : UInt8), (53 : UInt8), (54 : UInt8), (55 : UInt8), (56 : UInt8), (57 : UInt8), (48 : UInt8)]]; let v8 := [0, 1, 7, (-1 : Int), 42, 999999999, (-999999999 : Int)]; let v7 := (beC
 c 9); let v3 := (v8.getD (beX v7 7).toNat 0); let v18 := (beX v7 5); let v22 := (Yf4 (d - 1) v18.toNat (beC v7 5)); let v4 := [.box [vL (v22.snd.b.map Ydi), vI (↑(Yf4
 (d - 1) v18.toNat (beC v7 5)).snd.i : Int), vI v22.snd.h], .arr true 4 (v22.fst.map Ydd)]; let v5 := [.box [vL ((beC v7 12).b.map Ydi), vI (↑(beC v7 12).i :
 Int), vI (beC v7 12).h], .arr true 4 []]; let v6 := [.box [vL ((beC v7 7).b.map Ydi), vI (↑(beC v7 7).i : Int), vI (beC v7 7).h], .arr true 4 []]; let v9 := (.sv
 (.agg [vI (Yk2 v3).kind, vI (Yk2 v3).number, vS (Yk2 v3).text, .ref 1])); let v10 := (.sv (.agg [vI 0, vI 0, vS (ByteArray.mk #[]), .ref 1])); let v11 := [0, 1, 2,
 3]; let v20 := (v1.getD (beX v7 12).toNat default); let v12 := (.sv (.agg [vI (Yju v20).kind, vI (Yju v20).number, vS (Yju v20).text, .ref 1])); let v13 := [vL (List.map
 Ydi (beC v7 5).b), vI (↑(beC v7 5).i : Int), vI (beC v7 5).h]; let v21 := (v2.getD v18.toNat default); let v14 := (.sv (.agg [vI (Yjv v21).kind, vI (Yjv v21).number, vS
 (Yjv v21).text, .ref 1])); let v19 := (decide (beX v7 (2 : Int) = 0)); let v15 := (.sv (.agg [vI (Ymj v19).kind, vI (Ymj v19).number, vS (Ymj v19).text, .ref 1])); let
 v16 := [.box [vL ((beC v7 2).b.map Ydi), vI (↑(beC v7 2).i : Int), vI (beC v7 2).h], .arr true 4 []]; let v17 := (Zcq v20); .d [.ptr, .rd] (Z2 c 9) (.i (d <=
 1) (.i (5 < beX c 9) (.r (beX c 9 - 5) (.i (beX c 9 - (5 : Int) = 0) (.y true (.d [.ptr, .own true 1] (Z5 v7 v1) (.c [.rd] v17 (.w (.ghost (.nilbox 1 3 true 4)) (.f [3] v5
 v12))))) (.i (beX c 9 - (5 : Int) = 1) (.d [.ptr, .own true 1] (Z5 v7 v1) (.c [.rd] v17 (.w (.ghost (.nilbox 1 3 true 4)) (.f [3] v5 v12)))) (.i (beX c 9 - (5 : Int) = 2)
 (.y true (.d [.ptr, .own true 1] (Zl v7 v8) (.c [.rd] (Z4t v3) (.w (.ghost (.nilbox 1 3 true 4)) (.f [3] v6 v9))))) (.i (beX c 9 - (5 : Int) = 3) (.d [.ptr, .own true 1]
 (Zl v7 v8) (.c [.rd] (Z4t v3) (.w (.ghost (.nilbox 1 3 true 4)) (.f [3] v6 v9)))) (.i (beX c 9 - (5 : Int) = 4) (.d [.ptr, .rd] (Z8 v7 2) (.c [.rd] (Z8m v19)
 (.w (.ghost (.nilbox 1 3 true 4)) (.f [2] v16 v15)))) (.i (beX c 9 - (5 : Int) = 5) (.d [.ptr, .own true 1] (Z5 v7 v2) (.c [.rd] (Z8j v21) (.w (.ghost (.nilbox 1 3 true
 4)) (.f [3] [.box v13, .arr true 4 []] v14)))) (.d [.ptr, .rd] (Z2 v7 5) (.w (.ghost (.nilbox 2 3 true 4)) (.l (Z15 d c) (Z4o d c h ih) v11 [.s (li
 v18), .o (.box v13), .o (.arr true 4 [])] v18 (.t (.f [3] v4 v10) .q))))))))))) (.i (beX c (9 : Int) = 0) (.y true (.d [.ptr, .own true 1] (Z5 v7 v1) (.c [.rd] v17 (.w
 (.ghost (.nilbox 1 3 true 4)) (.f [3] v5 v12))))) (.i (beX c (9 : Int) = 1) (.d [.ptr, .own true 1] (Z5 v7 v1) (.c [.rd] v17 (.w (.ghost (.nilbox 1 3 true 4)) (.f [3] v5
 v12)))) (.i (beX c (9 : Int) = 2) (.y true (.d [.ptr, .own true 1] (Zl v7 v8) (.c [.rd] (Z4t v3) (.w (.ghost (.nilbox 1 3 true 4)) (.f [3] v6 v9))))) (.i (beX c (9 : Int)
 = 3) (.d [.ptr, .own true 1] (Zl v7 v8) (.c [.rd] (Z4t v3) (.w (.ghost (.nilbox 1 3 true 4)) (.f [3] v6 v9)))) (.i (beX c (9 : Int) = 4) (.d [.ptr, .rd] (Z8 v7 2)
 (.c [.rd] (Z8m v19) (.w (.ghost (.nilbox 1 3 true 4)) (.f [2] v16 v15)))) (.i (beX c (9 : Int) = 5) (.d [.ptr, .own true 1] (Z5 v7 v2) (.c [.rd] (Z8j v21) (.w (.ghost
 (.nilbox 1 3 true 4)) (.f [3] [.box v13, .arr true 4 []] v14)))) (.d [.ptr, .rd] (Z2 v7 5) (.w (.ghost (.nilbox 2 3 true 4)) (.l (Z15 d c) (Z4o d c h
 ih) v11 [.s (li v18), .o (.box v13), .o (.arr true 4 [])] v18 (.t (.f [3] v4 v10) .q))))))))))) (.y false (.i (beX c (9 : Int) = 0) (.y true (.d [.ptr, .own true 1] (Z5
 v7 v1) (.c [.rd] v17 (.w (.ghost (.nilbox 1 3 true 4)) (.f [3] v5 v12))))) (.i (beX c (9 : Int) = 1) (.d [.ptr, .own true 1] (Z5 v7 v1) (.c [.rd] v17 (.w (.ghost (.nilbox 1
 3 true 4)) (.f [3] v5 v12)))) (.i (beX c (9 : Int) = 2) (.y true (.d [.ptr, .own true 1] (Zl v7 v8) (.c [.rd] (Z4t v3) (.w (.ghost (.nilbox 1 3 true 4)) (.f [3] v6
 v9))))) (.i (beX c (9 : Int) = 3) (.d [.ptr, .own true 1] (Zl v7 v8) (.c [.rd] (Z4t v3) (.w (.ghost (.nilbox 1 3 true 4)) (.f [3] v6 v9)))) (.i (beX c (9 : Int) = 4) (.d
 [.ptr, .rd] (Z8 v7 2) (.c [.rd] (Z8m v19) (.w (.ghost (.nilbox 1 3 true 4)) (.f [2] v16 v15)))) (.i (beX c (9 : Int) = 5) (.d [.ptr, .own true 1] (Z5 v7 v2) (.c
 [.rd] (Z8j v21) (.w (.ghost (.nilbox 1 3 true 4)) (.f [3] [.box v13, .arr true 4 []] v14)))) (.d [.ptr, .rd] (Z2 v7 5) (.w (.ghost (.nilbox 2 3 true 4)) (.l
 (Z15 d c) (Z4o d c h ih) v11 [.s (li v18), .o (.box v13), .o (.arr true 4 [])] v18 (.t (.f [3] v4 v10) .q))))))))))))) (by
 dsimp only [Yd3, Z11, Ydb, Z15]
 have ok1 : okK (beC c 9) := Ydm h.1
 have g9 := Yer c (n := 9) (by decide)
 have g5 := Yer (beC c 9) (n := 5) (by decide)
 have k1 : d <= 1 -> 5 < beX c 9 -> kdH d c = beX c 9 - 5 := fun a b => if_pos ⟨a, b⟩
 have k2 : ¬ d <= 1 -> kdH d c = beX c 9 := fun a => if_neg (fun e => a e.1)
 have k3 : ¬ 5 < beX c 9 -> kdH d c = beX c 9 := fun a => if_neg (fun e => a e.2)
 have f0 := @Y1lv d c h.2.1
 have f2 := @Y1ln d c h.2.1
 have f4 := @Y1lu d c h.2.1
 have f5 := @Y1kw d c h.2.1
 have f6 := @Y1ad d c h.2.1
 have m0 := Y16f (d - 1) (beC (beC c 9) 5)
 have e0 : (beX (beC c 9) 5 - beX (beC c 9) 5).toNat = 0 := by omega
 simp only [Y16l, Y187, Y16s] at f0 f2 f5
 with_reducible repeat' (first | apply And.intro | exact zR | exact ih | (intro) | apply Z0 | apply Za | apply Zm | apply Z3)
 all_goals ((try simp only [std, inj] at *); with_reducible and_intros)
 all_goals try with_reducible first | apply Z0 | apply Za | apply Zm | apply Z3 | apply ih
 all_goals first
  | exact True.intro | with_reducible rfl | with_reducible assumption | omega | exact h.1 | exact Nat.succ_pos _ | decide
  | (rw [f0 (by omega)]; first | done | (rw [Yzl]; done) | (rw [Yzl]; rfl) | rfl)
  | (rw [f2 (by omega)]; first | done | (rw [Yzs]; done) | (rw [Yzs]; rfl) | rfl)
  | (rw [f4 (by omega)]; first | done | rfl)
  | (rw [f5 (by omega)]; first | done | (rw [Yzo]; done) | (rw [Yzo]; rfl) | rfl)
  | (rw [(f6 (by omega)).2]; first | done | rfl)
  | exact (f6 (by omega)).1
  | (rw [e0, m0]; first | done | rfl))
theorem Z3u (d : Int) : ∀ (c : Cr) (h : okK c /\ 0 <= d /\ d <= 10), Z11 d c := Lv.ind (P := fun d => ∀ (c : Cr) (h : okK c /\ 0 <= d /\ d <= 10), Z11 d c) (fun d ih c h => Zbv d c h ih) d
set_option maxHeartbeats 4000000
abbrev Z6e (c : Cr) : Ct := ⟨82, [crO c], [.one (.ptr 0 0)], [crO (Ygc c).2, .arr true 4 ((Ygc c).1.items.map Ydd)], .sv (Yro (Ygc c).1 1)⟩
def Z45 (c : Cr) : Lp Nat := .mk 45 1 (fun x => [(2, .one (.ptr 1 0)), (3, .one (.ptr 2 0)), (4, hs x 0)]) (fun x => [.box [vL ((beC (Yd9 4 c).snd
 12).b.map Ydi), vI (↑(beC (Yd9 4 c).snd 12).i : Int), vI (beC (Yd9 4 c).snd 12).h], .box [vI 0, vI 0, vS (ByteArray.mk #[]), .val (.lit (.slice none 0 0))], .box [ha x 1,
 ha x 2, ha x 3, .ref 3], ho x 4]) (fun k => [.s (li (k : Int)), .a (vI (Yfw k (Yd9 4 c).fst).kind), .a (vI (Yfw k (Yd9 4 c).fst).number), .a (vS (Yfw k (Yd9 4
 c).fst).text), .o (.arr true 4 ((Yfw k (Yd9 4 c).fst).items.map Ydd))]) (fun k => k <= 21) (fun k => 21 - k) [.mk True (.exit 1) (fun x => [(2, .one (.ptr 1 0)),
 (3, .one (.ptr 2 0))]) (fun x => [.box [vL ((beC (Yd9 4 c).snd 12).b.map Ydi), vI (↑(beC (Yd9 4 c).snd 12).i : Int), vI (beC (Yd9 4 c).snd 12).h], .box [vI 0, vI
 0, vS (ByteArray.mk #[]), .val (.lit (.slice none 0 0))], .box [ha x 0, ha x 1, ha x 2, .ref 3], ho x 3]) [.a (vI (Yfw 21 (Yd9 4 c).fst).kind), .a (vI (Yfw 21
 (Yd9 4 c).fst).number), .a (vS (Yfw 21 (Yd9 4 c).fst).text), .o (.arr true 4 ((Yfw 21 (Yd9 4 c).fst).items.map Ydd))]]
theorem Zar (c : Cr) (h : okK c) : Lp.Sem Tryz.prog (Ydg Tryz.f82 0) (Z45 c) := Ydr (fun k => .i ((k : Int) < 21) (.r ((k : Int) + 1) (.g [0, 1, 2, 4] (k + 1) [.s
 (li ((k : Int) + 1)), .a (vI 0), .a (vI 0), .a (vS (ByteArray.mk #[])), .o (.arr true 4 [Yf8 (Yfw k (Yd9 4 c).fst)])])) (.o 0 [0, 1, 2, 3] [.a (vI (Yfw k (Yd9 4
 c).fst).kind), .a (vI (Yfw k (Yd9 4 c).fst).number), .a (vS (Yfw k (Yd9 4 c).fst).text), .o (.arr true 4 ((Yfw k (Yd9 4 c).fst).items.map Ydd))])) (by
  intro k h; try dsimp only [Yd3, Ydb, Z45] at h ⊢
  have g1 := Y16b k (Yd9 4 c).1
  with_reducible repeat' (first | apply And.intro | exact zR | (intro) | apply Z0 | apply Za | apply Zm | apply Z3u)
  all_goals ((try simp only [std, inj] at *); with_reducible and_intros)
  all_goals try with_reducible first | apply Z0 | apply Za | apply Zm | apply Z3u
  all_goals first
    | exact True.intro | with_reducible rfl | omega
    | (rw [g1]; first | done | rfl | (show _ = List.map Ydd [_]; simp only [List.map_cons, List.map_nil, Yqk]; done))
    | (have e : k = 21 := by omega
       rw [e]))
theorem Zas (c : Cr) (h : okK c)  : Z6e c := Yde Tryz.call82 Tryz.func82 (.d [.ptr, .rd] (Z11 4 c) (.d [.ptr, .rd] (Z2 (Yd9 4 c).snd 12) (.i (beX (Yd9 4
 c).snd (12 : Int) = 0) (.d [.ptr, .own true 1] (Zl (beC (Yd9 4 c).snd 12) [1, 2, 1000000000, (-1000000000 : Int)]) (.f [3] [.box [vL ((beC (beC (Yd9 4
 c).snd 12) 4).b.map Ydi), vI (↑(beC (beC (Yd9 4 c).snd 12) 4).i : Int), vI (beC (beC (Yd9 4 c).snd 12) 4).h], .arr true 4 ((Yd9 4 c).fst.items.map Ydd)] (.sv (.agg [vI
 (Yd9 4 c).fst.kind, vI ([1, 2, 1000000000, (-1000000000 : Int)].getD (beX (beC (Yd9 4 c).snd 12) 4).toNat 0), vS (Yd9 4 c).fst.text, .ref 1])))) (.i (beX (Yd9 4 c).snd (12 :
 Int) = 1) (.d [.ptr, .own true 1] (Z5 (beC (Yd9 4 c).snd 12) [ByteArray.mk #[], ByteArray.mk #[(57 : UInt8)], ByteArray.mk #[(45 : UInt8), (53 : UInt8)], ByteArray.mk
 #[(45 : UInt8)], ByteArray.mk #[(120 : UInt8), (32 : UInt8), (121 : UInt8)], ByteArray.mk #[(97 : UInt8), (98 : UInt8), (99 : UInt8), (100 : UInt8), (101 : UInt8), (102 : UInt8),
 (103 : UInt8), (104 : UInt8), (105 : UInt8), (106 : UInt8), (107 : UInt8), (108 : UInt8), (109 : UInt8), (110 : UInt8), (111 : UInt8), (112 : UInt8), (113 : UInt8)], ByteArray.mk
 #[(49 : UInt8), (50 : UInt8), (51 : UInt8), (52 : UInt8), (53 : UInt8), (54 : UInt8), (55 : UInt8), (56 : UInt8), (57 : UInt8), (48 : UInt8), (49 : UInt8), (50 : UInt8), (51 :
 UInt8), (52 : UInt8), (53 : UInt8), (54 : UInt8), (55 : UInt8), (56 : UInt8), (57 : UInt8), (48 : UInt8), (49 : UInt8)]]) (.f [3] [.box [vL ((beC (beC (Yd9 4
 c).snd 12) 7).b.map Ydi), vI (↑(beC (beC (Yd9 4 c).snd 12) 7).i : Int), vI (beC (beC (Yd9 4 c).snd 12) 7).h], .arr true 4 ((Yd9 4 c).fst.items.map Ydd)] (.sv (.agg [vI
 (Yd9 4 c).fst.kind, vI (Yd9 4 c).fst.number, vS ([ByteArray.mk #[], ByteArray.mk #[(57 : UInt8)], ByteArray.mk #[(45 : UInt8), (53 : UInt8)], ByteArray.mk #[(45 : UInt8)],
 ByteArray.mk #[(120 : UInt8), (32 : UInt8), (121 : UInt8)], ByteArray.mk #[(97 : UInt8), (98 : UInt8), (99 : UInt8), (100 : UInt8), (101 : UInt8), (102 : UInt8), (103 : UInt8),
 (104 : UInt8), (105 : UInt8), (106 : UInt8), (107 : UInt8), (108 : UInt8), (109 : UInt8), (110 : UInt8), (111 : UInt8), (112 : UInt8), (113 : UInt8)], ByteArray.mk #[(49 : UInt8),
 (50 : UInt8), (51 : UInt8), (52 : UInt8), (53 : UInt8), (54 : UInt8), (55 : UInt8), (56 : UInt8), (57 : UInt8), (48 : UInt8), (49 : UInt8), (50 : UInt8), (51 : UInt8), (52 :
 UInt8), (53 : UInt8), (54 : UInt8), (55 : UInt8), (56 : UInt8), (57 : UInt8), (48 : UInt8), (49 : UInt8)]].getD (beX (beC (Yd9 4 c).snd 12) 7).toNat default), .ref 1])))) (.i
 (beX (Yd9 4 c).snd (12 : Int) = 2) (.d [.ptr, .rd] (Z2 (beC (Yd9 4 c).snd 12) 7) (.r (beX (beC (Yd9 4 c).snd 12) 7 - 1) (.f [3] [.box [vL ((beC (beC
 (Yd9 4 c).snd 12) 7).b.map Ydi), vI (↑(beC (beC (Yd9 4 c).snd 12) 7).i : Int), vI (beC (beC (Yd9 4 c).snd 12) 7).h], .arr true 4 ((Yd9 4 c).fst.items.map Ydd)] (.sv
 (.agg [vI (beX (beC (Yd9 4 c).snd 12) 7 - 1), vI (Yd9 4 c).fst.number, vS (Yd9 4 c).fst.text, .ref 1]))))) (.i (beX (Yd9 4 c).snd (12 : Int) = 3) (.p (((List.map Ydd
 (Yd9 4 c).fst.items).length + 1) * 56 <= 140737488355328) (.f [6] [.box [vL ((beC (Yd9 4 c).snd 12).b.map Ydi), vI (↑(beC (Yd9 4 c).snd 12).i : Int), vI (beC (Yd9 4
 c).snd 12).h], .arr true 4 ((Yd9 4 c).fst.items.map Ydd ++ [[cI 9, cI 0, cS (ByteArray.mk #[]), .list []]])] (.sv (.agg [vI (Yd9 4 c).fst.kind, vI (Yd9 4
 c).fst.number, vS (Yd9 4 c).fst.text, .ref 1])))) (.i (beX (Yd9 4 c).snd (12 : Int) = 4) (.l (Z45 c) (Zar c h) [0, 1, 4, 3] [.s (li 0), .a (vI (Yd9 4
 c).fst.kind), .a (vI (Yd9 4 c).fst.number), .a (vS (Yd9 4 c).fst.text), .o (.arr true 4 ((Yd9 4 c).fst.items.map Ydd))] 0 (.t (.f [3] [.box [vL ((beC
 (Yd9 4 c).snd 12).b.map Ydi), vI (↑(beC (Yd9 4 c).snd 12).i : Int), vI (beC (Yd9 4 c).snd 12).h], .arr true 4 ((Yfw 21 (Yd9 4 c).fst).items.map Ydd)] (.sv (.agg [vI
 (Yfw 21 (Yd9 4 c).fst).kind, vI (Yfw 21 (Yd9 4 c).fst).number, vS (Yfw 21 (Yd9 4 c).fst).text, .ref 1]))) .q)) (.f [3] [.box [vL ((beC (Yd9 4 c).snd
 12).b.map Ydi), vI (↑(beC (Yd9 4 c).snd 12).i : Int), vI (beC (Yd9 4 c).snd 12).h], .arr true 4 ((Yd9 4 c).fst.items.map Ydd)] (.sv (.agg [vI (Yd9 4 c).fst.kind, vI
 (Yd9 4 c).fst.number, vS (Yd9 4 c).fst.text, .ref 1])))))))))) (by
 dsimp only [Yd3, Z6e, Ydb, Z45]
 have ok1 : okK (Yd9 4 c).2 := Yx5 h
 have ok2 : okK (beC (Yd9 4 c).2 12) := Ydm ok1
 have b12 := Yer (Yd9 4 c).2 (n := 12) (by decide)
 have b7 := Yer (beC (Yd9 4 c).2 12) (n := 7) (by decide)
 have w := (Ymc 4 c h).1
 rw [<- show Yd9 4 c = Yid 4 c from Yjl 4 c] at w
 have w1 := Yhs (Yd9 4 c).1
 have f0 := @Y1lp c
 have f1 := @Y1lo c
 have f2 := @Y1k5 c
 have f3 := @Y1kk c
 have f4 := @Y1k4 c
 have f5 := @Y1k1 c
 have n0 := Y185 (Yd9 4 c).1
 simp only [Y1bs, Yw5] at f0 f1
 with_reducible repeat' (first | apply And.intro | exact zR | (intro) | apply Z0 | apply Za | apply Zm | apply Z3u)
 all_goals ((try simp only [std, inj] at *); with_reducible and_intros)
 all_goals try first | with_reducible (first | apply Z0 | apply Za | apply Zm | apply Z3u) | (simp only [<- List.map_append]; with_reducible first | apply Z0 | apply Za | apply Zm | apply Z3u)
 all_goals first
  | exact True.intro | with_reducible rfl | with_reducible assumption | exact ⟨h, by omega, by omega⟩ | exact ⟨h, by decide⟩ | omega | exact h | exact Nat.succ_pos _ | decide
  | (rw [f0 (by omega)]; first | done | rfl)
  | (rw [f1 (by omega)]; first | done | rfl)
  | (rw [f2 (by omega)]; first | done | rfl)
  | (rw [f3 (by omega)]; first | done | rfl | (rw [List.map_append, List.map_cons, List.map_nil, Yqk ⟨9, 0, mkS [], []⟩]; rfl))
  | (rw [f4 (by omega)]; first | done | rfl)
  | (rw [f5 (by omega)]; first | done | rfl)
  | (rw [n0]; first | done | rfl)
  | rfl
  | skip)
def Yhb (n : Int) : List Int -> List Int
 | [] => [n]
 | x :: r => if n <= x then (if x = n then x :: r else n :: x :: r) else x :: Yhb n r
def plN (n : Int) (L : List Int) : Bool := L.any fun x => decide (n <= x)
theorem Y15k {n : Int} : ∀ {A : List Int} (C : List Int), plN n A = true -> Yhb n (A ++ C) = Yhb n A ++ C
 | [], _, h => by cases h
 | x :: r, C, h => by
  simp only [List.cons_append, Yhb]
  split
  ·split <;> rfl
  ·rename_i hx
   have : plN n r = true := by simpa [plN, hx] using h
   rw [Y15k C this]; rfl
theorem Ypb {n : Int} : ∀ {A : List Int} (C : List Int), plN n A = false -> Yhb n (A ++ C) = A ++ Yhb n C
 | [], _, _ => rfl
 | x :: r, C, h => by
  simp only [plN, List.any_cons, Bool.or_eq_false_iff, decide_eq_false_iff_not] at h
  simp only [List.cons_append, Yhb]
  rw [if_neg h.1, Ypb C (by simpa [plN] using h.2)]
def Yfd (n : Int) (L : List Int) (k : Nat) : List Int := if plN n (L.take k) = true then Yhb n (L.take k) else L.take k
theorem Ymp {n : Int} {L : List Int} {k : Nat} (h : k < L.length) : plN n (L.take (k + 1)) = (plN n (L.take k) || decide (n <= L.getD k 0)) := by
 have e := Ydn h
 unfold plN; rw [e, List.any_append]; simp
theorem Y1gr {n : Int} {L : List Int} {k : Nat} (h : k < L.length) (h1 : plN n (L.take k) = true) : Yfd n L (k + 1) = Yfd n L k ++ [L.getD k 0] := by
 have e := Ydn h
 unfold Yfd
 rw [if_pos (by rw [Ymp h, h1]; rfl), if_pos h1, e, Y15k _ h1]; rfl
theorem Y1g5 {n : Int} {L : List Int} {k : Nat} (h : k < L.length) (h1 : plN n (L.take k) = false) (h2 : ¬ n <= L.getD k 0) : Yfd n L (k + 1) = Yfd n L k ++ [L.getD k 0] := by
 have e := Ydn h
 unfold Yfd
 rw [if_neg (by rw [Ymp h, h1, decide_eq_false h2]; decide), if_neg (by rw [h1]; decide), e]; rfl
theorem Y1fu {n : Int} {L : List Int} {k : Nat} (h : k < L.length) (h1 : plN n (L.take k) = false) (h2 : n <= L.getD k 0) (h3 : L.getD k 0 = n) : Yfd n L (k + 1) = Yfd n L k ++ [L.getD k 0] := by
 have e := Ydn h
 unfold Yfd
 rw [if_pos (by rw [Ymp h, h1, decide_eq_true h2]; rfl), if_neg (by rw [h1]; decide), e, Ypb _ h1]
 show L.take k ++ Yhb n [L.getD k 0] = _
 simp only [Yhb]; rw [if_pos h2, if_pos h3]
theorem Y1bo {n : Int} {L : List Int} {k : Nat} (h : k < L.length) (h1 : plN n (L.take k) = false) (h2 : n <= L.getD k 0) (h3 : ¬ L.getD k 0 = n) : Yfd n L (k + 1) = Yfd n L k ++ [n] ++ [L.getD k 0] := by
 have e := Ydn h
 unfold Yfd
 rw [if_pos (by rw [Ymp h, h1, decide_eq_true h2]; rfl), if_neg (by rw [h1]; decide), e, Ypb _ h1]
 show L.take k ++ Yhb n [L.getD k 0] = _
 simp only [Yhb]; rw [if_pos h2, if_neg h3, List.append_assoc]; rfl
theorem Y1dj {n : Int} {L : List Int} {k : Nat} (h : L.length <= k) : (plN n (L.take k) = true -> Yfd n L k = Yhb n L) /\ (plN n (L.take k) = false -> Yfd n L k ++ [n] = Yhb n L) := by
 have e := List.take_of_length_le h
 refine ⟨fun h1 => ?_, fun h1 => ?_⟩
 ·unfold Yfd; rw [if_pos h1, e]
 ·unfold Yfd; rw [if_neg (by rw [h1]; decide)]
  rw [e] at h1 ⊢
  have := Ypb [] h1
  rw [List.append_nil] at this; rw [this]; rfl
theorem Yt2 (n : Int) : ∀ L : List Int, (Yhb n L).length <= L.length + 1
 | [] => by simp [Yhb]
 | x :: r => by
  have := Yt2 n r
  simp only [Yhb]; split
  ·split <;> simp
  ·simp only [List.length_cons]; omega
theorem Y10k (n : Int) (L : List Int) (k : Nat) : (Yfd n L k).length <= L.length + 1 := by
 have h : (L.take k).length <= L.length := by rw [List.length_take]; omega
 unfold Yfd; split
 ·have := Yt2 n (L.take k); omega
 ·omega
set_option maxHeartbeats 4000000
def Ync (n : Int) : Int := if 1 <= n /\ n <= 99999 then (if n % 3 = 0 then 3 else n % 3) else 0
theorem Yuy {n : Int} : Ync n = 0 ↔ ¬ (1 <= n /\ n <= 99999) := by unfold Ync; split <;> (try split) <;> omega
def Yiz (L : List Int) : Nat -> Bool
 | 0 => true
 | k + 1 => Yiz L k && decide (1 <= L.getD k default /\ L.getD k default <= 99999) && (decide (k = 0) || decide (L.getD (k - 1) default < L.getD k default))
def Yi0 (L : List Int) : Bool := Yiz L L.length
theorem Yto (L : List Int) : ∀ (m k : Nat), k <= m -> Yiz L m = true -> Yiz L k = true
 | 0, k, h, _ => by
  obtain rfl : k = 0 := by omega
  rfl
 | m + 1, k, h, ht => by
  by_cases e : k = m + 1
  ·rw [e]; exact ht
  ·refine Yto L m k (by omega) ?_
   simp only [Yiz, Bool.and_eq_true] at ht; exact ht.1.1
abbrev Z7i (n : Int) : Ct := ⟨201, [], [li n], [], .sv (li (Ync n))⟩
theorem Zcg (n : Int)  : Z7i n := Yde Tryz.call201 Tryz.func201 (.c [.rd, .rd, .rd] (Z1b n 1 99999) (.b (!decide (1 <= n /\ n <= 99999)) (.s (li 0)) (.p ((3 : Int) ≠ 0)
 (.p (0 <= n.tmod 3 /\ (n.tmod 3).toNat < 3) (.w (.cells (Yd2 ([3, 1, 2].getD (n.tmod 3).toNat 0))) (.p ([[cI 3], [cI 1], [cI 2]][(n.tmod 3).toNat]? = some [cI ([3, 1, 2].getD
 (n.tmod 3).toNat 0)]) (.s (li ([3, 1, 2].getD (n.tmod 3).toNat 0))))))))) (by
 dsimp only [Yd3, Z7i]
 with_reducible repeat' (first | apply And.intro | exact zR | (intro))
 all_goals ((try simp only [std, inj] at *); with_reducible and_intros)
 all_goals try first | exact z | grind [Ync, Yd7, Yd8, Yd4])
abbrev Z7j (n : Int) : Ct := ⟨177, [], [li n], [], .sv (li (Ync n))⟩
theorem Zch (n : Int)  : Z7j n := Yde Tryz.call177 Tryz.func177 (.i (n < 1) (.y true (.s (li 0))) (.i (99999 < n) (.s (li 0)) (.p ((3 : Int) ≠ 0) (.i (n.tmod (3 : Int) =
 1) (.s (li 1)) (.i (n.tmod (3 : Int) = 2) (.s (li 2)) (.s (li 3))))))) (by
 dsimp only [Yd3, Z7j]
 with_reducible repeat' (first | apply And.intro | exact zR | (intro))
 all_goals ((try simp only [std, inj] at *); with_reducible and_intros)
 all_goals try first | exact z | grind [Ync, Yd7, Yd8, Yd4])
abbrev Z67 (L : List Int) : Ct := ⟨158, [], [ll (L.map Yd2)], [], .sv (lb (Yi0 L))⟩
def Z2e (L : List Int) : Lp Nat := .mk 29 0 (fun x => [(0, ll (L.map Yd2)), (5, ll (L.map Yd2)), (6, li (↑(L.map Yd2).length : Int)), (7, hs x 0)]) (fun
 x => []) (fun k => [.s (li (k : Int))]) (fun k => k <= L.length /\ L.length <= 9223372036854775807 /\ Yiz L k = true) (fun k => L.length - k) [.mk (Yi0 L = true) (.exit 0) (fun x
 => []) (fun x => []) [], .mk (Yi0 L = false) .ret (fun x => [(2, hs x 0)]) (fun x => []) [.s (lb false)]]
theorem Z8n (L : List Int) : Lp.Sem Tryz.prog (Ydg Tryz.f158 0) (Z2e L) := Ydr (fun k => .i ((k : Int) < (↑(L.map Yd2).length : Int)) (.x (k : Int)
 (L.map Yd2) [cI (L.getD k 0)] (.c [.rd] (Zcg (L.getD k 0)) (.i (Ync (L.getD k 0) = 0) (.y true (.o 1 [] [.s (lb false)])) (.i (0 < (k : Int)) (.r ((k : Int) - 1) (.x
 ((k : Int) - 1) (L.map Yd2) [cI (L.getD ((k : Int) - 1).toNat 0)] (.i (L.getD k 0 <= L.getD ((k : Int) - 1).toNat 0) (.o 1 [] [.s (lb false)]) (.r ((k : Int) + 1) (.g []
 (k + 1) [.s (li ((k : Int) + 1))]))))) (.y false (.r ((k : Int) + 1) (.g [] (k + 1) [.s (li ((k : Int) + 1))]))))))) (.o 0 [] [])) (by
 intro k h; try dsimp only [Yd3, Ydb, Z2e] at h ⊢
 have g1 := Yto L L.length (k + 1)
 have g2 := @Yuy (L.getD k 0)
 have e : ((k : Int) - 1).toNat = k - 1 := by omega
 have g3 : Yiz L (k + 1) = (Yiz L k && decide (1 <= L.getD k 0 /\ L.getD k 0 <= 99999) && (decide (k = 0) || decide (L.getD (k - 1) 0 < L.getD k 0))) := rfl
 with_reducible repeat' (first | apply And.intro | exact zR | (intro))
 all_goals ((try simp only [std, inj] at *); with_reducible and_intros)
 all_goals try first | exact z | grind [Yi0, Yd7, Yd8, Yd4])
theorem Z27 (L : List Int)  : Z67 L := Yde Tryz.call158 Tryz.func158 (.z Yd2 L (.l (Z2e L) (Z8n L) [] [.s (li 0)] 0 (.t (.s (lb true)) (.t (.s (lb
 false)) .q)))) (by
 dsimp only [Yd3, Z67, Ydb, Z2e]
 with_reducible repeat' (first | apply And.intro | exact zR | (intro))
 all_goals ((try simp only [std, inj] at *); with_reducible and_intros)
 all_goals try first | exact z | grind [Yiz, Yd7, Yd8, Yd4])
abbrev Z68 (L : List Int) : Ct := ⟨119, [], [ll (L.map Yd2)], [], .sv (lb (Yi0 L))⟩
def Z2f (L : List Int) : Lp Nat := .mk 29 0 (fun x => [(0, ll (L.map Yd2)), (5, ll (L.map Yd2)), (6, li (↑(L.map Yd2).length : Int)), (7, hs x 0)]) (fun
 x => []) (fun k => [.s (li (k : Int))]) (fun k => k <= L.length /\ L.length <= 9223372036854775807 /\ Yiz L k = true) (fun k => L.length - k) [.mk (Yi0 L = true) (.exit 0) (fun x
 => []) (fun x => []) [], .mk (Yi0 L = false) .ret (fun x => [(2, hs x 0)]) (fun x => []) [.s (lb false)]]
theorem Z8o (L : List Int) : Lp.Sem Tryz.prog (Ydg Tryz.f119 0) (Z2f L) := Ydr (fun k => .i ((k : Int) < (↑(L.map Yd2).length : Int)) (.x (k : Int)
 (L.map Yd2) [cI (L.getD k 0)] (.c [.rd] (Zch (L.getD k 0)) (.i (Ync (L.getD k 0) = 0) (.y true (.o 1 [] [.s (lb false)])) (.i (0 < (k : Int)) (.r ((k : Int) - 1) (.x
 ((k : Int) - 1) (L.map Yd2) [cI (L.getD ((k : Int) - 1).toNat 0)] (.i (L.getD k 0 <= L.getD ((k : Int) - 1).toNat 0) (.o 1 [] [.s (lb false)]) (.r ((k : Int) + 1) (.g []
 (k + 1) [.s (li ((k : Int) + 1))]))))) (.y false (.r ((k : Int) + 1) (.g [] (k + 1) [.s (li ((k : Int) + 1))]))))))) (.o 0 [] [])) (by
 intro k h; try dsimp only [Yd3, Ydb, Z2f] at h ⊢
 have g1 := Yto L L.length (k + 1)
 have g2 := @Yuy (L.getD k 0)
 have e : ((k : Int) - 1).toNat = k - 1 := by omega
 have g3 : Yiz L (k + 1) = (Yiz L k && decide (1 <= L.getD k 0 /\ L.getD k 0 <= 99999) && (decide (k = 0) || decide (L.getD (k - 1) 0 < L.getD k 0))) := rfl
 with_reducible repeat' (first | apply And.intro | exact zR | (intro))
 all_goals ((try simp only [std, inj] at *); with_reducible and_intros)
 all_goals try first | exact z | grind [Yi0, Yd7, Yd8, Yd4])
theorem Z37 (L : List Int)  : Z68 L := Yde Tryz.call119 Tryz.func119 (.z Yd2 L (.l (Z2f L) (Z8o L) [] [.s (li 0)] 0 (.t (.s (lb true)) (.t (.s (lb
 false)) .q)))) (by
 dsimp only [Yd3, Z68, Ydb, Z2f]
 with_reducible repeat' (first | apply And.intro | exact zR | (intro))
 all_goals ((try simp only [std, inj] at *); with_reducible and_intros)
 all_goals try first | exact z | grind [Yiz, Yd7, Yd8, Yd4])
def Yjc (k n : Int) (t : ByteArray) (s : List Int) (i : Int) : Bool := Yjf k n t i && Yi0 s && (decide ((s.length : Int) = 0) || decide (k = 1))
mutual
def sizeY : YS -> Nat
 | ⟨_, _, _, _, l⟩ => Yri l + 1
def Yri : List YS -> Nat
 | [] => 0
 | c :: r => sizeY c + Yri r
end
theorem Yyc : ∀ l, Yri l = sumBy sizeY l
 | [] => by simp [Yri, sumBy]
 | c :: r => by rw [Yri, sumBy, Yyc r]
theorem Ye6 (c : YS) : sizeY c = sumBy sizeY c.items + 1 := by cases c; simp only [sizeY, Yyc]
mutual
def Ydp : YS -> Nat
 | ⟨_, _, _, _, l⟩ => Yvb l + 1
def Yvb : List YS -> Nat
 | [] => 0
 | c :: r => max (Ydp c) (Yvb r)
end
theorem Y10b : ∀ l, Yvb l = Yeb Ydp l
 | [] => by simp [Yvb, Yeb]
 | c :: r => by rw [Yvb, Yeb, Y10b r]
theorem Yku (c : YS) : Ydp c = Yeb Ydp c.items + 1 := by cases c; simp only [Ydp, Y10b]
theorem Y1ft : ∀ c : YS, Ydp c <= sizeY c := by
 refine YS.ind fun c ih => ?_
 have := Yr0 ih
 rw [Ye6, Yku]; omega
mutual
def okY : YS -> Bool
 | ⟨k, n, t, s, l⟩ => Yzy l && Yjc k n t s l.length
def Yzy : List YS -> Bool
 | [] => true
 | c :: r => okY c && Yzy r
end
theorem Y148 : ∀ l, Yzy l = l.all okY
 | [] => by simp [Yzy]
 | c :: r => by rw [Yzy, Y148 r]; rfl
theorem Yj6 (c : YS) : okY c = (c.items.all okY && Yjc c.kind c.number c.text c.scopes c.items.length) := by cases c; simp only [okY, Y148]
def Ydk (d : YS) : Bool := decide (sizeY d <= 2000) && decide (Ydp d <= 40) && okY d
mutual
def Yed : YS -> Int -> Int -> Bool × Int
 | ⟨k, n, t, s, l⟩, deep, m => if deep <= 40 /\ m + 1 <= 2000 /\ Yjc k n t s l.length = true then Yuh l (deep + 1) (m + 1) else (false, m + 1)
def Yuh : List YS -> Int -> Int -> Bool × Int
 | [], _, m => (true, m)
 | x :: r, deep, m => if (Yed x deep m).1 then Yuh r deep (Yed x deep m).2 else (false, (Yed x deep m).2)
end
theorem Yzm : ∀ l deep m, Yuh l deep m = Yeg (fun x m => Yed x deep m) l m
 | [], _, _ => by simp [Yuh, Yeg]
 | x :: r, deep, m => by simp only [Yuh, Yeg, Yzm r]
theorem Y154 (c : YS) (deep m : Int) : Yed c deep m = if deep <= 40 /\ m + 1 <= 2000 /\ Yjc c.kind c.number c.text c.scopes c.items.length = true then Yeg (fun x m => Yed x (deep + 1) m) c.items (m + 1) else (false, m + 1) := by cases c; simp only [Yed, Yzm]
theorem Yoh : ∀ (c : YS) (deep m : Int), m <= 2000 -> ((Yed c deep m).1 = true ↔ (m + sizeY c <= 2000 /\ (deep + Ydp c <= 41 /\ okY c = true))) /\ ((Yed c deep m).1 = true -> (Yed c deep m).2 = m + sizeY c) := by
 refine YS.ind fun c ih deep m hm => ?_
 rw [Y154, Ye6, Yku, Yj6, Bool.and_eq_true, List.all_eq_true]
 by_cases h : deep <= 40 /\ m + 1 <= 2000 /\ Yjc c.kind c.number c.text c.scopes c.items.length = true
 ·rw [if_pos h]
  have h1 := Y157 (fun x m => Yed x (deep + 1) m) sizeY (fun x => deep + 1 + Ydp x <= 41 /\ okY x = true) 2000 c.items (fun x hx m hm => ih x hx (deep + 1) m hm) (m + 1) h.2.1
  have h2 := Y10g Ydp (m := (40 - deep).toNat) (L := c.items)
  constructor
  ·rw [h1.1]
   constructor
   ·rintro ⟨a, b⟩
    have := h2.2 fun x hx => by have := (b x hx).1; omega
    exact ⟨by omega, by omega, fun x hx => (b x hx).2, h.2.2⟩
   ·rintro ⟨a, b, d, e⟩
    have := h2.1 (by omega)
    exact ⟨by omega, fun x hx => ⟨by have := this x hx; omega, d x hx⟩⟩
  ·intro ht; rw [h1.2 ht]; omega
 ·rw [if_neg h]
  refine ⟨⟨fun e => Bool.noConfusion e, ?_⟩, fun e => Bool.noConfusion e⟩
  rintro ⟨a, b, d, e⟩
  exact absurd ⟨by omega, by omega, e⟩ h
theorem Yoo (d : YS) : (Yed d 1 0).1 = Ydk d := by
 have h := (Yoh d 1 0 (by decide)).1
 rw [Bool.eq_iff_iff, h]
 simp only [Ydk, Bool.and_eq_true, decide_eq_true_eq, and_assoc]
 constructor
 ·rintro ⟨a, b, e⟩; exact ⟨by omega, by omega, e⟩
 ·rintro ⟨a, b, e⟩; exact ⟨by omega, by omega, e⟩
abbrev Zy (d : YS) (l : Int) : Ct := ⟨94, [.box [vI l]], [Ydl d, .one (.ptr 0 0)], [.box [vI (max (l - sizeY d) (-1))]], .sv (lb (decide (sizeY d <= l)))⟩
def Z2g (d : YS) (l : Int) : Lp Nat := .mk 36 1 (fun x => [(1, .one (.ptr 0 0)), (2, .one (.ptr 1 0)), (5, hs x 0)]) (fun x => [.box [ha x 1], .box (vals
 (Yda d))]) (fun k => [.s (li (k : Int)), .a (vI (max (l - 1 - (↑(sumBy sizeY (d.items.take k)) : Int)) (-1 : Int)))]) (fun k => d.items.length >= k) (fun k =>
 d.items.length - k) [.mk True (.exit 0) (fun x => [(1, .one (.ptr 0 0))]) (fun x => [.box [ha x 0]]) [.a (vI (max (l - (↑(sizeY d) : Int)) (-1 : Int)))]]
theorem Z8p (d : YS) (l : Int) (h : 0 <= l /\ l <= 1000000) (ih : ∀ (z : YS), z ∈ d.items -> ∀ (l : Int), 0 <= l /\ l <= 1000000 -> OK (Zy z l)) : Lp.Sem Tryz.prog
 (Ydg Tryz.f94 0) (Z2g d l) := Ydr (fun k => .z Ycz d.items (.i ((k : Int) < (↑(d.items.map Ycz).length : Int)) (.i (0 <= max (l - 1 - (↑(sumBy sizeY
 (d.items.take k)) : Int)) (-1 : Int)) (.x (k : Int) (d.items.map Ycz) (Yda (d.items.getD k default)) (.d [.rd, .ptr] (Zy (d.items.getD k default) (max (l
 - 1 - (↑(sumBy sizeY (d.items.take k)) : Int)) (-1 : Int))) (.r ((k : Int) + 1) (.g [0, 1] (k + 1) [.s (li ((k : Int) + 1)), .a (vI (max (max (l - 1 - (↑(sumBy sizeY
 (d.items.take k)) : Int)) (-1 : Int) - (↑(sizeY (d.items.getD k default)) : Int)) (-1 : Int)))])))) (.o 0 [0] [.a (vI (max (l - 1 - (↑(sumBy sizeY (d.items.take k)) :
 Int)) (-1 : Int)))])) (.y false (.o 0 [0] [.a (vI (max (l - 1 - (↑(sumBy sizeY (d.items.take k)) : Int)) (-1 : Int)))])))) (by
 intro k h; try dsimp only [Yd3, Ydb, Z2g] at h ⊢
 have g1 := Ye6 d
 have g2 := Yg2 sizeY d.items k
 have g3 := @Ygx _ _ sizeY d.items k
 with_reducible repeat' (first | apply And.intro | exact zR | exact ih | (intro) | apply ih)
 all_goals ((try simp only [std, inj] at *); with_reducible and_intros)
 all_goals try with_reducible first | apply ih
 all_goals try first | exact z | grind [Yd6, Yd7, Yd8, Yd4])
theorem Zat (d : YS) (l : Int) (h : 0 <= l /\ l <= 1000000) (ih : ∀ z ∈ d.items, ∀ (l : Int) (h : 0 <= l /\ l <= 1000000), Zy z l)  : Zy d l := Yde Tryz.call94
 Tryz.func94 (.r (l - 1) (.l (Z2g d l) (Z8p d l h ih) [0, 1] [.s (li 0), .a (vI (l - 1))] 0 (.t (.f [] [.box [vI (max (l - (↑(sizeY d) : Int)) (-1 : Int))]]
 (.sv (lb (decide (0 <= max (l - (↑(sizeY d) : Int)) (-1 : Int)))))) .q))) (by
 dsimp only [Yd3, Zy, Ydb, Z2g]
 have g1 := Ye6 d
 have g2 : sumBy sizeY (d.items.take 0) = 0 := rfl
 with_reducible repeat' (first | apply And.intro | exact zR | exact ih | (intro))
 all_goals ((try simp only [std, inj] at *); with_reducible and_intros)
 all_goals try with_reducible first | apply ih
 all_goals (try exact zG))
theorem Z9u (d : YS) : ∀ (l : Int) (h : 0 <= l /\ l <= 1000000), Zy d l := YS.ind (P := fun d => ∀ (l : Int) (h : 0 <= l /\ l <= 1000000), Zy d l) (fun d ih l h => Zat d l h ih) d
abbrev Zz (d : YS) : Ct := ⟨95, [], [Ydl d], [], .sv (li (Ydp d))⟩
def Z2h (d : YS) : Lp Nat := .mk 20 0 (fun x => [(3, hs x 1), (7, ll (d.items.map Ycz)), (8, li (↑(d.items.map Ycz).length : Int)), (9, hs x 0)])
 (fun x => []) (fun k => [.s (li (k : Int)), .s (li (↑(Yeb Ydp (d.items.take k)) : Int))]) (fun k => k <= d.items.length /\ d.items.length <= 9223372036854775807) (fun k =>
 d.items.length - k) [.mk True (.exit 0) (fun x => [(3, hs x 0)]) (fun x => []) [.s (li (↑(Yeb Ydp d.items) : Int))]]
theorem Z8q (d : YS) (h : sizeY d <= 2147483647) (ih : ∀ (z : YS), z ∈ d.items -> sizeY z <= 2147483647 -> OK (Zz z)) : Lp.Sem Tryz.prog (Ydg Tryz.f95 0)
 (Z2h d) := Ydr (fun k => .i ((k : Int) < (↑(d.items.map Ycz).length : Int)) (.x (k : Int) (d.items.map Ycz) (Yda (d.items.getD k default)) (.d
 [.rd] (Zz (d.items.getD k default)) (.r ((k : Int) + 1) (.g [] (k + 1) [.s (li ((k : Int) + 1)), .s (li (max (↑(Yeb Ydp (d.items.take k)) : Int) (↑(Ydp
 (d.items.getD k default)) : Int)))])))) (.o 0 [] [.s (li (↑(Yeb Ydp (d.items.take k)) : Int))])) (by
 intro k h; try dsimp only [Yd3, Ydb, Z2h] at h ⊢
 have g1 := Ye6 d
 have g2 := @Yew _ sizeY d.items (d.items.getD k default)
 with_reducible repeat' (first | apply And.intro | exact zR | exact ih | (intro) | apply ih)
 all_goals ((try simp only [std, inj] at *); with_reducible and_intros)
 all_goals try with_reducible first | apply ih
 all_goals try first | exact z | grind [Yv9, Yd6, Yd7, Yd8, Yd4])
theorem Zau (d : YS) (h : sizeY d <= 2147483647) (ih : ∀ z ∈ d.items, ∀ (h : sizeY z <= 2147483647), Zz z)  : Zz d := Yde Tryz.call95 Tryz.func95 (.z Ycz
 d.items (.l (Z2h d) (Z8q d h ih) [] [.s (li 0), .s (li 0)] 0 (.t (.r ((↑(Yeb Ydp d.items) : Int) + 1) (.s (li ((↑(Yeb Ydp d.items) : Int) + 1)))) .q))) (by
 dsimp only [Yd3, Zz, Ydb, Z2h]
 have h1 := Y1ft d
 have g2 : Yeb Ydp (d.items.take 0) = 0 := rfl
 with_reducible repeat' (first | apply And.intro | exact zR | exact ih | (intro))
 all_goals ((try simp only [std, inj] at *); with_reducible and_intros)
 all_goals try with_reducible first | apply ih
 all_goals try first | exact z | grind [Yku, Yd7, Yd8, Yd4])
theorem Z9v (d : YS) : ∀ (h : sizeY d <= 2147483647), Zz d := YS.ind (P := fun d => ∀ (h : sizeY d <= 2147483647), Zz d) (fun d ih h => Zau d h ih) d
abbrev Z24 (d : YS) : Ct := ⟨96, [], [Ydl d], [], .sv (lb (okY d))⟩
def Z2x (d : YS) : Lp Nat := .mk 42 0 (fun x => [(1, .one (.ptr 0 0)), (6, ll (d.items.map Ycz)), (7, li (↑(d.items.map Ycz).length : Int)), (8,
 hs x 0)]) (fun x => [.box (vals (Yda d))]) (fun k => [.s (li (k : Int))]) (fun k => k <= d.items.length /\ d.items.length <= 9223372036854775807 /\ (d.items.take k).all
 okY = true) (fun k => d.items.length - k) [.mk (d.items.all okY = true) (.exit 0) (fun x => [(1, .one (.ptr 0 0))]) (fun x => [.box (vals (Yda d))]) [], .mk (d.items.all
 okY = false) .ret (fun x => [(2, hs x 0)]) (fun x => []) [.s (lb false)]]
theorem Z9i (d : YS) (ih : ∀ (z : YS), z ∈ d.items -> OK (Z24 z)) : Lp.Sem Tryz.prog (Ydg Tryz.f96 0) (Z2x d) := Ydr (fun k => .i ((k : Int) <
 (↑(d.items.map Ycz).length : Int)) (.x (k : Int) (d.items.map Ycz) (Yda (d.items.getD k default)) (.d [.rd] (Z24 (d.items.getD k default)) (.b (!okY
 (d.items.getD k default)) (.o 1 [] [.s (lb false)]) (.r ((k : Int) + 1) (.g [0] (k + 1) [.s (li ((k : Int) + 1))]))))) (.o 0 [0] [])) (by
 intro k h; try dsimp only [Yd3, Ydb, Z2x] at h ⊢
 with_reducible repeat' (first | apply And.intro | exact zR | exact ih | (intro) | apply ih)
 all_goals ((try simp only [std, inj] at *); with_reducible and_intros)
 all_goals try with_reducible first | apply ih
 all_goals try first | exact z | grind [Ydn, Yd6, Yd7, Yd8, Yd4])
theorem Zbw (d : YS) (ih : ∀ z ∈ d.items, Z24 z)  : Z24 d := Yde Tryz.call96 Tryz.func96 (.z Ycz d.items (.l (Z2x d) (Z9i d ih) [0] [.s (li
 0)] 0 (.t (.z Ycz d.items (.c [.rd, .rd, .rd, .rd] (Z9q d.kind d.number d.text (↑(d.items.map Ycz).length : Int)) (.b (Yjf d.kind d.number d.text (↑(List.map
 Ycz d.items).length : Int)) (.c [.rd] (Z27 d.scopes) (.b (Yi0 d.scopes) (.z Yd2 d.scopes (.i ((↑(d.scopes.map Yd2).length : Int) = 0) (.s (lb true)) (.s (lb
 (decide (d.kind = 1)))))) (.s (lb false)))) (.y false (.s (lb false)))))) (.t (.s (lb false)) .q)))) (by
 dsimp only [Yd3, Z24, Ydb, Z2x]
 with_reducible repeat' (first | apply And.intro | exact zR | exact ih | (intro))
 all_goals ((try simp only [std, inj] at *); with_reducible and_intros)
 all_goals try with_reducible first | apply ih
 all_goals try first | exact z | grind [Yj6, Yjc, Yd7, Yd8, Yd4])
theorem Zcr (d : YS) : Z24 d := YS.ind (P := fun d => Z24 d) (fun d ih => Zbw d ih) d
abbrev Z5h (d : YS) : Ct := ⟨37, [], [Ydl d], [], .sv (lb (Ydk d))⟩
theorem Z1s (d : YS)  : Z5h d := Yde Tryz.call37 Tryz.func37 (.d [.rd, .ptr] (Zy d 2000) (.i ((↑(sizeY d) : Int) <= 2000) (.d [.rd] (Zz d) (.i
 ((↑(Ydp d) : Int) <= 40) (.c [.rd] (Zcr d) (.s (lb (okY d)))) (.s (lb false)))) (.y false (.s (lb false))))) (by
 dsimp only [Yd3, Z5h]
 with_reducible repeat' (first | apply And.intro | exact zR | (intro) | apply Z9u | apply Z9v)
 all_goals ((try simp only [std, inj] at *); with_reducible and_intros)
 all_goals try with_reducible first | apply Z9u | apply Z9v
 all_goals try first | exact z | grind [Ydk, Yd7, Yd8, Yd4])
abbrev Zq (d : YS) (deep : Int) (q : Int) : Ct := ⟨54, [.box [vI q]], [Ydl d, li deep, .one (.ptr 0 0)], [.box [vI (Yed d deep q).2]], .sv (lb (Yed d deep q).1)⟩
def Z1d (d : YS) (deep : Int) (q : Int) : Lp Nat := .mk 64 1 (fun x => [(1, li deep), (2, .one (.ptr 0 0)), (51, ll (d.items.map Ycz)), (52, li
 (↑(d.items.map Ycz).length : Int)), (53, hs x 0)]) (fun x => [.box [ha x 1]]) (fun k => [.s (li (k : Int)), .a (vI (Yeg (fun x m => Yed x (deep + 1) m) (List.take k
 d.items) (q + 1)).snd)]) (fun k => k <= d.items.length /\ d.items.length <= 9223372036854775807 /\ deep <= 40 /\ (Yeg (fun x m => Yed x (deep + 1) m) (d.items.take k) (q +
 1)).fst = true /\ q <= (Yeg (fun x m => Yed x (deep + 1) m) (d.items.take k) (q + 1)).snd /\ (Yeg (fun x m => Yed x (deep + 1) m) (d.items.take k) (q + 1)).snd <= 2000)
 (fun k => d.items.length - k) [.mk ((Yeg (fun x m => Yed x (deep + 1) m) d.items (q + 1)).fst = true) (.exit 0) (fun x => []) (fun x => [.box [ha x 0]]) [.a (vI (Yeg (fun x m
 => Yed x (deep + 1) m) d.items (q + 1)).snd)], .mk ((Yeg (fun x m => Yed x (deep + 1) m) d.items (q + 1)).fst = false) .ret (fun x => [(6, hs x 0)]) (fun x => [.box [ha x
 1]]) [.s (lb false), .a (vI (Yeg (fun x m => Yed x (deep + 1) m) d.items (q + 1)).snd)]]
theorem Z5m (d : YS) (deep : Int) (q : Int) (h : 0 <= deep /\ deep <= 41 /\ 0 <= q /\ q <= 2000) (ih : ∀ (z : YS), z ∈ d.items -> ∀ (deep q : Int), 0 <= deep /\ deep <= 41 /\
 0 <= q /\ q <= 2000 -> OK (Zq z deep q)) : Lp.Sem Tryz.prog (Ydg Tryz.f54 0) (Z1d d deep q) := Ydr (fun k => .i ((k : Int) < (↑(d.items.map Ycz).length :
 Int)) (.x (k : Int) (d.items.map Ycz) (Yda (d.items.getD k default)) (.r (deep + 1) (.d [.rd, .rd, .ptr] (Zq (d.items.getD k default) (deep + 1) (Yeg (fun x
 m => Yed x (deep + 1) m) (d.items.take k) (q + 1)).snd) (.b (!(Yed (d.items.getD k default) (deep + 1) (Yeg (fun x m => Yed x (deep + 1) m) (d.items.take k) (q +
 1)).snd).fst) (.o 1 [0] [.s (lb false), .a (vI (Yed (d.items.getD k default) (deep + 1) (Yeg (fun x m => Yed x (deep + 1) m) (d.items.take k) (q + 1)).snd).snd)]) (.r ((↑k
 : Int) + 1) (.g [0] (k + 1) [.s (li ((k : Int) + 1)), .a (vI (Yed (d.items.getD k default) (deep + 1) (Yeg (fun x m => Yed x (deep + 1) m) (d.items.take k) (q +
 1)).snd).snd)])))))) (.o 0 [0] [.a (vI (Yeg (fun x m => Yed x (deep + 1) m) (d.items.take k) (q + 1)).snd)])) (by
 intro k h; try dsimp only [Yd3, Ydb, Z1d] at h ⊢
 have g1 := fun x m => Yoh x (deep + 1) m
 with_reducible repeat' (first | apply And.intro | exact zR | exact ih | (intro) | apply ih)
 all_goals ((try simp only [std, inj] at *); with_reducible and_intros)
 all_goals try with_reducible first | apply ih
 all_goals try first | exact z | grind [Yxo, Y1ae, Yd6, Yd7, Yd8, Yd4])
theorem Zav (d : YS) (deep q : Int) (h : 0 <= deep /\ deep <= 41 /\ 0 <= q /\ q <= 2000) (ih : ∀ z ∈ d.items, ∀ (deep : Int) (q : Int) (h : 0 <= deep /\ deep <= 41 /\ 0 <= q /\ q <=
 2000), Zq z deep q)  : Zq d deep q := Yde Tryz.call54 Tryz.func54 (.r (q + 1) (.i (40 < deep) (.y true (.y true (.f [] [.box [vI (q + 1)]] (.sv (lb false))))) (.i
 (2000 < q + 1) (.y true (.f [] [.box [vI (q + 1)]] (.sv (lb false)))) (.z Ycz d.items (.c [.rd, .rd, .rd, .rd] (Zcf d.kind d.number d.text (↑(List.map Ycz
 d.items).length : Int)) (.b (!Yjf d.kind d.number d.text (↑(d.items.map Ycz).length : Int)) (.f [] [.box [vI (q + 1)]] (.sv (lb false))) (.i (d.kind ≠ 1) (.z Yd2
 d.scopes (.i (0 < (↑(d.scopes.map Yd2).length : Int)) (.y true (.f [] [.box [vI (q + 1)]] (.sv (lb false)))) (.c [.rd] (Z37 d.scopes) (.b (!Yi0 d.scopes) (.f []
 [.box [vI (q + 1)]] (.sv (lb false))) (.z Ycz d.items (.l (Z1d d deep q) (Z5m d deep q h ih) [0] [.s (li 0), .a (vI (q + 1))] 0 (.t (.f [] [.box [vI
 (Yeg (fun x m => Yed x (deep + 1) m) d.items (q + 1)).snd]] (.sv (lb true))) (.t (.f [] [.box [vI (Yeg (fun x m => Yed x (deep + 1) m) d.items (q + 1)).snd]] (.sv (lb
 false))) .q)))))))) (.y false (.c [.rd] (Z37 d.scopes) (.b (!Yi0 d.scopes) (.f [] [.box [vI (q + 1)]] (.sv (lb false))) (.z Ycz d.items (.l (Z1d d deep q)
 (Z5m d deep q h ih) [0] [.s (li 0), .a (vI (q + 1))] 0 (.t (.f [] [.box [vI (Yeg (fun x m => Yed x (deep + 1) m) d.items (q + 1)).snd]] (.sv (lb true))) (.t (.f []
 [.box [vI (Yeg (fun x m => Yed x (deep + 1) m) d.items (q + 1)).snd]] (.sv (lb false))) .q)))))))))))))) (by
 dsimp only [Yd3, Zq, Ydb, Z1d]
 with_reducible repeat' (first | apply And.intro | exact zR | exact ih | (intro))
 all_goals ((try simp only [std, inj] at *); with_reducible and_intros)
 all_goals try with_reducible first | apply ih
 all_goals try first | exact z | grind [Y154, Yeg, Yjc, Yd7, Yd8, Yd4])
theorem Ze (d : YS) : ∀ (deep : Int) (q : Int) (h : 0 <= deep /\ deep <= 41 /\ 0 <= q /\ q <= 2000), Zq d deep q := YS.ind (P := fun d => ∀ (deep : Int) (q : Int) (h : 0 <= deep /\ deep <= 41 /\ 0 <= q /\ q <= 2000), Zq d deep q) (fun d ih deep q h => Zav d deep q h ih) d
abbrev Z5i (d : YS) : Ct := ⟨19, [], [Ydl d], [], .sv (lb (Ydk d))⟩
theorem Z1t (d : YS)  : Z5i d := Yde Tryz.call19 Tryz.func19 (.d [.rd, .rd, .ptr] (Zq d 1 0) (.s (lb (Yed d 1 0).fst))) (by
 dsimp only [Yd3, Z5i]
 with_reducible repeat' (first | apply And.intro | exact zR | (intro) | apply Ze)
 all_goals ((try simp only [std, inj] at *); with_reducible and_intros)
 all_goals try with_reducible first | apply Ze
 all_goals try first | exact z | grind [Yoo, Yd7, Yd8, Yd4])
abbrev Z7k (s : YS) : Ct := ⟨41, [], [Ydl s], [], .sv (lb (decide (s.kind = 1) && Ydk s))⟩
theorem Z72 (s : YS)  : Z7k s := Yde Tryz.call41 Tryz.func41 (.i (s.kind = 1) (.c [.rd] (Z1s s) (.s (lb (Ydk s)))) (.s (lb false))) (by
 dsimp only [Yd3, Z7k]
 exact zV)
abbrev Z7l (s : YS) : Ct := ⟨166, [], [Ydl s], [], .sv (lb (decide (s.kind = 1) && Ydk s))⟩
theorem Z16 (s : YS)  : Z7l s := Yde Tryz.call166 Tryz.func166 (.i (s.kind = 1) (.c [.rd] (Z1t s) (.s (lb (Ydk s)))) (.s (lb false))) (by
 dsimp only [Yd3, Z7l]
 exact zV)
set_option maxHeartbeats 4000000
abbrev Z5j (A : List Int) (B : List Int) : Ct := ⟨117, [], [ll (A.map Yd2), ll (B.map Yd2)], [], .sv (lb (decide (A = B)))⟩
def Z1n (A : List Int) (B : List Int) : Lp Nat := .mk 26 0 (fun x => [(0, ll (A.map Yd2)), (1, ll (B.map Yd2)), (12, li (↑(A.map Yd2).length : Int)),
 (13, hs x 0)]) (fun x => []) (fun k => [.s (li (k : Int))]) (fun k => k <= A.length /\ A.length <= 9223372036854775807 /\ A.length = B.length /\ A.take k = B.take k) (fun k
 => A.length - k) [.mk (A = B) (.exit 0) (fun x => []) (fun x => []) [], .mk (A ≠ B) .ret (fun x => [(4, hs x 0)]) (fun x => []) [.s (lb false)]]
theorem Z73 (A : List Int) (B : List Int) : Lp.Sem Tryz.prog (Ydg Tryz.f117 0) (Z1n A B) := Ydr (fun k => .i ((k : Int) < (↑(A.map Yd2).length :
 Int)) (.w (.draw []) (.x (k : Int) (A.map Yd2) [cI (A.getD k 0)] (.x (k : Int) (B.map Yd2) [cI (B.getD k 0)] (.i (A.getD k (0 : Int) ≠ B.getD k 0) (.o 1 [] [.s (lb
 false)]) (.r ((k : Int) + 1) (.g [] (k + 1) [.s (li ((k : Int) + 1))])))))) (.o 0 [] [])) (by
 intro k h; try dsimp only [Yd3, Ydb, Z1n] at h ⊢
 with_reducible repeat' (first | apply And.intro | exact zR | (intro))
 all_goals ((try simp only [std, inj] at *); with_reducible and_intros)
 all_goals try first | exact z | grind [Ywd, Yd7, Yd8, Yd4])
theorem Z69 (A B : List Int)  : Z5j A B := Yde Tryz.call117 Tryz.func117 (.z Yd2 A (.z Yd2 B (.i ((↑(A.map Yd2).length : Int) ≠ (↑(B.map Yd2).length
 : Int)) (.s (lb false)) (.z Yd2 A (.l (Z1n A B) (Z73 A B) [] [.s (li 0)] 0 (.t (.s (lb true)) (.t (.s (lb false)) .q))))))) (by
 dsimp only [Yd3, Z5j, Ydb, Z1n]
 exact zV)
abbrev Z5k (A : List Int) (B : List Int) : Ct := ⟨46, [], [ll (A.map Yd2), ll (B.map Yd2)], [], .sv (lb (decide (A = B)))⟩
def Z1o (A : List Int) (B : List Int) : Lp Nat := .mk 26 0 (fun x => [(0, ll (A.map Yd2)), (1, ll (B.map Yd2)), (12, li (↑(A.map Yd2).length : Int)),
 (13, hs x 0)]) (fun x => []) (fun k => [.s (li (k : Int))]) (fun k => k <= A.length /\ A.length <= 9223372036854775807 /\ A.length = B.length /\ A.take k = B.take k) (fun k
 => A.length - k) [.mk (A = B) (.exit 0) (fun x => []) (fun x => []) [], .mk (A ≠ B) .ret (fun x => [(4, hs x 0)]) (fun x => []) [.s (lb false)]]
theorem Z74 (A : List Int) (B : List Int) : Lp.Sem Tryz.prog (Ydg Tryz.f46 0) (Z1o A B) := Ydr (fun k => .i ((k : Int) < (↑(A.map Yd2).length :
 Int)) (.w (.draw []) (.x (k : Int) (A.map Yd2) [cI (A.getD k 0)] (.x (k : Int) (B.map Yd2) [cI (B.getD k 0)] (.i (A.getD k (0 : Int) ≠ B.getD k 0) (.o 1 [] [.s (lb
 false)]) (.r ((k : Int) + 1) (.g [] (k + 1) [.s (li ((k : Int) + 1))])))))) (.o 0 [] [])) (by
 intro k h; try dsimp only [Yd3, Ydb, Z1o] at h ⊢
 with_reducible repeat' (first | apply And.intro | exact zR | (intro))
 all_goals ((try simp only [std, inj] at *); with_reducible and_intros)
 all_goals try first | exact z | grind [Ywd, Yd7, Yd8, Yd4])
theorem Z4p (A B : List Int)  : Z5k A B := Yde Tryz.call46 Tryz.func46 (.z Yd2 A (.z Yd2 B (.i ((↑(A.map Yd2).length : Int) ≠ (↑(B.map Yd2).length :
 Int)) (.s (lb false)) (.z Yd2 A (.l (Z1o A B) (Z74 A B) [] [.s (li 0)] 0 (.t (.s (lb true)) (.t (.s (lb false)) .q))))))) (by
 dsimp only [Yd3, Z5k, Ydb, Z1o]
 exact zV)
abbrev Zf (x : YS) (y : YS) : Ct := ⟨13, [], [Ydl x, Ydl y], [], .sv (lb (decide (x = y)))⟩
def Z12 (x : YS) (y : YS) : Lp Nat := .mk 61 0 (fun x_1 => [(2, .one (.ptr 0 0)), (3, .one (.ptr 1 0)), (44, li (↑(x.items.map Ycz).length :
 Int)), (45, hs x_1 0)]) (fun x_1 => [.box (vals (Yda x)), .box (vals (Yda y))]) (fun k => [.s (li (k : Int))]) (fun k => k <= x.items.length /\ x.items.length <=
 9223372036854775807 /\ x.items.length = y.items.length /\ x.items.take k = y.items.take k) (fun k => x.items.length - k) [.mk (x.items = y.items) (.exit 0) (fun x => [])
 (fun x => []) [], .mk (x.items ≠ y.items) .ret (fun x => [(4, hs x 0)]) (fun x => []) [.s (lb false)]]
theorem Z6f (x : YS) (y : YS) (ih : ∀ (z : YS), z ∈ x.items -> ∀ (y : YS), OK (Zf z y)) : Lp.Sem Tryz.prog (Ydg Tryz.f13 0)
 (Z12 x y) := Ydr (fun k => .i ((k : Int) < (↑(x.items.map Ycz).length : Int)) (.w (.draw []) (.x (k : Int) (x.items.map Ycz) (Yda
 (x.items.getD k default)) (.x (k : Int) (y.items.map Ycz) (Yda (y.items.getD k default)) (.d [.rd, .rd] (Zf (x.items.getD k default) (y.items.getD k
 default)) (.b (!decide (x.items.getD k default = y.items.getD k default)) (.o 1 [] [.s (lb false)]) (.r ((k : Int) + 1) (.g [0, 1] (k + 1) [.s (li ((k : Int) + 1))]))))))) (.o 0
 [] [])) (by
 intro k h; try dsimp only [Yd3, Ydb, Z12] at h ⊢
 with_reducible repeat' (first | apply And.intro | exact zR | exact ih | (intro) | apply ih)
 all_goals ((try simp only [std, inj] at *); with_reducible and_intros)
 all_goals try with_reducible first | apply ih
 all_goals try first | exact z | grind [Ywd, Yd6, Yd7, Yd8, Yd4])
theorem Z82 (x y : YS) (ih : ∀ z ∈ x.items, ∀ (y : YS), Zf z y)  : Zf x y := Yde Tryz.call13 Tryz.func13 (.i (x.kind ≠ y.kind) (.y true (.y
 true (.y true (.y true (.s (lb false)))))) (.i (x.number ≠ y.number) (.y true (.y true (.y true (.s (lb false))))) (.i (x.text.data.toList ≠ y.text.data.toList) (.y true (.y true
 (.s (lb false)))) (.c [.rd, .rd] (Z4p x.scopes y.scopes) (.b (!decide (x.scopes = y.scopes)) (.y true (.s (lb false))) (.z Ycz x.items (.z Ycz y.items (.i
 ((↑(x.items.map Ycz).length : Int) ≠ (↑(y.items.map Ycz).length : Int)) (.s (lb false)) (.z Ycz x.items (.l (Z12 x y) (Z6f x y ih)
 [0, 1] [.s (li 0)] 0 (.t (.s (lb true)) (.t (.s (lb false)) .q)))))))))))) (by
 dsimp only [Yd3, Zf, Ydb, Z12]
 simp only [Y18h]
 with_reducible repeat' (first | apply And.intro | exact zR | exact ih | (intro))
 all_goals ((try simp only [std, inj] at *); with_reducible and_intros)
 all_goals try with_reducible first | apply ih
 all_goals try first | exact z | grind [Yh2, Yd7, Yd8, Yd4])
theorem Z9j (x : YS) : ∀ (y : YS), Zf x y := YS.ind (P := fun x => ∀ (y : YS), Zf x y) (fun x ih y => Z82 x y ih) x
set_option maxHeartbeats 4000000
def Y16w : List UInt8 := [46, 46, 46]
def Yd5 (s : YS) : Bool := decide (s.kind = 1) && decide (s.text.data.toList = Y16w)
def Ygq (s : YS) : Bool := decide (s.kind = 1) && Ydk s
def Yg0 (s : YS) (x : YC) : Bool := decide (x.name.text = s.text) && decide (x.name.scopes = s.scopes) && Ygq x.name
def Yfz (L : List YC) (s : YS) : Nat := L.findIdx (Yg0 s)
def fnd (L : List YC) (s : YS) : Int := if Yd5 s = false /\ Yfz L s < L.length then Yfz L s else -1
theorem Y14g {L : List YC} {s : YS} {k : Nat} (hk : k < L.length) (hb : k <= Yfz L s) (h : Yg0 s (L.getD k default) = true) : Yfz L s = k := by
 have h1 : L.getD k default = L[k] := by simp [hk]
 rw [h1] at h
 rcases Nat.lt_or_ge k (Yfz L s) with h2 | h2
 ·have := List.not_of_lt_findIdx h2
  simp [h] at this
 ·omega
theorem Yxy {L : List YC} {s : YS} {k : Nat} (hk : k < L.length) (hb : k <= Yfz L s) (h : Yg0 s (L.getD k default) = false) : k + 1 <= Yfz L s := by
 have h1 : L.getD k default = L[k] := by simp [hk]
 rw [h1] at h
 rcases Nat.lt_or_ge k (Yfz L s) with h2 | h2
 ·exact h2
 ·have e : Yfz L s = k := by omega
  have := List.findIdx_getElem (p := Yg0 s) (xs := L) (w := by show Yfz L s < _; omega)
  have h3 : Yg0 s (L[Yfz L s]'(by omega)) = true := this
  simp only [e, h] at h3
  exact absurd h3 (by decide)
theorem Ywq (L : List YC) (s : YS) : Yfz L s <= L.length := List.findIdx_le_length
theorem Yn8 (L : List YC) (s : YS) : -1 <= fnd L s /\ fnd L s < L.length := by
 unfold fnd; split <;> omega
abbrev Z7m (s : YS) : Ct := ⟨101, [], [Ydl s], [], .sv (lb (Yd5 s))⟩
theorem Z2s (s : YS)  : Z7m s := Yde Tryz.call101 Tryz.func101 (.i (s.kind = 1) (.s (lb (decide (s.text.data.toList = [(46 : UInt8), (46 : UInt8), (46 : UInt8)]))))
 (.s (lb false))) (by
 dsimp only [Yd3, Z7m]
 with_reducible repeat' (first | apply And.intro | exact zR | (intro))
 all_goals ((try simp only [std, inj] at *); with_reducible and_intros)
 all_goals try first | exact z | grind [Yd5, Y16w, Yd7, Yd8, Yd4])
abbrev Z7n (s : YS) : Ct := ⟨105, [], [Ydl s], [], .sv (lb (Yd5 s))⟩
theorem Z1 (s : YS)  : Z7n s := Yde Tryz.call105 Tryz.func105 (.i (s.kind = 1) (.s (lb (decide (s.text.data.toList = [(46 : UInt8), (46 : UInt8), (46 : UInt8)]))))
 (.s (lb false))) (by
 dsimp only [Yd3, Z7n]
 with_reducible repeat' (first | apply And.intro | exact zR | (intro))
 all_goals ((try simp only [std, inj] at *); with_reducible and_intros)
 all_goals try first | exact z | grind [Yd5, Y16w, Yd7, Yd8, Yd4])
abbrev Z7o (a : YS) (b : YS) : Ct := ⟨53, [], [Ydl a, Ydl b], [], .sv (lb (decide (a.text = b.text) && decide (a.scopes = b.scopes)))⟩
theorem Z9w (a b : YS)  : Z7o a b := Yde Tryz.call53 Tryz.func53 (.i (a.text.data.toList = b.text.data.toList) (.c [.rd, .rd] (Z69 a.scopes b.scopes) (.s (lb
 (decide (a.scopes = b.scopes))))) (.s (lb false))) (by
 dsimp only [Yd3, Z7o]
 with_reducible repeat' (first | apply And.intro | exact zR | (intro))
 all_goals ((try simp only [std, inj] at *); with_reducible and_intros)
 all_goals try first | exact z | grind [Yh2, Yd7, Yd8, Yd4])
abbrev Z7p (a : YS) (b : YS) : Ct := ⟨116, [], [Ydl a, Ydl b], [], .sv (lb (decide (a.kind = 1) && decide (b.kind = 1) && decide (a.text = b.text) && decide (a.scopes = b.scopes)))⟩
theorem Z75 (a b : YS)  : Z7p a b := Yde Tryz.call116 Tryz.func116 (.i (a.kind = 1) (.i (b.kind = 1) (.i (a.text.data.toList = b.text.data.toList) (.c [.rd, .rd]
 (Z4p a.scopes b.scopes) (.s (lb (decide (a.scopes = b.scopes))))) (.s (lb false))) (.y false (.s (lb false)))) (.y false (.y false (.s (lb false))))) (by
 dsimp only [Yd3, Z7p]
 with_reducible repeat' (first | apply And.intro | exact zR | (intro))
 all_goals ((try simp only [std, inj] at *); with_reducible and_intros)
 all_goals try first | exact z | grind [Yh2, Yd7, Yd8, Yd4])
abbrev Z7q (L : List YC) (s : YS) : Ct := ⟨102, [], [ll (L.map Yd0), Ydl s], [], .sv (li (fnd L s))⟩
def Z3a (L : List YC) (s : YS) : Lp Nat := .mk 30 0 (fun x => [(3, .one (.ptr 0 0)), (7, ll (L.map Yd0)), (8, li (↑(L.map Yd0).length :
 Int)), (9, hs x 0)]) (fun x => [.box (vals (Yda s))]) (fun k => [.s (li (k : Int))]) (fun k => k <= L.length /\ L.length <= 9223372036854775807 /\ (Yd5 s = true ∨ k <= Yfz L
 s)) (fun k => L.length - k) [.mk (fnd L s = (-1 : Int)) (.exit 0) (fun x => []) (fun x => []) [], .mk True .ret (fun x => [(4, hs x 0)]) (fun x => []) [.s (li (fnd L s))]]
theorem Za3 (L : List YC) (s : YS) : Lp.Sem Tryz.prog (Ydg Tryz.f102 0) (Z3a L s) := Ydr (fun k => .i ((k : Int) < (↑(L.map Yd0).length :
 Int)) (.x (k : Int) (L.map Yd0) (Ydj (L.getD k default)) (.c [.rd, .rd] (Z9w (L.getD k default).name s) (.b (decide ((L.getD k default).name.text = s.text) &&
 decide ((L.getD k default).name.scopes = s.scopes)) (.c [.rd] (Z2s s) (.b (!Yd5 s) (.c [.rd] (Z72 (L.getD k default).name) (.b (decide ((L.getD k default).name.kind =
 1) && Ydk (L.getD k default).name) (.o 1 [] [.s (li (k : Int))]) (.r ((k : Int) + 1) (.g [0] (k + 1) [.s (li ((k : Int) + 1))])))) (.y false (.r ((k : Int) + 1) (.g [0] (k +
 1) [.s (li ((k : Int) + 1))]))))) (.y false (.y false (.r ((k : Int) + 1) (.g [0] (k + 1) [.s (li ((k : Int) + 1))]))))))) (.o 0 [] [])) (by
 intro k h; try dsimp only [Yd3, Ydb, Z3a] at h ⊢
 have g1 := @Y14g L s k
 have g2 := @Yxy L s k
 have g3 := Ywq L s
 with_reducible repeat' (first | apply And.intro | exact zR | (intro))
 all_goals ((try simp only [std, inj] at *); with_reducible and_intros)
 all_goals try first | exact z | grind [fnd, Yg0, Ygq, Yd7, Yd8, Yd4])
theorem Z76 (L : List YC) (s : YS)  : Z7q L s := Yde Tryz.call102 Tryz.func102 (.z Yd0 L (.l (Z3a L s) (Za3 L s) [0] [.s (li 0)] 0 (.t (.s (li
 (-1 : Int))) (.t (.s (li (fnd L s))) .q)))) (by
 dsimp only [Yd3, Z7q, Ydb, Z3a]
 exact zV)
abbrev Z7r (L : List YC) (s : YS) : Ct := ⟨106, [], [ll (L.map Yd0), Ydl s], [], .sv (li (if s.kind = 1 then fnd L s else -1))⟩
def Z3b (L : List YC) (s : YS) : Lp Nat := .mk 32 0 (fun x => [(3, .one (.ptr 0 0)), (14, ll (L.map Yd0)), (15, li (↑(L.map Yd0).length :
 Int)), (16, hs x 0)]) (fun x => [.box (vals (Yda s))]) (fun k => [.s (li (k : Int))]) (fun k => k <= L.length /\ L.length <= 9223372036854775807 /\ k <= Yfz L s /\ s.kind = 1 /\
 Yd5 s = false) (fun k => L.length - k) [.mk (fnd L s = (-1 : Int)) (.exit 0) (fun x => []) (fun x => []) [], .mk True .ret (fun x => [(4, hs x 0)]) (fun x => []) [.s (li (fnd L
 s))]]
theorem Za4 (L : List YC) (s : YS) : Lp.Sem Tryz.prog (Ydg Tryz.f106 0) (Z3b L s) := Ydr (fun k => .i ((k : Int) < (↑(L.map Yd0).length :
 Int)) (.x (k : Int) (L.map Yd0) (Ydj (L.getD k default)) (.c [.rd] (Z16 (L.getD k default).name) (.b (decide ((L.getD k default).name.kind = 1) && Ydk
 (L.getD k default).name) (.c [.rd, .rd] (Z75 (L.getD k default).name s) (.b (decide ((L.getD k default).name.kind = 1) && decide (s.kind = 1) && decide ((L.getD k
 default).name.text = s.text) && decide ((L.getD k default).name.scopes = s.scopes)) (.o 1 [] [.s (li (k : Int))]) (.r ((k : Int) + 1) (.g [0] (k + 1) [.s (li ((k : Int) +
 1))])))) (.y false (.r ((k : Int) + 1) (.g [0] (k + 1) [.s (li ((k : Int) + 1))])))))) (.o 0 [] [])) (by
 intro k h; try dsimp only [Yd3, Ydb, Z3b] at h ⊢
 have g1 := @Y14g L s k
 have g2 := @Yxy L s k
 have g3 := Ywq L s
 with_reducible repeat' (first | apply And.intro | exact zR | (intro) | apply Z16)
 all_goals ((try simp only [std, inj] at *); with_reducible and_intros)
 all_goals try with_reducible first | apply Z16
 all_goals try first | exact z | grind [fnd, Yg0, Ygq, Yd7, Yd8, Yd4])
theorem Z9x (L : List YC) (s : YS)  : Z7r L s := Yde Tryz.call106 Tryz.func106 (.i (s.kind ≠ 1) (.y true (.s (li (-1 : Int)))) (.c [.rd] (Z1 s) (.b (Yd5
 s) (.s (li (-1 : Int))) (.z Yd0 L (.l (Z3b L s) (Za4 L s) [0] [.s (li 0)] 0 (.t (.s (li (-1 : Int))) (.t (.s (li (fnd L s))) .q))))))) (by
 dsimp only [Yd3, Z7r, Ydb, Z3b]
 with_reducible repeat' (first | apply And.intro | exact zR | (intro) | apply Z16)
 all_goals ((try simp only [std, inj] at *); with_reducible and_intros)
 all_goals try with_reducible first | apply Z16
 all_goals try first | exact z | grind [fnd, Yd7, Yd8, Yd4])
def Yxm (L : List YC) (s : YS) : Int := (L.getD (fnd L s).toNat default).depth
mutual
/-- is there a name of a deeper capture? -/
def drv (L : List YC) (v : Int) : YS -> Bool
 | ⟨k, n, t, s, l⟩ => if k = 1 then decide (0 <= fnd L ⟨k, n, t, s, l⟩) && decide (v < Yxm L ⟨k, n, t, s, l⟩) else Y102 L v l
def Y102 (L : List YC) (v : Int) : List YS -> Bool
 | [] => false
 | x :: r => drv L v x || Y102 L v r
end
theorem Y14y (L : List YC) (v : Int) : ∀ l, Y102 L v l = l.any (drv L v)
 | [] => by simp [Y102]
 | x :: r => by rw [Y102, Y14y L v r]; rfl
theorem Y19n (L : List YC) (v : Int) (t : YS) : drv L v t = if t.kind = 1 then decide (0 <= fnd L t) && decide (v < Yxm L t) else t.items.any (drv L v) := by cases t; simp only [drv, Y14y]
mutual
/-- the reference's test of a template -/
def fit (L : List YC) : YS -> Int -> Bool
 | ⟨k, n, t, s, l⟩, v => if k = 1 then !Yd5 ⟨k, n, t, s, l⟩ && (decide (fnd L ⟨k, n, t, s, l⟩ < 0) || decide (Yxm L ⟨k, n, t, s, l⟩ <= v)) else Yge L l v
def Yge (L : List YC) : List YS -> Int -> Bool
 | [], _ => true
 | [x], v => fit L x v
 | x :: y :: r, v => if Yd5 y then !Yd5 x && drv L v x && fit L x (v + 1) && Yge L r v else fit L x v && Yge L (y :: r) v
end
theorem Y11v (L : List YC) (t : YS) (v : Int) : fit L t v = if t.kind = 1 then !Yd5 t && (decide (fnd L t < 0) || decide (Yxm L t <= v)) else Yge L t.items v := by cases t; simp only [fit]
theorem Y1b2 {L : List YC} {l : List YS} {k : Nat} {v : Int} (h : k + 1 = l.length) : Yge L (l.drop k) v = fit L (l.getD k default) v := by
 rw [Yfj (by omega), List.drop_eq_nil_of_le (by omega), Yge]
theorem Y178 {L : List YC} {l : List YS} {k : Nat} {v : Int} (h : k + 1 < l.length) (hd : Yd5 (l.getD (k + 1) default) = false) : Yge L (l.drop k) v = (fit L (l.getD k default) v && Yge L (l.drop (k + 1)) v) := by
 rw [Yfj (by omega : k < l.length), Yfj h, Yge, hd]; rfl
theorem Y198 {L : List YC} {l : List YS} {k : Nat} {v : Int} (h : k + 1 < l.length) (hd : Yd5 (l.getD (k + 1) default) = true) : Yge L (l.drop k) v = (!Yd5 (l.getD k default) && drv L v (l.getD k default) && fit L (l.getD k default) (v + 1) && Yge L (l.drop (k + 1 + 1)) v) := by
 rw [Yfj (by omega : k < l.length), Yfj h, Yge, hd]; rfl
theorem Yzt {L : List YC} {l : List YS} {k : Nat} {v : Int} (h : l.length <= k) : Yge L (l.drop k) v = true := by
 rw [List.drop_eq_nil_of_le h, Yge]
theorem Yh7 {t : YS} {k : Nat} (h : k < t.items.length) : Ydp (t.items.getD k default) + 1 <= Ydp t := by
 have := Yqu Ydp (Yd6 h)
 rw [Yku t]; omega
abbrev Z25 (L : List YC) (t : YS) (v : Int) : Ct := ⟨104, [], [ll (L.map Yd0), Ydl t, li v], [], .sv (lb (drv L v t))⟩
def Z2y (L : List YC) (t : YS) (v : Int) : Lp Nat := .mk 39 0 (fun x => [(0, ll (L.map Yd0)), (2, li v), (28, ll (t.items.map Ycz)), (29, li
 (↑(t.items.map Ycz).length : Int)), (30, hs x 0)]) (fun x => []) (fun k => [.s (li (k : Int))]) (fun k => k <= t.items.length /\ t.items.length <= 9223372036854775807 /\
 (t.items.take k).any (drv L v) = false) (fun k => t.items.length - k) [.mk (t.items.any (drv L v) = false) (.exit 0) (fun x => []) (fun x => []) [], .mk (t.items.any (drv L
 v) = true) .ret (fun x => [(6, hs x 0)]) (fun x => []) [.s (lb true)]]
theorem Z9k (L : List YC) (t : YS) (v : Int) (ih : ∀ (z : YS), z ∈ t.items -> ∀ (L : List YC) (v : Int), OK (Z25 L z v)) : Lp.Sem Tryz.prog (Ydg
 Tryz.f104 0) (Z2y L t v) := Ydr (fun k => .i ((k : Int) < (↑(t.items.map Ycz).length : Int)) (.x (k : Int) (t.items.map Ycz) (Yda (t.items.getD k
 default)) (.d [.rd, .rd, .rd] (Z25 L (t.items.getD k default) v) (.b (drv L v (t.items.getD k default)) (.o 1 [] [.s (lb true)]) (.r ((k : Int) + 1) (.g [] (k + 1) [.s (li
 ((k : Int) + 1))]))))) (.o 0 [] [])) (by
 intro k h; try dsimp only [Yd3, Ydb, Z2y] at h ⊢
 with_reducible repeat' (first | apply And.intro | exact zR | exact ih | (intro) | apply ih)
 all_goals ((try simp only [std, inj] at *); with_reducible and_intros)
 all_goals try with_reducible first | apply ih
 all_goals try first | exact z | grind [Ydn, Yd6, Yd7, Yd8, Yd4])
theorem Zbx (L : List YC) (t : YS) (v : Int) (ih : ∀ z ∈ t.items, ∀ (L : List YC) (v : Int), Z25 L z v)  : Z25 L t v := Yde Tryz.call104 Tryz.func104
 (.i (t.kind = 1) (.c [.rd, .rd] (Z76 L t) (.i (0 <= fnd L t) (.x (fnd L t) (L.map Yd0) (Ydj (L.getD (fnd L t).toNat default)) (.s (lb (decide (v < (L.getD (fnd L
 t).toNat default).depth))))) (.s (lb false)))) (.z Ycz t.items (.l (Z2y L t v) (Z9k L t v ih) [] [.s (li 0)] 0 (.t (.s (lb false)) (.t (.s (lb true)) .q)))))
 (by
 dsimp only [Yd3, Z25, Ydb, Z2y]
 have g := Yn8 L t
 with_reducible repeat' (first | apply And.intro | exact zR | exact ih | (intro))
 all_goals ((try simp only [std, inj] at *); with_reducible and_intros)
 all_goals try with_reducible first | apply ih
 all_goals try first | exact z | grind [Y19n, Yxm, Yd7, Yd8, Yd4])
theorem Zcs (t : YS) : ∀ (L : List YC) (v : Int), Z25 L t v := YS.ind (P := fun t => ∀ (L : List YC) (v : Int), Z25 L t v) (fun t ih L v => Zbx L t v ih) t
abbrev Zu (L : List YC) (t : YS) (v : Int) : Ct := ⟨42, [], [ll (L.map Yd0), Ydl t, li v], [], .sv (lb (fit L t v))⟩
def Z2z (L : List YC) (t : YS) (v : Int) : Lp Nat := .mk 79 0 (fun x => [(0, ll (L.map Yd0)), (2, li v), (4, .one (.ptr 0 0)), (8, hs x 0)]) (fun x
 => [.box (vals (Yda t))]) (fun k => [.s (li (k : Int))]) (fun k => t.items.length >= k /\ Yge L t.items v = Yge L (t.items.drop k) v) (fun k => t.items.length - k)
 [.mk (Yge L t.items v = true) (.exit 0) (fun x => []) (fun x => []) [], .mk (Yge L t.items v = false) .ret (fun x => [(6, hs x 0)]) (fun x => []) [.s (lb false)]]
theorem Z9l (L : List YC) (t : YS) (v : Int) (h : 0 <= v /\ v + (↑(Ydp t) : Int) <= 1000) (ih : ∀ (z : YS), z ∈ t.items -> ∀ (L : List YC) (v : Int), 0 <= v /\
 v + (↑(Ydp z) : Int) <= 1000 -> OK (Zu L z v)) : Lp.Sem Tryz.prog (Ydg Tryz.f42 0) (Z2z L t v) := Ydr (fun k => .z Ycz t.items (.i ((k : Int) < (↑(List.map
 Ycz t.items).length : Int)) (.x (k : Int) (t.items.map Ycz) (Yda (t.items.getD k default)) (.r ((k : Int) + 1) (.z Ycz t.items (.i ((k : Int) + 1 <
 (↑(t.items.map Ycz).length : Int)) (.r ((k : Int) + 1) (.x ((k : Int) + 1) (t.items.map Ycz) (Yda (t.items.getD (k + 1) default)) (.c [.rd] (Z2s
 (t.items.getD (k + 1) default)) (.b (Yd5 (t.items.getD (k + 1) default)) (.c [.rd] (Z2s (t.items.getD k default)) (.b (Yd5 (t.items.getD k default)) (.y true (.o 1 []
 [.s (lb false)])) (.c [.rd, .rd, .rd] (Zcs (t.items.getD k default) L v) (.b (!drv L v (t.items.getD k default)) (.o 1 [] [.s (lb false)]) (.r (v + 1) (.r ((k : Int) + 1) (.d
 [.rd, .rd, .rd] (Zu L (t.items.getD k default) (v + 1)) (.b (!fit L (t.items.getD k default) (v + 1)) (.o 1 [] [.s (lb false)]) (.r ((k : Int) + 1 + 1) (.g [0] (k + 1 + 1)
 [.s (li ((k : Int) + 1 + 1))])))))))))) (.d [.rd, .rd, .rd] (Zu L (t.items.getD k default) v) (.b (!fit L (t.items.getD k default) v) (.o 1 [] [.s (lb false)]) (.r ((↑k :
 Int) + 1) (.g [0] (k + 1) [.s (li ((k : Int) + 1))])))))))) (.y false (.d [.rd, .rd, .rd] (Zu L (t.items.getD k default) v) (.b (!fit L (t.items.getD k default) v) (.o 1 []
 [.s (lb false)]) (.r ((k : Int) + 1) (.g [0] (k + 1) [.s (li ((k : Int) + 1))]))))))))) (.o 0 [] []))) (by
 intro k h; try dsimp only [Yd3, Ydb, Z2z] at h ⊢
 have g1 := @Y1b2 L t.items k v
 have g2 := @Y178 L t.items k v
 have g3 := @Y198 L t.items k v
 have g4 := @Yzt L t.items k v
 have g5 := @Yh7 t k
 have g6 := @Yzt L t.items (k + 1) v
 with_reducible repeat' (first | apply And.intro | exact zR | exact ih | (intro) | apply ih)
 all_goals ((try simp only [std, inj] at *); with_reducible and_intros)
 all_goals try with_reducible first | apply ih
 all_goals try first | exact z | grind [Yd6, Yd7, Yd8, Yd4])
theorem Zby (L : List YC) (t : YS) (v : Int) (h : 0 <= v /\ v + Ydp t <= 1000) (ih : ∀ z ∈ t.items, ∀ (L : List YC) (v : Int) (h : 0 <= v /\ v + Ydp z <= 1000),
 Zu L z v)  : Zu L t v := Yde Tryz.call42 Tryz.func42 (.i (t.kind = 1) (.c [.rd, .rd] (Z76 L t) (.c [.rd] (Z2s t) (.b (!Yd5 t) (.i (fnd L t < 0) (.s (lb
 true)) (.x (fnd L t) (L.map Yd0) (Ydj (L.getD (fnd L t).toNat default)) (.s (lb (decide ((L.getD (fnd L t).toNat default).depth <= v)))))) (.s (lb false))))) (.l
 (Z2z L t v) (Z9l L t v h ih) [0] [.s (li 0)] 0 (.t (.s (lb true)) (.t (.s (lb false)) .q)))) (by
 dsimp only [Yd3, Zu, Ydb, Z2z]
 have g := Yn8 L t
 with_reducible repeat' (first | apply And.intro | exact zR | exact ih | (intro))
 all_goals ((try simp only [std, inj] at *); with_reducible and_intros)
 all_goals try with_reducible first | apply ih
 all_goals try first | exact z | grind [Y11v, Yxm, Yd7, Yd8, Yd4])
theorem Z6p (t : YS) : ∀ (L : List YC) (v : Int) (h : 0 <= v /\ v + Ydp t <= 1000), Zu L t v := YS.ind (P := fun t => ∀ (L : List YC) (v : Int) (h : 0 <= v /\ v + Ydp t <= 1000), Zu L t v) (fun t ih L v h => Zby L t v h ih) t
def tmF (L : List YC) (t : YS) : Bool := L.all (fun x => Ygq x.name && decide (0 <= x.depth)) && Ydk t && fit L t 0
abbrev Z8r (L : List YC) (t : YS) : Ct := ⟨10, [], [ll (L.map Yd0), Ydl t], [], .sv (lb (tmF L t))⟩
def Z46 (L : List YC) (t : YS) : Lp Nat := .mk 30 0 (fun x => [(0, ll (L.map Yd0)), (3, .one (.ptr 0 0)), (7, ll (L.map Yd0)), (8, li
 (↑(L.map Yd0).length : Int)), (9, hs x 0)]) (fun x => [.box (vals (Yda t))]) (fun k => [.s (li (k : Int))]) (fun k => k <= L.length /\ L.length <=
 9223372036854775807 /\ ((L.take k).all fun x => Ygq x.name && decide (0 <= x.depth)) = true) (fun k => L.length - k) [.mk ((L.all fun x => Ygq x.name && decide (0 <= x.depth))
 = true) (.exit 0) (fun x => [(0, ll (L.map Yd0)), (3, .one (.ptr 0 0))]) (fun x => [.box (vals (Yda t))]) [], .mk ((L.all fun x => Ygq x.name && decide (0 <=
 x.depth)) = false) .ret (fun x => [(4, hs x 0)]) (fun x => []) [.s (lb false)]]
theorem Zaw (L : List YC) (t : YS) : Lp.Sem Tryz.prog (Ydg Tryz.f10 0) (Z46 L t) := Ydr (fun k => .i ((k : Int) < (↑(L.map Yd0).length : Int))
 (.x (k : Int) (L.map Yd0) (Ydj (L.getD k default)) (.c [.rd] (Z72 (L.getD k default).name) (.b (!(decide ((L.getD k default).name.kind = 1) && Ydk (L.getD k
 default).name)) (.y true (.o 1 [] [.s (lb false)])) (.i ((L.getD k default).depth < 0) (.o 1 [] [.s (lb false)]) (.r ((k : Int) + 1) (.g [0] (k + 1) [.s (li ((k : Int) +
 1))])))))) (.o 0 [0] [])) (by
 intro k h; try dsimp only [Yd3, Ydb, Z46] at h ⊢
 with_reducible repeat' (first | apply And.intro | exact zR | (intro) | apply Z6p)
 all_goals ((try simp only [std, inj] at *); with_reducible and_intros)
 all_goals try with_reducible first | apply Z6p
 all_goals try first | exact z | grind [Ydn, Ygq, Yd6, Yd7, Yd8, Yd4])
theorem Zct (L : List YC) (t : YS)  : Z8r L t := Yde Tryz.call10 Tryz.func10 (.z Yd0 L (.l (Z46 L t) (Zaw L t) [0] [.s (li 0)] 0 (.t (.c [.rd]
 (Z1s t) (.b (Ydk t) (.d [.rd, .rd, .rd] (Zu L t 0) (.s (lb (fit L t 0)))) (.s (lb false)))) (.t (.s (lb false)) .q)))) (by
 dsimp only [Yd3, Z8r, Ydb, Z46]
 with_reducible repeat' (first | apply And.intro | exact zR | (intro) | apply Z6p)
 all_goals ((try simp only [std, inj] at *); with_reducible and_intros)
 all_goals try with_reducible first | apply Z6p
 all_goals try first | exact z | grind [tmF, Ydk, Yd7, Yd8, Yd4])
mutual
def Yj2 : YS -> Bool
 | ⟨k, n, t, s, l⟩ => !Yd5 ⟨k, n, t, s, l⟩ && Yek true l
def Yek : Bool -> List YS -> Bool
 | _, [] => true
 | b, x :: r => if Yd5 x then !b && Yek true r else Yj2 x && Yek false r
end
theorem Ymb (t : YS) : Yj2 t = (!Yd5 t && Yek true t.items) := by cases t; simp only [Yj2]
def Ymm (l : List YS) (k : Nat) : Bool := decide (k = 0) || Yd5 (l.getD (k - 1) default)
theorem Y188 {l : List YS} {b : Bool} {k : Nat} (h : k < l.length) : Yek b (l.drop k) = if Yd5 (l.getD k default) then !b && Yek true (l.drop (k + 1)) else Yj2 (l.getD k default) && Yek false (l.drop (k + 1)) := by
 rw [Yfj h, Yek]
theorem Y1ar {l : List YS} {b : Bool} {k : Nat} (h : l.length <= k) : Yek b (l.drop k) = true := by
 rw [List.drop_eq_nil_of_le h, Yek]
abbrev Zn (t : YS) : Ct := ⟨44, [], [Ydl t], [], .sv (lb (Yj2 t))⟩
def Z1a (t : YS) : Lp Nat := .mk 32 0 (fun x => [(1, .one (.ptr 0 0)), (8, ll (t.items.map Ycz)), (9, li (↑(t.items.map Ycz).length : Int)),
 (10, hs x 0)]) (fun x => [.box (vals (Yda t))]) (fun k => [.s (li (k : Int))]) (fun k => k <= t.items.length /\ t.items.length <= 9223372036854775807 /\ Yek true t.items =
 Yek (Ymm t.items k) (t.items.drop k)) (fun k => t.items.length - k) [.mk (Yek true t.items = true) (.exit 0) (fun x => []) (fun x => []) [], .mk (Yek true t.items =
 false) .ret (fun x => [(2, hs x 0)]) (fun x => []) [.s (lb false)]]
theorem Z6q (t : YS) (ih : ∀ (z : YS), z ∈ t.items -> OK (Zn z)) : Lp.Sem Tryz.prog (Ydg Tryz.f44 0) (Z1a t) := Ydr (fun k => .i ((↑k :
 Int) < (↑(t.items.map Ycz).length : Int)) (.x (k : Int) (t.items.map Ycz) (Yda (t.items.getD k default)) (.c [.rd] (Z1 (t.items.getD k default)) (.b
 (Yd5 (t.items.getD k default)) (.i ((k : Int) = 0) (.y true (.o 1 [] [.s (lb false)])) (.r ((k : Int) - 1) (.x ((k : Int) - 1) (t.items.map Ycz) (Yda
 (t.items.getD ((k : Int) - 1).toNat default)) (.c [.rd] (Z1 (t.items.getD ((k : Int) - 1).toNat default)) (.b (Yd5 (t.items.getD ((k : Int) - 1).toNat default)) (.o 1
 [] [.s (lb false)]) (.r ((k : Int) + 1) (.g [0] (k + 1) [.s (li ((k : Int) + 1))]))))))) (.d [.rd] (Zn (t.items.getD k default)) (.b (!Yj2 (t.items.getD k default))
 (.o 1 [] [.s (lb false)]) (.r ((k : Int) + 1) (.g [0] (k + 1) [.s (li ((k : Int) + 1))]))))))) (.o 0 [] [])) (by
 intro k h; try dsimp only [Yd3, Ydb, Z1a] at h ⊢
 have g1 := @Y188 t.items (Ymm t.items k) k
 have g2 := @Y1ar t.items (Ymm t.items k) k
 have e : ((k : Int) - 1).toNat = k - 1 := by omega
 have g3 : Ymm t.items k = (decide (k = 0) || Yd5 (t.items.getD (k - 1) default)) := rfl
 have g4 : Ymm t.items (k + 1) = Yd5 (t.items.getD k default) := by simp [Ymm]
 with_reducible repeat' (first | apply And.intro | exact zR | exact ih | (intro) | apply ih)
 all_goals ((try simp only [std, inj] at *); with_reducible and_intros)
 all_goals try with_reducible first | apply ih
 all_goals try first | exact z | grind [Yd6, Yd7, Yd8, Yd4])
theorem Z8s (t : YS) (ih : ∀ z ∈ t.items, Zn z)  : Zn t := Yde Tryz.call44 Tryz.func44 (.c [.rd] (Z1 t) (.b (Yd5 t) (.s (lb false)) (.z
 Ycz t.items (.l (Z1a t) (Z6q t ih) [0] [.s (li 0)] 0 (.t (.s (lb true)) (.t (.s (lb false)) .q)))))) (by
 dsimp only [Yd3, Zn, Ydb, Z1a]
 with_reducible repeat' (first | apply And.intro | exact zR | exact ih | (intro))
 all_goals ((try simp only [std, inj] at *); with_reducible and_intros)
 all_goals try with_reducible first | apply ih
 all_goals try first | exact z | grind [Ymb, Ymm, Yd7, Yd8, Yd4])
theorem Za5 (t : YS) : Zn t := YS.ind (P := fun t => Zn t) (fun t ih => Z8s t ih) t
theorem Y1gh {t : YS} (h : okY t = true) (hk : t.kind = 1) : t.items = [] := by
 rw [Yj6] at h
 simp only [Yjc, Yjf, Bool.and_eq_true, Bool.or_eq_true, decide_eq_true_eq] at h
 have : t.items.length = 0 := by omega
 exact List.length_eq_zero_iff.1 this
theorem Yhu {t : YS} (h : okY t = true) : ∀ x ∈ t.items, okY x = true := by
 rw [Yj6, Bool.and_eq_true, List.all_eq_true] at h; exact h.1
set_option maxHeartbeats 4000000
theorem Y1ez {α : Type} [Inhabited α] {p : α -> Bool} {L : List α} {k : Nat} (hk : k < L.length) (hb : k <= L.findIdx p) (h : p (L.getD k default) = true) : L.findIdx p = k := by
 have h1 : L.getD k default = L[k] := by simp [hk]
 rw [h1] at h
 rcases Nat.lt_or_ge k (L.findIdx p) with h2 | h2
 ·have := List.not_of_lt_findIdx h2
  simp [h] at this
 ·omega
theorem Y14a {α : Type} [Inhabited α] {p : α -> Bool} {L : List α} {k : Nat} (hk : k < L.length) (hb : k <= L.findIdx p) (h : p (L.getD k default) = false) : k + 1 <= L.findIdx p := by
 have h1 : L.getD k default = L[k] := by simp [hk]
 rw [h1] at h
 rcases Nat.lt_or_ge k (L.findIdx p) with h2 | h2
 ·exact h2
 ·have e : L.findIdx p = k := by omega
  have h3 := List.findIdx_getElem (p := p) (xs := L) (w := by omega)
  simp only [e, h] at h3
  exact absurd h3 (by decide)
abbrev Z47 (L : List Int) : Ct := ⟨61, [], [ll (L.map Yd2)], [.arr true 1 (L.map Yd2)], .sv (.one (.ref 0))⟩
theorem Z17 (L : List Int) (h : L.length <= 2147483647)  : Z47 L := Yde Tryz.call61 Tryz.func61 (.w (.bool false) (.p (∀ (e : List Cell), e ∈ L.map Yd2 -> ∀ (c :
 Cell), c ∈ e -> ∃ v, c = Cell.lit v) (.p (∀ (e : List Cell), e ∈ L.map Yd2 -> e.length = 1) (.p ((0 + (L.map Yd2).length) * 8 <= 140737488355328) (.f [1] [.arr true 1
 (L.map Yd2)] (.sv (.one (.ref 0)))))))) (by
 dsimp only [Yd3, Z47]
 exact zV)
abbrev Z1p (L : List Int) : Ct := ⟨68, [], [ll (L.map Yd2)], [.arr true 1 (L.map Yd2)], .sv (.one (.ref 0))⟩
theorem Z6 (L : List Int) (h : L.length <= 2147483647)  : Z1p L := Yde Tryz.call68 Tryz.func68 (.w (.bool true) (.p (∀ (e : List Cell), e ∈ L.map Yd2 -> ∀ (c :
 Cell), c ∈ e -> ∃ v, c = Cell.lit v) (.p (∀ (e : List Cell), e ∈ L.map Yd2 -> e.length = 1) (.p ((0 + (L.map Yd2).length) * 8 <= 140737488355328) (.f [0] [.arr true 1
 (L.map Yd2)] (.sv (.one (.ref 0)))))))) (by
 dsimp only [Yd3, Z1p]
 exact zV)
abbrev Z1e (s : YS) : Ct := ⟨171, [], [Ydl s, li 0, li 0], Yg5 s, .sv (Yg6 s 0)⟩
def Z1u (s : YS) : Lp Nat := .mk 62 0 (fun x => [(1, li 0), (2, li 0), (6, .one (.ptr 0 0)), (7, .one (.ptr 1 0)), (45, ll (s.items.map Ycz)), (46, li
 (↑(s.items.map Ycz).length : Int)), (47, hs x 0)]) (fun x => [.box [vI 0, vI 0, vS (ByteArray.mk #[]), .val (.lit (.slice none 0 0)), .val (.lit
 (.slice none 0 0))], .box [vI s.kind, vI s.number, vS s.text, .ref 2, .ref 3], .arr true 1 (s.scopes.map Yd2), ho x 1]) (fun k => [.s (li (k : Int)), .o
 (.arr true 5 ((s.items.take k).map Ycz))]) (fun k => k <= s.items.length /\ s.items.length <= 9223372036854775807) (fun k => s.items.length - k) [.mk True (.exit 1)
 (fun x => [(6, .one (.ptr 0 0)), (7, .one (.ptr 1 0))]) (fun x => [.box [vI 0, vI 0, vS (ByteArray.mk #[]), .val (.lit (.slice none 0 0)), .val (.lit
 (.slice none 0 0))], .box [vI s.kind, vI s.number, vS s.text, .ref 2, .ref 3], .arr true 1 (s.scopes.map Yd2), ho x 0]) [.o (.arr true 5 (List.map Ycz
 s.items))]]
theorem Z6a (s : YS) (h : wY s <= 1000000000) (ih : ∀ (z : YS), z ∈ s.items -> wY z <= 1000000000 -> OK (Z1e z)) : Lp.Sem Tryz.prog (Ydg Tryz.f171 0)
 (Z1u s) := Ydr (fun k => .i ((k : Int) < (↑(s.items.map Ycz).length : Int)) (.x (k : Int) (s.items.map Ycz) (Yda (s.items.getD k default)) (.w
 (.draw [(6, [9, 10]), (7, [3, 17]), (9, [1])]) (.d [.rd, .rd, .rd] (Z1e (s.items.getD k default)) (.p ((((s.items.take k).map Ycz).length + 1) * 80 <=
 140737488355328) (.r ((k : Int) + 1) (.g [0, 1, 2, 18] (k + 1) [.s (li ((k : Int) + 1)), .o (.arr true 5 ((s.items.take k).map Ycz ++ [Yda (s.items.getD k
 default)]))])))))) (.o 0 [0, 1, 2, 3] [.o (.arr true 5 ((s.items.take k).map Ycz))])) (by
 intro k h; try dsimp only [Yd3, Ydb, Z1u] at h ⊢
 have g1 := Yfq s
 have g2 := @Yew _ wY s.items (s.items.getD k default)
 with_reducible repeat' (first | apply And.intro | exact zR | exact ih | (intro) | apply Z17 | apply ih)
 all_goals ((try simp only [std, inj] at *); with_reducible and_intros)
 all_goals try first | with_reducible (first | apply Z17 | apply ih) | (simp only [<- List.map_append]; with_reducible first | apply Z17 | apply ih)
 all_goals try first | exact z | grind [Ydn, Yd6, Yd7, Yd8, Yd4, Yd6])
theorem Zbz (s : YS) (h : wY s <= 1000000000) (ih : ∀ z ∈ s.items, ∀ (h : wY z <= 1000000000), Z1e z)  : Z1e s := Yde Tryz.call171 Tryz.func171 (.w (.draw [(11,
 [18])]) (.d [.rd] (Z47 s.scopes) (.i (s.kind = 1) (.y false (.y false (.y false (.z Ycz s.items (.w (.ghost (.nilbox 18 4 true 5)) (.l (Z1u s) (Z6a s h
 ih) [1, 18, 10, 19] [.s (li 0), .o (.arr true 5 [])] 0 (.t (.f [2, 3] [.arr true 1 (s.scopes.map Yd2), .arr true 5 (s.items.map Ycz)] (.sv (.agg [vI
 s.kind, vI s.number, vS s.text, .ref 0, .ref 1]))) .q))))))) (.z Ycz s.items (.w (.ghost (.nilbox 18 4 true 5)) (.l (Z1u s) (Z6a s h ih) [1, 18, 10, 19]
 [.s (li 0), .o (.arr true 5 [])] 0 (.t (.f [2, 3] [.arr true 1 (s.scopes.map Yd2), .arr true 5 (s.items.map Ycz)] (.sv (.agg [vI s.kind, vI s.number, vS
 s.text, .ref 0, .ref 1]))) .q))))))) (by
 dsimp only [Yd3, Z1e, Ydb, Z1u]
 have g1 := Yfq s
 with_reducible repeat' (first | apply And.intro | exact zR | exact ih | (intro) | apply Z17)
 all_goals ((try simp only [std, inj] at *); with_reducible and_intros)
 all_goals try with_reducible first | apply Z17 | apply ih
 all_goals (try exact zG))
theorem Zax (s : YS) : ∀ (h : wY s <= 1000000000), Z1e s := YS.ind (P := fun s => ∀ (h : wY s <= 1000000000), Z1e s) (fun s ih h => Zbz s h ih) s
abbrev Z1q (s : YS) : Ct := ⟨99, [], [Ydl s], Yg5 s, .sv (Yg6 s 0)⟩
theorem Zb (s : YS) (h : wY s <= 1000000000)  : Z1q s := Yde Tryz.call99 Tryz.func99 (.d [.rd, .rd, .rd] (Z1e s) (.f [2, 3] [.arr true 1 (List.map Yd2
 s.scopes), .arr true 5 (s.items.map Ycz)] (.sv (.agg [vI s.kind, vI s.number, vS s.text, .ref 0, .ref 1])))) (by
 dsimp only [Yd3, Z1q]
 with_reducible repeat' (first | apply And.intro | exact zR | (intro) | apply Zax)
 all_goals ((try simp only [std, inj] at *); with_reducible and_intros)
 all_goals try with_reducible first | apply Zax
 all_goals (try exact zG))
def fnA (f : FuncId) : SV := .one (.val (.lit (.func (.func f) #[] #[])))
abbrev Z1f (s : YS) : Ct := ⟨168, [], [Ydl s, fnA 68], Yg5 s, .sv (Yg6 s 0)⟩
def Z1v (s : YS) : Lp Nat := .mk 43 0 (fun x => [(1, .one (.val (.lit (.func (Fn.func 68) #[] #[])))), (4, .one (.ptr 0 0)), (5, .one (.ptr 1 0)),
 (27, ll (s.items.map Ycz)), (28, li (↑(s.items.map Ycz).length : Int)), (29, hs x 0)]) (fun x => [.box [vI 0, vI 0, vS (ByteArray.mk #[]), .val (.lit
 (.slice none 0 0)), .val (.lit (.slice none 0 0))], .box [vI s.kind, vI s.number, vS s.text, .ref 2, .ref 3], .arr true 1 (s.scopes.map Yd2), ho x
 1]) (fun k => [.s (li (k : Int)), .o (.arr true 5 ((s.items.take k).map Ycz))]) (fun k => k <= s.items.length /\ s.items.length <= 9223372036854775807) (fun k =>
 s.items.length - k) [.mk True (.exit 0) (fun x => [(4, .one (.ptr 0 0)), (5, .one (.ptr 1 0))]) (fun x => [.box [vI 0, vI 0, vS (ByteArray.mk #[]), .val (.lit
 (.slice none 0 0)), .val (.lit (.slice none 0 0))], .box [vI s.kind, vI s.number, vS s.text, .ref 2, .ref 3], .arr true 1 (s.scopes.map Yd2), ho x
 0]) [.o (.arr true 5 (s.items.map Ycz))]]
theorem Z6b (s : YS) (h : wY s <= 1000000000) (ih : ∀ (z : YS), z ∈ s.items -> wY z <= 1000000000 -> OK (Z1f z)) : Lp.Sem Tryz.prog (Ydg Tryz.f168 0)
 (Z1v s) := Ydr (fun k => .i ((k : Int) < (↑(s.items.map Ycz).length : Int)) (.x (k : Int) (s.items.map Ycz) (Yda (s.items.getD k default)) (.w
 (.draw [(5, [9, 10]), (6, [3, 17]), (8, [1])]) (.d [.rd, .rd] (Z1f (s.items.getD k default)) (.p ((((s.items.take k).map Ycz).length + 1) * 80 <=
 140737488355328) (.r ((k : Int) + 1) (.g [0, 1, 2, 18] (k + 1) [.s (li ((k : Int) + 1)), .o (.arr true 5 ((s.items.take k).map Ycz ++ [Yda (s.items.getD k
 default)]))])))))) (.o 0 [0, 1, 2, 3] [.o (.arr true 5 ((s.items.take k).map Ycz))])) (by
 intro k h; try dsimp only [Yd3, Ydb, Z1v] at h ⊢
 have g1 := Yfq s
 have g2 := @Yew _ wY s.items (s.items.getD k default)
 with_reducible repeat' (first | apply And.intro | exact zR | exact ih | (intro) | apply Z6 | apply ih)
 all_goals ((try simp only [std, inj] at *); with_reducible and_intros)
 all_goals try first | with_reducible (first | apply Z6 | apply ih) | (simp only [<- List.map_append]; with_reducible first | apply Z6 | apply ih)
 all_goals try first | exact z | grind [Ydn, Yd6, Yd7, Yd8, Yd4, Yd6])
theorem Zc0 (s : YS) (h : wY s <= 1000000000) (ih : ∀ z ∈ s.items, ∀ (h : wY z <= 1000000000), Z1f z)  : Z1f s := Yde Tryz.call168 Tryz.func168 (.w (.draw [(11,
 [18])]) (.d [.rd] (Z1p s.scopes) (.i (s.kind = 1) (.d [.rd] (Z1p s.scopes) (.z Ycz s.items (.w (.ghost (.nilbox 18 4 true 5)) (.l (Z1v s) (Z6b s
 h ih) [1, 18, 19, 20] [.s (li 0), .o (.arr true 5 [])] 0 (.t (.f [2, 3] [.arr true 1 (s.scopes.map Yd2), .arr true 5 (s.items.map Ycz)] (.sv (.agg [vI
 s.kind, vI s.number, vS s.text, .ref 0, .ref 1]))) .q))))) (.z Ycz s.items (.w (.ghost (.nilbox 18 4 true 5)) (.l (Z1v s) (Z6b s h ih) [1, 18, 10, 19] [.s
 (li 0), .o (.arr true 5 [])] 0 (.t (.f [2, 3] [.arr true 1 (s.scopes.map Yd2), .arr true 5 (s.items.map Ycz)] (.sv (.agg [vI s.kind, vI s.number, vS
 s.text, .ref 0, .ref 1]))) .q))))))) (by
 dsimp only [Yd3, Z1f, Ydb, Z1v]
 have g1 := Yfq s
 with_reducible repeat' (first | apply And.intro | exact zR | exact ih | (intro) | apply Z6)
 all_goals ((try simp only [std, inj] at *); with_reducible and_intros)
 all_goals try with_reducible first | apply Z6 | apply ih
 all_goals (try exact zG))
theorem Zay (s : YS) : ∀ (h : wY s <= 1000000000), Z1f s := YS.ind (P := fun s => ∀ (h : wY s <= 1000000000), Z1f s) (fun s ih h => Zc0 s h ih) s
abbrev Zr (s : YS) : Ct := ⟨91, [], [Ydl s], Yg5 s, .sv (Yg6 s 0)⟩
theorem Z4 (s : YS) (h : wY s <= 1000000000)  : Zr s := Yde Tryz.call91 Tryz.func91 (.d [.rd, .rd] (Z1f s) (.f [2, 3] [.arr true 1 (s.scopes.map Yd2),
 .arr true 5 (s.items.map Ycz)] (.sv (.agg [vI s.kind, vI s.number, vS s.text, .ref 0, .ref 1])))) (by
 dsimp only [Yd3, Zr]
 with_reducible repeat' (first | apply And.intro | exact zR | (intro) | apply Zay)
 all_goals ((try simp only [std, inj] at *); with_reducible and_intros)
 all_goals try with_reducible first | apply Zay
 all_goals (try exact zG))
def Ye3 (s : YS) : Bool := decide (s.text.data.toList = [95])
def Yfo (x : YS) : Bool := Ygq x && !Yd5 x && !Ye3 x
def okL (L : List YS) : Bool := L.all Yfo && decide ((L.length : Int) <= 8)
def Ydo (L : List YS) (s : YS) : Bool := L.any fun x => decide (x.text = s.text) && decide (x.scopes = s.scopes)
def Yg7 (x s : YS) : Bool := decide (x.kind = 1) && decide (s.kind = 1) && decide (x.text = s.text) && decide (x.scopes = s.scopes)
def Yfr (L : List YS) (s : YS) : Bool := L.any fun x => Yg7 x s
theorem Y1ab {α : Type} [Inhabited α] {L : List α} {p : α -> Bool} {k : Nat} (h : k < L.length) (hp : p (L.getD k default) = false) : L.all p = false := by
 rw [List.all_eq_false]; exact ⟨_, Yd6 h, by rw [hp]; decide⟩
theorem Ywe (x : YS) : Yfo x = ((decide (x.kind = 1) && Ydk x) && !Yd5 x && !decide (x.text.data.toList = [95])) := rfl
abbrev Z7s (L : List YS) : Ct := ⟨39, [], [ll (L.map Ycz)], [], .sv (lb (okL L))⟩
def Z3c (L : List YS) : Lp Nat := .mk 27 0 (fun x => [(0, ll (L.map Ycz)), (5, ll (L.map Ycz)), (6, li (↑(L.map Ycz).length : Int)), (7, hs x
 0)]) (fun x => []) (fun k => [.s (li (k : Int))]) (fun k => k <= L.length /\ L.length <= 9223372036854775807 /\ (L.take k).all Yfo = true) (fun k => L.length - k) [.mk (L.all
 Yfo = true) (.exit 0) (fun x => [(0, ll (L.map Ycz))]) (fun x => []) [], .mk (L.all Yfo = false) .ret (fun x => [(2, hs x 0)]) (fun x => []) [.s (lb false)]]
theorem Za6 (L : List YS) : Lp.Sem Tryz.prog (Ydg Tryz.f39 0) (Z3c L) := Ydr (fun k => .i ((k : Int) < (↑(L.map Ycz).length : Int)) (.x (k : Int)
 (L.map Ycz) (Yda (L.getD k default)) (.c [.rd] (Z72 (L.getD k default)) (.b (!(decide ((L.getD k default).kind = 1) && Ydk (L.getD k default))) (.y true (.y
 true (.o 1 [] [.s (lb false)]))) (.c [.rd] (Z2s (L.getD k default)) (.b (Yd5 (L.getD k default)) (.y true (.o 1 [] [.s (lb false)])) (.i ((L.getD k
 default).text.data.toList = [(95 : UInt8)]) (.o 1 [] [.s (lb false)]) (.r ((k : Int) + 1) (.g [] (k + 1) [.s (li ((k : Int) + 1))])))))))) (.o 0 [] [])) (by
 intro k h; try dsimp only [Yd3, Ydb, Z3c] at h ⊢
 have g1 := @Y1ab _ _ L Yfo k
 have g2 := Ywe (L.getD k default)
 with_reducible repeat' (first | apply And.intro | exact zR | (intro))
 all_goals ((try simp only [std, inj] at *); with_reducible and_intros)
 all_goals try first | exact z | grind [Ydn, Yd7, Yd8, Yd4])
theorem Zci (L : List YS)  : Z7s L := Yde Tryz.call39 Tryz.func39 (.z Ycz L (.l (Z3c L) (Za6 L) [] [.s (li 0)] 0 (.t (.z Ycz L (.s (lb (decide
 ((↑(L.map Ycz).length : Int) <= 8))))) (.t (.s (lb false)) .q)))) (by
 dsimp only [Yd3, Z7s, Ydb, Z3c]
 with_reducible repeat' (first | apply And.intro | exact zR | (intro))
 all_goals ((try simp only [std, inj] at *); with_reducible and_intros)
 all_goals try first | exact z | grind [okL, Yd7, Yd8, Yd4])
abbrev Z7t (s : YS) : Ct := ⟨88, [], [Ydl s], [], .sv (lb (decide (s.kind = 1) && Ye3 s))⟩
theorem Z5y (s : YS)  : Z7t s := Yde Tryz.call88 Tryz.func88 (.i (s.kind = 1) (.s (lb (decide (s.text.data.toList = [(95 : UInt8)])))) (.s (lb false))) (by
 dsimp only [Yd3, Z7t]
 with_reducible repeat' (first | apply And.intro | exact zR | (intro))
 all_goals ((try simp only [std, inj] at *); with_reducible and_intros)
 all_goals try first | exact z | grind [Ye3, Yd7, Yd8, Yd4])
abbrev Z7u (L : List YS) : Ct := ⟨86, [], [ll (L.map Ycz)], [], .sv (lb (okL L))⟩
def Z3d (L : List YS) : Lp Nat := .mk 26 0 (fun x => [(8, ll (L.map Ycz)), (9, li (↑(L.map Ycz).length : Int)), (10, hs x 0)]) (fun x => []) (fun k =>
 [.s (li (k : Int))]) (fun k => k <= L.length /\ L.length <= 9223372036854775807 /\ (L.take k).all Yfo = true) (fun k => L.length - k) [.mk (L.all Yfo = true) (.exit 0) (fun x
 => []) (fun x => []) [], .mk (L.all Yfo = false) .ret (fun x => [(2, hs x 0)]) (fun x => []) [.s (lb false)]]
theorem Za7 (L : List YS) : Lp.Sem Tryz.prog (Ydg Tryz.f86 0) (Z3d L) := Ydr (fun k => .i ((k : Int) < (↑(L.map Ycz).length : Int)) (.x (k : Int)
 (L.map Ycz) (Yda (L.getD k default)) (.c [.rd] (Z16 (L.getD k default)) (.b (!(decide ((L.getD k default).kind = 1) && Ydk (L.getD k default))) (.y true (.y
 true (.o 1 [] [.s (lb false)]))) (.c [.rd] (Z1 (L.getD k default)) (.b (Yd5 (L.getD k default)) (.y true (.o 1 [] [.s (lb false)])) (.c [.rd] (Z5y (L.getD k default))
 (.b (decide ((L.getD k default).kind = 1) && Ye3 (L.getD k default)) (.o 1 [] [.s (lb false)]) (.r ((k : Int) + 1) (.g [] (k + 1) [.s (li ((k : Int) + 1))]))))))))) (.o 0 []
 [])) (by
 intro k h; try dsimp only [Yd3, Ydb, Z3d] at h ⊢
 with_reducible repeat' (first | apply And.intro | exact zR | (intro) | apply Z16 | apply Z1)
 all_goals ((try simp only [std, inj] at *); with_reducible and_intros)
 all_goals try with_reducible first | apply Z16 | apply Z1
 all_goals try first | exact z | grind [Ydn, Yfo, Ygq, Yd6, Yd7, Yd8, Yd4])
theorem Zcj (L : List YS)  : Z7u L := Yde Tryz.call86 Tryz.func86 (.z Ycz L (.i (8 < (↑(L.map Ycz).length : Int)) (.s (lb false)) (.z Ycz L (.l
 (Z3d L) (Za7 L) [] [.s (li 0)] 0 (.t (.s (lb true)) (.t (.s (lb false)) .q)))))) (by
 dsimp only [Yd3, Z7u, Ydb, Z3d]
 with_reducible repeat' (first | apply And.intro | exact zR | (intro) | apply Z16 | apply Z1)
 all_goals ((try simp only [std, inj] at *); with_reducible and_intros)
 all_goals try with_reducible first | apply Z16 | apply Z1
 all_goals try first | exact z | grind [okL, Yd7, Yd8, Yd4])
abbrev Z7v (L : List YS) (s : YS) : Ct := ⟨97, [], [ll (L.map Ycz), Ydl s], [], .sv (lb (Ydo L s))⟩
def Z3e (L : List YS) (s : YS) : Lp Nat := .mk 17 0 (fun x => [(3, .one (.ptr 0 0)), (7, ll (L.map Ycz)), (8, li (↑(L.map Ycz).length : Int)),
 (9, hs x 0)]) (fun x => [.box (vals (Yda s))]) (fun k => [.s (li (k : Int))]) (fun k => k <= L.length /\ L.length <= 9223372036854775807 /\ Ydo (L.take k) s = false) (fun
 k => L.length - k) [.mk (Ydo L s = false) (.exit 0) (fun x => []) (fun x => []) [], .mk (Ydo L s = true) .ret (fun x => [(4, hs x 0)]) (fun x => []) [.s (lb true)]]
theorem Za8 (L : List YS) (s : YS) : Lp.Sem Tryz.prog (Ydg Tryz.f97 0) (Z3e L s) := Ydr (fun k => .i ((k : Int) < (↑(L.map Ycz).length : Int))
 (.x (k : Int) (L.map Ycz) (Yda (L.getD k default)) (.c [.rd, .rd] (Z9w (L.getD k default) s) (.b (decide ((L.getD k default).text = s.text) && decide ((L.getD k
 default).scopes = s.scopes)) (.o 1 [] [.s (lb true)]) (.r ((k : Int) + 1) (.g [0] (k + 1) [.s (li ((k : Int) + 1))]))))) (.o 0 [] [])) (by
 intro k h; try dsimp only [Yd3, Ydb, Z3e] at h ⊢
 with_reducible repeat' (first | apply And.intro | exact zR | (intro))
 all_goals ((try simp only [std, inj] at *); with_reducible and_intros)
 all_goals try first | exact z | grind [Ydn, Ydo, Yd6, Yd7, Yd8, Yd4])
theorem Z3r (L : List YS) (s : YS)  : Z7v L s := Yde Tryz.call97 Tryz.func97 (.z Ycz L (.l (Z3e L s) (Za8 L s) [0] [.s (li 0)] 0 (.t (.s (lb
 false)) (.t (.s (lb true)) .q)))) (by
 dsimp only [Yd3, Z7v, Ydb, Z3e]
 with_reducible repeat' (first | apply And.intro | exact zR | (intro))
 all_goals ((try simp only [std, inj] at *); with_reducible and_intros)
 all_goals try first | exact z | grind [Ydo, Yd7, Yd8, Yd4])
abbrev Z7w (L : List YS) (s : YS) : Ct := ⟨89, [], [ll (L.map Ycz), Ydl s], [], .sv (lb (Yfr L s))⟩
def Z3f (L : List YS) (s : YS) : Lp Nat := .mk 17 0 (fun x => [(3, .one (.ptr 0 0)), (7, ll (L.map Ycz)), (8, li (↑(L.map Ycz).length : Int)),
 (9, hs x 0)]) (fun x => [.box (vals (Yda s))]) (fun k => [.s (li (k : Int))]) (fun k => k <= L.length /\ L.length <= 9223372036854775807 /\ Yfr (L.take k) s = false) (fun
 k => L.length - k) [.mk (Yfr L s = false) (.exit 0) (fun x => []) (fun x => []) [], .mk (Yfr L s = true) .ret (fun x => [(4, hs x 0)]) (fun x => []) [.s (lb true)]]
theorem Za9 (L : List YS) (s : YS) : Lp.Sem Tryz.prog (Ydg Tryz.f89 0) (Z3f L s) := Ydr (fun k => .i ((k : Int) < (↑(L.map Ycz).length : Int))
 (.x (k : Int) (L.map Ycz) (Yda (L.getD k default)) (.c [.rd, .rd] (Z75 (L.getD k default) s) (.b (decide ((L.getD k default).kind = 1) && decide (s.kind = 1) &&
 decide ((L.getD k default).text = s.text) && decide ((L.getD k default).scopes = s.scopes)) (.o 1 [] [.s (lb true)]) (.r ((k : Int) + 1) (.g [0] (k + 1) [.s (li ((k : Int) +
 1))]))))) (.o 0 [] [])) (by
 intro k h; try dsimp only [Yd3, Ydb, Z3f] at h ⊢
 with_reducible repeat' (first | apply And.intro | exact zR | (intro))
 all_goals ((try simp only [std, inj] at *); with_reducible and_intros)
 all_goals try first | exact z | grind [Ydn, Yfr, Yg7, Yd6, Yd7, Yd8, Yd4])
theorem Z77 (L : List YS) (s : YS)  : Z7w L s := Yde Tryz.call89 Tryz.func89 (.z Ycz L (.l (Z3f L s) (Za9 L s) [0] [.s (li 0)] 0 (.t (.s (lb
 false)) (.t (.s (lb true)) .q)))) (by
 dsimp only [Yd3, Z7w, Ydb, Z3f]
 with_reducible repeat' (first | apply And.intro | exact zR | (intro))
 all_goals ((try simp only [std, inj] at *); with_reducible and_intros)
 all_goals try first | exact z | grind [Yfr, Yd7, Yd8, Yd4])
def atF (l : List YS) : Nat -> Int
 | 0 => -1
 | k + 1 => if Yd5 (l.getD k default) = true then (k : Int) else atF l k
def okA (l : List YS) : Nat -> Bool
 | 0 => true
 | k + 1 => okA l k && (!Yd5 (l.getD k default) || (decide (k ≠ 0) && decide (atF l k < 0)))
def atS (l : List YS) : Int := atF l l.length
def okS (l : List YS) : Bool := okA l l.length
theorem Y19q (l : List YS) : ∀ (m k : Nat), k <= m -> okA l m = true -> okA l k = true
 | 0, k, h, _ => by
  obtain rfl : k = 0 := by omega
  rfl
 | m + 1, k, h, ht => by
  by_cases e : k = m + 1
  ·rw [e]; exact ht
  ·refine Y19q l m k (by omega) ?_
   simp only [okA, Bool.and_eq_true] at ht; exact ht.1
def atI (l : List YS) : Int := if l.findIdx Yd5 < l.length then (l.findIdx Yd5 : Int) else -1
abbrev Z9y (l : List YS) : Ct := ⟨103, [], [ll (l.map Ycz)], [], .tup [li (if okS l = true then atS l else -1), lb (okS l)]⟩
def Z4x (l : List YS) : Lp Nat := .mk 26 0 (fun x => [(4, hs x 1), (7, ll (l.map Ycz)), (8, li (↑(l.map Ycz).length : Int)), (9, hs x 0)]) (fun x => [])
 (fun k => [.s (li (k : Int)), .s (li (atF l k))]) (fun k => k <= l.length /\ l.length <= 9223372036854775807 /\ okA l k = true) (fun k => l.length - k) [.mk (okS l = true) (.exit 0)
 (fun x => [(4, hs x 0)]) (fun x => []) [.s (li (atS l))], .mk (okS l = false) .ret (fun x => [(2, hs x 0), (3, hs x 1)]) (fun x => []) [.s (li (-1 : Int)), .s (lb false)]]
theorem Zc1 (l : List YS) : Lp.Sem Tryz.prog (Ydg Tryz.f103 0) (Z4x l) := Ydr (fun k => .i ((k : Int) < (↑(l.map Ycz).length : Int)) (.x (k : Int)
 (l.map Ycz) (Yda (l.getD k default)) (.c [.rd] (Z2s (l.getD k default)) (.b (!Yd5 (l.getD k default)) (.r ((k : Int) + 1) (.g [] (k + 1) [.s (li ((k : Int) +
 1)), .s (li (atF l k))])) (.i ((k : Int) = 0) (.y true (.o 1 [] [.s (li (-1 : Int)), .s (lb false)])) (.i (0 <= atF l k) (.o 1 [] [.s (li (-1 : Int)), .s (lb false)]) (.r ((↑k :
 Int) + 1) (.g [] (k + 1) [.s (li ((k : Int) + 1)), .s (li (k : Int))]))))))) (.o 0 [] [.s (li (atF l k))])) (by
 intro k h; try dsimp only [Yd3, Ydb, Z4x] at h ⊢
 have g1 := Y19q l l.length (k + 1)
 have g2 : okA l (k + 1) = (okA l k && (!Yd5 (l.getD k default) || (decide (k ≠ 0) && decide (atF l k < 0)))) := rfl
 have g3 : atF l (k + 1) = if Yd5 (l.getD k default) = true then (k : Int) else atF l k := rfl
 with_reducible repeat' (first | apply And.intro | exact zR | (intro))
 all_goals ((try simp only [std, inj] at *); with_reducible and_intros)
 all_goals try first | exact z | grind [okS, atS, Yd7, Yd8, Yd4])
theorem Zcc (l : List YS)  : Z9y l := Yde Tryz.call103 Tryz.func103 (.z Ycz l (.l (Z4x l) (Zc1 l) [] [.s (li 0), .s (li (-1 : Int))] 0 (.t (.f [] [] (.tup
 [li (atS l), lb true])) (.t (.f [] [] (.tup [li (-1 : Int), lb false])) .q)))) (by
 dsimp only [Yd3, Z9y, Ydb, Z4x]
 with_reducible repeat' (first | apply And.intro | exact zR | (intro))
 all_goals ((try simp only [std, inj] at *); with_reducible and_intros)
 all_goals try first | exact z | grind [okA, atF, Yd7, Yd8, Yd4])
abbrev Z9z (l : List YS) : Ct := ⟨92, [], [ll (l.map Ycz)], [], .sv (li (atI l))⟩
def Z4y (l : List YS) : Lp Nat := .mk 16 0 (fun x => [(5, ll (l.map Ycz)), (6, li (↑(l.map Ycz).length : Int)), (7, hs x 0)]) (fun x => []) (fun k => [.s
 (li (k : Int))]) (fun k => k <= l.length /\ l.length <= 9223372036854775807 /\ k <= List.findIdx Yd5 l) (fun k => l.length - k) [.mk (atI l = (-1 : Int)) (.exit 0) (fun x => [])
 (fun x => []) [], .mk True .ret (fun x => [(2, hs x 0)]) (fun x => []) [.s (li (atI l))]]
theorem Zc2 (l : List YS) : Lp.Sem Tryz.prog (Ydg Tryz.f92 0) (Z4y l) := Ydr (fun k => .i ((k : Int) < (↑(l.map Ycz).length : Int)) (.x (k : Int)
 (l.map Ycz) (Yda (l.getD k default)) (.c [.rd] (Z1 (l.getD k default)) (.b (Yd5 (l.getD k default)) (.o 1 [] [.s (li (k : Int))]) (.r ((k : Int) + 1) (.g []
 (k + 1) [.s (li ((k : Int) + 1))]))))) (.o 0 [] [])) (by
 intro k h; try dsimp only [Yd3, Ydb, Z4y] at h ⊢
 have g1 := @Y1ez _ _ Yd5 l k
 have g2 := @Y14a _ _ Yd5 l k
 with_reducible repeat' (first | apply And.intro | exact zR | (intro) | apply Z1)
 all_goals ((try simp only [std, inj] at *); with_reducible and_intros)
 all_goals try with_reducible first | apply Z1
 all_goals try first | exact z | grind [atI, Yd7, Yd8, Yd4])
theorem Z89 (l : List YS)  : Z9z l := Yde Tryz.call92 Tryz.func92 (.z Ycz l (.l (Z4y l) (Zc2 l) [] [.s (li 0)] 0 (.t (.s (li (-1 : Int))) (.t (.s (li (atI
 l))) .q)))) (by
 dsimp only [Yd3, Z9z, Ydb, Z4y]
 with_reducible repeat' (first | apply And.intro | exact zR | (intro) | apply Z1)
 all_goals ((try simp only [std, inj] at *); with_reducible and_intros)
 all_goals try with_reducible first | apply Z1
 all_goals (try exact zG))
def wlk (f : YS -> Int -> List YC -> Option (List YC)) : List YS -> Int -> Int -> Int -> List YC -> Option (List YC)
 | [], _, _, _, o => some o
 | x :: r, i, a, d, o => if i = a then wlk f r (i + 1) a d o else match f x (if i + 1 = a then d + 1 else d) o with
  | none => none
  | some o' => wlk f r (i + 1) a d o'
theorem Yly (f : YS -> Int -> List YC -> Option (List YC)) : ∀ (A B : List YS) (i a d : Int) (o : List YC), wlk f (A ++ B) i a d o = match wlk f A i a d o with
  | none => none
  | some o' => wlk f B (i + (A.length : Int)) a d o'
 | [], B, i, a, d, o => by simp [wlk]
 | x :: A, B, i, a, d, o => by
  have e : i + ((x :: A).length : Int) = i + 1 + (A.length : Int) := by simp only [List.length_cons]; omega
  simp only [List.cons_append, wlk, e]
  split
  ·exact Yly f A B _ a d o
  ·split
   ·rfl
   ·exact Yly f A B _ a d _
theorem Yp2 {f : YS -> Int -> List YC -> Option (List YC)} {l : List YS} {k : Nat} {a d : Int} {o o' : List YC} (h : k < l.length) (e : wlk f (l.take k) 0 a d o = some o') :
  wlk f (l.take (k + 1)) 0 a d o = if (k : Int) = a then some o' else f (l.getD k default) (if (k : Int) + 1 = a then d + 1 else d) o' := by
 rw [Ydn h, Yly, e]
 have : (0 : Int) + ((l.take k).length : Int) = (k : Int) := by simp; omega
 simp only [this, wlk]
 split
 ·rfl
 ·cases f (l.getD k default) (if (k : Int) + 1 = a then d + 1 else d) o' <;> rfl
theorem Y12i {f : YS -> Int -> List YC -> Option (List YC)} {l : List YS} {k : Nat} {a d : Int} {o : List YC} (e : wlk f (l.take k) 0 a d o = none) : wlk f l 0 a d o = none := by
 have := Yly f (l.take k) (l.drop k) 0 a d o
 rw [List.take_append_drop, e] at this; exact this
def Ygh (p : YS) (d : Int) : YC := ⟨p, d, ⟨0, 0, mkS [], [], []⟩, []⟩
mutual
def vrS (Ls : List YS) : YS -> Int -> List YC -> Option (List YC)
 | ⟨k, n, t, s, l⟩, d, o => if k = 1 then (if Ye3 ⟨k, n, t, s, l⟩ = true ∨ Ydo Ls ⟨k, n, t, s, l⟩ = true then some o else
   if Yd5 ⟨k, n, t, s, l⟩ = true ∨ 0 <= fnd o ⟨k, n, t, s, l⟩ ∨ 3 < d then none else some (o ++ [Ygh ⟨k, n, t, s, l⟩ d]))
  else if okS l = true then Yx9 Ls l 0 (atS l) d o else none
def Yx9 (Ls : List YS) : List YS -> Int -> Int -> Int -> List YC -> Option (List YC)
 | [], _, _, _, o => some o
 | x :: r, i, a, d, o => if i = a then Yx9 Ls r (i + 1) a d o else match vrS Ls x (if i + 1 = a then d + 1 else d) o with
  | none => none
  | some o' => Yx9 Ls r (i + 1) a d o'
end
theorem Y160 (Ls : List YS) : ∀ l i a d o, Yx9 Ls l i a d o = wlk (vrS Ls) l i a d o
 | [], i, a, d, o => by simp [Yx9, wlk]
 | x :: r, i, a, d, o => by
  simp only [Yx9, wlk, Y160 Ls r]
theorem Yhf (Ls : List YS) (p : YS) (d : Int) (o : List YC) : vrS Ls p d o = if p.kind = 1 then (if Ye3 p = true ∨ Ydo Ls p = true then some o else
      if Yd5 p = true ∨ 0 <= fnd o p ∨ 3 < d then none else some (o ++ [Ygh p d]))
    else if okS p.items = true then wlk (vrS Ls) p.items 0 (atS p.items) d o else none := by cases p; simp only [vrS, Y160]
theorem Yoe (f : YS -> Int -> List YC -> Option (List YC)) : ∀ (l : List YS), (∀ x ∈ l, ∀ d o o', f x d o = some o' -> o'.length <= o.length + sizeY x) -> ∀ i a d o o', wlk f l i a d o = some o' -> o'.length <= o.length + sumBy sizeY l
 | [], _, i, a, d, o, o', e => by simp only [wlk, Option.some.injEq] at e; subst e; simp [sumBy]
 | x :: r, h, i, a, d, o, o', e => by
  have ih := Yoe f r fun y hy => h y (List.mem_cons_of_mem _ hy)
  simp only [wlk] at e
  simp only [sumBy]
  split at e
  ·have := ih _ _ _ _ _ e; omega
  ·split at e
   ·cases e
   ·rename_i o1 h1
    have h2 := ih _ _ _ _ _ e
    have h3 := h x List.mem_cons_self _ _ _ h1
    omega
theorem Y15h (Ls : List YS) : ∀ (p : YS) (d : Int) (o o' : List YC), vrS Ls p d o = some o' -> o'.length <= o.length + sizeY p := by
 refine YS.ind fun p ih d o o' e => ?_
 rw [Yhf] at e
 rw [Ye6]
 split at e
 ·split at e
  ·simp only [Option.some.injEq] at e; subst e; omega
  ·split at e
   ·cases e
   ·simp only [Option.some.injEq] at e; subst e; simp
 ·split at e
  ·have := Yoe (vrS Ls) p.items (fun x hx d o o' h => ih x hx d o o' h) _ _ _ _ _ e; omega
  ·cases e
def vaS (Ls : List YS) (p : YS) (d : Int) (o : List YC) (k : Nat) : List YC := if okS p.items = true then (wlk (vrS Ls) (p.items.take k) 0 (atS p.items) d o).getD [] else o
def vbS (Ls : List YS) (p : YS) (d : Int) (o : List YC) (k : Nat) : Bool := okS p.items && (wlk (vrS Ls) (p.items.take k) 0 (atS p.items) d o).isSome
theorem Y1f5 {Ls : List YS} {p : YS} {d : Int} {o : List YC} {k : Nat} (hk : k <= p.items.length) (h : vbS Ls p d o k = false) : vaS Ls p d o k = vaS Ls p d o p.items.length /\ vbS Ls p d o p.items.length = false := by
 unfold vaS vbS at *
 by_cases e : okS p.items = true
 ·rw [e] at h
  cases e2 : wlk (vrS Ls) (p.items.take k) 0 (atS p.items) d o with
  | none => rw [if_pos e, if_pos e, List.take_length, Y12i e2]; simp
  | some v => rw [e2] at h; cases h
 ·have e' : okS p.items = false := by simpa using e
  rw [if_neg e, if_neg e, e']; simp
theorem Y1ff {Ls : List YS} {p : YS} {d : Int} {o : List YC} {k : Nat} (hk : k < p.items.length) (h : vbS Ls p d o k = true) (e : (k : Int) = atS p.items) : vaS Ls p d o (k + 1) = vaS Ls p d o k /\ vbS Ls p d o (k + 1) = true := by
 unfold vaS vbS at *
 simp only [Bool.and_eq_true] at h
 obtain ⟨v, hv⟩ := Option.isSome_iff_exists.1 h.2
 rw [if_pos h.1, if_pos h.1, Yp2 hk hv, if_pos e, hv, h.1]; simp
theorem Y1lh {Ls : List YS} {p : YS} {d : Int} {o : List YC} {k : Nat} (hk : k < p.items.length) (h : vbS Ls p d o k = true) (e : ¬ (k : Int) = atS p.items) :
  vaS Ls p d o (k + 1) = (vrS Ls (p.items.getD k default) (if (k : Int) + 1 = atS p.items then d + 1 else d) (vaS Ls p d o k)).getD [] /\ vbS Ls p d o (k + 1) = (vrS Ls (p.items.getD k default) (if (k : Int) + 1 = atS p.items then d + 1 else d) (vaS Ls p d o k)).isSome := by
 unfold vaS vbS at *
 simp only [Bool.and_eq_true] at h
 obtain ⟨v, hv⟩ := Option.isSome_iff_exists.1 h.2
 rw [if_pos h.1, if_pos h.1, Yp2 hk hv, if_neg e, hv, h.1]; simp
theorem Y1hu {Ls : List YS} {p : YS} {d : Int} {o : List YC} {k : Nat} (h : vbS Ls p d o k = true) : (vaS Ls p d o k).length <= o.length + sumBy sizeY (p.items.take k) := by
 unfold vaS vbS at *
 simp only [Bool.and_eq_true] at h
 obtain ⟨v, hv⟩ := Option.isSome_iff_exists.1 h.2
 rw [if_pos h.1, hv]
 exact Yoe (vrS Ls) _ (fun x _ d o o' h => Y15h Ls x d o o' h) _ _ _ _ _ hv
theorem Y1kr {Ls : List YS} {p : YS} {d : Int} {o : List YC} {k : Nat} (h : vbS Ls p d o k = true) : okS p.items = true := by
 unfold vbS at h; simp only [Bool.and_eq_true] at h; exact h.1
theorem Y1jf (Ls : List YS) (p : YS) (d : Int) (o : List YC) (hk : ¬ p.kind = 1) : (vrS Ls p d o).isSome = vbS Ls p d o p.items.length /\ (vbS Ls p d o p.items.length = true -> (vrS Ls p d o).getD [] = vaS Ls p d o p.items.length) /\ (vbS Ls p d o p.items.length = false -> (vrS Ls p d o).getD [] = []) := by
 rw [Yhf, if_neg hk]
 unfold vaS vbS
 rw [List.take_length]
 by_cases e : okS p.items = true
 ·rw [if_pos e, if_pos e, e]
  cases wlk (vrS Ls) p.items 0 (atS p.items) d o <;> simp
 ·have e' : okS p.items = false := by simpa using e
  rw [if_neg e, if_neg e, e']; simp
theorem Yhj {p : YS} {k : Nat} (h : k < p.items.length) : sumBy sizeY (p.items.take k) + sizeY (p.items.getD k default) + 1 <= sizeY p /\ wY (p.items.getD k default) <= wY p := by
 have g1 := Ye6 p
 have g2 := @Ygx _ _ sizeY p.items k h
 have g3 := Yg2 sizeY p.items (k + 1)
 have g4 := @Yew _ wY p.items _ (Yd6 h)
 have g5 := Yfq p
 omega
theorem Y12o (o : List YC) (p : YS) (d : Int) : o.map Yd0 ++ [[cI p.kind, cI p.number, cS p.text, Cell.list (List.map Yd2 p.scopes), Cell.list (List.map Ycz p.items), cI d, cI 0, cI 0, cS (mkS []), Cell.list [], Cell.list [], Cell.list []]] = (o ++ [Ygh p d]).map Yd0 :=
 Yd4 (C := Yd0) o (Ygh p d)
theorem Y142 (Ls : List YS) (p : YS) (d : Int) (o : List YC) (hk : p.kind = 1) (h : Ye3 p = true ∨ Ydo Ls p = true) : vrS Ls p d o = some o := by
 rw [Yhf, if_pos hk, if_pos h]
theorem Yrz (Ls : List YS) (p : YS) (d : Int) (o : List YC) (hk : p.kind = 1) (h : Ye3 p = false) (h2 : Ydo Ls p = false) (h3 : Yd5 p = true ∨ 0 <= fnd o p ∨ 3 < d) : vrS Ls p d o = none := by
 rw [Yhf, if_pos hk, if_neg (by rw [h, h2]; simp), if_pos h3]
theorem Y15u (Ls : List YS) (p : YS) (d : Int) (o : List YC) (hk : p.kind = 1) (h : Ye3 p = false) (h2 : Ydo Ls p = false) (h3 : Yd5 p = false) (h4 : fnd o p < 0) (h5 : d <= 3) : vrS Ls p d o = some (o ++ [Ygh p d]) := by
 rw [Yhf, if_pos hk, if_neg (by rw [h, h2]; simp), if_neg (by rw [h3]; simp; omega)]
abbrev Zi (Ls : List YS) (p : YS) (d : Int) (o : List YC) : Ct := ⟨40, [.arr true 12 (o.map Yd0)], [ll (Ls.map Ycz), Ydl p, li d, .one (.ref 0)], [.dead, .arr true 12 (((vrS Ls p d o).getD []).map Yd0)], .tup [.one (.ref 1), lb (vrS Ls p d o).isSome]⟩
def Z2i (Ls : List YS) (p : YS) (d : Int) (o : List YC) : Lp Nat := .mk 84 1 (fun x => [(0, ll (Ls.map Ycz)), (2, li d), (3, .one (.ref 1)), (10,
 li (if okS p.items = true then atS p.items else (-1 : Int))), (11, hs x 1), (53, ll (p.items.map Ycz)), (54, li (↑(p.items.map Ycz).length : Int)), (55, hs x
 0)]) (fun x => [.dead, ho x 2]) (fun k => [.s (li (k : Int)), .s (lb (vbS Ls p d o k)), .o (.arr true 12 ((vaS Ls p d o k).map Yd0))]) (fun k => k <= p.items.length
 /\ p.items.length <= 9223372036854775807) (fun k => p.items.length - k) [.mk True (.exit 0) (fun x => [(3, .one (.ref 1)), (11, hs x 0)]) (fun x => [.dead, ho x 1]) [.s (lb
 (vbS Ls p d o p.items.length)), .o (.arr true 12 ((vaS Ls p d o p.items.length).map Yd0))]]
theorem Z8t (Ls : List YS) (p : YS) (d : Int) (o : List YC) (h : 0 <= d /\ d + (↑(Ydp p) : Int) <= 1000 /\ wY p <= 1048576 /\ o.length + sizeY p <= 2147483647) (ih
 : ∀ (z : YS), z ∈ p.items -> ∀ (Ls : List YS) (d : Int) (o : List YC), 0 <= d /\ d + (↑(Ydp z) : Int) <= 1000 /\ wY z <= 1048576 /\ o.length + sizeY z <= 2147483647 -> OK
 (Zi Ls z d o)) : Lp.Sem Tryz.prog (Ydg Tryz.f40 0) (Z2i Ls p d o) := Ydr (fun k => .i ((k : Int) < (↑(p.items.map Ycz).length : Int)) (.x (k : Int)
 (p.items.map Ycz) (Yda (p.items.getD k default)) (.b (!vbS Ls p d o k) (.o 0 [0, 1] [.s (lb (vbS Ls p d o k)), .o (.arr true 12 ((vaS Ls p d o
 k).map Yd0))]) (.i ((k : Int) = if okS p.items = true then atS p.items else (-1 : Int)) (.r ((k : Int) + 1) (.g [0, 1] (k + 1) [.s (li ((k : Int) + 1)), .s (lb (vbS Ls p d o k)), .o
 (.arr true 12 ((vaS Ls p d o k).map Yd0))])) (.r ((k : Int) + 1) (.i ((k : Int) + 1 = if okS p.items = true then atS p.items else (-1 : Int)) (.r (d + 1) (.d [.rd,
 .rd, .rd, .own true 12] (Zi Ls (p.items.getD k default) (d + 1) (vaS Ls p d o k)) (.r ((k : Int) + 1) (.g [0, 4] (k + 1) [.s (li ((k : Int) + 1)), .s (lb (vrS Ls
 (p.items.getD k default) (d + 1) (vaS Ls p d o k)).isSome), .o (.arr true 12 (((vrS Ls (p.items.getD k default) (d + 1) (vaS Ls p d o k)).getD []).map Yd0))])))) (.d
 [.rd, .rd, .rd, .own true 12] (Zi Ls (p.items.getD k default) d (vaS Ls p d o k)) (.r ((k : Int) + 1) (.g [0, 4] (k + 1) [.s (li ((k : Int) + 1)), .s (lb (vrS Ls
 (p.items.getD k default) d (vaS Ls p d o k)).isSome), .o (.arr true 12 (((vrS Ls (p.items.getD k default) d (vaS Ls p d o k)).getD []).map Yd0))])))))))) (.o 0 [0, 1]
 [.s (lb (vbS Ls p d o k)), .o (.arr true 12 ((vaS Ls p d o k).map Yd0))])) (by
 intro k h; try dsimp only [Yd3, Ydb, Z2i] at h ⊢
 have g1 := @Y1f5 Ls p d o k
 have g2 := @Y1ff Ls p d o k
 have g3 := @Y1lh Ls p d o k
 have g4 := @Y1hu Ls p d o k
 have g5 := @Y1kr Ls p d o k
 have g6 := @Yh7 p k
 have g7 := @Yhj p k
 have g8 : k < p.items.length ∨ k = p.items.length ∨ p.items.length < k := by omega
 with_reducible repeat' (first | apply And.intro | exact zR | exact ih | (intro) | apply Zb | apply ih)
 all_goals ((try simp only [std, inj] at *); with_reducible and_intros)
 all_goals try with_reducible first | apply Zb | apply ih
 all_goals try first | exact z | grind [Yd6, Yd7, Yd8, Yd4])
theorem Zaz (Ls : List YS) (p : YS) (d : Int) (o : List YC) (h : 0 <= d /\ d + Ydp p <= 1000 /\ wY p <= 1048576 /\ o.length + sizeY p <= 2147483647) (ih : ∀ z ∈
 p.items, ∀ (Ls : List YS) (d : Int) (o : List YC) (h : 0 <= d /\ d + Ydp z <= 1000 /\ wY z <= 1048576 /\ o.length + sizeY z <= 2147483647), Zi Ls z d o)  : Zi Ls
 p d o := Yde Tryz.call40 Tryz.func40 (.i (p.kind = 1) (.i (p.text.data.toList = [(95 : UInt8)]) (.y true (.w (.ghost (.move 0)) (.f [2] [.dead, .arr true 12 (List.map Yd0
 o)] (.tup [.one (.ref 1), lb true])))) (.c [.rd, .rd] (Z3r Ls p) (.b (Ydo Ls p) (.w (.ghost (.move 0)) (.f [2] [.dead, .arr true 12 (o.map Yd0)] (.tup
 [.one (.ref 1), lb true]))) (.c [.rd] (Z2s p) (.b (Yd5 p) (.y true (.y true (.w (.ghost (.nilreg 8 true 12)) (.w (.ghost (.move 0)) (.f [2] [.dead, .arr true 12 []]
 (.tup [.one (.ref 1), lb false])))))) (.c [.rd, .rd] (Z76 o p) (.i (0 <= fnd o p) (.y true (.w (.ghost (.nilreg 8 true 12)) (.w (.ghost (.move 0)) (.f [2] [.dead,
 .arr true 12 []] (.tup [.one (.ref 1), lb false]))))) (.i (3 < d) (.w (.ghost (.nilreg 8 true 12)) (.w (.ghost (.move 0)) (.f [2] [.dead, .arr true 12 []] (.tup
 [.one (.ref 1), lb false])))) (.d [.rd] (Z1q p) (.p (((o.map Yd0).length + 1) * 192 <= 140737488355328) (.f [5] [.dead, .arr true 12 (o.map Yd0
 ++ [[cI p.kind, cI p.number, cS p.text, .list (p.scopes.map Yd2), .list (p.items.map Ycz), cI d, cI 0, cI 0, cS (ByteArray.mk #[]), .list [], .list
 [], .list []]])] (.tup [.one (.ref 1), lb true])))))))))))) (.c [.rd] (Zcc p.items) (.z Ycz p.items (.w (.ghost (.move 0)) (.l (Z2i Ls p d o)
 (Z8t Ls p d o h ih) [0, 2] [.s (li 0), .s (lb (okS p.items)), .o (.arr true 12 (o.map Yd0))] 0 (.t (.b (!vbS Ls p d o p.items.length) (.w (.ghost (.nilreg 8
 true 12)) (.f [2] [.dead, .arr true 12 []] (.tup [.one (.ref 1), lb false]))) (.f [1] [.dead, .arr true 12 ((vaS Ls p d o p.items.length).map Yd0)] (.tup
 [.one (.ref 1), lb true]))) .q)))))) (by
 dsimp only [Yd3, Zi, Ydb, Z2i]
 have g1 := Y1jf Ls p d o
 have g2 := Ye6 p
 have g3 : Ye3 p = decide (p.text.data.toList = [95]) := rfl
 have g4 := Y142 Ls p d o
 have g5 := Yrz Ls p d o
 have g6 := Y15u Ls p d o
 have g7 : ¬p.kind = 1 -> okS p.items = false -> vbS Ls p d o 0 = false := fun _ h => by unfold vbS; rw [h]; rfl
 have g8 : okS p.items = true -> vbS Ls p d o 0 = true := fun h => by unfold vbS; rw [h]; simp [wlk]
 have g9 : vaS Ls p d o 0 = o := by unfold vaS; split <;> simp [wlk]
 have g10 : okS p.items = vbS Ls p d o 0 := by unfold vbS; simp [wlk]
 have g11 := Y12o o p d
 have g12 : p.kind = 1 -> Ye3 p = false -> Ydo Ls p = false -> Yd5 p = false -> fnd o p < 0 -> d <= 3 -> (vrS Ls p d o).getD [] = o ++ [Ygh p d] := fun a b c e f g => by rw [g6 a b c e f g]; rfl
 with_reducible repeat' (first | apply And.intro | exact zR | exact ih | (intro) | apply Zb)
 all_goals ((try simp only [std, inj] at *); with_reducible and_intros)
 all_goals try first | with_reducible (first | apply Zb | apply ih) | (simp only [<- List.map_append]; with_reducible first | apply Zb | apply ih)
 all_goals (try exact zG))
theorem Z78 (p : YS) : ∀ (Ls : List YS) (d : Int) (o : List YC) (h : 0 <= d /\ d + Ydp p <= 1000 /\ wY p <= 1048576 /\ o.length + sizeY p <= 2147483647), Zi Ls p d o := YS.ind (P := fun p => ∀ (Ls : List YS) (d : Int) (o : List YC) (h : 0 <= d /\ d + Ydp p <= 1000 /\ wY p <= 1048576 /\ o.length + sizeY p <= 2147483647), Zi Ls p d o) (fun p ih Ls d o h => Zaz Ls p d o h ih) p
abbrev Z4z (Ls : List YS) (p : YS) : Ct := ⟨9, [], [ll (Ls.map Ycz), Ydl p], [.arr true 12 ((if okL Ls = true /\ Ydk p = true then (vrS Ls p 0 []).getD [] else []).map Yd0)], .tup [.one (.ref 0), lb (okL Ls && Ydk p && (vrS Ls p 0 []).isSome)]⟩
theorem Z3v (Ls : List YS) (p : YS) (h : wY p <= 1048576)  : Z4z Ls p := Yde Tryz.call9 Tryz.func9 (.c [.rd] (Zci Ls) (.b (!okL Ls) (.y true (.w (.ghost (.nilreg
 4 true 12)) (.f [1] [.arr true 12 []] (.tup [.one (.ref 0), lb false])))) (.c [.rd] (Z1s p) (.b (!Ydk p) (.w (.ghost (.nilreg 4 true 12)) (.f [1] [.arr true 12
 []] (.tup [.one (.ref 0), lb false]))) (.w (.bool false) (.d [.rd, .rd, .rd, .own true 12] (Zi Ls p 0 []) (.f [3] [.arr true 12 (((vrS Ls p 0
 []).getD []).map Yd0)] (.tup [.one (.ref 0), lb (vrS Ls p 0 []).isSome])))))))) (by
 dsimp only [Yd3, Z4z]
 have g : Ydk p = true -> sizeY p <= 2000 /\ Ydp p <= 40 := fun h => by simp only [Ydk, Bool.and_eq_true, decide_eq_true_eq] at h; exact ⟨h.1.1, h.1.2⟩
 with_reducible repeat' (first | apply And.intro | exact zR | (intro) | apply Z78)
 all_goals ((try simp only [std, inj] at *); with_reducible and_intros)
 all_goals try with_reducible first | apply Z78
 all_goals (try exact zG))
mutual
def vrI (Ls : List YS) : YS -> Int -> List YC -> Option (List YC)
 | ⟨k, n, t, s, l⟩, d, o => if k = 1 then (if Yd5 ⟨k, n, t, s, l⟩ = true then none else if Ye3 ⟨k, n, t, s, l⟩ = true ∨ Yfr Ls ⟨k, n, t, s, l⟩ = true then some o else
   if 3 < d then none else if (o.any fun c => Yg7 c.name ⟨k, n, t, s, l⟩) = true then none else some (o ++ [Ygh ⟨k, n, t, s, l⟩ d]))
  else if k ≠ 0 then some o else if atI l = 0 then none else Yx8 Ls l 0 (atI l) d o
def Yx8 (Ls : List YS) : List YS -> Int -> Int -> Int -> List YC -> Option (List YC)
 | [], _, _, _, o => some o
 | x :: r, i, a, d, o => if i = a then Yx8 Ls r (i + 1) a d o else match vrI Ls x (if i + 1 = a then d + 1 else d) o with
  | none => none
  | some o' => Yx8 Ls r (i + 1) a d o'
end
theorem Y14b (Ls : List YS) : ∀ l i a d o, Yx8 Ls l i a d o = wlk (vrI Ls) l i a d o
 | [], i, a, d, o => by simp [Yx8, wlk]
 | x :: r, i, a, d, o => by
  simp only [Yx8, wlk, Y14b Ls r]
theorem Yij (Ls : List YS) (p : YS) (d : Int) (o : List YC) : vrI Ls p d o = if p.kind = 1 then (if Yd5 p = true then none else if Ye3 p = true ∨ Yfr Ls p = true then some o else
      if 3 < d then none else if (o.any fun c => Yg7 c.name p) = true then none else some (o ++ [Ygh p d]))
    else if p.kind ≠ 0 then some o else if atI p.items = 0 then none else wlk (vrI Ls) p.items 0 (atI p.items) d o := by cases p; simp only [vrI, Y14b]
theorem Y1gm (Ls : List YS) : ∀ (p : YS) (d : Int) (o o' : List YC), vrI Ls p d o = some o' -> o'.length <= o.length + sizeY p := by
 refine YS.ind fun p ih d o o' e => ?_
 rw [Yij] at e
 rw [Ye6]
 split at e
 ·split at e
  ·cases e
  ·split at e
   ·simp only [Option.some.injEq] at e; subst e; omega
   ·split at e
    ·cases e
    ·split at e
     ·cases e
     ·simp only [Option.some.injEq] at e; subst e; simp
 ·split at e
  ·simp only [Option.some.injEq] at e; subst e; omega
  ·split at e
   ·cases e
   ·have := Yoe (vrI Ls) p.items (fun x hx d o o' h => ih x hx d o o' h) _ _ _ _ _ e; omega
def wI (Ls : List YS) (p : YS) (d : Int) (o : List YC) (k : Nat) : Option (List YC) := wlk (vrI Ls) (p.items.take k) 0 (atI p.items) d o
def vaI (Ls : List YS) (p : YS) (d : Int) (o : List YC) (k : Nat) : List YC := (wI Ls p d o k).getD []
def vbI (Ls : List YS) (p : YS) (d : Int) (o : List YC) (k : Nat) : Bool := (wI Ls p d o k).isSome
theorem Y1f3 {Ls : List YS} {p : YS} {d : Int} {o : List YC} {k : Nat} (hk : k < p.items.length) (h : vbI Ls p d o k = true) (e : (k : Int) = atI p.items) : vaI Ls p d o (k + 1) = vaI Ls p d o k /\ vbI Ls p d o (k + 1) = true := by
 unfold vaI vbI wI at *
 obtain ⟨v, hv⟩ := Option.isSome_iff_exists.1 h
 rw [Yp2 hk hv, if_pos e, hv]; simp
theorem Y1kd {Ls : List YS} {p : YS} {d : Int} {o : List YC} {k : Nat} (hk : k < p.items.length) (h : vbI Ls p d o k = true) (e : ¬ (k : Int) = atI p.items) :
  vaI Ls p d o (k + 1) = (vrI Ls (p.items.getD k default) (if (k : Int) + 1 = atI p.items then d + 1 else d) (vaI Ls p d o k)).getD [] /\ vbI Ls p d o (k + 1) = (vrI Ls (p.items.getD k default) (if (k : Int) + 1 = atI p.items then d + 1 else d) (vaI Ls p d o k)).isSome := by
 unfold vaI vbI wI at *
 obtain ⟨v, hv⟩ := Option.isSome_iff_exists.1 h
 rw [Yp2 hk hv, if_neg e, hv]; simp
theorem Y1gv {Ls : List YS} {p : YS} {d : Int} {o : List YC} {k : Nat} (h : vbI Ls p d o k = false) : vbI Ls p d o p.items.length = false := by
 unfold vbI wI at *
 cases e2 : wlk (vrI Ls) (p.items.take k) 0 (atI p.items) d o with
 | none => rw [List.take_length, Y12i e2]; rfl
 | some v => rw [e2] at h; cases h
theorem Y1i6 {Ls : List YS} {p : YS} {d : Int} {o : List YC} {k : Nat} (h : vbI Ls p d o k = true) : (vaI Ls p d o k).length <= o.length + sumBy sizeY (p.items.take k) := by
 unfold vaI vbI wI at *
 obtain ⟨v, hv⟩ := Option.isSome_iff_exists.1 h
 rw [hv]
 exact Yoe (vrI Ls) _ (fun x _ d o o' h => Y1gm Ls x d o o' h) _ _ _ _ _ hv
theorem Y1j6 (Ls : List YS) (p : YS) (d : Int) (o : List YC) (hk : ¬ p.kind = 1) (h0 : p.kind = 0) (ha : ¬ atI p.items = 0) : (vrI Ls p d o).isSome = vbI Ls p d o p.items.length /\ (vrI Ls p d o).getD [] = vaI Ls p d o p.items.length := by
 rw [Yij, if_neg hk, if_neg (by simp [h0]), if_neg ha]
 unfold vaI vbI wI
 rw [List.take_length]; exact ⟨rfl, rfl⟩
theorem Yua {Ls : List YS} {p : YS} {d : Int} {o : List YC} (hk : p.kind = 1) (h : Yd5 p = true) : vrI Ls p d o = none := by
 rw [Yij, if_pos hk, if_pos h]
theorem Y14x {Ls : List YS} {p : YS} {d : Int} {o : List YC} (hk : p.kind = 1) (h : Yd5 p = false) (h2 : Ye3 p = true ∨ Yfr Ls p = true) : vrI Ls p d o = some o := by
 rw [Yij, if_pos hk, if_neg (by simp [h]), if_pos h2]
theorem Y12k {Ls : List YS} {p : YS} {d : Int} {o : List YC} (hk : p.kind = 1) (h : Yd5 p = false) (h2 : Ye3 p = false) (h3 : Yfr Ls p = false) (h4 : 3 < d) : vrI Ls p d o = none := by
 rw [Yij, if_pos hk, if_neg (by simp [h]), if_neg (by simp [h2, h3]), if_pos h4]
theorem Yxq {Ls : List YS} {p : YS} {d : Int} {o : List YC} (hk : p.kind = 1) (h : Yd5 p = false) (h2 : Ye3 p = false) (h3 : Yfr Ls p = false) (h5 : (o.any fun c => Yg7 c.name p) = true) : vrI Ls p d o = none := by
 rw [Yij, if_pos hk, if_neg (by simp [h]), if_neg (by simp [h2, h3])]
 split
 ·rfl
 ·first | rfl | rw [if_pos h5]
theorem Y149 {Ls : List YS} {p : YS} {d : Int} {o : List YC} (hk : p.kind = 1) (h : Yd5 p = false) (h2 : Ye3 p = false) (h3 : Yfr Ls p = false) (h4 : d <= 3) (h5 : (o.any fun c => Yg7 c.name p) = false) : vrI Ls p d o = some (o ++ [Ygh p d]) := by
 rw [Yij, if_pos hk, if_neg (by simp [h]), if_neg (by simp [h2, h3]), if_neg (by omega), if_neg (by simp [h5])]
theorem Yy5 {Ls : List YS} {p : YS} {d : Int} {o : List YC} (hk : ¬ p.kind = 1) (h0 : ¬ p.kind = 0) : vrI Ls p d o = some o := by
 rw [Yij, if_neg hk, if_pos h0]
theorem Yyr {Ls : List YS} {p : YS} {d : Int} {o : List YC} (hk : ¬ p.kind = 1) (h0 : p.kind = 0) (ha : atI p.items = 0) : vrI Ls p d o = none := by
 rw [Yij, if_neg hk, if_neg (by simp [h0]), if_pos ha]
abbrev Z9 (Ls : List YS) (p : YS) (d : Int) (o : List YC) : Ct := ⟨87, [.arr true 12 (o.map Yd0)], [ll (Ls.map Ycz), Ydl p, li d, .one (.ref 0)], [.dead, .arr true 12 (((vrI Ls p d o).getD []).map Yd0)], .tup [.one (.ref 1), lb (vrI Ls p d o).isSome]⟩
def Z2j (Ls : List YS) (p : YS) (d : Int) (o : List YC) : Lp Nat := .mk 93 1 (fun x => [(0, ll (Ls.map Ycz)), (2, li d), (3, .one (.ref 1)), (12,
 li (atI p.items)), (63, ll (p.items.map Ycz)), (64, li (↑(p.items.map Ycz).length : Int)), (65, hs x 0)]) (fun x => [.dead, ho x 1]) (fun k => [.s (li (↑k :
 Int)), .o (.arr true 12 ((vaI Ls p d o k).map Yd0))]) (fun k => k <= p.items.length /\ p.items.length <= 9223372036854775807 /\ vbI Ls p d o k = true) (fun k =>
 p.items.length - k) [.mk (vbI Ls p d o p.items.length = true) (.exit 3) (fun x => [(3, .one (.ref 1))]) (fun x => [.dead, ho x 0]) [.o (.arr true 12 (List.map Yd0
 (vaI Ls p d o p.items.length)))], .mk (vbI Ls p d o p.items.length = false) .ret (fun x => [(8, hs x 0), (9, hs x 1)]) (fun x => [.dead]) [.s (.one (.val (.lit
 (.slice none 0 0)))), .s (lb false)]]
def Z2k (Ls : List YS) (p : YS) (d : Int) (o : List YC) : Lp Nat := .mk 93 1 (fun x => [(2, li d), (3, .one (.ref 1)), (5, .one (.ptr 2 0)), (34,
 .one (.ref 1)), (35, li (↑(o.map Yd0).length : Int)), (36, hs x 0)]) (fun x => [.dead, .arr true 12 (o.map Yd0), .box (vals (Yda p))]) (fun k =>
 [.s (li (k : Int))]) (fun k => k <= o.length /\ o.length <= 9223372036854775807 /\ ((o.take k).any fun c => Yg7 c.name p) = false) (fun k => o.length - k) [.mk ((o.any fun c
 => Yg7 c.name p) = false) (.exit 1) (fun x => [(2, li d), (3, .one (.ref 1)), (5, .one (.ptr 2 0))]) (fun x => [.dead, .arr true 12 (o.map Yd0), .box
 (vals (Yda p))]) [], .mk ((o.any fun c => Yg7 c.name p) = true) .ret (fun x => [(8, hs x 0), (9, hs x 1)]) (fun x => [.dead]) [.s (.one (.val (.lit (.slice
 none 0 0)))), .s (lb false)]]
theorem Z8u (Ls : List YS) (p : YS) (d : Int) (o : List YC) (h : 0 <= d /\ d + (↑(Ydp p) : Int) <= 1000 /\ wY p <= 1048576 /\ o.length + sizeY p <= 2147483647) (ih
 : ∀ (z : YS), z ∈ p.items -> ∀ (Ls : List YS) (d : Int) (o : List YC), 0 <= d /\ d + (↑(Ydp z) : Int) <= 1000 /\ wY z <= 1048576 /\ o.length + sizeY z <= 2147483647 -> OK
 (Z9 Ls z d o)) : Lp.Sem Tryz.prog (Ydg Tryz.f87 1) (Z2j Ls p d o) := Ydr (fun k => .i ((k : Int) < (↑(p.items.map Ycz).length : Int)) (.x (k : Int)
 (p.items.map Ycz) (Yda (p.items.getD k default)) (.i ((k : Int) = atI p.items) (.r ((k : Int) + 1) (.g [0, 1] (k + 1) [.s (li ((k : Int) + 1)), .o (.arr true 12
 ((vaI Ls p d o k).map Yd0))])) (.r ((k : Int) + 1) (.i ((k : Int) + 1 = atI p.items) (.r (d + 1) (.d [.rd, .rd, .rd, .own true 12] (Z9 Ls (p.items.getD k
 default) (d + 1) (vaI Ls p d o k)) (.b (!(vrI Ls (p.items.getD k default) (d + 1) (vaI Ls p d o k)).isSome) (.o 1 [0] [.s (.one (.val (.lit (.slice none 0 0)))), .s
 (lb false)]) (.r ((k : Int) + 1) (.g [0, 4] (k + 1) [.s (li ((k : Int) + 1)), .o (.arr true 12 (((vrI Ls (p.items.getD k default) (d + 1) (vaI Ls p d o
 k)).getD []).map Yd0))]))))) (.d [.rd, .rd, .rd, .own true 12] (Z9 Ls (p.items.getD k default) d (vaI Ls p d o k)) (.b (!(vrI Ls (p.items.getD k default) d (vaI Ls p d o
 k)).isSome) (.o 1 [0] [.s (.one (.val (.lit (.slice none 0 0)))), .s (lb false)]) (.r ((k : Int) + 1) (.g [0, 4] (k + 1) [.s (li ((k : Int) + 1)), .o (.arr true
 12 (((vrI Ls (p.items.getD k default) d (vaI Ls p d o k)).getD []).map Yd0))])))))))) (.o 0 [0, 1] [.o (.arr true 12 ((vaI Ls p d o k).map Yd0))])) (by
 intro k h; try dsimp only [Yd3, Ydb, Z2j] at h ⊢
 have g1 := @Y1gv Ls p d o (k + 1)
 have g2 := @Y1f3 Ls p d o k
 have g3 := @Y1kd Ls p d o k
 have g4 := @Y1i6 Ls p d o k
 have g6 := @Yh7 p k
 have g7 := @Yhj p k
 have g8 : k < p.items.length ∨ k = p.items.length ∨ p.items.length < k := by omega
 with_reducible repeat' (first | apply And.intro | exact zR | exact ih | (intro) | apply Z1 | apply Z4 | apply ih)
 all_goals ((try simp only [std, inj] at *); with_reducible and_intros)
 all_goals try with_reducible first | apply Z1 | apply Z4 | apply ih
 all_goals try first | exact z | grind [Yd6, Yd7, Yd8, Yd4])
theorem Z8v (Ls : List YS) (p : YS) (d : Int) (o : List YC) (h : 0 <= d /\ d + (↑(Ydp p) : Int) <= 1000 /\ wY p <= 1048576 /\ o.length + sizeY p <= 2147483647) (ih
 : ∀ (z : YS), z ∈ p.items -> ∀ (Ls : List YS) (d : Int) (o : List YC), 0 <= d /\ d + (↑(Ydp z) : Int) <= 1000 /\ wY z <= 1048576 /\ o.length + sizeY z <= 2147483647 -> OK
 (Z9 Ls z d o)) : Lp.Sem Tryz.prog (Ydg Tryz.f87 0) (Z2k Ls p d o) := Ydr (fun k => .i ((k : Int) < (↑(o.map Yd0).length : Int)) (.p (0 <= (k : Int)
 /\ (k : Int).toNat < (o.map Yd0).length) (.w (.cells (Ydj (o.getD (k : Int).toNat default))) (.p ((o.map Yd0)[(k : Int).toNat]? = some (Ydj (o.getD
 (k : Int).toNat default))) (.c [.rd, .rd] (Z75 (o.getD (k : Int).toNat default).name p) (.b (decide ((o.getD (k : Int).toNat default).name.kind = 1) && decide (p.kind = 1)
 && decide ((o.getD (k : Int).toNat default).name.text = p.text) && decide ((o.getD (k : Int).toNat default).name.scopes = p.scopes)) (.o 1 [0] [.s (.one (.val (.lit
 (.slice none 0 0)))), .s (lb false)]) (.r ((k : Int) + 1) (.g [0, 1, 2] (k + 1) [.s (li ((k : Int) + 1))]))))))) (.o 0 [0, 1, 2] [])) (by
 intro k h; try dsimp only [Yd3, Ydb, Z2k] at h ⊢
 have g : k < o.length -> Yg7 (o.getD k default).name p = true -> (o.any fun c => Yg7 c.name p) = true := fun h1 h2 => by
  rw [List.any_eq_true]; exact ⟨_, Yd6 h1, h2⟩
 have g2 : Yg7 (o.getD k default).name p = (decide ((o.getD k default).name.kind = 1) && decide (p.kind = 1) && decide ((o.getD k default).name.text = p.text) && decide ((o.getD k default).name.scopes = p.scopes)) := rfl
 with_reducible repeat' (first | apply And.intro | exact zR | exact ih | (intro) | apply Z1 | apply Z4)
 all_goals ((try simp only [std, inj] at *); with_reducible and_intros)
 all_goals try with_reducible first | apply Z1 | apply Z4 | apply ih
 all_goals try first | exact z | grind [Ydn, Yd7, Yd8, Yd4])
theorem Zb0 (Ls : List YS) (p : YS) (d : Int) (o : List YC) (h : 0 <= d /\ d + Ydp p <= 1000 /\ wY p <= 1048576 /\ o.length + sizeY p <= 2147483647) (ih : ∀ z ∈
 p.items, ∀ (Ls : List YS) (d : Int) (o : List YC) (h : 0 <= d /\ d + Ydp z <= 1000 /\ wY z <= 1048576 /\ o.length + sizeY z <= 2147483647), Z9 Ls z d o)  : Z9 Ls
 p d o := Yde Tryz.call87 Tryz.func87 (.i (p.kind = 1) (.c [.rd] (Z1 p) (.b (Yd5 p) (.w (.ghost (.nilreg 8 true 12)) (.w (.ghost (.move 0)) (.f [2] [.dead, .arr true 12
 []] (.tup [.one (.ref 1), lb false])))) (.c [.rd] (Z5y p) (.b (decide (p.kind = 1) && Ye3 p) (.y true (.w (.ghost (.move 0)) (.f [2] [.dead, .arr true 12 (List.map
 Yd0 o)] (.tup [.one (.ref 1), lb true])))) (.c [.rd, .rd] (Z77 Ls p) (.b (Yfr Ls p) (.w (.ghost (.move 0)) (.f [2] [.dead, .arr true 12 (o.map Yd0)]
 (.tup [.one (.ref 1), lb true]))) (.i (3 < d) (.w (.ghost (.nilreg 8 true 12)) (.w (.ghost (.move 0)) (.f [2] [.dead, .arr true 12 []] (.tup [.one (.ref 1), lb
 false])))) (.z Yd0 o (.w (.ghost (.move 0)) (.l (Z2k Ls p d o) (Z8v Ls p d o h ih) [0, 2, 1] [.s (li 0)] 0 (.t (.d [.rd] (Zr p) (.p (((List.map
 Yd0 o).length + 1) * 192 <= 140737488355328) (.f [6] [.dead, .arr true 12 (o.map Yd0 ++ [[cI p.kind, cI p.number, cS p.text, .list (p.scopes.map Yd2),
 .list (p.items.map Ycz), cI d, cI 0, cI 0, cS (ByteArray.mk #[]), .list [], .list [], .list []]])] (.tup [.one (.ref 1), lb true])))) (.t (.w
 (.ghost (.nilreg 8 true 12)) (.f [1] [.dead, .arr true 12 []] (.tup [.one (.ref 1), lb false]))) .q)))))))))))) (.i (p.kind ≠ 0) (.w (.ghost (.move 0)) (.f [2] [.dead,
 .arr true 12 (o.map Yd0)] (.tup [.one (.ref 1), lb true]))) (.c [.rd] (Z89 p.items) (.i (atI p.items = 0) (.w (.ghost (.nilreg 8 true 12)) (.w (.ghost (.move
 0)) (.f [2] [.dead, .arr true 12 []] (.tup [.one (.ref 1), lb false])))) (.z Ycz p.items (.w (.ghost (.move 0)) (.l (Z2j Ls p d o) (Z8u Ls p d o h
 ih) [0, 2] [.s (li 0), .o (.arr true 12 (o.map Yd0))] 0 (.t (.f [1] [.dead, .arr true 12 ((vaI Ls p d o p.items.length).map Yd0)] (.tup [.one (.ref
 1), lb true])) (.t (.w (.ghost (.nilreg 8 true 12)) (.f [1] [.dead, .arr true 12 []] (.tup [.one (.ref 1), lb false]))) .q))))))))) (by
 dsimp only [Yd3, Z9, Ydb, Z2k, Z2j]
 have g1 := Y1j6 Ls p d o
 have g2 := Ye6 p
 have g3 := @Yua Ls p d o
 have g4 := @Y14x Ls p d o
 have g5 := @Y12k Ls p d o
 have g6 := @Yxq Ls p d o
 have g7 := @Y149 Ls p d o
 have g8 := @Yy5 Ls p d o
 have g9 := @Yyr Ls p d o
 have g10 : vbI Ls p d o 0 = true := by unfold vbI wI; simp [wlk]
 have g11 : vaI Ls p d o 0 = o := by unfold vaI wI; simp [wlk]
 have g12 := Y12o o p d
 have g13 : Ye3 p = decide (p.text.data.toList = [95]) := rfl
 have g14 : p.kind = 1 -> Yd5 p = false -> Ye3 p = false -> Yfr Ls p = false -> d <= 3 -> (o.any fun c => Yg7 c.name p) = false -> (vrI Ls p d o).getD [] = o ++ [Ygh p d] := fun a b c e f g => by rw [g7 a b c e f g]; rfl
 have g15 : (vrI Ls p d o).isSome = false -> (vrI Ls p d o).getD [] = [] := fun h => by cases e : vrI Ls p d o <;> simp_all
 with_reducible repeat' (first | apply And.intro | exact zR | exact ih | (intro) | apply Z1 | apply Z4)
 all_goals ((try simp only [std, inj] at *); with_reducible and_intros)
 all_goals try first | with_reducible (first | apply Z1 | apply Z4 | apply ih) | (simp only [<- List.map_append]; with_reducible first | apply Z1 | apply Z4 | apply ih)
 all_goals (try exact zG))
theorem Z5z (p : YS) : ∀ (Ls : List YS) (d : Int) (o : List YC) (h : 0 <= d /\ d + Ydp p <= 1000 /\ wY p <= 1048576 /\ o.length + sizeY p <= 2147483647), Z9 Ls p d o := YS.ind (P := fun p => ∀ (Ls : List YS) (d : Int) (o : List YC) (h : 0 <= d /\ d + Ydp p <= 1000 /\ wY p <= 1048576 /\ o.length + sizeY p <= 2147483647), Z9 Ls p d o) (fun p ih Ls d o h => Zb0 Ls p d o h ih) p
theorem Yyb {Ls : List YS} {p : YS} (hL : ∀ x ∈ Ls, Yfo x = true) (hk : p.kind = 1) : Ydo Ls p = Yfr Ls p := by
 unfold Ydo Yfr
 rw [Bool.eq_iff_iff]; simp only [List.any_eq_true]
 constructor
 ·rintro ⟨x, hx, e⟩
  have := hL x hx
  simp only [Ywe, Bool.and_eq_true, decide_eq_true_eq] at this e
  exact ⟨x, hx, by simp only [Yg7, Bool.and_eq_true, decide_eq_true_eq]; exact ⟨⟨⟨this.1.1.1, hk⟩, e.1⟩, e.2⟩⟩
 ·rintro ⟨x, hx, e⟩
  simp only [Yg7, Bool.and_eq_true, decide_eq_true_eq] at e
  exact ⟨x, hx, by simp only [Bool.and_eq_true, decide_eq_true_eq]; exact ⟨e.1.2, e.2⟩⟩
theorem Y1cr {Ls : List YS} {p : YS} (hL : ∀ x ∈ Ls, Yfo x = true) (hd : Yd5 p = true) : Ydo Ls p = false /\ Ye3 p = false := by
 simp only [Yd5, Bool.and_eq_true, decide_eq_true_eq] at hd
 constructor
 ·unfold Ydo; rw [List.any_eq_false]
  intro x hx e
  have := hL x hx
  simp only [Ywe, Bool.and_eq_true, decide_eq_true_eq, Bool.not_eq_true', Yd5, Bool.and_eq_false_iff, decide_eq_false_iff_not] at this e
  rcases this.1.2 with h | h
  ·exact h this.1.1.1
  ·exact h (by rw [e.1]; exact hd.2)
 ·unfold Ye3; rw [hd.2]; rfl
theorem Y1gj {o : List YC} {p : YS} (ho : ∀ x ∈ o, Ygq x.name = true) (hk : p.kind = 1) (hd : Yd5 p = false) : (o.any fun c => Yg7 c.name p) = true ↔ 0 <= fnd o p := by
 have h1 : Yfz o p < o.length ↔ ∃ x ∈ o, Yg0 p x = true := List.findIdx_lt_length
 have h2 : (o.any fun c => Yg7 c.name p) = true ↔ Yfz o p < o.length := by
  rw [h1, List.any_eq_true]
  constructor
  ·rintro ⟨x, hx, e⟩
   refine ⟨x, hx, ?_⟩
   simp only [Yg7, Bool.and_eq_true, decide_eq_true_eq] at e
   simp only [Yg0, Bool.and_eq_true, decide_eq_true_eq]
   exact ⟨⟨e.1.2, e.2⟩, ho x hx⟩
  ·rintro ⟨x, hx, e⟩
   refine ⟨x, hx, ?_⟩
   simp only [Yg0, Ygq, Bool.and_eq_true, decide_eq_true_eq] at e
   simp only [Yg7, Bool.and_eq_true, decide_eq_true_eq]
   exact ⟨⟨⟨e.2.1, hk⟩, e.1.1⟩, e.1.2⟩
 rw [h2]; unfold fnd; rw [hd]
 simp only [true_and]
 split <;> omega
theorem Y16d {α : Type} [Inhabited α] {p : α -> Bool} {L : List α} : ∀ k, k <= L.length -> (∀ j, j < k -> p (L.getD j default) = false) -> k <= L.findIdx p
 | 0, _, _ => Nat.zero_le _
 | k + 1, hk, h => Y14a (by omega) (Y16d k (by omega) fun j hj => h j (by omega)) (h k (by omega))
theorem Yog (l : List YS) : ∀ k, k <= l.length -> okA l k = true -> (atF l k = -1 /\ ∀ j, j < k -> Yd5 (l.getD j default) = false) ∨ ∃ m : Nat, 0 < m /\ m < k /\ atF l k = m /\ Yd5 (l.getD m default) = true /\ ∀ j, j < k -> j ≠ m -> Yd5 (l.getD j default) = false
 | 0, _, _ => .inl ⟨rfl, fun j h => absurd h (by omega)⟩
 | k + 1, hk, h => by
  simp only [okA, Bool.and_eq_true, Bool.or_eq_true, Bool.not_eq_true', decide_eq_true_eq] at h
  have ih := Yog l k (by omega) h.1
  cases e : Yd5 (l.getD k default) with
  | false =>
   have e2 : atF l (k + 1) = atF l k := by simp only [atF, e]; rfl
   rcases ih with ⟨h1, h2⟩ | ⟨m, h1, h2, h3, h4, h5⟩
   ·exact .inl ⟨by rw [e2]; exact h1, fun j hj => by
     by_cases ej : j = k
     ·rw [ej]; exact e
     ·exact h2 j (by omega)⟩
   ·exact .inr ⟨m, h1, by omega, by rw [e2]; exact h3, h4, fun j hj hm => by
     by_cases ej : j = k
     ·rw [ej]; exact e
     ·exact h5 j (by omega) hm⟩
  | true =>
   have e2 : atF l (k + 1) = (k : Int) := by simp only [atF, e]; rfl
   rcases h.2 with h0 | ⟨h0, h0'⟩
   ·rw [e] at h0; cases h0
   ·rcases ih with ⟨h1, h2⟩ | ⟨m, h1, h2, h3, h4, h5⟩
    ·exact .inr ⟨k, by omega, by omega, e2, e, fun j hj hm => h2 j (by omega)⟩
    ·omega
theorem Y124 {l : List YS} {m : Nat} (hm : m < l.length) (h : Yd5 (l.getD m default) = true) (h2 : ∀ j, j < m -> Yd5 (l.getD j default) = false) : atI l = m := by
 have := Y1ez hm (Y16d m (by omega) h2) h
 unfold atI; rw [this, if_pos hm]
theorem Y111 {l : List YS} (h : okS l = true) : atI l = atS l /\ atI l ≠ 0 := by
 rcases Yog l l.length (Nat.le_refl _) h with ⟨h1, h2⟩ | ⟨m, h1, h2, h3, h4, h5⟩
 ·have := Y16d (p := Yd5) l.length (Nat.le_refl _) h2
  have e : atI l = -1 := by unfold atI; rw [if_neg (by omega)]
  exact ⟨by rw [e]; exact h1.symm, by omega⟩
 ·have e := Y124 h2 h4 fun j hj => h5 j (by omega) (by omega)
  exact ⟨by rw [e]; exact h3.symm, by omega⟩
theorem Y1gs {l : List YS} (h : okS l = false) : atI l = 0 ∨ ∃ j, j < l.length /\ (j : Int) ≠ atI l /\ Yd5 (l.getD j default) = true := by
 have : ∃ k, k < l.length /\ okA l k = true /\ okA l (k + 1) = false := by
  have : ∀ m, m <= l.length -> okA l m = false -> ∃ k, k < m /\ okA l k = true /\ okA l (k + 1) = false := by
   intro m
   induction m with
   | zero => intro _ e; cases e
   | succ m ih =>
    intro hm e
    cases e2 : okA l m with
    | true => exact ⟨m, by omega, e2, e⟩
    | false => obtain ⟨k, h1, h2⟩ := ih (by omega) e2; exact ⟨k, by omega, h2⟩
  obtain ⟨k, h1, h2⟩ := this l.length (Nat.le_refl _) h
  exact ⟨k, h1, h2⟩
 obtain ⟨k, hk, h1, h2⟩ := this
 have hd : Yd5 (l.getD k default) = true /\ (k = 0 ∨ 0 <= atF l k) := by
  simp only [okA, h1, Bool.true_and, Bool.or_eq_false_iff, Bool.not_eq_false', Bool.and_eq_false_iff, decide_eq_false_iff_not] at h2
  exact ⟨h2.1, h2.2.elim (fun h => .inl (by omega)) fun h => .inr (by omega)⟩
 rcases hd.2 with e | e
 ·subst e
  exact .inl (Y124 hk hd.1 fun j hj => absurd hj (Nat.not_lt_zero j))
 ·rcases Yog l k (by omega) h1 with ⟨h3, _⟩ | ⟨m, h3, h4, h5, h6, h7⟩
  ·omega
  ·have e := Y124 (by omega) h6 fun j hj => h7 j (by omega) (by omega)
   exact .inr ⟨k, hk, by omega, hd.1⟩
theorem Y113 {f g : YS -> Int -> List YC -> Option (List YC)} {good : List YC -> Prop} : ∀ (l : List YS), (∀ x ∈ l, ∀ d o, good o -> f x d o = g x d o /\ ∀ o', g x d o = some o' -> good o') -> ∀ i a d o, good o -> wlk f l i a d o = wlk g l i a d o /\ ∀ o', wlk g l i a d o = some o' -> good o'
 | [], _, i, a, d, o, ho => ⟨rfl, fun o' e => by simp only [wlk, Option.some.injEq] at e; subst e; exact ho⟩
 | x :: r, h, i, a, d, o, ho => by
  have ih := Y113 r fun y hy => h y (List.mem_cons_of_mem _ hy)
  simp only [wlk]
  by_cases e : i = a
  ·rw [if_pos e, if_pos e]; exact ih _ _ _ _ ho
  ·rw [if_neg e, if_neg e]
   have hx := h x List.mem_cons_self (if i + 1 = a then d + 1 else d) o ho
   rw [hx.1]
   cases e2 : g x (if i + 1 = a then d + 1 else d) o with
   | none => exact ⟨rfl, fun o' e => by cases e⟩
   | some o1 => exact ih _ _ _ _ (hx.2 o1 e2)
theorem Y15m {f : YS -> Int -> List YC -> Option (List YC)} : ∀ (l : List YS) (j : Nat) (i a d : Int) (o : List YC), j < l.length -> i + (j : Int) ≠ a -> (∀ d o, f (l.getD j default) d o = none) -> wlk f l i a d o = none
 | [], j, _, _, _, _, h, _, _ => absurd h (by simp)
 | x :: r, 0, i, a, d, o, _, h1, h2 => by
  simp only [wlk]
  rw [if_neg (by omega)]
  have := h2 (if i + 1 = a then d + 1 else d) o
  simp only [List.getD_cons_zero] at this
  rw [this]
 | x :: r, j + 1, i, a, d, o, h, h1, h2 => by
  have ih := fun d o => Y15m r j (i + 1) a d o (by simpa using h) (by omega) (by simpa using h2)
  simp only [wlk]
  split
  ·exact ih d o
  ·split
   ·rfl
   ·exact ih d _
theorem Y1dz {p : YS} (h : okY p = true) (hk : p.kind = 1) : Ygq p = true := by
 have hi := Y1gh h hk
 simp only [Ygq, Ydk, Bool.and_eq_true, decide_eq_true_eq]
 refine ⟨hk, ⟨?_, ?_⟩, h⟩
 ·rw [Ye6, hi]; simp [sumBy]
 ·rw [Yku, hi]; simp [Yeb]
theorem Yz6 {p : YS} (h : okY p = true) (h1 : ¬ p.kind = 1) (h0 : ¬ p.kind = 0) : p.items = [] := by
 rw [Yj6] at h
 simp only [Yjc, Yjf, Bool.and_eq_true, Bool.or_eq_true, decide_eq_true_eq] at h
 have : p.items.length = 0 := by omega
 exact List.length_eq_zero_iff.1 this
theorem Y146 {Ls : List YS} (hL : ∀ x ∈ Ls, Yfo x = true) : ∀ p : YS, okY p = true -> ∀ d o, (∀ x ∈ o, Ygq x.name = true) -> vrI Ls p d o = vrS Ls p d o /\ ∀ o', vrS Ls p d o = some o' -> ∀ x ∈ o', Ygq x.name = true := by
 refine YS.ind fun p ih h d o ho => ?_
 by_cases hk : p.kind = 1
 ·have hn : ∀ x ∈ o ++ [Ygh p d], Ygq x.name = true := by
   intro x hx
   rcases List.mem_append.1 hx with hx | hx
   ·exact ho x hx
   ·rw [List.mem_singleton.1 hx]; exact Y1dz h hk
  cases hd : Yd5 p with
  | true =>
   have h1 := Y1cr hL hd
   rw [Yua hk hd, Yrz Ls p d o hk h1.2 h1.1 (.inl hd)]
   exact ⟨rfl, fun o' e => by cases e⟩
  | false =>
   have hj := Yyb hL hk
   by_cases h1 : Ye3 p = true ∨ Ydo Ls p = true
   ·rw [Y14x hk hd (hj ▸ h1), Y142 Ls p d o hk h1]
    exact ⟨rfl, fun o' e => by simp only [Option.some.injEq] at e; subst e; exact ho⟩
   ·have hu : Ye3 p = false := by cases e : Ye3 p <;> simp_all
    have hI : Ydo Ls p = false := by cases e : Ydo Ls p <;> simp_all
    have hJ : Yfr Ls p = false := by rw [<- hj]; exact hI
    by_cases h3 : 3 < d
    ·rw [Y12k hk hd hu hJ h3, Yrz Ls p d o hk hu hI (.inr (.inr h3))]
     exact ⟨rfl, fun o' e => by cases e⟩
    ·have hf := Y1gj ho hk hd
     cases h5 : (o.any fun c => Yg7 c.name p) with
     | true =>
      rw [Yxq hk hd hu hJ h5, Yrz Ls p d o hk hu hI (.inr (.inl (hf.1 h5)))]
      exact ⟨rfl, fun o' e => by cases e⟩
     | false =>
      have h6 : fnd o p < 0 := by
       by_cases h6 : fnd o p < 0
       ·exact h6
       ·rw [hf.2 (by omega)] at h5; cases h5
      rw [Y149 hk hd hu hJ (by omega) h5, Y15u Ls p d o hk hu hI hd h6 (by omega)]
      exact ⟨rfl, fun o' e => by simp only [Option.some.injEq] at e; subst e; exact hn⟩
 ·by_cases h0 : p.kind = 0
  ·rw [Yhf, if_neg hk]
   cases hs : okS p.items with
   | true =>
    have ha := Y111 hs
    rw [Yij, if_neg hk, if_neg (by simp [h0]), if_neg ha.2, if_pos rfl, ha.1]
    exact Y113 (good := fun o => ∀ x ∈ o, Ygq x.name = true) p.items (fun x hx d o ho => ih x hx (Yhu h x hx) d o ho) _ _ _ _ ho
   | false =>
    refine ⟨?_, fun o' e => by simp at e⟩
    rw [if_neg (by simp)]
    rcases Y1gs hs with ha | ⟨j, hj, hja, hjd⟩
    ·exact Yyr hk h0 ha
    ·rw [Yij, if_neg hk, if_neg (by simp [h0])]
     split
     ·rfl
     ·refine Y15m p.items j _ _ _ _ hj (by omega) fun d o => Yua ?_ hjd
      simp only [Yd5, Bool.and_eq_true, decide_eq_true_eq] at hjd; exact hjd.1
  ·have hi := Yz6 h hk h0
   rw [Yy5 hk h0, Yhf, if_neg hk, hi]
   simp only [okS, List.length_nil, okA, if_true, wlk]
   exact ⟨trivial, fun o' e => by simp only [Option.some.injEq] at e; subst e; exact ho⟩
theorem Y1is {Ls : List YS} {p : YS} (hL : okL Ls = true) (hp : Ydk p = true) : vrI Ls p 0 [] = vrS Ls p 0 [] := by
 simp only [okL, Bool.and_eq_true, List.all_eq_true] at hL
 simp only [Ydk, Bool.and_eq_true] at hp
 exact (Y146 hL.1 p hp.2 0 [] (fun x hx => by cases hx)).1
abbrev Z6g (Ls : List YS) (p : YS) : Ct := ⟨34, [], [ll (Ls.map Ycz), Ydl p], [.arr true 12 ((if okL Ls = true /\ Ydk p = true then (vrS Ls p 0 []).getD [] else []).map Yd0)], .tup [.one (.ref 0), lb (okL Ls && Ydk p && (vrS Ls p 0 []).isSome)]⟩
theorem Zb1 (Ls : List YS) (p : YS) (h : wY p <= 1048576)  : Z6g Ls p := Yde Tryz.call34 Tryz.func34 (.c [.rd] (Zcj Ls) (.b (!okL Ls) (.y true (.w (.ghost
 (.nilreg 4 true 12)) (.f [1] [.arr true 12 []] (.tup [.one (.ref 0), lb false])))) (.c [.rd] (Z1t p) (.b (!Ydk p) (.w (.ghost (.nilreg 4 true 12)) (.f [1]
 [.arr true 12 []] (.tup [.one (.ref 0), lb false]))) (.d [.rd, .rd, .rd, .own true 12] (Z9 Ls p 0 []) (.f [2] [.arr true 12 (((vrI Ls p 0
 []).getD []).map Yd0)] (.tup [.one (.ref 0), lb (vrI Ls p 0 []).isSome]))))))) (by
 dsimp only [Yd3, Z6g]
 have g : Ydk p = true -> sizeY p <= 2000 /\ Ydp p <= 40 := fun h => by simp only [Ydk, Bool.and_eq_true, decide_eq_true_eq] at h; exact ⟨h.1.1, h.1.2⟩
 have g2 := @Y1is Ls p
 with_reducible repeat' (first | apply And.intro | exact zR | (intro) | apply Z5z)
 all_goals ((try simp only [std, inj] at *); with_reducible and_intros)
 all_goals try with_reducible first | apply Z5z
 all_goals (try exact zG))
set_option maxHeartbeats 4000000
set_option maxRecDepth 20000
theorem Yu7 (s : YS) : sizeY s <= wY s + 1 := by
 refine YS.ind (P := fun s => sizeY s <= wY s + 1) (fun s ih => ?_) s
 have : ∀ L : List YS, (∀ x ∈ L, sizeY x <= wY x + 1) -> sumBy sizeY L <= L.length + sumBy wY L := by
  intro L
  induction L with
  | nil => intro _; simp [sumBy]
  | cons x r ihr =>
   intro h
   have h1 := h x List.mem_cons_self
   have h2 := ihr fun y hy => h y (List.mem_cons_of_mem _ hy)
   simp only [sumBy, List.length_cons]; omega
 have h1 := this s.items ih
 have h2 := Yfq s
 rw [Ye6]; omega
end Go.Proofs.YtclpofblehlojaaGreat
end
