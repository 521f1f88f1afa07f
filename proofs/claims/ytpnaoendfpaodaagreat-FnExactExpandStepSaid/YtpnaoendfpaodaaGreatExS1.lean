/- Part 1 of a proof. No condition. -/
import Derived.Test.YtpnaoendfpaodaaGreatQ4
section
namespace Go.Proofs.YtpnaoendfpaodaaGreat
open Go Go.Proofs.YtpnaoendfpaodaaGreat.Ab
theorem zV {p : Prop} (h : p := by
  with_reducible repeat' (first | apply And.intro | exact zR | (intro; skip))
  all_goals (try simp only [std, inj] at *)
  all_goals with_reducible repeat' apply And.intro
  all_goals (try (first | exact z | grind [Yhl, Yhm, Yhi]))) : p := h
theorem zW {p : Prop} (h : p := by
  with_reducible repeat' (first | apply And.intro | exact zR | (intro; skip))
  all_goals (try simp only [std, inj] at *)
  all_goals with_reducible repeat' apply And.intro
  all_goals (try (first | exact z | grind [Yhl, Yhm, Yhi, Yhn]))) : p := h
theorem zG {p : Prop} (h : p := by first | exact z | grind [Yhl, Yhm, Yhi]) : p := h
end Go.Proofs.YtpnaoendfpaodaaGreat
end
set_option linter.unusedVariables false
set_option linter.unusedSimpArgs false
section
namespace Go.Proofs.YtpnaoendfpaodaaGreat
open Go Ab
set_option maxHeartbeats 4000000
theorem Yt4 {L : List UInt8} {p : UInt8 -> Bool} {k : Nat} (h : k < L.length) (hp : p (L.getD k 0) = false) : L.all p = false := by
 rw [List.all_eq_false]
 have e : L.getD k 0 = L[k] := by simp [h]
 exact ⟨L[k], List.getElem_mem h, by rw [<- e, hp]; decide⟩
theorem Yyx {L : List UInt8} {p : UInt8 -> Bool} {k : Nat} (h : k < L.length) (hp : p (L.getD k 0) = true) (ht : (L.take k).all p = true) : (L.take (k + 1)).all p = true := by
 rw [Y1l8 h, List.all_append, ht, List.all_cons, hp]; rfl
theorem Yvr {L : List UInt8} {p : UInt8 -> Bool} {k : Nat} (h : L.length <= k) (ht : (L.take k).all p = true) : L.all p = true := by
 rwa [List.take_of_length_le h] at ht
def lu (n : Int) : SV := .one (.val (.lit (.int .u8 n)))
def Ymw (n : Int) : Bool := decide (48 <= n /\ n <= 57)
def Yph : List Int := [33, 63, 42, 60, 62, 61, 47, 43, 45, 46, 95]
def Ymf (n : Int) : Bool := decide (97 <= n /\ n <= 122) || Ymw n || decide (n ∈ Yph)
theorem Y1i5 {k : Nat} (h : k < 11) : ((([33, 63, 42, 60, 62, 61, 47, 43, 45, 46, 95] : List UInt8).getD k 0).toNat : Int) = Yph.getD k default := by
 have : ∀ k, k < 11 -> ((([33, 63, 42, 60, 62, 61, 47, 43, 45, 46, 95] : List UInt8).getD k 0).toNat : Int) = Yph.getD k default := by decide
 exact this k h
def Ym6 (n : Int) : Bool := decide (32 <= n /\ n <= 126 /\ n ≠ 34)
def Ym4 (s : ByteArray) : Bool := decide (1 <= (s.size : Int) /\ (s.size : Int) <= 16) && !Ymw (s.data.toList.getD 0 0).toNat && !(decide (((s.data.toList.getD 0 0).toNat : Int) = 45) && decide (1 < (s.size : Int)) && Ymw (s.data.toList.getD 1 0).toNat) && s.data.toList.all fun b => Ymf b.toNat
def Yrb (s : ByteArray) : Bool := decide ((s.size : Int) <= 20) && s.data.toList.all fun b => Ym6 b.toNat
abbrev Z9w (n : Int) : Ct := ⟨296, [], [lu n], [], .sv (lb (Ymw n))⟩
theorem Z7i (n : Int)  : Z9w n := Yhv Tryz.call296 Tryz.func296 (.i (48 <= n) (.s (lb (decide (n <= 57)))) (.s (lb false))) (by
 dsimp only [Yhj, Z9w]
 with_reducible repeat' (first | apply And.intro | exact zR | (intro))
 all_goals ((try simp only [std, inj] at *); with_reducible and_intros)
 all_goals try first | exact z | grind [Ymw, Yhl, Yhm, Yhi])
abbrev Z9x (n : Int) : Ct := ⟨299, [], [lu n], [], .sv (lb (Ymw n))⟩
theorem Zcb (n : Int)  : Z9x n := Yhv Tryz.call299 Tryz.func299 (.i (48 <= n) (.s (lb (decide (n <= 57)))) (.s (lb false))) (by
 dsimp only [Yhj, Z9x]
 with_reducible repeat' (first | apply And.intro | exact zR | (intro))
 all_goals ((try simp only [std, inj] at *); with_reducible and_intros)
 all_goals try first | exact z | grind [Ymw, Yhl, Yhm, Yhi])
abbrev Zaz (n : Int) : Ct := ⟨297, [], [lu n], [], .sv (lb (Ymf n))⟩
def Z3t (n : Int) : Lp Nat := .mk 26 0 (fun x => [(0, .one (.val (.lit (.int .u8 n)))), (3, ls (ByteArray.mk #[(33 : UInt8), (63 : UInt8), (42 : UInt8),
 (60 : UInt8), (62 : UInt8), (61 : UInt8), (47 : UInt8), (43 : UInt8), (45 : UInt8), (46 : UInt8), (95 : UInt8)])), (4, hs x 0)]) (fun x => []) (fun k => [.s (li (k : Int))]) (fun
 k => k <= 11 /\ ¬n ∈ Yph.take k) (fun k => 11 - k) [.mk (decide (n ∈ Yph) = false) (.exit 0) (fun x => []) (fun x => []) [], .mk (decide (n ∈ Yph) = true) .ret (fun x =>
 [(2, hs x 0)]) (fun x => []) [.s (lb true)]]
theorem Z9y (n : Int) : Lp.Sem Tryz.prog (Yht Tryz.f297 0) (Z3t n) := Yi3 (fun k => .h (11 <= 9223372036854775807) (.i ((k : Int) < 11) (.p (0 <= (k : Int) /\ (↑k
 : Int).toNat < 11) (.i ((↑([(33 : UInt8), (63 : UInt8), (42 : UInt8), (60 : UInt8), (62 : UInt8), (61 : UInt8), (47 : UInt8), (43 : UInt8), (45 : UInt8), (46 : UInt8), (95 :
 UInt8)].getD (k : Int).toNat (0 : UInt8)).toNat : Int) = n) (.o 1 [] [.s (lb true)]) (.r ((k : Int) + 1) (.g [] (k + 1) [.s (li ((k : Int) + 1))])))) (.o 0 [] []))) (by
 intro k h; try dsimp only [Yhj, Yhq, Z3t] at h ⊢
 have g := @Y1i5 k
 have e : Yph.length = 11 := rfl
 have e2 : Yph.take 11 = Yph := rfl
 with_reducible repeat' (first | apply And.intro | exact zR | (intro))
 all_goals ((try simp only [std, inj] at *); with_reducible and_intros)
 all_goals try first | exact z | grind [Yi2, Yhn, Yhl, Yhm, Yhi])
theorem Zgx (n : Int)  : Zaz n := Yhv Tryz.call297 Tryz.func297 (.i (97 <= n) (.i (n <= 122) (.y true (.s (lb true))) (.c [.rd] (Z7i n) (.b (Ymw n) (.s (lb true)) (.l
 (Z3t n) (Z9y n) [] [.s (li 0)] 0 (.t (.s (lb false)) (.t (.s (lb true)) .q)))))) (.y false (.c [.rd] (Z7i n) (.b (Ymw n) (.s (lb true)) (.l (Z3t n)
 (Z9y n) [] [.s (li 0)] 0 (.t (.s (lb false)) (.t (.s (lb true)) .q))))))) (by
 dsimp only [Yhj, Zaz, Yhq, Z3t]
 with_reducible repeat' (first | apply And.intro | exact zR | (intro))
 all_goals ((try simp only [std, inj] at *); with_reducible and_intros)
 all_goals try first | exact z | grind [Ymf, Yhl, Yhm, Yhi])
abbrev Zb0 (n : Int) : Ct := ⟨300, [], [lu n], [], .sv (lb (Ymf n))⟩
theorem Zgy (n : Int)  : Zb0 n := Yhv Tryz.call300 Tryz.func300 (.i (97 <= n) (.i (n <= 122) (.y true (.s (lb true))) (.i (48 <= n) (.i (n <= 57) (.s (lb true)) (.i (n = 33)
 (.y true (.s (lb true))) (.i (n = 63) (.y true (.s (lb true))) (.i (n = 42) (.y true (.s (lb true))) (.i (n = 60) (.y true (.s (lb true))) (.i (n = 62) (.y true (.s (lb true)))
 (.i (n = 61) (.y true (.s (lb true))) (.i (n = 47) (.y true (.s (lb true))) (.i (n = 43) (.y true (.s (lb true))) (.i (n = 45) (.y true (.s (lb true))) (.i (n = 46) (.y true (.s
 (lb true))) (.i (n = 95) (.s (lb true)) (.s (lb false)))))))))))))) (.y false (.i (n = 33) (.y true (.s (lb true))) (.i (n = 63) (.y true (.s (lb true))) (.i (n = 42) (.y true (.s
 (lb true))) (.i (n = 60) (.y true (.s (lb true))) (.i (n = 62) (.y true (.s (lb true))) (.i (n = 61) (.y true (.s (lb true))) (.i (n = 47) (.y true (.s (lb true))) (.i (n = 43)
 (.y true (.s (lb true))) (.i (n = 45) (.y true (.s (lb true))) (.i (n = 46) (.y true (.s (lb true))) (.i (n = 95) (.s (lb true)) (.s (lb false)))))))))))))))) (.y false (.i (48 <=
 n) (.i (n <= 57) (.s (lb true)) (.i (n = 33) (.y true (.s (lb true))) (.i (n = 63) (.y true (.s (lb true))) (.i (n = 42) (.y true (.s (lb true))) (.i (n = 60) (.y true (.s (lb
 true))) (.i (n = 62) (.y true (.s (lb true))) (.i (n = 61) (.y true (.s (lb true))) (.i (n = 47) (.y true (.s (lb true))) (.i (n = 43) (.y true (.s (lb true))) (.i (n = 45) (.y
 true (.s (lb true))) (.i (n = 46) (.y true (.s (lb true))) (.i (n = 95) (.s (lb true)) (.s (lb false)))))))))))))) (.y false (.i (n = 33) (.y true (.s (lb true))) (.i (n = 63) (.y
 true (.s (lb true))) (.i (n = 42) (.y true (.s (lb true))) (.i (n = 60) (.y true (.s (lb true))) (.i (n = 62) (.y true (.s (lb true))) (.i (n = 61) (.y true (.s (lb true))) (.i (n
 = 47) (.y true (.s (lb true))) (.i (n = 43) (.y true (.s (lb true))) (.i (n = 45) (.y true (.s (lb true))) (.i (n = 46) (.y true (.s (lb true))) (.i (n = 95) (.s (lb true)) (.s
 (lb false))))))))))))))))) (by
 dsimp only [Yhj, Zb0]
 with_reducible repeat' (first | apply And.intro | exact zR | (intro))
 all_goals ((try simp only [std, inj] at *); with_reducible and_intros)
 all_goals (try exact zG)
 all_goals (symm; simp only [Ymf, Ymw, Yph, List.mem_cons, List.not_mem_nil, Bool.or_eq_true, Bool.or_eq_false_iff, decide_eq_true_eq, decide_eq_false_iff_not, or_false]; omega))
abbrev Zcc (x : Int) (a : Int) (b : Int) : Ct := ⟨132, [], [li x, li a, li b], [], .sv (lb (decide (a <= x /\ x <= b)))⟩
theorem Z1k (x a b : Int)  : Zcc x a b := Yhv Tryz.call132 Tryz.func132 (.i (a <= x) (.s (lb (decide (x <= b)))) (.s (lb false))) (by
 dsimp only [Yhj, Zcc]
 exact zV)
abbrev Z84 (s : ByteArray) : Ct := ⟨246, [], [ls s], [], .sv (lb (Ym4 s))⟩
def Zy (s : ByteArray) : Lp Nat := .mk 39 0 (fun x => [(0, ls s), (3, hs x 0)]) (fun x => []) (fun k => [.s (li (k : Int))]) (fun k => k <= s.size /\ s.size <= 16 /\
 ((s.data.toList.take k).all fun b => Ymf (b.toNat : Int)) = true) (fun k => s.size - k) [.mk ((s.data.toList.all fun b => Ymf (b.toNat : Int)) = true) (.exit 0) (fun x =>
 []) (fun x => []) [], .mk ((s.data.toList.all fun b => Ymf (b.toNat : Int)) = false) .ret (fun x => [(2, hs x 0)]) (fun x => []) [.s (lb false)]]
theorem Z4a (s : ByteArray) : Lp.Sem Tryz.prog (Yht Tryz.f246 0) (Zy s) := Yi3 (fun k => .h (s.data.toList.length <= 9223372036854775807) (.i ((k : Int)
 < (s.data.toList.length : Int)) (.p (0 <= (k : Int) /\ (k : Int).toNat < s.data.toList.length) (.c [.rd] (Zgx (↑(s.data.toList.getD (k : Int).toNat (0 : UInt8)).toNat :
 Int)) (.b (!Ymf (↑(s.data.toList.getD (k : Int).toNat (0 : UInt8)).toNat : Int)) (.o 1 [] [.s (lb false)]) (.r ((k : Int) + 1) (.g [] (k + 1) [.s (li ((k : Int) + 1))])))))
 (.o 0 [] []))) (by
 intro k h; try dsimp only [Yhj, Yhq, Zy] at h ⊢
 have g1 := @Yt4 s.data.toList (fun b => Ymf b.toNat) k
 have g2 := @Yyx s.data.toList (fun b => Ymf b.toNat) k
 have g3 := @Yvr s.data.toList (fun b => Ymf b.toNat) k
 exact zV)
theorem Z1y (s : ByteArray)  : Z84 s := Yhv Tryz.call246 Tryz.func246 (.h (s.data.toList.length <= 9223372036854775807) (.c [.rd, .rd, .rd] (Z1k
 (s.data.toList.length : Int) 1 16) (.b (!decide (1 <= (s.data.toList.length : Int) /\ (s.data.toList.length : Int) <= 16)) (.y true (.y true (.s (lb false)))) (.p ((0 : Int) <= 0 /\
 0 < s.data.toList.length) (.c [.rd] (Z7i (↑(s.data.toList.getD 0 (0 : UInt8)).toNat : Int)) (.b (Ymw (↑(s.data.toList.getD 0 (0 : UInt8)).toNat : Int)) (.y true (.s (lb
 false))) (.p ((0 : Int) <= 0 /\ 0 < s.data.toList.length) (.i ((↑(s.data.toList.getD 0 (0 : UInt8)).toNat : Int) = 45) (.h (s.data.toList.length <= 9223372036854775807) (.i (1 <
 (s.data.toList.length : Int)) (.p ((0 : Int) <= 1 /\ 1 < s.data.toList.length) (.c [.rd] (Z7i (↑(s.data.toList.getD 1 (0 : UInt8)).toNat : Int)) (.b (Ymw
 (↑(s.data.toList.getD 1 (0 : UInt8)).toNat : Int)) (.s (lb false)) (.l (Zy s) (Z4a s) [] [.s (li 0)] 0 (.t (.s (lb true)) (.t (.s (lb false)) .q)))))) (.y
 false (.l (Zy s) (Z4a s) [] [.s (li 0)] 0 (.t (.s (lb true)) (.t (.s (lb false)) .q)))))) (.y false (.y false (.l (Zy s) (Z4a s) []
 [.s (li 0)] 0 (.t (.s (lb true)) (.t (.s (lb false)) .q))))))))))))) (by
 dsimp only [Yhj, Z84, Yhq, Zy]
 with_reducible repeat' (first | apply And.intro | exact zR | (intro))
 all_goals ((try simp only [std, inj] at *); with_reducible and_intros)
 all_goals try first | exact z | grind [Ym4, Yhl, Yhm, Yhi])
abbrev Z85 (s : ByteArray) : Ct := ⟨251, [], [ls s], [], .sv (lb (Ym4 s))⟩
def Zz (s : ByteArray) : Lp Nat := .mk 43 0 (fun x => [(0, ls s), (3, hs x 0)]) (fun x => []) (fun k => [.s (li (k : Int))]) (fun k => k <= s.size /\ s.size <= 16 /\
 ((s.data.toList.take k).all fun b => Ymf (b.toNat : Int)) = true) (fun k => s.size - k) [.mk ((s.data.toList.all fun b => Ymf (b.toNat : Int)) = true) (.exit 0) (fun x =>
 []) (fun x => []) [], .mk ((s.data.toList.all fun b => Ymf (b.toNat : Int)) = false) .ret (fun x => [(2, hs x 0)]) (fun x => []) [.s (lb false)]]
theorem Z4b (s : ByteArray) : Lp.Sem Tryz.prog (Yht Tryz.f251 0) (Zz s) := Yi3 (fun k => .h (s.data.toList.length <= 9223372036854775807) (.i ((k : Int)
 < (s.data.toList.length : Int)) (.p (0 <= (k : Int) /\ (k : Int).toNat < s.data.toList.length) (.c [.rd] (Zgy (↑(s.data.toList.getD (k : Int).toNat (0 : UInt8)).toNat :
 Int)) (.b (!Ymf (↑(s.data.toList.getD (k : Int).toNat (0 : UInt8)).toNat : Int)) (.o 1 [] [.s (lb false)]) (.r ((k : Int) + 1) (.g [] (k + 1) [.s (li ((k : Int) + 1))])))))
 (.o 0 [] []))) (by
 intro k h; try dsimp only [Yhj, Yhq, Zz] at h ⊢
 have g1 := @Yt4 s.data.toList (fun b => Ymf b.toNat) k
 have g2 := @Yyx s.data.toList (fun b => Ymf b.toNat) k
 have g3 := @Yvr s.data.toList (fun b => Ymf b.toNat) k
 exact zV)
theorem Z4i (s : ByteArray)  : Z85 s := Yhv Tryz.call251 Tryz.func251 (.h (s.data.toList.length <= 9223372036854775807) (.i ((s.data.toList.length : Int) < 1) (.y
 true (.y true (.y true (.s (lb false))))) (.h (s.data.toList.length <= 9223372036854775807) (.i (16 < (s.data.toList.length : Int)) (.y true (.y true (.s (lb false)))) (.p ((0 :
 Int) <= 0 /\ 0 < s.data.toList.length) (.c [.rd] (Zcb (↑(s.data.toList.getD 0 (0 : UInt8)).toNat : Int)) (.b (Ymw (↑(s.data.toList.getD 0 (0 : UInt8)).toNat : Int)) (.y true
 (.s (lb false))) (.p ((0 : Int) <= 0 /\ 0 < s.data.toList.length) (.i ((↑(s.data.toList.getD 0 (0 : UInt8)).toNat : Int) = 45) (.h (s.data.toList.length <= 9223372036854775807) (.i
 (1 < (s.data.toList.length : Int)) (.p ((0 : Int) <= 1 /\ 1 < s.data.toList.length) (.c [.rd] (Zcb (↑(s.data.toList.getD 1 (0 : UInt8)).toNat : Int)) (.b (Ymw
 (↑(s.data.toList.getD 1 (0 : UInt8)).toNat : Int)) (.s (lb false)) (.l (Zz s) (Z4b s) [] [.s (li 0)] 0 (.t (.s (lb true)) (.t (.s (lb false)) .q)))))) (.y
 false (.l (Zz s) (Z4b s) [] [.s (li 0)] 0 (.t (.s (lb true)) (.t (.s (lb false)) .q)))))) (.y false (.y false (.l (Zz s) (Z4b s) []
 [.s (li 0)] 0 (.t (.s (lb true)) (.t (.s (lb false)) .q)))))))))))))) (by
 dsimp only [Yhj, Z85, Yhq, Zz]
 with_reducible repeat' (first | apply And.intro | exact zR | (intro))
 all_goals ((try simp only [std, inj] at *); with_reducible and_intros)
 all_goals try first | exact z | grind [Ym4, Yhl, Yhm, Yhi])
abbrev Z9d (s : ByteArray) : Ct := ⟨298, [], [ls s], [], .sv (lb (Yrb s))⟩
def Z3u (s : ByteArray) : Lp Nat := .mk 29 0 (fun x => [(0, ls s), (3, hs x 0)]) (fun x => []) (fun k => [.s (li (k : Int))]) (fun k => k <= s.size /\ ((List.take k
 s.data.toList).all fun b => Ym6 (b.toNat : Int)) = true) (fun k => s.size - k) [.mk ((s.data.toList.all fun b => Ym6 (b.toNat : Int)) = true) (.exit 0) (fun x => [(0, ls
 s)]) (fun x => []) [], .mk ((s.data.toList.all fun b => Ym6 (b.toNat : Int)) = false) .ret (fun x => [(2, hs x 0)]) (fun x => []) [.s (lb false)]]
theorem Zcd (s : ByteArray) : Lp.Sem Tryz.prog (Yht Tryz.f298 0) (Z3u s) := Yi3 (fun k => .h (s.data.toList.length <= 9223372036854775807) (.i ((k : Int) <
 (s.data.toList.length : Int)) (.p (0 <= (k : Int) /\ (k : Int).toNat < s.data.toList.length) (.i ((↑(s.data.toList.getD (k : Int).toNat (0 : UInt8)).toNat : Int) < 32) (.y true
 (.y true (.o 1 [] [.s (lb false)]))) (.p (0 <= (k : Int) /\ (k : Int).toNat < s.data.toList.length) (.i (126 < (↑(s.data.toList.getD (k : Int).toNat (0 : UInt8)).toNat : Int))
 (.y true (.o 1 [] [.s (lb false)])) (.p (0 <= (k : Int) /\ (k : Int).toNat < s.data.toList.length) (.i ((↑(s.data.toList.getD (k : Int).toNat (0 : UInt8)).toNat : Int) = 34) (.o
 1 [] [.s (lb false)]) (.r ((k : Int) + 1) (.g [] (k + 1) [.s (li ((k : Int) + 1))])))))))) (.o 0 [] []))) (by
 intro k h; try dsimp only [Yhj, Yhq, Z3u] at h ⊢
 have g1 := @Yt4 s.data.toList (fun b => Ym6 b.toNat) k
 have g2 := @Yyx s.data.toList (fun b => Ym6 b.toNat) k
 have g3 := @Yvr s.data.toList (fun b => Ym6 b.toNat) k
 with_reducible repeat' (first | apply And.intro | exact zR | (intro))
 all_goals ((try simp only [std, inj] at *); with_reducible and_intros)
 all_goals try first | exact z | grind [Ym6, Yhl, Yhm, Yhi])
theorem Zfg (s : ByteArray)  : Z9d s := Yhv Tryz.call298 Tryz.func298 (.l (Z3u s) (Zcd s) [] [.s (li 0)] 0 (.t (.h (s.data.toList.length <=
 9223372036854775807) (.s (lb (decide ((s.data.toList.length : Int) <= 20))))) (.t (.s (lb false)) .q))) (by
 dsimp only [Yhj, Z9d, Yhq, Z3u]
 with_reducible repeat' (first | apply And.intro | exact zR | (intro))
 all_goals ((try simp only [std, inj] at *); with_reducible and_intros)
 all_goals try first | exact z | grind [Yrb, Yhl, Yhm, Yhi])
abbrev Z9e (s : ByteArray) : Ct := ⟨302, [], [ls s], [], .sv (lb (Yrb s))⟩
def Z3v (s : ByteArray) : Lp Nat := .mk 29 0 (fun x => [(0, ls s), (3, hs x 0)]) (fun x => []) (fun k => [.s (li (k : Int))]) (fun k => k <= s.size /\ ((List.take k
 s.data.toList).all fun b => Ym6 (b.toNat : Int)) = true) (fun k => s.size - k) [.mk ((s.data.toList.all fun b => Ym6 (b.toNat : Int)) = true) (.exit 0) (fun x => []) (fun x
 => []) [], .mk ((s.data.toList.all fun b => Ym6 (b.toNat : Int)) = false) .ret (fun x => [(2, hs x 0)]) (fun x => []) [.s (lb false)]]
theorem Zce (s : ByteArray) : Lp.Sem Tryz.prog (Yht Tryz.f302 0) (Z3v s) := Yi3 (fun k => .h (s.data.toList.length <= 9223372036854775807) (.i ((k : Int) <
 (s.data.toList.length : Int)) (.p (0 <= (k : Int) /\ (k : Int).toNat < s.data.toList.length) (.i ((↑(s.data.toList.getD (k : Int).toNat (0 : UInt8)).toNat : Int) < 32) (.y true
 (.y true (.o 1 [] [.s (lb false)]))) (.p (0 <= (k : Int) /\ (k : Int).toNat < s.data.toList.length) (.i (126 < (↑(s.data.toList.getD (k : Int).toNat (0 : UInt8)).toNat : Int))
 (.y true (.o 1 [] [.s (lb false)])) (.p (0 <= (k : Int) /\ (k : Int).toNat < s.data.toList.length) (.i ((↑(s.data.toList.getD (k : Int).toNat (0 : UInt8)).toNat : Int) = 34) (.o
 1 [] [.s (lb false)]) (.r ((k : Int) + 1) (.g [] (k + 1) [.s (li ((k : Int) + 1))])))))))) (.o 0 [] []))) (by
 intro k h; try dsimp only [Yhj, Yhq, Z3v] at h ⊢
 have g1 := @Yt4 s.data.toList (fun b => Ym6 b.toNat) k
 have g2 := @Yyx s.data.toList (fun b => Ym6 b.toNat) k
 have g3 := @Yvr s.data.toList (fun b => Ym6 b.toNat) k
 with_reducible repeat' (first | apply And.intro | exact zR | (intro))
 all_goals ((try simp only [std, inj] at *); with_reducible and_intros)
 all_goals try first | exact z | grind [Ym6, Yhl, Yhm, Yhi])
theorem Zfh (s : ByteArray)  : Z9e s := Yhv Tryz.call302 Tryz.func302 (.h (s.data.toList.length <= 9223372036854775807) (.i (20 < (s.data.toList.length : Int)) (.s (lb
 false)) (.l (Z3v s) (Zce s) [] [.s (li 0)] 0 (.t (.s (lb true)) (.t (.s (lb false)) .q))))) (by
 dsimp only [Yhj, Z9e, Yhq, Z3v]
 with_reducible repeat' (first | apply And.intro | exact zR | (intro))
 all_goals ((try simp only [std, inj] at *); with_reducible and_intros)
 all_goals try first | exact z | grind [Yrb, Yhl, Yhm, Yhi])
def Yov (k n : Int) (t : ByteArray) (i : Int) : Bool := decide (k = 0 /\ n = 0 /\ t.data.toList = []) || decide (k = 1 /\ n = 0 /\ Ym4 t = true /\ i = 0) || decide (k = 2 /\ -999999999 <= n /\ n <= 999999999 /\ t.data.toList = [] /\ i = 0) || decide (k = 3 /\ 0 <= n /\ n <= 1 /\ t.data.toList = [] /\ i = 0) || decide (k = 4 /\ n = 0 /\ Yrb t = true /\ i = 0)
abbrev Zb1 (k : Int) (n : Int) (t : ByteArray) (i : Int) : Ct := ⟨249, [], [li k, li n, ls t, li i], [], .sv (lb (Yov k n t i))⟩
theorem Zgz (k n : Int) (t : ByteArray) (i : Int)  : Zb1 k n t i := Yhv Tryz.call249 Tryz.func249 (.i (k = 0) (.i (n = 0) (.s (lb (decide (t.data.toList = [])))) (.s (lb
 false))) (.i (k = 1) (.i (n = 0) (.c [.rd] (Z1y t) (.b (Ym4 t) (.s (lb (decide (i = 0)))) (.s (lb false)))) (.y false (.s (lb false)))) (.i (k = 2) (.c [.rd, .rd, .rd]
 (Z1k n (-999999999 : Int) 999999999) (.i ((-999999999 : Int) <= n /\ n <= 999999999) (.i (t.data.toList = []) (.s (lb (decide (i = 0)))) (.s (lb false))) (.y false (.s (lb
 false))))) (.i (k = 3) (.c [.rd, .rd, .rd] (Z1k n 0 1) (.i (0 <= n /\ n <= 1) (.i (t.data.toList = []) (.s (lb (decide (i = 0)))) (.s (lb false))) (.y false (.s (lb false))))) (.i
 (k = 4) (.i (n = 0) (.c [.rd] (Zfg t) (.b (Yrb t) (.s (lb (decide (i = 0)))) (.s (lb false)))) (.y false (.s (lb false)))) (.s (lb false))))))) (by
 dsimp only [Yhj, Zb1]
 with_reducible repeat' (first | apply And.intro | exact zR | (intro))
 all_goals ((try simp only [std, inj] at *); with_reducible and_intros)
 all_goals try first | exact z | grind [Yov, Yhl, Yhm, Yhi])
abbrev Zb2 (k : Int) (n : Int) (t : ByteArray) (i : Int) : Ct := ⟨255, [], [li k, li n, ls t, li i], [], .sv (lb (Yov k n t i))⟩
theorem Zh0 (k n : Int) (t : ByteArray) (i : Int)  : Zb2 k n t i := Yhv Tryz.call255 Tryz.func255 (.i (k = 0) (.i (n = 0) (.s (lb (decide (t.data.toList = [])))) (.s (lb
 false))) (.i (k = 1) (.i (n = 0) (.i (i = 0) (.c [.rd] (Z4i t) (.s (lb (Ym4 t)))) (.s (lb false))) (.y false (.s (lb false)))) (.i (k = 2) (.i ((-999999999 : Int) <= n)
 (.i (n <= 999999999) (.i (t.data.toList = []) (.s (lb (decide (i = 0)))) (.s (lb false))) (.y false (.s (lb false)))) (.y false (.y false (.s (lb false))))) (.i (k = 3) (.i (n = 0)
 (.y true (.i (t.data.toList = []) (.s (lb (decide (i = 0)))) (.s (lb false)))) (.i (n = 1) (.i (t.data.toList = []) (.s (lb (decide (i = 0)))) (.s (lb false))) (.y false (.s (lb
 false))))) (.i (k = 4) (.i (n = 0) (.i (i = 0) (.c [.rd] (Zfh t) (.s (lb (Yrb t)))) (.s (lb false))) (.y false (.s (lb false)))) (.s (lb false))))))) (by
 dsimp only [Yhj, Zb2]
 with_reducible repeat' (first | apply And.intro | exact zR | (intro))
 all_goals ((try simp only [std, inj] at *); with_reducible and_intros)
 all_goals try first | exact z | grind [Yov, Yhl, Yhm, Yhi])
set_option maxHeartbeats 4000000
def Ymh (n : Int) : Int := if 1 <= n /\ n <= 99999 then (if n % 3 = 0 then 3 else n % 3) else 0
theorem Yxx {n : Int} : Ymh n = 0 ↔ ¬ (1 <= n /\ n <= 99999) := by unfold Ymh; split <;> (try split) <;> omega
def Yll (L : List Int) : Nat -> Bool
 | 0 => true
 | k + 1 => Yll L k && decide (1 <= L.getD k default /\ L.getD k default <= 99999) && (decide (k = 0) || decide (L.getD (k - 1) default < L.getD k default))
def Ykf (L : List Int) : Bool := Yll L L.length
theorem Ywt (L : List Int) : ∀ (m k : Nat), k <= m -> Yll L m = true -> Yll L k = true
 | 0, k, h, _ => by
  obtain rfl : k = 0 := by omega
  rfl
 | m + 1, k, h, ht => by
  by_cases e : k = m + 1
  ·rw [e]; exact ht
  ·refine Ywt L m k (by omega) ?_
   simp only [Yll, Bool.and_eq_true] at ht; exact ht.1.1
abbrev Zb3 (n : Int) : Ct := ⟨262, [], [li n], [], .sv (li (Ymh n))⟩
theorem Ze4 (n : Int)  : Zb3 n := Yhv Tryz.call262 Tryz.func262 (.c [.rd, .rd, .rd] (Z1k n 1 99999) (.b (!decide (1 <= n /\ n <= 99999)) (.s (li 0)) (.p ((3 : Int) ≠ 0)
 (.p (0 <= n.tmod 3 /\ (n.tmod 3).toNat < 3) (.w (.cells (Yhh ([3, 1, 2].getD (n.tmod 3).toNat 0))) (.p ([[cI 3], [cI 1], [cI 2]][(n.tmod 3).toNat]? = some [cI ([3, 1, 2].getD
 (n.tmod 3).toNat 0)]) (.s (li ([3, 1, 2].getD (n.tmod 3).toNat 0))))))))) (by
 dsimp only [Yhj, Zb3]
 with_reducible repeat' (first | apply And.intro | exact zR | (intro))
 all_goals ((try simp only [std, inj] at *); with_reducible and_intros)
 all_goals try first | exact z | grind [Ymh, Yhl, Yhm, Yhi])
abbrev Zb4 (n : Int) : Ct := ⟨301, [], [li n], [], .sv (li (Ymh n))⟩
theorem Zal (n : Int)  : Zb4 n := Yhv Tryz.call301 Tryz.func301 (.i (n < 1) (.y true (.s (li 0))) (.i (99999 < n) (.s (li 0)) (.p ((3 : Int) ≠ 0) (.i (n.tmod (3 : Int) =
 1) (.s (li 1)) (.i (n.tmod (3 : Int) = 2) (.s (li 2)) (.s (li 3))))))) (by
 dsimp only [Yhj, Zb4]
 with_reducible repeat' (first | apply And.intro | exact zR | (intro))
 all_goals ((try simp only [std, inj] at *); with_reducible and_intros)
 all_goals try first | exact z | grind [Ymh, Yhl, Yhm, Yhi])
abbrev Z9f (L : List Int) : Ct := ⟨247, [], [ll (L.map Yhh)], [], .sv (lb (Ykf L))⟩
def Z3w (L : List Int) : Lp Nat := .mk 29 0 (fun x => [(0, ll (L.map Yhh)), (5, ll (L.map Yhh)), (6, li (↑(L.map Yhh).length : Int)), (7, hs x 0)]) (fun
 x => []) (fun k => [.s (li (k : Int))]) (fun k => k <= L.length /\ L.length <= 9223372036854775807 /\ Yll L k = true) (fun k => L.length - k) [.mk (Ykf L = true) (.exit 0) (fun x
 => []) (fun x => []) [], .mk (Ykf L = false) .ret (fun x => [(2, hs x 0)]) (fun x => []) [.s (lb false)]]
theorem Zcf (L : List Int) : Lp.Sem Tryz.prog (Yht Tryz.f247 0) (Z3w L) := Yi3 (fun k => .i ((k : Int) < (↑(L.map Yhh).length : Int)) (.x (k : Int)
 (L.map Yhh) [cI (L.getD k 0)] (.c [.rd] (Ze4 (L.getD k 0)) (.i (Ymh (L.getD k 0) = 0) (.y true (.o 1 [] [.s (lb false)])) (.i (0 < (k : Int)) (.r ((k : Int) - 1) (.x
 ((k : Int) - 1) (L.map Yhh) [cI (L.getD ((k : Int) - 1).toNat 0)] (.i (L.getD k 0 <= L.getD ((k : Int) - 1).toNat 0) (.o 1 [] [.s (lb false)]) (.r ((k : Int) + 1) (.g []
 (k + 1) [.s (li ((k : Int) + 1))]))))) (.y false (.r ((k : Int) + 1) (.g [] (k + 1) [.s (li ((k : Int) + 1))]))))))) (.o 0 [] [])) (by
 intro k h; try dsimp only [Yhj, Yhq, Z3w] at h ⊢
 have g1 := Ywt L L.length (k + 1)
 have g2 := @Yxx (L.getD k 0)
 have e : ((k : Int) - 1).toNat = k - 1 := by omega
 have g3 : Yll L (k + 1) = (Yll L k && decide (1 <= L.getD k 0 /\ L.getD k 0 <= 99999) && (decide (k = 0) || decide (L.getD (k - 1) 0 < L.getD k 0))) := rfl
 with_reducible repeat' (first | apply And.intro | exact zR | (intro))
 all_goals ((try simp only [std, inj] at *); with_reducible and_intros)
 all_goals try first | exact z | grind [Ykf, Yhl, Yhm, Yhi])
theorem Z3o (L : List Int)  : Z9f L := Yhv Tryz.call247 Tryz.func247 (.z Yhh L (.l (Z3w L) (Zcf L) [] [.s (li 0)] 0 (.t (.s (lb true)) (.t (.s (lb
 false)) .q)))) (by
 dsimp only [Yhj, Z9f, Yhq, Z3w]
 with_reducible repeat' (first | apply And.intro | exact zR | (intro))
 all_goals ((try simp only [std, inj] at *); with_reducible and_intros)
 all_goals try first | exact z | grind [Yll, Yhl, Yhm, Yhi])
abbrev Z9g (L : List Int) : Ct := ⟨252, [], [ll (L.map Yhh)], [], .sv (lb (Ykf L))⟩
def Z3x (L : List Int) : Lp Nat := .mk 29 0 (fun x => [(0, ll (L.map Yhh)), (5, ll (L.map Yhh)), (6, li (↑(L.map Yhh).length : Int)), (7, hs x 0)]) (fun
 x => []) (fun k => [.s (li (k : Int))]) (fun k => k <= L.length /\ L.length <= 9223372036854775807 /\ Yll L k = true) (fun k => L.length - k) [.mk (Ykf L = true) (.exit 0) (fun x
 => []) (fun x => []) [], .mk (Ykf L = false) .ret (fun x => [(2, hs x 0)]) (fun x => []) [.s (lb false)]]
theorem Zcg (L : List Int) : Lp.Sem Tryz.prog (Yht Tryz.f252 0) (Z3x L) := Yi3 (fun k => .i ((k : Int) < (↑(L.map Yhh).length : Int)) (.x (k : Int)
 (L.map Yhh) [cI (L.getD k 0)] (.c [.rd] (Zal (L.getD k 0)) (.i (Ymh (L.getD k 0) = 0) (.y true (.o 1 [] [.s (lb false)])) (.i (0 < (k : Int)) (.r ((k : Int) - 1) (.x
 ((k : Int) - 1) (L.map Yhh) [cI (L.getD ((k : Int) - 1).toNat 0)] (.i (L.getD k 0 <= L.getD ((k : Int) - 1).toNat 0) (.o 1 [] [.s (lb false)]) (.r ((k : Int) + 1) (.g []
 (k + 1) [.s (li ((k : Int) + 1))]))))) (.y false (.r ((k : Int) + 1) (.g [] (k + 1) [.s (li ((k : Int) + 1))]))))))) (.o 0 [] [])) (by
 intro k h; try dsimp only [Yhj, Yhq, Z3x] at h ⊢
 have g1 := Ywt L L.length (k + 1)
 have g2 := @Yxx (L.getD k 0)
 have e : ((k : Int) - 1).toNat = k - 1 := by omega
 have g3 : Yll L (k + 1) = (Yll L k && decide (1 <= L.getD k 0 /\ L.getD k 0 <= 99999) && (decide (k = 0) || decide (L.getD (k - 1) 0 < L.getD k 0))) := rfl
 with_reducible repeat' (first | apply And.intro | exact zR | (intro))
 all_goals ((try simp only [std, inj] at *); with_reducible and_intros)
 all_goals try first | exact z | grind [Ykf, Yhl, Yhm, Yhi])
theorem Z1n (L : List Int)  : Z9g L := Yhv Tryz.call252 Tryz.func252 (.z Yhh L (.l (Z3x L) (Zcg L) [] [.s (li 0)] 0 (.t (.s (lb true)) (.t (.s (lb
 false)) .q)))) (by
 dsimp only [Yhj, Z9g, Yhq, Z3x]
 with_reducible repeat' (first | apply And.intro | exact zR | (intro))
 all_goals ((try simp only [std, inj] at *); with_reducible and_intros)
 all_goals try first | exact z | grind [Yll, Yhl, Yhm, Yhi])
def Yn1 (k n : Int) (t : ByteArray) (s : List Int) (i : Int) : Bool := Yov k n t i && Ykf s && (decide ((s.length : Int) = 0) || decide (k = 1))
mutual
def Yho : YS -> Nat
 | ⟨_, _, _, _, l⟩ => Yuu l + 1
def Yuu : List YS -> Nat
 | [] => 0
 | c :: r => Yho c + Yuu r
end
theorem Y11r : ∀ l, Yuu l = Yhe Yho l
 | [] => by simp [Yuu, Yhe]
 | c :: r => by rw [Yuu, Yhe, Y11r r]
theorem Yid (c : YS) : Yho c = Yhe Yho c.items + 1 := by cases c; simp only [Yho, Y11r]
mutual
def Yi6 : YS -> Nat
 | ⟨_, _, _, _, l⟩ => Yy9 l + 1
def Yy9 : List YS -> Nat
 | [] => 0
 | c :: r => max (Yi6 c) (Yy9 r)
end
theorem Y15a : ∀ l, Yy9 l = Yjm Yi6 l
 | [] => by simp [Yy9, Yjm]
 | c :: r => by rw [Yy9, Yjm, Y15a r]
theorem Yo6 (c : YS) : Yi6 c = Yjm Yi6 c.items + 1 := by cases c; simp only [Yi6, Y15a]
theorem Y1i2 : ∀ c : YS, Yi6 c <= Yho c := by
 refine YS.ind fun c ih => ?_
 have := Y11u ih
 rw [Yid, Yo6]; omega
mutual
def okY : YS -> Bool
 | ⟨k, n, t, s, l⟩ => Y141 l && Yn1 k n t s l.length
def Y141 : List YS -> Bool
 | [] => true
 | c :: r => okY c && Y141 r
end
theorem Y18j : ∀ l, Y141 l = l.all okY
 | [] => by simp [Y141]
 | c :: r => by rw [Y141, Y18j r]; rfl
theorem Yml (c : YS) : okY c = (c.items.all okY && Yn1 c.kind c.number c.text c.scopes c.items.length) := by cases c; simp only [okY, Y18j]
def Yi7 (d : YS) : Bool := decide (Yho d <= 2000) && decide (Yi6 d <= 40) && okY d
mutual
def Yj8 : YS -> Int -> Int -> Bool × Int
 | ⟨k, n, t, s, l⟩, deep, m => if deep <= 40 /\ m + 1 <= 2000 /\ Yn1 k n t s l.length = true then Yya l (deep + 1) (m + 1) else (false, m + 1)
def Yya : List YS -> Int -> Int -> Bool × Int
 | [], _, m => (true, m)
 | x :: r, deep, m => if (Yj8 x deep m).1 then Yya r deep (Yj8 x deep m).2 else (false, (Yj8 x deep m).2)
end
theorem Y12m : ∀ l deep m, Yya l deep m = Yjd (fun x m => Yj8 x deep m) l m
 | [], _, _ => by simp [Yya, Yjd]
 | x :: r, deep, m => by simp only [Yya, Yjd, Y12m r]
theorem Y17b (c : YS) (deep m : Int) : Yj8 c deep m = if deep <= 40 /\ m + 1 <= 2000 /\ Yn1 c.kind c.number c.text c.scopes c.items.length = true then Yjd (fun x m => Yj8 x (deep + 1) m) c.items (m + 1) else (false, m + 1) := by cases c; simp only [Yj8, Y12m]
theorem Yse : ∀ (c : YS) (deep m : Int), m <= 2000 -> ((Yj8 c deep m).1 = true ↔ (m + Yho c <= 2000 /\ (deep + Yi6 c <= 41 /\ okY c = true))) /\ ((Yj8 c deep m).1 = true -> (Yj8 c deep m).2 = m + Yho c) := by
 refine YS.ind fun c ih deep m hm => ?_
 rw [Y17b, Yid, Yo6, Yml, Bool.and_eq_true, List.all_eq_true]
 by_cases h : deep <= 40 /\ m + 1 <= 2000 /\ Yn1 c.kind c.number c.text c.scopes c.items.length = true
 ·rw [if_pos h]
  have h1 := Y187 (fun x m => Yj8 x (deep + 1) m) Yho (fun x => deep + 1 + Yi6 x <= 41 /\ okY x = true) 2000 c.items (fun x hx m hm => ih x hx (deep + 1) m hm) (m + 1) h.2.1
  have h2 := Y12y Yi6 (m := (40 - deep).toNat) (L := c.items)
  constructor
  ·rw [h1.1]
   constructor
   ·rintro ⟨a, b⟩
    have := h2.2 fun x hx => by have := (b x hx).1; omega
    exact ⟨by omega, by omega, fun x hx => (b x hx).2, h.2.2⟩
   ·rintro ⟨a, b, d, e⟩
    have := h2.1 (by omega)
    exact ⟨by omega, fun x hx => ⟨by have := this x hx; omega, d x hx⟩⟩
  ·intro ht; rw [h1.2 ht]; omega
 ·rw [if_neg h]
  refine ⟨⟨fun e => Bool.noConfusion e, ?_⟩, fun e => Bool.noConfusion e⟩
  rintro ⟨a, b, d, e⟩
  exact absurd ⟨by omega, by omega, e⟩ h
theorem Yto (d : YS) : (Yj8 d 1 0).1 = Yi7 d := by
 have h := (Yse d 1 0 (by decide)).1
 rw [Bool.eq_iff_iff, h]
 simp only [Yi7, Bool.and_eq_true, decide_eq_true_eq, and_assoc]
 constructor
 ·rintro ⟨a, b, e⟩; exact ⟨by omega, by omega, e⟩
 ·rintro ⟨a, b, e⟩; exact ⟨by omega, by omega, e⟩
abbrev Z18 (d : YS) (l : Int) : Ct := ⟨180, [.box [vI l]], [Yhz d, .one (.ptr 0 0)], [.box [vI (max (l - Yho d) (-1))]], .sv (lb (decide (Yho d <= l)))⟩
def Z3y (d : YS) (l : Int) : Lp Nat := .mk 36 1 (fun x => [(1, .one (.ptr 0 0)), (2, .one (.ptr 1 0)), (5, hs x 0)]) (fun x => [.box [ha x 1], .box (vals
 (Yhk d))]) (fun k => [.s (li (k : Int)), .a (vI (max (l - 1 - (↑(Yhe Yho (d.items.take k)) : Int)) (-1 : Int)))]) (fun k => d.items.length >= k) (fun k =>
 d.items.length - k) [.mk True (.exit 0) (fun x => [(1, .one (.ptr 0 0))]) (fun x => [.box [ha x 0]]) [.a (vI (max (l - (↑(Yho d) : Int)) (-1 : Int)))]]
theorem Zch (d : YS) (l : Int) (h : 0 <= l /\ l <= 1000000) (ih : ∀ (z : YS), z ∈ d.items -> ∀ (l : Int), 0 <= l /\ l <= 1000000 -> OK (Z18 z l)) : Lp.Sem Tryz.prog
 (Yht Tryz.f180 0) (Z3y d l) := Yi3 (fun k => .z Yhd d.items (.i ((k : Int) < (↑(d.items.map Yhd).length : Int)) (.i (0 <= max (l - 1 - (↑(Yhe Yho
 (d.items.take k)) : Int)) (-1 : Int)) (.x (k : Int) (d.items.map Yhd) (Yhk (d.items.getD k default)) (.d [.rd, .ptr] (Z18 (d.items.getD k default) (max (l
 - 1 - (↑(Yhe Yho (d.items.take k)) : Int)) (-1 : Int))) (.r ((k : Int) + 1) (.g [0, 1] (k + 1) [.s (li ((k : Int) + 1)), .a (vI (max (max (l - 1 - (↑(Yhe Yho
 (d.items.take k)) : Int)) (-1 : Int) - (↑(Yho (d.items.getD k default)) : Int)) (-1 : Int)))])))) (.o 0 [0] [.a (vI (max (l - 1 - (↑(Yhe Yho (d.items.take k)) :
 Int)) (-1 : Int)))])) (.y false (.o 0 [0] [.a (vI (max (l - 1 - (↑(Yhe Yho (d.items.take k)) : Int)) (-1 : Int)))])))) (by
 intro k h; try dsimp only [Yhj, Yhq, Z3y] at h ⊢
 have g1 := Yid d
 have g2 := Yiw Yho d.items k
 have g3 := @Yj3 _ _ Yho d.items k
 with_reducible repeat' (first | apply And.intro | exact zR | exact ih | (intro) | apply ih)
 all_goals ((try simp only [std, inj] at *); with_reducible and_intros)
 all_goals try with_reducible first | apply ih
 all_goals try first | exact z | grind [Yhn, Yhl, Yhm, Yhi])
theorem Zfi (d : YS) (l : Int) (h : 0 <= l /\ l <= 1000000) (ih : ∀ z ∈ d.items, ∀ (l : Int) (h : 0 <= l /\ l <= 1000000), Z18 z l)  : Z18 d l := Yhv Tryz.call180
 Tryz.func180 (.r (l - 1) (.l (Z3y d l) (Zch d l h ih) [0, 1] [.s (li 0), .a (vI (l - 1))] 0 (.t (.f [] [.box [vI (max (l - (↑(Yho d) : Int)) (-1 : Int))]]
 (.sv (lb (decide (0 <= max (l - (↑(Yho d) : Int)) (-1 : Int)))))) .q))) (by
 dsimp only [Yhj, Z18, Yhq, Z3y]
 have g1 := Yid d
 have g2 : Yhe Yho (d.items.take 0) = 0 := rfl
 with_reducible repeat' (first | apply And.intro | exact zR | exact ih | (intro))
 all_goals ((try simp only [std, inj] at *); with_reducible and_intros)
 all_goals try with_reducible first | apply ih
 all_goals (try exact zG))
theorem Z1z (d : YS) : ∀ (l : Int) (h : 0 <= l /\ l <= 1000000), Z18 d l := YS.ind (P := fun d => ∀ (l : Int) (h : 0 <= l /\ l <= 1000000), Z18 d l) (fun d ih l h => Zfi d l h ih) d
abbrev Z1o (d : YS) : Ct := ⟨181, [], [Yhz d], [], .sv (li (Yi6 d))⟩
def Z3z (d : YS) : Lp Nat := .mk 20 0 (fun x => [(3, hs x 1), (7, ll (d.items.map Yhd)), (8, li (↑(d.items.map Yhd).length : Int)), (9, hs x 0)])
 (fun x => []) (fun k => [.s (li (k : Int)), .s (li (↑(Yjm Yi6 (d.items.take k)) : Int))]) (fun k => k <= d.items.length /\ d.items.length <= 9223372036854775807) (fun k =>
 d.items.length - k) [.mk True (.exit 0) (fun x => [(3, hs x 0)]) (fun x => []) [.s (li (↑(Yjm Yi6 d.items) : Int))]]
theorem Zci (d : YS) (h : Yho d <= 2147483647) (ih : ∀ (z : YS), z ∈ d.items -> Yho z <= 2147483647 -> OK (Z1o z)) : Lp.Sem Tryz.prog (Yht Tryz.f181 0)
 (Z3z d) := Yi3 (fun k => .i ((k : Int) < (↑(d.items.map Yhd).length : Int)) (.x (k : Int) (d.items.map Yhd) (Yhk (d.items.getD k default)) (.d
 [.rd] (Z1o (d.items.getD k default)) (.r ((k : Int) + 1) (.g [] (k + 1) [.s (li ((k : Int) + 1)), .s (li (max (↑(Yjm Yi6 (d.items.take k)) : Int) (↑(Yi6
 (d.items.getD k default)) : Int)))])))) (.o 0 [] [.s (li (↑(Yjm Yi6 (d.items.take k)) : Int))])) (by
 intro k h; try dsimp only [Yhj, Yhq, Z3z] at h ⊢
 have g1 := Yid d
 have g2 := @Yi9 _ Yho d.items (d.items.getD k default)
 with_reducible repeat' (first | apply And.intro | exact zR | exact ih | (intro) | apply ih)
 all_goals ((try simp only [std, inj] at *); with_reducible and_intros)
 all_goals try with_reducible first | apply ih
 all_goals try first | exact z | grind [Y1aj, Yhn, Yhl, Yhm, Yhi])
theorem Zfj (d : YS) (h : Yho d <= 2147483647) (ih : ∀ z ∈ d.items, ∀ (h : Yho z <= 2147483647), Z1o z)  : Z1o d := Yhv Tryz.call181 Tryz.func181 (.z Yhd
 d.items (.l (Z3z d) (Zci d h ih) [] [.s (li 0), .s (li 0)] 0 (.t (.r ((↑(Yjm Yi6 d.items) : Int) + 1) (.s (li ((↑(Yjm Yi6 d.items) : Int) + 1)))) .q))) (by
 dsimp only [Yhj, Z1o, Yhq, Z3z]
 have h1 := Y1i2 d
 have g2 : Yjm Yi6 (d.items.take 0) = 0 := rfl
 with_reducible repeat' (first | apply And.intro | exact zR | exact ih | (intro))
 all_goals ((try simp only [std, inj] at *); with_reducible and_intros)
 all_goals try with_reducible first | apply ih
 all_goals try first | exact z | grind [Yo6, Yhl, Yhm, Yhi])
theorem Ze5 (d : YS) : ∀ (h : Yho d <= 2147483647), Z1o d := YS.ind (P := fun d => ∀ (h : Yho d <= 2147483647), Z1o d) (fun d ih h => Zfj d h ih) d
abbrev Z3k (d : YS) : Ct := ⟨182, [], [Yhz d], [], .sv (lb (okY d))⟩
def Z4j (d : YS) : Lp Nat := .mk 42 0 (fun x => [(1, .one (.ptr 0 0)), (6, ll (d.items.map Yhd)), (7, li (↑(d.items.map Yhd).length : Int)), (8,
 hs x 0)]) (fun x => [.box (vals (Yhk d))]) (fun k => [.s (li (k : Int))]) (fun k => k <= d.items.length /\ d.items.length <= 9223372036854775807 /\ (d.items.take k).all
 okY = true) (fun k => d.items.length - k) [.mk (d.items.all okY = true) (.exit 0) (fun x => [(1, .one (.ptr 0 0))]) (fun x => [.box (vals (Yhk d))]) [], .mk (d.items.all
 okY = false) .ret (fun x => [(2, hs x 0)]) (fun x => []) [.s (lb false)]]
theorem Zdj (d : YS) (ih : ∀ (z : YS), z ∈ d.items -> OK (Z3k z)) : Lp.Sem Tryz.prog (Yht Tryz.f182 0) (Z4j d) := Yi3 (fun k => .i ((k : Int) <
 (↑(d.items.map Yhd).length : Int)) (.x (k : Int) (d.items.map Yhd) (Yhk (d.items.getD k default)) (.d [.rd] (Z3k (d.items.getD k default)) (.b (!okY
 (d.items.getD k default)) (.o 1 [] [.s (lb false)]) (.r ((k : Int) + 1) (.g [0] (k + 1) [.s (li ((k : Int) + 1))]))))) (.o 0 [0] [])) (by
 intro k h; try dsimp only [Yhj, Yhq, Z4j] at h ⊢
 with_reducible repeat' (first | apply And.intro | exact zR | exact ih | (intro) | apply ih)
 all_goals ((try simp only [std, inj] at *); with_reducible and_intros)
 all_goals try with_reducible first | apply ih
 all_goals try first | exact z | grind [Yi2, Yhn, Yhl, Yhm, Yhi])
theorem Zgk (d : YS) (ih : ∀ z ∈ d.items, Z3k z)  : Z3k d := Yhv Tryz.call182 Tryz.func182 (.z Yhd d.items (.l (Z4j d) (Zdj d ih) [0] [.s (li
 0)] 0 (.t (.z Yhd d.items (.c [.rd, .rd, .rd, .rd] (Zgz d.kind d.number d.text (↑(d.items.map Yhd).length : Int)) (.b (Yov d.kind d.number d.text (↑(List.map
 Yhd d.items).length : Int)) (.c [.rd] (Z3o d.scopes) (.b (Ykf d.scopes) (.z Yhh d.scopes (.i ((↑(d.scopes.map Yhh).length : Int) = 0) (.s (lb true)) (.s (lb
 (decide (d.kind = 1)))))) (.s (lb false)))) (.y false (.s (lb false)))))) (.t (.s (lb false)) .q)))) (by
 dsimp only [Yhj, Z3k, Yhq, Z4j]
 with_reducible repeat' (first | apply And.intro | exact zR | exact ih | (intro))
 all_goals ((try simp only [std, inj] at *); with_reducible and_intros)
 all_goals try with_reducible first | apply ih
 all_goals try first | exact z | grind [Yml, Yn1, Yhl, Yhm, Yhi])
theorem Zh6 (d : YS) : Z3k d := YS.ind (P := fun d => Z3k d) (fun d ih => Zgk d ih) d
abbrev Z86 (d : YS) : Ct := ⟨105, [], [Yhz d], [], .sv (lb (Yi7 d))⟩
theorem Z20 (d : YS)  : Z86 d := Yhv Tryz.call105 Tryz.func105 (.d [.rd, .ptr] (Z18 d 2000) (.i ((↑(Yho d) : Int) <= 2000) (.d [.rd] (Z1o d) (.i
 ((↑(Yi6 d) : Int) <= 40) (.c [.rd] (Zh6 d) (.s (lb (okY d)))) (.s (lb false)))) (.y false (.s (lb false))))) (by
 dsimp only [Yhj, Z86]
 with_reducible repeat' (first | apply And.intro | exact zR | (intro) | apply Z1z | apply Ze5)
 all_goals ((try simp only [std, inj] at *); with_reducible and_intros)
 all_goals try with_reducible first | apply Z1z | apply Ze5
 all_goals try first | exact z | grind [Yi7, Yhl, Yhm, Yhi])
abbrev Z19 (d : YS) (deep : Int) (q : Int) : Ct := ⟨188, [.box [vI q]], [Yhz d, li deep, .one (.ptr 0 0)], [.box [vI (Yj8 d deep q).2]], .sv (lb (Yj8 d deep q).1)⟩
def Z28 (d : YS) (deep : Int) (q : Int) : Lp Nat := .mk 64 1 (fun x => [(1, li deep), (2, .one (.ptr 0 0)), (51, ll (d.items.map Yhd)), (52, li
 (↑(d.items.map Yhd).length : Int)), (53, hs x 0)]) (fun x => [.box [ha x 1]]) (fun k => [.s (li (k : Int)), .a (vI (Yjd (fun x m => Yj8 x (deep + 1) m) (List.take k
 d.items) (q + 1)).snd)]) (fun k => k <= d.items.length /\ d.items.length <= 9223372036854775807 /\ deep <= 40 /\ (Yjd (fun x m => Yj8 x (deep + 1) m) (d.items.take k) (q +
 1)).fst = true /\ q <= (Yjd (fun x m => Yj8 x (deep + 1) m) (d.items.take k) (q + 1)).snd /\ (Yjd (fun x m => Yj8 x (deep + 1) m) (d.items.take k) (q + 1)).snd <= 2000)
 (fun k => d.items.length - k) [.mk ((Yjd (fun x m => Yj8 x (deep + 1) m) d.items (q + 1)).fst = true) (.exit 0) (fun x => []) (fun x => [.box [ha x 0]]) [.a (vI (Yjd (fun x m
 => Yj8 x (deep + 1) m) d.items (q + 1)).snd)], .mk ((Yjd (fun x m => Yj8 x (deep + 1) m) d.items (q + 1)).fst = false) .ret (fun x => [(6, hs x 0)]) (fun x => [.box [ha x
 1]]) [.s (lb false), .a (vI (Yjd (fun x m => Yj8 x (deep + 1) m) d.items (q + 1)).snd)]]
theorem Z8b (d : YS) (deep : Int) (q : Int) (h : 0 <= deep /\ deep <= 41 /\ 0 <= q /\ q <= 2000) (ih : ∀ (z : YS), z ∈ d.items -> ∀ (deep q : Int), 0 <= deep /\ deep <= 41 /\
 0 <= q /\ q <= 2000 -> OK (Z19 z deep q)) : Lp.Sem Tryz.prog (Yht Tryz.f188 0) (Z28 d deep q) := Yi3 (fun k => .i ((k : Int) < (↑(d.items.map Yhd).length
 : Int)) (.x (k : Int) (d.items.map Yhd) (Yhk (d.items.getD k default)) (.r (deep + 1) (.d [.rd, .rd, .ptr] (Z19 (d.items.getD k default) (deep + 1) (Yjd (fun
 x m => Yj8 x (deep + 1) m) (d.items.take k) (q + 1)).snd) (.b (!(Yj8 (d.items.getD k default) (deep + 1) (Yjd (fun x m => Yj8 x (deep + 1) m) (d.items.take k) (q +
 1)).snd).fst) (.o 1 [0] [.s (lb false), .a (vI (Yj8 (d.items.getD k default) (deep + 1) (Yjd (fun x m => Yj8 x (deep + 1) m) (d.items.take k) (q + 1)).snd).snd)]) (.r ((↑k
 : Int) + 1) (.g [0] (k + 1) [.s (li ((k : Int) + 1)), .a (vI (Yj8 (d.items.getD k default) (deep + 1) (Yjd (fun x m => Yj8 x (deep + 1) m) (d.items.take k) (q +
 1)).snd).snd)])))))) (.o 0 [0] [.a (vI (Yjd (fun x m => Yj8 x (deep + 1) m) (d.items.take k) (q + 1)).snd)])) (by
 intro k h; try dsimp only [Yhj, Yhq, Z28] at h ⊢
 have g1 := fun x m => Yse x (deep + 1) m
 with_reducible repeat' (first | apply And.intro | exact zR | exact ih | (intro) | apply ih)
 all_goals ((try simp only [std, inj] at *); with_reducible and_intros)
 all_goals try with_reducible first | apply ih
 all_goals try first | exact z | grind [Y10u, Y1df, Yhn, Yhl, Yhm, Yhi])
theorem Zfk (d : YS) (deep q : Int) (h : 0 <= deep /\ deep <= 41 /\ 0 <= q /\ q <= 2000) (ih : ∀ z ∈ d.items, ∀ (deep : Int) (q : Int) (h : 0 <= deep /\ deep <= 41 /\ 0 <= q /\ q <=
 2000), Z19 z deep q)  : Z19 d deep q := Yhv Tryz.call188 Tryz.func188 (.r (q + 1) (.i (40 < deep) (.y true (.y true (.f [] [.box [vI (q + 1)]] (.sv (lb false)))))
 (.i (2000 < q + 1) (.y true (.f [] [.box [vI (q + 1)]] (.sv (lb false)))) (.z Yhd d.items (.c [.rd, .rd, .rd, .rd] (Zh0 d.kind d.number d.text (↑(List.map Yhd
 d.items).length : Int)) (.b (!Yov d.kind d.number d.text (↑(d.items.map Yhd).length : Int)) (.f [] [.box [vI (q + 1)]] (.sv (lb false))) (.i (d.kind ≠ 1) (.z Yhh
 d.scopes (.i (0 < (↑(d.scopes.map Yhh).length : Int)) (.y true (.f [] [.box [vI (q + 1)]] (.sv (lb false)))) (.c [.rd] (Z1n d.scopes) (.b (!Ykf d.scopes) (.f []
 [.box [vI (q + 1)]] (.sv (lb false))) (.z Yhd d.items (.l (Z28 d deep q) (Z8b d deep q h ih) [0] [.s (li 0), .a (vI (q + 1))] 0 (.t (.f [] [.box [vI
 (Yjd (fun x m => Yj8 x (deep + 1) m) d.items (q + 1)).snd]] (.sv (lb true))) (.t (.f [] [.box [vI (Yjd (fun x m => Yj8 x (deep + 1) m) d.items (q + 1)).snd]] (.sv (lb
 false))) .q)))))))) (.y false (.c [.rd] (Z1n d.scopes) (.b (!Ykf d.scopes) (.f [] [.box [vI (q + 1)]] (.sv (lb false))) (.z Yhd d.items (.l (Z28 d deep q)
 (Z8b d deep q h ih) [0] [.s (li 0), .a (vI (q + 1))] 0 (.t (.f [] [.box [vI (Yjd (fun x m => Yj8 x (deep + 1) m) d.items (q + 1)).snd]] (.sv (lb true))) (.t (.f []
 [.box [vI (Yjd (fun x m => Yj8 x (deep + 1) m) d.items (q + 1)).snd]] (.sv (lb false))) .q)))))))))))))) (by
 dsimp only [Yhj, Z19, Yhq, Z28]
 with_reducible repeat' (first | apply And.intro | exact zR | exact ih | (intro))
 all_goals ((try simp only [std, inj] at *); with_reducible and_intros)
 all_goals try with_reducible first | apply ih
 all_goals try first | exact z | grind [Y17b, Yjd, Yn1, Yhl, Yhm, Yhi])
theorem Zn (d : YS) : ∀ (deep : Int) (q : Int) (h : 0 <= deep /\ deep <= 41 /\ 0 <= q /\ q <= 2000), Z19 d deep q := YS.ind (P := fun d => ∀ (deep : Int) (q : Int) (h : 0 <= deep /\ deep <= 41 /\ 0 <= q /\ q <= 2000), Z19 d deep q) (fun d ih deep q h => Zfk d deep q h ih) d
abbrev Z87 (d : YS) : Ct := ⟨109, [], [Yhz d], [], .sv (lb (Yi7 d))⟩
theorem Z1f (d : YS)  : Z87 d := Yhv Tryz.call109 Tryz.func109 (.d [.rd, .rd, .ptr] (Z19 d 1 0) (.s (lb (Yj8 d 1 0).fst))) (by
 dsimp only [Yhj, Z87]
 with_reducible repeat' (first | apply And.intro | exact zR | (intro) | apply Zn)
 all_goals ((try simp only [std, inj] at *); with_reducible and_intros)
 all_goals try with_reducible first | apply Zn
 all_goals try first | exact z | grind [Yto, Yhl, Yhm, Yhi])
abbrev Zb5 (s : YS) : Ct := ⟨130, [], [Yhz s], [], .sv (lb (decide (s.kind = 1) && Yi7 s))⟩
theorem Zam (s : YS)  : Zb5 s := Yhv Tryz.call130 Tryz.func130 (.i (s.kind = 1) (.c [.rd] (Z20 s) (.s (lb (Yi7 s)))) (.s (lb false))) (by
 dsimp only [Yhj, Zb5]
 exact zV)
abbrev Zb6 (s : YS) : Ct := ⟨72, [], [Yhz s], [], .sv (lb (decide (s.kind = 1) && Yi7 s))⟩
theorem Zg (s : YS)  : Zb6 s := Yhv Tryz.call72 Tryz.func72 (.i (s.kind = 1) (.c [.rd] (Z1f s) (.s (lb (Yi7 s)))) (.s (lb false))) (by
 dsimp only [Yhj, Zb6]
 exact zV)
set_option maxHeartbeats 4000000
abbrev Z88 (A : List Int) (B : List Int) : Ct := ⟨248, [], [ll (A.map Yhh), ll (B.map Yhh)], [], .sv (lb (decide (A = B)))⟩
def Z2k (A : List Int) (B : List Int) : Lp Nat := .mk 26 0 (fun x => [(0, ll (A.map Yhh)), (1, ll (B.map Yhh)), (12, li (↑(A.map Yhh).length : Int)),
 (13, hs x 0)]) (fun x => []) (fun k => [.s (li (k : Int))]) (fun k => k <= A.length /\ A.length <= 9223372036854775807 /\ A.length = B.length /\ A.take k = B.take k) (fun k
 => A.length - k) [.mk (A = B) (.exit 0) (fun x => []) (fun x => []) [], .mk (A ≠ B) .ret (fun x => [(4, hs x 0)]) (fun x => []) [.s (lb false)]]
theorem Zan (A : List Int) (B : List Int) : Lp.Sem Tryz.prog (Yht Tryz.f248 0) (Z2k A B) := Yi3 (fun k => .i ((k : Int) < (↑(A.map Yhh).length :
 Int)) (.w (.draw []) (.x (k : Int) (A.map Yhh) [cI (A.getD k 0)] (.x (k : Int) (B.map Yhh) [cI (B.getD k 0)] (.i (A.getD k (0 : Int) ≠ B.getD k 0) (.o 1 [] [.s (lb
 false)]) (.r ((k : Int) + 1) (.g [] (k + 1) [.s (li ((k : Int) + 1))])))))) (.o 0 [] [])) (by
 intro k h; try dsimp only [Yhj, Yhq, Z2k] at h ⊢
 with_reducible repeat' (first | apply And.intro | exact zR | (intro))
 all_goals ((try simp only [std, inj] at *); with_reducible and_intros)
 all_goals try first | exact z | grind [Yqd, Yhl, Yhm, Yhi])
theorem Z9h (A B : List Int)  : Z88 A B := Yhv Tryz.call248 Tryz.func248 (.z Yhh A (.z Yhh B (.i ((↑(A.map Yhh).length : Int) ≠ (↑(B.map Yhh).length
 : Int)) (.s (lb false)) (.z Yhh A (.l (Z2k A B) (Zan A B) [] [.s (li 0)] 0 (.t (.s (lb true)) (.t (.s (lb false)) .q))))))) (by
 dsimp only [Yhj, Z88, Yhq, Z2k]
 exact zV)
abbrev Z89 (A : List Int) (B : List Int) : Ct := ⟨187, [], [ll (A.map Yhh), ll (B.map Yhh)], [], .sv (lb (decide (A = B)))⟩
def Z2l (A : List Int) (B : List Int) : Lp Nat := .mk 26 0 (fun x => [(0, ll (A.map Yhh)), (1, ll (B.map Yhh)), (12, li (↑(A.map Yhh).length : Int)),
 (13, hs x 0)]) (fun x => []) (fun k => [.s (li (k : Int))]) (fun k => k <= A.length /\ A.length <= 9223372036854775807 /\ A.length = B.length /\ A.take k = B.take k) (fun k
 => A.length - k) [.mk (A = B) (.exit 0) (fun x => []) (fun x => []) [], .mk (A ≠ B) .ret (fun x => [(4, hs x 0)]) (fun x => []) [.s (lb false)]]
theorem Zao (A : List Int) (B : List Int) : Lp.Sem Tryz.prog (Yht Tryz.f187 0) (Z2l A B) := Yi3 (fun k => .i ((k : Int) < (↑(A.map Yhh).length :
 Int)) (.w (.draw []) (.x (k : Int) (A.map Yhh) [cI (A.getD k 0)] (.x (k : Int) (B.map Yhh) [cI (B.getD k 0)] (.i (A.getD k (0 : Int) ≠ B.getD k 0) (.o 1 [] [.s (lb
 false)]) (.r ((k : Int) + 1) (.g [] (k + 1) [.s (li ((k : Int) + 1))])))))) (.o 0 [] [])) (by
 intro k h; try dsimp only [Yhj, Yhq, Z2l] at h ⊢
 with_reducible repeat' (first | apply And.intro | exact zR | (intro))
 all_goals ((try simp only [std, inj] at *); with_reducible and_intros)
 all_goals try first | exact z | grind [Yqd, Yhl, Yhm, Yhi])
theorem Z9i (A B : List Int)  : Z89 A B := Yhv Tryz.call187 Tryz.func187 (.z Yhh A (.z Yhh B (.i ((↑(A.map Yhh).length : Int) ≠ (↑(B.map Yhh).length
 : Int)) (.s (lb false)) (.z Yhh A (.l (Z2l A B) (Zao A B) [] [.s (li 0)] 0 (.t (.s (lb true)) (.t (.s (lb false)) .q))))))) (by
 dsimp only [Yhj, Z89, Yhq, Z2l]
 exact zV)
set_option maxHeartbeats 4000000
def Y19q : List UInt8 := [46, 46, 46]
def Yhr (s : YS) : Bool := decide (s.kind = 1) && decide (s.text.data.toList = Y19q)
def Ylc (s : YS) : Bool := decide (s.kind = 1) && Yi7 s
def Yl8 (s : YS) (x : YC) : Bool := decide (x.name.text = s.text) && decide (x.name.scopes = s.scopes) && Ylc x.name
def Ymd (L : List YC) (s : YS) : Nat := L.findIdx (Yl8 s)
def fnd (L : List YC) (s : YS) : Int := if Yhr s = false /\ Ymd L s < L.length then Ymd L s else -1
theorem Y17j {L : List YC} {s : YS} {k : Nat} (hk : k < L.length) (hb : k <= Ymd L s) (h : Yl8 s (L.getD k default) = true) : Ymd L s = k := by
 have h1 : L.getD k default = L[k] := by simp [hk]
 rw [h1] at h
 rcases Nat.lt_or_ge k (Ymd L s) with h2 | h2
 ·have := List.not_of_lt_findIdx h2
  simp [h] at this
 ·omega
theorem Y10w {L : List YC} {s : YS} {k : Nat} (hk : k < L.length) (hb : k <= Ymd L s) (h : Yl8 s (L.getD k default) = false) : k + 1 <= Ymd L s := by
 have h1 : L.getD k default = L[k] := by simp [hk]
 rw [h1] at h
 rcases Nat.lt_or_ge k (Ymd L s) with h2 | h2
 ·exact h2
 ·have e : Ymd L s = k := by omega
  have := List.findIdx_getElem (p := Yl8 s) (xs := L) (w := by show Ymd L s < _; omega)
  have h3 : Yl8 s (L[Ymd L s]'(by omega)) = true := this
  simp only [e, h] at h3
  exact absurd h3 (by decide)
theorem Y17s (L : List YC) (s : YS) : Ymd L s <= L.length := List.findIdx_le_length
theorem Ymk (L : List YC) (s : YS) : -1 <= fnd L s /\ fnd L s < L.length := by
 unfold fnd; split <;> omega
abbrev Zb7 (s : YS) : Ct := ⟨133, [], [Yhz s], [], .sv (lb (Yhr s))⟩
theorem Zc (s : YS)  : Zb7 s := Yhv Tryz.call133 Tryz.func133 (.i (s.kind = 1) (.s (lb (decide (s.text.data.toList = [(46 : UInt8), (46 : UInt8), (46 : UInt8)]))))
 (.s (lb false))) (by
 dsimp only [Yhj, Zb7]
 with_reducible repeat' (first | apply And.intro | exact zR | (intro))
 all_goals ((try simp only [std, inj] at *); with_reducible and_intros)
 all_goals try first | exact z | grind [Yhr, Y19q, Yhl, Yhm, Yhi])
abbrev Zb8 (s : YS) : Ct := ⟨145, [], [Yhz s], [], .sv (lb (Yhr s))⟩
theorem Z0 (s : YS)  : Zb8 s := Yhv Tryz.call145 Tryz.func145 (.i (s.kind = 1) (.s (lb (decide (s.text.data.toList = [(46 : UInt8), (46 : UInt8), (46 : UInt8)]))))
 (.s (lb false))) (by
 dsimp only [Yhj, Zb8]
 with_reducible repeat' (first | apply And.intro | exact zR | (intro))
 all_goals ((try simp only [std, inj] at *); with_reducible and_intros)
 all_goals try first | exact z | grind [Yhr, Y19q, Yhl, Yhm, Yhi])
abbrev Zb9 (a : YS) (b : YS) : Ct := ⟨250, [], [Yhz a, Yhz b], [], .sv (lb (decide (a.text = b.text) && decide (a.scopes = b.scopes)))⟩
theorem Ze6 (a b : YS)  : Zb9 a b := Yhv Tryz.call250 Tryz.func250 (.i (a.text.data.toList = b.text.data.toList) (.c [.rd, .rd] (Z9h a.scopes b.scopes) (.s (lb
 (decide (a.scopes = b.scopes))))) (.s (lb false))) (by
 dsimp only [Yhj, Zb9]
 with_reducible repeat' (first | apply And.intro | exact zR | (intro))
 all_goals ((try simp only [std, inj] at *); with_reducible and_intros)
 all_goals try first | exact z | grind [Ykk, Yhl, Yhm, Yhi])
abbrev Zba (a : YS) (b : YS) : Ct := ⟨256, [], [Yhz a, Yhz b], [], .sv (lb (decide (a.kind = 1) && decide (b.kind = 1) && decide (a.text = b.text) && decide (a.scopes = b.scopes)))⟩
theorem Zap (a b : YS)  : Zba a b := Yhv Tryz.call256 Tryz.func256 (.i (a.kind = 1) (.i (b.kind = 1) (.i (a.text.data.toList = b.text.data.toList) (.c [.rd, .rd]
 (Z9i a.scopes b.scopes) (.s (lb (decide (a.scopes = b.scopes))))) (.s (lb false))) (.y false (.s (lb false)))) (.y false (.y false (.s (lb false))))) (by
 dsimp only [Yhj, Zba]
 with_reducible repeat' (first | apply And.intro | exact zR | (intro))
 all_goals ((try simp only [std, inj] at *); with_reducible and_intros)
 all_goals try first | exact z | grind [Ykk, Yhl, Yhm, Yhi])
abbrev Zbb (L : List YC) (s : YS) : Ct := ⟨223, [], [ll (L.map Yhf), Yhz s], [], .sv (li (fnd L s))⟩
def Z5f (L : List YC) (s : YS) : Lp Nat := .mk 30 0 (fun x => [(3, .one (.ptr 0 0)), (7, ll (L.map Yhf)), (8, li (↑(L.map Yhf).length :
 Int)), (9, hs x 0)]) (fun x => [.box (vals (Yhk s))]) (fun k => [.s (li (k : Int))]) (fun k => k <= L.length /\ L.length <= 9223372036854775807 /\ (Yhr s = true ∨ k <= Ymd L
 s)) (fun k => L.length - k) [.mk (fnd L s = (-1 : Int)) (.exit 0) (fun x => []) (fun x => []) [], .mk True .ret (fun x => [(4, hs x 0)]) (fun x => []) [.s (li (fnd L s))]]
theorem Zeo (L : List YC) (s : YS) : Lp.Sem Tryz.prog (Yht Tryz.f223 0) (Z5f L s) := Yi3 (fun k => .i ((k : Int) < (↑(L.map Yhf).length :
 Int)) (.x (k : Int) (L.map Yhf) (Yi1 (L.getD k default)) (.c [.rd, .rd] (Ze6 (L.getD k default).name s) (.b (decide ((L.getD k default).name.text = s.text) &&
 decide ((L.getD k default).name.scopes = s.scopes)) (.c [.rd] (Zc s) (.b (!Yhr s) (.c [.rd] (Zam (L.getD k default).name) (.b (decide ((L.getD k default).name.kind =
 1) && Yi7 (L.getD k default).name) (.o 1 [] [.s (li (k : Int))]) (.r ((k : Int) + 1) (.g [0] (k + 1) [.s (li ((k : Int) + 1))])))) (.y false (.r ((k : Int) + 1) (.g [0] (k +
 1) [.s (li ((k : Int) + 1))]))))) (.y false (.y false (.r ((k : Int) + 1) (.g [0] (k + 1) [.s (li ((k : Int) + 1))]))))))) (.o 0 [] [])) (by
 intro k h; try dsimp only [Yhj, Yhq, Z5f] at h ⊢
 have g1 := @Y17j L s k
 have g2 := @Y10w L s k
 have g3 := Y17s L s
 with_reducible repeat' (first | apply And.intro | exact zR | (intro))
 all_goals ((try simp only [std, inj] at *); with_reducible and_intros)
 all_goals try first | exact z | grind [fnd, Yl8, Ylc, Yhl, Yhm, Yhi])
theorem Z67 (L : List YC) (s : YS)  : Zbb L s := Yhv Tryz.call223 Tryz.func223 (.z Yhf L (.l (Z5f L s) (Zeo L s) [0] [.s (li 0)] 0 (.t (.s (li
 (-1 : Int))) (.t (.s (li (fnd L s))) .q)))) (by
 dsimp only [Yhj, Zbb, Yhq, Z5f]
 exact zV)
abbrev Zbc (L : List YC) (s : YS) : Ct := ⟨288, [], [ll (L.map Yhf), Yhz s], [], .sv (li (if s.kind = 1 then fnd L s else -1))⟩
def Z5g (L : List YC) (s : YS) : Lp Nat := .mk 32 0 (fun x => [(3, .one (.ptr 0 0)), (14, ll (L.map Yhf)), (15, li (↑(L.map Yhf).length :
 Int)), (16, hs x 0)]) (fun x => [.box (vals (Yhk s))]) (fun k => [.s (li (k : Int))]) (fun k => k <= L.length /\ L.length <= 9223372036854775807 /\ k <= Ymd L s /\ s.kind = 1 /\
 Yhr s = false) (fun k => L.length - k) [.mk (fnd L s = (-1 : Int)) (.exit 0) (fun x => []) (fun x => []) [], .mk True .ret (fun x => [(4, hs x 0)]) (fun x => []) [.s (li (fnd L
 s))]]
theorem Zep (L : List YC) (s : YS) : Lp.Sem Tryz.prog (Yht Tryz.f288 0) (Z5g L s) := Yi3 (fun k => .i ((k : Int) < (↑(L.map Yhf).length :
 Int)) (.x (k : Int) (L.map Yhf) (Yi1 (L.getD k default)) (.c [.rd] (Zg (L.getD k default).name) (.b (decide ((L.getD k default).name.kind = 1) && Yi7
 (L.getD k default).name) (.c [.rd, .rd] (Zap (L.getD k default).name s) (.b (decide ((L.getD k default).name.kind = 1) && decide (s.kind = 1) && decide ((L.getD k
 default).name.text = s.text) && decide ((L.getD k default).name.scopes = s.scopes)) (.o 1 [] [.s (li (k : Int))]) (.r ((k : Int) + 1) (.g [0] (k + 1) [.s (li ((k : Int) +
 1))])))) (.y false (.r ((k : Int) + 1) (.g [0] (k + 1) [.s (li ((k : Int) + 1))])))))) (.o 0 [] [])) (by
 intro k h; try dsimp only [Yhj, Yhq, Z5g] at h ⊢
 have g1 := @Y17j L s k
 have g2 := @Y10w L s k
 have g3 := Y17s L s
 with_reducible repeat' (first | apply And.intro | exact zR | (intro) | apply Zg)
 all_goals ((try simp only [std, inj] at *); with_reducible and_intros)
 all_goals try with_reducible first | apply Zg
 all_goals try first | exact z | grind [fnd, Yl8, Ylc, Yhl, Yhm, Yhi])
theorem Z95 (L : List YC) (s : YS)  : Zbc L s := Yhv Tryz.call288 Tryz.func288 (.i (s.kind ≠ 1) (.y true (.s (li (-1 : Int)))) (.c [.rd] (Z0 s) (.b (Yhr
 s) (.s (li (-1 : Int))) (.z Yhf L (.l (Z5g L s) (Zep L s) [0] [.s (li 0)] 0 (.t (.s (li (-1 : Int))) (.t (.s (li (fnd L s))) .q))))))) (by
 dsimp only [Yhj, Zbc, Yhq, Z5g]
 with_reducible repeat' (first | apply And.intro | exact zR | (intro) | apply Zg)
 all_goals ((try simp only [std, inj] at *); with_reducible and_intros)
 all_goals try with_reducible first | apply Zg
 all_goals try first | exact z | grind [fnd, Yhl, Yhm, Yhi])
def Ypz (L : List YC) (s : YS) : Int := (L.getD (fnd L s).toNat default).depth
mutual
/-- is there a name of a deeper capture? -/
def drv (L : List YC) (v : Int) : YS -> Bool
 | ⟨k, n, t, s, l⟩ => if k = 1 then decide (0 <= fnd L ⟨k, n, t, s, l⟩) && decide (v < Ypz L ⟨k, n, t, s, l⟩) else Y130 L v l
def Y130 (L : List YC) (v : Int) : List YS -> Bool
 | [] => false
 | x :: r => drv L v x || Y130 L v r
end
theorem Y171 (L : List YC) (v : Int) : ∀ l, Y130 L v l = l.any (drv L v)
 | [] => by simp [Y130]
 | x :: r => by rw [Y130, Y171 L v r]; rfl
theorem Y1bj (L : List YC) (v : Int) (t : YS) : drv L v t = if t.kind = 1 then decide (0 <= fnd L t) && decide (v < Ypz L t) else t.items.any (drv L v) := by cases t; simp only [drv, Y171]
mutual
/-- the reference's test of a template -/
def fit (L : List YC) : YS -> Int -> Bool
 | ⟨k, n, t, s, l⟩, v => if k = 1 then !Yhr ⟨k, n, t, s, l⟩ && (decide (fnd L ⟨k, n, t, s, l⟩ < 0) || decide (Ypz L ⟨k, n, t, s, l⟩ <= v)) else Ylg L l v
def Ylg (L : List YC) : List YS -> Int -> Bool
 | [], _ => true
 | [x], v => fit L x v
 | x :: y :: r, v => if Yhr y then !Yhr x && drv L v x && fit L x (v + 1) && Ylg L r v else fit L x v && Ylg L (y :: r) v
end
theorem Y139 (L : List YC) (t : YS) (v : Int) : fit L t v = if t.kind = 1 then !Yhr t && (decide (fnd L t < 0) || decide (Ypz L t <= v)) else Ylg L t.items v := by cases t; simp only [fit]
theorem Y1av {L : List YC} {l : List YS} {k : Nat} {v : Int} (h : k + 1 = l.length) : Ylg L (l.drop k) v = fit L (l.getD k default) v := by
 rw [Yj4 (by omega), List.drop_eq_nil_of_le (by omega), Ylg]
theorem Y19r {L : List YC} {l : List YS} {k : Nat} {v : Int} (h : k + 1 < l.length) (hd : Yhr (l.getD (k + 1) default) = false) : Ylg L (l.drop k) v = (fit L (l.getD k default) v && Ylg L (l.drop (k + 1)) v) := by
 rw [Yj4 (by omega : k < l.length), Yj4 h, Ylg, hd]; rfl
theorem Y1by {L : List YC} {l : List YS} {k : Nat} {v : Int} (h : k + 1 < l.length) (hd : Yhr (l.getD (k + 1) default) = true) : Ylg L (l.drop k) v = (!Yhr (l.getD k default) && drv L v (l.getD k default) && fit L (l.getD k default) (v + 1) && Ylg L (l.drop (k + 1 + 1)) v) := by
 rw [Yj4 (by omega : k < l.length), Yj4 h, Ylg, hd]; rfl
theorem Y14c {L : List YC} {l : List YS} {k : Nat} {v : Int} (h : l.length <= k) : Ylg L (l.drop k) v = true := by
 rw [List.drop_eq_nil_of_le h, Ylg]
theorem Yl5 {t : YS} {k : Nat} (h : k < t.items.length) : Yi6 (t.items.getD k default) + 1 <= Yi6 t := by
 have := Yuv Yi6 (Yhn h)
 rw [Yo6 t]; omega
abbrev Z3l (L : List YC) (t : YS) (v : Int) : Ct := ⟨287, [], [ll (L.map Yhf), Yhz t, li v], [], .sv (lb (drv L v t))⟩
def Z4k (L : List YC) (t : YS) (v : Int) : Lp Nat := .mk 39 0 (fun x => [(0, ll (L.map Yhf)), (2, li v), (28, ll (t.items.map Yhd)), (29, li
 (↑(t.items.map Yhd).length : Int)), (30, hs x 0)]) (fun x => []) (fun k => [.s (li (k : Int))]) (fun k => k <= t.items.length /\ t.items.length <= 9223372036854775807 /\
 (t.items.take k).any (drv L v) = false) (fun k => t.items.length - k) [.mk (t.items.any (drv L v) = false) (.exit 0) (fun x => []) (fun x => []) [], .mk (t.items.any (drv L
 v) = true) .ret (fun x => [(6, hs x 0)]) (fun x => []) [.s (lb true)]]
theorem Zdk (L : List YC) (t : YS) (v : Int) (ih : ∀ (z : YS), z ∈ t.items -> ∀ (L : List YC) (v : Int), OK (Z3l L z v)) : Lp.Sem Tryz.prog (Yht
 Tryz.f287 0) (Z4k L t v) := Yi3 (fun k => .i ((k : Int) < (↑(t.items.map Yhd).length : Int)) (.x (k : Int) (t.items.map Yhd) (Yhk (t.items.getD k
 default)) (.d [.rd, .rd, .rd] (Z3l L (t.items.getD k default) v) (.b (drv L v (t.items.getD k default)) (.o 1 [] [.s (lb true)]) (.r ((k : Int) + 1) (.g [] (k + 1) [.s (li
 ((k : Int) + 1))]))))) (.o 0 [] [])) (by
 intro k h; try dsimp only [Yhj, Yhq, Z4k] at h ⊢
 with_reducible repeat' (first | apply And.intro | exact zR | exact ih | (intro) | apply ih)
 all_goals ((try simp only [std, inj] at *); with_reducible and_intros)
 all_goals try with_reducible first | apply ih
 all_goals try first | exact z | grind [Yi2, Yhn, Yhl, Yhm, Yhi])
theorem Zgl (L : List YC) (t : YS) (v : Int) (ih : ∀ z ∈ t.items, ∀ (L : List YC) (v : Int), Z3l L z v)  : Z3l L t v := Yhv Tryz.call287 Tryz.func287
 (.i (t.kind = 1) (.c [.rd, .rd] (Z67 L t) (.i (0 <= fnd L t) (.x (fnd L t) (L.map Yhf) (Yi1 (L.getD (fnd L t).toNat default)) (.s (lb (decide (v < (L.getD (fnd L
 t).toNat default).depth))))) (.s (lb false)))) (.z Yhd t.items (.l (Z4k L t v) (Zdk L t v ih) [] [.s (li 0)] 0 (.t (.s (lb false)) (.t (.s (lb true)) .q)))))
 (by
 dsimp only [Yhj, Z3l, Yhq, Z4k]
 have g := Ymk L t
 with_reducible repeat' (first | apply And.intro | exact zR | exact ih | (intro))
 all_goals ((try simp only [std, inj] at *); with_reducible and_intros)
 all_goals try with_reducible first | apply ih
 all_goals try first | exact z | grind [Y1bj, Ypz, Yhl, Yhm, Yhi])
theorem Zh7 (t : YS) : ∀ (L : List YC) (v : Int), Z3l L t v := YS.ind (P := fun t => ∀ (L : List YC) (v : Int), Z3l L t v) (fun t ih L v => Zgl L t v ih) t
abbrev Z1g (L : List YC) (t : YS) (v : Int) : Ct := ⟨225, [], [ll (L.map Yhf), Yhz t, li v], [], .sv (lb (fit L t v))⟩
def Z4l (L : List YC) (t : YS) (v : Int) : Lp Nat := .mk 79 0 (fun x => [(0, ll (L.map Yhf)), (2, li v), (4, .one (.ptr 0 0)), (8, hs x 0)]) (fun x
 => [.box (vals (Yhk t))]) (fun k => [.s (li (k : Int))]) (fun k => t.items.length >= k /\ Ylg L t.items v = Ylg L (t.items.drop k) v) (fun k => t.items.length - k)
 [.mk (Ylg L t.items v = true) (.exit 0) (fun x => []) (fun x => []) [], .mk (Ylg L t.items v = false) .ret (fun x => [(6, hs x 0)]) (fun x => []) [.s (lb false)]]
theorem Zdl (L : List YC) (t : YS) (v : Int) (h : 0 <= v /\ v + (↑(Yi6 t) : Int) <= 1000) (ih : ∀ (z : YS), z ∈ t.items -> ∀ (L : List YC) (v : Int), 0 <= v /\
 v + (↑(Yi6 z) : Int) <= 1000 -> OK (Z1g L z v)) : Lp.Sem Tryz.prog (Yht Tryz.f225 0) (Z4l L t v) := Yi3 (fun k => .z Yhd t.items (.i ((k : Int) < (↑(List.map
 Yhd t.items).length : Int)) (.x (k : Int) (t.items.map Yhd) (Yhk (t.items.getD k default)) (.r ((k : Int) + 1) (.z Yhd t.items (.i ((k : Int) + 1 <
 (↑(t.items.map Yhd).length : Int)) (.r ((k : Int) + 1) (.x ((k : Int) + 1) (t.items.map Yhd) (Yhk (t.items.getD (k + 1) default)) (.c [.rd] (Zc
 (t.items.getD (k + 1) default)) (.b (Yhr (t.items.getD (k + 1) default)) (.c [.rd] (Zc (t.items.getD k default)) (.b (Yhr (t.items.getD k default)) (.y true (.o 1 []
 [.s (lb false)])) (.c [.rd, .rd, .rd] (Zh7 (t.items.getD k default) L v) (.b (!drv L v (t.items.getD k default)) (.o 1 [] [.s (lb false)]) (.r (v + 1) (.r ((k : Int) + 1) (.d
 [.rd, .rd, .rd] (Z1g L (t.items.getD k default) (v + 1)) (.b (!fit L (t.items.getD k default) (v + 1)) (.o 1 [] [.s (lb false)]) (.r ((k : Int) + 1 + 1) (.g [0] (k + 1 + 1)
 [.s (li ((k : Int) + 1 + 1))])))))))))) (.d [.rd, .rd, .rd] (Z1g L (t.items.getD k default) v) (.b (!fit L (t.items.getD k default) v) (.o 1 [] [.s (lb false)]) (.r ((↑k :
 Int) + 1) (.g [0] (k + 1) [.s (li ((k : Int) + 1))])))))))) (.y false (.d [.rd, .rd, .rd] (Z1g L (t.items.getD k default) v) (.b (!fit L (t.items.getD k default) v) (.o 1 []
 [.s (lb false)]) (.r ((k : Int) + 1) (.g [0] (k + 1) [.s (li ((k : Int) + 1))]))))))))) (.o 0 [] []))) (by
 intro k h; try dsimp only [Yhj, Yhq, Z4l] at h ⊢
 have g1 := @Y1av L t.items k v
 have g2 := @Y19r L t.items k v
 have g3 := @Y1by L t.items k v
 have g4 := @Y14c L t.items k v
 have g5 := @Yl5 t k
 have g6 := @Y14c L t.items (k + 1) v
 with_reducible repeat' (first | apply And.intro | exact zR | exact ih | (intro) | apply ih)
 all_goals ((try simp only [std, inj] at *); with_reducible and_intros)
 all_goals try with_reducible first | apply ih
 all_goals try first | exact z | grind [Yhn, Yhl, Yhm, Yhi])
theorem Zgm (L : List YC) (t : YS) (v : Int) (h : 0 <= v /\ v + Yi6 t <= 1000) (ih : ∀ z ∈ t.items, ∀ (L : List YC) (v : Int) (h : 0 <= v /\ v + Yi6 z <= 1000),
 Z1g L z v)  : Z1g L t v := Yhv Tryz.call225 Tryz.func225 (.i (t.kind = 1) (.c [.rd, .rd] (Z67 L t) (.c [.rd] (Zc t) (.b (!Yhr t) (.i (fnd L t < 0) (.s (lb
 true)) (.x (fnd L t) (L.map Yhf) (Yi1 (L.getD (fnd L t).toNat default)) (.s (lb (decide ((L.getD (fnd L t).toNat default).depth <= v)))))) (.s (lb false))))) (.l
 (Z4l L t v) (Zdl L t v h ih) [0] [.s (li 0)] 0 (.t (.s (lb true)) (.t (.s (lb false)) .q)))) (by
 dsimp only [Yhj, Z1g, Yhq, Z4l]
 have g := Ymk L t
 with_reducible repeat' (first | apply And.intro | exact zR | exact ih | (intro))
 all_goals ((try simp only [std, inj] at *); with_reducible and_intros)
 all_goals try with_reducible first | apply ih
 all_goals try first | exact z | grind [Y139, Ypz, Yhl, Yhm, Yhi])
theorem Z9z (t : YS) : ∀ (L : List YC) (v : Int) (h : 0 <= v /\ v + Yi6 t <= 1000), Z1g L t v := YS.ind (P := fun t => ∀ (L : List YC) (v : Int) (h : 0 <= v /\ v + Yi6 t <= 1000), Z1g L t v) (fun t ih L v h => Zgm L t v h ih) t
def tmF (L : List YC) (t : YS) : Bool := L.all (fun x => Ylc x.name && decide (0 <= x.depth)) && Yi7 t && fit L t 0
abbrev Zcj (L : List YC) (t : YS) : Ct := ⟨136, [], [ll (L.map Yhf), Yhz t], [], .sv (lb (tmF L t))⟩
def Z6h (L : List YC) (t : YS) : Lp Nat := .mk 30 0 (fun x => [(0, ll (L.map Yhf)), (3, .one (.ptr 0 0)), (7, ll (L.map Yhf)), (8, li
 (↑(L.map Yhf).length : Int)), (9, hs x 0)]) (fun x => [.box (vals (Yhk t))]) (fun k => [.s (li (k : Int))]) (fun k => k <= L.length /\ L.length <=
 9223372036854775807 /\ ((L.take k).all fun x => Ylc x.name && decide (0 <= x.depth)) = true) (fun k => L.length - k) [.mk ((L.all fun x => Ylc x.name && decide (0 <= x.depth))
 = true) (.exit 0) (fun x => [(0, ll (L.map Yhf)), (3, .one (.ptr 0 0))]) (fun x => [.box (vals (Yhk t))]) [], .mk ((L.all fun x => Ylc x.name && decide (0 <=
 x.depth)) = false) .ret (fun x => [(4, hs x 0)]) (fun x => []) [.s (lb false)]]
theorem Zfl (L : List YC) (t : YS) : Lp.Sem Tryz.prog (Yht Tryz.f136 0) (Z6h L t) := Yi3 (fun k => .i ((k : Int) < (↑(L.map Yhf).length : Int))
 (.x (k : Int) (L.map Yhf) (Yi1 (L.getD k default)) (.c [.rd] (Zam (L.getD k default).name) (.b (!(decide ((L.getD k default).name.kind = 1) && Yi7 (L.getD k
 default).name)) (.y true (.o 1 [] [.s (lb false)])) (.i ((L.getD k default).depth < 0) (.o 1 [] [.s (lb false)]) (.r ((k : Int) + 1) (.g [0] (k + 1) [.s (li ((k : Int) +
 1))])))))) (.o 0 [0] [])) (by
 intro k h; try dsimp only [Yhj, Yhq, Z6h] at h ⊢
 with_reducible repeat' (first | apply And.intro | exact zR | (intro) | apply Z9z)
 all_goals ((try simp only [std, inj] at *); with_reducible and_intros)
 all_goals try with_reducible first | apply Z9z
 all_goals try first | exact z | grind [Yi2, Ylc, Yhn, Yhl, Yhm, Yhi])
theorem Zh8 (L : List YC) (t : YS)  : Zcj L t := Yhv Tryz.call136 Tryz.func136 (.z Yhf L (.l (Z6h L t) (Zfl L t) [0] [.s (li 0)] 0 (.t (.c [.rd]
 (Z20 t) (.b (Yi7 t) (.d [.rd, .rd, .rd] (Z1g L t 0) (.s (lb (fit L t 0)))) (.s (lb false)))) (.t (.s (lb false)) .q)))) (by
 dsimp only [Yhj, Zcj, Yhq, Z6h]
 with_reducible repeat' (first | apply And.intro | exact zR | (intro) | apply Z9z)
 all_goals ((try simp only [std, inj] at *); with_reducible and_intros)
 all_goals try with_reducible first | apply Z9z
 all_goals try first | exact z | grind [tmF, Yi7, Yhl, Yhm, Yhi])
mutual
def Yl4 : YS -> Bool
 | ⟨k, n, t, s, l⟩ => !Yhr ⟨k, n, t, s, l⟩ && Yio true l
def Yio : Bool -> List YS -> Bool
 | _, [] => true
 | b, x :: r => if Yhr x then !b && Yio true r else Yl4 x && Yio false r
end
theorem Yvm (t : YS) : Yl4 t = (!Yhr t && Yio true t.items) := by cases t; simp only [Yl4]
def Ylp (l : List YS) (k : Nat) : Bool := decide (k = 0) || Yhr (l.getD (k - 1) default)
theorem Yyw {l : List YS} {b : Bool} {k : Nat} (h : k < l.length) : Yio b (l.drop k) = if Yhr (l.getD k default) then !b && Yio true (l.drop (k + 1)) else Yl4 (l.getD k default) && Yio false (l.drop (k + 1)) := by
 rw [Yj4 h, Yio]
theorem Y11f {l : List YS} {b : Bool} {k : Nat} (h : l.length <= k) : Yio b (l.drop k) = true := by
 rw [List.drop_eq_nil_of_le h, Yio]
abbrev Z13 (t : YS) : Ct := ⟨229, [], [Yhz t], [], .sv (lb (Yl4 t))⟩
def Z22 (t : YS) : Lp Nat := .mk 32 0 (fun x => [(1, .one (.ptr 0 0)), (8, ll (t.items.map Yhd)), (9, li (↑(t.items.map Yhd).length : Int)),
 (10, hs x 0)]) (fun x => [.box (vals (Yhk t))]) (fun k => [.s (li (k : Int))]) (fun k => k <= t.items.length /\ t.items.length <= 9223372036854775807 /\ Yio true t.items =
 Yio (Ylp t.items k) (t.items.drop k)) (fun k => t.items.length - k) [.mk (Yio true t.items = true) (.exit 0) (fun x => []) (fun x => []) [], .mk (Yio true t.items =
 false) .ret (fun x => [(2, hs x 0)]) (fun x => []) [.s (lb false)]]
theorem Za0 (t : YS) (ih : ∀ (z : YS), z ∈ t.items -> OK (Z13 z)) : Lp.Sem Tryz.prog (Yht Tryz.f229 0) (Z22 t) := Yi3 (fun k => .i ((↑k
 : Int) < (↑(t.items.map Yhd).length : Int)) (.x (k : Int) (t.items.map Yhd) (Yhk (t.items.getD k default)) (.c [.rd] (Z0 (t.items.getD k default)) (.b
 (Yhr (t.items.getD k default)) (.i ((k : Int) = 0) (.y true (.o 1 [] [.s (lb false)])) (.r ((k : Int) - 1) (.x ((k : Int) - 1) (t.items.map Yhd) (Yhk
 (t.items.getD ((k : Int) - 1).toNat default)) (.c [.rd] (Z0 (t.items.getD ((k : Int) - 1).toNat default)) (.b (Yhr (t.items.getD ((k : Int) - 1).toNat default)) (.o 1
 [] [.s (lb false)]) (.r ((k : Int) + 1) (.g [0] (k + 1) [.s (li ((k : Int) + 1))]))))))) (.d [.rd] (Z13 (t.items.getD k default)) (.b (!Yl4 (t.items.getD k default))
 (.o 1 [] [.s (lb false)]) (.r ((k : Int) + 1) (.g [0] (k + 1) [.s (li ((k : Int) + 1))]))))))) (.o 0 [] [])) (by
 intro k h; try dsimp only [Yhj, Yhq, Z22] at h ⊢
 have g1 := @Yyw t.items (Ylp t.items k) k
 have g2 := @Y11f t.items (Ylp t.items k) k
 have e : ((k : Int) - 1).toNat = k - 1 := by omega
 have g3 : Ylp t.items k = (decide (k = 0) || Yhr (t.items.getD (k - 1) default)) := rfl
 have g4 : Ylp t.items (k + 1) = Yhr (t.items.getD k default) := by simp [Ylp]
 with_reducible repeat' (first | apply And.intro | exact zR | exact ih | (intro) | apply ih)
 all_goals ((try simp only [std, inj] at *); with_reducible and_intros)
 all_goals try with_reducible first | apply ih
 all_goals try first | exact z | grind [Yhn, Yhl, Yhm, Yhi])
theorem Zck (t : YS) (ih : ∀ z ∈ t.items, Z13 z)  : Z13 t := Yhv Tryz.call229 Tryz.func229 (.c [.rd] (Z0 t) (.b (Yhr t) (.s (lb false)) (.z
 Yhd t.items (.l (Z22 t) (Za0 t ih) [0] [.s (li 0)] 0 (.t (.s (lb true)) (.t (.s (lb false)) .q)))))) (by
 dsimp only [Yhj, Z13, Yhq, Z22]
 with_reducible repeat' (first | apply And.intro | exact zR | exact ih | (intro))
 all_goals ((try simp only [std, inj] at *); with_reducible and_intros)
 all_goals try with_reducible first | apply ih
 all_goals try first | exact z | grind [Yvm, Ylp, Yhl, Yhm, Yhi])
theorem Za1 (t : YS) : Z13 t := YS.ind (P := fun t => Z13 t) (fun t ih => Zck t ih) t
mutual
def dee (L : List YC) : YS -> Int
 | ⟨k, n, t, s, l⟩ => Y137 L l (if k = 1 /\ 0 <= fnd L ⟨k, n, t, s, l⟩ then Ypz L ⟨k, n, t, s, l⟩ else -1)
def Y137 (L : List YC) : List YS -> Int -> Int
 | [], b => b
 | x :: r, b => Y137 L r (max b (dee L x))
end
theorem Y179 (L : List YC) : ∀ l b, Y137 L l b = l.foldl (fun b x => max b (dee L x)) b
 | [], _ => by rw [Y137]; rfl
 | x :: r, b => by rw [Y137, Y179 L r]; rfl
def Ytt (L : List YC) (t : YS) : Int := if t.kind = 1 /\ 0 <= fnd L t then Ypz L t else -1
theorem Y1cg (L : List YC) (t : YS) : dee L t = t.items.foldl (fun b x => max b (dee L x)) (Ytt L t) := by cases t; simp only [dee, Y179, Ytt]
abbrev Z29 (L : List YC) (t : YS) : Ct := ⟨289, [], [ll (L.map Yhf), Yhz t], [], .sv (li (dee L t))⟩
def Z2a (L : List YC) (t : YS) : Lp Nat := .mk 33 0 (fun x => [(0, ll (L.map Yhf)), (5, hs x 1), (20, ll (t.items.map Yhd)), (21, li
 (↑(t.items.map Yhd).length : Int)), (22, hs x 0)]) (fun x => []) (fun k => [.s (li (k : Int)), .s (li (List.foldl (fun b x => max b (dee L x)) (Ytt L t) (List.take k
 t.items)))]) (fun k => k <= t.items.length /\ t.items.length <= 9223372036854775807) (fun k => t.items.length - k) [.mk True (.exit 0) (fun x => [(5, hs x 0)]) (fun x => []) [.s (li
 (dee L t))]]
theorem Z8c (L : List YC) (t : YS) (ih : ∀ (z : YS), z ∈ t.items -> ∀ (L : List YC), OK (Z29 L z)) : Lp.Sem Tryz.prog (Yht Tryz.f289 0)
 (Z2a L t) := Yi3 (fun k => .i ((k : Int) < (↑(t.items.map Yhd).length : Int)) (.x (k : Int) (t.items.map Yhd) (Yhk (t.items.getD k default)) (.d
 [.rd, .rd] (Z29 L (t.items.getD k default)) (.r ((k : Int) + 1) (.g [] (k + 1) [.s (li ((k : Int) + 1)), .s (li (max (List.foldl (fun b x => max b (dee L x)) (Ytt L t)
 (t.items.take k)) (dee L (t.items.getD k default))))])))) (.o 0 [] [.s (li (List.foldl (fun b x => max b (dee L x)) (Ytt L t) (t.items.take k)))])) (by
 intro k h; try dsimp only [Yhj, Yhq, Z2a] at h ⊢
 with_reducible repeat' (first | apply And.intro | exact zR | exact ih | (intro) | apply ih)
 all_goals ((try simp only [std, inj] at *); with_reducible and_intros)
 all_goals try with_reducible first | apply ih
 all_goals try first | exact z | grind [Ync, Yhn, Y1cg, Yhl, Yhm, Yhi])
theorem Zfm (L : List YC) (t : YS) (ih : ∀ z ∈ t.items, ∀ (L : List YC), Z29 L z)  : Z29 L t := Yhv Tryz.call289 Tryz.func289 (.c [.rd, .rd] (Z95
 L t) (.i (0 <= if t.kind = 1 then fnd L t else (-1 : Int)) (.x (if t.kind = 1 then fnd L t else (-1 : Int)) (L.map Yhf) (Yi1 (L.getD (if t.kind = 1 then fnd L t else
 (-1 : Int)).toNat default)) (.z Yhd t.items (.l (Z2a L t) (Z8c L t ih) [] [.s (li 0), .s (li (L.getD (if t.kind = 1 then fnd L t else (-1 : Int)).toNat
 default).depth)] 0 (.t (.s (li (dee L t))) .q)))) (.z Yhd t.items (.l (Z2a L t) (Z8c L t ih) [] [.s (li 0), .s (li (-1 : Int))] 0 (.t (.s (li (dee L t)))
 .q))))) (by
 dsimp only [Yhj, Z29, Yhq, Z2a]
 have g := Ymk L t
 with_reducible repeat' (first | apply And.intro | exact zR | exact ih | (intro))
 all_goals ((try simp only [std, inj] at *); with_reducible and_intros)
 all_goals try with_reducible first | apply ih
 all_goals try first | exact z | grind [Ytt, Ypz, Yhl, Yhm, Yhi])
theorem Zh1 (t : YS) : ∀ (L : List YC), Z29 L t := YS.ind (P := fun t => ∀ (L : List YC), Z29 L t) (fun t ih L => Zfm L t ih) t
mutual
def Ymt (L : List YC) : YS -> Int -> Bool
 | ⟨k, n, t, s, l⟩, v => if k = 1 /\ 0 <= fnd L ⟨k, n, t, s, l⟩ then decide (Ypz L ⟨k, n, t, s, l⟩ <= v) else Yjx L l v
def Yjx (L : List YC) : List YS -> Int -> Bool
 | [], _ => true
 | [x], v => if Yhr x then true else Ymt L x v
 | x :: y :: r, v => if Yhr x then Yjx L (y :: r) v else if Yhr y then decide (v < dee L x) && Ymt L x (v + 1) && Yjx L (y :: r) v else Ymt L x v && Yjx L (y :: r) v
end
theorem Y17n (L : List YC) (t : YS) (v : Int) : Ymt L t v = if t.kind = 1 /\ 0 <= fnd L t then decide (Ypz L t <= v) else Yjx L t.items v := by cases t; simp only [Ymt]
theorem Y190 {L : List YC} {l : List YS} {k : Nat} {v : Int} (h : k + 1 = l.length) : Yjx L (l.drop k) v = if Yhr (l.getD k default) then true else Ymt L (l.getD k default) v := by
 rw [Yj4 (by omega), List.drop_eq_nil_of_le (by omega), Yjx]
theorem Y19a {L : List YC} {l : List YS} {k : Nat} {v : Int} (h : k + 1 < l.length) : Yjx L (l.drop k) v = if Yhr (l.getD k default) then Yjx L (l.drop (k + 1)) v else
  if Yhr (l.getD (k + 1) default) then decide (v < dee L (l.getD k default)) && Ymt L (l.getD k default) (v + 1) && Yjx L (l.drop (k + 1)) v else Ymt L (l.getD k default) v && Yjx L (l.drop (k + 1)) v := by
 rw [Yj4 (by omega : k < l.length), Yj4 h, Yjx]
theorem Y111 {L : List YC} {l : List YS} {k : Nat} {v : Int} (h : l.length <= k) : Yjx L (l.drop k) v = true := by
 rw [List.drop_eq_nil_of_le h, Yjx]
abbrev Zv (L : List YC) (t : YS) (v : Int) : Ct := ⟨230, [], [ll (L.map Yhf), Yhz t, li v], [], .sv (lb (Ymt L t v))⟩
def Z40 (L : List YC) (t : YS) (v : Int) : Lp Nat := .mk 62 0 (fun x => [(0, ll (L.map Yhf)), (2, li v), (4, .one (.ptr 0 0)), (24, ll (List.map
 Yhd t.items)), (25, li (↑(t.items.map Yhd).length : Int)), (26, hs x 0)]) (fun x => [.box (vals (Yhk t))]) (fun k => [.s (li (k : Int))]) (fun k => k <=
 t.items.length /\ t.items.length <= 9223372036854775807 /\ Yjx L t.items v = Yjx L (t.items.drop k) v) (fun k => t.items.length - k) [.mk (Yjx L t.items v = true) (.exit
 0) (fun x => []) (fun x => []) [], .mk (Yjx L t.items v = false) .ret (fun x => [(6, hs x 0)]) (fun x => []) [.s (lb false)]]
theorem Zcl (L : List YC) (t : YS) (v : Int) (h : 0 <= v /\ v + (↑(Yi6 t) : Int) <= 1000) (ih : ∀ (z : YS), z ∈ t.items -> ∀ (L : List YC) (v : Int), 0 <= v
 /\ v + (↑(Yi6 z) : Int) <= 1000 -> OK (Zv L z v)) : Lp.Sem Tryz.prog (Yht Tryz.f230 0) (Z40 L t v) := Yi3 (fun k => .i ((k : Int) < (↑(List.map Yhd
 t.items).length : Int)) (.x (k : Int) (t.items.map Yhd) (Yhk (t.items.getD k default)) (.c [.rd] (Z0 (t.items.getD k default)) (.b (Yhr (t.items.getD k
 default)) (.r ((k : Int) + 1) (.g [0] (k + 1) [.s (li ((k : Int) + 1))])) (.r ((k : Int) + 1) (.z Yhd t.items (.i ((k : Int) + 1 < (↑(t.items.map Yhd).length :
 Int)) (.r ((k : Int) + 1) (.x ((k : Int) + 1) (t.items.map Yhd) (Yhk (t.items.getD (k + 1) default)) (.c [.rd] (Z0 (t.items.getD (k + 1) default)) (.b (Yhr
 (t.items.getD (k + 1) default)) (.c [.rd, .rd] (Zh1 (t.items.getD k default) L) (.i (dee L (t.items.getD k default) <= v) (.o 1 [] [.s (lb false)]) (.r (v + 1) (.d [.rd, .rd,
 .rd] (Zv L (t.items.getD k default) (v + 1)) (.b (!Ymt L (t.items.getD k default) (v + 1)) (.o 1 [] [.s (lb false)]) (.r ((k : Int) + 1) (.g [0] (k + 1) [.s (li ((↑k :
 Int) + 1))]))))))) (.d [.rd, .rd, .rd] (Zv L (t.items.getD k default) v) (.b (!Ymt L (t.items.getD k default) v) (.o 1 [] [.s (lb false)]) (.r ((k : Int) + 1) (.g [0] (k
 + 1) [.s (li ((k : Int) + 1))])))))))) (.y false (.d [.rd, .rd, .rd] (Zv L (t.items.getD k default) v) (.b (!Ymt L (t.items.getD k default) v) (.o 1 [] [.s (lb false)])
 (.r ((k : Int) + 1) (.g [0] (k + 1) [.s (li ((k : Int) + 1))]))))))))))) (.o 0 [] [])) (by
 intro k h; try dsimp only [Yhj, Yhq, Z40] at h ⊢
 have g1 := @Y190 L t.items k v
 have g2 := @Y19a L t.items k v
 have g3 := @Y111 L t.items (k + 1) v
 have g4 := @Y111 L t.items k v
 have g5 := @Yl5 t k
 with_reducible repeat' (first | apply And.intro | exact zR | exact ih | (intro) | apply ih)
 all_goals ((try simp only [std, inj] at *); with_reducible and_intros)
 all_goals try with_reducible first | apply ih
 all_goals try first | exact z | grind [Yhn, Yhl, Yhm, Yhi])
theorem Zfn (L : List YC) (t : YS) (v : Int) (h : 0 <= v /\ v + Yi6 t <= 1000) (ih : ∀ z ∈ t.items, ∀ (L : List YC) (v : Int) (h : 0 <= v /\ v + Yi6 z <= 1000),
 Zv L z v)  : Zv L t v := Yhv Tryz.call230 Tryz.func230 (.c [.rd, .rd] (Z95 L t) (.i (0 <= if t.kind = 1 then fnd L t else (-1 : Int)) (.x (if t.kind = 1 then fnd L
 t else (-1 : Int)) (L.map Yhf) (Yi1 (L.getD (if t.kind = 1 then fnd L t else (-1 : Int)).toNat default)) (.s (lb (decide ((L.getD (if t.kind = 1 then fnd L t else
 (-1 : Int)).toNat default).depth <= v))))) (.z Yhd t.items (.l (Z40 L t v) (Zcl L t v h ih) [0] [.s (li 0)] 0 (.t (.s (lb true)) (.t (.s (lb false)) .q))))))
 (by
 dsimp only [Yhj, Zv, Yhq, Z40]
 have g := Ymk L t
 with_reducible repeat' (first | apply And.intro | exact zR | exact ih | (intro))
 all_goals ((try simp only [std, inj] at *); with_reducible and_intros)
 all_goals try with_reducible first | apply ih
 all_goals try first | exact z | grind [Y17n, Ypz, Yhl, Yhm, Yhi])
theorem Z96 (t : YS) : ∀ (L : List YC) (v : Int) (h : 0 <= v /\ v + Yi6 t <= 1000), Zv L t v := YS.ind (P := fun t => ∀ (L : List YC) (v : Int) (h : 0 <= v /\ v + Yi6 t <= 1000), Zv L t v) (fun t ih L v h => Zfn L t v h ih) t
theorem Y10j (f : YS -> Int) (v : Int) : ∀ (l : List YS) (b : Int), v < l.foldl (fun b x => max b (f x)) b ↔ v < b ∨ ∃ x ∈ l, v < f x
 | [], b => by simp
 | x :: r, b => by
  rw [List.foldl_cons, Y10j f v r]
  have e : v < max b (f x) ↔ v < b ∨ v < f x := by omega
  simp only [List.mem_cons, exists_eq_or_imp, e, or_assoc]
theorem Y10h {t : YS} (h : okY t = true) (hk : t.kind = 1) : t.items = [] := by
 rw [Yml] at h
 simp only [Yn1, Yov, Bool.and_eq_true, Bool.or_eq_true, decide_eq_true_eq] at h
 have : t.items.length = 0 := by omega
 exact List.length_eq_zero_iff.1 this
theorem Yla {t : YS} (h : okY t = true) : ∀ x ∈ t.items, okY x = true := by
 rw [Yml, Bool.and_eq_true, List.all_eq_true] at h; exact h.1
theorem Y1h0 (L : List YC) (v : Int) (hv : 0 <= v) : ∀ t : YS, okY t = true -> (drv L v t = decide (v < dee L t)) := by
 refine YS.ind fun t ih h => ?_
 rw [Bool.eq_iff_iff, decide_eq_true_eq, Y1bj, Y1cg, Y10j]
 by_cases hk : t.kind = 1
 ·rw [if_pos hk, Y10h h hk]
  simp only [Bool.and_eq_true, decide_eq_true_eq, List.not_mem_nil, false_and, exists_false, or_false, Ytt, hk, true_and]
  split <;> omega
 ·rw [if_neg hk, List.any_eq_true]
  have : ¬ v < Ytt L t := by unfold Ytt; rw [if_neg (by omega)]; omega
  constructor
  ·rintro ⟨x, hx, e⟩
   exact .inr ⟨x, hx, by have := ih x hx (Yla h x hx); rw [e] at this; exact of_decide_eq_true this.symm⟩
  ·rintro (e | ⟨x, hx, e⟩)
   ·exact absurd e this
   ·exact ⟨x, hx, by rw [ih x hx (Yla h x hx)]; exact decide_eq_true e⟩
theorem Y135 {L : List YC} {x : YS} {v : Int} (h : Yhr x = true) : fit L x v = false := by
 have hk : x.kind = 1 := by simp only [Yhr, Bool.and_eq_true, decide_eq_true_eq] at h; exact h.1
 rw [Y139, if_pos hk, h]; rfl
theorem Y19m {x : YS} {r : List YS} {b : Bool} (h : Yhr x = false) : Yio b (x :: r) = Yio true (x :: r) := by simp only [Yio, h]; rfl
theorem Yx2 (L : List YC) : ∀ (l : List YS), (∀ x ∈ l, okY x = true /\ ∀ v, 0 <= v -> fit L x v = (Yl4 x && Ymt L x v)) -> ∀ v, 0 <= v -> Ylg L l v = (Yio true l && Yjx L l v)
 | [], _, v, _ => by simp [Ylg, Yio, Yjx]
 | [x], h, v, hv => by
  rw [Ylg, Yjx, Yio]
  have h1 := (h x List.mem_cons_self).2 v hv
  by_cases e : Yhr x = true
  ·rw [if_pos e, if_pos e, Y135 e]; rfl
  ·rw [if_neg e, if_neg e, h1]; simp [Yio]
 | x :: y :: r, h, v, hv => by
  have hx := h x List.mem_cons_self
  have h1 := hx.2 v hv
  have h2 := hx.2 (v + 1) (by omega)
  have ihr := Yx2 L r (fun z hz => h z (List.mem_cons_of_mem _ (List.mem_cons_of_mem _ hz))) v hv
  have ihy := Yx2 L (y :: r) (fun z hz => h z (List.mem_cons_of_mem _ hz)) v hv
  have hd := Y1h0 L v hv x hx.1
  rw [Ylg, Yjx]
  by_cases ey : Yhr y = true
  ·rw [if_pos ey]
   by_cases ex : Yhr x = true
   ·rw [ex, Yio, if_pos ex]; simp
   ·have ex' : Yhr x = false := by simpa using ex
    have hy : Yio false (y :: r) = Yio true r := by rw [Yio, if_pos ey]; rfl
    have hyt : Yjx L (y :: r) v = Yjx L r v := by
     cases r with
     | nil => simp only [Yjx, if_pos ey]
     | cons z r => rw [Yjx, if_pos ey]
    rw [if_neg ex, if_pos ey, Yio, if_neg ex, hy, hyt, ihr, hd, h2, ex']
    cases Yl4 x <;> cases Yio true r <;> cases decide (v < dee L x) <;> cases Ymt L x (v + 1) <;> cases Yjx L r v <;> rfl
  ·have ey' : Yhr y = false := by simpa using ey
   rw [if_neg ey]
   by_cases ex : Yhr x = true
   ·rw [Y135 ex, Yio, if_pos ex]; simp
   ·rw [if_neg ex, if_neg ey, Yio, if_neg ex, Y19m ey', ihy, h1]
    cases Yl4 x <;> cases Yio true (y :: r) <;> cases Ymt L x v <;> cases Yjx L (y :: r) v <;> rfl
theorem Y1hb (L : List YC) : ∀ t : YS, okY t = true -> ∀ v, 0 <= v -> fit L t v = (Yl4 t && Ymt L t v) := by
 refine YS.ind fun t ih h v hv => ?_
 rw [Y139, Yvm, Y17n]
 by_cases hk : t.kind = 1
 ·rw [if_pos hk, Y10h h hk]
  by_cases h0 : 0 <= fnd L t
  ·rw [if_pos ⟨hk, h0⟩, decide_eq_false (by omega : ¬ fnd L t < 0)]; simp [Yio]
  ·rw [if_neg (fun e => h0 e.2), decide_eq_true (by omega : fnd L t < 0)]; simp [Yio, Yjx]
 ·have hd : Yhr t = false := by simp [Yhr, hk]
  rw [if_neg hk, if_neg (fun e => hk e.1), hd, Yx2 L t.items (fun x hx => ⟨Yla h x hx, fun v hv => ih x hx (Yla h x hx) v hv⟩) v hv]
  simp
theorem Y1ki (L : List YC) (t : YS) : tmF L t = (L.all (fun x => Ylc x.name && decide (0 <= x.depth)) && (Yi7 t && (Yl4 t && Ymt L t 0))) := by
 unfold tmF
 by_cases h : Yi7 t = true
 ·have h2 : okY t = true := by simp only [Yi7, Bool.and_eq_true] at h; exact h.2
  rw [Y1hb L t h2 0 (Int.le_refl _), Bool.and_assoc]
 ·have : Yi7 t = false := by simpa using h
  rw [this]; simp
abbrev Zcm (L : List YC) (t : YS) : Ct := ⟨147, [], [ll (L.map Yhf), Yhz t], [], .sv (lb (tmF L t))⟩
def Z6i (L : List YC) (t : YS) : Lp Nat := .mk 34 0 (fun x => [(0, ll (L.map Yhf)), (3, .one (.ptr 0 0)), (7, ll (L.map Yhf)), (8, li
 (↑(L.map Yhf).length : Int)), (9, hs x 0)]) (fun x => [.box (vals (Yhk t))]) (fun k => [.s (li (k : Int))]) (fun k => k <= L.length /\ L.length <=
 9223372036854775807 /\ ((L.take k).all fun x => Ylc x.name && decide (0 <= x.depth)) = true) (fun k => L.length - k) [.mk ((L.all fun x => Ylc x.name && decide (0 <= x.depth))
 = true) (.exit 0) (fun x => [(0, ll (L.map Yhf)), (3, .one (.ptr 0 0))]) (fun x => [.box (vals (Yhk t))]) [], .mk ((L.all fun x => Ylc x.name && decide (0 <=
 x.depth)) = false) .ret (fun x => [(4, hs x 0)]) (fun x => []) [.s (lb false)]]
theorem Zfo (L : List YC) (t : YS) : Lp.Sem Tryz.prog (Yht Tryz.f147 0) (Z6i L t) := Yi3 (fun k => .i ((k : Int) < (↑(L.map Yhf).length : Int))
 (.x (k : Int) (L.map Yhf) (Yi1 (L.getD k default)) (.c [.rd] (Zg (L.getD k default).name) (.b (!(decide ((L.getD k default).name.kind = 1) && Yi7 (L.getD k
 default).name)) (.y true (.o 1 [] [.s (lb false)])) (.i ((L.getD k default).depth < 0) (.o 1 [] [.s (lb false)]) (.r ((k : Int) + 1) (.g [0] (k + 1) [.s (li ((k : Int) +
 1))])))))) (.o 0 [0] [])) (by
 intro k h; try dsimp only [Yhj, Yhq, Z6i] at h ⊢
 with_reducible repeat' (first | apply And.intro | exact zR | (intro) | apply Zg | apply Z96)
 all_goals ((try simp only [std, inj] at *); with_reducible and_intros)
 all_goals try with_reducible first | apply Zg | apply Z96
 all_goals try first | exact z | grind [Yi2, Ylc, Yhn, Yhl, Yhm, Yhi])
theorem Zh9 (L : List YC) (t : YS)  : Zcm L t := Yhv Tryz.call147 Tryz.func147 (.z Yhf L (.l (Z6i L t) (Zfo L t) [0] [.s (li 0)] 0 (.t (.c [.rd]
 (Z1f t) (.b (Yi7 t) (.c [.rd] (Za1 t) (.b (Yl4 t) (.d [.rd, .rd, .rd] (Zv L t 0) (.s (lb (Ymt L t 0)))) (.s (lb false)))) (.y false (.s (lb false)))))
 (.t (.s (lb false)) .q)))) (by
 dsimp only [Yhj, Zcm, Yhq, Z6i]
 with_reducible repeat' (first | apply And.intro | exact zR | (intro) | apply Zg | apply Z96)
 all_goals ((try simp only [std, inj] at *); with_reducible and_intros)
 all_goals try with_reducible first | apply Zg | apply Z96
 all_goals try first | exact z | grind [Y1ki, Yi7, Yhl, Yhm, Yhi])
set_option maxHeartbeats 4000000
theorem Y1g5 {α : Type} [Inhabited α] {p : α -> Bool} {L : List α} {k : Nat} (hk : k < L.length) (hb : k <= L.findIdx p) (h : p (L.getD k default) = true) : L.findIdx p = k := by
 have h1 : L.getD k default = L[k] := by simp [hk]
 rw [h1] at h
 rcases Nat.lt_or_ge k (L.findIdx p) with h2 | h2
 ·have := List.not_of_lt_findIdx h2
  simp [h] at this
 ·omega
theorem Y17c {α : Type} [Inhabited α] {p : α -> Bool} {L : List α} {k : Nat} (hk : k < L.length) (hb : k <= L.findIdx p) (h : p (L.getD k default) = false) : k + 1 <= L.findIdx p := by
 have h1 : L.getD k default = L[k] := by simp [hk]
 rw [h1] at h
 rcases Nat.lt_or_ge k (L.findIdx p) with h2 | h2
 ·exact h2
 ·have e : L.findIdx p = k := by omega
  have h3 := List.findIdx_getElem (p := p) (xs := L) (w := by omega)
  simp only [e, h] at h3
  exact absurd h3 (by decide)
abbrev Z3p (L : List Int) : Ct := ⟨163, [], [ll (L.map Yhh)], [.arr true 1 (L.map Yhh)], .sv (.one (.ref 0))⟩
theorem Z8 (L : List Int) (h : L.length <= 2147483647)  : Z3p L := Yhv Tryz.call163 Tryz.func163 (.w (.bool false) (.p (∀ (e : List Cell), e ∈ L.map Yhh -> ∀ (c :
 Cell), c ∈ e -> ∃ v, c = Cell.lit v) (.p (∀ (e : List Cell), e ∈ L.map Yhh -> e.length = 1) (.p ((0 + (L.map Yhh).length) * 8 <= 140737488355328) (.f [1] [.arr true 1
 (L.map Yhh)] (.sv (.one (.ref 0)))))))) (by
 dsimp only [Yhj, Z3p]
 exact zV)
abbrev Zi (L : List Int) : Ct := ⟨151, [], [ll (L.map Yhh)], [.arr true 1 (L.map Yhh)], .sv (.one (.ref 0))⟩
theorem Z2 (L : List Int) (h : L.length <= 2147483647)  : Zi L := Yhv Tryz.call151 Tryz.func151 (.w (.bool true) (.p (∀ (e : List Cell), e ∈ L.map Yhh -> ∀ (c :
 Cell), c ∈ e -> ∃ v, c = Cell.lit v) (.p (∀ (e : List Cell), e ∈ L.map Yhh -> e.length = 1) (.p ((0 + (L.map Yhh).length) * 8 <= 140737488355328) (.f [0] [.arr true 1
 (L.map Yhh)] (.sv (.one (.ref 0)))))))) (by
 dsimp only [Yhj, Zi]
 exact zV)
abbrev Z2b (s : YS) : Ct := ⟨199, [], [Yhz s, li 0, li 0], Ykc s, .sv (Yjv s 0)⟩
def Z2v (s : YS) : Lp Nat := .mk 62 0 (fun x => [(1, li 0), (2, li 0), (6, .one (.ptr 0 0)), (7, .one (.ptr 1 0)), (45, ll (s.items.map Yhd)), (46, li
 (↑(s.items.map Yhd).length : Int)), (47, hs x 0)]) (fun x => [.box [vI 0, vI 0, vS (ByteArray.mk #[]), .val (.lit (.slice none 0 0)), .val (.lit
 (.slice none 0 0))], .box [vI s.kind, vI s.number, vS s.text, .ref 2, .ref 3], .arr true 1 (s.scopes.map Yhh), ho x 1]) (fun k => [.s (li (k : Int)), .o
 (.arr true 5 ((s.items.take k).map Yhd))]) (fun k => k <= s.items.length /\ s.items.length <= 9223372036854775807) (fun k => s.items.length - k) [.mk True (.exit 1)
 (fun x => [(6, .one (.ptr 0 0)), (7, .one (.ptr 1 0))]) (fun x => [.box [vI 0, vI 0, vS (ByteArray.mk #[]), .val (.lit (.slice none 0 0)), .val (.lit
 (.slice none 0 0))], .box [vI s.kind, vI s.number, vS s.text, .ref 2, .ref 3], .arr true 1 (s.scopes.map Yhh), ho x 0]) [.o (.arr true 5 (List.map Yhd
 s.items))]]
theorem Z9j (s : YS) (h : wY s <= 1000000000) (ih : ∀ (z : YS), z ∈ s.items -> wY z <= 1000000000 -> OK (Z2b z)) : Lp.Sem Tryz.prog (Yht Tryz.f199 0)
 (Z2v s) := Yi3 (fun k => .i ((k : Int) < (↑(s.items.map Yhd).length : Int)) (.x (k : Int) (s.items.map Yhd) (Yhk (s.items.getD k default)) (.w
 (.draw [(6, [5, 6]), (7, [3, 13]), (9, [1])]) (.d [.rd, .rd, .rd] (Z2b (s.items.getD k default)) (.p ((((s.items.take k).map Yhd).length + 1) * 80 <=
 140737488355328) (.r ((k : Int) + 1) (.g [0, 1, 2, 14] (k + 1) [.s (li ((k : Int) + 1)), .o (.arr true 5 ((s.items.take k).map Yhd ++ [Yhk (s.items.getD k
 default)]))])))))) (.o 0 [0, 1, 2, 3] [.o (.arr true 5 ((s.items.take k).map Yhd))])) (by
 intro k h; try dsimp only [Yhj, Yhq, Z2v] at h ⊢
 have g1 := Yjc s
 have g2 := @Yi9 _ wY s.items (s.items.getD k default)
 with_reducible repeat' (first | apply And.intro | exact zR | exact ih | (intro) | apply Z8 | apply ih)
 all_goals ((try simp only [std, inj] at *); with_reducible and_intros)
 all_goals try first | with_reducible (first | apply Z8 | apply ih) | (simp only [<- List.map_append]; with_reducible first | apply Z8 | apply ih)
 all_goals try first | exact z | grind [Yi2, Yhn, Yhl, Yhm, Yhi, Yhn])
theorem Zgn (s : YS) (h : wY s <= 1000000000) (ih : ∀ z ∈ s.items, ∀ (h : wY z <= 1000000000), Z2b z)  : Z2b s := Yhv Tryz.call199 Tryz.func199 (.w (.draw [(11,
 [10])]) (.d [.rd] (Z3p s.scopes) (.i (s.kind = 1) (.y false (.y false (.y false (.z Yhd s.items (.w (.ghost (.nilbox 10 4 true 5)) (.l (Z2v s) (Z9j s h
 ih) [1, 10, 2, 11] [.s (li 0), .o (.arr true 5 [])] 0 (.t (.f [2, 3] [.arr true 1 (s.scopes.map Yhh), .arr true 5 (s.items.map Yhd)] (.sv (.agg [vI
 s.kind, vI s.number, vS s.text, .ref 0, .ref 1]))) .q))))))) (.z Yhd s.items (.w (.ghost (.nilbox 10 4 true 5)) (.l (Z2v s) (Z9j s h ih) [1, 10, 2, 11] [.s
 (li 0), .o (.arr true 5 [])] 0 (.t (.f [2, 3] [.arr true 1 (s.scopes.map Yhh), .arr true 5 (s.items.map Yhd)] (.sv (.agg [vI s.kind, vI s.number, vS
 s.text, .ref 0, .ref 1]))) .q))))))) (by
 dsimp only [Yhj, Z2b, Yhq, Z2v]
 have g1 := Yjc s
 with_reducible repeat' (first | apply And.intro | exact zR | exact ih | (intro) | apply Z8)
 all_goals ((try simp only [std, inj] at *); with_reducible and_intros)
 all_goals try with_reducible first | apply Z8 | apply ih
 all_goals (try exact zG))
theorem Zfp (s : YS) : ∀ (h : wY s <= 1000000000), Z2b s := YS.ind (P := fun s => ∀ (h : wY s <= 1000000000), Z2b s) (fun s ih h => Zgn s h ih) s
abbrev Zb (s : YS) : Ct := ⟨141, [], [Yhz s], Ykc s, .sv (Yjv s 0)⟩
theorem Z1 (s : YS) (h : wY s <= 1000000000)  : Zb s := Yhv Tryz.call141 Tryz.func141 (.d [.rd, .rd, .rd] (Z2b s) (.f [2, 3] [.arr true 1 (List.map Yhh
 s.scopes), .arr true 5 (s.items.map Yhd)] (.sv (.agg [vI s.kind, vI s.number, vS s.text, .ref 0, .ref 1])))) (by
 dsimp only [Yhj, Zb]
 with_reducible repeat' (first | apply And.intro | exact zR | (intro) | apply Zfp)
 all_goals ((try simp only [std, inj] at *); with_reducible and_intros)
 all_goals try with_reducible first | apply Zfp
 all_goals (try exact zG))
def fnA (f : FuncId) : SV := .one (.val (.lit (.func (.func f) #[] #[])))
abbrev Z2c (s : YS) : Ct := ⟨204, [], [Yhz s, fnA 151], Ykc s, .sv (Yjv s 0)⟩
def Z2w (s : YS) : Lp Nat := .mk 43 0 (fun x => [(1, .one (.val (.lit (.func (Fn.func 151) #[] #[])))), (4, .one (.ptr 0 0)), (5, .one (.ptr 1 0)),
 (27, ll (s.items.map Yhd)), (28, li (↑(s.items.map Yhd).length : Int)), (29, hs x 0)]) (fun x => [.box [vI 0, vI 0, vS (ByteArray.mk #[]), .val (.lit
 (.slice none 0 0)), .val (.lit (.slice none 0 0))], .box [vI s.kind, vI s.number, vS s.text, .ref 2, .ref 3], .arr true 1 (s.scopes.map Yhh), ho x
 1]) (fun k => [.s (li (k : Int)), .o (.arr true 5 ((s.items.take k).map Yhd))]) (fun k => k <= s.items.length /\ s.items.length <= 9223372036854775807) (fun k =>
 s.items.length - k) [.mk True (.exit 0) (fun x => [(4, .one (.ptr 0 0)), (5, .one (.ptr 1 0))]) (fun x => [.box [vI 0, vI 0, vS (ByteArray.mk #[]), .val (.lit
 (.slice none 0 0)), .val (.lit (.slice none 0 0))], .box [vI s.kind, vI s.number, vS s.text, .ref 2, .ref 3], .arr true 1 (s.scopes.map Yhh), ho x
 0]) [.o (.arr true 5 (s.items.map Yhd))]]
theorem Z9k (s : YS) (h : wY s <= 1000000000) (ih : ∀ (z : YS), z ∈ s.items -> wY z <= 1000000000 -> OK (Z2c z)) : Lp.Sem Tryz.prog (Yht Tryz.f204 0)
 (Z2w s) := Yi3 (fun k => .i ((k : Int) < (↑(s.items.map Yhd).length : Int)) (.x (k : Int) (s.items.map Yhd) (Yhk (s.items.getD k default)) (.w
 (.draw [(5, [5, 6]), (6, [3, 13]), (8, [1])]) (.d [.rd, .rd] (Z2c (s.items.getD k default)) (.p ((((s.items.take k).map Yhd).length + 1) * 80 <= 140737488355328)
 (.r ((k : Int) + 1) (.g [0, 1, 2, 14] (k + 1) [.s (li ((k : Int) + 1)), .o (.arr true 5 ((s.items.take k).map Yhd ++ [Yhk (s.items.getD k default)]))]))))))
 (.o 0 [0, 1, 2, 3] [.o (.arr true 5 ((s.items.take k).map Yhd))])) (by
 intro k h; try dsimp only [Yhj, Yhq, Z2w] at h ⊢
 have g1 := Yjc s
 have g2 := @Yi9 _ wY s.items (s.items.getD k default)
 with_reducible repeat' (first | apply And.intro | exact zR | exact ih | (intro) | apply Z2 | apply ih)
 all_goals ((try simp only [std, inj] at *); with_reducible and_intros)
 all_goals try first | with_reducible (first | apply Z2 | apply ih) | (simp only [<- List.map_append]; with_reducible first | apply Z2 | apply ih)
 all_goals try first | exact z | grind [Yi2, Yhn, Yhl, Yhm, Yhi, Yhn])
theorem Zgo (s : YS) (h : wY s <= 1000000000) (ih : ∀ z ∈ s.items, ∀ (h : wY z <= 1000000000), Z2c z)  : Z2c s := Yhv Tryz.call204 Tryz.func204 (.w (.draw [(11,
 [10])]) (.d [.rd] (Zi s.scopes) (.i (s.kind = 1) (.d [.rd] (Zi s.scopes) (.z Yhd s.items (.w (.ghost (.nilbox 10 4 true 5)) (.l (Z2w s) (Z9k s
 h ih) [1, 10, 11, 12] [.s (li 0), .o (.arr true 5 [])] 0 (.t (.f [2, 3] [.arr true 1 (s.scopes.map Yhh), .arr true 5 (s.items.map Yhd)] (.sv (.agg [vI
 s.kind, vI s.number, vS s.text, .ref 0, .ref 1]))) .q))))) (.z Yhd s.items (.w (.ghost (.nilbox 10 4 true 5)) (.l (Z2w s) (Z9k s h ih) [1, 10, 2, 11] [.s
 (li 0), .o (.arr true 5 [])] 0 (.t (.f [2, 3] [.arr true 1 (s.scopes.map Yhh), .arr true 5 (s.items.map Yhd)] (.sv (.agg [vI s.kind, vI s.number, vS
 s.text, .ref 0, .ref 1]))) .q))))))) (by
 dsimp only [Yhj, Z2c, Yhq, Z2w]
 have g1 := Yjc s
 with_reducible repeat' (first | apply And.intro | exact zR | exact ih | (intro) | apply Z2)
 all_goals ((try simp only [std, inj] at *); with_reducible and_intros)
 all_goals try with_reducible first | apply Z2 | apply ih
 all_goals (try exact zG))
theorem Zfq (s : YS) : ∀ (h : wY s <= 1000000000), Z2c s := YS.ind (P := fun s => ∀ (h : wY s <= 1000000000), Z2c s) (fun s ih h => Zgo s h ih) s
abbrev Zr (s : YS) : Ct := ⟨123, [], [Yhz s], Ykc s, .sv (Yjv s 0)⟩
theorem Z3 (s : YS) (h : wY s <= 1000000000)  : Zr s := Yhv Tryz.call123 Tryz.func123 (.d [.rd, .rd] (Z2c s) (.f [2, 3] [.arr true 1 (List.map Yhh
 s.scopes), .arr true 5 (s.items.map Yhd)] (.sv (.agg [vI s.kind, vI s.number, vS s.text, .ref 0, .ref 1])))) (by
 dsimp only [Yhj, Zr]
 with_reducible repeat' (first | apply And.intro | exact zR | (intro) | apply Zfq)
 all_goals ((try simp only [std, inj] at *); with_reducible and_intros)
 all_goals try with_reducible first | apply Zfq
 all_goals (try exact zG))
def Yj1 (s : YS) : Bool := decide (s.text.data.toList = [95])
def Yke (x : YS) : Bool := Ylc x && !Yhr x && !Yj1 x
def okL (L : List YS) : Bool := L.all Yke && decide ((L.length : Int) <= 8)
def Yim (L : List YS) (s : YS) : Bool := L.any fun x => decide (x.text = s.text) && decide (x.scopes = s.scopes)
def Ykx (x s : YS) : Bool := decide (x.kind = 1) && decide (s.kind = 1) && decide (x.text = s.text) && decide (x.scopes = s.scopes)
def Yki (L : List YS) (s : YS) : Bool := L.any fun x => Ykx x s
theorem Y1b2 {α : Type} [Inhabited α] {L : List α} {p : α -> Bool} {k : Nat} (h : k < L.length) (hp : p (L.getD k default) = false) : L.all p = false := by
 rw [List.all_eq_false]; exact ⟨_, Yhn h, by rw [hp]; decide⟩
theorem Y107 (x : YS) : Yke x = ((decide (x.kind = 1) && Yi7 x) && !Yhr x && !decide (x.text.data.toList = [95])) := rfl
abbrev Zbd (L : List YS) : Ct := ⟨131, [], [ll (L.map Yhd)], [], .sv (lb (okL L))⟩
def Z5h (L : List YS) : Lp Nat := .mk 27 0 (fun x => [(0, ll (L.map Yhd)), (5, ll (L.map Yhd)), (6, li (↑(L.map Yhd).length : Int)), (7, hs x
 0)]) (fun x => []) (fun k => [.s (li (k : Int))]) (fun k => k <= L.length /\ L.length <= 9223372036854775807 /\ (L.take k).all Yke = true) (fun k => L.length - k) [.mk (L.all
 Yke = true) (.exit 0) (fun x => [(0, ll (L.map Yhd))]) (fun x => []) [], .mk (L.all Yke = false) .ret (fun x => [(2, hs x 0)]) (fun x => []) [.s (lb false)]]
theorem Zeq (L : List YS) : Lp.Sem Tryz.prog (Yht Tryz.f131 0) (Z5h L) := Yi3 (fun k => .i ((k : Int) < (↑(L.map Yhd).length : Int)) (.x (k : Int)
 (L.map Yhd) (Yhk (L.getD k default)) (.c [.rd] (Zam (L.getD k default)) (.b (!(decide ((L.getD k default).kind = 1) && Yi7 (L.getD k default))) (.y true (.y
 true (.o 1 [] [.s (lb false)]))) (.c [.rd] (Zc (L.getD k default)) (.b (Yhr (L.getD k default)) (.y true (.o 1 [] [.s (lb false)])) (.i ((L.getD k
 default).text.data.toList = [(95 : UInt8)]) (.o 1 [] [.s (lb false)]) (.r ((k : Int) + 1) (.g [] (k + 1) [.s (li ((k : Int) + 1))])))))))) (.o 0 [] [])) (by
 intro k h; try dsimp only [Yhj, Yhq, Z5h] at h ⊢
 have g1 := @Y1b2 _ _ L Yke k
 have g2 := Y107 (L.getD k default)
 with_reducible repeat' (first | apply And.intro | exact zR | (intro))
 all_goals ((try simp only [std, inj] at *); with_reducible and_intros)
 all_goals try first | exact z | grind [Yi2, Yhl, Yhm, Yhi])
theorem Zh2 (L : List YS)  : Zbd L := Yhv Tryz.call131 Tryz.func131 (.z Yhd L (.l (Z5h L) (Zeq L) [] [.s (li 0)] 0 (.t (.z Yhd L (.s (lb (decide
 ((↑(L.map Yhd).length : Int) <= 8))))) (.t (.s (lb false)) .q)))) (by
 dsimp only [Yhj, Zbd, Yhq, Z5h]
 with_reducible repeat' (first | apply And.intro | exact zR | (intro))
 all_goals ((try simp only [std, inj] at *); with_reducible and_intros)
 all_goals try first | exact z | grind [okL, Yhl, Yhm, Yhi])
abbrev Zbe (s : YS) : Ct := ⟨190, [], [Yhz s], [], .sv (lb (decide (s.kind = 1) && Yj1 s))⟩
theorem Z97 (s : YS)  : Zbe s := Yhv Tryz.call190 Tryz.func190 (.i (s.kind = 1) (.s (lb (decide (s.text.data.toList = [(95 : UInt8)])))) (.s (lb false))) (by
 dsimp only [Yhj, Zbe]
 with_reducible repeat' (first | apply And.intro | exact zR | (intro))
 all_goals ((try simp only [std, inj] at *); with_reducible and_intros)
 all_goals try first | exact z | grind [Yj1, Yhl, Yhm, Yhi])
abbrev Zbf (L : List YS) : Ct := ⟨144, [], [ll (L.map Yhd)], [], .sv (lb (okL L))⟩
def Z5i (L : List YS) : Lp Nat := .mk 26 0 (fun x => [(8, ll (L.map Yhd)), (9, li (↑(L.map Yhd).length : Int)), (10, hs x 0)]) (fun x => []) (fun k =>
 [.s (li (k : Int))]) (fun k => k <= L.length /\ L.length <= 9223372036854775807 /\ (L.take k).all Yke = true) (fun k => L.length - k) [.mk (L.all Yke = true) (.exit 0) (fun x
 => []) (fun x => []) [], .mk (L.all Yke = false) .ret (fun x => [(2, hs x 0)]) (fun x => []) [.s (lb false)]]
theorem Zer (L : List YS) : Lp.Sem Tryz.prog (Yht Tryz.f144 0) (Z5i L) := Yi3 (fun k => .i ((k : Int) < (↑(L.map Yhd).length : Int)) (.x (k : Int)
 (L.map Yhd) (Yhk (L.getD k default)) (.c [.rd] (Zg (L.getD k default)) (.b (!(decide ((L.getD k default).kind = 1) && Yi7 (L.getD k default))) (.y true (.y
 true (.o 1 [] [.s (lb false)]))) (.c [.rd] (Z0 (L.getD k default)) (.b (Yhr (L.getD k default)) (.y true (.o 1 [] [.s (lb false)])) (.c [.rd] (Z97 (L.getD k default))
 (.b (decide ((L.getD k default).kind = 1) && Yj1 (L.getD k default)) (.o 1 [] [.s (lb false)]) (.r ((k : Int) + 1) (.g [] (k + 1) [.s (li ((k : Int) + 1))]))))))))) (.o 0 []
 [])) (by
 intro k h; try dsimp only [Yhj, Yhq, Z5i] at h ⊢
 with_reducible repeat' (first | apply And.intro | exact zR | (intro) | apply Zg | apply Z0)
 all_goals ((try simp only [std, inj] at *); with_reducible and_intros)
 all_goals try with_reducible first | apply Zg | apply Z0
 all_goals try first | exact z | grind [Yi2, Yke, Ylc, Yhn, Yhl, Yhm, Yhi])
theorem Ze7 (L : List YS)  : Zbf L := Yhv Tryz.call144 Tryz.func144 (.z Yhd L (.i (8 < (↑(L.map Yhd).length : Int)) (.s (lb false)) (.z Yhd L (.l
 (Z5i L) (Zer L) [] [.s (li 0)] 0 (.t (.s (lb true)) (.t (.s (lb false)) .q)))))) (by
 dsimp only [Yhj, Zbf, Yhq, Z5i]
 with_reducible repeat' (first | apply And.intro | exact zR | (intro) | apply Zg | apply Z0)
 all_goals ((try simp only [std, inj] at *); with_reducible and_intros)
 all_goals try with_reducible first | apply Zg | apply Z0
 all_goals try first | exact z | grind [okL, Yhl, Yhm, Yhi])
abbrev Zbg (L : List YS) (s : YS) : Ct := ⟨183, [], [ll (L.map Yhd), Yhz s], [], .sv (lb (Yim L s))⟩
def Z5j (L : List YS) (s : YS) : Lp Nat := .mk 17 0 (fun x => [(3, .one (.ptr 0 0)), (7, ll (L.map Yhd)), (8, li (↑(L.map Yhd).length : Int)),
 (9, hs x 0)]) (fun x => [.box (vals (Yhk s))]) (fun k => [.s (li (k : Int))]) (fun k => k <= L.length /\ L.length <= 9223372036854775807 /\ Yim (L.take k) s = false) (fun
 k => L.length - k) [.mk (Yim L s = false) (.exit 0) (fun x => []) (fun x => []) [], .mk (Yim L s = true) .ret (fun x => [(4, hs x 0)]) (fun x => []) [.s (lb true)]]
theorem Zes (L : List YS) (s : YS) : Lp.Sem Tryz.prog (Yht Tryz.f183 0) (Z5j L s) := Yi3 (fun k => .i ((k : Int) < (↑(L.map Yhd).length : Int))
 (.x (k : Int) (L.map Yhd) (Yhk (L.getD k default)) (.c [.rd, .rd] (Ze6 (L.getD k default) s) (.b (decide ((L.getD k default).text = s.text) && decide ((L.getD k
 default).scopes = s.scopes)) (.o 1 [] [.s (lb true)]) (.r ((k : Int) + 1) (.g [0] (k + 1) [.s (li ((k : Int) + 1))]))))) (.o 0 [] [])) (by
 intro k h; try dsimp only [Yhj, Yhq, Z5j] at h ⊢
 with_reducible repeat' (first | apply And.intro | exact zR | (intro))
 all_goals ((try simp only [std, inj] at *); with_reducible and_intros)
 all_goals try first | exact z | grind [Yi2, Yim, Yhn, Yhl, Yhm, Yhi])
theorem Z68 (L : List YS) (s : YS)  : Zbg L s := Yhv Tryz.call183 Tryz.func183 (.z Yhd L (.l (Z5j L s) (Zes L s) [0] [.s (li 0)] 0 (.t (.s (lb
 false)) (.t (.s (lb true)) .q)))) (by
 dsimp only [Yhj, Zbg, Yhq, Z5j]
 with_reducible repeat' (first | apply And.intro | exact zR | (intro))
 all_goals ((try simp only [std, inj] at *); with_reducible and_intros)
 all_goals try first | exact z | grind [Yim, Yhl, Yhm, Yhi])
abbrev Zbh (L : List YS) (s : YS) : Ct := ⟨191, [], [ll (L.map Yhd), Yhz s], [], .sv (lb (Yki L s))⟩
def Z5k (L : List YS) (s : YS) : Lp Nat := .mk 17 0 (fun x => [(3, .one (.ptr 0 0)), (7, ll (L.map Yhd)), (8, li (↑(L.map Yhd).length : Int)),
 (9, hs x 0)]) (fun x => [.box (vals (Yhk s))]) (fun k => [.s (li (k : Int))]) (fun k => k <= L.length /\ L.length <= 9223372036854775807 /\ Yki (L.take k) s = false) (fun
 k => L.length - k) [.mk (Yki L s = false) (.exit 0) (fun x => []) (fun x => []) [], .mk (Yki L s = true) .ret (fun x => [(4, hs x 0)]) (fun x => []) [.s (lb true)]]
theorem Zet (L : List YS) (s : YS) : Lp.Sem Tryz.prog (Yht Tryz.f191 0) (Z5k L s) := Yi3 (fun k => .i ((k : Int) < (↑(L.map Yhd).length : Int))
 (.x (k : Int) (L.map Yhd) (Yhk (L.getD k default)) (.c [.rd, .rd] (Zap (L.getD k default) s) (.b (decide ((L.getD k default).kind = 1) && decide (s.kind = 1) &&
 decide ((L.getD k default).text = s.text) && decide ((L.getD k default).scopes = s.scopes)) (.o 1 [] [.s (lb true)]) (.r ((k : Int) + 1) (.g [0] (k + 1) [.s (li ((k : Int) +
 1))]))))) (.o 0 [] [])) (by
 intro k h; try dsimp only [Yhj, Yhq, Z5k] at h ⊢
 with_reducible repeat' (first | apply And.intro | exact zR | (intro))
 all_goals ((try simp only [std, inj] at *); with_reducible and_intros)
 all_goals try first | exact z | grind [Yi2, Yki, Ykx, Yhn, Yhl, Yhm, Yhi])
theorem Zaq (L : List YS) (s : YS)  : Zbh L s := Yhv Tryz.call191 Tryz.func191 (.z Yhd L (.l (Z5k L s) (Zet L s) [0] [.s (li 0)] 0 (.t (.s (lb
 false)) (.t (.s (lb true)) .q)))) (by
 dsimp only [Yhj, Zbh, Yhq, Z5k]
 with_reducible repeat' (first | apply And.intro | exact zR | (intro))
 all_goals ((try simp only [std, inj] at *); with_reducible and_intros)
 all_goals try first | exact z | grind [Yki, Yhl, Yhm, Yhi])
def atF (l : List YS) : Nat -> Int
 | 0 => -1
 | k + 1 => if Yhr (l.getD k default) = true then (k : Int) else atF l k
def okA (l : List YS) : Nat -> Bool
 | 0 => true
 | k + 1 => okA l k && (!Yhr (l.getD k default) || (decide (k ≠ 0) && decide (atF l k < 0)))
def atS (l : List YS) : Int := atF l l.length
def okS (l : List YS) : Bool := okA l l.length
theorem Y1dj (l : List YS) : ∀ (m k : Nat), k <= m -> okA l m = true -> okA l k = true
 | 0, k, h, _ => by
  obtain rfl : k = 0 := by omega
  rfl
 | m + 1, k, h, ht => by
  by_cases e : k = m + 1
  ·rw [e]; exact ht
  ·refine Y1dj l m k (by omega) ?_
   simp only [okA, Bool.and_eq_true] at ht; exact ht.1
def atI (l : List YS) : Int := if l.findIdx Yhr < l.length then (l.findIdx Yhr : Int) else -1
abbrev Ze8 (l : List YS) : Ct := ⟨224, [], [ll (l.map Yhd)], [], .tup [li (if okS l = true then atS l else -1), lb (okS l)]⟩
def Z7j (l : List YS) : Lp Nat := .mk 26 0 (fun x => [(4, hs x 1), (7, ll (l.map Yhd)), (8, li (↑(l.map Yhd).length : Int)), (9, hs x 0)]) (fun x => [])
 (fun k => [.s (li (k : Int)), .s (li (atF l k))]) (fun k => k <= l.length /\ l.length <= 9223372036854775807 /\ okA l k = true) (fun k => l.length - k) [.mk (okS l = true) (.exit 0)
 (fun x => [(4, hs x 0)]) (fun x => []) [.s (li (atS l))], .mk (okS l = false) .ret (fun x => [(2, hs x 0), (3, hs x 1)]) (fun x => []) [.s (li (-1 : Int)), .s (lb false)]]
theorem Zgp (l : List YS) : Lp.Sem Tryz.prog (Yht Tryz.f224 0) (Z7j l) := Yi3 (fun k => .i ((k : Int) < (↑(l.map Yhd).length : Int)) (.x (k : Int)
 (l.map Yhd) (Yhk (l.getD k default)) (.c [.rd] (Zc (l.getD k default)) (.b (!Yhr (l.getD k default)) (.r ((k : Int) + 1) (.g [] (k + 1) [.s (li ((k : Int) +
 1)), .s (li (atF l k))])) (.i ((k : Int) = 0) (.y true (.o 1 [] [.s (li (-1 : Int)), .s (lb false)])) (.i (0 <= atF l k) (.o 1 [] [.s (li (-1 : Int)), .s (lb false)]) (.r ((↑k :
 Int) + 1) (.g [] (k + 1) [.s (li ((k : Int) + 1)), .s (li (k : Int))]))))))) (.o 0 [] [.s (li (atF l k))])) (by
 intro k h; try dsimp only [Yhj, Yhq, Z7j] at h ⊢
 have g1 := Y1dj l l.length (k + 1)
 have g2 : okA l (k + 1) = (okA l k && (!Yhr (l.getD k default) || (decide (k ≠ 0) && decide (atF l k < 0)))) := rfl
 have g3 : atF l (k + 1) = if Yhr (l.getD k default) = true then (k : Int) else atF l k := rfl
 with_reducible repeat' (first | apply And.intro | exact zR | (intro))
 all_goals ((try simp only [std, inj] at *); with_reducible and_intros)
 all_goals try first | exact z | grind [okS, atS, Yhl, Yhm, Yhi])
theorem Zgw (l : List YS)  : Ze8 l := Yhv Tryz.call224 Tryz.func224 (.z Yhd l (.l (Z7j l) (Zgp l) [] [.s (li 0), .s (li (-1 : Int))] 0 (.t (.f [] [] (.tup
 [li (atS l), lb true])) (.t (.f [] [] (.tup [li (-1 : Int), lb false])) .q)))) (by
 dsimp only [Yhj, Ze8, Yhq, Z7j]
 with_reducible repeat' (first | apply And.intro | exact zR | (intro))
 all_goals ((try simp only [std, inj] at *); with_reducible and_intros)
 all_goals try first | exact z | grind [okA, atF, Yhl, Yhm, Yhi])
abbrev Ze9 (l : List YS) : Ct := ⟨193, [], [ll (l.map Yhd)], [], .sv (li (atI l))⟩
def Z7k (l : List YS) : Lp Nat := .mk 16 0 (fun x => [(5, ll (l.map Yhd)), (6, li (↑(l.map Yhd).length : Int)), (7, hs x 0)]) (fun x => []) (fun k => [.s
 (li (k : Int))]) (fun k => k <= l.length /\ l.length <= 9223372036854775807 /\ k <= List.findIdx Yhr l) (fun k => l.length - k) [.mk (atI l = (-1 : Int)) (.exit 0) (fun x => [])
 (fun x => []) [], .mk True .ret (fun x => [(2, hs x 0)]) (fun x => []) [.s (li (atI l))]]
theorem Zgq (l : List YS) : Lp.Sem Tryz.prog (Yht Tryz.f193 0) (Z7k l) := Yi3 (fun k => .i ((k : Int) < (↑(l.map Yhd).length : Int)) (.x (k : Int)
 (l.map Yhd) (Yhk (l.getD k default)) (.c [.rd] (Z0 (l.getD k default)) (.b (Yhr (l.getD k default)) (.o 1 [] [.s (li (k : Int))]) (.r ((k : Int) + 1) (.g []
 (k + 1) [.s (li ((k : Int) + 1))]))))) (.o 0 [] [])) (by
 intro k h; try dsimp only [Yhj, Yhq, Z7k] at h ⊢
 have g1 := @Y1g5 _ _ Yhr l k
 have g2 := @Y17c _ _ Yhr l k
 with_reducible repeat' (first | apply And.intro | exact zR | (intro) | apply Z0)
 all_goals ((try simp only [std, inj] at *); with_reducible and_intros)
 all_goals try with_reducible first | apply Z0
 all_goals try first | exact z | grind [atI, Yhl, Yhm, Yhi])
theorem Zca (l : List YS)  : Ze9 l := Yhv Tryz.call193 Tryz.func193 (.z Yhd l (.l (Z7k l) (Zgq l) [] [.s (li 0)] 0 (.t (.s (li (-1 : Int))) (.t (.s (li (atI
 l))) .q)))) (by
 dsimp only [Yhj, Ze9, Yhq, Z7k]
 with_reducible repeat' (first | apply And.intro | exact zR | (intro) | apply Z0)
 all_goals ((try simp only [std, inj] at *); with_reducible and_intros)
 all_goals try with_reducible first | apply Z0
 all_goals (try exact zG))
def wlk (f : YS -> Int -> List YC -> Option (List YC)) : List YS -> Int -> Int -> Int -> List YC -> Option (List YC)
 | [], _, _, _, o => some o
 | x :: r, i, a, d, o => if i = a then wlk f r (i + 1) a d o else match f x (if i + 1 = a then d + 1 else d) o with
  | none => none
  | some o' => wlk f r (i + 1) a d o'
theorem Yqc (f : YS -> Int -> List YC -> Option (List YC)) : ∀ (A B : List YS) (i a d : Int) (o : List YC), wlk f (A ++ B) i a d o = match wlk f A i a d o with
  | none => none
  | some o' => wlk f B (i + (A.length : Int)) a d o'
 | [], B, i, a, d, o => by simp [wlk]
 | x :: A, B, i, a, d, o => by
  have e : i + ((x :: A).length : Int) = i + 1 + (A.length : Int) := by simp only [List.length_cons]; omega
  simp only [List.cons_append, wlk, e]
  split
  ·exact Yqc f A B _ a d o
  ·split
   ·rfl
   ·exact Yqc f A B _ a d _
theorem Ytk {f : YS -> Int -> List YC -> Option (List YC)} {l : List YS} {k : Nat} {a d : Int} {o o' : List YC} (h : k < l.length) (e : wlk f (l.take k) 0 a d o = some o') :
  wlk f (l.take (k + 1)) 0 a d o = if (k : Int) = a then some o' else f (l.getD k default) (if (k : Int) + 1 = a then d + 1 else d) o' := by
 rw [Yi2 h, Yqc, e]
 have : (0 : Int) + ((l.take k).length : Int) = (k : Int) := by simp; omega
 simp only [this, wlk]
 split
 ·rfl
 ·cases f (l.getD k default) (if (k : Int) + 1 = a then d + 1 else d) o' <;> rfl
theorem Y142 {f : YS -> Int -> List YC -> Option (List YC)} {l : List YS} {k : Nat} {a d : Int} {o : List YC} (e : wlk f (l.take k) 0 a d o = none) : wlk f l 0 a d o = none := by
 have := Yqc f (l.take k) (l.drop k) 0 a d o
 rw [List.take_append_drop, e] at this; exact this
def Yoo (p : YS) (d : Int) : YC := ⟨p, d, ⟨0, 0, mkS [], [], []⟩, []⟩
mutual
def vrS (Ls : List YS) : YS -> Int -> List YC -> Option (List YC)
 | ⟨k, n, t, s, l⟩, d, o => if k = 1 then (if Yj1 ⟨k, n, t, s, l⟩ = true ∨ Yim Ls ⟨k, n, t, s, l⟩ = true then some o else
   if Yhr ⟨k, n, t, s, l⟩ = true ∨ 0 <= fnd o ⟨k, n, t, s, l⟩ ∨ 3 < d then none else some (o ++ [Yoo ⟨k, n, t, s, l⟩ d]))
  else if okS l = true then Y103 Ls l 0 (atS l) d o else none
def Y103 (Ls : List YS) : List YS -> Int -> Int -> Int -> List YC -> Option (List YC)
 | [], _, _, _, o => some o
 | x :: r, i, a, d, o => if i = a then Y103 Ls r (i + 1) a d o else match vrS Ls x (if i + 1 = a then d + 1 else d) o with
  | none => none
  | some o' => Y103 Ls r (i + 1) a d o'
end
theorem Y17q (Ls : List YS) : ∀ l i a d o, Y103 Ls l i a d o = wlk (vrS Ls) l i a d o
 | [], i, a, d, o => by simp [Y103, wlk]
 | x :: r, i, a, d, o => by
  simp only [Y103, wlk, Y17q Ls r]
theorem Ymm (Ls : List YS) (p : YS) (d : Int) (o : List YC) : vrS Ls p d o = if p.kind = 1 then (if Yj1 p = true ∨ Yim Ls p = true then some o else
      if Yhr p = true ∨ 0 <= fnd o p ∨ 3 < d then none else some (o ++ [Yoo p d]))
    else if okS p.items = true then wlk (vrS Ls) p.items 0 (atS p.items) d o else none := by cases p; simp only [vrS, Y17q]
theorem Ys4 (f : YS -> Int -> List YC -> Option (List YC)) : ∀ (l : List YS), (∀ x ∈ l, ∀ d o o', f x d o = some o' -> o'.length <= o.length + Yho x) -> ∀ i a d o o', wlk f l i a d o = some o' -> o'.length <= o.length + Yhe Yho l
 | [], _, i, a, d, o, o', e => by simp only [wlk, Option.some.injEq] at e; subst e; simp [Yhe]
 | x :: r, h, i, a, d, o, o', e => by
  have ih := Ys4 f r fun y hy => h y (List.mem_cons_of_mem _ hy)
  simp only [wlk] at e
  simp only [Yhe]
  split at e
  ·have := ih _ _ _ _ _ e; omega
  ·split at e
   ·cases e
   ·rename_i o1 h1
    have h2 := ih _ _ _ _ _ e
    have h3 := h x List.mem_cons_self _ _ _ h1
    omega
theorem Y1gs (Ls : List YS) : ∀ (p : YS) (d : Int) (o o' : List YC), vrS Ls p d o = some o' -> o'.length <= o.length + Yho p := by
 refine YS.ind fun p ih d o o' e => ?_
 rw [Ymm] at e
 rw [Yid]
 split at e
 ·split at e
  ·simp only [Option.some.injEq] at e; subst e; omega
  ·split at e
   ·cases e
   ·simp only [Option.some.injEq] at e; subst e; simp
 ·split at e
  ·have := Ys4 (vrS Ls) p.items (fun x hx d o o' h => ih x hx d o o' h) _ _ _ _ _ e; omega
  ·cases e
def vaS (Ls : List YS) (p : YS) (d : Int) (o : List YC) (k : Nat) : List YC := if okS p.items = true then (wlk (vrS Ls) (p.items.take k) 0 (atS p.items) d o).getD [] else o
def vbS (Ls : List YS) (p : YS) (d : Int) (o : List YC) (k : Nat) : Bool := okS p.items && (wlk (vrS Ls) (p.items.take k) 0 (atS p.items) d o).isSome
theorem Y1i1 {Ls : List YS} {p : YS} {d : Int} {o : List YC} {k : Nat} (hk : k <= p.items.length) (h : vbS Ls p d o k = false) : vaS Ls p d o k = vaS Ls p d o p.items.length /\ vbS Ls p d o p.items.length = false := by
 unfold vaS vbS at *
 by_cases e : okS p.items = true
 ·rw [e] at h
  cases e2 : wlk (vrS Ls) (p.items.take k) 0 (atS p.items) d o with
  | none => rw [if_pos e, if_pos e, List.take_length, Y142 e2]; simp
  | some v => rw [e2] at h; cases h
 ·have e' : okS p.items = false := by simpa using e
  rw [if_neg e, if_neg e, e']; simp
theorem Y1i6 {Ls : List YS} {p : YS} {d : Int} {o : List YC} {k : Nat} (hk : k < p.items.length) (h : vbS Ls p d o k = true) (e : (k : Int) = atS p.items) : vaS Ls p d o (k + 1) = vaS Ls p d o k /\ vbS Ls p d o (k + 1) = true := by
 unfold vaS vbS at *
 simp only [Bool.and_eq_true] at h
 obtain ⟨v, hv⟩ := Option.isSome_iff_exists.1 h.2
 rw [if_pos h.1, if_pos h.1, Ytk hk hv, if_pos e, hv, h.1]; simp
theorem Y1lj {Ls : List YS} {p : YS} {d : Int} {o : List YC} {k : Nat} (hk : k < p.items.length) (h : vbS Ls p d o k = true) (e : ¬ (k : Int) = atS p.items) :
  vaS Ls p d o (k + 1) = (vrS Ls (p.items.getD k default) (if (k : Int) + 1 = atS p.items then d + 1 else d) (vaS Ls p d o k)).getD [] /\ vbS Ls p d o (k + 1) = (vrS Ls (p.items.getD k default) (if (k : Int) + 1 = atS p.items then d + 1 else d) (vaS Ls p d o k)).isSome := by
 unfold vaS vbS at *
 simp only [Bool.and_eq_true] at h
 obtain ⟨v, hv⟩ := Option.isSome_iff_exists.1 h.2
 rw [if_pos h.1, if_pos h.1, Ytk hk hv, if_neg e, hv, h.1]; simp
theorem Y1jj {Ls : List YS} {p : YS} {d : Int} {o : List YC} {k : Nat} (h : vbS Ls p d o k = true) : (vaS Ls p d o k).length <= o.length + Yhe Yho (p.items.take k) := by
 unfold vaS vbS at *
 simp only [Bool.and_eq_true] at h
 obtain ⟨v, hv⟩ := Option.isSome_iff_exists.1 h.2
 rw [if_pos h.1, hv]
 exact Ys4 (vrS Ls) _ (fun x _ d o o' h => Y1gs Ls x d o o' h) _ _ _ _ _ hv
theorem Y1lw {Ls : List YS} {p : YS} {d : Int} {o : List YC} {k : Nat} (h : vbS Ls p d o k = true) : okS p.items = true := by
 unfold vbS at h; simp only [Bool.and_eq_true] at h; exact h.1
theorem Y1iz (Ls : List YS) (p : YS) (d : Int) (o : List YC) (hk : ¬ p.kind = 1) : (vrS Ls p d o).isSome = vbS Ls p d o p.items.length /\ (vbS Ls p d o p.items.length = true -> (vrS Ls p d o).getD [] = vaS Ls p d o p.items.length) /\ (vbS Ls p d o p.items.length = false -> (vrS Ls p d o).getD [] = []) := by
 rw [Ymm, if_neg hk]
 unfold vaS vbS
 rw [List.take_length]
 by_cases e : okS p.items = true
 ·rw [if_pos e, if_pos e, e]
  cases wlk (vrS Ls) p.items 0 (atS p.items) d o <;> simp
 ·have e' : okS p.items = false := by simpa using e
  rw [if_neg e, if_neg e, e']; simp
theorem Yl6 {p : YS} {k : Nat} (h : k < p.items.length) : Yhe Yho (p.items.take k) + Yho (p.items.getD k default) + 1 <= Yho p /\ wY (p.items.getD k default) <= wY p := by
 have g1 := Yid p
 have g2 := @Yj3 _ _ Yho p.items k h
 have g3 := Yiw Yho p.items (k + 1)
 have g4 := @Yi9 _ wY p.items _ (Yhn h)
 have g5 := Yjc p
 omega
theorem Y168 (o : List YC) (p : YS) (d : Int) : o.map Yhf ++ [[cI p.kind, cI p.number, cS p.text, Cell.list (List.map Yhh p.scopes), Cell.list (List.map Yhd p.items), cI d, cI 0, cI 0, cS (mkS []), Cell.list [], Cell.list [], Cell.list []]] = (o ++ [Yoo p d]).map Yhf :=
 Yhi (C := Yhf) o (Yoo p d)
theorem Y182 (Ls : List YS) (p : YS) (d : Int) (o : List YC) (hk : p.kind = 1) (h : Yj1 p = true ∨ Yim Ls p = true) : vrS Ls p d o = some o := by
 rw [Ymm, if_pos hk, if_pos h]
theorem Yvq (Ls : List YS) (p : YS) (d : Int) (o : List YC) (hk : p.kind = 1) (h : Yj1 p = false) (h2 : Yim Ls p = false) (h3 : Yhr p = true ∨ 0 <= fnd o p ∨ 3 < d) : vrS Ls p d o = none := by
 rw [Ymm, if_pos hk, if_neg (by rw [h, h2]; simp), if_pos h3]
theorem Y18m (Ls : List YS) (p : YS) (d : Int) (o : List YC) (hk : p.kind = 1) (h : Yj1 p = false) (h2 : Yim Ls p = false) (h3 : Yhr p = false) (h4 : fnd o p < 0) (h5 : d <= 3) : vrS Ls p d o = some (o ++ [Yoo p d]) := by
 rw [Ymm, if_pos hk, if_neg (by rw [h, h2]; simp), if_neg (by rw [h3]; simp; omega)]
abbrev Zw (Ls : List YS) (p : YS) (d : Int) (o : List YC) : Ct := ⟨134, [.arr true 12 (o.map Yhf)], [ll (Ls.map Yhd), Yhz p, li d, .one (.ref 0)], [.dead, .arr true 12 (((vrS Ls p d o).getD []).map Yhf)], .tup [.one (.ref 1), lb (vrS Ls p d o).isSome]⟩
def Z41 (Ls : List YS) (p : YS) (d : Int) (o : List YC) : Lp Nat := .mk 84 1 (fun x => [(0, ll (Ls.map Yhd)), (2, li d), (3, .one (.ref 1)), (10,
 li (if okS p.items = true then atS p.items else (-1 : Int))), (11, hs x 1), (53, ll (p.items.map Yhd)), (54, li (↑(p.items.map Yhd).length : Int)), (55, hs x
 0)]) (fun x => [.dead, ho x 2]) (fun k => [.s (li (k : Int)), .s (lb (vbS Ls p d o k)), .o (.arr true 12 ((vaS Ls p d o k).map Yhf))]) (fun k => k <= p.items.length
 /\ p.items.length <= 9223372036854775807) (fun k => p.items.length - k) [.mk True (.exit 0) (fun x => [(3, .one (.ref 1)), (11, hs x 0)]) (fun x => [.dead, ho x 1]) [.s (lb
 (vbS Ls p d o p.items.length)), .o (.arr true 12 ((vaS Ls p d o p.items.length).map Yhf))]]
theorem Zcn (Ls : List YS) (p : YS) (d : Int) (o : List YC) (h : 0 <= d /\ d + (↑(Yi6 p) : Int) <= 1000 /\ wY p <= 1048576 /\ o.length + Yho p <= 2147483647) (ih
 : ∀ (z : YS), z ∈ p.items -> ∀ (Ls : List YS) (d : Int) (o : List YC), 0 <= d /\ d + (↑(Yi6 z) : Int) <= 1000 /\ wY z <= 1048576 /\ o.length + Yho z <= 2147483647 -> OK
 (Zw Ls z d o)) : Lp.Sem Tryz.prog (Yht Tryz.f134 0) (Z41 Ls p d o) := Yi3 (fun k => .i ((k : Int) < (↑(p.items.map Yhd).length : Int)) (.x (k : Int)
 (p.items.map Yhd) (Yhk (p.items.getD k default)) (.b (!vbS Ls p d o k) (.o 0 [0, 1] [.s (lb (vbS Ls p d o k)), .o (.arr true 12 ((vaS Ls p d o
 k).map Yhf))]) (.i ((k : Int) = if okS p.items = true then atS p.items else (-1 : Int)) (.r ((k : Int) + 1) (.g [0, 1] (k + 1) [.s (li ((k : Int) + 1)), .s (lb (vbS Ls p d o k)), .o
 (.arr true 12 ((vaS Ls p d o k).map Yhf))])) (.r ((k : Int) + 1) (.i ((k : Int) + 1 = if okS p.items = true then atS p.items else (-1 : Int)) (.r (d + 1) (.d [.rd,
 .rd, .rd, .own true 12] (Zw Ls (p.items.getD k default) (d + 1) (vaS Ls p d o k)) (.r ((k : Int) + 1) (.g [0, 4] (k + 1) [.s (li ((k : Int) + 1)), .s (lb (vrS Ls
 (p.items.getD k default) (d + 1) (vaS Ls p d o k)).isSome), .o (.arr true 12 (((vrS Ls (p.items.getD k default) (d + 1) (vaS Ls p d o k)).getD []).map Yhf))])))) (.d
 [.rd, .rd, .rd, .own true 12] (Zw Ls (p.items.getD k default) d (vaS Ls p d o k)) (.r ((k : Int) + 1) (.g [0, 4] (k + 1) [.s (li ((k : Int) + 1)), .s (lb (vrS Ls
 (p.items.getD k default) d (vaS Ls p d o k)).isSome), .o (.arr true 12 (((vrS Ls (p.items.getD k default) d (vaS Ls p d o k)).getD []).map Yhf))])))))))) (.o 0 [0, 1]
 [.s (lb (vbS Ls p d o k)), .o (.arr true 12 ((vaS Ls p d o k).map Yhf))])) (by
 intro k h; try dsimp only [Yhj, Yhq, Z41] at h ⊢
 have g1 := @Y1i1 Ls p d o k
 have g2 := @Y1i6 Ls p d o k
 have g3 := @Y1lj Ls p d o k
 have g4 := @Y1jj Ls p d o k
 have g5 := @Y1lw Ls p d o k
 have g6 := @Yl5 p k
 have g7 := @Yl6 p k
 have g8 : k < p.items.length ∨ k = p.items.length ∨ p.items.length < k := by omega
 with_reducible repeat' (first | apply And.intro | exact zR | exact ih | (intro) | apply Z1 | apply ih)
 all_goals ((try simp only [std, inj] at *); with_reducible and_intros)
 all_goals try with_reducible first | apply Z1 | apply ih
 all_goals try first | exact z | grind [Yhn, Yhl, Yhm, Yhi])
theorem Zfr (Ls : List YS) (p : YS) (d : Int) (o : List YC) (h : 0 <= d /\ d + Yi6 p <= 1000 /\ wY p <= 1048576 /\ o.length + Yho p <= 2147483647) (ih : ∀ z ∈
 p.items, ∀ (Ls : List YS) (d : Int) (o : List YC) (h : 0 <= d /\ d + Yi6 z <= 1000 /\ wY z <= 1048576 /\ o.length + Yho z <= 2147483647), Zw Ls z d o)  : Zw Ls
 p d o := Yhv Tryz.call134 Tryz.func134 (.i (p.kind = 1) (.i (p.text.data.toList = [(95 : UInt8)]) (.y true (.w (.ghost (.move 0)) (.f [2] [.dead, .arr true 12 (List.map
 Yhf o)] (.tup [.one (.ref 1), lb true])))) (.c [.rd, .rd] (Z68 Ls p) (.b (Yim Ls p) (.w (.ghost (.move 0)) (.f [2] [.dead, .arr true 12 (o.map Yhf)]
 (.tup [.one (.ref 1), lb true]))) (.c [.rd] (Zc p) (.b (Yhr p) (.y true (.y true (.w (.ghost (.nilreg 8 true 12)) (.w (.ghost (.move 0)) (.f [2] [.dead, .arr
 true 12 []] (.tup [.one (.ref 1), lb false])))))) (.c [.rd, .rd] (Z67 o p) (.i (0 <= fnd o p) (.y true (.w (.ghost (.nilreg 8 true 12)) (.w (.ghost (.move 0)) (.f [2]
 [.dead, .arr true 12 []] (.tup [.one (.ref 1), lb false]))))) (.i (3 < d) (.w (.ghost (.nilreg 8 true 12)) (.w (.ghost (.move 0)) (.f [2] [.dead, .arr true 12 []]
 (.tup [.one (.ref 1), lb false])))) (.d [.rd] (Zb p) (.p (((o.map Yhf).length + 1) * 192 <= 140737488355328) (.f [5] [.dead, .arr true 12 (List.map
 Yhf o ++ [[cI p.kind, cI p.number, cS p.text, .list (p.scopes.map Yhh), .list (p.items.map Yhd), cI d, cI 0, cI 0, cS (ByteArray.mk #[]), .list [],
 .list [], .list []]])] (.tup [.one (.ref 1), lb true])))))))))))) (.c [.rd] (Zgw p.items) (.z Yhd p.items (.w (.ghost (.move 0)) (.l (Z41 Ls p d o)
 (Zcn Ls p d o h ih) [0, 2] [.s (li 0), .s (lb (okS p.items)), .o (.arr true 12 (o.map Yhf))] 0 (.t (.b (!vbS Ls p d o p.items.length) (.w (.ghost (.nilreg 8
 true 12)) (.f [2] [.dead, .arr true 12 []] (.tup [.one (.ref 1), lb false]))) (.f [1] [.dead, .arr true 12 ((vaS Ls p d o p.items.length).map Yhf)] (.tup
 [.one (.ref 1), lb true]))) .q)))))) (by
 dsimp only [Yhj, Zw, Yhq, Z41]
 have g1 := Y1iz Ls p d o
 have g2 := Yid p
 have g3 : Yj1 p = decide (p.text.data.toList = [95]) := rfl
 have g4 := Y182 Ls p d o
 have g5 := Yvq Ls p d o
 have g6 := Y18m Ls p d o
 have g7 : ¬p.kind = 1 -> okS p.items = false -> vbS Ls p d o 0 = false := fun _ h => by unfold vbS; rw [h]; rfl
 have g8 : okS p.items = true -> vbS Ls p d o 0 = true := fun h => by unfold vbS; rw [h]; simp [wlk]
 have g9 : vaS Ls p d o 0 = o := by unfold vaS; split <;> simp [wlk]
 have g10 : okS p.items = vbS Ls p d o 0 := by unfold vbS; simp [wlk]
 have g11 := Y168 o p d
 have g12 : p.kind = 1 -> Yj1 p = false -> Yim Ls p = false -> Yhr p = false -> fnd o p < 0 -> d <= 3 -> (vrS Ls p d o).getD [] = o ++ [Yoo p d] := fun a b c e f g => by rw [g6 a b c e f g]; rfl
 with_reducible repeat' (first | apply And.intro | exact zR | exact ih | (intro) | apply Z1)
 all_goals ((try simp only [std, inj] at *); with_reducible and_intros)
 all_goals try first | with_reducible (first | apply Z1 | apply ih) | (simp only [<- List.map_append]; with_reducible first | apply Z1 | apply ih)
 all_goals (try exact zG))
theorem Z78 (p : YS) : ∀ (Ls : List YS) (d : Int) (o : List YC) (h : 0 <= d /\ d + Yi6 p <= 1000 /\ wY p <= 1048576 /\ o.length + Yho p <= 2147483647), Zw Ls p d o := YS.ind (P := fun p => ∀ (Ls : List YS) (d : Int) (o : List YC) (h : 0 <= d /\ d + Yi6 p <= 1000 /\ wY p <= 1048576 /\ o.length + Yho p <= 2147483647), Zw Ls p d o) (fun p ih Ls d o h => Zfr Ls p d o h ih) p
mutual
def vrI (Ls : List YS) : YS -> Int -> List YC -> Option (List YC)
 | ⟨k, n, t, s, l⟩, d, o => if k = 1 then (if Yhr ⟨k, n, t, s, l⟩ = true then none else if Yj1 ⟨k, n, t, s, l⟩ = true ∨ Yki Ls ⟨k, n, t, s, l⟩ = true then some o else
   if 3 < d then none else if (o.any fun c => Ykx c.name ⟨k, n, t, s, l⟩) = true then none else some (o ++ [Yoo ⟨k, n, t, s, l⟩ d]))
  else if k ≠ 0 then some o else if atI l = 0 then none else Y109 Ls l 0 (atI l) d o
def Y109 (Ls : List YS) : List YS -> Int -> Int -> Int -> List YC -> Option (List YC)
 | [], _, _, _, o => some o
 | x :: r, i, a, d, o => if i = a then Y109 Ls r (i + 1) a d o else match vrI Ls x (if i + 1 = a then d + 1 else d) o with
  | none => none
  | some o' => Y109 Ls r (i + 1) a d o'
end
theorem Y18b (Ls : List YS) : ∀ l i a d o, Y109 Ls l i a d o = wlk (vrI Ls) l i a d o
 | [], i, a, d, o => by simp [Y109, wlk]
 | x :: r, i, a, d, o => by
  simp only [Y109, wlk, Y18b Ls r]
theorem Yn9 (Ls : List YS) (p : YS) (d : Int) (o : List YC) : vrI Ls p d o = if p.kind = 1 then (if Yhr p = true then none else if Yj1 p = true ∨ Yki Ls p = true then some o else
      if 3 < d then none else if (o.any fun c => Ykx c.name p) = true then none else some (o ++ [Yoo p d]))
    else if p.kind ≠ 0 then some o else if atI p.items = 0 then none else wlk (vrI Ls) p.items 0 (atI p.items) d o := by cases p; simp only [vrI, Y18b]
theorem Y1h8 (Ls : List YS) : ∀ (p : YS) (d : Int) (o o' : List YC), vrI Ls p d o = some o' -> o'.length <= o.length + Yho p := by
 refine YS.ind fun p ih d o o' e => ?_
 rw [Yn9] at e
 rw [Yid]
 split at e
 ·split at e
  ·cases e
  ·split at e
   ·simp only [Option.some.injEq] at e; subst e; omega
   ·split at e
    ·cases e
    ·split at e
     ·cases e
     ·simp only [Option.some.injEq] at e; subst e; simp
 ·split at e
  ·simp only [Option.some.injEq] at e; subst e; omega
  ·split at e
   ·cases e
   ·have := Ys4 (vrI Ls) p.items (fun x hx d o o' h => ih x hx d o o' h) _ _ _ _ _ e; omega
def wI (Ls : List YS) (p : YS) (d : Int) (o : List YC) (k : Nat) : Option (List YC) := wlk (vrI Ls) (p.items.take k) 0 (atI p.items) d o
def vaI (Ls : List YS) (p : YS) (d : Int) (o : List YC) (k : Nat) : List YC := (wI Ls p d o k).getD []
def vbI (Ls : List YS) (p : YS) (d : Int) (o : List YC) (k : Nat) : Bool := (wI Ls p d o k).isSome
theorem Y1gl {Ls : List YS} {p : YS} {d : Int} {o : List YC} {k : Nat} (hk : k < p.items.length) (h : vbI Ls p d o k = true) (e : (k : Int) = atI p.items) : vaI Ls p d o (k + 1) = vaI Ls p d o k /\ vbI Ls p d o (k + 1) = true := by
 unfold vaI vbI wI at *
 obtain ⟨v, hv⟩ := Option.isSome_iff_exists.1 h
 rw [Ytk hk hv, if_pos e, hv]; simp
theorem Y1ku {Ls : List YS} {p : YS} {d : Int} {o : List YC} {k : Nat} (hk : k < p.items.length) (h : vbI Ls p d o k = true) (e : ¬ (k : Int) = atI p.items) :
  vaI Ls p d o (k + 1) = (vrI Ls (p.items.getD k default) (if (k : Int) + 1 = atI p.items then d + 1 else d) (vaI Ls p d o k)).getD [] /\ vbI Ls p d o (k + 1) = (vrI Ls (p.items.getD k default) (if (k : Int) + 1 = atI p.items then d + 1 else d) (vaI Ls p d o k)).isSome := by
 unfold vaI vbI wI at *
 obtain ⟨v, hv⟩ := Option.isSome_iff_exists.1 h
 rw [Ytk hk hv, if_neg e, hv]; simp
theorem Y1gi {Ls : List YS} {p : YS} {d : Int} {o : List YC} {k : Nat} (h : vbI Ls p d o k = false) : vbI Ls p d o p.items.length = false := by
 unfold vbI wI at *
 cases e2 : wlk (vrI Ls) (p.items.take k) 0 (atI p.items) d o with
 | none => rw [List.take_length, Y142 e2]; rfl
 | some v => rw [e2] at h; cases h
theorem Y1jw {Ls : List YS} {p : YS} {d : Int} {o : List YC} {k : Nat} (h : vbI Ls p d o k = true) : (vaI Ls p d o k).length <= o.length + Yhe Yho (p.items.take k) := by
 unfold vaI vbI wI at *
 obtain ⟨v, hv⟩ := Option.isSome_iff_exists.1 h
 rw [hv]
 exact Ys4 (vrI Ls) _ (fun x _ d o o' h => Y1h8 Ls x d o o' h) _ _ _ _ _ hv
theorem Y1jr (Ls : List YS) (p : YS) (d : Int) (o : List YC) (hk : ¬ p.kind = 1) (h0 : p.kind = 0) (ha : ¬ atI p.items = 0) : (vrI Ls p d o).isSome = vbI Ls p d o p.items.length /\ (vrI Ls p d o).getD [] = vaI Ls p d o p.items.length := by
 rw [Yn9, if_neg hk, if_neg (by simp [h0]), if_neg ha]
 unfold vaI vbI wI
 rw [List.take_length]; exact ⟨rfl, rfl⟩
theorem Yx3 {Ls : List YS} {p : YS} {d : Int} {o : List YC} (hk : p.kind = 1) (h : Yhr p = true) : vrI Ls p d o = none := by
 rw [Yn9, if_pos hk, if_pos h]
theorem Y17f {Ls : List YS} {p : YS} {d : Int} {o : List YC} (hk : p.kind = 1) (h : Yhr p = false) (h2 : Yj1 p = true ∨ Yki Ls p = true) : vrI Ls p d o = some o := by
 rw [Yn9, if_pos hk, if_neg (by simp [h]), if_pos h2]
theorem Y14x {Ls : List YS} {p : YS} {d : Int} {o : List YC} (hk : p.kind = 1) (h : Yhr p = false) (h2 : Yj1 p = false) (h3 : Yki Ls p = false) (h4 : 3 < d) : vrI Ls p d o = none := by
 rw [Yn9, if_pos hk, if_neg (by simp [h]), if_neg (by simp [h2, h3]), if_pos h4]
theorem Y11s {Ls : List YS} {p : YS} {d : Int} {o : List YC} (hk : p.kind = 1) (h : Yhr p = false) (h2 : Yj1 p = false) (h3 : Yki Ls p = false) (h5 : (o.any fun c => Ykx c.name p) = true) : vrI Ls p d o = none := by
 rw [Yn9, if_pos hk, if_neg (by simp [h]), if_neg (by simp [h2, h3])]
 split
 ·rfl
 ·first | rfl | rw [if_pos h5]
theorem Y18a {Ls : List YS} {p : YS} {d : Int} {o : List YC} (hk : p.kind = 1) (h : Yhr p = false) (h2 : Yj1 p = false) (h3 : Yki Ls p = false) (h4 : d <= 3) (h5 : (o.any fun c => Ykx c.name p) = false) : vrI Ls p d o = some (o ++ [Yoo p d]) := by
 rw [Yn9, if_pos hk, if_neg (by simp [h]), if_neg (by simp [h2, h3]), if_neg (by omega), if_neg (by simp [h5])]
theorem Y10n {Ls : List YS} {p : YS} {d : Int} {o : List YC} (hk : ¬ p.kind = 1) (h0 : ¬ p.kind = 0) : vrI Ls p d o = some o := by
 rw [Yn9, if_neg hk, if_pos h0]
theorem Y11b {Ls : List YS} {p : YS} {d : Int} {o : List YC} (hk : ¬ p.kind = 1) (h0 : p.kind = 0) (ha : atI p.items = 0) : vrI Ls p d o = none := by
 rw [Yn9, if_neg hk, if_neg (by simp [h0]), if_pos ha]
abbrev Zf (Ls : List YS) (p : YS) (d : Int) (o : List YC) : Ct := ⟨189, [.arr true 12 (o.map Yhf)], [ll (Ls.map Yhd), Yhz p, li d, .one (.ref 0)], [.dead, .arr true 12 (((vrI Ls p d o).getD []).map Yhf)], .tup [.one (.ref 1), lb (vrI Ls p d o).isSome]⟩
def Z42 (Ls : List YS) (p : YS) (d : Int) (o : List YC) : Lp Nat := .mk 93 1 (fun x => [(0, ll (Ls.map Yhd)), (2, li d), (3, .one (.ref 1)), (12,
 li (atI p.items)), (63, ll (p.items.map Yhd)), (64, li (↑(p.items.map Yhd).length : Int)), (65, hs x 0)]) (fun x => [.dead, ho x 1]) (fun k => [.s (li (↑k :
 Int)), .o (.arr true 12 ((vaI Ls p d o k).map Yhf))]) (fun k => k <= p.items.length /\ p.items.length <= 9223372036854775807 /\ vbI Ls p d o k = true) (fun k =>
 p.items.length - k) [.mk (vbI Ls p d o p.items.length = true) (.exit 3) (fun x => [(3, .one (.ref 1))]) (fun x => [.dead, ho x 0]) [.o (.arr true 12 (List.map Yhf
 (vaI Ls p d o p.items.length)))], .mk (vbI Ls p d o p.items.length = false) .ret (fun x => [(8, hs x 0), (9, hs x 1)]) (fun x => [.dead]) [.s (.one (.val (.lit
 (.slice none 0 0)))), .s (lb false)]]
def Z43 (Ls : List YS) (p : YS) (d : Int) (o : List YC) : Lp Nat := .mk 93 1 (fun x => [(2, li d), (3, .one (.ref 1)), (5, .one (.ptr 2 0)), (34,
 .one (.ref 1)), (35, li (↑(o.map Yhf).length : Int)), (36, hs x 0)]) (fun x => [.dead, .arr true 12 (o.map Yhf), .box (vals (Yhk p))]) (fun k =>
 [.s (li (k : Int))]) (fun k => k <= o.length /\ o.length <= 9223372036854775807 /\ ((o.take k).any fun c => Ykx c.name p) = false) (fun k => o.length - k) [.mk ((o.any fun c
 => Ykx c.name p) = false) (.exit 1) (fun x => [(2, li d), (3, .one (.ref 1)), (5, .one (.ptr 2 0))]) (fun x => [.dead, .arr true 12 (o.map Yhf), .box
 (vals (Yhk p))]) [], .mk ((o.any fun c => Ykx c.name p) = true) .ret (fun x => [(8, hs x 0), (9, hs x 1)]) (fun x => [.dead]) [.s (.one (.val (.lit (.slice
 none 0 0)))), .s (lb false)]]
theorem Zco (Ls : List YS) (p : YS) (d : Int) (o : List YC) (h : 0 <= d /\ d + (↑(Yi6 p) : Int) <= 1000 /\ wY p <= 1048576 /\ o.length + Yho p <= 2147483647) (ih
 : ∀ (z : YS), z ∈ p.items -> ∀ (Ls : List YS) (d : Int) (o : List YC), 0 <= d /\ d + (↑(Yi6 z) : Int) <= 1000 /\ wY z <= 1048576 /\ o.length + Yho z <= 2147483647 -> OK
 (Zf Ls z d o)) : Lp.Sem Tryz.prog (Yht Tryz.f189 1) (Z42 Ls p d o) := Yi3 (fun k => .i ((k : Int) < (↑(p.items.map Yhd).length : Int)) (.x (k : Int)
 (p.items.map Yhd) (Yhk (p.items.getD k default)) (.i ((k : Int) = atI p.items) (.r ((k : Int) + 1) (.g [0, 1] (k + 1) [.s (li ((k : Int) + 1)), .o (.arr true 12
 ((vaI Ls p d o k).map Yhf))])) (.r ((k : Int) + 1) (.i ((k : Int) + 1 = atI p.items) (.r (d + 1) (.d [.rd, .rd, .rd, .own true 12] (Zf Ls (p.items.getD k
 default) (d + 1) (vaI Ls p d o k)) (.b (!(vrI Ls (p.items.getD k default) (d + 1) (vaI Ls p d o k)).isSome) (.o 1 [0] [.s (.one (.val (.lit (.slice none 0 0)))), .s
 (lb false)]) (.r ((k : Int) + 1) (.g [0, 4] (k + 1) [.s (li ((k : Int) + 1)), .o (.arr true 12 (((vrI Ls (p.items.getD k default) (d + 1) (vaI Ls p d o
 k)).getD []).map Yhf))]))))) (.d [.rd, .rd, .rd, .own true 12] (Zf Ls (p.items.getD k default) d (vaI Ls p d o k)) (.b (!(vrI Ls (p.items.getD k default) d (vaI Ls p d o
 k)).isSome) (.o 1 [0] [.s (.one (.val (.lit (.slice none 0 0)))), .s (lb false)]) (.r ((k : Int) + 1) (.g [0, 4] (k + 1) [.s (li ((k : Int) + 1)), .o (.arr true
 12 (((vrI Ls (p.items.getD k default) d (vaI Ls p d o k)).getD []).map Yhf))])))))))) (.o 0 [0, 1] [.o (.arr true 12 ((vaI Ls p d o k).map Yhf))])) (by
 intro k h; try dsimp only [Yhj, Yhq, Z42] at h ⊢
 have g1 := @Y1gi Ls p d o (k + 1)
 have g2 := @Y1gl Ls p d o k
 have g3 := @Y1ku Ls p d o k
 have g4 := @Y1jw Ls p d o k
 have g6 := @Yl5 p k
 have g7 := @Yl6 p k
 have g8 : k < p.items.length ∨ k = p.items.length ∨ p.items.length < k := by omega
 with_reducible repeat' (first | apply And.intro | exact zR | exact ih | (intro) | apply Z0 | apply Z3 | apply ih)
 all_goals ((try simp only [std, inj] at *); with_reducible and_intros)
 all_goals try with_reducible first | apply Z0 | apply Z3 | apply ih
 all_goals try first | exact z | grind [Yhn, Yhl, Yhm, Yhi])
theorem Zcp (Ls : List YS) (p : YS) (d : Int) (o : List YC) (h : 0 <= d /\ d + (↑(Yi6 p) : Int) <= 1000 /\ wY p <= 1048576 /\ o.length + Yho p <= 2147483647) (ih
 : ∀ (z : YS), z ∈ p.items -> ∀ (Ls : List YS) (d : Int) (o : List YC), 0 <= d /\ d + (↑(Yi6 z) : Int) <= 1000 /\ wY z <= 1048576 /\ o.length + Yho z <= 2147483647 -> OK
 (Zf Ls z d o)) : Lp.Sem Tryz.prog (Yht Tryz.f189 0) (Z43 Ls p d o) := Yi3 (fun k => .i ((k : Int) < (↑(o.map Yhf).length : Int)) (.p (0 <= (k : Int)
 /\ (k : Int).toNat < (o.map Yhf).length) (.w (.cells (Yi1 (o.getD (k : Int).toNat default))) (.p ((o.map Yhf)[(k : Int).toNat]? = some (Yi1 (o.getD
 (k : Int).toNat default))) (.c [.rd, .rd] (Zap (o.getD (k : Int).toNat default).name p) (.b (decide ((o.getD (k : Int).toNat default).name.kind = 1) && decide (p.kind = 1)
 && decide ((o.getD (k : Int).toNat default).name.text = p.text) && decide ((o.getD (k : Int).toNat default).name.scopes = p.scopes)) (.o 1 [0] [.s (.one (.val (.lit
 (.slice none 0 0)))), .s (lb false)]) (.r ((k : Int) + 1) (.g [0, 1, 2] (k + 1) [.s (li ((k : Int) + 1))]))))))) (.o 0 [0, 1, 2] [])) (by
 intro k h; try dsimp only [Yhj, Yhq, Z43] at h ⊢
 have g : k < o.length -> Ykx (o.getD k default).name p = true -> (o.any fun c => Ykx c.name p) = true := fun h1 h2 => by
  rw [List.any_eq_true]; exact ⟨_, Yhn h1, h2⟩
 have g2 : Ykx (o.getD k default).name p = (decide ((o.getD k default).name.kind = 1) && decide (p.kind = 1) && decide ((o.getD k default).name.text = p.text) && decide ((o.getD k default).name.scopes = p.scopes)) := rfl
 with_reducible repeat' (first | apply And.intro | exact zR | exact ih | (intro) | apply Z0 | apply Z3)
 all_goals ((try simp only [std, inj] at *); with_reducible and_intros)
 all_goals try with_reducible first | apply Z0 | apply Z3 | apply ih
 all_goals try first | exact z | grind [Yi2, Yhl, Yhm, Yhi])
theorem Zfs (Ls : List YS) (p : YS) (d : Int) (o : List YC) (h : 0 <= d /\ d + Yi6 p <= 1000 /\ wY p <= 1048576 /\ o.length + Yho p <= 2147483647) (ih : ∀ z ∈
 p.items, ∀ (Ls : List YS) (d : Int) (o : List YC) (h : 0 <= d /\ d + Yi6 z <= 1000 /\ wY z <= 1048576 /\ o.length + Yho z <= 2147483647), Zf Ls z d o)  : Zf Ls
 p d o := Yhv Tryz.call189 Tryz.func189 (.i (p.kind = 1) (.c [.rd] (Z0 p) (.b (Yhr p) (.w (.ghost (.nilreg 8 true 12)) (.w (.ghost (.move 0)) (.f [2] [.dead, .arr true
 12 []] (.tup [.one (.ref 1), lb false])))) (.c [.rd] (Z97 p) (.b (decide (p.kind = 1) && Yj1 p) (.y true (.w (.ghost (.move 0)) (.f [2] [.dead, .arr true 12
 (o.map Yhf)] (.tup [.one (.ref 1), lb true])))) (.c [.rd, .rd] (Zaq Ls p) (.b (Yki Ls p) (.w (.ghost (.move 0)) (.f [2] [.dead, .arr true 12 (List.map
 Yhf o)] (.tup [.one (.ref 1), lb true]))) (.i (3 < d) (.w (.ghost (.nilreg 8 true 12)) (.w (.ghost (.move 0)) (.f [2] [.dead, .arr true 12 []] (.tup [.one
 (.ref 1), lb false])))) (.z Yhf o (.w (.ghost (.move 0)) (.l (Z43 Ls p d o) (Zcp Ls p d o h ih) [0, 2, 1] [.s (li 0)] 0 (.t (.d [.rd] (Zr p) (.p
 (((o.map Yhf).length + 1) * 192 <= 140737488355328) (.f [6] [.dead, .arr true 12 (o.map Yhf ++ [[cI p.kind, cI p.number, cS p.text, .list (List.map Yhh
 p.scopes), .list (p.items.map Yhd), cI d, cI 0, cI 0, cS (ByteArray.mk #[]), .list [], .list [], .list []]])] (.tup [.one (.ref 1), lb true])))) (.t
 (.w (.ghost (.nilreg 8 true 12)) (.f [1] [.dead, .arr true 12 []] (.tup [.one (.ref 1), lb false]))) .q)))))))))))) (.i (p.kind ≠ 0) (.w (.ghost (.move 0)) (.f [2]
 [.dead, .arr true 12 (o.map Yhf)] (.tup [.one (.ref 1), lb true]))) (.c [.rd] (Zca p.items) (.i (atI p.items = 0) (.w (.ghost (.nilreg 8 true 12)) (.w
 (.ghost (.move 0)) (.f [2] [.dead, .arr true 12 []] (.tup [.one (.ref 1), lb false])))) (.z Yhd p.items (.w (.ghost (.move 0)) (.l (Z42 Ls p d o)
 (Zco Ls p d o h ih) [0, 2] [.s (li 0), .o (.arr true 12 (o.map Yhf))] 0 (.t (.f [1] [.dead, .arr true 12 ((vaI Ls p d o
 p.items.length).map Yhf)] (.tup [.one (.ref 1), lb true])) (.t (.w (.ghost (.nilreg 8 true 12)) (.f [1] [.dead, .arr true 12 []] (.tup [.one (.ref 1), lb false])))
 .q))))))))) (by
 dsimp only [Yhj, Zf, Yhq, Z43, Z42]
 have g1 := Y1jr Ls p d o
 have g2 := Yid p
 have g3 := @Yx3 Ls p d o
 have g4 := @Y17f Ls p d o
 have g5 := @Y14x Ls p d o
 have g6 := @Y11s Ls p d o
 have g7 := @Y18a Ls p d o
 have g8 := @Y10n Ls p d o
 have g9 := @Y11b Ls p d o
 have g10 : vbI Ls p d o 0 = true := by unfold vbI wI; simp [wlk]
 have g11 : vaI Ls p d o 0 = o := by unfold vaI wI; simp [wlk]
 have g12 := Y168 o p d
 have g13 : Yj1 p = decide (p.text.data.toList = [95]) := rfl
 have g14 : p.kind = 1 -> Yhr p = false -> Yj1 p = false -> Yki Ls p = false -> d <= 3 -> (o.any fun c => Ykx c.name p) = false -> (vrI Ls p d o).getD [] = o ++ [Yoo p d] := fun a b c e f g => by rw [g7 a b c e f g]; rfl
 have g15 : (vrI Ls p d o).isSome = false -> (vrI Ls p d o).getD [] = [] := fun h => by cases e : vrI Ls p d o <;> simp_all
 with_reducible repeat' (first | apply And.intro | exact zR | exact ih | (intro) | apply Z0 | apply Z3)
 all_goals ((try simp only [std, inj] at *); with_reducible and_intros)
 all_goals try first | with_reducible (first | apply Z0 | apply Z3 | apply ih) | (simp only [<- List.map_append]; with_reducible first | apply Z0 | apply Z3 | apply ih)
 all_goals (try exact zG))
theorem Z98 (p : YS) : ∀ (Ls : List YS) (d : Int) (o : List YC) (h : 0 <= d /\ d + Yi6 p <= 1000 /\ wY p <= 1048576 /\ o.length + Yho p <= 2147483647), Zf Ls p d o := YS.ind (P := fun p => ∀ (Ls : List YS) (d : Int) (o : List YC) (h : 0 <= d /\ d + Yi6 p <= 1000 /\ wY p <= 1048576 /\ o.length + Yho p <= 2147483647), Zf Ls p d o) (fun p ih Ls d o h => Zfs Ls p d o h ih) p
theorem Y114 {Ls : List YS} {p : YS} (hL : ∀ x ∈ Ls, Yke x = true) (hk : p.kind = 1) : Yim Ls p = Yki Ls p := by
 unfold Yim Yki
 rw [Bool.eq_iff_iff]; simp only [List.any_eq_true]
 constructor
 ·rintro ⟨x, hx, e⟩
  have := hL x hx
  simp only [Y107, Bool.and_eq_true, decide_eq_true_eq] at this e
  exact ⟨x, hx, by simp only [Ykx, Bool.and_eq_true, decide_eq_true_eq]; exact ⟨⟨⟨this.1.1.1, hk⟩, e.1⟩, e.2⟩⟩
 ·rintro ⟨x, hx, e⟩
  simp only [Ykx, Bool.and_eq_true, decide_eq_true_eq] at e
  exact ⟨x, hx, by simp only [Bool.and_eq_true, decide_eq_true_eq]; exact ⟨e.1.2, e.2⟩⟩
theorem Y1fl {Ls : List YS} {p : YS} (hL : ∀ x ∈ Ls, Yke x = true) (hd : Yhr p = true) : Yim Ls p = false /\ Yj1 p = false := by
 simp only [Yhr, Bool.and_eq_true, decide_eq_true_eq] at hd
 constructor
 ·unfold Yim; rw [List.any_eq_false]
  intro x hx e
  have := hL x hx
  simp only [Y107, Bool.and_eq_true, decide_eq_true_eq, Bool.not_eq_true', Yhr, Bool.and_eq_false_iff, decide_eq_false_iff_not] at this e
  rcases this.1.2 with h | h
  ·exact h this.1.1.1
  ·exact h (by rw [e.1]; exact hd.2)
 ·unfold Yj1; rw [hd.2]; rfl
theorem Y1i4 {o : List YC} {p : YS} (ho : ∀ x ∈ o, Ylc x.name = true) (hk : p.kind = 1) (hd : Yhr p = false) : (o.any fun c => Ykx c.name p) = true ↔ 0 <= fnd o p := by
 have h1 : Ymd o p < o.length ↔ ∃ x ∈ o, Yl8 p x = true := List.findIdx_lt_length
 have h2 : (o.any fun c => Ykx c.name p) = true ↔ Ymd o p < o.length := by
  rw [h1, List.any_eq_true]
  constructor
  ·rintro ⟨x, hx, e⟩
   refine ⟨x, hx, ?_⟩
   simp only [Ykx, Bool.and_eq_true, decide_eq_true_eq] at e
   simp only [Yl8, Bool.and_eq_true, decide_eq_true_eq]
   exact ⟨⟨e.1.2, e.2⟩, ho x hx⟩
  ·rintro ⟨x, hx, e⟩
   refine ⟨x, hx, ?_⟩
   simp only [Yl8, Ylc, Bool.and_eq_true, decide_eq_true_eq] at e
   simp only [Ykx, Bool.and_eq_true, decide_eq_true_eq]
   exact ⟨⟨⟨e.2.1, hk⟩, e.1.1⟩, e.1.2⟩
 rw [h2]; unfold fnd; rw [hd]
 simp only [true_and]
 split <;> omega
theorem Y19l {α : Type} [Inhabited α] {p : α -> Bool} {L : List α} : ∀ k, k <= L.length -> (∀ j, j < k -> p (L.getD j default) = false) -> k <= L.findIdx p
 | 0, _, _ => Nat.zero_le _
 | k + 1, hk, h => Y17c (by omega) (Y19l k (by omega) fun j hj => h j (by omega)) (h k (by omega))
theorem Yyd (l : List YS) : ∀ k, k <= l.length -> okA l k = true -> (atF l k = -1 /\ ∀ j, j < k -> Yhr (l.getD j default) = false) ∨ ∃ m : Nat, 0 < m /\ m < k /\ atF l k = m /\ Yhr (l.getD m default) = true /\ ∀ j, j < k -> j ≠ m -> Yhr (l.getD j default) = false
 | 0, _, _ => .inl ⟨rfl, fun j h => absurd h (by omega)⟩
 | k + 1, hk, h => by
  simp only [okA, Bool.and_eq_true, Bool.or_eq_true, Bool.not_eq_true', decide_eq_true_eq] at h
  have ih := Yyd l k (by omega) h.1
  cases e : Yhr (l.getD k default) with
  | false =>
   have e2 : atF l (k + 1) = atF l k := by simp only [atF, e]; rfl
   rcases ih with ⟨h1, h2⟩ | ⟨m, h1, h2, h3, h4, h5⟩
   ·exact .inl ⟨by rw [e2]; exact h1, fun j hj => by
     by_cases ej : j = k
     ·rw [ej]; exact e
     ·exact h2 j (by omega)⟩
   ·exact .inr ⟨m, h1, by omega, by rw [e2]; exact h3, h4, fun j hj hm => by
     by_cases ej : j = k
     ·rw [ej]; exact e
     ·exact h5 j (by omega) hm⟩
  | true =>
   have e2 : atF l (k + 1) = (k : Int) := by simp only [atF, e]; rfl
   rcases h.2 with h0 | ⟨h0, h0'⟩
   ·rw [e] at h0; cases h0
   ·rcases ih with ⟨h1, h2⟩ | ⟨m, h1, h2, h3, h4, h5⟩
    ·exact .inr ⟨k, by omega, by omega, e2, e, fun j hj hm => h2 j (by omega)⟩
    ·omega
theorem Y13z {l : List YS} {m : Nat} (hm : m < l.length) (h : Yhr (l.getD m default) = true) (h2 : ∀ j, j < m -> Yhr (l.getD j default) = false) : atI l = m := by
 have := Y1g5 hm (Y19l m (by omega) h2) h
 unfold atI; rw [this, if_pos hm]
theorem Y15c {l : List YS} (h : okS l = true) : atI l = atS l /\ atI l ≠ 0 := by
 rcases Yyd l l.length (Nat.le_refl _) h with ⟨h1, h2⟩ | ⟨m, h1, h2, h3, h4, h5⟩
 ·have := Y19l (p := Yhr) l.length (Nat.le_refl _) h2
  have e : atI l = -1 := by unfold atI; rw [if_neg (by omega)]
  exact ⟨by rw [e]; exact h1.symm, by omega⟩
 ·have e := Y13z h2 h4 fun j hj => h5 j (by omega) (by omega)
  exact ⟨by rw [e]; exact h3.symm, by omega⟩
theorem Y1i3 {l : List YS} (h : okS l = false) : atI l = 0 ∨ ∃ j, j < l.length /\ (j : Int) ≠ atI l /\ Yhr (l.getD j default) = true := by
 have : ∃ k, k < l.length /\ okA l k = true /\ okA l (k + 1) = false := by
  have : ∀ m, m <= l.length -> okA l m = false -> ∃ k, k < m /\ okA l k = true /\ okA l (k + 1) = false := by
   intro m
   induction m with
   | zero => intro _ e; cases e
   | succ m ih =>
    intro hm e
    cases e2 : okA l m with
    | true => exact ⟨m, by omega, e2, e⟩
    | false => obtain ⟨k, h1, h2⟩ := ih (by omega) e2; exact ⟨k, by omega, h2⟩
  obtain ⟨k, h1, h2⟩ := this l.length (Nat.le_refl _) h
  exact ⟨k, h1, h2⟩
 obtain ⟨k, hk, h1, h2⟩ := this
 have hd : Yhr (l.getD k default) = true /\ (k = 0 ∨ 0 <= atF l k) := by
  simp only [okA, h1, Bool.true_and, Bool.or_eq_false_iff, Bool.not_eq_false', Bool.and_eq_false_iff, decide_eq_false_iff_not] at h2
  exact ⟨h2.1, h2.2.elim (fun h => .inl (by omega)) fun h => .inr (by omega)⟩
 rcases hd.2 with e | e
 ·subst e
  exact .inl (Y13z hk hd.1 fun j hj => absurd hj (Nat.not_lt_zero j))
 ·rcases Yyd l k (by omega) h1 with ⟨h3, _⟩ | ⟨m, h3, h4, h5, h6, h7⟩
  ·omega
  ·have e := Y13z (by omega) h6 fun j hj => h7 j (by omega) (by omega)
   exact .inr ⟨k, hk, by omega, hd.1⟩
theorem Y14d {f g : YS -> Int -> List YC -> Option (List YC)} {good : List YC -> Prop} : ∀ (l : List YS), (∀ x ∈ l, ∀ d o, good o -> f x d o = g x d o /\ ∀ o', g x d o = some o' -> good o') -> ∀ i a d o, good o -> wlk f l i a d o = wlk g l i a d o /\ ∀ o', wlk g l i a d o = some o' -> good o'
 | [], _, i, a, d, o, ho => ⟨rfl, fun o' e => by simp only [wlk, Option.some.injEq] at e; subst e; exact ho⟩
 | x :: r, h, i, a, d, o, ho => by
  have ih := Y14d r fun y hy => h y (List.mem_cons_of_mem _ hy)
  simp only [wlk]
  by_cases e : i = a
  ·rw [if_pos e, if_pos e]; exact ih _ _ _ _ ho
  ·rw [if_neg e, if_neg e]
   have hx := h x List.mem_cons_self (if i + 1 = a then d + 1 else d) o ho
   rw [hx.1]
   cases e2 : g x (if i + 1 = a then d + 1 else d) o with
   | none => exact ⟨rfl, fun o' e => by cases e⟩
   | some o1 => exact ih _ _ _ _ (hx.2 o1 e2)
theorem Y16u {f : YS -> Int -> List YC -> Option (List YC)} : ∀ (l : List YS) (j : Nat) (i a d : Int) (o : List YC), j < l.length -> i + (j : Int) ≠ a -> (∀ d o, f (l.getD j default) d o = none) -> wlk f l i a d o = none
 | [], j, _, _, _, _, h, _, _ => absurd h (by simp)
 | x :: r, 0, i, a, d, o, _, h1, h2 => by
  simp only [wlk]
  rw [if_neg (by omega)]
  have := h2 (if i + 1 = a then d + 1 else d) o
  simp only [List.getD_cons_zero] at this
  rw [this]
 | x :: r, j + 1, i, a, d, o, h, h1, h2 => by
  have ih := fun d o => Y16u r j (i + 1) a d o (by simpa using h) (by omega) (by simpa using h2)
  simp only [wlk]
  split
  ·exact ih d o
  ·split
   ·rfl
   ·exact ih d _
theorem Y1fc {p : YS} (h : okY p = true) (hk : p.kind = 1) : Ylc p = true := by
 have hi := Y10h h hk
 simp only [Ylc, Yi7, Bool.and_eq_true, decide_eq_true_eq]
 refine ⟨hk, ⟨?_, ?_⟩, h⟩
 ·rw [Yid, hi]; simp [Yhe]
 ·rw [Yo6, hi]; simp [Yjm]
theorem Y14t {p : YS} (h : okY p = true) (h1 : ¬ p.kind = 1) (h0 : ¬ p.kind = 0) : p.items = [] := by
 rw [Yml] at h
 simp only [Yn1, Yov, Bool.and_eq_true, Bool.or_eq_true, decide_eq_true_eq] at h
 have : p.items.length = 0 := by omega
 exact List.length_eq_zero_iff.1 this
theorem Y177 {Ls : List YS} (hL : ∀ x ∈ Ls, Yke x = true) : ∀ p : YS, okY p = true -> ∀ d o, (∀ x ∈ o, Ylc x.name = true) -> vrI Ls p d o = vrS Ls p d o /\ ∀ o', vrS Ls p d o = some o' -> ∀ x ∈ o', Ylc x.name = true := by
 refine YS.ind fun p ih h d o ho => ?_
 by_cases hk : p.kind = 1
 ·have hn : ∀ x ∈ o ++ [Yoo p d], Ylc x.name = true := by
   intro x hx
   rcases List.mem_append.1 hx with hx | hx
   ·exact ho x hx
   ·rw [List.mem_singleton.1 hx]; exact Y1fc h hk
  cases hd : Yhr p with
  | true =>
   have h1 := Y1fl hL hd
   rw [Yx3 hk hd, Yvq Ls p d o hk h1.2 h1.1 (.inl hd)]
   exact ⟨rfl, fun o' e => by cases e⟩
  | false =>
   have hj := Y114 hL hk
   by_cases h1 : Yj1 p = true ∨ Yim Ls p = true
   ·rw [Y17f hk hd (hj ▸ h1), Y182 Ls p d o hk h1]
    exact ⟨rfl, fun o' e => by simp only [Option.some.injEq] at e; subst e; exact ho⟩
   ·have hu : Yj1 p = false := by cases e : Yj1 p <;> simp_all
    have hI : Yim Ls p = false := by cases e : Yim Ls p <;> simp_all
    have hJ : Yki Ls p = false := by rw [<- hj]; exact hI
    by_cases h3 : 3 < d
    ·rw [Y14x hk hd hu hJ h3, Yvq Ls p d o hk hu hI (.inr (.inr h3))]
     exact ⟨rfl, fun o' e => by cases e⟩
    ·have hf := Y1i4 ho hk hd
     cases h5 : (o.any fun c => Ykx c.name p) with
     | true =>
      rw [Y11s hk hd hu hJ h5, Yvq Ls p d o hk hu hI (.inr (.inl (hf.1 h5)))]
      exact ⟨rfl, fun o' e => by cases e⟩
     | false =>
      have h6 : fnd o p < 0 := by
       by_cases h6 : fnd o p < 0
       ·exact h6
       ·rw [hf.2 (by omega)] at h5; cases h5
      rw [Y18a hk hd hu hJ (by omega) h5, Y18m Ls p d o hk hu hI hd h6 (by omega)]
      exact ⟨rfl, fun o' e => by simp only [Option.some.injEq] at e; subst e; exact hn⟩
 ·by_cases h0 : p.kind = 0
  ·rw [Ymm, if_neg hk]
   cases hs : okS p.items with
   | true =>
    have ha := Y15c hs
    rw [Yn9, if_neg hk, if_neg (by simp [h0]), if_neg ha.2, if_pos rfl, ha.1]
    exact Y14d (good := fun o => ∀ x ∈ o, Ylc x.name = true) p.items (fun x hx d o ho => ih x hx (Yla h x hx) d o ho) _ _ _ _ ho
   | false =>
    refine ⟨?_, fun o' e => by simp at e⟩
    rw [if_neg (by simp)]
    rcases Y1i3 hs with ha | ⟨j, hj, hja, hjd⟩
    ·exact Y11b hk h0 ha
    ·rw [Yn9, if_neg hk, if_neg (by simp [h0])]
     split
     ·rfl
     ·refine Y16u p.items j _ _ _ _ hj (by omega) fun d o => Yx3 ?_ hjd
      simp only [Yhr, Bool.and_eq_true, decide_eq_true_eq] at hjd; exact hjd.1
  ·have hi := Y14t h hk h0
   rw [Y10n hk h0, Ymm, if_neg hk, hi]
   simp only [okS, List.length_nil, okA, if_true, wlk]
   exact ⟨trivial, fun o' e => by simp only [Option.some.injEq] at e; subst e; exact ho⟩
theorem Y1kd {Ls : List YS} {p : YS} (hL : okL Ls = true) (hp : Yi7 p = true) : vrI Ls p 0 [] = vrS Ls p 0 [] := by
 simp only [okL, Bool.and_eq_true, List.all_eq_true] at hL
 simp only [Yi7, Bool.and_eq_true] at hp
 exact (Y177 hL.1 p hp.2 0 [] (fun x hx => by cases hx)).1
abbrev Z9n (Ls : List YS) (p : YS) : Ct := ⟨110, [], [ll (Ls.map Yhd), Yhz p], [.arr true 12 ((if okL Ls = true /\ Yi7 p = true then (vrS Ls p 0 []).getD [] else []).map Yhf)], .tup [.one (.ref 0), lb (okL Ls && Yi7 p && (vrS Ls p 0 []).isSome)]⟩
theorem Za2 (Ls : List YS) (p : YS) (h : wY p <= 1048576)  : Z9n Ls p := Yhv Tryz.call110 Tryz.func110 (.c [.rd] (Ze7 Ls) (.b (!okL Ls) (.y true (.w (.ghost
 (.nilreg 4 true 12)) (.f [1] [.arr true 12 []] (.tup [.one (.ref 0), lb false])))) (.c [.rd] (Z1f p) (.b (!Yi7 p) (.w (.ghost (.nilreg 4 true 12)) (.f [1]
 [.arr true 12 []] (.tup [.one (.ref 0), lb false]))) (.d [.rd, .rd, .rd, .own true 12] (Zf Ls p 0 []) (.f [2] [.arr true 12 (((vrI Ls p 0
 []).getD []).map Yhf)] (.tup [.one (.ref 0), lb (vrI Ls p 0 []).isSome]))))))) (by
 dsimp only [Yhj, Z9n]
 have g : Yi7 p = true -> Yho p <= 2000 /\ Yi6 p <= 40 := fun h => by simp only [Yi7, Bool.and_eq_true, decide_eq_true_eq] at h; exact ⟨h.1.1, h.1.2⟩
 have g2 := @Y1kd Ls p
 with_reducible repeat' (first | apply And.intro | exact zR | (intro) | apply Z98)
 all_goals ((try simp only [std, inj] at *); with_reducible and_intros)
 all_goals try with_reducible first | apply Z98
 all_goals (try exact zG))
set_option maxHeartbeats 4000000
set_option maxRecDepth 20000
def tlY (s : YS) : YS := ⟨0, 0, mkS [], [], s.items.drop 1⟩
theorem Yo3 (s : YS) : Yho s <= wY s + 1 := by
 refine YS.ind (P := fun s => Yho s <= wY s + 1) (fun s ih => ?_) s
 have : ∀ L : List YS, (∀ x ∈ L, Yho x <= wY x + 1) -> Yhe Yho L <= L.length + Yhe wY L := by
  intro L
  induction L with
  | nil => intro _; simp [Yhe]
  | cons x r ihr =>
   intro h
   have h1 := h x List.mem_cons_self
   have h2 := ihr fun y hy => h y (List.mem_cons_of_mem _ hy)
   simp only [Yhe, List.length_cons]; omega
 have h1 := this s.items ih
 have h2 := Yjc s
 rw [Yid]; omega
theorem Y10e {s : YS} (h : Yi7 s = true) : Yi7 (tlY s) = true := by
 simp only [Yi7, Bool.and_eq_true, decide_eq_true_eq] at h ⊢
 have e : s.items = s.items.take 1 ++ s.items.drop 1 := (List.take_append_drop 1 s.items).symm
 have h1 : Yhe Yho s.items = Yhe Yho (s.items.take 1) + Yhe Yho (s.items.drop 1) := by rw [<- Ykw, <- e]
 have h2 : Yjm Yi6 s.items = max (Yjm Yi6 (s.items.take 1)) (Yjm Yi6 (s.items.drop 1)) := by rw [<- Yr4, <- e]
 have h3 := Yid s
 have h4 := Yo6 s
 have h5 := Yla h.2
 refine ⟨⟨?_, ?_⟩, ?_⟩
 ·rw [Yid]; simp only [tlY]; omega
 ·rw [Yo6]; simp only [tlY]; omega
 ·rw [Yml, Bool.and_eq_true, List.all_eq_true]
  refine ⟨fun x hx => h5 x (List.mem_of_mem_drop hx), ?_⟩
  simp [tlY, Yn1, Yov, Ykf, Yll, mkS]
theorem Yvo (s : YS) : wY (tlY s) <= wY s := by
 have e : s.items = s.items.take 1 ++ s.items.drop 1 := (List.take_append_drop 1 s.items).symm
 have h1 : Yhe wY s.items = Yhe wY (s.items.take 1) + Yhe wY (s.items.drop 1) := by rw [<- Ykw, <- e]
 have h2 := Yjc s
 have h3 := Yjc (tlY s)
 have h4 : (tlY s).text.size = 0 := rfl
 have h5 : (s.items.drop 1).length <= s.items.length := by rw [List.length_drop]; omega
 simp only [tlY, List.length_nil] at h3 h4
 rw [tlY]; omega
abbrev Z5a (s : YS) : Ct := ⟨135, [], [Yhz s], [], .sv (.agg [vI 0, vI 0, vS (mkS []), .val (.lit (.slice none 0 0)), vL ((s.items.drop 1).map Yhd)])⟩
theorem Z3q (s : YS) (h : 1 <= s.items.length)  : Z5a s := Yhv Tryz.call135 Tryz.func135 (.p ((0 : Int) <= 1) (.p (1 <= (s.items.map Yhd).length /\ (List.map
 Yhd s.items).length <= (s.items.map Yhd).length /\ ∀ (e : List Cell), e ∈ s.items.map Yhd -> e.length = 5) (.s (.agg [vI 0, vI 0, vS (ByteArray.mk #[]),
 .val (.lit (.slice none 0 0)), vL (List.take ((s.items.map Yhd).length - 1) (List.drop 1 (s.items.map Yhd)))])))) (by
 dsimp only [Yhj, Z5a]
 have e : (s.items.drop 1).take (s.items.length - 1) = s.items.drop 1 := List.take_of_length_le (by rw [List.length_drop]; omega)
 exact zV)
abbrev Z5b (s : YS) : Ct := ⟨146, [], [Yhz s], [], .sv (.agg [vI 0, vI 0, vS (mkS []), .val (.lit (.slice none 0 0)), vL ((s.items.drop 1).map Yhd)])⟩
theorem Z3r (s : YS) (h : 1 <= s.items.length)  : Z5b s := Yhv Tryz.call146 Tryz.func146 (.p ((0 : Int) <= 1) (.p (1 <= (s.items.map Yhd).length /\ (List.map
 Yhd s.items).length <= (s.items.map Yhd).length /\ ∀ (e : List Cell), e ∈ s.items.map Yhd -> e.length = 5) (.s (.agg [vI 0, vI 0, vS (ByteArray.mk #[]),
 .val (.lit (.slice none 0 0)), vL (List.take ((s.items.map Yhd).length - 1) (List.drop 1 (s.items.map Yhd)))])))) (by
 dsimp only [Yhj, Z5b]
 have e : (s.items.drop 1).take (s.items.length - 1) = s.items.drop 1 := List.take_of_length_le (by rw [List.length_drop]; omega)
 exact zV)
abbrev Zs (s : YS) : Ct := ⟨137, [], [Yhz s], [], .sv (li (Yho s))⟩
def Z30 (s : YS) : Lp Nat := .mk 19 0 (fun x => [(3, hs x 1), (7, ll (s.items.map Yhd)), (8, li (↑(s.items.map Yhd).length : Int)), (9, hs x 0)])
 (fun x => []) (fun k => [.s (li (k : Int)), .s (li (↑(1 + Yhe Yho (s.items.take k)) : Int))]) (fun k => k <= s.items.length /\ s.items.length <= 9223372036854775807) (fun k
 => s.items.length - k) [.mk True (.exit 0) (fun x => [(3, hs x 0)]) (fun x => []) [.s (li (↑(1 + Yhe Yho s.items) : Int))]]
theorem Zbq (s : YS) (h : wY s <= 1048576) (ih : ∀ (z : YS), z ∈ s.items -> wY z <= 1048576 -> OK (Zs z)) : Lp.Sem Tryz.prog (Yht Tryz.f137 0)
 (Z30 s) := Yi3 (fun k => .i ((k : Int) < (↑(s.items.map Yhd).length : Int)) (.x (k : Int) (s.items.map Yhd) (Yhk (s.items.getD k default)) (.d
 [.rd] (Zs (s.items.getD k default)) (.r ((↑(1 + Yhe Yho (s.items.take k)) : Int) + (↑(Yho (s.items.getD k default)) : Int)) (.r ((k : Int) + 1) (.g [] (k + 1)
 [.s (li ((k : Int) + 1)), .s (li ((↑(1 + Yhe Yho (s.items.take k)) : Int) + (↑(Yho (s.items.getD k default)) : Int)))]))))) (.o 0 [] [.s (li (↑(1 + Yhe Yho
 (s.items.take k)) : Int))])) (by
 intro k h; try dsimp only [Yhj, Yhq, Z30] at h ⊢
 have g1 := Yjc s
 have g2 := @Yi9 _ wY s.items (s.items.getD k default)
 have g3 := @Yj3 _ _ Yho s.items k
 have g4 := Yiw Yho s.items (k + 1)
 have g5 := Yo3 s
 have g6 := Yid s
 have g7 : s.items.length <= k -> s.items.take k = s.items := fun h => List.take_of_length_le h
 with_reducible repeat' (first | apply And.intro | exact zR | exact ih | (intro) | apply ih)
 all_goals ((try simp only [std, inj] at *); with_reducible and_intros)
 all_goals try with_reducible first | apply ih
 all_goals try first | exact z | grind [Yhn, Yhl, Yhm, Yhi])
theorem Zeu (s : YS) (h : wY s <= 1048576) (ih : ∀ z ∈ s.items, ∀ (h : wY z <= 1048576), Zs z)  : Zs s := Yhv Tryz.call137 Tryz.func137 (.z Yhd s.items
 (.l (Z30 s) (Zbq s h ih) [] [.s (li 0), .s (li 1)] 0 (.t (.s (li (↑(1 + Yhe Yho s.items) : Int))) .q))) (by
 dsimp only [Yhj, Zs, Yhq, Z30]
 have g6 := Yid s
 have g7 : Yhe Yho (s.items.take 0) = 0 := rfl
 with_reducible repeat' (first | apply And.intro | exact zR | exact ih | (intro))
 all_goals ((try simp only [std, inj] at *); with_reducible and_intros)
 all_goals try with_reducible first | apply ih
 all_goals (try exact zG))
theorem Z7l (s : YS) : ∀ (h : wY s <= 1048576), Zs s := YS.ind (P := fun s => ∀ (h : wY s <= 1048576), Zs s) (fun s ih h => Zeu s h ih) s
abbrev Zt (s : YS) : Ct := ⟨148, [], [Yhz s], [], .sv (li (Yho s))⟩
def Z31 (s : YS) : Lp Nat := .mk 19 0 (fun x => [(3, hs x 1), (7, ll (s.items.map Yhd)), (8, li (↑(s.items.map Yhd).length : Int)), (9, hs x 0)])
 (fun x => []) (fun k => [.s (li (k : Int)), .s (li (↑(1 + Yhe Yho (s.items.take k)) : Int))]) (fun k => k <= s.items.length /\ s.items.length <= 9223372036854775807) (fun k
 => s.items.length - k) [.mk True (.exit 0) (fun x => [(3, hs x 0)]) (fun x => []) [.s (li (↑(1 + Yhe Yho s.items) : Int))]]
theorem Zbr (s : YS) (h : wY s <= 1048576) (ih : ∀ (z : YS), z ∈ s.items -> wY z <= 1048576 -> OK (Zt z)) : Lp.Sem Tryz.prog (Yht Tryz.f148 0)
 (Z31 s) := Yi3 (fun k => .i ((k : Int) < (↑(s.items.map Yhd).length : Int)) (.x (k : Int) (s.items.map Yhd) (Yhk (s.items.getD k default)) (.d
 [.rd] (Zt (s.items.getD k default)) (.r ((↑(1 + Yhe Yho (s.items.take k)) : Int) + (↑(Yho (s.items.getD k default)) : Int)) (.r ((k : Int) + 1) (.g [] (k + 1)
 [.s (li ((k : Int) + 1)), .s (li ((↑(1 + Yhe Yho (s.items.take k)) : Int) + (↑(Yho (s.items.getD k default)) : Int)))]))))) (.o 0 [] [.s (li (↑(1 + Yhe Yho
 (s.items.take k)) : Int))])) (by
 intro k h; try dsimp only [Yhj, Yhq, Z31] at h ⊢
 have g1 := Yjc s
 have g2 := @Yi9 _ wY s.items (s.items.getD k default)
 have g3 := @Yj3 _ _ Yho s.items k
 have g4 := Yiw Yho s.items (k + 1)
 have g5 := Yo3 s
 have g6 := Yid s
 have g7 : s.items.length <= k -> s.items.take k = s.items := fun h => List.take_of_length_le h
 with_reducible repeat' (first | apply And.intro | exact zR | exact ih | (intro) | apply ih)
 all_goals ((try simp only [std, inj] at *); with_reducible and_intros)
 all_goals try with_reducible first | apply ih
 all_goals try first | exact z | grind [Yhn, Yhl, Yhm, Yhi])
theorem Zev (s : YS) (h : wY s <= 1048576) (ih : ∀ z ∈ s.items, ∀ (h : wY z <= 1048576), Zt z)  : Zt s := Yhv Tryz.call148 Tryz.func148 (.z Yhd s.items
 (.l (Z31 s) (Zbr s h ih) [] [.s (li 0), .s (li 1)] 0 (.t (.s (li (↑(1 + Yhe Yho s.items) : Int))) .q))) (by
 dsimp only [Yhj, Zt, Yhq, Z31]
 have g6 := Yid s
 have g7 : Yhe Yho (s.items.take 0) = 0 := rfl
 with_reducible repeat' (first | apply And.intro | exact zR | exact ih | (intro))
 all_goals ((try simp only [std, inj] at *); with_reducible and_intros)
 all_goals try with_reducible first | apply ih
 all_goals (try exact zG))
theorem Z7m (s : YS) : ∀ (h : wY s <= 1048576), Zt s := YS.ind (P := fun s => ∀ (h : wY s <= 1048576), Zt s) (fun s ih h => Zev s h ih) s
def clP (Ls : List YS) (p : YS) : Bool := Yi7 p && decide (p.kind = 0) && !decide ((p.items.length : Int) = 0) && decide ((p.items.getD 0 default).kind = 1) && !Yhr (p.items.getD 0 default) && (vrS Ls (tlY p) 0 []).isSome
def clT (Ls : List YS) (p t : YS) : Bool := clP Ls p && tmF ((vrS Ls (tlY p) 0 []).getD []) t
def Ymv (r : YR) : Nat -> Bool
 | 0 => true
 | k + 1 => Ymv r k && clT r.literals (r.patterns.getD k default) (r.templates.getD k default)
def clN (r : YR) : Nat -> Nat
 | 0 => 0
 | k + 1 => clN r k + Yho (r.patterns.getD k default) + Yho (r.templates.getD k default)
theorem Yvv (r : YR) : ∀ (m k : Nat), k <= m -> Ymv r m = true -> Ymv r k = true
 | 0, k, h, _ => by
  obtain rfl : k = 0 := by omega
  rfl
 | m + 1, k, h, ht => by
  by_cases e : k = m + 1
  ·rw [e]; exact ht
  ·refine Yvv r m k (by omega) ?_
   simp only [Ymv, Bool.and_eq_true] at ht; exact ht.1
theorem Y169 (r : YR) : ∀ k, k <= r.patterns.length -> r.patterns.length = r.templates.length -> clN r k <= 2 * k + Yhe wY (r.patterns.take k) + Yhe wY (r.templates.take k)
 | 0, _, _ => by simp [clN, Yhe]
 | k + 1, hk, hl => by
  have ih := Y169 r k (by omega) hl
  have h1 := @Yj3 _ _ wY r.patterns k (by omega)
  have h2 := @Yj3 _ _ wY r.templates k (by omega)
  have h3 := Yo3 (r.patterns.getD k default)
  have h4 := Yo3 (r.templates.getD k default)
  simp only [clN]; omega
def Yks (r : YR) : Bool := okL r.literals && decide ((r.patterns.length : Int) = r.templates.length) && decide (1 <= (r.patterns.length : Int) /\ (r.patterns.length : Int) <= 12) && Ymv r r.patterns.length && decide ((clN r r.patterns.length : Int) <= 2000)
abbrev Z69 (r : YR) : Ct := ⟨63, [], [Ymi r], [], .sv (lb (Yks r))⟩
def Z32 (r : YR) : Lp Nat := .mk 100 0 (fun x => [(1, .one (.ptr 0 0)), (3, hs x 1), (29, ll (r.patterns.map Yhd)), (30, li (↑(List.map Yhd
 r.patterns).length : Int)), (31, hs x 0)]) (fun x => [.box (vals (Yiv r))]) (fun k => [.s (li (k : Int)), .s (li (↑(clN r k) : Int))]) (fun k => k <= r.patterns.length /\
 r.patterns.length <= 9223372036854775807 /\ r.patterns.length = r.templates.length /\ r.patterns.length <= 12 /\ Ymv r k = true) (fun k => r.patterns.length - k) [.mk (Ymv r
 r.patterns.length = true) (.exit 0) (fun x => [(3, hs x 0)]) (fun x => []) [.s (li (↑(clN r r.patterns.length) : Int))], .mk (Ymv r r.patterns.length = false) .ret (fun x => [(2,
 hs x 0)]) (fun x => []) [.s (lb false)]]
theorem Zbs (r : YR) (h : wR r <= 1048576) : Lp.Sem Tryz.prog (Yht Tryz.f63 0) (Z32 r) := Yi3 (fun k => .i ((k : Int) < (↑(List.map Yhd
 r.patterns).length : Int)) (.x (k : Int) (r.patterns.map Yhd) (Yhk (r.patterns.getD k default)) (.c [.rd] (Z20 (r.patterns.getD k default)) (.b (!Yi7
 (r.patterns.getD k default)) (.y true (.y true (.y true (.y true (.o 1 [] [.s (lb false)]))))) (.i ((r.patterns.getD k default).kind ≠ 0) (.y true (.y true (.y true (.o 1 [] [.s
 (lb false)])))) (.z Yhd (r.patterns.getD k default).items (.i ((↑((r.patterns.getD k default).items.map Yhd).length : Int) = 0) (.y true (.y true (.o 1 [] [.s (lb
 false)]))) (.w (.cells (Yhk ((r.patterns.getD k default).items.getD 0 default))) (.p ((0 : Int) <= 0 /\ ((r.patterns.getD k default).items.map Yhd)[0]? = some (Yhk
 ((r.patterns.getD k default).items.getD 0 default))) (.i (((r.patterns.getD k default).items.getD 0 default).kind ≠ 1) (.y true (.o 1 [] [.s (lb false)])) (.w (.cells (Yhk
 ((r.patterns.getD k default).items.getD 0 default))) (.p ((0 : Int) <= 0 /\ ((r.patterns.getD k default).items.map Yhd)[0]? = some (Yhk ((r.patterns.getD k
 default).items.getD 0 default))) (.c [.rd] (Zc ((r.patterns.getD k default).items.getD 0 default)) (.b (Yhr ((r.patterns.getD k default).items.getD 0 default)) (.o 1 []
 [.s (lb false)]) (.w (.draw [(5, [10])]) (.d [.rd] (Z5a (r.patterns.getD k default)) (.w (.bool false) (.d [.rd, .rd, .rd, .own true 12] (Zw r.literals (YS.mk 0 0
 (mkS []) [] (List.drop 1 (r.patterns.getD k default).items)) 0 []) (.b (!(vrS r.literals (YS.mk 0 0 (mkS []) [] (List.drop 1 (r.patterns.getD k default).items)) 0 []).isSome)
 (.y true (.o 1 [] [.s (lb false)])) (.x (k : Int) (r.templates.map Yhd) (Yhk (r.templates.getD k default)) (.c [.rd, .rd] (Zh8 ((vrS r.literals (YS.mk 0 0
 (mkS []) [] (List.drop 1 (r.patterns.getD k default).items)) 0 []).getD []) (r.templates.getD k default)) (.b (!tmF ((vrS r.literals (YS.mk 0 0 (mkS []) [] (List.drop 1
 (r.patterns.getD k default).items)) 0 []).getD []) (r.templates.getD k default)) (.o 1 [] [.s (lb false)]) (.w (.draw []) (.d [.rd] (Zs (r.patterns.getD k default)) (.r
 ((↑(clN r k) : Int) + (↑(Yho (r.patterns.getD k default)) : Int)) (.x (k : Int) (r.templates.map Yhd) (Yhk (r.templates.getD k default)) (.d [.rd] (Zs
 (r.templates.getD k default)) (.r ((↑(clN r k) : Int) + (↑(Yho (r.patterns.getD k default)) : Int) + (↑(Yho (r.templates.getD k default)) : Int)) (.r ((k : Int) + 1) (.g [0]
 (k + 1) [.s (li ((k : Int) + 1)), .s (li ((↑(clN r k) : Int) + (↑(Yho (r.patterns.getD k default)) : Int) + (↑(Yho (r.templates.getD k default)) :
 Int)))]))))))))))))))))))))))))))))) (.o 0 [] [.s (li (↑(clN r k) : Int))])) (by
 intro k h; try dsimp only [Yhj, Yhq, Z32] at h ⊢
 have g1 := Yvv r r.patterns.length (k + 1)
 have g2 : Ymv r (k + 1) = (Ymv r k && clT r.literals (r.patterns.getD k default) (r.templates.getD k default)) := rfl
 have g3 : clN r (k + 1) = clN r k + Yho (r.patterns.getD k default) + Yho (r.templates.getD k default) := rfl
 have g4 := Y169 r (k + 1)
 have g5 := Yiw wY r.patterns (k + 1)
 have g6 := Yiw wY r.templates (k + 1)
 have g7 := Ynv r
 have g8 := @Yi9 _ wY r.patterns (r.patterns.getD k default)
 have g9 := @Yi9 _ wY r.templates (r.templates.getD k default)
 have g10 := @Y10e (r.patterns.getD k default)
 have g11 := Yvo (r.patterns.getD k default)
 have g12 : ∀ p, Yi7 p = true -> Yho p <= 2000 /\ Yi6 p <= 40 := fun p h => by simp only [Yi7, Bool.and_eq_true, decide_eq_true_eq] at h; exact ⟨h.1.1, h.1.2⟩
 with_reducible repeat' (first | apply And.intro | exact zR | (intro) | apply Z3q | apply Z78 | apply Z7l)
 all_goals ((try simp only [std, inj] at *); with_reducible and_intros)
 all_goals try with_reducible first | apply Z3q | apply Z78 | apply Z7l
 all_goals try first | exact z | grind [clT, clP, tlY, Yhn, Yhl, Yhm, Yhi])
theorem Z2m (r : YR) (h : wR r <= 1048576)  : Z69 r := Yhv Tryz.call63 Tryz.func63 (.c [.rd] (Zh2 r.literals) (.b (!okL r.literals) (.y true (.y true (.s (lb
 false)))) (.z Yhd r.patterns (.z Yhd r.templates (.i ((↑(r.patterns.map Yhd).length : Int) ≠ (↑(r.templates.map Yhd).length : Int)) (.y true (.s (lb
 false))) (.z Yhd r.patterns (.c [.rd, .rd, .rd] (Z1k (↑(r.patterns.map Yhd).length : Int) 1 12) (.b (!decide (1 <= (↑(r.patterns.map Yhd).length : Int) /\
 (↑(r.patterns.map Yhd).length : Int) <= 12)) (.s (lb false)) (.z Yhd r.patterns (.l (Z32 r) (Zbs r h) [0] [.s (li 0), .s (li 0)] 0 (.t (.s (lb
 (decide ((↑(clN r r.patterns.length) : Int) <= 2000)))) (.t (.s (lb false)) .q)))))))))))) (by
 dsimp only [Yhj, Z69, Yhq, Z32]
 with_reducible repeat' (first | apply And.intro | exact zR | (intro) | apply Z3q | apply Z78 | apply Z7l)
 all_goals ((try simp only [std, inj] at *); with_reducible and_intros)
 all_goals try with_reducible first | apply Z3q | apply Z78 | apply Z7l
 all_goals try first | exact z | grind [Yks, Ymv, clN, Yhl, Yhm, Yhi])
abbrev Z6a (r : YR) : Ct := ⟨74, [], [Ymi r], [], .sv (lb (Yks r))⟩
def Z33 (r : YR) : Lp Nat := .mk 104 0 (fun x => [(1, .one (.ptr 0 0)), (3, hs x 1), (34, ll (r.patterns.map Yhd)), (35, li (↑(List.map Yhd
 r.patterns).length : Int)), (36, hs x 0)]) (fun x => [.box (vals (Yiv r))]) (fun k => [.s (li (k : Int)), .s (li (↑(clN r k) : Int))]) (fun k => k <= r.patterns.length /\
 r.patterns.length <= 9223372036854775807 /\ r.patterns.length = r.templates.length /\ r.patterns.length <= 12 /\ Ymv r k = true /\ okL r.literals = true) (fun k => r.patterns.length -
 k) [.mk (Ymv r r.patterns.length = true) (.exit 0) (fun x => [(3, hs x 0)]) (fun x => []) [.s (li (↑(clN r r.patterns.length) : Int))], .mk (Ymv r r.patterns.length = false)
 .ret (fun x => [(2, hs x 0)]) (fun x => []) [.s (lb false)]]
theorem Zbt (r : YR) (h : wR r <= 1048576) : Lp.Sem Tryz.prog (Yht Tryz.f74 0) (Z33 r) := Yi3 (fun k => .i ((k : Int) < (↑(List.map Yhd
 r.patterns).length : Int)) (.x (k : Int) (r.patterns.map Yhd) (Yhk (r.patterns.getD k default)) (.c [.rd] (Z1f (r.patterns.getD k default)) (.b (!Yi7
 (r.patterns.getD k default)) (.y true (.y true (.y true (.y true (.o 1 [] [.s (lb false)]))))) (.i ((r.patterns.getD k default).kind ≠ 0) (.y true (.y true (.y true (.o 1 [] [.s
 (lb false)])))) (.z Yhd (r.patterns.getD k default).items (.i ((↑((r.patterns.getD k default).items.map Yhd).length : Int) = 0) (.y true (.y true (.o 1 [] [.s (lb
 false)]))) (.w (.cells (Yhk ((r.patterns.getD k default).items.getD 0 default))) (.p ((0 : Int) <= 0 /\ ((r.patterns.getD k default).items.map Yhd)[0]? = some (Yhk
 ((r.patterns.getD k default).items.getD 0 default))) (.i (((r.patterns.getD k default).items.getD 0 default).kind ≠ 1) (.y true (.o 1 [] [.s (lb false)])) (.w (.cells (Yhk
 ((r.patterns.getD k default).items.getD 0 default))) (.p ((0 : Int) <= 0 /\ ((r.patterns.getD k default).items.map Yhd)[0]? = some (Yhk ((r.patterns.getD k
 default).items.getD 0 default))) (.c [.rd] (Z0 ((r.patterns.getD k default).items.getD 0 default)) (.b (Yhr ((r.patterns.getD k default).items.getD 0 default)) (.o 1 []
 [.s (lb false)]) (.w (.draw []) (.d [.rd] (Z5b (r.patterns.getD k default)) (.d [.rd, .rd] (Z9n r.literals (YS.mk 0 0 (mkS []) [] (List.drop 1 (r.patterns.getD k
 default).items))) (.b (!(okL r.literals && Yi7 (YS.mk 0 0 (mkS []) [] (List.drop 1 (r.patterns.getD k default).items)) && (vrS r.literals (YS.mk 0 0 (mkS []) []
 (List.drop 1 (r.patterns.getD k default).items)) 0 []).isSome)) (.y true (.o 1 [] [.s (lb false)])) (.x (k : Int) (r.templates.map Yhd) (Yhk (r.templates.getD k
 default)) (.c [.rd, .rd] (Zh9 (if okL r.literals = true /\ Yi7 (YS.mk 0 0 (mkS []) [] (List.drop 1 (r.patterns.getD k default).items)) = true then (vrS r.literals
 (YS.mk 0 0 (mkS []) [] (List.drop 1 (r.patterns.getD k default).items)) 0 []).getD [] else []) (r.templates.getD k default)) (.b (!tmF (if okL r.literals = true /\ Yi7
 (YS.mk 0 0 (mkS []) [] (List.drop 1 (r.patterns.getD k default).items)) = true then (vrS r.literals (YS.mk 0 0 (mkS []) [] (List.drop 1 (r.patterns.getD k default).items))
 0 []).getD [] else []) (r.templates.getD k default)) (.o 1 [] [.s (lb false)]) (.w (.draw []) (.d [.rd] (Zt (r.patterns.getD k default)) (.x (k : Int) (List.map Yhd
 r.templates) (Yhk (r.templates.getD k default)) (.d [.rd] (Zt (r.templates.getD k default)) (.r ((↑(Yho (r.patterns.getD k default)) : Int) + (↑(Yho
 (r.templates.getD k default)) : Int)) (.r ((↑(clN r k) : Int) + ((↑(Yho (r.patterns.getD k default)) : Int) + (↑(Yho (r.templates.getD k default)) : Int))) (.r ((k : Int) +
 1) (.g [0] (k + 1) [.s (li ((k : Int) + 1)), .s (li ((↑(clN r k) : Int) + ((↑(Yho (r.patterns.getD k default)) : Int) + (↑(Yho (r.templates.getD k default)) :
 Int))))])))))))))))))))))))))))))))) (.o 0 [] [.s (li (↑(clN r k) : Int))])) (by
 intro k h; try dsimp only [Yhj, Yhq, Z33] at h ⊢
 have g1 := Yvv r r.patterns.length (k + 1)
 have g2 : Ymv r (k + 1) = (Ymv r k && clT r.literals (r.patterns.getD k default) (r.templates.getD k default)) := rfl
 have g3 : clN r (k + 1) = clN r k + Yho (r.patterns.getD k default) + Yho (r.templates.getD k default) := rfl
 have g4 := Y169 r (k + 1)
 have g5 := Yiw wY r.patterns (k + 1)
 have g6 := Yiw wY r.templates (k + 1)
 have g7 := Ynv r
 have g8 := @Yi9 _ wY r.patterns (r.patterns.getD k default)
 have g9 := @Yi9 _ wY r.templates (r.templates.getD k default)
 have g10 := @Y10e (r.patterns.getD k default)
 have g11 := Yvo (r.patterns.getD k default)
 have g12 : ∀ p, Yi7 p = true -> Yho p <= 2000 /\ Yi6 p <= 40 := fun p h => by simp only [Yi7, Bool.and_eq_true, decide_eq_true_eq] at h; exact ⟨h.1.1, h.1.2⟩
 with_reducible repeat' (first | apply And.intro | exact zR | (intro) | apply Z0 | apply Z3r | apply Za2 | apply Z7m)
 all_goals ((try simp only [std, inj] at *); with_reducible and_intros)
 all_goals try with_reducible first | apply Z0 | apply Z3r | apply Za2 | apply Z7m
 all_goals try first | exact z | grind [clT, clP, tlY, Yhn, Yhl, Yhm, Yhi])
theorem Z2n (r : YR) (h : wR r <= 1048576)  : Z6a r := Yhv Tryz.call74 Tryz.func74 (.c [.rd] (Ze7 r.literals) (.b (!okL r.literals) (.y true (.y true (.y true
 (.s (lb false))))) (.z Yhd r.patterns (.z Yhd r.templates (.i ((↑(r.patterns.map Yhd).length : Int) ≠ (↑(r.templates.map Yhd).length : Int)) (.y true (.y
 true (.s (lb false)))) (.z Yhd r.patterns (.i ((↑(r.patterns.map Yhd).length : Int) < 1) (.y true (.s (lb false))) (.z Yhd r.patterns (.i (12 < (↑(List.map
 Yhd r.patterns).length : Int)) (.s (lb false)) (.z Yhd r.patterns (.l (Z33 r) (Zbt r h) [0] [.s (li 0), .s (li 0)] 0 (.t (.s (lb (decide ((↑(clN r
 r.patterns.length) : Int) <= 2000)))) (.t (.s (lb false)) .q))))))))))))) (by
 dsimp only [Yhj, Z6a, Yhq, Z33]
 with_reducible repeat' (first | apply And.intro | exact zR | (intro) | apply Z0 | apply Z3r | apply Za2 | apply Z7m)
 all_goals ((try simp only [std, inj] at *); with_reducible and_intros)
 all_goals try with_reducible first | apply Z0 | apply Z3r | apply Za2 | apply Z7m
 all_goals try first | exact z | grind [Yks, Ymv, clN, Yhl, Yhm, Yhi])
set_option maxHeartbeats 4000000
def Yr9 : List ByteArray := [mkS [113, 117, 111, 116, 101], mkS [108, 97, 109, 98, 100, 97], mkS [105, 102], mkS [115, 101, 116, 33], mkS [98, 101, 103, 105, 110], mkS [114, 101, 115, 101, 116], mkS [115, 104, 105, 102, 116], mkS [100, 101, 102, 105, 110, 101], mkS [100, 101, 102, 105, 110, 101, 45, 115, 121, 110, 116, 97, 120], mkS [108, 101, 116, 45, 115, 121, 110, 116, 97, 120], mkS [115, 121, 110, 116, 97, 120, 45, 114, 117, 108, 101, 115], mkS [108, 111, 99, 97, 108]]
def Yre : List ByteArray := [mkS [43], mkS [45], mkS [42], mkS [61], mkS [60], mkS [99, 111, 110, 115], mkS [99, 97, 114], mkS [99, 100, 114], mkS [110, 117, 108, 108, 63], mkS [112, 97, 105, 114, 63], mkS [110, 117, 109, 98, 101, 114, 63], mkS [101, 113, 63], mkS [110, 111, 116], mkS [100, 105, 115, 112, 108, 97, 121]]
abbrev Z79  : Ct := ⟨244, [], [], [.arr true 1 (Yr9.map Yr1)], .sv (.one (.ref 0))⟩
theorem Zcq   : Z79 := Yhv Tryz.call244 Tryz.func244 (.f [0] [.arr true 1 [[cS (ByteArray.mk #[(113 : UInt8), (117 : UInt8), (111 : UInt8), (116 : UInt8), (101
 : UInt8)])], [cS (ByteArray.mk #[(108 : UInt8), (97 : UInt8), (109 : UInt8), (98 : UInt8), (100 : UInt8), (97 : UInt8)])], [cS (ByteArray.mk #[(105 : UInt8), (102 : UInt8)])], [cS
 (ByteArray.mk #[(115 : UInt8), (101 : UInt8), (116 : UInt8), (33 : UInt8)])], [cS (ByteArray.mk #[(98 : UInt8), (101 : UInt8), (103 : UInt8), (105 : UInt8), (110 : UInt8)])], [cS
 (ByteArray.mk #[(114 : UInt8), (101 : UInt8), (115 : UInt8), (101 : UInt8), (116 : UInt8)])], [cS (ByteArray.mk #[(115 : UInt8), (104 : UInt8), (105 : UInt8), (102 : UInt8), (116
 : UInt8)])], [cS (ByteArray.mk #[(100 : UInt8), (101 : UInt8), (102 : UInt8), (105 : UInt8), (110 : UInt8), (101 : UInt8)])], [cS (ByteArray.mk #[(100 : UInt8), (101 : UInt8),
 (102 : UInt8), (105 : UInt8), (110 : UInt8), (101 : UInt8), (45 : UInt8), (115 : UInt8), (121 : UInt8), (110 : UInt8), (116 : UInt8), (97 : UInt8), (120 : UInt8)])], [cS
 (ByteArray.mk #[(108 : UInt8), (101 : UInt8), (116 : UInt8), (45 : UInt8), (115 : UInt8), (121 : UInt8), (110 : UInt8), (116 : UInt8), (97 : UInt8), (120 : UInt8)])], [cS
 (ByteArray.mk #[(115 : UInt8), (121 : UInt8), (110 : UInt8), (116 : UInt8), (97 : UInt8), (120 : UInt8), (45 : UInt8), (114 : UInt8), (117 : UInt8), (108 : UInt8), (101 : UInt8),
 (115 : UInt8)])], [cS (ByteArray.mk #[(108 : UInt8), (111 : UInt8), (99 : UInt8), (97 : UInt8), (108 : UInt8)])]]] (.sv (.one (.ref 0)))) (by
 dsimp only [Yhj, Z79]
 with_reducible repeat' (first | apply And.intro | exact zR | (intro))
 all_goals ((try simp only [std, inj] at *); with_reducible and_intros)
 all_goals (try exact zG)
 all_goals rfl)
abbrev Z48  : Ct := ⟨245, [], [], [.arr true 1 (Yre.map Yr1)], .sv (.one (.ref 0))⟩
theorem Z99   : Z48 := Yhv Tryz.call245 Tryz.func245 (.f [0] [.arr true 1 [[cS (ByteArray.mk #[(43 : UInt8)])], [cS (ByteArray.mk #[(45 : UInt8)])],
 [cS (ByteArray.mk #[(42 : UInt8)])], [cS (ByteArray.mk #[(61 : UInt8)])], [cS (ByteArray.mk #[(60 : UInt8)])], [cS (ByteArray.mk #[(99 : UInt8), (111 : UInt8), (110 : UInt8), (115
 : UInt8)])], [cS (ByteArray.mk #[(99 : UInt8), (97 : UInt8), (114 : UInt8)])], [cS (ByteArray.mk #[(99 : UInt8), (100 : UInt8), (114 : UInt8)])], [cS (ByteArray.mk #[(110 :
 UInt8), (117 : UInt8), (108 : UInt8), (108 : UInt8), (63 : UInt8)])], [cS (ByteArray.mk #[(112 : UInt8), (97 : UInt8), (105 : UInt8), (114 : UInt8), (63 : UInt8)])], [cS
 (ByteArray.mk #[(110 : UInt8), (117 : UInt8), (109 : UInt8), (98 : UInt8), (101 : UInt8), (114 : UInt8), (63 : UInt8)])], [cS (ByteArray.mk #[(101 : UInt8), (113 : UInt8), (63 :
 UInt8)])], [cS (ByteArray.mk #[(110 : UInt8), (111 : UInt8), (116 : UInt8)])], [cS (ByteArray.mk #[(100 : UInt8), (105 : UInt8), (115 : UInt8), (112 : UInt8), (108 : UInt8), (97 :
 UInt8), (121 : UInt8)])]]] (.sv (.one (.ref 0)))) (by
 dsimp only [Yhj, Z48]
 with_reducible repeat' (first | apply And.intro | exact zR | (intro))
 all_goals ((try simp only [std, inj] at *); with_reducible and_intros)
 all_goals (try exact zG)
 all_goals rfl)
abbrev Z7a  : Ct := ⟨253, [], [], [.arr true 1 (Yr9.map Yr1)], .sv (.one (.ref 0))⟩
theorem Zcr   : Z7a := Yhv Tryz.call253 Tryz.func253 (.f [0] [.arr true 1 [[cS (ByteArray.mk #[(113 : UInt8), (117 : UInt8), (111 : UInt8), (116 : UInt8), (101
 : UInt8)])], [cS (ByteArray.mk #[(108 : UInt8), (97 : UInt8), (109 : UInt8), (98 : UInt8), (100 : UInt8), (97 : UInt8)])], [cS (ByteArray.mk #[(105 : UInt8), (102 : UInt8)])], [cS
 (ByteArray.mk #[(115 : UInt8), (101 : UInt8), (116 : UInt8), (33 : UInt8)])], [cS (ByteArray.mk #[(98 : UInt8), (101 : UInt8), (103 : UInt8), (105 : UInt8), (110 : UInt8)])], [cS
 (ByteArray.mk #[(114 : UInt8), (101 : UInt8), (115 : UInt8), (101 : UInt8), (116 : UInt8)])], [cS (ByteArray.mk #[(115 : UInt8), (104 : UInt8), (105 : UInt8), (102 : UInt8), (116
 : UInt8)])], [cS (ByteArray.mk #[(100 : UInt8), (101 : UInt8), (102 : UInt8), (105 : UInt8), (110 : UInt8), (101 : UInt8)])], [cS (ByteArray.mk #[(100 : UInt8), (101 : UInt8),
 (102 : UInt8), (105 : UInt8), (110 : UInt8), (101 : UInt8), (45 : UInt8), (115 : UInt8), (121 : UInt8), (110 : UInt8), (116 : UInt8), (97 : UInt8), (120 : UInt8)])], [cS
 (ByteArray.mk #[(108 : UInt8), (101 : UInt8), (116 : UInt8), (45 : UInt8), (115 : UInt8), (121 : UInt8), (110 : UInt8), (116 : UInt8), (97 : UInt8), (120 : UInt8)])], [cS
 (ByteArray.mk #[(115 : UInt8), (121 : UInt8), (110 : UInt8), (116 : UInt8), (97 : UInt8), (120 : UInt8), (45 : UInt8), (114 : UInt8), (117 : UInt8), (108 : UInt8), (101 : UInt8),
 (115 : UInt8)])], [cS (ByteArray.mk #[(108 : UInt8), (111 : UInt8), (99 : UInt8), (97 : UInt8), (108 : UInt8)])]]] (.sv (.one (.ref 0)))) (by
 dsimp only [Yhj, Z7a]
 with_reducible repeat' (first | apply And.intro | exact zR | (intro))
 all_goals ((try simp only [std, inj] at *); with_reducible and_intros)
 all_goals (try exact zG)
 all_goals rfl)
abbrev Z49  : Ct := ⟨254, [], [], [.arr true 1 (Yre.map Yr1)], .sv (.one (.ref 0))⟩
theorem Z9a   : Z49 := Yhv Tryz.call254 Tryz.func254 (.f [0] [.arr true 1 [[cS (ByteArray.mk #[(43 : UInt8)])], [cS (ByteArray.mk #[(45 : UInt8)])],
 [cS (ByteArray.mk #[(42 : UInt8)])], [cS (ByteArray.mk #[(61 : UInt8)])], [cS (ByteArray.mk #[(60 : UInt8)])], [cS (ByteArray.mk #[(99 : UInt8), (111 : UInt8), (110 : UInt8), (115
 : UInt8)])], [cS (ByteArray.mk #[(99 : UInt8), (97 : UInt8), (114 : UInt8)])], [cS (ByteArray.mk #[(99 : UInt8), (100 : UInt8), (114 : UInt8)])], [cS (ByteArray.mk #[(110 :
 UInt8), (117 : UInt8), (108 : UInt8), (108 : UInt8), (63 : UInt8)])], [cS (ByteArray.mk #[(112 : UInt8), (97 : UInt8), (105 : UInt8), (114 : UInt8), (63 : UInt8)])], [cS
 (ByteArray.mk #[(110 : UInt8), (117 : UInt8), (109 : UInt8), (98 : UInt8), (101 : UInt8), (114 : UInt8), (63 : UInt8)])], [cS (ByteArray.mk #[(101 : UInt8), (113 : UInt8), (63 :
 UInt8)])], [cS (ByteArray.mk #[(110 : UInt8), (111 : UInt8), (116 : UInt8)])], [cS (ByteArray.mk #[(100 : UInt8), (105 : UInt8), (115 : UInt8), (112 : UInt8), (108 : UInt8), (97 :
 UInt8), (121 : UInt8)])]]] (.sv (.one (.ref 0)))) (by
 dsimp only [Yhj, Z49]
 with_reducible repeat' (first | apply And.intro | exact zR | (intro))
 all_goals ((try simp only [std, inj] at *); with_reducible and_intros)
 all_goals (try exact zG)
 all_goals rfl)
end Go.Proofs.YtpnaoendfpaodaaGreat
end
