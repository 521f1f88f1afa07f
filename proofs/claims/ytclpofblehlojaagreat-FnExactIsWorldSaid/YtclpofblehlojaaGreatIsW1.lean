/- Part 1 of the proof: The program's IsWorld returns what the reference's returns, for all arguments. No condition. -/
import Derived.Test.YtclpofblehlojaaGreatQ5
section
namespace Go.Proofs.YtclpofblehlojaaGreat
open Go Go.Proofs.YtclpofblehlojaaGreat.Ab
set_option linter.unusedVariables false
set_option linter.unusedSimpArgs false
set_option maxHeartbeats 4000000
theorem all_stop {L : List UInt8} {p : UInt8 → Bool} {k : Nat} (h : k < L.length) (hp : p (L.getD k 0) = false) : L.all p = false := by
  rw [List.all_eq_false]
  have e : L.getD k 0 = L[k] := by simp [h]
  exact ⟨L[k], List.getElem_mem h, by rw [← e, hp]; decide⟩
theorem all_go {L : List UInt8} {p : UInt8 → Bool} {k : Nat} (h : k < L.length) (hp : p (L.getD k 0) = true) (ht : (L.take k).all p = true) : (L.take (k + 1)).all p = true := by
  rw [take0 h, List.all_append, ht, List.all_cons, hp]; rfl
theorem all_all {L : List UInt8} {p : UInt8 → Bool} {k : Nat} (h : L.length ≤ k) (ht : (L.take k).all p = true) : L.all p = true := by
  rwa [List.take_of_length_le h] at ht
def lu (n : Int) : SV := .one (.val (.lit (.int .u8 n)))
def isDig (n : Int) : Bool := decide (48 ≤ n ∧ n ≤ 57)
def markI : List Int := [33, 63, 42, 60, 62, 61, 47, 43, 45, 46, 95]
def isMk (n : Int) : Bool := decide (97 ≤ n ∧ n ≤ 122) || isDig n || decide (n ∈ markI)
theorem mark_at {k : Nat} (h : k < 11) : ((([33, 63, 42, 60, 62, 61, 47, 43, 45, 46, 95] : List UInt8).getD k 0).toNat : Int) = markI.getD k default := by
  have : ∀ k, k < 11 → ((([33, 63, 42, 60, 62, 61, 47, 43, 45, 46, 95] : List UInt8).getD k 0).toNat : Int) = markI.getD k default := by decide
  exact this k h
def isStB (n : Int) : Bool := decide (32 ≤ n ∧ n ≤ 126 ∧ n ≠ 34)
def isSym (s : ByteArray) : Bool := decide (1 ≤ (s.size : Int) ∧ (s.size : Int) ≤ 16) && !isDig (s.data.toList.getD 0 0).toNat && !(decide (((s.data.toList.getD 0 0).toNat : Int) = 45) && decide (1 < (s.size : Int)) && isDig (s.data.toList.getD 1 0).toNat) && s.data.toList.all fun b => isMk b.toNat
def isStr (s : ByteArray) : Bool := decide ((s.size : Int) ≤ 20) && s.data.toList.all fun b => isStB b.toNat
abbrev P_c_sDigit (n : Int) : Ct := ⟨187, [], [lu n], [], .sv (lb (isDig n))⟩
theorem c_sDigit (n : Int)  : P_c_sDigit n := fnOK Tryz.call187 Tryz.func187 (.i (48 ≤ n) (.s (lb (decide (n ≤ 57)))) (.s (lb false))) (by
  dsimp only [teasy, P_c_sDigit]
  with_reducible repeat' (first | apply And.intro | exact zR | (intro; skip))
  all_goals (try simp only [std, inj] at *)
  all_goals with_reducible repeat' apply And.intro
  all_goals (try (first | exact z | grind [isDig, snocI, snocS, rowSnoc])))
abbrev P_c_iDigit (n : Int) : Ct := ⟨147, [], [lu n], [], .sv (lb (isDig n))⟩
theorem c_iDigit (n : Int)  : P_c_iDigit n := fnOK Tryz.call147 Tryz.func147 (.i (48 ≤ n) (.s (lb (decide (n ≤ 57)))) (.s (lb false))) (by
  dsimp only [teasy, P_c_iDigit]
  with_reducible repeat' (first | apply And.intro | exact zR | (intro; skip))
  all_goals (try simp only [std, inj] at *)
  all_goals with_reducible repeat' apply And.intro
  all_goals (try (first | exact z | grind [isDig, snocI, snocS, rowSnoc])))
abbrev P_c_sMark (n : Int) : Ct := ⟨188, [], [lu n], [], .sv (lb (isMk n))⟩
def lc_sMarkLa (n : Int) : Lp Nat := .mk 26 0 (fun x => [(0, SV.one (AC.val (Cell.lit (Value.int IntKind.u8 n)))), (3, ls (ByteArray.mk #[(33 : UInt8), (63 : UInt8), (42 : UInt8),
 (60 : UInt8), (62 : UInt8), (61 : UInt8), (47 : UInt8), (43 : UInt8), (45 : UInt8), (46 : UInt8), (95 : UInt8)])), (4, hs x 0)]) (fun x => []) (fun k => [.s (li (↑k : Int))]) (fun
 k => k ≤ 11 ∧ ¬n ∈ List.take k markI) (fun k => 11 - k) [.mk (decide (n ∈ markI) = false) (.exit 0) (fun x => []) (fun x => []) [], .mk (decide (n ∈ markI) = true) .ret (fun x =>
 [(2, hs x 0)]) (fun x => []) [.s (lb true)]]
theorem Sc_sMarkLa (n : Int) : Lp.Sem Tryz.prog (loopAt Tryz.f188 0) (lc_sMarkLa n) := lpOK (fun k => .h (11 ≤ 9223372036854775807) (.i ((↑k : Int) < 11) (.p (0 ≤ (↑k : Int) ∧ (↑k
 : Int).toNat < 11) (.i ((↑([(33 : UInt8), (63 : UInt8), (42 : UInt8), (60 : UInt8), (62 : UInt8), (61 : UInt8), (47 : UInt8), (43 : UInt8), (45 : UInt8), (46 : UInt8), (95 :
 UInt8)].getD (↑k : Int).toNat (0 : UInt8)).toNat : Int) = n) (.o 1 [] [.s (lb true)]) (.r ((↑k : Int) + 1) (.g [] (k + 1) [.s (li ((↑k : Int) + 1))])))) (.o 0 [] []))) (by
  intro k h; try dsimp only [teasy, nthW, lc_sMarkLa] at h ⊢
  have g := @mark_at k
  have e : markI.length = 11 := rfl
  have e2 : markI.take 11 = markI := rfl
  with_reducible repeat' (first | apply And.intro | exact zR | (intro; skip))
  all_goals (try simp only [std, inj] at *)
  all_goals with_reducible repeat' apply And.intro
  all_goals (try (first | exact z | grind [take_get, getD_mem', snocI, snocS, rowSnoc])))
theorem c_sMark (n : Int)  : P_c_sMark n := fnOK Tryz.call188 Tryz.func188 (.i (97 ≤ n) (.i (n ≤ 122) (.y true (.s (lb true))) (.c [.rd] (c_sDigit n) (.b (isDig n) (.s (lb true)) (.l
 (lc_sMarkLa n) (Sc_sMarkLa n) [] [.s (li 0)] 0 (.t (.s (lb false)) (.t (.s (lb true)) .q)))))) (.y false (.c [.rd] (c_sDigit n) (.b (isDig n) (.s (lb true)) (.l (lc_sMarkLa n)
 (Sc_sMarkLa n) [] [.s (li 0)] 0 (.t (.s (lb false)) (.t (.s (lb true)) .q))))))) (by
  dsimp only [teasy, P_c_sMark, nthW, lc_sMarkLa]
  with_reducible repeat' (first | apply And.intro | exact zR | (intro; skip))
  all_goals (try simp only [std, inj] at *)
  all_goals with_reducible repeat' apply And.intro
  all_goals (try (first | exact z | grind [isMk, snocI, snocS, rowSnoc])))
abbrev P_c_iMark (n : Int) : Ct := ⟨148, [], [lu n], [], .sv (lb (isMk n))⟩
theorem c_iMark (n : Int)  : P_c_iMark n := fnOK Tryz.call148 Tryz.func148 (.i (97 ≤ n) (.i (n ≤ 122) (.y true (.s (lb true))) (.i (48 ≤ n) (.i (n ≤ 57) (.s (lb true)) (.i (n = 33)
 (.y true (.s (lb true))) (.i (n = 63) (.y true (.s (lb true))) (.i (n = 42) (.y true (.s (lb true))) (.i (n = 60) (.y true (.s (lb true))) (.i (n = 62) (.y true (.s (lb true)))
 (.i (n = 61) (.y true (.s (lb true))) (.i (n = 47) (.y true (.s (lb true))) (.i (n = 43) (.y true (.s (lb true))) (.i (n = 45) (.y true (.s (lb true))) (.i (n = 46) (.y true (.s
 (lb true))) (.i (n = 95) (.s (lb true)) (.s (lb false)))))))))))))) (.y false (.i (n = 33) (.y true (.s (lb true))) (.i (n = 63) (.y true (.s (lb true))) (.i (n = 42) (.y true (.s
 (lb true))) (.i (n = 60) (.y true (.s (lb true))) (.i (n = 62) (.y true (.s (lb true))) (.i (n = 61) (.y true (.s (lb true))) (.i (n = 47) (.y true (.s (lb true))) (.i (n = 43)
 (.y true (.s (lb true))) (.i (n = 45) (.y true (.s (lb true))) (.i (n = 46) (.y true (.s (lb true))) (.i (n = 95) (.s (lb true)) (.s (lb false)))))))))))))))) (.y false (.i (48 ≤
 n) (.i (n ≤ 57) (.s (lb true)) (.i (n = 33) (.y true (.s (lb true))) (.i (n = 63) (.y true (.s (lb true))) (.i (n = 42) (.y true (.s (lb true))) (.i (n = 60) (.y true (.s (lb
 true))) (.i (n = 62) (.y true (.s (lb true))) (.i (n = 61) (.y true (.s (lb true))) (.i (n = 47) (.y true (.s (lb true))) (.i (n = 43) (.y true (.s (lb true))) (.i (n = 45) (.y
 true (.s (lb true))) (.i (n = 46) (.y true (.s (lb true))) (.i (n = 95) (.s (lb true)) (.s (lb false)))))))))))))) (.y false (.i (n = 33) (.y true (.s (lb true))) (.i (n = 63) (.y
 true (.s (lb true))) (.i (n = 42) (.y true (.s (lb true))) (.i (n = 60) (.y true (.s (lb true))) (.i (n = 62) (.y true (.s (lb true))) (.i (n = 61) (.y true (.s (lb true))) (.i (n
 = 47) (.y true (.s (lb true))) (.i (n = 43) (.y true (.s (lb true))) (.i (n = 45) (.y true (.s (lb true))) (.i (n = 46) (.y true (.s (lb true))) (.i (n = 95) (.s (lb true)) (.s
 (lb false))))))))))))))))) (by
  dsimp only [teasy, P_c_iMark]
  with_reducible repeat' (first | apply And.intro | exact zR | (intro; skip))
  all_goals (try simp only [std, inj] at *)
  all_goals with_reducible repeat' apply And.intro
  all_goals (try (first | exact z | grind [snocI, snocS, rowSnoc]))
  all_goals (symm; simp only [isMk, isDig, markI, List.mem_cons, List.not_mem_nil, Bool.or_eq_true, Bool.or_eq_false_iff, decide_eq_true_eq, decide_eq_false_iff_not, or_false]; omega))
abbrev P_c_l1In (x : Int) (a : Int) (b : Int) : Ct := ⟨112, [], [li x, li a, li b], [], .sv (lb (decide (a ≤ x ∧ x ≤ b)))⟩
theorem c_l1In (x a b : Int)  : P_c_l1In x a b := fnOK Tryz.call112 Tryz.func112 (.i (a ≤ x) (.s (lb (decide (x ≤ b)))) (.s (lb false))) (by
  dsimp only [teasy, P_c_l1In]
  with_reducible repeat' (first | apply And.intro | exact zR | (intro; skip))
  all_goals (try simp only [std, inj] at *)
  all_goals with_reducible repeat' apply And.intro
  all_goals (try (first | exact z | grind [snocI, snocS, rowSnoc])))
abbrev P_c_sIsSymbol (s : ByteArray) : Ct := ⟨133, [], [ls s], [], .sv (lb (isSym s))⟩
def lc_sIsSymbolLa (s : ByteArray) : Lp Nat := .mk 39 0 (fun x => [(0, ls s), (3, hs x 0)]) (fun x => []) (fun k => [.s (li (↑k : Int))]) (fun k => k ≤ s.size ∧ s.size ≤ 16 ∧
 ((List.take k s.data.toList).all fun b => isMk (↑b.toNat : Int)) = true) (fun k => s.size - k) [.mk ((s.data.toList.all fun b => isMk (↑b.toNat : Int)) = true) (.exit 0) (fun x =>
 []) (fun x => []) [], .mk ((s.data.toList.all fun b => isMk (↑b.toNat : Int)) = false) .ret (fun x => [(2, hs x 0)]) (fun x => []) [.s (lb false)]]
theorem Sc_sIsSymbolLa (s : ByteArray) : Lp.Sem Tryz.prog (loopAt Tryz.f133 0) (lc_sIsSymbolLa s) := lpOK (fun k => .h (s.data.toList.length ≤ 9223372036854775807) (.i ((↑k : Int)
 < (↑s.data.toList.length : Int)) (.p (0 ≤ (↑k : Int) ∧ (↑k : Int).toNat < s.data.toList.length) (.c [.rd] (c_sMark (↑(s.data.toList.getD (↑k : Int).toNat (0 : UInt8)).toNat :
 Int)) (.b (!isMk (↑(s.data.toList.getD (↑k : Int).toNat (0 : UInt8)).toNat : Int)) (.o 1 [] [.s (lb false)]) (.r ((↑k : Int) + 1) (.g [] (k + 1) [.s (li ((↑k : Int) + 1))])))))
 (.o 0 [] []))) (by
  intro k h; try dsimp only [teasy, nthW, lc_sIsSymbolLa] at h ⊢
  have g1 := @all_stop s.data.toList (fun b => isMk b.toNat) k
  have g2 := @all_go s.data.toList (fun b => isMk b.toNat) k
  have g3 := @all_all s.data.toList (fun b => isMk b.toNat) k
  with_reducible repeat' (first | apply And.intro | exact zR | (intro; skip))
  all_goals (try simp only [std, inj] at *)
  all_goals with_reducible repeat' apply And.intro
  all_goals (try (first | exact z | grind [snocI, snocS, rowSnoc])))
theorem c_sIsSymbol (s : ByteArray)  : P_c_sIsSymbol s := fnOK Tryz.call133 Tryz.func133 (.h (s.data.toList.length ≤ 9223372036854775807) (.c [.rd, .rd, .rd] (c_l1In
 (↑s.data.toList.length : Int) 1 16) (.b (!decide (1 ≤ (↑s.data.toList.length : Int) ∧ (↑s.data.toList.length : Int) ≤ 16)) (.y true (.y true (.s (lb false)))) (.p ((0 : Int) ≤ 0 ∧
 0 < s.data.toList.length) (.c [.rd] (c_sDigit (↑(s.data.toList.getD 0 (0 : UInt8)).toNat : Int)) (.b (isDig (↑(s.data.toList.getD 0 (0 : UInt8)).toNat : Int)) (.y true (.s (lb
 false))) (.p ((0 : Int) ≤ 0 ∧ 0 < s.data.toList.length) (.i ((↑(s.data.toList.getD 0 (0 : UInt8)).toNat : Int) = 45) (.h (s.data.toList.length ≤ 9223372036854775807) (.i (1 <
 (↑s.data.toList.length : Int)) (.p ((0 : Int) ≤ 1 ∧ 1 < s.data.toList.length) (.c [.rd] (c_sDigit (↑(s.data.toList.getD 1 (0 : UInt8)).toNat : Int)) (.b (isDig
 (↑(s.data.toList.getD 1 (0 : UInt8)).toNat : Int)) (.s (lb false)) (.l (lc_sIsSymbolLa s) (Sc_sIsSymbolLa s) [] [.s (li 0)] 0 (.t (.s (lb true)) (.t (.s (lb false)) .q)))))) (.y
 false (.l (lc_sIsSymbolLa s) (Sc_sIsSymbolLa s) [] [.s (li 0)] 0 (.t (.s (lb true)) (.t (.s (lb false)) .q)))))) (.y false (.y false (.l (lc_sIsSymbolLa s) (Sc_sIsSymbolLa s) []
 [.s (li 0)] 0 (.t (.s (lb true)) (.t (.s (lb false)) .q))))))))))))) (by
  dsimp only [teasy, P_c_sIsSymbol, nthW, lc_sIsSymbolLa]
  with_reducible repeat' (first | apply And.intro | exact zR | (intro; skip))
  all_goals (try simp only [std, inj] at *)
  all_goals with_reducible repeat' apply And.intro
  all_goals (try (first | exact z | grind [isSym, snocI, snocS, rowSnoc])))
abbrev P_c_iIsSymbol (s : ByteArray) : Ct := ⟨70, [], [ls s], [], .sv (lb (isSym s))⟩
def lc_iIsSymbolLa (s : ByteArray) : Lp Nat := .mk 43 0 (fun x => [(0, ls s), (3, hs x 0)]) (fun x => []) (fun k => [.s (li (↑k : Int))]) (fun k => k ≤ s.size ∧ s.size ≤ 16 ∧
 ((List.take k s.data.toList).all fun b => isMk (↑b.toNat : Int)) = true) (fun k => s.size - k) [.mk ((s.data.toList.all fun b => isMk (↑b.toNat : Int)) = true) (.exit 0) (fun x =>
 []) (fun x => []) [], .mk ((s.data.toList.all fun b => isMk (↑b.toNat : Int)) = false) .ret (fun x => [(2, hs x 0)]) (fun x => []) [.s (lb false)]]
theorem Sc_iIsSymbolLa (s : ByteArray) : Lp.Sem Tryz.prog (loopAt Tryz.f70 0) (lc_iIsSymbolLa s) := lpOK (fun k => .h (s.data.toList.length ≤ 9223372036854775807) (.i ((↑k : Int) <
 (↑s.data.toList.length : Int)) (.p (0 ≤ (↑k : Int) ∧ (↑k : Int).toNat < s.data.toList.length) (.c [.rd] (c_iMark (↑(s.data.toList.getD (↑k : Int).toNat (0 : UInt8)).toNat : Int))
 (.b (!isMk (↑(s.data.toList.getD (↑k : Int).toNat (0 : UInt8)).toNat : Int)) (.o 1 [] [.s (lb false)]) (.r ((↑k : Int) + 1) (.g [] (k + 1) [.s (li ((↑k : Int) + 1))]))))) (.o 0 []
 []))) (by
  intro k h; try dsimp only [teasy, nthW, lc_iIsSymbolLa] at h ⊢
  have g1 := @all_stop s.data.toList (fun b => isMk b.toNat) k
  have g2 := @all_go s.data.toList (fun b => isMk b.toNat) k
  have g3 := @all_all s.data.toList (fun b => isMk b.toNat) k
  with_reducible repeat' (first | apply And.intro | exact zR | (intro; skip))
  all_goals (try simp only [std, inj] at *)
  all_goals with_reducible repeat' apply And.intro
  all_goals (try (first | exact z | grind [snocI, snocS, rowSnoc])))
theorem c_iIsSymbol (s : ByteArray)  : P_c_iIsSymbol s := fnOK Tryz.call70 Tryz.func70 (.h (s.data.toList.length ≤ 9223372036854775807) (.i ((↑s.data.toList.length : Int) < 1) (.y
 true (.y true (.y true (.s (lb false))))) (.h (s.data.toList.length ≤ 9223372036854775807) (.i (16 < (↑s.data.toList.length : Int)) (.y true (.y true (.s (lb false)))) (.p ((0 :
 Int) ≤ 0 ∧ 0 < s.data.toList.length) (.c [.rd] (c_iDigit (↑(s.data.toList.getD 0 (0 : UInt8)).toNat : Int)) (.b (isDig (↑(s.data.toList.getD 0 (0 : UInt8)).toNat : Int)) (.y true
 (.s (lb false))) (.p ((0 : Int) ≤ 0 ∧ 0 < s.data.toList.length) (.i ((↑(s.data.toList.getD 0 (0 : UInt8)).toNat : Int) = 45) (.h (s.data.toList.length ≤ 9223372036854775807) (.i
 (1 < (↑s.data.toList.length : Int)) (.p ((0 : Int) ≤ 1 ∧ 1 < s.data.toList.length) (.c [.rd] (c_iDigit (↑(s.data.toList.getD 1 (0 : UInt8)).toNat : Int)) (.b (isDig
 (↑(s.data.toList.getD 1 (0 : UInt8)).toNat : Int)) (.s (lb false)) (.l (lc_iIsSymbolLa s) (Sc_iIsSymbolLa s) [] [.s (li 0)] 0 (.t (.s (lb true)) (.t (.s (lb false)) .q)))))) (.y
 false (.l (lc_iIsSymbolLa s) (Sc_iIsSymbolLa s) [] [.s (li 0)] 0 (.t (.s (lb true)) (.t (.s (lb false)) .q)))))) (.y false (.y false (.l (lc_iIsSymbolLa s) (Sc_iIsSymbolLa s) []
 [.s (li 0)] 0 (.t (.s (lb true)) (.t (.s (lb false)) .q)))))))))))))) (by
  dsimp only [teasy, P_c_iIsSymbol, nthW, lc_iIsSymbolLa]
  with_reducible repeat' (first | apply And.intro | exact zR | (intro; skip))
  all_goals (try simp only [std, inj] at *)
  all_goals with_reducible repeat' apply And.intro
  all_goals (try (first | exact z | grind [isSym, snocI, snocS, rowSnoc])))
abbrev P_c_sString (s : ByteArray) : Ct := ⟨204, [], [ls s], [], .sv (lb (isStr s))⟩
def lc_sStringLa (s : ByteArray) : Lp Nat := .mk 29 0 (fun x => [(0, ls s), (3, hs x 0)]) (fun x => []) (fun k => [.s (li (↑k : Int))]) (fun k => k ≤ s.size ∧ ((List.take k
 s.data.toList).all fun b => isStB (↑b.toNat : Int)) = true) (fun k => s.size - k) [.mk ((s.data.toList.all fun b => isStB (↑b.toNat : Int)) = true) (.exit 0) (fun x => [(0, ls
 s)]) (fun x => []) [], .mk ((s.data.toList.all fun b => isStB (↑b.toNat : Int)) = false) .ret (fun x => [(2, hs x 0)]) (fun x => []) [.s (lb false)]]
theorem Sc_sStringLa (s : ByteArray) : Lp.Sem Tryz.prog (loopAt Tryz.f204 0) (lc_sStringLa s) := lpOK (fun k => .h (s.data.toList.length ≤ 9223372036854775807) (.i ((↑k : Int) <
 (↑s.data.toList.length : Int)) (.p (0 ≤ (↑k : Int) ∧ (↑k : Int).toNat < s.data.toList.length) (.i ((↑(s.data.toList.getD (↑k : Int).toNat (0 : UInt8)).toNat : Int) < 32) (.y true
 (.y true (.o 1 [] [.s (lb false)]))) (.p (0 ≤ (↑k : Int) ∧ (↑k : Int).toNat < s.data.toList.length) (.i (126 < (↑(s.data.toList.getD (↑k : Int).toNat (0 : UInt8)).toNat : Int))
 (.y true (.o 1 [] [.s (lb false)])) (.p (0 ≤ (↑k : Int) ∧ (↑k : Int).toNat < s.data.toList.length) (.i ((↑(s.data.toList.getD (↑k : Int).toNat (0 : UInt8)).toNat : Int) = 34) (.o
 1 [] [.s (lb false)]) (.r ((↑k : Int) + 1) (.g [] (k + 1) [.s (li ((↑k : Int) + 1))])))))))) (.o 0 [] []))) (by
  intro k h; try dsimp only [teasy, nthW, lc_sStringLa] at h ⊢
  have g1 := @all_stop s.data.toList (fun b => isStB b.toNat) k
  have g2 := @all_go s.data.toList (fun b => isStB b.toNat) k
  have g3 := @all_all s.data.toList (fun b => isStB b.toNat) k
  with_reducible repeat' (first | apply And.intro | exact zR | (intro; skip))
  all_goals (try simp only [std, inj] at *)
  all_goals with_reducible repeat' apply And.intro
  all_goals (try (first | exact z | grind [isStB, snocI, snocS, rowSnoc])))
theorem c_sString (s : ByteArray)  : P_c_sString s := fnOK Tryz.call204 Tryz.func204 (.l (lc_sStringLa s) (Sc_sStringLa s) [] [.s (li 0)] 0 (.t (.h (s.data.toList.length ≤
 9223372036854775807) (.s (lb (decide ((↑s.data.toList.length : Int) ≤ 20))))) (.t (.s (lb false)) .q))) (by
  dsimp only [teasy, P_c_sString, nthW, lc_sStringLa]
  with_reducible repeat' (first | apply And.intro | exact zR | (intro; skip))
  all_goals (try simp only [std, inj] at *)
  all_goals with_reducible repeat' apply And.intro
  all_goals (try (first | exact z | grind [isStr, snocI, snocS, rowSnoc])))
abbrev P_c_iString (s : ByteArray) : Ct := ⟨176, [], [ls s], [], .sv (lb (isStr s))⟩
def lc_iStringLa (s : ByteArray) : Lp Nat := .mk 29 0 (fun x => [(0, ls s), (3, hs x 0)]) (fun x => []) (fun k => [.s (li (↑k : Int))]) (fun k => k ≤ s.size ∧ ((List.take k
 s.data.toList).all fun b => isStB (↑b.toNat : Int)) = true) (fun k => s.size - k) [.mk ((s.data.toList.all fun b => isStB (↑b.toNat : Int)) = true) (.exit 0) (fun x => []) (fun x
 => []) [], .mk ((s.data.toList.all fun b => isStB (↑b.toNat : Int)) = false) .ret (fun x => [(2, hs x 0)]) (fun x => []) [.s (lb false)]]
theorem Sc_iStringLa (s : ByteArray) : Lp.Sem Tryz.prog (loopAt Tryz.f176 0) (lc_iStringLa s) := lpOK (fun k => .h (s.data.toList.length ≤ 9223372036854775807) (.i ((↑k : Int) <
 (↑s.data.toList.length : Int)) (.p (0 ≤ (↑k : Int) ∧ (↑k : Int).toNat < s.data.toList.length) (.i ((↑(s.data.toList.getD (↑k : Int).toNat (0 : UInt8)).toNat : Int) < 32) (.y true
 (.y true (.o 1 [] [.s (lb false)]))) (.p (0 ≤ (↑k : Int) ∧ (↑k : Int).toNat < s.data.toList.length) (.i (126 < (↑(s.data.toList.getD (↑k : Int).toNat (0 : UInt8)).toNat : Int))
 (.y true (.o 1 [] [.s (lb false)])) (.p (0 ≤ (↑k : Int) ∧ (↑k : Int).toNat < s.data.toList.length) (.i ((↑(s.data.toList.getD (↑k : Int).toNat (0 : UInt8)).toNat : Int) = 34) (.o
 1 [] [.s (lb false)]) (.r ((↑k : Int) + 1) (.g [] (k + 1) [.s (li ((↑k : Int) + 1))])))))))) (.o 0 [] []))) (by
  intro k h; try dsimp only [teasy, nthW, lc_iStringLa] at h ⊢
  have g1 := @all_stop s.data.toList (fun b => isStB b.toNat) k
  have g2 := @all_go s.data.toList (fun b => isStB b.toNat) k
  have g3 := @all_all s.data.toList (fun b => isStB b.toNat) k
  with_reducible repeat' (first | apply And.intro | exact zR | (intro; skip))
  all_goals (try simp only [std, inj] at *)
  all_goals with_reducible repeat' apply And.intro
  all_goals (try (first | exact z | grind [isStB, snocI, snocS, rowSnoc])))
theorem c_iString (s : ByteArray)  : P_c_iString s := fnOK Tryz.call176 Tryz.func176 (.h (s.data.toList.length ≤ 9223372036854775807) (.i (20 < (↑s.data.toList.length : Int)) (.s (lb
 false)) (.l (lc_iStringLa s) (Sc_iStringLa s) [] [.s (li 0)] 0 (.t (.s (lb true)) (.t (.s (lb false)) .q))))) (by
  dsimp only [teasy, P_c_iString, nthW, lc_iStringLa]
  with_reducible repeat' (first | apply And.intro | exact zR | (intro; skip))
  all_goals (try simp only [std, inj] at *)
  all_goals with_reducible repeat' apply And.intro
  all_goals (try (first | exact z | grind [isStr, snocI, snocS, rowSnoc])))
def isNam (s : ByteArray) : Bool := isSym s && decide ((s.size : Int) ≤ 8)
abbrev P_c_sNam (s : ByteArray) : Ct := ⟨184, [], [ls s], [], .sv (lb (isNam s))⟩
theorem c_sNam (s : ByteArray)  : P_c_sNam s := fnOK Tryz.call184 Tryz.func184 (.h (s.data.toList.length ≤ 9223372036854775807) (.i ((↑s.data.toList.length : Int) ≤ 8) (.c [.rd]
 (c_sIsSymbol s) (.s (lb (isSym s)))) (.s (lb false)))) (by
  dsimp only [teasy, P_c_sNam]
  with_reducible repeat' (first | apply And.intro | exact zR | (intro; skip))
  all_goals (try simp only [std, inj] at *)
  all_goals with_reducible repeat' apply And.intro
  all_goals (try (first | exact z | grind [isNam, snocI, snocS, rowSnoc])))
abbrev P_c_iNam (s : ByteArray) : Ct := ⟨194, [], [ls s], [], .sv (lb (isNam s))⟩
theorem c_iNam (s : ByteArray)  : P_c_iNam s := fnOK Tryz.call194 Tryz.func194 (.c [.rd] (c_iIsSymbol s) (.b (isSym s) (.h (s.data.toList.length ≤ 9223372036854775807) (.s (lb
 (decide ((↑s.data.toList.length : Int) ≤ 8))))) (.s (lb false)))) (by
  dsimp only [teasy, P_c_iNam]
  with_reducible repeat' (first | apply And.intro | exact zR | (intro; skip))
  all_goals (try simp only [std, inj] at *)
  all_goals with_reducible repeat' apply And.intro
  all_goals (try (first | exact z | grind [isNam, snocI, snocS, rowSnoc])))
def nodD (k n : Int) (t : ByteArray) (i : Int) : Bool := decide (k = 0 ∧ n = 0 ∧ t.data.toList = []) || decide (k = 1 ∧ n = 0 ∧ isSym t = true ∧ i = 0) || decide (k = 2 ∧ -999999999 ≤ n ∧ n ≤ 999999999 ∧ t.data.toList = [] ∧ i = 0) || decide (k = 3 ∧ 0 ≤ n ∧ n ≤ 1 ∧ t.data.toList = [] ∧ i = 0) || decide (k = 4 ∧ n = 0 ∧ isStr t = true ∧ i = 0)
abbrev P_c_sNode (k : Int) (n : Int) (t : ByteArray) (i : Int) : Ct := ⟨169, [], [li k, li n, ls t, li i], [], .sv (lb (nodD k n t i))⟩
theorem c_sNode (k n : Int) (t : ByteArray) (i : Int)  : P_c_sNode k n t i := fnOK Tryz.call169 Tryz.func169 (.i (k = 0) (.i (n = 0) (.s (lb (decide (t.data.toList = [])))) (.s (lb
 false))) (.i (k = 1) (.i (n = 0) (.c [.rd] (c_sIsSymbol t) (.b (isSym t) (.s (lb (decide (i = 0)))) (.s (lb false)))) (.y false (.s (lb false)))) (.i (k = 2) (.c [.rd, .rd, .rd]
 (c_l1In n (-999999999 : Int) 999999999) (.i ((-999999999 : Int) ≤ n ∧ n ≤ 999999999) (.i (t.data.toList = []) (.s (lb (decide (i = 0)))) (.s (lb false))) (.y false (.s (lb
 false))))) (.i (k = 3) (.c [.rd, .rd, .rd] (c_l1In n 0 1) (.i (0 ≤ n ∧ n ≤ 1) (.i (t.data.toList = []) (.s (lb (decide (i = 0)))) (.s (lb false))) (.y false (.s (lb false))))) (.i
 (k = 4) (.i (n = 0) (.c [.rd] (c_sString t) (.b (isStr t) (.s (lb (decide (i = 0)))) (.s (lb false)))) (.y false (.s (lb false)))) (.s (lb false))))))) (by
  dsimp only [teasy, P_c_sNode]
  with_reducible repeat' (first | apply And.intro | exact zR | (intro; skip))
  all_goals (try simp only [std, inj] at *)
  all_goals with_reducible repeat' apply And.intro
  all_goals (try (first | exact z | grind [nodD, snocI, snocS, rowSnoc])))
abbrev P_c_iNode (k : Int) (n : Int) (t : ByteArray) (i : Int) : Ct := ⟨118, [], [li k, li n, ls t, li i], [], .sv (lb (nodD k n t i))⟩
theorem c_iNode (k n : Int) (t : ByteArray) (i : Int)  : P_c_iNode k n t i := fnOK Tryz.call118 Tryz.func118 (.i (k = 0) (.i (n = 0) (.s (lb (decide (t.data.toList = [])))) (.s (lb
 false))) (.i (k = 1) (.i (n = 0) (.i (i = 0) (.c [.rd] (c_iIsSymbol t) (.s (lb (isSym t)))) (.s (lb false))) (.y false (.s (lb false)))) (.i (k = 2) (.i ((-999999999 : Int) ≤ n)
 (.i (n ≤ 999999999) (.i (t.data.toList = []) (.s (lb (decide (i = 0)))) (.s (lb false))) (.y false (.s (lb false)))) (.y false (.y false (.s (lb false))))) (.i (k = 3) (.i (n = 0)
 (.y true (.i (t.data.toList = []) (.s (lb (decide (i = 0)))) (.s (lb false)))) (.i (n = 1) (.i (t.data.toList = []) (.s (lb (decide (i = 0)))) (.s (lb false))) (.y false (.s (lb
 false))))) (.i (k = 4) (.i (n = 0) (.i (i = 0) (.c [.rd] (c_iString t) (.s (lb (isStr t)))) (.s (lb false))) (.y false (.s (lb false)))) (.s (lb false))))))) (by
  dsimp only [teasy, P_c_iNode]
  with_reducible repeat' (first | apply And.intro | exact zR | (intro; skip))
  all_goals (try simp only [std, inj] at *)
  all_goals with_reducible repeat' apply And.intro
  all_goals (try (first | exact z | grind [nodD, snocI, snocS, rowSnoc])))
mutual
def sizeD : Datum → Nat
  | ⟨_, _, _, l⟩ => sizeDs l + 1
def sizeDs : List Datum → Nat
  | [] => 0
  | c :: r => sizeD c + sizeDs r
end
theorem sizeDs_eq : ∀ l, sizeDs l = sumBy sizeD l
  | [] => by simp [sizeDs, sumBy]
  | c :: r => by rw [sizeDs, sumBy, sizeDs_eq r]
theorem sizeD_eq (c : Datum) : sizeD c = sumBy sizeD c.items + 1 := by cases c; simp only [sizeD, sizeDs_eq]
mutual
def depD : Datum → Nat
  | ⟨_, _, _, l⟩ => depDs l + 1
def depDs : List Datum → Nat
  | [] => 0
  | c :: r => max (depD c) (depDs r)
end
theorem depDs_eq : ∀ l, depDs l = maxBy depD l
  | [] => by simp [depDs, maxBy]
  | c :: r => by rw [depDs, maxBy, depDs_eq r]
theorem depD_eq (c : Datum) : depD c = maxBy depD c.items + 1 := by cases c; simp only [depD, depDs_eq]
theorem depD_le : ∀ c : Datum, depD c ≤ sizeD c := by
  refine Datum.ind fun c ih => ?_
  have := maxBy_sum ih
  rw [sizeD_eq, depD_eq]; omega
mutual
def okD : Datum → Bool
  | ⟨k, n, t, l⟩ => okDs l && nodD k n t l.length
def okDs : List Datum → Bool
  | [] => true
  | c :: r => okD c && okDs r
end
theorem okDs_eq : ∀ l, okDs l = l.all okD
  | [] => by simp [okDs]
  | c :: r => by rw [okDs, okDs_eq r]; rfl
theorem okD_eq (c : Datum) : okD c = (c.items.all okD && nodD c.kind c.number c.text c.items.length) := by cases c; simp only [okD, okDs_eq]
def isDat (d : Datum) : Bool := decide (sizeD d ≤ 600) && decide (depD d ≤ 20) && okD d
mutual
def meaD : Datum → Int → Int → Bool × Int
  | ⟨k, n, t, l⟩, deep, m => if deep ≤ 20 ∧ m + 1 ≤ 600 ∧ nodD k n t l.length = true then meaDs l (deep + 1) (m + 1) else (false, m + 1)
def meaDs : List Datum → Int → Int → Bool × Int
  | [], _, m => (true, m)
  | x :: r, deep, m => if (meaD x deep m).1 then meaDs r deep (meaD x deep m).2 else (false, (meaD x deep m).2)
end
theorem meaDs_eq : ∀ l deep m, meaDs l deep m = scan (fun x m => meaD x deep m) l m
  | [], _, _ => by simp [meaDs, scan]
  | x :: r, deep, m => by simp only [meaDs, scan, meaDs_eq r]
theorem meaD_eq (c : Datum) (deep m : Int) : meaD c deep m = if deep ≤ 20 ∧ m + 1 ≤ 600 ∧ nodD c.kind c.number c.text c.items.length = true then scan (fun x m => meaD x (deep + 1) m) c.items (m + 1) else (false, m + 1) := by cases c; simp only [meaD, meaDs_eq]
theorem meaD_of : ∀ (c : Datum) (deep m : Int), m ≤ 600 → ((meaD c deep m).1 = true ↔ (m + sizeD c ≤ 600 ∧ (deep + depD c ≤ 21 ∧ okD c = true))) ∧ ((meaD c deep m).1 = true → (meaD c deep m).2 = m + sizeD c) := by
  refine Datum.ind fun c ih deep m hm => ?_
  rw [meaD_eq, sizeD_eq, depD_eq, okD_eq, Bool.and_eq_true, List.all_eq_true]
  by_cases h : deep ≤ 20 ∧ m + 1 ≤ 600 ∧ nodD c.kind c.number c.text c.items.length = true
  · rw [if_pos h]
    have h1 := scan_of (fun x m => meaD x (deep + 1) m) sizeD (fun x => deep + 1 + depD x ≤ 21 ∧ okD x = true) 600 c.items (fun x hx m hm => ih x hx (deep + 1) m hm) (m + 1) h.2.1
    have h2 := maxBy_le depD (m := (20 - deep).toNat) (L := c.items)
    constructor
    · rw [h1.1]
      constructor
      · rintro ⟨a, b⟩
        have := h2.2 fun x hx => by have := (b x hx).1; omega
        exact ⟨by omega, by omega, fun x hx => (b x hx).2, h.2.2⟩
      · rintro ⟨a, b, d, e⟩
        have := h2.1 (by omega)
        exact ⟨by omega, fun x hx => ⟨by have := this x hx; omega, d x hx⟩⟩
    · intro ht; rw [h1.2 ht]; omega
  · rw [if_neg h]
    refine ⟨⟨fun e => Bool.noConfusion e, ?_⟩, fun e => Bool.noConfusion e⟩
    rintro ⟨a, b, d, e⟩
    exact absurd ⟨by omega, by omega, e⟩ h
theorem meaD_isDat (d : Datum) : (meaD d 1 0).1 = isDat d := by
  have h := (meaD_of d 1 0 (by decide)).1
  rw [Bool.eq_iff_iff, h]
  simp only [isDat, Bool.and_eq_true, decide_eq_true_eq, and_assoc]
  constructor
  · rintro ⟨a, b, e⟩; exact ⟨by omega, by omega, e⟩
  · rintro ⟨a, b, e⟩; exact ⟨by omega, by omega, e⟩
abbrev P_c_sFewD (d : Datum) (l : Int) : Ct := ⟨237, [.box [vI l]], [datumA d, .one (.ptr 0 0)], [.box [vI (max (l - sizeD d) (-1))]], .sv (lb (decide (sizeD d ≤ l)))⟩
def lc_sFewD_sLa (d : Datum) (l : Int) : Lp Nat := .mk 36 1 (fun x => [(1, SV.one (AC.ptr 0 0)), (2, SV.one (AC.ptr 1 0)), (5, hs x 0)]) (fun x => [Ob.box [ha x 1], Ob.box (vals
 (datumF d))]) (fun k => [.s (li (↑k : Int)), .a (vI (max (l - 1 - (↑(sumBy sizeD (List.take k d.items)) : Int)) (-1 : Int)))]) (fun k => d.items.length ≥ k) (fun k =>
 d.items.length - k) [.mk True (.exit 0) (fun x => [(1, SV.one (AC.ptr 0 0))]) (fun x => [Ob.box [ha x 0]]) [.a (vI (max (l - (↑(sizeD d) : Int)) (-1 : Int)))]]
theorem Sc_sFewD_sLa (d : Datum) (l : Int) (h : 0 ≤ l ∧ l ≤ 1000000) (ih : ∀ (z : Datum), z ∈ d.items → ∀ (l : Int), 0 ≤ l ∧ l ≤ 1000000 → OK (P_c_sFewD z l)) : Lp.Sem Tryz.prog
 (loopAt Tryz.f237 0) (lc_sFewD_sLa d l) := lpOK (fun k => .z datumC d.items (.i ((↑k : Int) < (↑(List.map datumC d.items).length : Int)) (.i (0 ≤ max (l - 1 - (↑(sumBy sizeD
 (List.take k d.items)) : Int)) (-1 : Int)) (.x (↑k : Int) (List.map datumC d.items) (datumF (d.items.getD k default)) (.d [.rd, .ptr] (P_c_sFewD (d.items.getD k default) (max (l -
 1 - (↑(sumBy sizeD (List.take k d.items)) : Int)) (-1 : Int))) (.r ((↑k : Int) + 1) (.g [0, 1] (k + 1) [.s (li ((↑k : Int) + 1)), .a (vI (max (max (l - 1 - (↑(sumBy sizeD
 (List.take k d.items)) : Int)) (-1 : Int) - (↑(sizeD (d.items.getD k default)) : Int)) (-1 : Int)))])))) (.o 0 [0] [.a (vI (max (l - 1 - (↑(sumBy sizeD (List.take k d.items)) :
 Int)) (-1 : Int)))])) (.y false (.o 0 [0] [.a (vI (max (l - 1 - (↑(sumBy sizeD (List.take k d.items)) : Int)) (-1 : Int)))])))) (by
  intro k h; try dsimp only [teasy, nthW, lc_sFewD_sLa] at h ⊢
  have g1 := sizeD_eq d
  have g2 := sumBy_takeLe sizeD d.items k
  have g3 := @sumBy_step _ _ sizeD d.items k
  with_reducible repeat' (first | apply And.intro | exact zR | exact ih | (intro; skip) | apply ih)
  all_goals (try simp only [std, inj] at *)
  all_goals with_reducible repeat' apply And.intro
  all_goals (try (first | with_reducible apply ih | (simp only [← List.map_append]; first | with_reducible apply ih)))
  all_goals (try (first | exact z | grind [getD_mem', snocI, snocS, rowSnoc])))
theorem c_sFewD_s (d : Datum) (l : Int) (h : 0 ≤ l ∧ l ≤ 1000000) (ih : ∀ z ∈ d.items, ∀ (l : Int) (h : 0 ≤ l ∧ l ≤ 1000000), P_c_sFewD z l)  : P_c_sFewD d l := fnOK Tryz.call237
 Tryz.func237 (.r (l - 1) (.l (lc_sFewD_sLa d l) (Sc_sFewD_sLa d l h ih) [0, 1] [.s (li 0), .a (vI (l - 1))] 0 (.t (.f [] [Ob.box [vI (max (l - (↑(sizeD d) : Int)) (-1 : Int))]]
 (AV.sv (lb (decide (0 ≤ max (l - (↑(sizeD d) : Int)) (-1 : Int)))))) .q))) (by
  dsimp only [teasy, P_c_sFewD, nthW, lc_sFewD_sLa]
  have g1 := sizeD_eq d
  have g2 : sumBy sizeD (d.items.take 0) = 0 := rfl
  with_reducible repeat' (first | apply And.intro | exact zR | exact ih | (intro; skip))
  all_goals (try simp only [std, inj] at *)
  all_goals with_reducible repeat' apply And.intro
  all_goals (try (first | with_reducible apply ih | (simp only [← List.map_append]; first | with_reducible apply ih)))
  all_goals (try (first | exact z | grind [snocI, snocS, rowSnoc])))
theorem c_sFewD (d : Datum) : ∀ (l : Int) (h : 0 ≤ l ∧ l ≤ 1000000), P_c_sFewD d l := Datum.ind (P := fun d => ∀ (l : Int) (h : 0 ≤ l ∧ l ≤ 1000000), P_c_sFewD d l) (fun d ih l h => c_sFewD_s d l h ih) d
abbrev P_c_sDepD (d : Datum) : Ct := ⟨238, [], [datumA d], [], .sv (li (depD d))⟩
def lc_sDepD_sLa (d : Datum) : Lp Nat := .mk 20 0 (fun x => [(3, hs x 1), (7, ll (List.map datumC d.items)), (8, li (↑(List.map datumC d.items).length : Int)), (9, hs x 0)]) (fun x
 => []) (fun k => [.s (li (↑k : Int)), .s (li (↑(maxBy depD (List.take k d.items)) : Int))]) (fun k => k ≤ d.items.length ∧ d.items.length ≤ 9223372036854775807) (fun k =>
 d.items.length - k) [.mk True (.exit 0) (fun x => [(3, hs x 0)]) (fun x => []) [.s (li (↑(maxBy depD d.items) : Int))]]
theorem Sc_sDepD_sLa (d : Datum) (h : sizeD d ≤ 2147483647) (ih : ∀ (z : Datum), z ∈ d.items → sizeD z ≤ 2147483647 → OK (P_c_sDepD z)) : Lp.Sem Tryz.prog (loopAt Tryz.f238 0)
 (lc_sDepD_sLa d) := lpOK (fun k => .i ((↑k : Int) < (↑(List.map datumC d.items).length : Int)) (.x (↑k : Int) (List.map datumC d.items) (datumF (d.items.getD k default)) (.d [.rd]
 (P_c_sDepD (d.items.getD k default)) (.r ((↑k : Int) + 1) (.g [] (k + 1) [.s (li ((↑k : Int) + 1)), .s (li (max (↑(maxBy depD (List.take k d.items)) : Int) (↑(depD (d.items.getD k
 default)) : Int)))])))) (.o 0 [] [.s (li (↑(maxBy depD (List.take k d.items)) : Int))])) (by
  intro k h; try dsimp only [teasy, nthW, lc_sDepD_sLa] at h ⊢
  have g1 := sizeD_eq d
  have g2 := @sumBy_mem _ sizeD d.items (d.items.getD k default)
  with_reducible repeat' (first | apply And.intro | exact zR | exact ih | (intro; skip) | apply ih)
  all_goals (try simp only [std, inj] at *)
  all_goals with_reducible repeat' apply And.intro
  all_goals (try (first | with_reducible apply ih | (simp only [← List.map_append]; first | with_reducible apply ih)))
  all_goals (try (first | exact z | grind [maxBy_step, getD_mem', snocI, snocS, rowSnoc])))
theorem c_sDepD_s (d : Datum) (h : sizeD d ≤ 2147483647) (ih : ∀ z ∈ d.items, ∀ (h : sizeD z ≤ 2147483647), P_c_sDepD z)  : P_c_sDepD d := fnOK Tryz.call238 Tryz.func238 (.z datumC
 d.items (.l (lc_sDepD_sLa d) (Sc_sDepD_sLa d h ih) [] [.s (li 0), .s (li 0)] 0 (.t (.r ((↑(maxBy depD d.items) : Int) + 1) (.s (li ((↑(maxBy depD d.items) : Int) + 1)))) .q))) (by
  dsimp only [teasy, P_c_sDepD, nthW, lc_sDepD_sLa]
  have h1 := depD_le d
  have g2 : maxBy depD (d.items.take 0) = 0 := rfl
  with_reducible repeat' (first | apply And.intro | exact zR | exact ih | (intro; skip))
  all_goals (try simp only [std, inj] at *)
  all_goals with_reducible repeat' apply And.intro
  all_goals (try (first | with_reducible apply ih | (simp only [← List.map_append]; first | with_reducible apply ih)))
  all_goals (try (first | exact z | grind [depD_eq, snocI, snocS, rowSnoc])))
theorem c_sDepD (d : Datum) : ∀ (h : sizeD d ≤ 2147483647), P_c_sDepD d := Datum.ind (P := fun d => ∀ (h : sizeD d ≤ 2147483647), P_c_sDepD d) (fun d ih h => c_sDepD_s d h ih) d
abbrev P_c_sOkD (d : Datum) : Ct := ⟨239, [], [datumA d], [], .sv (lb (okD d))⟩
def lc_sOkD_sLa (d : Datum) : Lp Nat := .mk 26 0 (fun x => [(1, SV.one (AC.ptr 0 0)), (6, ll (List.map datumC d.items)), (7, li (↑(List.map datumC d.items).length : Int)), (8, hs x
 0)]) (fun x => [Ob.box (vals (datumF d))]) (fun k => [.s (li (↑k : Int))]) (fun k => k ≤ d.items.length ∧ d.items.length ≤ 9223372036854775807 ∧ (List.take k d.items).all okD =
 true) (fun k => d.items.length - k) [.mk (d.items.all okD = true) (.exit 0) (fun x => [(1, SV.one (AC.ptr 0 0))]) (fun x => [Ob.box (vals (datumF d))]) [], .mk (d.items.all okD =
 false) .ret (fun x => [(2, hs x 0)]) (fun x => []) [.s (lb false)]]
theorem Sc_sOkD_sLa (d : Datum) (ih : ∀ (z : Datum), z ∈ d.items → OK (P_c_sOkD z)) : Lp.Sem Tryz.prog (loopAt Tryz.f239 0) (lc_sOkD_sLa d) := lpOK (fun k => .i ((↑k : Int) <
 (↑(List.map datumC d.items).length : Int)) (.x (↑k : Int) (List.map datumC d.items) (datumF (d.items.getD k default)) (.d [.rd] (P_c_sOkD (d.items.getD k default)) (.b (!okD
 (d.items.getD k default)) (.o 1 [] [.s (lb false)]) (.r ((↑k : Int) + 1) (.g [0] (k + 1) [.s (li ((↑k : Int) + 1))]))))) (.o 0 [0] [])) (by
  intro k h; try dsimp only [teasy, nthW, lc_sOkD_sLa] at h ⊢
  with_reducible repeat' (first | apply And.intro | exact zR | exact ih | (intro; skip) | apply ih)
  all_goals (try simp only [std, inj] at *)
  all_goals with_reducible repeat' apply And.intro
  all_goals (try (first | with_reducible apply ih | (simp only [← List.map_append]; first | with_reducible apply ih)))
  all_goals (try (first | exact z | grind [take_get, getD_mem', snocI, snocS, rowSnoc])))
theorem c_sOkD_s (d : Datum) (ih : ∀ z ∈ d.items, P_c_sOkD z)  : P_c_sOkD d := fnOK Tryz.call239 Tryz.func239 (.z datumC d.items (.l (lc_sOkD_sLa d) (Sc_sOkD_sLa d ih) [0] [.s (li
 0)] 0 (.t (.z datumC d.items (.c [.rd, .rd, .rd, .rd] (c_sNode d.kind d.number d.text (↑(List.map datumC d.items).length : Int)) (.s (lb (nodD d.kind d.number d.text (↑(List.map
 datumC d.items).length : Int)))))) (.t (.s (lb false)) .q)))) (by
  dsimp only [teasy, P_c_sOkD, nthW, lc_sOkD_sLa]
  with_reducible repeat' (first | apply And.intro | exact zR | exact ih | (intro; skip))
  all_goals (try simp only [std, inj] at *)
  all_goals with_reducible repeat' apply And.intro
  all_goals (try (first | with_reducible apply ih | (simp only [← List.map_append]; first | with_reducible apply ih)))
  all_goals (try (first | exact z | grind [okD_eq, snocI, snocS, rowSnoc])))
theorem c_sOkD (d : Datum) : P_c_sOkD d := Datum.ind (P := fun d => P_c_sOkD d) (fun d ih => c_sOkD_s d ih) d
abbrev P_c_sIsDatum (d : Datum) : Ct := ⟨207, [], [datumA d], [], .sv (lb (isDat d))⟩
theorem c_sIsDatum (d : Datum)  : P_c_sIsDatum d := fnOK Tryz.call207 Tryz.func207 (.d [.rd, .ptr] (P_c_sFewD d 600) (.i ((↑(sizeD d) : Int) ≤ 600) (.d [.rd] (P_c_sDepD d) (.i
 ((↑(depD d) : Int) ≤ 20) (.c [.rd] (c_sOkD d) (.s (lb (okD d)))) (.s (lb false)))) (.y false (.s (lb false))))) (by
  dsimp only [teasy, P_c_sIsDatum]
  with_reducible repeat' (first | apply And.intro | exact zR | (intro; skip) | apply c_sFewD | apply c_sDepD)
  all_goals (try simp only [std, inj] at *)
  all_goals with_reducible repeat' apply And.intro
  all_goals (try (first | with_reducible apply c_sFewD | with_reducible apply c_sDepD | (simp only [← List.map_append]; first | with_reducible apply c_sFewD | with_reducible apply c_sDepD)))
  all_goals (try (first | exact z | grind [isDat, snocI, snocS, rowSnoc])))
abbrev P_c_iMeaD (d : Datum) (deep : Int) (q : Int) : Ct := ⟨256, [.box [vI q]], [datumA d, li deep, .one (.ptr 0 0)], [.box [vI (meaD d deep q).2]], .sv (lb (meaD d deep q).1)⟩
def lc_iMeaD_sLa (d : Datum) (deep : Int) (q : Int) : Lp Nat := .mk 49 1 (fun x => [(1, li deep), (2, SV.one (AC.ptr 0 0)), (36, ll (List.map datumC d.items)), (37, li (↑(List.map
 datumC d.items).length : Int)), (38, hs x 0)]) (fun x => [Ob.box [ha x 1]]) (fun k => [.s (li (↑k : Int)), .a (vI (scan (fun x m => meaD x (deep + 1) m) (List.take k d.items) (q +
 1)).snd)]) (fun k => k ≤ d.items.length ∧ d.items.length ≤ 9223372036854775807 ∧ deep ≤ 20 ∧ (scan (fun x m => meaD x (deep + 1) m) (List.take k d.items) (q + 1)).fst = true ∧ q ≤
 (scan (fun x m => meaD x (deep + 1) m) (List.take k d.items) (q + 1)).snd ∧ (scan (fun x m => meaD x (deep + 1) m) (List.take k d.items) (q + 1)).snd ≤ 600) (fun k =>
 d.items.length - k) [.mk ((scan (fun x m => meaD x (deep + 1) m) d.items (q + 1)).fst = true) (.exit 0) (fun x => []) (fun x => [Ob.box [ha x 0]]) [.a (vI (scan (fun x m => meaD x
 (deep + 1) m) d.items (q + 1)).snd)], .mk ((scan (fun x m => meaD x (deep + 1) m) d.items (q + 1)).fst = false) .ret (fun x => [(6, hs x 0)]) (fun x => [Ob.box [ha x 1]]) [.s (lb
 false), .a (vI (scan (fun x m => meaD x (deep + 1) m) d.items (q + 1)).snd)]]
theorem Sc_iMeaD_sLa (d : Datum) (deep : Int) (q : Int) (h : 0 ≤ deep ∧ deep ≤ 21 ∧ 0 ≤ q ∧ q ≤ 600) (ih : ∀ (z : Datum), z ∈ d.items → ∀ (deep q : Int), 0 ≤ deep ∧ deep ≤ 21 ∧ 0 ≤
 q ∧ q ≤ 600 → OK (P_c_iMeaD z deep q)) : Lp.Sem Tryz.prog (loopAt Tryz.f256 0) (lc_iMeaD_sLa d deep q) := lpOK (fun k => .i ((↑k : Int) < (↑(List.map datumC d.items).length :
 Int)) (.x (↑k : Int) (List.map datumC d.items) (datumF (d.items.getD k default)) (.r (deep + 1) (.d [.rd, .rd, .ptr] (P_c_iMeaD (d.items.getD k default) (deep + 1) (scan (fun x m
 => meaD x (deep + 1) m) (List.take k d.items) (q + 1)).snd) (.b (!(meaD (d.items.getD k default) (deep + 1) (scan (fun x m => meaD x (deep + 1) m) (List.take k d.items) (q +
 1)).snd).fst) (.o 1 [0] [.s (lb false), .a (vI (meaD (d.items.getD k default) (deep + 1) (scan (fun x m => meaD x (deep + 1) m) (List.take k d.items) (q + 1)).snd).snd)]) (.r ((↑k
 : Int) + 1) (.g [0] (k + 1) [.s (li ((↑k : Int) + 1)), .a (vI (meaD (d.items.getD k default) (deep + 1) (scan (fun x m => meaD x (deep + 1) m) (List.take k d.items) (q +
 1)).snd).snd)])))))) (.o 0 [0] [.a (vI (scan (fun x m => meaD x (deep + 1) m) (List.take k d.items) (q + 1)).snd)])) (by
  intro k h; try dsimp only [teasy, nthW, lc_iMeaD_sLa] at h ⊢
  have g1 := fun x m => meaD_of x (deep + 1) m
  with_reducible repeat' (first | apply And.intro | exact zR | exact ih | (intro; skip) | apply ih)
  all_goals (try simp only [std, inj] at *)
  all_goals with_reducible repeat' apply And.intro
  all_goals (try (first | with_reducible apply ih | (simp only [← List.map_append]; first | with_reducible apply ih)))
  all_goals (try (first | exact z | grind [scan_step, scan_stop, getD_mem', snocI, snocS, rowSnoc])))
theorem c_iMeaD_s (d : Datum) (deep q : Int) (h : 0 ≤ deep ∧ deep ≤ 21 ∧ 0 ≤ q ∧ q ≤ 600) (ih : ∀ z ∈ d.items, ∀ (deep : Int) (q : Int) (h : 0 ≤ deep ∧ deep ≤ 21 ∧ 0 ≤ q ∧ q ≤
 600), P_c_iMeaD z deep q)  : P_c_iMeaD d deep q := fnOK Tryz.call256 Tryz.func256 (.r (q + 1) (.i (20 < deep) (.y true (.y true (.f [] [Ob.box [vI (q + 1)]] (AV.sv (lb false)))))
 (.i (600 < q + 1) (.y true (.f [] [Ob.box [vI (q + 1)]] (AV.sv (lb false)))) (.z datumC d.items (.c [.rd, .rd, .rd, .rd] (c_iNode d.kind d.number d.text (↑(List.map datumC
 d.items).length : Int)) (.b (!nodD d.kind d.number d.text (↑(List.map datumC d.items).length : Int)) (.f [] [Ob.box [vI (q + 1)]] (AV.sv (lb false))) (.z datumC d.items (.l
 (lc_iMeaD_sLa d deep q) (Sc_iMeaD_sLa d deep q h ih) [0] [.s (li 0), .a (vI (q + 1))] 0 (.t (.f [] [Ob.box [vI (scan (fun x m => meaD x (deep + 1) m) d.items (q + 1)).snd]] (AV.sv
 (lb true))) (.t (.f [] [Ob.box [vI (scan (fun x m => meaD x (deep + 1) m) d.items (q + 1)).snd]] (AV.sv (lb false))) .q)))))))))) (by
  dsimp only [teasy, P_c_iMeaD, nthW, lc_iMeaD_sLa]
  with_reducible repeat' (first | apply And.intro | exact zR | exact ih | (intro; skip))
  all_goals (try simp only [std, inj] at *)
  all_goals with_reducible repeat' apply And.intro
  all_goals (try (first | with_reducible apply ih | (simp only [← List.map_append]; first | with_reducible apply ih)))
  all_goals (try (first | exact z | grind [meaD_eq, scan, snocI, snocS, rowSnoc])))
theorem c_iMeaD (d : Datum) : ∀ (deep : Int) (q : Int) (h : 0 ≤ deep ∧ deep ≤ 21 ∧ 0 ≤ q ∧ q ≤ 600), P_c_iMeaD d deep q := Datum.ind (P := fun d => ∀ (deep : Int) (q : Int) (h : 0 ≤ deep ∧ deep ≤ 21 ∧ 0 ≤ q ∧ q ≤ 600), P_c_iMeaD d deep q) (fun d ih deep q h => c_iMeaD_s d deep q h ih) d
abbrev P_c_iIsDatum (d : Datum) : Ct := ⟨254, [], [datumA d], [], .sv (lb (isDat d))⟩
theorem c_iIsDatum (d : Datum)  : P_c_iIsDatum d := fnOK Tryz.call254 Tryz.func254 (.d [.rd, .rd, .ptr] (P_c_iMeaD d 1 0) (.s (lb (meaD d 1 0).fst))) (by
  dsimp only [teasy, P_c_iIsDatum]
  with_reducible repeat' (first | apply And.intro | exact zR | (intro; skip) | apply c_iMeaD)
  all_goals (try simp only [std, inj] at *)
  all_goals with_reducible repeat' apply And.intro
  all_goals (try (first | with_reducible apply c_iMeaD | (simp only [← List.map_append]; first | with_reducible apply c_iMeaD)))
  all_goals (try (first | exact z | grind [meaD_isDat, snocI, snocS, rowSnoc])))
end Go.Proofs.YtclpofblehlojaaGreat
end
section
namespace Go.Proofs.YtclpofblehlojaaGreat
open Go Go.Proofs.YtclpofblehlojaaGreat.Ab
set_option linter.unusedVariables false
set_option linter.unusedSimpArgs false
set_option maxHeartbeats 4000000
def addU (L : List Int) (n : Int) : List Int := if n ∈ L then L else L ++ [n]
def memI (S : List Int) (n : Int) : Int := if n ∈ S then 1 else 0
def cntI (b : List Int) (n : Int) : Int := (b.count n : Int)
theorem memI_nil : zI = memI [] := by funext m; simp [zI, memI]
theorem memI_snoc {S : List Int} {n : Int} : upd1 (memI S) n 1 = memI (S ++ [n]) := by
  funext m; simp only [upd1, memI, List.mem_append, List.mem_singleton]; grind
theorem cntI_inc {b : List Int} {n : Int} : upd1 (cntI b) n (cntI b n + 1) = cntI (b ++ [n]) := by
  funext m; simp only [upd1, cntI, List.count_append, List.count_singleton]; grind
theorem cntI_dec {b p : List Int} {n : Int} : upd1 (cntI (b ++ n :: p)) n (cntI (b ++ n :: p) n - 1) = cntI (b ++ p) := by
  funext m; simp only [upd1, cntI, List.count_append, List.count_cons]; grind
theorem cntI_zero {b : List Int} {n : Int} : cntI b n = 0 ↔ n ∉ b := by
  simp only [cntI]; rw [← List.count_eq_zero]; omega
theorem cntI_le {b : List Int} {n : Int} : 0 ≤ cntI b n ∧ cntI b n ≤ b.length := by
  have := List.count_le_length (a := n) (l := b)
  simp only [cntI]; omega
theorem memI_zero {b : List Int} {n : Int} : memI b n = 0 ↔ n ∉ b := by
  simp only [memI]; grind
theorem addU_len (L : List Int) (n : Int) : (addU L n).length ≤ L.length + 1 := by
  unfold addU; split <;> simp
mutual
def fre : Core → List Int → List Int → List Int
  | ⟨k, n, p, _, l⟩, b, o => fres l (b ++ p) (if (k = 2 ∨ k = 4) ∧ n ∉ b then addU o n else o)
def fres : List Core → List Int → List Int → List Int
  | [], _, o => o
  | x :: r, b, o => fres r b (fre x b o)
end
theorem fres_eq : ∀ (l : List Core) (b o : List Int), fres l b o = l.foldl (fun o x => fre x b o) o
  | [], _, _ => by rw [fres]; rfl
  | x :: r, b, o => by rw [fres, fres_eq r]; rfl
def fre0 (c : Core) (b o : List Int) : List Int := if (c.kind = 2 ∨ c.kind = 4) ∧ c.number ∉ b then addU o c.number else o
theorem fre_eq (c : Core) (b o : List Int) : fre c b o = c.kids.foldl (fun o x => fre x (b ++ c.params) o) (fre0 c b o) := by cases c; simp only [fre, fres_eq, fre0]
theorem fre_len : ∀ c b o, (fre c b o).length ≤ o.length + 1 + wC c := by
  refine Core.ind fun c ih b o => ?_
  rw [fre_eq, wC_eq]
  have h : ∀ (L : List Core), (∀ y ∈ L, ∀ b o, (fre y b o).length ≤ o.length + 1 + wC y) → ∀ o, (L.foldl (fun o x => fre x (b ++ c.params) o) o).length ≤ o.length + L.length + sumBy wC L := by
    intro L
    induction L with
    | nil => intro _ o; simp [sumBy]
    | cons x r ihr =>
      intro hL o
      have h1 := hL x List.mem_cons_self (b ++ c.params) o
      have h2 := ihr (fun y hy => hL y (List.mem_cons_of_mem _ hy)) (fre x (b ++ c.params) o)
      simp only [List.foldl_cons, sumBy, List.length_cons]; omega
  have h1 := h c.kids ih (fre0 c b o)
  have h2 : (fre0 c b o).length ≤ o.length + 1 := by
    unfold fre0; split
    · exact addU_len _ _
    · omega
  omega
theorem fre0_len (c : Core) (b o : List Int) : (fre0 c b o).length ≤ o.length + 1 := by
  unfold fre0; split
  · exact addU_len _ _
  · omega
abbrev P_c_addNum (S : List Int) (n : Int) : Ct := ⟨255, [.box [.ref 1, .mref 2], .arr true 1 (S.map intC), .map (decide (S = [])) kI (mI (memI S))], [.one (.ptr 0 0), li n], [.box [.ref 3, .mref 4], .dead, .dead, .arr true 1 ((addU S n).map intC), .map (decide (addU S n = [])) kI (mI (memI (addU S n)))], .tup []⟩
theorem c_addNum (S : List Int) (n : Int) (h : S.length < 2147483647)  : P_c_addNum S n := fnOK Tryz.call255 Tryz.func255 (.i (S = []) (.w (.mkmap kI) (.w (.cells [cI (zI n)]) (.p
 (LookAt (Value.int IntKind.i64 0) (mI zI) (Value.int IntKind.i64 n) (cI 0)) (.y true (.w (.upd (mI (upd1 zI n 1))) (.p (false = false) (.p (UpdF kI.d (mI zI) (mI (upd1 zI n 1))
 (Value.int IntKind.i64 n) (some (cI 1))) (.p (((List.map intC S).length + 1) * 8 ≤ 140737488355328) (.w (.ghost (.move 2)) (.f [5, 3] [Ob.box [AC.ref 3, AC.mref 4], Ob.dead,
 Ob.dead, Ob.arr true 1 (List.map intC S ++ [[cI n]]), Ob.map false kI (mI (upd1 zI n 1))] (AV.tup []))))))))))) (.w (.cells [cI (memI S n)]) (.p (LookAt (Value.int IntKind.i64 0)
 (mI (memI S)) (Value.int IntKind.i64 n) (cI (memI S n))) (.i (memI S n = 0) (.w (.upd (mI (upd1 (memI S) n 1))) (.p (decide (S = []) = false) (.p (UpdF kI.d (mI (memI S)) (mI
 (upd1 (memI S) n 1)) (Value.int IntKind.i64 n) (some (cI 1))) (.p (((List.map intC S).length + 1) * 8 ≤ 140737488355328) (.w (.ghost (.move 2)) (.f [4, 5] [Ob.box [AC.ref 3,
 AC.mref 4], Ob.dead, Ob.dead, Ob.arr true 1 (List.map intC S ++ [[cI n]]), Ob.map (decide (S = [])) kI (mI (upd1 (memI S) n 1))] (AV.tup []))))))) (.w (.ghost (.move 1)) (.w
 (.ghost (.move 2)) (.f [3, 4] [Ob.box [AC.ref 3, AC.mref 4], Ob.dead, Ob.dead, Ob.arr true 1 (List.map intC S), Ob.map (decide (S = [])) kI (mI (memI S))] (AV.tup [])))))))) (by
  dsimp only [teasy, P_c_addNum]
  with_reducible repeat' (first | apply And.intro | exact zR | (intro; skip) | apply mIc | apply mOc | apply mSc | apply mLc)
  all_goals (try simp only [std, inj] at *)
  all_goals with_reducible repeat' apply And.intro
  all_goals (try (first | exact z | exact zM | grind [addU, memI_zero, memI_snoc, memI_nil, List.append_eq_nil_iff, snocI, snocS, rowSnoc])))
abbrev P_c_freeIn (c : Core) (b : List Int) (S : List Int) : Ct := ⟨247, [.map false kI (mI (cntI b)), .box [.ref 2, .mref 3], .arr true 1 (S.map intC), .map (decide (S = [])) kI (mI (memI S))], [coreA c, .one (.mref 0), .one (.ptr 1 0)], [.map false kI (mI (cntI b)), .box [.ref 4, .mref 5], .dead, .dead, .arr true 1 ((fre c b S).map intC), .map (decide (fre c b S = [])) kI (mI (memI (fre c b S)))], .tup []⟩
def lc_freeIn_sLc (c : Core) (b : List Int) (S : List Int) : Lp Nat := .mk 67 4 (fun x => [(1, SV.one (AC.mref 0)), (56, ll (List.map intC c.params)), (57, li (↑(List.map intC
 c.params).length : Int)), (58, hs x 0)]) (fun x => [ho x 1, Ob.box [AC.ref 4, AC.mref 5], Ob.dead, Ob.dead, Ob.arr true 1 (List.map intC (fre c b S)), Ob.map (decide (fre c b S =
 [])) kI (mI (memI (fre c b S)))]) (fun k => [.s (li (↑k : Int)), .o (Ob.map false kI (mI (cntI (b ++ List.drop k c.params))))]) (fun k => k ≤ c.params.length ∧ c.params.length ≤
 9223372036854775807) (fun k => c.params.length - k) [.mk True (.exit 4) (fun x => []) (fun x => [ho x 0, Ob.box [AC.ref 4, AC.mref 5], Ob.dead, Ob.dead, Ob.arr true 1 (List.map
 intC (fre c b S)), Ob.map (decide (fre c b S = [])) kI (mI (memI (fre c b S)))]) [.o (Ob.map false kI (mI (cntI b)))]]
def lc_freeIn_sLb (c : Core) (b : List Int) (S : List Int) : Lp Nat := .mk 67 4 (fun x => [(1, SV.one (AC.mref 0)), (2, SV.one (AC.ptr 1 0)), (3, SV.one (AC.ptr 4 0)), (44, ll
 (List.map coreC c.kids)), (45, li (↑(List.map coreC c.kids).length : Int)), (46, hs x 0)]) (fun x => [Ob.map false kI (mI (cntI (b ++ c.params))), Ob.box [AC.ref 5, AC.mref 6],
 Ob.dead, Ob.dead, Ob.box (vals (coreF c)), ho x 1, ho x 2]) (fun k => [.s (li (↑k : Int)), .o (Ob.arr true 1 (List.map intC (List.foldl (fun o x => fre x (b ++ c.params) o) (fre0
 c b S) (List.take k c.kids)))), .o (Ob.map (decide (List.foldl (fun o x => fre x (b ++ c.params) o) (fre0 c b S) (List.take k c.kids) = [])) kI (mI (memI (List.foldl (fun o x =>
 fre x (b ++ c.params) o) (fre0 c b S) (List.take k c.kids)))))]) (fun k => k ≤ c.kids.length ∧ c.kids.length ≤ 9223372036854775807) (fun k => c.kids.length - k) [.mk True (.exit
 2) (fun x => [(1, SV.one (AC.mref 0)), (3, SV.one (AC.ptr 4 0))]) (fun x => [Ob.map false kI (mI (cntI (b ++ c.params))), Ob.box [AC.ref 5, AC.mref 6], Ob.dead, Ob.dead, Ob.box
 (vals (coreF c)), ho x 0, ho x 1]) [.o (Ob.arr true 1 (List.map intC (fre c b S))), .o (Ob.map (decide (fre c b S = [])) kI (mI (memI (fre c b S))))]]
def lc_freeIn_sLa (c : Core) (b : List Int) (S : List Int) : Lp Nat := .mk 67 4 (fun x => [(1, SV.one (AC.mref 0)), (2, SV.one (AC.ptr 1 0)), (3, SV.one (AC.ptr 4 0)), (32, ll
 (List.map intC c.params)), (33, li (↑(List.map intC c.params).length : Int)), (34, hs x 0)]) (fun x => [ho x 1, Ob.box [AC.ref 5, AC.mref 6], Ob.dead, Ob.dead, Ob.box (vals (coreF
 c)), ho x 2, ho x 3]) (fun k => [.s (li (↑k : Int)), .o (Ob.map false kI (mI (cntI (b ++ List.take k c.params)))), .o (Ob.arr true 1 (List.map intC (fre0 c b S))), .o (Ob.map
 (decide (fre0 c b S = [])) kI (mI (memI (fre0 c b S))))]) (fun k => k ≤ c.params.length ∧ c.params.length ≤ 9223372036854775807) (fun k => c.params.length - k) [.mk True (.exit 0)
 (fun x => [(1, SV.one (AC.mref 0)), (2, SV.one (AC.ptr 1 0)), (3, SV.one (AC.ptr 4 0))]) (fun x => [ho x 0, Ob.box [AC.ref 5, AC.mref 6], Ob.dead, Ob.dead, Ob.box (vals (coreF
 c)), ho x 1, ho x 2]) [.o (Ob.map false kI (mI (cntI (b ++ c.params)))), .o (Ob.arr true 1 (List.map intC (fre0 c b S))), .o (Ob.map (decide (fre0 c b S = [])) kI (mI (memI (fre0
 c b S))))]]
theorem Sc_freeIn_sLc (c : Core) (b : List Int) (S : List Int) (h : b.length + S.length + wC c + 1 ≤ 2147483647) (ih : ∀ (z : Core), z ∈ c.kids → ∀ (b S : List Int), b.length +
 S.length + wC z + 1 ≤ 2147483647 → OK (P_c_freeIn z b S)) : Lp.Sem Tryz.prog (loopAt Tryz.f247 2) (lc_freeIn_sLc c b S) := lpOK (fun k => .i ((↑k : Int) < (↑(List.map intC
 c.params).length : Int)) (.x (↑k : Int) (List.map intC c.params) [cI (c.params.getD k 0)] (.w (.cells [cI (cntI (b ++ List.drop k c.params) (c.params.getD k 0))]) (.p (LookAt
 (Value.int IntKind.i64 0) (mI (cntI (b ++ List.drop k c.params))) (Value.int IntKind.i64 (c.params.getD k 0)) (cI (cntI (b ++ List.drop k c.params) (c.params.getD k 0)))) (.r
 (cntI (b ++ List.drop k c.params) (c.params.getD k 0) - 1) (.w (.upd (mI (upd1 (cntI (b ++ List.drop k c.params)) (c.params.getD k 0) (cntI (b ++ List.drop k c.params)
 (c.params.getD k 0) - 1)))) (.p (false = false) (.p (UpdF kI.d (mI (cntI (b ++ List.drop k c.params))) (mI (upd1 (cntI (b ++ List.drop k c.params)) (c.params.getD k 0) (cntI (b ++
 List.drop k c.params) (c.params.getD k 0) - 1))) (Value.int IntKind.i64 (c.params.getD k 0)) (some (cI (cntI (b ++ List.drop k c.params) (c.params.getD k 0) - 1)))) (.r ((↑k :
 Int) + 1) (.g [0, 1, 2, 3, 4, 5] (k + 1) [.s (li ((↑k : Int) + 1)), .o (Ob.map false kI (mI (upd1 (cntI (b ++ List.drop k c.params)) (c.params.getD k 0) (cntI (b ++ List.drop k
 c.params) (c.params.getD k 0) - 1))))]))))))))) (.o 0 [0, 1, 2, 3, 4, 5] [.o (Ob.map false kI (mI (cntI (b ++ List.drop k c.params))))])) (by
  intro k h; try dsimp only [teasy, nthW, lc_freeIn_sLc] at h ⊢
  have g := fun L n => (cntI_le (b := L) (n := n)).2
  have g' := fun L n => (cntI_le (b := L) (n := n)).1
  have g4 := wC_eq c
  have b1 := g (b ++ c.params.drop k) (c.params.getD k 0)
  have b2 := g' (b ++ c.params.drop k) (c.params.getD k 0)
  have b3 : (b ++ c.params.drop k).length ≤ b.length + c.params.length := by rw [List.length_append, List.length_drop]; omega
  have b4 : -9223372036854775808 ≤ cntI (b ++ c.params.drop k) (c.params.getD k 0) - 1 := by omega
  have b5 : cntI (b ++ c.params.drop k) (c.params.getD k 0) - 1 ≤ 9223372036854775807 := by omega
  with_reducible repeat' (first | apply And.intro | exact zR | exact ih | (intro; skip) | apply mIc | apply mOc | apply mSc | apply mLc | apply c_addNum)
  all_goals (try simp only [std, inj] at *)
  all_goals with_reducible repeat' apply And.intro
  all_goals (try (first | with_reducible apply c_addNum | with_reducible apply ih | (simp only [← List.map_append]; first | with_reducible apply c_addNum | with_reducible apply ih)))
  all_goals (try (first | exact z | exact zM | grind [cntI_dec, drop_get, snocI, snocS, rowSnoc])))
theorem Sc_freeIn_sLb (c : Core) (b : List Int) (S : List Int) (h : b.length + S.length + wC c + 1 ≤ 2147483647) (ih : ∀ (z : Core), z ∈ c.kids → ∀ (b S : List Int), b.length +
 S.length + wC z + 1 ≤ 2147483647 → OK (P_c_freeIn z b S)) : Lp.Sem Tryz.prog (loopAt Tryz.f247 1) (lc_freeIn_sLb c b S) := lpOK (fun k => .i ((↑k : Int) < (↑(List.map coreC
 c.kids).length : Int)) (.x (↑k : Int) (List.map coreC c.kids) (coreF (c.kids.getD k default)) (.d [.rd, .map, .ptr] (P_c_freeIn (c.kids.getD k default) (b ++ c.params) (List.foldl
 (fun o x => fre x (b ++ c.params) o) (fre0 c b S) (List.take k c.kids))) (.r ((↑k : Int) + 1) (.g [0, 1, 2, 3, 4, 12, 13] (k + 1) [.s (li ((↑k : Int) + 1)), .o (Ob.arr true 1
 (List.map intC (fre (c.kids.getD k default) (b ++ c.params) (List.foldl (fun o x => fre x (b ++ c.params) o) (fre0 c b S) (List.take k c.kids))))), .o (Ob.map (decide (fre
 (c.kids.getD k default) (b ++ c.params) (List.foldl (fun o x => fre x (b ++ c.params) o) (fre0 c b S) (List.take k c.kids)) = [])) kI (mI (memI (fre (c.kids.getD k default) (b ++
 c.params) (List.foldl (fun o x => fre x (b ++ c.params) o) (fre0 c b S) (List.take k c.kids))))))])))) (.o 0 [0, 1, 2, 3, 4, 5, 6] [.o (Ob.arr true 1 (List.map intC (List.foldl
 (fun o x => fre x (b ++ c.params) o) (fre0 c b S) (List.take k c.kids)))), .o (Ob.map (decide (List.foldl (fun o x => fre x (b ++ c.params) o) (fre0 c b S) (List.take k c.kids) =
 [])) kI (mI (memI (List.foldl (fun o x => fre x (b ++ c.params) o) (fre0 c b S) (List.take k c.kids)))))])) (by
  intro k h; try dsimp only [teasy, nthW, lc_freeIn_sLb] at h ⊢
  have g1 := foldl_len (fun o x => fre x (b ++ c.params) o) wC (c.kids.take k) (fun y _ o => fre_len y _ o) (fre0 c b S)
  have g2 := fre0_len c b S
  have g3 := sumBy_takeLe wC c.kids (k + 1)
  have g4 := wC_eq c
  with_reducible repeat' (first | apply And.intro | exact zR | exact ih | (intro; skip) | apply mIc | apply mOc | apply mSc | apply mLc | apply c_addNum | apply ih)
  all_goals (try simp only [std, inj] at *)
  all_goals with_reducible repeat' apply And.intro
  all_goals (try (first | with_reducible apply c_addNum | with_reducible apply ih | (simp only [← List.map_append]; first | with_reducible apply c_addNum | with_reducible apply ih)))
  all_goals (try (first | exact z | exact zM | grind [fre_eq, foldl_step, getD_mem', sumBy_step, snocI, snocS, rowSnoc])))
theorem Sc_freeIn_sLa (c : Core) (b : List Int) (S : List Int) (h : b.length + S.length + wC c + 1 ≤ 2147483647) (ih : ∀ (z : Core), z ∈ c.kids → ∀ (b S : List Int), b.length +
 S.length + wC z + 1 ≤ 2147483647 → OK (P_c_freeIn z b S)) : Lp.Sem Tryz.prog (loopAt Tryz.f247 0) (lc_freeIn_sLa c b S) := lpOK (fun k => .i ((↑k : Int) < (↑(List.map intC
 c.params).length : Int)) (.x (↑k : Int) (List.map intC c.params) [cI (c.params.getD k 0)] (.w (.cells [cI (cntI (b ++ List.take k c.params) (c.params.getD k 0))]) (.p (LookAt
 (Value.int IntKind.i64 0) (mI (cntI (b ++ List.take k c.params))) (Value.int IntKind.i64 (c.params.getD k 0)) (cI (cntI (b ++ List.take k c.params) (c.params.getD k 0)))) (.r
 (cntI (b ++ List.take k c.params) (c.params.getD k 0) + 1) (.w (.upd (mI (upd1 (cntI (b ++ List.take k c.params)) (c.params.getD k 0) (cntI (b ++ List.take k c.params)
 (c.params.getD k 0) + 1)))) (.p (false = false) (.p (UpdF kI.d (mI (cntI (b ++ List.take k c.params))) (mI (upd1 (cntI (b ++ List.take k c.params)) (c.params.getD k 0) (cntI (b ++
 List.take k c.params) (c.params.getD k 0) + 1))) (Value.int IntKind.i64 (c.params.getD k 0)) (some (cI (cntI (b ++ List.take k c.params) (c.params.getD k 0) + 1)))) (.r ((↑k :
 Int) + 1) (.g [0, 1, 2, 3, 4, 5, 6] (k + 1) [.s (li ((↑k : Int) + 1)), .o (Ob.map false kI (mI (upd1 (cntI (b ++ List.take k c.params)) (c.params.getD k 0) (cntI (b ++ List.take k
 c.params) (c.params.getD k 0) + 1)))), .o (Ob.arr true 1 (List.map intC (fre0 c b S))), .o (Ob.map (decide (fre0 c b S = [])) kI (mI (memI (fre0 c b S))))]))))))))) (.o 0 [0, 1,
 2, 3, 4, 5, 6] [.o (Ob.map false kI (mI (cntI (b ++ List.take k c.params)))), .o (Ob.arr true 1 (List.map intC (fre0 c b S))), .o (Ob.map (decide (fre0 c b S = [])) kI (mI (memI
 (fre0 c b S))))])) (by
  intro k h; try dsimp only [teasy, nthW, lc_freeIn_sLa] at h ⊢
  have g := fun L n => (cntI_le (b := L) (n := n)).2
  have g' := fun L n => (cntI_le (b := L) (n := n)).1
  have g4 := wC_eq c
  have b1 := g (b ++ c.params.take k) (c.params.getD k 0)
  have b2 := g' (b ++ c.params.take k) (c.params.getD k 0)
  have b3 : (b ++ c.params.take k).length ≤ b.length + c.params.length := by rw [List.length_append, List.length_take]; omega
  have b4 : -9223372036854775808 ≤ cntI (b ++ c.params.take k) (c.params.getD k 0) + 1 := by omega
  have b5 : cntI (b ++ c.params.take k) (c.params.getD k 0) + 1 ≤ 9223372036854775807 := by omega
  with_reducible repeat' (first | apply And.intro | exact zR | exact ih | (intro; skip) | apply mIc | apply mOc | apply mSc | apply mLc | apply c_addNum)
  all_goals (try simp only [std, inj] at *)
  all_goals with_reducible repeat' apply And.intro
  all_goals (try (first | with_reducible apply c_addNum | with_reducible apply ih | (simp only [← List.map_append]; first | with_reducible apply c_addNum | with_reducible apply ih)))
  all_goals (try (first | exact z | exact zM | grind [cntI_inc, take_get, snocI, snocS, rowSnoc])))
theorem c_freeIn_s (c : Core) (b S : List Int) (h : b.length + S.length + wC c + 1 ≤ 2147483647) (ih : ∀ z ∈ c.kids, ∀ (b : List Int) (S : List Int) (h : b.length + S.length + wC z
 + 1 ≤ 2147483647), P_c_freeIn z b S)  : P_c_freeIn c b S := fnOK Tryz.call247 Tryz.func247 (let v1 := [Ob.map false kI (mI (cntI b)), Ob.box [AC.ref 4, AC.mref 5], Ob.dead, Ob.dead,
 Ob.arr true 1 (List.map intC (fre c b S)), Ob.map (decide (fre c b S = [])) kI (mI (memI (fre c b S)))]; let v2 := [0, 1, 2, 3, 4, 5, 6]; let v3 := [0, 1, 2, 3, 5, 6]; let v4 :=
 (Ob.map (decide (fre0 c b S = [])) kI (mI (memI (fre0 c b S)))); let v5 := (Ob.arr true 1 (List.map intC (fre0 c b S))); let v6 := (Ob.map false kI (mI (cntI (b ++ c.params))));
 let v7 := (Ob.map false kI (mI (cntI b))); let v8 := (LookAt (Value.int IntKind.i64 0) (mI (cntI b)) (Value.int IntKind.i64 c.number) (cI (cntI b c.number))); let v9 :=
 (Sc_freeIn_sLc c b S h ih); let v10 := (Sc_freeIn_sLb c b S h ih); let v11 := (Sc_freeIn_sLa c b S h ih); let v12 := (Ob.map (decide (S = [])) kI (mI (memI S))); let v13 :=
 (Ob.arr true 1 (List.map intC S)); .i (c.kind = 2) (.y true (.w (.cells [cI (cntI b c.number)]) (.p v8 (.i (cntI b c.number = 0) (.d [.ptr, .rd] (P_c_addNum S c.number) (.z intC
 c.params (.l (lc_freeIn_sLa c b S) v11 [0, 1, 2, 3, 4, 8, 9] [.s (li 0), .o v7, .o (Ob.arr true 1 (List.map intC (addU S c.number))), .o (Ob.map (decide (addU S c.number = [])) kI
 (mI (memI (addU S c.number))))] 0 (.t (.z coreC c.kids (.l (lc_freeIn_sLb c b S) v10 v2 [.s (li 0), .o v5, .o v4] 0 (.t (.z intC c.params (.l (lc_freeIn_sLc c b S) v9 v3 [.s (li
 0), .o v6] 0 (.t (.f [4, 5] v1 (AV.tup [])) .q))) .q))) .q)))) (.z intC c.params (.w (.ghost (.move 2)) (.w (.ghost (.move 3)) (.l (lc_freeIn_sLa c b S) v11 v2 [.s (li 0), .o v7,
 .o v13, .o v12] 0 (.t (.z coreC c.kids (.l (lc_freeIn_sLb c b S) v10 v2 [.s (li 0), .o v5, .o v4] 0 (.t (.z intC c.params (.l (lc_freeIn_sLc c b S) v9 v3 [.s (li 0), .o v6] 0 (.t
 (.f [4, 5] v1 (AV.tup [])) .q))) .q))) .q))))))))) (.i (c.kind = 4) (.w (.cells [cI (cntI b c.number)]) (.p v8 (.i (cntI b c.number = 0) (.d [.ptr, .rd] (P_c_addNum S c.number)
 (.z intC c.params (.l (lc_freeIn_sLa c b S) v11 [0, 1, 2, 3, 4, 8, 9] [.s (li 0), .o v7, .o (Ob.arr true 1 (List.map intC (addU S c.number))), .o (Ob.map (decide (addU S c.number
 = [])) kI (mI (memI (addU S c.number))))] 0 (.t (.z coreC c.kids (.l (lc_freeIn_sLb c b S) v10 v2 [.s (li 0), .o v5, .o v4] 0 (.t (.z intC c.params (.l (lc_freeIn_sLc c b S) v9 v3
 [.s (li 0), .o v6] 0 (.t (.f [4, 5] v1 (AV.tup [])) .q))) .q))) .q)))) (.z intC c.params (.w (.ghost (.move 2)) (.w (.ghost (.move 3)) (.l (lc_freeIn_sLa c b S) v11 v2 [.s (li 0),
 .o v7, .o v13, .o v12] 0 (.t (.z coreC c.kids (.l (lc_freeIn_sLb c b S) v10 v2 [.s (li 0), .o v5, .o v4] 0 (.t (.z intC c.params (.l (lc_freeIn_sLc c b S) v9 v3 [.s (li 0), .o v6]
 0 (.t (.f [4, 5] v1 (AV.tup [])) .q))) .q))) .q)))))))) (.y false (.z intC c.params (.w (.ghost (.move 2)) (.w (.ghost (.move 3)) (.l (lc_freeIn_sLa c b S) v11 v2 [.s (li 0), .o
 v7, .o v13, .o v12] 0 (.t (.z coreC c.kids (.l (lc_freeIn_sLb c b S) v10 v2 [.s (li 0), .o v5, .o v4] 0 (.t (.z intC c.params (.l (lc_freeIn_sLc c b S) v9 v3 [.s (li 0), .o v6] 0
 (.t (.f [4, 5] v1 (AV.tup [])) .q))) .q))) .q)))))))) (by
  dsimp only [teasy, P_c_freeIn, nthW, lc_freeIn_sLa, lc_freeIn_sLb, lc_freeIn_sLc]
  with_reducible repeat' (first | apply And.intro | exact zR | exact ih | (intro; skip) | apply mIc | apply mOc | apply mSc | apply mLc | apply c_addNum)
  all_goals (try simp only [std, inj] at *)
  all_goals with_reducible repeat' apply And.intro
  all_goals (try (first | with_reducible apply c_addNum | with_reducible apply ih | (simp only [← List.map_append]; first | with_reducible apply c_addNum | with_reducible apply ih)))
  all_goals (try (first | exact z | exact zM | grind [cntI_zero, fre0, snocI, snocS, rowSnoc])))
theorem c_freeIn (c : Core) : ∀ (b : List Int) (S : List Int) (h : b.length + S.length + wC c + 1 ≤ 2147483647), P_c_freeIn c b S := Core.ind (P := fun c => ∀ (b : List Int) (S : List Int) (h : b.length + S.length + wC c + 1 ≤ 2147483647), P_c_freeIn c b S) (fun c ih b S h => c_freeIn_s c b S h ih) c
abbrev P_c_sHas (L : List Int) (n : Int) : Ct := ⟨129, [], [ll (L.map intC), li n], [], .sv (lb (decide (n ∈ L)))⟩
def lc_sHasLa (L : List Int) (n : Int) : Lp Nat := .mk 17 0 (fun x => [(1, li n), (7, ll (List.map intC L)), (8, li (↑(List.map intC L).length : Int)), (9, hs x 0)]) (fun x => [])
 (fun k => [.s (li (↑k : Int))]) (fun k => k ≤ L.length ∧ L.length ≤ 9223372036854775807 ∧ ¬n ∈ List.take k L) (fun k => L.length - k) [.mk (¬n ∈ L) (.exit 0) (fun x => []) (fun x
 => []) [], .mk (n ∈ L) .ret (fun x => [(4, hs x 0)]) (fun x => []) [.s (lb true)]]
theorem Sc_sHasLa (L : List Int) (n : Int) : Lp.Sem Tryz.prog (loopAt Tryz.f129 0) (lc_sHasLa L n) := lpOK (fun k => .i ((↑k : Int) < (↑(List.map intC L).length : Int)) (.x (↑k :
 Int) (List.map intC L) [cI (L.getD k 0)] (.i (L.getD k 0 = n) (.o 1 [] [.s (lb true)]) (.r ((↑k : Int) + 1) (.g [] (k + 1) [.s (li ((↑k : Int) + 1))])))) (.o 0 [] [])) (by
  intro k h; try dsimp only [teasy, nthW, lc_sHasLa] at h ⊢
  with_reducible repeat' (first | apply And.intro | exact zR | (intro; skip) | apply mIc | apply mOc | apply mSc | apply mLc)
  all_goals (try simp only [std, inj] at *)
  all_goals with_reducible repeat' apply And.intro
  all_goals (try (first | exact z | exact zM | grind [take_get, getD_mem', snocI, snocS, rowSnoc])))
theorem c_sHas (L : List Int) (n : Int)  : P_c_sHas L n := fnOK Tryz.call129 Tryz.func129 (.z intC L (.l (lc_sHasLa L n) (Sc_sHasLa L n) [] [.s (li 0)] 0 (.t (.s (lb false)) (.t (.s
 (lb true)) .q)))) (by
  dsimp only [teasy, P_c_sHas, nthW, lc_sHasLa]
  with_reducible repeat' (first | apply And.intro | exact zR | (intro; skip) | apply mIc | apply mOc | apply mSc | apply mLc)
  all_goals (try simp only [std, inj] at *)
  all_goals with_reducible repeat' apply And.intro
  all_goals (try (first | exact z | exact zM | grind [snocI, snocS, rowSnoc])))
abbrev P_c_l2Ints (L : List Int) : Ct := ⟨61, [], [ll (L.map intC)], [.arr true 1 (L.map intC)], .sv (.one (.ref 0))⟩
theorem c_l2Ints (L : List Int) (h : L.length ≤ 2147483647)  : P_c_l2Ints L := fnOK Tryz.call61 Tryz.func61 (.w (.bool false) (.p (∀ (e : List Cell), e ∈ List.map intC L → ∀ (c :
 Cell), c ∈ e → ∃ v, c = Cell.lit v) (.p (∀ (e : List Cell), e ∈ List.map intC L → e.length = 1) (.p ((0 + (List.map intC L).length) * 8 ≤ 140737488355328) (.f [1] [Ob.arr true 1
 (List.map intC L)] (AV.sv (SV.one (AC.ref 0)))))))) (by
  dsimp only [teasy, P_c_l2Ints]
  with_reducible repeat' (first | apply And.intro | exact zR | (intro; skip) | apply mIc | apply mOc | apply mSc | apply mLc)
  all_goals (try simp only [std, inj] at *)
  all_goals with_reducible repeat' apply And.intro
  all_goals (try (first | exact z | exact zM | grind [snocI, snocS, rowSnoc])))
abbrev P_c_l5Names (c : Core) : Ct := ⟨252, [], [coreA c], [], .sv (lb (decide (c.kind = 2 ∨ c.kind = 4)))⟩
theorem c_l5Names (c : Core)  : P_c_l5Names c := fnOK Tryz.call252 Tryz.func252 (.i (c.kind = 2) (.s (lb true)) (.s (lb (decide (c.kind = 4))))) (by
  dsimp only [teasy, P_c_l5Names]
  with_reducible repeat' (first | apply And.intro | exact zR | (intro; skip) | apply mIc | apply mOc | apply mSc | apply mLc)
  all_goals (try simp only [std, inj] at *)
  all_goals with_reducible repeat' apply And.intro
  all_goals (try (first | exact z | exact zM | grind [snocI, snocS, rowSnoc])))
abbrev P_c_l5Free (c : Core) (b : List Int) (S : List Int) : Ct := ⟨243, [.arr true 1 (S.map intC)], [coreA c, ll (b.map intC), .one (.ref 0)], [.dead, .arr true 1 ((fre c b S).map intC)], .sv (.one (.ref 1))⟩
def lc_l5Free_sLa (c : Core) (b : List Int) (S : List Int) : Lp Nat := .mk 48 1 (fun x => [(1, SV.one (AC.ref 1)), (2, SV.one (AC.ref 2)), (36, ll (List.map coreC c.kids)), (37, li
 (↑(List.map coreC c.kids).length : Int)), (38, hs x 0)]) (fun x => [Ob.dead, Ob.arr true 1 (List.map intC b ++ List.map intC c.params), ho x 1]) (fun k => [.s (li (↑k : Int)), .o
 (Ob.arr true 1 (List.map intC (List.foldl (fun o x => fre x (b ++ c.params) o) (fre0 c b S) (List.take k c.kids))))]) (fun k => k ≤ c.kids.length ∧ c.kids.length ≤
 9223372036854775807) (fun k => c.kids.length - k) [.mk True (.exit 0) (fun x => [(2, SV.one (AC.ref 1))]) (fun x => [Ob.dead, ho x 0]) [.o (Ob.arr true 1 (List.map intC (fre c b
 S)))]]
theorem Sc_l5Free_sLa (c : Core) (b : List Int) (S : List Int) (h : b.length + S.length + wC c + 1 ≤ 2147483647) (ih : ∀ (z : Core), z ∈ c.kids → ∀ (b S : List Int), b.length +
 S.length + wC z + 1 ≤ 2147483647 → OK (P_c_l5Free z b S)) : Lp.Sem Tryz.prog (loopAt Tryz.f243 0) (lc_l5Free_sLa c b S) := lpOK (fun k => .i ((↑k : Int) < (↑(List.map coreC
 c.kids).length : Int)) (.x (↑k : Int) (List.map coreC c.kids) (coreF (c.kids.getD k default)) (.u [.rd, .rd, .own true 1] (P_c_l5Free (c.kids.getD k default) (b ++ c.params)
 (List.foldl (fun o x => fre x (b ++ c.params) o) (fre0 c b S) (List.take k c.kids))) (.p (CallOK Tryz.prog 243 [Ob.arr true 1 (List.map intC (List.foldl (fun o x => fre x (b ++
 c.params) o) (fre0 c b S) (List.take k c.kids)))] [SV.agg (vals (coreF (c.kids.getD k default))), ll (List.map intC b ++ List.map intC c.params), SV.one (AC.ref 0)] [Ob.dead,
 Ob.arr true 1 (List.map intC (fre (c.kids.getD k default) (b ++ c.params) (List.foldl (fun o x => fre x (b ++ c.params) o) (fre0 c b S) (List.take k c.kids))))] (AV.sv (SV.one
 (AC.ref 1)))) (.r ((↑k : Int) + 1) (.g [0, 1, 5] (k + 1) [.s (li ((↑k : Int) + 1)), .o (Ob.arr true 1 (List.map intC (fre (c.kids.getD k default) (b ++ c.params) (List.foldl (fun
 o x => fre x (b ++ c.params) o) (fre0 c b S) (List.take k c.kids)))))]))))) (.o 0 [0, 2] [.o (Ob.arr true 1 (List.map intC (List.foldl (fun o x => fre x (b ++ c.params) o) (fre0 c
 b S) (List.take k c.kids))))])) (by
  intro k h; try dsimp only [teasy, nthW, lc_l5Free_sLa] at h ⊢
  have g1 := foldl_len (fun o x => fre x (b ++ c.params) o) wC (c.kids.take k) (fun y _ o => fre_len y _ o) (fre0 c b S)
  have g2 := fre0_len c b S
  have g3 := sumBy_takeLe wC c.kids (k + 1)
  have g4 := wC_eq c
  with_reducible repeat' (first | apply And.intro | exact zR | exact ih | (intro; skip) | apply mIc | apply mOc | apply mSc | apply mLc | apply c_sHas | apply c_l2Ints | apply c_l5Names | apply ih)
  all_goals (try simp only [std, inj] at *)
  all_goals with_reducible repeat' apply And.intro
  all_goals (try (first | with_reducible apply c_sHas | with_reducible apply c_l2Ints | with_reducible apply c_l5Names | with_reducible apply ih | (simp only [← List.map_append]; first | with_reducible apply c_sHas | with_reducible apply c_l2Ints | with_reducible apply c_l5Names | with_reducible apply ih)))
  all_goals (try (first | exact z | exact zM | grind [fre_eq, foldl_step, getD_mem', sumBy_step, snocI, snocS, rowSnoc])))
theorem c_l5Free_s (c : Core) (b S : List Int) (h : b.length + S.length + wC c + 1 ≤ 2147483647) (ih : ∀ z ∈ c.kids, ∀ (b : List Int) (S : List Int) (h : b.length + S.length + wC z
 + 1 ≤ 2147483647), P_c_l5Free z b S)  : P_c_l5Free c b S := fnOK Tryz.call243 Tryz.func243 (.c [.rd] (c_l5Names c) (.i (c.kind = 2 ∨ c.kind = 4) (.c [.rd, .rd] (c_sHas b c.number)
 (.b (!decide (c.number ∈ b)) (.c [.rd, .rd] (c_sHas S c.number) (.b (!decide (c.number ∈ S)) (.p (((List.map intC S).length + 1) * 8 ≤ 140737488355328) (.w (.draw [(4, [4])]) (.d
 [.rd] (P_c_l2Ints b) (.p (∀ (e : List Cell), e ∈ List.map intC c.params → ∀ (c : Cell), c ∈ e → ∃ v, c = Cell.lit v) (.p (∀ (e : List Cell), e ∈ List.map intC c.params → e.length
 = 1) (.p (((List.map intC b).length + (List.map intC c.params).length) * 8 ≤ 140737488355328) (.z coreC c.kids (.l (lc_l5Free_sLa c b S) (Sc_l5Free_sLa c b S h ih) [0, 12, 3] [.s
 (li 0), .o (Ob.arr true 1 (List.map intC S ++ [[cI c.number]]))] 0 (.t (.f [1] [Ob.dead, Ob.arr true 1 (List.map intC (fre c b S))] (AV.sv (SV.one (AC.ref 1)))) .q))))))))) (.w
 (.draw [(4, [2])]) (.d [.rd] (P_c_l2Ints b) (.p (∀ (e : List Cell), e ∈ List.map intC c.params → ∀ (c : Cell), c ∈ e → ∃ v, c = Cell.lit v) (.p (∀ (e : List Cell), e ∈ List.map
 intC c.params → e.length = 1) (.p (((List.map intC b).length + (List.map intC c.params).length) * 8 ≤ 140737488355328) (.z coreC c.kids (.w (.ghost (.move 0)) (.l (lc_l5Free_sLa c
 b S) (Sc_l5Free_sLa c b S h ih) [0, 10, 11] [.s (li 0), .o (Ob.arr true 1 (List.map intC S))] 0 (.t (.f [1] [Ob.dead, Ob.arr true 1 (List.map intC (fre c b S))] (AV.sv (SV.one
 (AC.ref 1)))) .q))))))))))) (.y false (.w (.draw [(4, [2])]) (.d [.rd] (P_c_l2Ints b) (.p (∀ (e : List Cell), e ∈ List.map intC c.params → ∀ (c : Cell), c ∈ e → ∃ v, c = Cell.lit
 v) (.p (∀ (e : List Cell), e ∈ List.map intC c.params → e.length = 1) (.p (((List.map intC b).length + (List.map intC c.params).length) * 8 ≤ 140737488355328) (.z coreC c.kids (.w
 (.ghost (.move 0)) (.l (lc_l5Free_sLa c b S) (Sc_l5Free_sLa c b S h ih) [0, 10, 11] [.s (li 0), .o (Ob.arr true 1 (List.map intC S))] 0 (.t (.f [1] [Ob.dead, Ob.arr true 1
 (List.map intC (fre c b S))] (AV.sv (SV.one (AC.ref 1)))) .q)))))))))))) (.y false (.y false (.w (.draw [(4, [2])]) (.d [.rd] (P_c_l2Ints b) (.p (∀ (e : List Cell), e ∈ List.map
 intC c.params → ∀ (c : Cell), c ∈ e → ∃ v, c = Cell.lit v) (.p (∀ (e : List Cell), e ∈ List.map intC c.params → e.length = 1) (.p (((List.map intC b).length + (List.map intC
 c.params).length) * 8 ≤ 140737488355328) (.z coreC c.kids (.w (.ghost (.move 0)) (.l (lc_l5Free_sLa c b S) (Sc_l5Free_sLa c b S h ih) [0, 10, 11] [.s (li 0), .o (Ob.arr true 1
 (List.map intC S))] 0 (.t (.f [1] [Ob.dead, Ob.arr true 1 (List.map intC (fre c b S))] (AV.sv (SV.one (AC.ref 1)))) .q))))))))))))) (by
  dsimp only [teasy, P_c_l5Free, nthW, lc_l5Free_sLa]
  have g4 := wC_eq c
  with_reducible repeat' (first | apply And.intro | exact zR | exact ih | (intro; skip) | apply mIc | apply mOc | apply mSc | apply mLc | apply c_l2Ints)
  all_goals (try simp only [std, inj] at *)
  all_goals with_reducible repeat' apply And.intro
  all_goals (try (first | with_reducible apply c_l2Ints | with_reducible apply ih | (simp only [← List.map_append]; first | with_reducible apply c_l2Ints | with_reducible apply ih)))
  all_goals (try (first | exact z | exact zM | grind [fre0, addU, snocI, snocS, rowSnoc])))
theorem c_l5Free (c : Core) : ∀ (b : List Int) (S : List Int) (h : b.length + S.length + wC c + 1 ≤ 2147483647), P_c_l5Free c b S := Core.ind (P := fun c => ∀ (b : List Int) (S : List Int) (h : b.length + S.length + wC c + 1 ≤ 2147483647), P_c_l5Free c b S) (fun c ih b S h => c_l5Free_s c b S h ih) c
abbrev P_c_sFree (c : Core) : Ct := ⟨225, [], [coreA c], [.arr true 1 ((fre c [] []).map intC)], .sv (.one (.ref 0))⟩
theorem c_sFree (c : Core) (h : wC c ≤ 2147483600)  : P_c_sFree c := fnOK Tryz.call225 Tryz.func225 (.w (.bool false) (.d [.rd, .rd, .own true 1] (P_c_l5Free c [] []) (.f [3] [Ob.arr
 true 1 (List.map intC (fre c [] []))] (AV.sv (SV.one (AC.ref 0)))))) (by
  dsimp only [teasy, P_c_sFree]
  with_reducible repeat' (first | apply And.intro | exact zR | (intro; skip) | apply mIc | apply mOc | apply mSc | apply mLc | apply c_l5Free)
  all_goals (try simp only [std, inj] at *)
  all_goals with_reducible repeat' apply And.intro
  all_goals (try (first | with_reducible apply c_l5Free | (simp only [← List.map_append]; first | with_reducible apply c_l5Free)))
  all_goals (try (first | exact z | exact zM | grind [snocI, snocS, rowSnoc])))
abbrev P_c_iFree (c : Core) : Ct := ⟨231, [], [coreA c], [.arr true 1 ((fre c [] []).map intC)], .sv (.one (.ref 0))⟩
theorem c_iFree (c : Core) (h : wC c ≤ 2147483600)  : P_c_iFree c := fnOK Tryz.call231 Tryz.func231 (.w (.mkmap kI) (.w (.ghost (.nilbox 1 0 true 1)) (.w (.ghost (.nilmbox 1 1 kI))
 (.d [.rd, .map, .ptr] (P_c_freeIn c [] []) (.f [9] [Ob.arr true 1 (List.map intC (fre c [] []))] (AV.sv (SV.one (AC.ref 0)))))))) (by
  dsimp only [teasy, P_c_iFree]
  with_reducible repeat' (first | apply And.intro | exact zR | (intro; skip) | apply mIc | apply mOc | apply mSc | apply mLc | apply c_freeIn)
  all_goals (try simp only [std, inj] at *)
  all_goals with_reducible repeat' apply And.intro
  all_goals (try (first | with_reducible apply c_freeIn | (simp only [← List.map_append]; first | with_reducible apply c_freeIn)))
  all_goals (try (first | exact z | exact zM | grind [snocI, snocS, rowSnoc])))
end Go.Proofs.YtclpofblehlojaaGreat
end
section
namespace Go.Proofs.YtclpofblehlojaaGreat
open Go Go.Proofs.YtclpofblehlojaaGreat.Ab
set_option linter.unusedVariables false
set_option linter.unusedSimpArgs false
set_option maxHeartbeats 4000000
def formNames : List ByteArray := [mkS [113, 117, 111, 116, 101], mkS [108, 97, 109, 98, 100, 97], mkS [105, 102], mkS [115, 101, 116, 33], mkS [98, 101, 103, 105, 110], mkS [114, 101, 115, 101, 116], mkS [115, 104, 105, 102, 116], mkS [100, 101, 102, 105, 110, 101], mkS [100, 101, 102, 105, 110, 101, 45, 115, 121, 110, 116, 97, 120], mkS [108, 101, 116, 45, 115, 121, 110, 116, 97, 120], mkS [115, 121, 110, 116, 97, 120, 45, 114, 117, 108, 101, 115], mkS [108, 111, 99, 97, 108]]
def primNames : List ByteArray := [mkS [43], mkS [45], mkS [42], mkS [61], mkS [60], mkS [99, 111, 110, 115], mkS [99, 97, 114], mkS [99, 100, 114], mkS [110, 117, 108, 108, 63], mkS [112, 97, 105, 114, 63], mkS [110, 117, 109, 98, 101, 114, 63], mkS [101, 113, 63], mkS [110, 111, 116], mkS [100, 105, 115, 112, 108, 97, 121]]
abbrev P_c_sFormNames  : Ct := ⟨153, [], [], [.arr true 1 (formNames.map strC)], .sv (.one (.ref 0))⟩
theorem c_sFormNames   : P_c_sFormNames := fnOK Tryz.call153 Tryz.func153 (.f [0] [Ob.arr true 1 [[cS (ByteArray.mk #[(113 : UInt8), (117 : UInt8), (111 : UInt8), (116 : UInt8), (101
 : UInt8)])], [cS (ByteArray.mk #[(108 : UInt8), (97 : UInt8), (109 : UInt8), (98 : UInt8), (100 : UInt8), (97 : UInt8)])], [cS (ByteArray.mk #[(105 : UInt8), (102 : UInt8)])], [cS
 (ByteArray.mk #[(115 : UInt8), (101 : UInt8), (116 : UInt8), (33 : UInt8)])], [cS (ByteArray.mk #[(98 : UInt8), (101 : UInt8), (103 : UInt8), (105 : UInt8), (110 : UInt8)])], [cS
 (ByteArray.mk #[(114 : UInt8), (101 : UInt8), (115 : UInt8), (101 : UInt8), (116 : UInt8)])], [cS (ByteArray.mk #[(115 : UInt8), (104 : UInt8), (105 : UInt8), (102 : UInt8), (116
 : UInt8)])], [cS (ByteArray.mk #[(100 : UInt8), (101 : UInt8), (102 : UInt8), (105 : UInt8), (110 : UInt8), (101 : UInt8)])], [cS (ByteArray.mk #[(100 : UInt8), (101 : UInt8),
 (102 : UInt8), (105 : UInt8), (110 : UInt8), (101 : UInt8), (45 : UInt8), (115 : UInt8), (121 : UInt8), (110 : UInt8), (116 : UInt8), (97 : UInt8), (120 : UInt8)])], [cS
 (ByteArray.mk #[(108 : UInt8), (101 : UInt8), (116 : UInt8), (45 : UInt8), (115 : UInt8), (121 : UInt8), (110 : UInt8), (116 : UInt8), (97 : UInt8), (120 : UInt8)])], [cS
 (ByteArray.mk #[(115 : UInt8), (121 : UInt8), (110 : UInt8), (116 : UInt8), (97 : UInt8), (120 : UInt8), (45 : UInt8), (114 : UInt8), (117 : UInt8), (108 : UInt8), (101 : UInt8),
 (115 : UInt8)])], [cS (ByteArray.mk #[(108 : UInt8), (111 : UInt8), (99 : UInt8), (97 : UInt8), (108 : UInt8)])]]] (AV.sv (SV.one (AC.ref 0)))) (by
  dsimp only [teasy, P_c_sFormNames]
  with_reducible repeat' (first | apply And.intro | exact zR | (intro; skip))
  all_goals (try simp only [std, inj] at *)
  all_goals with_reducible repeat' apply And.intro
  all_goals (try (first | exact z | grind [snocI, snocS, rowSnoc]))
  all_goals rfl)
abbrev P_c_sPrimitiveNames  : Ct := ⟨154, [], [], [.arr true 1 (primNames.map strC)], .sv (.one (.ref 0))⟩
theorem c_sPrimitiveNames   : P_c_sPrimitiveNames := fnOK Tryz.call154 Tryz.func154 (.f [0] [Ob.arr true 1 [[cS (ByteArray.mk #[(43 : UInt8)])], [cS (ByteArray.mk #[(45 : UInt8)])],
 [cS (ByteArray.mk #[(42 : UInt8)])], [cS (ByteArray.mk #[(61 : UInt8)])], [cS (ByteArray.mk #[(60 : UInt8)])], [cS (ByteArray.mk #[(99 : UInt8), (111 : UInt8), (110 : UInt8), (115
 : UInt8)])], [cS (ByteArray.mk #[(99 : UInt8), (97 : UInt8), (114 : UInt8)])], [cS (ByteArray.mk #[(99 : UInt8), (100 : UInt8), (114 : UInt8)])], [cS (ByteArray.mk #[(110 :
 UInt8), (117 : UInt8), (108 : UInt8), (108 : UInt8), (63 : UInt8)])], [cS (ByteArray.mk #[(112 : UInt8), (97 : UInt8), (105 : UInt8), (114 : UInt8), (63 : UInt8)])], [cS
 (ByteArray.mk #[(110 : UInt8), (117 : UInt8), (109 : UInt8), (98 : UInt8), (101 : UInt8), (114 : UInt8), (63 : UInt8)])], [cS (ByteArray.mk #[(101 : UInt8), (113 : UInt8), (63 :
 UInt8)])], [cS (ByteArray.mk #[(110 : UInt8), (111 : UInt8), (116 : UInt8)])], [cS (ByteArray.mk #[(100 : UInt8), (105 : UInt8), (115 : UInt8), (112 : UInt8), (108 : UInt8), (97 :
 UInt8), (121 : UInt8)])]]] (AV.sv (SV.one (AC.ref 0)))) (by
  dsimp only [teasy, P_c_sPrimitiveNames]
  with_reducible repeat' (first | apply And.intro | exact zR | (intro; skip))
  all_goals (try simp only [std, inj] at *)
  all_goals with_reducible repeat' apply And.intro
  all_goals (try (first | exact z | grind [snocI, snocS, rowSnoc]))
  all_goals rfl)
abbrev P_c_iFormNames  : Ct := ⟨164, [], [], [.arr true 1 (formNames.map strC)], .sv (.one (.ref 0))⟩
theorem c_iFormNames   : P_c_iFormNames := fnOK Tryz.call164 Tryz.func164 (.f [0] [Ob.arr true 1 [[cS (ByteArray.mk #[(113 : UInt8), (117 : UInt8), (111 : UInt8), (116 : UInt8), (101
 : UInt8)])], [cS (ByteArray.mk #[(108 : UInt8), (97 : UInt8), (109 : UInt8), (98 : UInt8), (100 : UInt8), (97 : UInt8)])], [cS (ByteArray.mk #[(105 : UInt8), (102 : UInt8)])], [cS
 (ByteArray.mk #[(115 : UInt8), (101 : UInt8), (116 : UInt8), (33 : UInt8)])], [cS (ByteArray.mk #[(98 : UInt8), (101 : UInt8), (103 : UInt8), (105 : UInt8), (110 : UInt8)])], [cS
 (ByteArray.mk #[(114 : UInt8), (101 : UInt8), (115 : UInt8), (101 : UInt8), (116 : UInt8)])], [cS (ByteArray.mk #[(115 : UInt8), (104 : UInt8), (105 : UInt8), (102 : UInt8), (116
 : UInt8)])], [cS (ByteArray.mk #[(100 : UInt8), (101 : UInt8), (102 : UInt8), (105 : UInt8), (110 : UInt8), (101 : UInt8)])], [cS (ByteArray.mk #[(100 : UInt8), (101 : UInt8),
 (102 : UInt8), (105 : UInt8), (110 : UInt8), (101 : UInt8), (45 : UInt8), (115 : UInt8), (121 : UInt8), (110 : UInt8), (116 : UInt8), (97 : UInt8), (120 : UInt8)])], [cS
 (ByteArray.mk #[(108 : UInt8), (101 : UInt8), (116 : UInt8), (45 : UInt8), (115 : UInt8), (121 : UInt8), (110 : UInt8), (116 : UInt8), (97 : UInt8), (120 : UInt8)])], [cS
 (ByteArray.mk #[(115 : UInt8), (121 : UInt8), (110 : UInt8), (116 : UInt8), (97 : UInt8), (120 : UInt8), (45 : UInt8), (114 : UInt8), (117 : UInt8), (108 : UInt8), (101 : UInt8),
 (115 : UInt8)])], [cS (ByteArray.mk #[(108 : UInt8), (111 : UInt8), (99 : UInt8), (97 : UInt8), (108 : UInt8)])]]] (AV.sv (SV.one (AC.ref 0)))) (by
  dsimp only [teasy, P_c_iFormNames]
  with_reducible repeat' (first | apply And.intro | exact zR | (intro; skip))
  all_goals (try simp only [std, inj] at *)
  all_goals with_reducible repeat' apply And.intro
  all_goals (try (first | exact z | grind [snocI, snocS, rowSnoc]))
  all_goals rfl)
abbrev P_c_iPrimitiveNames  : Ct := ⟨165, [], [], [.arr true 1 (primNames.map strC)], .sv (.one (.ref 0))⟩
theorem c_iPrimitiveNames   : P_c_iPrimitiveNames := fnOK Tryz.call165 Tryz.func165 (.f [0] [Ob.arr true 1 [[cS (ByteArray.mk #[(43 : UInt8)])], [cS (ByteArray.mk #[(45 : UInt8)])],
 [cS (ByteArray.mk #[(42 : UInt8)])], [cS (ByteArray.mk #[(61 : UInt8)])], [cS (ByteArray.mk #[(60 : UInt8)])], [cS (ByteArray.mk #[(99 : UInt8), (111 : UInt8), (110 : UInt8), (115
 : UInt8)])], [cS (ByteArray.mk #[(99 : UInt8), (97 : UInt8), (114 : UInt8)])], [cS (ByteArray.mk #[(99 : UInt8), (100 : UInt8), (114 : UInt8)])], [cS (ByteArray.mk #[(110 :
 UInt8), (117 : UInt8), (108 : UInt8), (108 : UInt8), (63 : UInt8)])], [cS (ByteArray.mk #[(112 : UInt8), (97 : UInt8), (105 : UInt8), (114 : UInt8), (63 : UInt8)])], [cS
 (ByteArray.mk #[(110 : UInt8), (117 : UInt8), (109 : UInt8), (98 : UInt8), (101 : UInt8), (114 : UInt8), (63 : UInt8)])], [cS (ByteArray.mk #[(101 : UInt8), (113 : UInt8), (63 :
 UInt8)])], [cS (ByteArray.mk #[(110 : UInt8), (111 : UInt8), (116 : UInt8)])], [cS (ByteArray.mk #[(100 : UInt8), (105 : UInt8), (115 : UInt8), (112 : UInt8), (108 : UInt8), (97 :
 UInt8), (121 : UInt8)])]]] (AV.sv (SV.one (AC.ref 0)))) (by
  dsimp only [teasy, P_c_iPrimitiveNames]
  with_reducible repeat' (first | apply And.intro | exact zR | (intro; skip))
  all_goals (try simp only [std, inj] at *)
  all_goals with_reducible repeat' apply And.intro
  all_goals (try (first | exact z | grind [snocI, snocS, rowSnoc]))
  all_goals rfl)
end Go.Proofs.YtclpofblehlojaaGreat
end
section
namespace Go.Proofs.YtclpofblehlojaaGreat
open Go Go.Proofs.YtclpofblehlojaaGreat.Ab
set_option linter.unusedVariables false
set_option linter.unusedSimpArgs false
set_option maxHeartbeats 4000000
def lintC (l : List Int) : List Cell := [.list (l.map intC)]
def lintF (l : List Int) : List Cell := [.list (l.map intC)]
instance : Row (List Int) lintC lintF 1 := ⟨fun _ => rfl, fun _ => rfl⟩
theorem takeI {L : List Int} {k : Nat} (h : k < L.length) : L.take (k + 1) = L.take k ++ [L.getD k 0] := take_get h
theorem takeLs {L : List (List Int)} {k : Nat} (h : k < L.length) : (L.take (k + 1)).flatten = (L.take k).flatten ++ L.getD k [] := by
  rw [take_get h, List.flatten_append]; simp; rfl
theorem okU_flat {L : List (List Int)} {k : Nat} (h : okU L.flatten = true) : okU (L.take k).flatten = true := by
  rw [← List.take_append_drop k L, List.flatten_append] at h; exact okU_left h
theorem okU_part {L : List (List Int)} {k j : Nat} (hk : k < L.length) (h : okU L.flatten = true) : okU ((L.take k).flatten ++ (L.getD k []).take j) = true := by
  have h1 := okU_flat (k := k + 1) h
  rw [takeLs hk] at h1
  have h2 : (L.take k).flatten ++ L.getD k [] = ((L.take k).flatten ++ (L.getD k []).take j) ++ (L.getD k []).drop j := by rw [List.append_assoc, List.take_append_drop]
  rw [h2] at h1; exact okU_left h1
theorem memI_one {S : List Int} {n : Int} : memI S n = 1 ↔ n ∈ S := by simp only [memI]; grind
mutual
def bnd : Core → List Int
  | ⟨_, _, p, _, l⟩ => p ++ bnds l
def bnds : List Core → List Int
  | [] => []
  | x :: r => bnd x ++ bnds r
end
theorem bnds_eq : ∀ l, bnds l = l.flatMap bnd
  | [] => by simp [bnds]
  | x :: r => by rw [bnds, bnds_eq r]; simp
theorem bnd_eq (x : Core) : bnd x = x.params ++ x.kids.flatMap bnd := by cases x; simp only [bnd, bnds_eq]
theorem bnd_le : ∀ c : Core, (bnd c).length ≤ wC c := by
  refine Core.ind fun c ih => ?_
  have h : ∀ L : List Core, (∀ y ∈ L, (bnd y).length ≤ wC y) → (L.flatMap bnd).length ≤ sumBy wC L := by
    intro L
    induction L with
    | nil => intro _; simp
    | cons x r ihr =>
      intro hL
      have h1 := hL x List.mem_cons_self
      have h2 := ihr fun y hy => hL y (List.mem_cons_of_mem _ hy)
      simp only [List.flatMap_cons, List.length_append, sumBy]; omega
  have := h c.kids ih
  rw [bnd_eq, wC_eq, List.length_append]; omega
mutual
def depC : Core → Nat
  | ⟨_, _, _, _, l⟩ => depCs l + 1
def depCs : List Core → Nat
  | [] => 0
  | c :: r => max (depC c) (depCs r)
end
theorem depCs_eq : ∀ l, depCs l = maxBy depC l
  | [] => by simp [depCs, maxBy]
  | c :: r => by rw [depCs, maxBy, depCs_eq r]
theorem depC_eq (c : Core) : depC c = maxBy depC c.kids + 1 := by cases c; simp only [depC, depCs_eq]
mutual
def sizeC : Core → Nat
  | ⟨_, _, _, _, l⟩ => sizeCs l + 1
def sizeCs : List Core → Nat
  | [] => 0
  | c :: r => sizeC c + sizeCs r
end
theorem sizeCs_eq : ∀ l, sizeCs l = sumBy sizeC l
  | [] => by simp [sizeCs, sumBy]
  | c :: r => by rw [sizeCs, sumBy, sizeCs_eq r]
theorem sizeC_eq (c : Core) : sizeC c = sumBy sizeC c.kids + 1 := by cases c; simp only [sizeC, sizeCs_eq]
theorem depC_le : ∀ c : Core, depC c ≤ sizeC c := by
  refine Core.ind fun c ih => ?_
  have := maxBy_sum ih
  rw [sizeC_eq, depC_eq]; omega
def shC (c : Core) : Bool :=
  (decide (c.kind = 1) || decide (c.datum = ⟨0, 0, mkS [], []⟩)) && (decide (c.number = 0) || decide (c.kind = 2 ∨ c.kind = 4) || decide (c.kind = 3)) &&
  (if c.kind = 1 then decide ((c.kids.length : Int) = 0) && decide ((c.params.length : Int) = 0) && isDat c.datum
   else if c.kind = 2 then decide ((c.kids.length : Int) = 0) && decide ((c.params.length : Int) = 0)
   else if c.kind = 3 then decide ((c.kids.length : Int) = 0) && decide ((c.params.length : Int) = 0) && decide (0 ≤ c.number ∧ c.number ≤ 13)
   else if c.kind = 4 then decide ((c.kids.length : Int) = 1) && decide ((c.params.length : Int) = 0)
   else if c.kind = 5 then decide ((c.kids.length : Int) = 1) && decide ((c.params.length : Int) ≤ 8)
   else if c.kind = 6 then decide (1 ≤ (c.kids.length : Int) ∧ (c.kids.length : Int) ≤ 9) && decide ((c.params.length : Int) = 0)
   else if c.kind = 7 then decide ((c.kids.length : Int) = 3) && decide ((c.params.length : Int) = 0)
   else if c.kind = 8 then decide (2 ≤ (c.kids.length : Int) ∧ (c.kids.length : Int) ≤ 60) && decide ((c.params.length : Int) = 0)
   else if c.kind = 9 then decide (1 ≤ (c.kids.length : Int) ∧ (c.kids.length : Int) ≤ 60) && decide (1 ≤ (c.params.length : Int) ∧ (c.params.length : Int) ≤ 60)
   else if c.kind = 10 then decide ((c.kids.length : Int) = 1) && decide ((c.params.length : Int) = 0)
   else if c.kind = 11 then decide ((c.kids.length : Int) = 1) && decide ((c.params.length : Int) = 1)
   else false)
def sqC (c x : Core) : Bool := !(decide (c.kind = 8) && decide (x.kind = 8))
def shI (c : Core) : Bool := shC c && c.kids.all (sqC c)
mutual
def okC : Core → Bool
  | c@⟨_, _, _, _, l⟩ => okCs l && shI c
def okCs : List Core → Bool
  | [] => true
  | c :: r => okC c && okCs r
end
theorem okCs_eq : ∀ l, okCs l = l.all okC
  | [] => by simp [okCs]
  | c :: r => by rw [okCs, okCs_eq r]; rfl
theorem okC_eq (c : Core) : okC c = (c.kids.all okC && shI c) := by cases c; simp only [okC, okCs_eq]
mutual
def meaC : Core → Int → Int → Bool × Int
  | c@⟨_, _, _, _, l⟩, deep, m => if deep ≤ 150 ∧ m + 1 ≤ 3000 ∧ shI c = true then meaCs l (deep + 1) (m + 1) else (false, m + 1)
def meaCs : List Core → Int → Int → Bool × Int
  | [], _, m => (true, m)
  | x :: r, deep, m => if (meaC x deep m).1 then meaCs r deep (meaC x deep m).2 else (false, (meaC x deep m).2)
end
theorem meaCs_eq : ∀ l deep m, meaCs l deep m = scan (fun x m => meaC x deep m) l m
  | [], _, _ => by simp [meaCs, scan]
  | x :: r, deep, m => by simp only [meaCs, scan, meaCs_eq r]
theorem meaC_eq (c : Core) (deep m : Int) : meaC c deep m = if deep ≤ 150 ∧ m + 1 ≤ 3000 ∧ shI c = true then scan (fun x m => meaC x (deep + 1) m) c.kids (m + 1) else (false, m + 1) := by cases c; simp only [meaC, meaCs_eq]
theorem meaC_of : ∀ (c : Core) (deep m : Int), m ≤ 3000 → ((meaC c deep m).1 = true ↔ (m + sizeC c ≤ 3000 ∧ (deep + depC c ≤ 151 ∧ okC c = true))) ∧ ((meaC c deep m).1 = true → (meaC c deep m).2 = m + sizeC c) := by
  refine Core.ind fun c ih deep m hm => ?_
  rw [meaC_eq, sizeC_eq, depC_eq, okC_eq, Bool.and_eq_true, List.all_eq_true]
  by_cases h : deep ≤ 150 ∧ m + 1 ≤ 3000 ∧ shI c = true
  · rw [if_pos h]
    have h1 := scan_of (fun x m => meaC x (deep + 1) m) sizeC (fun x => deep + 1 + depC x ≤ 151 ∧ okC x = true) 3000 c.kids (fun x hx m hm => ih x hx (deep + 1) m hm) (m + 1) h.2.1
    have h2 := maxBy_le depC (m := (150 - deep).toNat) (L := c.kids)
    constructor
    · rw [h1.1]
      constructor
      · rintro ⟨a, b⟩
        have := h2.2 fun x hx => by have := (b x hx).1; omega
        exact ⟨by omega, by omega, fun x hx => (b x hx).2, h.2.2⟩
      · rintro ⟨a, b, d, e⟩
        have := h2.1 (by omega)
        exact ⟨by omega, fun x hx => ⟨by have := this x hx; omega, d x hx⟩⟩
    · intro ht; rw [h1.2 ht]; omega
  · rw [if_neg h]
    refine ⟨⟨fun e => Bool.noConfusion e, ?_⟩, fun e => Bool.noConfusion e⟩
    rintro ⟨a, b, d, e⟩
    exact absurd ⟨by omega, by omega, e⟩ h
def smC (c : Core) : Bool := decide (sizeC c ≤ 3000) && decide (depC c ≤ 150) && okC c
theorem meaC_sm (c : Core) : (meaC c 1 0).1 = smC c := by
  have h := (meaC_of c 1 0 (by decide)).1
  rw [Bool.eq_iff_iff, h]
  simp only [smC, Bool.and_eq_true, decide_eq_true_eq, and_assoc]
  constructor
  · rintro ⟨a, b, e⟩; exact ⟨by omega, by omega, e⟩
  · rintro ⟨a, b, e⟩; exact ⟨by omega, by omega, e⟩
def isCor (c : Core) (G : List Int) : Bool := smC c && okU (G ++ bnd c) && (fre c [] []).all fun n => decide (n ∈ G)
abbrev P_c_sEqData (a : Datum) (b : Datum) : Ct := ⟨251, [], [datumA a, datumA b], [], .sv (lb (decide (a = b)))⟩
def lc_sEqData_sLa (a : Datum) (b : Datum) : Lp Nat := .mk 53 0 (fun x => [(2, SV.one (AC.ptr 0 0)), (3, SV.one (AC.ptr 1 0)), (36, li (↑(List.map datumC a.items).length : Int)),
 (37, hs x 0)]) (fun x => [Ob.box (vals (datumF a)), Ob.box (vals (datumF b))]) (fun k => [.s (li (↑k : Int))]) (fun k => k ≤ a.items.length ∧ a.items.length ≤ 9223372036854775807
 ∧ a.items.length = b.items.length ∧ List.take k a.items = List.take k b.items) (fun k => a.items.length - k) [.mk (a.items = b.items) (.exit 0) (fun x => []) (fun x => []) [], .mk
 (a.items ≠ b.items) .ret (fun x => [(4, hs x 0)]) (fun x => []) [.s (lb false)]]
theorem Sc_sEqData_sLa (a : Datum) (b : Datum) (ih : ∀ (z : Datum), z ∈ a.items → ∀ (b : Datum), OK (P_c_sEqData z b)) : Lp.Sem Tryz.prog (loopAt Tryz.f251 0) (lc_sEqData_sLa a b)
 := lpOK (fun k => .i ((↑k : Int) < (↑(List.map datumC a.items).length : Int)) (.w (.draw []) (.x (↑k : Int) (List.map datumC a.items) (datumF (a.items.getD k default)) (.x (↑k :
 Int) (List.map datumC b.items) (datumF (b.items.getD k default)) (.d [.rd, .rd] (P_c_sEqData (a.items.getD k default) (b.items.getD k default)) (.b (!decide (a.items.getD k
 default = b.items.getD k default)) (.o 1 [] [.s (lb false)]) (.r ((↑k : Int) + 1) (.g [0, 1] (k + 1) [.s (li ((↑k : Int) + 1))]))))))) (.o 0 [] [])) (by
  intro k h; try dsimp only [teasy, nthW, lc_sEqData_sLa] at h ⊢
  with_reducible repeat' (first | apply And.intro | exact zR | exact ih | (intro; skip) | apply mIc | apply mOc | apply mSc | apply mLc | apply ih)
  all_goals (try simp only [std, inj] at *)
  all_goals with_reducible repeat' apply And.intro
  all_goals (try (first | with_reducible apply ih | (simp only [← List.map_append]; first | with_reducible apply ih)))
  all_goals (try (first | exact z | exact zM | grind [take_eq, getD_mem', snocI, snocS, rowSnoc])))
theorem c_sEqData_s (a b : Datum) (ih : ∀ z ∈ a.items, ∀ (b : Datum), P_c_sEqData z b)  : P_c_sEqData a b := fnOK Tryz.call251 Tryz.func251 (.i (a.kind ≠ b.kind) (.y true (.y true
 (.y true (.s (lb false))))) (.i (a.number ≠ b.number) (.y true (.y true (.s (lb false)))) (.i (a.text.data.toList ≠ b.text.data.toList) (.y true (.s (lb false))) (.z datumC
 a.items (.z datumC b.items (.i ((↑(List.map datumC a.items).length : Int) ≠ (↑(List.map datumC b.items).length : Int)) (.s (lb false)) (.z datumC a.items (.l (lc_sEqData_sLa a b)
 (Sc_sEqData_sLa a b ih) [0, 1] [.s (li 0)] 0 (.t (.s (lb true)) (.t (.s (lb false)) .q)))))))))) (by
  dsimp only [teasy, P_c_sEqData, nthW, lc_sEqData_sLa]
  simp only [datumExt]
  with_reducible repeat' (first | apply And.intro | exact zR | exact ih | (intro; skip) | apply mIc | apply mOc | apply mSc | apply mLc)
  all_goals (try simp only [std, inj] at *)
  all_goals with_reducible repeat' apply And.intro
  all_goals (try (first | with_reducible apply ih | (simp only [← List.map_append]; first | with_reducible apply ih)))
  all_goals (try (first | exact z | exact zM | grind [bytes_ext, snocI, snocS, rowSnoc])))
theorem c_sEqData (a : Datum) : ∀ (b : Datum), P_c_sEqData a b := Datum.ind (P := fun a => ∀ (b : Datum), P_c_sEqData a b) (fun a ih b => c_sEqData_s a b ih) a
abbrev P_c_iEqData (a : Datum) (b : Datum) : Ct := ⟨253, [], [datumA a, datumA b], [], .sv (lb (decide (a = b)))⟩
def lc_iEqData_sLa (a : Datum) (b : Datum) : Lp Nat := .mk 53 0 (fun x => [(2, SV.one (AC.ptr 0 0)), (3, SV.one (AC.ptr 1 0)), (36, li (↑(List.map datumC a.items).length : Int)),
 (37, hs x 0)]) (fun x => [Ob.box (vals (datumF a)), Ob.box (vals (datumF b))]) (fun k => [.s (li (↑k : Int))]) (fun k => k ≤ a.items.length ∧ a.items.length ≤ 9223372036854775807
 ∧ a.items.length = b.items.length ∧ List.take k a.items = List.take k b.items) (fun k => a.items.length - k) [.mk (a.items = b.items) (.exit 0) (fun x => []) (fun x => []) [], .mk
 (a.items ≠ b.items) .ret (fun x => [(4, hs x 0)]) (fun x => []) [.s (lb false)]]
theorem Sc_iEqData_sLa (a : Datum) (b : Datum) (ih : ∀ (z : Datum), z ∈ a.items → ∀ (b : Datum), OK (P_c_iEqData z b)) : Lp.Sem Tryz.prog (loopAt Tryz.f253 0) (lc_iEqData_sLa a b)
 := lpOK (fun k => .i ((↑k : Int) < (↑(List.map datumC a.items).length : Int)) (.w (.draw []) (.x (↑k : Int) (List.map datumC a.items) (datumF (a.items.getD k default)) (.x (↑k :
 Int) (List.map datumC b.items) (datumF (b.items.getD k default)) (.d [.rd, .rd] (P_c_iEqData (a.items.getD k default) (b.items.getD k default)) (.b (!decide (a.items.getD k
 default = b.items.getD k default)) (.o 1 [] [.s (lb false)]) (.r ((↑k : Int) + 1) (.g [0, 1] (k + 1) [.s (li ((↑k : Int) + 1))]))))))) (.o 0 [] [])) (by
  intro k h; try dsimp only [teasy, nthW, lc_iEqData_sLa] at h ⊢
  with_reducible repeat' (first | apply And.intro | exact zR | exact ih | (intro; skip) | apply mIc | apply mOc | apply mSc | apply mLc | apply ih)
  all_goals (try simp only [std, inj] at *)
  all_goals with_reducible repeat' apply And.intro
  all_goals (try (first | with_reducible apply ih | (simp only [← List.map_append]; first | with_reducible apply ih)))
  all_goals (try (first | exact z | exact zM | grind [take_eq, getD_mem', snocI, snocS, rowSnoc])))
theorem c_iEqData_s (a b : Datum) (ih : ∀ z ∈ a.items, ∀ (b : Datum), P_c_iEqData z b)  : P_c_iEqData a b := fnOK Tryz.call253 Tryz.func253 (.i (a.kind ≠ b.kind) (.y true (.y true
 (.y true (.s (lb false))))) (.i (a.number ≠ b.number) (.y true (.y true (.s (lb false)))) (.i (a.text.data.toList ≠ b.text.data.toList) (.y true (.s (lb false))) (.z datumC
 a.items (.z datumC b.items (.i ((↑(List.map datumC a.items).length : Int) ≠ (↑(List.map datumC b.items).length : Int)) (.s (lb false)) (.z datumC a.items (.l (lc_iEqData_sLa a b)
 (Sc_iEqData_sLa a b ih) [0, 1] [.s (li 0)] 0 (.t (.s (lb true)) (.t (.s (lb false)) .q)))))))))) (by
  dsimp only [teasy, P_c_iEqData, nthW, lc_iEqData_sLa]
  simp only [datumExt]
  with_reducible repeat' (first | apply And.intro | exact zR | exact ih | (intro; skip) | apply mIc | apply mOc | apply mSc | apply mLc)
  all_goals (try simp only [std, inj] at *)
  all_goals with_reducible repeat' apply And.intro
  all_goals (try (first | with_reducible apply ih | (simp only [← List.map_append]; first | with_reducible apply ih)))
  all_goals (try (first | exact z | exact zM | grind [bytes_ext, snocI, snocS, rowSnoc])))
theorem c_iEqData (a : Datum) : ∀ (b : Datum), P_c_iEqData a b := Datum.ind (P := fun a => ∀ (b : Datum), P_c_iEqData a b) (fun a ih b => c_iEqData_s a b ih) a
abbrev P_c_sBound (c : Core) (A : List Int) : Ct := ⟨62, [.arr true 1 (A.map intC)], [coreA c, .one (.ref 0)], [.dead, .arr true 1 ((A ++ bnd c).map intC)], .sv (.one (.ref 1))⟩
def lc_sBound_sLa (c : Core) (A : List Int) : Lp Nat := .mk 23 1 (fun x => [(1, SV.one (AC.ref 1)), (12, ll (List.map coreC c.kids)), (13, li (↑(List.map coreC c.kids).length :
 Int)), (14, hs x 0)]) (fun x => [Ob.dead, ho x 1]) (fun k => [.s (li (↑k : Int)), .o (Ob.arr true 1 (List.map intC (A ++ c.params ++ List.flatMap bnd (List.take k c.kids))))])
 (fun k => k ≤ c.kids.length ∧ c.kids.length ≤ 9223372036854775807) (fun k => c.kids.length - k) [.mk True (.exit 0) (fun x => [(1, SV.one (AC.ref 1))]) (fun x => [Ob.dead, ho x
 0]) [.o (Ob.arr true 1 (List.map intC (A ++ bnd c)))]]
theorem Sc_sBound_sLa (c : Core) (A : List Int) (h : A.length + (bnd c).length ≤ 2147483647) (ih : ∀ (z : Core), z ∈ c.kids → ∀ (A : List Int), A.length + (bnd z).length ≤
 2147483647 → OK (P_c_sBound z A)) : Lp.Sem Tryz.prog (loopAt Tryz.f62 0) (lc_sBound_sLa c A) := lpOK (fun k => .i ((↑k : Int) < (↑(List.map coreC c.kids).length : Int)) (.x (↑k :
 Int) (List.map coreC c.kids) (coreF (c.kids.getD k default)) (.d [.rd, .own true 1] (P_c_sBound (c.kids.getD k default) (A ++ c.params ++ List.flatMap bnd (List.take k c.kids)))
 (.r ((↑k : Int) + 1) (.g [0, 4] (k + 1) [.s (li ((↑k : Int) + 1)), .o (Ob.arr true 1 (List.map intC (A ++ c.params ++ List.flatMap bnd (List.take k c.kids) ++ bnd (c.kids.getD k
 default))))])))) (.o 0 [0, 1] [.o (Ob.arr true 1 (List.map intC (A ++ c.params ++ List.flatMap bnd (List.take k c.kids))))])) (by
  intro k h; try dsimp only [teasy, nthW, lc_sBound_sLa] at h ⊢
  have g0 := flat_takeLe bnd c.kids (k + 1)
  with_reducible repeat' (first | apply And.intro | exact zR | exact ih | (intro; skip) | apply mIc | apply mOc | apply mSc | apply mLc | apply ih)
  all_goals (try simp only [std, inj] at *)
  all_goals with_reducible repeat' apply And.intro
  all_goals (try (first | with_reducible apply ih | (simp only [← List.map_append]; first | with_reducible apply ih)))
  all_goals (try (first | exact z | exact zM | grind [flat_take, getD_mem', bnd_eq, snocI, snocS, rowSnoc])))
theorem c_sBound_s (c : Core) (A : List Int) (h : A.length + (bnd c).length ≤ 2147483647) (ih : ∀ z ∈ c.kids, ∀ (A : List Int) (h : A.length + (bnd z).length ≤ 2147483647),
 P_c_sBound z A)  : P_c_sBound c A := fnOK Tryz.call62 Tryz.func62 (.p (∀ (e : List Cell), e ∈ List.map intC c.params → ∀ (c : Cell), c ∈ e → ∃ v, c = Cell.lit v) (.p (∀ (e : List
 Cell), e ∈ List.map intC c.params → e.length = 1) (.p (((List.map intC A).length + (List.map intC c.params).length) * 8 ≤ 140737488355328) (.z coreC c.kids (.l (lc_sBound_sLa c A)
 (Sc_sBound_sLa c A h ih) [0, 2] [.s (li 0), .o (Ob.arr true 1 (List.map intC A ++ List.map intC c.params))] 0 (.t (.f [1] [Ob.dead, Ob.arr true 1 (List.map intC (A ++ bnd c))]
 (AV.sv (SV.one (AC.ref 1)))) .q)))))) (by
  dsimp only [teasy, P_c_sBound, nthW, lc_sBound_sLa]
  with_reducible repeat' (first | apply And.intro | exact zR | exact ih | (intro; skip) | apply mIc | apply mOc | apply mSc | apply mLc)
  all_goals (try simp only [std, inj] at *)
  all_goals with_reducible repeat' apply And.intro
  all_goals (try (first | with_reducible apply ih | (simp only [← List.map_append]; first | with_reducible apply ih)))
  all_goals (try (first | exact z | exact zM | grind [bnd_eq, snocI, snocS, rowSnoc])))
theorem c_sBound (c : Core) : ∀ (A : List Int) (h : A.length + (bnd c).length ≤ 2147483647), P_c_sBound c A := Core.ind (P := fun c => ∀ (A : List Int) (h : A.length + (bnd c).length ≤ 2147483647), P_c_sBound c A) (fun c ih A h => c_sBound_s c A h ih) c
abbrev P_c_iBound (c : Core) (A : List Int) : Ct := ⟨146, [.arr true 1 (A.map intC)], [coreA c, .one (.ref 0)], [.dead, .arr true 1 ((A ++ bnd c).map intC)], .sv (.one (.ref 1))⟩
def lc_iBound_sLa (c : Core) (A : List Int) : Lp Nat := .mk 23 1 (fun x => [(1, SV.one (AC.ref 1)), (12, ll (List.map coreC c.kids)), (13, li (↑(List.map coreC c.kids).length :
 Int)), (14, hs x 0)]) (fun x => [Ob.dead, ho x 1]) (fun k => [.s (li (↑k : Int)), .o (Ob.arr true 1 (List.map intC (A ++ c.params ++ List.flatMap bnd (List.take k c.kids))))])
 (fun k => k ≤ c.kids.length ∧ c.kids.length ≤ 9223372036854775807) (fun k => c.kids.length - k) [.mk True (.exit 0) (fun x => [(1, SV.one (AC.ref 1))]) (fun x => [Ob.dead, ho x
 0]) [.o (Ob.arr true 1 (List.map intC (A ++ bnd c)))]]
theorem Sc_iBound_sLa (c : Core) (A : List Int) (h : A.length + (bnd c).length ≤ 2147483647) (ih : ∀ (z : Core), z ∈ c.kids → ∀ (A : List Int), A.length + (bnd z).length ≤
 2147483647 → OK (P_c_iBound z A)) : Lp.Sem Tryz.prog (loopAt Tryz.f146 0) (lc_iBound_sLa c A) := lpOK (fun k => .i ((↑k : Int) < (↑(List.map coreC c.kids).length : Int)) (.x (↑k :
 Int) (List.map coreC c.kids) (coreF (c.kids.getD k default)) (.d [.rd, .own true 1] (P_c_iBound (c.kids.getD k default) (A ++ c.params ++ List.flatMap bnd (List.take k c.kids)))
 (.r ((↑k : Int) + 1) (.g [0, 4] (k + 1) [.s (li ((↑k : Int) + 1)), .o (Ob.arr true 1 (List.map intC (A ++ c.params ++ List.flatMap bnd (List.take k c.kids) ++ bnd (c.kids.getD k
 default))))])))) (.o 0 [0, 1] [.o (Ob.arr true 1 (List.map intC (A ++ c.params ++ List.flatMap bnd (List.take k c.kids))))])) (by
  intro k h; try dsimp only [teasy, nthW, lc_iBound_sLa] at h ⊢
  have g0 := flat_takeLe bnd c.kids (k + 1)
  with_reducible repeat' (first | apply And.intro | exact zR | exact ih | (intro; skip) | apply mIc | apply mOc | apply mSc | apply mLc | apply ih)
  all_goals (try simp only [std, inj] at *)
  all_goals with_reducible repeat' apply And.intro
  all_goals (try (first | with_reducible apply ih | (simp only [← List.map_append]; first | with_reducible apply ih)))
  all_goals (try (first | exact z | exact zM | grind [flat_take, getD_mem', bnd_eq, snocI, snocS, rowSnoc])))
theorem c_iBound_s (c : Core) (A : List Int) (h : A.length + (bnd c).length ≤ 2147483647) (ih : ∀ z ∈ c.kids, ∀ (A : List Int) (h : A.length + (bnd z).length ≤ 2147483647),
 P_c_iBound z A)  : P_c_iBound c A := fnOK Tryz.call146 Tryz.func146 (.p (∀ (e : List Cell), e ∈ List.map intC c.params → ∀ (c : Cell), c ∈ e → ∃ v, c = Cell.lit v) (.p (∀ (e : List
 Cell), e ∈ List.map intC c.params → e.length = 1) (.p (((List.map intC A).length + (List.map intC c.params).length) * 8 ≤ 140737488355328) (.z coreC c.kids (.l (lc_iBound_sLa c A)
 (Sc_iBound_sLa c A h ih) [0, 2] [.s (li 0), .o (Ob.arr true 1 (List.map intC A ++ List.map intC c.params))] 0 (.t (.f [1] [Ob.dead, Ob.arr true 1 (List.map intC (A ++ bnd c))]
 (AV.sv (SV.one (AC.ref 1)))) .q)))))) (by
  dsimp only [teasy, P_c_iBound, nthW, lc_iBound_sLa]
  with_reducible repeat' (first | apply And.intro | exact zR | exact ih | (intro; skip) | apply mIc | apply mOc | apply mSc | apply mLc)
  all_goals (try simp only [std, inj] at *)
  all_goals with_reducible repeat' apply And.intro
  all_goals (try (first | with_reducible apply ih | (simp only [← List.map_append]; first | with_reducible apply ih)))
  all_goals (try (first | exact z | exact zM | grind [bnd_eq, snocI, snocS, rowSnoc])))
theorem c_iBound (c : Core) : ∀ (A : List Int) (h : A.length + (bnd c).length ≤ 2147483647), P_c_iBound c A := Core.ind (P := fun c => ∀ (A : List Int) (h : A.length + (bnd c).length ≤ 2147483647), P_c_iBound c A) (fun c ih A h => c_iBound_s c A h ih) c
abbrev P_c_iBoundVariables (c : Core) : Ct := ⟨69, [], [coreA c], [.arr true 1 ((bnd c).map intC)], .sv (.one (.ref 0))⟩
theorem c_iBoundVariables (c : Core) (h : (bnd c).length ≤ 2147483647)  : P_c_iBoundVariables c := fnOK Tryz.call69 Tryz.func69 (.d [.rd, .own true 1] (P_c_iBound c []) (.f [2]
 [Ob.arr true 1 (List.map intC (bnd c))] (AV.sv (SV.one (AC.ref 0))))) (by
  dsimp only [teasy, P_c_iBoundVariables]
  with_reducible repeat' (first | apply And.intro | exact zR | (intro; skip) | apply mIc | apply mOc | apply mSc | apply mLc | apply c_iBound)
  all_goals (try simp only [std, inj] at *)
  all_goals with_reducible repeat' apply And.intro
  all_goals (try (first | with_reducible apply c_iBound | (simp only [← List.map_append]; first | with_reducible apply c_iBound)))
  all_goals (try (first | exact z | exact zM | grind [snocI, snocS, rowSnoc])))
abbrev P_c_iBoundRd (c : Core) : Ct := ⟨69, [], [coreA c], [], .sv (ll ((bnd c).map intC))⟩
theorem c_iBoundRd (c : Core) (h : (bnd c).length ≤ 2147483647)  : P_c_iBoundRd c := fnOK Tryz.call69 Tryz.func69 (.d [.rd, .own true 1] (P_c_iBound c []) (.w (.ghost (.lock 2)) (.s
 (ll (List.map intC (bnd c)))))) (by
  dsimp only [teasy, P_c_iBoundRd]
  with_reducible repeat' (first | apply And.intro | exact zR | (intro; skip) | apply mIc | apply mOc | apply mSc | apply mLc | apply c_iBound)
  all_goals (try simp only [std, inj] at *)
  all_goals with_reducible repeat' apply And.intro
  all_goals (try (first | with_reducible apply c_iBound | (simp only [← List.map_append]; first | with_reducible apply c_iBound)))
  all_goals (try (first | exact z | exact zM | grind [snocI, snocS, rowSnoc])))
abbrev P_c_sUniq (L : List Int) : Ct := ⟨185, [], [ll (L.map intC)], [], .sv (lb (okU L))⟩
def lc_sUniqLa (L : List Int) : Lp Nat := .mk 23 0 (fun x => [(0, ll (List.map intC L)), (5, ll (List.map intC L)), (6, li (↑(List.map intC L).length : Int)), (7, hs x 0)]) (fun x
 => []) (fun k => [.s (li (↑k : Int))]) (fun k => k ≤ L.length ∧ L.length ≤ 9223372036854775807 ∧ okU (List.take k L) = true) (fun k => L.length - k) [.mk (okU L = true) (.exit 0)
 (fun x => []) (fun x => []) [], .mk (okU L = false) .ret (fun x => [(2, hs x 0)]) (fun x => []) [.s (lb false)]]
theorem Sc_sUniqLa (L : List Int) : Lp.Sem Tryz.prog (loopAt Tryz.f185 0) (lc_sUniqLa L) := lpOK (fun k => .i ((↑k : Int) < (↑(List.map intC L).length : Int)) (.x (↑k : Int)
 (List.map intC L) [cI (L.getD k 0)] (.c [.rd, .rd, .rd] (c_l1In (L.getD k 0) 0 99999) (.b (!decide (0 ≤ L.getD k 0 ∧ L.getD k (0 : Int) ≤ 99999)) (.y true (.o 1 [] [.s (lb
 false)])) (.p (0 ≤ (↑k : Int)) (.p (0 ≤ (↑k : Int).toNat ∧ (↑k : Int).toNat ≤ (List.map intC L).length ∧ ∀ (e : List Cell), e ∈ List.map intC L → e.length = 1) (.u [.rd, .rd]
 (P_c_sHas (List.take ((↑k : Int).toNat - 0) (List.drop 0 L)) (L.getD k 0)) (.p (CallOK Tryz.prog 129 [] [ll (List.take ((↑k : Int).toNat - 0) (List.drop 0 (List.map intC L))), li
 (L.getD k 0)] [] (AV.sv (lb (decide (L.getD k 0 ∈ List.take ((↑k : Int).toNat - 0) (List.drop 0 L)))))) (.i (L.getD k 0 ∈ List.take ((↑k : Int).toNat - 0) (List.drop 0 L)) (.o 1
 [] [.s (lb false)]) (.r ((↑k : Int) + 1) (.g [] (k + 1) [.s (li ((↑k : Int) + 1))])))))))))) (.o 0 [] [])) (by
  intro k h; try dsimp only [teasy, nthW, lc_sUniqLa] at h ⊢
  have g1 := @okU_snoc (L.take k) (L.getD k default)
  have g2 := @okU_take L (k + 1)
  with_reducible repeat' (first | apply And.intro | exact zR | (intro; skip) | apply mIc | apply mOc | apply mSc | apply mLc | apply c_l1In | apply c_sHas)
  all_goals (try simp only [std, inj] at *)
  all_goals with_reducible repeat' apply And.intro
  all_goals (try (first | with_reducible apply c_l1In | with_reducible apply c_sHas | (simp only [← List.map_append]; first | with_reducible apply c_l1In | with_reducible apply c_sHas)))
  all_goals (try (first | exact z | exact zM | grind [take_get, snocI, snocS, rowSnoc])))
theorem c_sUniq (L : List Int)  : P_c_sUniq L := fnOK Tryz.call185 Tryz.func185 (.z intC L (.l (lc_sUniqLa L) (Sc_sUniqLa L) [] [.s (li 0)] 0 (.t (.s (lb true)) (.t (.s (lb false))
 .q)))) (by
  dsimp only [teasy, P_c_sUniq, nthW, lc_sUniqLa]
  with_reducible repeat' (first | apply And.intro | exact zR | (intro; skip) | apply mIc | apply mOc | apply mSc | apply mLc)
  all_goals (try simp only [std, inj] at *)
  all_goals with_reducible repeat' apply And.intro
  all_goals (try (first | exact z | exact zM | grind [okU_nil, snocI, snocS, rowSnoc])))
abbrev P_c_sFewC (c : Core) (l : Int) : Ct := ⟨183, [.box [vI l]], [coreA c, .one (.ptr 0 0)], [.box [vI (max (l - sizeC c) (-1))]], .sv (lb (decide (sizeC c ≤ l)))⟩
def lc_sFewC_sLa (c : Core) (l : Int) : Lp Nat := .mk 36 1 (fun x => [(1, SV.one (AC.ptr 0 0)), (2, SV.one (AC.ptr 1 0)), (5, hs x 0)]) (fun x => [Ob.box [ha x 1], Ob.box (vals
 (coreF c))]) (fun k => [.s (li (↑k : Int)), .a (vI (max (l - 1 - (↑(sumBy sizeC (List.take k c.kids)) : Int)) (-1 : Int)))]) (fun k => c.kids.length ≥ k) (fun k => c.kids.length -
 k) [.mk True (.exit 0) (fun x => [(1, SV.one (AC.ptr 0 0))]) (fun x => [Ob.box [ha x 0]]) [.a (vI (max (l - (↑(sizeC c) : Int)) (-1 : Int)))]]
theorem Sc_sFewC_sLa (c : Core) (l : Int) (h : 0 ≤ l ∧ l ≤ 1000000) (ih : ∀ (z : Core), z ∈ c.kids → ∀ (l : Int), 0 ≤ l ∧ l ≤ 1000000 → OK (P_c_sFewC z l)) : Lp.Sem Tryz.prog
 (loopAt Tryz.f183 0) (lc_sFewC_sLa c l) := lpOK (fun k => .z coreC c.kids (.i ((↑k : Int) < (↑(List.map coreC c.kids).length : Int)) (.i (0 ≤ max (l - 1 - (↑(sumBy sizeC
 (List.take k c.kids)) : Int)) (-1 : Int)) (.x (↑k : Int) (List.map coreC c.kids) (coreF (c.kids.getD k default)) (.d [.rd, .ptr] (P_c_sFewC (c.kids.getD k default) (max (l - 1 -
 (↑(sumBy sizeC (List.take k c.kids)) : Int)) (-1 : Int))) (.r ((↑k : Int) + 1) (.g [0, 1] (k + 1) [.s (li ((↑k : Int) + 1)), .a (vI (max (max (l - 1 - (↑(sumBy sizeC (List.take k
 c.kids)) : Int)) (-1 : Int) - (↑(sizeC (c.kids.getD k default)) : Int)) (-1 : Int)))])))) (.o 0 [0] [.a (vI (max (l - 1 - (↑(sumBy sizeC (List.take k c.kids)) : Int)) (-1 :
 Int)))])) (.y false (.o 0 [0] [.a (vI (max (l - 1 - (↑(sumBy sizeC (List.take k c.kids)) : Int)) (-1 : Int)))])))) (by
  intro k h; try dsimp only [teasy, nthW, lc_sFewC_sLa] at h ⊢
  have g1 := sizeC_eq c
  have g2 := sumBy_takeLe sizeC c.kids k
  have g3 := @sumBy_step _ _ sizeC c.kids k
  with_reducible repeat' (first | apply And.intro | exact zR | exact ih | (intro; skip) | apply mIc | apply mOc | apply mSc | apply mLc | apply ih)
  all_goals (try simp only [std, inj] at *)
  all_goals with_reducible repeat' apply And.intro
  all_goals (try (first | with_reducible apply ih | (simp only [← List.map_append]; first | with_reducible apply ih)))
  all_goals (try (first | exact z | exact zM | grind [getD_mem', snocI, snocS, rowSnoc])))
theorem c_sFewC_s (c : Core) (l : Int) (h : 0 ≤ l ∧ l ≤ 1000000) (ih : ∀ z ∈ c.kids, ∀ (l : Int) (h : 0 ≤ l ∧ l ≤ 1000000), P_c_sFewC z l)  : P_c_sFewC c l := fnOK Tryz.call183
 Tryz.func183 (.r (l - 1) (.l (lc_sFewC_sLa c l) (Sc_sFewC_sLa c l h ih) [0, 1] [.s (li 0), .a (vI (l - 1))] 0 (.t (.f [] [Ob.box [vI (max (l - (↑(sizeC c) : Int)) (-1 : Int))]]
 (AV.sv (lb (decide (0 ≤ max (l - (↑(sizeC c) : Int)) (-1 : Int)))))) .q))) (by
  dsimp only [teasy, P_c_sFewC, nthW, lc_sFewC_sLa]
  have g1 := sizeC_eq c
  have g2 : sumBy sizeC (c.kids.take 0) = 0 := rfl
  with_reducible repeat' (first | apply And.intro | exact zR | exact ih | (intro; skip) | apply mIc | apply mOc | apply mSc | apply mLc)
  all_goals (try simp only [std, inj] at *)
  all_goals with_reducible repeat' apply And.intro
  all_goals (try (first | with_reducible apply ih | (simp only [← List.map_append]; first | with_reducible apply ih)))
  all_goals (try (first | exact z | exact zM | grind [snocI, snocS, rowSnoc])))
theorem c_sFewC (c : Core) : ∀ (l : Int) (h : 0 ≤ l ∧ l ≤ 1000000), P_c_sFewC c l := Core.ind (P := fun c => ∀ (l : Int) (h : 0 ≤ l ∧ l ≤ 1000000), P_c_sFewC c l) (fun c ih l h => c_sFewC_s c l h ih) c
abbrev P_c_sSmall (c : Core) : Ct := ⟨126, [], [coreA c], [], .sv (lb (decide (sizeC c ≤ 3000)))⟩
theorem c_sSmall (c : Core)  : P_c_sSmall c := fnOK Tryz.call126 Tryz.func126 (.d [.rd, .ptr] (P_c_sFewC c 3000) (.s (lb (decide ((↑(sizeC c) : Int) ≤ 3000))))) (by
  dsimp only [teasy, P_c_sSmall]
  with_reducible repeat' (first | apply And.intro | exact zR | (intro; skip) | apply mIc | apply mOc | apply mSc | apply mLc | apply c_sFewC)
  all_goals (try simp only [std, inj] at *)
  all_goals with_reducible repeat' apply And.intro
  all_goals (try (first | with_reducible apply c_sFewC | (simp only [← List.map_append]; first | with_reducible apply c_sFewC)))
  all_goals (try (first | exact z | exact zM | grind [snocI, snocS, rowSnoc])))
abbrev P_c_sDepC (c : Core) : Ct := ⟨127, [], [coreA c], [], .sv (li (depC c))⟩
def lc_sDepC_sLa (c : Core) : Lp Nat := .mk 20 0 (fun x => [(3, hs x 1), (7, ll (List.map coreC c.kids)), (8, li (↑(List.map coreC c.kids).length : Int)), (9, hs x 0)]) (fun x =>
 []) (fun k => [.s (li (↑k : Int)), .s (li (↑(maxBy depC (List.take k c.kids)) : Int))]) (fun k => k ≤ c.kids.length ∧ c.kids.length ≤ 9223372036854775807) (fun k => c.kids.length
 - k) [.mk True (.exit 0) (fun x => [(3, hs x 0)]) (fun x => []) [.s (li (↑(maxBy depC c.kids) : Int))]]
theorem Sc_sDepC_sLa (c : Core) (h : sizeC c ≤ 2147483647) (ih : ∀ (z : Core), z ∈ c.kids → sizeC z ≤ 2147483647 → OK (P_c_sDepC z)) : Lp.Sem Tryz.prog (loopAt Tryz.f127 0)
 (lc_sDepC_sLa c) := lpOK (fun k => .i ((↑k : Int) < (↑(List.map coreC c.kids).length : Int)) (.x (↑k : Int) (List.map coreC c.kids) (coreF (c.kids.getD k default)) (.d [.rd]
 (P_c_sDepC (c.kids.getD k default)) (.r ((↑k : Int) + 1) (.g [] (k + 1) [.s (li ((↑k : Int) + 1)), .s (li (max (↑(maxBy depC (List.take k c.kids)) : Int) (↑(depC (c.kids.getD k
 default)) : Int)))])))) (.o 0 [] [.s (li (↑(maxBy depC (List.take k c.kids)) : Int))])) (by
  intro k h; try dsimp only [teasy, nthW, lc_sDepC_sLa] at h ⊢
  have g1 := sizeC_eq c
  have g2 := @sumBy_mem _ sizeC c.kids (c.kids.getD k default)
  with_reducible repeat' (first | apply And.intro | exact zR | exact ih | (intro; skip) | apply mIc | apply mOc | apply mSc | apply mLc | apply ih)
  all_goals (try simp only [std, inj] at *)
  all_goals with_reducible repeat' apply And.intro
  all_goals (try (first | with_reducible apply ih | (simp only [← List.map_append]; first | with_reducible apply ih)))
  all_goals (try (first | exact z | exact zM | grind [maxBy_step, getD_mem', snocI, snocS, rowSnoc])))
theorem c_sDepC_s (c : Core) (h : sizeC c ≤ 2147483647) (ih : ∀ z ∈ c.kids, ∀ (h : sizeC z ≤ 2147483647), P_c_sDepC z)  : P_c_sDepC c := fnOK Tryz.call127 Tryz.func127 (.z coreC
 c.kids (.l (lc_sDepC_sLa c) (Sc_sDepC_sLa c h ih) [] [.s (li 0), .s (li 0)] 0 (.t (.r ((↑(maxBy depC c.kids) : Int) + 1) (.s (li ((↑(maxBy depC c.kids) : Int) + 1)))) .q))) (by
  dsimp only [teasy, P_c_sDepC, nthW, lc_sDepC_sLa]
  have h1 := depC_le c
  have g2 : maxBy depC (c.kids.take 0) = 0 := rfl
  with_reducible repeat' (first | apply And.intro | exact zR | exact ih | (intro; skip) | apply mIc | apply mOc | apply mSc | apply mLc)
  all_goals (try simp only [std, inj] at *)
  all_goals with_reducible repeat' apply And.intro
  all_goals (try (first | with_reducible apply ih | (simp only [← List.map_append]; first | with_reducible apply ih)))
  all_goals (try (first | exact z | exact zM | grind [depC_eq, snocI, snocS, rowSnoc])))
theorem c_sDepC (c : Core) : ∀ (h : sizeC c ≤ 2147483647), P_c_sDepC c := Core.ind (P := fun c => ∀ (h : sizeC c ≤ 2147483647), P_c_sDepC c) (fun c ih h => c_sDepC_s c h ih) c
abbrev P_c_sShape (c : Core) : Ct := ⟨242, [], [coreA c], [], .sv (lb (shC c))⟩
theorem c_sShape (c : Core)  : P_c_sShape c := fnOK Tryz.call242 Tryz.func242 (let v1 := (↑(List.map coreC c.kids).length : Int); let v2 := (↑(List.map intC c.params).length : Int);
 let v3 := (lb (decide (0 ≤ c.number ∧ c.number ≤ 13))); let v4 := (14 ≤ 9223372036854775807); let v5 := (c_l1In c.number 0 13); let v6 := (c.kind = 11); let v14 := (v2 = 0); let
 v7 := (lb (decide v14)); let v8 := (v1 = 1); let v9 := (lb (decide (1 ≤ v2 ∧ v2 ≤ 60))); let v10 := (v1 = 0); let v11 := (2 ≤ v1 ∧ v1 ≤ 60); let v12 := (1 ≤ v1 ∧ v1 ≤ 60); let v13
 := (1 ≤ v1 ∧ v1 ≤ 9); let v15 := (c_l1In v2 1 60); let v16 := (c_l1In v1 2 60); let v17 := (c_l1In v1 1 60); let v18 := (c_l1In v1 1 9); let v19 := (lb (decide (v2 ≤ 8))); let v20
 := (lb (decide (v2 = 1))); let v21 := (c.kind = 10); let v22 := (lb (isDat c.datum)); let v23 := (c_sIsDatum c.datum); let v24 := (c.kind = 9); let v25 := (c.kind = 8); let v26 :=
 (c.kind = 7); let v27 := (c.kind = 6); let v28 := (c.kind = 5); let v29 := (c.kind = 4); let v30 := (c.kind = 3); let v31 := (c.kind = 2); let v32 := (c.kind = 1); .z coreC c.kids
 (.z intC c.params (.i (c.kind ≠ 1) (.c [.rd, .rd] (c_sEqData c.datum (Datum.mk 0 0 (ByteArray.mk #[]) [])) (.b (!decide (c.datum = Datum.mk 0 0 (ByteArray.mk #[]) [])) (.y true
 (.s (lb false))) (.i (c.number ≠ 0) (.c [.rd] (c_l5Names c) (.b (!decide (c.kind = 2 ∨ c.kind = 4)) (.i (c.kind ≠ 3) (.s (lb false)) (.i v32 (.i v10 (.i v14 (.c [.rd] v23 (.s
 v22)) (.s (lb false))) (.y false (.s (lb false)))) (.i v31 (.i v10 (.s v7) (.s (lb false))) (.i v30 (.w (.draw []) (.i v10 (.i v14 (.c [] c_sPrimitiveNames (.r 13 (.c [.rd, .rd,
 .rd] v5 (.h v4 (.s v3))))) (.s (lb false))) (.y false (.s (lb false))))) (.i v29 (.i v8 (.s v7) (.s (lb false))) (.i v28 (.i v8 (.s v19) (.s (lb false))) (.i v27 (.c [.rd, .rd,
 .rd] v18 (.i v13 (.s v7) (.s (lb false)))) (.i v26 (.i (v1 = 3) (.s v7) (.s (lb false))) (.i v25 (.c [.rd, .rd, .rd] v16 (.i v11 (.s v7) (.s (lb false)))) (.i v24 (.c [.rd, .rd,
 .rd] v17 (.i v12 (.c [.rd, .rd, .rd] v15 (.s v9)) (.s (lb false)))) (.i v21 (.i v8 (.s v7) (.s (lb false))) (.i v6 (.i v8 (.s v20) (.s (lb false))) (.s (lb false)))))))))))))) (.y
 false (.i v32 (.i v10 (.i v14 (.c [.rd] v23 (.s v22)) (.s (lb false))) (.y false (.s (lb false)))) (.i v31 (.i v10 (.s v7) (.s (lb false))) (.i v30 (.w (.draw []) (.i v10 (.i v14
 (.c [] c_sPrimitiveNames (.r 13 (.c [.rd, .rd, .rd] v5 (.h v4 (.s v3))))) (.s (lb false))) (.y false (.s (lb false))))) (.i v29 (.i v8 (.s v7) (.s (lb false))) (.i v28 (.i v8 (.s
 v19) (.s (lb false))) (.i v27 (.c [.rd, .rd, .rd] v18 (.i v13 (.s v7) (.s (lb false)))) (.i v26 (.i (v1 = 3) (.s v7) (.s (lb false))) (.i v25 (.c [.rd, .rd, .rd] v16 (.i v11 (.s
 v7) (.s (lb false)))) (.i v24 (.c [.rd, .rd, .rd] v17 (.i v12 (.c [.rd, .rd, .rd] v15 (.s v9)) (.s (lb false)))) (.i v21 (.i v8 (.s v7) (.s (lb false))) (.i v6 (.i v8 (.s v20) (.s
 (lb false))) (.s (lb false)))))))))))))))) (.y false (.y false (.i v32 (.i v10 (.i v14 (.c [.rd] v23 (.s v22)) (.s (lb false))) (.y false (.s (lb false)))) (.i v31 (.i v10 (.s v7)
 (.s (lb false))) (.i v30 (.w (.draw []) (.i v10 (.i v14 (.c [] c_sPrimitiveNames (.r 13 (.c [.rd, .rd, .rd] v5 (.h v4 (.s v3))))) (.s (lb false))) (.y false (.s (lb false))))) (.i
 v29 (.i v8 (.s v7) (.s (lb false))) (.i v28 (.i v8 (.s v19) (.s (lb false))) (.i v27 (.c [.rd, .rd, .rd] v18 (.i v13 (.s v7) (.s (lb false)))) (.i v26 (.i (v1 = 3) (.s v7) (.s (lb
 false))) (.i v25 (.c [.rd, .rd, .rd] v16 (.i v11 (.s v7) (.s (lb false)))) (.i v24 (.c [.rd, .rd, .rd] v17 (.i v12 (.c [.rd, .rd, .rd] v15 (.s v9)) (.s (lb false)))) (.i v21 (.i
 v8 (.s v7) (.s (lb false))) (.i v6 (.i v8 (.s v20) (.s (lb false))) (.s (lb false)))))))))))))))))) (.y false (.i (c.number ≠ 0) (.c [.rd] (c_l5Names c) (.b (!decide (c.kind = 2 ∨
 c.kind = 4)) (.i (c.kind ≠ 3) (.s (lb false)) (.i v32 (.i v10 (.i v14 (.c [.rd] v23 (.s v22)) (.s (lb false))) (.y false (.s (lb false)))) (.i v31 (.i v10 (.s v7) (.s (lb false)))
 (.i v30 (.w (.draw []) (.i v10 (.i v14 (.c [] c_sPrimitiveNames (.r 13 (.c [.rd, .rd, .rd] v5 (.h v4 (.s v3))))) (.s (lb false))) (.y false (.s (lb false))))) (.i v29 (.i v8 (.s
 v7) (.s (lb false))) (.i v28 (.i v8 (.s v19) (.s (lb false))) (.i v27 (.c [.rd, .rd, .rd] v18 (.i v13 (.s v7) (.s (lb false)))) (.i v26 (.i (v1 = 3) (.s v7) (.s (lb false))) (.i
 v25 (.c [.rd, .rd, .rd] v16 (.i v11 (.s v7) (.s (lb false)))) (.i v24 (.c [.rd, .rd, .rd] v17 (.i v12 (.c [.rd, .rd, .rd] v15 (.s v9)) (.s (lb false)))) (.i v21 (.i v8 (.s v7) (.s
 (lb false))) (.i v6 (.i v8 (.s v20) (.s (lb false))) (.s (lb false)))))))))))))) (.y false (.i v32 (.i v10 (.i v14 (.c [.rd] v23 (.s v22)) (.s (lb false))) (.y false (.s (lb
 false)))) (.i v31 (.i v10 (.s v7) (.s (lb false))) (.i v30 (.w (.draw []) (.i v10 (.i v14 (.c [] c_sPrimitiveNames (.r 13 (.c [.rd, .rd, .rd] v5 (.h v4 (.s v3))))) (.s (lb
 false))) (.y false (.s (lb false))))) (.i v29 (.i v8 (.s v7) (.s (lb false))) (.i v28 (.i v8 (.s v19) (.s (lb false))) (.i v27 (.c [.rd, .rd, .rd] v18 (.i v13 (.s v7) (.s (lb
 false)))) (.i v26 (.i (v1 = 3) (.s v7) (.s (lb false))) (.i v25 (.c [.rd, .rd, .rd] v16 (.i v11 (.s v7) (.s (lb false)))) (.i v24 (.c [.rd, .rd, .rd] v17 (.i v12 (.c [.rd, .rd,
 .rd] v15 (.s v9)) (.s (lb false)))) (.i v21 (.i v8 (.s v7) (.s (lb false))) (.i v6 (.i v8 (.s v20) (.s (lb false))) (.s (lb false)))))))))))))))) (.y false (.y false (.i v32 (.i
 v10 (.i v14 (.c [.rd] v23 (.s v22)) (.s (lb false))) (.y false (.s (lb false)))) (.i v31 (.i v10 (.s v7) (.s (lb false))) (.i v30 (.w (.draw []) (.i v10 (.i v14 (.c []
 c_sPrimitiveNames (.r 13 (.c [.rd, .rd, .rd] v5 (.h v4 (.s v3))))) (.s (lb false))) (.y false (.s (lb false))))) (.i v29 (.i v8 (.s v7) (.s (lb false))) (.i v28 (.i v8 (.s v19)
 (.s (lb false))) (.i v27 (.c [.rd, .rd, .rd] v18 (.i v13 (.s v7) (.s (lb false)))) (.i v26 (.i (v1 = 3) (.s v7) (.s (lb false))) (.i v25 (.c [.rd, .rd, .rd] v16 (.i v11 (.s v7)
 (.s (lb false)))) (.i v24 (.c [.rd, .rd, .rd] v17 (.i v12 (.c [.rd, .rd, .rd] v15 (.s v9)) (.s (lb false)))) (.i v21 (.i v8 (.s v7) (.s (lb false))) (.i v6 (.i v8 (.s v20) (.s (lb
 false))) (.s (lb false)))))))))))))))))))) (by
  dsimp only [teasy, P_c_sShape]
  have e : primNames.length = 14 := rfl
  with_reducible repeat' (first | apply And.intro | exact zR | (intro; skip) | apply mIc | apply mOc | apply mSc | apply mLc)
  all_goals (try simp only [std, inj] at *)
  all_goals with_reducible repeat' apply And.intro
  all_goals (try (first | exact z | exact zM | grind [shC, snocI, snocS, rowSnoc])))
abbrev P_c_sNodesC (c : Core) : Ct := ⟨224, [], [coreA c], [], .sv (lb (okC c))⟩
def lc_sNodesC_sLa (c : Core) : Lp Nat := .mk 28 0 (fun x => [(1, SV.one (AC.ptr 0 0)), (6, ll (List.map coreC c.kids)), (7, li (↑(List.map coreC c.kids).length : Int)), (8, hs x
 0)]) (fun x => [Ob.box (vals (coreF c))]) (fun k => [.s (li (↑k : Int))]) (fun k => k ≤ c.kids.length ∧ c.kids.length ≤ 9223372036854775807 ∧ (List.take k c.kids).all okC = true ∧
 (List.take k c.kids).all (sqC c) = true) (fun k => c.kids.length - k) [.mk (c.kids.all okC = true ∧ c.kids.all (sqC c) = true) (.exit 0) (fun x => [(1, SV.one (AC.ptr 0 0))]) (fun
 x => [Ob.box (vals (coreF c))]) [], .mk (¬(c.kids.all okC = true ∧ c.kids.all (sqC c) = true)) .ret (fun x => [(2, hs x 0)]) (fun x => []) [.s (lb false)]]
theorem Sc_sNodesC_sLa (c : Core) (ih : ∀ (z : Core), z ∈ c.kids → OK (P_c_sNodesC z)) : Lp.Sem Tryz.prog (loopAt Tryz.f224 0) (lc_sNodesC_sLa c) := lpOK (fun k => .i ((↑k : Int) <
 (↑(List.map coreC c.kids).length : Int)) (.x (↑k : Int) (List.map coreC c.kids) (coreF (c.kids.getD k default)) (.d [.rd] (P_c_sNodesC (c.kids.getD k default)) (.b (!okC
 (c.kids.getD k default)) (.y true (.o 1 [] [.s (lb false)])) (.i (c.kind = 8) (.i ((c.kids.getD k default).kind = 8) (.o 1 [] [.s (lb false)]) (.r ((↑k : Int) + 1) (.g [0] (k + 1)
 [.s (li ((↑k : Int) + 1))]))) (.y false (.r ((↑k : Int) + 1) (.g [0] (k + 1) [.s (li ((↑k : Int) + 1))]))))))) (.o 0 [0] [])) (by
  intro k h; try dsimp only [teasy, nthW, lc_sNodesC_sLa] at h ⊢
  with_reducible repeat' (first | apply And.intro | exact zR | exact ih | (intro; skip) | apply mIc | apply mOc | apply mSc | apply mLc | apply ih)
  all_goals (try simp only [std, inj] at *)
  all_goals with_reducible repeat' apply And.intro
  all_goals (try (first | with_reducible apply ih | (simp only [← List.map_append]; first | with_reducible apply ih)))
  all_goals (try (first | exact z | exact zM | grind [take_get, getD_mem', sqC, snocI, snocS, rowSnoc])))
theorem c_sNodesC_s (c : Core) (ih : ∀ z ∈ c.kids, P_c_sNodesC z)  : P_c_sNodesC c := fnOK Tryz.call224 Tryz.func224 (.z coreC c.kids (.l (lc_sNodesC_sLa c) (Sc_sNodesC_sLa c ih) [0]
 [.s (li 0)] 0 (.t (.c [.rd] (c_sShape c) (.s (lb (shC c)))) (.t (.s (lb false)) .q)))) (by
  dsimp only [teasy, P_c_sNodesC, nthW, lc_sNodesC_sLa]
  with_reducible repeat' (first | apply And.intro | exact zR | exact ih | (intro; skip) | apply mIc | apply mOc | apply mSc | apply mLc)
  all_goals (try simp only [std, inj] at *)
  all_goals with_reducible repeat' apply And.intro
  all_goals (try (first | with_reducible apply ih | (simp only [← List.map_append]; first | with_reducible apply ih)))
  all_goals (try (first | exact z | exact zM | grind [okC_eq, shI, snocI, snocS, rowSnoc])))
theorem c_sNodesC (c : Core) : P_c_sNodesC c := Core.ind (P := fun c => P_c_sNodesC c) (fun c ih => c_sNodesC_s c ih) c
abbrev P_c_sIsCore (c : Core) (G : List Int) : Ct := ⟨186, [], [coreA c, ll (G.map intC)], [], .sv (lb (isCor c G))⟩
def lc_sIsCoreLa (c : Core) (G : List Int) : Lp Nat := .mk 41 0 (fun x => [(1, ll (List.map intC G)), (30, SV.one (AC.ref 0)), (31, li (↑(List.map intC (fre c [] [])).length :
 Int)), (32, hs x 0)]) (fun x => [Ob.arr true 1 (List.map intC (fre c [] []))]) (fun k => [.s (li (↑k : Int))]) (fun k => k ≤ (fre c [] []).length ∧ (fre c [] []).length ≤
 9223372036854775807 ∧ ((List.take k (fre c [] [])).all fun n => decide (n ∈ G)) = true) (fun k => (fre c [] []).length - k) [.mk (((fre c [] []).all fun n => decide (n ∈ G)) =
 true) (.exit 0) (fun x => []) (fun x => []) [], .mk (((fre c [] []).all fun n => decide (n ∈ G)) = false) .ret (fun x => [(4, hs x 0)]) (fun x => []) [.s (lb false)]]
theorem Sc_sIsCoreLa (c : Core) (G : List Int) (h : wC c ≤ 100000000 ∧ G.length ≤ 100000000) : Lp.Sem Tryz.prog (loopAt Tryz.f186 0) (lc_sIsCoreLa c G) := lpOK (fun k => .i ((↑k :
 Int) < (↑(List.map intC (fre c [] [])).length : Int)) (.p (0 ≤ (↑k : Int) ∧ (↑k : Int).toNat < (List.map intC (fre c [] [])).length) (.w (.cells (intC ((fre c [] []).getD (↑k :
 Int).toNat default))) (.p ((List.map intC (fre c [] []))[(↑k : Int).toNat]? = some [cI ((fre c [] []).getD (↑k : Int).toNat 0)]) (.c [.rd, .rd] (c_sHas G ((fre c [] []).getD (↑k :
 Int).toNat 0)) (.b (!decide ((fre c [] []).getD (↑k : Int).toNat 0 ∈ G)) (.o 1 [] [.s (lb false)]) (.r ((↑k : Int) + 1) (.g [0] (k + 1) [.s (li ((↑k : Int) + 1))]))))))) (.o 0 []
 [])) (by
  intro k h; try dsimp only [teasy, nthW, lc_sIsCoreLa] at h ⊢
  with_reducible repeat' (first | apply And.intro | exact zR | (intro; skip) | apply mIc | apply mOc | apply mSc | apply mLc | apply c_sDepC | apply c_l2Ints | apply c_sBound | apply c_sFree)
  all_goals (try simp only [std, inj] at *)
  all_goals with_reducible repeat' apply And.intro
  all_goals (try (first | with_reducible apply c_sDepC | with_reducible apply c_l2Ints | with_reducible apply c_sBound | with_reducible apply c_sFree | (simp only [← List.map_append]; first | with_reducible apply c_sDepC | with_reducible apply c_l2Ints | with_reducible apply c_sBound | with_reducible apply c_sFree)))
  all_goals (try (first | exact z | exact zM | grind [take_get, snocI, snocS, rowSnoc])))
theorem c_sIsCore (c : Core) (G : List Int) (h : wC c ≤ 100000000 ∧ G.length ≤ 100000000)  : P_c_sIsCore c G := fnOK Tryz.call186 Tryz.func186 (.w (.draw [(18, [25, 34])]) (.c [.rd]
 (c_sSmall c) (.b (!decide (sizeC c ≤ 3000)) (.y true (.y true (.y true (.s (lb false))))) (.d [.rd] (P_c_sDepC c) (.i (150 < (↑(depC c) : Int)) (.y true (.y true (.s (lb false))))
 (.c [.rd] (c_sNodesC c) (.b (!okC c) (.y true (.s (lb false))) (.d [.rd] (P_c_l2Ints G) (.d [.rd, .own true 1] (P_c_sBound c []) (.p (((List.map intC G).length + (List.map intC
 (bnd c)).length) * 8 ≤ 140737488355328) (.u [.rd] (P_c_sUniq (G ++ bnd c)) (.p (CallOK Tryz.prog 185 [] [ll (List.map intC G ++ List.map intC (bnd c))] [] (AV.sv (lb (okU (G ++
 bnd c))))) (.b (!okU (G ++ bnd c)) (.s (lb false)) (.d [.rd] (P_c_sFree c) (.z intC (fre c [] []) (.l (lc_sIsCoreLa c G) (Sc_sIsCoreLa c G h) [42] [.s (li 0)] 0 (.t (.s (lb true))
 (.t (.s (lb false)) .q)))))))))))))))))) (by
  dsimp only [teasy, P_c_sIsCore, nthW, lc_sIsCoreLa]
  have g1 := bnd_le c
  have g2 := fre_len c [] []
  with_reducible repeat' (first | apply And.intro | exact zR | (intro; skip) | apply mIc | apply mOc | apply mSc | apply mLc | apply c_sSmall | apply c_sDepC | apply c_sNodesC | apply c_l2Ints | apply c_sBound | apply c_sUniq | apply c_sFree | apply c_sHas)
  all_goals (try simp only [std, inj] at *)
  all_goals with_reducible repeat' apply And.intro
  all_goals (try (first | with_reducible apply c_sSmall | with_reducible apply c_sDepC | with_reducible apply c_sNodesC | with_reducible apply c_l2Ints | with_reducible apply c_sBound | with_reducible apply c_sUniq | with_reducible apply c_sFree | with_reducible apply c_sHas | (simp only [← List.map_append]; first | with_reducible apply c_sSmall | with_reducible apply c_sDepC | with_reducible apply c_sNodesC | with_reducible apply c_l2Ints | with_reducible apply c_sBound | with_reducible apply c_sUniq | with_reducible apply c_sFree | with_reducible apply c_sHas)))
  all_goals (try (first | exact z | exact zM | grind [isCor, smC, snocI, snocS, rowSnoc])))
abbrev P_c_iShape (c : Core) : Ct := ⟨246, [], [coreA c], [], .sv (lb (shI c))⟩
def lc_iShapeLa (c : Core) : Lp Nat := .mk 175 0 (fun x => [(133, ll (List.map coreC c.kids)), (134, li (↑(List.map coreC c.kids).length : Int)), (135, hs x 0)]) (fun x => []) (fun
 k => [.s (li (↑k : Int))]) (fun k => k ≤ c.kids.length ∧ c.kids.length ≤ 9223372036854775807 ∧ ((List.take k c.kids).all fun x => !decide (x.kind = 8)) = true) (fun k =>
 c.kids.length - k) [.mk ((c.kids.all fun x => !decide (x.kind = 8)) = true) (.exit 1) (fun x => []) (fun x => []) [], .mk ((c.kids.all fun x => !decide (x.kind = 8)) = false) .ret
 (fun x => [(2, hs x 0)]) (fun x => []) [.s (lb false)]]
theorem Sc_iShapeLa (c : Core) : Lp.Sem Tryz.prog (loopAt Tryz.f246 0) (lc_iShapeLa c) := lpOK (fun k => .i ((↑k : Int) < (↑(List.map coreC c.kids).length : Int)) (.x (↑k : Int)
 (List.map coreC c.kids) (coreF (c.kids.getD k default)) (.i ((c.kids.getD k default).kind = 8) (.o 1 [] [.s (lb false)]) (.r ((↑k : Int) + 1) (.g [] (k + 1) [.s (li ((↑k : Int) +
 1))])))) (.o 0 [] [])) (by
  intro k h; try dsimp only [teasy, nthW, lc_iShapeLa] at h ⊢
  with_reducible repeat' (first | apply And.intro | exact zR | (intro; skip) | apply mIc | apply mOc | apply mSc | apply mLc)
  all_goals (try simp only [std, inj] at *)
  all_goals with_reducible repeat' apply And.intro
  all_goals (try (first | exact z | exact zM | grind [take_get, snocI, snocS, rowSnoc])))
theorem c_iShape (c : Core)  : P_c_iShape c := fnOK Tryz.call246 Tryz.func246 (let v1 := (↑(List.map coreC c.kids).length : Int); let v2 := (↑(List.map intC c.params).length : Int);
 let v3 := (14 ≤ 9223372036854775807); let v4 := (lb (decide (c.number < 14))); let v5 := (0 ≤ c.number); let v6 := (c.kind = 11); let v7 := (lb (decide (v1 = 1))); let v8 := (v2 =
 0); let v9 := (v1 = 0); let v10 := (lb (decide (v1 ≤ 60))); let v11 := (lb (decide (v1 ≤ 9))); let v12 := (lb (decide (v1 = 3))); let v13 := (1 ≤ v1); let v14 := (c.kind = 10);
 let v15 := (lb (isDat c.datum)); let v16 := (c_iIsDatum c.datum); let v17 := (c.kind = 9); let v18 := (c.kind = 8); let v19 := (c.kind = 7); let v20 := (c.kind = 6); let v21 :=
 (c.kind = 5); let v22 := (c.kind = 4); let v23 := (c.kind = 3); let v24 := (c.kind = 2); let v25 := (c.kind = 1); let v26 := (v2 ≤ 60); let v27 := (60 < v1); let v28 := (v2 ≤ 8);
 let v29 := (v2 ≠ 0); let v30 := (v2 = 1); let v31 := (v1 < 2); let v32 := (lb (decide v9)); let v33 := (1 ≤ v2); .w (.draw []) (.z intC c.params (.z coreC c.kids (.i (c.kind ≠ 1)
 (.c [.rd, .rd] (c_iEqData c.datum (Datum.mk 0 0 (ByteArray.mk #[]) [])) (.b (!decide (c.datum = Datum.mk 0 0 (ByteArray.mk #[]) [])) (.s (lb false)) (.i (c.number ≠ 0) (.i (c.kind
 ≠ 2) (.i (c.kind ≠ 3) (.i (c.kind ≠ 4) (.s (lb false)) (.i v25 (.i v8 (.i v9 (.c [.rd] v16 (.s v15)) (.s (lb false))) (.y false (.s (lb false)))) (.i v24 (.i v8 (.s v32) (.s (lb
 false))) (.i v23 (.w (.draw []) (.i v8 (.i v9 (.i v5 (.c [] c_iPrimitiveNames (.h v3 (.s v4))) (.s (lb false))) (.y false (.s (lb false)))) (.y false (.y false (.s (lb false))))))
 (.i v22 (.i v8 (.s v7) (.s (lb false))) (.i v21 (.i v28 (.s v7) (.s (lb false))) (.i v20 (.i v8 (.i v13 (.s v11) (.s (lb false))) (.y false (.s (lb false)))) (.i v19 (.i v8 (.s
 v12) (.s (lb false))) (.i v18 (.i v29 (.y true (.y true (.s (lb false)))) (.i v31 (.y true (.s (lb false))) (.i v27 (.s (lb false)) (.z coreC c.kids (.l (lc_iShapeLa c)
 (Sc_iShapeLa c) [] [.s (li 0)] 0 (.t (.s (lb true)) (.t (.s (lb false)) .q))))))) (.i v17 (.i v33 (.i v26 (.i v13 (.s v10) (.s (lb false))) (.y false (.s (lb false)))) (.y false
 (.y false (.s (lb false))))) (.i v14 (.i v8 (.s v7) (.s (lb false))) (.i v6 (.i v30 (.s v7) (.s (lb false))) (.s (lb false)))))))))))))) (.y false (.i v25 (.i v8 (.i v9 (.c [.rd]
 v16 (.s v15)) (.s (lb false))) (.y false (.s (lb false)))) (.i v24 (.i v8 (.s v32) (.s (lb false))) (.i v23 (.w (.draw []) (.i v8 (.i v9 (.i v5 (.c [] c_iPrimitiveNames (.h v3 (.s
 v4))) (.s (lb false))) (.y false (.s (lb false)))) (.y false (.y false (.s (lb false)))))) (.i v22 (.i v8 (.s v7) (.s (lb false))) (.i v21 (.i v28 (.s v7) (.s (lb false))) (.i v20
 (.i v8 (.i v13 (.s v11) (.s (lb false))) (.y false (.s (lb false)))) (.i v19 (.i v8 (.s v12) (.s (lb false))) (.i v18 (.i v29 (.y true (.y true (.s (lb false)))) (.i v31 (.y true
 (.s (lb false))) (.i v27 (.s (lb false)) (.z coreC c.kids (.l (lc_iShapeLa c) (Sc_iShapeLa c) [] [.s (li 0)] 0 (.t (.s (lb true)) (.t (.s (lb false)) .q))))))) (.i v17 (.i v33 (.i
 v26 (.i v13 (.s v10) (.s (lb false))) (.y false (.s (lb false)))) (.y false (.y false (.s (lb false))))) (.i v14 (.i v8 (.s v7) (.s (lb false))) (.i v6 (.i v30 (.s v7) (.s (lb
 false))) (.s (lb false))))))))))))))) (.y false (.y false (.i v25 (.i v8 (.i v9 (.c [.rd] v16 (.s v15)) (.s (lb false))) (.y false (.s (lb false)))) (.i v24 (.i v8 (.s v32) (.s
 (lb false))) (.i v23 (.w (.draw []) (.i v8 (.i v9 (.i v5 (.c [] c_iPrimitiveNames (.h v3 (.s v4))) (.s (lb false))) (.y false (.s (lb false)))) (.y false (.y false (.s (lb
 false)))))) (.i v22 (.i v8 (.s v7) (.s (lb false))) (.i v21 (.i v28 (.s v7) (.s (lb false))) (.i v20 (.i v8 (.i v13 (.s v11) (.s (lb false))) (.y false (.s (lb false)))) (.i v19
 (.i v8 (.s v12) (.s (lb false))) (.i v18 (.i v29 (.y true (.y true (.s (lb false)))) (.i v31 (.y true (.s (lb false))) (.i v27 (.s (lb false)) (.z coreC c.kids (.l (lc_iShapeLa c)
 (Sc_iShapeLa c) [] [.s (li 0)] 0 (.t (.s (lb true)) (.t (.s (lb false)) .q))))))) (.i v17 (.i v33 (.i v26 (.i v13 (.s v10) (.s (lb false))) (.y false (.s (lb false)))) (.y false
 (.y false (.s (lb false))))) (.i v14 (.i v8 (.s v7) (.s (lb false))) (.i v6 (.i v30 (.s v7) (.s (lb false))) (.s (lb false)))))))))))))))) (.y false (.y false (.y false (.i v25
 (.i v8 (.i v9 (.c [.rd] v16 (.s v15)) (.s (lb false))) (.y false (.s (lb false)))) (.i v24 (.i v8 (.s v32) (.s (lb false))) (.i v23 (.w (.draw []) (.i v8 (.i v9 (.i v5 (.c []
 c_iPrimitiveNames (.h v3 (.s v4))) (.s (lb false))) (.y false (.s (lb false)))) (.y false (.y false (.s (lb false)))))) (.i v22 (.i v8 (.s v7) (.s (lb false))) (.i v21 (.i v28 (.s
 v7) (.s (lb false))) (.i v20 (.i v8 (.i v13 (.s v11) (.s (lb false))) (.y false (.s (lb false)))) (.i v19 (.i v8 (.s v12) (.s (lb false))) (.i v18 (.i v29 (.y true (.y true (.s
 (lb false)))) (.i v31 (.y true (.s (lb false))) (.i v27 (.s (lb false)) (.z coreC c.kids (.l (lc_iShapeLa c) (Sc_iShapeLa c) [] [.s (li 0)] 0 (.t (.s (lb true)) (.t (.s (lb
 false)) .q))))))) (.i v17 (.i v33 (.i v26 (.i v13 (.s v10) (.s (lb false))) (.y false (.s (lb false)))) (.y false (.y false (.s (lb false))))) (.i v14 (.i v8 (.s v7) (.s (lb
 false))) (.i v6 (.i v30 (.s v7) (.s (lb false))) (.s (lb false))))))))))))))))))) (.y false (.i (c.number ≠ 0) (.i (c.kind ≠ 2) (.i (c.kind ≠ 3) (.i (c.kind ≠ 4) (.s (lb false))
 (.i v25 (.i v8 (.i v9 (.c [.rd] v16 (.s v15)) (.s (lb false))) (.y false (.s (lb false)))) (.i v24 (.i v8 (.s v32) (.s (lb false))) (.i v23 (.w (.draw []) (.i v8 (.i v9 (.i v5 (.c
 [] c_iPrimitiveNames (.h v3 (.s v4))) (.s (lb false))) (.y false (.s (lb false)))) (.y false (.y false (.s (lb false)))))) (.i v22 (.i v8 (.s v7) (.s (lb false))) (.i v21 (.i v28
 (.s v7) (.s (lb false))) (.i v20 (.i v8 (.i v13 (.s v11) (.s (lb false))) (.y false (.s (lb false)))) (.i v19 (.i v8 (.s v12) (.s (lb false))) (.i v18 (.i v29 (.y true (.y true
 (.s (lb false)))) (.i v31 (.y true (.s (lb false))) (.i v27 (.s (lb false)) (.z coreC c.kids (.l (lc_iShapeLa c) (Sc_iShapeLa c) [] [.s (li 0)] 0 (.t (.s (lb true)) (.t (.s (lb
 false)) .q))))))) (.i v17 (.i v33 (.i v26 (.i v13 (.s v10) (.s (lb false))) (.y false (.s (lb false)))) (.y false (.y false (.s (lb false))))) (.i v14 (.i v8 (.s v7) (.s (lb
 false))) (.i v6 (.i v30 (.s v7) (.s (lb false))) (.s (lb false)))))))))))))) (.y false (.i v25 (.i v8 (.i v9 (.c [.rd] v16 (.s v15)) (.s (lb false))) (.y false (.s (lb false))))
 (.i v24 (.i v8 (.s v32) (.s (lb false))) (.i v23 (.w (.draw []) (.i v8 (.i v9 (.i v5 (.c [] c_iPrimitiveNames (.h v3 (.s v4))) (.s (lb false))) (.y false (.s (lb false)))) (.y
 false (.y false (.s (lb false)))))) (.i v22 (.i v8 (.s v7) (.s (lb false))) (.i v21 (.i v28 (.s v7) (.s (lb false))) (.i v20 (.i v8 (.i v13 (.s v11) (.s (lb false))) (.y false (.s
 (lb false)))) (.i v19 (.i v8 (.s v12) (.s (lb false))) (.i v18 (.i v29 (.y true (.y true (.s (lb false)))) (.i v31 (.y true (.s (lb false))) (.i v27 (.s (lb false)) (.z coreC
 c.kids (.l (lc_iShapeLa c) (Sc_iShapeLa c) [] [.s (li 0)] 0 (.t (.s (lb true)) (.t (.s (lb false)) .q))))))) (.i v17 (.i v33 (.i v26 (.i v13 (.s v10) (.s (lb false))) (.y false
 (.s (lb false)))) (.y false (.y false (.s (lb false))))) (.i v14 (.i v8 (.s v7) (.s (lb false))) (.i v6 (.i v30 (.s v7) (.s (lb false))) (.s (lb false))))))))))))))) (.y false (.y
 false (.i v25 (.i v8 (.i v9 (.c [.rd] v16 (.s v15)) (.s (lb false))) (.y false (.s (lb false)))) (.i v24 (.i v8 (.s v32) (.s (lb false))) (.i v23 (.w (.draw []) (.i v8 (.i v9 (.i
 v5 (.c [] c_iPrimitiveNames (.h v3 (.s v4))) (.s (lb false))) (.y false (.s (lb false)))) (.y false (.y false (.s (lb false)))))) (.i v22 (.i v8 (.s v7) (.s (lb false))) (.i v21
 (.i v28 (.s v7) (.s (lb false))) (.i v20 (.i v8 (.i v13 (.s v11) (.s (lb false))) (.y false (.s (lb false)))) (.i v19 (.i v8 (.s v12) (.s (lb false))) (.i v18 (.i v29 (.y true (.y
 true (.s (lb false)))) (.i v31 (.y true (.s (lb false))) (.i v27 (.s (lb false)) (.z coreC c.kids (.l (lc_iShapeLa c) (Sc_iShapeLa c) [] [.s (li 0)] 0 (.t (.s (lb true)) (.t (.s
 (lb false)) .q))))))) (.i v17 (.i v33 (.i v26 (.i v13 (.s v10) (.s (lb false))) (.y false (.s (lb false)))) (.y false (.y false (.s (lb false))))) (.i v14 (.i v8 (.s v7) (.s (lb
 false))) (.i v6 (.i v30 (.s v7) (.s (lb false))) (.s (lb false)))))))))))))))) (.y false (.y false (.y false (.i v25 (.i v8 (.i v9 (.c [.rd] v16 (.s v15)) (.s (lb false))) (.y
 false (.s (lb false)))) (.i v24 (.i v8 (.s v32) (.s (lb false))) (.i v23 (.w (.draw []) (.i v8 (.i v9 (.i v5 (.c [] c_iPrimitiveNames (.h v3 (.s v4))) (.s (lb false))) (.y false
 (.s (lb false)))) (.y false (.y false (.s (lb false)))))) (.i v22 (.i v8 (.s v7) (.s (lb false))) (.i v21 (.i v28 (.s v7) (.s (lb false))) (.i v20 (.i v8 (.i v13 (.s v11) (.s (lb
 false))) (.y false (.s (lb false)))) (.i v19 (.i v8 (.s v12) (.s (lb false))) (.i v18 (.i v29 (.y true (.y true (.s (lb false)))) (.i v31 (.y true (.s (lb false))) (.i v27 (.s (lb
 false)) (.z coreC c.kids (.l (lc_iShapeLa c) (Sc_iShapeLa c) [] [.s (li 0)] 0 (.t (.s (lb true)) (.t (.s (lb false)) .q))))))) (.i v17 (.i v33 (.i v26 (.i v13 (.s v10) (.s (lb
 false))) (.y false (.s (lb false)))) (.y false (.y false (.s (lb false))))) (.i v14 (.i v8 (.s v7) (.s (lb false))) (.i v6 (.i v30 (.s v7) (.s (lb false))) (.s (lb
 false)))))))))))))))))))))) (by
  dsimp only [teasy, P_c_iShape, nthW, lc_iShapeLa]
  have e : primNames.length = 14 := rfl
  with_reducible repeat' (first | apply And.intro | exact zR | (intro; skip) | apply mIc | apply mOc | apply mSc | apply mLc)
  all_goals (try simp only [std, inj] at *)
  all_goals with_reducible repeat' apply And.intro
  all_goals (try (first | exact z | exact zM | grind [shC, shI, sqC, snocI, snocS, rowSnoc])))
abbrev P_c_iMeaC (c : Core) (deep : Int) (q : Int) : Ct := ⟨230, [.box [vI q]], [coreA c, li deep, .one (.ptr 0 0)], [.box [vI (meaC c deep q).2]], .sv (lb (meaC c deep q).1)⟩
def lc_iMeaC_sLa (c : Core) (deep : Int) (q : Int) : Lp Nat := .mk 41 1 (fun x => [(1, li deep), (2, SV.one (AC.ptr 0 0)), (28, ll (List.map coreC c.kids)), (29, li (↑(List.map
 coreC c.kids).length : Int)), (30, hs x 0)]) (fun x => [Ob.box [ha x 1]]) (fun k => [.s (li (↑k : Int)), .a (vI (scan (fun x m => meaC x (deep + 1) m) (List.take k c.kids) (q +
 1)).snd)]) (fun k => k ≤ c.kids.length ∧ c.kids.length ≤ 9223372036854775807 ∧ deep ≤ 150 ∧ (scan (fun x m => meaC x (deep + 1) m) (List.take k c.kids) (q + 1)).fst = true ∧ q ≤
 (scan (fun x m => meaC x (deep + 1) m) (List.take k c.kids) (q + 1)).snd ∧ (scan (fun x m => meaC x (deep + 1) m) (List.take k c.kids) (q + 1)).snd ≤ 3000) (fun k => c.kids.length
 - k) [.mk ((scan (fun x m => meaC x (deep + 1) m) c.kids (q + 1)).fst = true) (.exit 0) (fun x => []) (fun x => [Ob.box [ha x 0]]) [.a (vI (scan (fun x m => meaC x (deep + 1) m)
 c.kids (q + 1)).snd)], .mk ((scan (fun x m => meaC x (deep + 1) m) c.kids (q + 1)).fst = false) .ret (fun x => [(6, hs x 0)]) (fun x => [Ob.box [ha x 1]]) [.s (lb false), .a (vI
 (scan (fun x m => meaC x (deep + 1) m) c.kids (q + 1)).snd)]]
theorem Sc_iMeaC_sLa (c : Core) (deep : Int) (q : Int) (h : 0 ≤ deep ∧ deep ≤ 151 ∧ 0 ≤ q ∧ q ≤ 3000) (ih : ∀ (z : Core), z ∈ c.kids → ∀ (deep q : Int), 0 ≤ deep ∧ deep ≤ 151 ∧ 0 ≤
 q ∧ q ≤ 3000 → OK (P_c_iMeaC z deep q)) : Lp.Sem Tryz.prog (loopAt Tryz.f230 0) (lc_iMeaC_sLa c deep q) := lpOK (fun k => .i ((↑k : Int) < (↑(List.map coreC c.kids).length : Int))
 (.x (↑k : Int) (List.map coreC c.kids) (coreF (c.kids.getD k default)) (.r (deep + 1) (.d [.rd, .rd, .ptr] (P_c_iMeaC (c.kids.getD k default) (deep + 1) (scan (fun x m => meaC x
 (deep + 1) m) (List.take k c.kids) (q + 1)).snd) (.b (!(meaC (c.kids.getD k default) (deep + 1) (scan (fun x m => meaC x (deep + 1) m) (List.take k c.kids) (q + 1)).snd).fst) (.o
 1 [0] [.s (lb false), .a (vI (meaC (c.kids.getD k default) (deep + 1) (scan (fun x m => meaC x (deep + 1) m) (List.take k c.kids) (q + 1)).snd).snd)]) (.r ((↑k : Int) + 1) (.g [0]
 (k + 1) [.s (li ((↑k : Int) + 1)), .a (vI (meaC (c.kids.getD k default) (deep + 1) (scan (fun x m => meaC x (deep + 1) m) (List.take k c.kids) (q + 1)).snd).snd)])))))) (.o 0 [0]
 [.a (vI (scan (fun x m => meaC x (deep + 1) m) (List.take k c.kids) (q + 1)).snd)])) (by
  intro k h; try dsimp only [teasy, nthW, lc_iMeaC_sLa] at h ⊢
  have g1 := fun x m => meaC_of x (deep + 1) m
  with_reducible repeat' (first | apply And.intro | exact zR | exact ih | (intro; skip) | apply mIc | apply mOc | apply mSc | apply mLc | apply ih)
  all_goals (try simp only [std, inj] at *)
  all_goals with_reducible repeat' apply And.intro
  all_goals (try (first | with_reducible apply ih | (simp only [← List.map_append]; first | with_reducible apply ih)))
  all_goals (try (first | exact z | exact zM | grind [scan_step, scan_stop, getD_mem', snocI, snocS, rowSnoc])))
theorem c_iMeaC_s (c : Core) (deep q : Int) (h : 0 ≤ deep ∧ deep ≤ 151 ∧ 0 ≤ q ∧ q ≤ 3000) (ih : ∀ z ∈ c.kids, ∀ (deep : Int) (q : Int) (h : 0 ≤ deep ∧ deep ≤ 151 ∧ 0 ≤ q ∧ q ≤
 3000), P_c_iMeaC z deep q)  : P_c_iMeaC c deep q := fnOK Tryz.call230 Tryz.func230 (.r (q + 1) (.i (150 < deep) (.y true (.y true (.f [] [Ob.box [vI (q + 1)]] (AV.sv (lb false)))))
 (.i (3000 < q + 1) (.y true (.f [] [Ob.box [vI (q + 1)]] (AV.sv (lb false)))) (.c [.rd] (c_iShape c) (.b (!shI c) (.f [] [Ob.box [vI (q + 1)]] (AV.sv (lb false))) (.z coreC c.kids
 (.l (lc_iMeaC_sLa c deep q) (Sc_iMeaC_sLa c deep q h ih) [0] [.s (li 0), .a (vI (q + 1))] 0 (.t (.f [] [Ob.box [vI (scan (fun x m => meaC x (deep + 1) m) c.kids (q + 1)).snd]]
 (AV.sv (lb true))) (.t (.f [] [Ob.box [vI (scan (fun x m => meaC x (deep + 1) m) c.kids (q + 1)).snd]] (AV.sv (lb false))) .q))))))))) (by
  dsimp only [teasy, P_c_iMeaC, nthW, lc_iMeaC_sLa]
  with_reducible repeat' (first | apply And.intro | exact zR | exact ih | (intro; skip) | apply mIc | apply mOc | apply mSc | apply mLc)
  all_goals (try simp only [std, inj] at *)
  all_goals with_reducible repeat' apply And.intro
  all_goals (try (first | with_reducible apply ih | (simp only [← List.map_append]; first | with_reducible apply ih)))
  all_goals (try (first | exact z | exact zM | grind [meaC_eq, scan, snocI, snocS, rowSnoc])))
theorem c_iMeaC (c : Core) : ∀ (deep : Int) (q : Int) (h : 0 ≤ deep ∧ deep ≤ 151 ∧ 0 ≤ q ∧ q ≤ 3000), P_c_iMeaC c deep q := Core.ind (P := fun c => ∀ (deep : Int) (q : Int) (h : 0 ≤ deep ∧ deep ≤ 151 ∧ 0 ≤ q ∧ q ≤ 3000), P_c_iMeaC c deep q) (fun c ih deep q h => c_iMeaC_s c deep q h ih) c
abbrev P_c_iDiff (Ls : List (List Int)) : Ct := ⟨145, [], [ll (Ls.map lintC)], [], .sv (lb (okU Ls.flatten))⟩
def lc_iDiffLb (Ls : List (List Int)) (k : Nat) : Lp Nat := .mk 37 0 (fun x => [(3, SV.one (AC.mref 0)), (9, ll (List.map lintC Ls)), (10, li (↑(List.map lintC Ls).length : Int)),
 (11, li (↑k : Int)), (15, ll (List.map intC (Ls.getD k []))), (16, li (↑(List.map intC (Ls.getD k [])).length : Int)), (17, hs x 0)]) (fun x => [ho x 1]) (fun k1 => [.s (li (↑k1 :
 Int)), .o (Ob.map false kI (mI (memI ((List.take k Ls).flatten ++ List.take k1 (Ls.getD k [])))))]) (fun k1 => k1 ≤ (Ls.getD k []).length ∧ (Ls.getD k []).length ≤
 9223372036854775807 ∧ k < Ls.length ∧ okU ((List.take k Ls).flatten ++ List.take k1 (Ls.getD k [])) = true) (fun k1 => (Ls.getD k []).length - k1) [.mk (okU (List.take (k + 1)
 Ls).flatten = true) (.exit 2) (fun x => [(3, SV.one (AC.mref 0)), (9, ll (List.map lintC Ls)), (10, li (↑(List.map lintC Ls).length : Int)), (11, li (↑k : Int))]) (fun x => [ho x
 0]) [.o (Ob.map false kI (mI (memI (List.take (k + 1) Ls).flatten)))], .mk (okU Ls.flatten = false) .ret (fun x => [(2, hs x 0)]) (fun x => []) [.s (lb false)]]
def lc_iDiffLa (Ls : List (List Int)) : Lp Nat := .mk 37 0 (fun x => [(3, SV.one (AC.mref 0)), (9, ll (List.map lintC Ls)), (10, li (↑(List.map lintC Ls).length : Int)), (11, hs x
 0)]) (fun x => [ho x 1]) (fun k => [.s (li (↑k : Int)), .o (Ob.map false kI (mI (memI (List.take k Ls).flatten)))]) (fun k => k ≤ Ls.length ∧ Ls.length ≤ 9223372036854775807 ∧ okU
 (List.take k Ls).flatten = true) (fun k => Ls.length - k) [.mk (okU Ls.flatten = true) (.exit 0) (fun x => []) (fun x => []) [], .mk (okU Ls.flatten = false) .ret (fun x => [(2,
 hs x 0)]) (fun x => []) [.s (lb false)]]
theorem Sc_iDiffLb (Ls : List (List Int)) (k : Nat) : Lp.Sem Tryz.prog (loopAt Tryz.f145 1) (lc_iDiffLb Ls k) := lpOK (fun k1 => .i ((↑k1 : Int) < (↑(List.map intC (Ls.getD k
 [])).length : Int)) (.x (↑k1 : Int) (List.map intC (Ls.getD k [])) [cI ((Ls.getD k []).getD k1 0)] (.i ((Ls.getD k []).getD k1 (0 : Int) < 0) (.y true (.y true (.o 1 [] [.s (lb
 false)]))) (.i (99999 < (Ls.getD k []).getD k1 0) (.y true (.o 1 [] [.s (lb false)])) (.w (.cells [cI (memI ((List.take k Ls).flatten ++ List.take k1 (Ls.getD k [])) ((Ls.getD k
 []).getD k1 0))]) (.p (LookAt (Value.int IntKind.i64 0) (mI (memI ((List.take k Ls).flatten ++ List.take k1 (Ls.getD k [])))) (Value.int IntKind.i64 ((Ls.getD k []).getD k1 0))
 (cI (memI ((List.take k Ls).flatten ++ List.take k1 (Ls.getD k [])) ((Ls.getD k []).getD k1 0)))) (.i (memI ((List.take k Ls).flatten ++ List.take k1 (Ls.getD k [])) ((Ls.getD k
 []).getD k1 0) = 1) (.o 1 [] [.s (lb false)]) (.w (.upd (mI (upd1 (memI ((List.take k Ls).flatten ++ List.take k1 (Ls.getD k []))) ((Ls.getD k []).getD k1 0) 1))) (.p (false =
 false) (.p (UpdF kI.d (mI (memI ((List.take k Ls).flatten ++ List.take k1 (Ls.getD k [])))) (mI (upd1 (memI ((List.take k Ls).flatten ++ List.take k1 (Ls.getD k []))) ((Ls.getD k
 []).getD k1 0) 1)) (Value.int IntKind.i64 ((Ls.getD k []).getD k1 0)) (some (cI 1))) (.r ((↑k1 : Int) + 1) (.g [0] (k1 + 1) [.s (li ((↑k1 : Int) + 1)), .o (Ob.map false kI (mI
 (upd1 (memI ((List.take k Ls).flatten ++ List.take k1 (Ls.getD k []))) ((Ls.getD k []).getD k1 0) 1)))]))))))))))) (.o 0 [0] [.o (Ob.map false kI (mI (memI ((List.take k
 Ls).flatten ++ List.take k1 (Ls.getD k [])))))])) (by
  intro k1 h; try dsimp only [teasy, nthW, lc_iDiffLb] at h ⊢
  have g1 := @okU_part Ls k (k1 + 1)
  have g2 := @takeI (Ls.getD k []) k1
  have g3 := @okU_snoc ((Ls.take k).flatten ++ (Ls.getD k []).take k1) ((Ls.getD k []).getD k1 0)
  have g4 := @memI_one ((Ls.take k).flatten ++ (Ls.getD k []).take k1) ((Ls.getD k []).getD k1 0)
  have g5 : ∀ j, (Ls.getD k []).length ≤ j → (Ls.getD k []).take j = Ls.getD k [] := fun j h => List.take_of_length_le h
  with_reducible repeat' (first | apply And.intro | exact zR | (intro; skip) | apply mIc | apply mOc | apply mSc | apply mLc)
  all_goals (try simp only [std, inj] at *)
  all_goals with_reducible repeat' apply And.intro
  all_goals (try (first | exact z | exact zM | grind [takeLs, memI_snoc, List.append_assoc, snocI, snocS, rowSnoc])))
theorem Sc_iDiffLa (Ls : List (List Int)) : Lp.Sem Tryz.prog (loopAt Tryz.f145 0) (lc_iDiffLa Ls) := lpOK (fun k => .i ((↑k : Int) < (↑(List.map lintC Ls).length : Int)) (.x (↑k :
 Int) (List.map lintC Ls) [Cell.list (List.map intC (Ls.getD k []))] (.z intC (Ls.getD k []) (.l (lc_iDiffLb Ls k) (Sc_iDiffLb Ls k) [0] [.s (li 0), .o (Ob.map false kI (mI (memI
 (List.take k Ls).flatten)))] 0 (.t (.r ((↑k : Int) + 1) (.g [0] (k + 1) [.s (li ((↑k : Int) + 1)), .o (Ob.map false kI (mI (memI (List.take (k + 1) Ls).flatten)))])) (.t (.o 1 []
 [.s (lb false)]) .q))))) (.o 0 [] [])) (by
  intro k h; try dsimp only [teasy, nthW, lc_iDiffLa, lc_iDiffLb] at h ⊢
  with_reducible repeat' (first | apply And.intro | exact zR | (intro; skip) | apply mIc | apply mOc | apply mSc | apply mLc)
  all_goals (try simp only [std, inj] at *)
  all_goals with_reducible repeat' apply And.intro
  all_goals (try (first | exact z | exact zM | grind [takeLs, snocI, snocS, rowSnoc])))
theorem c_iDiff (Ls : List (List Int))  : P_c_iDiff Ls := fnOK Tryz.call145 Tryz.func145 (.w (.mkmap kI) (.z lintC Ls (.l (lc_iDiffLa Ls) (Sc_iDiffLa Ls) [0] [.s (li 0), .o (Ob.map
 false kI (mI zI))] 0 (.t (.s (lb true)) (.t (.s (lb false)) .q))))) (by
  dsimp only [teasy, P_c_iDiff, nthW, lc_iDiffLa]
  with_reducible repeat' (first | apply And.intro | exact zR | (intro; skip) | apply mIc | apply mOc | apply mSc | apply mLc)
  all_goals (try simp only [std, inj] at *)
  all_goals with_reducible repeat' apply And.intro
  all_goals (try (first | exact z | exact zM | grind [memI_nil, okU_nil, snocI, snocS, rowSnoc])))
abbrev P_c_iIsCore (c : Core) (G : List Int) : Ct := ⟨195, [], [coreA c, ll (G.map intC)], [], .sv (lb (isCor c G))⟩
def lc_iIsCoreLb (c : Core) (G : List Int) : Lp Nat := .mk 44 0 (fun x => [(6, SV.one (AC.mref 0)), (33, SV.one (AC.ref 1)), (34, li (↑(List.map intC (fre c [] [])).length : Int)),
 (35, hs x 0)]) (fun x => [Ob.map false kI (mI (memI G)), Ob.arr true 1 (List.map intC (fre c [] []))]) (fun k => [.s (li (↑k : Int))]) (fun k => k ≤ (fre c [] []).length ∧ (fre c
 [] []).length ≤ 9223372036854775807 ∧ ((List.take k (fre c [] [])).all fun n => decide (n ∈ G)) = true) (fun k => (fre c [] []).length - k) [.mk (((fre c [] []).all fun n =>
 decide (n ∈ G)) = true) (.exit 2) (fun x => []) (fun x => []) [], .mk (((fre c [] []).all fun n => decide (n ∈ G)) = false) .ret (fun x => [(4, hs x 0)]) (fun x => []) [.s (lb
 false)]]
def lc_iIsCoreLa (c : Core) (G : List Int) : Lp Nat := .mk 44 0 (fun x => [(2, SV.one (AC.ptr 0 0)), (6, SV.one (AC.mref 1)), (23, ll (List.map intC G)), (24, li (↑(List.map intC
 G).length : Int)), (25, hs x 0)]) (fun x => [Ob.box (vals (coreF c)), ho x 1]) (fun k => [.s (li (↑k : Int)), .o (Ob.map false kI (mI (memI (List.take k G))))]) (fun k => k ≤
 G.length ∧ G.length ≤ 9223372036854775807) (fun k => G.length - k) [.mk True (.exit 0) (fun x => [(2, SV.one (AC.ptr 0 0)), (6, SV.one (AC.mref 1))]) (fun x => [Ob.box (vals
 (coreF c)), ho x 0]) [.o (Ob.map false kI (mI (memI G)))]]
theorem Sc_iIsCoreLb (c : Core) (G : List Int) (h : wC c ≤ 100000000 ∧ G.length ≤ 200000000) : Lp.Sem Tryz.prog (loopAt Tryz.f195 1) (lc_iIsCoreLb c G) := lpOK (fun k => .i ((↑k :
 Int) < (↑(List.map intC (fre c [] [])).length : Int)) (.p (0 ≤ (↑k : Int) ∧ (↑k : Int).toNat < (List.map intC (fre c [] [])).length) (.w (.cells (intC ((fre c [] []).getD (↑k :
 Int).toNat default))) (.p ((List.map intC (fre c [] []))[(↑k : Int).toNat]? = some [cI ((fre c [] []).getD (↑k : Int).toNat 0)]) (.w (.cells [cI (memI G ((fre c [] []).getD (↑k :
 Int).toNat 0))]) (.p (LookAt (Value.int IntKind.i64 0) (mI (memI G)) (Value.int IntKind.i64 ((fre c [] []).getD (↑k : Int).toNat 0)) (cI (memI G ((fre c [] []).getD (↑k :
 Int).toNat 0)))) (.i (memI G ((fre c [] []).getD (↑k : Int).toNat 0) = 0) (.o 1 [] [.s (lb false)]) (.r ((↑k : Int) + 1) (.g [0, 1] (k + 1) [.s (li ((↑k : Int) + 1))])))))))) (.o
 0 [] [])) (by
  intro k h; try dsimp only [teasy, nthW, lc_iIsCoreLb] at h ⊢
  with_reducible repeat' (first | apply And.intro | exact zR | (intro; skip) | apply mIc | apply mOc | apply mSc | apply mLc | apply c_iMeaC | apply c_iBoundRd | apply c_iFree)
  all_goals (try simp only [std, inj] at *)
  all_goals with_reducible repeat' apply And.intro
  all_goals (try (first | with_reducible apply c_iMeaC | with_reducible apply c_iBoundRd | with_reducible apply c_iFree | (simp only [← List.map_append]; first | with_reducible apply c_iMeaC | with_reducible apply c_iBoundRd | with_reducible apply c_iFree)))
  all_goals (try (first | exact z | exact zM | grind [take_get, memI_zero, snocI, snocS, rowSnoc])))
theorem Sc_iIsCoreLa (c : Core) (G : List Int) (h : wC c ≤ 100000000 ∧ G.length ≤ 200000000) : Lp.Sem Tryz.prog (loopAt Tryz.f195 0) (lc_iIsCoreLa c G) := lpOK (fun k => .i ((↑k :
 Int) < (↑(List.map intC G).length : Int)) (.x (↑k : Int) (List.map intC G) [cI (G.getD k 0)] (.w (.upd (mI (upd1 (memI (List.take k G)) (G.getD k 0) 1))) (.p (false = false) (.p
 (UpdF kI.d (mI (memI (List.take k G))) (mI (upd1 (memI (List.take k G)) (G.getD k 0) 1)) (Value.int IntKind.i64 (G.getD k 0)) (some (cI 1))) (.r ((↑k : Int) + 1) (.g [0, 1] (k +
 1) [.s (li ((↑k : Int) + 1)), .o (Ob.map false kI (mI (upd1 (memI (List.take k G)) (G.getD k 0) 1)))])))))) (.o 0 [0, 1] [.o (Ob.map false kI (mI (memI (List.take k G))))])) (by
  intro k h; try dsimp only [teasy, nthW, lc_iIsCoreLa] at h ⊢
  with_reducible repeat' (first | apply And.intro | exact zR | (intro; skip) | apply mIc | apply mOc | apply mSc | apply mLc | apply c_iMeaC | apply c_iBoundRd | apply c_iFree)
  all_goals (try simp only [std, inj] at *)
  all_goals with_reducible repeat' apply And.intro
  all_goals (try (first | with_reducible apply c_iMeaC | with_reducible apply c_iBoundRd | with_reducible apply c_iFree | (simp only [← List.map_append]; first | with_reducible apply c_iMeaC | with_reducible apply c_iBoundRd | with_reducible apply c_iFree)))
  all_goals (try (first | exact z | exact zM | grind [take_get, memI_snoc, snocI, snocS, rowSnoc, getD_mem'])))
theorem c_iIsCore (c : Core) (G : List Int) (h : wC c ≤ 100000000 ∧ G.length ≤ 200000000)  : P_c_iIsCore c G := fnOK Tryz.call195 Tryz.func195 (.d [.rd, .rd, .ptr] (P_c_iMeaC c 1 0)
 (.b (!(meaC c 1 0).fst) (.y true (.s (lb false))) (.d [.rd] (P_c_iBoundRd c) (.c [.rd] (c_iDiff [G, bnd c]) (.b (!okU [G, bnd c].flatten) (.s (lb false)) (.w (.mkmap kI) (.z intC
 G (.l (lc_iIsCoreLa c G) (Sc_iIsCoreLa c G h) [0, 3] [.s (li 0), .o (Ob.map false kI (mI zI))] 0 (.t (.d [.rd] (P_c_iFree c) (.z intC (fre c [] []) (.l (lc_iIsCoreLb c G)
 (Sc_iIsCoreLb c G h) [1, 2] [.s (li 0)] 0 (.t (.s (lb true)) (.t (.s (lb false)) .q))))) .q))))))))) (by
  dsimp only [teasy, P_c_iIsCore, nthW, lc_iIsCoreLa, lc_iIsCoreLb]
  have g1 := bnd_le c
  have g2 := fre_len c [] []
  with_reducible repeat' (first | apply And.intro | exact zR | (intro; skip) | apply mIc | apply mOc | apply mSc | apply mLc | apply c_iMeaC | apply c_iBoundRd | apply c_iFree)
  all_goals (try simp only [std, inj] at *)
  all_goals with_reducible repeat' apply And.intro
  all_goals (try (first | with_reducible apply c_iMeaC | with_reducible apply c_iBoundRd | with_reducible apply c_iFree | (simp only [← List.map_append]; first | with_reducible apply c_iMeaC | with_reducible apply c_iBoundRd | with_reducible apply c_iFree)))
  all_goals (try (first | exact z | exact zM | grind [isCor, meaC_sm, memI_nil, snocI, snocS, rowSnoc])))
abbrev P_c_iInts (L : List Int) : Ct := ⟨68, [], [ll (L.map intC)], [.arr true 1 (L.map intC)], .sv (.one (.ref 0))⟩
theorem c_iInts (L : List Int) (h : L.length ≤ 2147483647)  : P_c_iInts L := fnOK Tryz.call68 Tryz.func68 (.w (.bool true) (.p (∀ (e : List Cell), e ∈ List.map intC L → ∀ (c : Cell),
 c ∈ e → ∃ v, c = Cell.lit v) (.p (∀ (e : List Cell), e ∈ List.map intC L → e.length = 1) (.p ((0 + (List.map intC L).length) * 8 ≤ 140737488355328) (.f [0] [Ob.arr true 1
 (List.map intC L)] (AV.sv (SV.one (AC.ref 0)))))))) (by
  dsimp only [teasy, P_c_iInts]
  with_reducible repeat' (first | apply And.intro | exact zR | (intro; skip) | apply mIc | apply mOc | apply mSc | apply mLc)
  all_goals (try simp only [std, inj] at *)
  all_goals with_reducible repeat' apply And.intro
  all_goals (try (first | exact z | exact zM | grind [snocI, snocS, rowSnoc])))
def fitU (u : Unit) (G : List Int) : Bool := isNam u.name && okU (G ++ u.globals) && isCor u.body (G ++ u.globals)
abbrev P_c_sUnitFits (u : Unit) (G : List Int) : Ct := ⟨128, [], [unitA u, ll (G.map intC)], [], .sv (lb (fitU u G))⟩
theorem c_sUnitFits (u : Unit) (G : List Int) (h : wC u.body ≤ 40000000 ∧ G.length ≤ 40000000 ∧ u.globals.length ≤ 40000000)  : P_c_sUnitFits u G := fnOK Tryz.call128 Tryz.func128
 (.w (.draw [(4, [1])]) (.d [.rd] (P_c_l2Ints G) (.p (∀ (e : List Cell), e ∈ List.map intC u.globals → ∀ (c : Cell), c ∈ e → ∃ v, c = Cell.lit v) (.p (∀ (e : List Cell), e ∈
 List.map intC u.globals → e.length = 1) (.p (((List.map intC G).length + (List.map intC u.globals).length) * 8 ≤ 140737488355328) (.c [.rd] (c_sNam u.name) (.b (isNam u.name) (.u
 [.rd] (P_c_sUniq (G ++ u.globals)) (.p (CallOK Tryz.prog 185 [] [ll (List.map intC G ++ List.map intC u.globals)] [] (AV.sv (lb (okU (G ++ u.globals))))) (.b (okU (G ++
 u.globals)) (.u [.rd, .rd] (P_c_sIsCore u.body (G ++ u.globals)) (.p (CallOK Tryz.prog 186 [] [SV.agg (vals (coreF u.body)), ll (List.map intC G ++ List.map intC u.globals)] []
 (AV.sv (lb (isCor u.body (G ++ u.globals))))) (.s (lb (isCor u.body (G ++ u.globals)))))) (.s (lb false))))) (.y false (.s (lb false)))))))))) (by
  dsimp only [teasy, P_c_sUnitFits]
  with_reducible repeat' (first | apply And.intro | exact zR | (intro; skip) | apply mIc | apply mOc | apply mSc | apply mLc | apply c_sNam | apply c_l2Ints | apply c_sUniq | apply c_sIsCore)
  all_goals (try simp only [std, inj] at *)
  all_goals with_reducible repeat' apply And.intro
  all_goals (try (first | with_reducible apply c_sNam | with_reducible apply c_l2Ints | with_reducible apply c_sUniq | with_reducible apply c_sIsCore | (simp only [← List.map_append]; first | with_reducible apply c_sNam | with_reducible apply c_l2Ints | with_reducible apply c_sUniq | with_reducible apply c_sIsCore)))
  all_goals (try (first | exact z | exact zM | grind [fitU, snocI, snocS, rowSnoc])))
abbrev P_c_iUnitFits (u : Unit) (G : List Int) : Ct := ⟨141, [], [unitA u, ll (G.map intC)], [], .sv (lb (fitU u G))⟩
theorem c_iUnitFits (u : Unit) (G : List Int) (h : wC u.body ≤ 40000000 ∧ G.length ≤ 40000000 ∧ u.globals.length ≤ 40000000)  : P_c_iUnitFits u G := fnOK Tryz.call141 Tryz.func141
 (.c [.rd] (c_iNam u.name) (.b (!isNam u.name) (.y true (.s (lb false))) (.c [.rd] (c_iDiff [G, u.globals]) (.b (!okU [G, u.globals].flatten) (.s (lb false)) (.w (.draw [(6, [2])])
 (.d [.rd] (P_c_iInts G) (.p (∀ (e : List Cell), e ∈ List.map intC u.globals → ∀ (c : Cell), c ∈ e → ∃ v, c = Cell.lit v) (.p (∀ (e : List Cell), e ∈ List.map intC u.globals →
 e.length = 1) (.p (((List.map intC G).length + (List.map intC u.globals).length) * 8 ≤ 140737488355328) (.u [.rd, .rd] (P_c_iIsCore u.body (G ++ u.globals)) (.p (CallOK Tryz.prog
 195 [] [SV.agg (vals (coreF u.body)), ll (List.map intC G ++ List.map intC u.globals)] [] (AV.sv (lb (isCor u.body (G ++ u.globals))))) (.s (lb (isCor u.body (G ++
 u.globals))))))))))))))) (by
  dsimp only [teasy, P_c_iUnitFits]
  with_reducible repeat' (first | apply And.intro | exact zR | (intro; skip) | apply mIc | apply mOc | apply mSc | apply mLc | apply c_iNam | apply c_iInts | apply c_iDiff | apply c_iIsCore)
  all_goals (try simp only [std, inj] at *)
  all_goals with_reducible repeat' apply And.intro
  all_goals (try (first | with_reducible apply c_iNam | with_reducible apply c_iInts | with_reducible apply c_iDiff | with_reducible apply c_iIsCore | (simp only [← List.map_append]; first | with_reducible apply c_iNam | with_reducible apply c_iInts | with_reducible apply c_iDiff | with_reducible apply c_iIsCore)))
  all_goals (try (first | exact z | exact zM | grind [fitU, snocI, snocS, rowSnoc])))
end Go.Proofs.YtclpofblehlojaaGreat
end
section
namespace Go.Proofs.YtclpofblehlojaaGreat
open Go Go.Proofs.YtclpofblehlojaaGreat.Ab
set_option linter.unusedVariables false
set_option linter.unusedSimpArgs false
set_option maxHeartbeats 4000000
instance memDec (s : ByteArray) (L : List ByteArray) : Decidable (s ∈ L) := @List.instDecidableMemOfLawfulBEq ByteArray instBEqOfDecidableEq _ s L
def memS (S : List ByteArray) (n : ByteArray) : Int := if n ∈ S then 1 else 0
theorem memS_nil : zS = memS [] := by funext m; simp [zS, memS]
theorem memS_snoc {S : List ByteArray} {n : ByteArray} : upd1 (memS S) n 1 = memS (S ++ [n]) := by
  funext m; simp only [upd1, memS, List.mem_append, List.mem_singleton]; grind
theorem memS_one {S : List ByteArray} {n : ByteArray} : memS S n = 1 ↔ n ∈ S := by
  simp only [memS]; grind
def inS (L : List ByteArray) (s : ByteArray) : Bool := decide (s ∈ L)
abbrev P_c_sHasS (L : List ByteArray) (s : ByteArray) : Ct := ⟨125, [], [ll (L.map strC), ls s], [], .sv (lb (inS L s))⟩
def lc_sHasSLa (L : List ByteArray) (s : ByteArray) : Lp Nat := .mk 17 0 (fun x => [(1, ls s), (7, ll (List.map strC L)), (8, li (↑(List.map strC L).length : Int)), (9, hs x 0)])
 (fun x => []) (fun k => [.s (li (↑k : Int))]) (fun k => k ≤ L.length ∧ L.length ≤ 9223372036854775807 ∧ ¬s ∈ List.take k L) (fun k => L.length - k) [.mk (inS L s = false) (.exit
 0) (fun x => []) (fun x => []) [], .mk (inS L s = true) .ret (fun x => [(4, hs x 0)]) (fun x => []) [.s (lb true)]]
theorem Sc_sHasSLa (L : List ByteArray) (s : ByteArray) : Lp.Sem Tryz.prog (loopAt Tryz.f125 0) (lc_sHasSLa L s) := lpOK (fun k => .i ((↑k : Int) < (↑(List.map strC L).length :
 Int)) (.x (↑k : Int) (List.map strC L) [cS (L.getD k default)] (.i ((L.getD k default).data.toList = s.data.toList) (.o 1 [] [.s (lb true)]) (.r ((↑k : Int) + 1) (.g [] (k + 1)
 [.s (li ((↑k : Int) + 1))])))) (.o 0 [] [])) (by
  intro k h; try dsimp only [teasy, nthW, lc_sHasSLa] at h ⊢
  with_reducible repeat' (first | apply And.intro | exact zR | (intro; skip))
  all_goals (try simp only [std, inj] at *)
  all_goals with_reducible repeat' apply And.intro
  all_goals (try (first | exact z | grind [take_get, getD_mem', bytes_ext, inS, snocI, snocS, rowSnoc])))
theorem c_sHasS (L : List ByteArray) (s : ByteArray)  : P_c_sHasS L s := fnOK Tryz.call125 Tryz.func125 (.z strC L (.l (lc_sHasSLa L s) (Sc_sHasSLa L s) [] [.s (li 0)] 0 (.t (.s (lb
 false)) (.t (.s (lb true)) .q)))) (by
  dsimp only [teasy, P_c_sHasS, nthW, lc_sHasSLa]
  with_reducible repeat' (first | apply And.intro | exact zR | (intro; skip))
  all_goals (try simp only [std, inj] at *)
  all_goals with_reducible repeat' apply And.intro
  all_goals (try (first | exact z | grind [snocI, snocS, rowSnoc])))
end Go.Proofs.YtclpofblehlojaaGreat
end
section
namespace Go.Proofs.YtclpofblehlojaaGreat
open Go Go.Proofs.YtclpofblehlojaaGreat.Ab
set_option linter.unusedVariables false
set_option linter.unusedSimpArgs false
set_option maxHeartbeats 4000000
abbrev globals (L : List Unit) : List Int := L.flatMap Unit.globals
abbrev P_c_l7Globals (L : List Unit) : Ct := ⟨132, [], [ll (L.map unitC)], [.arr true 1 ((globals L).map intC)], .sv (.one (.ref 0))⟩
def lc_l7GlobalsLa (L : List Unit) : Lp Nat := .mk 19 0 (fun x => [(3, SV.one (AC.ref 0)), (7, ll (List.map unitC L)), (8, li (↑(List.map unitC L).length : Int)), (9, hs x 0)])
 (fun x => [ho x 1]) (fun k => [.s (li (↑k : Int)), .o (Ob.arr true 1 (List.map intC (globals (List.take k L))))]) (fun k => k ≤ L.length ∧ L.length ≤ 9223372036854775807) (fun k
 => L.length - k) [.mk True (.exit 0) (fun x => [(3, SV.one (AC.ref 0))]) (fun x => [ho x 0]) [.o (Ob.arr true 1 (List.map intC (globals L)))]]
theorem Sc_l7GlobalsLa (L : List Unit) (h : (globals L).length ≤ 2147483647) : Lp.Sem Tryz.prog (loopAt Tryz.f132 0) (lc_l7GlobalsLa L) := lpOK (fun k => .i ((↑k : Int) <
 (↑(List.map unitC L).length : Int)) (.x (↑k : Int) (List.map unitC L) (unitF (L.getD k default)) (.p (∀ (e : List Cell), e ∈ List.map intC (L.getD k default).globals → ∀ (c :
 Cell), c ∈ e → ∃ v, c = Cell.lit v) (.p (∀ (e : List Cell), e ∈ List.map intC (L.getD k default).globals → e.length = 1) (.p (((List.map intC (globals (List.take k L))).length +
 (List.map intC (L.getD k default).globals).length) * 8 ≤ 140737488355328) (.r ((↑k : Int) + 1) (.g [2] (k + 1) [.s (li ((↑k : Int) + 1)), .o (Ob.arr true 1 (List.map intC (globals
 (List.take k L)) ++ List.map intC (L.getD k default).globals))])))))) (.o 0 [0] [.o (Ob.arr true 1 (List.map intC (globals (List.take k L))))])) (by
  intro k h; try dsimp only [teasy, nthW, lc_l7GlobalsLa] at h ⊢
  have g0 := flat_takeLe Unit.globals L (k + 1)
  with_reducible repeat' (first | apply And.intro | exact zR | (intro; skip))
  all_goals (try simp only [std, inj] at *)
  all_goals with_reducible repeat' apply And.intro
  all_goals (try (first | exact z | grind [flat_take, snocI, snocS, rowSnoc, getD_mem'])))
theorem c_l7Globals (L : List Unit) (h : (globals L).length ≤ 2147483647)  : P_c_l7Globals L := fnOK Tryz.call132 Tryz.func132 (.w (.bool false) (.z unitC L (.l (lc_l7GlobalsLa L)
 (Sc_l7GlobalsLa L h) [0] [.s (li 0), .o (Ob.arr true 1 [])] 0 (.t (.f [0] [Ob.arr true 1 (List.map intC (globals L))] (AV.sv (SV.one (AC.ref 0)))) .q)))) (by
  dsimp only [teasy, P_c_l7Globals, nthW, lc_l7GlobalsLa]
  with_reducible repeat' (first | apply And.intro | exact zR | (intro; skip))
  all_goals (try simp only [std, inj] at *)
  all_goals with_reducible repeat' apply And.intro
  all_goals (try (first | exact z | grind [snocI, snocS, rowSnoc])))
def expAt (L : List Export) (a b : ByteArray) : Nat := L.findIdx (fun e => decide (e.modul = a ∧ e.text = b))
theorem expAt_at {L : List Export} {a b : ByteArray} {k : Nat} (hk : k < L.length) (hb : k ≤ expAt L a b) (h : (L.getD k default).modul = a ∧ (L.getD k default).text = b) : expAt L a b = k := by
  have h1 : L.getD k default = L[k] := by simp [hk]
  rw [h1] at h
  rcases Nat.lt_or_ge k (expAt L a b) with h2 | h2
  · have := List.not_of_lt_findIdx h2
    simp [h] at this
  · omega
theorem expAt_next {L : List Export} {a b : ByteArray} {k : Nat} (hk : k < L.length) (hb : k ≤ expAt L a b) (h : ¬ ((L.getD k default).modul = a ∧ (L.getD k default).text = b)) : k + 1 ≤ expAt L a b := by
  have h1 : L.getD k default = L[k] := by simp [hk]
  rw [h1] at h
  rcases Nat.lt_or_ge k (expAt L a b) with h2 | h2
  · exact h2
  · have e : expAt L a b = k := by omega
    have := List.findIdx_getElem (p := fun e : Export => decide (e.modul = a ∧ e.text = b)) (xs := L) (w := by show expAt L a b < _; omega)
    have h3 : decide ((L[expAt L a b]'(by omega)).modul = a ∧ (L[expAt L a b]'(by omega)).text = b) = true := this
    simp only [e, decide_eq_true_eq] at h3
    exact absurd h3 h
abbrev P_c_l7Find (L : List Export) (a : ByteArray) (b : ByteArray) : Ct := ⟨134, [], [ll (L.map exportC), ls a, ls b], [], .sv (li (if expAt L a b < L.length then expAt L a b else -1))⟩
def lc_l7FindLa (L : List Export) (a : ByteArray) (b : ByteArray) : Lp Nat := .mk 28 0 (fun x => [(1, ls a), (2, ls b), (9, ll (List.map exportC L)), (10, li (↑(List.map exportC
 L).length : Int)), (11, hs x 0)]) (fun x => []) (fun k => [.s (li (↑k : Int))]) (fun k => k ≤ L.length ∧ L.length ≤ 9223372036854775807 ∧ k ≤ expAt L a b) (fun k => L.length - k)
 [.mk (¬expAt L a b < L.length) (.exit 0) (fun x => []) (fun x => []) [], .mk (expAt L a b < L.length) .ret (fun x => [(6, hs x 0)]) (fun x => []) [.s (li (↑(expAt L a b) : Int))]]
theorem Sc_l7FindLa (L : List Export) (a : ByteArray) (b : ByteArray) : Lp.Sem Tryz.prog (loopAt Tryz.f134 0) (lc_l7FindLa L a b) := lpOK (fun k => .i ((↑k : Int) < (↑(List.map
 exportC L).length : Int)) (.x (↑k : Int) (List.map exportC L) (exportF (L.getD k default)) (.i ((L.getD k default).modul.data.toList = a.data.toList) (.i ((L.getD k
 default).text.data.toList = b.data.toList) (.o 1 [] [.s (li (↑k : Int))]) (.r ((↑k : Int) + 1) (.g [] (k + 1) [.s (li ((↑k : Int) + 1))]))) (.y false (.r ((↑k : Int) + 1) (.g []
 (k + 1) [.s (li ((↑k : Int) + 1))]))))) (.o 0 [] [])) (by
  intro k h; try dsimp only [teasy, nthW, lc_l7FindLa] at h ⊢
  have g1 := @expAt_at L a b k
  have g2 := @expAt_next L a b k
  with_reducible repeat' (first | apply And.intro | exact zR | (intro; skip))
  all_goals (try simp only [std, inj] at *)
  all_goals with_reducible repeat' apply And.intro
  all_goals (try (first | exact z | grind [bytes_ext, snocI, snocS, rowSnoc])))
theorem c_l7Find (L : List Export) (a b : ByteArray)  : P_c_l7Find L a b := fnOK Tryz.call134 Tryz.func134 (.z exportC L (.l (lc_l7FindLa L a b) (Sc_l7FindLa L a b) [] [.s (li 0)] 0
 (.t (.s (li (-1 : Int))) (.t (.s (li (↑(expAt L a b) : Int))) .q)))) (by
  dsimp only [teasy, P_c_l7Find, nthW, lc_l7FindLa]
  with_reducible repeat' (first | apply And.intro | exact zR | (intro; skip))
  all_goals (try simp only [std, inj] at *)
  all_goals with_reducible repeat' apply And.intro
  all_goals (try (first | exact z | grind [snocI, snocS, rowSnoc])))
end Go.Proofs.YtclpofblehlojaaGreat
end
section
namespace Go.Proofs.YtclpofblehlojaaGreat
open Go Go.Proofs.YtclpofblehlojaaGreat.Ab
set_option linter.unusedVariables false
set_option linter.unusedSimpArgs false
def namesU (L : List Unit) : List ByteArray := L.map Unit.name
def prt (u : Unit) : Nat := if u.body.kind = 8 then u.body.kids.length else 1
def uOK (L : List Unit) (k : Nat) : Bool := !inS (namesU (L.take k)) (L.getD k default).name && fitU (L.getD k default) (globals (L.take k)) && decide (depC (L.getD k default).body < 150)
def okT (L : List Unit) (k : Nat) : Bool := (List.range k).all (uOK L)
def apart (L : List Unit) : List Int := L.flatMap fun u => u.globals ++ bnd u.body
def szU (u : Unit) : Nat := sizeC u.body
def areU (L : List Unit) : Bool := okT L L.length && decide (L.length ≤ 12) && decide ((globals L).length ≤ 60) && decide (sumBy szU L + 1 ≤ 3000) && decide (sumBy prt L ≤ 60) && okU (apart L)
theorem okT_zero (L : List Unit) : okT L 0 = true := rfl
theorem okT_step (L : List Unit) (k : Nat) : okT L (k + 1) = (okT L k && uOK L k) := by simp [okT, List.range_succ]
theorem okT_at {L : List Unit} {n : Nat} (h : okT L n = true) {k : Nat} (hk : k < n) : uOK L k = true := by
  simp only [okT, List.all_eq_true, List.mem_range] at h; exact h k hk
theorem okT_stop {L : List Unit} {k : Nat} (hk : k < L.length) (h : uOK L k = false) : areU L = false := by
  cases e : areU L with
  | false => rfl
  | true =>
    simp only [areU, Bool.and_eq_true] at e
    rw [okT_at e.1.1.1.1.1 hk] at h; cases h
abbrev d0 : Datum := ⟨0, 0, mkS [], []⟩
def bodies (L : List Unit) : List Core := L.map Unit.body
theorem globals_wU : ∀ L : List Unit, (globals L).length ≤ sumBy wU L
  | [] => by simp [globals]
  | x :: r => by
    have h := globals_wU r
    have g := wU_eq x
    simp only [globals, List.flatMap_cons, List.length_append, sumBy] at h ⊢; omega
theorem apart_wU : ∀ L : List Unit, (apart L).length ≤ sumBy wU L
  | [] => by simp [apart]
  | x :: r => by
    have h := apart_wU r
    have g := wU_eq x
    have b := bnd_le x.body
    simp only [apart, List.flatMap_cons, List.length_append, sumBy] at h ⊢; omega
theorem sizeC_wC (c : Core) : sizeC c ≤ wC c + 1 := by
  refine Core.ind (P := fun c => sizeC c ≤ wC c + 1) (fun c ih => ?_) c
  have : ∀ L : List Core, (∀ x ∈ L, sizeC x ≤ wC x + 1) → sumBy sizeC L ≤ L.length + sumBy wC L := by
    intro L
    induction L with
    | nil => intro _; simp [sumBy]
    | cons x r ihr =>
      intro h
      have h1 := h x List.mem_cons_self
      have h2 := ihr fun y hy => h y (List.mem_cons_of_mem _ hy)
      simp only [sumBy, List.length_cons]; omega
  have h1 := this c.kids ih
  have h2 := wC_eq c
  rw [sizeC_eq]; omega
theorem sz_le (L : List Unit) : ∀ k, sumBy szU (L.take k) ≤ sumBy wU L + L.length ∧ sumBy prt (L.take k) ≤ sumBy wU L + L.length := by
  have h : ∀ M : List Unit, sumBy szU M ≤ sumBy wU M + M.length ∧ sumBy prt M ≤ sumBy wU M + M.length := by
    intro M
    induction M with
    | nil => simp [sumBy]
    | cons x r ih =>
      have g := wU_eq x
      have g2 := sizeC_wC x.body
      have g3 := wC_eq x.body
      have g4 : prt x ≤ x.body.kids.length + 1 := by unfold prt; split <;> omega
      have g5 : szU x = sizeC x.body := rfl
      simp only [sumBy, List.length_cons]; omega
  intro k
  have h1 := h (L.take k)
  have h2 := sumBy_takeLe wU L k
  have h3 : (L.take k).length ≤ L.length := by rw [List.length_take]; omega
  omega
theorem unit_w {L : List Unit} {k : Nat} (hk : k < L.length) : wU (L.getD k default) ≤ sumBy wU L ∧ wC (L.getD k default).body ≤ sumBy wU L ∧ (L.getD k default).globals.length ≤ sumBy wU L := by
  have h := sumBy_mem wU (getD_mem' hk)
  have g := wU_eq (L.getD k default)
  omega
theorem uOK_eq (L : List Unit) (k : Nat) : uOK L k = (!inS (namesU (L.take k)) (L.getD k default).name && fitU (L.getD k default) (globals (L.take k)) && decide (depC (L.getD k default).body < 150)) := rfl
theorem uOK_bnd {L : List Unit} {k j : Nat} (h : uOK L k = true) (hj : j < (bnd (L.getD k default).body).length) : (bnd (L.getD k default).body).getD j default ∉ globals (L.take k) := by
  simp only [uOK, fitU, isCor, Bool.and_eq_true] at h
  have h1 := (okU_iff.1 h.1.2.2.1.2).1
  intro hm
  rw [List.append_assoc, List.nodup_append] at h1
  exact h1.2.2 _ hm _ (List.mem_append_right _ (getD_mem' hj)) rfl
theorem uOK_small {L : List Unit} {k : Nat} (h : fitU (L.getD k default) (globals (L.take k)) = true) : sizeC (L.getD k default).body ≤ 3000 := by
  simp only [fitU, isCor, smC, Bool.and_eq_true, decide_eq_true_eq] at h
  exact h.2.1.1.1.1
theorem globals_step {L : List Unit} {k : Nat} (hk : k < L.length) : globals (L.take (k + 1)) = globals (L.take k) ++ (L.getD k default).globals := flat_take Unit.globals hk
theorem apart_step {L : List Unit} {k : Nat} (hk : k < L.length) : apart (L.take (k + 1)) = apart (L.take k) ++ (L.getD k default).globals ++ bnd (L.getD k default).body := by
  unfold apart; rw [flat_take _ hk, List.append_assoc]
theorem names_step {L : List Unit} {k : Nat} (hk : k < L.length) : namesU (L.take (k + 1)) = namesU (L.take k) ++ [(L.getD k default).name] := by
  unfold namesU; rw [take_get hk]; simp
theorem names_len (L : List Unit) (k : Nat) : (namesU (L.take k)).length ≤ L.length := by simp only [namesU, List.length_map, List.length_take]; omega
theorem sz_all (L : List Unit) : sumBy szU L ≤ sumBy wU L + L.length ∧ sumBy prt L ≤ sumBy wU L + L.length := by
  have := sz_le L L.length
  rwa [List.take_length] at this
theorem prg0 (L : List Unit) : apart (L.take 0) = [] ∧ bodies (L.take 0) = [] ∧ namesU (L.take 0) = [] ∧ sumBy szU (L.take 0) = 0 ∧ sumBy prt (L.take 0) = 0 ∧ globals (L.take 0) = [] := ⟨rfl, rfl, rfl, rfl, rfl, rfl⟩
attribute [irreducible] areU
end Go.Proofs.YtclpofblehlojaaGreat
end
section
namespace Go.Proofs.YtclpofblehlojaaGreat
open Go Go.Proofs.YtclpofblehlojaaGreat.Ab
set_option linter.unusedVariables false
set_option linter.unusedSimpArgs false
set_option maxHeartbeats 4000000
abbrev P_c_sSizC (c : Core) : Ct := ⟨130, [], [coreA c], [], .sv (li (sizeC c))⟩
def lc_sSizC_sLa (c : Core) : Lp Nat := .mk 19 0 (fun x => [(3, hs x 1), (7, ll (List.map coreC c.kids)), (8, li (↑(List.map coreC c.kids).length : Int)), (9, hs x 0)]) (fun x =>
 []) (fun k => [.s (li (↑k : Int)), .s (li (↑(1 + sumBy sizeC (List.take k c.kids)) : Int))]) (fun k => k ≤ c.kids.length ∧ c.kids.length ≤ 9223372036854775807) (fun k =>
 c.kids.length - k) [.mk True (.exit 0) (fun x => [(3, hs x 0)]) (fun x => []) [.s (li (↑(1 + sumBy sizeC c.kids) : Int))]]
theorem Sc_sSizC_sLa (c : Core) (h : sizeC c ≤ 2147483647) (ih : ∀ (z : Core), z ∈ c.kids → sizeC z ≤ 2147483647 → OK (P_c_sSizC z)) : Lp.Sem Tryz.prog (loopAt Tryz.f130 0)
 (lc_sSizC_sLa c) := lpOK (fun k => .i ((↑k : Int) < (↑(List.map coreC c.kids).length : Int)) (.x (↑k : Int) (List.map coreC c.kids) (coreF (c.kids.getD k default)) (.d [.rd]
 (P_c_sSizC (c.kids.getD k default)) (.r ((↑(1 + sumBy sizeC (List.take k c.kids)) : Int) + (↑(sizeC (c.kids.getD k default)) : Int)) (.r ((↑k : Int) + 1) (.g [] (k + 1) [.s (li
 ((↑k : Int) + 1)), .s (li ((↑(1 + sumBy sizeC (List.take k c.kids)) : Int) + (↑(sizeC (c.kids.getD k default)) : Int)))]))))) (.o 0 [] [.s (li (↑(1 + sumBy sizeC (List.take k
 c.kids)) : Int))])) (by
  intro k h; try dsimp only [teasy, nthW, lc_sSizC_sLa] at h ⊢
  have g1 := sizeC_eq c
  have g2 := sumBy_takeLe sizeC c.kids (k + 1)
  have g3 := @sumBy_step _ _ sizeC c.kids k
  have g4 := @sumBy_mem _ sizeC c.kids (c.kids.getD k default)
  with_reducible repeat' (first | apply And.intro | exact zR | exact ih | (intro; skip) | apply mIc | apply mOc | apply mSc | apply mLc | apply ih)
  all_goals (try simp only [std, inj] at *)
  all_goals with_reducible repeat' apply And.intro
  all_goals (try (first | with_reducible apply ih | (simp only [← List.map_append]; first | with_reducible apply ih)))
  all_goals (try (first | exact z | exact zM | grind [getD_mem', snocI, snocS, rowSnoc])))
theorem c_sSizC_s (c : Core) (h : sizeC c ≤ 2147483647) (ih : ∀ z ∈ c.kids, ∀ (h : sizeC z ≤ 2147483647), P_c_sSizC z)  : P_c_sSizC c := fnOK Tryz.call130 Tryz.func130 (.z coreC
 c.kids (.l (lc_sSizC_sLa c) (Sc_sSizC_sLa c h ih) [] [.s (li 0), .s (li 1)] 0 (.t (.s (li (↑(1 + sumBy sizeC c.kids) : Int))) .q))) (by
  dsimp only [teasy, P_c_sSizC, nthW, lc_sSizC_sLa]
  have g1 := sizeC_eq c
  have g2 : sumBy sizeC (c.kids.take 0) = 0 := rfl
  with_reducible repeat' (first | apply And.intro | exact zR | exact ih | (intro; skip) | apply mIc | apply mOc | apply mSc | apply mLc)
  all_goals (try simp only [std, inj] at *)
  all_goals with_reducible repeat' apply And.intro
  all_goals (try (first | with_reducible apply ih | (simp only [← List.map_append]; first | with_reducible apply ih)))
  all_goals (try (first | exact z | exact zM | grind [snocI, snocS, rowSnoc])))
theorem c_sSizC (c : Core) : ∀ (h : sizeC c ≤ 2147483647), P_c_sSizC c := Core.ind (P := fun c => ∀ (h : sizeC c ≤ 2147483647), P_c_sSizC c) (fun c ih h => c_sSizC_s c h ih) c
abbrev P_c_iSizC (c : Core) : Ct := ⟨143, [], [coreA c], [], .sv (li (sizeC c))⟩
def lc_iSizC_sLa (c : Core) : Lp Nat := .mk 19 0 (fun x => [(3, hs x 1), (7, ll (List.map coreC c.kids)), (8, li (↑(List.map coreC c.kids).length : Int)), (9, hs x 0)]) (fun x =>
 []) (fun k => [.s (li (↑k : Int)), .s (li (↑(1 + sumBy sizeC (List.take k c.kids)) : Int))]) (fun k => k ≤ c.kids.length ∧ c.kids.length ≤ 9223372036854775807) (fun k =>
 c.kids.length - k) [.mk True (.exit 0) (fun x => [(3, hs x 0)]) (fun x => []) [.s (li (↑(1 + sumBy sizeC c.kids) : Int))]]
theorem Sc_iSizC_sLa (c : Core) (h : sizeC c ≤ 2147483647) (ih : ∀ (z : Core), z ∈ c.kids → sizeC z ≤ 2147483647 → OK (P_c_iSizC z)) : Lp.Sem Tryz.prog (loopAt Tryz.f143 0)
 (lc_iSizC_sLa c) := lpOK (fun k => .i ((↑k : Int) < (↑(List.map coreC c.kids).length : Int)) (.x (↑k : Int) (List.map coreC c.kids) (coreF (c.kids.getD k default)) (.d [.rd]
 (P_c_iSizC (c.kids.getD k default)) (.r ((↑(1 + sumBy sizeC (List.take k c.kids)) : Int) + (↑(sizeC (c.kids.getD k default)) : Int)) (.r ((↑k : Int) + 1) (.g [] (k + 1) [.s (li
 ((↑k : Int) + 1)), .s (li ((↑(1 + sumBy sizeC (List.take k c.kids)) : Int) + (↑(sizeC (c.kids.getD k default)) : Int)))]))))) (.o 0 [] [.s (li (↑(1 + sumBy sizeC (List.take k
 c.kids)) : Int))])) (by
  intro k h; try dsimp only [teasy, nthW, lc_iSizC_sLa] at h ⊢
  have g1 := sizeC_eq c
  have g2 := sumBy_takeLe sizeC c.kids (k + 1)
  have g3 := @sumBy_step _ _ sizeC c.kids k
  have g4 := @sumBy_mem _ sizeC c.kids (c.kids.getD k default)
  with_reducible repeat' (first | apply And.intro | exact zR | exact ih | (intro; skip) | apply mIc | apply mOc | apply mSc | apply mLc | apply ih)
  all_goals (try simp only [std, inj] at *)
  all_goals with_reducible repeat' apply And.intro
  all_goals (try (first | with_reducible apply ih | (simp only [← List.map_append]; first | with_reducible apply ih)))
  all_goals (try (first | exact z | exact zM | grind [getD_mem', snocI, snocS, rowSnoc])))
theorem c_iSizC_s (c : Core) (h : sizeC c ≤ 2147483647) (ih : ∀ z ∈ c.kids, ∀ (h : sizeC z ≤ 2147483647), P_c_iSizC z)  : P_c_iSizC c := fnOK Tryz.call143 Tryz.func143 (.z coreC
 c.kids (.l (lc_iSizC_sLa c) (Sc_iSizC_sLa c h ih) [] [.s (li 0), .s (li 1)] 0 (.t (.s (li (↑(1 + sumBy sizeC c.kids) : Int))) .q))) (by
  dsimp only [teasy, P_c_iSizC, nthW, lc_iSizC_sLa]
  have g1 := sizeC_eq c
  have g2 : sumBy sizeC (c.kids.take 0) = 0 := rfl
  with_reducible repeat' (first | apply And.intro | exact zR | exact ih | (intro; skip) | apply mIc | apply mOc | apply mSc | apply mLc)
  all_goals (try simp only [std, inj] at *)
  all_goals with_reducible repeat' apply And.intro
  all_goals (try (first | with_reducible apply ih | (simp only [← List.map_append]; first | with_reducible apply ih)))
  all_goals (try (first | exact z | exact zM | grind [snocI, snocS, rowSnoc])))
theorem c_iSizC (c : Core) : ∀ (h : sizeC c ≤ 2147483647), P_c_iSizC c := Core.ind (P := fun c => ∀ (h : sizeC c ≤ 2147483647), P_c_iSizC c) (fun c ih h => c_iSizC_s c h ih) c
abbrev P_c_iDepC (c : Core) : Ct := ⟨142, [], [coreA c], [], .sv (li (depC c))⟩
def lc_iDepC_sLa (c : Core) : Lp Nat := .mk 20 0 (fun x => [(3, hs x 1), (7, ll (List.map coreC c.kids)), (8, li (↑(List.map coreC c.kids).length : Int)), (9, hs x 0)]) (fun x =>
 []) (fun k => [.s (li (↑k : Int)), .s (li (↑(maxBy depC (List.take k c.kids)) : Int))]) (fun k => k ≤ c.kids.length ∧ c.kids.length ≤ 9223372036854775807) (fun k => c.kids.length
 - k) [.mk True (.exit 0) (fun x => [(3, hs x 0)]) (fun x => []) [.s (li (↑(maxBy depC c.kids) : Int))]]
theorem Sc_iDepC_sLa (c : Core) (h : sizeC c ≤ 2147483647) (ih : ∀ (z : Core), z ∈ c.kids → sizeC z ≤ 2147483647 → OK (P_c_iDepC z)) : Lp.Sem Tryz.prog (loopAt Tryz.f142 0)
 (lc_iDepC_sLa c) := lpOK (fun k => .i ((↑k : Int) < (↑(List.map coreC c.kids).length : Int)) (.x (↑k : Int) (List.map coreC c.kids) (coreF (c.kids.getD k default)) (.d [.rd]
 (P_c_iDepC (c.kids.getD k default)) (.r ((↑k : Int) + 1) (.g [] (k + 1) [.s (li ((↑k : Int) + 1)), .s (li (max (↑(maxBy depC (List.take k c.kids)) : Int) (↑(depC (c.kids.getD k
 default)) : Int)))])))) (.o 0 [] [.s (li (↑(maxBy depC (List.take k c.kids)) : Int))])) (by
  intro k h; try dsimp only [teasy, nthW, lc_iDepC_sLa] at h ⊢
  have g1 := sizeC_eq c
  have g2 := @sumBy_mem _ sizeC c.kids (c.kids.getD k default)
  with_reducible repeat' (first | apply And.intro | exact zR | exact ih | (intro; skip) | apply mIc | apply mOc | apply mSc | apply mLc | apply ih)
  all_goals (try simp only [std, inj] at *)
  all_goals with_reducible repeat' apply And.intro
  all_goals (try (first | with_reducible apply ih | (simp only [← List.map_append]; first | with_reducible apply ih)))
  all_goals (try (first | exact z | exact zM | grind [maxBy_step, getD_mem', snocI, snocS, rowSnoc])))
theorem c_iDepC_s (c : Core) (h : sizeC c ≤ 2147483647) (ih : ∀ z ∈ c.kids, ∀ (h : sizeC z ≤ 2147483647), P_c_iDepC z)  : P_c_iDepC c := fnOK Tryz.call142 Tryz.func142 (.z coreC
 c.kids (.l (lc_iDepC_sLa c) (Sc_iDepC_sLa c h ih) [] [.s (li 0), .s (li 0)] 0 (.t (.r ((↑(maxBy depC c.kids) : Int) + 1) (.s (li ((↑(maxBy depC c.kids) : Int) + 1)))) .q))) (by
  dsimp only [teasy, P_c_iDepC, nthW, lc_iDepC_sLa]
  have h1 := depC_le c
  have g2 : maxBy depC (c.kids.take 0) = 0 := rfl
  with_reducible repeat' (first | apply And.intro | exact zR | exact ih | (intro; skip) | apply mIc | apply mOc | apply mSc | apply mLc)
  all_goals (try simp only [std, inj] at *)
  all_goals with_reducible repeat' apply And.intro
  all_goals (try (first | with_reducible apply ih | (simp only [← List.map_append]; first | with_reducible apply ih)))
  all_goals (try (first | exact z | exact zM | grind [depC_eq, snocI, snocS, rowSnoc])))
theorem c_iDepC (c : Core) : ∀ (h : sizeC c ≤ 2147483647), P_c_iDepC c := Core.ind (P := fun c => ∀ (h : sizeC c ≤ 2147483647), P_c_iDepC c) (fun c ih h => c_iDepC_s c h ih) c
abbrev P_c_sApart (L : List Unit) : Ct := ⟨131, [], [ll (L.map unitC)], [], .sv (lb (okU (apart L)))⟩
def lc_sApartLa (L : List Unit) : Lp Nat := .mk 24 0 (fun x => [(3, SV.one (AC.ref 0)), (7, ll (List.map unitC L)), (8, li (↑(List.map unitC L).length : Int)), (9, hs x 0)]) (fun x
 => [ho x 1]) (fun k => [.s (li (↑k : Int)), .o (Ob.arr true 1 (List.map intC (apart (List.take k L))))]) (fun k => k ≤ L.length ∧ L.length ≤ 9223372036854775807) (fun k =>
 L.length - k) [.mk True (.exit 0) (fun x => [(3, SV.one (AC.ref 0))]) (fun x => [ho x 0]) [.o (Ob.arr true 1 (List.map intC (apart L)))]]
theorem Sc_sApartLa (L : List Unit) (h : sumBy wU L ≤ 1048576 ∧ L.length ≤ 1048576) : Lp.Sem Tryz.prog (loopAt Tryz.f131 0) (lc_sApartLa L) := lpOK (fun k => .i ((↑k : Int) <
 (↑(List.map unitC L).length : Int)) (.x (↑k : Int) (List.map unitC L) (unitF (L.getD k default)) (.w (.draw [(3, [0]), (7, [2, 5])]) (.p (∀ (e : List Cell), e ∈ List.map intC
 (L.getD k default).globals → ∀ (c : Cell), c ∈ e → ∃ v, c = Cell.lit v) (.p (∀ (e : List Cell), e ∈ List.map intC (L.getD k default).globals → e.length = 1) (.p (((List.map intC
 (apart (List.take k L))).length + (List.map intC (L.getD k default).globals).length) * 8 ≤ 140737488355328) (.d [.rd, .own true 1] (P_c_sBound (L.getD k default).body []) (.p
 (((List.map intC (apart (List.take k L)) ++ List.map intC (L.getD k default).globals).length + (List.map intC (bnd (L.getD k default).body)).length) * 8 ≤ 140737488355328) (.r
 ((↑k : Int) + 1) (.g [12] (k + 1) [.s (li ((↑k : Int) + 1)), .o (Ob.arr true 1 (List.map intC (apart (List.take k L)) ++ List.map intC (L.getD k default).globals ++ List.map intC
 (bnd (L.getD k default).body)))]))))))))) (.o 0 [0] [.o (Ob.arr true 1 (List.map intC (apart (List.take k L))))])) (by
  intro k h; try dsimp only [teasy, nthW, lc_sApartLa] at h ⊢
  have g0 := flat_takeLe (fun u : Unit => u.globals ++ bnd u.body) L (k + 1)
  have g1 := apart_wU L
  have g2 := @apart_step L k
  have g3 := @unit_w L k
  have g4 := bnd_le (L.getD k default).body
  with_reducible repeat' (first | apply And.intro | exact zR | (intro; skip) | apply mIc | apply mOc | apply mSc | apply mLc | apply c_sBound)
  all_goals (try simp only [std, inj] at *)
  all_goals with_reducible repeat' apply And.intro
  all_goals (try (first | with_reducible apply c_sBound | (simp only [← List.map_append]; first | with_reducible apply c_sBound)))
  all_goals (try (first | exact z | exact zM | grind [apart, snocI, snocS, rowSnoc, getD_mem'])))
theorem c_sApart (L : List Unit) (h : sumBy wU L ≤ 1048576 ∧ L.length ≤ 1048576)  : P_c_sApart L := fnOK Tryz.call131 Tryz.func131 (.w (.bool false) (.z unitC L (.l (lc_sApartLa L)
 (Sc_sApartLa L h) [0] [.s (li 0), .o (Ob.arr true 1 [])] 0 (.t (.c [.rd] (c_sUniq (apart L)) (.s (lb (okU (apart L))))) .q)))) (by
  dsimp only [teasy, P_c_sApart, nthW, lc_sApartLa]
  have g5 : apart (L.take 0) = [] := rfl
  with_reducible repeat' (first | apply And.intro | exact zR | (intro; skip) | apply mIc | apply mOc | apply mSc | apply mLc | apply c_sBound)
  all_goals (try simp only [std, inj] at *)
  all_goals with_reducible repeat' apply And.intro
  all_goals (try (first | with_reducible apply c_sBound | (simp only [← List.map_append]; first | with_reducible apply c_sBound)))
  all_goals (try (first | exact z | exact zM | grind [apart, snocI, snocS, rowSnoc])))
abbrev P_c_sUnits (L : List Unit) : Ct := ⟨59, [], [ll (L.map unitC)], [], .sv (lb (areU L))⟩
def lc_sUnitsLb (L : List Unit) (k : Nat) : Lp Nat := .mk 103 0 (fun x => [(0, ll (List.map unitC L)), (3, SV.one (AC.ref 0)), (4, SV.one (AC.ref 1)), (5, li (↑(sumBy szU
 (List.take k L)) : Int)), (6, li ((↑(sumBy prt (List.take k L)) : Int) - (↑k : Int))), (8, SV.one (AC.ptr 2 0)), (13, ll (List.map unitC L)), (14, li (↑(List.map unitC L).length :
 Int)), (15, li (↑k : Int)), (43, SV.one (AC.ref 3)), (44, li (↑(List.map intC (bnd (L.getD k default).body)).length : Int)), (45, hs x 0)]) (fun x => [Ob.arr true 1 (List.map intC
 (globals (List.take k L))), Ob.arr true 1 (List.map strC (namesU (List.take k L))), Ob.box (vals (unitF (L.getD k default))), Ob.arr true 1 (List.map intC (bnd (L.getD k
 default).body))]) (fun k1 => [.s (li (↑k1 : Int))]) (fun k1 => k1 ≤ (bnd (L.getD k default).body).length ∧ (bnd (L.getD k default).body).length ≤ 9223372036854775807 ∧ uOK L k =
 true ∧ k < L.length) (fun k1 => (bnd (L.getD k default).body).length - k1) [.mk True (.exit 2) (fun x => [(0, ll (List.map unitC L)), (3, SV.one (AC.ref 0)), (4, SV.one (AC.ref
 1)), (5, li (↑(sumBy szU (List.take k L)) : Int)), (6, li ((↑(sumBy prt (List.take k L)) : Int) - (↑k : Int))), (8, SV.one (AC.ptr 2 0)), (13, ll (List.map unitC L)), (14, li
 (↑(List.map unitC L).length : Int)), (15, li (↑k : Int))]) (fun x => [Ob.arr true 1 (List.map intC (globals (List.take k L))), Ob.arr true 1 (List.map strC (namesU (List.take k
 L))), Ob.box (vals (unitF (L.getD k default)))]) [], .mk (areU L = false) .ret (fun x => [(2, hs x 0)]) (fun x => []) [.s (lb false)]]
def lc_sUnitsLa (L : List Unit) : Lp Nat := .mk 103 0 (fun x => [(0, ll (List.map unitC L)), (3, SV.one (AC.ref 0)), (4, SV.one (AC.ref 1)), (5, hs x 1), (6, hs x 2), (13, ll
 (List.map unitC L)), (14, li (↑(List.map unitC L).length : Int)), (15, hs x 0)]) (fun x => [ho x 3, ho x 4]) (fun k => [.s (li (↑k : Int)), .s (li (↑(sumBy szU (List.take k L)) :
 Int)), .s (li ((↑(sumBy prt (List.take k L)) : Int) - (↑k : Int))), .o (Ob.arr true 1 (List.map intC (globals (List.take k L)))), .o (Ob.arr true 1 (List.map strC (namesU
 (List.take k L))))]) (fun k => k ≤ L.length ∧ L.length ≤ 9223372036854775807 ∧ okT L k = true) (fun k => L.length - k) [.mk (okT L L.length = true) (.exit 0) (fun x => [(0, ll
 (List.map unitC L)), (3, SV.one (AC.ref 0)), (5, hs x 0), (6, hs x 1)]) (fun x => [ho x 2]) [.s (li (↑(sumBy szU L) : Int)), .s (li ((↑(sumBy prt L) : Int) - (↑L.length : Int))),
 .o (Ob.arr true 1 (List.map intC (globals L)))], .mk (areU L = false) .ret (fun x => [(2, hs x 0)]) (fun x => []) [.s (lb false)]]
theorem Sc_sUnitsLb (L : List Unit) (h : sumBy wU L ≤ 1048576 ∧ L.length ≤ 1048576) (k : Nat) : Lp.Sem Tryz.prog (loopAt Tryz.f59 1) (lc_sUnitsLb L k) := lpOK (fun k1 => .i ((↑k1 :
 Int) < (↑(List.map intC (bnd (L.getD k default).body)).length : Int)) (.p (0 ≤ (↑k1 : Int) ∧ (↑k1 : Int).toNat < (List.map intC (bnd (L.getD k default).body)).length) (.w (.cells
 (intC ((bnd (L.getD k default).body).getD (↑k1 : Int).toNat default))) (.p ((List.map intC (bnd (L.getD k default).body))[(↑k1 : Int).toNat]? = some [cI ((bnd (L.getD k
 default).body).getD (↑k1 : Int).toNat 0)]) (.c [.rd, .rd] (c_sHas (globals (List.take k L)) ((bnd (L.getD k default).body).getD (↑k1 : Int).toNat 0)) (.i ((bnd (L.getD k
 default).body).getD (↑k1 : Int).toNat 0 ∈ globals (List.take k L)) (.o 1 [] [.s (lb false)]) (.r ((↑k1 : Int) + 1) (.g [0, 1, 2, 3] (k1 + 1) [.s (li ((↑k1 : Int) + 1))]))))))) (.o
 0 [0, 1, 2] [])) (by
  intro k1 h; try dsimp only [teasy, nthW, lc_sUnitsLb] at h ⊢
  have g1 := @uOK_bnd L k k1
  with_reducible repeat' (first | apply And.intro | exact zR | (intro; skip) | apply mIc | apply mOc | apply mSc | apply mLc | apply c_sDepC | apply c_sUnitFits | apply c_sBound | apply c_sSizC | apply c_sApart)
  all_goals (try simp only [std, inj] at *)
  all_goals with_reducible repeat' apply And.intro
  all_goals (try (first | with_reducible apply c_sDepC | with_reducible apply c_sUnitFits | with_reducible apply c_sBound | with_reducible apply c_sSizC | with_reducible apply c_sApart | (simp only [← List.map_append]; first | with_reducible apply c_sDepC | with_reducible apply c_sUnitFits | with_reducible apply c_sBound | with_reducible apply c_sSizC | with_reducible apply c_sApart)))
  all_goals (try (first | exact z | exact zM | grind [snocI, snocS, rowSnoc])))
theorem Sc_sUnitsLa (L : List Unit) (h : sumBy wU L ≤ 1048576 ∧ L.length ≤ 1048576) : Lp.Sem Tryz.prog (loopAt Tryz.f59 0) (lc_sUnitsLa L) := lpOK (fun k => .i ((↑k : Int) <
 (↑(List.map unitC L).length : Int)) (.x (↑k : Int) (List.map unitC L) (unitF (L.getD k default)) (.c [.rd, .rd] (c_sHasS (namesU (List.take k L)) (L.getD k default).name) (.b (inS
 (namesU (List.take k L)) (L.getD k default).name) (.y true (.y true (.y true (.o 1 [] [.s (lb false)])))) (.c [.rd] (c_sSmall (L.getD k default).body) (.b (!decide (sizeC (L.getD
 k default).body ≤ 3000)) (.y true (.y true (.o 1 [] [.s (lb false)]))) (.d [.rd] (P_c_sDepC (L.getD k default).body) (.i (150 ≤ (↑(depC (L.getD k default).body) : Int)) (.y true
 (.o 1 [] [.s (lb false)])) (.d [.rd, .rd] (P_c_sUnitFits (L.getD k default) (globals (List.take k L))) (.b (!fitU (L.getD k default) (globals (List.take k L))) (.o 1 [] [.s (lb
 false)]) (.d [.rd, .own true 1] (P_c_sBound (L.getD k default).body []) (.z intC (bnd (L.getD k default).body) (.l (lc_sUnitsLb L k) (Sc_sUnitsLb L h k) [0, 1, 2, 4] [.s (li 0)] 0
 (.t (.p (∀ (e : List Cell), e ∈ List.map intC (L.getD k default).globals → ∀ (c : Cell), c ∈ e → ∃ v, c = Cell.lit v) (.p (∀ (e : List Cell), e ∈ List.map intC (L.getD k
 default).globals → e.length = 1) (.p (((List.map intC (globals (List.take k L))).length + (List.map intC (L.getD k default).globals).length) * 8 ≤ 140737488355328) (.p (((List.map
 strC (namesU (List.take k L))).length + 1) * 16 ≤ 140737488355328) (.d [.rd] (P_c_sSizC (L.getD k default).body) (.r ((↑(sumBy szU (List.take k L)) : Int) + (↑(sizeC (L.getD k
 default).body) : Int)) (.i ((L.getD k default).body.kind = 8) (.z coreC (L.getD k default).body.kids (.r ((↑(sumBy prt (List.take k L)) : Int) - (↑k : Int) + (↑(List.map coreC
 (L.getD k default).body.kids).length : Int)) (.r ((↑(sumBy prt (List.take k L)) : Int) - (↑k : Int) + (↑(List.map coreC (L.getD k default).body.kids).length : Int) - 1) (.r ((↑k :
 Int) + 1) (.g [3, 5] (k + 1) [.s (li ((↑k : Int) + 1)), .s (li ((↑(sumBy szU (List.take k L)) : Int) + (↑(sizeC (L.getD k default).body) : Int))), .s (li ((↑(sumBy prt (List.take
 k L)) : Int) - (↑k : Int) + (↑(List.map coreC (L.getD k default).body.kids).length : Int) - 1)), .o (Ob.arr true 1 (List.map intC (globals (List.take k L)) ++ List.map intC
 (L.getD k default).globals)), .o (Ob.arr true 1 (List.map strC (namesU (List.take k L)) ++ [[cS (L.getD k default).name]]))]))))) (.r ((↑k : Int) + 1) (.g [3, 5] (k + 1) [.s (li
 ((↑k : Int) + 1)), .s (li ((↑(sumBy szU (List.take k L)) : Int) + (↑(sizeC (L.getD k default).body) : Int))), .s (li ((↑(sumBy prt (List.take k L)) : Int) - (↑k : Int))), .o
 (Ob.arr true 1 (List.map intC (globals (List.take k L)) ++ List.map intC (L.getD k default).globals)), .o (Ob.arr true 1 (List.map strC (namesU (List.take k L)) ++ [[cS (L.getD k
 default).name]]))]))))))))) (.t (.o 1 [] [.s (lb false)]) .q)))))))))))))) (.o 0 [0] [.s (li (↑(sumBy szU (List.take k L)) : Int)), .s (li ((↑(sumBy prt (List.take k L)) : Int) -
 (↑k : Int))), .o (Ob.arr true 1 (List.map intC (globals (List.take k L))))])) (by
  intro k h; try dsimp only [teasy, nthW, lc_sUnitsLa, lc_sUnitsLb] at h ⊢
  have g1 := @okT_step L k
  have g2 := uOK_eq L k
  have g3 := @okT_stop L k
  have g4 := @unit_w L k
  have g5 := bnd_le (L.getD k default).body
  have g6 := sz_le L (k + 1)
  have g7 := @sumBy_step _ _ szU L k
  have g8 := @sumBy_step _ _ prt L k
  have g9 := @globals_step L k
  have g10 := @names_step L k
  have g11 := globals_wU (L.take k)
  have g12 := sumBy_takeLe wU L k
  have g13 : szU (L.getD k default) = sizeC (L.getD k default).body := rfl
  have g14 : prt (L.getD k default) = if (L.getD k default).body.kind = 8 then (L.getD k default).body.kids.length else 1 := rfl
  have g15 := depC_le (L.getD k default).body
  have g16 := @uOK_small L k
  have g17 := names_len L k
  with_reducible repeat' (first | apply And.intro | exact zR | (intro; skip) | apply mIc | apply mOc | apply mSc | apply mLc | apply c_sDepC | apply c_sUnitFits | apply c_sBound | apply c_sSizC | apply c_sApart)
  all_goals (try simp only [std, inj] at *)
  all_goals with_reducible repeat' apply And.intro
  all_goals (try (first | with_reducible apply c_sDepC | with_reducible apply c_sUnitFits | with_reducible apply c_sBound | with_reducible apply c_sSizC | with_reducible apply c_sApart | (simp only [← List.map_append]; first | with_reducible apply c_sDepC | with_reducible apply c_sUnitFits | with_reducible apply c_sBound | with_reducible apply c_sSizC | with_reducible apply c_sApart)))
  all_goals (try (first | exact z | exact zM | grind [snocI, snocS, rowSnoc])))
theorem c_sUnits (L : List Unit) (h : sumBy wU L ≤ 1048576 ∧ L.length ≤ 1048576)  : P_c_sUnits L := fnOK Tryz.call59 Tryz.func59 (.w (.bool false) (.w (.bool false) (.z unitC L (.l
 (lc_sUnitsLa L) (Sc_sUnitsLa L h) [0, 1] [.s (li 0), .s (li 0), .s (li 0), .o (Ob.arr true 1 []), .o (Ob.arr true 1 [])] 0 (.t (.z unitC L (.i ((↑(List.map unitC L).length : Int)
 ≤ 12) (.z intC (globals L) (.i ((↑(List.map intC (globals L)).length : Int) ≤ 60) (.r ((↑(sumBy szU L) : Int) + 1) (.i ((↑(sumBy szU L) : Int) + (1 : Int) ≤ 3000) (.z unitC L (.r
 ((↑(sumBy prt L) : Int) - (↑L.length : Int) + (↑(List.map unitC L).length : Int)) (.i ((↑(sumBy prt L) : Int) - (↑L.length : Int) + (↑(List.map unitC L).length : Int) ≤ 60) (.d
 [.rd] (P_c_sApart L) (.s (lb (okU (apart L))))) (.s (lb false))))) (.y false (.s (lb false))))) (.y false (.y false (.s (lb false)))))) (.y false (.y false (.y false (.s (lb
 false))))))) (.t (.s (lb false)) .q)))))) (by
  dsimp only [teasy, P_c_sUnits, nthW, lc_sUnitsLa]
  have g2 := prg0 L
  have g1 := sz_all L
  with_reducible repeat' (first | apply And.intro | exact zR | (intro; skip) | apply c_sApart)
  all_goals (try simp only [std, inj] at *)
  all_goals with_reducible repeat' apply And.intro
  all_goals (try with_reducible apply c_sApart)
  all_goals (try omega)
  all_goals (try grind [areU, okT_zero, snocI, snocS, rowSnoc]))
abbrev P_c_iParted (c : Core) : Ct := ⟨144, [], [coreA c], [], .sv (li (if c.kind = 8 then c.kids.length else 1 : Nat))⟩
theorem c_iParted (c : Core)  : P_c_iParted c := fnOK Tryz.call144 Tryz.func144 (.i (c.kind = 8) (.z coreC c.kids (.s (li (↑(List.map coreC c.kids).length : Int)))) (.s (li 1))) (by
  dsimp only [teasy, P_c_iParted]
  with_reducible repeat' (first | apply And.intro | exact zR | (intro; skip) | apply mIc | apply mOc | apply mSc | apply mLc)
  all_goals (try simp only [std, inj] at *)
  all_goals with_reducible repeat' apply And.intro
  all_goals (try (first | exact z | exact zM | grind [snocI, snocS, rowSnoc])))
abbrev P_c_iUnits (L : List Unit) : Ct := ⟨67, [], [ll (L.map unitC)], [], .sv (lb (areU L))⟩
def lc_iUnitsLa (L : List Unit) : Lp Nat := .mk 79 0 (fun x => [(3, SV.one (AC.mref 0)), (4, SV.one (AC.ref 1)), (5, SV.one (AC.ref 2)), (6, hs x 1), (7, hs x 2), (14, ll (List.map
 unitC L)), (15, li (↑(List.map unitC L).length : Int)), (16, hs x 0)]) (fun x => [ho x 3, ho x 4, ho x 5]) (fun k => [.s (li (↑k : Int)), .s (li (↑(1 + sumBy szU (List.take k L))
 : Int)), .s (li (↑(sumBy prt (List.take k L)) : Int)), .o (Ob.map false kS (mS (memS (namesU (List.take k L))))), .o (Ob.arr true 1 (List.map intC (globals (List.take k L)))), .o
 (Ob.arr true 1 (List.map intC (apart (List.take k L))))]) (fun k => k ≤ L.length ∧ L.length ≤ 9223372036854775807 ∧ L.length ≤ 12 ∧ okT L k = true) (fun k => L.length - k) [.mk
 (okT L L.length = true) (.exit 0) (fun x => [(4, SV.one (AC.ref 0)), (5, SV.one (AC.ref 1)), (6, hs x 0), (7, hs x 1)]) (fun x => [ho x 2, ho x 3]) [.s (li (↑(1 + sumBy szU L) :
 Int)), .s (li (↑(sumBy prt L) : Int)), .o (Ob.arr true 1 (List.map intC (globals L))), .o (Ob.arr true 1 (List.map intC (apart L)))], .mk (areU L = false) .ret (fun x => [(2, hs x
 0)]) (fun x => []) [.s (lb false)]]
theorem Sc_iUnitsLa (L : List Unit) (h : sumBy wU L ≤ 1048576 ∧ L.length ≤ 1048576) : Lp.Sem Tryz.prog (loopAt Tryz.f67 0) (lc_iUnitsLa L) := lpOK (fun k => .i ((↑k : Int) <
 (↑(List.map unitC L).length : Int)) (.x (↑k : Int) (List.map unitC L) (unitF (L.getD k default)) (.w (.cells [cI (memS (namesU (List.take k L)) (L.getD k default).name)]) (.p
 (LookAt (Value.int IntKind.i64 0) (mS (memS (namesU (List.take k L)))) (Value.string (L.getD k default).name) (cI (memS (namesU (List.take k L)) (L.getD k default).name))) (.i
 (memS (namesU (List.take k L)) (L.getD k default).name = 1) (.y true (.y true (.o 1 [] [.s (lb false)]))) (.d [.rd, .rd] (P_c_iUnitFits (L.getD k default) (globals (List.take k
 L))) (.b (!fitU (L.getD k default) (globals (List.take k L))) (.y true (.o 1 [] [.s (lb false)])) (.d [.rd] (P_c_iDepC (L.getD k default).body) (.i (150 ≤ (↑(depC (L.getD k
 default).body) : Int)) (.o 1 [] [.s (lb false)]) (.w (.upd (mS (upd1 (memS (namesU (List.take k L))) (L.getD k default).name 1))) (.p (false = false) (.p (UpdF kS.d (mS (memS
 (namesU (List.take k L)))) (mS (upd1 (memS (namesU (List.take k L))) (L.getD k default).name 1)) (Value.string (L.getD k default).name) (some (cI 1))) (.p (∀ (e : List Cell), e ∈
 List.map intC (L.getD k default).globals → ∀ (c : Cell), c ∈ e → ∃ v, c = Cell.lit v) (.p (∀ (e : List Cell), e ∈ List.map intC (L.getD k default).globals → e.length = 1) (.p
 (((List.map intC (globals (List.take k L))).length + (List.map intC (L.getD k default).globals).length) * 8 ≤ 140737488355328) (.w (.draw [(3, [2]), (7, [5, 7])]) (.p (∀ (e : List
 Cell), e ∈ List.map intC (L.getD k default).globals → ∀ (c : Cell), c ∈ e → ∃ v, c = Cell.lit v) (.p (∀ (e : List Cell), e ∈ List.map intC (L.getD k default).globals → e.length =
 1) (.p (((List.map intC (apart (List.take k L))).length + (List.map intC (L.getD k default).globals).length) * 8 ≤ 140737488355328) (.d [.rd] (P_c_iBoundVariables (L.getD k
 default).body) (.p (((List.map intC (apart (List.take k L)) ++ List.map intC (L.getD k default).globals).length + (List.map intC (bnd (L.getD k default).body)).length) * 8 ≤
 140737488355328) (.d [.rd] (P_c_iSizC (L.getD k default).body) (.r ((↑(1 + sumBy szU (List.take k L)) : Int) + (↑(sizeC (L.getD k default).body) : Int)) (.c [.rd] (c_iParted
 (L.getD k default).body) (.r ((↑(sumBy prt (List.take k L)) : Int) + (↑(if (L.getD k default).body.kind = 8 then (L.getD k default).body.kids.length else 1) : Int)) (.r ((↑k :
 Int) + 1) (.g [0, 4, 15] (k + 1) [.s (li ((↑k : Int) + 1)), .s (li ((↑(1 + sumBy szU (List.take k L)) : Int) + (↑(sizeC (L.getD k default).body) : Int))), .s (li ((↑(sumBy prt
 (List.take k L)) : Int) + (↑(if (L.getD k default).body.kind = 8 then (L.getD k default).body.kids.length else 1) : Int))), .o (Ob.map false kS (mS (upd1 (memS (namesU (List.take
 k L))) (L.getD k default).name 1))), .o (Ob.arr true 1 (List.map intC (globals (List.take k L)) ++ List.map intC (L.getD k default).globals)), .o (Ob.arr true 1 (List.map intC
 (apart (List.take k L)) ++ List.map intC (L.getD k default).globals ++ List.map intC (bnd (L.getD k default).body)))])))))))))))))))))))))))))) (.o 0 [1, 2] [.s (li (↑(1 + sumBy
 szU (List.take k L)) : Int)), .s (li (↑(sumBy prt (List.take k L)) : Int)), .o (Ob.arr true 1 (List.map intC (globals (List.take k L)))), .o (Ob.arr true 1 (List.map intC (apart
 (List.take k L))))])) (by
  intro k h; try dsimp only [teasy, nthW, lc_iUnitsLa] at h ⊢
  have g1 := @okT_step L k
  have g2 := uOK_eq L k
  have g3 := @okT_stop L k
  have g4 := @unit_w L k
  have g5 := bnd_le (L.getD k default).body
  have g6 := sz_le L (k + 1)
  have g7 := @sumBy_step _ _ szU L k
  have g8 := @sumBy_step _ _ prt L k
  have g9 := @globals_step L k
  have g10 := @names_step L k
  have g11 := globals_wU (L.take k)
  have g12 := sumBy_takeLe wU L k
  have g13 : szU (L.getD k default) = sizeC (L.getD k default).body := rfl
  have g14 : prt (L.getD k default) = if (L.getD k default).body.kind = 8 then (L.getD k default).body.kids.length else 1 := rfl
  have g15 := depC_le (L.getD k default).body
  have g16 := @uOK_small L k
  have g17 := @apart_step L k
  have g18 := apart_wU (L.take k)
  have g19 := names_len L k
  with_reducible repeat' (first | apply And.intro | exact zR | (intro; skip) | apply mIc | apply mOc | apply mSc | apply mLc | apply c_iUnitFits | apply c_iDepC | apply c_iBoundVariables | apply c_iSizC)
  all_goals (try simp only [std, inj] at *)
  all_goals with_reducible repeat' apply And.intro
  all_goals (try (first | with_reducible apply c_iUnitFits | with_reducible apply c_iDepC | with_reducible apply c_iBoundVariables | with_reducible apply c_iSizC | (simp only [← List.map_append]; first | with_reducible apply c_iUnitFits | with_reducible apply c_iDepC | with_reducible apply c_iBoundVariables | with_reducible apply c_iSizC)))
  all_goals (try (first | exact z | exact zM | grind [memS_one, memS_snoc, inS, snocI, snocS, rowSnoc])))
theorem c_iUnits (L : List Unit) (h : sumBy wU L ≤ 1048576 ∧ L.length ≤ 1048576)  : P_c_iUnits L := fnOK Tryz.call67 Tryz.func67 (.z unitC L (.i (12 < (↑(List.map unitC L).length :
 Int)) (.s (lb false)) (.w (.mkmap kS) (.z unitC L (.w (.ghost (.nilreg 4 true 1)) (.w (.ghost (.nilreg 5 true 1)) (.l (lc_iUnitsLa L) (Sc_iUnitsLa L h) [0, 1, 2] [.s (li 0), .s
 (li 1), .s (li 0), .o (Ob.map false kS (mS zS)), .o (Ob.arr true 1 []), .o (Ob.arr true 1 [])] 0 (.t (.c [.rd] (c_iDiff [apart L]) (.b (okU [apart L].flatten) (.z intC (globals L)
 (.i ((↑(List.map intC (globals L)).length : Int) ≤ 60) (.i ((↑(1 + sumBy szU L) : Int) ≤ 3000) (.s (lb (decide ((↑(sumBy prt L) : Int) ≤ 60)))) (.s (lb false))) (.y false (.s (lb
 false))))) (.y false (.y false (.s (lb false)))))) (.t (.s (lb false)) .q))))))))) (by
  dsimp only [teasy, P_c_iUnits, nthW, lc_iUnitsLa]
  have g2 := prg0 L
  have g1 := sz_all L
  with_reducible repeat' (first | apply And.intro | exact zR | (intro; skip) | apply mIc | apply mOc | apply mSc | apply mLc | apply c_iUnitFits | apply c_iDepC | apply c_iBoundVariables | apply c_iSizC)
  all_goals (try simp only [std, inj] at *)
  all_goals with_reducible repeat' apply And.intro
  all_goals (try (first | with_reducible apply c_iUnitFits | with_reducible apply c_iDepC | with_reducible apply c_iBoundVariables | with_reducible apply c_iSizC | (simp only [← List.map_append]; first | with_reducible apply c_iUnitFits | with_reducible apply c_iDepC | with_reducible apply c_iBoundVariables | with_reducible apply c_iSizC)))
  all_goals (try (first | exact z | exact zM | grind [areU, okT_zero, memS_nil, snocI, snocS, rowSnoc])))
end Go.Proofs.YtclpofblehlojaaGreat
end
