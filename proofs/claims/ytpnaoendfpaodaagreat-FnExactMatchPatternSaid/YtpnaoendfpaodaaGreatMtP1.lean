/- Part 1 of the proof: The program's MatchPattern returns what the reference's returns, for all arguments. No condition. -/
import Derived.Test.YtpnaoendfpaodaaGreatQ4
section
namespace Go.Proofs.YtpnaoendfpaodaaGreat
open Go Go.Proofs.YtpnaoendfpaodaaGreat.Ab
set_option linter.unusedVariables false
set_option linter.unusedSimpArgs false
set_option maxHeartbeats 4000000
theorem all_stop {L : List UInt8} {p : UInt8 → Bool} {k : Nat} (h : k < L.length) (hp : p (L.getD k 0) = false) : L.all p = false := by
  rw [List.all_eq_false]
  have e : L.getD k 0 = L[k] := by simp [h]
  exact ⟨L[k], List.getElem_mem h, by rw [← e, hp]; decide⟩
theorem all_go {L : List UInt8} {p : UInt8 → Bool} {k : Nat} (h : k < L.length) (hp : p (L.getD k 0) = true) (ht : (L.take k).all p = true) : (L.take (k + 1)).all p = true := by
  rw [take0 h, List.all_append, ht, List.all_cons, hp]; rfl
theorem all_all {L : List UInt8} {p : UInt8 → Bool} {k : Nat} (h : L.length ≤ k) (ht : (L.take k).all p = true) : L.all p = true := by
  rwa [List.take_of_length_le h] at ht
def lu (n : Int) : SV := .one (.val (.lit (.int .u8 n)))
def isDig (n : Int) : Bool := decide (48 ≤ n ∧ n ≤ 57)
def markI : List Int := [33, 63, 42, 60, 62, 61, 47, 43, 45, 46, 95]
def isMk (n : Int) : Bool := decide (97 ≤ n ∧ n ≤ 122) || isDig n || decide (n ∈ markI)
theorem mark_at {k : Nat} (h : k < 11) : ((([33, 63, 42, 60, 62, 61, 47, 43, 45, 46, 95] : List UInt8).getD k 0).toNat : Int) = markI.getD k default := by
  have : ∀ k, k < 11 → ((([33, 63, 42, 60, 62, 61, 47, 43, 45, 46, 95] : List UInt8).getD k 0).toNat : Int) = markI.getD k default := by decide
  exact this k h
def isStB (n : Int) : Bool := decide (32 ≤ n ∧ n ≤ 126 ∧ n ≠ 34)
def isSym (s : ByteArray) : Bool := decide (1 ≤ (s.size : Int) ∧ (s.size : Int) ≤ 16) && !isDig (s.data.toList.getD 0 0).toNat && !(decide (((s.data.toList.getD 0 0).toNat : Int) = 45) && decide (1 < (s.size : Int)) && isDig (s.data.toList.getD 1 0).toNat) && s.data.toList.all fun b => isMk b.toNat
def isStr (s : ByteArray) : Bool := decide ((s.size : Int) ≤ 20) && s.data.toList.all fun b => isStB b.toNat
abbrev P_c_sDigit (n : Int) : Ct := ⟨296, [], [lu n], [], .sv (lb (isDig n))⟩
theorem c_sDigit (n : Int)  : P_c_sDigit n := fnOK Tryz.call296 Tryz.func296 (.i (48 ≤ n) (.s (lb (decide (n ≤ 57)))) (.s (lb false))) (by
  dsimp only [teasy, P_c_sDigit]
  with_reducible repeat' (first | apply And.intro | exact zR | (intro; skip))
  all_goals (try simp only [std, inj] at *)
  all_goals with_reducible repeat' apply And.intro
  all_goals (try (first | exact z | grind [isDig, snocI, snocS, rowSnoc])))
abbrev P_c_iDigit (n : Int) : Ct := ⟨299, [], [lu n], [], .sv (lb (isDig n))⟩
theorem c_iDigit (n : Int)  : P_c_iDigit n := fnOK Tryz.call299 Tryz.func299 (.i (48 ≤ n) (.s (lb (decide (n ≤ 57)))) (.s (lb false))) (by
  dsimp only [teasy, P_c_iDigit]
  with_reducible repeat' (first | apply And.intro | exact zR | (intro; skip))
  all_goals (try simp only [std, inj] at *)
  all_goals with_reducible repeat' apply And.intro
  all_goals (try (first | exact z | grind [isDig, snocI, snocS, rowSnoc])))
abbrev P_c_sMark (n : Int) : Ct := ⟨297, [], [lu n], [], .sv (lb (isMk n))⟩
def lc_sMarkLa (n : Int) : Lp Nat := .mk 26 0 (fun x => [(0, SV.one (AC.val (Cell.lit (Value.int IntKind.u8 n)))), (3, ls (ByteArray.mk #[(33 : UInt8), (63 : UInt8), (42 : UInt8),
 (60 : UInt8), (62 : UInt8), (61 : UInt8), (47 : UInt8), (43 : UInt8), (45 : UInt8), (46 : UInt8), (95 : UInt8)])), (4, hs x 0)]) (fun x => []) (fun k => [.s (li (↑k : Int))]) (fun
 k => k ≤ 11 ∧ ¬n ∈ List.take k markI) (fun k => 11 - k) [.mk (decide (n ∈ markI) = false) (.exit 0) (fun x => []) (fun x => []) [], .mk (decide (n ∈ markI) = true) .ret (fun x =>
 [(2, hs x 0)]) (fun x => []) [.s (lb true)]]
theorem Sc_sMarkLa (n : Int) : Lp.Sem Tryz.prog (loopAt Tryz.f297 0) (lc_sMarkLa n) := lpOK (fun k => .h (11 ≤ 9223372036854775807) (.i ((↑k : Int) < 11) (.p (0 ≤ (↑k : Int) ∧ (↑k
 : Int).toNat < 11) (.i ((↑([(33 : UInt8), (63 : UInt8), (42 : UInt8), (60 : UInt8), (62 : UInt8), (61 : UInt8), (47 : UInt8), (43 : UInt8), (45 : UInt8), (46 : UInt8), (95 :
 UInt8)].getD (↑k : Int).toNat (0 : UInt8)).toNat : Int) = n) (.o 1 [] [.s (lb true)]) (.r ((↑k : Int) + 1) (.g [] (k + 1) [.s (li ((↑k : Int) + 1))])))) (.o 0 [] []))) (by
  intro k h; try dsimp only [teasy, nthW, lc_sMarkLa] at h ⊢
  have g := @mark_at k
  have e : markI.length = 11 := rfl
  have e2 : markI.take 11 = markI := rfl
  with_reducible repeat' (first | apply And.intro | exact zR | (intro; skip))
  all_goals (try simp only [std, inj] at *)
  all_goals with_reducible repeat' apply And.intro
  all_goals (try (first | exact z | grind [take_get, getD_mem', snocI, snocS, rowSnoc])))
theorem c_sMark (n : Int)  : P_c_sMark n := fnOK Tryz.call297 Tryz.func297 (.i (97 ≤ n) (.i (n ≤ 122) (.y true (.s (lb true))) (.c [.rd] (c_sDigit n) (.b (isDig n) (.s (lb true)) (.l
 (lc_sMarkLa n) (Sc_sMarkLa n) [] [.s (li 0)] 0 (.t (.s (lb false)) (.t (.s (lb true)) .q)))))) (.y false (.c [.rd] (c_sDigit n) (.b (isDig n) (.s (lb true)) (.l (lc_sMarkLa n)
 (Sc_sMarkLa n) [] [.s (li 0)] 0 (.t (.s (lb false)) (.t (.s (lb true)) .q))))))) (by
  dsimp only [teasy, P_c_sMark, nthW, lc_sMarkLa]
  with_reducible repeat' (first | apply And.intro | exact zR | (intro; skip))
  all_goals (try simp only [std, inj] at *)
  all_goals with_reducible repeat' apply And.intro
  all_goals (try (first | exact z | grind [isMk, snocI, snocS, rowSnoc])))
abbrev P_c_iMark (n : Int) : Ct := ⟨300, [], [lu n], [], .sv (lb (isMk n))⟩
theorem c_iMark (n : Int)  : P_c_iMark n := fnOK Tryz.call300 Tryz.func300 (.i (97 ≤ n) (.i (n ≤ 122) (.y true (.s (lb true))) (.i (48 ≤ n) (.i (n ≤ 57) (.s (lb true)) (.i (n = 33)
 (.y true (.s (lb true))) (.i (n = 63) (.y true (.s (lb true))) (.i (n = 42) (.y true (.s (lb true))) (.i (n = 60) (.y true (.s (lb true))) (.i (n = 62) (.y true (.s (lb true)))
 (.i (n = 61) (.y true (.s (lb true))) (.i (n = 47) (.y true (.s (lb true))) (.i (n = 43) (.y true (.s (lb true))) (.i (n = 45) (.y true (.s (lb true))) (.i (n = 46) (.y true (.s
 (lb true))) (.i (n = 95) (.s (lb true)) (.s (lb false)))))))))))))) (.y false (.i (n = 33) (.y true (.s (lb true))) (.i (n = 63) (.y true (.s (lb true))) (.i (n = 42) (.y true (.s
 (lb true))) (.i (n = 60) (.y true (.s (lb true))) (.i (n = 62) (.y true (.s (lb true))) (.i (n = 61) (.y true (.s (lb true))) (.i (n = 47) (.y true (.s (lb true))) (.i (n = 43)
 (.y true (.s (lb true))) (.i (n = 45) (.y true (.s (lb true))) (.i (n = 46) (.y true (.s (lb true))) (.i (n = 95) (.s (lb true)) (.s (lb false)))))))))))))))) (.y false (.i (48 ≤
 n) (.i (n ≤ 57) (.s (lb true)) (.i (n = 33) (.y true (.s (lb true))) (.i (n = 63) (.y true (.s (lb true))) (.i (n = 42) (.y true (.s (lb true))) (.i (n = 60) (.y true (.s (lb
 true))) (.i (n = 62) (.y true (.s (lb true))) (.i (n = 61) (.y true (.s (lb true))) (.i (n = 47) (.y true (.s (lb true))) (.i (n = 43) (.y true (.s (lb true))) (.i (n = 45) (.y
 true (.s (lb true))) (.i (n = 46) (.y true (.s (lb true))) (.i (n = 95) (.s (lb true)) (.s (lb false)))))))))))))) (.y false (.i (n = 33) (.y true (.s (lb true))) (.i (n = 63) (.y
 true (.s (lb true))) (.i (n = 42) (.y true (.s (lb true))) (.i (n = 60) (.y true (.s (lb true))) (.i (n = 62) (.y true (.s (lb true))) (.i (n = 61) (.y true (.s (lb true))) (.i (n
 = 47) (.y true (.s (lb true))) (.i (n = 43) (.y true (.s (lb true))) (.i (n = 45) (.y true (.s (lb true))) (.i (n = 46) (.y true (.s (lb true))) (.i (n = 95) (.s (lb true)) (.s
 (lb false))))))))))))))))) (by
  dsimp only [teasy, P_c_iMark]
  with_reducible repeat' (first | apply And.intro | exact zR | (intro; skip))
  all_goals (try simp only [std, inj] at *)
  all_goals with_reducible repeat' apply And.intro
  all_goals (try (first | exact z | grind [snocI, snocS, rowSnoc]))
  all_goals (symm; simp only [isMk, isDig, markI, List.mem_cons, List.not_mem_nil, Bool.or_eq_true, Bool.or_eq_false_iff, decide_eq_true_eq, decide_eq_false_iff_not, or_false]; omega))
abbrev P_c_l1In (x : Int) (a : Int) (b : Int) : Ct := ⟨132, [], [li x, li a, li b], [], .sv (lb (decide (a ≤ x ∧ x ≤ b)))⟩
theorem c_l1In (x a b : Int)  : P_c_l1In x a b := fnOK Tryz.call132 Tryz.func132 (.i (a ≤ x) (.s (lb (decide (x ≤ b)))) (.s (lb false))) (by
  dsimp only [teasy, P_c_l1In]
  with_reducible repeat' (first | apply And.intro | exact zR | (intro; skip))
  all_goals (try simp only [std, inj] at *)
  all_goals with_reducible repeat' apply And.intro
  all_goals (try (first | exact z | grind [snocI, snocS, rowSnoc])))
abbrev P_c_sIsSymbol (s : ByteArray) : Ct := ⟨246, [], [ls s], [], .sv (lb (isSym s))⟩
def lc_sIsSymbolLa (s : ByteArray) : Lp Nat := .mk 39 0 (fun x => [(0, ls s), (3, hs x 0)]) (fun x => []) (fun k => [.s (li (↑k : Int))]) (fun k => k ≤ s.size ∧ s.size ≤ 16 ∧
 ((List.take k s.data.toList).all fun b => isMk (↑b.toNat : Int)) = true) (fun k => s.size - k) [.mk ((s.data.toList.all fun b => isMk (↑b.toNat : Int)) = true) (.exit 0) (fun x =>
 []) (fun x => []) [], .mk ((s.data.toList.all fun b => isMk (↑b.toNat : Int)) = false) .ret (fun x => [(2, hs x 0)]) (fun x => []) [.s (lb false)]]
theorem Sc_sIsSymbolLa (s : ByteArray) : Lp.Sem Tryz.prog (loopAt Tryz.f246 0) (lc_sIsSymbolLa s) := lpOK (fun k => .h (s.data.toList.length ≤ 9223372036854775807) (.i ((↑k : Int)
 < (↑s.data.toList.length : Int)) (.p (0 ≤ (↑k : Int) ∧ (↑k : Int).toNat < s.data.toList.length) (.c [.rd] (c_sMark (↑(s.data.toList.getD (↑k : Int).toNat (0 : UInt8)).toNat :
 Int)) (.b (!isMk (↑(s.data.toList.getD (↑k : Int).toNat (0 : UInt8)).toNat : Int)) (.o 1 [] [.s (lb false)]) (.r ((↑k : Int) + 1) (.g [] (k + 1) [.s (li ((↑k : Int) + 1))])))))
 (.o 0 [] []))) (by
  intro k h; try dsimp only [teasy, nthW, lc_sIsSymbolLa] at h ⊢
  have g1 := @all_stop s.data.toList (fun b => isMk b.toNat) k
  have g2 := @all_go s.data.toList (fun b => isMk b.toNat) k
  have g3 := @all_all s.data.toList (fun b => isMk b.toNat) k
  with_reducible repeat' (first | apply And.intro | exact zR | (intro; skip))
  all_goals (try simp only [std, inj] at *)
  all_goals with_reducible repeat' apply And.intro
  all_goals (try (first | exact z | grind [snocI, snocS, rowSnoc])))
theorem c_sIsSymbol (s : ByteArray)  : P_c_sIsSymbol s := fnOK Tryz.call246 Tryz.func246 (.h (s.data.toList.length ≤ 9223372036854775807) (.c [.rd, .rd, .rd] (c_l1In
 (↑s.data.toList.length : Int) 1 16) (.b (!decide (1 ≤ (↑s.data.toList.length : Int) ∧ (↑s.data.toList.length : Int) ≤ 16)) (.y true (.y true (.s (lb false)))) (.p ((0 : Int) ≤ 0 ∧
 0 < s.data.toList.length) (.c [.rd] (c_sDigit (↑(s.data.toList.getD 0 (0 : UInt8)).toNat : Int)) (.b (isDig (↑(s.data.toList.getD 0 (0 : UInt8)).toNat : Int)) (.y true (.s (lb
 false))) (.p ((0 : Int) ≤ 0 ∧ 0 < s.data.toList.length) (.i ((↑(s.data.toList.getD 0 (0 : UInt8)).toNat : Int) = 45) (.h (s.data.toList.length ≤ 9223372036854775807) (.i (1 <
 (↑s.data.toList.length : Int)) (.p ((0 : Int) ≤ 1 ∧ 1 < s.data.toList.length) (.c [.rd] (c_sDigit (↑(s.data.toList.getD 1 (0 : UInt8)).toNat : Int)) (.b (isDig
 (↑(s.data.toList.getD 1 (0 : UInt8)).toNat : Int)) (.s (lb false)) (.l (lc_sIsSymbolLa s) (Sc_sIsSymbolLa s) [] [.s (li 0)] 0 (.t (.s (lb true)) (.t (.s (lb false)) .q)))))) (.y
 false (.l (lc_sIsSymbolLa s) (Sc_sIsSymbolLa s) [] [.s (li 0)] 0 (.t (.s (lb true)) (.t (.s (lb false)) .q)))))) (.y false (.y false (.l (lc_sIsSymbolLa s) (Sc_sIsSymbolLa s) []
 [.s (li 0)] 0 (.t (.s (lb true)) (.t (.s (lb false)) .q))))))))))))) (by
  dsimp only [teasy, P_c_sIsSymbol, nthW, lc_sIsSymbolLa]
  with_reducible repeat' (first | apply And.intro | exact zR | (intro; skip))
  all_goals (try simp only [std, inj] at *)
  all_goals with_reducible repeat' apply And.intro
  all_goals (try (first | exact z | grind [isSym, snocI, snocS, rowSnoc])))
abbrev P_c_iIsSymbol (s : ByteArray) : Ct := ⟨251, [], [ls s], [], .sv (lb (isSym s))⟩
def lc_iIsSymbolLa (s : ByteArray) : Lp Nat := .mk 43 0 (fun x => [(0, ls s), (3, hs x 0)]) (fun x => []) (fun k => [.s (li (↑k : Int))]) (fun k => k ≤ s.size ∧ s.size ≤ 16 ∧
 ((List.take k s.data.toList).all fun b => isMk (↑b.toNat : Int)) = true) (fun k => s.size - k) [.mk ((s.data.toList.all fun b => isMk (↑b.toNat : Int)) = true) (.exit 0) (fun x =>
 []) (fun x => []) [], .mk ((s.data.toList.all fun b => isMk (↑b.toNat : Int)) = false) .ret (fun x => [(2, hs x 0)]) (fun x => []) [.s (lb false)]]
theorem Sc_iIsSymbolLa (s : ByteArray) : Lp.Sem Tryz.prog (loopAt Tryz.f251 0) (lc_iIsSymbolLa s) := lpOK (fun k => .h (s.data.toList.length ≤ 9223372036854775807) (.i ((↑k : Int)
 < (↑s.data.toList.length : Int)) (.p (0 ≤ (↑k : Int) ∧ (↑k : Int).toNat < s.data.toList.length) (.c [.rd] (c_iMark (↑(s.data.toList.getD (↑k : Int).toNat (0 : UInt8)).toNat :
 Int)) (.b (!isMk (↑(s.data.toList.getD (↑k : Int).toNat (0 : UInt8)).toNat : Int)) (.o 1 [] [.s (lb false)]) (.r ((↑k : Int) + 1) (.g [] (k + 1) [.s (li ((↑k : Int) + 1))])))))
 (.o 0 [] []))) (by
  intro k h; try dsimp only [teasy, nthW, lc_iIsSymbolLa] at h ⊢
  have g1 := @all_stop s.data.toList (fun b => isMk b.toNat) k
  have g2 := @all_go s.data.toList (fun b => isMk b.toNat) k
  have g3 := @all_all s.data.toList (fun b => isMk b.toNat) k
  with_reducible repeat' (first | apply And.intro | exact zR | (intro; skip))
  all_goals (try simp only [std, inj] at *)
  all_goals with_reducible repeat' apply And.intro
  all_goals (try (first | exact z | grind [snocI, snocS, rowSnoc])))
theorem c_iIsSymbol (s : ByteArray)  : P_c_iIsSymbol s := fnOK Tryz.call251 Tryz.func251 (.h (s.data.toList.length ≤ 9223372036854775807) (.i ((↑s.data.toList.length : Int) < 1) (.y
 true (.y true (.y true (.s (lb false))))) (.h (s.data.toList.length ≤ 9223372036854775807) (.i (16 < (↑s.data.toList.length : Int)) (.y true (.y true (.s (lb false)))) (.p ((0 :
 Int) ≤ 0 ∧ 0 < s.data.toList.length) (.c [.rd] (c_iDigit (↑(s.data.toList.getD 0 (0 : UInt8)).toNat : Int)) (.b (isDig (↑(s.data.toList.getD 0 (0 : UInt8)).toNat : Int)) (.y true
 (.s (lb false))) (.p ((0 : Int) ≤ 0 ∧ 0 < s.data.toList.length) (.i ((↑(s.data.toList.getD 0 (0 : UInt8)).toNat : Int) = 45) (.h (s.data.toList.length ≤ 9223372036854775807) (.i
 (1 < (↑s.data.toList.length : Int)) (.p ((0 : Int) ≤ 1 ∧ 1 < s.data.toList.length) (.c [.rd] (c_iDigit (↑(s.data.toList.getD 1 (0 : UInt8)).toNat : Int)) (.b (isDig
 (↑(s.data.toList.getD 1 (0 : UInt8)).toNat : Int)) (.s (lb false)) (.l (lc_iIsSymbolLa s) (Sc_iIsSymbolLa s) [] [.s (li 0)] 0 (.t (.s (lb true)) (.t (.s (lb false)) .q)))))) (.y
 false (.l (lc_iIsSymbolLa s) (Sc_iIsSymbolLa s) [] [.s (li 0)] 0 (.t (.s (lb true)) (.t (.s (lb false)) .q)))))) (.y false (.y false (.l (lc_iIsSymbolLa s) (Sc_iIsSymbolLa s) []
 [.s (li 0)] 0 (.t (.s (lb true)) (.t (.s (lb false)) .q)))))))))))))) (by
  dsimp only [teasy, P_c_iIsSymbol, nthW, lc_iIsSymbolLa]
  with_reducible repeat' (first | apply And.intro | exact zR | (intro; skip))
  all_goals (try simp only [std, inj] at *)
  all_goals with_reducible repeat' apply And.intro
  all_goals (try (first | exact z | grind [isSym, snocI, snocS, rowSnoc])))
abbrev P_c_sString (s : ByteArray) : Ct := ⟨298, [], [ls s], [], .sv (lb (isStr s))⟩
def lc_sStringLa (s : ByteArray) : Lp Nat := .mk 29 0 (fun x => [(0, ls s), (3, hs x 0)]) (fun x => []) (fun k => [.s (li (↑k : Int))]) (fun k => k ≤ s.size ∧ ((List.take k
 s.data.toList).all fun b => isStB (↑b.toNat : Int)) = true) (fun k => s.size - k) [.mk ((s.data.toList.all fun b => isStB (↑b.toNat : Int)) = true) (.exit 0) (fun x => [(0, ls
 s)]) (fun x => []) [], .mk ((s.data.toList.all fun b => isStB (↑b.toNat : Int)) = false) .ret (fun x => [(2, hs x 0)]) (fun x => []) [.s (lb false)]]
theorem Sc_sStringLa (s : ByteArray) : Lp.Sem Tryz.prog (loopAt Tryz.f298 0) (lc_sStringLa s) := lpOK (fun k => .h (s.data.toList.length ≤ 9223372036854775807) (.i ((↑k : Int) <
 (↑s.data.toList.length : Int)) (.p (0 ≤ (↑k : Int) ∧ (↑k : Int).toNat < s.data.toList.length) (.i ((↑(s.data.toList.getD (↑k : Int).toNat (0 : UInt8)).toNat : Int) < 32) (.y true
 (.y true (.o 1 [] [.s (lb false)]))) (.p (0 ≤ (↑k : Int) ∧ (↑k : Int).toNat < s.data.toList.length) (.i (126 < (↑(s.data.toList.getD (↑k : Int).toNat (0 : UInt8)).toNat : Int))
 (.y true (.o 1 [] [.s (lb false)])) (.p (0 ≤ (↑k : Int) ∧ (↑k : Int).toNat < s.data.toList.length) (.i ((↑(s.data.toList.getD (↑k : Int).toNat (0 : UInt8)).toNat : Int) = 34) (.o
 1 [] [.s (lb false)]) (.r ((↑k : Int) + 1) (.g [] (k + 1) [.s (li ((↑k : Int) + 1))])))))))) (.o 0 [] []))) (by
  intro k h; try dsimp only [teasy, nthW, lc_sStringLa] at h ⊢
  have g1 := @all_stop s.data.toList (fun b => isStB b.toNat) k
  have g2 := @all_go s.data.toList (fun b => isStB b.toNat) k
  have g3 := @all_all s.data.toList (fun b => isStB b.toNat) k
  with_reducible repeat' (first | apply And.intro | exact zR | (intro; skip))
  all_goals (try simp only [std, inj] at *)
  all_goals with_reducible repeat' apply And.intro
  all_goals (try (first | exact z | grind [isStB, snocI, snocS, rowSnoc])))
theorem c_sString (s : ByteArray)  : P_c_sString s := fnOK Tryz.call298 Tryz.func298 (.l (lc_sStringLa s) (Sc_sStringLa s) [] [.s (li 0)] 0 (.t (.h (s.data.toList.length ≤
 9223372036854775807) (.s (lb (decide ((↑s.data.toList.length : Int) ≤ 20))))) (.t (.s (lb false)) .q))) (by
  dsimp only [teasy, P_c_sString, nthW, lc_sStringLa]
  with_reducible repeat' (first | apply And.intro | exact zR | (intro; skip))
  all_goals (try simp only [std, inj] at *)
  all_goals with_reducible repeat' apply And.intro
  all_goals (try (first | exact z | grind [isStr, snocI, snocS, rowSnoc])))
abbrev P_c_iString (s : ByteArray) : Ct := ⟨302, [], [ls s], [], .sv (lb (isStr s))⟩
def lc_iStringLa (s : ByteArray) : Lp Nat := .mk 29 0 (fun x => [(0, ls s), (3, hs x 0)]) (fun x => []) (fun k => [.s (li (↑k : Int))]) (fun k => k ≤ s.size ∧ ((List.take k
 s.data.toList).all fun b => isStB (↑b.toNat : Int)) = true) (fun k => s.size - k) [.mk ((s.data.toList.all fun b => isStB (↑b.toNat : Int)) = true) (.exit 0) (fun x => []) (fun x
 => []) [], .mk ((s.data.toList.all fun b => isStB (↑b.toNat : Int)) = false) .ret (fun x => [(2, hs x 0)]) (fun x => []) [.s (lb false)]]
theorem Sc_iStringLa (s : ByteArray) : Lp.Sem Tryz.prog (loopAt Tryz.f302 0) (lc_iStringLa s) := lpOK (fun k => .h (s.data.toList.length ≤ 9223372036854775807) (.i ((↑k : Int) <
 (↑s.data.toList.length : Int)) (.p (0 ≤ (↑k : Int) ∧ (↑k : Int).toNat < s.data.toList.length) (.i ((↑(s.data.toList.getD (↑k : Int).toNat (0 : UInt8)).toNat : Int) < 32) (.y true
 (.y true (.o 1 [] [.s (lb false)]))) (.p (0 ≤ (↑k : Int) ∧ (↑k : Int).toNat < s.data.toList.length) (.i (126 < (↑(s.data.toList.getD (↑k : Int).toNat (0 : UInt8)).toNat : Int))
 (.y true (.o 1 [] [.s (lb false)])) (.p (0 ≤ (↑k : Int) ∧ (↑k : Int).toNat < s.data.toList.length) (.i ((↑(s.data.toList.getD (↑k : Int).toNat (0 : UInt8)).toNat : Int) = 34) (.o
 1 [] [.s (lb false)]) (.r ((↑k : Int) + 1) (.g [] (k + 1) [.s (li ((↑k : Int) + 1))])))))))) (.o 0 [] []))) (by
  intro k h; try dsimp only [teasy, nthW, lc_iStringLa] at h ⊢
  have g1 := @all_stop s.data.toList (fun b => isStB b.toNat) k
  have g2 := @all_go s.data.toList (fun b => isStB b.toNat) k
  have g3 := @all_all s.data.toList (fun b => isStB b.toNat) k
  with_reducible repeat' (first | apply And.intro | exact zR | (intro; skip))
  all_goals (try simp only [std, inj] at *)
  all_goals with_reducible repeat' apply And.intro
  all_goals (try (first | exact z | grind [isStB, snocI, snocS, rowSnoc])))
theorem c_iString (s : ByteArray)  : P_c_iString s := fnOK Tryz.call302 Tryz.func302 (.h (s.data.toList.length ≤ 9223372036854775807) (.i (20 < (↑s.data.toList.length : Int)) (.s (lb
 false)) (.l (lc_iStringLa s) (Sc_iStringLa s) [] [.s (li 0)] 0 (.t (.s (lb true)) (.t (.s (lb false)) .q))))) (by
  dsimp only [teasy, P_c_iString, nthW, lc_iStringLa]
  with_reducible repeat' (first | apply And.intro | exact zR | (intro; skip))
  all_goals (try simp only [std, inj] at *)
  all_goals with_reducible repeat' apply And.intro
  all_goals (try (first | exact z | grind [isStr, snocI, snocS, rowSnoc])))
def nodD (k n : Int) (t : ByteArray) (i : Int) : Bool := decide (k = 0 ∧ n = 0 ∧ t.data.toList = []) || decide (k = 1 ∧ n = 0 ∧ isSym t = true ∧ i = 0) || decide (k = 2 ∧ -999999999 ≤ n ∧ n ≤ 999999999 ∧ t.data.toList = [] ∧ i = 0) || decide (k = 3 ∧ 0 ≤ n ∧ n ≤ 1 ∧ t.data.toList = [] ∧ i = 0) || decide (k = 4 ∧ n = 0 ∧ isStr t = true ∧ i = 0)
abbrev P_c_sNode (k : Int) (n : Int) (t : ByteArray) (i : Int) : Ct := ⟨249, [], [li k, li n, ls t, li i], [], .sv (lb (nodD k n t i))⟩
theorem c_sNode (k n : Int) (t : ByteArray) (i : Int)  : P_c_sNode k n t i := fnOK Tryz.call249 Tryz.func249 (.i (k = 0) (.i (n = 0) (.s (lb (decide (t.data.toList = [])))) (.s (lb
 false))) (.i (k = 1) (.i (n = 0) (.c [.rd] (c_sIsSymbol t) (.b (isSym t) (.s (lb (decide (i = 0)))) (.s (lb false)))) (.y false (.s (lb false)))) (.i (k = 2) (.c [.rd, .rd, .rd]
 (c_l1In n (-999999999 : Int) 999999999) (.i ((-999999999 : Int) ≤ n ∧ n ≤ 999999999) (.i (t.data.toList = []) (.s (lb (decide (i = 0)))) (.s (lb false))) (.y false (.s (lb
 false))))) (.i (k = 3) (.c [.rd, .rd, .rd] (c_l1In n 0 1) (.i (0 ≤ n ∧ n ≤ 1) (.i (t.data.toList = []) (.s (lb (decide (i = 0)))) (.s (lb false))) (.y false (.s (lb false))))) (.i
 (k = 4) (.i (n = 0) (.c [.rd] (c_sString t) (.b (isStr t) (.s (lb (decide (i = 0)))) (.s (lb false)))) (.y false (.s (lb false)))) (.s (lb false))))))) (by
  dsimp only [teasy, P_c_sNode]
  with_reducible repeat' (first | apply And.intro | exact zR | (intro; skip))
  all_goals (try simp only [std, inj] at *)
  all_goals with_reducible repeat' apply And.intro
  all_goals (try (first | exact z | grind [nodD, snocI, snocS, rowSnoc])))
abbrev P_c_iNode (k : Int) (n : Int) (t : ByteArray) (i : Int) : Ct := ⟨255, [], [li k, li n, ls t, li i], [], .sv (lb (nodD k n t i))⟩
theorem c_iNode (k n : Int) (t : ByteArray) (i : Int)  : P_c_iNode k n t i := fnOK Tryz.call255 Tryz.func255 (.i (k = 0) (.i (n = 0) (.s (lb (decide (t.data.toList = [])))) (.s (lb
 false))) (.i (k = 1) (.i (n = 0) (.i (i = 0) (.c [.rd] (c_iIsSymbol t) (.s (lb (isSym t)))) (.s (lb false))) (.y false (.s (lb false)))) (.i (k = 2) (.i ((-999999999 : Int) ≤ n)
 (.i (n ≤ 999999999) (.i (t.data.toList = []) (.s (lb (decide (i = 0)))) (.s (lb false))) (.y false (.s (lb false)))) (.y false (.y false (.s (lb false))))) (.i (k = 3) (.i (n = 0)
 (.y true (.i (t.data.toList = []) (.s (lb (decide (i = 0)))) (.s (lb false)))) (.i (n = 1) (.i (t.data.toList = []) (.s (lb (decide (i = 0)))) (.s (lb false))) (.y false (.s (lb
 false))))) (.i (k = 4) (.i (n = 0) (.i (i = 0) (.c [.rd] (c_iString t) (.s (lb (isStr t)))) (.s (lb false))) (.y false (.s (lb false)))) (.s (lb false))))))) (by
  dsimp only [teasy, P_c_iNode]
  with_reducible repeat' (first | apply And.intro | exact zR | (intro; skip))
  all_goals (try simp only [std, inj] at *)
  all_goals with_reducible repeat' apply And.intro
  all_goals (try (first | exact z | grind [nodD, snocI, snocS, rowSnoc])))
end Go.Proofs.YtpnaoendfpaodaaGreat
end
section
namespace Go.Proofs.YtpnaoendfpaodaaGreat
open Go Go.Proofs.YtpnaoendfpaodaaGreat.Ab
set_option linter.unusedVariables false
set_option linter.unusedSimpArgs false
set_option maxHeartbeats 4000000
def kindS (n : Int) : Int := if 1 ≤ n ∧ n ≤ 99999 then (if n % 3 = 0 then 3 else n % 3) else 0
theorem kindS_zero {n : Int} : kindS n = 0 ↔ ¬ (1 ≤ n ∧ n ≤ 99999) := by unfold kindS; split <;> (try split) <;> omega
def okScN (L : List Int) : Nat → Bool
  | 0 => true
  | k + 1 => okScN L k && decide (1 ≤ L.getD k default ∧ L.getD k default ≤ 99999) && (decide (k = 0) || decide (L.getD (k - 1) default < L.getD k default))
def okSc (L : List Int) : Bool := okScN L L.length
theorem okScN_le (L : List Int) : ∀ (m k : Nat), k ≤ m → okScN L m = true → okScN L k = true
  | 0, k, h, _ => by
    obtain rfl : k = 0 := by omega
    rfl
  | m + 1, k, h, ht => by
    by_cases e : k = m + 1
    · rw [e]; exact ht
    · refine okScN_le L m k (by omega) ?_
      simp only [okScN, Bool.and_eq_true] at ht; exact ht.1.1
abbrev P_c_sKind (n : Int) : Ct := ⟨262, [], [li n], [], .sv (li (kindS n))⟩
theorem c_sKind (n : Int)  : P_c_sKind n := fnOK Tryz.call262 Tryz.func262 (.c [.rd, .rd, .rd] (c_l1In n 1 99999) (.b (!decide (1 ≤ n ∧ n ≤ 99999)) (.s (li 0)) (.p ((3 : Int) ≠ 0)
 (.p (0 ≤ n.tmod 3 ∧ (n.tmod 3).toNat < 3) (.w (.cells (intC ([3, 1, 2].getD (n.tmod 3).toNat 0))) (.p ([[cI 3], [cI 1], [cI 2]][(n.tmod 3).toNat]? = some [cI ([3, 1, 2].getD
 (n.tmod 3).toNat 0)]) (.s (li ([3, 1, 2].getD (n.tmod 3).toNat 0))))))))) (by
  dsimp only [teasy, P_c_sKind]
  with_reducible repeat' (first | apply And.intro | exact zR | (intro; skip))
  all_goals (try simp only [std, inj] at *)
  all_goals with_reducible repeat' apply And.intro
  all_goals (try (first | exact z | grind [kindS, snocI, snocS, rowSnoc])))
abbrev P_c_iKind (n : Int) : Ct := ⟨301, [], [li n], [], .sv (li (kindS n))⟩
theorem c_iKind (n : Int)  : P_c_iKind n := fnOK Tryz.call301 Tryz.func301 (.i (n < 1) (.y true (.s (li 0))) (.i (99999 < n) (.s (li 0)) (.p ((3 : Int) ≠ 0) (.i (n.tmod (3 : Int) =
 1) (.s (li 1)) (.i (n.tmod (3 : Int) = 2) (.s (li 2)) (.s (li 3))))))) (by
  dsimp only [teasy, P_c_iKind]
  with_reducible repeat' (first | apply And.intro | exact zR | (intro; skip))
  all_goals (try simp only [std, inj] at *)
  all_goals with_reducible repeat' apply And.intro
  all_goals (try (first | exact z | grind [kindS, snocI, snocS, rowSnoc])))
abbrev P_c_sScopes (L : List Int) : Ct := ⟨247, [], [ll (L.map intC)], [], .sv (lb (okSc L))⟩
def lc_sScopesLa (L : List Int) : Lp Nat := .mk 29 0 (fun x => [(0, ll (List.map intC L)), (5, ll (List.map intC L)), (6, li (↑(List.map intC L).length : Int)), (7, hs x 0)]) (fun
 x => []) (fun k => [.s (li (↑k : Int))]) (fun k => k ≤ L.length ∧ L.length ≤ 9223372036854775807 ∧ okScN L k = true) (fun k => L.length - k) [.mk (okSc L = true) (.exit 0) (fun x
 => []) (fun x => []) [], .mk (okSc L = false) .ret (fun x => [(2, hs x 0)]) (fun x => []) [.s (lb false)]]
theorem Sc_sScopesLa (L : List Int) : Lp.Sem Tryz.prog (loopAt Tryz.f247 0) (lc_sScopesLa L) := lpOK (fun k => .i ((↑k : Int) < (↑(List.map intC L).length : Int)) (.x (↑k : Int)
 (List.map intC L) [cI (L.getD k 0)] (.c [.rd] (c_sKind (L.getD k 0)) (.i (kindS (L.getD k 0) = 0) (.y true (.o 1 [] [.s (lb false)])) (.i (0 < (↑k : Int)) (.r ((↑k : Int) - 1) (.x
 ((↑k : Int) - 1) (List.map intC L) [cI (L.getD ((↑k : Int) - 1).toNat 0)] (.i (L.getD k 0 ≤ L.getD ((↑k : Int) - 1).toNat 0) (.o 1 [] [.s (lb false)]) (.r ((↑k : Int) + 1) (.g []
 (k + 1) [.s (li ((↑k : Int) + 1))]))))) (.y false (.r ((↑k : Int) + 1) (.g [] (k + 1) [.s (li ((↑k : Int) + 1))]))))))) (.o 0 [] [])) (by
  intro k h; try dsimp only [teasy, nthW, lc_sScopesLa] at h ⊢
  have g1 := okScN_le L L.length (k + 1)
  have g2 := @kindS_zero (L.getD k 0)
  have e : ((k : Int) - 1).toNat = k - 1 := by omega
  have g3 : okScN L (k + 1) = (okScN L k && decide (1 ≤ L.getD k 0 ∧ L.getD k 0 ≤ 99999) && (decide (k = 0) || decide (L.getD (k - 1) 0 < L.getD k 0))) := rfl
  with_reducible repeat' (first | apply And.intro | exact zR | (intro; skip))
  all_goals (try simp only [std, inj] at *)
  all_goals with_reducible repeat' apply And.intro
  all_goals (try (first | exact z | grind [okSc, snocI, snocS, rowSnoc])))
theorem c_sScopes (L : List Int)  : P_c_sScopes L := fnOK Tryz.call247 Tryz.func247 (.z intC L (.l (lc_sScopesLa L) (Sc_sScopesLa L) [] [.s (li 0)] 0 (.t (.s (lb true)) (.t (.s (lb
 false)) .q)))) (by
  dsimp only [teasy, P_c_sScopes, nthW, lc_sScopesLa]
  with_reducible repeat' (first | apply And.intro | exact zR | (intro; skip))
  all_goals (try simp only [std, inj] at *)
  all_goals with_reducible repeat' apply And.intro
  all_goals (try (first | exact z | grind [okScN, snocI, snocS, rowSnoc])))
abbrev P_c_iScopes (L : List Int) : Ct := ⟨252, [], [ll (L.map intC)], [], .sv (lb (okSc L))⟩
def lc_iScopesLa (L : List Int) : Lp Nat := .mk 29 0 (fun x => [(0, ll (List.map intC L)), (5, ll (List.map intC L)), (6, li (↑(List.map intC L).length : Int)), (7, hs x 0)]) (fun
 x => []) (fun k => [.s (li (↑k : Int))]) (fun k => k ≤ L.length ∧ L.length ≤ 9223372036854775807 ∧ okScN L k = true) (fun k => L.length - k) [.mk (okSc L = true) (.exit 0) (fun x
 => []) (fun x => []) [], .mk (okSc L = false) .ret (fun x => [(2, hs x 0)]) (fun x => []) [.s (lb false)]]
theorem Sc_iScopesLa (L : List Int) : Lp.Sem Tryz.prog (loopAt Tryz.f252 0) (lc_iScopesLa L) := lpOK (fun k => .i ((↑k : Int) < (↑(List.map intC L).length : Int)) (.x (↑k : Int)
 (List.map intC L) [cI (L.getD k 0)] (.c [.rd] (c_iKind (L.getD k 0)) (.i (kindS (L.getD k 0) = 0) (.y true (.o 1 [] [.s (lb false)])) (.i (0 < (↑k : Int)) (.r ((↑k : Int) - 1) (.x
 ((↑k : Int) - 1) (List.map intC L) [cI (L.getD ((↑k : Int) - 1).toNat 0)] (.i (L.getD k 0 ≤ L.getD ((↑k : Int) - 1).toNat 0) (.o 1 [] [.s (lb false)]) (.r ((↑k : Int) + 1) (.g []
 (k + 1) [.s (li ((↑k : Int) + 1))]))))) (.y false (.r ((↑k : Int) + 1) (.g [] (k + 1) [.s (li ((↑k : Int) + 1))]))))))) (.o 0 [] [])) (by
  intro k h; try dsimp only [teasy, nthW, lc_iScopesLa] at h ⊢
  have g1 := okScN_le L L.length (k + 1)
  have g2 := @kindS_zero (L.getD k 0)
  have e : ((k : Int) - 1).toNat = k - 1 := by omega
  have g3 : okScN L (k + 1) = (okScN L k && decide (1 ≤ L.getD k 0 ∧ L.getD k 0 ≤ 99999) && (decide (k = 0) || decide (L.getD (k - 1) 0 < L.getD k 0))) := rfl
  with_reducible repeat' (first | apply And.intro | exact zR | (intro; skip))
  all_goals (try simp only [std, inj] at *)
  all_goals with_reducible repeat' apply And.intro
  all_goals (try (first | exact z | grind [okSc, snocI, snocS, rowSnoc])))
theorem c_iScopes (L : List Int)  : P_c_iScopes L := fnOK Tryz.call252 Tryz.func252 (.z intC L (.l (lc_iScopesLa L) (Sc_iScopesLa L) [] [.s (li 0)] 0 (.t (.s (lb true)) (.t (.s (lb
 false)) .q)))) (by
  dsimp only [teasy, P_c_iScopes, nthW, lc_iScopesLa]
  with_reducible repeat' (first | apply And.intro | exact zR | (intro; skip))
  all_goals (try simp only [std, inj] at *)
  all_goals with_reducible repeat' apply And.intro
  all_goals (try (first | exact z | grind [okScN, snocI, snocS, rowSnoc])))
def nodY0 (k n : Int) (t : ByteArray) (s : List Int) (i : Int) : Bool := nodD k n t i && okSc s && (decide ((s.length : Int) = 0) || decide (k = 1))
mutual
def sizeY : Syntax → Nat
  | ⟨_, _, _, _, l⟩ => sizeYs l + 1
def sizeYs : List Syntax → Nat
  | [] => 0
  | c :: r => sizeY c + sizeYs r
end
theorem sizeYs_eq : ∀ l, sizeYs l = sumBy sizeY l
  | [] => by simp [sizeYs, sumBy]
  | c :: r => by rw [sizeYs, sumBy, sizeYs_eq r]
theorem sizeY_eq (c : Syntax) : sizeY c = sumBy sizeY c.items + 1 := by cases c; simp only [sizeY, sizeYs_eq]
mutual
def depY : Syntax → Nat
  | ⟨_, _, _, _, l⟩ => depYs l + 1
def depYs : List Syntax → Nat
  | [] => 0
  | c :: r => max (depY c) (depYs r)
end
theorem depYs_eq : ∀ l, depYs l = maxBy depY l
  | [] => by simp [depYs, maxBy]
  | c :: r => by rw [depYs, maxBy, depYs_eq r]
theorem depY_eq (c : Syntax) : depY c = maxBy depY c.items + 1 := by cases c; simp only [depY, depYs_eq]
theorem depY_le : ∀ c : Syntax, depY c ≤ sizeY c := by
  refine Syntax.ind fun c ih => ?_
  have := maxBy_sum ih
  rw [sizeY_eq, depY_eq]; omega
mutual
def okY : Syntax → Bool
  | ⟨k, n, t, s, l⟩ => okYs l && nodY0 k n t s l.length
def okYs : List Syntax → Bool
  | [] => true
  | c :: r => okY c && okYs r
end
theorem okYs_eq : ∀ l, okYs l = l.all okY
  | [] => by simp [okYs]
  | c :: r => by rw [okYs, okYs_eq r]; rfl
theorem okY_eq (c : Syntax) : okY c = (c.items.all okY && nodY0 c.kind c.number c.text c.scopes c.items.length) := by cases c; simp only [okY, okYs_eq]
def isSyn (d : Syntax) : Bool := decide (sizeY d ≤ 2000) && decide (depY d ≤ 40) && okY d
mutual
def meaY : Syntax → Int → Int → Bool × Int
  | ⟨k, n, t, s, l⟩, deep, m => if deep ≤ 40 ∧ m + 1 ≤ 2000 ∧ nodY0 k n t s l.length = true then meaYs l (deep + 1) (m + 1) else (false, m + 1)
def meaYs : List Syntax → Int → Int → Bool × Int
  | [], _, m => (true, m)
  | x :: r, deep, m => if (meaY x deep m).1 then meaYs r deep (meaY x deep m).2 else (false, (meaY x deep m).2)
end
theorem meaYs_eq : ∀ l deep m, meaYs l deep m = scan (fun x m => meaY x deep m) l m
  | [], _, _ => by simp [meaYs, scan]
  | x :: r, deep, m => by simp only [meaYs, scan, meaYs_eq r]
theorem meaY_eq (c : Syntax) (deep m : Int) : meaY c deep m = if deep ≤ 40 ∧ m + 1 ≤ 2000 ∧ nodY0 c.kind c.number c.text c.scopes c.items.length = true then scan (fun x m => meaY x (deep + 1) m) c.items (m + 1) else (false, m + 1) := by cases c; simp only [meaY, meaYs_eq]
theorem meaY_of : ∀ (c : Syntax) (deep m : Int), m ≤ 2000 → ((meaY c deep m).1 = true ↔ (m + sizeY c ≤ 2000 ∧ (deep + depY c ≤ 41 ∧ okY c = true))) ∧ ((meaY c deep m).1 = true → (meaY c deep m).2 = m + sizeY c) := by
  refine Syntax.ind fun c ih deep m hm => ?_
  rw [meaY_eq, sizeY_eq, depY_eq, okY_eq, Bool.and_eq_true, List.all_eq_true]
  by_cases h : deep ≤ 40 ∧ m + 1 ≤ 2000 ∧ nodY0 c.kind c.number c.text c.scopes c.items.length = true
  · rw [if_pos h]
    have h1 := scan_of (fun x m => meaY x (deep + 1) m) sizeY (fun x => deep + 1 + depY x ≤ 41 ∧ okY x = true) 2000 c.items (fun x hx m hm => ih x hx (deep + 1) m hm) (m + 1) h.2.1
    have h2 := maxBy_le depY (m := (40 - deep).toNat) (L := c.items)
    constructor
    · rw [h1.1]
      constructor
      · rintro ⟨a, b⟩
        have := h2.2 fun x hx => by have := (b x hx).1; omega
        exact ⟨by omega, by omega, fun x hx => (b x hx).2, h.2.2⟩
      · rintro ⟨a, b, d, e⟩
        have := h2.1 (by omega)
        exact ⟨by omega, fun x hx => ⟨by have := this x hx; omega, d x hx⟩⟩
    · intro ht; rw [h1.2 ht]; omega
  · rw [if_neg h]
    refine ⟨⟨fun e => Bool.noConfusion e, ?_⟩, fun e => Bool.noConfusion e⟩
    rintro ⟨a, b, d, e⟩
    exact absurd ⟨by omega, by omega, e⟩ h
theorem meaY_isSyn (d : Syntax) : (meaY d 1 0).1 = isSyn d := by
  have h := (meaY_of d 1 0 (by decide)).1
  rw [Bool.eq_iff_iff, h]
  simp only [isSyn, Bool.and_eq_true, decide_eq_true_eq, and_assoc]
  constructor
  · rintro ⟨a, b, e⟩; exact ⟨by omega, by omega, e⟩
  · rintro ⟨a, b, e⟩; exact ⟨by omega, by omega, e⟩
abbrev P_c_sFewY (d : Syntax) (l : Int) : Ct := ⟨180, [.box [vI l]], [syntaxA d, .one (.ptr 0 0)], [.box [vI (max (l - sizeY d) (-1))]], .sv (lb (decide (sizeY d ≤ l)))⟩
def lc_sFewY_sLa (d : Syntax) (l : Int) : Lp Nat := .mk 36 1 (fun x => [(1, SV.one (AC.ptr 0 0)), (2, SV.one (AC.ptr 1 0)), (5, hs x 0)]) (fun x => [Ob.box [ha x 1], Ob.box (vals
 (syntaxF d))]) (fun k => [.s (li (↑k : Int)), .a (vI (max (l - 1 - (↑(sumBy sizeY (List.take k d.items)) : Int)) (-1 : Int)))]) (fun k => d.items.length ≥ k) (fun k =>
 d.items.length - k) [.mk True (.exit 0) (fun x => [(1, SV.one (AC.ptr 0 0))]) (fun x => [Ob.box [ha x 0]]) [.a (vI (max (l - (↑(sizeY d) : Int)) (-1 : Int)))]]
theorem Sc_sFewY_sLa (d : Syntax) (l : Int) (h : 0 ≤ l ∧ l ≤ 1000000) (ih : ∀ (z : Syntax), z ∈ d.items → ∀ (l : Int), 0 ≤ l ∧ l ≤ 1000000 → OK (P_c_sFewY z l)) : Lp.Sem Tryz.prog
 (loopAt Tryz.f180 0) (lc_sFewY_sLa d l) := lpOK (fun k => .z syntaxC d.items (.i ((↑k : Int) < (↑(List.map syntaxC d.items).length : Int)) (.i (0 ≤ max (l - 1 - (↑(sumBy sizeY
 (List.take k d.items)) : Int)) (-1 : Int)) (.x (↑k : Int) (List.map syntaxC d.items) (syntaxF (d.items.getD k default)) (.d [.rd, .ptr] (P_c_sFewY (d.items.getD k default) (max (l
 - 1 - (↑(sumBy sizeY (List.take k d.items)) : Int)) (-1 : Int))) (.r ((↑k : Int) + 1) (.g [0, 1] (k + 1) [.s (li ((↑k : Int) + 1)), .a (vI (max (max (l - 1 - (↑(sumBy sizeY
 (List.take k d.items)) : Int)) (-1 : Int) - (↑(sizeY (d.items.getD k default)) : Int)) (-1 : Int)))])))) (.o 0 [0] [.a (vI (max (l - 1 - (↑(sumBy sizeY (List.take k d.items)) :
 Int)) (-1 : Int)))])) (.y false (.o 0 [0] [.a (vI (max (l - 1 - (↑(sumBy sizeY (List.take k d.items)) : Int)) (-1 : Int)))])))) (by
  intro k h; try dsimp only [teasy, nthW, lc_sFewY_sLa] at h ⊢
  have g1 := sizeY_eq d
  have g2 := sumBy_takeLe sizeY d.items k
  have g3 := @sumBy_step _ _ sizeY d.items k
  with_reducible repeat' (first | apply And.intro | exact zR | exact ih | (intro; skip) | apply ih)
  all_goals (try simp only [std, inj] at *)
  all_goals with_reducible repeat' apply And.intro
  all_goals (try (first | with_reducible apply ih | (simp only [← List.map_append]; first | with_reducible apply ih)))
  all_goals (try (first | exact z | grind [getD_mem', snocI, snocS, rowSnoc])))
theorem c_sFewY_s (d : Syntax) (l : Int) (h : 0 ≤ l ∧ l ≤ 1000000) (ih : ∀ z ∈ d.items, ∀ (l : Int) (h : 0 ≤ l ∧ l ≤ 1000000), P_c_sFewY z l)  : P_c_sFewY d l := fnOK Tryz.call180
 Tryz.func180 (.r (l - 1) (.l (lc_sFewY_sLa d l) (Sc_sFewY_sLa d l h ih) [0, 1] [.s (li 0), .a (vI (l - 1))] 0 (.t (.f [] [Ob.box [vI (max (l - (↑(sizeY d) : Int)) (-1 : Int))]]
 (AV.sv (lb (decide (0 ≤ max (l - (↑(sizeY d) : Int)) (-1 : Int)))))) .q))) (by
  dsimp only [teasy, P_c_sFewY, nthW, lc_sFewY_sLa]
  have g1 := sizeY_eq d
  have g2 : sumBy sizeY (d.items.take 0) = 0 := rfl
  with_reducible repeat' (first | apply And.intro | exact zR | exact ih | (intro; skip))
  all_goals (try simp only [std, inj] at *)
  all_goals with_reducible repeat' apply And.intro
  all_goals (try (first | with_reducible apply ih | (simp only [← List.map_append]; first | with_reducible apply ih)))
  all_goals (try (first | exact z | grind [snocI, snocS, rowSnoc])))
theorem c_sFewY (d : Syntax) : ∀ (l : Int) (h : 0 ≤ l ∧ l ≤ 1000000), P_c_sFewY d l := Syntax.ind (P := fun d => ∀ (l : Int) (h : 0 ≤ l ∧ l ≤ 1000000), P_c_sFewY d l) (fun d ih l h => c_sFewY_s d l h ih) d
abbrev P_c_sDepY (d : Syntax) : Ct := ⟨181, [], [syntaxA d], [], .sv (li (depY d))⟩
def lc_sDepY_sLa (d : Syntax) : Lp Nat := .mk 20 0 (fun x => [(3, hs x 1), (7, ll (List.map syntaxC d.items)), (8, li (↑(List.map syntaxC d.items).length : Int)), (9, hs x 0)])
 (fun x => []) (fun k => [.s (li (↑k : Int)), .s (li (↑(maxBy depY (List.take k d.items)) : Int))]) (fun k => k ≤ d.items.length ∧ d.items.length ≤ 9223372036854775807) (fun k =>
 d.items.length - k) [.mk True (.exit 0) (fun x => [(3, hs x 0)]) (fun x => []) [.s (li (↑(maxBy depY d.items) : Int))]]
theorem Sc_sDepY_sLa (d : Syntax) (h : sizeY d ≤ 2147483647) (ih : ∀ (z : Syntax), z ∈ d.items → sizeY z ≤ 2147483647 → OK (P_c_sDepY z)) : Lp.Sem Tryz.prog (loopAt Tryz.f181 0)
 (lc_sDepY_sLa d) := lpOK (fun k => .i ((↑k : Int) < (↑(List.map syntaxC d.items).length : Int)) (.x (↑k : Int) (List.map syntaxC d.items) (syntaxF (d.items.getD k default)) (.d
 [.rd] (P_c_sDepY (d.items.getD k default)) (.r ((↑k : Int) + 1) (.g [] (k + 1) [.s (li ((↑k : Int) + 1)), .s (li (max (↑(maxBy depY (List.take k d.items)) : Int) (↑(depY
 (d.items.getD k default)) : Int)))])))) (.o 0 [] [.s (li (↑(maxBy depY (List.take k d.items)) : Int))])) (by
  intro k h; try dsimp only [teasy, nthW, lc_sDepY_sLa] at h ⊢
  have g1 := sizeY_eq d
  have g2 := @sumBy_mem _ sizeY d.items (d.items.getD k default)
  with_reducible repeat' (first | apply And.intro | exact zR | exact ih | (intro; skip) | apply ih)
  all_goals (try simp only [std, inj] at *)
  all_goals with_reducible repeat' apply And.intro
  all_goals (try (first | with_reducible apply ih | (simp only [← List.map_append]; first | with_reducible apply ih)))
  all_goals (try (first | exact z | grind [maxBy_step, getD_mem', snocI, snocS, rowSnoc])))
theorem c_sDepY_s (d : Syntax) (h : sizeY d ≤ 2147483647) (ih : ∀ z ∈ d.items, ∀ (h : sizeY z ≤ 2147483647), P_c_sDepY z)  : P_c_sDepY d := fnOK Tryz.call181 Tryz.func181 (.z syntaxC
 d.items (.l (lc_sDepY_sLa d) (Sc_sDepY_sLa d h ih) [] [.s (li 0), .s (li 0)] 0 (.t (.r ((↑(maxBy depY d.items) : Int) + 1) (.s (li ((↑(maxBy depY d.items) : Int) + 1)))) .q))) (by
  dsimp only [teasy, P_c_sDepY, nthW, lc_sDepY_sLa]
  have h1 := depY_le d
  have g2 : maxBy depY (d.items.take 0) = 0 := rfl
  with_reducible repeat' (first | apply And.intro | exact zR | exact ih | (intro; skip))
  all_goals (try simp only [std, inj] at *)
  all_goals with_reducible repeat' apply And.intro
  all_goals (try (first | with_reducible apply ih | (simp only [← List.map_append]; first | with_reducible apply ih)))
  all_goals (try (first | exact z | grind [depY_eq, snocI, snocS, rowSnoc])))
theorem c_sDepY (d : Syntax) : ∀ (h : sizeY d ≤ 2147483647), P_c_sDepY d := Syntax.ind (P := fun d => ∀ (h : sizeY d ≤ 2147483647), P_c_sDepY d) (fun d ih h => c_sDepY_s d h ih) d
abbrev P_c_sOkY (d : Syntax) : Ct := ⟨182, [], [syntaxA d], [], .sv (lb (okY d))⟩
def lc_sOkY_sLa (d : Syntax) : Lp Nat := .mk 42 0 (fun x => [(1, SV.one (AC.ptr 0 0)), (6, ll (List.map syntaxC d.items)), (7, li (↑(List.map syntaxC d.items).length : Int)), (8,
 hs x 0)]) (fun x => [Ob.box (vals (syntaxF d))]) (fun k => [.s (li (↑k : Int))]) (fun k => k ≤ d.items.length ∧ d.items.length ≤ 9223372036854775807 ∧ (List.take k d.items).all
 okY = true) (fun k => d.items.length - k) [.mk (d.items.all okY = true) (.exit 0) (fun x => [(1, SV.one (AC.ptr 0 0))]) (fun x => [Ob.box (vals (syntaxF d))]) [], .mk (d.items.all
 okY = false) .ret (fun x => [(2, hs x 0)]) (fun x => []) [.s (lb false)]]
theorem Sc_sOkY_sLa (d : Syntax) (ih : ∀ (z : Syntax), z ∈ d.items → OK (P_c_sOkY z)) : Lp.Sem Tryz.prog (loopAt Tryz.f182 0) (lc_sOkY_sLa d) := lpOK (fun k => .i ((↑k : Int) <
 (↑(List.map syntaxC d.items).length : Int)) (.x (↑k : Int) (List.map syntaxC d.items) (syntaxF (d.items.getD k default)) (.d [.rd] (P_c_sOkY (d.items.getD k default)) (.b (!okY
 (d.items.getD k default)) (.o 1 [] [.s (lb false)]) (.r ((↑k : Int) + 1) (.g [0] (k + 1) [.s (li ((↑k : Int) + 1))]))))) (.o 0 [0] [])) (by
  intro k h; try dsimp only [teasy, nthW, lc_sOkY_sLa] at h ⊢
  with_reducible repeat' (first | apply And.intro | exact zR | exact ih | (intro; skip) | apply ih)
  all_goals (try simp only [std, inj] at *)
  all_goals with_reducible repeat' apply And.intro
  all_goals (try (first | with_reducible apply ih | (simp only [← List.map_append]; first | with_reducible apply ih)))
  all_goals (try (first | exact z | grind [take_get, getD_mem', snocI, snocS, rowSnoc])))
theorem c_sOkY_s (d : Syntax) (ih : ∀ z ∈ d.items, P_c_sOkY z)  : P_c_sOkY d := fnOK Tryz.call182 Tryz.func182 (.z syntaxC d.items (.l (lc_sOkY_sLa d) (Sc_sOkY_sLa d ih) [0] [.s (li
 0)] 0 (.t (.z syntaxC d.items (.c [.rd, .rd, .rd, .rd] (c_sNode d.kind d.number d.text (↑(List.map syntaxC d.items).length : Int)) (.b (nodD d.kind d.number d.text (↑(List.map
 syntaxC d.items).length : Int)) (.c [.rd] (c_sScopes d.scopes) (.b (okSc d.scopes) (.z intC d.scopes (.i ((↑(List.map intC d.scopes).length : Int) = 0) (.s (lb true)) (.s (lb
 (decide (d.kind = 1)))))) (.s (lb false)))) (.y false (.s (lb false)))))) (.t (.s (lb false)) .q)))) (by
  dsimp only [teasy, P_c_sOkY, nthW, lc_sOkY_sLa]
  with_reducible repeat' (first | apply And.intro | exact zR | exact ih | (intro; skip))
  all_goals (try simp only [std, inj] at *)
  all_goals with_reducible repeat' apply And.intro
  all_goals (try (first | with_reducible apply ih | (simp only [← List.map_append]; first | with_reducible apply ih)))
  all_goals (try (first | exact z | grind [okY_eq, nodY0, snocI, snocS, rowSnoc])))
theorem c_sOkY (d : Syntax) : P_c_sOkY d := Syntax.ind (P := fun d => P_c_sOkY d) (fun d ih => c_sOkY_s d ih) d
abbrev P_c_sIsSyntax (d : Syntax) : Ct := ⟨105, [], [syntaxA d], [], .sv (lb (isSyn d))⟩
theorem c_sIsSyntax (d : Syntax)  : P_c_sIsSyntax d := fnOK Tryz.call105 Tryz.func105 (.d [.rd, .ptr] (P_c_sFewY d 2000) (.i ((↑(sizeY d) : Int) ≤ 2000) (.d [.rd] (P_c_sDepY d) (.i
 ((↑(depY d) : Int) ≤ 40) (.c [.rd] (c_sOkY d) (.s (lb (okY d)))) (.s (lb false)))) (.y false (.s (lb false))))) (by
  dsimp only [teasy, P_c_sIsSyntax]
  with_reducible repeat' (first | apply And.intro | exact zR | (intro; skip) | apply c_sFewY | apply c_sDepY)
  all_goals (try simp only [std, inj] at *)
  all_goals with_reducible repeat' apply And.intro
  all_goals (try (first | with_reducible apply c_sFewY | with_reducible apply c_sDepY | (simp only [← List.map_append]; first | with_reducible apply c_sFewY | with_reducible apply c_sDepY)))
  all_goals (try (first | exact z | grind [isSyn, snocI, snocS, rowSnoc])))
abbrev P_c_iMeaY (d : Syntax) (deep : Int) (q : Int) : Ct := ⟨188, [.box [vI q]], [syntaxA d, li deep, .one (.ptr 0 0)], [.box [vI (meaY d deep q).2]], .sv (lb (meaY d deep q).1)⟩
def lc_iMeaY_sLa (d : Syntax) (deep : Int) (q : Int) : Lp Nat := .mk 64 1 (fun x => [(1, li deep), (2, SV.one (AC.ptr 0 0)), (51, ll (List.map syntaxC d.items)), (52, li
 (↑(List.map syntaxC d.items).length : Int)), (53, hs x 0)]) (fun x => [Ob.box [ha x 1]]) (fun k => [.s (li (↑k : Int)), .a (vI (scan (fun x m => meaY x (deep + 1) m) (List.take k
 d.items) (q + 1)).snd)]) (fun k => k ≤ d.items.length ∧ d.items.length ≤ 9223372036854775807 ∧ deep ≤ 40 ∧ (scan (fun x m => meaY x (deep + 1) m) (List.take k d.items) (q +
 1)).fst = true ∧ q ≤ (scan (fun x m => meaY x (deep + 1) m) (List.take k d.items) (q + 1)).snd ∧ (scan (fun x m => meaY x (deep + 1) m) (List.take k d.items) (q + 1)).snd ≤ 2000)
 (fun k => d.items.length - k) [.mk ((scan (fun x m => meaY x (deep + 1) m) d.items (q + 1)).fst = true) (.exit 0) (fun x => []) (fun x => [Ob.box [ha x 0]]) [.a (vI (scan (fun x m
 => meaY x (deep + 1) m) d.items (q + 1)).snd)], .mk ((scan (fun x m => meaY x (deep + 1) m) d.items (q + 1)).fst = false) .ret (fun x => [(6, hs x 0)]) (fun x => [Ob.box [ha x
 1]]) [.s (lb false), .a (vI (scan (fun x m => meaY x (deep + 1) m) d.items (q + 1)).snd)]]
theorem Sc_iMeaY_sLa (d : Syntax) (deep : Int) (q : Int) (h : 0 ≤ deep ∧ deep ≤ 41 ∧ 0 ≤ q ∧ q ≤ 2000) (ih : ∀ (z : Syntax), z ∈ d.items → ∀ (deep q : Int), 0 ≤ deep ∧ deep ≤ 41 ∧
 0 ≤ q ∧ q ≤ 2000 → OK (P_c_iMeaY z deep q)) : Lp.Sem Tryz.prog (loopAt Tryz.f188 0) (lc_iMeaY_sLa d deep q) := lpOK (fun k => .i ((↑k : Int) < (↑(List.map syntaxC d.items).length
 : Int)) (.x (↑k : Int) (List.map syntaxC d.items) (syntaxF (d.items.getD k default)) (.r (deep + 1) (.d [.rd, .rd, .ptr] (P_c_iMeaY (d.items.getD k default) (deep + 1) (scan (fun
 x m => meaY x (deep + 1) m) (List.take k d.items) (q + 1)).snd) (.b (!(meaY (d.items.getD k default) (deep + 1) (scan (fun x m => meaY x (deep + 1) m) (List.take k d.items) (q +
 1)).snd).fst) (.o 1 [0] [.s (lb false), .a (vI (meaY (d.items.getD k default) (deep + 1) (scan (fun x m => meaY x (deep + 1) m) (List.take k d.items) (q + 1)).snd).snd)]) (.r ((↑k
 : Int) + 1) (.g [0] (k + 1) [.s (li ((↑k : Int) + 1)), .a (vI (meaY (d.items.getD k default) (deep + 1) (scan (fun x m => meaY x (deep + 1) m) (List.take k d.items) (q +
 1)).snd).snd)])))))) (.o 0 [0] [.a (vI (scan (fun x m => meaY x (deep + 1) m) (List.take k d.items) (q + 1)).snd)])) (by
  intro k h; try dsimp only [teasy, nthW, lc_iMeaY_sLa] at h ⊢
  have g1 := fun x m => meaY_of x (deep + 1) m
  with_reducible repeat' (first | apply And.intro | exact zR | exact ih | (intro; skip) | apply ih)
  all_goals (try simp only [std, inj] at *)
  all_goals with_reducible repeat' apply And.intro
  all_goals (try (first | with_reducible apply ih | (simp only [← List.map_append]; first | with_reducible apply ih)))
  all_goals (try (first | exact z | grind [scan_step, scan_stop, getD_mem', snocI, snocS, rowSnoc])))
theorem c_iMeaY_s (d : Syntax) (deep q : Int) (h : 0 ≤ deep ∧ deep ≤ 41 ∧ 0 ≤ q ∧ q ≤ 2000) (ih : ∀ z ∈ d.items, ∀ (deep : Int) (q : Int) (h : 0 ≤ deep ∧ deep ≤ 41 ∧ 0 ≤ q ∧ q ≤
 2000), P_c_iMeaY z deep q)  : P_c_iMeaY d deep q := fnOK Tryz.call188 Tryz.func188 (.r (q + 1) (.i (40 < deep) (.y true (.y true (.f [] [Ob.box [vI (q + 1)]] (AV.sv (lb false)))))
 (.i (2000 < q + 1) (.y true (.f [] [Ob.box [vI (q + 1)]] (AV.sv (lb false)))) (.z syntaxC d.items (.c [.rd, .rd, .rd, .rd] (c_iNode d.kind d.number d.text (↑(List.map syntaxC
 d.items).length : Int)) (.b (!nodD d.kind d.number d.text (↑(List.map syntaxC d.items).length : Int)) (.f [] [Ob.box [vI (q + 1)]] (AV.sv (lb false))) (.i (d.kind ≠ 1) (.z intC
 d.scopes (.i (0 < (↑(List.map intC d.scopes).length : Int)) (.y true (.f [] [Ob.box [vI (q + 1)]] (AV.sv (lb false)))) (.c [.rd] (c_iScopes d.scopes) (.b (!okSc d.scopes) (.f []
 [Ob.box [vI (q + 1)]] (AV.sv (lb false))) (.z syntaxC d.items (.l (lc_iMeaY_sLa d deep q) (Sc_iMeaY_sLa d deep q h ih) [0] [.s (li 0), .a (vI (q + 1))] 0 (.t (.f [] [Ob.box [vI
 (scan (fun x m => meaY x (deep + 1) m) d.items (q + 1)).snd]] (AV.sv (lb true))) (.t (.f [] [Ob.box [vI (scan (fun x m => meaY x (deep + 1) m) d.items (q + 1)).snd]] (AV.sv (lb
 false))) .q)))))))) (.y false (.c [.rd] (c_iScopes d.scopes) (.b (!okSc d.scopes) (.f [] [Ob.box [vI (q + 1)]] (AV.sv (lb false))) (.z syntaxC d.items (.l (lc_iMeaY_sLa d deep q)
 (Sc_iMeaY_sLa d deep q h ih) [0] [.s (li 0), .a (vI (q + 1))] 0 (.t (.f [] [Ob.box [vI (scan (fun x m => meaY x (deep + 1) m) d.items (q + 1)).snd]] (AV.sv (lb true))) (.t (.f []
 [Ob.box [vI (scan (fun x m => meaY x (deep + 1) m) d.items (q + 1)).snd]] (AV.sv (lb false))) .q)))))))))))))) (by
  dsimp only [teasy, P_c_iMeaY, nthW, lc_iMeaY_sLa]
  with_reducible repeat' (first | apply And.intro | exact zR | exact ih | (intro; skip))
  all_goals (try simp only [std, inj] at *)
  all_goals with_reducible repeat' apply And.intro
  all_goals (try (first | with_reducible apply ih | (simp only [← List.map_append]; first | with_reducible apply ih)))
  all_goals (try (first | exact z | grind [meaY_eq, scan, nodY0, snocI, snocS, rowSnoc])))
theorem c_iMeaY (d : Syntax) : ∀ (deep : Int) (q : Int) (h : 0 ≤ deep ∧ deep ≤ 41 ∧ 0 ≤ q ∧ q ≤ 2000), P_c_iMeaY d deep q := Syntax.ind (P := fun d => ∀ (deep : Int) (q : Int) (h : 0 ≤ deep ∧ deep ≤ 41 ∧ 0 ≤ q ∧ q ≤ 2000), P_c_iMeaY d deep q) (fun d ih deep q h => c_iMeaY_s d deep q h ih) d
abbrev P_c_iIsSyntax (d : Syntax) : Ct := ⟨109, [], [syntaxA d], [], .sv (lb (isSyn d))⟩
theorem c_iIsSyntax (d : Syntax)  : P_c_iIsSyntax d := fnOK Tryz.call109 Tryz.func109 (.d [.rd, .rd, .ptr] (P_c_iMeaY d 1 0) (.s (lb (meaY d 1 0).fst))) (by
  dsimp only [teasy, P_c_iIsSyntax]
  with_reducible repeat' (first | apply And.intro | exact zR | (intro; skip) | apply c_iMeaY)
  all_goals (try simp only [std, inj] at *)
  all_goals with_reducible repeat' apply And.intro
  all_goals (try (first | with_reducible apply c_iMeaY | (simp only [← List.map_append]; first | with_reducible apply c_iMeaY)))
  all_goals (try (first | exact z | grind [meaY_isSyn, snocI, snocS, rowSnoc])))
abbrev P_c_sIsId (s : Syntax) : Ct := ⟨130, [], [syntaxA s], [], .sv (lb (decide (s.kind = 1) && isSyn s))⟩
theorem c_sIsId (s : Syntax)  : P_c_sIsId s := fnOK Tryz.call130 Tryz.func130 (.i (s.kind = 1) (.c [.rd] (c_sIsSyntax s) (.s (lb (isSyn s)))) (.s (lb false))) (by
  dsimp only [teasy, P_c_sIsId]
  with_reducible repeat' (first | apply And.intro | exact zR | (intro; skip))
  all_goals (try simp only [std, inj] at *)
  all_goals with_reducible repeat' apply And.intro
  all_goals (try (first | exact z | grind [snocI, snocS, rowSnoc])))
abbrev P_c_iIsId (s : Syntax) : Ct := ⟨72, [], [syntaxA s], [], .sv (lb (decide (s.kind = 1) && isSyn s))⟩
theorem c_iIsId (s : Syntax)  : P_c_iIsId s := fnOK Tryz.call72 Tryz.func72 (.i (s.kind = 1) (.c [.rd] (c_iIsSyntax s) (.s (lb (isSyn s)))) (.s (lb false))) (by
  dsimp only [teasy, P_c_iIsId]
  with_reducible repeat' (first | apply And.intro | exact zR | (intro; skip))
  all_goals (try simp only [std, inj] at *)
  all_goals with_reducible repeat' apply And.intro
  all_goals (try (first | exact z | grind [snocI, snocS, rowSnoc])))
end Go.Proofs.YtpnaoendfpaodaaGreat
end
section
namespace Go.Proofs.YtpnaoendfpaodaaGreat
open Go Go.Proofs.YtpnaoendfpaodaaGreat.Ab
set_option linter.unusedVariables false
set_option linter.unusedSimpArgs false
set_option maxHeartbeats 4000000
abbrev P_c_sSameInts (A : List Int) (B : List Int) : Ct := ⟨248, [], [ll (A.map intC), ll (B.map intC)], [], .sv (lb (decide (A = B)))⟩
def lc_sSameIntsLa (A : List Int) (B : List Int) : Lp Nat := .mk 26 0 (fun x => [(0, ll (List.map intC A)), (1, ll (List.map intC B)), (12, li (↑(List.map intC A).length : Int)),
 (13, hs x 0)]) (fun x => []) (fun k => [.s (li (↑k : Int))]) (fun k => k ≤ A.length ∧ A.length ≤ 9223372036854775807 ∧ A.length = B.length ∧ List.take k A = List.take k B) (fun k
 => A.length - k) [.mk (A = B) (.exit 0) (fun x => []) (fun x => []) [], .mk (A ≠ B) .ret (fun x => [(4, hs x 0)]) (fun x => []) [.s (lb false)]]
theorem Sc_sSameIntsLa (A : List Int) (B : List Int) : Lp.Sem Tryz.prog (loopAt Tryz.f248 0) (lc_sSameIntsLa A B) := lpOK (fun k => .i ((↑k : Int) < (↑(List.map intC A).length :
 Int)) (.w (.draw []) (.x (↑k : Int) (List.map intC A) [cI (A.getD k 0)] (.x (↑k : Int) (List.map intC B) [cI (B.getD k 0)] (.i (A.getD k (0 : Int) ≠ B.getD k 0) (.o 1 [] [.s (lb
 false)]) (.r ((↑k : Int) + 1) (.g [] (k + 1) [.s (li ((↑k : Int) + 1))])))))) (.o 0 [] [])) (by
  intro k h; try dsimp only [teasy, nthW, lc_sSameIntsLa] at h ⊢
  with_reducible repeat' (first | apply And.intro | exact zR | (intro; skip))
  all_goals (try simp only [std, inj] at *)
  all_goals with_reducible repeat' apply And.intro
  all_goals (try (first | exact z | grind [take_eq, snocI, snocS, rowSnoc])))
theorem c_sSameInts (A B : List Int)  : P_c_sSameInts A B := fnOK Tryz.call248 Tryz.func248 (.z intC A (.z intC B (.i ((↑(List.map intC A).length : Int) ≠ (↑(List.map intC B).length
 : Int)) (.s (lb false)) (.z intC A (.l (lc_sSameIntsLa A B) (Sc_sSameIntsLa A B) [] [.s (li 0)] 0 (.t (.s (lb true)) (.t (.s (lb false)) .q))))))) (by
  dsimp only [teasy, P_c_sSameInts, nthW, lc_sSameIntsLa]
  with_reducible repeat' (first | apply And.intro | exact zR | (intro; skip))
  all_goals (try simp only [std, inj] at *)
  all_goals with_reducible repeat' apply And.intro
  all_goals (try (first | exact z | grind [snocI, snocS, rowSnoc])))
abbrev P_c_iSameInts (A : List Int) (B : List Int) : Ct := ⟨187, [], [ll (A.map intC), ll (B.map intC)], [], .sv (lb (decide (A = B)))⟩
def lc_iSameIntsLa (A : List Int) (B : List Int) : Lp Nat := .mk 26 0 (fun x => [(0, ll (List.map intC A)), (1, ll (List.map intC B)), (12, li (↑(List.map intC A).length : Int)),
 (13, hs x 0)]) (fun x => []) (fun k => [.s (li (↑k : Int))]) (fun k => k ≤ A.length ∧ A.length ≤ 9223372036854775807 ∧ A.length = B.length ∧ List.take k A = List.take k B) (fun k
 => A.length - k) [.mk (A = B) (.exit 0) (fun x => []) (fun x => []) [], .mk (A ≠ B) .ret (fun x => [(4, hs x 0)]) (fun x => []) [.s (lb false)]]
theorem Sc_iSameIntsLa (A : List Int) (B : List Int) : Lp.Sem Tryz.prog (loopAt Tryz.f187 0) (lc_iSameIntsLa A B) := lpOK (fun k => .i ((↑k : Int) < (↑(List.map intC A).length :
 Int)) (.w (.draw []) (.x (↑k : Int) (List.map intC A) [cI (A.getD k 0)] (.x (↑k : Int) (List.map intC B) [cI (B.getD k 0)] (.i (A.getD k (0 : Int) ≠ B.getD k 0) (.o 1 [] [.s (lb
 false)]) (.r ((↑k : Int) + 1) (.g [] (k + 1) [.s (li ((↑k : Int) + 1))])))))) (.o 0 [] [])) (by
  intro k h; try dsimp only [teasy, nthW, lc_iSameIntsLa] at h ⊢
  with_reducible repeat' (first | apply And.intro | exact zR | (intro; skip))
  all_goals (try simp only [std, inj] at *)
  all_goals with_reducible repeat' apply And.intro
  all_goals (try (first | exact z | grind [take_eq, snocI, snocS, rowSnoc])))
theorem c_iSameInts (A B : List Int)  : P_c_iSameInts A B := fnOK Tryz.call187 Tryz.func187 (.z intC A (.z intC B (.i ((↑(List.map intC A).length : Int) ≠ (↑(List.map intC B).length
 : Int)) (.s (lb false)) (.z intC A (.l (lc_iSameIntsLa A B) (Sc_iSameIntsLa A B) [] [.s (li 0)] 0 (.t (.s (lb true)) (.t (.s (lb false)) .q))))))) (by
  dsimp only [teasy, P_c_iSameInts, nthW, lc_iSameIntsLa]
  with_reducible repeat' (first | apply And.intro | exact zR | (intro; skip))
  all_goals (try simp only [std, inj] at *)
  all_goals with_reducible repeat' apply And.intro
  all_goals (try (first | exact z | grind [snocI, snocS, rowSnoc])))
end Go.Proofs.YtpnaoendfpaodaaGreat
end
section
namespace Go.Proofs.YtpnaoendfpaodaaGreat
open Go Go.Proofs.YtpnaoendfpaodaaGreat.Ab
set_option linter.unusedVariables false
set_option linter.unusedSimpArgs false
set_option maxHeartbeats 4000000
def dotsB : List UInt8 := [46, 46, 46]
def isDots (s : Syntax) : Bool := decide (s.kind = 1) && decide (s.text.data.toList = dotsB)
def isId (s : Syntax) : Bool := decide (s.kind = 1) && isSyn s
def capFor (s : Syntax) (x : Capture) : Bool := decide (x.name.text = s.text) && decide (x.name.scopes = s.scopes) && isId x.name
def fndN (L : List Capture) (s : Syntax) : Nat := L.findIdx (capFor s)
def fnd (L : List Capture) (s : Syntax) : Int := if isDots s = false ∧ fndN L s < L.length then fndN L s else -1
theorem fndN_at {L : List Capture} {s : Syntax} {k : Nat} (hk : k < L.length) (hb : k ≤ fndN L s) (h : capFor s (L.getD k default) = true) : fndN L s = k := by
  have h1 : L.getD k default = L[k] := by simp [hk]
  rw [h1] at h
  rcases Nat.lt_or_ge k (fndN L s) with h2 | h2
  · have := List.not_of_lt_findIdx h2
    simp [h] at this
  · omega
theorem fndN_next {L : List Capture} {s : Syntax} {k : Nat} (hk : k < L.length) (hb : k ≤ fndN L s) (h : capFor s (L.getD k default) = false) : k + 1 ≤ fndN L s := by
  have h1 : L.getD k default = L[k] := by simp [hk]
  rw [h1] at h
  rcases Nat.lt_or_ge k (fndN L s) with h2 | h2
  · exact h2
  · have e : fndN L s = k := by omega
    have := List.findIdx_getElem (p := capFor s) (xs := L) (w := by show fndN L s < _; omega)
    have h3 : capFor s (L[fndN L s]'(by omega)) = true := this
    simp only [e, h] at h3
    exact absurd h3 (by decide)
theorem fndN_le (L : List Capture) (s : Syntax) : fndN L s ≤ L.length := List.findIdx_le_length
abbrev P_c_sDots (s : Syntax) : Ct := ⟨133, [], [syntaxA s], [], .sv (lb (isDots s))⟩
theorem c_sDots (s : Syntax)  : P_c_sDots s := fnOK Tryz.call133 Tryz.func133 (.i (s.kind = 1) (.s (lb (decide (s.text.data.toList = [(46 : UInt8), (46 : UInt8), (46 : UInt8)]))))
 (.s (lb false))) (by
  dsimp only [teasy, P_c_sDots]
  with_reducible repeat' (first | apply And.intro | exact zR | (intro; skip))
  all_goals (try simp only [std, inj] at *)
  all_goals with_reducible repeat' apply And.intro
  all_goals (try (first | exact z | grind [isDots, dotsB, snocI, snocS, rowSnoc])))
abbrev P_c_iDots (s : Syntax) : Ct := ⟨145, [], [syntaxA s], [], .sv (lb (isDots s))⟩
theorem c_iDots (s : Syntax)  : P_c_iDots s := fnOK Tryz.call145 Tryz.func145 (.i (s.kind = 1) (.s (lb (decide (s.text.data.toList = [(46 : UInt8), (46 : UInt8), (46 : UInt8)]))))
 (.s (lb false))) (by
  dsimp only [teasy, P_c_iDots]
  with_reducible repeat' (first | apply And.intro | exact zR | (intro; skip))
  all_goals (try simp only [std, inj] at *)
  all_goals with_reducible repeat' apply And.intro
  all_goals (try (first | exact z | grind [isDots, dotsB, snocI, snocS, rowSnoc])))
abbrev P_c_sSame (a : Syntax) (b : Syntax) : Ct := ⟨250, [], [syntaxA a, syntaxA b], [], .sv (lb (decide (a.text = b.text) && decide (a.scopes = b.scopes)))⟩
theorem c_sSame (a b : Syntax)  : P_c_sSame a b := fnOK Tryz.call250 Tryz.func250 (.i (a.text.data.toList = b.text.data.toList) (.c [.rd, .rd] (c_sSameInts a.scopes b.scopes) (.s (lb
 (decide (a.scopes = b.scopes))))) (.s (lb false))) (by
  dsimp only [teasy, P_c_sSame]
  with_reducible repeat' (first | apply And.intro | exact zR | (intro; skip))
  all_goals (try simp only [std, inj] at *)
  all_goals with_reducible repeat' apply And.intro
  all_goals (try (first | exact z | grind [bytes_ext, snocI, snocS, rowSnoc])))
abbrev P_c_iSame (a : Syntax) (b : Syntax) : Ct := ⟨256, [], [syntaxA a, syntaxA b], [], .sv (lb (decide (a.kind = 1) && decide (b.kind = 1) && decide (a.text = b.text) && decide (a.scopes = b.scopes)))⟩
theorem c_iSame (a b : Syntax)  : P_c_iSame a b := fnOK Tryz.call256 Tryz.func256 (.i (a.kind = 1) (.i (b.kind = 1) (.i (a.text.data.toList = b.text.data.toList) (.c [.rd, .rd]
 (c_iSameInts a.scopes b.scopes) (.s (lb (decide (a.scopes = b.scopes))))) (.s (lb false))) (.y false (.s (lb false)))) (.y false (.y false (.s (lb false))))) (by
  dsimp only [teasy, P_c_iSame]
  with_reducible repeat' (first | apply And.intro | exact zR | (intro; skip))
  all_goals (try simp only [std, inj] at *)
  all_goals with_reducible repeat' apply And.intro
  all_goals (try (first | exact z | grind [bytes_ext, snocI, snocS, rowSnoc])))
abbrev P_c_sFind (L : List Capture) (s : Syntax) : Ct := ⟨223, [], [ll (L.map captureC), syntaxA s], [], .sv (li (fnd L s))⟩
def lc_sFindLa (L : List Capture) (s : Syntax) : Lp Nat := .mk 30 0 (fun x => [(3, SV.one (AC.ptr 0 0)), (7, ll (List.map captureC L)), (8, li (↑(List.map captureC L).length :
 Int)), (9, hs x 0)]) (fun x => [Ob.box (vals (syntaxF s))]) (fun k => [.s (li (↑k : Int))]) (fun k => k ≤ L.length ∧ L.length ≤ 9223372036854775807 ∧ (isDots s = true ∨ k ≤ fndN L
 s)) (fun k => L.length - k) [.mk (fnd L s = (-1 : Int)) (.exit 0) (fun x => []) (fun x => []) [], .mk True .ret (fun x => [(4, hs x 0)]) (fun x => []) [.s (li (fnd L s))]]
theorem Sc_sFindLa (L : List Capture) (s : Syntax) : Lp.Sem Tryz.prog (loopAt Tryz.f223 0) (lc_sFindLa L s) := lpOK (fun k => .i ((↑k : Int) < (↑(List.map captureC L).length :
 Int)) (.x (↑k : Int) (List.map captureC L) (captureF (L.getD k default)) (.c [.rd, .rd] (c_sSame (L.getD k default).name s) (.b (decide ((L.getD k default).name.text = s.text) &&
 decide ((L.getD k default).name.scopes = s.scopes)) (.c [.rd] (c_sDots s) (.b (!isDots s) (.c [.rd] (c_sIsId (L.getD k default).name) (.b (decide ((L.getD k default).name.kind =
 1) && isSyn (L.getD k default).name) (.o 1 [] [.s (li (↑k : Int))]) (.r ((↑k : Int) + 1) (.g [0] (k + 1) [.s (li ((↑k : Int) + 1))])))) (.y false (.r ((↑k : Int) + 1) (.g [0] (k +
 1) [.s (li ((↑k : Int) + 1))]))))) (.y false (.y false (.r ((↑k : Int) + 1) (.g [0] (k + 1) [.s (li ((↑k : Int) + 1))]))))))) (.o 0 [] [])) (by
  intro k h; try dsimp only [teasy, nthW, lc_sFindLa] at h ⊢
  have g1 := @fndN_at L s k
  have g2 := @fndN_next L s k
  have g3 := fndN_le L s
  with_reducible repeat' (first | apply And.intro | exact zR | (intro; skip))
  all_goals (try simp only [std, inj] at *)
  all_goals with_reducible repeat' apply And.intro
  all_goals (try (first | exact z | grind [fnd, capFor, isId, snocI, snocS, rowSnoc])))
theorem c_sFind (L : List Capture) (s : Syntax)  : P_c_sFind L s := fnOK Tryz.call223 Tryz.func223 (.z captureC L (.l (lc_sFindLa L s) (Sc_sFindLa L s) [0] [.s (li 0)] 0 (.t (.s (li
 (-1 : Int))) (.t (.s (li (fnd L s))) .q)))) (by
  dsimp only [teasy, P_c_sFind, nthW, lc_sFindLa]
  with_reducible repeat' (first | apply And.intro | exact zR | (intro; skip))
  all_goals (try simp only [std, inj] at *)
  all_goals with_reducible repeat' apply And.intro
  all_goals (try (first | exact z | grind [snocI, snocS, rowSnoc])))
theorem depY_item {t : Syntax} {k : Nat} (h : k < t.items.length) : depY (t.items.getD k default) + 1 ≤ depY t := by
  have := maxBy_mem depY (getD_mem' h)
  rw [depY_eq t]; omega
theorem okY_sym {t : Syntax} (h : okY t = true) (hk : t.kind = 1) : t.items = [] := by
  rw [okY_eq] at h
  simp only [nodY0, nodD, Bool.and_eq_true, Bool.or_eq_true, decide_eq_true_eq] at h
  have : t.items.length = 0 := by omega
  exact List.length_eq_zero_iff.1 this
theorem okY_item {t : Syntax} (h : okY t = true) : ∀ x ∈ t.items, okY x = true := by
  rw [okY_eq, Bool.and_eq_true, List.all_eq_true] at h; exact h.1
end Go.Proofs.YtpnaoendfpaodaaGreat
end
section
namespace Go.Proofs.YtpnaoendfpaodaaGreat
open Go Go.Proofs.YtpnaoendfpaodaaGreat.Ab
set_option linter.unusedVariables false
set_option linter.unusedSimpArgs false
set_option maxHeartbeats 4000000
theorem fx_at {α : Type} [Inhabited α] {p : α → Bool} {L : List α} {k : Nat} (hk : k < L.length) (hb : k ≤ L.findIdx p) (h : p (L.getD k default) = true) : L.findIdx p = k := by
  have h1 : L.getD k default = L[k] := by simp [hk]
  rw [h1] at h
  rcases Nat.lt_or_ge k (L.findIdx p) with h2 | h2
  · have := List.not_of_lt_findIdx h2
    simp [h] at this
  · omega
theorem fx_next {α : Type} [Inhabited α] {p : α → Bool} {L : List α} {k : Nat} (hk : k < L.length) (hb : k ≤ L.findIdx p) (h : p (L.getD k default) = false) : k + 1 ≤ L.findIdx p := by
  have h1 : L.getD k default = L[k] := by simp [hk]
  rw [h1] at h
  rcases Nat.lt_or_ge k (L.findIdx p) with h2 | h2
  · exact h2
  · have e : L.findIdx p = k := by omega
    have h3 := List.findIdx_getElem (p := p) (xs := L) (w := by omega)
    simp only [e, h] at h3
    exact absurd h3 (by decide)
abbrev P_c_yInts (L : List Int) : Ct := ⟨163, [], [ll (L.map intC)], [.arr true 1 (L.map intC)], .sv (.one (.ref 0))⟩
theorem c_yInts (L : List Int) (h : L.length ≤ 2147483647)  : P_c_yInts L := fnOK Tryz.call163 Tryz.func163 (.w (.bool false) (.p (∀ (e : List Cell), e ∈ List.map intC L → ∀ (c :
 Cell), c ∈ e → ∃ v, c = Cell.lit v) (.p (∀ (e : List Cell), e ∈ List.map intC L → e.length = 1) (.p ((0 + (List.map intC L).length) * 8 ≤ 140737488355328) (.f [1] [Ob.arr true 1
 (List.map intC L)] (AV.sv (SV.one (AC.ref 0)))))))) (by
  dsimp only [teasy, P_c_yInts]
  with_reducible repeat' (first | apply And.intro | exact zR | (intro; skip))
  all_goals (try simp only [std, inj] at *)
  all_goals with_reducible repeat' apply And.intro
  all_goals (try (first | exact z | grind [snocI, snocS, rowSnoc])))
abbrev P_c_yIInts (L : List Int) : Ct := ⟨151, [], [ll (L.map intC)], [.arr true 1 (L.map intC)], .sv (.one (.ref 0))⟩
theorem c_yIInts (L : List Int) (h : L.length ≤ 2147483647)  : P_c_yIInts L := fnOK Tryz.call151 Tryz.func151 (.w (.bool true) (.p (∀ (e : List Cell), e ∈ List.map intC L → ∀ (c :
 Cell), c ∈ e → ∃ v, c = Cell.lit v) (.p (∀ (e : List Cell), e ∈ List.map intC L → e.length = 1) (.p ((0 + (List.map intC L).length) * 8 ≤ 140737488355328) (.f [0] [Ob.arr true 1
 (List.map intC L)] (AV.sv (SV.one (AC.ref 0)))))))) (by
  dsimp only [teasy, P_c_yIInts]
  with_reducible repeat' (first | apply And.intro | exact zR | (intro; skip))
  all_goals (try simp only [std, inj] at *)
  all_goals with_reducible repeat' apply And.intro
  all_goals (try (first | exact z | grind [snocI, snocS, rowSnoc])))
abbrev P_c_sMap (s : Syntax) : Ct := ⟨199, [], [syntaxA s, li 0, li 0], syntaxO s, .sv (syntaxR s 0)⟩
def lc_sMap_sLa (s : Syntax) : Lp Nat := .mk 62 0 (fun x => [(1, li 0), (2, li 0), (6, SV.one (AC.ptr 0 0)), (7, SV.one (AC.ptr 1 0)), (45, ll (List.map syntaxC s.items)), (46, li
 (↑(List.map syntaxC s.items).length : Int)), (47, hs x 0)]) (fun x => [Ob.box [vI 0, vI 0, vS (ByteArray.mk #[]), AC.val (Cell.lit (Value.slice none 0 0)), AC.val (Cell.lit
 (Value.slice none 0 0))], Ob.box [vI s.kind, vI s.number, vS s.text, AC.ref 2, AC.ref 3], Ob.arr true 1 (List.map intC s.scopes), ho x 1]) (fun k => [.s (li (↑k : Int)), .o
 (Ob.arr true 5 (List.map syntaxC (List.take k s.items)))]) (fun k => k ≤ s.items.length ∧ s.items.length ≤ 9223372036854775807) (fun k => s.items.length - k) [.mk True (.exit 1)
 (fun x => [(6, SV.one (AC.ptr 0 0)), (7, SV.one (AC.ptr 1 0))]) (fun x => [Ob.box [vI 0, vI 0, vS (ByteArray.mk #[]), AC.val (Cell.lit (Value.slice none 0 0)), AC.val (Cell.lit
 (Value.slice none 0 0))], Ob.box [vI s.kind, vI s.number, vS s.text, AC.ref 2, AC.ref 3], Ob.arr true 1 (List.map intC s.scopes), ho x 0]) [.o (Ob.arr true 5 (List.map syntaxC
 s.items))]]
theorem Sc_sMap_sLa (s : Syntax) (h : wY s ≤ 1000000000) (ih : ∀ (z : Syntax), z ∈ s.items → wY z ≤ 1000000000 → OK (P_c_sMap z)) : Lp.Sem Tryz.prog (loopAt Tryz.f199 0)
 (lc_sMap_sLa s) := lpOK (fun k => .i ((↑k : Int) < (↑(List.map syntaxC s.items).length : Int)) (.x (↑k : Int) (List.map syntaxC s.items) (syntaxF (s.items.getD k default)) (.w
 (.draw [(6, [5, 6]), (7, [3, 13]), (9, [1])]) (.d [.rd, .rd, .rd] (P_c_sMap (s.items.getD k default)) (.p (((List.map syntaxC (List.take k s.items)).length + 1) * 80 ≤
 140737488355328) (.r ((↑k : Int) + 1) (.g [0, 1, 2, 14] (k + 1) [.s (li ((↑k : Int) + 1)), .o (Ob.arr true 5 (List.map syntaxC (List.take k s.items) ++ [syntaxF (s.items.getD k
 default)]))])))))) (.o 0 [0, 1, 2, 3] [.o (Ob.arr true 5 (List.map syntaxC (List.take k s.items)))])) (by
  intro k h; try dsimp only [teasy, nthW, lc_sMap_sLa] at h ⊢
  have g1 := wY_eq s
  have g2 := @sumBy_mem _ wY s.items (s.items.getD k default)
  with_reducible repeat' (first | apply And.intro | exact zR | exact ih | (intro; skip) | apply c_yInts | apply ih)
  all_goals (try simp only [std, inj] at *)
  all_goals with_reducible repeat' apply And.intro
  all_goals (try (first | with_reducible apply c_yInts | with_reducible apply ih | (simp only [← List.map_append]; first | with_reducible apply c_yInts | with_reducible apply ih)))
  all_goals (try (first | exact z | grind [take_get, getD_mem', snocI, snocS, rowSnoc, getD_mem'])))
theorem c_sMap_s (s : Syntax) (h : wY s ≤ 1000000000) (ih : ∀ z ∈ s.items, ∀ (h : wY z ≤ 1000000000), P_c_sMap z)  : P_c_sMap s := fnOK Tryz.call199 Tryz.func199 (.w (.draw [(11,
 [10])]) (.d [.rd] (P_c_yInts s.scopes) (.i (s.kind = 1) (.y false (.y false (.y false (.z syntaxC s.items (.w (.ghost (.nilbox 10 4 true 5)) (.l (lc_sMap_sLa s) (Sc_sMap_sLa s h
 ih) [1, 10, 2, 11] [.s (li 0), .o (Ob.arr true 5 [])] 0 (.t (.f [2, 3] [Ob.arr true 1 (List.map intC s.scopes), Ob.arr true 5 (List.map syntaxC s.items)] (AV.sv (SV.agg [vI
 s.kind, vI s.number, vS s.text, AC.ref 0, AC.ref 1]))) .q))))))) (.z syntaxC s.items (.w (.ghost (.nilbox 10 4 true 5)) (.l (lc_sMap_sLa s) (Sc_sMap_sLa s h ih) [1, 10, 2, 11] [.s
 (li 0), .o (Ob.arr true 5 [])] 0 (.t (.f [2, 3] [Ob.arr true 1 (List.map intC s.scopes), Ob.arr true 5 (List.map syntaxC s.items)] (AV.sv (SV.agg [vI s.kind, vI s.number, vS
 s.text, AC.ref 0, AC.ref 1]))) .q))))))) (by
  dsimp only [teasy, P_c_sMap, nthW, lc_sMap_sLa]
  have g1 := wY_eq s
  with_reducible repeat' (first | apply And.intro | exact zR | exact ih | (intro; skip) | apply c_yInts)
  all_goals (try simp only [std, inj] at *)
  all_goals with_reducible repeat' apply And.intro
  all_goals (try (first | with_reducible apply c_yInts | with_reducible apply ih | (simp only [← List.map_append]; first | with_reducible apply c_yInts | with_reducible apply ih)))
  all_goals (try (first | exact z | grind [snocI, snocS, rowSnoc])))
theorem c_sMap (s : Syntax) : ∀ (h : wY s ≤ 1000000000), P_c_sMap s := Syntax.ind (P := fun s => ∀ (h : wY s ≤ 1000000000), P_c_sMap s) (fun s ih h => c_sMap_s s h ih) s
abbrev P_c_sCopyY (s : Syntax) : Ct := ⟨141, [], [syntaxA s], syntaxO s, .sv (syntaxR s 0)⟩
theorem c_sCopyY (s : Syntax) (h : wY s ≤ 1000000000)  : P_c_sCopyY s := fnOK Tryz.call141 Tryz.func141 (.d [.rd, .rd, .rd] (P_c_sMap s) (.f [2, 3] [Ob.arr true 1 (List.map intC
 s.scopes), Ob.arr true 5 (List.map syntaxC s.items)] (AV.sv (SV.agg [vI s.kind, vI s.number, vS s.text, AC.ref 0, AC.ref 1])))) (by
  dsimp only [teasy, P_c_sCopyY]
  with_reducible repeat' (first | apply And.intro | exact zR | (intro; skip) | apply c_sMap)
  all_goals (try simp only [std, inj] at *)
  all_goals with_reducible repeat' apply And.intro
  all_goals (try (first | with_reducible apply c_sMap | (simp only [← List.map_append]; first | with_reducible apply c_sMap)))
  all_goals (try (first | exact z | grind [snocI, snocS, rowSnoc])))
def fnA (f : FuncId) : SV := .one (.val (.lit (.func (.func f) #[] #[])))
abbrev P_c_iMap (s : Syntax) : Ct := ⟨204, [], [syntaxA s, fnA 151], syntaxO s, .sv (syntaxR s 0)⟩
def lc_iMap_sLa (s : Syntax) : Lp Nat := .mk 43 0 (fun x => [(1, SV.one (AC.val (Cell.lit (Value.func (Fn.func 151) #[] #[])))), (4, SV.one (AC.ptr 0 0)), (5, SV.one (AC.ptr 1 0)),
 (27, ll (List.map syntaxC s.items)), (28, li (↑(List.map syntaxC s.items).length : Int)), (29, hs x 0)]) (fun x => [Ob.box [vI 0, vI 0, vS (ByteArray.mk #[]), AC.val (Cell.lit
 (Value.slice none 0 0)), AC.val (Cell.lit (Value.slice none 0 0))], Ob.box [vI s.kind, vI s.number, vS s.text, AC.ref 2, AC.ref 3], Ob.arr true 1 (List.map intC s.scopes), ho x
 1]) (fun k => [.s (li (↑k : Int)), .o (Ob.arr true 5 (List.map syntaxC (List.take k s.items)))]) (fun k => k ≤ s.items.length ∧ s.items.length ≤ 9223372036854775807) (fun k =>
 s.items.length - k) [.mk True (.exit 0) (fun x => [(4, SV.one (AC.ptr 0 0)), (5, SV.one (AC.ptr 1 0))]) (fun x => [Ob.box [vI 0, vI 0, vS (ByteArray.mk #[]), AC.val (Cell.lit
 (Value.slice none 0 0)), AC.val (Cell.lit (Value.slice none 0 0))], Ob.box [vI s.kind, vI s.number, vS s.text, AC.ref 2, AC.ref 3], Ob.arr true 1 (List.map intC s.scopes), ho x
 0]) [.o (Ob.arr true 5 (List.map syntaxC s.items))]]
theorem Sc_iMap_sLa (s : Syntax) (h : wY s ≤ 1000000000) (ih : ∀ (z : Syntax), z ∈ s.items → wY z ≤ 1000000000 → OK (P_c_iMap z)) : Lp.Sem Tryz.prog (loopAt Tryz.f204 0)
 (lc_iMap_sLa s) := lpOK (fun k => .i ((↑k : Int) < (↑(List.map syntaxC s.items).length : Int)) (.x (↑k : Int) (List.map syntaxC s.items) (syntaxF (s.items.getD k default)) (.w
 (.draw [(5, [5, 6]), (6, [3, 13]), (8, [1])]) (.d [.rd, .rd] (P_c_iMap (s.items.getD k default)) (.p (((List.map syntaxC (List.take k s.items)).length + 1) * 80 ≤ 140737488355328)
 (.r ((↑k : Int) + 1) (.g [0, 1, 2, 14] (k + 1) [.s (li ((↑k : Int) + 1)), .o (Ob.arr true 5 (List.map syntaxC (List.take k s.items) ++ [syntaxF (s.items.getD k default)]))]))))))
 (.o 0 [0, 1, 2, 3] [.o (Ob.arr true 5 (List.map syntaxC (List.take k s.items)))])) (by
  intro k h; try dsimp only [teasy, nthW, lc_iMap_sLa] at h ⊢
  have g1 := wY_eq s
  have g2 := @sumBy_mem _ wY s.items (s.items.getD k default)
  with_reducible repeat' (first | apply And.intro | exact zR | exact ih | (intro; skip) | apply c_yIInts | apply ih)
  all_goals (try simp only [std, inj] at *)
  all_goals with_reducible repeat' apply And.intro
  all_goals (try (first | with_reducible apply c_yIInts | with_reducible apply ih | (simp only [← List.map_append]; first | with_reducible apply c_yIInts | with_reducible apply ih)))
  all_goals (try (first | exact z | grind [take_get, getD_mem', snocI, snocS, rowSnoc, getD_mem'])))
theorem c_iMap_s (s : Syntax) (h : wY s ≤ 1000000000) (ih : ∀ z ∈ s.items, ∀ (h : wY z ≤ 1000000000), P_c_iMap z)  : P_c_iMap s := fnOK Tryz.call204 Tryz.func204 (.w (.draw [(11,
 [10])]) (.d [.rd] (P_c_yIInts s.scopes) (.i (s.kind = 1) (.d [.rd] (P_c_yIInts s.scopes) (.z syntaxC s.items (.w (.ghost (.nilbox 10 4 true 5)) (.l (lc_iMap_sLa s) (Sc_iMap_sLa s
 h ih) [1, 10, 11, 12] [.s (li 0), .o (Ob.arr true 5 [])] 0 (.t (.f [2, 3] [Ob.arr true 1 (List.map intC s.scopes), Ob.arr true 5 (List.map syntaxC s.items)] (AV.sv (SV.agg [vI
 s.kind, vI s.number, vS s.text, AC.ref 0, AC.ref 1]))) .q))))) (.z syntaxC s.items (.w (.ghost (.nilbox 10 4 true 5)) (.l (lc_iMap_sLa s) (Sc_iMap_sLa s h ih) [1, 10, 2, 11] [.s
 (li 0), .o (Ob.arr true 5 [])] 0 (.t (.f [2, 3] [Ob.arr true 1 (List.map intC s.scopes), Ob.arr true 5 (List.map syntaxC s.items)] (AV.sv (SV.agg [vI s.kind, vI s.number, vS
 s.text, AC.ref 0, AC.ref 1]))) .q))))))) (by
  dsimp only [teasy, P_c_iMap, nthW, lc_iMap_sLa]
  have g1 := wY_eq s
  with_reducible repeat' (first | apply And.intro | exact zR | exact ih | (intro; skip) | apply c_yIInts)
  all_goals (try simp only [std, inj] at *)
  all_goals with_reducible repeat' apply And.intro
  all_goals (try (first | with_reducible apply c_yIInts | with_reducible apply ih | (simp only [← List.map_append]; first | with_reducible apply c_yIInts | with_reducible apply ih)))
  all_goals (try (first | exact z | grind [snocI, snocS, rowSnoc])))
theorem c_iMap (s : Syntax) : ∀ (h : wY s ≤ 1000000000), P_c_iMap s := Syntax.ind (P := fun s => ∀ (h : wY s ≤ 1000000000), P_c_iMap s) (fun s ih h => c_iMap_s s h ih) s
abbrev P_c_iCopyY (s : Syntax) : Ct := ⟨123, [], [syntaxA s], syntaxO s, .sv (syntaxR s 0)⟩
theorem c_iCopyY (s : Syntax) (h : wY s ≤ 1000000000)  : P_c_iCopyY s := fnOK Tryz.call123 Tryz.func123 (.d [.rd, .rd] (P_c_iMap s) (.f [2, 3] [Ob.arr true 1 (List.map intC
 s.scopes), Ob.arr true 5 (List.map syntaxC s.items)] (AV.sv (SV.agg [vI s.kind, vI s.number, vS s.text, AC.ref 0, AC.ref 1])))) (by
  dsimp only [teasy, P_c_iCopyY]
  with_reducible repeat' (first | apply And.intro | exact zR | (intro; skip) | apply c_iMap)
  all_goals (try simp only [std, inj] at *)
  all_goals with_reducible repeat' apply And.intro
  all_goals (try (first | with_reducible apply c_iMap | (simp only [← List.map_append]; first | with_reducible apply c_iMap)))
  all_goals (try (first | exact z | grind [snocI, snocS, rowSnoc])))
def isUnd (s : Syntax) : Bool := decide (s.text.data.toList = [95])
def litP (x : Syntax) : Bool := isId x && !isDots x && !isUnd x
def okL (L : List Syntax) : Bool := L.all litP && decide ((L.length : Int) ≤ 8)
def hasI (L : List Syntax) (s : Syntax) : Bool := L.any fun x => decide (x.text = s.text) && decide (x.scopes = s.scopes)
def sameB (x s : Syntax) : Bool := decide (x.kind = 1) && decide (s.kind = 1) && decide (x.text = s.text) && decide (x.scopes = s.scopes)
def hasJ (L : List Syntax) (s : Syntax) : Bool := L.any fun x => sameB x s
theorem allS_stop {α : Type} [Inhabited α] {L : List α} {p : α → Bool} {k : Nat} (h : k < L.length) (hp : p (L.getD k default) = false) : L.all p = false := by
  rw [List.all_eq_false]; exact ⟨_, getD_mem' h, by rw [hp]; decide⟩
theorem litP_at (x : Syntax) : litP x = ((decide (x.kind = 1) && isSyn x) && !isDots x && !decide (x.text.data.toList = [95])) := rfl
abbrev P_c_sLits (L : List Syntax) : Ct := ⟨131, [], [ll (L.map syntaxC)], [], .sv (lb (okL L))⟩
def lc_sLitsLa (L : List Syntax) : Lp Nat := .mk 27 0 (fun x => [(0, ll (List.map syntaxC L)), (5, ll (List.map syntaxC L)), (6, li (↑(List.map syntaxC L).length : Int)), (7, hs x
 0)]) (fun x => []) (fun k => [.s (li (↑k : Int))]) (fun k => k ≤ L.length ∧ L.length ≤ 9223372036854775807 ∧ (List.take k L).all litP = true) (fun k => L.length - k) [.mk (L.all
 litP = true) (.exit 0) (fun x => [(0, ll (List.map syntaxC L))]) (fun x => []) [], .mk (L.all litP = false) .ret (fun x => [(2, hs x 0)]) (fun x => []) [.s (lb false)]]
theorem Sc_sLitsLa (L : List Syntax) : Lp.Sem Tryz.prog (loopAt Tryz.f131 0) (lc_sLitsLa L) := lpOK (fun k => .i ((↑k : Int) < (↑(List.map syntaxC L).length : Int)) (.x (↑k : Int)
 (List.map syntaxC L) (syntaxF (L.getD k default)) (.c [.rd] (c_sIsId (L.getD k default)) (.b (!(decide ((L.getD k default).kind = 1) && isSyn (L.getD k default))) (.y true (.y
 true (.o 1 [] [.s (lb false)]))) (.c [.rd] (c_sDots (L.getD k default)) (.b (isDots (L.getD k default)) (.y true (.o 1 [] [.s (lb false)])) (.i ((L.getD k
 default).text.data.toList = [(95 : UInt8)]) (.o 1 [] [.s (lb false)]) (.r ((↑k : Int) + 1) (.g [] (k + 1) [.s (li ((↑k : Int) + 1))])))))))) (.o 0 [] [])) (by
  intro k h; try dsimp only [teasy, nthW, lc_sLitsLa] at h ⊢
  have g1 := @allS_stop _ _ L litP k
  have g2 := litP_at (L.getD k default)
  with_reducible repeat' (first | apply And.intro | exact zR | (intro; skip))
  all_goals (try simp only [std, inj] at *)
  all_goals with_reducible repeat' apply And.intro
  all_goals (try (first | exact z | grind [take_get, snocI, snocS, rowSnoc])))
theorem c_sLits (L : List Syntax)  : P_c_sLits L := fnOK Tryz.call131 Tryz.func131 (.z syntaxC L (.l (lc_sLitsLa L) (Sc_sLitsLa L) [] [.s (li 0)] 0 (.t (.z syntaxC L (.s (lb (decide
 ((↑(List.map syntaxC L).length : Int) ≤ 8))))) (.t (.s (lb false)) .q)))) (by
  dsimp only [teasy, P_c_sLits, nthW, lc_sLitsLa]
  with_reducible repeat' (first | apply And.intro | exact zR | (intro; skip))
  all_goals (try simp only [std, inj] at *)
  all_goals with_reducible repeat' apply And.intro
  all_goals (try (first | exact z | grind [okL, snocI, snocS, rowSnoc])))
abbrev P_c_iWild (s : Syntax) : Ct := ⟨190, [], [syntaxA s], [], .sv (lb (decide (s.kind = 1) && isUnd s))⟩
theorem c_iWild (s : Syntax)  : P_c_iWild s := fnOK Tryz.call190 Tryz.func190 (.i (s.kind = 1) (.s (lb (decide (s.text.data.toList = [(95 : UInt8)])))) (.s (lb false))) (by
  dsimp only [teasy, P_c_iWild]
  with_reducible repeat' (first | apply And.intro | exact zR | (intro; skip))
  all_goals (try simp only [std, inj] at *)
  all_goals with_reducible repeat' apply And.intro
  all_goals (try (first | exact z | grind [isUnd, snocI, snocS, rowSnoc])))
abbrev P_c_iLits (L : List Syntax) : Ct := ⟨144, [], [ll (L.map syntaxC)], [], .sv (lb (okL L))⟩
def lc_iLitsLa (L : List Syntax) : Lp Nat := .mk 26 0 (fun x => [(8, ll (List.map syntaxC L)), (9, li (↑(List.map syntaxC L).length : Int)), (10, hs x 0)]) (fun x => []) (fun k =>
 [.s (li (↑k : Int))]) (fun k => k ≤ L.length ∧ L.length ≤ 9223372036854775807 ∧ (List.take k L).all litP = true) (fun k => L.length - k) [.mk (L.all litP = true) (.exit 0) (fun x
 => []) (fun x => []) [], .mk (L.all litP = false) .ret (fun x => [(2, hs x 0)]) (fun x => []) [.s (lb false)]]
theorem Sc_iLitsLa (L : List Syntax) : Lp.Sem Tryz.prog (loopAt Tryz.f144 0) (lc_iLitsLa L) := lpOK (fun k => .i ((↑k : Int) < (↑(List.map syntaxC L).length : Int)) (.x (↑k : Int)
 (List.map syntaxC L) (syntaxF (L.getD k default)) (.c [.rd] (c_iIsId (L.getD k default)) (.b (!(decide ((L.getD k default).kind = 1) && isSyn (L.getD k default))) (.y true (.y
 true (.o 1 [] [.s (lb false)]))) (.c [.rd] (c_iDots (L.getD k default)) (.b (isDots (L.getD k default)) (.y true (.o 1 [] [.s (lb false)])) (.c [.rd] (c_iWild (L.getD k default))
 (.b (decide ((L.getD k default).kind = 1) && isUnd (L.getD k default)) (.o 1 [] [.s (lb false)]) (.r ((↑k : Int) + 1) (.g [] (k + 1) [.s (li ((↑k : Int) + 1))]))))))))) (.o 0 []
 [])) (by
  intro k h; try dsimp only [teasy, nthW, lc_iLitsLa] at h ⊢
  with_reducible repeat' (first | apply And.intro | exact zR | (intro; skip) | apply c_iIsId | apply c_iDots)
  all_goals (try simp only [std, inj] at *)
  all_goals with_reducible repeat' apply And.intro
  all_goals (try (first | with_reducible apply c_iIsId | with_reducible apply c_iDots | (simp only [← List.map_append]; first | with_reducible apply c_iIsId | with_reducible apply c_iDots)))
  all_goals (try (first | exact z | grind [take_get, litP, isId, getD_mem', snocI, snocS, rowSnoc])))
theorem c_iLits (L : List Syntax)  : P_c_iLits L := fnOK Tryz.call144 Tryz.func144 (.z syntaxC L (.i (8 < (↑(List.map syntaxC L).length : Int)) (.s (lb false)) (.z syntaxC L (.l
 (lc_iLitsLa L) (Sc_iLitsLa L) [] [.s (li 0)] 0 (.t (.s (lb true)) (.t (.s (lb false)) .q)))))) (by
  dsimp only [teasy, P_c_iLits, nthW, lc_iLitsLa]
  with_reducible repeat' (first | apply And.intro | exact zR | (intro; skip) | apply c_iIsId | apply c_iDots)
  all_goals (try simp only [std, inj] at *)
  all_goals with_reducible repeat' apply And.intro
  all_goals (try (first | with_reducible apply c_iIsId | with_reducible apply c_iDots | (simp only [← List.map_append]; first | with_reducible apply c_iIsId | with_reducible apply c_iDots)))
  all_goals (try (first | exact z | grind [okL, snocI, snocS, rowSnoc])))
abbrev P_c_sHasI (L : List Syntax) (s : Syntax) : Ct := ⟨183, [], [ll (L.map syntaxC), syntaxA s], [], .sv (lb (hasI L s))⟩
def lc_sHasILa (L : List Syntax) (s : Syntax) : Lp Nat := .mk 17 0 (fun x => [(3, SV.one (AC.ptr 0 0)), (7, ll (List.map syntaxC L)), (8, li (↑(List.map syntaxC L).length : Int)),
 (9, hs x 0)]) (fun x => [Ob.box (vals (syntaxF s))]) (fun k => [.s (li (↑k : Int))]) (fun k => k ≤ L.length ∧ L.length ≤ 9223372036854775807 ∧ hasI (List.take k L) s = false) (fun
 k => L.length - k) [.mk (hasI L s = false) (.exit 0) (fun x => []) (fun x => []) [], .mk (hasI L s = true) .ret (fun x => [(4, hs x 0)]) (fun x => []) [.s (lb true)]]
theorem Sc_sHasILa (L : List Syntax) (s : Syntax) : Lp.Sem Tryz.prog (loopAt Tryz.f183 0) (lc_sHasILa L s) := lpOK (fun k => .i ((↑k : Int) < (↑(List.map syntaxC L).length : Int))
 (.x (↑k : Int) (List.map syntaxC L) (syntaxF (L.getD k default)) (.c [.rd, .rd] (c_sSame (L.getD k default) s) (.b (decide ((L.getD k default).text = s.text) && decide ((L.getD k
 default).scopes = s.scopes)) (.o 1 [] [.s (lb true)]) (.r ((↑k : Int) + 1) (.g [0] (k + 1) [.s (li ((↑k : Int) + 1))]))))) (.o 0 [] [])) (by
  intro k h; try dsimp only [teasy, nthW, lc_sHasILa] at h ⊢
  with_reducible repeat' (first | apply And.intro | exact zR | (intro; skip))
  all_goals (try simp only [std, inj] at *)
  all_goals with_reducible repeat' apply And.intro
  all_goals (try (first | exact z | grind [take_get, hasI, getD_mem', snocI, snocS, rowSnoc])))
theorem c_sHasI (L : List Syntax) (s : Syntax)  : P_c_sHasI L s := fnOK Tryz.call183 Tryz.func183 (.z syntaxC L (.l (lc_sHasILa L s) (Sc_sHasILa L s) [0] [.s (li 0)] 0 (.t (.s (lb
 false)) (.t (.s (lb true)) .q)))) (by
  dsimp only [teasy, P_c_sHasI, nthW, lc_sHasILa]
  with_reducible repeat' (first | apply And.intro | exact zR | (intro; skip))
  all_goals (try simp only [std, inj] at *)
  all_goals with_reducible repeat' apply And.intro
  all_goals (try (first | exact z | grind [hasI, snocI, snocS, rowSnoc])))
abbrev P_c_iHasJ (L : List Syntax) (s : Syntax) : Ct := ⟨191, [], [ll (L.map syntaxC), syntaxA s], [], .sv (lb (hasJ L s))⟩
def lc_iHasJLa (L : List Syntax) (s : Syntax) : Lp Nat := .mk 17 0 (fun x => [(3, SV.one (AC.ptr 0 0)), (7, ll (List.map syntaxC L)), (8, li (↑(List.map syntaxC L).length : Int)),
 (9, hs x 0)]) (fun x => [Ob.box (vals (syntaxF s))]) (fun k => [.s (li (↑k : Int))]) (fun k => k ≤ L.length ∧ L.length ≤ 9223372036854775807 ∧ hasJ (List.take k L) s = false) (fun
 k => L.length - k) [.mk (hasJ L s = false) (.exit 0) (fun x => []) (fun x => []) [], .mk (hasJ L s = true) .ret (fun x => [(4, hs x 0)]) (fun x => []) [.s (lb true)]]
theorem Sc_iHasJLa (L : List Syntax) (s : Syntax) : Lp.Sem Tryz.prog (loopAt Tryz.f191 0) (lc_iHasJLa L s) := lpOK (fun k => .i ((↑k : Int) < (↑(List.map syntaxC L).length : Int))
 (.x (↑k : Int) (List.map syntaxC L) (syntaxF (L.getD k default)) (.c [.rd, .rd] (c_iSame (L.getD k default) s) (.b (decide ((L.getD k default).kind = 1) && decide (s.kind = 1) &&
 decide ((L.getD k default).text = s.text) && decide ((L.getD k default).scopes = s.scopes)) (.o 1 [] [.s (lb true)]) (.r ((↑k : Int) + 1) (.g [0] (k + 1) [.s (li ((↑k : Int) +
 1))]))))) (.o 0 [] [])) (by
  intro k h; try dsimp only [teasy, nthW, lc_iHasJLa] at h ⊢
  with_reducible repeat' (first | apply And.intro | exact zR | (intro; skip))
  all_goals (try simp only [std, inj] at *)
  all_goals with_reducible repeat' apply And.intro
  all_goals (try (first | exact z | grind [take_get, hasJ, sameB, getD_mem', snocI, snocS, rowSnoc])))
theorem c_iHasJ (L : List Syntax) (s : Syntax)  : P_c_iHasJ L s := fnOK Tryz.call191 Tryz.func191 (.z syntaxC L (.l (lc_iHasJLa L s) (Sc_iHasJLa L s) [0] [.s (li 0)] 0 (.t (.s (lb
 false)) (.t (.s (lb true)) .q)))) (by
  dsimp only [teasy, P_c_iHasJ, nthW, lc_iHasJLa]
  with_reducible repeat' (first | apply And.intro | exact zR | (intro; skip))
  all_goals (try simp only [std, inj] at *)
  all_goals with_reducible repeat' apply And.intro
  all_goals (try (first | exact z | grind [hasJ, snocI, snocS, rowSnoc])))
def atF (l : List Syntax) : Nat → Int
  | 0 => -1
  | k + 1 => if isDots (l.getD k default) = true then (k : Int) else atF l k
def okA (l : List Syntax) : Nat → Bool
  | 0 => true
  | k + 1 => okA l k && (!isDots (l.getD k default) || (decide (k ≠ 0) && decide (atF l k < 0)))
def atS (l : List Syntax) : Int := atF l l.length
def okS (l : List Syntax) : Bool := okA l l.length
theorem okA_le (l : List Syntax) : ∀ (m k : Nat), k ≤ m → okA l m = true → okA l k = true
  | 0, k, h, _ => by
    obtain rfl : k = 0 := by omega
    rfl
  | m + 1, k, h, ht => by
    by_cases e : k = m + 1
    · rw [e]; exact ht
    · refine okA_le l m k (by omega) ?_
      simp only [okA, Bool.and_eq_true] at ht; exact ht.1
def atI (l : List Syntax) : Int := if l.findIdx isDots < l.length then (l.findIdx isDots : Int) else -1
abbrev P_c_sAt (l : List Syntax) : Ct := ⟨224, [], [ll (l.map syntaxC)], [], .tup [li (if okS l = true then atS l else -1), lb (okS l)]⟩
def lc_sAtLa (l : List Syntax) : Lp Nat := .mk 26 0 (fun x => [(4, hs x 1), (7, ll (List.map syntaxC l)), (8, li (↑(List.map syntaxC l).length : Int)), (9, hs x 0)]) (fun x => [])
 (fun k => [.s (li (↑k : Int)), .s (li (atF l k))]) (fun k => k ≤ l.length ∧ l.length ≤ 9223372036854775807 ∧ okA l k = true) (fun k => l.length - k) [.mk (okS l = true) (.exit 0)
 (fun x => [(4, hs x 0)]) (fun x => []) [.s (li (atS l))], .mk (okS l = false) .ret (fun x => [(2, hs x 0), (3, hs x 1)]) (fun x => []) [.s (li (-1 : Int)), .s (lb false)]]
theorem Sc_sAtLa (l : List Syntax) : Lp.Sem Tryz.prog (loopAt Tryz.f224 0) (lc_sAtLa l) := lpOK (fun k => .i ((↑k : Int) < (↑(List.map syntaxC l).length : Int)) (.x (↑k : Int)
 (List.map syntaxC l) (syntaxF (l.getD k default)) (.c [.rd] (c_sDots (l.getD k default)) (.b (!isDots (l.getD k default)) (.r ((↑k : Int) + 1) (.g [] (k + 1) [.s (li ((↑k : Int) +
 1)), .s (li (atF l k))])) (.i ((↑k : Int) = 0) (.y true (.o 1 [] [.s (li (-1 : Int)), .s (lb false)])) (.i (0 ≤ atF l k) (.o 1 [] [.s (li (-1 : Int)), .s (lb false)]) (.r ((↑k :
 Int) + 1) (.g [] (k + 1) [.s (li ((↑k : Int) + 1)), .s (li (↑k : Int))]))))))) (.o 0 [] [.s (li (atF l k))])) (by
  intro k h; try dsimp only [teasy, nthW, lc_sAtLa] at h ⊢
  have g1 := okA_le l l.length (k + 1)
  have g2 : okA l (k + 1) = (okA l k && (!isDots (l.getD k default) || (decide (k ≠ 0) && decide (atF l k < 0)))) := rfl
  have g3 : atF l (k + 1) = if isDots (l.getD k default) = true then (k : Int) else atF l k := rfl
  with_reducible repeat' (first | apply And.intro | exact zR | (intro; skip))
  all_goals (try simp only [std, inj] at *)
  all_goals with_reducible repeat' apply And.intro
  all_goals (try (first | exact z | grind [okS, atS, snocI, snocS, rowSnoc])))
theorem c_sAt (l : List Syntax)  : P_c_sAt l := fnOK Tryz.call224 Tryz.func224 (.z syntaxC l (.l (lc_sAtLa l) (Sc_sAtLa l) [] [.s (li 0), .s (li (-1 : Int))] 0 (.t (.f [] [] (AV.tup
 [li (atS l), lb true])) (.t (.f [] [] (AV.tup [li (-1 : Int), lb false])) .q)))) (by
  dsimp only [teasy, P_c_sAt, nthW, lc_sAtLa]
  with_reducible repeat' (first | apply And.intro | exact zR | (intro; skip))
  all_goals (try simp only [std, inj] at *)
  all_goals with_reducible repeat' apply And.intro
  all_goals (try (first | exact z | grind [okA, atF, snocI, snocS, rowSnoc])))
abbrev P_c_iAt (l : List Syntax) : Ct := ⟨193, [], [ll (l.map syntaxC)], [], .sv (li (atI l))⟩
def lc_iAtLa (l : List Syntax) : Lp Nat := .mk 16 0 (fun x => [(5, ll (List.map syntaxC l)), (6, li (↑(List.map syntaxC l).length : Int)), (7, hs x 0)]) (fun x => []) (fun k => [.s
 (li (↑k : Int))]) (fun k => k ≤ l.length ∧ l.length ≤ 9223372036854775807 ∧ k ≤ List.findIdx isDots l) (fun k => l.length - k) [.mk (atI l = (-1 : Int)) (.exit 0) (fun x => [])
 (fun x => []) [], .mk True .ret (fun x => [(2, hs x 0)]) (fun x => []) [.s (li (atI l))]]
theorem Sc_iAtLa (l : List Syntax) : Lp.Sem Tryz.prog (loopAt Tryz.f193 0) (lc_iAtLa l) := lpOK (fun k => .i ((↑k : Int) < (↑(List.map syntaxC l).length : Int)) (.x (↑k : Int)
 (List.map syntaxC l) (syntaxF (l.getD k default)) (.c [.rd] (c_iDots (l.getD k default)) (.b (isDots (l.getD k default)) (.o 1 [] [.s (li (↑k : Int))]) (.r ((↑k : Int) + 1) (.g []
 (k + 1) [.s (li ((↑k : Int) + 1))]))))) (.o 0 [] [])) (by
  intro k h; try dsimp only [teasy, nthW, lc_iAtLa] at h ⊢
  have g1 := @fx_at _ _ isDots l k
  have g2 := @fx_next _ _ isDots l k
  with_reducible repeat' (first | apply And.intro | exact zR | (intro; skip) | apply c_iDots)
  all_goals (try simp only [std, inj] at *)
  all_goals with_reducible repeat' apply And.intro
  all_goals (try (first | with_reducible apply c_iDots | (simp only [← List.map_append]; first | with_reducible apply c_iDots)))
  all_goals (try (first | exact z | grind [atI, snocI, snocS, rowSnoc])))
theorem c_iAt (l : List Syntax)  : P_c_iAt l := fnOK Tryz.call193 Tryz.func193 (.z syntaxC l (.l (lc_iAtLa l) (Sc_iAtLa l) [] [.s (li 0)] 0 (.t (.s (li (-1 : Int))) (.t (.s (li (atI
 l))) .q)))) (by
  dsimp only [teasy, P_c_iAt, nthW, lc_iAtLa]
  with_reducible repeat' (first | apply And.intro | exact zR | (intro; skip) | apply c_iDots)
  all_goals (try simp only [std, inj] at *)
  all_goals with_reducible repeat' apply And.intro
  all_goals (try (first | with_reducible apply c_iDots | (simp only [← List.map_append]; first | with_reducible apply c_iDots)))
  all_goals (try (first | exact z | grind [snocI, snocS, rowSnoc])))
def wlk (f : Syntax → Int → List Capture → Option (List Capture)) : List Syntax → Int → Int → Int → List Capture → Option (List Capture)
  | [], _, _, _, o => some o
  | x :: r, i, a, d, o => if i = a then wlk f r (i + 1) a d o else match f x (if i + 1 = a then d + 1 else d) o with
    | none => none
    | some o' => wlk f r (i + 1) a d o'
theorem wlk_append (f : Syntax → Int → List Capture → Option (List Capture)) : ∀ (A B : List Syntax) (i a d : Int) (o : List Capture), wlk f (A ++ B) i a d o = match wlk f A i a d o with
    | none => none
    | some o' => wlk f B (i + (A.length : Int)) a d o'
  | [], B, i, a, d, o => by simp [wlk]
  | x :: A, B, i, a, d, o => by
    have e : i + ((x :: A).length : Int) = i + 1 + (A.length : Int) := by simp only [List.length_cons]; omega
    simp only [List.cons_append, wlk, e]
    split
    · exact wlk_append f A B _ a d o
    · split
      · rfl
      · exact wlk_append f A B _ a d _
theorem wlk_step {f : Syntax → Int → List Capture → Option (List Capture)} {l : List Syntax} {k : Nat} {a d : Int} {o o' : List Capture} (h : k < l.length) (e : wlk f (l.take k) 0 a d o = some o') :
    wlk f (l.take (k + 1)) 0 a d o = if (k : Int) = a then some o' else f (l.getD k default) (if (k : Int) + 1 = a then d + 1 else d) o' := by
  rw [take_get h, wlk_append, e]
  have : (0 : Int) + ((l.take k).length : Int) = (k : Int) := by simp; omega
  simp only [this, wlk]
  split
  · rfl
  · cases f (l.getD k default) (if (k : Int) + 1 = a then d + 1 else d) o' <;> rfl
theorem wlk_none {f : Syntax → Int → List Capture → Option (List Capture)} {l : List Syntax} {k : Nat} {a d : Int} {o : List Capture} (e : wlk f (l.take k) 0 a d o = none) : wlk f l 0 a d o = none := by
  have := wlk_append f (l.take k) (l.drop k) 0 a d o
  rw [List.take_append_drop, e] at this; exact this
def cap1 (p : Syntax) (d : Int) : Capture := ⟨p, d, ⟨0, 0, mkS [], [], []⟩, []⟩
mutual
def vrS (Ls : List Syntax) : Syntax → Int → List Capture → Option (List Capture)
  | ⟨k, n, t, s, l⟩, d, o => if k = 1 then (if isUnd ⟨k, n, t, s, l⟩ = true ∨ hasI Ls ⟨k, n, t, s, l⟩ = true then some o else
      if isDots ⟨k, n, t, s, l⟩ = true ∨ 0 ≤ fnd o ⟨k, n, t, s, l⟩ ∨ 3 < d then none else some (o ++ [cap1 ⟨k, n, t, s, l⟩ d]))
    else if okS l = true then vrSs Ls l 0 (atS l) d o else none
def vrSs (Ls : List Syntax) : List Syntax → Int → Int → Int → List Capture → Option (List Capture)
  | [], _, _, _, o => some o
  | x :: r, i, a, d, o => if i = a then vrSs Ls r (i + 1) a d o else match vrS Ls x (if i + 1 = a then d + 1 else d) o with
    | none => none
    | some o' => vrSs Ls r (i + 1) a d o'
end
theorem vrSs_eq (Ls : List Syntax) : ∀ l i a d o, vrSs Ls l i a d o = wlk (vrS Ls) l i a d o
  | [], i, a, d, o => by simp [vrSs, wlk]
  | x :: r, i, a, d, o => by
    simp only [vrSs, wlk, vrSs_eq Ls r]
theorem vrS_eq (Ls : List Syntax) (p : Syntax) (d : Int) (o : List Capture) : vrS Ls p d o = if p.kind = 1 then (if isUnd p = true ∨ hasI Ls p = true then some o else
      if isDots p = true ∨ 0 ≤ fnd o p ∨ 3 < d then none else some (o ++ [cap1 p d]))
    else if okS p.items = true then wlk (vrS Ls) p.items 0 (atS p.items) d o else none := by cases p; simp only [vrS, vrSs_eq]
theorem wlk_len (f : Syntax → Int → List Capture → Option (List Capture)) : ∀ (l : List Syntax), (∀ x ∈ l, ∀ d o o', f x d o = some o' → o'.length ≤ o.length + sizeY x) → ∀ i a d o o', wlk f l i a d o = some o' → o'.length ≤ o.length + sumBy sizeY l
  | [], _, i, a, d, o, o', e => by simp only [wlk, Option.some.injEq] at e; subst e; simp [sumBy]
  | x :: r, h, i, a, d, o, o', e => by
    have ih := wlk_len f r fun y hy => h y (List.mem_cons_of_mem _ hy)
    simp only [wlk] at e
    simp only [sumBy]
    split at e
    · have := ih _ _ _ _ _ e; omega
    · split at e
      · cases e
      · rename_i o1 h1
        have h2 := ih _ _ _ _ _ e
        have h3 := h x List.mem_cons_self _ _ _ h1
        omega
theorem vrS_len (Ls : List Syntax) : ∀ (p : Syntax) (d : Int) (o o' : List Capture), vrS Ls p d o = some o' → o'.length ≤ o.length + sizeY p := by
  refine Syntax.ind fun p ih d o o' e => ?_
  rw [vrS_eq] at e
  rw [sizeY_eq]
  split at e
  · split at e
    · simp only [Option.some.injEq] at e; subst e; omega
    · split at e
      · cases e
      · simp only [Option.some.injEq] at e; subst e; simp
  · split at e
    · have := wlk_len (vrS Ls) p.items (fun x hx d o o' h => ih x hx d o o' h) _ _ _ _ _ e; omega
    · cases e
def vaS (Ls : List Syntax) (p : Syntax) (d : Int) (o : List Capture) (k : Nat) : List Capture := if okS p.items = true then (wlk (vrS Ls) (p.items.take k) 0 (atS p.items) d o).getD [] else o
def vbS (Ls : List Syntax) (p : Syntax) (d : Int) (o : List Capture) (k : Nat) : Bool := okS p.items && (wlk (vrS Ls) (p.items.take k) 0 (atS p.items) d o).isSome
theorem vS_stop {Ls : List Syntax} {p : Syntax} {d : Int} {o : List Capture} {k : Nat} (hk : k ≤ p.items.length) (h : vbS Ls p d o k = false) : vaS Ls p d o k = vaS Ls p d o p.items.length ∧ vbS Ls p d o p.items.length = false := by
  unfold vaS vbS at *
  by_cases e : okS p.items = true
  · rw [e] at h
    cases e2 : wlk (vrS Ls) (p.items.take k) 0 (atS p.items) d o with
    | none => rw [if_pos e, if_pos e, List.take_length, wlk_none e2]; simp
    | some v => rw [e2] at h; cases h
  · have e' : okS p.items = false := by simpa using e
    rw [if_neg e, if_neg e, e']; simp
theorem vS_skip {Ls : List Syntax} {p : Syntax} {d : Int} {o : List Capture} {k : Nat} (hk : k < p.items.length) (h : vbS Ls p d o k = true) (e : (k : Int) = atS p.items) : vaS Ls p d o (k + 1) = vaS Ls p d o k ∧ vbS Ls p d o (k + 1) = true := by
  unfold vaS vbS at *
  simp only [Bool.and_eq_true] at h
  obtain ⟨v, hv⟩ := Option.isSome_iff_exists.1 h.2
  rw [if_pos h.1, if_pos h.1, wlk_step hk hv, if_pos e, hv, h.1]; simp
theorem vS_go {Ls : List Syntax} {p : Syntax} {d : Int} {o : List Capture} {k : Nat} (hk : k < p.items.length) (h : vbS Ls p d o k = true) (e : ¬ (k : Int) = atS p.items) :
    vaS Ls p d o (k + 1) = (vrS Ls (p.items.getD k default) (if (k : Int) + 1 = atS p.items then d + 1 else d) (vaS Ls p d o k)).getD [] ∧ vbS Ls p d o (k + 1) = (vrS Ls (p.items.getD k default) (if (k : Int) + 1 = atS p.items then d + 1 else d) (vaS Ls p d o k)).isSome := by
  unfold vaS vbS at *
  simp only [Bool.and_eq_true] at h
  obtain ⟨v, hv⟩ := Option.isSome_iff_exists.1 h.2
  rw [if_pos h.1, if_pos h.1, wlk_step hk hv, if_neg e, hv, h.1]; simp
theorem vS_len {Ls : List Syntax} {p : Syntax} {d : Int} {o : List Capture} {k : Nat} (h : vbS Ls p d o k = true) : (vaS Ls p d o k).length ≤ o.length + sumBy sizeY (p.items.take k) := by
  unfold vaS vbS at *
  simp only [Bool.and_eq_true] at h
  obtain ⟨v, hv⟩ := Option.isSome_iff_exists.1 h.2
  rw [if_pos h.1, hv]
  exact wlk_len (vrS Ls) _ (fun x _ d o o' h => vrS_len Ls x d o o' h) _ _ _ _ _ hv
theorem vS_ok {Ls : List Syntax} {p : Syntax} {d : Int} {o : List Capture} {k : Nat} (h : vbS Ls p d o k = true) : okS p.items = true := by
  unfold vbS at h; simp only [Bool.and_eq_true] at h; exact h.1
theorem vS_end (Ls : List Syntax) (p : Syntax) (d : Int) (o : List Capture) (hk : ¬ p.kind = 1) : (vrS Ls p d o).isSome = vbS Ls p d o p.items.length ∧ (vbS Ls p d o p.items.length = true → (vrS Ls p d o).getD [] = vaS Ls p d o p.items.length) ∧ (vbS Ls p d o p.items.length = false → (vrS Ls p d o).getD [] = []) := by
  rw [vrS_eq, if_neg hk]
  unfold vaS vbS
  rw [List.take_length]
  by_cases e : okS p.items = true
  · rw [if_pos e, if_pos e, e]
    cases wlk (vrS Ls) p.items 0 (atS p.items) d o <;> simp
  · have e' : okS p.items = false := by simpa using e
    rw [if_neg e, if_neg e, e']; simp
theorem size_item {p : Syntax} {k : Nat} (h : k < p.items.length) : sumBy sizeY (p.items.take k) + sizeY (p.items.getD k default) + 1 ≤ sizeY p ∧ wY (p.items.getD k default) ≤ wY p := by
  have g1 := sizeY_eq p
  have g2 := @sumBy_step _ _ sizeY p.items k h
  have g3 := sumBy_takeLe sizeY p.items (k + 1)
  have g4 := @sumBy_mem _ wY p.items _ (getD_mem' h)
  have g5 := wY_eq p
  omega
theorem cap_snoc (o : List Capture) (p : Syntax) (d : Int) : o.map captureC ++ [[cI p.kind, cI p.number, cS p.text, Cell.list (List.map intC p.scopes), Cell.list (List.map syntaxC p.items), cI d, cI 0, cI 0, cS (mkS []), Cell.list [], Cell.list [], Cell.list []]] = (o ++ [cap1 p d]).map captureC :=
  rowSnoc (C := captureC) o (cap1 p d)
theorem vrS_out (Ls : List Syntax) (p : Syntax) (d : Int) (o : List Capture) (hk : p.kind = 1) (h : isUnd p = true ∨ hasI Ls p = true) : vrS Ls p d o = some o := by
  rw [vrS_eq, if_pos hk, if_pos h]
theorem vrS_bad (Ls : List Syntax) (p : Syntax) (d : Int) (o : List Capture) (hk : p.kind = 1) (h : isUnd p = false) (h2 : hasI Ls p = false) (h3 : isDots p = true ∨ 0 ≤ fnd o p ∨ 3 < d) : vrS Ls p d o = none := by
  rw [vrS_eq, if_pos hk, if_neg (by rw [h, h2]; simp), if_pos h3]
theorem vrS_new (Ls : List Syntax) (p : Syntax) (d : Int) (o : List Capture) (hk : p.kind = 1) (h : isUnd p = false) (h2 : hasI Ls p = false) (h3 : isDots p = false) (h4 : fnd o p < 0) (h5 : d ≤ 3) : vrS Ls p d o = some (o ++ [cap1 p d]) := by
  rw [vrS_eq, if_pos hk, if_neg (by rw [h, h2]; simp), if_neg (by rw [h3]; simp; omega)]
abbrev P_c_sVars (Ls : List Syntax) (p : Syntax) (d : Int) (o : List Capture) : Ct := ⟨134, [.arr true 12 (o.map captureC)], [ll (Ls.map syntaxC), syntaxA p, li d, .one (.ref 0)], [.dead, .arr true 12 (((vrS Ls p d o).getD []).map captureC)], .tup [.one (.ref 1), lb (vrS Ls p d o).isSome]⟩
def lc_sVars_sLa (Ls : List Syntax) (p : Syntax) (d : Int) (o : List Capture) : Lp Nat := .mk 84 1 (fun x => [(0, ll (List.map syntaxC Ls)), (2, li d), (3, SV.one (AC.ref 1)), (10,
 li (if okS p.items = true then atS p.items else (-1 : Int))), (11, hs x 1), (53, ll (List.map syntaxC p.items)), (54, li (↑(List.map syntaxC p.items).length : Int)), (55, hs x
 0)]) (fun x => [Ob.dead, ho x 2]) (fun k => [.s (li (↑k : Int)), .s (lb (vbS Ls p d o k)), .o (Ob.arr true 12 (List.map captureC (vaS Ls p d o k)))]) (fun k => k ≤ p.items.length
 ∧ p.items.length ≤ 9223372036854775807) (fun k => p.items.length - k) [.mk True (.exit 0) (fun x => [(3, SV.one (AC.ref 1)), (11, hs x 0)]) (fun x => [Ob.dead, ho x 1]) [.s (lb
 (vbS Ls p d o p.items.length)), .o (Ob.arr true 12 (List.map captureC (vaS Ls p d o p.items.length)))]]
theorem Sc_sVars_sLa (Ls : List Syntax) (p : Syntax) (d : Int) (o : List Capture) (h : 0 ≤ d ∧ d + (↑(depY p) : Int) ≤ 1000 ∧ wY p ≤ 1048576 ∧ o.length + sizeY p ≤ 2147483647) (ih
 : ∀ (z : Syntax), z ∈ p.items → ∀ (Ls : List Syntax) (d : Int) (o : List Capture), 0 ≤ d ∧ d + (↑(depY z) : Int) ≤ 1000 ∧ wY z ≤ 1048576 ∧ o.length + sizeY z ≤ 2147483647 → OK
 (P_c_sVars Ls z d o)) : Lp.Sem Tryz.prog (loopAt Tryz.f134 0) (lc_sVars_sLa Ls p d o) := lpOK (fun k => .i ((↑k : Int) < (↑(List.map syntaxC p.items).length : Int)) (.x (↑k : Int)
 (List.map syntaxC p.items) (syntaxF (p.items.getD k default)) (.b (!vbS Ls p d o k) (.o 0 [0, 1] [.s (lb (vbS Ls p d o k)), .o (Ob.arr true 12 (List.map captureC (vaS Ls p d o
 k)))]) (.i ((↑k : Int) = if okS p.items = true then atS p.items else (-1 : Int)) (.r ((↑k : Int) + 1) (.g [0, 1] (k + 1) [.s (li ((↑k : Int) + 1)), .s (lb (vbS Ls p d o k)), .o
 (Ob.arr true 12 (List.map captureC (vaS Ls p d o k)))])) (.r ((↑k : Int) + 1) (.i ((↑k : Int) + 1 = if okS p.items = true then atS p.items else (-1 : Int)) (.r (d + 1) (.d [.rd,
 .rd, .rd, .own true 12] (P_c_sVars Ls (p.items.getD k default) (d + 1) (vaS Ls p d o k)) (.r ((↑k : Int) + 1) (.g [0, 4] (k + 1) [.s (li ((↑k : Int) + 1)), .s (lb (vrS Ls
 (p.items.getD k default) (d + 1) (vaS Ls p d o k)).isSome), .o (Ob.arr true 12 (List.map captureC ((vrS Ls (p.items.getD k default) (d + 1) (vaS Ls p d o k)).getD [])))])))) (.d
 [.rd, .rd, .rd, .own true 12] (P_c_sVars Ls (p.items.getD k default) d (vaS Ls p d o k)) (.r ((↑k : Int) + 1) (.g [0, 4] (k + 1) [.s (li ((↑k : Int) + 1)), .s (lb (vrS Ls
 (p.items.getD k default) d (vaS Ls p d o k)).isSome), .o (Ob.arr true 12 (List.map captureC ((vrS Ls (p.items.getD k default) d (vaS Ls p d o k)).getD [])))])))))))) (.o 0 [0, 1]
 [.s (lb (vbS Ls p d o k)), .o (Ob.arr true 12 (List.map captureC (vaS Ls p d o k)))])) (by
  intro k h; try dsimp only [teasy, nthW, lc_sVars_sLa] at h ⊢
  have g1 := @vS_stop Ls p d o k
  have g2 := @vS_skip Ls p d o k
  have g3 := @vS_go Ls p d o k
  have g4 := @vS_len Ls p d o k
  have g5 := @vS_ok Ls p d o k
  have g6 := @depY_item p k
  have g7 := @size_item p k
  have g8 : k < p.items.length ∨ k = p.items.length ∨ p.items.length < k := by omega
  with_reducible repeat' (first | apply And.intro | exact zR | exact ih | (intro; skip) | apply c_sCopyY | apply ih)
  all_goals (try simp only [std, inj] at *)
  all_goals with_reducible repeat' apply And.intro
  all_goals (try (first | with_reducible apply c_sCopyY | with_reducible apply ih | (simp only [← List.map_append]; first | with_reducible apply c_sCopyY | with_reducible apply ih)))
  all_goals (try (first | exact z | grind [getD_mem', snocI, snocS, rowSnoc])))
theorem c_sVars_s (Ls : List Syntax) (p : Syntax) (d : Int) (o : List Capture) (h : 0 ≤ d ∧ d + depY p ≤ 1000 ∧ wY p ≤ 1048576 ∧ o.length + sizeY p ≤ 2147483647) (ih : ∀ z ∈
 p.items, ∀ (Ls : List Syntax) (d : Int) (o : List Capture) (h : 0 ≤ d ∧ d + depY z ≤ 1000 ∧ wY z ≤ 1048576 ∧ o.length + sizeY z ≤ 2147483647), P_c_sVars Ls z d o)  : P_c_sVars Ls
 p d o := fnOK Tryz.call134 Tryz.func134 (.i (p.kind = 1) (.i (p.text.data.toList = [(95 : UInt8)]) (.y true (.w (.ghost (.move 0)) (.f [2] [Ob.dead, Ob.arr true 12 (List.map
 captureC o)] (AV.tup [SV.one (AC.ref 1), lb true])))) (.c [.rd, .rd] (c_sHasI Ls p) (.b (hasI Ls p) (.w (.ghost (.move 0)) (.f [2] [Ob.dead, Ob.arr true 12 (List.map captureC o)]
 (AV.tup [SV.one (AC.ref 1), lb true]))) (.c [.rd] (c_sDots p) (.b (isDots p) (.y true (.y true (.w (.ghost (.nilreg 8 true 12)) (.w (.ghost (.move 0)) (.f [2] [Ob.dead, Ob.arr
 true 12 []] (AV.tup [SV.one (AC.ref 1), lb false])))))) (.c [.rd, .rd] (c_sFind o p) (.i (0 ≤ fnd o p) (.y true (.w (.ghost (.nilreg 8 true 12)) (.w (.ghost (.move 0)) (.f [2]
 [Ob.dead, Ob.arr true 12 []] (AV.tup [SV.one (AC.ref 1), lb false]))))) (.i (3 < d) (.w (.ghost (.nilreg 8 true 12)) (.w (.ghost (.move 0)) (.f [2] [Ob.dead, Ob.arr true 12 []]
 (AV.tup [SV.one (AC.ref 1), lb false])))) (.d [.rd] (P_c_sCopyY p) (.p (((List.map captureC o).length + 1) * 192 ≤ 140737488355328) (.f [5] [Ob.dead, Ob.arr true 12 (List.map
 captureC o ++ [[cI p.kind, cI p.number, cS p.text, Cell.list (List.map intC p.scopes), Cell.list (List.map syntaxC p.items), cI d, cI 0, cI 0, cS (ByteArray.mk #[]), Cell.list [],
 Cell.list [], Cell.list []]])] (AV.tup [SV.one (AC.ref 1), lb true])))))))))))) (.c [.rd] (c_sAt p.items) (.z syntaxC p.items (.w (.ghost (.move 0)) (.l (lc_sVars_sLa Ls p d o)
 (Sc_sVars_sLa Ls p d o h ih) [0, 2] [.s (li 0), .s (lb (okS p.items)), .o (Ob.arr true 12 (List.map captureC o))] 0 (.t (.b (!vbS Ls p d o p.items.length) (.w (.ghost (.nilreg 8
 true 12)) (.f [2] [Ob.dead, Ob.arr true 12 []] (AV.tup [SV.one (AC.ref 1), lb false]))) (.f [1] [Ob.dead, Ob.arr true 12 (List.map captureC (vaS Ls p d o p.items.length))] (AV.tup
 [SV.one (AC.ref 1), lb true]))) .q)))))) (by
  dsimp only [teasy, P_c_sVars, nthW, lc_sVars_sLa]
  have g1 := vS_end Ls p d o
  have g2 := sizeY_eq p
  have g3 : isUnd p = decide (p.text.data.toList = [95]) := rfl
  have g4 := vrS_out Ls p d o
  have g5 := vrS_bad Ls p d o
  have g6 := vrS_new Ls p d o
  have g7 : ¬p.kind = 1 → okS p.items = false → vbS Ls p d o 0 = false := fun _ h => by unfold vbS; rw [h]; rfl
  have g8 : okS p.items = true → vbS Ls p d o 0 = true := fun h => by unfold vbS; rw [h]; simp [wlk]
  have g9 : vaS Ls p d o 0 = o := by unfold vaS; split <;> simp [wlk]
  have g10 : okS p.items = vbS Ls p d o 0 := by unfold vbS; simp [wlk]
  have g11 := cap_snoc o p d
  have g12 : p.kind = 1 → isUnd p = false → hasI Ls p = false → isDots p = false → fnd o p < 0 → d ≤ 3 → (vrS Ls p d o).getD [] = o ++ [cap1 p d] := fun a b c e f g => by rw [g6 a b c e f g]; rfl
  with_reducible repeat' (first | apply And.intro | exact zR | exact ih | (intro; skip) | apply c_sCopyY)
  all_goals (try simp only [std, inj] at *)
  all_goals with_reducible repeat' apply And.intro
  all_goals (try (first | with_reducible apply c_sCopyY | with_reducible apply ih | (simp only [← List.map_append]; first | with_reducible apply c_sCopyY | with_reducible apply ih)))
  all_goals (try (first | exact z | grind [snocI, snocS, rowSnoc])))
theorem c_sVars (p : Syntax) : ∀ (Ls : List Syntax) (d : Int) (o : List Capture) (h : 0 ≤ d ∧ d + depY p ≤ 1000 ∧ wY p ≤ 1048576 ∧ o.length + sizeY p ≤ 2147483647), P_c_sVars Ls p d o := Syntax.ind (P := fun p => ∀ (Ls : List Syntax) (d : Int) (o : List Capture) (h : 0 ≤ d ∧ d + depY p ≤ 1000 ∧ wY p ≤ 1048576 ∧ o.length + sizeY p ≤ 2147483647), P_c_sVars Ls p d o) (fun p ih Ls d o h => c_sVars_s Ls p d o h ih) p
abbrev P_c_sPat (Ls : List Syntax) (p : Syntax) : Ct := ⟨103, [], [ll (Ls.map syntaxC), syntaxA p], [.arr true 12 ((if okL Ls = true ∧ isSyn p = true then (vrS Ls p 0 []).getD [] else []).map captureC)], .tup [.one (.ref 0), lb (okL Ls && isSyn p && (vrS Ls p 0 []).isSome)]⟩
theorem c_sPat (Ls : List Syntax) (p : Syntax) (h : wY p ≤ 1048576)  : P_c_sPat Ls p := fnOK Tryz.call103 Tryz.func103 (.c [.rd] (c_sLits Ls) (.b (!okL Ls) (.y true (.w (.ghost
 (.nilreg 4 true 12)) (.f [1] [Ob.arr true 12 []] (AV.tup [SV.one (AC.ref 0), lb false])))) (.c [.rd] (c_sIsSyntax p) (.b (!isSyn p) (.w (.ghost (.nilreg 4 true 12)) (.f [1]
 [Ob.arr true 12 []] (AV.tup [SV.one (AC.ref 0), lb false]))) (.w (.bool false) (.d [.rd, .rd, .rd, .own true 12] (P_c_sVars Ls p 0 []) (.f [3] [Ob.arr true 12 (List.map captureC
 ((vrS Ls p 0 []).getD []))] (AV.tup [SV.one (AC.ref 0), lb (vrS Ls p 0 []).isSome])))))))) (by
  dsimp only [teasy, P_c_sPat]
  have g : isSyn p = true → sizeY p ≤ 2000 ∧ depY p ≤ 40 := fun h => by simp only [isSyn, Bool.and_eq_true, decide_eq_true_eq] at h; exact ⟨h.1.1, h.1.2⟩
  with_reducible repeat' (first | apply And.intro | exact zR | (intro; skip) | apply c_sVars)
  all_goals (try simp only [std, inj] at *)
  all_goals with_reducible repeat' apply And.intro
  all_goals (try (first | with_reducible apply c_sVars | (simp only [← List.map_append]; first | with_reducible apply c_sVars)))
  all_goals (try (first | exact z | grind [snocI, snocS, rowSnoc])))
mutual
def vrI (Ls : List Syntax) : Syntax → Int → List Capture → Option (List Capture)
  | ⟨k, n, t, s, l⟩, d, o => if k = 1 then (if isDots ⟨k, n, t, s, l⟩ = true then none else if isUnd ⟨k, n, t, s, l⟩ = true ∨ hasJ Ls ⟨k, n, t, s, l⟩ = true then some o else
      if 3 < d then none else if (o.any fun c => sameB c.name ⟨k, n, t, s, l⟩) = true then none else some (o ++ [cap1 ⟨k, n, t, s, l⟩ d]))
    else if k ≠ 0 then some o else if atI l = 0 then none else vrIs Ls l 0 (atI l) d o
def vrIs (Ls : List Syntax) : List Syntax → Int → Int → Int → List Capture → Option (List Capture)
  | [], _, _, _, o => some o
  | x :: r, i, a, d, o => if i = a then vrIs Ls r (i + 1) a d o else match vrI Ls x (if i + 1 = a then d + 1 else d) o with
    | none => none
    | some o' => vrIs Ls r (i + 1) a d o'
end
theorem vrIs_eq (Ls : List Syntax) : ∀ l i a d o, vrIs Ls l i a d o = wlk (vrI Ls) l i a d o
  | [], i, a, d, o => by simp [vrIs, wlk]
  | x :: r, i, a, d, o => by
    simp only [vrIs, wlk, vrIs_eq Ls r]
theorem vrI_eq (Ls : List Syntax) (p : Syntax) (d : Int) (o : List Capture) : vrI Ls p d o = if p.kind = 1 then (if isDots p = true then none else if isUnd p = true ∨ hasJ Ls p = true then some o else
      if 3 < d then none else if (o.any fun c => sameB c.name p) = true then none else some (o ++ [cap1 p d]))
    else if p.kind ≠ 0 then some o else if atI p.items = 0 then none else wlk (vrI Ls) p.items 0 (atI p.items) d o := by cases p; simp only [vrI, vrIs_eq]
theorem vrI_len (Ls : List Syntax) : ∀ (p : Syntax) (d : Int) (o o' : List Capture), vrI Ls p d o = some o' → o'.length ≤ o.length + sizeY p := by
  refine Syntax.ind fun p ih d o o' e => ?_
  rw [vrI_eq] at e
  rw [sizeY_eq]
  split at e
  · split at e
    · cases e
    · split at e
      · simp only [Option.some.injEq] at e; subst e; omega
      · split at e
        · cases e
        · split at e
          · cases e
          · simp only [Option.some.injEq] at e; subst e; simp
  · split at e
    · simp only [Option.some.injEq] at e; subst e; omega
    · split at e
      · cases e
      · have := wlk_len (vrI Ls) p.items (fun x hx d o o' h => ih x hx d o o' h) _ _ _ _ _ e; omega
def wI (Ls : List Syntax) (p : Syntax) (d : Int) (o : List Capture) (k : Nat) : Option (List Capture) := wlk (vrI Ls) (p.items.take k) 0 (atI p.items) d o
def vaI (Ls : List Syntax) (p : Syntax) (d : Int) (o : List Capture) (k : Nat) : List Capture := (wI Ls p d o k).getD []
def vbI (Ls : List Syntax) (p : Syntax) (d : Int) (o : List Capture) (k : Nat) : Bool := (wI Ls p d o k).isSome
theorem vI_skip {Ls : List Syntax} {p : Syntax} {d : Int} {o : List Capture} {k : Nat} (hk : k < p.items.length) (h : vbI Ls p d o k = true) (e : (k : Int) = atI p.items) : vaI Ls p d o (k + 1) = vaI Ls p d o k ∧ vbI Ls p d o (k + 1) = true := by
  unfold vaI vbI wI at *
  obtain ⟨v, hv⟩ := Option.isSome_iff_exists.1 h
  rw [wlk_step hk hv, if_pos e, hv]; simp
theorem vI_go {Ls : List Syntax} {p : Syntax} {d : Int} {o : List Capture} {k : Nat} (hk : k < p.items.length) (h : vbI Ls p d o k = true) (e : ¬ (k : Int) = atI p.items) :
    vaI Ls p d o (k + 1) = (vrI Ls (p.items.getD k default) (if (k : Int) + 1 = atI p.items then d + 1 else d) (vaI Ls p d o k)).getD [] ∧ vbI Ls p d o (k + 1) = (vrI Ls (p.items.getD k default) (if (k : Int) + 1 = atI p.items then d + 1 else d) (vaI Ls p d o k)).isSome := by
  unfold vaI vbI wI at *
  obtain ⟨v, hv⟩ := Option.isSome_iff_exists.1 h
  rw [wlk_step hk hv, if_neg e, hv]; simp
theorem vI_stop {Ls : List Syntax} {p : Syntax} {d : Int} {o : List Capture} {k : Nat} (h : vbI Ls p d o k = false) : vbI Ls p d o p.items.length = false := by
  unfold vbI wI at *
  cases e2 : wlk (vrI Ls) (p.items.take k) 0 (atI p.items) d o with
  | none => rw [List.take_length, wlk_none e2]; rfl
  | some v => rw [e2] at h; cases h
theorem vI_len {Ls : List Syntax} {p : Syntax} {d : Int} {o : List Capture} {k : Nat} (h : vbI Ls p d o k = true) : (vaI Ls p d o k).length ≤ o.length + sumBy sizeY (p.items.take k) := by
  unfold vaI vbI wI at *
  obtain ⟨v, hv⟩ := Option.isSome_iff_exists.1 h
  rw [hv]
  exact wlk_len (vrI Ls) _ (fun x _ d o o' h => vrI_len Ls x d o o' h) _ _ _ _ _ hv
theorem vI_end (Ls : List Syntax) (p : Syntax) (d : Int) (o : List Capture) (hk : ¬ p.kind = 1) (h0 : p.kind = 0) (ha : ¬ atI p.items = 0) : (vrI Ls p d o).isSome = vbI Ls p d o p.items.length ∧ (vrI Ls p d o).getD [] = vaI Ls p d o p.items.length := by
  rw [vrI_eq, if_neg hk, if_neg (by simp [h0]), if_neg ha]
  unfold vaI vbI wI
  rw [List.take_length]; exact ⟨rfl, rfl⟩
theorem vrI_dots {Ls : List Syntax} {p : Syntax} {d : Int} {o : List Capture} (hk : p.kind = 1) (h : isDots p = true) : vrI Ls p d o = none := by
  rw [vrI_eq, if_pos hk, if_pos h]
theorem vrI_out {Ls : List Syntax} {p : Syntax} {d : Int} {o : List Capture} (hk : p.kind = 1) (h : isDots p = false) (h2 : isUnd p = true ∨ hasJ Ls p = true) : vrI Ls p d o = some o := by
  rw [vrI_eq, if_pos hk, if_neg (by simp [h]), if_pos h2]
theorem vrI_deep {Ls : List Syntax} {p : Syntax} {d : Int} {o : List Capture} (hk : p.kind = 1) (h : isDots p = false) (h2 : isUnd p = false) (h3 : hasJ Ls p = false) (h4 : 3 < d) : vrI Ls p d o = none := by
  rw [vrI_eq, if_pos hk, if_neg (by simp [h]), if_neg (by simp [h2, h3]), if_pos h4]
theorem vrI_twice {Ls : List Syntax} {p : Syntax} {d : Int} {o : List Capture} (hk : p.kind = 1) (h : isDots p = false) (h2 : isUnd p = false) (h3 : hasJ Ls p = false) (h5 : (o.any fun c => sameB c.name p) = true) : vrI Ls p d o = none := by
  rw [vrI_eq, if_pos hk, if_neg (by simp [h]), if_neg (by simp [h2, h3])]
  split
  · rfl
  · first | rfl | rw [if_pos h5]
theorem vrI_new {Ls : List Syntax} {p : Syntax} {d : Int} {o : List Capture} (hk : p.kind = 1) (h : isDots p = false) (h2 : isUnd p = false) (h3 : hasJ Ls p = false) (h4 : d ≤ 3) (h5 : (o.any fun c => sameB c.name p) = false) : vrI Ls p d o = some (o ++ [cap1 p d]) := by
  rw [vrI_eq, if_pos hk, if_neg (by simp [h]), if_neg (by simp [h2, h3]), if_neg (by omega), if_neg (by simp [h5])]
theorem vrI_other {Ls : List Syntax} {p : Syntax} {d : Int} {o : List Capture} (hk : ¬ p.kind = 1) (h0 : ¬ p.kind = 0) : vrI Ls p d o = some o := by
  rw [vrI_eq, if_neg hk, if_pos h0]
theorem vrI_front {Ls : List Syntax} {p : Syntax} {d : Int} {o : List Capture} (hk : ¬ p.kind = 1) (h0 : p.kind = 0) (ha : atI p.items = 0) : vrI Ls p d o = none := by
  rw [vrI_eq, if_neg hk, if_neg (by simp [h0]), if_pos ha]
abbrev P_c_iVars (Ls : List Syntax) (p : Syntax) (d : Int) (o : List Capture) : Ct := ⟨189, [.arr true 12 (o.map captureC)], [ll (Ls.map syntaxC), syntaxA p, li d, .one (.ref 0)], [.dead, .arr true 12 (((vrI Ls p d o).getD []).map captureC)], .tup [.one (.ref 1), lb (vrI Ls p d o).isSome]⟩
def lc_iVars_sLb (Ls : List Syntax) (p : Syntax) (d : Int) (o : List Capture) : Lp Nat := .mk 93 1 (fun x => [(0, ll (List.map syntaxC Ls)), (2, li d), (3, SV.one (AC.ref 1)), (12,
 li (atI p.items)), (63, ll (List.map syntaxC p.items)), (64, li (↑(List.map syntaxC p.items).length : Int)), (65, hs x 0)]) (fun x => [Ob.dead, ho x 1]) (fun k => [.s (li (↑k :
 Int)), .o (Ob.arr true 12 (List.map captureC (vaI Ls p d o k)))]) (fun k => k ≤ p.items.length ∧ p.items.length ≤ 9223372036854775807 ∧ vbI Ls p d o k = true) (fun k =>
 p.items.length - k) [.mk (vbI Ls p d o p.items.length = true) (.exit 3) (fun x => [(3, SV.one (AC.ref 1))]) (fun x => [Ob.dead, ho x 0]) [.o (Ob.arr true 12 (List.map captureC
 (vaI Ls p d o p.items.length)))], .mk (vbI Ls p d o p.items.length = false) .ret (fun x => [(8, hs x 0), (9, hs x 1)]) (fun x => [Ob.dead]) [.s (SV.one (AC.val (Cell.lit
 (Value.slice none 0 0)))), .s (lb false)]]
def lc_iVars_sLa (Ls : List Syntax) (p : Syntax) (d : Int) (o : List Capture) : Lp Nat := .mk 93 1 (fun x => [(2, li d), (3, SV.one (AC.ref 1)), (5, SV.one (AC.ptr 2 0)), (34,
 SV.one (AC.ref 1)), (35, li (↑(List.map captureC o).length : Int)), (36, hs x 0)]) (fun x => [Ob.dead, Ob.arr true 12 (List.map captureC o), Ob.box (vals (syntaxF p))]) (fun k =>
 [.s (li (↑k : Int))]) (fun k => k ≤ o.length ∧ o.length ≤ 9223372036854775807 ∧ ((List.take k o).any fun c => sameB c.name p) = false) (fun k => o.length - k) [.mk ((o.any fun c
 => sameB c.name p) = false) (.exit 1) (fun x => [(2, li d), (3, SV.one (AC.ref 1)), (5, SV.one (AC.ptr 2 0))]) (fun x => [Ob.dead, Ob.arr true 12 (List.map captureC o), Ob.box
 (vals (syntaxF p))]) [], .mk ((o.any fun c => sameB c.name p) = true) .ret (fun x => [(8, hs x 0), (9, hs x 1)]) (fun x => [Ob.dead]) [.s (SV.one (AC.val (Cell.lit (Value.slice
 none 0 0)))), .s (lb false)]]
theorem Sc_iVars_sLb (Ls : List Syntax) (p : Syntax) (d : Int) (o : List Capture) (h : 0 ≤ d ∧ d + (↑(depY p) : Int) ≤ 1000 ∧ wY p ≤ 1048576 ∧ o.length + sizeY p ≤ 2147483647) (ih
 : ∀ (z : Syntax), z ∈ p.items → ∀ (Ls : List Syntax) (d : Int) (o : List Capture), 0 ≤ d ∧ d + (↑(depY z) : Int) ≤ 1000 ∧ wY z ≤ 1048576 ∧ o.length + sizeY z ≤ 2147483647 → OK
 (P_c_iVars Ls z d o)) : Lp.Sem Tryz.prog (loopAt Tryz.f189 1) (lc_iVars_sLb Ls p d o) := lpOK (fun k => .i ((↑k : Int) < (↑(List.map syntaxC p.items).length : Int)) (.x (↑k : Int)
 (List.map syntaxC p.items) (syntaxF (p.items.getD k default)) (.i ((↑k : Int) = atI p.items) (.r ((↑k : Int) + 1) (.g [0, 1] (k + 1) [.s (li ((↑k : Int) + 1)), .o (Ob.arr true 12
 (List.map captureC (vaI Ls p d o k)))])) (.r ((↑k : Int) + 1) (.i ((↑k : Int) + 1 = atI p.items) (.r (d + 1) (.d [.rd, .rd, .rd, .own true 12] (P_c_iVars Ls (p.items.getD k
 default) (d + 1) (vaI Ls p d o k)) (.b (!(vrI Ls (p.items.getD k default) (d + 1) (vaI Ls p d o k)).isSome) (.o 1 [0] [.s (SV.one (AC.val (Cell.lit (Value.slice none 0 0)))), .s
 (lb false)]) (.r ((↑k : Int) + 1) (.g [0, 4] (k + 1) [.s (li ((↑k : Int) + 1)), .o (Ob.arr true 12 (List.map captureC ((vrI Ls (p.items.getD k default) (d + 1) (vaI Ls p d o
 k)).getD [])))]))))) (.d [.rd, .rd, .rd, .own true 12] (P_c_iVars Ls (p.items.getD k default) d (vaI Ls p d o k)) (.b (!(vrI Ls (p.items.getD k default) d (vaI Ls p d o
 k)).isSome) (.o 1 [0] [.s (SV.one (AC.val (Cell.lit (Value.slice none 0 0)))), .s (lb false)]) (.r ((↑k : Int) + 1) (.g [0, 4] (k + 1) [.s (li ((↑k : Int) + 1)), .o (Ob.arr true
 12 (List.map captureC ((vrI Ls (p.items.getD k default) d (vaI Ls p d o k)).getD [])))])))))))) (.o 0 [0, 1] [.o (Ob.arr true 12 (List.map captureC (vaI Ls p d o k)))])) (by
  intro k h; try dsimp only [teasy, nthW, lc_iVars_sLb] at h ⊢
  have g1 := @vI_stop Ls p d o (k + 1)
  have g2 := @vI_skip Ls p d o k
  have g3 := @vI_go Ls p d o k
  have g4 := @vI_len Ls p d o k
  have g6 := @depY_item p k
  have g7 := @size_item p k
  have g8 : k < p.items.length ∨ k = p.items.length ∨ p.items.length < k := by omega
  with_reducible repeat' (first | apply And.intro | exact zR | exact ih | (intro; skip) | apply c_iDots | apply c_iCopyY | apply ih)
  all_goals (try simp only [std, inj] at *)
  all_goals with_reducible repeat' apply And.intro
  all_goals (try (first | with_reducible apply c_iDots | with_reducible apply c_iCopyY | with_reducible apply ih | (simp only [← List.map_append]; first | with_reducible apply c_iDots | with_reducible apply c_iCopyY | with_reducible apply ih)))
  all_goals (try (first | exact z | grind [getD_mem', snocI, snocS, rowSnoc])))
theorem Sc_iVars_sLa (Ls : List Syntax) (p : Syntax) (d : Int) (o : List Capture) (h : 0 ≤ d ∧ d + (↑(depY p) : Int) ≤ 1000 ∧ wY p ≤ 1048576 ∧ o.length + sizeY p ≤ 2147483647) (ih
 : ∀ (z : Syntax), z ∈ p.items → ∀ (Ls : List Syntax) (d : Int) (o : List Capture), 0 ≤ d ∧ d + (↑(depY z) : Int) ≤ 1000 ∧ wY z ≤ 1048576 ∧ o.length + sizeY z ≤ 2147483647 → OK
 (P_c_iVars Ls z d o)) : Lp.Sem Tryz.prog (loopAt Tryz.f189 0) (lc_iVars_sLa Ls p d o) := lpOK (fun k => .i ((↑k : Int) < (↑(List.map captureC o).length : Int)) (.p (0 ≤ (↑k : Int)
 ∧ (↑k : Int).toNat < (List.map captureC o).length) (.w (.cells (captureF (o.getD (↑k : Int).toNat default))) (.p ((List.map captureC o)[(↑k : Int).toNat]? = some (captureF (o.getD
 (↑k : Int).toNat default))) (.c [.rd, .rd] (c_iSame (o.getD (↑k : Int).toNat default).name p) (.b (decide ((o.getD (↑k : Int).toNat default).name.kind = 1) && decide (p.kind = 1)
 && decide ((o.getD (↑k : Int).toNat default).name.text = p.text) && decide ((o.getD (↑k : Int).toNat default).name.scopes = p.scopes)) (.o 1 [0] [.s (SV.one (AC.val (Cell.lit
 (Value.slice none 0 0)))), .s (lb false)]) (.r ((↑k : Int) + 1) (.g [0, 1, 2] (k + 1) [.s (li ((↑k : Int) + 1))]))))))) (.o 0 [0, 1, 2] [])) (by
  intro k h; try dsimp only [teasy, nthW, lc_iVars_sLa] at h ⊢
  have g : k < o.length → sameB (o.getD k default).name p = true → (o.any fun c => sameB c.name p) = true := fun h1 h2 => by
    rw [List.any_eq_true]; exact ⟨_, getD_mem' h1, h2⟩
  have g2 : sameB (o.getD k default).name p = (decide ((o.getD k default).name.kind = 1) && decide (p.kind = 1) && decide ((o.getD k default).name.text = p.text) && decide ((o.getD k default).name.scopes = p.scopes)) := rfl
  with_reducible repeat' (first | apply And.intro | exact zR | exact ih | (intro; skip) | apply c_iDots | apply c_iCopyY)
  all_goals (try simp only [std, inj] at *)
  all_goals with_reducible repeat' apply And.intro
  all_goals (try (first | with_reducible apply c_iDots | with_reducible apply c_iCopyY | with_reducible apply ih | (simp only [← List.map_append]; first | with_reducible apply c_iDots | with_reducible apply c_iCopyY | with_reducible apply ih)))
  all_goals (try (first | exact z | grind [take_get, snocI, snocS, rowSnoc])))
theorem c_iVars_s (Ls : List Syntax) (p : Syntax) (d : Int) (o : List Capture) (h : 0 ≤ d ∧ d + depY p ≤ 1000 ∧ wY p ≤ 1048576 ∧ o.length + sizeY p ≤ 2147483647) (ih : ∀ z ∈
 p.items, ∀ (Ls : List Syntax) (d : Int) (o : List Capture) (h : 0 ≤ d ∧ d + depY z ≤ 1000 ∧ wY z ≤ 1048576 ∧ o.length + sizeY z ≤ 2147483647), P_c_iVars Ls z d o)  : P_c_iVars Ls
 p d o := fnOK Tryz.call189 Tryz.func189 (.i (p.kind = 1) (.c [.rd] (c_iDots p) (.b (isDots p) (.w (.ghost (.nilreg 8 true 12)) (.w (.ghost (.move 0)) (.f [2] [Ob.dead, Ob.arr true
 12 []] (AV.tup [SV.one (AC.ref 1), lb false])))) (.c [.rd] (c_iWild p) (.b (decide (p.kind = 1) && isUnd p) (.y true (.w (.ghost (.move 0)) (.f [2] [Ob.dead, Ob.arr true 12
 (List.map captureC o)] (AV.tup [SV.one (AC.ref 1), lb true])))) (.c [.rd, .rd] (c_iHasJ Ls p) (.b (hasJ Ls p) (.w (.ghost (.move 0)) (.f [2] [Ob.dead, Ob.arr true 12 (List.map
 captureC o)] (AV.tup [SV.one (AC.ref 1), lb true]))) (.i (3 < d) (.w (.ghost (.nilreg 8 true 12)) (.w (.ghost (.move 0)) (.f [2] [Ob.dead, Ob.arr true 12 []] (AV.tup [SV.one
 (AC.ref 1), lb false])))) (.z captureC o (.w (.ghost (.move 0)) (.l (lc_iVars_sLa Ls p d o) (Sc_iVars_sLa Ls p d o h ih) [0, 2, 1] [.s (li 0)] 0 (.t (.d [.rd] (P_c_iCopyY p) (.p
 (((List.map captureC o).length + 1) * 192 ≤ 140737488355328) (.f [6] [Ob.dead, Ob.arr true 12 (List.map captureC o ++ [[cI p.kind, cI p.number, cS p.text, Cell.list (List.map intC
 p.scopes), Cell.list (List.map syntaxC p.items), cI d, cI 0, cI 0, cS (ByteArray.mk #[]), Cell.list [], Cell.list [], Cell.list []]])] (AV.tup [SV.one (AC.ref 1), lb true])))) (.t
 (.w (.ghost (.nilreg 8 true 12)) (.f [1] [Ob.dead, Ob.arr true 12 []] (AV.tup [SV.one (AC.ref 1), lb false]))) .q)))))))))))) (.i (p.kind ≠ 0) (.w (.ghost (.move 0)) (.f [2]
 [Ob.dead, Ob.arr true 12 (List.map captureC o)] (AV.tup [SV.one (AC.ref 1), lb true]))) (.c [.rd] (c_iAt p.items) (.i (atI p.items = 0) (.w (.ghost (.nilreg 8 true 12)) (.w
 (.ghost (.move 0)) (.f [2] [Ob.dead, Ob.arr true 12 []] (AV.tup [SV.one (AC.ref 1), lb false])))) (.z syntaxC p.items (.w (.ghost (.move 0)) (.l (lc_iVars_sLb Ls p d o)
 (Sc_iVars_sLb Ls p d o h ih) [0, 2] [.s (li 0), .o (Ob.arr true 12 (List.map captureC o))] 0 (.t (.f [1] [Ob.dead, Ob.arr true 12 (List.map captureC (vaI Ls p d o
 p.items.length))] (AV.tup [SV.one (AC.ref 1), lb true])) (.t (.w (.ghost (.nilreg 8 true 12)) (.f [1] [Ob.dead, Ob.arr true 12 []] (AV.tup [SV.one (AC.ref 1), lb false])))
 .q))))))))) (by
  dsimp only [teasy, P_c_iVars, nthW, lc_iVars_sLa, lc_iVars_sLb]
  have g1 := vI_end Ls p d o
  have g2 := sizeY_eq p
  have g3 := @vrI_dots Ls p d o
  have g4 := @vrI_out Ls p d o
  have g5 := @vrI_deep Ls p d o
  have g6 := @vrI_twice Ls p d o
  have g7 := @vrI_new Ls p d o
  have g8 := @vrI_other Ls p d o
  have g9 := @vrI_front Ls p d o
  have g10 : vbI Ls p d o 0 = true := by unfold vbI wI; simp [wlk]
  have g11 : vaI Ls p d o 0 = o := by unfold vaI wI; simp [wlk]
  have g12 := cap_snoc o p d
  have g13 : isUnd p = decide (p.text.data.toList = [95]) := rfl
  have g14 : p.kind = 1 → isDots p = false → isUnd p = false → hasJ Ls p = false → d ≤ 3 → (o.any fun c => sameB c.name p) = false → (vrI Ls p d o).getD [] = o ++ [cap1 p d] := fun a b c e f g => by rw [g7 a b c e f g]; rfl
  have g15 : (vrI Ls p d o).isSome = false → (vrI Ls p d o).getD [] = [] := fun h => by cases e : vrI Ls p d o <;> simp_all
  with_reducible repeat' (first | apply And.intro | exact zR | exact ih | (intro; skip) | apply c_iDots | apply c_iCopyY)
  all_goals (try simp only [std, inj] at *)
  all_goals with_reducible repeat' apply And.intro
  all_goals (try (first | with_reducible apply c_iDots | with_reducible apply c_iCopyY | with_reducible apply ih | (simp only [← List.map_append]; first | with_reducible apply c_iDots | with_reducible apply c_iCopyY | with_reducible apply ih)))
  all_goals (try (first | exact z | grind [snocI, snocS, rowSnoc])))
theorem c_iVars (p : Syntax) : ∀ (Ls : List Syntax) (d : Int) (o : List Capture) (h : 0 ≤ d ∧ d + depY p ≤ 1000 ∧ wY p ≤ 1048576 ∧ o.length + sizeY p ≤ 2147483647), P_c_iVars Ls p d o := Syntax.ind (P := fun p => ∀ (Ls : List Syntax) (d : Int) (o : List Capture) (h : 0 ≤ d ∧ d + depY p ≤ 1000 ∧ wY p ≤ 1048576 ∧ o.length + sizeY p ≤ 2147483647), P_c_iVars Ls p d o) (fun p ih Ls d o h => c_iVars_s Ls p d o h ih) p
theorem hasI_hasJ {Ls : List Syntax} {p : Syntax} (hL : ∀ x ∈ Ls, litP x = true) (hk : p.kind = 1) : hasI Ls p = hasJ Ls p := by
  unfold hasI hasJ
  rw [Bool.eq_iff_iff]; simp only [List.any_eq_true]
  constructor
  · rintro ⟨x, hx, e⟩
    have := hL x hx
    simp only [litP_at, Bool.and_eq_true, decide_eq_true_eq] at this e
    exact ⟨x, hx, by simp only [sameB, Bool.and_eq_true, decide_eq_true_eq]; exact ⟨⟨⟨this.1.1.1, hk⟩, e.1⟩, e.2⟩⟩
  · rintro ⟨x, hx, e⟩
    simp only [sameB, Bool.and_eq_true, decide_eq_true_eq] at e
    exact ⟨x, hx, by simp only [Bool.and_eq_true, decide_eq_true_eq]; exact ⟨e.1.2, e.2⟩⟩
theorem lit_dots {Ls : List Syntax} {p : Syntax} (hL : ∀ x ∈ Ls, litP x = true) (hd : isDots p = true) : hasI Ls p = false ∧ isUnd p = false := by
  simp only [isDots, Bool.and_eq_true, decide_eq_true_eq] at hd
  constructor
  · unfold hasI; rw [List.any_eq_false]
    intro x hx e
    have := hL x hx
    simp only [litP_at, Bool.and_eq_true, decide_eq_true_eq, Bool.not_eq_true', isDots, Bool.and_eq_false_iff, decide_eq_false_iff_not] at this e
    rcases this.1.2 with h | h
    · exact h this.1.1.1
    · exact h (by rw [e.1]; exact hd.2)
  · unfold isUnd; rw [hd.2]; rfl
theorem fnd_any {o : List Capture} {p : Syntax} (ho : ∀ x ∈ o, isId x.name = true) (hk : p.kind = 1) (hd : isDots p = false) : (o.any fun c => sameB c.name p) = true ↔ 0 ≤ fnd o p := by
  have h1 : fndN o p < o.length ↔ ∃ x ∈ o, capFor p x = true := List.findIdx_lt_length
  have h2 : (o.any fun c => sameB c.name p) = true ↔ fndN o p < o.length := by
    rw [h1, List.any_eq_true]
    constructor
    · rintro ⟨x, hx, e⟩
      refine ⟨x, hx, ?_⟩
      simp only [sameB, Bool.and_eq_true, decide_eq_true_eq] at e
      simp only [capFor, Bool.and_eq_true, decide_eq_true_eq]
      exact ⟨⟨e.1.2, e.2⟩, ho x hx⟩
    · rintro ⟨x, hx, e⟩
      refine ⟨x, hx, ?_⟩
      simp only [capFor, isId, Bool.and_eq_true, decide_eq_true_eq] at e
      simp only [sameB, Bool.and_eq_true, decide_eq_true_eq]
      exact ⟨⟨⟨e.2.1, hk⟩, e.1.1⟩, e.1.2⟩
  rw [h2]; unfold fnd; rw [hd]
  simp only [true_and]
  split <;> omega
theorem fx_ge {α : Type} [Inhabited α] {p : α → Bool} {L : List α} : ∀ k, k ≤ L.length → (∀ j, j < k → p (L.getD j default) = false) → k ≤ L.findIdx p
  | 0, _, _ => Nat.zero_le _
  | k + 1, hk, h => fx_next (by omega) (fx_ge k (by omega) fun j hj => h j (by omega)) (h k (by omega))
theorem okA_at (l : List Syntax) : ∀ k, k ≤ l.length → okA l k = true → (atF l k = -1 ∧ ∀ j, j < k → isDots (l.getD j default) = false) ∨ ∃ m : Nat, 0 < m ∧ m < k ∧ atF l k = m ∧ isDots (l.getD m default) = true ∧ ∀ j, j < k → j ≠ m → isDots (l.getD j default) = false
  | 0, _, _ => .inl ⟨rfl, fun j h => absurd h (by omega)⟩
  | k + 1, hk, h => by
    simp only [okA, Bool.and_eq_true, Bool.or_eq_true, Bool.not_eq_true', decide_eq_true_eq] at h
    have ih := okA_at l k (by omega) h.1
    cases e : isDots (l.getD k default) with
    | false =>
      have e2 : atF l (k + 1) = atF l k := by simp only [atF, e]; rfl
      rcases ih with ⟨h1, h2⟩ | ⟨m, h1, h2, h3, h4, h5⟩
      · exact .inl ⟨by rw [e2]; exact h1, fun j hj => by
          by_cases ej : j = k
          · rw [ej]; exact e
          · exact h2 j (by omega)⟩
      · exact .inr ⟨m, h1, by omega, by rw [e2]; exact h3, h4, fun j hj hm => by
          by_cases ej : j = k
          · rw [ej]; exact e
          · exact h5 j (by omega) hm⟩
    | true =>
      have e2 : atF l (k + 1) = (k : Int) := by simp only [atF, e]; rfl
      rcases h.2 with h0 | ⟨h0, h0'⟩
      · rw [e] at h0; cases h0
      · rcases ih with ⟨h1, h2⟩ | ⟨m, h1, h2, h3, h4, h5⟩
        · exact .inr ⟨k, by omega, by omega, e2, e, fun j hj hm => h2 j (by omega)⟩
        · omega
theorem atI_at {l : List Syntax} {m : Nat} (hm : m < l.length) (h : isDots (l.getD m default) = true) (h2 : ∀ j, j < m → isDots (l.getD j default) = false) : atI l = m := by
  have := fx_at hm (fx_ge m (by omega) h2) h
  unfold atI; rw [this, if_pos hm]
theorem atI_ok {l : List Syntax} (h : okS l = true) : atI l = atS l ∧ atI l ≠ 0 := by
  rcases okA_at l l.length (Nat.le_refl _) h with ⟨h1, h2⟩ | ⟨m, h1, h2, h3, h4, h5⟩
  · have := fx_ge (p := isDots) l.length (Nat.le_refl _) h2
    have e : atI l = -1 := by unfold atI; rw [if_neg (by omega)]
    exact ⟨by rw [e]; exact h1.symm, by omega⟩
  · have e := atI_at h2 h4 fun j hj => h5 j (by omega) (by omega)
    exact ⟨by rw [e]; exact h3.symm, by omega⟩
theorem atI_bad {l : List Syntax} (h : okS l = false) : atI l = 0 ∨ ∃ j, j < l.length ∧ (j : Int) ≠ atI l ∧ isDots (l.getD j default) = true := by
  have : ∃ k, k < l.length ∧ okA l k = true ∧ okA l (k + 1) = false := by
    have : ∀ m, m ≤ l.length → okA l m = false → ∃ k, k < m ∧ okA l k = true ∧ okA l (k + 1) = false := by
      intro m
      induction m with
      | zero => intro _ e; cases e
      | succ m ih =>
        intro hm e
        cases e2 : okA l m with
        | true => exact ⟨m, by omega, e2, e⟩
        | false => obtain ⟨k, h1, h2⟩ := ih (by omega) e2; exact ⟨k, by omega, h2⟩
    obtain ⟨k, h1, h2⟩ := this l.length (Nat.le_refl _) h
    exact ⟨k, h1, h2⟩
  obtain ⟨k, hk, h1, h2⟩ := this
  have hd : isDots (l.getD k default) = true ∧ (k = 0 ∨ 0 ≤ atF l k) := by
    simp only [okA, h1, Bool.true_and, Bool.or_eq_false_iff, Bool.not_eq_false', Bool.and_eq_false_iff, decide_eq_false_iff_not] at h2
    exact ⟨h2.1, h2.2.elim (fun h => .inl (by omega)) fun h => .inr (by omega)⟩
  rcases hd.2 with e | e
  · subst e
    exact .inl (atI_at hk hd.1 fun j hj => absurd hj (Nat.not_lt_zero j))
  · rcases okA_at l k (by omega) h1 with ⟨h3, _⟩ | ⟨m, h3, h4, h5, h6, h7⟩
    · omega
    · have e := atI_at (by omega) h6 fun j hj => h7 j (by omega) (by omega)
      exact .inr ⟨k, hk, by omega, hd.1⟩
theorem wlk_same {f g : Syntax → Int → List Capture → Option (List Capture)} {good : List Capture → Prop} : ∀ (l : List Syntax), (∀ x ∈ l, ∀ d o, good o → f x d o = g x d o ∧ ∀ o', g x d o = some o' → good o') → ∀ i a d o, good o → wlk f l i a d o = wlk g l i a d o ∧ ∀ o', wlk g l i a d o = some o' → good o'
  | [], _, i, a, d, o, ho => ⟨rfl, fun o' e => by simp only [wlk, Option.some.injEq] at e; subst e; exact ho⟩
  | x :: r, h, i, a, d, o, ho => by
    have ih := wlk_same r fun y hy => h y (List.mem_cons_of_mem _ hy)
    simp only [wlk]
    by_cases e : i = a
    · rw [if_pos e, if_pos e]; exact ih _ _ _ _ ho
    · rw [if_neg e, if_neg e]
      have hx := h x List.mem_cons_self (if i + 1 = a then d + 1 else d) o ho
      rw [hx.1]
      cases e2 : g x (if i + 1 = a then d + 1 else d) o with
      | none => exact ⟨rfl, fun o' e => by cases e⟩
      | some o1 => exact ih _ _ _ _ (hx.2 o1 e2)
theorem wlk_bad {f : Syntax → Int → List Capture → Option (List Capture)} : ∀ (l : List Syntax) (j : Nat) (i a d : Int) (o : List Capture), j < l.length → i + (j : Int) ≠ a → (∀ d o, f (l.getD j default) d o = none) → wlk f l i a d o = none
  | [], j, _, _, _, _, h, _, _ => absurd h (by simp)
  | x :: r, 0, i, a, d, o, _, h1, h2 => by
    simp only [wlk]
    rw [if_neg (by omega)]
    have := h2 (if i + 1 = a then d + 1 else d) o
    simp only [List.getD_cons_zero] at this
    rw [this]
  | x :: r, j + 1, i, a, d, o, h, h1, h2 => by
    have ih := fun d o => wlk_bad r j (i + 1) a d o (by simpa using h) (by omega) (by simpa using h2)
    simp only [wlk]
    split
    · exact ih d o
    · split
      · rfl
      · exact ih d _
theorem isId_sym {p : Syntax} (h : okY p = true) (hk : p.kind = 1) : isId p = true := by
  have hi := okY_sym h hk
  simp only [isId, isSyn, Bool.and_eq_true, decide_eq_true_eq]
  refine ⟨hk, ⟨?_, ?_⟩, h⟩
  · rw [sizeY_eq, hi]; simp [sumBy]
  · rw [depY_eq, hi]; simp [maxBy]
theorem okY_kind {p : Syntax} (h : okY p = true) (h1 : ¬ p.kind = 1) (h0 : ¬ p.kind = 0) : p.items = [] := by
  rw [okY_eq] at h
  simp only [nodY0, nodD, Bool.and_eq_true, Bool.or_eq_true, decide_eq_true_eq] at h
  have : p.items.length = 0 := by omega
  exact List.length_eq_zero_iff.1 this
theorem vr_same {Ls : List Syntax} (hL : ∀ x ∈ Ls, litP x = true) : ∀ p : Syntax, okY p = true → ∀ d o, (∀ x ∈ o, isId x.name = true) → vrI Ls p d o = vrS Ls p d o ∧ ∀ o', vrS Ls p d o = some o' → ∀ x ∈ o', isId x.name = true := by
  refine Syntax.ind fun p ih h d o ho => ?_
  by_cases hk : p.kind = 1
  · have hn : ∀ x ∈ o ++ [cap1 p d], isId x.name = true := by
      intro x hx
      rcases List.mem_append.1 hx with hx | hx
      · exact ho x hx
      · rw [List.mem_singleton.1 hx]; exact isId_sym h hk
    cases hd : isDots p with
    | true =>
      have h1 := lit_dots hL hd
      rw [vrI_dots hk hd, vrS_bad Ls p d o hk h1.2 h1.1 (.inl hd)]
      exact ⟨rfl, fun o' e => by cases e⟩
    | false =>
      have hj := hasI_hasJ hL hk
      by_cases h1 : isUnd p = true ∨ hasI Ls p = true
      · rw [vrI_out hk hd (hj ▸ h1), vrS_out Ls p d o hk h1]
        exact ⟨rfl, fun o' e => by simp only [Option.some.injEq] at e; subst e; exact ho⟩
      · have hu : isUnd p = false := by cases e : isUnd p <;> simp_all
        have hI : hasI Ls p = false := by cases e : hasI Ls p <;> simp_all
        have hJ : hasJ Ls p = false := by rw [← hj]; exact hI
        by_cases h3 : 3 < d
        · rw [vrI_deep hk hd hu hJ h3, vrS_bad Ls p d o hk hu hI (.inr (.inr h3))]
          exact ⟨rfl, fun o' e => by cases e⟩
        · have hf := fnd_any ho hk hd
          cases h5 : (o.any fun c => sameB c.name p) with
          | true =>
            rw [vrI_twice hk hd hu hJ h5, vrS_bad Ls p d o hk hu hI (.inr (.inl (hf.1 h5)))]
            exact ⟨rfl, fun o' e => by cases e⟩
          | false =>
            have h6 : fnd o p < 0 := by
              by_cases h6 : fnd o p < 0
              · exact h6
              · rw [hf.2 (by omega)] at h5; cases h5
            rw [vrI_new hk hd hu hJ (by omega) h5, vrS_new Ls p d o hk hu hI hd h6 (by omega)]
            exact ⟨rfl, fun o' e => by simp only [Option.some.injEq] at e; subst e; exact hn⟩
  · by_cases h0 : p.kind = 0
    · rw [vrS_eq, if_neg hk]
      cases hs : okS p.items with
      | true =>
        have ha := atI_ok hs
        rw [vrI_eq, if_neg hk, if_neg (by simp [h0]), if_neg ha.2, if_pos rfl, ha.1]
        exact wlk_same (good := fun o => ∀ x ∈ o, isId x.name = true) p.items (fun x hx d o ho => ih x hx (okY_item h x hx) d o ho) _ _ _ _ ho
      | false =>
        refine ⟨?_, fun o' e => by simp at e⟩
        rw [if_neg (by simp)]
        rcases atI_bad hs with ha | ⟨j, hj, hja, hjd⟩
        · exact vrI_front hk h0 ha
        · rw [vrI_eq, if_neg hk, if_neg (by simp [h0])]
          split
          · rfl
          · refine wlk_bad p.items j _ _ _ _ hj (by omega) fun d o => vrI_dots ?_ hjd
            simp only [isDots, Bool.and_eq_true, decide_eq_true_eq] at hjd; exact hjd.1
    · have hi := okY_kind h hk h0
      rw [vrI_other hk h0, vrS_eq, if_neg hk, hi]
      simp only [okS, List.length_nil, okA, if_true, wlk]
      exact ⟨trivial, fun o' e => by simp only [Option.some.injEq] at e; subst e; exact ho⟩
theorem vr_top {Ls : List Syntax} {p : Syntax} (hL : okL Ls = true) (hp : isSyn p = true) : vrI Ls p 0 [] = vrS Ls p 0 [] := by
  simp only [okL, Bool.and_eq_true, List.all_eq_true] at hL
  simp only [isSyn, Bool.and_eq_true] at hp
  exact (vr_same hL.1 p hp.2 0 [] (fun x hx => by cases hx)).1
abbrev P_c_iPat (Ls : List Syntax) (p : Syntax) : Ct := ⟨110, [], [ll (Ls.map syntaxC), syntaxA p], [.arr true 12 ((if okL Ls = true ∧ isSyn p = true then (vrS Ls p 0 []).getD [] else []).map captureC)], .tup [.one (.ref 0), lb (okL Ls && isSyn p && (vrS Ls p 0 []).isSome)]⟩
theorem c_iPat (Ls : List Syntax) (p : Syntax) (h : wY p ≤ 1048576)  : P_c_iPat Ls p := fnOK Tryz.call110 Tryz.func110 (.c [.rd] (c_iLits Ls) (.b (!okL Ls) (.y true (.w (.ghost
 (.nilreg 4 true 12)) (.f [1] [Ob.arr true 12 []] (AV.tup [SV.one (AC.ref 0), lb false])))) (.c [.rd] (c_iIsSyntax p) (.b (!isSyn p) (.w (.ghost (.nilreg 4 true 12)) (.f [1]
 [Ob.arr true 12 []] (AV.tup [SV.one (AC.ref 0), lb false]))) (.d [.rd, .rd, .rd, .own true 12] (P_c_iVars Ls p 0 []) (.f [2] [Ob.arr true 12 (List.map captureC ((vrI Ls p 0
 []).getD []))] (AV.tup [SV.one (AC.ref 0), lb (vrI Ls p 0 []).isSome]))))))) (by
  dsimp only [teasy, P_c_iPat]
  have g : isSyn p = true → sizeY p ≤ 2000 ∧ depY p ≤ 40 := fun h => by simp only [isSyn, Bool.and_eq_true, decide_eq_true_eq] at h; exact ⟨h.1.1, h.1.2⟩
  have g2 := @vr_top Ls p
  with_reducible repeat' (first | apply And.intro | exact zR | (intro; skip) | apply c_iVars)
  all_goals (try simp only [std, inj] at *)
  all_goals with_reducible repeat' apply And.intro
  all_goals (try (first | with_reducible apply c_iVars | (simp only [← List.map_append]; first | with_reducible apply c_iVars)))
  all_goals (try (first | exact z | grind [snocI, snocS, rowSnoc])))
end Go.Proofs.YtpnaoendfpaodaaGreat
end
section
namespace Go.Proofs.YtpnaoendfpaodaaGreat
open Go Go.Proofs.YtpnaoendfpaodaaGreat.Ab
set_option linter.unusedVariables false
set_option linter.unusedSimpArgs false
set_option maxHeartbeats 4000000
set_option maxRecDepth 20000
theorem sizeY_le (s : Syntax) : sizeY s ≤ wY s + 1 := by
  refine Syntax.ind (P := fun s => sizeY s ≤ wY s + 1) (fun s ih => ?_) s
  have : ∀ L : List Syntax, (∀ x ∈ L, sizeY x ≤ wY x + 1) → sumBy sizeY L ≤ L.length + sumBy wY L := by
    intro L
    induction L with
    | nil => intro _; simp [sumBy]
    | cons x r ihr =>
      intro h
      have h1 := h x List.mem_cons_self
      have h2 := ihr fun y hy => h y (List.mem_cons_of_mem _ hy)
      simp only [sumBy, List.length_cons]; omega
  have h1 := this s.items ih
  have h2 := wY_eq s
  rw [sizeY_eq]; omega
end Go.Proofs.YtpnaoendfpaodaaGreat
end
section
namespace Go.Proofs.YtpnaoendfpaodaaGreat
open Go Go.Proofs.YtpnaoendfpaodaaGreat.Ab
set_option linter.unusedVariables false
set_option linter.unusedSimpArgs false
set_option maxHeartbeats 4000000
def formNames : List ByteArray := [mkS [113, 117, 111, 116, 101], mkS [108, 97, 109, 98, 100, 97], mkS [105, 102], mkS [115, 101, 116, 33], mkS [98, 101, 103, 105, 110], mkS [114, 101, 115, 101, 116], mkS [115, 104, 105, 102, 116], mkS [100, 101, 102, 105, 110, 101], mkS [100, 101, 102, 105, 110, 101, 45, 115, 121, 110, 116, 97, 120], mkS [108, 101, 116, 45, 115, 121, 110, 116, 97, 120], mkS [115, 121, 110, 116, 97, 120, 45, 114, 117, 108, 101, 115], mkS [108, 111, 99, 97, 108]]
def primNames : List ByteArray := [mkS [43], mkS [45], mkS [42], mkS [61], mkS [60], mkS [99, 111, 110, 115], mkS [99, 97, 114], mkS [99, 100, 114], mkS [110, 117, 108, 108, 63], mkS [112, 97, 105, 114, 63], mkS [110, 117, 109, 98, 101, 114, 63], mkS [101, 113, 63], mkS [110, 111, 116], mkS [100, 105, 115, 112, 108, 97, 121]]
abbrev P_c_sFormNames  : Ct := ⟨244, [], [], [.arr true 1 (formNames.map strC)], .sv (.one (.ref 0))⟩
theorem c_sFormNames   : P_c_sFormNames := fnOK Tryz.call244 Tryz.func244 (.f [0] [Ob.arr true 1 [[cS (ByteArray.mk #[(113 : UInt8), (117 : UInt8), (111 : UInt8), (116 : UInt8), (101
 : UInt8)])], [cS (ByteArray.mk #[(108 : UInt8), (97 : UInt8), (109 : UInt8), (98 : UInt8), (100 : UInt8), (97 : UInt8)])], [cS (ByteArray.mk #[(105 : UInt8), (102 : UInt8)])], [cS
 (ByteArray.mk #[(115 : UInt8), (101 : UInt8), (116 : UInt8), (33 : UInt8)])], [cS (ByteArray.mk #[(98 : UInt8), (101 : UInt8), (103 : UInt8), (105 : UInt8), (110 : UInt8)])], [cS
 (ByteArray.mk #[(114 : UInt8), (101 : UInt8), (115 : UInt8), (101 : UInt8), (116 : UInt8)])], [cS (ByteArray.mk #[(115 : UInt8), (104 : UInt8), (105 : UInt8), (102 : UInt8), (116
 : UInt8)])], [cS (ByteArray.mk #[(100 : UInt8), (101 : UInt8), (102 : UInt8), (105 : UInt8), (110 : UInt8), (101 : UInt8)])], [cS (ByteArray.mk #[(100 : UInt8), (101 : UInt8),
 (102 : UInt8), (105 : UInt8), (110 : UInt8), (101 : UInt8), (45 : UInt8), (115 : UInt8), (121 : UInt8), (110 : UInt8), (116 : UInt8), (97 : UInt8), (120 : UInt8)])], [cS
 (ByteArray.mk #[(108 : UInt8), (101 : UInt8), (116 : UInt8), (45 : UInt8), (115 : UInt8), (121 : UInt8), (110 : UInt8), (116 : UInt8), (97 : UInt8), (120 : UInt8)])], [cS
 (ByteArray.mk #[(115 : UInt8), (121 : UInt8), (110 : UInt8), (116 : UInt8), (97 : UInt8), (120 : UInt8), (45 : UInt8), (114 : UInt8), (117 : UInt8), (108 : UInt8), (101 : UInt8),
 (115 : UInt8)])], [cS (ByteArray.mk #[(108 : UInt8), (111 : UInt8), (99 : UInt8), (97 : UInt8), (108 : UInt8)])]]] (AV.sv (SV.one (AC.ref 0)))) (by
  dsimp only [teasy, P_c_sFormNames]
  with_reducible repeat' (first | apply And.intro | exact zR | (intro; skip))
  all_goals (try simp only [std, inj] at *)
  all_goals with_reducible repeat' apply And.intro
  all_goals (try (first | exact z | grind [snocI, snocS, rowSnoc]))
  all_goals rfl)
abbrev P_c_sPrimitiveNames  : Ct := ⟨245, [], [], [.arr true 1 (primNames.map strC)], .sv (.one (.ref 0))⟩
theorem c_sPrimitiveNames   : P_c_sPrimitiveNames := fnOK Tryz.call245 Tryz.func245 (.f [0] [Ob.arr true 1 [[cS (ByteArray.mk #[(43 : UInt8)])], [cS (ByteArray.mk #[(45 : UInt8)])],
 [cS (ByteArray.mk #[(42 : UInt8)])], [cS (ByteArray.mk #[(61 : UInt8)])], [cS (ByteArray.mk #[(60 : UInt8)])], [cS (ByteArray.mk #[(99 : UInt8), (111 : UInt8), (110 : UInt8), (115
 : UInt8)])], [cS (ByteArray.mk #[(99 : UInt8), (97 : UInt8), (114 : UInt8)])], [cS (ByteArray.mk #[(99 : UInt8), (100 : UInt8), (114 : UInt8)])], [cS (ByteArray.mk #[(110 :
 UInt8), (117 : UInt8), (108 : UInt8), (108 : UInt8), (63 : UInt8)])], [cS (ByteArray.mk #[(112 : UInt8), (97 : UInt8), (105 : UInt8), (114 : UInt8), (63 : UInt8)])], [cS
 (ByteArray.mk #[(110 : UInt8), (117 : UInt8), (109 : UInt8), (98 : UInt8), (101 : UInt8), (114 : UInt8), (63 : UInt8)])], [cS (ByteArray.mk #[(101 : UInt8), (113 : UInt8), (63 :
 UInt8)])], [cS (ByteArray.mk #[(110 : UInt8), (111 : UInt8), (116 : UInt8)])], [cS (ByteArray.mk #[(100 : UInt8), (105 : UInt8), (115 : UInt8), (112 : UInt8), (108 : UInt8), (97 :
 UInt8), (121 : UInt8)])]]] (AV.sv (SV.one (AC.ref 0)))) (by
  dsimp only [teasy, P_c_sPrimitiveNames]
  with_reducible repeat' (first | apply And.intro | exact zR | (intro; skip))
  all_goals (try simp only [std, inj] at *)
  all_goals with_reducible repeat' apply And.intro
  all_goals (try (first | exact z | grind [snocI, snocS, rowSnoc]))
  all_goals rfl)
abbrev P_c_iFormNames  : Ct := ⟨253, [], [], [.arr true 1 (formNames.map strC)], .sv (.one (.ref 0))⟩
theorem c_iFormNames   : P_c_iFormNames := fnOK Tryz.call253 Tryz.func253 (.f [0] [Ob.arr true 1 [[cS (ByteArray.mk #[(113 : UInt8), (117 : UInt8), (111 : UInt8), (116 : UInt8), (101
 : UInt8)])], [cS (ByteArray.mk #[(108 : UInt8), (97 : UInt8), (109 : UInt8), (98 : UInt8), (100 : UInt8), (97 : UInt8)])], [cS (ByteArray.mk #[(105 : UInt8), (102 : UInt8)])], [cS
 (ByteArray.mk #[(115 : UInt8), (101 : UInt8), (116 : UInt8), (33 : UInt8)])], [cS (ByteArray.mk #[(98 : UInt8), (101 : UInt8), (103 : UInt8), (105 : UInt8), (110 : UInt8)])], [cS
 (ByteArray.mk #[(114 : UInt8), (101 : UInt8), (115 : UInt8), (101 : UInt8), (116 : UInt8)])], [cS (ByteArray.mk #[(115 : UInt8), (104 : UInt8), (105 : UInt8), (102 : UInt8), (116
 : UInt8)])], [cS (ByteArray.mk #[(100 : UInt8), (101 : UInt8), (102 : UInt8), (105 : UInt8), (110 : UInt8), (101 : UInt8)])], [cS (ByteArray.mk #[(100 : UInt8), (101 : UInt8),
 (102 : UInt8), (105 : UInt8), (110 : UInt8), (101 : UInt8), (45 : UInt8), (115 : UInt8), (121 : UInt8), (110 : UInt8), (116 : UInt8), (97 : UInt8), (120 : UInt8)])], [cS
 (ByteArray.mk #[(108 : UInt8), (101 : UInt8), (116 : UInt8), (45 : UInt8), (115 : UInt8), (121 : UInt8), (110 : UInt8), (116 : UInt8), (97 : UInt8), (120 : UInt8)])], [cS
 (ByteArray.mk #[(115 : UInt8), (121 : UInt8), (110 : UInt8), (116 : UInt8), (97 : UInt8), (120 : UInt8), (45 : UInt8), (114 : UInt8), (117 : UInt8), (108 : UInt8), (101 : UInt8),
 (115 : UInt8)])], [cS (ByteArray.mk #[(108 : UInt8), (111 : UInt8), (99 : UInt8), (97 : UInt8), (108 : UInt8)])]]] (AV.sv (SV.one (AC.ref 0)))) (by
  dsimp only [teasy, P_c_iFormNames]
  with_reducible repeat' (first | apply And.intro | exact zR | (intro; skip))
  all_goals (try simp only [std, inj] at *)
  all_goals with_reducible repeat' apply And.intro
  all_goals (try (first | exact z | grind [snocI, snocS, rowSnoc]))
  all_goals rfl)
abbrev P_c_iPrimitiveNames  : Ct := ⟨254, [], [], [.arr true 1 (primNames.map strC)], .sv (.one (.ref 0))⟩
theorem c_iPrimitiveNames   : P_c_iPrimitiveNames := fnOK Tryz.call254 Tryz.func254 (.f [0] [Ob.arr true 1 [[cS (ByteArray.mk #[(43 : UInt8)])], [cS (ByteArray.mk #[(45 : UInt8)])],
 [cS (ByteArray.mk #[(42 : UInt8)])], [cS (ByteArray.mk #[(61 : UInt8)])], [cS (ByteArray.mk #[(60 : UInt8)])], [cS (ByteArray.mk #[(99 : UInt8), (111 : UInt8), (110 : UInt8), (115
 : UInt8)])], [cS (ByteArray.mk #[(99 : UInt8), (97 : UInt8), (114 : UInt8)])], [cS (ByteArray.mk #[(99 : UInt8), (100 : UInt8), (114 : UInt8)])], [cS (ByteArray.mk #[(110 :
 UInt8), (117 : UInt8), (108 : UInt8), (108 : UInt8), (63 : UInt8)])], [cS (ByteArray.mk #[(112 : UInt8), (97 : UInt8), (105 : UInt8), (114 : UInt8), (63 : UInt8)])], [cS
 (ByteArray.mk #[(110 : UInt8), (117 : UInt8), (109 : UInt8), (98 : UInt8), (101 : UInt8), (114 : UInt8), (63 : UInt8)])], [cS (ByteArray.mk #[(101 : UInt8), (113 : UInt8), (63 :
 UInt8)])], [cS (ByteArray.mk #[(110 : UInt8), (111 : UInt8), (116 : UInt8)])], [cS (ByteArray.mk #[(100 : UInt8), (105 : UInt8), (115 : UInt8), (112 : UInt8), (108 : UInt8), (97 :
 UInt8), (121 : UInt8)])]]] (AV.sv (SV.one (AC.ref 0)))) (by
  dsimp only [teasy, P_c_iPrimitiveNames]
  with_reducible repeat' (first | apply And.intro | exact zR | (intro; skip))
  all_goals (try simp only [std, inj] at *)
  all_goals with_reducible repeat' apply And.intro
  all_goals (try (first | exact z | grind [snocI, snocS, rowSnoc]))
  all_goals rfl)
end Go.Proofs.YtpnaoendfpaodaaGreat
end
section
namespace Go.Proofs.YtpnaoendfpaodaaGreat
open Go Go.Proofs.YtpnaoendfpaodaaGreat.Ab
set_option linter.unusedVariables false
set_option linter.unusedSimpArgs false
set_option maxHeartbeats 4000000
def bndM (k : Int) : Int := if k = 1 then 11 else if k = 2 then 13 else if k = 3 then 99999 else if k = 4 then 99999 else -1
def isBnd (b : Binding) : Bool := isSym b.text && okSc b.scopes && decide (0 ≤ b.number ∧ b.number ≤ bndM b.kind)
abbrev P_c_sIsBnd (b : Binding) : Ct := ⟨178, [], [bindingA b], [], .sv (lb (isBnd b))⟩
theorem c_sIsBnd (b : Binding)  : P_c_sIsBnd b := fnOK Tryz.call178 Tryz.func178 (.i (b.kind = 1) (.c [] c_sFormNames (.h (12 ≤ 9223372036854775807) (.r 11 (.c [.rd] (c_sIsSymbol
 b.text) (.b (isSym b.text) (.c [.rd] (c_sScopes b.scopes) (.b (okSc b.scopes) (.c [.rd, .rd, .rd] (c_l1In b.number 0 11) (.s (lb (decide (0 ≤ b.number ∧ b.number ≤ 11))))) (.s (lb
 false)))) (.y false (.s (lb false)))))))) (.i (b.kind = 2) (.c [] c_sPrimitiveNames (.h (14 ≤ 9223372036854775807) (.r 13 (.c [.rd] (c_sIsSymbol b.text) (.b (isSym b.text) (.c
 [.rd] (c_sScopes b.scopes) (.b (okSc b.scopes) (.c [.rd, .rd, .rd] (c_l1In b.number 0 13) (.s (lb (decide (0 ≤ b.number ∧ b.number ≤ 13))))) (.s (lb false)))) (.y false (.s (lb
 false)))))))) (.i (b.kind = 3) (.y true (.c [.rd] (c_sIsSymbol b.text) (.b (isSym b.text) (.c [.rd] (c_sScopes b.scopes) (.b (okSc b.scopes) (.c [.rd, .rd, .rd] (c_l1In b.number 0
 99999) (.s (lb (decide (0 ≤ b.number ∧ b.number ≤ 99999))))) (.s (lb false)))) (.y false (.s (lb false)))))) (.i (b.kind = 4) (.c [.rd] (c_sIsSymbol b.text) (.b (isSym b.text) (.c
 [.rd] (c_sScopes b.scopes) (.b (okSc b.scopes) (.c [.rd, .rd, .rd] (c_l1In b.number 0 99999) (.s (lb (decide (0 ≤ b.number ∧ b.number ≤ 99999))))) (.s (lb false)))) (.y false (.s
 (lb false))))) (.c [.rd] (c_sIsSymbol b.text) (.b (isSym b.text) (.c [.rd] (c_sScopes b.scopes) (.b (okSc b.scopes) (.c [.rd, .rd, .rd] (c_l1In b.number 0 (-1 : Int)) (.s (lb
 (decide (0 ≤ b.number ∧ b.number ≤ (-1 : Int)))))) (.s (lb false)))) (.y false (.s (lb false))))))))) (by
  dsimp only [teasy, P_c_sIsBnd]
  have e1 : formNames.length = 12 := rfl
  have e2 : primNames.length = 14 := rfl
  with_reducible repeat' (first | apply And.intro | exact zR | (intro; skip) | apply mIc | apply mOc | apply mSc | apply mLc)
  all_goals (try simp only [std, inj] at *)
  all_goals with_reducible repeat' apply And.intro
  all_goals (try (first | exact z | exact zM | grind [isBnd, bndM, snocI, snocS, rowSnoc])))
abbrev P_c_iIsBnd (b : Binding) : Ct := ⟨186, [], [bindingA b], [], .sv (lb (isBnd b))⟩
theorem c_iIsBnd (b : Binding)  : P_c_iIsBnd b := fnOK Tryz.call186 Tryz.func186 (.c [.rd] (c_iIsSymbol b.text) (.b (!isSym b.text) (.y true (.y true (.s (lb false)))) (.c [.rd]
 (c_iScopes b.scopes) (.b (!okSc b.scopes) (.y true (.s (lb false))) (.i (b.number < 0) (.s (lb false)) (.i (b.kind = 1) (.w (.draw []) (.c [] c_iFormNames (.h (12 ≤
 9223372036854775807) (.s (lb (decide (b.number < 12))))))) (.i (b.kind = 2) (.w (.draw []) (.c [] c_iPrimitiveNames (.h (14 ≤ 9223372036854775807) (.s (lb (decide (b.number <
 14))))))) (.i (b.kind = 3) (.y true (.s (lb (decide (b.number ≤ 99999))))) (.i (b.kind = 4) (.s (lb (decide (b.number ≤ 99999)))) (.s (lb false))))))))))) (by
  dsimp only [teasy, P_c_iIsBnd]
  have e1 : formNames.length = 12 := rfl
  have e2 : primNames.length = 14 := rfl
  with_reducible repeat' (first | apply And.intro | exact zR | (intro; skip) | apply mIc | apply mOc | apply mSc | apply mLc | apply c_iIsSymbol | apply c_iScopes)
  all_goals (try simp only [std, inj] at *)
  all_goals with_reducible repeat' apply And.intro
  all_goals (try (first | with_reducible apply c_iIsSymbol | with_reducible apply c_iScopes | (simp only [← List.map_append]; first | with_reducible apply c_iIsSymbol | with_reducible apply c_iScopes)))
  all_goals (try (first | exact z | exact zM | grind [isBnd, bndM, snocI, snocS, rowSnoc])))
def clB (t : ByteArray) (s : List Int) (x : Binding) : Bool := decide (x.text = t) && decide (x.scopes = s)
def clash (L : List Binding) (t : ByteArray) (s : List Int) : Bool := L.any (clB t s)
abbrev P_c_sClash (L : List Binding) (b : Binding) : Ct := ⟨179, [], [ll (L.map bindingC), bindingA b], [], .sv (lb (clash L b.text b.scopes))⟩
def lc_sClashLa (L : List Binding) (b : Binding) : Lp Nat := .mk 26 0 (fun x => [(3, SV.one (AC.ptr 0 0)), (7, ll (List.map bindingC L)), (8, li (↑(List.map bindingC L).length :
 Int)), (9, hs x 0)]) (fun x => [Ob.box (vals (bindingF b))]) (fun k => [.s (li (↑k : Int))]) (fun k => k ≤ L.length ∧ L.length ≤ 9223372036854775807 ∧ clash (List.take k L) b.text
 b.scopes = false) (fun k => L.length - k) [.mk (clash L b.text b.scopes = false) (.exit 0) (fun x => []) (fun x => []) [], .mk (clash L b.text b.scopes = true) .ret (fun x => [(4,
 hs x 0)]) (fun x => []) [.s (lb true)]]
theorem Sc_sClashLa (L : List Binding) (b : Binding) : Lp.Sem Tryz.prog (loopAt Tryz.f179 0) (lc_sClashLa L b) := lpOK (fun k => .i ((↑k : Int) < (↑(List.map bindingC L).length :
 Int)) (.x (↑k : Int) (List.map bindingC L) (bindingF (L.getD k default)) (.i ((L.getD k default).text.data.toList = b.text.data.toList) (.c [.rd, .rd] (c_sSameInts (L.getD k
 default).scopes b.scopes) (.i ((L.getD k default).scopes = b.scopes) (.o 1 [] [.s (lb true)]) (.r ((↑k : Int) + 1) (.g [0] (k + 1) [.s (li ((↑k : Int) + 1))])))) (.y false (.r
 ((↑k : Int) + 1) (.g [0] (k + 1) [.s (li ((↑k : Int) + 1))]))))) (.o 0 [] [])) (by
  intro k h; try dsimp only [teasy, nthW, lc_sClashLa] at h ⊢
  with_reducible repeat' (first | apply And.intro | exact zR | (intro; skip) | apply mIc | apply mOc | apply mSc | apply mLc)
  all_goals (try simp only [std, inj] at *)
  all_goals with_reducible repeat' apply And.intro
  all_goals (try (first | exact z | exact zM | grind [take_get, clash, clB, getD_mem', bytes_ext, snocI, snocS, rowSnoc])))
theorem c_sClash (L : List Binding) (b : Binding)  : P_c_sClash L b := fnOK Tryz.call179 Tryz.func179 (.z bindingC L (.l (lc_sClashLa L b) (Sc_sClashLa L b) [0] [.s (li 0)] 0 (.t (.s
 (lb false)) (.t (.s (lb true)) .q)))) (by
  dsimp only [teasy, P_c_sClash, nthW, lc_sClashLa]
  with_reducible repeat' (first | apply And.intro | exact zR | (intro; skip) | apply mIc | apply mOc | apply mSc | apply mLc)
  all_goals (try simp only [std, inj] at *)
  all_goals with_reducible repeat' apply And.intro
  all_goals (try (first | exact z | exact zM | grind [clash, snocI, snocS, rowSnoc])))
def areTo (L : List Binding) : Nat → Bool
  | 0 => true
  | k + 1 => areTo L k && (isBnd (L.getD k default) && !clash (L.take k) (L.getD k default).text (L.getD k default).scopes)
theorem areTo_le (L : List Binding) : ∀ (m k : Nat), k ≤ m → areTo L m = true → areTo L k = true
  | 0, k, h, _ => by
    obtain rfl : k = 0 := by omega
    rfl
  | m + 1, k, h, ht => by
    by_cases e : k = m + 1
    · rw [e]; exact ht
    · refine areTo_le L m k (by omega) ?_
      simp only [areTo, Bool.and_eq_true] at ht; exact ht.1
def areB (L : List Binding) : Bool := areTo L L.length && decide ((L.length : Int) ≤ 1000)
abbrev P_c_sAre (L : List Binding) : Ct := ⟨104, [], [ll (L.map bindingC)], [], .sv (lb (areB L))⟩
def lc_sAreLa (L : List Binding) : Lp Nat := .mk 26 0 (fun x => [(0, ll (List.map bindingC L)), (5, ll (List.map bindingC L)), (6, li (↑(List.map bindingC L).length : Int)), (7, hs
 x 0)]) (fun x => []) (fun k => [.s (li (↑k : Int))]) (fun k => k ≤ L.length ∧ L.length ≤ 9223372036854775807 ∧ areTo L k = true) (fun k => L.length - k) [.mk (areTo L L.length =
 true) (.exit 0) (fun x => [(0, ll (List.map bindingC L))]) (fun x => []) [], .mk (areTo L L.length = false) .ret (fun x => [(2, hs x 0)]) (fun x => []) [.s (lb false)]]
theorem Sc_sAreLa (L : List Binding) : Lp.Sem Tryz.prog (loopAt Tryz.f104 0) (lc_sAreLa L) := lpOK (fun k => .i ((↑k : Int) < (↑(List.map bindingC L).length : Int)) (.x (↑k : Int)
 (List.map bindingC L) (bindingF (L.getD k default)) (.w (.draw []) (.c [.rd] (c_sIsBnd (L.getD k default)) (.b (!isBnd (L.getD k default)) (.y true (.o 1 [] [.s (lb false)])) (.p
 (0 ≤ (↑k : Int)) (.p (0 ≤ (↑k : Int).toNat ∧ (↑k : Int).toNat ≤ (List.map bindingC L).length ∧ ∀ (e : List Cell), e ∈ List.map bindingC L → e.length = 4) (.u [.rd, .rd]
 (P_c_sClash (List.take ((↑k : Int).toNat - 0) (List.drop 0 L)) (L.getD k default)) (.p (CallOK Tryz.prog 179 [] [ll (List.take ((↑k : Int).toNat - 0) (List.drop 0 (List.map
 bindingC L))), SV.agg (vals (bindingF (L.getD k default)))] [] (AV.sv (lb (clash (List.take ((↑k : Int).toNat - 0) (List.drop 0 L)) (L.getD k default).text (L.getD k
 default).scopes)))) (.b (clash (List.take ((↑k : Int).toNat - 0) (List.drop 0 L)) (L.getD k default).text (L.getD k default).scopes) (.o 1 [] [.s (lb false)]) (.r ((↑k : Int) + 1)
 (.g [] (k + 1) [.s (li ((↑k : Int) + 1))]))))))))))) (.o 0 [] [])) (by
  intro k h; try dsimp only [teasy, nthW, lc_sAreLa] at h ⊢
  have g1 := areTo_le L L.length (k + 1)
  have g2 : areTo L (k + 1) = (areTo L k && (isBnd (L.getD k default) && !clash (L.take k) (L.getD k default).text (L.getD k default).scopes)) := rfl
  with_reducible repeat' (first | apply And.intro | exact zR | (intro; skip) | apply mIc | apply mOc | apply mSc | apply mLc | apply c_sIsBnd | apply c_sClash)
  all_goals (try simp only [std, inj] at *)
  all_goals with_reducible repeat' apply And.intro
  all_goals (try (first | with_reducible apply c_sIsBnd | with_reducible apply c_sClash | (simp only [← List.map_append]; first | with_reducible apply c_sIsBnd | with_reducible apply c_sClash)))
  all_goals (try (first | exact z | exact zM | grind [getD_mem', snocI, snocS, rowSnoc])))
theorem c_sAre (L : List Binding)  : P_c_sAre L := fnOK Tryz.call104 Tryz.func104 (.z bindingC L (.l (lc_sAreLa L) (Sc_sAreLa L) [] [.s (li 0)] 0 (.t (.z bindingC L (.s (lb (decide
 ((↑(List.map bindingC L).length : Int) ≤ 1000))))) (.t (.s (lb false)) .q)))) (by
  dsimp only [teasy, P_c_sAre, nthW, lc_sAreLa]
  with_reducible repeat' (first | apply And.intro | exact zR | (intro; skip) | apply mIc | apply mOc | apply mSc | apply mLc)
  all_goals (try simp only [std, inj] at *)
  all_goals with_reducible repeat' apply And.intro
  all_goals (try (first | exact z | exact zM | grind [areB, areTo, snocI, snocS, rowSnoc])))
def plc (L : List Binding) : Nat → ByteArray → List Int
  | 0, _ => []
  | k + 1, s => if s = (L.getD k default).text then plc L k s ++ [(k : Int)] else plc L k s
theorem plc_upd {L : List Binding} {k : Nat} : upd1 (plc L k) (L.getD k default).text (plc L k (L.getD k default).text ++ [(k : Int)]) = plc L (k + 1) := by
  funext s; simp only [upd1, plc]; split
  · rename_i h; rw [h]
  · rfl
theorem plc_zero {L : List Binding} : zL = plc L 0 := rfl
theorem plc_len (L : List Binding) (s : ByteArray) : ∀ k, (plc L k s).length ≤ k
  | 0 => Nat.le_refl _
  | k + 1 => by
    have := plc_len L s k
    simp only [plc]; split
    · simp; omega
    · omega
theorem plc_mem (L : List Binding) (s : ByteArray) : ∀ k (i : Int), i ∈ plc L k s ↔ (0 ≤ i ∧ i < k ∧ (L.getD i.toNat default).text = s)
  | 0, i => by simp [plc]; omega
  | k + 1, i => by
    have ih := plc_mem L s k i
    simp only [plc]; split
    · rename_i h
      rw [List.mem_append, ih, List.mem_singleton]
      constructor
      · rintro (⟨a, b, c⟩ | rfl)
        · exact ⟨a, by omega, c⟩
        · exact ⟨by omega, by omega, by rw [Int.toNat_natCast]; exact h.symm⟩
      · rintro ⟨a, b, c⟩
        by_cases e : i = k
        · exact .inr e
        · exact .inl ⟨a, by omega, c⟩
    · rename_i h
      rw [ih]
      constructor
      · rintro ⟨a, b, c⟩; exact ⟨a, by omega, c⟩
      · rintro ⟨a, b, c⟩
        refine ⟨a, ?_, c⟩
        by_cases e : i = k
        · subst e; rw [Int.toNat_natCast] at c; exact absurd c.symm h
        · omega
def plOK (L : List Binding) (s : List Int) (P : List Int) : Bool := P.all fun i => !decide ((L.getD i.toNat default).scopes = s)
theorem plOK_clash {L : List Binding} {k : Nat} {t : ByteArray} {s : List Int} (hk : k ≤ L.length) : plOK L s (plc L k t) = !clash (L.take k) t s := by
  rw [Bool.eq_iff_iff]
  simp only [plOK, clash, clB, List.all_eq_true, Bool.not_eq_true', decide_eq_false_iff_not, List.any_eq_false, Bool.and_eq_true, decide_eq_true_eq, not_and]
  constructor
  · intro h x hx e
    obtain ⟨j, hj, rfl⟩ := List.getElem_of_mem hx
    rw [List.length_take] at hj
    have e2 : (L.take k)[j]'(by rw [List.length_take]; exact hj) = L.getD j default := by simp [show j < L.length by omega]
    rw [e2] at e ⊢
    have := h (j : Int) ((plc_mem L t k j).2 ⟨by omega, by omega, by rw [Int.toNat_natCast]; exact e⟩)
    rwa [Int.toNat_natCast] at this
  · intro h i hi
    obtain ⟨a, b, c⟩ := (plc_mem L t k i).1 hi
    refine h _ ?_ c
    have e : L.getD i.toNat default = (L.take k)[i.toNat]'(by rw [List.length_take]; omega) := by simp [show i.toNat < L.length by omega]
    rw [e]; exact List.getElem_mem _
theorem plOK_at {L : List Binding} {s : List Int} {P : List Int} {j : Nat} (h : j < P.length) (e : (L.getD (P.getD j default).toNat default).scopes = s) : plOK L s P = false := by
  unfold plOK; rw [List.all_eq_false]; exact ⟨_, getD_mem' h, by rw [decide_eq_true e]; decide⟩
theorem plOK_step {L : List Binding} {s : List Int} {P : List Int} {j : Nat} (h : j < P.length) (h0 : plOK L s (P.take j) = true) (e : (L.getD (P.getD j default).toNat default).scopes ≠ s) : plOK L s (P.take (j + 1)) = true := by
  unfold plOK at *; rw [take_get h, List.all_append, h0]; simpa using e
abbrev P_c_iAre (L : List Binding) : Ct := ⟨108, [], [ll (L.map bindingC)], [], .sv (lb (areB L))⟩
def lc_iAreLb (L : List Binding) (k : Nat) : Lp Nat := .mk 51 0 (fun x => [(0, ll (List.map bindingC L)), (3, SV.one (AC.mref 0)), (4, li (↑k : Int)), (5, SV.one (AC.ptr 1 0)),
 (12, ll (List.map bindingC L)), (13, li (↑(List.map bindingC L).length : Int)), (14, li (↑k : Int)), (25, SV.one (AC.bor 0 (Cell.list (List.map intC (plc L k (L.getD k
 default).text))))), (26, li (↑(List.map intC (plc L k (L.getD k default).text)).length : Int)), (27, hs x 0)]) (fun x => [Ob.map false kL (mL (plc L k)), Ob.box (vals (bindingF
 (L.getD k default)))]) (fun k1 => [.s (li (↑k1 : Int))]) (fun k1 => k1 ≤ (plc L k (L.getD k default).text).length ∧ (plc L k (L.getD k default).text).length ≤ 9223372036854775807
 ∧ k < L.length ∧ areTo L k = true ∧ isBnd (L.getD k default) = true ∧ plOK L (L.getD k default).scopes (List.take k1 (plc L k (L.getD k default).text)) = true) (fun k1 => (plc L k
 (L.getD k default).text).length - k1) [.mk (areTo L (k + 1) = true) (.exit 2) (fun x => [(0, ll (List.map bindingC L)), (3, SV.one (AC.mref 0)), (4, li (↑k : Int)), (5, SV.one
 (AC.ptr 1 0)), (12, ll (List.map bindingC L)), (13, li (↑(List.map bindingC L).length : Int)), (14, li (↑k : Int))]) (fun x => [Ob.map false kL (mL (plc L k)), Ob.box (vals
 (bindingF (L.getD k default)))]) [], .mk (areTo L L.length = false) .ret (fun x => [(2, hs x 0)]) (fun x => []) [.s (lb false)]]
def lc_iAreLa (L : List Binding) : Lp Nat := .mk 51 0 (fun x => [(0, ll (List.map bindingC L)), (3, SV.one (AC.mref 0)), (12, ll (List.map bindingC L)), (13, li (↑(List.map
 bindingC L).length : Int)), (14, hs x 0)]) (fun x => [ho x 1]) (fun k => [.s (li (↑k : Int)), .o (Ob.map false kL (mL (plc L k)))]) (fun k => k ≤ L.length ∧ L.length ≤
 9223372036854775807 ∧ L.length ≤ 1000 ∧ areTo L k = true) (fun k => L.length - k) [.mk (areTo L L.length = true) (.exit 0) (fun x => []) (fun x => []) [], .mk (areTo L L.length =
 false) .ret (fun x => [(2, hs x 0)]) (fun x => []) [.s (lb false)]]
theorem Sc_iAreLb (L : List Binding) (k : Nat) : Lp.Sem Tryz.prog (loopAt Tryz.f108 1) (lc_iAreLb L k) := lpOK (fun k1 => .i ((↑k1 : Int) < (↑(List.map intC (plc L k (L.getD k
 default).text)).length : Int)) (.x (↑k1 : Int) (List.map intC (plc L k (L.getD k default).text)) [cI ((plc L k (L.getD k default).text).getD k1 0)] (.w (.draw []) (.x ((plc L k
 (L.getD k default).text).getD k1 0) (List.map bindingC L) (bindingF (L.getD ((plc L k (L.getD k default).text).getD k1 0).toNat default)) (.c [.rd, .rd] (c_iSameInts (L.getD ((plc
 L k (L.getD k default).text).getD k1 0).toNat default).scopes (L.getD k default).scopes) (.i ((L.getD ((plc L k (L.getD k default).text).getD k1 0).toNat default).scopes = (L.getD
 k default).scopes) (.o 1 [] [.s (lb false)]) (.r ((↑k1 : Int) + 1) (.g [0, 1] (k1 + 1) [.s (li ((↑k1 : Int) + 1))]))))))) (.o 0 [0, 1] [])) (by
  intro k1 h; try dsimp only [teasy, nthW, lc_iAreLb] at h ⊢
  have g1 := areTo_le L L.length (k + 1)
  have g2 : areTo L (k + 1) = (areTo L k && (isBnd (L.getD k default) && !clash (L.take k) (L.getD k default).text (L.getD k default).scopes)) := rfl
  have g3 := @plOK_clash L k (L.getD k default).text (L.getD k default).scopes
  have g4 := @plOK_at L (L.getD k default).scopes (plc L k (L.getD k default).text) k1
  have g5 := @plOK_step L (L.getD k default).scopes (plc L k (L.getD k default).text) k1
  have g6 := plc_mem L (L.getD k default).text k ((plc L k (L.getD k default).text).getD k1 default)
  have g7 : ∀ j, (plc L k (L.getD k default).text).length ≤ j → (plc L k (L.getD k default).text).take j = plc L k (L.getD k default).text := fun j h => List.take_of_length_le h
  with_reducible repeat' (first | apply And.intro | exact zR | (intro; skip) | apply mIc | apply mOc | apply mSc | apply mLc)
  all_goals (try simp only [std, inj] at *)
  all_goals with_reducible repeat' apply And.intro
  all_goals (try (first | exact z | exact zM | grind [getD_mem', snocI, snocS, rowSnoc])))
theorem Sc_iAreLa (L : List Binding) : Lp.Sem Tryz.prog (loopAt Tryz.f108 0) (lc_iAreLa L) := lpOK (fun k => .i ((↑k : Int) < (↑(List.map bindingC L).length : Int)) (.x (↑k : Int)
 (List.map bindingC L) (bindingF (L.getD k default)) (.c [.rd] (c_iIsBnd (L.getD k default)) (.b (!isBnd (L.getD k default)) (.o 1 [] [.s (lb false)]) (.w (.cells [Cell.list
 (List.map intC (plc L k (L.getD k default).text))]) (.p (LookAt (Value.slice none 0 0) (mL (plc L k)) (Value.string (L.getD k default).text) (Cell.list (List.map intC (plc L k
 (L.getD k default).text)))) (.z intC (plc L k (L.getD k default).text) (.l (lc_iAreLb L k) (Sc_iAreLb L k) [0, 1] [.s (li 0)] 0 (.t (.w (.draw [(6, [0]), (9, [2, 3]), (10, [4,
 0])]) (.w (.taken (List.map intC (plc L k (L.getD k default).text)) 1 (mLt (plc L k) (L.getD k default).text)) (.p (LookAt (Value.slice none 0 0) (mL (plc L k)) (Value.string
 (L.getD k default).text) (Cell.list (List.map intC (plc L k (L.getD k default).text)))) (.p (UpdF kL.d (mL (plc L k)) (mLt (plc L k) (L.getD k default).text) (Value.string (L.getD
 k default).text) (some Cell.any)) (.p (some (Value.slice none 0 0) = some (Value.slice none 0 0)) (.p (∀ (x : List Cell), x ∈ List.map intC (plc L k (L.getD k default).text) →
 x.length = 1) (.p (((List.map intC (plc L k (L.getD k default).text)).length + 1) * 8 ≤ 140737488355328) (.w (.upd (mL (upd1 (plc L k) (L.getD k default).text (plc L k (L.getD k
 default).text ++ [(↑k : Int)])))) (.p (false = false) (.p (UpdF kL.d (mLt (plc L k) (L.getD k default).text) (mL (upd1 (plc L k) (L.getD k default).text (plc L k (L.getD k
 default).text ++ [(↑k : Int)]))) (Value.string (L.getD k default).text) (some (Cell.list (List.map intC (plc L k (L.getD k default).text) ++ [[cI (↑k : Int)]])))) (.r ((↑k : Int)
 + 1) (.g [0] (k + 1) [.s (li ((↑k : Int) + 1)), .o (Ob.map false kL (mL (upd1 (plc L k) (L.getD k default).text (plc L k (L.getD k default).text ++ [(↑k : Int)]))))]))))))))))))
 (.t (.o 1 [] [.s (lb false)]) .q))))))))) (.o 0 [] [])) (by
  intro k h; try dsimp only [teasy, nthW, lc_iAreLa, lc_iAreLb] at h ⊢
  have g1 := areTo_le L L.length (k + 1)
  have g2 : areTo L (k + 1) = (areTo L k && (isBnd (L.getD k default) && !clash (L.take k) (L.getD k default).text (L.getD k default).scopes)) := rfl
  have g3 := plc_len L (L.getD k default).text k
  have g4 := @plc_upd L k
  have g5 : plOK L (L.getD k default).scopes ((plc L k (L.getD k default).text).take 0) = true := rfl
  with_reducible repeat' (first | apply And.intro | exact zR | (intro; skip) | apply mIc | apply mOc | apply mSc | apply mLc)
  all_goals (try simp only [std, inj] at *)
  all_goals with_reducible repeat' apply And.intro
  all_goals (try (first | exact z | exact zM | grind [getD_mem', snocI, snocS, rowSnoc]))
  all_goals (try (exact upd_mL (by simp [intC]))))
theorem c_iAre (L : List Binding)  : P_c_iAre L := fnOK Tryz.call108 Tryz.func108 (.z bindingC L (.i (1000 < (↑(List.map bindingC L).length : Int)) (.s (lb false)) (.w (.mkmap kL)
 (.z bindingC L (.l (lc_iAreLa L) (Sc_iAreLa L) [0] [.s (li 0), .o (Ob.map false kL (mL zL))] 0 (.t (.s (lb true)) (.t (.s (lb false)) .q))))))) (by
  dsimp only [teasy, P_c_iAre, nthW, lc_iAreLa]
  with_reducible repeat' (first | apply And.intro | exact zR | (intro; skip) | apply mIc | apply mOc | apply mSc | apply mLc)
  all_goals (try simp only [std, inj] at *)
  all_goals with_reducible repeat' apply And.intro
  all_goals (try (first | exact z | exact zM | grind [areB, areTo, plc_zero, snocI, snocS, rowSnoc])))
def lsynC (l : List Syntax) : List Cell := [.list (l.map syntaxC)]
def lsynF (l : List Syntax) : List Cell := [.list (l.map syntaxC)]
instance : Row (List Syntax) lsynC lsynF 1 := ⟨fun _ => rfl, fun _ => rfl⟩
end Go.Proofs.YtpnaoendfpaodaaGreat
end
section
namespace Go.Proofs.YtpnaoendfpaodaaGreat
open Go Go.Proofs.YtpnaoendfpaodaaGreat.Ab
set_option linter.unusedVariables false
set_option linter.unusedSimpArgs false
set_option maxHeartbeats 4000000
abbrev P_c_sCopyB (L : List Binding) : Ct := ⟨138, [], [ll (L.map bindingC)], [.arr true 4 (L.map bindingC)], .sv (.one (.ref 0))⟩
def lc_sCopyBLa (L : List Binding) : Lp Nat := .mk 28 0 (fun x => [(3, SV.one (AC.ref 0)), (7, ll (List.map bindingC L)), (8, li (↑(List.map bindingC L).length : Int)), (9, hs x
 0)]) (fun x => [ho x 1]) (fun k => [.s (li (↑k : Int)), .o (Ob.arr true 4 (List.map bindingC (List.take k L)))]) (fun k => k ≤ L.length ∧ L.length ≤ 9223372036854775807) (fun k =>
 L.length - k) [.mk True (.exit 0) (fun x => [(3, SV.one (AC.ref 0))]) (fun x => [ho x 0]) [.o (Ob.arr true 4 (List.map bindingC L))]]
theorem Sc_sCopyBLa (L : List Binding) (h : L.length ≤ 1048577 ∧ sumBy wB L ≤ 1048577) : Lp.Sem Tryz.prog (loopAt Tryz.f138 0) (lc_sCopyBLa L) := lpOK (fun k => .i ((↑k : Int) <
 (↑(List.map bindingC L).length : Int)) (.x (↑k : Int) (List.map bindingC L) (bindingF (L.getD k default)) (.w (.draw [(11, [2]), (12, [0, 10])]) (.d [.rd] (P_c_yInts (L.getD k
 default).scopes) (.p (((List.map bindingC (List.take k L)).length + 1) * 56 ≤ 140737488355328) (.r ((↑k : Int) + 1) (.g [11] (k + 1) [.s (li ((↑k : Int) + 1)), .o (Ob.arr true 4
 (List.map bindingC (List.take k L) ++ [bindingF (L.getD k default)]))])))))) (.o 0 [0] [.o (Ob.arr true 4 (List.map bindingC (List.take k L)))])) (by
  intro k h; try dsimp only [teasy, nthW, lc_sCopyBLa] at h ⊢
  have g2 := @sumBy_mem _ wB L (L.getD k default)
  have g3 := wB_eq (L.getD k default)
  with_reducible repeat' (first | apply And.intro | exact zR | (intro; skip) | apply c_yInts)
  all_goals (try simp only [std, inj] at *)
  all_goals with_reducible repeat' apply And.intro
  all_goals (try (first | with_reducible apply c_yInts | (simp only [← List.map_append]; first | with_reducible apply c_yInts)))
  all_goals (try (first | exact z | grind [take_get, snocI, snocS, rowSnoc, getD_mem'])))
theorem c_sCopyB (L : List Binding) (h : L.length ≤ 1048577 ∧ sumBy wB L ≤ 1048577)  : P_c_sCopyB L := fnOK Tryz.call138 Tryz.func138 (.w (.bool false) (.z bindingC L (.l
 (lc_sCopyBLa L) (Sc_sCopyBLa L h) [0] [.s (li 0), .o (Ob.arr true 4 [])] 0 (.t (.f [0] [Ob.arr true 4 (List.map bindingC L)] (AV.sv (SV.one (AC.ref 0)))) .q)))) (by
  dsimp only [teasy, P_c_sCopyB, nthW, lc_sCopyBLa]
  with_reducible repeat' (first | apply And.intro | exact zR | (intro; skip) | apply c_yInts)
  all_goals (try simp only [std, inj] at *)
  all_goals with_reducible repeat' apply And.intro
  all_goals (try (first | with_reducible apply c_yInts | (simp only [← List.map_append]; first | with_reducible apply c_yInts)))
  all_goals (try (first | exact z | grind [snocI, snocS, rowSnoc])))
abbrev P_c_iCopyB1 (b : Binding) : Ct := ⟨227, [], [bindingA b], bindingO b, .sv (bindingR b 0)⟩
theorem c_iCopyB1 (b : Binding) (h : wB b ≤ 1048577)  : P_c_iCopyB1 b := fnOK Tryz.call227 Tryz.func227 (.d [.rd] (P_c_yIInts b.scopes) (.f [2] [Ob.arr true 1 (List.map intC
 b.scopes)] (AV.sv (SV.agg [vS b.text, AC.ref 0, vI b.kind, vI b.number])))) (by
  dsimp only [teasy, P_c_iCopyB1]
  have g3 := wB_eq b
  with_reducible repeat' (first | apply And.intro | exact zR | (intro; skip) | apply c_yIInts)
  all_goals (try simp only [std, inj] at *)
  all_goals with_reducible repeat' apply And.intro
  all_goals (try (first | with_reducible apply c_yIInts | (simp only [← List.map_append]; first | with_reducible apply c_yIInts)))
  all_goals (try (first | exact z | grind [snocI, snocS, rowSnoc])))
end Go.Proofs.YtpnaoendfpaodaaGreat
end
section
namespace Go.Proofs.YtpnaoendfpaodaaGreat
open Go Go.Proofs.YtpnaoendfpaodaaGreat.Ab
set_option linter.unusedVariables false
set_option linter.unusedSimpArgs false
set_option maxHeartbeats 4000000
abbrev P_c_rHas (L : List Int) (n : Int) : Ct := ⟨158, [], [ll (L.map intC), li n], [], .sv (lb (decide (n ∈ L)))⟩
def lc_rHasLa (L : List Int) (n : Int) : Lp Nat := .mk 17 0 (fun x => [(1, li n), (7, ll (List.map intC L)), (8, li (↑(List.map intC L).length : Int)), (9, hs x 0)]) (fun x => [])
 (fun k => [.s (li (↑k : Int))]) (fun k => k ≤ L.length ∧ L.length ≤ 9223372036854775807 ∧ decide (n ∈ List.take k L) = false) (fun k => L.length - k) [.mk (decide (n ∈ L) = false)
 (.exit 0) (fun x => []) (fun x => []) [], .mk (decide (n ∈ L) = true) .ret (fun x => [(4, hs x 0)]) (fun x => []) [.s (lb true)]]
theorem Sc_rHasLa (L : List Int) (n : Int) : Lp.Sem Tryz.prog (loopAt Tryz.f158 0) (lc_rHasLa L n) := lpOK (fun k => .i ((↑k : Int) < (↑(List.map intC L).length : Int)) (.x (↑k :
 Int) (List.map intC L) [cI (L.getD k 0)] (.i (L.getD k 0 = n) (.o 1 [] [.s (lb true)]) (.r ((↑k : Int) + 1) (.g [] (k + 1) [.s (li ((↑k : Int) + 1))])))) (.o 0 [] [])) (by
  intro k h; try dsimp only [teasy, nthW, lc_rHasLa] at h ⊢
  with_reducible repeat' (first | apply And.intro | exact zR | (intro; skip))
  all_goals (try simp only [std, inj] at *)
  all_goals with_reducible repeat' apply And.intro
  all_goals (try (first | exact z | grind [take_get, getD_mem', snocI, snocS, rowSnoc])))
theorem c_rHas (L : List Int) (n : Int)  : P_c_rHas L n := fnOK Tryz.call158 Tryz.func158 (.z intC L (.l (lc_rHasLa L n) (Sc_rHasLa L n) [] [.s (li 0)] 0 (.t (.s (lb false)) (.t (.s
 (lb true)) .q)))) (by
  dsimp only [teasy, P_c_rHas, nthW, lc_rHasLa]
  with_reducible repeat' (first | apply And.intro | exact zR | (intro; skip))
  all_goals (try simp only [std, inj] at *)
  all_goals with_reducible repeat' apply And.intro
  all_goals (try (first | exact z | grind [snocI, snocS, rowSnoc])))
abbrev P_c_rIHas (L : List Int) (n : Int) : Ct := ⟨306, [], [ll (L.map intC), li n], [], .sv (lb (decide (n ∈ L)))⟩
def lc_rIHasLa (L : List Int) (n : Int) : Lp Nat := .mk 17 0 (fun x => [(1, li n), (7, ll (List.map intC L)), (8, li (↑(List.map intC L).length : Int)), (9, hs x 0)]) (fun x => [])
 (fun k => [.s (li (↑k : Int))]) (fun k => k ≤ L.length ∧ L.length ≤ 9223372036854775807 ∧ decide (n ∈ List.take k L) = false) (fun k => L.length - k) [.mk (decide (n ∈ L) = false)
 (.exit 0) (fun x => []) (fun x => []) [], .mk (decide (n ∈ L) = true) .ret (fun x => [(4, hs x 0)]) (fun x => []) [.s (lb true)]]
theorem Sc_rIHasLa (L : List Int) (n : Int) : Lp.Sem Tryz.prog (loopAt Tryz.f306 0) (lc_rIHasLa L n) := lpOK (fun k => .i ((↑k : Int) < (↑(List.map intC L).length : Int)) (.x (↑k :
 Int) (List.map intC L) [cI (L.getD k 0)] (.i (L.getD k 0 = n) (.o 1 [] [.s (lb true)]) (.r ((↑k : Int) + 1) (.g [] (k + 1) [.s (li ((↑k : Int) + 1))])))) (.o 0 [] [])) (by
  intro k h; try dsimp only [teasy, nthW, lc_rIHasLa] at h ⊢
  with_reducible repeat' (first | apply And.intro | exact zR | (intro; skip))
  all_goals (try simp only [std, inj] at *)
  all_goals with_reducible repeat' apply And.intro
  all_goals (try (first | exact z | grind [take_get, getD_mem', snocI, snocS, rowSnoc])))
theorem c_rIHas (L : List Int) (n : Int)  : P_c_rIHas L n := fnOK Tryz.call306 Tryz.func306 (.z intC L (.l (lc_rIHasLa L n) (Sc_rIHasLa L n) [] [.s (li 0)] 0 (.t (.s (lb false)) (.t
 (.s (lb true)) .q)))) (by
  dsimp only [teasy, P_c_rIHas, nthW, lc_rIHasLa]
  with_reducible repeat' (first | apply And.intro | exact zR | (intro; skip))
  all_goals (try simp only [std, inj] at *)
  all_goals with_reducible repeat' apply And.intro
  all_goals (try (first | exact z | grind [snocI, snocS, rowSnoc])))
def subI (A B : List Int) : Bool := A.all fun n => decide (n ∈ B)
abbrev P_c_sSub (A : List Int) (B : List Int) : Ct := ⟨261, [], [ll (A.map intC), ll (B.map intC)], [], .sv (lb (subI A B))⟩
def lc_sSubLa (A : List Int) (B : List Int) : Lp Nat := .mk 18 0 (fun x => [(1, ll (List.map intC B)), (7, ll (List.map intC A)), (8, li (↑(List.map intC A).length : Int)), (9, hs
 x 0)]) (fun x => []) (fun k => [.s (li (↑k : Int))]) (fun k => k ≤ A.length ∧ A.length ≤ 9223372036854775807 ∧ subI (List.take k A) B = true) (fun k => A.length - k) [.mk (subI A
 B = true) (.exit 0) (fun x => []) (fun x => []) [], .mk (subI A B = false) .ret (fun x => [(4, hs x 0)]) (fun x => []) [.s (lb false)]]
theorem Sc_sSubLa (A : List Int) (B : List Int) : Lp.Sem Tryz.prog (loopAt Tryz.f261 0) (lc_sSubLa A B) := lpOK (fun k => .i ((↑k : Int) < (↑(List.map intC A).length : Int)) (.x
 (↑k : Int) (List.map intC A) [cI (A.getD k 0)] (.c [.rd, .rd] (c_rHas B (A.getD k 0)) (.b (!decide (A.getD k 0 ∈ B)) (.o 1 [] [.s (lb false)]) (.r ((↑k : Int) + 1) (.g [] (k + 1)
 [.s (li ((↑k : Int) + 1))]))))) (.o 0 [] [])) (by
  intro k h; try dsimp only [teasy, nthW, lc_sSubLa] at h ⊢
  with_reducible repeat' (first | apply And.intro | exact zR | (intro; skip))
  all_goals (try simp only [std, inj] at *)
  all_goals with_reducible repeat' apply And.intro
  all_goals (try (first | exact z | grind [take_get, getD_mem', subI, snocI, snocS, rowSnoc])))
theorem c_sSub (A B : List Int)  : P_c_sSub A B := fnOK Tryz.call261 Tryz.func261 (.z intC A (.l (lc_sSubLa A B) (Sc_sSubLa A B) [] [.s (li 0)] 0 (.t (.s (lb true)) (.t (.s (lb
 false)) .q)))) (by
  dsimp only [teasy, P_c_sSub, nthW, lc_sSubLa]
  with_reducible repeat' (first | apply And.intro | exact zR | (intro; skip))
  all_goals (try simp only [std, inj] at *)
  all_goals with_reducible repeat' apply And.intro
  all_goals (try (first | exact z | grind [subI, snocI, snocS, rowSnoc])))
abbrev P_c_iSub (A : List Int) (B : List Int) : Ct := ⟨266, [], [ll (A.map intC), ll (B.map intC)], [], .sv (lb (subI A B))⟩
def lc_iSubLa (A : List Int) (B : List Int) : Lp Nat := .mk 18 0 (fun x => [(1, ll (List.map intC B)), (7, ll (List.map intC A)), (8, li (↑(List.map intC A).length : Int)), (9, hs
 x 0)]) (fun x => []) (fun k => [.s (li (↑k : Int))]) (fun k => k ≤ A.length ∧ A.length ≤ 9223372036854775807 ∧ subI (List.take k A) B = true) (fun k => A.length - k) [.mk (subI A
 B = true) (.exit 0) (fun x => []) (fun x => []) [], .mk (subI A B = false) .ret (fun x => [(4, hs x 0)]) (fun x => []) [.s (lb false)]]
theorem Sc_iSubLa (A : List Int) (B : List Int) : Lp.Sem Tryz.prog (loopAt Tryz.f266 0) (lc_iSubLa A B) := lpOK (fun k => .i ((↑k : Int) < (↑(List.map intC A).length : Int)) (.x
 (↑k : Int) (List.map intC A) [cI (A.getD k 0)] (.c [.rd, .rd] (c_rIHas B (A.getD k 0)) (.b (!decide (A.getD k 0 ∈ B)) (.o 1 [] [.s (lb false)]) (.r ((↑k : Int) + 1) (.g [] (k + 1)
 [.s (li ((↑k : Int) + 1))]))))) (.o 0 [] [])) (by
  intro k h; try dsimp only [teasy, nthW, lc_iSubLa] at h ⊢
  with_reducible repeat' (first | apply And.intro | exact zR | (intro; skip))
  all_goals (try simp only [std, inj] at *)
  all_goals with_reducible repeat' apply And.intro
  all_goals (try (first | exact z | grind [take_get, getD_mem', subI, snocI, snocS, rowSnoc])))
theorem c_iSub (A B : List Int)  : P_c_iSub A B := fnOK Tryz.call266 Tryz.func266 (.z intC A (.l (lc_iSubLa A B) (Sc_iSubLa A B) [] [.s (li 0)] 0 (.t (.s (lb true)) (.t (.s (lb
 false)) .q)))) (by
  dsimp only [teasy, P_c_iSub, nthW, lc_iSubLa]
  with_reducible repeat' (first | apply And.intro | exact zR | (intro; skip))
  all_goals (try simp only [std, inj] at *)
  all_goals with_reducible repeat' apply And.intro
  all_goals (try (first | exact z | grind [subI, snocI, snocS, rowSnoc])))
def cndP (t : ByteArray) (s : List Int) (b : Binding) : Bool := decide (b.text = t) && subI b.scopes s
def cnd (L : List Binding) (t : ByteArray) (s : List Int) : List Binding := L.filter (cndP t s)
theorem cnd_step {L : List Binding} {t : ByteArray} {s : List Int} {k : Nat} (h : k < L.length) : cnd (L.take (k + 1)) t s = if cndP t s (L.getD k default) = true then cnd (L.take k) t s ++ [L.getD k default] else cnd (L.take k) t s := by
  unfold cnd; rw [take_get h, List.filter_append]
  by_cases e : cndP t s (L.getD k default) = true
  · rw [if_pos e, List.filter_cons_of_pos e]; rfl
  · rw [if_neg e, List.filter_cons_of_neg e]; simp
theorem cnd_len (L : List Binding) (t : ByteArray) (s : List Int) (k : Nat) : (cnd (L.take k) t s).length ≤ k := by
  have h1 := List.length_filter_le (cndP t s) (L.take k)
  have h2 : (L.take k).length ≤ k := by rw [List.length_take]; exact Nat.min_le_left _ _
  unfold cnd; omega
abbrev P_c_sCand (L : List Binding) (y : Syntax) : Ct := ⟨260, [], [ll (L.map bindingC), syntaxA y], [], .sv (ll ((cnd L y.text y.scopes).map bindingC))⟩
def lc_sCandLa (L : List Binding) (y : Syntax) : Lp Nat := .mk 33 0 (fun x => [(3, SV.one (AC.ptr 0 0)), (5, SV.one (AC.ref 1)), (9, ll (List.map bindingC L)), (10, li (↑(List.map
 bindingC L).length : Int)), (11, hs x 0)]) (fun x => [Ob.box (vals (syntaxF y)), ho x 1]) (fun k => [.s (li (↑k : Int)), .o (Ob.arr false 4 (List.map bindingC (cnd (List.take k L)
 y.text y.scopes)))]) (fun k => k ≤ L.length ∧ L.length ≤ 9223372036854775807) (fun k => L.length - k) [.mk True (.exit 0) (fun x => [(5, SV.one (AC.ref 0))]) (fun x => [ho x 0])
 [.o (Ob.arr false 4 (List.map bindingC (cnd L y.text y.scopes)))]]
theorem Sc_sCandLa (L : List Binding) (y : Syntax) (h : L.length ≤ 1048577) : Lp.Sem Tryz.prog (loopAt Tryz.f260 0) (lc_sCandLa L y) := lpOK (fun k => .i ((↑k : Int) < (↑(List.map
 bindingC L).length : Int)) (.x (↑k : Int) (List.map bindingC L) (bindingF (L.getD k default)) (.i ((L.getD k default).text.data.toList = y.text.data.toList) (.c [.rd, .rd] (c_sSub
 (L.getD k default).scopes y.scopes) (.b (subI (L.getD k default).scopes y.scopes) (.p (((List.map bindingC (cnd (List.take k L) y.text y.scopes)).length + 1) * 56 ≤
 140737488355328) (.r ((↑k : Int) + 1) (.g [0, 4] (k + 1) [.s (li ((↑k : Int) + 1)), .o (Ob.arr false 4 (List.map bindingC (cnd (List.take k L) y.text y.scopes) ++ [bindingF
 (L.getD k default)]))]))) (.r ((↑k : Int) + 1) (.g [0, 1] (k + 1) [.s (li ((↑k : Int) + 1)), .o (Ob.arr false 4 (List.map bindingC (cnd (List.take k L) y.text y.scopes)))])))) (.y
 false (.r ((↑k : Int) + 1) (.g [0, 1] (k + 1) [.s (li ((↑k : Int) + 1)), .o (Ob.arr false 4 (List.map bindingC (cnd (List.take k L) y.text y.scopes)))]))))) (.o 0 [1] [.o (Ob.arr
 false 4 (List.map bindingC (cnd (List.take k L) y.text y.scopes)))])) (by
  intro k h; try dsimp only [teasy, nthW, lc_sCandLa] at h ⊢
  have g1 := @cnd_step L y.text y.scopes k
  have g2 := cnd_len L y.text y.scopes k
  have g3 : L.length ≤ k → L.take k = L := fun h => List.take_of_length_le h
  with_reducible repeat' (first | apply And.intro | exact zR | (intro; skip))
  all_goals (try simp only [std, inj] at *)
  all_goals with_reducible repeat' apply And.intro
  all_goals (try (first | exact z | grind [cndP, bytes_ext, snocI, snocS, rowSnoc])))
theorem c_sCand (L : List Binding) (y : Syntax) (h : L.length ≤ 1048577)  : P_c_sCand L y := fnOK Tryz.call260 Tryz.func260 (.w (.bool true) (.z bindingC L (.l (lc_sCandLa L y)
 (Sc_sCandLa L y h) [0, 1] [.s (li 0), .o (Ob.arr false 4 [])] 0 (.t (.w (.ghost (.lock 0)) (.s (ll (List.map bindingC (cnd L y.text y.scopes))))) .q)))) (by
  dsimp only [teasy, P_c_sCand, nthW, lc_sCandLa]
  have g1 : cnd (L.take 0) y.text y.scopes = [] := rfl
  with_reducible repeat' (first | apply And.intro | exact zR | (intro; skip))
  all_goals (try simp only [std, inj] at *)
  all_goals with_reducible repeat' apply And.intro
  all_goals (try (first | exact z | grind [snocI, snocS, rowSnoc])))
def bstG (a b : Binding) : Binding := if a.scopes.length < b.scopes.length then b else a
def bstC (C : List Binding) : Binding := C.foldl bstG (C.getD 0 default)
theorem bstC_one (x : Binding) : bstC [x] = x := by simp [bstC, bstG]
theorem bstC_snoc {C : List Binding} (x : Binding) (h : C ≠ []) : bstC (C ++ [x]) = bstG (bstC C) x := by
  cases C with
  | nil => exact absurd rfl h
  | cons a r => simp only [bstC, List.foldl_append]; rfl
def amb (C : List Binding) : Bool := C.all fun b => subI b.scopes (bstC C).scopes
def rsC (L : List Binding) (t : ByteArray) (s : List Int) : Int := if cnd L t s = [] then 0 else if amb (cnd L t s) = true then 1 else 2
def rsB (L : List Binding) (t : ByteArray) (s : List Int) : Binding := if rsC L t s = 1 then bstC (cnd L t s) else ⟨mkS [], [], 0, 0⟩
theorem bstG_mem {C : List Binding} : ∀ (a : Binding), C.foldl bstG a = a ∨ C.foldl bstG a ∈ C := by
  induction C with
  | nil => intro a; exact .inl rfl
  | cons x r ih =>
    intro a
    rw [List.foldl_cons]
    rcases ih (bstG a x) with h | h
    · rw [h]; unfold bstG; split
      · exact .inr List.mem_cons_self
      · exact .inl rfl
    · exact .inr (List.mem_cons_of_mem _ h)
theorem bstC_mem {C : List Binding} (h : C ≠ []) : bstC C ∈ C := by
  cases C with
  | nil => exact absurd rfl h
  | cons a r =>
    rcases bstG_mem (C := a :: r) ((a :: r).getD 0 default) with h | h
    · unfold bstC; rw [h]; exact List.mem_cons_self
    · exact h
theorem cnd_w (L : List Binding) (t : ByteArray) (s : List Int) : sumBy wB (cnd L t s) ≤ sumBy wB L := by
  induction L with
  | nil => exact Nat.le_refl _
  | cons x r ih =>
    unfold cnd at ih ⊢
    by_cases e : cndP t s x = true
    · rw [List.filter_cons_of_pos e]; simp only [sumBy]; omega
    · rw [List.filter_cons_of_neg e]; simp only [sumBy]; omega
theorem bstC_w {L : List Binding} {t : ByteArray} {s : List Int} (h : cnd L t s ≠ []) : wB (bstC (cnd L t s)) ≤ sumBy wB L := by
  have h1 := sumBy_mem wB (bstC_mem h)
  have h2 := cnd_w L t s
  omega
theorem amb_stop {C : List Binding} {k : Nat} (hk : k < C.length) (h : subI (C.getD k default).scopes (bstC C).scopes = false) : amb C = false := by
  unfold amb; rw [List.all_eq_false]; exact ⟨_, getD_mem' hk, by rw [h]; decide⟩
def ambN (C : List Binding) (k : Nat) : Bool := (C.take k).all fun b => subI b.scopes (bstC C).scopes
theorem ambN_step {C : List Binding} {k : Nat} (hk : k < C.length) (h0 : ambN C k = true) (h : subI (C.getD k default).scopes (bstC C).scopes = true) : ambN C (k + 1) = true := by
  unfold ambN at *; rw [take_get hk, List.all_append, h0]; simpa using h
theorem ambN_end {C : List Binding} {k : Nat} (hk : C.length ≤ k) (h0 : ambN C k = true) : amb C = true := by
  unfold ambN at h0; rwa [List.take_of_length_le hk] at h0
abbrev P_c_sRes (L : List Binding) (y : Syntax) : Ct := ⟨197, [], [ll (L.map bindingC), syntaxA y], [], .tup [bindingA (rsB L y.text y.scopes), li (rsC L y.text y.scopes)]⟩
def lc_sResLb (L : List Binding) (y : Syntax) : Lp Nat := .mk 56 0 (fun x => [(4, SV.one (AC.ptr 0 0)), (7, SV.one (AC.ptr 1 0)), (37, ll (List.map bindingC (cnd L y.text
 y.scopes))), (38, li (↑(List.map bindingC (cnd L y.text y.scopes)).length : Int)), (39, hs x 0)]) (fun x => [Ob.box [vS (ByteArray.mk #[]), AC.val (Cell.lit (Value.slice none 0
 0)), vI 0, vI 0], Ob.box (vals (bindingF (bstC (cnd L y.text y.scopes))))]) (fun k => [.s (li (↑k : Int))]) (fun k => k ≤ (cnd L y.text y.scopes).length ∧ (cnd L y.text
 y.scopes).length ≤ 9223372036854775807 ∧ 0 < (cnd L y.text y.scopes).length ∧ ambN (cnd L y.text y.scopes) k = true) (fun k => (cnd L y.text y.scopes).length - k) [.mk (amb (cnd L
 y.text y.scopes) = true) (.exit 2) (fun x => [(4, SV.one (AC.ptr 0 0)), (7, SV.one (AC.ptr 1 0))]) (fun x => [Ob.box [vS (ByteArray.mk #[]), AC.val (Cell.lit (Value.slice none 0
 0)), vI 0, vI 0], Ob.box (vals (bindingF (bstC (cnd L y.text y.scopes))))]) [], .mk (amb (cnd L y.text y.scopes) = false) .ret (fun x => [(4, SV.one (AC.ptr 0 0)), (5, hs x 1)])
 (fun x => [ho x 0]) [.o (Ob.box [vS (mkS []), AC.val (Cell.lit (Value.slice none 0 0)), vI 0, vI 0]), .s (li 2)]]
def lc_sResLa (L : List Binding) (y : Syntax) : Lp Nat := .mk 56 0 (fun x => [(4, SV.one (AC.ptr 0 0)), (6, ll (List.map bindingC (cnd L y.text y.scopes))), (7, SV.one (AC.ptr 1
 0)), (22, ll (List.map bindingC (cnd L y.text y.scopes))), (23, li (↑(List.map bindingC (cnd L y.text y.scopes)).length : Int)), (24, hs x 0)]) (fun x => [Ob.box [vS (ByteArray.mk
 #[]), AC.val (Cell.lit (Value.slice none 0 0)), vI 0, vI 0], ho x 1]) (fun k => [.s (li (↑k : Int)), .o (Ob.box (vals (bindingF (List.foldl bstG ((cnd L y.text y.scopes).getD 0
 default) (List.take k (cnd L y.text y.scopes))))))]) (fun k => k ≤ (cnd L y.text y.scopes).length ∧ (cnd L y.text y.scopes).length ≤ 9223372036854775807 ∧ 0 < (cnd L y.text
 y.scopes).length) (fun k => (cnd L y.text y.scopes).length - k) [.mk True (.exit 0) (fun x => [(4, SV.one (AC.ptr 0 0)), (6, ll (List.map bindingC (cnd L y.text y.scopes))), (7,
 SV.one (AC.ptr 1 0))]) (fun x => [Ob.box [vS (ByteArray.mk #[]), AC.val (Cell.lit (Value.slice none 0 0)), vI 0, vI 0], ho x 0]) [.o (Ob.box (vals (bindingF (bstC (cnd L y.text
 y.scopes)))))]]
theorem Sc_sResLb (L : List Binding) (y : Syntax) (h : L.length ≤ 1048577 ∧ sumBy wB L ≤ 1048577) : Lp.Sem Tryz.prog (loopAt Tryz.f197 1) (lc_sResLb L y) := lpOK (fun k => .i ((↑k
 : Int) < (↑(List.map bindingC (cnd L y.text y.scopes)).length : Int)) (.x (↑k : Int) (List.map bindingC (cnd L y.text y.scopes)) (bindingF ((cnd L y.text y.scopes).getD k
 default)) (.c [.rd, .rd] (c_sSub ((cnd L y.text y.scopes).getD k default).scopes (bstC (cnd L y.text y.scopes)).scopes) (.b (!subI ((cnd L y.text y.scopes).getD k default).scopes
 (bstC (cnd L y.text y.scopes)).scopes) (.o 1 [0] [.o (Ob.box [vS (ByteArray.mk #[]), AC.val (Cell.lit (Value.slice none 0 0)), vI 0, vI 0]), .s (li 2)]) (.r ((↑k : Int) + 1) (.g
 [0, 1] (k + 1) [.s (li ((↑k : Int) + 1))]))))) (.o 0 [0, 1] [])) (by
  intro k h; try dsimp only [teasy, nthW, lc_sResLb] at h ⊢
  have g1 := @amb_stop (cnd L y.text y.scopes) k
  have g2 := @ambN_step (cnd L y.text y.scopes) k
  have g3 := @ambN_end (cnd L y.text y.scopes) k
  with_reducible repeat' (first | apply And.intro | exact zR | (intro; skip) | apply c_sCand | apply c_sCopyB)
  all_goals (try simp only [std, inj] at *)
  all_goals with_reducible repeat' apply And.intro
  all_goals (try (first | with_reducible apply c_sCand | with_reducible apply c_sCopyB | (simp only [← List.map_append]; first | with_reducible apply c_sCand | with_reducible apply c_sCopyB)))
  all_goals (try (first | exact z | grind [snocI, snocS, rowSnoc])))
theorem Sc_sResLa (L : List Binding) (y : Syntax) (h : L.length ≤ 1048577 ∧ sumBy wB L ≤ 1048577) : Lp.Sem Tryz.prog (loopAt Tryz.f197 0) (lc_sResLa L y) := lpOK (fun k => .i ((↑k
 : Int) < (↑(List.map bindingC (cnd L y.text y.scopes)).length : Int)) (.x (↑k : Int) (List.map bindingC (cnd L y.text y.scopes)) (bindingF ((cnd L y.text y.scopes).getD k
 default)) (.z intC ((cnd L y.text y.scopes).getD k default).scopes (.z intC (List.foldl bstG ((cnd L y.text y.scopes).getD 0 default) (List.take k (cnd L y.text y.scopes))).scopes
 (.i ((↑(List.map intC (List.foldl bstG ((cnd L y.text y.scopes).getD 0 default) (List.take k (cnd L y.text y.scopes))).scopes).length : Int) < (↑(List.map intC ((cnd L y.text
 y.scopes).getD k default).scopes).length : Int)) (.r ((↑k : Int) + 1) (.g [0, 1] (k + 1) [.s (li ((↑k : Int) + 1)), .o (Ob.box (vals (bindingF ((cnd L y.text y.scopes).getD k
 default))))])) (.r ((↑k : Int) + 1) (.g [0, 1] (k + 1) [.s (li ((↑k : Int) + 1)), .o (Ob.box (vals (bindingF (List.foldl bstG ((cnd L y.text y.scopes).getD 0 default) (List.take k
 (cnd L y.text y.scopes))))))])))))) (.o 0 [0, 1] [.o (Ob.box (vals (bindingF (List.foldl bstG ((cnd L y.text y.scopes).getD 0 default) (List.take k (cnd L y.text y.scopes))))))]))
 (by
  intro k h; try dsimp only [teasy, nthW, lc_sResLa] at h ⊢
  have g1 := @foldl_step _ _ _ bstG ((cnd L y.text y.scopes).getD 0 default) (cnd L y.text y.scopes) k
  have g2 : ∀ a b, bstG a b = if a.scopes.length < b.scopes.length then b else a := fun _ _ => rfl
  have g3 : (cnd L y.text y.scopes).length ≤ k → (cnd L y.text y.scopes).take k = cnd L y.text y.scopes := fun h => List.take_of_length_le h
  have g4 : bstC (cnd L y.text y.scopes) = (cnd L y.text y.scopes).foldl bstG ((cnd L y.text y.scopes).getD 0 default) := rfl
  with_reducible repeat' (first | apply And.intro | exact zR | (intro; skip) | apply c_sCand | apply c_sCopyB)
  all_goals (try simp only [std, inj] at *)
  all_goals with_reducible repeat' apply And.intro
  all_goals (try (first | with_reducible apply c_sCand | with_reducible apply c_sCopyB | (simp only [← List.map_append]; first | with_reducible apply c_sCand | with_reducible apply c_sCopyB)))
  all_goals (try (first | exact z | grind [snocI, snocS, rowSnoc])))
theorem c_sRes (L : List Binding) (y : Syntax) (h : L.length ≤ 1048577 ∧ sumBy wB L ≤ 1048577)  : P_c_sRes L y := fnOK Tryz.call197 Tryz.func197 (.d [.rd, .rd] (P_c_sCand L y) (.z
 bindingC (cnd L y.text y.scopes) (.i ((↑(List.map bindingC (cnd L y.text y.scopes)).length : Int) = 0) (.w (.ghost (.nilbox 1 1 true 1)) (.w (.ghost (.lock 2)) (.f [] [] (AV.tup
 [SV.agg [vS (ByteArray.mk #[]), vL [], vI 0, vI 0], li 0])))) (.w (.cells (bindingF ((cnd L y.text y.scopes).getD 0 default))) (.p ((0 : Int) ≤ 0 ∧ (List.map bindingC (cnd L
 y.text y.scopes))[0]? = some (bindingF ((cnd L y.text y.scopes).getD 0 default))) (.z bindingC (cnd L y.text y.scopes) (.l (lc_sResLa L y) (Sc_sResLa L y h) [1, 2] [.s (li 0), .o
 (Ob.box (vals (bindingF ((cnd L y.text y.scopes).getD 0 default))))] 0 (.t (.z bindingC (cnd L y.text y.scopes) (.l (lc_sResLb L y) (Sc_sResLb L y h) [0, 1] [.s (li 0)] 0 (.t (.d
 [.rd] (P_c_sCopyB [bstC (cnd L y.text y.scopes)]) (.p ((0 : Int) ≤ 0 ∧ 0 < 1) (.w (.cells (bindingF (bstC (cnd L y.text y.scopes)))) (.p (some (bindingF (bstC (cnd L y.text
 y.scopes))) = some (bindingF (bstC (cnd L y.text y.scopes)))) (.w (.ghost (.lock 3)) (.f [] [] (AV.tup [SV.agg (vals (bindingF (bstC (cnd L y.text y.scopes)))), li 1]))))))) (.t
 (.w (.ghost (.nilbox 0 1 true 1)) (.w (.ghost (.lock 1)) (.f [] [] (AV.tup [SV.agg [vS (mkS []), vL [], vI 0, vI 0], li 2])))) .q)))) .q)))))))) (by
  dsimp only [teasy, P_c_sRes, nthW, lc_sResLa, lc_sResLb]
  have g1 : 0 < (cnd L y.text y.scopes).length → cnd L y.text y.scopes ≠ [] := fun h => List.length_pos_iff.1 h
  have g2 : (cnd L y.text y.scopes).length = 0 → cnd L y.text y.scopes = [] := fun h => List.length_eq_zero_iff.1 h
  have g3 := @bstC_w L y.text y.scopes
  have g4 : rsC L y.text y.scopes = if cnd L y.text y.scopes = [] then 0 else if amb (cnd L y.text y.scopes) = true then 1 else 2 := rfl
  have g5 : rsC L y.text y.scopes = 1 → rsB L y.text y.scopes = bstC (cnd L y.text y.scopes) := fun h => if_pos h
  have g6 : ¬ rsC L y.text y.scopes = 1 → rsB L y.text y.scopes = ⟨mkS [], [], 0, 0⟩ := fun h => if_neg h
  have g7 : ambN (cnd L y.text y.scopes) 0 = true := rfl
  have g8 : ∀ b : Binding, [b].getD 0 default = b := fun b => rfl
  have g9 : sumBy wB [bstC (cnd L y.text y.scopes)] = wB (bstC (cnd L y.text y.scopes)) := rfl
  have p1 : ¬ rsC L y.text y.scopes = 1 → SV.agg [vS (mkS []), vL [], vI 0, vI 0] = SV.agg (vals (bindingF (rsB L y.text y.scopes))) := fun h => by rw [g6 h]; rfl
  have p2 : rsC L y.text y.scopes = 1 → SV.agg [vS (bstC (cnd L y.text y.scopes)).text, vL ((bstC (cnd L y.text y.scopes)).scopes.map intC), vI (bstC (cnd L y.text y.scopes)).kind, vI (bstC (cnd L y.text y.scopes)).number] = SV.agg (vals (bindingF (rsB L y.text y.scopes))) := fun h => by rw [g5 h]; rfl
  with_reducible repeat' (first | apply And.intro | exact zR | (intro; skip) | apply c_sCand | apply c_sCopyB)
  all_goals (try simp only [std, inj] at *)
  all_goals with_reducible repeat' apply And.intro
  all_goals (try (first | with_reducible apply c_sCand | with_reducible apply c_sCopyB | (simp only [← List.map_append]; first | with_reducible apply c_sCand | with_reducible apply c_sCopyB)))
  all_goals (try (first | exact z | grind [snocI, snocS, rowSnoc])))
def bsI (L : List Binding) (t : ByteArray) (s : List Int) : Nat → Int
  | 0 => -1
  | k + 1 => if cndP t s (L.getD k default) = true ∧ (bsI L t s k < 0 ∨ (L.getD (bsI L t s k).toNat default).scopes.length < (L.getD k default).scopes.length) then (k : Int) else bsI L t s k
theorem bsI_of (L : List Binding) (t : ByteArray) (s : List Int) : ∀ k, k ≤ L.length → -1 ≤ bsI L t s k ∧ bsI L t s k < k ∧ (bsI L t s k < 0 ↔ cnd (L.take k) t s = []) ∧ (0 ≤ bsI L t s k → L.getD (bsI L t s k).toNat default = bstC (cnd (L.take k) t s))
  | 0, _ => by simp [bsI, cnd]
  | k + 1, hk => by
    obtain ⟨h1, h2, h3, h4⟩ := bsI_of L t s k (by omega)
    have e := @cnd_step L t s k (by omega)
    simp only [bsI]
    by_cases c : cndP t s (L.getD k default) = true
    · rw [if_pos c] at e
      by_cases c2 : bsI L t s k < 0
      · rw [if_pos ⟨c, .inl c2⟩, e, h3.1 c2]
        refine ⟨by omega, by omega, ⟨fun h => by omega, fun h => by simp at h⟩, fun _ => ?_⟩
        rw [Int.toNat_natCast, List.nil_append, bstC_one]
      · have hne : cnd (L.take k) t s ≠ [] := fun h => c2 (h3.2 h)
        have hb := h4 (by omega)
        by_cases c3 : (L.getD (bsI L t s k).toNat default).scopes.length < (L.getD k default).scopes.length
        · rw [if_pos ⟨c, .inr c3⟩, e]
          refine ⟨by omega, by omega, ⟨fun h => by omega, fun h => by simp at h⟩, fun _ => ?_⟩
          rw [Int.toNat_natCast, bstC_snoc _ hne, bstG, if_pos (by rw [← hb]; exact c3)]
        · rw [if_neg (by rintro ⟨_, h | h⟩ <;> contradiction), e]
          refine ⟨h1, by omega, ⟨fun h => absurd h c2, fun h => by simp at h⟩, fun _ => ?_⟩
          rw [bstC_snoc _ hne, bstG, if_neg (by rw [← hb]; exact c3)]; exact hb
    · rw [if_neg (fun h => c h.1), e, if_neg c]
      exact ⟨h1, by omega, h3, h4⟩
def ambL (L : List Binding) (t : ByteArray) (s : List Int) (k : Nat) : Bool := (L.take k).all fun b => !cndP t s b || subI b.scopes (bstC (cnd L t s)).scopes
theorem ambL_step {L : List Binding} {t : ByteArray} {s : List Int} {k : Nat} (hk : k < L.length) (h0 : ambL L t s k = true) (h : cndP t s (L.getD k default) = false ∨ subI (L.getD k default).scopes (bstC (cnd L t s)).scopes = true) : ambL L t s (k + 1) = true := by
  unfold ambL at *; rw [take_get hk, List.all_append, h0]; simpa using h
theorem ambL_end {L : List Binding} {t : ByteArray} {s : List Int} {k : Nat} (hk : L.length ≤ k) (h0 : ambL L t s k = true) : amb (cnd L t s) = true := by
  unfold ambL at h0; rw [List.take_of_length_le hk, List.all_eq_true] at h0
  unfold amb; rw [List.all_eq_true]
  intro x hx
  have h1 := List.mem_filter.1 hx
  have := h0 x h1.1
  rw [h1.2] at this; simpa using this
theorem ambL_stop {L : List Binding} {t : ByteArray} {s : List Int} {k : Nat} (hk : k < L.length) (h1 : cndP t s (L.getD k default) = true) (h : subI (L.getD k default).scopes (bstC (cnd L t s)).scopes = false) : amb (cnd L t s) = false := by
  unfold amb; rw [List.all_eq_false]; exact ⟨_, List.mem_filter.2 ⟨getD_mem' hk, h1⟩, by rw [h]; decide⟩
abbrev P_c_iRes (L : List Binding) (y : Syntax) : Ct := ⟨200, [], [ll (L.map bindingC), syntaxA y], bindingO (rsB L y.text y.scopes), .tup [bindingR (rsB L y.text y.scopes) 0, li (rsC L y.text y.scopes)]⟩
def lc_iResLb (L : List Binding) (y : Syntax) : Lp Nat := .mk 87 0 (fun x => [(0, ll (List.map bindingC L)), (3, SV.one (AC.ptr 0 0)), (4, SV.one (AC.ptr 1 0)), (6, li (bsI L
 y.text y.scopes L.length)), (51, ll (List.map bindingC L)), (52, li (↑(List.map bindingC L).length : Int)), (53, hs x 0)]) (fun x => [Ob.box (vals (syntaxF y)), Ob.box [vS
 (ByteArray.mk #[]), AC.val (Cell.lit (Value.slice none 0 0)), vI 0, vI 0]]) (fun k => [.s (li (↑k : Int))]) (fun k => k ≤ L.length ∧ L.length ≤ 9223372036854775807 ∧ 0 ≤ bsI L
 y.text y.scopes L.length ∧ ambL L y.text y.scopes k = true) (fun k => L.length - k) [.mk (amb (cnd L y.text y.scopes) = true) (.exit 2) (fun x => [(0, ll (List.map bindingC L)),
 (4, SV.one (AC.ptr 0 0)), (6, li (bsI L y.text y.scopes L.length))]) (fun x => [Ob.box [vS (ByteArray.mk #[]), AC.val (Cell.lit (Value.slice none 0 0)), vI 0, vI 0]]) [], .mk (amb
 (cnd L y.text y.scopes) = false) .ret (fun x => [(4, SV.one (AC.ptr 0 0)), (5, hs x 1)]) (fun x => [ho x 0]) [.o (Ob.box [vS (mkS []), AC.val (Cell.lit (Value.slice none 0 0)), vI
 0, vI 0]), .s (li 2)]]
def lc_iResLa (L : List Binding) (y : Syntax) : Lp Nat := .mk 87 0 (fun x => [(0, ll (List.map bindingC L)), (3, SV.one (AC.ptr 0 0)), (4, SV.one (AC.ptr 1 0)), (6, hs x 1), (11,
 ll (List.map bindingC L)), (12, li (↑(List.map bindingC L).length : Int)), (13, hs x 0)]) (fun x => [Ob.box (vals (syntaxF y)), Ob.box [vS (ByteArray.mk #[]), AC.val (Cell.lit
 (Value.slice none 0 0)), vI 0, vI 0]]) (fun k => [.s (li (↑k : Int)), .s (li (bsI L y.text y.scopes k))]) (fun k => k ≤ L.length ∧ L.length ≤ 9223372036854775807) (fun k =>
 L.length - k) [.mk True (.exit 0) (fun x => [(0, ll (List.map bindingC L)), (3, SV.one (AC.ptr 0 0)), (4, SV.one (AC.ptr 1 0)), (6, hs x 0)]) (fun x => [Ob.box (vals (syntaxF y)),
 Ob.box [vS (ByteArray.mk #[]), AC.val (Cell.lit (Value.slice none 0 0)), vI 0, vI 0]]) [.s (li (bsI L y.text y.scopes L.length))]]
theorem Sc_iResLb (L : List Binding) (y : Syntax) (h : L.length ≤ 1048577 ∧ sumBy wB L ≤ 1048577) : Lp.Sem Tryz.prog (loopAt Tryz.f200 1) (lc_iResLb L y) := lpOK (fun k => .i ((↑k
 : Int) < (↑(List.map bindingC L).length : Int)) (.x (↑k : Int) (List.map bindingC L) (bindingF (L.getD k default)) (.w (.draw []) (.i ((L.getD k default).text.data.toList =
 y.text.data.toList) (.c [.rd, .rd] (c_iSub (L.getD k default).scopes y.scopes) (.b (subI (L.getD k default).scopes y.scopes) (.x (bsI L y.text y.scopes L.length) (List.map
 bindingC L) (bindingF (L.getD (bsI L y.text y.scopes L.length).toNat default)) (.c [.rd, .rd] (c_iSub (L.getD k default).scopes (L.getD (bsI L y.text y.scopes L.length).toNat
 default).scopes) (.b (!subI (L.getD k default).scopes (L.getD (bsI L y.text y.scopes L.length).toNat default).scopes) (.o 1 [1] [.o (Ob.box [vS (ByteArray.mk #[]), AC.val
 (Cell.lit (Value.slice none 0 0)), vI 0, vI 0]), .s (li 2)]) (.r ((↑k : Int) + 1) (.g [0, 1] (k + 1) [.s (li ((↑k : Int) + 1))]))))) (.y false (.r ((↑k : Int) + 1) (.g [0, 1] (k +
 1) [.s (li ((↑k : Int) + 1))]))))) (.y false (.y false (.r ((↑k : Int) + 1) (.g [0, 1] (k + 1) [.s (li ((↑k : Int) + 1))]))))))) (.o 0 [1] [])) (by
  intro k h; try dsimp only [teasy, nthW, lc_iResLb] at h ⊢
  have g1 := bsI_of L y.text y.scopes L.length
  have g2 : L.take L.length = L := List.take_length
  have g3 := @ambL_step L y.text y.scopes k
  have g4 := @ambL_end L y.text y.scopes k
  have g5 := @ambL_stop L y.text y.scopes k
  with_reducible repeat' (first | apply And.intro | exact zR | (intro; skip) | apply c_iCopyB1)
  all_goals (try simp only [std, inj] at *)
  all_goals with_reducible repeat' apply And.intro
  all_goals (try (first | with_reducible apply c_iCopyB1 | (simp only [← List.map_append]; first | with_reducible apply c_iCopyB1)))
  all_goals (try (first | exact z | grind [cndP, bytes_ext, snocI, snocS, rowSnoc])))
theorem Sc_iResLa (L : List Binding) (y : Syntax) (h : L.length ≤ 1048577 ∧ sumBy wB L ≤ 1048577) : Lp.Sem Tryz.prog (loopAt Tryz.f200 0) (lc_iResLa L y) := lpOK (fun k => .i ((↑k
 : Int) < (↑(List.map bindingC L).length : Int)) (.x (↑k : Int) (List.map bindingC L) (bindingF (L.getD k default)) (.w (.draw []) (.i ((L.getD k default).text.data.toList =
 y.text.data.toList) (.c [.rd, .rd] (c_iSub (L.getD k default).scopes y.scopes) (.b (subI (L.getD k default).scopes y.scopes) (.i (bsI L y.text y.scopes k < 0) (.y true (.r ((↑k :
 Int) + 1) (.g [0, 1] (k + 1) [.s (li ((↑k : Int) + 1)), .s (li (↑k : Int))]))) (.x (bsI L y.text y.scopes k) (List.map bindingC L) (bindingF (L.getD (bsI L y.text y.scopes
 k).toNat default)) (.z intC (L.getD k default).scopes (.z intC (L.getD (bsI L y.text y.scopes k).toNat default).scopes (.i ((↑(List.map intC (L.getD (bsI L y.text y.scopes
 k).toNat default).scopes).length : Int) < (↑(List.map intC (L.getD k default).scopes).length : Int)) (.r ((↑k : Int) + 1) (.g [0, 1] (k + 1) [.s (li ((↑k : Int) + 1)), .s (li (↑k
 : Int))])) (.r ((↑k : Int) + 1) (.g [0, 1] (k + 1) [.s (li ((↑k : Int) + 1)), .s (li (bsI L y.text y.scopes k))]))))))) (.y false (.r ((↑k : Int) + 1) (.g [0, 1] (k + 1) [.s (li
 ((↑k : Int) + 1)), .s (li (bsI L y.text y.scopes k))]))))) (.y false (.y false (.r ((↑k : Int) + 1) (.g [0, 1] (k + 1) [.s (li ((↑k : Int) + 1)), .s (li (bsI L y.text y.scopes
 k))]))))))) (.o 0 [0, 1] [.s (li (bsI L y.text y.scopes k))])) (by
  intro k h; try dsimp only [teasy, nthW, lc_iResLa] at h ⊢
  have g1 := bsI_of L y.text y.scopes k
  have g2 : bsI L y.text y.scopes (k + 1) = if cndP y.text y.scopes (L.getD k default) = true ∧ (bsI L y.text y.scopes k < 0 ∨ (L.getD (bsI L y.text y.scopes k).toNat default).scopes.length < (L.getD k default).scopes.length) then (k : Int) else bsI L y.text y.scopes k := rfl
  with_reducible repeat' (first | apply And.intro | exact zR | (intro; skip) | apply c_iCopyB1)
  all_goals (try simp only [std, inj] at *)
  all_goals with_reducible repeat' apply And.intro
  all_goals (try (first | with_reducible apply c_iCopyB1 | (simp only [← List.map_append]; first | with_reducible apply c_iCopyB1)))
  all_goals (try (first | exact z | grind [cndP, bytes_ext, snocI, snocS, rowSnoc])))
theorem c_iRes (L : List Binding) (y : Syntax) (h : L.length ≤ 1048577 ∧ sumBy wB L ≤ 1048577)  : P_c_iRes L y := fnOK Tryz.call200 Tryz.func200 (.z bindingC L (.l (lc_iResLa L y)
 (Sc_iResLa L y h) [0, 1] [.s (li 0), .s (li (-1 : Int))] 0 (.t (.i (bsI L y.text y.scopes L.length < 0) (.w (.ghost (.nilbox 1 1 true 1)) (.f [2] [Ob.arr true 1 []] (AV.tup
 [SV.agg [vS (ByteArray.mk #[]), AC.ref 0, vI 0, vI 0], li 0]))) (.z bindingC L (.l (lc_iResLb L y) (Sc_iResLb L y h) [0, 1] [.s (li 0)] 0 (.t (.x (bsI L y.text y.scopes L.length)
 (List.map bindingC L) (bindingF (L.getD (bsI L y.text y.scopes L.length).toNat default)) (.d [.rd] (P_c_iCopyB1 (L.getD (bsI L y.text y.scopes L.length).toNat default)) (.f [1]
 [Ob.arr true 1 (List.map intC (L.getD (bsI L y.text y.scopes L.length).toNat default).scopes)] (AV.tup [SV.agg [vS (L.getD (bsI L y.text y.scopes L.length).toNat default).text,
 AC.ref 0, vI (L.getD (bsI L y.text y.scopes L.length).toNat default).kind, vI (L.getD (bsI L y.text y.scopes L.length).toNat default).number], li 1])))) (.t (.w (.ghost (.nilbox 0
 1 true 1)) (.f [1] [Ob.arr true 1 []] (AV.tup [SV.agg [vS (mkS []), AC.ref 0, vI 0, vI 0], li 2]))) .q))))) .q))) (by
  dsimp only [teasy, P_c_iRes, nthW, lc_iResLa, lc_iResLb]
  have g1 := bsI_of L y.text y.scopes L.length
  have g2 : L.take L.length = L := List.take_length
  have g3 := @bstC_w L y.text y.scopes
  have g4 : rsC L y.text y.scopes = if cnd L y.text y.scopes = [] then 0 else if amb (cnd L y.text y.scopes) = true then 1 else 2 := rfl
  have g5 : rsC L y.text y.scopes = 1 → rsB L y.text y.scopes = bstC (cnd L y.text y.scopes) := fun h => if_pos h
  have g6 : ¬ rsC L y.text y.scopes = 1 → rsB L y.text y.scopes = ⟨mkS [], [], 0, 0⟩ := fun h => if_neg h
  have g7 : ambL L y.text y.scopes 0 = true := rfl
  have g8 : bsI L y.text y.scopes 0 = -1 := rfl
  with_reducible repeat' (first | apply And.intro | exact zR | (intro; skip) | apply c_iCopyB1)
  all_goals (try simp only [std, inj] at *)
  all_goals with_reducible repeat' apply And.intro
  all_goals (try (first | with_reducible apply c_iCopyB1 | (simp only [← List.map_append]; first | with_reducible apply c_iCopyB1)))
  all_goals (try (first | exact z | grind [snocI, snocS, rowSnoc])))
def mng (L : List Binding) (a b : Syntax) : Bool := if rsC L a.text a.scopes = 0 ∧ rsC L b.text b.scopes = 0 then decide (a.text = b.text) else decide (rsC L a.text a.scopes = 1) && decide (rsC L b.text b.scopes = 1) && decide ((rsB L a.text a.scopes).kind = (rsB L b.text b.scopes).kind) && decide ((rsB L a.text a.scopes).number = (rsB L b.text b.scopes).number)
abbrev P_c_sMean (L : List Binding) (a : Syntax) (b : Syntax) : Ct := ⟨184, [], [ll (L.map bindingC), syntaxA a, syntaxA b], [], .sv (lb (mng L a b))⟩
theorem c_sMean (L : List Binding) (a b : Syntax) (h : L.length ≤ 1048577 ∧ sumBy wB L ≤ 1048577)  : P_c_sMean L a b := fnOK Tryz.call184 Tryz.func184 (.d [.rd, .rd] (P_c_sRes L a)
 (.d [.rd, .rd] (P_c_sRes L b) (.i (rsC L a.text a.scopes = 0) (.i (rsC L b.text b.scopes = 0) (.s (lb (decide (a.text.data.toList = b.text.data.toList)))) (.i (rsC L a.text
 a.scopes = 1) (.i (rsC L b.text b.scopes = 1) (.i ((rsB L a.text a.scopes).kind = (rsB L b.text b.scopes).kind) (.s (lb (decide ((rsB L a.text a.scopes).number = (rsB L b.text
 b.scopes).number)))) (.s (lb false))) (.y false (.s (lb false)))) (.y false (.y false (.s (lb false)))))) (.y false (.i (rsC L a.text a.scopes = 1) (.i (rsC L b.text b.scopes = 1)
 (.i ((rsB L a.text a.scopes).kind = (rsB L b.text b.scopes).kind) (.s (lb (decide ((rsB L a.text a.scopes).number = (rsB L b.text b.scopes).number)))) (.s (lb false))) (.y false
 (.s (lb false)))) (.y false (.y false (.s (lb false))))))))) (by
  dsimp only [teasy, P_c_sMean]
  with_reducible repeat' (first | apply And.intro | exact zR | (intro; skip) | apply c_sRes)
  all_goals (try simp only [std, inj] at *)
  all_goals with_reducible repeat' apply And.intro
  all_goals (try (first | with_reducible apply c_sRes | (simp only [← List.map_append]; first | with_reducible apply c_sRes)))
  all_goals (try (first | exact z | grind [mng, bytes_ext, snocI, snocS, rowSnoc])))
abbrev P_c_iMean (L : List Binding) (a : Syntax) (b : Syntax) : Ct := ⟨192, [], [ll (L.map bindingC), syntaxA a, syntaxA b], [], .sv (lb (mng L a b))⟩
theorem c_iMean (L : List Binding) (a b : Syntax) (h : L.length ≤ 1048577 ∧ sumBy wB L ≤ 1048577)  : P_c_iMean L a b := fnOK Tryz.call192 Tryz.func192 (.d [.rd, .rd] (P_c_iRes L a)
 (.d [.rd, .rd] (P_c_iRes L b) (.i (rsC L a.text a.scopes = 1) (.i (rsC L b.text b.scopes = 1) (.i ((rsB L a.text a.scopes).kind = (rsB L b.text b.scopes).kind) (.s (lb (decide
 ((rsB L a.text a.scopes).number = (rsB L b.text b.scopes).number)))) (.s (lb false))) (.i (rsC L a.text a.scopes = 0) (.i (rsC L b.text b.scopes = 0) (.s (lb (decide
 (a.text.data.toList = b.text.data.toList)))) (.s (lb false))) (.y false (.s (lb false))))) (.y false (.i (rsC L a.text a.scopes = 0) (.i (rsC L b.text b.scopes = 0) (.s (lb
 (decide (a.text.data.toList = b.text.data.toList)))) (.s (lb false))) (.y false (.s (lb false)))))))) (by
  dsimp only [teasy, P_c_iMean]
  with_reducible repeat' (first | apply And.intro | exact zR | (intro; skip) | apply c_iRes)
  all_goals (try simp only [std, inj] at *)
  all_goals with_reducible repeat' apply And.intro
  all_goals (try (first | with_reducible apply c_iRes | (simp only [← List.map_append]; first | with_reducible apply c_iRes)))
  all_goals (try (first | exact z | grind [mng, bytes_ext, snocI, snocS, rowSnoc])))
end Go.Proofs.YtpnaoendfpaodaaGreat
end
