/- Part 1 of the proof: Alpha equality is reflexive and symmetric on what is drawn, and equal terms have the same free variables and the same size: FnAlpha. No condition. -/
import Derived.Test.YtgeegppaaggcjaaQ4
section
namespace Go.Proofs.Ytgeegppaaggcjaa
open Go Go.Proofs.Ytgeegppaaggcjaa.Ab
set_option linter.unusedVariables false
set_option linter.unusedSimpArgs false
set_option maxHeartbeats 4000000
theorem all_stop {L : List UInt8} {p : UInt8 → Bool} {k : Nat} (h : k < L.length) (hp : p (L.getD k 0) = false) : L.all p = false := by
  rw [List.all_eq_false]
  have e : L.getD k 0 = L[k] := by simp [h]
  exact ⟨L[k], List.getElem_mem h, by rw [← e, hp]; decide⟩
theorem all_go {L : List UInt8} {p : UInt8 → Bool} {k : Nat} (h : k < L.length) (hp : p (L.getD k 0) = true) (ht : (L.take k).all p = true) : (L.take (k + 1)).all p = true := by
  rw [take0 h, List.all_append, ht, List.all_cons, hp]; rfl
theorem all_all {L : List UInt8} {p : UInt8 → Bool} {k : Nat} (h : L.length ≤ k) (ht : (L.take k).all p = true) : L.all p = true := by
  rwa [List.take_of_length_le h] at ht
def lu (n : Int) : SV := .one (.val (.lit (.int .u8 n)))
def isDig (n : Int) : Bool := decide (48 ≤ n ∧ n ≤ 57)
def markI : List Int := [33, 63, 42, 60, 62, 61, 47, 43, 45, 46, 95]
def isMk (n : Int) : Bool := decide (97 ≤ n ∧ n ≤ 122) || isDig n || decide (n ∈ markI)
theorem mark_at {k : Nat} (h : k < 11) : ((([33, 63, 42, 60, 62, 61, 47, 43, 45, 46, 95] : List UInt8).getD k 0).toNat : Int) = markI.getD k default := by
  have : ∀ k, k < 11 → ((([33, 63, 42, 60, 62, 61, 47, 43, 45, 46, 95] : List UInt8).getD k 0).toNat : Int) = markI.getD k default := by decide
  exact this k h
def isStB (n : Int) : Bool := decide (32 ≤ n ∧ n ≤ 126 ∧ n ≠ 34)
def isSym (s : ByteArray) : Bool := decide (1 ≤ (s.size : Int) ∧ (s.size : Int) ≤ 16) && !isDig (s.data.toList.getD 0 0).toNat && !(decide (((s.data.toList.getD 0 0).toNat : Int) = 45) && decide (1 < (s.size : Int)) && isDig (s.data.toList.getD 1 0).toNat) && s.data.toList.all fun b => isMk b.toNat
def isStr (s : ByteArray) : Bool := decide ((s.size : Int) ≤ 20) && s.data.toList.all fun b => isStB b.toNat
abbrev P_c_sDigit (n : Int) : Ct := ⟨70, [], [lu n], [], .sv (lb (isDig n))⟩
theorem c_sDigit (n : Int)  : P_c_sDigit n := fnOK Try.call70 Try.func70 (.i (48 ≤ n) (.s (lb (decide (n ≤ 57)))) (.s (lb false))) (by
  dsimp only [teasy, P_c_sDigit]
  with_reducible repeat' (first | apply And.intro | exact zR | (intro; skip))
  all_goals (try simp only [std, inj] at *)
  all_goals with_reducible repeat' apply And.intro
  all_goals (try (first | exact z | grind [isDig, snocI, snocS, rowSnoc])))
abbrev P_c_iDigit (n : Int) : Ct := ⟨75, [], [lu n], [], .sv (lb (isDig n))⟩
theorem c_iDigit (n : Int)  : P_c_iDigit n := fnOK Try.call75 Try.func75 (.i (48 ≤ n) (.s (lb (decide (n ≤ 57)))) (.s (lb false))) (by
  dsimp only [teasy, P_c_iDigit]
  with_reducible repeat' (first | apply And.intro | exact zR | (intro; skip))
  all_goals (try simp only [std, inj] at *)
  all_goals with_reducible repeat' apply And.intro
  all_goals (try (first | exact z | grind [isDig, snocI, snocS, rowSnoc])))
abbrev P_c_sMark (n : Int) : Ct := ⟨71, [], [lu n], [], .sv (lb (isMk n))⟩
def lc_sMarkLa (n : Int) : Lp Nat := .mk 26 0 (fun x => [(0, SV.one (AC.val (Cell.lit (Value.int IntKind.u8 n)))), (3, ls (ByteArray.mk #[(33 : UInt8), (63 : UInt8), (42 : UInt8),
 (60 : UInt8), (62 : UInt8), (61 : UInt8), (47 : UInt8), (43 : UInt8), (45 : UInt8), (46 : UInt8), (95 : UInt8)])), (4, hs x 0)]) (fun x => []) (fun k => [.s (li (↑k : Int))]) (fun
 k => k ≤ 11 ∧ ¬n ∈ List.take k markI) (fun k => 11 - k) [.mk (decide (n ∈ markI) = false) (.exit 0) (fun x => []) (fun x => []) [], .mk (decide (n ∈ markI) = true) .ret (fun x =>
 [(2, hs x 0)]) (fun x => []) [.s (lb true)]]
theorem Sc_sMarkLa (n : Int) : Lp.Sem Try.prog (loopAt Try.f71 0) (lc_sMarkLa n) := lpOK (fun k => .h (11 ≤ 9223372036854775807) (.i ((↑k : Int) < 11) (.p (0 ≤ (↑k : Int) ∧ (↑k :
 Int).toNat < 11) (.i ((↑([(33 : UInt8), (63 : UInt8), (42 : UInt8), (60 : UInt8), (62 : UInt8), (61 : UInt8), (47 : UInt8), (43 : UInt8), (45 : UInt8), (46 : UInt8), (95 :
 UInt8)].getD (↑k : Int).toNat (0 : UInt8)).toNat : Int) = n) (.o 1 [] [.s (lb true)]) (.r ((↑k : Int) + 1) (.g [] (k + 1) [.s (li ((↑k : Int) + 1))])))) (.o 0 [] []))) (by
  intro k h; try dsimp only [teasy, nthW, lc_sMarkLa] at h ⊢
  have g := @mark_at k
  have e : markI.length = 11 := rfl
  have e2 : markI.take 11 = markI := rfl
  with_reducible repeat' (first | apply And.intro | exact zR | (intro; skip))
  all_goals (try simp only [std, inj] at *)
  all_goals with_reducible repeat' apply And.intro
  all_goals (try (first | exact z | grind [take_get, getD_mem', snocI, snocS, rowSnoc])))
theorem c_sMark (n : Int)  : P_c_sMark n := fnOK Try.call71 Try.func71 (.i (97 ≤ n) (.i (n ≤ 122) (.y true (.s (lb true))) (.c [.rd] (c_sDigit n) (.b (isDig n) (.s (lb true)) (.l
 (lc_sMarkLa n) (Sc_sMarkLa n) [] [.s (li 0)] 0 (.t (.s (lb false)) (.t (.s (lb true)) .q)))))) (.y false (.c [.rd] (c_sDigit n) (.b (isDig n) (.s (lb true)) (.l (lc_sMarkLa n)
 (Sc_sMarkLa n) [] [.s (li 0)] 0 (.t (.s (lb false)) (.t (.s (lb true)) .q))))))) (by
  dsimp only [teasy, P_c_sMark, nthW, lc_sMarkLa]
  with_reducible repeat' (first | apply And.intro | exact zR | (intro; skip))
  all_goals (try simp only [std, inj] at *)
  all_goals with_reducible repeat' apply And.intro
  all_goals (try (first | exact z | grind [isMk, snocI, snocS, rowSnoc])))
abbrev P_c_iMark (n : Int) : Ct := ⟨76, [], [lu n], [], .sv (lb (isMk n))⟩
theorem c_iMark (n : Int)  : P_c_iMark n := fnOK Try.call76 Try.func76 (.i (97 ≤ n) (.i (n ≤ 122) (.y true (.s (lb true))) (.i (48 ≤ n) (.i (n ≤ 57) (.s (lb true)) (.i (n = 33) (.y
 true (.s (lb true))) (.i (n = 63) (.y true (.s (lb true))) (.i (n = 42) (.y true (.s (lb true))) (.i (n = 60) (.y true (.s (lb true))) (.i (n = 62) (.y true (.s (lb true))) (.i (n
 = 61) (.y true (.s (lb true))) (.i (n = 47) (.y true (.s (lb true))) (.i (n = 43) (.y true (.s (lb true))) (.i (n = 45) (.y true (.s (lb true))) (.i (n = 46) (.y true (.s (lb
 true))) (.i (n = 95) (.s (lb true)) (.s (lb false)))))))))))))) (.y false (.i (n = 33) (.y true (.s (lb true))) (.i (n = 63) (.y true (.s (lb true))) (.i (n = 42) (.y true (.s (lb
 true))) (.i (n = 60) (.y true (.s (lb true))) (.i (n = 62) (.y true (.s (lb true))) (.i (n = 61) (.y true (.s (lb true))) (.i (n = 47) (.y true (.s (lb true))) (.i (n = 43) (.y
 true (.s (lb true))) (.i (n = 45) (.y true (.s (lb true))) (.i (n = 46) (.y true (.s (lb true))) (.i (n = 95) (.s (lb true)) (.s (lb false)))))))))))))))) (.y false (.i (48 ≤ n)
 (.i (n ≤ 57) (.s (lb true)) (.i (n = 33) (.y true (.s (lb true))) (.i (n = 63) (.y true (.s (lb true))) (.i (n = 42) (.y true (.s (lb true))) (.i (n = 60) (.y true (.s (lb true)))
 (.i (n = 62) (.y true (.s (lb true))) (.i (n = 61) (.y true (.s (lb true))) (.i (n = 47) (.y true (.s (lb true))) (.i (n = 43) (.y true (.s (lb true))) (.i (n = 45) (.y true (.s
 (lb true))) (.i (n = 46) (.y true (.s (lb true))) (.i (n = 95) (.s (lb true)) (.s (lb false)))))))))))))) (.y false (.i (n = 33) (.y true (.s (lb true))) (.i (n = 63) (.y true (.s
 (lb true))) (.i (n = 42) (.y true (.s (lb true))) (.i (n = 60) (.y true (.s (lb true))) (.i (n = 62) (.y true (.s (lb true))) (.i (n = 61) (.y true (.s (lb true))) (.i (n = 47)
 (.y true (.s (lb true))) (.i (n = 43) (.y true (.s (lb true))) (.i (n = 45) (.y true (.s (lb true))) (.i (n = 46) (.y true (.s (lb true))) (.i (n = 95) (.s (lb true)) (.s (lb
 false))))))))))))))))) (by
  dsimp only [teasy, P_c_iMark]
  with_reducible repeat' (first | apply And.intro | exact zR | (intro; skip))
  all_goals (try simp only [std, inj] at *)
  all_goals with_reducible repeat' apply And.intro
  all_goals (try (first | exact z | grind [snocI, snocS, rowSnoc]))
  all_goals (symm; simp only [isMk, isDig, markI, List.mem_cons, List.not_mem_nil, Bool.or_eq_true, Bool.or_eq_false_iff, decide_eq_true_eq, decide_eq_false_iff_not, or_false]; omega))
abbrev P_c_l1In (x : Int) (a : Int) (b : Int) : Ct := ⟨32, [], [li x, li a, li b], [], .sv (lb (decide (a ≤ x ∧ x ≤ b)))⟩
theorem c_l1In (x a b : Int)  : P_c_l1In x a b := fnOK Try.call32 Try.func32 (.i (a ≤ x) (.s (lb (decide (x ≤ b)))) (.s (lb false))) (by
  dsimp only [teasy, P_c_l1In]
  with_reducible repeat' (first | apply And.intro | exact zR | (intro; skip))
  all_goals (try simp only [std, inj] at *)
  all_goals with_reducible repeat' apply And.intro
  all_goals (try (first | exact z | grind [snocI, snocS, rowSnoc])))
abbrev P_c_sIsSymbol (s : ByteArray) : Ct := ⟨66, [], [ls s], [], .sv (lb (isSym s))⟩
def lc_sIsSymbolLa (s : ByteArray) : Lp Nat := .mk 39 0 (fun x => [(0, ls s), (3, hs x 0)]) (fun x => []) (fun k => [.s (li (↑k : Int))]) (fun k => k ≤ s.size ∧ s.size ≤ 16 ∧
 ((List.take k s.data.toList).all fun b => isMk (↑b.toNat : Int)) = true) (fun k => s.size - k) [.mk ((s.data.toList.all fun b => isMk (↑b.toNat : Int)) = true) (.exit 0) (fun x =>
 []) (fun x => []) [], .mk ((s.data.toList.all fun b => isMk (↑b.toNat : Int)) = false) .ret (fun x => [(2, hs x 0)]) (fun x => []) [.s (lb false)]]
theorem Sc_sIsSymbolLa (s : ByteArray) : Lp.Sem Try.prog (loopAt Try.f66 0) (lc_sIsSymbolLa s) := lpOK (fun k => .h (s.data.toList.length ≤ 9223372036854775807) (.i ((↑k : Int) <
 (↑s.data.toList.length : Int)) (.p (0 ≤ (↑k : Int) ∧ (↑k : Int).toNat < s.data.toList.length) (.c [.rd] (c_sMark (↑(s.data.toList.getD (↑k : Int).toNat (0 : UInt8)).toNat : Int))
 (.b (!isMk (↑(s.data.toList.getD (↑k : Int).toNat (0 : UInt8)).toNat : Int)) (.o 1 [] [.s (lb false)]) (.r ((↑k : Int) + 1) (.g [] (k + 1) [.s (li ((↑k : Int) + 1))]))))) (.o 0 []
 []))) (by
  intro k h; try dsimp only [teasy, nthW, lc_sIsSymbolLa] at h ⊢
  have g1 := @all_stop s.data.toList (fun b => isMk b.toNat) k
  have g2 := @all_go s.data.toList (fun b => isMk b.toNat) k
  have g3 := @all_all s.data.toList (fun b => isMk b.toNat) k
  with_reducible repeat' (first | apply And.intro | exact zR | (intro; skip))
  all_goals (try simp only [std, inj] at *)
  all_goals with_reducible repeat' apply And.intro
  all_goals (try (first | exact z | grind [snocI, snocS, rowSnoc])))
theorem c_sIsSymbol (s : ByteArray)  : P_c_sIsSymbol s := fnOK Try.call66 Try.func66 (.h (s.data.toList.length ≤ 9223372036854775807) (.c [.rd, .rd, .rd] (c_l1In
 (↑s.data.toList.length : Int) 1 16) (.b (!decide (1 ≤ (↑s.data.toList.length : Int) ∧ (↑s.data.toList.length : Int) ≤ 16)) (.y true (.y true (.s (lb false)))) (.p ((0 : Int) ≤ 0 ∧
 0 < s.data.toList.length) (.c [.rd] (c_sDigit (↑(s.data.toList.getD 0 (0 : UInt8)).toNat : Int)) (.b (isDig (↑(s.data.toList.getD 0 (0 : UInt8)).toNat : Int)) (.y true (.s (lb
 false))) (.p ((0 : Int) ≤ 0 ∧ 0 < s.data.toList.length) (.i ((↑(s.data.toList.getD 0 (0 : UInt8)).toNat : Int) = 45) (.h (s.data.toList.length ≤ 9223372036854775807) (.i (1 <
 (↑s.data.toList.length : Int)) (.p ((0 : Int) ≤ 1 ∧ 1 < s.data.toList.length) (.c [.rd] (c_sDigit (↑(s.data.toList.getD 1 (0 : UInt8)).toNat : Int)) (.b (isDig
 (↑(s.data.toList.getD 1 (0 : UInt8)).toNat : Int)) (.s (lb false)) (.l (lc_sIsSymbolLa s) (Sc_sIsSymbolLa s) [] [.s (li 0)] 0 (.t (.s (lb true)) (.t (.s (lb false)) .q)))))) (.y
 false (.l (lc_sIsSymbolLa s) (Sc_sIsSymbolLa s) [] [.s (li 0)] 0 (.t (.s (lb true)) (.t (.s (lb false)) .q)))))) (.y false (.y false (.l (lc_sIsSymbolLa s) (Sc_sIsSymbolLa s) []
 [.s (li 0)] 0 (.t (.s (lb true)) (.t (.s (lb false)) .q))))))))))))) (by
  dsimp only [teasy, P_c_sIsSymbol, nthW, lc_sIsSymbolLa]
  with_reducible repeat' (first | apply And.intro | exact zR | (intro; skip))
  all_goals (try simp only [std, inj] at *)
  all_goals with_reducible repeat' apply And.intro
  all_goals (try (first | exact z | grind [isSym, snocI, snocS, rowSnoc])))
abbrev P_c_iIsSymbol (s : ByteArray) : Ct := ⟨73, [], [ls s], [], .sv (lb (isSym s))⟩
def lc_iIsSymbolLa (s : ByteArray) : Lp Nat := .mk 43 0 (fun x => [(0, ls s), (3, hs x 0)]) (fun x => []) (fun k => [.s (li (↑k : Int))]) (fun k => k ≤ s.size ∧ s.size ≤ 16 ∧
 ((List.take k s.data.toList).all fun b => isMk (↑b.toNat : Int)) = true) (fun k => s.size - k) [.mk ((s.data.toList.all fun b => isMk (↑b.toNat : Int)) = true) (.exit 0) (fun x =>
 []) (fun x => []) [], .mk ((s.data.toList.all fun b => isMk (↑b.toNat : Int)) = false) .ret (fun x => [(2, hs x 0)]) (fun x => []) [.s (lb false)]]
theorem Sc_iIsSymbolLa (s : ByteArray) : Lp.Sem Try.prog (loopAt Try.f73 0) (lc_iIsSymbolLa s) := lpOK (fun k => .h (s.data.toList.length ≤ 9223372036854775807) (.i ((↑k : Int) <
 (↑s.data.toList.length : Int)) (.p (0 ≤ (↑k : Int) ∧ (↑k : Int).toNat < s.data.toList.length) (.c [.rd] (c_iMark (↑(s.data.toList.getD (↑k : Int).toNat (0 : UInt8)).toNat : Int))
 (.b (!isMk (↑(s.data.toList.getD (↑k : Int).toNat (0 : UInt8)).toNat : Int)) (.o 1 [] [.s (lb false)]) (.r ((↑k : Int) + 1) (.g [] (k + 1) [.s (li ((↑k : Int) + 1))]))))) (.o 0 []
 []))) (by
  intro k h; try dsimp only [teasy, nthW, lc_iIsSymbolLa] at h ⊢
  have g1 := @all_stop s.data.toList (fun b => isMk b.toNat) k
  have g2 := @all_go s.data.toList (fun b => isMk b.toNat) k
  have g3 := @all_all s.data.toList (fun b => isMk b.toNat) k
  with_reducible repeat' (first | apply And.intro | exact zR | (intro; skip))
  all_goals (try simp only [std, inj] at *)
  all_goals with_reducible repeat' apply And.intro
  all_goals (try (first | exact z | grind [snocI, snocS, rowSnoc])))
theorem c_iIsSymbol (s : ByteArray)  : P_c_iIsSymbol s := fnOK Try.call73 Try.func73 (.h (s.data.toList.length ≤ 9223372036854775807) (.i ((↑s.data.toList.length : Int) < 1) (.y
 true (.y true (.y true (.s (lb false))))) (.h (s.data.toList.length ≤ 9223372036854775807) (.i (16 < (↑s.data.toList.length : Int)) (.y true (.y true (.s (lb false)))) (.p ((0 :
 Int) ≤ 0 ∧ 0 < s.data.toList.length) (.c [.rd] (c_iDigit (↑(s.data.toList.getD 0 (0 : UInt8)).toNat : Int)) (.b (isDig (↑(s.data.toList.getD 0 (0 : UInt8)).toNat : Int)) (.y true
 (.s (lb false))) (.p ((0 : Int) ≤ 0 ∧ 0 < s.data.toList.length) (.i ((↑(s.data.toList.getD 0 (0 : UInt8)).toNat : Int) = 45) (.h (s.data.toList.length ≤ 9223372036854775807) (.i
 (1 < (↑s.data.toList.length : Int)) (.p ((0 : Int) ≤ 1 ∧ 1 < s.data.toList.length) (.c [.rd] (c_iDigit (↑(s.data.toList.getD 1 (0 : UInt8)).toNat : Int)) (.b (isDig
 (↑(s.data.toList.getD 1 (0 : UInt8)).toNat : Int)) (.s (lb false)) (.l (lc_iIsSymbolLa s) (Sc_iIsSymbolLa s) [] [.s (li 0)] 0 (.t (.s (lb true)) (.t (.s (lb false)) .q)))))) (.y
 false (.l (lc_iIsSymbolLa s) (Sc_iIsSymbolLa s) [] [.s (li 0)] 0 (.t (.s (lb true)) (.t (.s (lb false)) .q)))))) (.y false (.y false (.l (lc_iIsSymbolLa s) (Sc_iIsSymbolLa s) []
 [.s (li 0)] 0 (.t (.s (lb true)) (.t (.s (lb false)) .q)))))))))))))) (by
  dsimp only [teasy, P_c_iIsSymbol, nthW, lc_iIsSymbolLa]
  with_reducible repeat' (first | apply And.intro | exact zR | (intro; skip))
  all_goals (try simp only [std, inj] at *)
  all_goals with_reducible repeat' apply And.intro
  all_goals (try (first | exact z | grind [isSym, snocI, snocS, rowSnoc])))
abbrev P_c_sString (s : ByteArray) : Ct := ⟨67, [], [ls s], [], .sv (lb (isStr s))⟩
def lc_sStringLa (s : ByteArray) : Lp Nat := .mk 29 0 (fun x => [(0, ls s), (3, hs x 0)]) (fun x => []) (fun k => [.s (li (↑k : Int))]) (fun k => k ≤ s.size ∧ ((List.take k
 s.data.toList).all fun b => isStB (↑b.toNat : Int)) = true) (fun k => s.size - k) [.mk ((s.data.toList.all fun b => isStB (↑b.toNat : Int)) = true) (.exit 0) (fun x => [(0, ls
 s)]) (fun x => []) [], .mk ((s.data.toList.all fun b => isStB (↑b.toNat : Int)) = false) .ret (fun x => [(2, hs x 0)]) (fun x => []) [.s (lb false)]]
theorem Sc_sStringLa (s : ByteArray) : Lp.Sem Try.prog (loopAt Try.f67 0) (lc_sStringLa s) := lpOK (fun k => .h (s.data.toList.length ≤ 9223372036854775807) (.i ((↑k : Int) <
 (↑s.data.toList.length : Int)) (.p (0 ≤ (↑k : Int) ∧ (↑k : Int).toNat < s.data.toList.length) (.i ((↑(s.data.toList.getD (↑k : Int).toNat (0 : UInt8)).toNat : Int) < 32) (.y true
 (.y true (.o 1 [] [.s (lb false)]))) (.p (0 ≤ (↑k : Int) ∧ (↑k : Int).toNat < s.data.toList.length) (.i (126 < (↑(s.data.toList.getD (↑k : Int).toNat (0 : UInt8)).toNat : Int))
 (.y true (.o 1 [] [.s (lb false)])) (.p (0 ≤ (↑k : Int) ∧ (↑k : Int).toNat < s.data.toList.length) (.i ((↑(s.data.toList.getD (↑k : Int).toNat (0 : UInt8)).toNat : Int) = 34) (.o
 1 [] [.s (lb false)]) (.r ((↑k : Int) + 1) (.g [] (k + 1) [.s (li ((↑k : Int) + 1))])))))))) (.o 0 [] []))) (by
  intro k h; try dsimp only [teasy, nthW, lc_sStringLa] at h ⊢
  have g1 := @all_stop s.data.toList (fun b => isStB b.toNat) k
  have g2 := @all_go s.data.toList (fun b => isStB b.toNat) k
  have g3 := @all_all s.data.toList (fun b => isStB b.toNat) k
  with_reducible repeat' (first | apply And.intro | exact zR | (intro; skip))
  all_goals (try simp only [std, inj] at *)
  all_goals with_reducible repeat' apply And.intro
  all_goals (try (first | exact z | grind [isStB, snocI, snocS, rowSnoc])))
theorem c_sString (s : ByteArray)  : P_c_sString s := fnOK Try.call67 Try.func67 (.l (lc_sStringLa s) (Sc_sStringLa s) [] [.s (li 0)] 0 (.t (.h (s.data.toList.length ≤
 9223372036854775807) (.s (lb (decide ((↑s.data.toList.length : Int) ≤ 20))))) (.t (.s (lb false)) .q))) (by
  dsimp only [teasy, P_c_sString, nthW, lc_sStringLa]
  with_reducible repeat' (first | apply And.intro | exact zR | (intro; skip))
  all_goals (try simp only [std, inj] at *)
  all_goals with_reducible repeat' apply And.intro
  all_goals (try (first | exact z | grind [isStr, snocI, snocS, rowSnoc])))
abbrev P_c_iString (s : ByteArray) : Ct := ⟨74, [], [ls s], [], .sv (lb (isStr s))⟩
def lc_iStringLa (s : ByteArray) : Lp Nat := .mk 29 0 (fun x => [(0, ls s), (3, hs x 0)]) (fun x => []) (fun k => [.s (li (↑k : Int))]) (fun k => k ≤ s.size ∧ ((List.take k
 s.data.toList).all fun b => isStB (↑b.toNat : Int)) = true) (fun k => s.size - k) [.mk ((s.data.toList.all fun b => isStB (↑b.toNat : Int)) = true) (.exit 0) (fun x => []) (fun x
 => []) [], .mk ((s.data.toList.all fun b => isStB (↑b.toNat : Int)) = false) .ret (fun x => [(2, hs x 0)]) (fun x => []) [.s (lb false)]]
theorem Sc_iStringLa (s : ByteArray) : Lp.Sem Try.prog (loopAt Try.f74 0) (lc_iStringLa s) := lpOK (fun k => .h (s.data.toList.length ≤ 9223372036854775807) (.i ((↑k : Int) <
 (↑s.data.toList.length : Int)) (.p (0 ≤ (↑k : Int) ∧ (↑k : Int).toNat < s.data.toList.length) (.i ((↑(s.data.toList.getD (↑k : Int).toNat (0 : UInt8)).toNat : Int) < 32) (.y true
 (.y true (.o 1 [] [.s (lb false)]))) (.p (0 ≤ (↑k : Int) ∧ (↑k : Int).toNat < s.data.toList.length) (.i (126 < (↑(s.data.toList.getD (↑k : Int).toNat (0 : UInt8)).toNat : Int))
 (.y true (.o 1 [] [.s (lb false)])) (.p (0 ≤ (↑k : Int) ∧ (↑k : Int).toNat < s.data.toList.length) (.i ((↑(s.data.toList.getD (↑k : Int).toNat (0 : UInt8)).toNat : Int) = 34) (.o
 1 [] [.s (lb false)]) (.r ((↑k : Int) + 1) (.g [] (k + 1) [.s (li ((↑k : Int) + 1))])))))))) (.o 0 [] []))) (by
  intro k h; try dsimp only [teasy, nthW, lc_iStringLa] at h ⊢
  have g1 := @all_stop s.data.toList (fun b => isStB b.toNat) k
  have g2 := @all_go s.data.toList (fun b => isStB b.toNat) k
  have g3 := @all_all s.data.toList (fun b => isStB b.toNat) k
  with_reducible repeat' (first | apply And.intro | exact zR | (intro; skip))
  all_goals (try simp only [std, inj] at *)
  all_goals with_reducible repeat' apply And.intro
  all_goals (try (first | exact z | grind [isStB, snocI, snocS, rowSnoc])))
theorem c_iString (s : ByteArray)  : P_c_iString s := fnOK Try.call74 Try.func74 (.h (s.data.toList.length ≤ 9223372036854775807) (.i (20 < (↑s.data.toList.length : Int)) (.s (lb
 false)) (.l (lc_iStringLa s) (Sc_iStringLa s) [] [.s (li 0)] 0 (.t (.s (lb true)) (.t (.s (lb false)) .q))))) (by
  dsimp only [teasy, P_c_iString, nthW, lc_iStringLa]
  with_reducible repeat' (first | apply And.intro | exact zR | (intro; skip))
  all_goals (try simp only [std, inj] at *)
  all_goals with_reducible repeat' apply And.intro
  all_goals (try (first | exact z | grind [isStr, snocI, snocS, rowSnoc])))
def isNam (s : ByteArray) : Bool := isSym s && decide ((s.size : Int) ≤ 8)
def nodD (k n : Int) (t : ByteArray) (i : Int) : Bool := decide (k = 0 ∧ n = 0 ∧ t.data.toList = []) || decide (k = 1 ∧ n = 0 ∧ isSym t = true ∧ i = 0) || decide (k = 2 ∧ -999999999 ≤ n ∧ n ≤ 999999999 ∧ t.data.toList = [] ∧ i = 0) || decide (k = 3 ∧ 0 ≤ n ∧ n ≤ 1 ∧ t.data.toList = [] ∧ i = 0) || decide (k = 4 ∧ n = 0 ∧ isStr t = true ∧ i = 0)
abbrev P_c_sNode (k : Int) (n : Int) (t : ByteArray) (i : Int) : Ct := ⟨69, [], [li k, li n, ls t, li i], [], .sv (lb (nodD k n t i))⟩
theorem c_sNode (k n : Int) (t : ByteArray) (i : Int)  : P_c_sNode k n t i := fnOK Try.call69 Try.func69 (.i (k = 0) (.i (n = 0) (.s (lb (decide (t.data.toList = [])))) (.s (lb
 false))) (.i (k = 1) (.i (n = 0) (.c [.rd] (c_sIsSymbol t) (.b (isSym t) (.s (lb (decide (i = 0)))) (.s (lb false)))) (.y false (.s (lb false)))) (.i (k = 2) (.c [.rd, .rd, .rd]
 (c_l1In n (-999999999 : Int) 999999999) (.i ((-999999999 : Int) ≤ n ∧ n ≤ 999999999) (.i (t.data.toList = []) (.s (lb (decide (i = 0)))) (.s (lb false))) (.y false (.s (lb
 false))))) (.i (k = 3) (.c [.rd, .rd, .rd] (c_l1In n 0 1) (.i (0 ≤ n ∧ n ≤ 1) (.i (t.data.toList = []) (.s (lb (decide (i = 0)))) (.s (lb false))) (.y false (.s (lb false))))) (.i
 (k = 4) (.i (n = 0) (.c [.rd] (c_sString t) (.b (isStr t) (.s (lb (decide (i = 0)))) (.s (lb false)))) (.y false (.s (lb false)))) (.s (lb false))))))) (by
  dsimp only [teasy, P_c_sNode]
  with_reducible repeat' (first | apply And.intro | exact zR | (intro; skip))
  all_goals (try simp only [std, inj] at *)
  all_goals with_reducible repeat' apply And.intro
  all_goals (try (first | exact z | grind [nodD, snocI, snocS, rowSnoc])))
abbrev P_c_iNode (k : Int) (n : Int) (t : ByteArray) (i : Int) : Ct := ⟨72, [], [li k, li n, ls t, li i], [], .sv (lb (nodD k n t i))⟩
theorem c_iNode (k n : Int) (t : ByteArray) (i : Int)  : P_c_iNode k n t i := fnOK Try.call72 Try.func72 (.i (k = 0) (.i (n = 0) (.s (lb (decide (t.data.toList = [])))) (.s (lb
 false))) (.i (k = 1) (.i (n = 0) (.i (i = 0) (.c [.rd] (c_iIsSymbol t) (.s (lb (isSym t)))) (.s (lb false))) (.y false (.s (lb false)))) (.i (k = 2) (.i ((-999999999 : Int) ≤ n)
 (.i (n ≤ 999999999) (.i (t.data.toList = []) (.s (lb (decide (i = 0)))) (.s (lb false))) (.y false (.s (lb false)))) (.y false (.y false (.s (lb false))))) (.i (k = 3) (.i (n = 0)
 (.y true (.i (t.data.toList = []) (.s (lb (decide (i = 0)))) (.s (lb false)))) (.i (n = 1) (.i (t.data.toList = []) (.s (lb (decide (i = 0)))) (.s (lb false))) (.y false (.s (lb
 false))))) (.i (k = 4) (.i (n = 0) (.i (i = 0) (.c [.rd] (c_iString t) (.s (lb (isStr t)))) (.s (lb false))) (.y false (.s (lb false)))) (.s (lb false))))))) (by
  dsimp only [teasy, P_c_iNode]
  with_reducible repeat' (first | apply And.intro | exact zR | (intro; skip))
  all_goals (try simp only [std, inj] at *)
  all_goals with_reducible repeat' apply And.intro
  all_goals (try (first | exact z | grind [nodD, snocI, snocS, rowSnoc])))
mutual
def sizeD : Datum → Nat
  | ⟨_, _, _, l⟩ => sizeDs l + 1
def sizeDs : List Datum → Nat
  | [] => 0
  | c :: r => sizeD c + sizeDs r
end
theorem sizeDs_eq : ∀ l, sizeDs l = sumBy sizeD l
  | [] => by simp [sizeDs, sumBy]
  | c :: r => by rw [sizeDs, sumBy, sizeDs_eq r]
theorem sizeD_eq (c : Datum) : sizeD c = sumBy sizeD c.items + 1 := by cases c; simp only [sizeD, sizeDs_eq]
mutual
def depD : Datum → Nat
  | ⟨_, _, _, l⟩ => depDs l + 1
def depDs : List Datum → Nat
  | [] => 0
  | c :: r => max (depD c) (depDs r)
end
theorem depDs_eq : ∀ l, depDs l = maxBy depD l
  | [] => by simp [depDs, maxBy]
  | c :: r => by rw [depDs, maxBy, depDs_eq r]
theorem depD_eq (c : Datum) : depD c = maxBy depD c.items + 1 := by cases c; simp only [depD, depDs_eq]
theorem depD_le : ∀ c : Datum, depD c ≤ sizeD c := by
  refine Datum.ind fun c ih => ?_
  have := maxBy_sum ih
  rw [sizeD_eq, depD_eq]; omega
mutual
def okD : Datum → Bool
  | ⟨k, n, t, l⟩ => okDs l && nodD k n t l.length
def okDs : List Datum → Bool
  | [] => true
  | c :: r => okD c && okDs r
end
theorem okDs_eq : ∀ l, okDs l = l.all okD
  | [] => by simp [okDs]
  | c :: r => by rw [okDs, okDs_eq r]; rfl
theorem okD_eq (c : Datum) : okD c = (c.items.all okD && nodD c.kind c.number c.text c.items.length) := by cases c; simp only [okD, okDs_eq]
def isDat (d : Datum) : Bool := decide (sizeD d ≤ 600) && decide (depD d ≤ 20) && okD d
mutual
def meaD : Datum → Int → Int → Bool × Int
  | ⟨k, n, t, l⟩, deep, m => if deep ≤ 20 ∧ m + 1 ≤ 600 ∧ nodD k n t l.length = true then meaDs l (deep + 1) (m + 1) else (false, m + 1)
def meaDs : List Datum → Int → Int → Bool × Int
  | [], _, m => (true, m)
  | x :: r, deep, m => if (meaD x deep m).1 then meaDs r deep (meaD x deep m).2 else (false, (meaD x deep m).2)
end
theorem meaDs_eq : ∀ l deep m, meaDs l deep m = scan (fun x m => meaD x deep m) l m
  | [], _, _ => by simp [meaDs, scan]
  | x :: r, deep, m => by simp only [meaDs, scan, meaDs_eq r]
theorem meaD_eq (c : Datum) (deep m : Int) : meaD c deep m = if deep ≤ 20 ∧ m + 1 ≤ 600 ∧ nodD c.kind c.number c.text c.items.length = true then scan (fun x m => meaD x (deep + 1) m) c.items (m + 1) else (false, m + 1) := by cases c; simp only [meaD, meaDs_eq]
theorem meaD_of : ∀ (c : Datum) (deep m : Int), m ≤ 600 → ((meaD c deep m).1 = true ↔ (m + sizeD c ≤ 600 ∧ (deep + depD c ≤ 21 ∧ okD c = true))) ∧ ((meaD c deep m).1 = true → (meaD c deep m).2 = m + sizeD c) := by
  refine Datum.ind fun c ih deep m hm => ?_
  rw [meaD_eq, sizeD_eq, depD_eq, okD_eq, Bool.and_eq_true, List.all_eq_true]
  by_cases h : deep ≤ 20 ∧ m + 1 ≤ 600 ∧ nodD c.kind c.number c.text c.items.length = true
  · rw [if_pos h]
    have h1 := scan_of (fun x m => meaD x (deep + 1) m) sizeD (fun x => deep + 1 + depD x ≤ 21 ∧ okD x = true) 600 c.items (fun x hx m hm => ih x hx (deep + 1) m hm) (m + 1) h.2.1
    have h2 := maxBy_le depD (m := (20 - deep).toNat) (L := c.items)
    constructor
    · rw [h1.1]
      constructor
      · rintro ⟨a, b⟩
        have := h2.2 fun x hx => by have := (b x hx).1; omega
        exact ⟨by omega, by omega, fun x hx => (b x hx).2, h.2.2⟩
      · rintro ⟨a, b, d, e⟩
        have := h2.1 (by omega)
        exact ⟨by omega, fun x hx => ⟨by have := this x hx; omega, d x hx⟩⟩
    · intro ht; rw [h1.2 ht]; omega
  · rw [if_neg h]
    refine ⟨⟨fun e => Bool.noConfusion e, ?_⟩, fun e => Bool.noConfusion e⟩
    rintro ⟨a, b, d, e⟩
    exact absurd ⟨by omega, by omega, e⟩ h
theorem meaD_isDat (d : Datum) : (meaD d 1 0).1 = isDat d := by
  have h := (meaD_of d 1 0 (by decide)).1
  rw [Bool.eq_iff_iff, h]
  simp only [isDat, Bool.and_eq_true, decide_eq_true_eq, and_assoc]
  constructor
  · rintro ⟨a, b, e⟩; exact ⟨by omega, by omega, e⟩
  · rintro ⟨a, b, e⟩; exact ⟨by omega, by omega, e⟩
abbrev P_c_sFewD (d : Datum) (l : Int) : Ct := ⟨63, [.box [vI l]], [datumA d, .one (.ptr 0 0)], [.box [vI (max (l - sizeD d) (-1))]], .sv (lb (decide (sizeD d ≤ l)))⟩
def lc_sFewD_sLa (d : Datum) (l : Int) : Lp Nat := .mk 36 1 (fun x => [(1, SV.one (AC.ptr 0 0)), (2, SV.one (AC.ptr 1 0)), (5, hs x 0)]) (fun x => [Ob.box [ha x 1], Ob.box (vals
 (datumF d))]) (fun k => [.s (li (↑k : Int)), .a (vI (max (l - 1 - (↑(sumBy sizeD (List.take k d.items)) : Int)) (-1 : Int)))]) (fun k => d.items.length ≥ k) (fun k =>
 d.items.length - k) [.mk True (.exit 0) (fun x => [(1, SV.one (AC.ptr 0 0))]) (fun x => [Ob.box [ha x 0]]) [.a (vI (max (l - (↑(sizeD d) : Int)) (-1 : Int)))]]
theorem Sc_sFewD_sLa (d : Datum) (l : Int) (h : 0 ≤ l ∧ l ≤ 1000000) (ih : ∀ (z : Datum), z ∈ d.items → ∀ (l : Int), 0 ≤ l ∧ l ≤ 1000000 → OK (P_c_sFewD z l)) : Lp.Sem Try.prog
 (loopAt Try.f63 0) (lc_sFewD_sLa d l) := lpOK (fun k => .z datumC d.items (.i ((↑k : Int) < (↑(List.map datumC d.items).length : Int)) (.i (0 ≤ max (l - 1 - (↑(sumBy sizeD
 (List.take k d.items)) : Int)) (-1 : Int)) (.x (↑k : Int) (List.map datumC d.items) (datumF (d.items.getD k default)) (.d [.rd, .ptr] (P_c_sFewD (d.items.getD k default) (max (l -
 1 - (↑(sumBy sizeD (List.take k d.items)) : Int)) (-1 : Int))) (.r ((↑k : Int) + 1) (.g [0, 1] (k + 1) [.s (li ((↑k : Int) + 1)), .a (vI (max (max (l - 1 - (↑(sumBy sizeD
 (List.take k d.items)) : Int)) (-1 : Int) - (↑(sizeD (d.items.getD k default)) : Int)) (-1 : Int)))])))) (.o 0 [0] [.a (vI (max (l - 1 - (↑(sumBy sizeD (List.take k d.items)) :
 Int)) (-1 : Int)))])) (.y false (.o 0 [0] [.a (vI (max (l - 1 - (↑(sumBy sizeD (List.take k d.items)) : Int)) (-1 : Int)))])))) (by
  intro k h; try dsimp only [teasy, nthW, lc_sFewD_sLa] at h ⊢
  have g1 := sizeD_eq d
  have g2 := sumBy_takeLe sizeD d.items k
  have g3 := @sumBy_step _ _ sizeD d.items k
  with_reducible repeat' (first | apply And.intro | exact zR | exact ih | (intro; skip) | apply ih)
  all_goals (try simp only [std, inj] at *)
  all_goals with_reducible repeat' apply And.intro
  all_goals (try (first | with_reducible apply ih | (simp only [← List.map_append]; first | with_reducible apply ih)))
  all_goals (try (first | exact z | grind [getD_mem', snocI, snocS, rowSnoc])))
theorem c_sFewD_s (d : Datum) (l : Int) (h : 0 ≤ l ∧ l ≤ 1000000) (ih : ∀ z ∈ d.items, ∀ (l : Int) (h : 0 ≤ l ∧ l ≤ 1000000), P_c_sFewD z l)  : P_c_sFewD d l := fnOK Try.call63
 Try.func63 (.r (l - 1) (.l (lc_sFewD_sLa d l) (Sc_sFewD_sLa d l h ih) [0, 1] [.s (li 0), .a (vI (l - 1))] 0 (.t (.f [] [Ob.box [vI (max (l - (↑(sizeD d) : Int)) (-1 : Int))]]
 (AV.sv (lb (decide (0 ≤ max (l - (↑(sizeD d) : Int)) (-1 : Int)))))) .q))) (by
  dsimp only [teasy, P_c_sFewD, nthW, lc_sFewD_sLa]
  have g1 := sizeD_eq d
  have g2 : sumBy sizeD (d.items.take 0) = 0 := rfl
  with_reducible repeat' (first | apply And.intro | exact zR | exact ih | (intro; skip))
  all_goals (try simp only [std, inj] at *)
  all_goals with_reducible repeat' apply And.intro
  all_goals (try (first | with_reducible apply ih | (simp only [← List.map_append]; first | with_reducible apply ih)))
  all_goals (try (first | exact z | grind [snocI, snocS, rowSnoc])))
theorem c_sFewD (d : Datum) : ∀ (l : Int) (h : 0 ≤ l ∧ l ≤ 1000000), P_c_sFewD d l := Datum.ind (P := fun d => ∀ (l : Int) (h : 0 ≤ l ∧ l ≤ 1000000), P_c_sFewD d l) (fun d ih l h => c_sFewD_s d l h ih) d
abbrev P_c_sDepD (d : Datum) : Ct := ⟨64, [], [datumA d], [], .sv (li (depD d))⟩
def lc_sDepD_sLa (d : Datum) : Lp Nat := .mk 20 0 (fun x => [(3, hs x 1), (7, ll (List.map datumC d.items)), (8, li (↑(List.map datumC d.items).length : Int)), (9, hs x 0)]) (fun x
 => []) (fun k => [.s (li (↑k : Int)), .s (li (↑(maxBy depD (List.take k d.items)) : Int))]) (fun k => k ≤ d.items.length ∧ d.items.length ≤ 9223372036854775807) (fun k =>
 d.items.length - k) [.mk True (.exit 0) (fun x => [(3, hs x 0)]) (fun x => []) [.s (li (↑(maxBy depD d.items) : Int))]]
theorem Sc_sDepD_sLa (d : Datum) (h : sizeD d ≤ 2147483647) (ih : ∀ (z : Datum), z ∈ d.items → sizeD z ≤ 2147483647 → OK (P_c_sDepD z)) : Lp.Sem Try.prog (loopAt Try.f64 0)
 (lc_sDepD_sLa d) := lpOK (fun k => .i ((↑k : Int) < (↑(List.map datumC d.items).length : Int)) (.x (↑k : Int) (List.map datumC d.items) (datumF (d.items.getD k default)) (.d [.rd]
 (P_c_sDepD (d.items.getD k default)) (.r ((↑k : Int) + 1) (.g [] (k + 1) [.s (li ((↑k : Int) + 1)), .s (li (max (↑(maxBy depD (List.take k d.items)) : Int) (↑(depD (d.items.getD k
 default)) : Int)))])))) (.o 0 [] [.s (li (↑(maxBy depD (List.take k d.items)) : Int))])) (by
  intro k h; try dsimp only [teasy, nthW, lc_sDepD_sLa] at h ⊢
  have g1 := sizeD_eq d
  have g2 := @sumBy_mem _ sizeD d.items (d.items.getD k default)
  with_reducible repeat' (first | apply And.intro | exact zR | exact ih | (intro; skip) | apply ih)
  all_goals (try simp only [std, inj] at *)
  all_goals with_reducible repeat' apply And.intro
  all_goals (try (first | with_reducible apply ih | (simp only [← List.map_append]; first | with_reducible apply ih)))
  all_goals (try (first | exact z | grind [maxBy_step, getD_mem', snocI, snocS, rowSnoc])))
theorem c_sDepD_s (d : Datum) (h : sizeD d ≤ 2147483647) (ih : ∀ z ∈ d.items, ∀ (h : sizeD z ≤ 2147483647), P_c_sDepD z)  : P_c_sDepD d := fnOK Try.call64 Try.func64 (.z datumC
 d.items (.l (lc_sDepD_sLa d) (Sc_sDepD_sLa d h ih) [] [.s (li 0), .s (li 0)] 0 (.t (.r ((↑(maxBy depD d.items) : Int) + 1) (.s (li ((↑(maxBy depD d.items) : Int) + 1)))) .q))) (by
  dsimp only [teasy, P_c_sDepD, nthW, lc_sDepD_sLa]
  have h1 := depD_le d
  have g2 : maxBy depD (d.items.take 0) = 0 := rfl
  with_reducible repeat' (first | apply And.intro | exact zR | exact ih | (intro; skip))
  all_goals (try simp only [std, inj] at *)
  all_goals with_reducible repeat' apply And.intro
  all_goals (try (first | with_reducible apply ih | (simp only [← List.map_append]; first | with_reducible apply ih)))
  all_goals (try (first | exact z | grind [depD_eq, snocI, snocS, rowSnoc])))
theorem c_sDepD (d : Datum) : ∀ (h : sizeD d ≤ 2147483647), P_c_sDepD d := Datum.ind (P := fun d => ∀ (h : sizeD d ≤ 2147483647), P_c_sDepD d) (fun d ih h => c_sDepD_s d h ih) d
abbrev P_c_sOkD (d : Datum) : Ct := ⟨65, [], [datumA d], [], .sv (lb (okD d))⟩
def lc_sOkD_sLa (d : Datum) : Lp Nat := .mk 26 0 (fun x => [(1, SV.one (AC.ptr 0 0)), (6, ll (List.map datumC d.items)), (7, li (↑(List.map datumC d.items).length : Int)), (8, hs x
 0)]) (fun x => [Ob.box (vals (datumF d))]) (fun k => [.s (li (↑k : Int))]) (fun k => k ≤ d.items.length ∧ d.items.length ≤ 9223372036854775807 ∧ (List.take k d.items).all okD =
 true) (fun k => d.items.length - k) [.mk (d.items.all okD = true) (.exit 0) (fun x => [(1, SV.one (AC.ptr 0 0))]) (fun x => [Ob.box (vals (datumF d))]) [], .mk (d.items.all okD =
 false) .ret (fun x => [(2, hs x 0)]) (fun x => []) [.s (lb false)]]
theorem Sc_sOkD_sLa (d : Datum) (ih : ∀ (z : Datum), z ∈ d.items → OK (P_c_sOkD z)) : Lp.Sem Try.prog (loopAt Try.f65 0) (lc_sOkD_sLa d) := lpOK (fun k => .i ((↑k : Int) <
 (↑(List.map datumC d.items).length : Int)) (.x (↑k : Int) (List.map datumC d.items) (datumF (d.items.getD k default)) (.d [.rd] (P_c_sOkD (d.items.getD k default)) (.b (!okD
 (d.items.getD k default)) (.o 1 [] [.s (lb false)]) (.r ((↑k : Int) + 1) (.g [0] (k + 1) [.s (li ((↑k : Int) + 1))]))))) (.o 0 [0] [])) (by
  intro k h; try dsimp only [teasy, nthW, lc_sOkD_sLa] at h ⊢
  with_reducible repeat' (first | apply And.intro | exact zR | exact ih | (intro; skip) | apply ih)
  all_goals (try simp only [std, inj] at *)
  all_goals with_reducible repeat' apply And.intro
  all_goals (try (first | with_reducible apply ih | (simp only [← List.map_append]; first | with_reducible apply ih)))
  all_goals (try (first | exact z | grind [take_get, getD_mem', snocI, snocS, rowSnoc])))
theorem c_sOkD_s (d : Datum) (ih : ∀ z ∈ d.items, P_c_sOkD z)  : P_c_sOkD d := fnOK Try.call65 Try.func65 (.z datumC d.items (.l (lc_sOkD_sLa d) (Sc_sOkD_sLa d ih) [0] [.s (li 0)]
 0 (.t (.z datumC d.items (.c [.rd, .rd, .rd, .rd] (c_sNode d.kind d.number d.text (↑(List.map datumC d.items).length : Int)) (.s (lb (nodD d.kind d.number d.text (↑(List.map
 datumC d.items).length : Int)))))) (.t (.s (lb false)) .q)))) (by
  dsimp only [teasy, P_c_sOkD, nthW, lc_sOkD_sLa]
  with_reducible repeat' (first | apply And.intro | exact zR | exact ih | (intro; skip))
  all_goals (try simp only [std, inj] at *)
  all_goals with_reducible repeat' apply And.intro
  all_goals (try (first | with_reducible apply ih | (simp only [← List.map_append]; first | with_reducible apply ih)))
  all_goals (try (first | exact z | grind [okD_eq, snocI, snocS, rowSnoc])))
theorem c_sOkD (d : Datum) : P_c_sOkD d := Datum.ind (P := fun d => P_c_sOkD d) (fun d ih => c_sOkD_s d ih) d
abbrev P_c_sIsDatum (d : Datum) : Ct := ⟨51, [], [datumA d], [], .sv (lb (isDat d))⟩
theorem c_sIsDatum (d : Datum)  : P_c_sIsDatum d := fnOK Try.call51 Try.func51 (.d [.rd, .ptr] (P_c_sFewD d 600) (.i ((↑(sizeD d) : Int) ≤ 600) (.d [.rd] (P_c_sDepD d) (.i ((↑(depD
 d) : Int) ≤ 20) (.c [.rd] (c_sOkD d) (.s (lb (okD d)))) (.s (lb false)))) (.y false (.s (lb false))))) (by
  dsimp only [teasy, P_c_sIsDatum]
  with_reducible repeat' (first | apply And.intro | exact zR | (intro; skip) | apply c_sFewD | apply c_sDepD)
  all_goals (try simp only [std, inj] at *)
  all_goals with_reducible repeat' apply And.intro
  all_goals (try (first | with_reducible apply c_sFewD | with_reducible apply c_sDepD | (simp only [← List.map_append]; first | with_reducible apply c_sFewD | with_reducible apply c_sDepD)))
  all_goals (try (first | exact z | grind [isDat, snocI, snocS, rowSnoc])))
abbrev P_c_iMeaD (d : Datum) (deep : Int) (q : Int) : Ct := ⟨68, [.box [vI q]], [datumA d, li deep, .one (.ptr 0 0)], [.box [vI (meaD d deep q).2]], .sv (lb (meaD d deep q).1)⟩
def lc_iMeaD_sLa (d : Datum) (deep : Int) (q : Int) : Lp Nat := .mk 49 1 (fun x => [(1, li deep), (2, SV.one (AC.ptr 0 0)), (36, ll (List.map datumC d.items)), (37, li (↑(List.map
 datumC d.items).length : Int)), (38, hs x 0)]) (fun x => [Ob.box [ha x 1]]) (fun k => [.s (li (↑k : Int)), .a (vI (scan (fun x m => meaD x (deep + 1) m) (List.take k d.items) (q +
 1)).snd)]) (fun k => k ≤ d.items.length ∧ d.items.length ≤ 9223372036854775807 ∧ deep ≤ 20 ∧ (scan (fun x m => meaD x (deep + 1) m) (List.take k d.items) (q + 1)).fst = true ∧ q ≤
 (scan (fun x m => meaD x (deep + 1) m) (List.take k d.items) (q + 1)).snd ∧ (scan (fun x m => meaD x (deep + 1) m) (List.take k d.items) (q + 1)).snd ≤ 600) (fun k =>
 d.items.length - k) [.mk ((scan (fun x m => meaD x (deep + 1) m) d.items (q + 1)).fst = true) (.exit 0) (fun x => []) (fun x => [Ob.box [ha x 0]]) [.a (vI (scan (fun x m => meaD x
 (deep + 1) m) d.items (q + 1)).snd)], .mk ((scan (fun x m => meaD x (deep + 1) m) d.items (q + 1)).fst = false) .ret (fun x => [(6, hs x 0)]) (fun x => [Ob.box [ha x 1]]) [.s (lb
 false), .a (vI (scan (fun x m => meaD x (deep + 1) m) d.items (q + 1)).snd)]]
theorem Sc_iMeaD_sLa (d : Datum) (deep : Int) (q : Int) (h : 0 ≤ deep ∧ deep ≤ 21 ∧ 0 ≤ q ∧ q ≤ 600) (ih : ∀ (z : Datum), z ∈ d.items → ∀ (deep q : Int), 0 ≤ deep ∧ deep ≤ 21 ∧ 0 ≤
 q ∧ q ≤ 600 → OK (P_c_iMeaD z deep q)) : Lp.Sem Try.prog (loopAt Try.f68 0) (lc_iMeaD_sLa d deep q) := lpOK (fun k => .i ((↑k : Int) < (↑(List.map datumC d.items).length : Int))
 (.x (↑k : Int) (List.map datumC d.items) (datumF (d.items.getD k default)) (.r (deep + 1) (.d [.rd, .rd, .ptr] (P_c_iMeaD (d.items.getD k default) (deep + 1) (scan (fun x m =>
 meaD x (deep + 1) m) (List.take k d.items) (q + 1)).snd) (.b (!(meaD (d.items.getD k default) (deep + 1) (scan (fun x m => meaD x (deep + 1) m) (List.take k d.items) (q +
 1)).snd).fst) (.o 1 [0] [.s (lb false), .a (vI (meaD (d.items.getD k default) (deep + 1) (scan (fun x m => meaD x (deep + 1) m) (List.take k d.items) (q + 1)).snd).snd)]) (.r ((↑k
 : Int) + 1) (.g [0] (k + 1) [.s (li ((↑k : Int) + 1)), .a (vI (meaD (d.items.getD k default) (deep + 1) (scan (fun x m => meaD x (deep + 1) m) (List.take k d.items) (q +
 1)).snd).snd)])))))) (.o 0 [0] [.a (vI (scan (fun x m => meaD x (deep + 1) m) (List.take k d.items) (q + 1)).snd)])) (by
  intro k h; try dsimp only [teasy, nthW, lc_iMeaD_sLa] at h ⊢
  have g1 := fun x m => meaD_of x (deep + 1) m
  with_reducible repeat' (first | apply And.intro | exact zR | exact ih | (intro; skip) | apply ih)
  all_goals (try simp only [std, inj] at *)
  all_goals with_reducible repeat' apply And.intro
  all_goals (try (first | with_reducible apply ih | (simp only [← List.map_append]; first | with_reducible apply ih)))
  all_goals (try (first | exact z | grind [scan_step, scan_stop, getD_mem', snocI, snocS, rowSnoc])))
theorem c_iMeaD_s (d : Datum) (deep q : Int) (h : 0 ≤ deep ∧ deep ≤ 21 ∧ 0 ≤ q ∧ q ≤ 600) (ih : ∀ z ∈ d.items, ∀ (deep : Int) (q : Int) (h : 0 ≤ deep ∧ deep ≤ 21 ∧ 0 ≤ q ∧ q ≤
 600), P_c_iMeaD z deep q)  : P_c_iMeaD d deep q := fnOK Try.call68 Try.func68 (.r (q + 1) (.i (20 < deep) (.y true (.y true (.f [] [Ob.box [vI (q + 1)]] (AV.sv (lb false))))) (.i
 (600 < q + 1) (.y true (.f [] [Ob.box [vI (q + 1)]] (AV.sv (lb false)))) (.z datumC d.items (.c [.rd, .rd, .rd, .rd] (c_iNode d.kind d.number d.text (↑(List.map datumC
 d.items).length : Int)) (.b (!nodD d.kind d.number d.text (↑(List.map datumC d.items).length : Int)) (.f [] [Ob.box [vI (q + 1)]] (AV.sv (lb false))) (.z datumC d.items (.l
 (lc_iMeaD_sLa d deep q) (Sc_iMeaD_sLa d deep q h ih) [0] [.s (li 0), .a (vI (q + 1))] 0 (.t (.f [] [Ob.box [vI (scan (fun x m => meaD x (deep + 1) m) d.items (q + 1)).snd]] (AV.sv
 (lb true))) (.t (.f [] [Ob.box [vI (scan (fun x m => meaD x (deep + 1) m) d.items (q + 1)).snd]] (AV.sv (lb false))) .q)))))))))) (by
  dsimp only [teasy, P_c_iMeaD, nthW, lc_iMeaD_sLa]
  with_reducible repeat' (first | apply And.intro | exact zR | exact ih | (intro; skip))
  all_goals (try simp only [std, inj] at *)
  all_goals with_reducible repeat' apply And.intro
  all_goals (try (first | with_reducible apply ih | (simp only [← List.map_append]; first | with_reducible apply ih)))
  all_goals (try (first | exact z | grind [meaD_eq, scan, snocI, snocS, rowSnoc])))
theorem c_iMeaD (d : Datum) : ∀ (deep : Int) (q : Int) (h : 0 ≤ deep ∧ deep ≤ 21 ∧ 0 ≤ q ∧ q ≤ 600), P_c_iMeaD d deep q := Datum.ind (P := fun d => ∀ (deep : Int) (q : Int) (h : 0 ≤ deep ∧ deep ≤ 21 ∧ 0 ≤ q ∧ q ≤ 600), P_c_iMeaD d deep q) (fun d ih deep q h => c_iMeaD_s d deep q h ih) d
abbrev P_c_iIsDatum (d : Datum) : Ct := ⟨61, [], [datumA d], [], .sv (lb (isDat d))⟩
theorem c_iIsDatum (d : Datum)  : P_c_iIsDatum d := fnOK Try.call61 Try.func61 (.d [.rd, .rd, .ptr] (P_c_iMeaD d 1 0) (.s (lb (meaD d 1 0).fst))) (by
  dsimp only [teasy, P_c_iIsDatum]
  with_reducible repeat' (first | apply And.intro | exact zR | (intro; skip) | apply c_iMeaD)
  all_goals (try simp only [std, inj] at *)
  all_goals with_reducible repeat' apply And.intro
  all_goals (try (first | with_reducible apply c_iMeaD | (simp only [← List.map_append]; first | with_reducible apply c_iMeaD)))
  all_goals (try (first | exact z | grind [meaD_isDat, snocI, snocS, rowSnoc])))
end Go.Proofs.Ytgeegppaaggcjaa
end
section
namespace Go.Proofs.Ytgeegppaaggcjaa
open Go Go.Proofs.Ytgeegppaaggcjaa.Ab
set_option linter.unusedVariables false
theorem wrap_u64 {n : Nat} (h : n < 9223372036854775808) : IntKind.wrap .i64 (n : Int) = n := by
  apply wrap_rng; rw [rng_i64]; omega
theorem wAnd_low {x : Int} {m : Nat} (hm : m < 9223372036854775808) : 0 ≤ wAnd .i64 x m ∧ wAnd .i64 x m ≤ m := by
  unfold wAnd
  have h1 : (BitVec.ofInt (IntKind.bits .i64) x &&& BitVec.ofInt (IntKind.bits .i64) (m : Int)).toNat ≤ m := by
    rw [BitVec.toNat_and]
    refine Nat.le_trans Nat.and_le_right ?_
    rw [BitVec.toNat_ofInt]
    have e : ((m : Int) % ((2 ^ IntKind.bits .i64 : Nat) : Int)).toNat = m := by
      have : ((2 ^ IntKind.bits .i64 : Nat) : Int) = 18446744073709551616 := by decide
      rw [this]; omega
    rw [e]; exact Nat.le_refl _
  rw [wrap_u64 (by omega)]
  omega
structure Cr where
  b : List UInt8
  i : Nat
  h : Int
instance : Inhabited Cr := ⟨⟨[], 0, 0⟩⟩
def crO (c : Cr) : Ob := .box [vL (c.b.map byteC), vI (c.i : Nat), vI c.h]
def hN (b : List UInt8) : Nat → Int
  | 0 => 3220 + (b.length : Int)
  | k + 1 => wAnd .i64 (hN b k * 1103 + ((b.getD k 0).toNat : Int) + 7) 1073741823
theorem hN_le {b : List UInt8} (h : b.length ≤ 1048576) : ∀ k, 0 ≤ hN b k ∧ hN b k ≤ 1073741823
  | 0 => by unfold hN; omega
  | k + 1 => by unfold hN; exact wAnd_low (m := 1073741823) (by decide)
def newC (b : List UInt8) : Cr := ⟨b, 0, hN b (min b.length 4000)⟩
def nxH (c : Cr) : Int := wI .i64 (wI .i64 (c.h * 6364136223846793005) + 1442695040888963407)
def nxR (c : Cr) : Int := wAnd .i64 (wXor .i64 (wShr .i64 (nxH c) 33) (wShr .i64 (nxH c) 45)) 255
def held {α : Type} (x : α) : α := if System.Platform.numBits = 64 then x else x
theorem held_eq {α : Type} (x : α) : held x = x := by unfold held; split <;> rfl
def nxX0 (c : Cr) : Int := if (c.i : Int) < (c.b.length : Int) then wAnd .i64 (nxR c + ((c.b.getD c.i 0).toNat : Int)) 255 else nxR c
def nxC0 (c : Cr) : Cr := ⟨c.b, if (c.i : Int) < (c.b.length : Int) then c.i + 1 else c.i, nxH c⟩
def nxX (c : Cr) : Int := held (nxX0 c)
def nxC (c : Cr) : Cr := held (nxC0 c)
theorem nxX_eq (c : Cr) : nxX c = nxX0 c := held_eq _
theorem nxC_eq (c : Cr) : nxC c = nxC0 c := held_eq _
theorem nxR_le (c : Cr) : 0 ≤ nxR c ∧ nxR c ≤ 255 := wAnd_low (m := 255) (by decide)
theorem nxX_le (c : Cr) : 0 ≤ nxX c ∧ nxX c ≤ 255 := by
  rw [nxX_eq]; unfold nxX0; split
  · exact wAnd_low (m := 255) (by decide)
  · exact nxR_le c
def okK (c : Cr) : Prop := c.b.length ≤ 1048576
theorem nxC_ok {c : Cr} (h : okK c) : okK (nxC c) := by rw [nxC_eq]; exact h
theorem newC_ok {b : List UInt8} (h : b.length ≤ 1048576) : okK (newC b) := h
def bigX (c : Cr) : Int := nxX c * 16777216 + nxX (nxC c) * 65536 + nxX (nxC (nxC c)) * 256 + nxX (nxC (nxC (nxC c)))
def beX0 (c : Cr) (n : Int) : Int := if n ≤ 0 then 0 else if n ≤ 256 then (nxX c).tmod n else (bigX c).tmod n
def beC0 (c : Cr) (n : Int) : Cr := if n ≤ 0 then c else if n ≤ 256 then nxC c else nxC (nxC (nxC (nxC c)))
def beX (c : Cr) (n : Int) : Int := held (beX0 c n)
def beC (c : Cr) (n : Int) : Cr := held (beC0 c n)
theorem beX_eq (c : Cr) (n : Int) : beX c n = beX0 c n := held_eq _
theorem beC_eq (c : Cr) (n : Int) : beC c n = beC0 c n := held_eq _
theorem beC_ok {c : Cr} {n : Int} (h : okK c) : okK (beC c n) := by
  rw [beC_eq]; unfold beC0; split
  · exact h
  · split
    · exact nxC_ok h
    · exact nxC_ok (nxC_ok (nxC_ok (nxC_ok h)))
theorem tmod_le {a n : Int} (ha : 0 ≤ a) (hn : 0 < n) : 0 ≤ a.tmod n ∧ a.tmod n < n := ⟨Int.tmod_nonneg _ ha, Int.tmod_lt_of_pos _ hn⟩
theorem beX_le (c : Cr) {n : Int} (hn : 0 < n) : 0 ≤ beX c n ∧ beX c n < n := by
  have h1 := nxX_le c; have h2 := nxX_le (nxC c); have h3 := nxX_le (nxC (nxC c)); have h4 := nxX_le (nxC (nxC (nxC c)))
  rw [beX_eq]; unfold beX0; rw [if_neg (by omega)]; split
  · exact tmod_le h1.1 hn
  · exact tmod_le (by unfold bigX; omega) hn
theorem beX_zero {c : Cr} {n : Int} (hn : n ≤ 0) : beX c n = 0 := by rw [beX_eq]; exact if_pos hn
theorem be_0 {c : Cr} {n : Int} (hn : n ≤ 0) : beX c n = 0 ∧ beC c n = c := ⟨beX_zero hn, by rw [beC_eq]; exact if_pos hn⟩
theorem be_1 {c : Cr} {n : Int} (h0 : ¬ n ≤ 0) (hn : n ≤ 256) : beX c n = (nxX c).tmod n ∧ beC c n = nxC c :=
  ⟨by rw [beX_eq]; unfold beX0; rw [if_neg h0, if_pos hn], by rw [beC_eq]; unfold beC0; rw [if_neg h0, if_pos hn]⟩
theorem be_4 {c : Cr} {n : Int} (h0 : ¬ n ≤ 0) (hn : ¬ n ≤ 256) : beX c n = (nxX c * 16777216 + nxX (nxC c) * 65536 + nxX (nxC (nxC c)) * 256 + nxX (nxC (nxC (nxC c)))).tmod n ∧ beC c n = nxC (nxC (nxC (nxC c))) :=
  ⟨by rw [beX_eq]; unfold beX0; rw [if_neg h0, if_neg hn]; rfl, by rw [beC_eq]; unfold beC0; rw [if_neg h0, if_neg hn]⟩
end Go.Proofs.Ytgeegppaaggcjaa
end
section
namespace Go.Proofs.Ytgeegppaaggcjaa
open Go Go.Proofs.Ytgeegppaaggcjaa.Ab
set_option linter.unusedVariables false
set_option linter.unusedSimpArgs false
set_option maxHeartbeats 4000000
abbrev P_c_dNew (b : List UInt8) : Ct := ⟨11, [], [ll (b.map byteC)], [crO (newC b)], .sv (.one (.ptr 0 0))⟩
def lc_dNewLa (b : List UInt8) : Lp Nat := .mk 32 0 (fun x => [(0, ll (List.map byteC b)), (3, hs x 1), (4, hs x 0)]) (fun x => []) (fun k => [.s (li (↑k : Int)), .s (li (hN b
 k))]) (fun k => k ≤ b.length ∧ b.length ≤ 9223372036854775807 ∧ k ≤ 4000) (fun k => b.length - k) [.mk True (.exit 0) (fun x => [(0, ll (List.map byteC b)), (3, hs x 0)]) (fun x
 => []) [.s (li (hN b (min b.length 4000)))]]
theorem Sc_dNewLa (b : List UInt8) (h : b.length ≤ 1048576) : Lp.Sem Try.prog (loopAt Try.f11 0) (lc_dNewLa b) := lpOK (fun k => .z byteC b (.i ((↑k : Int) < (↑(List.map byteC
 b).length : Int)) (.i ((↑k : Int) < 4000) (.r (hN b k * 1103) (.x (↑k : Int) (List.map byteC b) [Cell.lit (Value.int IntKind.u8 (↑(b.getD k default).toNat : Int))] (.r (↑(b.getD k
 default).toNat : Int) (.r (hN b k * 1103 + (↑(b.getD k default).toNat : Int)) (.r (hN b k * 1103 + (↑(b.getD k default).toNat : Int) + 7) (.r ((↑k : Int) + 1) (.g [] (k + 1) [.s
 (li ((↑k : Int) + 1)), .s (li (wAnd IntKind.i64 (hN b k * 1103 + (↑(b.getD k default).toNat : Int) + 7) 1073741823))]))))))) (.o 0 [] [.s (li (hN b k))])) (.y false (.o 0 [] [.s
 (li (hN b k))])))) (by
  intro k h; try dsimp only [teasy, nthW, lc_dNewLa] at h ⊢
  have g1 := hN_le (b := b) (by assumption) k
  have g2 : hN b (k + 1) = wAnd .i64 (hN b k * 1103 + ((b.getD k 0).toNat : Int) + 7) 1073741823 := rfl
  have g3 := (b.getD k 0).toNat_lt
  have g4 : b.length ≤ k → k ≤ 4000 → min b.length 4000 = k ∨ b.length < k := by omega
  have g5 : 4000 ≤ k → k ≤ 4000 → k ≤ b.length → min b.length 4000 = k := by omega
  have g6 : k < b.length → (b.map byteC)[k]? = some [.lit (.int .u8 ((b.getD k 0).toNat : Int))] := fun e => by simp [byteC, List.getD_eq_getElem?_getD, e]
  with_reducible repeat' (first | apply And.intro | exact zR | (intro; skip))
  all_goals (try simp only [std, inj] at *)
  all_goals with_reducible repeat' apply And.intro
  all_goals (try (first | exact zw | grind [snocI, snocS, rowSnoc])))
theorem c_dNew (b : List UInt8) (h : b.length ≤ 1048576)  : P_c_dNew b := fnOK Try.call11 Try.func11 (.z byteC b (.r (3220 + (↑(List.map byteC b).length : Int)) (.l (lc_dNewLa b)
 (Sc_dNewLa b h) [] [.s (li 0), .s (li (3220 + (↑(List.map byteC b).length : Int)))] 0 (.t (.f [0] [Ob.box [vL (List.map byteC b), vI 0, vI (hN b (min b.length 4000))]] (AV.sv
 (SV.one (AC.ptr 0 0)))) .q)))) (by
  dsimp only [teasy, P_c_dNew, nthW, lc_dNewLa]
  have g1 : hN b 0 = 3220 + (b.length : Int) := rfl
  have g2 : crO (newC b) = .box [vL (b.map byteC), vI 0, vI (hN b (min b.length 4000))] := rfl
  with_reducible repeat' (first | apply And.intro | exact zR | (intro; skip))
  all_goals (try simp only [std, inj] at *)
  all_goals with_reducible repeat' apply And.intro
  all_goals (try (first | exact zw | grind [snocI, snocS, rowSnoc])))
abbrev P_c_dByte (c : Cr) : Ct := ⟨34, [crO c], [.one (.ptr 0 0)], [crO (nxC c)], .sv (li (nxX c))⟩
theorem c_dByte (c : Cr) (h : okK c)  : P_c_dByte c := fnOK Try.call34 Try.func34 (.w (.draw []) (.p ((0 : Int) ≤ 33) (.p ((0 : Int) ≤ 45) (.w (.draw []) (.z byteC c.b (.i ((↑c.i :
 Int) < (↑(List.map byteC c.b).length : Int)) (.w (.draw []) (.x (↑c.i : Int) (List.map byteC c.b) [Cell.lit (Value.int IntKind.u8 (↑(c.b.getD c.i default).toNat : Int))] (.r
 (↑(c.b.getD c.i default).toNat : Int) (.r (wAnd IntKind.i64 (wXor IntKind.i64 (wShr IntKind.i64 (wI IntKind.i64 (wI IntKind.i64 (c.h * 6364136223846793005) + 1442695040888963407))
 33) (wShr IntKind.i64 (wI IntKind.i64 (wI IntKind.i64 (c.h * 6364136223846793005) + 1442695040888963407)) 45)) 255 + (↑(c.b.getD c.i default).toNat : Int)) (.r ((↑c.i : Int) + 1)
 (.f [] [Ob.box [vL (List.map byteC c.b), vI ((↑c.i : Int) + 1), vI (wI IntKind.i64 (wI IntKind.i64 (c.h * 6364136223846793005) + 1442695040888963407))]] (AV.sv (li (wAnd
 IntKind.i64 (wAnd IntKind.i64 (wXor IntKind.i64 (wShr IntKind.i64 (wI IntKind.i64 (wI IntKind.i64 (c.h * 6364136223846793005) + 1442695040888963407)) 33) (wShr IntKind.i64 (wI
 IntKind.i64 (wI IntKind.i64 (c.h * 6364136223846793005) + 1442695040888963407)) 45)) 255 + (↑(c.b.getD c.i default).toNat : Int)) 255))))))))) (.f [] [Ob.box [vL (List.map byteC
 c.b), vI (↑c.i : Int), vI (wI IntKind.i64 (wI IntKind.i64 (c.h * 6364136223846793005) + 1442695040888963407))]] (AV.sv (li (wAnd IntKind.i64 (wXor IntKind.i64 (wShr IntKind.i64
 (wI IntKind.i64 (wI IntKind.i64 (c.h * 6364136223846793005) + 1442695040888963407)) 33) (wShr IntKind.i64 (wI IntKind.i64 (wI IntKind.i64 (c.h * 6364136223846793005) +
 1442695040888963407)) 45)) 255)))))))))) (by
  dsimp only [teasy, P_c_dByte]
  have g1 := nxR_le c
  have g2 : nxR c = wAnd .i64 (wXor .i64 (wShr .i64 (wI .i64 (wI .i64 (c.h * 6364136223846793005) + 1442695040888963407)) 33) (wShr .i64 (wI .i64 (wI .i64 (c.h * 6364136223846793005) + 1442695040888963407)) 45)) 255 := rfl
  have g3 := (c.b.getD c.i 0).toNat_lt
  have g4 : c.i < c.b.length → (c.b.map byteC)[c.i]? = some [.lit (.int .u8 ((c.b.getD c.i 0).toNat : Int))] := fun e => by simp [byteC, List.getD_eq_getElem?_getD, e]
  have g5 : (c.i : Int) < c.b.length → crO (nxC c) = .box [vL (c.b.map byteC), vI ((c.i : Int) + 1), vI (wI .i64 (wI .i64 (c.h * 6364136223846793005) + 1442695040888963407))] := fun e => by rw [nxC_eq]; show Ob.box [_, vI ((if (c.i : Int) < (c.b.length : Int) then c.i + 1 else c.i : Nat) : Int), _] = _; rw [if_pos e]; rfl
  have g6 : ¬ (c.i : Int) < c.b.length → crO (nxC c) = .box [vL (c.b.map byteC), vI (c.i : Int), vI (wI .i64 (wI .i64 (c.h * 6364136223846793005) + 1442695040888963407))] := fun e => by rw [nxC_eq]; show Ob.box [_, vI ((if (c.i : Int) < (c.b.length : Int) then c.i + 1 else c.i : Nat) : Int), _] = _; rw [if_neg e]; rfl
  have g7 := nxX_eq c
  with_reducible repeat' (first | apply And.intro | exact zR | (intro; skip))
  all_goals (try simp only [std, inj] at *)
  all_goals with_reducible repeat' apply And.intro
  all_goals (try (first | exact zw | grind [nxX0, snocI, snocS, rowSnoc])))
abbrev P_c_dBelow (c : Cr) (n : Int) : Ct := ⟨15, [crO c], [.one (.ptr 0 0), li n], [crO (beC c n)], .sv (li (beX c n))⟩
theorem c_dBelow (c : Cr) (n : Int) (h : okK c)  : P_c_dBelow c n := fnOK Try.call15 Try.func15 (.i (n ≤ 0) (.f [] [Ob.box [vL (List.map byteC c.b), vI (↑c.i : Int), vI c.h]]
 (AV.sv (li 0))) (.i (n ≤ 256) (.d [.ptr] (P_c_dByte c) (.p (n ≠ 0) (.f [] [Ob.box [vL (List.map byteC (nxC c).b), vI (↑(nxC c).i : Int), vI (nxC c).h]] (AV.sv (li ((nxX c).tmod
 n)))))) (.d [.ptr] (P_c_dByte c) (.d [.ptr] (P_c_dByte (nxC c)) (.d [.ptr] (P_c_dByte (nxC (nxC c))) (.d [.ptr] (P_c_dByte (nxC (nxC (nxC c)))) (.r (nxX c * 16777216) (.r (nxX
 (nxC c) * 65536) (.r (nxX c * 16777216 + nxX (nxC c) * 65536) (.r (nxX (nxC (nxC c)) * 256) (.r (nxX c * 16777216 + nxX (nxC c) * 65536 + nxX (nxC (nxC c)) * 256) (.r (nxX c *
 16777216 + nxX (nxC c) * 65536 + nxX (nxC (nxC c)) * 256 + nxX (nxC (nxC (nxC c)))) (.p (n ≠ 0) (.f [] [Ob.box [vL (List.map byteC (nxC (nxC (nxC (nxC c)))).b), vI (↑(nxC (nxC
 (nxC (nxC c)))).i : Int), vI (nxC (nxC (nxC (nxC c)))).h]] (AV.sv (li ((nxX c * 16777216 + nxX (nxC c) * 65536 + nxX (nxC (nxC c)) * 256 + nxX (nxC (nxC (nxC c)))).tmod
 n))))))))))))))))) (by
  dsimp only [teasy, P_c_dBelow]
  have g1 := nxX_le c
  have g2 := nxX_le (nxC c)
  have g3 := nxX_le (nxC (nxC c))
  have g4 := nxX_le (nxC (nxC (nxC c)))
  have g5 := @be_0 c n
  have g6 := @be_1 c n
  have g7 := @be_4 c n
  with_reducible repeat' (first | apply And.intro | exact zR | (intro; skip) | apply c_dByte)
  all_goals (try simp only [std, inj] at *)
  all_goals with_reducible repeat' apply And.intro
  all_goals (try (first | with_reducible apply c_dByte | (simp only [← List.map_append]; first | with_reducible apply c_dByte)))
  all_goals (try (first | exact zw | grind [nxC_ok, crO, snocI, snocS, rowSnoc])))
abbrev P_c_dOnce (c : Cr) (n : Int) : Ct := ⟨13, [crO c], [.one (.ptr 0 0), li n], [crO (beC c n)], .sv (lb (decide (beX c n = 0)))⟩
theorem c_dOnce (c : Cr) (n : Int) (h : okK c)  : P_c_dOnce c n := fnOK Try.call13 Try.func13 (.d [.ptr, .rd] (P_c_dBelow c n) (.f [] [Ob.box [vL (List.map byteC (beC c n).b), vI
 (↑(beC c n).i : Int), vI (beC c n).h]] (AV.sv (lb (decide (beX c n = 0)))))) (by
  dsimp only [teasy, P_c_dOnce]
  with_reducible repeat' (first | apply And.intro | exact zR | (intro; skip) | apply c_dBelow)
  all_goals (try simp only [std, inj] at *)
  all_goals with_reducible repeat' apply And.intro
  all_goals (try (first | with_reducible apply c_dBelow | (simp only [← List.map_append]; first | with_reducible apply c_dBelow)))
  all_goals (try (first | exact zw | grind [crO, snocI, snocS, rowSnoc])))
abbrev P_c_dPick (c : Cr) (L : List ByteArray) : Ct := ⟨45, [crO c, .arr true 1 (L.map strC)], [.one (.ptr 0 0), .one (.ref 1)], [crO (beC c (L.length : Int)), .dead], .sv (ls (L.getD (beX c (L.length : Int)).toNat default))⟩
theorem c_dPick (c : Cr) (L : List ByteArray) (h : okK c ∧ 0 < L.length ∧ L.length ≤ 1000)  : P_c_dPick c L := fnOK Try.call45 Try.func45 (.z strC L (.d [.ptr, .rd] (P_c_dBelow c
 (↑(List.map strC L).length : Int)) (.p (0 ≤ beX c (↑(List.map strC L).length : Int) ∧ (beX c (↑(List.map strC L).length : Int)).toNat < (List.map strC L).length) (.w (.cells (strC
 (L.getD (beX c (↑(List.map strC L).length : Int)).toNat default))) (.p ((List.map strC L)[(beX c (↑(List.map strC L).length : Int)).toNat]? = some [cS (L.getD (beX c (↑(List.map
 strC L).length : Int)).toNat default)]) (.w (.ghost (.move 1)) (.f [] [Ob.box [vL (List.map byteC (beC c (↑(List.map strC L).length : Int)).b), vI (↑(beC c (↑(List.map strC
 L).length : Int)).i : Int), vI (beC c (↑(List.map strC L).length : Int)).h], Ob.dead] (AV.sv (ls (L.getD (beX c (↑(List.map strC L).length : Int)).toNat default)))))))))) (by
  dsimp only [teasy, P_c_dPick]
  have g1 := beX_le c (n := (L.length : Int)) (by omega)
  have g2 : (L.map strC)[(beX c (L.length : Int)).toNat]? = some [cS (L.getD (beX c (L.length : Int)).toNat default)] := getC (by omega) rfl
  with_reducible repeat' (first | apply And.intro | exact zR | (intro; skip) | apply c_dBelow)
  all_goals (try simp only [std, inj] at *)
  all_goals with_reducible repeat' apply And.intro
  all_goals (try (first | with_reducible apply c_dBelow | (simp only [← List.map_append]; first | with_reducible apply c_dBelow)))
  all_goals (try (first | exact zw | grind [crO, snocI, snocS, rowSnoc])))
abbrev P_c_dInt (c : Cr) (L : List Int) : Ct := ⟨28, [crO c, .arr true 1 (L.map intC)], [.one (.ptr 0 0), .one (.ref 1)], [crO (beC c (L.length : Int)), .dead], .sv (li (L.getD (beX c (L.length : Int)).toNat default))⟩
theorem c_dInt (c : Cr) (L : List Int) (h : okK c ∧ 0 < L.length ∧ L.length ≤ 1000)  : P_c_dInt c L := fnOK Try.call28 Try.func28 (.z intC L (.d [.ptr, .rd] (P_c_dBelow c
 (↑(List.map intC L).length : Int)) (.p (0 ≤ beX c (↑(List.map intC L).length : Int) ∧ (beX c (↑(List.map intC L).length : Int)).toNat < (List.map intC L).length) (.w (.cells (intC
 (L.getD (beX c (↑(List.map intC L).length : Int)).toNat default))) (.p ((List.map intC L)[(beX c (↑(List.map intC L).length : Int)).toNat]? = some [cI (L.getD (beX c (↑(List.map
 intC L).length : Int)).toNat 0)]) (.w (.ghost (.move 1)) (.f [] [Ob.box [vL (List.map byteC (beC c (↑(List.map intC L).length : Int)).b), vI (↑(beC c (↑(List.map intC L).length :
 Int)).i : Int), vI (beC c (↑(List.map intC L).length : Int)).h], Ob.dead] (AV.sv (li (L.getD (beX c (↑(List.map intC L).length : Int)).toNat 0)))))))))) (by
  dsimp only [teasy, P_c_dInt]
  have g1 := beX_le c (n := (L.length : Int)) (by omega)
  have g2 : (L.map intC)[(beX c (L.length : Int)).toNat]? = some [cI (L.getD (beX c (L.length : Int)).toNat default)] := getC (by omega) rfl
  with_reducible repeat' (first | apply And.intro | exact zR | (intro; skip) | apply c_dBelow)
  all_goals (try simp only [std, inj] at *)
  all_goals with_reducible repeat' apply And.intro
  all_goals (try (first | with_reducible apply c_dBelow | (simp only [← List.map_append]; first | with_reducible apply c_dBelow)))
  all_goals (try (first | exact zw | grind [crO, snocI, snocS, rowSnoc])))
end Go.Proofs.Ytgeegppaaggcjaa
end
section
namespace Go.Proofs.Ytgeegppaaggcjaa
open Go Go.Proofs.Ytgeegppaaggcjaa.Ab
set_option linter.unusedVariables false
set_option linter.unusedSimpArgs false
set_option maxHeartbeats 4000000
instance memDec (s : ByteArray) (L : List ByteArray) : Decidable (s ∈ L) := @List.instDecidableMemOfLawfulBEq ByteArray instBEqOfDecidableEq _ s L
def inS (L : List ByteArray) (s : ByteArray) : Bool := decide (s ∈ L)
def symD (s : ByteArray) : Datum := ⟨1, 0, s, []⟩
def lstD (L : List Datum) : Datum := ⟨0, 0, mkS [], L⟩
theorem isSym_le {s : ByteArray} : isSym s = true → (s.size : Int) ≤ 16 := by
  unfold isSym; simp only [Bool.and_eq_true, decide_eq_true_eq]; intro h; exact h.1.1.1.2
end Go.Proofs.Ytgeegppaaggcjaa
end
section
namespace Go.Proofs.Ytgeegppaaggcjaa
open Go Go.Proofs.Ytgeegppaaggcjaa.Ab
set_option linter.unusedVariables false
def many {α σ : Type} (f : σ → α × σ) : Nat → σ → List α × σ
  | 0, m => ([], m)
  | n + 1, m => ((many f n m).1 ++ [(f (many f n m).2).1], (f (many f n m).2).2)
theorem many_len {α σ : Type} (f : σ → α × σ) (n : Nat) (m : σ) : (many f n m).1.length = n := by
  induction n with
  | zero => rfl
  | succ n ih => simp [many, ih]
theorem many_all {α σ : Type} {f : σ → α × σ} {I : σ → Prop} {P : α → Prop} (h : ∀ m, I m → P (f m).1 ∧ I (f m).2) : ∀ (n : Nat) (m : σ), I m → (∀ x ∈ (many f n m).1, P x) ∧ I (many f n m).2
  | 0, m, hm => ⟨by simp [many], hm⟩
  | n + 1, m, hm => by
    have h1 := many_all h n m hm
    have h2 := h _ h1.2
    refine ⟨fun x hx => ?_, h2.2⟩
    rcases List.mem_append.1 hx with hx | hx
    · exact h1.1 x hx
    · rw [List.mem_singleton.1 hx]; exact h2.1
theorem sum_le {α : Type} (w : α → Nat) (m : Nat) : ∀ L : List α, (∀ x ∈ L, w x ≤ m) → sumBy w L ≤ L.length * m
  | [], _ => by simp [sumBy]
  | x :: r, h => by
    have h1 := sum_le w m r fun y hy => h y (List.mem_cons_of_mem _ hy)
    have h2 := h x List.mem_cons_self
    simp only [sumBy, List.length_cons, Nat.add_mul, Nat.one_mul]; omega
def nilD : Datum := ⟨0, 0, mkS [], []⟩
def symL : List ByteArray := [mkS [120], mkS [121], mkS [116, 109, 112], mkS [116], mkS [108, 111, 111, 112], mkS [101, 108, 115, 101], mkS [108, 105, 115, 116], mkS [102], mkS [46, 46, 46], mkS [95], mkS [97, 45, 98], mkS [103, 111, 33]]
def numL : List Int := [0, 1, 7, -1, 42, 999999999, -999999999]
def strL : List ByteArray := [mkS [], mkS [97], mkS [105, 116, 32, 105, 115], mkS [40, 59, 39], mkS [49, 50, 51, 52, 53, 54, 55, 56, 57, 48, 49, 50, 51, 52, 53, 54, 55, 56, 57, 48]]
def symX (s : ByteArray) : Datum := if isSym s = true then symD s else nilD
def strX (s : ByteArray) : Datum := if isStr s = true then ⟨4, 0, s, []⟩ else nilD
def numX (n : Int) : Datum := if -999999999 ≤ n ∧ n ≤ 999999999 then ⟨2, n, mkS [], []⟩ else nilD
def booX (b : Bool) : Datum := ⟨3, if b then 1 else 0, mkS [], []⟩
def kdD (d : Nat) (c : Cr) : Int := if d ≤ 1 ∧ 5 < beX c 9 then beX c 9 - 5 else beX c 9
def atomD (k : Int) (c : Cr) : Datum × Cr :=
  if k = 0 ∨ k = 1 then (symX (symL.getD (beX c 12).toNat default), beC c 12) else if k = 2 ∨ k = 3 then (numX (numL.getD (beX c 7).toNat default), beC c 7)
  else if k = 4 then (booX (decide (beX c 2 = 0)), beC c 2) else (strX (strL.getD (beX c 5).toNat default), beC c 5)
def drwD : Nat → Cr → Datum × Cr
  | 0, c => if kdD 0 c ≤ 5 then atomD (kdD 0 c) (beC c 9) else (nilD, beC c 9)
  | d + 1, c => if kdD (d + 1) c ≤ 5 then atomD (kdD (d + 1) c) (beC c 9) else
      (lstD (many (drwD d) (beX (beC c 9) 5).toNat (beC (beC c 9) 5)).1, (many (drwD d) (beX (beC c 9) 5).toNat (beC (beC c 9) 5)).2)
theorem atomD_ok {k : Int} {c : Cr} (h : okK c) : okK (atomD k c).2 ∧ wD (atomD k c).1 ≤ 30 := by
  have hs : ∀ s, wD (symX s) ≤ 30 := fun s => by
    unfold symX; split
    · rename_i h; have := isSym_le h; rw [wD_eq]; simp only [symD, sumBy, List.length_nil]; omega
    · decide
  have ht : ∀ s, wD (strX s) ≤ 30 := fun s => by
    unfold strX; split
    · rename_i h; simp only [isStr, Bool.and_eq_true, decide_eq_true_eq] at h; rw [wD_eq]; simp only [sumBy, List.length_nil]; omega
    · decide
  have hn : ∀ n, wD (numX n) ≤ 30 := fun n => by unfold numX; split <;> (rw [wD_eq]; show (0 : Nat) + (0 + 0) ≤ 30; omega)
  have hb : ∀ b, wD (booX b) ≤ 30 := fun b => by rw [wD_eq]; show (0 : Nat) + (0 + 0) ≤ 30; omega
  unfold atomD
  split
  · exact ⟨beC_ok h, hs _⟩
  · split
    · exact ⟨beC_ok h, hn _⟩
    · split
      · exact ⟨beC_ok h, hb _⟩
      · exact ⟨beC_ok h, ht _⟩
theorem drwD_ok : ∀ (d : Nat) (c : Cr), okK c → wD (drwD d c).1 ≤ 40 * 5 ^ d ∧ okK (drwD d c).2
  | 0, c, h => by
    unfold drwD; split
    · have := atomD_ok (k := kdD 0 c) (beC_ok (n := 9) h); exact ⟨by simp; omega, this.1⟩
    · exact ⟨by show wD nilD ≤ 40; decide, beC_ok h⟩
  | d + 1, c, h => by
    unfold drwD; split
    · have := atomD_ok (k := kdD (d + 1) c) (beC_ok (n := 9) h)
      have h5 : 1 ≤ 5 ^ (d + 1) := Nat.one_le_pow _ _ (by decide)
      exact ⟨by omega, this.1⟩
    · have h1 := many_all (f := drwD d) (I := okK) (P := fun x => wD x ≤ 40 * 5 ^ d) (fun m hm => drwD_ok d m hm) (beX (beC c 9) 5).toNat (beC (beC c 9) 5) (beC_ok (beC_ok h))
      refine ⟨?_, h1.2⟩
      have h2 := many_len (drwD d) (beX (beC c 9) 5).toNat (beC (beC c 9) 5)
      have h3 := beX_le (beC c 9) (n := 5) (by decide)
      have h4 := sum_le wD (40 * 5 ^ d) _ h1.1
      have h5 : 1 ≤ 5 ^ d := Nat.one_le_pow _ _ (by decide)
      rw [wD_eq]
      simp only [lstD, h2] at *
      have h6 : (beX (beC c 9) 5).toNat ≤ 4 := by omega
      have h7 : (beX (beC c 9) 5).toNat * (40 * 5 ^ d) ≤ 4 * (40 * 5 ^ d) := Nat.mul_le_mul_right _ h6
      have h8 : (5 : Nat) ^ (d + 1) = 5 * 5 ^ d := by rw [Nat.pow_succ, Nat.mul_comm]
      show 0 + _ ≤ _
      omega
def drwH (d : Int) (c : Cr) : Datum × Cr := held (drwD d.toNat c)
theorem drwH_eq (d : Int) (c : Cr) : drwH d c = drwD d.toNat c := held_eq _
def manyD (d : Int) (k : Nat) (c : Cr) : List Datum × Cr := held (many (drwH d) k c)
theorem manyD_eq (d : Int) (k : Nat) (c : Cr) : manyD d k c = many (drwH d) k c := held_eq _
theorem manyD_zero (d : Int) (c : Cr) : manyD d 0 c = ([], c) := by rw [manyD_eq]; rfl
theorem manyD_succ (d : Int) (k : Nat) (c : Cr) : manyD d (k + 1) c = ((manyD d k c).1 ++ [(drwH d (manyD d k c).2).1], (drwH d (manyD d k c).2).2) := by rw [manyD_eq, manyD_eq]; rfl
theorem manyD_len (d : Int) (k : Nat) (c : Cr) : (manyD d k c).1.length = k := by rw [manyD_eq, many_len]
theorem drwH_ok {d : Int} {c : Cr} (h : okK c) : okK (drwH d c).2 := by rw [drwH_eq]; exact (drwD_ok _ c h).2
theorem manyD_ok {d : Int} {k : Nat} {c : Cr} (h : okK c) : okK (manyD d k c).2 := by
  rw [manyD_eq]; exact (many_all (f := drwH d) (I := okK) (P := fun _ => True) (fun m hm => ⟨trivial, drwH_ok hm⟩) k c h).2
theorem drwH_w {d : Int} {c : Cr} (h : okK c) (hd : d ≤ 2) : wD (drwH d c).1 ≤ 1000 := by
  rw [drwH_eq]
  have h1 := (drwD_ok d.toNat c h).1
  have h2 : 5 ^ d.toNat ≤ 5 ^ 2 := Nat.pow_le_pow_right (by decide) (by omega)
  have e : (5 : Nat) ^ 2 = 25 := by decide
  omega
def kdH (d : Int) (c : Cr) : Int := if d ≤ 1 ∧ 5 < beX c 9 then beX c 9 - 5 else beX c 9
theorem kdD_eq {d : Int} (h : 0 ≤ d) (c : Cr) : kdD d.toNat c = kdH d c := by
  unfold kdD kdH
  by_cases e : d ≤ 1
  · have e1 : d.toNat ≤ 1 := by omega
    simp only [e, e1, true_and]
  · have e1 : ¬ d.toNat ≤ 1 := by omega
    simp only [e, e1, false_and, if_false]
theorem drwH_atom {d : Int} {c : Cr} (h : 0 ≤ d) (hk : kdH d c ≤ 5) : drwH d c = atomD (kdH d c) (beC c 9) := by
  rw [drwH_eq, ← kdD_eq h]; rw [← kdD_eq h] at hk
  cases e : d.toNat with
  | zero => rw [e] at hk; unfold drwD; rw [if_pos hk]
  | succ n => rw [e] at hk; unfold drwD; rw [if_pos hk]
theorem drwH_list {d : Int} {c : Cr} (h : 0 ≤ d) (hk : ¬ kdH d c ≤ 5) : 1 < d ∧ drwH d c = (lstD (manyD (d - 1) (beX (beC c 9) 5).toNat (beC (beC c 9) 5)).1, (manyD (d - 1) (beX (beC c 9) 5).toNat (beC (beC c 9) 5)).2) := by
  have h9 := beX_le c (n := 9) (by decide)
  have h1 : 1 < d := by unfold kdH at hk; split at hk <;> omega
  refine ⟨h1, ?_⟩
  have hf : drwH (d - 1) = drwD (d - 1).toNat := funext fun c => drwH_eq _ _
  rw [drwH_eq, manyD_eq, hf]
  rw [← kdD_eq h] at hk
  have e : d.toNat = (d - 1).toNat + 1 := by omega
  rw [e] at hk ⊢
  rw [drwD, if_neg hk]
theorem atom_0 {k : Int} {c : Cr} (h : k = 0 ∨ k = 1) : atomD k c = (symX (symL.getD (beX c 12).toNat default), beC c 12) := if_pos h
theorem atom_2 {k : Int} {c : Cr} (h : k = 2 ∨ k = 3) : atomD k c = (numX (numL.getD (beX c 7).toNat default), beC c 7) := by unfold atomD; rw [if_neg (by omega), if_pos h]
theorem atom_4 {k : Int} {c : Cr} (h : k = 4) : atomD k c = (booX (decide (beX c 2 = 0)), beC c 2) := by unfold atomD; rw [if_neg (by omega), if_neg (by omega), if_pos h]
theorem atom_5 {k : Int} {c : Cr} (h : k = 5) : atomD k c = (strX (strL.getD (beX c 5).toNat default), beC c 5) := by unfold atomD; rw [if_neg (by omega), if_neg (by omega), if_neg (by omega)]
theorem sx_items (s : ByteArray) : (symX s).items = [] := by unfold symX; split <;> rfl
theorem tx_items (s : ByteArray) : (strX s).items = [] := by unfold strX; split <;> rfl
theorem nx_items (n : Int) : (numX n).items = [] := by unfold numX; split <;> rfl
theorem drw_0 {d : Int} {c : Cr} (h : 0 ≤ d) (hk : kdH d c = 0 ∨ kdH d c = 1) : drwH d c = (symX (symL.getD (beX (beC c 9) 12).toNat default), beC (beC c 9) 12) := by rw [drwH_atom h (by omega), atom_0 hk]
theorem drw_2 {d : Int} {c : Cr} (h : 0 ≤ d) (hk : kdH d c = 2 ∨ kdH d c = 3) : drwH d c = (numX (numL.getD (beX (beC c 9) 7).toNat default), beC (beC c 9) 7) := by rw [drwH_atom h (by omega), atom_2 hk]
theorem drw_4 {d : Int} {c : Cr} (h : 0 ≤ d) (hk : kdH d c = 4) : drwH d c = (booX (decide (beX (beC c 9) 2 = 0)), beC (beC c 9) 2) := by rw [drwH_atom h (by omega), atom_4 hk]
theorem drw_5 {d : Int} {c : Cr} (h : 0 ≤ d) (hk : kdH d c = 5) : drwH d c = (strX (strL.getD (beX (beC c 9) 5).toNat default), beC (beC c 9) 5) := by rw [drwH_atom h (by omega), atom_5 hk]
theorem Lv.ind {P : Int → Prop} (h : ∀ d, (∀ e, 0 ≤ e ∧ e < d → P e) → P d) : ∀ d, P d := by
  have key : ∀ (n : Nat) (d : Int), d.toNat ≤ n → P d := by
    intro n
    induction n with
    | zero => intro d hd; exact h d fun e he => absurd he.2 (by omega)
    | succ n ih => intro d hd; exact h d fun e he => ih e (by omega)
  exact fun d => key d.toNat d (Nat.le_refl _)
def badL : List ByteArray := [mkS [], mkS [57], mkS [45, 53], mkS [45], mkS [120, 32, 121], mkS [97, 98, 99, 100, 101, 102, 103, 104, 105, 106, 107, 108, 109, 110, 111, 112, 113], mkS [49, 50, 51, 52, 53, 54, 55, 56, 57, 48, 49, 50, 51, 52, 53, 54, 55, 56, 57, 48, 49]]
def badN : List Int := [1, 2, 1000000000, -1000000000]
def nest : Nat → Datum → Datum
  | 0, d => d
  | n + 1, d => lstD [nest n d]
theorem nest_w (n : Nat) (d : Datum) : wD (nest n d) = n + wD d := by
  induction n with
  | zero => simp [nest]
  | succ n ih => rw [nest, wD_eq]; simp only [lstD, sumBy, ih, List.length_cons, List.length_nil]; show 0 + _ = _; omega
def anyD (c : Cr) : Datum × Cr :=
  let d := (drwH 4 c).1; let c1 := (drwH 4 c).2; let k := beX c1 12; let c2 := beC c1 12
  if k = 0 then (⟨d.kind, badN.getD (beX c2 4).toNat default, d.text, d.items⟩, beC c2 4)
  else if k = 1 then (⟨d.kind, d.number, badL.getD (beX c2 7).toNat default, d.items⟩, beC c2 7)
  else if k = 2 then (⟨beX c2 7 - 1, d.number, d.text, d.items⟩, beC c2 7)
  else if k = 3 then (⟨d.kind, d.number, d.text, d.items ++ [⟨9, 0, mkS [], []⟩]⟩, c2)
  else if k = 4 then (nest 21 d, c2)
  else (d, c2)
theorem badL_le : ∀ n : Nat, (badL.getD n default).size ≤ 30 := by
  intro n
  rcases Nat.lt_or_ge n 7 with h | h
  · have : ∀ n, n < 7 → (badL.getD n default).size ≤ 30 := by decide
    exact this n h
  · rw [List.getD_eq_getElem?_getD, List.getElem?_eq_none (by exact h)]; decide
theorem anyD_ok {c : Cr} (h : okK c) : wD (anyD c).1 ≤ 30000 ∧ okK (anyD c).2 := by
  have hq : drwH 4 c = drwD 4 c := drwH_eq 4 c
  have h1 := drwD_ok 4 c h
  rw [← hq] at h1
  have h2 := wD_eq (drwH 4 c).1
  have e : (40 * 5 ^ 4 : Nat) = 25000 := by decide
  rw [e] at h1
  have h3 := badL_le
  unfold anyD
  simp only
  repeat' split
  all_goals refine ⟨?_, by first | exact beC_ok (beC_ok h1.2) | exact beC_ok h1.2⟩
  · rw [wD_eq]; show (drwH 4 c).1.text.size + ((drwH 4 c).1.items.length + sumBy wD (drwH 4 c).1.items) ≤ _; omega
  · rw [wD_eq]; have := h3 (beX (beC (drwH 4 c).2 12) 7).toNat; show (badL.getD _ default).size + ((drwH 4 c).1.items.length + sumBy wD (drwH 4 c).1.items) ≤ _; omega
  · rw [wD_eq]; show (drwH 4 c).1.text.size + ((drwH 4 c).1.items.length + sumBy wD (drwH 4 c).1.items) ≤ _; omega
  · rw [wD_eq]; simp only [List.length_append, List.length_cons, List.length_nil, sumBy_append, sumBy]; have : wD ⟨9, 0, mkS [], []⟩ = 0 := by decide
    omega
  · rw [nest_w]; omega
  · show wD (drwH 4 c).1 ≤ 30000; omega
def anyH (c : Cr) : Datum × Cr := held (anyD c)
theorem anyH_eq (c : Cr) : anyH c = anyD c := held_eq _
theorem anyH_ok {c : Cr} (h : okK c) : wD (anyH c).1 ≤ 30000 ∧ okK (anyH c).2 := by rw [anyH_eq]; exact anyD_ok h
def nestH (n : Nat) (d : Datum) : Datum := held (nest n d)
theorem nestH_eq (n : Nat) (d : Datum) : nestH n d = nest n d := held_eq _
theorem nestH_zero (d : Datum) : nestH 0 d = d := by rw [nestH_eq]; rfl
theorem nestH_succ (n : Nat) (d : Datum) : nestH (n + 1) d = lstD [nestH n d] := by rw [nestH_eq, nestH_eq]; rfl
section
variable {c : Cr}
theorem any_0 (k : beX (drwH 4 c).2 12 = 0) : anyH c = (⟨(drwH 4 c).1.kind, badN.getD (beX (beC (drwH 4 c).2 12) 4).toNat default, (drwH 4 c).1.text, (drwH 4 c).1.items⟩, beC (beC (drwH 4 c).2 12) 4) := by
  rw [anyH_eq]; exact if_pos k
theorem any_1 (k : beX (drwH 4 c).2 12 = 1) : anyH c = (⟨(drwH 4 c).1.kind, (drwH 4 c).1.number, badL.getD (beX (beC (drwH 4 c).2 12) 7).toNat default, (drwH 4 c).1.items⟩, beC (beC (drwH 4 c).2 12) 7) := by
  rw [anyH_eq]; unfold anyD; simp only; rw [if_neg (by omega), if_pos k]
theorem any_2 (k : beX (drwH 4 c).2 12 = 2) : anyH c = (⟨beX (beC (drwH 4 c).2 12) 7 - 1, (drwH 4 c).1.number, (drwH 4 c).1.text, (drwH 4 c).1.items⟩, beC (beC (drwH 4 c).2 12) 7) := by
  rw [anyH_eq]; unfold anyD; simp only; rw [if_neg (by omega), if_neg (by omega), if_pos k]
theorem any_3 (k : beX (drwH 4 c).2 12 = 3) : anyH c = (⟨(drwH 4 c).1.kind, (drwH 4 c).1.number, (drwH 4 c).1.text, (drwH 4 c).1.items ++ [⟨9, 0, mkS [], []⟩]⟩, beC (drwH 4 c).2 12) := by
  rw [anyH_eq]; unfold anyD; simp only; rw [if_neg (by omega), if_neg (by omega), if_neg (by omega), if_pos k]
theorem any_4 (k : beX (drwH 4 c).2 12 = 4) : anyH c = (nestH 21 (drwH 4 c).1, beC (drwH 4 c).2 12) := by
  rw [anyH_eq, nestH_eq]; unfold anyD; simp only; rw [if_neg (by omega), if_neg (by omega), if_neg (by omega), if_neg (by omega), if_pos k]
theorem any_5 (k : 4 < beX (drwH 4 c).2 12) : anyH c = ((drwH 4 c).1, beC (drwH 4 c).2 12) := by
  rw [anyH_eq]; unfold anyD; simp only; rw [if_neg (by omega), if_neg (by omega), if_neg (by omega), if_neg (by omega), if_neg (by omega)]
end
end Go.Proofs.Ytgeegppaaggcjaa
end
section
namespace Go.Proofs.Ytgeegppaaggcjaa
open Go Go.Proofs.Ytgeegppaaggcjaa.Ab
set_option linter.unusedVariables false
set_option linter.unusedSimpArgs false
set_option maxHeartbeats 4000000
abbrev P_c_dSym (s : ByteArray) : Ct := ⟨57, [], [ls s], [], .sv (.agg [vI (symX s).kind, vI (symX s).number, vS (symX s).text, .val (.lit (.slice none 0 0))])⟩
theorem c_dSym (s : ByteArray)  : P_c_dSym s := fnOK Try.call57 Try.func57 (.c [.rd] (c_sIsSymbol s) (.b (!isSym s) (.s (SV.agg [vI 0, vI 0, vS (ByteArray.mk #[]), AC.val (Cell.lit
 (Value.slice none 0 0))])) (.s (SV.agg [vI 1, vI 0, vS s, AC.val (Cell.lit (Value.slice none 0 0))])))) (by
  dsimp only [teasy, P_c_dSym]
  with_reducible repeat' (first | apply And.intro | exact zR | (intro; skip))
  all_goals (try simp only [std, inj] at *)
  all_goals with_reducible repeat' apply And.intro
  all_goals (try (first | exact z | grind [symX, symD, nilD, snocI, snocS, rowSnoc])))
abbrev P_c_dStr (s : ByteArray) : Ct := ⟨60, [], [ls s], [], .sv (.agg [vI (strX s).kind, vI (strX s).number, vS (strX s).text, .val (.lit (.slice none 0 0))])⟩
theorem c_dStr (s : ByteArray)  : P_c_dStr s := fnOK Try.call60 Try.func60 (.c [.rd] (c_sString s) (.b (!isStr s) (.s (SV.agg [vI 0, vI 0, vS (ByteArray.mk #[]), AC.val (Cell.lit
 (Value.slice none 0 0))])) (.s (SV.agg [vI 4, vI 0, vS s, AC.val (Cell.lit (Value.slice none 0 0))])))) (by
  dsimp only [teasy, P_c_dStr]
  with_reducible repeat' (first | apply And.intro | exact zR | (intro; skip))
  all_goals (try simp only [std, inj] at *)
  all_goals with_reducible repeat' apply And.intro
  all_goals (try (first | exact z | grind [strX, nilD, snocI, snocS, rowSnoc])))
abbrev P_c_dNum (n : Int) : Ct := ⟨58, [], [li n], [], .sv (.agg [vI (numX n).kind, vI (numX n).number, vS (numX n).text, .val (.lit (.slice none 0 0))])⟩
theorem c_dNum (n : Int)  : P_c_dNum n := fnOK Try.call58 Try.func58 (.c [.rd, .rd, .rd] (c_l1In n (-999999999 : Int) 999999999) (.b (!decide ((-999999999 : Int) ≤ n ∧ n ≤
 999999999)) (.s (SV.agg [vI 0, vI 0, vS (ByteArray.mk #[]), AC.val (Cell.lit (Value.slice none 0 0))])) (.s (SV.agg [vI 2, vI n, vS (ByteArray.mk #[]), AC.val (Cell.lit
 (Value.slice none 0 0))])))) (by
  dsimp only [teasy, P_c_dNum]
  with_reducible repeat' (first | apply And.intro | exact zR | (intro; skip))
  all_goals (try simp only [std, inj] at *)
  all_goals with_reducible repeat' apply And.intro
  all_goals (try (first | exact z | grind [numX, nilD, snocI, snocS, rowSnoc])))
abbrev P_c_dBoo (b : Bool) : Ct := ⟨59, [], [lb b], [], .sv (.agg [vI (booX b).kind, vI (booX b).number, vS (booX b).text, .val (.lit (.slice none 0 0))])⟩
theorem c_dBoo (b : Bool)  : P_c_dBoo b := fnOK Try.call59 Try.func59 (.b b (.s (SV.agg [vI 3, vI 1, vS (ByteArray.mk #[]), AC.val (Cell.lit (Value.slice none 0 0))])) (.s (SV.agg
 [vI 3, vI 0, vS (ByteArray.mk #[]), AC.val (Cell.lit (Value.slice none 0 0))]))) (by
  dsimp only [teasy, P_c_dBoo]
  with_reducible repeat' (first | apply And.intro | exact zR | (intro; skip))
  all_goals (try simp only [std, inj] at *)
  all_goals with_reducible repeat' apply And.intro
  all_goals (try (first | exact z | grind [booX, snocI, snocS, rowSnoc])))
abbrev P_c_dDat (d : Int) (c : Cr) : Ct := ⟨44, [crO c], [.one (.ptr 0 0), li d], [crO (drwH d c).2, .arr true 4 ((drwH d c).1.items.map datumC)], .sv (datumR (drwH d c).1 1)⟩
def lc_dDat_sLa (d : Int) (c : Cr) : Lp (Int) := .mk 61 1 (fun x => [(0, SV.one (AC.ptr 0 0)), (1, li d), (4, SV.one (AC.ptr 1 0)), (6, SV.one (AC.ptr 2 0)), (7, hs x 0)]) (fun x
 => [ho x 1, Ob.box [vI 0, vI 0, vS (ByteArray.mk #[]), AC.val (Cell.lit (Value.slice none 0 0))], Ob.box [vI 0, vI 0, vS (ByteArray.mk #[]), AC.ref 3], ho x 2]) (fun k => [.s (li
 k), .o (crO (manyD (d - 1) (beX (beC c 9) 5 - k).toNat (beC (beC c 9) 5)).snd), .o (Ob.arr true 4 (List.map datumC (manyD (d - 1) (beX (beC c 9) 5 - k).toNat (beC (beC c 9)
 5)).fst))]) (fun k => 0 ≤ k ∧ k ≤ beX (beC c 9) 5 ∧ beX (beC c 9) (5 : Int) ≤ 4 ∧ 1 < d ∧ d ≤ 10) (fun k => k.toNat) [.mk True (.exit 1) (fun x => [(4, SV.one (AC.ptr 1 0)), (6,
 SV.one (AC.ptr 2 0))]) (fun x => [ho x 0, Ob.box [vI 0, vI 0, vS (ByteArray.mk #[]), AC.val (Cell.lit (Value.slice none 0 0))], Ob.box [vI 0, vI 0, vS (ByteArray.mk #[]), AC.ref
 3], ho x 1]) [.o (crO (manyD (d - 1) (beX (beC c 9) 5).toNat (beC (beC c 9) 5)).snd), .o (Ob.arr true 4 (List.map datumC (manyD (d - 1) (beX (beC c 9) 5).toNat (beC (beC c 9)
 5)).fst))]]
theorem Sc_dDat_sLa (d : Int) (c : Cr) (h : okK c ∧ 0 ≤ d ∧ d ≤ 10) (ih : ∀ (e : Int), 0 ≤ e ∧ e < d → ∀ (c : Cr), okK c ∧ 0 ≤ e ∧ e ≤ 10 → OK (P_c_dDat e c)) : Lp.Sem Try.prog
 (loopAt Try.f44 0) (lc_dDat_sLa d c) := lpOK (fun k => .i (0 < k) (.w (.draw [(5, [0]), (6, [5]), (7, [3, 12]), (9, [2])]) (.r (d - 1) (.d [.ptr, .rd] (P_c_dDat (d - 1) (manyD (d
 - 1) (beX (beC c 9) 5 - k).toNat (beC (beC c 9) 5)).snd) (.p (((List.map datumC (manyD (d - 1) (beX (beC c 9) 5 - k).toNat (beC (beC c 9) 5)).fst).length + 1) * 56 ≤
 140737488355328) (.r (k - 1) (.g [0, 1, 2, 13] (k - 1) [.s (li (k - 1)), .o (Ob.box [vL (List.map byteC (drwH (d - 1) (manyD (d - 1) (beX (beC c 9) 5 - k).toNat (beC (beC c 9)
 5)).snd).snd.b), vI (↑(drwH (d - 1) (manyD (d - 1) (beX (beC c 9) 5 - k).toNat (beC (beC c 9) 5)).snd).snd.i : Int), vI (drwH (d - 1) (manyD (d - 1) (beX (beC c 9) 5 - k).toNat
 (beC (beC c 9) 5)).snd).snd.h]), .o (Ob.arr true 4 (List.map datumC (manyD (d - 1) (beX (beC c 9) 5 - k).toNat (beC (beC c 9) 5)).fst ++ [datumF (drwH (d - 1) (manyD (d - 1) (beX
 (beC c 9) 5 - k).toNat (beC (beC c 9) 5)).snd).fst]))])))))) (.o 0 [0, 1, 2, 3] [.o (Ob.box [vL (List.map byteC (manyD (d - 1) (beX (beC c 9) 5 - k).toNat (beC (beC c 9)
 5)).snd.b), vI (↑(manyD (d - 1) (beX (beC c 9) 5 - k).toNat (beC (beC c 9) 5)).snd.i : Int), vI (manyD (d - 1) (beX (beC c 9) 5 - k).toNat (beC (beC c 9) 5)).snd.h]), .o (Ob.arr
 true 4 (List.map datumC (manyD (d - 1) (beX (beC c 9) 5 - k).toNat (beC (beC c 9) 5)).fst))])) (by
  intro k h; try dsimp only [teasy, nthW, lc_dDat_sLa] at h ⊢
  have g1 := manyD_succ (d - 1) (beX (beC c 9) 5 - k).toNat (beC (beC c 9) 5)
  have g2 := manyD_len (d - 1) (beX (beC c 9) 5 - k).toNat (beC (beC c 9) 5)
  have g3 := beX_le (beC c 9) (n := 5) (by decide)
  have g4 : 0 < k → (beX (beC c 9) 5 - (k - 1)).toNat = (beX (beC c 9) 5 - k).toNat + 1 := fun _ => by omega
  have g5 : ¬ 0 < k → 0 ≤ k → (beX (beC c 9) 5 - k).toNat = (beX (beC c 9) 5).toNat := fun _ _ => by omega
  have g6 : okK (manyD (d - 1) (beX (beC c 9) 5 - k).toNat (beC (beC c 9) 5)).2 := manyD_ok (beC_ok (beC_ok (by have := ‹okK c ∧ _›; exact this.1)))
  with_reducible repeat' (first | apply And.intro | exact zR | exact ih | (intro; skip) | apply c_dBelow | apply c_dPick | apply c_dInt | apply c_dOnce | apply ih)
  all_goals (try simp only [std, inj] at *)
  all_goals with_reducible repeat' apply And.intro
  all_goals (try (first | with_reducible apply c_dBelow | with_reducible apply c_dPick | with_reducible apply c_dInt | with_reducible apply c_dOnce | with_reducible apply ih | (simp only [← List.map_append]; first | with_reducible apply c_dBelow | with_reducible apply c_dPick | with_reducible apply c_dInt | with_reducible apply c_dOnce | with_reducible apply ih)))
  all_goals (try (first | exact zw | grind [crO, snocI, snocS, rowSnoc])))
theorem c_dDat_s (d : Int) (c : Cr) (h : okK c ∧ 0 ≤ d ∧ d ≤ 10) (ih : ∀ (e : Int), 0 ≤ e ∧ e < d → ∀ (c : Cr) (h : okK c ∧ 0 ≤ e ∧ e ≤ 10), P_c_dDat e c)  : P_c_dDat d c := fnOK
 Try.call44 Try.func44 (let v1 := [ByteArray.mk #[(120 : UInt8)], ByteArray.mk #[(121 : UInt8)], ByteArray.mk #[(116 : UInt8), (109 : UInt8), (112 : UInt8)], ByteArray.mk #[(116 :
 UInt8)], ByteArray.mk #[(108 : UInt8), (111 : UInt8), (111 : UInt8), (112 : UInt8)], ByteArray.mk #[(101 : UInt8), (108 : UInt8), (115 : UInt8), (101 : UInt8)], ByteArray.mk
 #[(108 : UInt8), (105 : UInt8), (115 : UInt8), (116 : UInt8)], ByteArray.mk #[(102 : UInt8)], ByteArray.mk #[(46 : UInt8), (46 : UInt8), (46 : UInt8)], ByteArray.mk #[(95 :
 UInt8)], ByteArray.mk #[(97 : UInt8), (45 : UInt8), (98 : UInt8)], ByteArray.mk #[(103 : UInt8), (111 : UInt8), (33 : UInt8)]]; let v2 := [ByteArray.mk #[], ByteArray.mk #[(97 :
 UInt8)], ByteArray.mk #[(105 : UInt8), (116 : UInt8), (32 : UInt8), (105 : UInt8), (115 : UInt8)], ByteArray.mk #[(40 : UInt8), (59 : UInt8), (39 : UInt8)], ByteArray.mk #[(49 :
 UInt8), (50 : UInt8), (51 : UInt8), (52 : UInt8), (53 : UInt8), (54 : UInt8), (55 : UInt8), (56 : UInt8), (57 : UInt8), (48 : UInt8), (49 : UInt8), (50 : UInt8), (51 : UInt8), (52
 : UInt8), (53 : UInt8), (54 : UInt8), (55 : UInt8), (56 : UInt8), (57 : UInt8), (48 : UInt8)]]; let v8 := [0, 1, 7, (-1 : Int), 42, 999999999, (-999999999 : Int)]; let v7 := (beC
 c 9); let v3 := (v8.getD (beX v7 7).toNat 0); let v18 := (beX v7 5); let v22 := (manyD (d - 1) v18.toNat (beC v7 5)); let v4 := [Ob.box [vL (List.map byteC v22.snd.b), vI (↑(manyD
 (d - 1) v18.toNat (beC v7 5)).snd.i : Int), vI v22.snd.h], Ob.arr true 4 (List.map datumC v22.fst)]; let v5 := [Ob.box [vL (List.map byteC (beC v7 12).b), vI (↑(beC v7 12).i :
 Int), vI (beC v7 12).h], Ob.arr true 4 []]; let v6 := [Ob.box [vL (List.map byteC (beC v7 7).b), vI (↑(beC v7 7).i : Int), vI (beC v7 7).h], Ob.arr true 4 []]; let v9 := (AV.sv
 (SV.agg [vI (numX v3).kind, vI (numX v3).number, vS (numX v3).text, AC.ref 1])); let v10 := (AV.sv (SV.agg [vI 0, vI 0, vS (ByteArray.mk #[]), AC.ref 1])); let v11 := [0, 1, 2,
 3]; let v20 := (v1.getD (beX v7 12).toNat default); let v12 := (AV.sv (SV.agg [vI (symX v20).kind, vI (symX v20).number, vS (symX v20).text, AC.ref 1])); let v13 := [vL (List.map
 byteC (beC v7 5).b), vI (↑(beC v7 5).i : Int), vI (beC v7 5).h]; let v21 := (v2.getD v18.toNat default); let v14 := (AV.sv (SV.agg [vI (strX v21).kind, vI (strX v21).number, vS
 (strX v21).text, AC.ref 1])); let v19 := (decide (beX v7 (2 : Int) = 0)); let v15 := (AV.sv (SV.agg [vI (booX v19).kind, vI (booX v19).number, vS (booX v19).text, AC.ref 1])); let
 v16 := [Ob.box [vL (List.map byteC (beC v7 2).b), vI (↑(beC v7 2).i : Int), vI (beC v7 2).h], Ob.arr true 4 []]; let v17 := (c_dSym v20); .d [.ptr, .rd] (P_c_dBelow c 9) (.i (d ≤
 1) (.i (5 < beX c 9) (.r (beX c 9 - 5) (.i (beX c 9 - (5 : Int) = 0) (.y true (.d [.ptr, .own true 1] (P_c_dPick v7 v1) (.c [.rd] v17 (.w (.ghost (.nilbox 1 3 true 4)) (.f [3] v5
 v12))))) (.i (beX c 9 - (5 : Int) = 1) (.d [.ptr, .own true 1] (P_c_dPick v7 v1) (.c [.rd] v17 (.w (.ghost (.nilbox 1 3 true 4)) (.f [3] v5 v12)))) (.i (beX c 9 - (5 : Int) = 2)
 (.y true (.d [.ptr, .own true 1] (P_c_dInt v7 v8) (.c [.rd] (c_dNum v3) (.w (.ghost (.nilbox 1 3 true 4)) (.f [3] v6 v9))))) (.i (beX c 9 - (5 : Int) = 3) (.d [.ptr, .own true 1]
 (P_c_dInt v7 v8) (.c [.rd] (c_dNum v3) (.w (.ghost (.nilbox 1 3 true 4)) (.f [3] v6 v9)))) (.i (beX c 9 - (5 : Int) = 4) (.d [.ptr, .rd] (P_c_dOnce v7 2) (.c [.rd] (c_dBoo v19)
 (.w (.ghost (.nilbox 1 3 true 4)) (.f [2] v16 v15)))) (.i (beX c 9 - (5 : Int) = 5) (.d [.ptr, .own true 1] (P_c_dPick v7 v2) (.c [.rd] (c_dStr v21) (.w (.ghost (.nilbox 1 3 true
 4)) (.f [3] [Ob.box v13, Ob.arr true 4 []] v14)))) (.d [.ptr, .rd] (P_c_dBelow v7 5) (.w (.ghost (.nilbox 2 3 true 4)) (.l (lc_dDat_sLa d c) (Sc_dDat_sLa d c h ih) v11 [.s (li
 v18), .o (Ob.box v13), .o (Ob.arr true 4 [])] v18 (.t (.f [3] v4 v10) .q))))))))))) (.i (beX c (9 : Int) = 0) (.y true (.d [.ptr, .own true 1] (P_c_dPick v7 v1) (.c [.rd] v17 (.w
 (.ghost (.nilbox 1 3 true 4)) (.f [3] v5 v12))))) (.i (beX c (9 : Int) = 1) (.d [.ptr, .own true 1] (P_c_dPick v7 v1) (.c [.rd] v17 (.w (.ghost (.nilbox 1 3 true 4)) (.f [3] v5
 v12)))) (.i (beX c (9 : Int) = 2) (.y true (.d [.ptr, .own true 1] (P_c_dInt v7 v8) (.c [.rd] (c_dNum v3) (.w (.ghost (.nilbox 1 3 true 4)) (.f [3] v6 v9))))) (.i (beX c (9 : Int)
 = 3) (.d [.ptr, .own true 1] (P_c_dInt v7 v8) (.c [.rd] (c_dNum v3) (.w (.ghost (.nilbox 1 3 true 4)) (.f [3] v6 v9)))) (.i (beX c (9 : Int) = 4) (.d [.ptr, .rd] (P_c_dOnce v7 2)
 (.c [.rd] (c_dBoo v19) (.w (.ghost (.nilbox 1 3 true 4)) (.f [2] v16 v15)))) (.i (beX c (9 : Int) = 5) (.d [.ptr, .own true 1] (P_c_dPick v7 v2) (.c [.rd] (c_dStr v21) (.w (.ghost
 (.nilbox 1 3 true 4)) (.f [3] [Ob.box v13, Ob.arr true 4 []] v14)))) (.d [.ptr, .rd] (P_c_dBelow v7 5) (.w (.ghost (.nilbox 2 3 true 4)) (.l (lc_dDat_sLa d c) (Sc_dDat_sLa d c h
 ih) v11 [.s (li v18), .o (Ob.box v13), .o (Ob.arr true 4 [])] v18 (.t (.f [3] v4 v10) .q))))))))))) (.y false (.i (beX c (9 : Int) = 0) (.y true (.d [.ptr, .own true 1] (P_c_dPick
 v7 v1) (.c [.rd] v17 (.w (.ghost (.nilbox 1 3 true 4)) (.f [3] v5 v12))))) (.i (beX c (9 : Int) = 1) (.d [.ptr, .own true 1] (P_c_dPick v7 v1) (.c [.rd] v17 (.w (.ghost (.nilbox 1
 3 true 4)) (.f [3] v5 v12)))) (.i (beX c (9 : Int) = 2) (.y true (.d [.ptr, .own true 1] (P_c_dInt v7 v8) (.c [.rd] (c_dNum v3) (.w (.ghost (.nilbox 1 3 true 4)) (.f [3] v6
 v9))))) (.i (beX c (9 : Int) = 3) (.d [.ptr, .own true 1] (P_c_dInt v7 v8) (.c [.rd] (c_dNum v3) (.w (.ghost (.nilbox 1 3 true 4)) (.f [3] v6 v9)))) (.i (beX c (9 : Int) = 4) (.d
 [.ptr, .rd] (P_c_dOnce v7 2) (.c [.rd] (c_dBoo v19) (.w (.ghost (.nilbox 1 3 true 4)) (.f [2] v16 v15)))) (.i (beX c (9 : Int) = 5) (.d [.ptr, .own true 1] (P_c_dPick v7 v2) (.c
 [.rd] (c_dStr v21) (.w (.ghost (.nilbox 1 3 true 4)) (.f [3] [Ob.box v13, Ob.arr true 4 []] v14)))) (.d [.ptr, .rd] (P_c_dBelow v7 5) (.w (.ghost (.nilbox 2 3 true 4)) (.l
 (lc_dDat_sLa d c) (Sc_dDat_sLa d c h ih) v11 [.s (li v18), .o (Ob.box v13), .o (Ob.arr true 4 [])] v18 (.t (.f [3] v4 v10) .q))))))))))))) (by
  dsimp only [teasy, P_c_dDat, nthW, lc_dDat_sLa]
  have ok1 : okK (beC c 9) := beC_ok h.1
  have g9 := beX_le c (n := 9) (by decide)
  have g5 := beX_le (beC c 9) (n := 5) (by decide)
  have k1 : d ≤ 1 → 5 < beX c 9 → kdH d c = beX c 9 - 5 := fun a b => if_pos ⟨a, b⟩
  have k2 : ¬ d ≤ 1 → kdH d c = beX c 9 := fun a => if_neg (fun e => a e.1)
  have k3 : ¬ 5 < beX c 9 → kdH d c = beX c 9 := fun a => if_neg (fun e => a e.2)
  have f0 := @drw_0 d c h.2.1
  have f2 := @drw_2 d c h.2.1
  have f4 := @drw_4 d c h.2.1
  have f5 := @drw_5 d c h.2.1
  have f6 := @drwH_list d c h.2.1
  have m0 := manyD_zero (d - 1) (beC (beC c 9) 5)
  have e0 : (beX (beC c 9) 5 - beX (beC c 9) 5).toNat = 0 := by omega
  simp only [symL, numL, strL] at f0 f2 f5
  with_reducible repeat' (first | apply And.intro | exact zR | exact ih | (intro; skip) | apply c_dBelow | apply c_dPick | apply c_dInt | apply c_dOnce)
  all_goals (try simp only [std, inj] at *)
  all_goals with_reducible repeat' apply And.intro
  all_goals (try (first | with_reducible apply c_dBelow | with_reducible apply c_dPick | with_reducible apply c_dInt | with_reducible apply c_dOnce | with_reducible apply ih | (simp only [← List.map_append]; first | with_reducible apply c_dBelow | with_reducible apply c_dPick | with_reducible apply c_dInt | with_reducible apply c_dOnce | with_reducible apply ih)))
  all_goals first
    | exact True.intro | with_reducible rfl | with_reducible assumption | omega | exact h.1 | exact Nat.succ_pos _ | decide
    | (rw [f0 (by omega)]; first | done | (rw [sx_items]; done) | (rw [sx_items]; rfl) | rfl)
    | (rw [f2 (by omega)]; first | done | (rw [nx_items]; done) | (rw [nx_items]; rfl) | rfl)
    | (rw [f4 (by omega)]; first | done | rfl)
    | (rw [f5 (by omega)]; first | done | (rw [tx_items]; done) | (rw [tx_items]; rfl) | rfl)
    | (rw [(f6 (by omega)).2]; first | done | rfl)
    | exact (f6 (by omega)).1
    | (rw [e0, m0]; first | done | rfl))
theorem c_dDat (d : Int) : ∀ (c : Cr) (h : okK c ∧ 0 ≤ d ∧ d ≤ 10), P_c_dDat d c := Lv.ind (P := fun d => ∀ (c : Cr) (h : okK c ∧ 0 ≤ d ∧ d ≤ 10), P_c_dDat d c) (fun d ih c h => c_dDat_s d c h ih) d
end Go.Proofs.Ytgeegppaaggcjaa
end
section
namespace Go.Proofs.Ytgeegppaaggcjaa
open Go Go.Proofs.Ytgeegppaaggcjaa.Ab
set_option linter.unusedVariables false
set_option linter.unusedSimpArgs false
set_option maxHeartbeats 4000000
def addU (L : List Int) (n : Int) : List Int := if n ∈ L then L else L ++ [n]
def memI (S : List Int) (n : Int) : Int := if n ∈ S then 1 else 0
def cntI (b : List Int) (n : Int) : Int := (b.count n : Int)
theorem memI_nil : zI = memI [] := by funext m; simp [zI, memI]
theorem memI_snoc {S : List Int} {n : Int} : upd1 (memI S) n 1 = memI (S ++ [n]) := by
  funext m; simp only [upd1, memI, List.mem_append, List.mem_singleton]; grind
theorem cntI_inc {b : List Int} {n : Int} : upd1 (cntI b) n (cntI b n + 1) = cntI (b ++ [n]) := by
  funext m; simp only [upd1, cntI, List.count_append, List.count_singleton]; grind
theorem cntI_dec {b p : List Int} {n : Int} : upd1 (cntI (b ++ n :: p)) n (cntI (b ++ n :: p) n - 1) = cntI (b ++ p) := by
  funext m; simp only [upd1, cntI, List.count_append, List.count_cons]; grind
theorem cntI_zero {b : List Int} {n : Int} : cntI b n = 0 ↔ n ∉ b := by
  simp only [cntI]; rw [← List.count_eq_zero]; omega
theorem cntI_le {b : List Int} {n : Int} : 0 ≤ cntI b n ∧ cntI b n ≤ b.length := by
  have := List.count_le_length (a := n) (l := b)
  simp only [cntI]; omega
theorem memI_zero {b : List Int} {n : Int} : memI b n = 0 ↔ n ∉ b := by
  simp only [memI]; grind
theorem addU_len (L : List Int) (n : Int) : (addU L n).length ≤ L.length + 1 := by
  unfold addU; split <;> simp
mutual
def fre : Core → List Int → List Int → List Int
  | ⟨k, n, p, _, l⟩, b, o => fres l (b ++ p) (if (k = 2 ∨ k = 4) ∧ n ∉ b then addU o n else o)
def fres : List Core → List Int → List Int → List Int
  | [], _, o => o
  | x :: r, b, o => fres r b (fre x b o)
end
theorem fres_eq : ∀ (l : List Core) (b o : List Int), fres l b o = l.foldl (fun o x => fre x b o) o
  | [], _, _ => by rw [fres]; rfl
  | x :: r, b, o => by rw [fres, fres_eq r]; rfl
def fre0 (c : Core) (b o : List Int) : List Int := if (c.kind = 2 ∨ c.kind = 4) ∧ c.number ∉ b then addU o c.number else o
theorem fre_eq (c : Core) (b o : List Int) : fre c b o = c.kids.foldl (fun o x => fre x (b ++ c.params) o) (fre0 c b o) := by cases c; simp only [fre, fres_eq, fre0]
theorem fre_len : ∀ c b o, (fre c b o).length ≤ o.length + 1 + wC c := by
  refine Core.ind fun c ih b o => ?_
  rw [fre_eq, wC_eq]
  have h : ∀ (L : List Core), (∀ y ∈ L, ∀ b o, (fre y b o).length ≤ o.length + 1 + wC y) → ∀ o, (L.foldl (fun o x => fre x (b ++ c.params) o) o).length ≤ o.length + L.length + sumBy wC L := by
    intro L
    induction L with
    | nil => intro _ o; simp [sumBy]
    | cons x r ihr =>
      intro hL o
      have h1 := hL x List.mem_cons_self (b ++ c.params) o
      have h2 := ihr (fun y hy => hL y (List.mem_cons_of_mem _ hy)) (fre x (b ++ c.params) o)
      simp only [List.foldl_cons, sumBy, List.length_cons]; omega
  have h1 := h c.kids ih (fre0 c b o)
  have h2 : (fre0 c b o).length ≤ o.length + 1 := by
    unfold fre0; split
    · exact addU_len _ _
    · omega
  omega
theorem fre0_len (c : Core) (b o : List Int) : (fre0 c b o).length ≤ o.length + 1 := by
  unfold fre0; split
  · exact addU_len _ _
  · omega
abbrev P_c_addNum (S : List Int) (n : Int) : Ct := ⟨42, [.box [.ref 1, .mref 2], .arr true 1 (S.map intC), .map (decide (S = [])) kI (mI (memI S))], [.one (.ptr 0 0), li n], [.box [.ref 3, .mref 4], .dead, .dead, .arr true 1 ((addU S n).map intC), .map (decide (addU S n = [])) kI (mI (memI (addU S n)))], .tup []⟩
theorem c_addNum (S : List Int) (n : Int) (h : S.length < 2147483647)  : P_c_addNum S n := fnOK Try.call42 Try.func42 (.i (S = []) (.w (.mkmap kI) (.w (.cells [cI (zI n)]) (.p
 (LookAt (Value.int IntKind.i64 0) (mI zI) (Value.int IntKind.i64 n) (cI 0)) (.y true (.w (.upd (mI (upd1 zI n 1))) (.p (false = false) (.p (UpdF kI.d (mI zI) (mI (upd1 zI n 1))
 (Value.int IntKind.i64 n) (some (cI 1))) (.p (((List.map intC S).length + 1) * 8 ≤ 140737488355328) (.w (.ghost (.move 2)) (.f [5, 3] [Ob.box [AC.ref 3, AC.mref 4], Ob.dead,
 Ob.dead, Ob.arr true 1 (List.map intC S ++ [[cI n]]), Ob.map false kI (mI (upd1 zI n 1))] (AV.tup []))))))))))) (.w (.cells [cI (memI S n)]) (.p (LookAt (Value.int IntKind.i64 0)
 (mI (memI S)) (Value.int IntKind.i64 n) (cI (memI S n))) (.i (memI S n = 0) (.w (.upd (mI (upd1 (memI S) n 1))) (.p (decide (S = []) = false) (.p (UpdF kI.d (mI (memI S)) (mI
 (upd1 (memI S) n 1)) (Value.int IntKind.i64 n) (some (cI 1))) (.p (((List.map intC S).length + 1) * 8 ≤ 140737488355328) (.w (.ghost (.move 2)) (.f [4, 5] [Ob.box [AC.ref 3,
 AC.mref 4], Ob.dead, Ob.dead, Ob.arr true 1 (List.map intC S ++ [[cI n]]), Ob.map (decide (S = [])) kI (mI (upd1 (memI S) n 1))] (AV.tup []))))))) (.w (.ghost (.move 1)) (.w
 (.ghost (.move 2)) (.f [3, 4] [Ob.box [AC.ref 3, AC.mref 4], Ob.dead, Ob.dead, Ob.arr true 1 (List.map intC S), Ob.map (decide (S = [])) kI (mI (memI S))] (AV.tup [])))))))) (by
  dsimp only [teasy, P_c_addNum]
  with_reducible repeat' (first | apply And.intro | exact zR | (intro; skip) | apply mIc | apply mOc | apply mSc | apply mLc)
  all_goals (try simp only [std, inj] at *)
  all_goals with_reducible repeat' apply And.intro
  all_goals (try (first | exact z | exact zM | grind [addU, memI_zero, memI_snoc, memI_nil, List.append_eq_nil_iff, snocI, snocS, rowSnoc])))
abbrev P_c_freeIn (c : Core) (b : List Int) (S : List Int) : Ct := ⟨26, [.map false kI (mI (cntI b)), .box [.ref 2, .mref 3], .arr true 1 (S.map intC), .map (decide (S = [])) kI (mI (memI S))], [coreA c, .one (.mref 0), .one (.ptr 1 0)], [.map false kI (mI (cntI b)), .box [.ref 4, .mref 5], .dead, .dead, .arr true 1 ((fre c b S).map intC), .map (decide (fre c b S = [])) kI (mI (memI (fre c b S)))], .tup []⟩
def lc_freeIn_sLc (c : Core) (b : List Int) (S : List Int) : Lp Nat := .mk 67 4 (fun x => [(1, SV.one (AC.mref 0)), (56, ll (List.map intC c.params)), (57, li (↑(List.map intC
 c.params).length : Int)), (58, hs x 0)]) (fun x => [ho x 1, Ob.box [AC.ref 4, AC.mref 5], Ob.dead, Ob.dead, Ob.arr true 1 (List.map intC (fre c b S)), Ob.map (decide (fre c b S =
 [])) kI (mI (memI (fre c b S)))]) (fun k => [.s (li (↑k : Int)), .o (Ob.map false kI (mI (cntI (b ++ List.drop k c.params))))]) (fun k => k ≤ c.params.length ∧ c.params.length ≤
 9223372036854775807) (fun k => c.params.length - k) [.mk True (.exit 4) (fun x => []) (fun x => [ho x 0, Ob.box [AC.ref 4, AC.mref 5], Ob.dead, Ob.dead, Ob.arr true 1 (List.map
 intC (fre c b S)), Ob.map (decide (fre c b S = [])) kI (mI (memI (fre c b S)))]) [.o (Ob.map false kI (mI (cntI b)))]]
def lc_freeIn_sLb (c : Core) (b : List Int) (S : List Int) : Lp Nat := .mk 67 4 (fun x => [(1, SV.one (AC.mref 0)), (2, SV.one (AC.ptr 1 0)), (3, SV.one (AC.ptr 4 0)), (44, ll
 (List.map coreC c.kids)), (45, li (↑(List.map coreC c.kids).length : Int)), (46, hs x 0)]) (fun x => [Ob.map false kI (mI (cntI (b ++ c.params))), Ob.box [AC.ref 5, AC.mref 6],
 Ob.dead, Ob.dead, Ob.box (vals (coreF c)), ho x 1, ho x 2]) (fun k => [.s (li (↑k : Int)), .o (Ob.arr true 1 (List.map intC (List.foldl (fun o x => fre x (b ++ c.params) o) (fre0
 c b S) (List.take k c.kids)))), .o (Ob.map (decide (List.foldl (fun o x => fre x (b ++ c.params) o) (fre0 c b S) (List.take k c.kids) = [])) kI (mI (memI (List.foldl (fun o x =>
 fre x (b ++ c.params) o) (fre0 c b S) (List.take k c.kids)))))]) (fun k => k ≤ c.kids.length ∧ c.kids.length ≤ 9223372036854775807) (fun k => c.kids.length - k) [.mk True (.exit
 2) (fun x => [(1, SV.one (AC.mref 0)), (3, SV.one (AC.ptr 4 0))]) (fun x => [Ob.map false kI (mI (cntI (b ++ c.params))), Ob.box [AC.ref 5, AC.mref 6], Ob.dead, Ob.dead, Ob.box
 (vals (coreF c)), ho x 0, ho x 1]) [.o (Ob.arr true 1 (List.map intC (fre c b S))), .o (Ob.map (decide (fre c b S = [])) kI (mI (memI (fre c b S))))]]
def lc_freeIn_sLa (c : Core) (b : List Int) (S : List Int) : Lp Nat := .mk 67 4 (fun x => [(1, SV.one (AC.mref 0)), (2, SV.one (AC.ptr 1 0)), (3, SV.one (AC.ptr 4 0)), (32, ll
 (List.map intC c.params)), (33, li (↑(List.map intC c.params).length : Int)), (34, hs x 0)]) (fun x => [ho x 1, Ob.box [AC.ref 5, AC.mref 6], Ob.dead, Ob.dead, Ob.box (vals (coreF
 c)), ho x 2, ho x 3]) (fun k => [.s (li (↑k : Int)), .o (Ob.map false kI (mI (cntI (b ++ List.take k c.params)))), .o (Ob.arr true 1 (List.map intC (fre0 c b S))), .o (Ob.map
 (decide (fre0 c b S = [])) kI (mI (memI (fre0 c b S))))]) (fun k => k ≤ c.params.length ∧ c.params.length ≤ 9223372036854775807) (fun k => c.params.length - k) [.mk True (.exit 0)
 (fun x => [(1, SV.one (AC.mref 0)), (2, SV.one (AC.ptr 1 0)), (3, SV.one (AC.ptr 4 0))]) (fun x => [ho x 0, Ob.box [AC.ref 5, AC.mref 6], Ob.dead, Ob.dead, Ob.box (vals (coreF
 c)), ho x 1, ho x 2]) [.o (Ob.map false kI (mI (cntI (b ++ c.params)))), .o (Ob.arr true 1 (List.map intC (fre0 c b S))), .o (Ob.map (decide (fre0 c b S = [])) kI (mI (memI (fre0
 c b S))))]]
theorem Sc_freeIn_sLc (c : Core) (b : List Int) (S : List Int) (h : b.length + S.length + wC c + 1 ≤ 2147483647) (ih : ∀ (z : Core), z ∈ c.kids → ∀ (b S : List Int), b.length +
 S.length + wC z + 1 ≤ 2147483647 → OK (P_c_freeIn z b S)) : Lp.Sem Try.prog (loopAt Try.f26 2) (lc_freeIn_sLc c b S) := lpOK (fun k => .i ((↑k : Int) < (↑(List.map intC
 c.params).length : Int)) (.x (↑k : Int) (List.map intC c.params) [cI (c.params.getD k 0)] (.w (.cells [cI (cntI (b ++ List.drop k c.params) (c.params.getD k 0))]) (.p (LookAt
 (Value.int IntKind.i64 0) (mI (cntI (b ++ List.drop k c.params))) (Value.int IntKind.i64 (c.params.getD k 0)) (cI (cntI (b ++ List.drop k c.params) (c.params.getD k 0)))) (.r
 (cntI (b ++ List.drop k c.params) (c.params.getD k 0) - 1) (.w (.upd (mI (upd1 (cntI (b ++ List.drop k c.params)) (c.params.getD k 0) (cntI (b ++ List.drop k c.params)
 (c.params.getD k 0) - 1)))) (.p (false = false) (.p (UpdF kI.d (mI (cntI (b ++ List.drop k c.params))) (mI (upd1 (cntI (b ++ List.drop k c.params)) (c.params.getD k 0) (cntI (b ++
 List.drop k c.params) (c.params.getD k 0) - 1))) (Value.int IntKind.i64 (c.params.getD k 0)) (some (cI (cntI (b ++ List.drop k c.params) (c.params.getD k 0) - 1)))) (.r ((↑k :
 Int) + 1) (.g [0, 1, 2, 3, 4, 5] (k + 1) [.s (li ((↑k : Int) + 1)), .o (Ob.map false kI (mI (upd1 (cntI (b ++ List.drop k c.params)) (c.params.getD k 0) (cntI (b ++ List.drop k
 c.params) (c.params.getD k 0) - 1))))]))))))))) (.o 0 [0, 1, 2, 3, 4, 5] [.o (Ob.map false kI (mI (cntI (b ++ List.drop k c.params))))])) (by
  intro k h; try dsimp only [teasy, nthW, lc_freeIn_sLc] at h ⊢
  have g := fun L n => (cntI_le (b := L) (n := n)).2
  have g' := fun L n => (cntI_le (b := L) (n := n)).1
  have g4 := wC_eq c
  have b1 := g (b ++ c.params.drop k) (c.params.getD k 0)
  have b2 := g' (b ++ c.params.drop k) (c.params.getD k 0)
  have b3 : (b ++ c.params.drop k).length ≤ b.length + c.params.length := by rw [List.length_append, List.length_drop]; omega
  have b4 : -9223372036854775808 ≤ cntI (b ++ c.params.drop k) (c.params.getD k 0) - 1 := by omega
  have b5 : cntI (b ++ c.params.drop k) (c.params.getD k 0) - 1 ≤ 9223372036854775807 := by omega
  with_reducible repeat' (first | apply And.intro | exact zR | exact ih | (intro; skip) | apply mIc | apply mOc | apply mSc | apply mLc | apply c_addNum)
  all_goals (try simp only [std, inj] at *)
  all_goals with_reducible repeat' apply And.intro
  all_goals (try (first | with_reducible apply c_addNum | with_reducible apply ih | (simp only [← List.map_append]; first | with_reducible apply c_addNum | with_reducible apply ih)))
  all_goals (try (first | exact z | exact zM | grind [cntI_dec, drop_get, snocI, snocS, rowSnoc])))
theorem Sc_freeIn_sLb (c : Core) (b : List Int) (S : List Int) (h : b.length + S.length + wC c + 1 ≤ 2147483647) (ih : ∀ (z : Core), z ∈ c.kids → ∀ (b S : List Int), b.length +
 S.length + wC z + 1 ≤ 2147483647 → OK (P_c_freeIn z b S)) : Lp.Sem Try.prog (loopAt Try.f26 1) (lc_freeIn_sLb c b S) := lpOK (fun k => .i ((↑k : Int) < (↑(List.map coreC
 c.kids).length : Int)) (.x (↑k : Int) (List.map coreC c.kids) (coreF (c.kids.getD k default)) (.d [.rd, .map, .ptr] (P_c_freeIn (c.kids.getD k default) (b ++ c.params) (List.foldl
 (fun o x => fre x (b ++ c.params) o) (fre0 c b S) (List.take k c.kids))) (.r ((↑k : Int) + 1) (.g [0, 1, 2, 3, 4, 12, 13] (k + 1) [.s (li ((↑k : Int) + 1)), .o (Ob.arr true 1
 (List.map intC (fre (c.kids.getD k default) (b ++ c.params) (List.foldl (fun o x => fre x (b ++ c.params) o) (fre0 c b S) (List.take k c.kids))))), .o (Ob.map (decide (fre
 (c.kids.getD k default) (b ++ c.params) (List.foldl (fun o x => fre x (b ++ c.params) o) (fre0 c b S) (List.take k c.kids)) = [])) kI (mI (memI (fre (c.kids.getD k default) (b ++
 c.params) (List.foldl (fun o x => fre x (b ++ c.params) o) (fre0 c b S) (List.take k c.kids))))))])))) (.o 0 [0, 1, 2, 3, 4, 5, 6] [.o (Ob.arr true 1 (List.map intC (List.foldl
 (fun o x => fre x (b ++ c.params) o) (fre0 c b S) (List.take k c.kids)))), .o (Ob.map (decide (List.foldl (fun o x => fre x (b ++ c.params) o) (fre0 c b S) (List.take k c.kids) =
 [])) kI (mI (memI (List.foldl (fun o x => fre x (b ++ c.params) o) (fre0 c b S) (List.take k c.kids)))))])) (by
  intro k h; try dsimp only [teasy, nthW, lc_freeIn_sLb] at h ⊢
  have g1 := foldl_len (fun o x => fre x (b ++ c.params) o) wC (c.kids.take k) (fun y _ o => fre_len y _ o) (fre0 c b S)
  have g2 := fre0_len c b S
  have g3 := sumBy_takeLe wC c.kids (k + 1)
  have g4 := wC_eq c
  with_reducible repeat' (first | apply And.intro | exact zR | exact ih | (intro; skip) | apply mIc | apply mOc | apply mSc | apply mLc | apply c_addNum | apply ih)
  all_goals (try simp only [std, inj] at *)
  all_goals with_reducible repeat' apply And.intro
  all_goals (try (first | with_reducible apply c_addNum | with_reducible apply ih | (simp only [← List.map_append]; first | with_reducible apply c_addNum | with_reducible apply ih)))
  all_goals (try (first | exact z | exact zM | grind [fre_eq, foldl_step, getD_mem', sumBy_step, snocI, snocS, rowSnoc])))
theorem Sc_freeIn_sLa (c : Core) (b : List Int) (S : List Int) (h : b.length + S.length + wC c + 1 ≤ 2147483647) (ih : ∀ (z : Core), z ∈ c.kids → ∀ (b S : List Int), b.length +
 S.length + wC z + 1 ≤ 2147483647 → OK (P_c_freeIn z b S)) : Lp.Sem Try.prog (loopAt Try.f26 0) (lc_freeIn_sLa c b S) := lpOK (fun k => .i ((↑k : Int) < (↑(List.map intC
 c.params).length : Int)) (.x (↑k : Int) (List.map intC c.params) [cI (c.params.getD k 0)] (.w (.cells [cI (cntI (b ++ List.take k c.params) (c.params.getD k 0))]) (.p (LookAt
 (Value.int IntKind.i64 0) (mI (cntI (b ++ List.take k c.params))) (Value.int IntKind.i64 (c.params.getD k 0)) (cI (cntI (b ++ List.take k c.params) (c.params.getD k 0)))) (.r
 (cntI (b ++ List.take k c.params) (c.params.getD k 0) + 1) (.w (.upd (mI (upd1 (cntI (b ++ List.take k c.params)) (c.params.getD k 0) (cntI (b ++ List.take k c.params)
 (c.params.getD k 0) + 1)))) (.p (false = false) (.p (UpdF kI.d (mI (cntI (b ++ List.take k c.params))) (mI (upd1 (cntI (b ++ List.take k c.params)) (c.params.getD k 0) (cntI (b ++
 List.take k c.params) (c.params.getD k 0) + 1))) (Value.int IntKind.i64 (c.params.getD k 0)) (some (cI (cntI (b ++ List.take k c.params) (c.params.getD k 0) + 1)))) (.r ((↑k :
 Int) + 1) (.g [0, 1, 2, 3, 4, 5, 6] (k + 1) [.s (li ((↑k : Int) + 1)), .o (Ob.map false kI (mI (upd1 (cntI (b ++ List.take k c.params)) (c.params.getD k 0) (cntI (b ++ List.take k
 c.params) (c.params.getD k 0) + 1)))), .o (Ob.arr true 1 (List.map intC (fre0 c b S))), .o (Ob.map (decide (fre0 c b S = [])) kI (mI (memI (fre0 c b S))))]))))))))) (.o 0 [0, 1,
 2, 3, 4, 5, 6] [.o (Ob.map false kI (mI (cntI (b ++ List.take k c.params)))), .o (Ob.arr true 1 (List.map intC (fre0 c b S))), .o (Ob.map (decide (fre0 c b S = [])) kI (mI (memI
 (fre0 c b S))))])) (by
  intro k h; try dsimp only [teasy, nthW, lc_freeIn_sLa] at h ⊢
  have g := fun L n => (cntI_le (b := L) (n := n)).2
  have g' := fun L n => (cntI_le (b := L) (n := n)).1
  have g4 := wC_eq c
  have b1 := g (b ++ c.params.take k) (c.params.getD k 0)
  have b2 := g' (b ++ c.params.take k) (c.params.getD k 0)
  have b3 : (b ++ c.params.take k).length ≤ b.length + c.params.length := by rw [List.length_append, List.length_take]; omega
  have b4 : -9223372036854775808 ≤ cntI (b ++ c.params.take k) (c.params.getD k 0) + 1 := by omega
  have b5 : cntI (b ++ c.params.take k) (c.params.getD k 0) + 1 ≤ 9223372036854775807 := by omega
  with_reducible repeat' (first | apply And.intro | exact zR | exact ih | (intro; skip) | apply mIc | apply mOc | apply mSc | apply mLc | apply c_addNum)
  all_goals (try simp only [std, inj] at *)
  all_goals with_reducible repeat' apply And.intro
  all_goals (try (first | with_reducible apply c_addNum | with_reducible apply ih | (simp only [← List.map_append]; first | with_reducible apply c_addNum | with_reducible apply ih)))
  all_goals (try (first | exact z | exact zM | grind [cntI_inc, take_get, snocI, snocS, rowSnoc])))
theorem c_freeIn_s (c : Core) (b S : List Int) (h : b.length + S.length + wC c + 1 ≤ 2147483647) (ih : ∀ z ∈ c.kids, ∀ (b : List Int) (S : List Int) (h : b.length + S.length + wC z
 + 1 ≤ 2147483647), P_c_freeIn z b S)  : P_c_freeIn c b S := fnOK Try.call26 Try.func26 (let v1 := [Ob.map false kI (mI (cntI b)), Ob.box [AC.ref 4, AC.mref 5], Ob.dead, Ob.dead,
 Ob.arr true 1 (List.map intC (fre c b S)), Ob.map (decide (fre c b S = [])) kI (mI (memI (fre c b S)))]; let v2 := [0, 1, 2, 3, 4, 5, 6]; let v3 := [0, 1, 2, 3, 5, 6]; let v4 :=
 (Ob.map (decide (fre0 c b S = [])) kI (mI (memI (fre0 c b S)))); let v5 := (Ob.arr true 1 (List.map intC (fre0 c b S))); let v6 := (Ob.map false kI (mI (cntI (b ++ c.params))));
 let v7 := (Ob.map false kI (mI (cntI b))); let v8 := (LookAt (Value.int IntKind.i64 0) (mI (cntI b)) (Value.int IntKind.i64 c.number) (cI (cntI b c.number))); let v9 :=
 (Sc_freeIn_sLc c b S h ih); let v10 := (Sc_freeIn_sLb c b S h ih); let v11 := (Sc_freeIn_sLa c b S h ih); let v12 := (Ob.map (decide (S = [])) kI (mI (memI S))); let v13 :=
 (Ob.arr true 1 (List.map intC S)); .i (c.kind = 2) (.y true (.w (.cells [cI (cntI b c.number)]) (.p v8 (.i (cntI b c.number = 0) (.d [.ptr, .rd] (P_c_addNum S c.number) (.z intC
 c.params (.l (lc_freeIn_sLa c b S) v11 [0, 1, 2, 3, 4, 8, 9] [.s (li 0), .o v7, .o (Ob.arr true 1 (List.map intC (addU S c.number))), .o (Ob.map (decide (addU S c.number = [])) kI
 (mI (memI (addU S c.number))))] 0 (.t (.z coreC c.kids (.l (lc_freeIn_sLb c b S) v10 v2 [.s (li 0), .o v5, .o v4] 0 (.t (.z intC c.params (.l (lc_freeIn_sLc c b S) v9 v3 [.s (li
 0), .o v6] 0 (.t (.f [4, 5] v1 (AV.tup [])) .q))) .q))) .q)))) (.z intC c.params (.w (.ghost (.move 2)) (.w (.ghost (.move 3)) (.l (lc_freeIn_sLa c b S) v11 v2 [.s (li 0), .o v7,
 .o v13, .o v12] 0 (.t (.z coreC c.kids (.l (lc_freeIn_sLb c b S) v10 v2 [.s (li 0), .o v5, .o v4] 0 (.t (.z intC c.params (.l (lc_freeIn_sLc c b S) v9 v3 [.s (li 0), .o v6] 0 (.t
 (.f [4, 5] v1 (AV.tup [])) .q))) .q))) .q))))))))) (.i (c.kind = 4) (.w (.cells [cI (cntI b c.number)]) (.p v8 (.i (cntI b c.number = 0) (.d [.ptr, .rd] (P_c_addNum S c.number)
 (.z intC c.params (.l (lc_freeIn_sLa c b S) v11 [0, 1, 2, 3, 4, 8, 9] [.s (li 0), .o v7, .o (Ob.arr true 1 (List.map intC (addU S c.number))), .o (Ob.map (decide (addU S c.number
 = [])) kI (mI (memI (addU S c.number))))] 0 (.t (.z coreC c.kids (.l (lc_freeIn_sLb c b S) v10 v2 [.s (li 0), .o v5, .o v4] 0 (.t (.z intC c.params (.l (lc_freeIn_sLc c b S) v9 v3
 [.s (li 0), .o v6] 0 (.t (.f [4, 5] v1 (AV.tup [])) .q))) .q))) .q)))) (.z intC c.params (.w (.ghost (.move 2)) (.w (.ghost (.move 3)) (.l (lc_freeIn_sLa c b S) v11 v2 [.s (li 0),
 .o v7, .o v13, .o v12] 0 (.t (.z coreC c.kids (.l (lc_freeIn_sLb c b S) v10 v2 [.s (li 0), .o v5, .o v4] 0 (.t (.z intC c.params (.l (lc_freeIn_sLc c b S) v9 v3 [.s (li 0), .o v6]
 0 (.t (.f [4, 5] v1 (AV.tup [])) .q))) .q))) .q)))))))) (.y false (.z intC c.params (.w (.ghost (.move 2)) (.w (.ghost (.move 3)) (.l (lc_freeIn_sLa c b S) v11 v2 [.s (li 0), .o
 v7, .o v13, .o v12] 0 (.t (.z coreC c.kids (.l (lc_freeIn_sLb c b S) v10 v2 [.s (li 0), .o v5, .o v4] 0 (.t (.z intC c.params (.l (lc_freeIn_sLc c b S) v9 v3 [.s (li 0), .o v6] 0
 (.t (.f [4, 5] v1 (AV.tup [])) .q))) .q))) .q)))))))) (by
  dsimp only [teasy, P_c_freeIn, nthW, lc_freeIn_sLa, lc_freeIn_sLb, lc_freeIn_sLc]
  with_reducible repeat' (first | apply And.intro | exact zR | exact ih | (intro; skip) | apply mIc | apply mOc | apply mSc | apply mLc | apply c_addNum)
  all_goals (try simp only [std, inj] at *)
  all_goals with_reducible repeat' apply And.intro
  all_goals (try (first | with_reducible apply c_addNum | with_reducible apply ih | (simp only [← List.map_append]; first | with_reducible apply c_addNum | with_reducible apply ih)))
  all_goals (try (first | exact z | exact zM | grind [cntI_zero, fre0, snocI, snocS, rowSnoc])))
theorem c_freeIn (c : Core) : ∀ (b : List Int) (S : List Int) (h : b.length + S.length + wC c + 1 ≤ 2147483647), P_c_freeIn c b S := Core.ind (P := fun c => ∀ (b : List Int) (S : List Int) (h : b.length + S.length + wC c + 1 ≤ 2147483647), P_c_freeIn c b S) (fun c ih b S h => c_freeIn_s c b S h ih) c
abbrev P_c_sHas (L : List Int) (n : Int) : Ct := ⟨24, [], [ll (L.map intC), li n], [], .sv (lb (decide (n ∈ L)))⟩
def lc_sHasLa (L : List Int) (n : Int) : Lp Nat := .mk 17 0 (fun x => [(1, li n), (7, ll (List.map intC L)), (8, li (↑(List.map intC L).length : Int)), (9, hs x 0)]) (fun x => [])
 (fun k => [.s (li (↑k : Int))]) (fun k => k ≤ L.length ∧ L.length ≤ 9223372036854775807 ∧ ¬n ∈ List.take k L) (fun k => L.length - k) [.mk (¬n ∈ L) (.exit 0) (fun x => []) (fun x
 => []) [], .mk (n ∈ L) .ret (fun x => [(4, hs x 0)]) (fun x => []) [.s (lb true)]]
theorem Sc_sHasLa (L : List Int) (n : Int) : Lp.Sem Try.prog (loopAt Try.f24 0) (lc_sHasLa L n) := lpOK (fun k => .i ((↑k : Int) < (↑(List.map intC L).length : Int)) (.x (↑k : Int)
 (List.map intC L) [cI (L.getD k 0)] (.i (L.getD k 0 = n) (.o 1 [] [.s (lb true)]) (.r ((↑k : Int) + 1) (.g [] (k + 1) [.s (li ((↑k : Int) + 1))])))) (.o 0 [] [])) (by
  intro k h; try dsimp only [teasy, nthW, lc_sHasLa] at h ⊢
  with_reducible repeat' (first | apply And.intro | exact zR | (intro; skip) | apply mIc | apply mOc | apply mSc | apply mLc)
  all_goals (try simp only [std, inj] at *)
  all_goals with_reducible repeat' apply And.intro
  all_goals (try (first | exact z | exact zM | grind [take_get, getD_mem', snocI, snocS, rowSnoc])))
theorem c_sHas (L : List Int) (n : Int)  : P_c_sHas L n := fnOK Try.call24 Try.func24 (.z intC L (.l (lc_sHasLa L n) (Sc_sHasLa L n) [] [.s (li 0)] 0 (.t (.s (lb false)) (.t (.s
 (lb true)) .q)))) (by
  dsimp only [teasy, P_c_sHas, nthW, lc_sHasLa]
  with_reducible repeat' (first | apply And.intro | exact zR | (intro; skip) | apply mIc | apply mOc | apply mSc | apply mLc)
  all_goals (try simp only [std, inj] at *)
  all_goals with_reducible repeat' apply And.intro
  all_goals (try (first | exact z | exact zM | grind [snocI, snocS, rowSnoc])))
abbrev P_c_l2Ints (L : List Int) : Ct := ⟨22, [], [ll (L.map intC)], [.arr true 1 (L.map intC)], .sv (.one (.ref 0))⟩
theorem c_l2Ints (L : List Int) (h : L.length ≤ 2147483647)  : P_c_l2Ints L := fnOK Try.call22 Try.func22 (.w (.bool false) (.p (∀ (e : List Cell), e ∈ List.map intC L → ∀ (c :
 Cell), c ∈ e → ∃ v, c = Cell.lit v) (.p (∀ (e : List Cell), e ∈ List.map intC L → e.length = 1) (.p ((0 + (List.map intC L).length) * 8 ≤ 140737488355328) (.f [1] [Ob.arr true 1
 (List.map intC L)] (AV.sv (SV.one (AC.ref 0)))))))) (by
  dsimp only [teasy, P_c_l2Ints]
  with_reducible repeat' (first | apply And.intro | exact zR | (intro; skip) | apply mIc | apply mOc | apply mSc | apply mLc)
  all_goals (try simp only [std, inj] at *)
  all_goals with_reducible repeat' apply And.intro
  all_goals (try (first | exact z | exact zM | grind [snocI, snocS, rowSnoc])))
abbrev P_c_l5Names (c : Core) : Ct := ⟨41, [], [coreA c], [], .sv (lb (decide (c.kind = 2 ∨ c.kind = 4)))⟩
theorem c_l5Names (c : Core)  : P_c_l5Names c := fnOK Try.call41 Try.func41 (.i (c.kind = 2) (.s (lb true)) (.s (lb (decide (c.kind = 4))))) (by
  dsimp only [teasy, P_c_l5Names]
  with_reducible repeat' (first | apply And.intro | exact zR | (intro; skip) | apply mIc | apply mOc | apply mSc | apply mLc)
  all_goals (try simp only [std, inj] at *)
  all_goals with_reducible repeat' apply And.intro
  all_goals (try (first | exact z | exact zM | grind [snocI, snocS, rowSnoc])))
abbrev P_c_l5Free (c : Core) (b : List Int) (S : List Int) : Ct := ⟨25, [.arr true 1 (S.map intC)], [coreA c, ll (b.map intC), .one (.ref 0)], [.dead, .arr true 1 ((fre c b S).map intC)], .sv (.one (.ref 1))⟩
def lc_l5Free_sLa (c : Core) (b : List Int) (S : List Int) : Lp Nat := .mk 48 1 (fun x => [(1, SV.one (AC.ref 1)), (2, SV.one (AC.ref 2)), (36, ll (List.map coreC c.kids)), (37, li
 (↑(List.map coreC c.kids).length : Int)), (38, hs x 0)]) (fun x => [Ob.dead, Ob.arr true 1 (List.map intC b ++ List.map intC c.params), ho x 1]) (fun k => [.s (li (↑k : Int)), .o
 (Ob.arr true 1 (List.map intC (List.foldl (fun o x => fre x (b ++ c.params) o) (fre0 c b S) (List.take k c.kids))))]) (fun k => k ≤ c.kids.length ∧ c.kids.length ≤
 9223372036854775807) (fun k => c.kids.length - k) [.mk True (.exit 0) (fun x => [(2, SV.one (AC.ref 1))]) (fun x => [Ob.dead, ho x 0]) [.o (Ob.arr true 1 (List.map intC (fre c b
 S)))]]
theorem Sc_l5Free_sLa (c : Core) (b : List Int) (S : List Int) (h : b.length + S.length + wC c + 1 ≤ 2147483647) (ih : ∀ (z : Core), z ∈ c.kids → ∀ (b S : List Int), b.length +
 S.length + wC z + 1 ≤ 2147483647 → OK (P_c_l5Free z b S)) : Lp.Sem Try.prog (loopAt Try.f25 0) (lc_l5Free_sLa c b S) := lpOK (fun k => .i ((↑k : Int) < (↑(List.map coreC
 c.kids).length : Int)) (.x (↑k : Int) (List.map coreC c.kids) (coreF (c.kids.getD k default)) (.u [.rd, .rd, .own true 1] (P_c_l5Free (c.kids.getD k default) (b ++ c.params)
 (List.foldl (fun o x => fre x (b ++ c.params) o) (fre0 c b S) (List.take k c.kids))) (.p (CallOK Try.prog 25 [Ob.arr true 1 (List.map intC (List.foldl (fun o x => fre x (b ++
 c.params) o) (fre0 c b S) (List.take k c.kids)))] [SV.agg (vals (coreF (c.kids.getD k default))), ll (List.map intC b ++ List.map intC c.params), SV.one (AC.ref 0)] [Ob.dead,
 Ob.arr true 1 (List.map intC (fre (c.kids.getD k default) (b ++ c.params) (List.foldl (fun o x => fre x (b ++ c.params) o) (fre0 c b S) (List.take k c.kids))))] (AV.sv (SV.one
 (AC.ref 1)))) (.r ((↑k : Int) + 1) (.g [0, 1, 5] (k + 1) [.s (li ((↑k : Int) + 1)), .o (Ob.arr true 1 (List.map intC (fre (c.kids.getD k default) (b ++ c.params) (List.foldl (fun
 o x => fre x (b ++ c.params) o) (fre0 c b S) (List.take k c.kids)))))]))))) (.o 0 [0, 2] [.o (Ob.arr true 1 (List.map intC (List.foldl (fun o x => fre x (b ++ c.params) o) (fre0 c
 b S) (List.take k c.kids))))])) (by
  intro k h; try dsimp only [teasy, nthW, lc_l5Free_sLa] at h ⊢
  have g1 := foldl_len (fun o x => fre x (b ++ c.params) o) wC (c.kids.take k) (fun y _ o => fre_len y _ o) (fre0 c b S)
  have g2 := fre0_len c b S
  have g3 := sumBy_takeLe wC c.kids (k + 1)
  have g4 := wC_eq c
  with_reducible repeat' (first | apply And.intro | exact zR | exact ih | (intro; skip) | apply mIc | apply mOc | apply mSc | apply mLc | apply c_sHas | apply c_l2Ints | apply c_l5Names | apply ih)
  all_goals (try simp only [std, inj] at *)
  all_goals with_reducible repeat' apply And.intro
  all_goals (try (first | with_reducible apply c_sHas | with_reducible apply c_l2Ints | with_reducible apply c_l5Names | with_reducible apply ih | (simp only [← List.map_append]; first | with_reducible apply c_sHas | with_reducible apply c_l2Ints | with_reducible apply c_l5Names | with_reducible apply ih)))
  all_goals (try (first | exact z | exact zM | grind [fre_eq, foldl_step, getD_mem', sumBy_step, snocI, snocS, rowSnoc])))
theorem c_l5Free_s (c : Core) (b S : List Int) (h : b.length + S.length + wC c + 1 ≤ 2147483647) (ih : ∀ z ∈ c.kids, ∀ (b : List Int) (S : List Int) (h : b.length + S.length + wC z
 + 1 ≤ 2147483647), P_c_l5Free z b S)  : P_c_l5Free c b S := fnOK Try.call25 Try.func25 (.c [.rd] (c_l5Names c) (.i (c.kind = 2 ∨ c.kind = 4) (.c [.rd, .rd] (c_sHas b c.number) (.b
 (!decide (c.number ∈ b)) (.c [.rd, .rd] (c_sHas S c.number) (.b (!decide (c.number ∈ S)) (.p (((List.map intC S).length + 1) * 8 ≤ 140737488355328) (.w (.draw [(4, [4])]) (.d
 [.rd] (P_c_l2Ints b) (.p (∀ (e : List Cell), e ∈ List.map intC c.params → ∀ (c : Cell), c ∈ e → ∃ v, c = Cell.lit v) (.p (∀ (e : List Cell), e ∈ List.map intC c.params → e.length
 = 1) (.p (((List.map intC b).length + (List.map intC c.params).length) * 8 ≤ 140737488355328) (.z coreC c.kids (.l (lc_l5Free_sLa c b S) (Sc_l5Free_sLa c b S h ih) [0, 12, 3] [.s
 (li 0), .o (Ob.arr true 1 (List.map intC S ++ [[cI c.number]]))] 0 (.t (.f [1] [Ob.dead, Ob.arr true 1 (List.map intC (fre c b S))] (AV.sv (SV.one (AC.ref 1)))) .q))))))))) (.w
 (.draw [(4, [2])]) (.d [.rd] (P_c_l2Ints b) (.p (∀ (e : List Cell), e ∈ List.map intC c.params → ∀ (c : Cell), c ∈ e → ∃ v, c = Cell.lit v) (.p (∀ (e : List Cell), e ∈ List.map
 intC c.params → e.length = 1) (.p (((List.map intC b).length + (List.map intC c.params).length) * 8 ≤ 140737488355328) (.z coreC c.kids (.w (.ghost (.move 0)) (.l (lc_l5Free_sLa c
 b S) (Sc_l5Free_sLa c b S h ih) [0, 10, 11] [.s (li 0), .o (Ob.arr true 1 (List.map intC S))] 0 (.t (.f [1] [Ob.dead, Ob.arr true 1 (List.map intC (fre c b S))] (AV.sv (SV.one
 (AC.ref 1)))) .q))))))))))) (.y false (.w (.draw [(4, [2])]) (.d [.rd] (P_c_l2Ints b) (.p (∀ (e : List Cell), e ∈ List.map intC c.params → ∀ (c : Cell), c ∈ e → ∃ v, c = Cell.lit
 v) (.p (∀ (e : List Cell), e ∈ List.map intC c.params → e.length = 1) (.p (((List.map intC b).length + (List.map intC c.params).length) * 8 ≤ 140737488355328) (.z coreC c.kids (.w
 (.ghost (.move 0)) (.l (lc_l5Free_sLa c b S) (Sc_l5Free_sLa c b S h ih) [0, 10, 11] [.s (li 0), .o (Ob.arr true 1 (List.map intC S))] 0 (.t (.f [1] [Ob.dead, Ob.arr true 1
 (List.map intC (fre c b S))] (AV.sv (SV.one (AC.ref 1)))) .q)))))))))))) (.y false (.y false (.w (.draw [(4, [2])]) (.d [.rd] (P_c_l2Ints b) (.p (∀ (e : List Cell), e ∈ List.map
 intC c.params → ∀ (c : Cell), c ∈ e → ∃ v, c = Cell.lit v) (.p (∀ (e : List Cell), e ∈ List.map intC c.params → e.length = 1) (.p (((List.map intC b).length + (List.map intC
 c.params).length) * 8 ≤ 140737488355328) (.z coreC c.kids (.w (.ghost (.move 0)) (.l (lc_l5Free_sLa c b S) (Sc_l5Free_sLa c b S h ih) [0, 10, 11] [.s (li 0), .o (Ob.arr true 1
 (List.map intC S))] 0 (.t (.f [1] [Ob.dead, Ob.arr true 1 (List.map intC (fre c b S))] (AV.sv (SV.one (AC.ref 1)))) .q))))))))))))) (by
  dsimp only [teasy, P_c_l5Free, nthW, lc_l5Free_sLa]
  have g4 := wC_eq c
  with_reducible repeat' (first | apply And.intro | exact zR | exact ih | (intro; skip) | apply mIc | apply mOc | apply mSc | apply mLc | apply c_l2Ints)
  all_goals (try simp only [std, inj] at *)
  all_goals with_reducible repeat' apply And.intro
  all_goals (try (first | with_reducible apply c_l2Ints | with_reducible apply ih | (simp only [← List.map_append]; first | with_reducible apply c_l2Ints | with_reducible apply ih)))
  all_goals (try (first | exact z | exact zM | grind [fre0, addU, snocI, snocS, rowSnoc])))
theorem c_l5Free (c : Core) : ∀ (b : List Int) (S : List Int) (h : b.length + S.length + wC c + 1 ≤ 2147483647), P_c_l5Free c b S := Core.ind (P := fun c => ∀ (b : List Int) (S : List Int) (h : b.length + S.length + wC c + 1 ≤ 2147483647), P_c_l5Free c b S) (fun c ih b S h => c_l5Free_s c b S h ih) c
abbrev P_c_sFree (c : Core) : Ct := ⟨7, [], [coreA c], [.arr true 1 ((fre c [] []).map intC)], .sv (.one (.ref 0))⟩
theorem c_sFree (c : Core) (h : wC c ≤ 2147483600)  : P_c_sFree c := fnOK Try.call7 Try.func7 (.w (.bool false) (.d [.rd, .rd, .own true 1] (P_c_l5Free c [] []) (.f [3] [Ob.arr
 true 1 (List.map intC (fre c [] []))] (AV.sv (SV.one (AC.ref 0)))))) (by
  dsimp only [teasy, P_c_sFree]
  with_reducible repeat' (first | apply And.intro | exact zR | (intro; skip) | apply mIc | apply mOc | apply mSc | apply mLc | apply c_l5Free)
  all_goals (try simp only [std, inj] at *)
  all_goals with_reducible repeat' apply And.intro
  all_goals (try (first | with_reducible apply c_l5Free | (simp only [← List.map_append]; first | with_reducible apply c_l5Free)))
  all_goals (try (first | exact z | exact zM | grind [snocI, snocS, rowSnoc])))
abbrev P_c_iFree (c : Core) : Ct := ⟨9, [], [coreA c], [.arr true 1 ((fre c [] []).map intC)], .sv (.one (.ref 0))⟩
theorem c_iFree (c : Core) (h : wC c ≤ 2147483600)  : P_c_iFree c := fnOK Try.call9 Try.func9 (.w (.mkmap kI) (.w (.ghost (.nilbox 1 0 true 1)) (.w (.ghost (.nilmbox 1 1 kI)) (.d
 [.rd, .map, .ptr] (P_c_freeIn c [] []) (.f [9] [Ob.arr true 1 (List.map intC (fre c [] []))] (AV.sv (SV.one (AC.ref 0)))))))) (by
  dsimp only [teasy, P_c_iFree]
  with_reducible repeat' (first | apply And.intro | exact zR | (intro; skip) | apply mIc | apply mOc | apply mSc | apply mLc | apply c_freeIn)
  all_goals (try simp only [std, inj] at *)
  all_goals with_reducible repeat' apply And.intro
  all_goals (try (first | with_reducible apply c_freeIn | (simp only [← List.map_append]; first | with_reducible apply c_freeIn)))
  all_goals (try (first | exact z | exact zM | grind [snocI, snocS, rowSnoc])))
end Go.Proofs.Ytgeegppaaggcjaa
end
section
namespace Go.Proofs.Ytgeegppaaggcjaa
open Go Go.Proofs.Ytgeegppaaggcjaa.Ab
set_option linter.unusedVariables false
set_option linter.unusedSimpArgs false
set_option maxHeartbeats 4000000
def primNames : List ByteArray := [mkS [43], mkS [45], mkS [42], mkS [61], mkS [60], mkS [99, 111, 110, 115], mkS [99, 97, 114], mkS [99, 100, 114], mkS [110, 117, 108, 108, 63], mkS [112, 97, 105, 114, 63], mkS [110, 117, 109, 98, 101, 114, 63], mkS [101, 113, 63], mkS [110, 111, 116], mkS [100, 105, 115, 112, 108, 97, 121]]
abbrev P_c_sPrimitiveNames  : Ct := ⟨52, [], [], [.arr true 1 (primNames.map strC)], .sv (.one (.ref 0))⟩
theorem c_sPrimitiveNames   : P_c_sPrimitiveNames := fnOK Try.call52 Try.func52 (.f [0] [Ob.arr true 1 [[cS (ByteArray.mk #[(43 : UInt8)])], [cS (ByteArray.mk #[(45 : UInt8)])],
 [cS (ByteArray.mk #[(42 : UInt8)])], [cS (ByteArray.mk #[(61 : UInt8)])], [cS (ByteArray.mk #[(60 : UInt8)])], [cS (ByteArray.mk #[(99 : UInt8), (111 : UInt8), (110 : UInt8), (115
 : UInt8)])], [cS (ByteArray.mk #[(99 : UInt8), (97 : UInt8), (114 : UInt8)])], [cS (ByteArray.mk #[(99 : UInt8), (100 : UInt8), (114 : UInt8)])], [cS (ByteArray.mk #[(110 :
 UInt8), (117 : UInt8), (108 : UInt8), (108 : UInt8), (63 : UInt8)])], [cS (ByteArray.mk #[(112 : UInt8), (97 : UInt8), (105 : UInt8), (114 : UInt8), (63 : UInt8)])], [cS
 (ByteArray.mk #[(110 : UInt8), (117 : UInt8), (109 : UInt8), (98 : UInt8), (101 : UInt8), (114 : UInt8), (63 : UInt8)])], [cS (ByteArray.mk #[(101 : UInt8), (113 : UInt8), (63 :
 UInt8)])], [cS (ByteArray.mk #[(110 : UInt8), (111 : UInt8), (116 : UInt8)])], [cS (ByteArray.mk #[(100 : UInt8), (105 : UInt8), (115 : UInt8), (112 : UInt8), (108 : UInt8), (97 :
 UInt8), (121 : UInt8)])]]] (AV.sv (SV.one (AC.ref 0)))) (by
  dsimp only [teasy, P_c_sPrimitiveNames]
  with_reducible repeat' (first | apply And.intro | exact zR | (intro; skip))
  all_goals (try simp only [std, inj] at *)
  all_goals with_reducible repeat' apply And.intro
  all_goals (try (first | exact z | grind [snocI, snocS, rowSnoc]))
  all_goals rfl)
abbrev P_c_iPrimitiveNames  : Ct := ⟨62, [], [], [.arr true 1 (primNames.map strC)], .sv (.one (.ref 0))⟩
theorem c_iPrimitiveNames   : P_c_iPrimitiveNames := fnOK Try.call62 Try.func62 (.f [0] [Ob.arr true 1 [[cS (ByteArray.mk #[(43 : UInt8)])], [cS (ByteArray.mk #[(45 : UInt8)])],
 [cS (ByteArray.mk #[(42 : UInt8)])], [cS (ByteArray.mk #[(61 : UInt8)])], [cS (ByteArray.mk #[(60 : UInt8)])], [cS (ByteArray.mk #[(99 : UInt8), (111 : UInt8), (110 : UInt8), (115
 : UInt8)])], [cS (ByteArray.mk #[(99 : UInt8), (97 : UInt8), (114 : UInt8)])], [cS (ByteArray.mk #[(99 : UInt8), (100 : UInt8), (114 : UInt8)])], [cS (ByteArray.mk #[(110 :
 UInt8), (117 : UInt8), (108 : UInt8), (108 : UInt8), (63 : UInt8)])], [cS (ByteArray.mk #[(112 : UInt8), (97 : UInt8), (105 : UInt8), (114 : UInt8), (63 : UInt8)])], [cS
 (ByteArray.mk #[(110 : UInt8), (117 : UInt8), (109 : UInt8), (98 : UInt8), (101 : UInt8), (114 : UInt8), (63 : UInt8)])], [cS (ByteArray.mk #[(101 : UInt8), (113 : UInt8), (63 :
 UInt8)])], [cS (ByteArray.mk #[(110 : UInt8), (111 : UInt8), (116 : UInt8)])], [cS (ByteArray.mk #[(100 : UInt8), (105 : UInt8), (115 : UInt8), (112 : UInt8), (108 : UInt8), (97 :
 UInt8), (121 : UInt8)])]]] (AV.sv (SV.one (AC.ref 0)))) (by
  dsimp only [teasy, P_c_iPrimitiveNames]
  with_reducible repeat' (first | apply And.intro | exact zR | (intro; skip))
  all_goals (try simp only [std, inj] at *)
  all_goals with_reducible repeat' apply And.intro
  all_goals (try (first | exact z | grind [snocI, snocS, rowSnoc]))
  all_goals rfl)
end Go.Proofs.Ytgeegppaaggcjaa
end
section
namespace Go.Proofs.Ytgeegppaaggcjaa
open Go Go.Proofs.Ytgeegppaaggcjaa.Ab
set_option linter.unusedVariables false
set_option linter.unusedSimpArgs false
set_option maxHeartbeats 4000000
def lintC (l : List Int) : List Cell := [.list (l.map intC)]
def lintF (l : List Int) : List Cell := [.list (l.map intC)]
instance : Row (List Int) lintC lintF 1 := ⟨fun _ => rfl, fun _ => rfl⟩
theorem takeI {L : List Int} {k : Nat} (h : k < L.length) : L.take (k + 1) = L.take k ++ [L.getD k 0] := take_get h
theorem takeLs {L : List (List Int)} {k : Nat} (h : k < L.length) : (L.take (k + 1)).flatten = (L.take k).flatten ++ L.getD k [] := by
  rw [take_get h, List.flatten_append]; simp; rfl
theorem okU_flat {L : List (List Int)} {k : Nat} (h : okU L.flatten = true) : okU (L.take k).flatten = true := by
  rw [← List.take_append_drop k L, List.flatten_append] at h; exact okU_left h
theorem okU_part {L : List (List Int)} {k j : Nat} (hk : k < L.length) (h : okU L.flatten = true) : okU ((L.take k).flatten ++ (L.getD k []).take j) = true := by
  have h1 := okU_flat (k := k + 1) h
  rw [takeLs hk] at h1
  have h2 : (L.take k).flatten ++ L.getD k [] = ((L.take k).flatten ++ (L.getD k []).take j) ++ (L.getD k []).drop j := by rw [List.append_assoc, List.take_append_drop]
  rw [h2] at h1; exact okU_left h1
theorem memI_one {S : List Int} {n : Int} : memI S n = 1 ↔ n ∈ S := by simp only [memI]; grind
mutual
def bnd : Core → List Int
  | ⟨_, _, p, _, l⟩ => p ++ bnds l
def bnds : List Core → List Int
  | [] => []
  | x :: r => bnd x ++ bnds r
end
theorem bnds_eq : ∀ l, bnds l = l.flatMap bnd
  | [] => by simp [bnds]
  | x :: r => by rw [bnds, bnds_eq r]; simp
theorem bnd_eq (x : Core) : bnd x = x.params ++ x.kids.flatMap bnd := by cases x; simp only [bnd, bnds_eq]
theorem bnd_le : ∀ c : Core, (bnd c).length ≤ wC c := by
  refine Core.ind fun c ih => ?_
  have h : ∀ L : List Core, (∀ y ∈ L, (bnd y).length ≤ wC y) → (L.flatMap bnd).length ≤ sumBy wC L := by
    intro L
    induction L with
    | nil => intro _; simp
    | cons x r ihr =>
      intro hL
      have h1 := hL x List.mem_cons_self
      have h2 := ihr fun y hy => hL y (List.mem_cons_of_mem _ hy)
      simp only [List.flatMap_cons, List.length_append, sumBy]; omega
  have := h c.kids ih
  rw [bnd_eq, wC_eq, List.length_append]; omega
mutual
def depC : Core → Nat
  | ⟨_, _, _, _, l⟩ => depCs l + 1
def depCs : List Core → Nat
  | [] => 0
  | c :: r => max (depC c) (depCs r)
end
theorem depCs_eq : ∀ l, depCs l = maxBy depC l
  | [] => by simp [depCs, maxBy]
  | c :: r => by rw [depCs, maxBy, depCs_eq r]
theorem depC_eq (c : Core) : depC c = maxBy depC c.kids + 1 := by cases c; simp only [depC, depCs_eq]
mutual
def sizeC : Core → Nat
  | ⟨_, _, _, _, l⟩ => sizeCs l + 1
def sizeCs : List Core → Nat
  | [] => 0
  | c :: r => sizeC c + sizeCs r
end
theorem sizeCs_eq : ∀ l, sizeCs l = sumBy sizeC l
  | [] => by simp [sizeCs, sumBy]
  | c :: r => by rw [sizeCs, sumBy, sizeCs_eq r]
theorem sizeC_eq (c : Core) : sizeC c = sumBy sizeC c.kids + 1 := by cases c; simp only [sizeC, sizeCs_eq]
theorem depC_le : ∀ c : Core, depC c ≤ sizeC c := by
  refine Core.ind fun c ih => ?_
  have := maxBy_sum ih
  rw [sizeC_eq, depC_eq]; omega
def shC (c : Core) : Bool :=
  (decide (c.kind = 1) || decide (c.datum = ⟨0, 0, mkS [], []⟩)) && (decide (c.number = 0) || decide (c.kind = 2 ∨ c.kind = 4) || decide (c.kind = 3)) &&
  (if c.kind = 1 then decide ((c.kids.length : Int) = 0) && decide ((c.params.length : Int) = 0) && isDat c.datum
   else if c.kind = 2 then decide ((c.kids.length : Int) = 0) && decide ((c.params.length : Int) = 0)
   else if c.kind = 3 then decide ((c.kids.length : Int) = 0) && decide ((c.params.length : Int) = 0) && decide (0 ≤ c.number ∧ c.number ≤ 13)
   else if c.kind = 4 then decide ((c.kids.length : Int) = 1) && decide ((c.params.length : Int) = 0)
   else if c.kind = 5 then decide ((c.kids.length : Int) = 1) && decide ((c.params.length : Int) ≤ 8)
   else if c.kind = 6 then decide (1 ≤ (c.kids.length : Int) ∧ (c.kids.length : Int) ≤ 9) && decide ((c.params.length : Int) = 0)
   else if c.kind = 7 then decide ((c.kids.length : Int) = 3) && decide ((c.params.length : Int) = 0)
   else if c.kind = 8 then decide (2 ≤ (c.kids.length : Int) ∧ (c.kids.length : Int) ≤ 60) && decide ((c.params.length : Int) = 0)
   else if c.kind = 9 then decide (1 ≤ (c.kids.length : Int) ∧ (c.kids.length : Int) ≤ 60) && decide (1 ≤ (c.params.length : Int) ∧ (c.params.length : Int) ≤ 60)
   else if c.kind = 10 then decide ((c.kids.length : Int) = 1) && decide ((c.params.length : Int) = 0)
   else if c.kind = 11 then decide ((c.kids.length : Int) = 1) && decide ((c.params.length : Int) = 1)
   else false)
def sqC (c x : Core) : Bool := !(decide (c.kind = 8) && decide (x.kind = 8))
def shI (c : Core) : Bool := shC c && c.kids.all (sqC c)
mutual
def okC : Core → Bool
  | c@⟨_, _, _, _, l⟩ => okCs l && shI c
def okCs : List Core → Bool
  | [] => true
  | c :: r => okC c && okCs r
end
theorem okCs_eq : ∀ l, okCs l = l.all okC
  | [] => by simp [okCs]
  | c :: r => by rw [okCs, okCs_eq r]; rfl
theorem okC_eq (c : Core) : okC c = (c.kids.all okC && shI c) := by cases c; simp only [okC, okCs_eq]
mutual
def meaC : Core → Int → Int → Bool × Int
  | c@⟨_, _, _, _, l⟩, deep, m => if deep ≤ 150 ∧ m + 1 ≤ 3000 ∧ shI c = true then meaCs l (deep + 1) (m + 1) else (false, m + 1)
def meaCs : List Core → Int → Int → Bool × Int
  | [], _, m => (true, m)
  | x :: r, deep, m => if (meaC x deep m).1 then meaCs r deep (meaC x deep m).2 else (false, (meaC x deep m).2)
end
theorem meaCs_eq : ∀ l deep m, meaCs l deep m = scan (fun x m => meaC x deep m) l m
  | [], _, _ => by simp [meaCs, scan]
  | x :: r, deep, m => by simp only [meaCs, scan, meaCs_eq r]
theorem meaC_eq (c : Core) (deep m : Int) : meaC c deep m = if deep ≤ 150 ∧ m + 1 ≤ 3000 ∧ shI c = true then scan (fun x m => meaC x (deep + 1) m) c.kids (m + 1) else (false, m + 1) := by cases c; simp only [meaC, meaCs_eq]
theorem meaC_of : ∀ (c : Core) (deep m : Int), m ≤ 3000 → ((meaC c deep m).1 = true ↔ (m + sizeC c ≤ 3000 ∧ (deep + depC c ≤ 151 ∧ okC c = true))) ∧ ((meaC c deep m).1 = true → (meaC c deep m).2 = m + sizeC c) := by
  refine Core.ind fun c ih deep m hm => ?_
  rw [meaC_eq, sizeC_eq, depC_eq, okC_eq, Bool.and_eq_true, List.all_eq_true]
  by_cases h : deep ≤ 150 ∧ m + 1 ≤ 3000 ∧ shI c = true
  · rw [if_pos h]
    have h1 := scan_of (fun x m => meaC x (deep + 1) m) sizeC (fun x => deep + 1 + depC x ≤ 151 ∧ okC x = true) 3000 c.kids (fun x hx m hm => ih x hx (deep + 1) m hm) (m + 1) h.2.1
    have h2 := maxBy_le depC (m := (150 - deep).toNat) (L := c.kids)
    constructor
    · rw [h1.1]
      constructor
      · rintro ⟨a, b⟩
        have := h2.2 fun x hx => by have := (b x hx).1; omega
        exact ⟨by omega, by omega, fun x hx => (b x hx).2, h.2.2⟩
      · rintro ⟨a, b, d, e⟩
        have := h2.1 (by omega)
        exact ⟨by omega, fun x hx => ⟨by have := this x hx; omega, d x hx⟩⟩
    · intro ht; rw [h1.2 ht]; omega
  · rw [if_neg h]
    refine ⟨⟨fun e => Bool.noConfusion e, ?_⟩, fun e => Bool.noConfusion e⟩
    rintro ⟨a, b, d, e⟩
    exact absurd ⟨by omega, by omega, e⟩ h
def smC (c : Core) : Bool := decide (sizeC c ≤ 3000) && decide (depC c ≤ 150) && okC c
theorem meaC_sm (c : Core) : (meaC c 1 0).1 = smC c := by
  have h := (meaC_of c 1 0 (by decide)).1
  rw [Bool.eq_iff_iff, h]
  simp only [smC, Bool.and_eq_true, decide_eq_true_eq, and_assoc]
  constructor
  · rintro ⟨a, b, e⟩; exact ⟨by omega, by omega, e⟩
  · rintro ⟨a, b, e⟩; exact ⟨by omega, by omega, e⟩
def isCor (c : Core) (G : List Int) : Bool := smC c && okU (G ++ bnd c) && (fre c [] []).all fun n => decide (n ∈ G)
def valC (c : Core) : Bool := smC c && okU (fre c [] [] ++ bnd c)
abbrev P_c_sEqData (a : Datum) (b : Datum) : Ct := ⟨50, [], [datumA a, datumA b], [], .sv (lb (decide (a = b)))⟩
def lc_sEqData_sLa (a : Datum) (b : Datum) : Lp Nat := .mk 53 0 (fun x => [(2, SV.one (AC.ptr 0 0)), (3, SV.one (AC.ptr 1 0)), (36, li (↑(List.map datumC a.items).length : Int)),
 (37, hs x 0)]) (fun x => [Ob.box (vals (datumF a)), Ob.box (vals (datumF b))]) (fun k => [.s (li (↑k : Int))]) (fun k => k ≤ a.items.length ∧ a.items.length ≤ 9223372036854775807
 ∧ a.items.length = b.items.length ∧ List.take k a.items = List.take k b.items) (fun k => a.items.length - k) [.mk (a.items = b.items) (.exit 0) (fun x => []) (fun x => []) [], .mk
 (a.items ≠ b.items) .ret (fun x => [(4, hs x 0)]) (fun x => []) [.s (lb false)]]
theorem Sc_sEqData_sLa (a : Datum) (b : Datum) (ih : ∀ (z : Datum), z ∈ a.items → ∀ (b : Datum), OK (P_c_sEqData z b)) : Lp.Sem Try.prog (loopAt Try.f50 0) (lc_sEqData_sLa a b) :=
 lpOK (fun k => .i ((↑k : Int) < (↑(List.map datumC a.items).length : Int)) (.w (.draw []) (.x (↑k : Int) (List.map datumC a.items) (datumF (a.items.getD k default)) (.x (↑k : Int)
 (List.map datumC b.items) (datumF (b.items.getD k default)) (.d [.rd, .rd] (P_c_sEqData (a.items.getD k default) (b.items.getD k default)) (.b (!decide (a.items.getD k default =
 b.items.getD k default)) (.o 1 [] [.s (lb false)]) (.r ((↑k : Int) + 1) (.g [0, 1] (k + 1) [.s (li ((↑k : Int) + 1))]))))))) (.o 0 [] [])) (by
  intro k h; try dsimp only [teasy, nthW, lc_sEqData_sLa] at h ⊢
  with_reducible repeat' (first | apply And.intro | exact zR | exact ih | (intro; skip) | apply mIc | apply mOc | apply mSc | apply mLc | apply ih)
  all_goals (try simp only [std, inj] at *)
  all_goals with_reducible repeat' apply And.intro
  all_goals (try (first | with_reducible apply ih | (simp only [← List.map_append]; first | with_reducible apply ih)))
  all_goals (try (first | exact z | exact zM | grind [take_eq, getD_mem', snocI, snocS, rowSnoc])))
theorem c_sEqData_s (a b : Datum) (ih : ∀ z ∈ a.items, ∀ (b : Datum), P_c_sEqData z b)  : P_c_sEqData a b := fnOK Try.call50 Try.func50 (.i (a.kind ≠ b.kind) (.y true (.y true (.y
 true (.s (lb false))))) (.i (a.number ≠ b.number) (.y true (.y true (.s (lb false)))) (.i (a.text.data.toList ≠ b.text.data.toList) (.y true (.s (lb false))) (.z datumC a.items
 (.z datumC b.items (.i ((↑(List.map datumC a.items).length : Int) ≠ (↑(List.map datumC b.items).length : Int)) (.s (lb false)) (.z datumC a.items (.l (lc_sEqData_sLa a b)
 (Sc_sEqData_sLa a b ih) [0, 1] [.s (li 0)] 0 (.t (.s (lb true)) (.t (.s (lb false)) .q)))))))))) (by
  dsimp only [teasy, P_c_sEqData, nthW, lc_sEqData_sLa]
  simp only [datumExt]
  with_reducible repeat' (first | apply And.intro | exact zR | exact ih | (intro; skip) | apply mIc | apply mOc | apply mSc | apply mLc)
  all_goals (try simp only [std, inj] at *)
  all_goals with_reducible repeat' apply And.intro
  all_goals (try (first | with_reducible apply ih | (simp only [← List.map_append]; first | with_reducible apply ih)))
  all_goals (try (first | exact z | exact zM | grind [bytes_ext, snocI, snocS, rowSnoc])))
theorem c_sEqData (a : Datum) : ∀ (b : Datum), P_c_sEqData a b := Datum.ind (P := fun a => ∀ (b : Datum), P_c_sEqData a b) (fun a ih b => c_sEqData_s a b ih) a
abbrev P_c_iEqData (a : Datum) (b : Datum) : Ct := ⟨38, [], [datumA a, datumA b], [], .sv (lb (decide (a = b)))⟩
def lc_iEqData_sLa (a : Datum) (b : Datum) : Lp Nat := .mk 53 0 (fun x => [(2, SV.one (AC.ptr 0 0)), (3, SV.one (AC.ptr 1 0)), (36, li (↑(List.map datumC a.items).length : Int)),
 (37, hs x 0)]) (fun x => [Ob.box (vals (datumF a)), Ob.box (vals (datumF b))]) (fun k => [.s (li (↑k : Int))]) (fun k => k ≤ a.items.length ∧ a.items.length ≤ 9223372036854775807
 ∧ a.items.length = b.items.length ∧ List.take k a.items = List.take k b.items) (fun k => a.items.length - k) [.mk (a.items = b.items) (.exit 0) (fun x => []) (fun x => []) [], .mk
 (a.items ≠ b.items) .ret (fun x => [(4, hs x 0)]) (fun x => []) [.s (lb false)]]
theorem Sc_iEqData_sLa (a : Datum) (b : Datum) (ih : ∀ (z : Datum), z ∈ a.items → ∀ (b : Datum), OK (P_c_iEqData z b)) : Lp.Sem Try.prog (loopAt Try.f38 0) (lc_iEqData_sLa a b) :=
 lpOK (fun k => .i ((↑k : Int) < (↑(List.map datumC a.items).length : Int)) (.w (.draw []) (.x (↑k : Int) (List.map datumC a.items) (datumF (a.items.getD k default)) (.x (↑k : Int)
 (List.map datumC b.items) (datumF (b.items.getD k default)) (.d [.rd, .rd] (P_c_iEqData (a.items.getD k default) (b.items.getD k default)) (.b (!decide (a.items.getD k default =
 b.items.getD k default)) (.o 1 [] [.s (lb false)]) (.r ((↑k : Int) + 1) (.g [0, 1] (k + 1) [.s (li ((↑k : Int) + 1))]))))))) (.o 0 [] [])) (by
  intro k h; try dsimp only [teasy, nthW, lc_iEqData_sLa] at h ⊢
  with_reducible repeat' (first | apply And.intro | exact zR | exact ih | (intro; skip) | apply mIc | apply mOc | apply mSc | apply mLc | apply ih)
  all_goals (try simp only [std, inj] at *)
  all_goals with_reducible repeat' apply And.intro
  all_goals (try (first | with_reducible apply ih | (simp only [← List.map_append]; first | with_reducible apply ih)))
  all_goals (try (first | exact z | exact zM | grind [take_eq, getD_mem', snocI, snocS, rowSnoc])))
theorem c_iEqData_s (a b : Datum) (ih : ∀ z ∈ a.items, ∀ (b : Datum), P_c_iEqData z b)  : P_c_iEqData a b := fnOK Try.call38 Try.func38 (.i (a.kind ≠ b.kind) (.y true (.y true (.y
 true (.s (lb false))))) (.i (a.number ≠ b.number) (.y true (.y true (.s (lb false)))) (.i (a.text.data.toList ≠ b.text.data.toList) (.y true (.s (lb false))) (.z datumC a.items
 (.z datumC b.items (.i ((↑(List.map datumC a.items).length : Int) ≠ (↑(List.map datumC b.items).length : Int)) (.s (lb false)) (.z datumC a.items (.l (lc_iEqData_sLa a b)
 (Sc_iEqData_sLa a b ih) [0, 1] [.s (li 0)] 0 (.t (.s (lb true)) (.t (.s (lb false)) .q)))))))))) (by
  dsimp only [teasy, P_c_iEqData, nthW, lc_iEqData_sLa]
  simp only [datumExt]
  with_reducible repeat' (first | apply And.intro | exact zR | exact ih | (intro; skip) | apply mIc | apply mOc | apply mSc | apply mLc)
  all_goals (try simp only [std, inj] at *)
  all_goals with_reducible repeat' apply And.intro
  all_goals (try (first | with_reducible apply ih | (simp only [← List.map_append]; first | with_reducible apply ih)))
  all_goals (try (first | exact z | exact zM | grind [bytes_ext, snocI, snocS, rowSnoc])))
theorem c_iEqData (a : Datum) : ∀ (b : Datum), P_c_iEqData a b := Datum.ind (P := fun a => ∀ (b : Datum), P_c_iEqData a b) (fun a ih b => c_iEqData_s a b ih) a
abbrev P_c_sBound (c : Core) (A : List Int) : Ct := ⟨23, [.arr true 1 (A.map intC)], [coreA c, .one (.ref 0)], [.dead, .arr true 1 ((A ++ bnd c).map intC)], .sv (.one (.ref 1))⟩
def lc_sBound_sLa (c : Core) (A : List Int) : Lp Nat := .mk 23 1 (fun x => [(1, SV.one (AC.ref 1)), (12, ll (List.map coreC c.kids)), (13, li (↑(List.map coreC c.kids).length :
 Int)), (14, hs x 0)]) (fun x => [Ob.dead, ho x 1]) (fun k => [.s (li (↑k : Int)), .o (Ob.arr true 1 (List.map intC (A ++ c.params ++ List.flatMap bnd (List.take k c.kids))))])
 (fun k => k ≤ c.kids.length ∧ c.kids.length ≤ 9223372036854775807) (fun k => c.kids.length - k) [.mk True (.exit 0) (fun x => [(1, SV.one (AC.ref 1))]) (fun x => [Ob.dead, ho x
 0]) [.o (Ob.arr true 1 (List.map intC (A ++ bnd c)))]]
theorem Sc_sBound_sLa (c : Core) (A : List Int) (h : A.length + (bnd c).length ≤ 2147483647) (ih : ∀ (z : Core), z ∈ c.kids → ∀ (A : List Int), A.length + (bnd z).length ≤
 2147483647 → OK (P_c_sBound z A)) : Lp.Sem Try.prog (loopAt Try.f23 0) (lc_sBound_sLa c A) := lpOK (fun k => .i ((↑k : Int) < (↑(List.map coreC c.kids).length : Int)) (.x (↑k :
 Int) (List.map coreC c.kids) (coreF (c.kids.getD k default)) (.d [.rd, .own true 1] (P_c_sBound (c.kids.getD k default) (A ++ c.params ++ List.flatMap bnd (List.take k c.kids)))
 (.r ((↑k : Int) + 1) (.g [0, 4] (k + 1) [.s (li ((↑k : Int) + 1)), .o (Ob.arr true 1 (List.map intC (A ++ c.params ++ List.flatMap bnd (List.take k c.kids) ++ bnd (c.kids.getD k
 default))))])))) (.o 0 [0, 1] [.o (Ob.arr true 1 (List.map intC (A ++ c.params ++ List.flatMap bnd (List.take k c.kids))))])) (by
  intro k h; try dsimp only [teasy, nthW, lc_sBound_sLa] at h ⊢
  have g0 := flat_takeLe bnd c.kids (k + 1)
  with_reducible repeat' (first | apply And.intro | exact zR | exact ih | (intro; skip) | apply mIc | apply mOc | apply mSc | apply mLc | apply ih)
  all_goals (try simp only [std, inj] at *)
  all_goals with_reducible repeat' apply And.intro
  all_goals (try (first | with_reducible apply ih | (simp only [← List.map_append]; first | with_reducible apply ih)))
  all_goals (try (first | exact z | exact zM | grind [flat_take, getD_mem', bnd_eq, snocI, snocS, rowSnoc])))
theorem c_sBound_s (c : Core) (A : List Int) (h : A.length + (bnd c).length ≤ 2147483647) (ih : ∀ z ∈ c.kids, ∀ (A : List Int) (h : A.length + (bnd z).length ≤ 2147483647),
 P_c_sBound z A)  : P_c_sBound c A := fnOK Try.call23 Try.func23 (.p (∀ (e : List Cell), e ∈ List.map intC c.params → ∀ (c : Cell), c ∈ e → ∃ v, c = Cell.lit v) (.p (∀ (e : List
 Cell), e ∈ List.map intC c.params → e.length = 1) (.p (((List.map intC A).length + (List.map intC c.params).length) * 8 ≤ 140737488355328) (.z coreC c.kids (.l (lc_sBound_sLa c A)
 (Sc_sBound_sLa c A h ih) [0, 2] [.s (li 0), .o (Ob.arr true 1 (List.map intC A ++ List.map intC c.params))] 0 (.t (.f [1] [Ob.dead, Ob.arr true 1 (List.map intC (A ++ bnd c))]
 (AV.sv (SV.one (AC.ref 1)))) .q)))))) (by
  dsimp only [teasy, P_c_sBound, nthW, lc_sBound_sLa]
  with_reducible repeat' (first | apply And.intro | exact zR | exact ih | (intro; skip) | apply mIc | apply mOc | apply mSc | apply mLc)
  all_goals (try simp only [std, inj] at *)
  all_goals with_reducible repeat' apply And.intro
  all_goals (try (first | with_reducible apply ih | (simp only [← List.map_append]; first | with_reducible apply ih)))
  all_goals (try (first | exact z | exact zM | grind [bnd_eq, snocI, snocS, rowSnoc])))
theorem c_sBound (c : Core) : ∀ (A : List Int) (h : A.length + (bnd c).length ≤ 2147483647), P_c_sBound c A := Core.ind (P := fun c => ∀ (A : List Int) (h : A.length + (bnd c).length ≤ 2147483647), P_c_sBound c A) (fun c ih A h => c_sBound_s c A h ih) c
abbrev P_c_iBound (c : Core) (A : List Int) : Ct := ⟨49, [.arr true 1 (A.map intC)], [coreA c, .one (.ref 0)], [.dead, .arr true 1 ((A ++ bnd c).map intC)], .sv (.one (.ref 1))⟩
def lc_iBound_sLa (c : Core) (A : List Int) : Lp Nat := .mk 23 1 (fun x => [(1, SV.one (AC.ref 1)), (12, ll (List.map coreC c.kids)), (13, li (↑(List.map coreC c.kids).length :
 Int)), (14, hs x 0)]) (fun x => [Ob.dead, ho x 1]) (fun k => [.s (li (↑k : Int)), .o (Ob.arr true 1 (List.map intC (A ++ c.params ++ List.flatMap bnd (List.take k c.kids))))])
 (fun k => k ≤ c.kids.length ∧ c.kids.length ≤ 9223372036854775807) (fun k => c.kids.length - k) [.mk True (.exit 0) (fun x => [(1, SV.one (AC.ref 1))]) (fun x => [Ob.dead, ho x
 0]) [.o (Ob.arr true 1 (List.map intC (A ++ bnd c)))]]
theorem Sc_iBound_sLa (c : Core) (A : List Int) (h : A.length + (bnd c).length ≤ 2147483647) (ih : ∀ (z : Core), z ∈ c.kids → ∀ (A : List Int), A.length + (bnd z).length ≤
 2147483647 → OK (P_c_iBound z A)) : Lp.Sem Try.prog (loopAt Try.f49 0) (lc_iBound_sLa c A) := lpOK (fun k => .i ((↑k : Int) < (↑(List.map coreC c.kids).length : Int)) (.x (↑k :
 Int) (List.map coreC c.kids) (coreF (c.kids.getD k default)) (.d [.rd, .own true 1] (P_c_iBound (c.kids.getD k default) (A ++ c.params ++ List.flatMap bnd (List.take k c.kids)))
 (.r ((↑k : Int) + 1) (.g [0, 4] (k + 1) [.s (li ((↑k : Int) + 1)), .o (Ob.arr true 1 (List.map intC (A ++ c.params ++ List.flatMap bnd (List.take k c.kids) ++ bnd (c.kids.getD k
 default))))])))) (.o 0 [0, 1] [.o (Ob.arr true 1 (List.map intC (A ++ c.params ++ List.flatMap bnd (List.take k c.kids))))])) (by
  intro k h; try dsimp only [teasy, nthW, lc_iBound_sLa] at h ⊢
  have g0 := flat_takeLe bnd c.kids (k + 1)
  with_reducible repeat' (first | apply And.intro | exact zR | exact ih | (intro; skip) | apply mIc | apply mOc | apply mSc | apply mLc | apply ih)
  all_goals (try simp only [std, inj] at *)
  all_goals with_reducible repeat' apply And.intro
  all_goals (try (first | with_reducible apply ih | (simp only [← List.map_append]; first | with_reducible apply ih)))
  all_goals (try (first | exact z | exact zM | grind [flat_take, getD_mem', bnd_eq, snocI, snocS, rowSnoc])))
theorem c_iBound_s (c : Core) (A : List Int) (h : A.length + (bnd c).length ≤ 2147483647) (ih : ∀ z ∈ c.kids, ∀ (A : List Int) (h : A.length + (bnd z).length ≤ 2147483647),
 P_c_iBound z A)  : P_c_iBound c A := fnOK Try.call49 Try.func49 (.p (∀ (e : List Cell), e ∈ List.map intC c.params → ∀ (c : Cell), c ∈ e → ∃ v, c = Cell.lit v) (.p (∀ (e : List
 Cell), e ∈ List.map intC c.params → e.length = 1) (.p (((List.map intC A).length + (List.map intC c.params).length) * 8 ≤ 140737488355328) (.z coreC c.kids (.l (lc_iBound_sLa c A)
 (Sc_iBound_sLa c A h ih) [0, 2] [.s (li 0), .o (Ob.arr true 1 (List.map intC A ++ List.map intC c.params))] 0 (.t (.f [1] [Ob.dead, Ob.arr true 1 (List.map intC (A ++ bnd c))]
 (AV.sv (SV.one (AC.ref 1)))) .q)))))) (by
  dsimp only [teasy, P_c_iBound, nthW, lc_iBound_sLa]
  with_reducible repeat' (first | apply And.intro | exact zR | exact ih | (intro; skip) | apply mIc | apply mOc | apply mSc | apply mLc)
  all_goals (try simp only [std, inj] at *)
  all_goals with_reducible repeat' apply And.intro
  all_goals (try (first | with_reducible apply ih | (simp only [← List.map_append]; first | with_reducible apply ih)))
  all_goals (try (first | exact z | exact zM | grind [bnd_eq, snocI, snocS, rowSnoc])))
theorem c_iBound (c : Core) : ∀ (A : List Int) (h : A.length + (bnd c).length ≤ 2147483647), P_c_iBound c A := Core.ind (P := fun c => ∀ (A : List Int) (h : A.length + (bnd c).length ≤ 2147483647), P_c_iBound c A) (fun c ih A h => c_iBound_s c A h ih) c
abbrev P_c_iBoundVariables (c : Core) : Ct := ⟨37, [], [coreA c], [.arr true 1 ((bnd c).map intC)], .sv (.one (.ref 0))⟩
theorem c_iBoundVariables (c : Core) (h : (bnd c).length ≤ 2147483647)  : P_c_iBoundVariables c := fnOK Try.call37 Try.func37 (.d [.rd, .own true 1] (P_c_iBound c []) (.f [2]
 [Ob.arr true 1 (List.map intC (bnd c))] (AV.sv (SV.one (AC.ref 0))))) (by
  dsimp only [teasy, P_c_iBoundVariables]
  with_reducible repeat' (first | apply And.intro | exact zR | (intro; skip) | apply mIc | apply mOc | apply mSc | apply mLc | apply c_iBound)
  all_goals (try simp only [std, inj] at *)
  all_goals with_reducible repeat' apply And.intro
  all_goals (try (first | with_reducible apply c_iBound | (simp only [← List.map_append]; first | with_reducible apply c_iBound)))
  all_goals (try (first | exact z | exact zM | grind [snocI, snocS, rowSnoc])))
abbrev P_c_sUniq (L : List Int) : Ct := ⟨21, [], [ll (L.map intC)], [], .sv (lb (okU L))⟩
def lc_sUniqLa (L : List Int) : Lp Nat := .mk 23 0 (fun x => [(0, ll (List.map intC L)), (5, ll (List.map intC L)), (6, li (↑(List.map intC L).length : Int)), (7, hs x 0)]) (fun x
 => []) (fun k => [.s (li (↑k : Int))]) (fun k => k ≤ L.length ∧ L.length ≤ 9223372036854775807 ∧ okU (List.take k L) = true) (fun k => L.length - k) [.mk (okU L = true) (.exit 0)
 (fun x => []) (fun x => []) [], .mk (okU L = false) .ret (fun x => [(2, hs x 0)]) (fun x => []) [.s (lb false)]]
theorem Sc_sUniqLa (L : List Int) : Lp.Sem Try.prog (loopAt Try.f21 0) (lc_sUniqLa L) := lpOK (fun k => .i ((↑k : Int) < (↑(List.map intC L).length : Int)) (.x (↑k : Int) (List.map
 intC L) [cI (L.getD k 0)] (.c [.rd, .rd, .rd] (c_l1In (L.getD k 0) 0 99999) (.b (!decide (0 ≤ L.getD k 0 ∧ L.getD k (0 : Int) ≤ 99999)) (.y true (.o 1 [] [.s (lb false)])) (.p (0
 ≤ (↑k : Int)) (.p (0 ≤ (↑k : Int).toNat ∧ (↑k : Int).toNat ≤ (List.map intC L).length ∧ ∀ (e : List Cell), e ∈ List.map intC L → e.length = 1) (.u [.rd, .rd] (P_c_sHas (List.take
 ((↑k : Int).toNat - 0) (List.drop 0 L)) (L.getD k 0)) (.p (CallOK Try.prog 24 [] [ll (List.take ((↑k : Int).toNat - 0) (List.drop 0 (List.map intC L))), li (L.getD k 0)] [] (AV.sv
 (lb (decide (L.getD k 0 ∈ List.take ((↑k : Int).toNat - 0) (List.drop 0 L)))))) (.i (L.getD k 0 ∈ List.take ((↑k : Int).toNat - 0) (List.drop 0 L)) (.o 1 [] [.s (lb false)]) (.r
 ((↑k : Int) + 1) (.g [] (k + 1) [.s (li ((↑k : Int) + 1))])))))))))) (.o 0 [] [])) (by
  intro k h; try dsimp only [teasy, nthW, lc_sUniqLa] at h ⊢
  have g1 := @okU_snoc (L.take k) (L.getD k default)
  have g2 := @okU_take L (k + 1)
  with_reducible repeat' (first | apply And.intro | exact zR | (intro; skip) | apply mIc | apply mOc | apply mSc | apply mLc | apply c_l1In | apply c_sHas)
  all_goals (try simp only [std, inj] at *)
  all_goals with_reducible repeat' apply And.intro
  all_goals (try (first | with_reducible apply c_l1In | with_reducible apply c_sHas | (simp only [← List.map_append]; first | with_reducible apply c_l1In | with_reducible apply c_sHas)))
  all_goals (try (first | exact z | exact zM | grind [take_get, snocI, snocS, rowSnoc])))
theorem c_sUniq (L : List Int)  : P_c_sUniq L := fnOK Try.call21 Try.func21 (.z intC L (.l (lc_sUniqLa L) (Sc_sUniqLa L) [] [.s (li 0)] 0 (.t (.s (lb true)) (.t (.s (lb false))
 .q)))) (by
  dsimp only [teasy, P_c_sUniq, nthW, lc_sUniqLa]
  with_reducible repeat' (first | apply And.intro | exact zR | (intro; skip) | apply mIc | apply mOc | apply mSc | apply mLc)
  all_goals (try simp only [std, inj] at *)
  all_goals with_reducible repeat' apply And.intro
  all_goals (try (first | exact z | exact zM | grind [okU_nil, snocI, snocS, rowSnoc])))
abbrev P_c_sFewC (c : Core) (l : Int) : Ct := ⟨39, [.box [vI l]], [coreA c, .one (.ptr 0 0)], [.box [vI (max (l - sizeC c) (-1))]], .sv (lb (decide (sizeC c ≤ l)))⟩
def lc_sFewC_sLa (c : Core) (l : Int) : Lp Nat := .mk 36 1 (fun x => [(1, SV.one (AC.ptr 0 0)), (2, SV.one (AC.ptr 1 0)), (5, hs x 0)]) (fun x => [Ob.box [ha x 1], Ob.box (vals
 (coreF c))]) (fun k => [.s (li (↑k : Int)), .a (vI (max (l - 1 - (↑(sumBy sizeC (List.take k c.kids)) : Int)) (-1 : Int)))]) (fun k => c.kids.length ≥ k) (fun k => c.kids.length -
 k) [.mk True (.exit 0) (fun x => [(1, SV.one (AC.ptr 0 0))]) (fun x => [Ob.box [ha x 0]]) [.a (vI (max (l - (↑(sizeC c) : Int)) (-1 : Int)))]]
theorem Sc_sFewC_sLa (c : Core) (l : Int) (h : 0 ≤ l ∧ l ≤ 1000000) (ih : ∀ (z : Core), z ∈ c.kids → ∀ (l : Int), 0 ≤ l ∧ l ≤ 1000000 → OK (P_c_sFewC z l)) : Lp.Sem Try.prog
 (loopAt Try.f39 0) (lc_sFewC_sLa c l) := lpOK (fun k => .z coreC c.kids (.i ((↑k : Int) < (↑(List.map coreC c.kids).length : Int)) (.i (0 ≤ max (l - 1 - (↑(sumBy sizeC (List.take
 k c.kids)) : Int)) (-1 : Int)) (.x (↑k : Int) (List.map coreC c.kids) (coreF (c.kids.getD k default)) (.d [.rd, .ptr] (P_c_sFewC (c.kids.getD k default) (max (l - 1 - (↑(sumBy
 sizeC (List.take k c.kids)) : Int)) (-1 : Int))) (.r ((↑k : Int) + 1) (.g [0, 1] (k + 1) [.s (li ((↑k : Int) + 1)), .a (vI (max (max (l - 1 - (↑(sumBy sizeC (List.take k c.kids))
 : Int)) (-1 : Int) - (↑(sizeC (c.kids.getD k default)) : Int)) (-1 : Int)))])))) (.o 0 [0] [.a (vI (max (l - 1 - (↑(sumBy sizeC (List.take k c.kids)) : Int)) (-1 : Int)))])) (.y
 false (.o 0 [0] [.a (vI (max (l - 1 - (↑(sumBy sizeC (List.take k c.kids)) : Int)) (-1 : Int)))])))) (by
  intro k h; try dsimp only [teasy, nthW, lc_sFewC_sLa] at h ⊢
  have g1 := sizeC_eq c
  have g2 := sumBy_takeLe sizeC c.kids k
  have g3 := @sumBy_step _ _ sizeC c.kids k
  with_reducible repeat' (first | apply And.intro | exact zR | exact ih | (intro; skip) | apply mIc | apply mOc | apply mSc | apply mLc | apply ih)
  all_goals (try simp only [std, inj] at *)
  all_goals with_reducible repeat' apply And.intro
  all_goals (try (first | with_reducible apply ih | (simp only [← List.map_append]; first | with_reducible apply ih)))
  all_goals (try (first | exact z | exact zM | grind [getD_mem', snocI, snocS, rowSnoc])))
theorem c_sFewC_s (c : Core) (l : Int) (h : 0 ≤ l ∧ l ≤ 1000000) (ih : ∀ z ∈ c.kids, ∀ (l : Int) (h : 0 ≤ l ∧ l ≤ 1000000), P_c_sFewC z l)  : P_c_sFewC c l := fnOK Try.call39
 Try.func39 (.r (l - 1) (.l (lc_sFewC_sLa c l) (Sc_sFewC_sLa c l h ih) [0, 1] [.s (li 0), .a (vI (l - 1))] 0 (.t (.f [] [Ob.box [vI (max (l - (↑(sizeC c) : Int)) (-1 : Int))]]
 (AV.sv (lb (decide (0 ≤ max (l - (↑(sizeC c) : Int)) (-1 : Int)))))) .q))) (by
  dsimp only [teasy, P_c_sFewC, nthW, lc_sFewC_sLa]
  have g1 := sizeC_eq c
  have g2 : sumBy sizeC (c.kids.take 0) = 0 := rfl
  with_reducible repeat' (first | apply And.intro | exact zR | exact ih | (intro; skip) | apply mIc | apply mOc | apply mSc | apply mLc)
  all_goals (try simp only [std, inj] at *)
  all_goals with_reducible repeat' apply And.intro
  all_goals (try (first | with_reducible apply ih | (simp only [← List.map_append]; first | with_reducible apply ih)))
  all_goals (try (first | exact z | exact zM | grind [snocI, snocS, rowSnoc])))
theorem c_sFewC (c : Core) : ∀ (l : Int) (h : 0 ≤ l ∧ l ≤ 1000000), P_c_sFewC c l := Core.ind (P := fun c => ∀ (l : Int) (h : 0 ≤ l ∧ l ≤ 1000000), P_c_sFewC c l) (fun c ih l h => c_sFewC_s c l h ih) c
abbrev P_c_sSmall (c : Core) : Ct := ⟨18, [], [coreA c], [], .sv (lb (decide (sizeC c ≤ 3000)))⟩
theorem c_sSmall (c : Core)  : P_c_sSmall c := fnOK Try.call18 Try.func18 (.d [.rd, .ptr] (P_c_sFewC c 3000) (.s (lb (decide ((↑(sizeC c) : Int) ≤ 3000))))) (by
  dsimp only [teasy, P_c_sSmall]
  with_reducible repeat' (first | apply And.intro | exact zR | (intro; skip) | apply mIc | apply mOc | apply mSc | apply mLc | apply c_sFewC)
  all_goals (try simp only [std, inj] at *)
  all_goals with_reducible repeat' apply And.intro
  all_goals (try (first | with_reducible apply c_sFewC | (simp only [← List.map_append]; first | with_reducible apply c_sFewC)))
  all_goals (try (first | exact z | exact zM | grind [snocI, snocS, rowSnoc])))
abbrev P_c_sDepC (c : Core) : Ct := ⟨19, [], [coreA c], [], .sv (li (depC c))⟩
def lc_sDepC_sLa (c : Core) : Lp Nat := .mk 20 0 (fun x => [(3, hs x 1), (7, ll (List.map coreC c.kids)), (8, li (↑(List.map coreC c.kids).length : Int)), (9, hs x 0)]) (fun x =>
 []) (fun k => [.s (li (↑k : Int)), .s (li (↑(maxBy depC (List.take k c.kids)) : Int))]) (fun k => k ≤ c.kids.length ∧ c.kids.length ≤ 9223372036854775807) (fun k => c.kids.length
 - k) [.mk True (.exit 0) (fun x => [(3, hs x 0)]) (fun x => []) [.s (li (↑(maxBy depC c.kids) : Int))]]
theorem Sc_sDepC_sLa (c : Core) (h : sizeC c ≤ 2147483647) (ih : ∀ (z : Core), z ∈ c.kids → sizeC z ≤ 2147483647 → OK (P_c_sDepC z)) : Lp.Sem Try.prog (loopAt Try.f19 0)
 (lc_sDepC_sLa c) := lpOK (fun k => .i ((↑k : Int) < (↑(List.map coreC c.kids).length : Int)) (.x (↑k : Int) (List.map coreC c.kids) (coreF (c.kids.getD k default)) (.d [.rd]
 (P_c_sDepC (c.kids.getD k default)) (.r ((↑k : Int) + 1) (.g [] (k + 1) [.s (li ((↑k : Int) + 1)), .s (li (max (↑(maxBy depC (List.take k c.kids)) : Int) (↑(depC (c.kids.getD k
 default)) : Int)))])))) (.o 0 [] [.s (li (↑(maxBy depC (List.take k c.kids)) : Int))])) (by
  intro k h; try dsimp only [teasy, nthW, lc_sDepC_sLa] at h ⊢
  have g1 := sizeC_eq c
  have g2 := @sumBy_mem _ sizeC c.kids (c.kids.getD k default)
  with_reducible repeat' (first | apply And.intro | exact zR | exact ih | (intro; skip) | apply mIc | apply mOc | apply mSc | apply mLc | apply ih)
  all_goals (try simp only [std, inj] at *)
  all_goals with_reducible repeat' apply And.intro
  all_goals (try (first | with_reducible apply ih | (simp only [← List.map_append]; first | with_reducible apply ih)))
  all_goals (try (first | exact z | exact zM | grind [maxBy_step, getD_mem', snocI, snocS, rowSnoc])))
theorem c_sDepC_s (c : Core) (h : sizeC c ≤ 2147483647) (ih : ∀ z ∈ c.kids, ∀ (h : sizeC z ≤ 2147483647), P_c_sDepC z)  : P_c_sDepC c := fnOK Try.call19 Try.func19 (.z coreC c.kids
 (.l (lc_sDepC_sLa c) (Sc_sDepC_sLa c h ih) [] [.s (li 0), .s (li 0)] 0 (.t (.r ((↑(maxBy depC c.kids) : Int) + 1) (.s (li ((↑(maxBy depC c.kids) : Int) + 1)))) .q))) (by
  dsimp only [teasy, P_c_sDepC, nthW, lc_sDepC_sLa]
  have h1 := depC_le c
  have g2 : maxBy depC (c.kids.take 0) = 0 := rfl
  with_reducible repeat' (first | apply And.intro | exact zR | exact ih | (intro; skip) | apply mIc | apply mOc | apply mSc | apply mLc)
  all_goals (try simp only [std, inj] at *)
  all_goals with_reducible repeat' apply And.intro
  all_goals (try (first | with_reducible apply ih | (simp only [← List.map_append]; first | with_reducible apply ih)))
  all_goals (try (first | exact z | exact zM | grind [depC_eq, snocI, snocS, rowSnoc])))
theorem c_sDepC (c : Core) : ∀ (h : sizeC c ≤ 2147483647), P_c_sDepC c := Core.ind (P := fun c => ∀ (h : sizeC c ≤ 2147483647), P_c_sDepC c) (fun c ih h => c_sDepC_s c h ih) c
abbrev P_c_sShape (c : Core) : Ct := ⟨40, [], [coreA c], [], .sv (lb (shC c))⟩
theorem c_sShape (c : Core)  : P_c_sShape c := fnOK Try.call40 Try.func40 (let v1 := (↑(List.map coreC c.kids).length : Int); let v2 := (↑(List.map intC c.params).length : Int);
 let v3 := (lb (decide (0 ≤ c.number ∧ c.number ≤ 13))); let v4 := (14 ≤ 9223372036854775807); let v5 := (c_l1In c.number 0 13); let v6 := (c.kind = 11); let v14 := (v2 = 0); let
 v7 := (lb (decide v14)); let v8 := (v1 = 1); let v9 := (lb (decide (1 ≤ v2 ∧ v2 ≤ 60))); let v10 := (v1 = 0); let v11 := (2 ≤ v1 ∧ v1 ≤ 60); let v12 := (1 ≤ v1 ∧ v1 ≤ 60); let v13
 := (1 ≤ v1 ∧ v1 ≤ 9); let v15 := (c_l1In v2 1 60); let v16 := (c_l1In v1 2 60); let v17 := (c_l1In v1 1 60); let v18 := (c_l1In v1 1 9); let v19 := (lb (decide (v2 ≤ 8))); let v20
 := (lb (decide (v2 = 1))); let v21 := (c.kind = 10); let v22 := (lb (isDat c.datum)); let v23 := (c_sIsDatum c.datum); let v24 := (c.kind = 9); let v25 := (c.kind = 8); let v26 :=
 (c.kind = 7); let v27 := (c.kind = 6); let v28 := (c.kind = 5); let v29 := (c.kind = 4); let v30 := (c.kind = 3); let v31 := (c.kind = 2); let v32 := (c.kind = 1); .z coreC c.kids
 (.z intC c.params (.i (c.kind ≠ 1) (.c [.rd, .rd] (c_sEqData c.datum (Datum.mk 0 0 (ByteArray.mk #[]) [])) (.b (!decide (c.datum = Datum.mk 0 0 (ByteArray.mk #[]) [])) (.y true
 (.s (lb false))) (.i (c.number ≠ 0) (.c [.rd] (c_l5Names c) (.b (!decide (c.kind = 2 ∨ c.kind = 4)) (.i (c.kind ≠ 3) (.s (lb false)) (.i v32 (.i v10 (.i v14 (.c [.rd] v23 (.s
 v22)) (.s (lb false))) (.y false (.s (lb false)))) (.i v31 (.i v10 (.s v7) (.s (lb false))) (.i v30 (.w (.draw []) (.i v10 (.i v14 (.c [] c_sPrimitiveNames (.r 13 (.c [.rd, .rd,
 .rd] v5 (.h v4 (.s v3))))) (.s (lb false))) (.y false (.s (lb false))))) (.i v29 (.i v8 (.s v7) (.s (lb false))) (.i v28 (.i v8 (.s v19) (.s (lb false))) (.i v27 (.c [.rd, .rd,
 .rd] v18 (.i v13 (.s v7) (.s (lb false)))) (.i v26 (.i (v1 = 3) (.s v7) (.s (lb false))) (.i v25 (.c [.rd, .rd, .rd] v16 (.i v11 (.s v7) (.s (lb false)))) (.i v24 (.c [.rd, .rd,
 .rd] v17 (.i v12 (.c [.rd, .rd, .rd] v15 (.s v9)) (.s (lb false)))) (.i v21 (.i v8 (.s v7) (.s (lb false))) (.i v6 (.i v8 (.s v20) (.s (lb false))) (.s (lb false)))))))))))))) (.y
 false (.i v32 (.i v10 (.i v14 (.c [.rd] v23 (.s v22)) (.s (lb false))) (.y false (.s (lb false)))) (.i v31 (.i v10 (.s v7) (.s (lb false))) (.i v30 (.w (.draw []) (.i v10 (.i v14
 (.c [] c_sPrimitiveNames (.r 13 (.c [.rd, .rd, .rd] v5 (.h v4 (.s v3))))) (.s (lb false))) (.y false (.s (lb false))))) (.i v29 (.i v8 (.s v7) (.s (lb false))) (.i v28 (.i v8 (.s
 v19) (.s (lb false))) (.i v27 (.c [.rd, .rd, .rd] v18 (.i v13 (.s v7) (.s (lb false)))) (.i v26 (.i (v1 = 3) (.s v7) (.s (lb false))) (.i v25 (.c [.rd, .rd, .rd] v16 (.i v11 (.s
 v7) (.s (lb false)))) (.i v24 (.c [.rd, .rd, .rd] v17 (.i v12 (.c [.rd, .rd, .rd] v15 (.s v9)) (.s (lb false)))) (.i v21 (.i v8 (.s v7) (.s (lb false))) (.i v6 (.i v8 (.s v20) (.s
 (lb false))) (.s (lb false)))))))))))))))) (.y false (.y false (.i v32 (.i v10 (.i v14 (.c [.rd] v23 (.s v22)) (.s (lb false))) (.y false (.s (lb false)))) (.i v31 (.i v10 (.s v7)
 (.s (lb false))) (.i v30 (.w (.draw []) (.i v10 (.i v14 (.c [] c_sPrimitiveNames (.r 13 (.c [.rd, .rd, .rd] v5 (.h v4 (.s v3))))) (.s (lb false))) (.y false (.s (lb false))))) (.i
 v29 (.i v8 (.s v7) (.s (lb false))) (.i v28 (.i v8 (.s v19) (.s (lb false))) (.i v27 (.c [.rd, .rd, .rd] v18 (.i v13 (.s v7) (.s (lb false)))) (.i v26 (.i (v1 = 3) (.s v7) (.s (lb
 false))) (.i v25 (.c [.rd, .rd, .rd] v16 (.i v11 (.s v7) (.s (lb false)))) (.i v24 (.c [.rd, .rd, .rd] v17 (.i v12 (.c [.rd, .rd, .rd] v15 (.s v9)) (.s (lb false)))) (.i v21 (.i
 v8 (.s v7) (.s (lb false))) (.i v6 (.i v8 (.s v20) (.s (lb false))) (.s (lb false)))))))))))))))))) (.y false (.i (c.number ≠ 0) (.c [.rd] (c_l5Names c) (.b (!decide (c.kind = 2 ∨
 c.kind = 4)) (.i (c.kind ≠ 3) (.s (lb false)) (.i v32 (.i v10 (.i v14 (.c [.rd] v23 (.s v22)) (.s (lb false))) (.y false (.s (lb false)))) (.i v31 (.i v10 (.s v7) (.s (lb false)))
 (.i v30 (.w (.draw []) (.i v10 (.i v14 (.c [] c_sPrimitiveNames (.r 13 (.c [.rd, .rd, .rd] v5 (.h v4 (.s v3))))) (.s (lb false))) (.y false (.s (lb false))))) (.i v29 (.i v8 (.s
 v7) (.s (lb false))) (.i v28 (.i v8 (.s v19) (.s (lb false))) (.i v27 (.c [.rd, .rd, .rd] v18 (.i v13 (.s v7) (.s (lb false)))) (.i v26 (.i (v1 = 3) (.s v7) (.s (lb false))) (.i
 v25 (.c [.rd, .rd, .rd] v16 (.i v11 (.s v7) (.s (lb false)))) (.i v24 (.c [.rd, .rd, .rd] v17 (.i v12 (.c [.rd, .rd, .rd] v15 (.s v9)) (.s (lb false)))) (.i v21 (.i v8 (.s v7) (.s
 (lb false))) (.i v6 (.i v8 (.s v20) (.s (lb false))) (.s (lb false)))))))))))))) (.y false (.i v32 (.i v10 (.i v14 (.c [.rd] v23 (.s v22)) (.s (lb false))) (.y false (.s (lb
 false)))) (.i v31 (.i v10 (.s v7) (.s (lb false))) (.i v30 (.w (.draw []) (.i v10 (.i v14 (.c [] c_sPrimitiveNames (.r 13 (.c [.rd, .rd, .rd] v5 (.h v4 (.s v3))))) (.s (lb
 false))) (.y false (.s (lb false))))) (.i v29 (.i v8 (.s v7) (.s (lb false))) (.i v28 (.i v8 (.s v19) (.s (lb false))) (.i v27 (.c [.rd, .rd, .rd] v18 (.i v13 (.s v7) (.s (lb
 false)))) (.i v26 (.i (v1 = 3) (.s v7) (.s (lb false))) (.i v25 (.c [.rd, .rd, .rd] v16 (.i v11 (.s v7) (.s (lb false)))) (.i v24 (.c [.rd, .rd, .rd] v17 (.i v12 (.c [.rd, .rd,
 .rd] v15 (.s v9)) (.s (lb false)))) (.i v21 (.i v8 (.s v7) (.s (lb false))) (.i v6 (.i v8 (.s v20) (.s (lb false))) (.s (lb false)))))))))))))))) (.y false (.y false (.i v32 (.i
 v10 (.i v14 (.c [.rd] v23 (.s v22)) (.s (lb false))) (.y false (.s (lb false)))) (.i v31 (.i v10 (.s v7) (.s (lb false))) (.i v30 (.w (.draw []) (.i v10 (.i v14 (.c []
 c_sPrimitiveNames (.r 13 (.c [.rd, .rd, .rd] v5 (.h v4 (.s v3))))) (.s (lb false))) (.y false (.s (lb false))))) (.i v29 (.i v8 (.s v7) (.s (lb false))) (.i v28 (.i v8 (.s v19)
 (.s (lb false))) (.i v27 (.c [.rd, .rd, .rd] v18 (.i v13 (.s v7) (.s (lb false)))) (.i v26 (.i (v1 = 3) (.s v7) (.s (lb false))) (.i v25 (.c [.rd, .rd, .rd] v16 (.i v11 (.s v7)
 (.s (lb false)))) (.i v24 (.c [.rd, .rd, .rd] v17 (.i v12 (.c [.rd, .rd, .rd] v15 (.s v9)) (.s (lb false)))) (.i v21 (.i v8 (.s v7) (.s (lb false))) (.i v6 (.i v8 (.s v20) (.s (lb
 false))) (.s (lb false)))))))))))))))))))) (by
  dsimp only [teasy, P_c_sShape]
  have e : primNames.length = 14 := rfl
  with_reducible repeat' (first | apply And.intro | exact zR | (intro; skip) | apply mIc | apply mOc | apply mSc | apply mLc)
  all_goals (try simp only [std, inj] at *)
  all_goals with_reducible repeat' apply And.intro
  all_goals (try (first | exact z | exact zM | grind [shC, snocI, snocS, rowSnoc])))
abbrev P_c_sNodesC (c : Core) : Ct := ⟨20, [], [coreA c], [], .sv (lb (okC c))⟩
def lc_sNodesC_sLa (c : Core) : Lp Nat := .mk 28 0 (fun x => [(1, SV.one (AC.ptr 0 0)), (6, ll (List.map coreC c.kids)), (7, li (↑(List.map coreC c.kids).length : Int)), (8, hs x
 0)]) (fun x => [Ob.box (vals (coreF c))]) (fun k => [.s (li (↑k : Int))]) (fun k => k ≤ c.kids.length ∧ c.kids.length ≤ 9223372036854775807 ∧ (List.take k c.kids).all okC = true ∧
 (List.take k c.kids).all (sqC c) = true) (fun k => c.kids.length - k) [.mk (c.kids.all okC = true ∧ c.kids.all (sqC c) = true) (.exit 0) (fun x => [(1, SV.one (AC.ptr 0 0))]) (fun
 x => [Ob.box (vals (coreF c))]) [], .mk (¬(c.kids.all okC = true ∧ c.kids.all (sqC c) = true)) .ret (fun x => [(2, hs x 0)]) (fun x => []) [.s (lb false)]]
theorem Sc_sNodesC_sLa (c : Core) (ih : ∀ (z : Core), z ∈ c.kids → OK (P_c_sNodesC z)) : Lp.Sem Try.prog (loopAt Try.f20 0) (lc_sNodesC_sLa c) := lpOK (fun k => .i ((↑k : Int) <
 (↑(List.map coreC c.kids).length : Int)) (.x (↑k : Int) (List.map coreC c.kids) (coreF (c.kids.getD k default)) (.d [.rd] (P_c_sNodesC (c.kids.getD k default)) (.b (!okC
 (c.kids.getD k default)) (.y true (.o 1 [] [.s (lb false)])) (.i (c.kind = 8) (.i ((c.kids.getD k default).kind = 8) (.o 1 [] [.s (lb false)]) (.r ((↑k : Int) + 1) (.g [0] (k + 1)
 [.s (li ((↑k : Int) + 1))]))) (.y false (.r ((↑k : Int) + 1) (.g [0] (k + 1) [.s (li ((↑k : Int) + 1))]))))))) (.o 0 [0] [])) (by
  intro k h; try dsimp only [teasy, nthW, lc_sNodesC_sLa] at h ⊢
  with_reducible repeat' (first | apply And.intro | exact zR | exact ih | (intro; skip) | apply mIc | apply mOc | apply mSc | apply mLc | apply ih)
  all_goals (try simp only [std, inj] at *)
  all_goals with_reducible repeat' apply And.intro
  all_goals (try (first | with_reducible apply ih | (simp only [← List.map_append]; first | with_reducible apply ih)))
  all_goals (try (first | exact z | exact zM | grind [take_get, getD_mem', sqC, snocI, snocS, rowSnoc])))
theorem c_sNodesC_s (c : Core) (ih : ∀ z ∈ c.kids, P_c_sNodesC z)  : P_c_sNodesC c := fnOK Try.call20 Try.func20 (.z coreC c.kids (.l (lc_sNodesC_sLa c) (Sc_sNodesC_sLa c ih) [0]
 [.s (li 0)] 0 (.t (.c [.rd] (c_sShape c) (.s (lb (shC c)))) (.t (.s (lb false)) .q)))) (by
  dsimp only [teasy, P_c_sNodesC, nthW, lc_sNodesC_sLa]
  with_reducible repeat' (first | apply And.intro | exact zR | exact ih | (intro; skip) | apply mIc | apply mOc | apply mSc | apply mLc)
  all_goals (try simp only [std, inj] at *)
  all_goals with_reducible repeat' apply And.intro
  all_goals (try (first | with_reducible apply ih | (simp only [← List.map_append]; first | with_reducible apply ih)))
  all_goals (try (first | exact z | exact zM | grind [okC_eq, shI, snocI, snocS, rowSnoc])))
theorem c_sNodesC (c : Core) : P_c_sNodesC c := Core.ind (P := fun c => P_c_sNodesC c) (fun c ih => c_sNodesC_s c ih) c
abbrev P_c_sIsCore (c : Core) (G : List Int) : Ct := ⟨6, [], [coreA c, ll (G.map intC)], [], .sv (lb (isCor c G))⟩
def lc_sIsCoreLa (c : Core) (G : List Int) : Lp Nat := .mk 41 0 (fun x => [(1, ll (List.map intC G)), (30, SV.one (AC.ref 0)), (31, li (↑(List.map intC (fre c [] [])).length :
 Int)), (32, hs x 0)]) (fun x => [Ob.arr true 1 (List.map intC (fre c [] []))]) (fun k => [.s (li (↑k : Int))]) (fun k => k ≤ (fre c [] []).length ∧ (fre c [] []).length ≤
 9223372036854775807 ∧ ((List.take k (fre c [] [])).all fun n => decide (n ∈ G)) = true) (fun k => (fre c [] []).length - k) [.mk (((fre c [] []).all fun n => decide (n ∈ G)) =
 true) (.exit 0) (fun x => []) (fun x => []) [], .mk (((fre c [] []).all fun n => decide (n ∈ G)) = false) .ret (fun x => [(4, hs x 0)]) (fun x => []) [.s (lb false)]]
theorem Sc_sIsCoreLa (c : Core) (G : List Int) (h : wC c ≤ 100000000 ∧ G.length ≤ 100000000) : Lp.Sem Try.prog (loopAt Try.f6 0) (lc_sIsCoreLa c G) := lpOK (fun k => .i ((↑k : Int)
 < (↑(List.map intC (fre c [] [])).length : Int)) (.p (0 ≤ (↑k : Int) ∧ (↑k : Int).toNat < (List.map intC (fre c [] [])).length) (.w (.cells (intC ((fre c [] []).getD (↑k :
 Int).toNat default))) (.p ((List.map intC (fre c [] []))[(↑k : Int).toNat]? = some [cI ((fre c [] []).getD (↑k : Int).toNat 0)]) (.c [.rd, .rd] (c_sHas G ((fre c [] []).getD (↑k :
 Int).toNat 0)) (.b (!decide ((fre c [] []).getD (↑k : Int).toNat 0 ∈ G)) (.o 1 [] [.s (lb false)]) (.r ((↑k : Int) + 1) (.g [0] (k + 1) [.s (li ((↑k : Int) + 1))]))))))) (.o 0 []
 [])) (by
  intro k h; try dsimp only [teasy, nthW, lc_sIsCoreLa] at h ⊢
  with_reducible repeat' (first | apply And.intro | exact zR | (intro; skip) | apply mIc | apply mOc | apply mSc | apply mLc | apply c_sDepC | apply c_l2Ints | apply c_sBound | apply c_sFree)
  all_goals (try simp only [std, inj] at *)
  all_goals with_reducible repeat' apply And.intro
  all_goals (try (first | with_reducible apply c_sDepC | with_reducible apply c_l2Ints | with_reducible apply c_sBound | with_reducible apply c_sFree | (simp only [← List.map_append]; first | with_reducible apply c_sDepC | with_reducible apply c_l2Ints | with_reducible apply c_sBound | with_reducible apply c_sFree)))
  all_goals (try (first | exact z | exact zM | grind [take_get, snocI, snocS, rowSnoc])))
theorem c_sIsCore (c : Core) (G : List Int) (h : wC c ≤ 100000000 ∧ G.length ≤ 100000000)  : P_c_sIsCore c G := fnOK Try.call6 Try.func6 (.w (.draw [(18, [25, 34])]) (.c [.rd]
 (c_sSmall c) (.b (!decide (sizeC c ≤ 3000)) (.y true (.y true (.y true (.s (lb false))))) (.d [.rd] (P_c_sDepC c) (.i (150 < (↑(depC c) : Int)) (.y true (.y true (.s (lb false))))
 (.c [.rd] (c_sNodesC c) (.b (!okC c) (.y true (.s (lb false))) (.d [.rd] (P_c_l2Ints G) (.d [.rd, .own true 1] (P_c_sBound c []) (.p (((List.map intC G).length + (List.map intC
 (bnd c)).length) * 8 ≤ 140737488355328) (.u [.rd] (P_c_sUniq (G ++ bnd c)) (.p (CallOK Try.prog 21 [] [ll (List.map intC G ++ List.map intC (bnd c))] [] (AV.sv (lb (okU (G ++ bnd
 c))))) (.b (!okU (G ++ bnd c)) (.s (lb false)) (.d [.rd] (P_c_sFree c) (.z intC (fre c [] []) (.l (lc_sIsCoreLa c G) (Sc_sIsCoreLa c G h) [42] [.s (li 0)] 0 (.t (.s (lb true)) (.t
 (.s (lb false)) .q)))))))))))))))))) (by
  dsimp only [teasy, P_c_sIsCore, nthW, lc_sIsCoreLa]
  have g1 := bnd_le c
  have g2 := fre_len c [] []
  with_reducible repeat' (first | apply And.intro | exact zR | (intro; skip) | apply mIc | apply mOc | apply mSc | apply mLc | apply c_sSmall | apply c_sDepC | apply c_sNodesC | apply c_l2Ints | apply c_sBound | apply c_sUniq | apply c_sFree | apply c_sHas)
  all_goals (try simp only [std, inj] at *)
  all_goals with_reducible repeat' apply And.intro
  all_goals (try (first | with_reducible apply c_sSmall | with_reducible apply c_sDepC | with_reducible apply c_sNodesC | with_reducible apply c_l2Ints | with_reducible apply c_sBound | with_reducible apply c_sUniq | with_reducible apply c_sFree | with_reducible apply c_sHas | (simp only [← List.map_append]; first | with_reducible apply c_sSmall | with_reducible apply c_sDepC | with_reducible apply c_sNodesC | with_reducible apply c_l2Ints | with_reducible apply c_sBound | with_reducible apply c_sUniq | with_reducible apply c_sFree | with_reducible apply c_sHas)))
  all_goals (try (first | exact z | exact zM | grind [isCor, smC, snocI, snocS, rowSnoc])))
abbrev P_c_sValid (c : Core) : Ct := ⟨31, [], [coreA c], [], .sv (lb (valC c))⟩
theorem c_sValid (c : Core) (h : wC c ≤ 90000000)  : P_c_sValid c := fnOK Try.call31 Try.func31 (.w (.draw []) (.c [.rd] (c_sSmall c) (.i (sizeC c ≤ 3000) (.d [.rd] (P_c_sFree c)
 (.d [.rd, .rd] (P_c_sIsCore c (fre c [] [])) (.s (lb (isCor c (fre c [] [])))))) (.s (lb false))))) (by
  dsimp only [teasy, P_c_sValid]
  have g2 := fre_len c [] []
  with_reducible repeat' (first | apply And.intro | exact zR | (intro; skip) | apply mIc | apply mOc | apply mSc | apply mLc | apply c_sIsCore | apply c_sFree)
  all_goals (try simp only [std, inj] at *)
  all_goals with_reducible repeat' apply And.intro
  all_goals (try (first | with_reducible apply c_sIsCore | with_reducible apply c_sFree | (simp only [← List.map_append]; first | with_reducible apply c_sIsCore | with_reducible apply c_sFree)))
  all_goals (try (first | exact z | exact zM | grind [isCor, smC, valC, snocI, snocS, rowSnoc])))
abbrev P_c_iShape (c : Core) : Ct := ⟨48, [], [coreA c], [], .sv (lb (shI c))⟩
def lc_iShapeLa (c : Core) : Lp Nat := .mk 175 0 (fun x => [(133, ll (List.map coreC c.kids)), (134, li (↑(List.map coreC c.kids).length : Int)), (135, hs x 0)]) (fun x => []) (fun
 k => [.s (li (↑k : Int))]) (fun k => k ≤ c.kids.length ∧ c.kids.length ≤ 9223372036854775807 ∧ ((List.take k c.kids).all fun x => !decide (x.kind = 8)) = true) (fun k =>
 c.kids.length - k) [.mk ((c.kids.all fun x => !decide (x.kind = 8)) = true) (.exit 1) (fun x => []) (fun x => []) [], .mk ((c.kids.all fun x => !decide (x.kind = 8)) = false) .ret
 (fun x => [(2, hs x 0)]) (fun x => []) [.s (lb false)]]
theorem Sc_iShapeLa (c : Core) : Lp.Sem Try.prog (loopAt Try.f48 0) (lc_iShapeLa c) := lpOK (fun k => .i ((↑k : Int) < (↑(List.map coreC c.kids).length : Int)) (.x (↑k : Int)
 (List.map coreC c.kids) (coreF (c.kids.getD k default)) (.i ((c.kids.getD k default).kind = 8) (.o 1 [] [.s (lb false)]) (.r ((↑k : Int) + 1) (.g [] (k + 1) [.s (li ((↑k : Int) +
 1))])))) (.o 0 [] [])) (by
  intro k h; try dsimp only [teasy, nthW, lc_iShapeLa] at h ⊢
  with_reducible repeat' (first | apply And.intro | exact zR | (intro; skip) | apply mIc | apply mOc | apply mSc | apply mLc)
  all_goals (try simp only [std, inj] at *)
  all_goals with_reducible repeat' apply And.intro
  all_goals (try (first | exact z | exact zM | grind [take_get, snocI, snocS, rowSnoc])))
theorem c_iShape (c : Core)  : P_c_iShape c := fnOK Try.call48 Try.func48 (let v1 := (↑(List.map coreC c.kids).length : Int); let v2 := (↑(List.map intC c.params).length : Int);
 let v3 := (14 ≤ 9223372036854775807); let v4 := (lb (decide (c.number < 14))); let v5 := (0 ≤ c.number); let v6 := (c.kind = 11); let v7 := (lb (decide (v1 = 1))); let v8 := (v2 =
 0); let v9 := (v1 = 0); let v10 := (lb (decide (v1 ≤ 60))); let v11 := (lb (decide (v1 ≤ 9))); let v12 := (lb (decide (v1 = 3))); let v13 := (1 ≤ v1); let v14 := (c.kind = 10);
 let v15 := (lb (isDat c.datum)); let v16 := (c_iIsDatum c.datum); let v17 := (c.kind = 9); let v18 := (c.kind = 8); let v19 := (c.kind = 7); let v20 := (c.kind = 6); let v21 :=
 (c.kind = 5); let v22 := (c.kind = 4); let v23 := (c.kind = 3); let v24 := (c.kind = 2); let v25 := (c.kind = 1); let v26 := (v2 ≤ 60); let v27 := (60 < v1); let v28 := (v2 ≤ 8);
 let v29 := (v2 ≠ 0); let v30 := (v2 = 1); let v31 := (v1 < 2); let v32 := (lb (decide v9)); let v33 := (1 ≤ v2); .w (.draw []) (.z intC c.params (.z coreC c.kids (.i (c.kind ≠ 1)
 (.c [.rd, .rd] (c_iEqData c.datum (Datum.mk 0 0 (ByteArray.mk #[]) [])) (.b (!decide (c.datum = Datum.mk 0 0 (ByteArray.mk #[]) [])) (.s (lb false)) (.i (c.number ≠ 0) (.i (c.kind
 ≠ 2) (.i (c.kind ≠ 3) (.i (c.kind ≠ 4) (.s (lb false)) (.i v25 (.i v8 (.i v9 (.c [.rd] v16 (.s v15)) (.s (lb false))) (.y false (.s (lb false)))) (.i v24 (.i v8 (.s v32) (.s (lb
 false))) (.i v23 (.w (.draw []) (.i v8 (.i v9 (.i v5 (.c [] c_iPrimitiveNames (.h v3 (.s v4))) (.s (lb false))) (.y false (.s (lb false)))) (.y false (.y false (.s (lb false))))))
 (.i v22 (.i v8 (.s v7) (.s (lb false))) (.i v21 (.i v28 (.s v7) (.s (lb false))) (.i v20 (.i v8 (.i v13 (.s v11) (.s (lb false))) (.y false (.s (lb false)))) (.i v19 (.i v8 (.s
 v12) (.s (lb false))) (.i v18 (.i v29 (.y true (.y true (.s (lb false)))) (.i v31 (.y true (.s (lb false))) (.i v27 (.s (lb false)) (.z coreC c.kids (.l (lc_iShapeLa c)
 (Sc_iShapeLa c) [] [.s (li 0)] 0 (.t (.s (lb true)) (.t (.s (lb false)) .q))))))) (.i v17 (.i v33 (.i v26 (.i v13 (.s v10) (.s (lb false))) (.y false (.s (lb false)))) (.y false
 (.y false (.s (lb false))))) (.i v14 (.i v8 (.s v7) (.s (lb false))) (.i v6 (.i v30 (.s v7) (.s (lb false))) (.s (lb false)))))))))))))) (.y false (.i v25 (.i v8 (.i v9 (.c [.rd]
 v16 (.s v15)) (.s (lb false))) (.y false (.s (lb false)))) (.i v24 (.i v8 (.s v32) (.s (lb false))) (.i v23 (.w (.draw []) (.i v8 (.i v9 (.i v5 (.c [] c_iPrimitiveNames (.h v3 (.s
 v4))) (.s (lb false))) (.y false (.s (lb false)))) (.y false (.y false (.s (lb false)))))) (.i v22 (.i v8 (.s v7) (.s (lb false))) (.i v21 (.i v28 (.s v7) (.s (lb false))) (.i v20
 (.i v8 (.i v13 (.s v11) (.s (lb false))) (.y false (.s (lb false)))) (.i v19 (.i v8 (.s v12) (.s (lb false))) (.i v18 (.i v29 (.y true (.y true (.s (lb false)))) (.i v31 (.y true
 (.s (lb false))) (.i v27 (.s (lb false)) (.z coreC c.kids (.l (lc_iShapeLa c) (Sc_iShapeLa c) [] [.s (li 0)] 0 (.t (.s (lb true)) (.t (.s (lb false)) .q))))))) (.i v17 (.i v33 (.i
 v26 (.i v13 (.s v10) (.s (lb false))) (.y false (.s (lb false)))) (.y false (.y false (.s (lb false))))) (.i v14 (.i v8 (.s v7) (.s (lb false))) (.i v6 (.i v30 (.s v7) (.s (lb
 false))) (.s (lb false))))))))))))))) (.y false (.y false (.i v25 (.i v8 (.i v9 (.c [.rd] v16 (.s v15)) (.s (lb false))) (.y false (.s (lb false)))) (.i v24 (.i v8 (.s v32) (.s
 (lb false))) (.i v23 (.w (.draw []) (.i v8 (.i v9 (.i v5 (.c [] c_iPrimitiveNames (.h v3 (.s v4))) (.s (lb false))) (.y false (.s (lb false)))) (.y false (.y false (.s (lb
 false)))))) (.i v22 (.i v8 (.s v7) (.s (lb false))) (.i v21 (.i v28 (.s v7) (.s (lb false))) (.i v20 (.i v8 (.i v13 (.s v11) (.s (lb false))) (.y false (.s (lb false)))) (.i v19
 (.i v8 (.s v12) (.s (lb false))) (.i v18 (.i v29 (.y true (.y true (.s (lb false)))) (.i v31 (.y true (.s (lb false))) (.i v27 (.s (lb false)) (.z coreC c.kids (.l (lc_iShapeLa c)
 (Sc_iShapeLa c) [] [.s (li 0)] 0 (.t (.s (lb true)) (.t (.s (lb false)) .q))))))) (.i v17 (.i v33 (.i v26 (.i v13 (.s v10) (.s (lb false))) (.y false (.s (lb false)))) (.y false
 (.y false (.s (lb false))))) (.i v14 (.i v8 (.s v7) (.s (lb false))) (.i v6 (.i v30 (.s v7) (.s (lb false))) (.s (lb false)))))))))))))))) (.y false (.y false (.y false (.i v25
 (.i v8 (.i v9 (.c [.rd] v16 (.s v15)) (.s (lb false))) (.y false (.s (lb false)))) (.i v24 (.i v8 (.s v32) (.s (lb false))) (.i v23 (.w (.draw []) (.i v8 (.i v9 (.i v5 (.c []
 c_iPrimitiveNames (.h v3 (.s v4))) (.s (lb false))) (.y false (.s (lb false)))) (.y false (.y false (.s (lb false)))))) (.i v22 (.i v8 (.s v7) (.s (lb false))) (.i v21 (.i v28 (.s
 v7) (.s (lb false))) (.i v20 (.i v8 (.i v13 (.s v11) (.s (lb false))) (.y false (.s (lb false)))) (.i v19 (.i v8 (.s v12) (.s (lb false))) (.i v18 (.i v29 (.y true (.y true (.s
 (lb false)))) (.i v31 (.y true (.s (lb false))) (.i v27 (.s (lb false)) (.z coreC c.kids (.l (lc_iShapeLa c) (Sc_iShapeLa c) [] [.s (li 0)] 0 (.t (.s (lb true)) (.t (.s (lb
 false)) .q))))))) (.i v17 (.i v33 (.i v26 (.i v13 (.s v10) (.s (lb false))) (.y false (.s (lb false)))) (.y false (.y false (.s (lb false))))) (.i v14 (.i v8 (.s v7) (.s (lb
 false))) (.i v6 (.i v30 (.s v7) (.s (lb false))) (.s (lb false))))))))))))))))))) (.y false (.i (c.number ≠ 0) (.i (c.kind ≠ 2) (.i (c.kind ≠ 3) (.i (c.kind ≠ 4) (.s (lb false))
 (.i v25 (.i v8 (.i v9 (.c [.rd] v16 (.s v15)) (.s (lb false))) (.y false (.s (lb false)))) (.i v24 (.i v8 (.s v32) (.s (lb false))) (.i v23 (.w (.draw []) (.i v8 (.i v9 (.i v5 (.c
 [] c_iPrimitiveNames (.h v3 (.s v4))) (.s (lb false))) (.y false (.s (lb false)))) (.y false (.y false (.s (lb false)))))) (.i v22 (.i v8 (.s v7) (.s (lb false))) (.i v21 (.i v28
 (.s v7) (.s (lb false))) (.i v20 (.i v8 (.i v13 (.s v11) (.s (lb false))) (.y false (.s (lb false)))) (.i v19 (.i v8 (.s v12) (.s (lb false))) (.i v18 (.i v29 (.y true (.y true
 (.s (lb false)))) (.i v31 (.y true (.s (lb false))) (.i v27 (.s (lb false)) (.z coreC c.kids (.l (lc_iShapeLa c) (Sc_iShapeLa c) [] [.s (li 0)] 0 (.t (.s (lb true)) (.t (.s (lb
 false)) .q))))))) (.i v17 (.i v33 (.i v26 (.i v13 (.s v10) (.s (lb false))) (.y false (.s (lb false)))) (.y false (.y false (.s (lb false))))) (.i v14 (.i v8 (.s v7) (.s (lb
 false))) (.i v6 (.i v30 (.s v7) (.s (lb false))) (.s (lb false)))))))))))))) (.y false (.i v25 (.i v8 (.i v9 (.c [.rd] v16 (.s v15)) (.s (lb false))) (.y false (.s (lb false))))
 (.i v24 (.i v8 (.s v32) (.s (lb false))) (.i v23 (.w (.draw []) (.i v8 (.i v9 (.i v5 (.c [] c_iPrimitiveNames (.h v3 (.s v4))) (.s (lb false))) (.y false (.s (lb false)))) (.y
 false (.y false (.s (lb false)))))) (.i v22 (.i v8 (.s v7) (.s (lb false))) (.i v21 (.i v28 (.s v7) (.s (lb false))) (.i v20 (.i v8 (.i v13 (.s v11) (.s (lb false))) (.y false (.s
 (lb false)))) (.i v19 (.i v8 (.s v12) (.s (lb false))) (.i v18 (.i v29 (.y true (.y true (.s (lb false)))) (.i v31 (.y true (.s (lb false))) (.i v27 (.s (lb false)) (.z coreC
 c.kids (.l (lc_iShapeLa c) (Sc_iShapeLa c) [] [.s (li 0)] 0 (.t (.s (lb true)) (.t (.s (lb false)) .q))))))) (.i v17 (.i v33 (.i v26 (.i v13 (.s v10) (.s (lb false))) (.y false
 (.s (lb false)))) (.y false (.y false (.s (lb false))))) (.i v14 (.i v8 (.s v7) (.s (lb false))) (.i v6 (.i v30 (.s v7) (.s (lb false))) (.s (lb false))))))))))))))) (.y false (.y
 false (.i v25 (.i v8 (.i v9 (.c [.rd] v16 (.s v15)) (.s (lb false))) (.y false (.s (lb false)))) (.i v24 (.i v8 (.s v32) (.s (lb false))) (.i v23 (.w (.draw []) (.i v8 (.i v9 (.i
 v5 (.c [] c_iPrimitiveNames (.h v3 (.s v4))) (.s (lb false))) (.y false (.s (lb false)))) (.y false (.y false (.s (lb false)))))) (.i v22 (.i v8 (.s v7) (.s (lb false))) (.i v21
 (.i v28 (.s v7) (.s (lb false))) (.i v20 (.i v8 (.i v13 (.s v11) (.s (lb false))) (.y false (.s (lb false)))) (.i v19 (.i v8 (.s v12) (.s (lb false))) (.i v18 (.i v29 (.y true (.y
 true (.s (lb false)))) (.i v31 (.y true (.s (lb false))) (.i v27 (.s (lb false)) (.z coreC c.kids (.l (lc_iShapeLa c) (Sc_iShapeLa c) [] [.s (li 0)] 0 (.t (.s (lb true)) (.t (.s
 (lb false)) .q))))))) (.i v17 (.i v33 (.i v26 (.i v13 (.s v10) (.s (lb false))) (.y false (.s (lb false)))) (.y false (.y false (.s (lb false))))) (.i v14 (.i v8 (.s v7) (.s (lb
 false))) (.i v6 (.i v30 (.s v7) (.s (lb false))) (.s (lb false)))))))))))))))) (.y false (.y false (.y false (.i v25 (.i v8 (.i v9 (.c [.rd] v16 (.s v15)) (.s (lb false))) (.y
 false (.s (lb false)))) (.i v24 (.i v8 (.s v32) (.s (lb false))) (.i v23 (.w (.draw []) (.i v8 (.i v9 (.i v5 (.c [] c_iPrimitiveNames (.h v3 (.s v4))) (.s (lb false))) (.y false
 (.s (lb false)))) (.y false (.y false (.s (lb false)))))) (.i v22 (.i v8 (.s v7) (.s (lb false))) (.i v21 (.i v28 (.s v7) (.s (lb false))) (.i v20 (.i v8 (.i v13 (.s v11) (.s (lb
 false))) (.y false (.s (lb false)))) (.i v19 (.i v8 (.s v12) (.s (lb false))) (.i v18 (.i v29 (.y true (.y true (.s (lb false)))) (.i v31 (.y true (.s (lb false))) (.i v27 (.s (lb
 false)) (.z coreC c.kids (.l (lc_iShapeLa c) (Sc_iShapeLa c) [] [.s (li 0)] 0 (.t (.s (lb true)) (.t (.s (lb false)) .q))))))) (.i v17 (.i v33 (.i v26 (.i v13 (.s v10) (.s (lb
 false))) (.y false (.s (lb false)))) (.y false (.y false (.s (lb false))))) (.i v14 (.i v8 (.s v7) (.s (lb false))) (.i v6 (.i v30 (.s v7) (.s (lb false))) (.s (lb
 false)))))))))))))))))))))) (by
  dsimp only [teasy, P_c_iShape, nthW, lc_iShapeLa]
  have e : primNames.length = 14 := rfl
  with_reducible repeat' (first | apply And.intro | exact zR | (intro; skip) | apply mIc | apply mOc | apply mSc | apply mLc)
  all_goals (try simp only [std, inj] at *)
  all_goals with_reducible repeat' apply And.intro
  all_goals (try (first | exact z | exact zM | grind [shC, shI, sqC, snocI, snocS, rowSnoc])))
abbrev P_c_iMeaC (c : Core) (deep : Int) (q : Int) : Ct := ⟨35, [.box [vI q]], [coreA c, li deep, .one (.ptr 0 0)], [.box [vI (meaC c deep q).2]], .sv (lb (meaC c deep q).1)⟩
def lc_iMeaC_sLa (c : Core) (deep : Int) (q : Int) : Lp Nat := .mk 41 1 (fun x => [(1, li deep), (2, SV.one (AC.ptr 0 0)), (28, ll (List.map coreC c.kids)), (29, li (↑(List.map
 coreC c.kids).length : Int)), (30, hs x 0)]) (fun x => [Ob.box [ha x 1]]) (fun k => [.s (li (↑k : Int)), .a (vI (scan (fun x m => meaC x (deep + 1) m) (List.take k c.kids) (q +
 1)).snd)]) (fun k => k ≤ c.kids.length ∧ c.kids.length ≤ 9223372036854775807 ∧ deep ≤ 150 ∧ (scan (fun x m => meaC x (deep + 1) m) (List.take k c.kids) (q + 1)).fst = true ∧ q ≤
 (scan (fun x m => meaC x (deep + 1) m) (List.take k c.kids) (q + 1)).snd ∧ (scan (fun x m => meaC x (deep + 1) m) (List.take k c.kids) (q + 1)).snd ≤ 3000) (fun k => c.kids.length
 - k) [.mk ((scan (fun x m => meaC x (deep + 1) m) c.kids (q + 1)).fst = true) (.exit 0) (fun x => []) (fun x => [Ob.box [ha x 0]]) [.a (vI (scan (fun x m => meaC x (deep + 1) m)
 c.kids (q + 1)).snd)], .mk ((scan (fun x m => meaC x (deep + 1) m) c.kids (q + 1)).fst = false) .ret (fun x => [(6, hs x 0)]) (fun x => [Ob.box [ha x 1]]) [.s (lb false), .a (vI
 (scan (fun x m => meaC x (deep + 1) m) c.kids (q + 1)).snd)]]
theorem Sc_iMeaC_sLa (c : Core) (deep : Int) (q : Int) (h : 0 ≤ deep ∧ deep ≤ 151 ∧ 0 ≤ q ∧ q ≤ 3000) (ih : ∀ (z : Core), z ∈ c.kids → ∀ (deep q : Int), 0 ≤ deep ∧ deep ≤ 151 ∧ 0 ≤
 q ∧ q ≤ 3000 → OK (P_c_iMeaC z deep q)) : Lp.Sem Try.prog (loopAt Try.f35 0) (lc_iMeaC_sLa c deep q) := lpOK (fun k => .i ((↑k : Int) < (↑(List.map coreC c.kids).length : Int))
 (.x (↑k : Int) (List.map coreC c.kids) (coreF (c.kids.getD k default)) (.r (deep + 1) (.d [.rd, .rd, .ptr] (P_c_iMeaC (c.kids.getD k default) (deep + 1) (scan (fun x m => meaC x
 (deep + 1) m) (List.take k c.kids) (q + 1)).snd) (.b (!(meaC (c.kids.getD k default) (deep + 1) (scan (fun x m => meaC x (deep + 1) m) (List.take k c.kids) (q + 1)).snd).fst) (.o
 1 [0] [.s (lb false), .a (vI (meaC (c.kids.getD k default) (deep + 1) (scan (fun x m => meaC x (deep + 1) m) (List.take k c.kids) (q + 1)).snd).snd)]) (.r ((↑k : Int) + 1) (.g [0]
 (k + 1) [.s (li ((↑k : Int) + 1)), .a (vI (meaC (c.kids.getD k default) (deep + 1) (scan (fun x m => meaC x (deep + 1) m) (List.take k c.kids) (q + 1)).snd).snd)])))))) (.o 0 [0]
 [.a (vI (scan (fun x m => meaC x (deep + 1) m) (List.take k c.kids) (q + 1)).snd)])) (by
  intro k h; try dsimp only [teasy, nthW, lc_iMeaC_sLa] at h ⊢
  have g1 := fun x m => meaC_of x (deep + 1) m
  with_reducible repeat' (first | apply And.intro | exact zR | exact ih | (intro; skip) | apply mIc | apply mOc | apply mSc | apply mLc | apply ih)
  all_goals (try simp only [std, inj] at *)
  all_goals with_reducible repeat' apply And.intro
  all_goals (try (first | with_reducible apply ih | (simp only [← List.map_append]; first | with_reducible apply ih)))
  all_goals (try (first | exact z | exact zM | grind [scan_step, scan_stop, getD_mem', snocI, snocS, rowSnoc])))
theorem c_iMeaC_s (c : Core) (deep q : Int) (h : 0 ≤ deep ∧ deep ≤ 151 ∧ 0 ≤ q ∧ q ≤ 3000) (ih : ∀ z ∈ c.kids, ∀ (deep : Int) (q : Int) (h : 0 ≤ deep ∧ deep ≤ 151 ∧ 0 ≤ q ∧ q ≤
 3000), P_c_iMeaC z deep q)  : P_c_iMeaC c deep q := fnOK Try.call35 Try.func35 (.r (q + 1) (.i (150 < deep) (.y true (.y true (.f [] [Ob.box [vI (q + 1)]] (AV.sv (lb false)))))
 (.i (3000 < q + 1) (.y true (.f [] [Ob.box [vI (q + 1)]] (AV.sv (lb false)))) (.c [.rd] (c_iShape c) (.b (!shI c) (.f [] [Ob.box [vI (q + 1)]] (AV.sv (lb false))) (.z coreC c.kids
 (.l (lc_iMeaC_sLa c deep q) (Sc_iMeaC_sLa c deep q h ih) [0] [.s (li 0), .a (vI (q + 1))] 0 (.t (.f [] [Ob.box [vI (scan (fun x m => meaC x (deep + 1) m) c.kids (q + 1)).snd]]
 (AV.sv (lb true))) (.t (.f [] [Ob.box [vI (scan (fun x m => meaC x (deep + 1) m) c.kids (q + 1)).snd]] (AV.sv (lb false))) .q))))))))) (by
  dsimp only [teasy, P_c_iMeaC, nthW, lc_iMeaC_sLa]
  with_reducible repeat' (first | apply And.intro | exact zR | exact ih | (intro; skip) | apply mIc | apply mOc | apply mSc | apply mLc)
  all_goals (try simp only [std, inj] at *)
  all_goals with_reducible repeat' apply And.intro
  all_goals (try (first | with_reducible apply ih | (simp only [← List.map_append]; first | with_reducible apply ih)))
  all_goals (try (first | exact z | exact zM | grind [meaC_eq, scan, snocI, snocS, rowSnoc])))
theorem c_iMeaC (c : Core) : ∀ (deep : Int) (q : Int) (h : 0 ≤ deep ∧ deep ≤ 151 ∧ 0 ≤ q ∧ q ≤ 3000), P_c_iMeaC c deep q := Core.ind (P := fun c => ∀ (deep : Int) (q : Int) (h : 0 ≤ deep ∧ deep ≤ 151 ∧ 0 ≤ q ∧ q ≤ 3000), P_c_iMeaC c deep q) (fun c ih deep q h => c_iMeaC_s c deep q h ih) c
abbrev P_c_iDiff (Ls : List (List Int)) : Ct := ⟨36, [], [ll (Ls.map lintC)], [], .sv (lb (okU Ls.flatten))⟩
def lc_iDiffLb (Ls : List (List Int)) (k : Nat) : Lp Nat := .mk 37 0 (fun x => [(3, SV.one (AC.mref 0)), (9, ll (List.map lintC Ls)), (10, li (↑(List.map lintC Ls).length : Int)),
 (11, li (↑k : Int)), (15, ll (List.map intC (Ls.getD k []))), (16, li (↑(List.map intC (Ls.getD k [])).length : Int)), (17, hs x 0)]) (fun x => [ho x 1]) (fun k1 => [.s (li (↑k1 :
 Int)), .o (Ob.map false kI (mI (memI ((List.take k Ls).flatten ++ List.take k1 (Ls.getD k [])))))]) (fun k1 => k1 ≤ (Ls.getD k []).length ∧ (Ls.getD k []).length ≤
 9223372036854775807 ∧ k < Ls.length ∧ okU ((List.take k Ls).flatten ++ List.take k1 (Ls.getD k [])) = true) (fun k1 => (Ls.getD k []).length - k1) [.mk (okU (List.take (k + 1)
 Ls).flatten = true) (.exit 2) (fun x => [(3, SV.one (AC.mref 0)), (9, ll (List.map lintC Ls)), (10, li (↑(List.map lintC Ls).length : Int)), (11, li (↑k : Int))]) (fun x => [ho x
 0]) [.o (Ob.map false kI (mI (memI (List.take (k + 1) Ls).flatten)))], .mk (okU Ls.flatten = false) .ret (fun x => [(2, hs x 0)]) (fun x => []) [.s (lb false)]]
def lc_iDiffLa (Ls : List (List Int)) : Lp Nat := .mk 37 0 (fun x => [(3, SV.one (AC.mref 0)), (9, ll (List.map lintC Ls)), (10, li (↑(List.map lintC Ls).length : Int)), (11, hs x
 0)]) (fun x => [ho x 1]) (fun k => [.s (li (↑k : Int)), .o (Ob.map false kI (mI (memI (List.take k Ls).flatten)))]) (fun k => k ≤ Ls.length ∧ Ls.length ≤ 9223372036854775807 ∧ okU
 (List.take k Ls).flatten = true) (fun k => Ls.length - k) [.mk (okU Ls.flatten = true) (.exit 0) (fun x => []) (fun x => []) [], .mk (okU Ls.flatten = false) .ret (fun x => [(2,
 hs x 0)]) (fun x => []) [.s (lb false)]]
theorem Sc_iDiffLb (Ls : List (List Int)) (k : Nat) : Lp.Sem Try.prog (loopAt Try.f36 1) (lc_iDiffLb Ls k) := lpOK (fun k1 => .i ((↑k1 : Int) < (↑(List.map intC (Ls.getD k
 [])).length : Int)) (.x (↑k1 : Int) (List.map intC (Ls.getD k [])) [cI ((Ls.getD k []).getD k1 0)] (.i ((Ls.getD k []).getD k1 (0 : Int) < 0) (.y true (.y true (.o 1 [] [.s (lb
 false)]))) (.i (99999 < (Ls.getD k []).getD k1 0) (.y true (.o 1 [] [.s (lb false)])) (.w (.cells [cI (memI ((List.take k Ls).flatten ++ List.take k1 (Ls.getD k [])) ((Ls.getD k
 []).getD k1 0))]) (.p (LookAt (Value.int IntKind.i64 0) (mI (memI ((List.take k Ls).flatten ++ List.take k1 (Ls.getD k [])))) (Value.int IntKind.i64 ((Ls.getD k []).getD k1 0))
 (cI (memI ((List.take k Ls).flatten ++ List.take k1 (Ls.getD k [])) ((Ls.getD k []).getD k1 0)))) (.i (memI ((List.take k Ls).flatten ++ List.take k1 (Ls.getD k [])) ((Ls.getD k
 []).getD k1 0) = 1) (.o 1 [] [.s (lb false)]) (.w (.upd (mI (upd1 (memI ((List.take k Ls).flatten ++ List.take k1 (Ls.getD k []))) ((Ls.getD k []).getD k1 0) 1))) (.p (false =
 false) (.p (UpdF kI.d (mI (memI ((List.take k Ls).flatten ++ List.take k1 (Ls.getD k [])))) (mI (upd1 (memI ((List.take k Ls).flatten ++ List.take k1 (Ls.getD k []))) ((Ls.getD k
 []).getD k1 0) 1)) (Value.int IntKind.i64 ((Ls.getD k []).getD k1 0)) (some (cI 1))) (.r ((↑k1 : Int) + 1) (.g [0] (k1 + 1) [.s (li ((↑k1 : Int) + 1)), .o (Ob.map false kI (mI
 (upd1 (memI ((List.take k Ls).flatten ++ List.take k1 (Ls.getD k []))) ((Ls.getD k []).getD k1 0) 1)))]))))))))))) (.o 0 [0] [.o (Ob.map false kI (mI (memI ((List.take k
 Ls).flatten ++ List.take k1 (Ls.getD k [])))))])) (by
  intro k1 h; try dsimp only [teasy, nthW, lc_iDiffLb] at h ⊢
  have g1 := @okU_part Ls k (k1 + 1)
  have g2 := @takeI (Ls.getD k []) k1
  have g3 := @okU_snoc ((Ls.take k).flatten ++ (Ls.getD k []).take k1) ((Ls.getD k []).getD k1 0)
  have g4 := @memI_one ((Ls.take k).flatten ++ (Ls.getD k []).take k1) ((Ls.getD k []).getD k1 0)
  have g5 : ∀ j, (Ls.getD k []).length ≤ j → (Ls.getD k []).take j = Ls.getD k [] := fun j h => List.take_of_length_le h
  with_reducible repeat' (first | apply And.intro | exact zR | (intro; skip) | apply mIc | apply mOc | apply mSc | apply mLc)
  all_goals (try simp only [std, inj] at *)
  all_goals with_reducible repeat' apply And.intro
  all_goals (try (first | exact z | exact zM | grind [takeLs, memI_snoc, List.append_assoc, snocI, snocS, rowSnoc])))
theorem Sc_iDiffLa (Ls : List (List Int)) : Lp.Sem Try.prog (loopAt Try.f36 0) (lc_iDiffLa Ls) := lpOK (fun k => .i ((↑k : Int) < (↑(List.map lintC Ls).length : Int)) (.x (↑k :
 Int) (List.map lintC Ls) [Cell.list (List.map intC (Ls.getD k []))] (.z intC (Ls.getD k []) (.l (lc_iDiffLb Ls k) (Sc_iDiffLb Ls k) [0] [.s (li 0), .o (Ob.map false kI (mI (memI
 (List.take k Ls).flatten)))] 0 (.t (.r ((↑k : Int) + 1) (.g [0] (k + 1) [.s (li ((↑k : Int) + 1)), .o (Ob.map false kI (mI (memI (List.take (k + 1) Ls).flatten)))])) (.t (.o 1 []
 [.s (lb false)]) .q))))) (.o 0 [] [])) (by
  intro k h; try dsimp only [teasy, nthW, lc_iDiffLa, lc_iDiffLb] at h ⊢
  with_reducible repeat' (first | apply And.intro | exact zR | (intro; skip) | apply mIc | apply mOc | apply mSc | apply mLc)
  all_goals (try simp only [std, inj] at *)
  all_goals with_reducible repeat' apply And.intro
  all_goals (try (first | exact z | exact zM | grind [takeLs, snocI, snocS, rowSnoc])))
theorem c_iDiff (Ls : List (List Int))  : P_c_iDiff Ls := fnOK Try.call36 Try.func36 (.w (.mkmap kI) (.z lintC Ls (.l (lc_iDiffLa Ls) (Sc_iDiffLa Ls) [0] [.s (li 0), .o (Ob.map
 false kI (mI zI))] 0 (.t (.s (lb true)) (.t (.s (lb false)) .q))))) (by
  dsimp only [teasy, P_c_iDiff, nthW, lc_iDiffLa]
  with_reducible repeat' (first | apply And.intro | exact zR | (intro; skip) | apply mIc | apply mOc | apply mSc | apply mLc)
  all_goals (try simp only [std, inj] at *)
  all_goals with_reducible repeat' apply And.intro
  all_goals (try (first | exact z | exact zM | grind [memI_nil, okU_nil, snocI, snocS, rowSnoc])))
abbrev P_c_iValid (c : Core) : Ct := ⟨16, [], [coreA c], [], .sv (lb (valC c))⟩
theorem c_iValid (c : Core) (h : wC c ≤ 90000000)  : P_c_iValid c := fnOK Try.call16 Try.func16 (.w (.draw [(1, [1]), (7, [10, 18])]) (.d [.rd, .rd, .ptr] (P_c_iMeaC c 1 0) (.b
 (meaC c 1 0).fst (.d [.rd] (P_c_iFree c) (.d [.rd] (P_c_iBoundVariables c) (.c [.rd] (c_iDiff [fre c [] [], bnd c]) (.s (lb (okU [fre c [] [], bnd c].flatten)))))) (.s (lb
 false))))) (by
  dsimp only [teasy, P_c_iValid]
  have g1 := bnd_le c
  have g2 := fre_len c [] []
  with_reducible repeat' (first | apply And.intro | exact zR | (intro; skip) | apply mIc | apply mOc | apply mSc | apply mLc | apply c_iMeaC | apply c_iBoundVariables | apply c_iFree)
  all_goals (try simp only [std, inj] at *)
  all_goals with_reducible repeat' apply And.intro
  all_goals (try (first | with_reducible apply c_iMeaC | with_reducible apply c_iBoundVariables | with_reducible apply c_iFree | (simp only [← List.map_append]; first | with_reducible apply c_iMeaC | with_reducible apply c_iBoundVariables | with_reducible apply c_iFree)))
  all_goals (try (first | exact z | exact zM | grind [valC, meaC_sm, snocI, snocS, rowSnoc])))
def fitU (u : Unit) (G : List Int) : Bool := isNam u.name && okU (G ++ u.globals) && isCor u.body (G ++ u.globals)
end Go.Proofs.Ytgeegppaaggcjaa
end
section
namespace Go.Proofs.Ytgeegppaaggcjaa
open Go Go.Proofs.Ytgeegppaaggcjaa.Ab
set_option linter.unusedVariables false
set_option linter.unusedSimpArgs false
set_option maxHeartbeats 4000000
abbrev globals (L : List Unit) : List Int := L.flatMap Unit.globals
end Go.Proofs.Ytgeegppaaggcjaa
end
section
namespace Go.Proofs.Ytgeegppaaggcjaa
open Go Go.Proofs.Ytgeegppaaggcjaa.Ab
set_option linter.unusedVariables false
set_option linter.unusedSimpArgs false
def namesU (L : List Unit) : List ByteArray := L.map Unit.name
def prt (u : Unit) : Nat := if u.body.kind = 8 then u.body.kids.length else 1
def uOK (L : List Unit) (k : Nat) : Bool := !inS (namesU (L.take k)) (L.getD k default).name && fitU (L.getD k default) (globals (L.take k)) && decide (depC (L.getD k default).body < 150)
def okT (L : List Unit) (k : Nat) : Bool := (List.range k).all (uOK L)
def apart (L : List Unit) : List Int := L.flatMap fun u => u.globals ++ bnd u.body
def szU (u : Unit) : Nat := sizeC u.body
def areU (L : List Unit) : Bool := okT L L.length && decide (L.length ≤ 12) && decide ((globals L).length ≤ 60) && decide (sumBy szU L + 1 ≤ 3000) && decide (sumBy prt L ≤ 60) && okU (apart L)
abbrev d0 : Datum := ⟨0, 0, mkS [], []⟩
def partC (x : Core) : List Core := if x.kind = 8 then x.kids else [x]
def flatC (K : List Core) : List Core := K.flatMap partC
def flat1 (K : List Core) : Core := if (flatC K).length = 1 then (flatC K).getD 0 default else ⟨8, 0, [], d0, flatC K⟩
theorem sizeC_wC (c : Core) : sizeC c ≤ wC c + 1 := by
  refine Core.ind (P := fun c => sizeC c ≤ wC c + 1) (fun c ih => ?_) c
  have : ∀ L : List Core, (∀ x ∈ L, sizeC x ≤ wC x + 1) → sumBy sizeC L ≤ L.length + sumBy wC L := by
    intro L
    induction L with
    | nil => intro _; simp [sumBy]
    | cons x r ihr =>
      intro h
      have h1 := h x List.mem_cons_self
      have h2 := ihr fun y hy => h y (List.mem_cons_of_mem _ hy)
      simp only [sumBy, List.length_cons]; omega
  have h1 := this c.kids ih
  have h2 := wC_eq c
  rw [sizeC_eq]; omega
theorem flatC_step {K : List Core} {k : Nat} (hk : k < K.length) : flatC (K.take (k + 1)) = flatC (K.take k) ++ partC (K.getD k default) := flat_take partC hk
theorem part_w (x : Core) : (partC x).length + sumBy wC (partC x) ≤ wC x + 1 := by
  have h := wC_eq x
  unfold partC; split
  · omega
  · simp [sumBy]; omega
theorem flat_w : ∀ K : List Core, (flatC K).length + sumBy wC (flatC K) ≤ sumBy wC K + K.length
  | [] => by simp [flatC, sumBy]
  | x :: r => by
    have e : flatC (x :: r) = partC x ++ flatC r := by simp [flatC]
    have h1 := part_w x
    have h2 := flat_w r
    rw [e, List.length_append, sumBy_append]; simp only [sumBy, List.length_cons]; omega
theorem flatC_takeLe (K : List Core) (k : Nat) : (flatC (K.take k)).length ≤ (flatC K).length := flat_takeLe partC K k
abbrev coreX (x : Core) : List Cell := [cI x.kind, cI x.number, .any, cI x.datum.kind, cI x.datum.number, cS x.datum.text, .any, .any]
abbrev outC (K : List Core) (u : Nat) : List (List Cell) := (K.take u).map coreX ++ (K.drop u).map coreC
theorem outC_zero (K : List Core) : outC K 0 = K.map coreC := by simp [outC]
theorem outC_len (K : List Core) (u : Nat) : (outC K u).length = K.length := by simp [outC, List.length_take, List.length_drop]; omega
theorem outC_get {K : List Core} {u : Nat} (h : u < K.length) : (outC K u)[u]? = some (coreC (K.getD u default)) := by
  simp [outC, List.getD_eq_getElem?_getD, List.getElem?_append, List.length_take, List.getElem?_drop, h, Nat.min_eq_left (Nat.le_of_lt h)]
theorem outC_step {K : List Core} {u : Nat} (h : u < K.length) : (outC K u).set u (coreX (K.getD u default)) = outC K (u + 1) := by
  apply List.ext_getElem?
  intro j
  simp only [outC, List.getElem?_set, List.getElem?_append, List.length_map, List.length_take, List.length_append, List.length_drop, List.getElem?_map, List.getElem?_take, List.getElem?_drop, List.getD_eq_getElem?_getD, Nat.min_eq_left (Nat.le_of_lt h), Nat.min_eq_left (show u + 1 ≤ K.length from h)]
  by_cases h1 : u = j
  · subst h1; simp [h]; omega
  · rw [if_neg h1]
    by_cases h2 : j < u
    · rw [if_pos h2, if_pos h2, if_pos (by omega), if_pos (by omega)]
    · rw [if_neg h2, if_neg (by omega)]; congr 2; omega
theorem flat0 (K : List Core) : flatC (K.take 0) = [] := rfl
theorem outC_getF {K : List Core} {u : Nat} (h : u < K.length) : ((K.take u).map coreX ++ (K.drop u).map coreC)[u]? = some (coreF (K.getD u default)) := by
  rw [← Row.eq (C := coreC) (F := coreF)]; exact outC_get h
attribute [irreducible] areU
end Go.Proofs.Ytgeegppaaggcjaa
end
section
namespace Go.Proofs.Ytgeegppaaggcjaa
open Go Go.Proofs.Ytgeegppaaggcjaa.Ab
set_option linter.unusedVariables false
structure Mk where
  c : Cr
  n : Int
def mkO (m : Mk) : List Ob := [.box [.ptr 1 0, vI m.n], crO m.c]
def frs (n : Int) : Nat → List Int
  | 0 => []
  | q + 1 => frs n q ++ [n + (q : Nat) + 1]
theorem frs_len (n : Int) : ∀ q, (frs n q).length = q
  | 0 => rfl
  | q + 1 => by simp [frs, frs_len n q]
def kN (k : Int) (n : Int) (P : List Int) (K : List Core) : Core := ⟨k, n, P, nilD, K⟩
def leafD (m : Mk) (S : List Int) : Core × Mk :=
  if (beX m.c 6 = 0 ∨ beX m.c 6 = 1 ∨ beX m.c 6 = 2) ∧ 0 < (S.length : Int) then (kN 2 (S.getD (beX (beC m.c 6) (S.length : Int)).toNat default) [] [], ⟨beC (beC m.c 6) (S.length : Int), m.n⟩)
  else if beX m.c 6 = 3 then (kN 3 (beX (beC m.c 6) 14) [] [], ⟨beC (beC m.c 6) 14, m.n⟩)
  else (⟨1, 0, [], (drwH 2 (beC m.c 6)).1, []⟩, ⟨(drwH 2 (beC m.c 6)).2, m.n⟩)
def leafH (m : Mk) (S : List Int) : Core × Mk := held (leafD m S)
theorem leaf_v {m : Mk} {S : List Int} (h : beX m.c 6 = 0 ∨ beX m.c 6 = 1 ∨ beX m.c 6 = 2) (h1 : 0 < (S.length : Int)) : leafH m S = (kN 2 (S.getD (beX (beC m.c 6) (S.length : Int)).toNat default) [] [], ⟨beC (beC m.c 6) (S.length : Int), m.n⟩) := by
  unfold leafH; rw [held_eq]; exact if_pos ⟨h, h1⟩
theorem leaf_p {m : Mk} {S : List Int} (h : beX m.c 6 = 3) : leafH m S = (kN 3 (beX (beC m.c 6) 14) [] [], ⟨beC (beC m.c 6) 14, m.n⟩) := by
  unfold leafH; rw [held_eq]; unfold leafD; rw [if_neg (by omega), if_pos h]
theorem leaf_q {m : Mk} {S : List Int} (h : ¬ ((beX m.c 6 = 0 ∨ beX m.c 6 = 1 ∨ beX m.c 6 = 2) ∧ 0 < (S.length : Int))) (h1 : ¬ beX m.c 6 = 3) : leafH m S = (⟨1, 0, [], (drwH 2 (beC m.c 6)).1, []⟩, ⟨(drwH 2 (beC m.c 6)).2, m.n⟩) := by
  unfold leafH; rw [held_eq]; unfold leafD; rw [if_neg h, if_neg h1]
def corN (K : List Int → Nat → Mk → List Core × Mk) (m : Mk) (S : List Int) : Core × Mk :=
  if beX m.c 12 = 0 ∨ beX m.c 12 = 1 then
    (kN 5 0 (frs m.n (beX (beC m.c 12) 3).toNat) (K (S ++ frs m.n (beX (beC m.c 12) 3).toNat) 1 ⟨beC (beC m.c 12) 3, m.n + beX (beC m.c 12) 3⟩).1, (K (S ++ frs m.n (beX (beC m.c 12) 3).toNat) 1 ⟨beC (beC m.c 12) 3, m.n + beX (beC m.c 12) 3⟩).2)
  else if beX m.c 12 = 2 ∨ beX m.c 12 = 3 then
    (kN 6 0 [] ([kN 5 0 [m.n + 1] (K (S ++ [m.n + 1]) 1 ⟨beC m.c 12, m.n + 1⟩).1] ++ (K S 1 (K (S ++ [m.n + 1]) 1 ⟨beC m.c 12, m.n + 1⟩).2).1), (K S 1 (K (S ++ [m.n + 1]) 1 ⟨beC m.c 12, m.n + 1⟩).2).2)
  else if beX m.c 12 = 4 ∨ beX m.c 12 = 5 then
    (kN 6 0 [] ([kN 3 (beX (beC m.c 12) 14) [] []] ++ (K S (1 + beX (beC (beC m.c 12) 14) 2).toNat ⟨beC (beC (beC m.c 12) 14) 2, m.n⟩).1), (K S (1 + beX (beC (beC m.c 12) 14) 2).toNat ⟨beC (beC (beC m.c 12) 14) 2, m.n⟩).2)
  else if beX m.c 12 = 6 then (kN 7 0 [] (K S 3 ⟨beC m.c 12, m.n⟩).1, (K S 3 ⟨beC m.c 12, m.n⟩).2)
  else if beX m.c 12 = 7 then (flat1 (K S 2 ⟨beC m.c 12, m.n⟩).1, (K S 2 ⟨beC m.c 12, m.n⟩).2)
  else if beX m.c 12 = 8 then
    (kN 9 0 [m.n + 1] ([kN 4 (m.n + 1) [] (K (S ++ [m.n + 1]) 1 ⟨beC m.c 12, m.n + 1⟩).1] ++ (K (S ++ [m.n + 1]) 1 (K (S ++ [m.n + 1]) 1 ⟨beC m.c 12, m.n + 1⟩).2).1), (K (S ++ [m.n + 1]) 1 (K (S ++ [m.n + 1]) 1 ⟨beC m.c 12, m.n + 1⟩).2).2)
  else if beX m.c 12 = 9 then (kN 10 0 [] (K S 1 ⟨beC m.c 12, m.n⟩).1, (K S 1 ⟨beC m.c 12, m.n⟩).2)
  else if beX m.c 12 = 10 then (kN 11 0 [m.n + 1] (K (S ++ [m.n + 1]) 1 ⟨beC m.c 12, m.n + 1⟩).1, (K (S ++ [m.n + 1]) 1 ⟨beC m.c 12, m.n + 1⟩).2)
  else if 0 < (S.length : Int) then
    (kN 4 (S.getD (beX (beC m.c 12) (S.length : Int)).toNat default) [] (K S 1 ⟨beC (beC m.c 12) (S.length : Int), m.n⟩).1, (K S 1 ⟨beC (beC m.c 12) (S.length : Int), m.n⟩).2)
  else leafH ⟨beC m.c 12, m.n⟩ S
def kidD (f : Mk → List Int → Core × Mk) (S : List Int) (n : Nat) (m : Mk) : List Core × Mk := many (fun x => f x S) n m
def corD : Nat → Mk → List Int → Core × Mk
  | 0 => leafH
  | d + 1 => corN (kidD (corD d))
def corH (d : Int) (m : Mk) (S : List Int) : Core × Mk := held (corD d.toNat m S)
theorem corH_eq (d : Int) (m : Mk) (S : List Int) : corH d m S = corD d.toNat m S := held_eq _
def kidH (d : Int) (S : List Int) (n : Nat) (m : Mk) : List Core × Mk := held (kidD (corH d) S n m)
theorem kidH_eq (d : Int) (S : List Int) (n : Nat) (m : Mk) : kidH d S n m = kidD (corH d) S n m := held_eq _
theorem kidH_zero (d : Int) (S : List Int) (m : Mk) : kidH d S 0 m = ([], m) := by rw [kidH_eq]; rfl
theorem kidH_succ (d : Int) (S : List Int) (n : Nat) (m : Mk) : kidH d S (n + 1) m = ((kidH d S n m).1 ++ [(corH d (kidH d S n m).2 S).1], (corH d (kidH d S n m).2 S).2) := by rw [kidH_eq, kidH_eq]; rfl
theorem corH_leaf {d : Int} (h : d ≤ 0) (m : Mk) (S : List Int) : corH d m S = leafH m S := by
  rw [corH_eq]; have : d.toNat = 0 := by omega
  rw [this]; rfl
theorem corH_node {d : Int} (h : ¬ d ≤ 0) (m : Mk) (S : List Int) : corH d m S = corN (kidH (d - 1)) m S := by
  have hf : corH (d - 1) = corD (d - 1).toNat := funext fun m => funext fun S => corH_eq _ _ _
  have hk : kidH (d - 1) = kidD (corD (d - 1).toNat) := funext fun S => funext fun n => funext fun m => by rw [kidH_eq, hf]
  rw [corH_eq, hk]
  have e : d.toNat = (d - 1).toNat + 1 := by omega
  rw [e]; rfl
section
variable {d : Int} {m : Mk} {S : List Int} (h : ¬ d ≤ 0)
include h
theorem cor_0 (k : beX m.c 12 = 0 ∨ beX m.c 12 = 1) : corH d m S = (kN 5 0 (frs m.n (beX (beC m.c 12) 3).toNat) (kidH (d - 1) (S ++ frs m.n (beX (beC m.c 12) 3).toNat) 1 ⟨beC (beC m.c 12) 3, m.n + beX (beC m.c 12) 3⟩).1, (kidH (d - 1) (S ++ frs m.n (beX (beC m.c 12) 3).toNat) 1 ⟨beC (beC m.c 12) 3, m.n + beX (beC m.c 12) 3⟩).2) := by
  rw [corH_node h]; exact if_pos k
theorem cor_2 (k : beX m.c 12 = 2 ∨ beX m.c 12 = 3) : corH d m S = (kN 6 0 [] ([kN 5 0 [m.n + 1] (kidH (d - 1) (S ++ [m.n + 1]) 1 ⟨beC m.c 12, m.n + 1⟩).1] ++ (kidH (d - 1) S 1 (kidH (d - 1) (S ++ [m.n + 1]) 1 ⟨beC m.c 12, m.n + 1⟩).2).1), (kidH (d - 1) S 1 (kidH (d - 1) (S ++ [m.n + 1]) 1 ⟨beC m.c 12, m.n + 1⟩).2).2) := by
  rw [corH_node h]; unfold corN; rw [if_neg (by omega), if_pos k]
theorem cor_4 (k : beX m.c 12 = 4 ∨ beX m.c 12 = 5) : corH d m S = (kN 6 0 [] ([kN 3 (beX (beC m.c 12) 14) [] []] ++ (kidH (d - 1) S (1 + beX (beC (beC m.c 12) 14) 2).toNat ⟨beC (beC (beC m.c 12) 14) 2, m.n⟩).1), (kidH (d - 1) S (1 + beX (beC (beC m.c 12) 14) 2).toNat ⟨beC (beC (beC m.c 12) 14) 2, m.n⟩).2) := by
  rw [corH_node h]; unfold corN; rw [if_neg (by omega), if_neg (by omega), if_pos k]
theorem cor_6 (k : beX m.c 12 = 6) : corH d m S = (kN 7 0 [] (kidH (d - 1) S 3 ⟨beC m.c 12, m.n⟩).1, (kidH (d - 1) S 3 ⟨beC m.c 12, m.n⟩).2) := by
  rw [corH_node h]; unfold corN; rw [if_neg (by omega), if_neg (by omega), if_neg (by omega), if_pos k]
theorem cor_7 (k : beX m.c 12 = 7) : corH d m S = (flat1 (kidH (d - 1) S 2 ⟨beC m.c 12, m.n⟩).1, (kidH (d - 1) S 2 ⟨beC m.c 12, m.n⟩).2) := by
  rw [corH_node h]; unfold corN; rw [if_neg (by omega), if_neg (by omega), if_neg (by omega), if_neg (by omega), if_pos k]
theorem cor_8 (k : beX m.c 12 = 8) : corH d m S = (kN 9 0 [m.n + 1] ([kN 4 (m.n + 1) [] (kidH (d - 1) (S ++ [m.n + 1]) 1 ⟨beC m.c 12, m.n + 1⟩).1] ++ (kidH (d - 1) (S ++ [m.n + 1]) 1 (kidH (d - 1) (S ++ [m.n + 1]) 1 ⟨beC m.c 12, m.n + 1⟩).2).1), (kidH (d - 1) (S ++ [m.n + 1]) 1 (kidH (d - 1) (S ++ [m.n + 1]) 1 ⟨beC m.c 12, m.n + 1⟩).2).2) := by
  rw [corH_node h]; unfold corN; rw [if_neg (by omega), if_neg (by omega), if_neg (by omega), if_neg (by omega), if_neg (by omega), if_pos k]
theorem cor_9 (k : beX m.c 12 = 9) : corH d m S = (kN 10 0 [] (kidH (d - 1) S 1 ⟨beC m.c 12, m.n⟩).1, (kidH (d - 1) S 1 ⟨beC m.c 12, m.n⟩).2) := by
  rw [corH_node h]; unfold corN; rw [if_neg (by omega), if_neg (by omega), if_neg (by omega), if_neg (by omega), if_neg (by omega), if_neg (by omega), if_pos k]
theorem cor_10 (k : beX m.c 12 = 10) : corH d m S = (kN 11 0 [m.n + 1] (kidH (d - 1) (S ++ [m.n + 1]) 1 ⟨beC m.c 12, m.n + 1⟩).1, (kidH (d - 1) (S ++ [m.n + 1]) 1 ⟨beC m.c 12, m.n + 1⟩).2) := by
  rw [corH_node h]; unfold corN; rw [if_neg (by omega), if_neg (by omega), if_neg (by omega), if_neg (by omega), if_neg (by omega), if_neg (by omega), if_neg (by omega), if_pos k]
theorem cor_11 (k : 10 < beX m.c 12) (s : 0 < (S.length : Int)) : corH d m S = (kN 4 (S.getD (beX (beC m.c 12) (S.length : Int)).toNat default) [] (kidH (d - 1) S 1 ⟨beC (beC m.c 12) (S.length : Int), m.n⟩).1, (kidH (d - 1) S 1 ⟨beC (beC m.c 12) (S.length : Int), m.n⟩).2) := by
  rw [corH_node h]; unfold corN; rw [if_neg (by omega), if_neg (by omega), if_neg (by omega), if_neg (by omega), if_neg (by omega), if_neg (by omega), if_neg (by omega), if_neg (by omega), if_pos s]
theorem cor_12 (k : 10 < beX m.c 12) (s : ¬ 0 < (S.length : Int)) : corH d m S = leafH ⟨beC m.c 12, m.n⟩ S := by
  rw [corH_node h]; unfold corN; rw [if_neg (by omega), if_neg (by omega), if_neg (by omega), if_neg (by omega), if_neg (by omega), if_neg (by omega), if_neg (by omega), if_neg (by omega), if_neg s]
end
def WB : Nat → Nat
  | 0 => 2000
  | d + 1 => 3 * WB d + 20
def NB : Nat → Nat
  | 0 => 0
  | d + 1 => 2 + 3 * NB d
def stp (m r : Mk) (k : Nat) : Prop := (okK m.c → okK r.c) ∧ m.n ≤ r.n ∧ r.n ≤ m.n + k
theorem stp_refl (c : Cr) (n : Int) {c' : Cr} (h : okK c → okK c') : stp ⟨c, n⟩ ⟨c', n⟩ 0 := ⟨h, Int.le_refl _, by show n ≤ n + (0 : Nat); omega⟩
theorem stp_trans {a b c : Mk} {k l : Nat} (h1 : stp a b k) (h2 : stp b c l) : stp a c (k + l) := ⟨fun h => h2.1 (h1.1 h), Int.le_trans h1.2.1 h2.2.1, by have := h1.2.2; have := h2.2.2; omega⟩
theorem stp_le {a b : Mk} {k l : Nat} (h1 : stp a b k) (h : k ≤ l) : stp a b l := ⟨h1.1, h1.2.1, by have := h1.2.2; omega⟩
theorem leafH_ok (m : Mk) (S : List Int) : stp m (leafH m S).2 0 ∧ (okK m.c → wC (leafH m S).1 ≤ 2000) := by
  have hz : ∀ k n : Int, wC (kN k n [] []) = 0 := fun k n => by rw [wC_eq]; rfl
  by_cases h : (beX m.c 6 = 0 ∨ beX m.c 6 = 1 ∨ beX m.c 6 = 2) ∧ 0 < (S.length : Int)
  · rw [leaf_v h.1 h.2]; exact ⟨stp_refl _ _ fun e => beC_ok (beC_ok e), fun _ => by rw [hz]; omega⟩
  · by_cases h1 : beX m.c 6 = 3
    · rw [leaf_p h1]; exact ⟨stp_refl _ _ fun e => beC_ok (beC_ok e), fun _ => by rw [hz]; omega⟩
    · rw [leaf_q h h1]
      refine ⟨stp_refl _ _ fun e => drwH_ok (beC_ok e), fun e => ?_⟩
      have := drwH_w (d := 2) (beC_ok (n := 6) e) (by decide)
      rw [wC_eq]; show 0 + wD (drwH 2 (beC m.c 6)).1 + (0 + 0) ≤ 2000; omega
theorem kidD_ok {f : Mk → List Int → Core × Mk} {w q : Nat} (hf : ∀ m S, stp m (f m S).2 q ∧ (okK m.c → wC (f m S).1 ≤ w)) (S : List Int) : ∀ (n : Nat) (m : Mk), stp m (kidD f S n m).2 (n * q) ∧ (kidD f S n m).1.length = n ∧ (okK m.c → sumBy wC (kidD f S n m).1 ≤ n * w)
  | 0, m => ⟨stp_le (stp_refl m.c m.n id) (Nat.zero_le _), rfl, fun _ => Nat.zero_le _⟩
  | n + 1, m => by
    have h1 := kidD_ok hf S n m
    have h2 := hf (kidD f S n m).2 S
    have e : kidD f S (n + 1) m = ((kidD f S n m).1 ++ [(f (kidD f S n m).2 S).1], (f (kidD f S n m).2 S).2) := rfl
    rw [e]
    refine ⟨stp_le (stp_trans h1.1 h2.1) (by rw [Nat.add_mul]; omega), by rw [List.length_append, h1.2.1]; rfl, fun hm => ?_⟩
    have h3 := h1.2.2 hm
    have h4 := h2.2 (h1.1.1 hm)
    rw [sumBy_append, Nat.add_mul]
    show _ + (wC (f (kidD f S n m).2 S).1 + 0) ≤ _
    omega
theorem wkN (k n : Int) (P : List Int) (K : List Core) : wC (kN k n P K) = P.length + (K.length + sumBy wC K) := by
  rw [wC_eq]; show P.length + wD nilD + (K.length + sumBy wC K) = _
  have : wD nilD = 0 := by decide
  omega
theorem flat1_w (K : List Core) : wC (flat1 K) ≤ sumBy wC K + K.length := by
  have h := flat_w K
  unfold flat1; split
  · rename_i e
    have := sumBy_mem wC (getD_mem' (L := flatC K) (k := 0) (by omega)); omega
  · rw [wC_eq]; show 0 + wD d0 + ((flatC K).length + sumBy wC (flatC K)) ≤ _
    have : wD d0 = 0 := by decide
    omega
theorem corD_ok : ∀ (d : Nat) (m : Mk) (S : List Int), stp m (corD d m S).2 (NB d) ∧ (okK m.c → wC (corD d m S).1 ≤ WB d)
  | 0, m, S => leafH_ok m S
  | d + 1, m, S => by
    have K := fun S => kidD_ok (fun m S => corD_ok d m S) S
    have hB : 2000 ≤ WB d := by cases d with | zero => exact Nat.le_refl _ | succ d => show 2000 ≤ 3 * WB d + 20; have : ∀ d, 600 ≤ WB d := fun d => by { induction d with | zero => decide | succ d ih => show 600 ≤ 3 * WB d + 20; omega }; have h7 : ∀ d, 2000 ≤ WB d := fun d => by { induction d with | zero => decide | succ d ih => show 2000 ≤ 3 * WB d + 20; omega }; have := h7 d; omega
    show stp m (corN (kidD (corD d)) m S).2 (2 + 3 * NB d) ∧ (okK m.c → wC (corN (kidD (corD d)) m S).1 ≤ 3 * WB d + 20)
    have b3 := beX_le (beC m.c 12) (n := 3) (by decide)
    have b2 := beX_le (beC (beC m.c 12) 14) (n := 2) (by decide)
    have s0 : stp m ⟨beC m.c 12, m.n⟩ 0 := stp_refl _ _ fun e => beC_ok e
    have s1 : stp m ⟨beC m.c 12, m.n + 1⟩ 1 := ⟨fun e => beC_ok e, by show m.n ≤ m.n + 1; omega, by show m.n + 1 ≤ m.n + (1 : Nat); omega⟩
    unfold corN
    split
    · have s2 : stp m ⟨beC (beC m.c 12) 3, m.n + beX (beC m.c 12) 3⟩ 2 := ⟨fun e => beC_ok (beC_ok e), by show m.n ≤ m.n + beX (beC m.c 12) 3; omega, by show m.n + beX (beC m.c 12) 3 ≤ m.n + (2 : Nat); omega⟩
      have a := K (S ++ frs m.n (beX (beC m.c 12) 3).toNat) 1 ⟨beC (beC m.c 12) 3, m.n + beX (beC m.c 12) 3⟩
      refine ⟨stp_le (stp_trans s2 a.1) (by omega), fun e => ?_⟩
      have := a.2.2 (s2.1 e); have := a.2.1
      rw [wkN, frs_len]; omega
    split
    · have a := K (S ++ [m.n + 1]) 1 ⟨beC m.c 12, m.n + 1⟩
      have b := K S 1 (kidD (corD d) (S ++ [m.n + 1]) 1 ⟨beC m.c 12, m.n + 1⟩).2
      refine ⟨stp_le (stp_trans s1 (stp_trans a.1 b.1)) (by omega), fun e => ?_⟩
      have := a.2.2 (s1.1 e); have := a.2.1; have := b.2.2 (a.1.1 (s1.1 e)); have := b.2.1
      rw [wkN]; simp only [List.length_append, sumBy_append, sumBy, wkN, List.length_cons, List.length_nil]; omega
    split
    · have s2 : stp m ⟨beC (beC (beC m.c 12) 14) 2, m.n⟩ 0 := stp_refl _ _ fun e => beC_ok (beC_ok (beC_ok e))
      have a := K S (1 + beX (beC (beC m.c 12) 14) 2).toNat ⟨beC (beC (beC m.c 12) 14) 2, m.n⟩
      have h2 : (1 + beX (beC (beC m.c 12) 14) 2).toNat ≤ 2 := by omega
      have h3 := Nat.mul_le_mul_right (NB d) h2
      have h4 := Nat.mul_le_mul_right (WB d) h2
      refine ⟨stp_le (stp_trans s2 a.1) (by omega), fun e => ?_⟩
      have := a.2.2 (s2.1 e); have := a.2.1
      rw [wkN]; simp only [List.length_append, sumBy_append, sumBy, wkN, List.length_cons, List.length_nil]; omega
    split
    · have a := K S 3 ⟨beC m.c 12, m.n⟩
      refine ⟨stp_le (stp_trans s0 a.1) (by omega), fun e => ?_⟩
      have := a.2.2 (s0.1 e); have := a.2.1
      rw [wkN]; simp only [List.length_nil]; omega
    split
    · have a := K S 2 ⟨beC m.c 12, m.n⟩
      refine ⟨stp_le (stp_trans s0 a.1) (by omega), fun e => ?_⟩
      have := a.2.2 (s0.1 e); have := a.2.1
      have := flat1_w (kidD (corD d) S 2 ⟨beC m.c 12, m.n⟩).1
      show wC (flat1 (kidD (corD d) S 2 ⟨beC m.c 12, m.n⟩).1) ≤ _
      omega
    split
    · have a := K (S ++ [m.n + 1]) 1 ⟨beC m.c 12, m.n + 1⟩
      have b := K (S ++ [m.n + 1]) 1 (kidD (corD d) (S ++ [m.n + 1]) 1 ⟨beC m.c 12, m.n + 1⟩).2
      refine ⟨stp_le (stp_trans s1 (stp_trans a.1 b.1)) (by omega), fun e => ?_⟩
      have := a.2.2 (s1.1 e); have := a.2.1; have := b.2.2 (a.1.1 (s1.1 e)); have := b.2.1
      rw [wkN]; simp only [List.length_append, sumBy_append, sumBy, wkN, List.length_cons, List.length_nil]; omega
    split
    · have a := K S 1 ⟨beC m.c 12, m.n⟩
      refine ⟨stp_le (stp_trans s0 a.1) (by omega), fun e => ?_⟩
      have := a.2.2 (s0.1 e); have := a.2.1
      rw [wkN]; simp only [List.length_nil]; omega
    split
    · have a := K (S ++ [m.n + 1]) 1 ⟨beC m.c 12, m.n + 1⟩
      refine ⟨stp_le (stp_trans s1 a.1) (by omega), fun e => ?_⟩
      have := a.2.2 (s1.1 e); have := a.2.1
      rw [wkN]; simp only [List.length_cons, List.length_nil]; omega
    split
    · have s2 : stp m ⟨beC (beC m.c 12) (S.length : Int), m.n⟩ 0 := stp_refl _ _ fun e => beC_ok (beC_ok e)
      have a := K S 1 ⟨beC (beC m.c 12) (S.length : Int), m.n⟩
      refine ⟨stp_le (stp_trans s2 a.1) (by omega), fun e => ?_⟩
      have := a.2.2 (s2.1 e); have := a.2.1
      rw [wkN]; simp only [List.length_nil]; omega
    · have a := leafH_ok ⟨beC m.c 12, m.n⟩ S
      refine ⟨stp_le (stp_trans s0 a.1) (by omega), fun e => ?_⟩
      have := a.2 (s0.1 e); omega
theorem NB_le : ∀ d, d ≤ 4 → NB d ≤ 80 := by decide
theorem WB_le : ∀ d, d ≤ 4 → WB d ≤ 170000 := by decide
theorem corH_ok {d : Int} {m : Mk} (S : List Int) (h : okK m.c) (hd : d ≤ 4) : okK (corH d m S).2.c ∧ m.n ≤ (corH d m S).2.n ∧ (corH d m S).2.n ≤ m.n + 80 ∧ wC (corH d m S).1 ≤ 170000 := by
  have h1 := corD_ok d.toNat m S
  have h2 := NB_le d.toNat (by omega)
  have h3 := WB_le d.toNat (by omega)
  rw [corH_eq]
  exact ⟨h1.1.1 h, h1.1.2.1, by have := h1.1.2.2; omega, Nat.le_trans (h1.2 h) h3⟩
theorem kidH_ok {d : Int} {m : Mk} (S : List Int) {n : Nat} (h : okK m.c) (hd : d ≤ 3) : okK (kidH d S n m).2.c ∧ m.n ≤ (kidH d S n m).2.n ∧ (kidH d S n m).2.n ≤ m.n + n * 80 ∧ (kidH d S n m).1.length = n := by
  have hf : ∀ m S, stp m (corH d m S).2 80 ∧ (okK m.c → wC (corH d m S).1 ≤ 170000) := fun m S => by
    have h1 := corD_ok d.toNat m S
    have h2 := NB_le d.toNat (by omega)
    have h3 := WB_le d.toNat (by omega)
    rw [corH_eq]; exact ⟨stp_le h1.1 h2, fun e => Nat.le_trans (h1.2 e) h3⟩
  have := kidD_ok hf S n m
  rw [kidH_eq]
  exact ⟨this.1.1 h, this.1.2.1, by have := this.1.2.2; omega, this.2.1⟩
theorem kidH_len (d : Int) (S : List Int) (n : Nat) (m : Mk) : (kidH d S n m).1.length = n := by rw [kidH_eq]; exact many_len _ _ _
theorem kidH_flat {d : Int} {m : Mk} (S : List Int) (h : okK m.c) (hd : d ≤ 3) : (flatC (kidH d S 2 m).1).length ≤ 2147483647 := by
  have hf : ∀ m S, stp m (corH d m S).2 80 ∧ (okK m.c → wC (corH d m S).1 ≤ 170000) := fun m S => by
    have h1 := corD_ok d.toNat m S
    have h2 := NB_le d.toNat (by omega)
    have h3 := WB_le d.toNat (by omega)
    rw [corH_eq]; exact ⟨stp_le h1.1 h2, fun e => Nat.le_trans (h1.2 e) h3⟩
  have h1 := (kidD_ok hf S 2 m).2.2 h
  have h2 := flat_w (kidH d S 2 m).1
  have h3 := kidH_len d S 2 m
  rw [← kidH_eq] at h1
  omega
theorem frs_step (n N k : Int) (h : 0 < k) (h1 : k ≤ N) : (frs n (N - k).toNat).map intC ++ [[cI (n + (N - k) + 1)]] = (frs n (N - (k - 1)).toNat).map intC := by
  have e : (N - (k - 1)).toNat = (N - k).toNat + 1 := by omega
  have e1 : (((N - k).toNat : Nat) : Int) = N - k := by omega
  rw [e, frs, List.map_append, e1]; rfl
theorem map_one (S : List Int) (x : Int) : (S ++ [x]).map intC = S.map intC ++ [[cI x]] := by rw [List.map_append]; rfl
def smM (c : Cr) : Core × Mk := corH (2 + beX (beC c 3) 3) ⟨beC (beC c 3) 3, beX c 3⟩ []
def smH (c : Cr) : Core × Cr := held ((smM c).1, (smM c).2.c)
theorem smH_eq (c : Cr) : smH c = ((smM c).1, (smM c).2.c) := held_eq _
theorem smH_ok {c : Cr} (h : okK c) : okK (smH c).2 ∧ wC (smH c).1 ≤ 170000 := by
  have b := beX_le (beC c 3) (n := 3) (by decide)
  have := corH_ok (d := 2 + beX (beC c 3) 3) (m := ⟨beC (beC c 3) 3, beX c 3⟩) [] (beC_ok (beC_ok h)) (by omega)
  rw [smH_eq]; exact ⟨this.1, this.2.2.2⟩
def numB : List Int := [1, -1, 99999, 100000]
def ayD (c : Cr) : Core × Cr :=
  if beX (smH c).2 14 = 0 then (⟨(smH c).1.kind, numB.getD (beX (beC (smH c).2 14) 4).toNat default, (smH c).1.params, (smH c).1.datum, (smH c).1.kids⟩, beC (beC (smH c).2 14) 4)
  else if beX (smH c).2 14 = 1 then (⟨(smH c).1.kind, (smH c).1.number, (smH c).1.params ++ [beX (beC (smH c).2 14) 3], (smH c).1.datum, (smH c).1.kids⟩, beC (beC (smH c).2 14) 3)
  else if beX (smH c).2 14 = 2 then (⟨(smH c).1.kind, (smH c).1.number, (smH c).1.params, (smH c).1.datum, (smH c).1.kids ++ [⟨2, 7, [], nilD, []⟩]⟩, beC (smH c).2 14)
  else if beX (smH c).2 14 = 3 then (⟨beX (beC (smH c).2 14) 14 - 1, (smH c).1.number, (smH c).1.params, (smH c).1.datum, (smH c).1.kids⟩, beC (beC (smH c).2 14) 14)
  else if beX (smH c).2 14 = 4 then (⟨(smH c).1.kind, (smH c).1.number, (smH c).1.params, (anyH (beC (smH c).2 14)).1, (smH c).1.kids⟩, (anyH (beC (smH c).2 14)).2)
  else if beX (smH c).2 14 = 5 then (⟨6, 0, [], nilD, [(smH c).1, (smH c).1]⟩, beC (smH c).2 14)
  else ((smH c).1, beC (smH c).2 14)
def ayH (c : Cr) : Core × Cr := held (ayD c)
theorem ayH_eq (c : Cr) : ayH c = ayD c := held_eq _
section
variable {c : Cr}
theorem ay_0 (k : beX (smH c).2 14 = 0) : ayH c = (⟨(smH c).1.kind, numB.getD (beX (beC (smH c).2 14) 4).toNat default, (smH c).1.params, (smH c).1.datum, (smH c).1.kids⟩, beC (beC (smH c).2 14) 4) := by rw [ayH_eq]; exact if_pos k
theorem ay_1 (k : beX (smH c).2 14 = 1) : ayH c = (⟨(smH c).1.kind, (smH c).1.number, (smH c).1.params ++ [beX (beC (smH c).2 14) 3], (smH c).1.datum, (smH c).1.kids⟩, beC (beC (smH c).2 14) 3) := by rw [ayH_eq]; unfold ayD; rw [if_neg (by omega), if_pos k]
theorem ay_2 (k : beX (smH c).2 14 = 2) : ayH c = (⟨(smH c).1.kind, (smH c).1.number, (smH c).1.params, (smH c).1.datum, (smH c).1.kids ++ [⟨2, 7, [], nilD, []⟩]⟩, beC (smH c).2 14) := by rw [ayH_eq]; unfold ayD; rw [if_neg (by omega), if_neg (by omega), if_pos k]
theorem ay_3 (k : beX (smH c).2 14 = 3) : ayH c = (⟨beX (beC (smH c).2 14) 14 - 1, (smH c).1.number, (smH c).1.params, (smH c).1.datum, (smH c).1.kids⟩, beC (beC (smH c).2 14) 14) := by rw [ayH_eq]; unfold ayD; rw [if_neg (by omega), if_neg (by omega), if_neg (by omega), if_pos k]
theorem ay_4 (k : beX (smH c).2 14 = 4) : ayH c = (⟨(smH c).1.kind, (smH c).1.number, (smH c).1.params, (anyH (beC (smH c).2 14)).1, (smH c).1.kids⟩, (anyH (beC (smH c).2 14)).2) := by rw [ayH_eq]; unfold ayD; rw [if_neg (by omega), if_neg (by omega), if_neg (by omega), if_neg (by omega), if_pos k]
theorem ay_5 (k : beX (smH c).2 14 = 5) : ayH c = (⟨6, 0, [], nilD, [(smH c).1, (smH c).1]⟩, beC (smH c).2 14) := by rw [ayH_eq]; unfold ayD; rw [if_neg (by omega), if_neg (by omega), if_neg (by omega), if_neg (by omega), if_neg (by omega), if_pos k]
theorem ay_6 (k : 5 < beX (smH c).2 14) : ayH c = ((smH c).1, beC (smH c).2 14) := by rw [ayH_eq]; unfold ayD; rw [if_neg (by omega), if_neg (by omega), if_neg (by omega), if_neg (by omega), if_neg (by omega), if_neg (by omega)]
end
theorem ayH_ok {c : Cr} (h : okK c) : okK (ayH c).2 ∧ wC (ayH c).1 ≤ 400000 := by
  have h1 := smH_ok h
  have h2 := wC_eq (smH c).1
  have o1 : okK (beC (smH c).2 14) := beC_ok h1.1
  have hz : wC ⟨2, 7, [], nilD, []⟩ = 0 := by decide
  have hd : wD nilD = 0 := by decide
  have h3 := anyH_ok o1
  have b := beX_le (smH c).2 (n := 14) (by decide)
  by_cases k0 : beX (smH c).2 14 = 0
  · rw [ay_0 k0]; refine ⟨beC_ok o1, ?_⟩; rw [wC_eq]; show (smH c).1.params.length + wD (smH c).1.datum + ((smH c).1.kids.length + sumBy wC (smH c).1.kids) ≤ _; omega
  by_cases k1 : beX (smH c).2 14 = 1
  · rw [ay_1 k1]; refine ⟨beC_ok o1, ?_⟩; rw [wC_eq]; show ((smH c).1.params ++ [_]).length + wD (smH c).1.datum + ((smH c).1.kids.length + sumBy wC (smH c).1.kids) ≤ _; rw [List.length_append, List.length_singleton]; omega
  by_cases k2 : beX (smH c).2 14 = 2
  · rw [ay_2 k2]; refine ⟨o1, ?_⟩; rw [wC_eq]; show (smH c).1.params.length + wD (smH c).1.datum + (((smH c).1.kids ++ [_]).length + sumBy wC ((smH c).1.kids ++ [⟨2, 7, [], nilD, []⟩])) ≤ _; rw [List.length_append, List.length_singleton, sumBy_append]; show _ + _ + (_ + (_ + (wC ⟨2, 7, [], nilD, []⟩ + 0))) ≤ _; omega
  by_cases k3 : beX (smH c).2 14 = 3
  · rw [ay_3 k3]; refine ⟨beC_ok o1, ?_⟩; rw [wC_eq]; show (smH c).1.params.length + wD (smH c).1.datum + ((smH c).1.kids.length + sumBy wC (smH c).1.kids) ≤ _; omega
  by_cases k4 : beX (smH c).2 14 = 4
  · rw [ay_4 k4]; refine ⟨h3.2, ?_⟩; rw [wC_eq]; show (smH c).1.params.length + wD (anyH (beC (smH c).2 14)).1 + ((smH c).1.kids.length + sumBy wC (smH c).1.kids) ≤ _; omega
  by_cases k5 : beX (smH c).2 14 = 5
  · rw [ay_5 k5]; refine ⟨o1, ?_⟩; rw [wC_eq]; show 0 + wD nilD + (2 + (wC (smH c).1 + (wC (smH c).1 + 0))) ≤ _; omega
  · rw [ay_6 (by omega)]; exact ⟨o1, by show wC (smH c).1 ≤ _; omega⟩
end Go.Proofs.Ytgeegppaaggcjaa
end
