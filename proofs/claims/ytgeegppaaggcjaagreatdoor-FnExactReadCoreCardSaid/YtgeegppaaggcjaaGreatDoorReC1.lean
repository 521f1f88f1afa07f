/- Part 1 of the proof: The program's ReadCore returns what the reference's returns, for all arguments: the card of FnExactReadCore. No condition. -/
import Derived.Test.YtgeegppaaggcjaaGreatDoorQ4
import Derived.Lib.AtoiErr
import Derived.Shelf.Strconv.Itoa3
section
namespace Go.Proofs.YtgeegppaaggcjaaGreatDoor
open Go Go.Proofs.YtgeegppaaggcjaaGreatDoor.Ab
set_option linter.unusedVariables false
set_option linter.unusedSimpArgs false
set_option maxHeartbeats 4000000
theorem all_stop {L : List UInt8} {p : UInt8 → Bool} {k : Nat} (h : k < L.length) (hp : p (L.getD k 0) = false) : L.all p = false := by
  rw [List.all_eq_false]
  have e : L.getD k 0 = L[k] := by simp [h]
  exact ⟨L[k], List.getElem_mem h, by rw [← e, hp]; decide⟩
theorem all_go {L : List UInt8} {p : UInt8 → Bool} {k : Nat} (h : k < L.length) (hp : p (L.getD k 0) = true) (ht : (L.take k).all p = true) : (L.take (k + 1)).all p = true := by
  rw [take0 h, List.all_append, ht, List.all_cons, hp]; rfl
theorem all_all {L : List UInt8} {p : UInt8 → Bool} {k : Nat} (h : L.length ≤ k) (ht : (L.take k).all p = true) : L.all p = true := by
  rwa [List.take_of_length_le h] at ht
def lu (n : Int) : SV := .one (.val (.lit (.int .u8 n)))
def isDig (n : Int) : Bool := decide (48 ≤ n ∧ n ≤ 57)
def markI : List Int := [33, 63, 42, 60, 62, 61, 47, 43, 45, 46, 95]
def isMk (n : Int) : Bool := decide (97 ≤ n ∧ n ≤ 122) || isDig n || decide (n ∈ markI)
theorem mark_at {k : Nat} (h : k < 11) : ((([33, 63, 42, 60, 62, 61, 47, 43, 45, 46, 95] : List UInt8).getD k 0).toNat : Int) = markI.getD k default := by
  have : ∀ k, k < 11 → ((([33, 63, 42, 60, 62, 61, 47, 43, 45, 46, 95] : List UInt8).getD k 0).toNat : Int) = markI.getD k default := by decide
  exact this k h
def isStB (n : Int) : Bool := decide (32 ≤ n ∧ n ≤ 126 ∧ n ≠ 34)
def isSym (s : ByteArray) : Bool := decide (1 ≤ (s.size : Int) ∧ (s.size : Int) ≤ 16) && !isDig (s.data.toList.getD 0 0).toNat && !(decide (((s.data.toList.getD 0 0).toNat : Int) = 45) && decide (1 < (s.size : Int)) && isDig (s.data.toList.getD 1 0).toNat) && s.data.toList.all fun b => isMk b.toNat
def isStr (s : ByteArray) : Bool := decide ((s.size : Int) ≤ 20) && s.data.toList.all fun b => isStB b.toNat
abbrev P_c_sDigit (n : Int) : Ct := ⟨144, [], [lu n], [], .sv (lb (isDig n))⟩
theorem c_sDigit (n : Int)  : P_c_sDigit n := fnOK Tryz.call144 Tryz.func144 (.i (48 ≤ n) (.s (lb (decide (n ≤ 57)))) (.s (lb false))) (by
  dsimp only [teasy, P_c_sDigit]
  with_reducible repeat' (first | apply And.intro | exact zR | (intro; skip))
  all_goals (try simp only [std, inj] at *)
  all_goals with_reducible repeat' apply And.intro
  all_goals (try (first | exact z | grind [isDig, snocI, snocS, rowSnoc])))
abbrev P_c_iDigit (n : Int) : Ct := ⟨169, [], [lu n], [], .sv (lb (isDig n))⟩
theorem c_iDigit (n : Int)  : P_c_iDigit n := fnOK Tryz.call169 Tryz.func169 (.i (48 ≤ n) (.s (lb (decide (n ≤ 57)))) (.s (lb false))) (by
  dsimp only [teasy, P_c_iDigit]
  with_reducible repeat' (first | apply And.intro | exact zR | (intro; skip))
  all_goals (try simp only [std, inj] at *)
  all_goals with_reducible repeat' apply And.intro
  all_goals (try (first | exact z | grind [isDig, snocI, snocS, rowSnoc])))
abbrev P_c_sMark (n : Int) : Ct := ⟨147, [], [lu n], [], .sv (lb (isMk n))⟩
def lc_sMarkLa (n : Int) : Lp Nat := .mk 26 0 (fun x => [(0, SV.one (AC.val (Cell.lit (Value.int IntKind.u8 n)))), (3, ls (ByteArray.mk #[(33 : UInt8), (63 : UInt8), (42 : UInt8),
 (60 : UInt8), (62 : UInt8), (61 : UInt8), (47 : UInt8), (43 : UInt8), (45 : UInt8), (46 : UInt8), (95 : UInt8)])), (4, hs x 0)]) (fun x => []) (fun k => [.s (li (↑k : Int))]) (fun
 k => k ≤ 11 ∧ ¬n ∈ List.take k markI) (fun k => 11 - k) [.mk (decide (n ∈ markI) = false) (.exit 0) (fun x => []) (fun x => []) [], .mk (decide (n ∈ markI) = true) .ret (fun x =>
 [(2, hs x 0)]) (fun x => []) [.s (lb true)]]
theorem Sc_sMarkLa (n : Int) : Lp.Sem Tryz.prog (loopAt Tryz.f147 0) (lc_sMarkLa n) := lpOK (fun k => .h (11 ≤ 9223372036854775807) (.i ((↑k : Int) < 11) (.p (0 ≤ (↑k : Int) ∧ (↑k
 : Int).toNat < 11) (.i ((↑([(33 : UInt8), (63 : UInt8), (42 : UInt8), (60 : UInt8), (62 : UInt8), (61 : UInt8), (47 : UInt8), (43 : UInt8), (45 : UInt8), (46 : UInt8), (95 :
 UInt8)].getD (↑k : Int).toNat (0 : UInt8)).toNat : Int) = n) (.o 1 [] [.s (lb true)]) (.r ((↑k : Int) + 1) (.g [] (k + 1) [.s (li ((↑k : Int) + 1))])))) (.o 0 [] []))) (by
  intro k h; try dsimp only [teasy, nthW, lc_sMarkLa] at h ⊢
  have g := @mark_at k
  have e : markI.length = 11 := rfl
  have e2 : markI.take 11 = markI := rfl
  with_reducible repeat' (first | apply And.intro | exact zR | (intro; skip))
  all_goals (try simp only [std, inj] at *)
  all_goals with_reducible repeat' apply And.intro
  all_goals (try (first | exact z | grind [take_get, getD_mem', snocI, snocS, rowSnoc])))
theorem c_sMark (n : Int)  : P_c_sMark n := fnOK Tryz.call147 Tryz.func147 (.i (97 ≤ n) (.i (n ≤ 122) (.y true (.s (lb true))) (.c [.rd] (c_sDigit n) (.b (isDig n) (.s (lb true)) (.l
 (lc_sMarkLa n) (Sc_sMarkLa n) [] [.s (li 0)] 0 (.t (.s (lb false)) (.t (.s (lb true)) .q)))))) (.y false (.c [.rd] (c_sDigit n) (.b (isDig n) (.s (lb true)) (.l (lc_sMarkLa n)
 (Sc_sMarkLa n) [] [.s (li 0)] 0 (.t (.s (lb false)) (.t (.s (lb true)) .q))))))) (by
  dsimp only [teasy, P_c_sMark, nthW, lc_sMarkLa]
  with_reducible repeat' (first | apply And.intro | exact zR | (intro; skip))
  all_goals (try simp only [std, inj] at *)
  all_goals with_reducible repeat' apply And.intro
  all_goals (try (first | exact z | grind [isMk, snocI, snocS, rowSnoc])))
abbrev P_c_iMark (n : Int) : Ct := ⟨170, [], [lu n], [], .sv (lb (isMk n))⟩
theorem c_iMark (n : Int)  : P_c_iMark n := fnOK Tryz.call170 Tryz.func170 (.i (97 ≤ n) (.i (n ≤ 122) (.y true (.s (lb true))) (.i (48 ≤ n) (.i (n ≤ 57) (.s (lb true)) (.i (n = 33)
 (.y true (.s (lb true))) (.i (n = 63) (.y true (.s (lb true))) (.i (n = 42) (.y true (.s (lb true))) (.i (n = 60) (.y true (.s (lb true))) (.i (n = 62) (.y true (.s (lb true)))
 (.i (n = 61) (.y true (.s (lb true))) (.i (n = 47) (.y true (.s (lb true))) (.i (n = 43) (.y true (.s (lb true))) (.i (n = 45) (.y true (.s (lb true))) (.i (n = 46) (.y true (.s
 (lb true))) (.i (n = 95) (.s (lb true)) (.s (lb false)))))))))))))) (.y false (.i (n = 33) (.y true (.s (lb true))) (.i (n = 63) (.y true (.s (lb true))) (.i (n = 42) (.y true (.s
 (lb true))) (.i (n = 60) (.y true (.s (lb true))) (.i (n = 62) (.y true (.s (lb true))) (.i (n = 61) (.y true (.s (lb true))) (.i (n = 47) (.y true (.s (lb true))) (.i (n = 43)
 (.y true (.s (lb true))) (.i (n = 45) (.y true (.s (lb true))) (.i (n = 46) (.y true (.s (lb true))) (.i (n = 95) (.s (lb true)) (.s (lb false)))))))))))))))) (.y false (.i (48 ≤
 n) (.i (n ≤ 57) (.s (lb true)) (.i (n = 33) (.y true (.s (lb true))) (.i (n = 63) (.y true (.s (lb true))) (.i (n = 42) (.y true (.s (lb true))) (.i (n = 60) (.y true (.s (lb
 true))) (.i (n = 62) (.y true (.s (lb true))) (.i (n = 61) (.y true (.s (lb true))) (.i (n = 47) (.y true (.s (lb true))) (.i (n = 43) (.y true (.s (lb true))) (.i (n = 45) (.y
 true (.s (lb true))) (.i (n = 46) (.y true (.s (lb true))) (.i (n = 95) (.s (lb true)) (.s (lb false)))))))))))))) (.y false (.i (n = 33) (.y true (.s (lb true))) (.i (n = 63) (.y
 true (.s (lb true))) (.i (n = 42) (.y true (.s (lb true))) (.i (n = 60) (.y true (.s (lb true))) (.i (n = 62) (.y true (.s (lb true))) (.i (n = 61) (.y true (.s (lb true))) (.i (n
 = 47) (.y true (.s (lb true))) (.i (n = 43) (.y true (.s (lb true))) (.i (n = 45) (.y true (.s (lb true))) (.i (n = 46) (.y true (.s (lb true))) (.i (n = 95) (.s (lb true)) (.s
 (lb false))))))))))))))))) (by
  dsimp only [teasy, P_c_iMark]
  with_reducible repeat' (first | apply And.intro | exact zR | (intro; skip))
  all_goals (try simp only [std, inj] at *)
  all_goals with_reducible repeat' apply And.intro
  all_goals (try (first | exact z | grind [snocI, snocS, rowSnoc]))
  all_goals (symm; simp only [isMk, isDig, markI, List.mem_cons, List.not_mem_nil, Bool.or_eq_true, Bool.or_eq_false_iff, decide_eq_true_eq, decide_eq_false_iff_not, or_false]; omega))
abbrev P_c_l1In (x : Int) (a : Int) (b : Int) : Ct := ⟨48, [], [li x, li a, li b], [], .sv (lb (decide (a ≤ x ∧ x ≤ b)))⟩
theorem c_l1In (x a b : Int)  : P_c_l1In x a b := fnOK Tryz.call48 Tryz.func48 (.i (a ≤ x) (.s (lb (decide (x ≤ b)))) (.s (lb false))) (by
  dsimp only [teasy, P_c_l1In]
  with_reducible repeat' (first | apply And.intro | exact zR | (intro; skip))
  all_goals (try simp only [std, inj] at *)
  all_goals with_reducible repeat' apply And.intro
  all_goals (try (first | exact z | grind [snocI, snocS, rowSnoc])))
abbrev P_c_sIsSymbol (s : ByteArray) : Ct := ⟨123, [], [ls s], [], .sv (lb (isSym s))⟩
def lc_sIsSymbolLa (s : ByteArray) : Lp Nat := .mk 39 0 (fun x => [(0, ls s), (3, hs x 0)]) (fun x => []) (fun k => [.s (li (↑k : Int))]) (fun k => k ≤ s.size ∧ s.size ≤ 16 ∧
 ((List.take k s.data.toList).all fun b => isMk (↑b.toNat : Int)) = true) (fun k => s.size - k) [.mk ((s.data.toList.all fun b => isMk (↑b.toNat : Int)) = true) (.exit 0) (fun x =>
 []) (fun x => []) [], .mk ((s.data.toList.all fun b => isMk (↑b.toNat : Int)) = false) .ret (fun x => [(2, hs x 0)]) (fun x => []) [.s (lb false)]]
theorem Sc_sIsSymbolLa (s : ByteArray) : Lp.Sem Tryz.prog (loopAt Tryz.f123 0) (lc_sIsSymbolLa s) := lpOK (fun k => .h (s.data.toList.length ≤ 9223372036854775807) (.i ((↑k : Int)
 < (↑s.data.toList.length : Int)) (.p (0 ≤ (↑k : Int) ∧ (↑k : Int).toNat < s.data.toList.length) (.c [.rd] (c_sMark (↑(s.data.toList.getD (↑k : Int).toNat (0 : UInt8)).toNat :
 Int)) (.b (!isMk (↑(s.data.toList.getD (↑k : Int).toNat (0 : UInt8)).toNat : Int)) (.o 1 [] [.s (lb false)]) (.r ((↑k : Int) + 1) (.g [] (k + 1) [.s (li ((↑k : Int) + 1))])))))
 (.o 0 [] []))) (by
  intro k h; try dsimp only [teasy, nthW, lc_sIsSymbolLa] at h ⊢
  have g1 := @all_stop s.data.toList (fun b => isMk b.toNat) k
  have g2 := @all_go s.data.toList (fun b => isMk b.toNat) k
  have g3 := @all_all s.data.toList (fun b => isMk b.toNat) k
  with_reducible repeat' (first | apply And.intro | exact zR | (intro; skip))
  all_goals (try simp only [std, inj] at *)
  all_goals with_reducible repeat' apply And.intro
  all_goals (try (first | exact z | grind [snocI, snocS, rowSnoc])))
theorem c_sIsSymbol (s : ByteArray)  : P_c_sIsSymbol s := fnOK Tryz.call123 Tryz.func123 (.h (s.data.toList.length ≤ 9223372036854775807) (.c [.rd, .rd, .rd] (c_l1In
 (↑s.data.toList.length : Int) 1 16) (.b (!decide (1 ≤ (↑s.data.toList.length : Int) ∧ (↑s.data.toList.length : Int) ≤ 16)) (.y true (.y true (.s (lb false)))) (.p ((0 : Int) ≤ 0 ∧
 0 < s.data.toList.length) (.c [.rd] (c_sDigit (↑(s.data.toList.getD 0 (0 : UInt8)).toNat : Int)) (.b (isDig (↑(s.data.toList.getD 0 (0 : UInt8)).toNat : Int)) (.y true (.s (lb
 false))) (.p ((0 : Int) ≤ 0 ∧ 0 < s.data.toList.length) (.i ((↑(s.data.toList.getD 0 (0 : UInt8)).toNat : Int) = 45) (.h (s.data.toList.length ≤ 9223372036854775807) (.i (1 <
 (↑s.data.toList.length : Int)) (.p ((0 : Int) ≤ 1 ∧ 1 < s.data.toList.length) (.c [.rd] (c_sDigit (↑(s.data.toList.getD 1 (0 : UInt8)).toNat : Int)) (.b (isDig
 (↑(s.data.toList.getD 1 (0 : UInt8)).toNat : Int)) (.s (lb false)) (.l (lc_sIsSymbolLa s) (Sc_sIsSymbolLa s) [] [.s (li 0)] 0 (.t (.s (lb true)) (.t (.s (lb false)) .q)))))) (.y
 false (.l (lc_sIsSymbolLa s) (Sc_sIsSymbolLa s) [] [.s (li 0)] 0 (.t (.s (lb true)) (.t (.s (lb false)) .q)))))) (.y false (.y false (.l (lc_sIsSymbolLa s) (Sc_sIsSymbolLa s) []
 [.s (li 0)] 0 (.t (.s (lb true)) (.t (.s (lb false)) .q))))))))))))) (by
  dsimp only [teasy, P_c_sIsSymbol, nthW, lc_sIsSymbolLa]
  with_reducible repeat' (first | apply And.intro | exact zR | (intro; skip))
  all_goals (try simp only [std, inj] at *)
  all_goals with_reducible repeat' apply And.intro
  all_goals (try (first | exact z | grind [isSym, snocI, snocS, rowSnoc])))
abbrev P_c_iIsSymbol (s : ByteArray) : Ct := ⟨157, [], [ls s], [], .sv (lb (isSym s))⟩
def lc_iIsSymbolLa (s : ByteArray) : Lp Nat := .mk 43 0 (fun x => [(0, ls s), (3, hs x 0)]) (fun x => []) (fun k => [.s (li (↑k : Int))]) (fun k => k ≤ s.size ∧ s.size ≤ 16 ∧
 ((List.take k s.data.toList).all fun b => isMk (↑b.toNat : Int)) = true) (fun k => s.size - k) [.mk ((s.data.toList.all fun b => isMk (↑b.toNat : Int)) = true) (.exit 0) (fun x =>
 []) (fun x => []) [], .mk ((s.data.toList.all fun b => isMk (↑b.toNat : Int)) = false) .ret (fun x => [(2, hs x 0)]) (fun x => []) [.s (lb false)]]
theorem Sc_iIsSymbolLa (s : ByteArray) : Lp.Sem Tryz.prog (loopAt Tryz.f157 0) (lc_iIsSymbolLa s) := lpOK (fun k => .h (s.data.toList.length ≤ 9223372036854775807) (.i ((↑k : Int)
 < (↑s.data.toList.length : Int)) (.p (0 ≤ (↑k : Int) ∧ (↑k : Int).toNat < s.data.toList.length) (.c [.rd] (c_iMark (↑(s.data.toList.getD (↑k : Int).toNat (0 : UInt8)).toNat :
 Int)) (.b (!isMk (↑(s.data.toList.getD (↑k : Int).toNat (0 : UInt8)).toNat : Int)) (.o 1 [] [.s (lb false)]) (.r ((↑k : Int) + 1) (.g [] (k + 1) [.s (li ((↑k : Int) + 1))])))))
 (.o 0 [] []))) (by
  intro k h; try dsimp only [teasy, nthW, lc_iIsSymbolLa] at h ⊢
  have g1 := @all_stop s.data.toList (fun b => isMk b.toNat) k
  have g2 := @all_go s.data.toList (fun b => isMk b.toNat) k
  have g3 := @all_all s.data.toList (fun b => isMk b.toNat) k
  with_reducible repeat' (first | apply And.intro | exact zR | (intro; skip))
  all_goals (try simp only [std, inj] at *)
  all_goals with_reducible repeat' apply And.intro
  all_goals (try (first | exact z | grind [snocI, snocS, rowSnoc])))
theorem c_iIsSymbol (s : ByteArray)  : P_c_iIsSymbol s := fnOK Tryz.call157 Tryz.func157 (.h (s.data.toList.length ≤ 9223372036854775807) (.i ((↑s.data.toList.length : Int) < 1) (.y
 true (.y true (.y true (.s (lb false))))) (.h (s.data.toList.length ≤ 9223372036854775807) (.i (16 < (↑s.data.toList.length : Int)) (.y true (.y true (.s (lb false)))) (.p ((0 :
 Int) ≤ 0 ∧ 0 < s.data.toList.length) (.c [.rd] (c_iDigit (↑(s.data.toList.getD 0 (0 : UInt8)).toNat : Int)) (.b (isDig (↑(s.data.toList.getD 0 (0 : UInt8)).toNat : Int)) (.y true
 (.s (lb false))) (.p ((0 : Int) ≤ 0 ∧ 0 < s.data.toList.length) (.i ((↑(s.data.toList.getD 0 (0 : UInt8)).toNat : Int) = 45) (.h (s.data.toList.length ≤ 9223372036854775807) (.i
 (1 < (↑s.data.toList.length : Int)) (.p ((0 : Int) ≤ 1 ∧ 1 < s.data.toList.length) (.c [.rd] (c_iDigit (↑(s.data.toList.getD 1 (0 : UInt8)).toNat : Int)) (.b (isDig
 (↑(s.data.toList.getD 1 (0 : UInt8)).toNat : Int)) (.s (lb false)) (.l (lc_iIsSymbolLa s) (Sc_iIsSymbolLa s) [] [.s (li 0)] 0 (.t (.s (lb true)) (.t (.s (lb false)) .q)))))) (.y
 false (.l (lc_iIsSymbolLa s) (Sc_iIsSymbolLa s) [] [.s (li 0)] 0 (.t (.s (lb true)) (.t (.s (lb false)) .q)))))) (.y false (.y false (.l (lc_iIsSymbolLa s) (Sc_iIsSymbolLa s) []
 [.s (li 0)] 0 (.t (.s (lb true)) (.t (.s (lb false)) .q)))))))))))))) (by
  dsimp only [teasy, P_c_iIsSymbol, nthW, lc_iIsSymbolLa]
  with_reducible repeat' (first | apply And.intro | exact zR | (intro; skip))
  all_goals (try simp only [std, inj] at *)
  all_goals with_reducible repeat' apply And.intro
  all_goals (try (first | exact z | grind [isSym, snocI, snocS, rowSnoc])))
abbrev P_c_sString (s : ByteArray) : Ct := ⟨151, [], [ls s], [], .sv (lb (isStr s))⟩
def lc_sStringLa (s : ByteArray) : Lp Nat := .mk 29 0 (fun x => [(0, ls s), (3, hs x 0)]) (fun x => []) (fun k => [.s (li (↑k : Int))]) (fun k => k ≤ s.size ∧ ((List.take k
 s.data.toList).all fun b => isStB (↑b.toNat : Int)) = true) (fun k => s.size - k) [.mk ((s.data.toList.all fun b => isStB (↑b.toNat : Int)) = true) (.exit 0) (fun x => [(0, ls
 s)]) (fun x => []) [], .mk ((s.data.toList.all fun b => isStB (↑b.toNat : Int)) = false) .ret (fun x => [(2, hs x 0)]) (fun x => []) [.s (lb false)]]
theorem Sc_sStringLa (s : ByteArray) : Lp.Sem Tryz.prog (loopAt Tryz.f151 0) (lc_sStringLa s) := lpOK (fun k => .h (s.data.toList.length ≤ 9223372036854775807) (.i ((↑k : Int) <
 (↑s.data.toList.length : Int)) (.p (0 ≤ (↑k : Int) ∧ (↑k : Int).toNat < s.data.toList.length) (.i ((↑(s.data.toList.getD (↑k : Int).toNat (0 : UInt8)).toNat : Int) < 32) (.y true
 (.y true (.o 1 [] [.s (lb false)]))) (.p (0 ≤ (↑k : Int) ∧ (↑k : Int).toNat < s.data.toList.length) (.i (126 < (↑(s.data.toList.getD (↑k : Int).toNat (0 : UInt8)).toNat : Int))
 (.y true (.o 1 [] [.s (lb false)])) (.p (0 ≤ (↑k : Int) ∧ (↑k : Int).toNat < s.data.toList.length) (.i ((↑(s.data.toList.getD (↑k : Int).toNat (0 : UInt8)).toNat : Int) = 34) (.o
 1 [] [.s (lb false)]) (.r ((↑k : Int) + 1) (.g [] (k + 1) [.s (li ((↑k : Int) + 1))])))))))) (.o 0 [] []))) (by
  intro k h; try dsimp only [teasy, nthW, lc_sStringLa] at h ⊢
  have g1 := @all_stop s.data.toList (fun b => isStB b.toNat) k
  have g2 := @all_go s.data.toList (fun b => isStB b.toNat) k
  have g3 := @all_all s.data.toList (fun b => isStB b.toNat) k
  with_reducible repeat' (first | apply And.intro | exact zR | (intro; skip))
  all_goals (try simp only [std, inj] at *)
  all_goals with_reducible repeat' apply And.intro
  all_goals (try (first | exact z | grind [isStB, snocI, snocS, rowSnoc])))
theorem c_sString (s : ByteArray)  : P_c_sString s := fnOK Tryz.call151 Tryz.func151 (.l (lc_sStringLa s) (Sc_sStringLa s) [] [.s (li 0)] 0 (.t (.h (s.data.toList.length ≤
 9223372036854775807) (.s (lb (decide ((↑s.data.toList.length : Int) ≤ 20))))) (.t (.s (lb false)) .q))) (by
  dsimp only [teasy, P_c_sString, nthW, lc_sStringLa]
  with_reducible repeat' (first | apply And.intro | exact zR | (intro; skip))
  all_goals (try simp only [std, inj] at *)
  all_goals with_reducible repeat' apply And.intro
  all_goals (try (first | exact z | grind [isStr, snocI, snocS, rowSnoc])))
abbrev P_c_iString (s : ByteArray) : Ct := ⟨158, [], [ls s], [], .sv (lb (isStr s))⟩
def lc_iStringLa (s : ByteArray) : Lp Nat := .mk 29 0 (fun x => [(0, ls s), (3, hs x 0)]) (fun x => []) (fun k => [.s (li (↑k : Int))]) (fun k => k ≤ s.size ∧ ((List.take k
 s.data.toList).all fun b => isStB (↑b.toNat : Int)) = true) (fun k => s.size - k) [.mk ((s.data.toList.all fun b => isStB (↑b.toNat : Int)) = true) (.exit 0) (fun x => []) (fun x
 => []) [], .mk ((s.data.toList.all fun b => isStB (↑b.toNat : Int)) = false) .ret (fun x => [(2, hs x 0)]) (fun x => []) [.s (lb false)]]
theorem Sc_iStringLa (s : ByteArray) : Lp.Sem Tryz.prog (loopAt Tryz.f158 0) (lc_iStringLa s) := lpOK (fun k => .h (s.data.toList.length ≤ 9223372036854775807) (.i ((↑k : Int) <
 (↑s.data.toList.length : Int)) (.p (0 ≤ (↑k : Int) ∧ (↑k : Int).toNat < s.data.toList.length) (.i ((↑(s.data.toList.getD (↑k : Int).toNat (0 : UInt8)).toNat : Int) < 32) (.y true
 (.y true (.o 1 [] [.s (lb false)]))) (.p (0 ≤ (↑k : Int) ∧ (↑k : Int).toNat < s.data.toList.length) (.i (126 < (↑(s.data.toList.getD (↑k : Int).toNat (0 : UInt8)).toNat : Int))
 (.y true (.o 1 [] [.s (lb false)])) (.p (0 ≤ (↑k : Int) ∧ (↑k : Int).toNat < s.data.toList.length) (.i ((↑(s.data.toList.getD (↑k : Int).toNat (0 : UInt8)).toNat : Int) = 34) (.o
 1 [] [.s (lb false)]) (.r ((↑k : Int) + 1) (.g [] (k + 1) [.s (li ((↑k : Int) + 1))])))))))) (.o 0 [] []))) (by
  intro k h; try dsimp only [teasy, nthW, lc_iStringLa] at h ⊢
  have g1 := @all_stop s.data.toList (fun b => isStB b.toNat) k
  have g2 := @all_go s.data.toList (fun b => isStB b.toNat) k
  have g3 := @all_all s.data.toList (fun b => isStB b.toNat) k
  with_reducible repeat' (first | apply And.intro | exact zR | (intro; skip))
  all_goals (try simp only [std, inj] at *)
  all_goals with_reducible repeat' apply And.intro
  all_goals (try (first | exact z | grind [isStB, snocI, snocS, rowSnoc])))
theorem c_iString (s : ByteArray)  : P_c_iString s := fnOK Tryz.call158 Tryz.func158 (.h (s.data.toList.length ≤ 9223372036854775807) (.i (20 < (↑s.data.toList.length : Int)) (.s (lb
 false)) (.l (lc_iStringLa s) (Sc_iStringLa s) [] [.s (li 0)] 0 (.t (.s (lb true)) (.t (.s (lb false)) .q))))) (by
  dsimp only [teasy, P_c_iString, nthW, lc_iStringLa]
  with_reducible repeat' (first | apply And.intro | exact zR | (intro; skip))
  all_goals (try simp only [std, inj] at *)
  all_goals with_reducible repeat' apply And.intro
  all_goals (try (first | exact z | grind [isStr, snocI, snocS, rowSnoc])))
def nodD (k n : Int) (t : ByteArray) (i : Int) : Bool := decide (k = 0 ∧ n = 0 ∧ t.data.toList = []) || decide (k = 1 ∧ n = 0 ∧ isSym t = true ∧ i = 0) || decide (k = 2 ∧ -999999999 ≤ n ∧ n ≤ 999999999 ∧ t.data.toList = [] ∧ i = 0) || decide (k = 3 ∧ 0 ≤ n ∧ n ≤ 1 ∧ t.data.toList = [] ∧ i = 0) || decide (k = 4 ∧ n = 0 ∧ isStr t = true ∧ i = 0)
abbrev P_c_sNode (k : Int) (n : Int) (t : ByteArray) (i : Int) : Ct := ⟨129, [], [li k, li n, ls t, li i], [], .sv (lb (nodD k n t i))⟩
theorem c_sNode (k n : Int) (t : ByteArray) (i : Int)  : P_c_sNode k n t i := fnOK Tryz.call129 Tryz.func129 (.i (k = 0) (.i (n = 0) (.s (lb (decide (t.data.toList = [])))) (.s (lb
 false))) (.i (k = 1) (.i (n = 0) (.c [.rd] (c_sIsSymbol t) (.b (isSym t) (.s (lb (decide (i = 0)))) (.s (lb false)))) (.y false (.s (lb false)))) (.i (k = 2) (.c [.rd, .rd, .rd]
 (c_l1In n (-999999999 : Int) 999999999) (.i ((-999999999 : Int) ≤ n ∧ n ≤ 999999999) (.i (t.data.toList = []) (.s (lb (decide (i = 0)))) (.s (lb false))) (.y false (.s (lb
 false))))) (.i (k = 3) (.c [.rd, .rd, .rd] (c_l1In n 0 1) (.i (0 ≤ n ∧ n ≤ 1) (.i (t.data.toList = []) (.s (lb (decide (i = 0)))) (.s (lb false))) (.y false (.s (lb false))))) (.i
 (k = 4) (.i (n = 0) (.c [.rd] (c_sString t) (.b (isStr t) (.s (lb (decide (i = 0)))) (.s (lb false)))) (.y false (.s (lb false)))) (.s (lb false))))))) (by
  dsimp only [teasy, P_c_sNode]
  with_reducible repeat' (first | apply And.intro | exact zR | (intro; skip))
  all_goals (try simp only [std, inj] at *)
  all_goals with_reducible repeat' apply And.intro
  all_goals (try (first | exact z | grind [nodD, snocI, snocS, rowSnoc])))
abbrev P_c_iNode (k : Int) (n : Int) (t : ByteArray) (i : Int) : Ct := ⟨134, [], [li k, li n, ls t, li i], [], .sv (lb (nodD k n t i))⟩
theorem c_iNode (k n : Int) (t : ByteArray) (i : Int)  : P_c_iNode k n t i := fnOK Tryz.call134 Tryz.func134 (.i (k = 0) (.i (n = 0) (.s (lb (decide (t.data.toList = [])))) (.s (lb
 false))) (.i (k = 1) (.i (n = 0) (.i (i = 0) (.c [.rd] (c_iIsSymbol t) (.s (lb (isSym t)))) (.s (lb false))) (.y false (.s (lb false)))) (.i (k = 2) (.i ((-999999999 : Int) ≤ n)
 (.i (n ≤ 999999999) (.i (t.data.toList = []) (.s (lb (decide (i = 0)))) (.s (lb false))) (.y false (.s (lb false)))) (.y false (.y false (.s (lb false))))) (.i (k = 3) (.i (n = 0)
 (.y true (.i (t.data.toList = []) (.s (lb (decide (i = 0)))) (.s (lb false)))) (.i (n = 1) (.i (t.data.toList = []) (.s (lb (decide (i = 0)))) (.s (lb false))) (.y false (.s (lb
 false))))) (.i (k = 4) (.i (n = 0) (.i (i = 0) (.c [.rd] (c_iString t) (.s (lb (isStr t)))) (.s (lb false))) (.y false (.s (lb false)))) (.s (lb false))))))) (by
  dsimp only [teasy, P_c_iNode]
  with_reducible repeat' (first | apply And.intro | exact zR | (intro; skip))
  all_goals (try simp only [std, inj] at *)
  all_goals with_reducible repeat' apply And.intro
  all_goals (try (first | exact z | grind [nodD, snocI, snocS, rowSnoc])))
mutual
def sizeD : Datum → Nat
  | ⟨_, _, _, l⟩ => sizeDs l + 1
def sizeDs : List Datum → Nat
  | [] => 0
  | c :: r => sizeD c + sizeDs r
end
theorem sizeDs_eq : ∀ l, sizeDs l = sumBy sizeD l
  | [] => by simp [sizeDs, sumBy]
  | c :: r => by rw [sizeDs, sumBy, sizeDs_eq r]
theorem sizeD_eq (c : Datum) : sizeD c = sumBy sizeD c.items + 1 := by cases c; simp only [sizeD, sizeDs_eq]
mutual
def depD : Datum → Nat
  | ⟨_, _, _, l⟩ => depDs l + 1
def depDs : List Datum → Nat
  | [] => 0
  | c :: r => max (depD c) (depDs r)
end
theorem depDs_eq : ∀ l, depDs l = maxBy depD l
  | [] => by simp [depDs, maxBy]
  | c :: r => by rw [depDs, maxBy, depDs_eq r]
theorem depD_eq (c : Datum) : depD c = maxBy depD c.items + 1 := by cases c; simp only [depD, depDs_eq]
theorem depD_le : ∀ c : Datum, depD c ≤ sizeD c := by
  refine Datum.ind fun c ih => ?_
  have := maxBy_sum ih
  rw [sizeD_eq, depD_eq]; omega
mutual
def okD : Datum → Bool
  | ⟨k, n, t, l⟩ => okDs l && nodD k n t l.length
def okDs : List Datum → Bool
  | [] => true
  | c :: r => okD c && okDs r
end
theorem okDs_eq : ∀ l, okDs l = l.all okD
  | [] => by simp [okDs]
  | c :: r => by rw [okDs, okDs_eq r]; rfl
theorem okD_eq (c : Datum) : okD c = (c.items.all okD && nodD c.kind c.number c.text c.items.length) := by cases c; simp only [okD, okDs_eq]
def isDat (d : Datum) : Bool := decide (sizeD d ≤ 600) && decide (depD d ≤ 20) && okD d
mutual
def meaD : Datum → Int → Int → Bool × Int
  | ⟨k, n, t, l⟩, deep, m => if deep ≤ 20 ∧ m + 1 ≤ 600 ∧ nodD k n t l.length = true then meaDs l (deep + 1) (m + 1) else (false, m + 1)
def meaDs : List Datum → Int → Int → Bool × Int
  | [], _, m => (true, m)
  | x :: r, deep, m => if (meaD x deep m).1 then meaDs r deep (meaD x deep m).2 else (false, (meaD x deep m).2)
end
theorem meaDs_eq : ∀ l deep m, meaDs l deep m = scan (fun x m => meaD x deep m) l m
  | [], _, _ => by simp [meaDs, scan]
  | x :: r, deep, m => by simp only [meaDs, scan, meaDs_eq r]
theorem meaD_eq (c : Datum) (deep m : Int) : meaD c deep m = if deep ≤ 20 ∧ m + 1 ≤ 600 ∧ nodD c.kind c.number c.text c.items.length = true then scan (fun x m => meaD x (deep + 1) m) c.items (m + 1) else (false, m + 1) := by cases c; simp only [meaD, meaDs_eq]
theorem meaD_of : ∀ (c : Datum) (deep m : Int), m ≤ 600 → ((meaD c deep m).1 = true ↔ (m + sizeD c ≤ 600 ∧ (deep + depD c ≤ 21 ∧ okD c = true))) ∧ ((meaD c deep m).1 = true → (meaD c deep m).2 = m + sizeD c) := by
  refine Datum.ind fun c ih deep m hm => ?_
  rw [meaD_eq, sizeD_eq, depD_eq, okD_eq, Bool.and_eq_true, List.all_eq_true]
  by_cases h : deep ≤ 20 ∧ m + 1 ≤ 600 ∧ nodD c.kind c.number c.text c.items.length = true
  · rw [if_pos h]
    have h1 := scan_of (fun x m => meaD x (deep + 1) m) sizeD (fun x => deep + 1 + depD x ≤ 21 ∧ okD x = true) 600 c.items (fun x hx m hm => ih x hx (deep + 1) m hm) (m + 1) h.2.1
    have h2 := maxBy_le depD (m := (20 - deep).toNat) (L := c.items)
    constructor
    · rw [h1.1]
      constructor
      · rintro ⟨a, b⟩
        have := h2.2 fun x hx => by have := (b x hx).1; omega
        exact ⟨by omega, by omega, fun x hx => (b x hx).2, h.2.2⟩
      · rintro ⟨a, b, d, e⟩
        have := h2.1 (by omega)
        exact ⟨by omega, fun x hx => ⟨by have := this x hx; omega, d x hx⟩⟩
    · intro ht; rw [h1.2 ht]; omega
  · rw [if_neg h]
    refine ⟨⟨fun e => Bool.noConfusion e, ?_⟩, fun e => Bool.noConfusion e⟩
    rintro ⟨a, b, d, e⟩
    exact absurd ⟨by omega, by omega, e⟩ h
theorem meaD_isDat (d : Datum) : (meaD d 1 0).1 = isDat d := by
  have h := (meaD_of d 1 0 (by decide)).1
  rw [Bool.eq_iff_iff, h]
  simp only [isDat, Bool.and_eq_true, decide_eq_true_eq, and_assoc]
  constructor
  · rintro ⟨a, b, e⟩; exact ⟨by omega, by omega, e⟩
  · rintro ⟨a, b, e⟩; exact ⟨by omega, by omega, e⟩
abbrev P_c_sFewD (d : Datum) (l : Int) : Ct := ⟨176, [.box [vI l]], [datumA d, .one (.ptr 0 0)], [.box [vI (max (l - sizeD d) (-1))]], .sv (lb (decide (sizeD d ≤ l)))⟩
def lc_sFewD_sLa (d : Datum) (l : Int) : Lp Nat := .mk 36 1 (fun x => [(1, SV.one (AC.ptr 0 0)), (2, SV.one (AC.ptr 1 0)), (5, hs x 0)]) (fun x => [Ob.box [ha x 1], Ob.box (vals
 (datumF d))]) (fun k => [.s (li (↑k : Int)), .a (vI (max (l - 1 - (↑(sumBy sizeD (List.take k d.items)) : Int)) (-1 : Int)))]) (fun k => d.items.length ≥ k) (fun k =>
 d.items.length - k) [.mk True (.exit 0) (fun x => [(1, SV.one (AC.ptr 0 0))]) (fun x => [Ob.box [ha x 0]]) [.a (vI (max (l - (↑(sizeD d) : Int)) (-1 : Int)))]]
theorem Sc_sFewD_sLa (d : Datum) (l : Int) (h : 0 ≤ l ∧ l ≤ 1000000) (ih : ∀ (z : Datum), z ∈ d.items → ∀ (l : Int), 0 ≤ l ∧ l ≤ 1000000 → OK (P_c_sFewD z l)) : Lp.Sem Tryz.prog
 (loopAt Tryz.f176 0) (lc_sFewD_sLa d l) := lpOK (fun k => .z datumC d.items (.i ((↑k : Int) < (↑(List.map datumC d.items).length : Int)) (.i (0 ≤ max (l - 1 - (↑(sumBy sizeD
 (List.take k d.items)) : Int)) (-1 : Int)) (.x (↑k : Int) (List.map datumC d.items) (datumF (d.items.getD k default)) (.d [.rd, .ptr] (P_c_sFewD (d.items.getD k default) (max (l -
 1 - (↑(sumBy sizeD (List.take k d.items)) : Int)) (-1 : Int))) (.r ((↑k : Int) + 1) (.g [0, 1] (k + 1) [.s (li ((↑k : Int) + 1)), .a (vI (max (max (l - 1 - (↑(sumBy sizeD
 (List.take k d.items)) : Int)) (-1 : Int) - (↑(sizeD (d.items.getD k default)) : Int)) (-1 : Int)))])))) (.o 0 [0] [.a (vI (max (l - 1 - (↑(sumBy sizeD (List.take k d.items)) :
 Int)) (-1 : Int)))])) (.y false (.o 0 [0] [.a (vI (max (l - 1 - (↑(sumBy sizeD (List.take k d.items)) : Int)) (-1 : Int)))])))) (by
  intro k h; try dsimp only [teasy, nthW, lc_sFewD_sLa] at h ⊢
  have g1 := sizeD_eq d
  have g2 := sumBy_takeLe sizeD d.items k
  have g3 := @sumBy_step _ _ sizeD d.items k
  with_reducible repeat' (first | apply And.intro | exact zR | exact ih | (intro; skip) | apply ih)
  all_goals (try simp only [std, inj] at *)
  all_goals with_reducible repeat' apply And.intro
  all_goals (try (first | with_reducible apply ih | (simp only [← List.map_append]; first | with_reducible apply ih)))
  all_goals (try (first | exact z | grind [getD_mem', snocI, snocS, rowSnoc])))
theorem c_sFewD_s (d : Datum) (l : Int) (h : 0 ≤ l ∧ l ≤ 1000000) (ih : ∀ z ∈ d.items, ∀ (l : Int) (h : 0 ≤ l ∧ l ≤ 1000000), P_c_sFewD z l)  : P_c_sFewD d l := fnOK Tryz.call176
 Tryz.func176 (.r (l - 1) (.l (lc_sFewD_sLa d l) (Sc_sFewD_sLa d l h ih) [0, 1] [.s (li 0), .a (vI (l - 1))] 0 (.t (.f [] [Ob.box [vI (max (l - (↑(sizeD d) : Int)) (-1 : Int))]]
 (AV.sv (lb (decide (0 ≤ max (l - (↑(sizeD d) : Int)) (-1 : Int)))))) .q))) (by
  dsimp only [teasy, P_c_sFewD, nthW, lc_sFewD_sLa]
  have g1 := sizeD_eq d
  have g2 : sumBy sizeD (d.items.take 0) = 0 := rfl
  with_reducible repeat' (first | apply And.intro | exact zR | exact ih | (intro; skip))
  all_goals (try simp only [std, inj] at *)
  all_goals with_reducible repeat' apply And.intro
  all_goals (try (first | with_reducible apply ih | (simp only [← List.map_append]; first | with_reducible apply ih)))
  all_goals (try (first | exact z | grind [snocI, snocS, rowSnoc])))
theorem c_sFewD (d : Datum) : ∀ (l : Int) (h : 0 ≤ l ∧ l ≤ 1000000), P_c_sFewD d l := Datum.ind (P := fun d => ∀ (l : Int) (h : 0 ≤ l ∧ l ≤ 1000000), P_c_sFewD d l) (fun d ih l h => c_sFewD_s d l h ih) d
abbrev P_c_sDepD (d : Datum) : Ct := ⟨177, [], [datumA d], [], .sv (li (depD d))⟩
def lc_sDepD_sLa (d : Datum) : Lp Nat := .mk 20 0 (fun x => [(3, hs x 1), (7, ll (List.map datumC d.items)), (8, li (↑(List.map datumC d.items).length : Int)), (9, hs x 0)]) (fun x
 => []) (fun k => [.s (li (↑k : Int)), .s (li (↑(maxBy depD (List.take k d.items)) : Int))]) (fun k => k ≤ d.items.length ∧ d.items.length ≤ 9223372036854775807) (fun k =>
 d.items.length - k) [.mk True (.exit 0) (fun x => [(3, hs x 0)]) (fun x => []) [.s (li (↑(maxBy depD d.items) : Int))]]
theorem Sc_sDepD_sLa (d : Datum) (h : sizeD d ≤ 2147483647) (ih : ∀ (z : Datum), z ∈ d.items → sizeD z ≤ 2147483647 → OK (P_c_sDepD z)) : Lp.Sem Tryz.prog (loopAt Tryz.f177 0)
 (lc_sDepD_sLa d) := lpOK (fun k => .i ((↑k : Int) < (↑(List.map datumC d.items).length : Int)) (.x (↑k : Int) (List.map datumC d.items) (datumF (d.items.getD k default)) (.d [.rd]
 (P_c_sDepD (d.items.getD k default)) (.r ((↑k : Int) + 1) (.g [] (k + 1) [.s (li ((↑k : Int) + 1)), .s (li (max (↑(maxBy depD (List.take k d.items)) : Int) (↑(depD (d.items.getD k
 default)) : Int)))])))) (.o 0 [] [.s (li (↑(maxBy depD (List.take k d.items)) : Int))])) (by
  intro k h; try dsimp only [teasy, nthW, lc_sDepD_sLa] at h ⊢
  have g1 := sizeD_eq d
  have g2 := @sumBy_mem _ sizeD d.items (d.items.getD k default)
  with_reducible repeat' (first | apply And.intro | exact zR | exact ih | (intro; skip) | apply ih)
  all_goals (try simp only [std, inj] at *)
  all_goals with_reducible repeat' apply And.intro
  all_goals (try (first | with_reducible apply ih | (simp only [← List.map_append]; first | with_reducible apply ih)))
  all_goals (try (first | exact z | grind [maxBy_step, getD_mem', snocI, snocS, rowSnoc])))
theorem c_sDepD_s (d : Datum) (h : sizeD d ≤ 2147483647) (ih : ∀ z ∈ d.items, ∀ (h : sizeD z ≤ 2147483647), P_c_sDepD z)  : P_c_sDepD d := fnOK Tryz.call177 Tryz.func177 (.z datumC
 d.items (.l (lc_sDepD_sLa d) (Sc_sDepD_sLa d h ih) [] [.s (li 0), .s (li 0)] 0 (.t (.r ((↑(maxBy depD d.items) : Int) + 1) (.s (li ((↑(maxBy depD d.items) : Int) + 1)))) .q))) (by
  dsimp only [teasy, P_c_sDepD, nthW, lc_sDepD_sLa]
  have h1 := depD_le d
  have g2 : maxBy depD (d.items.take 0) = 0 := rfl
  with_reducible repeat' (first | apply And.intro | exact zR | exact ih | (intro; skip))
  all_goals (try simp only [std, inj] at *)
  all_goals with_reducible repeat' apply And.intro
  all_goals (try (first | with_reducible apply ih | (simp only [← List.map_append]; first | with_reducible apply ih)))
  all_goals (try (first | exact z | grind [depD_eq, snocI, snocS, rowSnoc])))
theorem c_sDepD (d : Datum) : ∀ (h : sizeD d ≤ 2147483647), P_c_sDepD d := Datum.ind (P := fun d => ∀ (h : sizeD d ≤ 2147483647), P_c_sDepD d) (fun d ih h => c_sDepD_s d h ih) d
abbrev P_c_sOkD (d : Datum) : Ct := ⟨178, [], [datumA d], [], .sv (lb (okD d))⟩
def lc_sOkD_sLa (d : Datum) : Lp Nat := .mk 26 0 (fun x => [(1, SV.one (AC.ptr 0 0)), (6, ll (List.map datumC d.items)), (7, li (↑(List.map datumC d.items).length : Int)), (8, hs x
 0)]) (fun x => [Ob.box (vals (datumF d))]) (fun k => [.s (li (↑k : Int))]) (fun k => k ≤ d.items.length ∧ d.items.length ≤ 9223372036854775807 ∧ (List.take k d.items).all okD =
 true) (fun k => d.items.length - k) [.mk (d.items.all okD = true) (.exit 0) (fun x => [(1, SV.one (AC.ptr 0 0))]) (fun x => [Ob.box (vals (datumF d))]) [], .mk (d.items.all okD =
 false) .ret (fun x => [(2, hs x 0)]) (fun x => []) [.s (lb false)]]
theorem Sc_sOkD_sLa (d : Datum) (ih : ∀ (z : Datum), z ∈ d.items → OK (P_c_sOkD z)) : Lp.Sem Tryz.prog (loopAt Tryz.f178 0) (lc_sOkD_sLa d) := lpOK (fun k => .i ((↑k : Int) <
 (↑(List.map datumC d.items).length : Int)) (.x (↑k : Int) (List.map datumC d.items) (datumF (d.items.getD k default)) (.d [.rd] (P_c_sOkD (d.items.getD k default)) (.b (!okD
 (d.items.getD k default)) (.o 1 [] [.s (lb false)]) (.r ((↑k : Int) + 1) (.g [0] (k + 1) [.s (li ((↑k : Int) + 1))]))))) (.o 0 [0] [])) (by
  intro k h; try dsimp only [teasy, nthW, lc_sOkD_sLa] at h ⊢
  with_reducible repeat' (first | apply And.intro | exact zR | exact ih | (intro; skip) | apply ih)
  all_goals (try simp only [std, inj] at *)
  all_goals with_reducible repeat' apply And.intro
  all_goals (try (first | with_reducible apply ih | (simp only [← List.map_append]; first | with_reducible apply ih)))
  all_goals (try (first | exact z | grind [take_get, getD_mem', snocI, snocS, rowSnoc])))
theorem c_sOkD_s (d : Datum) (ih : ∀ z ∈ d.items, P_c_sOkD z)  : P_c_sOkD d := fnOK Tryz.call178 Tryz.func178 (.z datumC d.items (.l (lc_sOkD_sLa d) (Sc_sOkD_sLa d ih) [0] [.s (li
 0)] 0 (.t (.z datumC d.items (.c [.rd, .rd, .rd, .rd] (c_sNode d.kind d.number d.text (↑(List.map datumC d.items).length : Int)) (.s (lb (nodD d.kind d.number d.text (↑(List.map
 datumC d.items).length : Int)))))) (.t (.s (lb false)) .q)))) (by
  dsimp only [teasy, P_c_sOkD, nthW, lc_sOkD_sLa]
  with_reducible repeat' (first | apply And.intro | exact zR | exact ih | (intro; skip))
  all_goals (try simp only [std, inj] at *)
  all_goals with_reducible repeat' apply And.intro
  all_goals (try (first | with_reducible apply ih | (simp only [← List.map_append]; first | with_reducible apply ih)))
  all_goals (try (first | exact z | grind [okD_eq, snocI, snocS, rowSnoc])))
theorem c_sOkD (d : Datum) : P_c_sOkD d := Datum.ind (P := fun d => P_c_sOkD d) (fun d ih => c_sOkD_s d ih) d
abbrev P_c_sIsDatum (d : Datum) : Ct := ⟨165, [], [datumA d], [], .sv (lb (isDat d))⟩
theorem c_sIsDatum (d : Datum)  : P_c_sIsDatum d := fnOK Tryz.call165 Tryz.func165 (.d [.rd, .ptr] (P_c_sFewD d 600) (.i ((↑(sizeD d) : Int) ≤ 600) (.d [.rd] (P_c_sDepD d) (.i
 ((↑(depD d) : Int) ≤ 20) (.c [.rd] (c_sOkD d) (.s (lb (okD d)))) (.s (lb false)))) (.y false (.s (lb false))))) (by
  dsimp only [teasy, P_c_sIsDatum]
  with_reducible repeat' (first | apply And.intro | exact zR | (intro; skip) | apply c_sFewD | apply c_sDepD)
  all_goals (try simp only [std, inj] at *)
  all_goals with_reducible repeat' apply And.intro
  all_goals (try (first | with_reducible apply c_sFewD | with_reducible apply c_sDepD | (simp only [← List.map_append]; first | with_reducible apply c_sFewD | with_reducible apply c_sDepD)))
  all_goals (try (first | exact z | grind [isDat, snocI, snocS, rowSnoc])))
abbrev P_c_iMeaD (d : Datum) (deep : Int) (q : Int) : Ct := ⟨168, [.box [vI q]], [datumA d, li deep, .one (.ptr 0 0)], [.box [vI (meaD d deep q).2]], .sv (lb (meaD d deep q).1)⟩
def lc_iMeaD_sLa (d : Datum) (deep : Int) (q : Int) : Lp Nat := .mk 49 1 (fun x => [(1, li deep), (2, SV.one (AC.ptr 0 0)), (36, ll (List.map datumC d.items)), (37, li (↑(List.map
 datumC d.items).length : Int)), (38, hs x 0)]) (fun x => [Ob.box [ha x 1]]) (fun k => [.s (li (↑k : Int)), .a (vI (scan (fun x m => meaD x (deep + 1) m) (List.take k d.items) (q +
 1)).snd)]) (fun k => k ≤ d.items.length ∧ d.items.length ≤ 9223372036854775807 ∧ deep ≤ 20 ∧ (scan (fun x m => meaD x (deep + 1) m) (List.take k d.items) (q + 1)).fst = true ∧ q ≤
 (scan (fun x m => meaD x (deep + 1) m) (List.take k d.items) (q + 1)).snd ∧ (scan (fun x m => meaD x (deep + 1) m) (List.take k d.items) (q + 1)).snd ≤ 600) (fun k =>
 d.items.length - k) [.mk ((scan (fun x m => meaD x (deep + 1) m) d.items (q + 1)).fst = true) (.exit 0) (fun x => []) (fun x => [Ob.box [ha x 0]]) [.a (vI (scan (fun x m => meaD x
 (deep + 1) m) d.items (q + 1)).snd)], .mk ((scan (fun x m => meaD x (deep + 1) m) d.items (q + 1)).fst = false) .ret (fun x => [(6, hs x 0)]) (fun x => [Ob.box [ha x 1]]) [.s (lb
 false), .a (vI (scan (fun x m => meaD x (deep + 1) m) d.items (q + 1)).snd)]]
theorem Sc_iMeaD_sLa (d : Datum) (deep : Int) (q : Int) (h : 0 ≤ deep ∧ deep ≤ 21 ∧ 0 ≤ q ∧ q ≤ 600) (ih : ∀ (z : Datum), z ∈ d.items → ∀ (deep q : Int), 0 ≤ deep ∧ deep ≤ 21 ∧ 0 ≤
 q ∧ q ≤ 600 → OK (P_c_iMeaD z deep q)) : Lp.Sem Tryz.prog (loopAt Tryz.f168 0) (lc_iMeaD_sLa d deep q) := lpOK (fun k => .i ((↑k : Int) < (↑(List.map datumC d.items).length :
 Int)) (.x (↑k : Int) (List.map datumC d.items) (datumF (d.items.getD k default)) (.r (deep + 1) (.d [.rd, .rd, .ptr] (P_c_iMeaD (d.items.getD k default) (deep + 1) (scan (fun x m
 => meaD x (deep + 1) m) (List.take k d.items) (q + 1)).snd) (.b (!(meaD (d.items.getD k default) (deep + 1) (scan (fun x m => meaD x (deep + 1) m) (List.take k d.items) (q +
 1)).snd).fst) (.o 1 [0] [.s (lb false), .a (vI (meaD (d.items.getD k default) (deep + 1) (scan (fun x m => meaD x (deep + 1) m) (List.take k d.items) (q + 1)).snd).snd)]) (.r ((↑k
 : Int) + 1) (.g [0] (k + 1) [.s (li ((↑k : Int) + 1)), .a (vI (meaD (d.items.getD k default) (deep + 1) (scan (fun x m => meaD x (deep + 1) m) (List.take k d.items) (q +
 1)).snd).snd)])))))) (.o 0 [0] [.a (vI (scan (fun x m => meaD x (deep + 1) m) (List.take k d.items) (q + 1)).snd)])) (by
  intro k h; try dsimp only [teasy, nthW, lc_iMeaD_sLa] at h ⊢
  have g1 := fun x m => meaD_of x (deep + 1) m
  with_reducible repeat' (first | apply And.intro | exact zR | exact ih | (intro; skip) | apply ih)
  all_goals (try simp only [std, inj] at *)
  all_goals with_reducible repeat' apply And.intro
  all_goals (try (first | with_reducible apply ih | (simp only [← List.map_append]; first | with_reducible apply ih)))
  all_goals (try (first | exact z | grind [scan_step, scan_stop, getD_mem', snocI, snocS, rowSnoc])))
theorem c_iMeaD_s (d : Datum) (deep q : Int) (h : 0 ≤ deep ∧ deep ≤ 21 ∧ 0 ≤ q ∧ q ≤ 600) (ih : ∀ z ∈ d.items, ∀ (deep : Int) (q : Int) (h : 0 ≤ deep ∧ deep ≤ 21 ∧ 0 ≤ q ∧ q ≤
 600), P_c_iMeaD z deep q)  : P_c_iMeaD d deep q := fnOK Tryz.call168 Tryz.func168 (.r (q + 1) (.i (20 < deep) (.y true (.y true (.f [] [Ob.box [vI (q + 1)]] (AV.sv (lb false)))))
 (.i (600 < q + 1) (.y true (.f [] [Ob.box [vI (q + 1)]] (AV.sv (lb false)))) (.z datumC d.items (.c [.rd, .rd, .rd, .rd] (c_iNode d.kind d.number d.text (↑(List.map datumC
 d.items).length : Int)) (.b (!nodD d.kind d.number d.text (↑(List.map datumC d.items).length : Int)) (.f [] [Ob.box [vI (q + 1)]] (AV.sv (lb false))) (.z datumC d.items (.l
 (lc_iMeaD_sLa d deep q) (Sc_iMeaD_sLa d deep q h ih) [0] [.s (li 0), .a (vI (q + 1))] 0 (.t (.f [] [Ob.box [vI (scan (fun x m => meaD x (deep + 1) m) d.items (q + 1)).snd]] (AV.sv
 (lb true))) (.t (.f [] [Ob.box [vI (scan (fun x m => meaD x (deep + 1) m) d.items (q + 1)).snd]] (AV.sv (lb false))) .q)))))))))) (by
  dsimp only [teasy, P_c_iMeaD, nthW, lc_iMeaD_sLa]
  with_reducible repeat' (first | apply And.intro | exact zR | exact ih | (intro; skip))
  all_goals (try simp only [std, inj] at *)
  all_goals with_reducible repeat' apply And.intro
  all_goals (try (first | with_reducible apply ih | (simp only [← List.map_append]; first | with_reducible apply ih)))
  all_goals (try (first | exact z | grind [meaD_eq, scan, snocI, snocS, rowSnoc])))
theorem c_iMeaD (d : Datum) : ∀ (deep : Int) (q : Int) (h : 0 ≤ deep ∧ deep ≤ 21 ∧ 0 ≤ q ∧ q ≤ 600), P_c_iMeaD d deep q := Datum.ind (P := fun d => ∀ (deep : Int) (q : Int) (h : 0 ≤ deep ∧ deep ≤ 21 ∧ 0 ≤ q ∧ q ≤ 600), P_c_iMeaD d deep q) (fun d ih deep q h => c_iMeaD_s d deep q h ih) d
abbrev P_c_iIsDatum (d : Datum) : Ct := ⟨149, [], [datumA d], [], .sv (lb (isDat d))⟩
theorem c_iIsDatum (d : Datum)  : P_c_iIsDatum d := fnOK Tryz.call149 Tryz.func149 (.d [.rd, .rd, .ptr] (P_c_iMeaD d 1 0) (.s (lb (meaD d 1 0).fst))) (by
  dsimp only [teasy, P_c_iIsDatum]
  with_reducible repeat' (first | apply And.intro | exact zR | (intro; skip) | apply c_iMeaD)
  all_goals (try simp only [std, inj] at *)
  all_goals with_reducible repeat' apply And.intro
  all_goals (try (first | with_reducible apply c_iMeaD | (simp only [← List.map_append]; first | with_reducible apply c_iMeaD)))
  all_goals (try (first | exact z | grind [meaD_isDat, snocI, snocS, rowSnoc])))
end Go.Proofs.YtgeegppaaggcjaaGreatDoor
end
section
namespace Go.Proofs.YtgeegppaaggcjaaGreatDoor
open Go Go.Proofs.YtgeegppaaggcjaaGreatDoor.Ab
set_option linter.unusedVariables false
theorem dec_one {u : Nat} (h : u < 10) : Lib.decDigits u = [UInt8.ofNat (48 + u)] := by rw [Lib.decDigits, dif_pos h]
theorem dec_more {u : Nat} (h : ¬ u < 10) : Lib.decDigits u = Lib.decDigits (u / 10) ++ [UInt8.ofNat (48 + u % 10)] := by rw [Lib.decDigits, dif_neg h]
theorem dec_len : ∀ (k u : Nat), u < 10 ^ (k + 1) → (Lib.decDigits u).length ≤ k + 1
  | k, u, h => by
    by_cases hu : u < 10
    · rw [dec_one hu]; simp
    · cases k with
      | zero => exact absurd (by simpa using h) hu
      | succ k =>
        have := dec_len k (u / 10) (by rw [Nat.pow_succ] at h; omega)
        rw [dec_more hu]; simp only [List.length_append, List.length_cons, List.length_nil]; omega
theorem dig_one {d : Nat} (hd : d < 10) : (UInt8.ofNat (48 + d)).toNat = 48 + d := by
  rw [UInt8.toNat_ofNat']; omega
theorem dec_dig (u : Nat) : ∀ b ∈ Lib.decDigits u, 48 ≤ b.toNat ∧ b.toNat ≤ 57 := by
  induction u using Nat.strongRecOn with
  | _ u ih =>
    by_cases hu : u < 10
    · rw [dec_one hu]; intro b hb; rw [List.mem_singleton.1 hb, dig_one hu]; omega
    · rw [dec_more hu]; intro b hb
      rcases List.mem_append.1 hb with hb | hb
      · exact ih (u / 10) (by omega) b hb
      · rw [List.mem_singleton.1 hb, dig_one (by omega)]; omega
theorem dec_ne (u : Nat) : Lib.decDigits u ≠ [] := by
  by_cases hu : u < 10
  · rw [dec_one hu]; simp
  · rw [dec_more hu]; simp
def dgs (u : Nat) : List UInt8 := if u = 0 then [] else Lib.decDigits u
theorem dgs_step {u : Nat} (h : u ≠ 0) : dgs u = dgs (u / 10) ++ [UInt8.ofNat (48 + u % 10)] := by
  unfold dgs
  rw [if_neg h]
  by_cases hu : u < 10
  · rw [dec_one hu, if_pos (by omega), Nat.mod_eq_of_lt hu]; rfl
  · rw [dec_more hu, if_neg (by omega)]
theorem dgs_zero : dgs 0 = [] := rfl
theorem dgs_ne {u : Nat} (h : u ≠ 0) : dgs u = Lib.decDigits u := if_neg h
theorem itoa_pos {n : Int} (h : 0 ≤ n) : Lib.itoa n = Lib.decDigits n.natAbs := by
  unfold Lib.itoa; rw [if_neg (by omega)]; congr 1; omega
theorem itoa_neg {n : Int} (h : n < 0) : Lib.itoa n = 45 :: Lib.decDigits n.natAbs := by unfold Lib.itoa; rw [if_pos h]
theorem itoa_zero : Lib.itoa 0 = [48] := by rw [itoa_pos (by decide)]; exact dec_one (by decide)
theorem itoa_len {n : Int} (h : -9223372036854775808 ≤ n ∧ n ≤ 9223372036854775807) : (Lib.itoa n).length ≤ 21 := by
  have e : (10 : Nat) ^ (19 + 1) = 100000000000000000000 := by decide
  have := dec_len 19 n.natAbs (by omega)
  by_cases hn : n < 0
  · rw [itoa_neg hn]; simp only [List.length_cons]; omega
  · rw [itoa_pos (by omega)]; omega
theorem dec_ge {n : Int} (h : -9223372036854775808 ≤ n ∧ n ≤ 9223372036854775807) : (Lib.decDigits n.natAbs).length ≤ 20 := by
  have e : (10 : Nat) ^ (19 + 1) = 100000000000000000000 := by decide
  exact dec_len 19 n.natAbs (by omega)
def atN (s : ByteArray) : Nat := if 0 < (s.size : Int) ∧ ((s.data.toList.getD 0 0).toNat : Int) = 45 then 1 else 0
def digO (s : ByteArray) : Option Nat := Lib.decFrom 0 ((tx s).drop (atN s))
def digB (s : ByteArray) : Bool := (digO s).isSome
def magN (s : ByteArray) : Nat := (digO s).getD 0
def sgN (s : ByteArray) : Int := if atN s = 1 then 0 - (magN s : Int) else magN s
def shpN (s : ByteArray) : Bool := decide (atN s < s.size ∧ s.size ≤ atN s + 9) && digB s
def isNum (s : ByteArray) : Bool := shpN s && decide (Lib.itoa (sgN s) = tx s)
def numV (s : ByteArray) : Int := if isNum s then sgN s else 0
def prtN (s : ByteArray) (k : Nat) : Option Nat := Lib.decFrom 0 (((tx s).drop (atN s)).take (k - atN s))
theorem prt_zero (s : ByteArray) : prtN s (atN s) = some 0 := by simp [prtN, Lib.decFrom]
theorem prt_all {s : ByteArray} {m : Nat} (h : prtN s s.size = some m) : digB s = true ∧ magN s = m := by
  have e : ((tx s).drop (atN s)).take (s.size - atN s) = (tx s).drop (atN s) := List.take_of_length_le (by rw [List.length_drop]; exact Nat.le_refl _)
  unfold prtN at h; rw [e] at h
  simp [digB, magN, digO, h]
theorem at_le (s : ByteArray) : atN s ≤ 1 := by unfold atN; split <;> omega
theorem get_drop {l : List UInt8} {a k : Nat} (h1 : a ≤ k) (h2 : k < l.length) : (l.drop a)[k - a]? = some (l.getD k 0) := by
  rw [List.getElem?_drop, show a + (k - a) = k by omega]; simp [h2]
theorem prt_step {s : ByteArray} {k m : Nat} (h1 : atN s ≤ k) (h2 : k < s.size) (h : prtN s k = some m) (hd : 48 ≤ ((tx s).getD k 0).toNat ∧ ((tx s).getD k 0).toNat ≤ 57) :
    prtN s (k + 1) = some (m * 10 + (((tx s).getD k 0).toNat - 48)) := by
  unfold prtN at *
  rw [show k + 1 - atN s = k - atN s + 1 by omega]
  exact Lib.decFrom_take _ _ _ _ _ _ h (get_drop h1 h2) (by unfold Lib.digitVal; rw [if_pos hd])
theorem prt_stop {s : ByteArray} {k : Nat} (h1 : atN s ≤ k) (h2 : k < s.size) (hd : ¬ (48 ≤ ((tx s).getD k 0).toNat ∧ ((tx s).getD k 0).toNat ≤ 57)) : digB s = false := by
  cases e : digO s with
  | none => simp [digB, e]
  | some m =>
    obtain ⟨d, hd'⟩ := Lib.digit_of_decFrom _ _ _ e _ _ (get_drop h1 h2)
    unfold Lib.digitVal at hd'
    rw [if_neg hd] at hd'; cases hd'
theorem prt_lt {s : ByteArray} {k m : Nat} (h : prtN s k = some m) (hk : k ≤ atN s + 9) : m < 1000000000 := by
  have h1 := Lib.decFrom_lt _ 0 m h
  have h2 : (((tx s).drop (atN s)).take (k - atN s)).length ≤ 9 := by rw [List.length_take]; omega
  have h3 := Nat.pow_le_pow_right (n := 10) (by decide) h2
  have e : (10 : Nat) ^ 9 = 1000000000 := by decide
  omega
theorem mag_lt {s : ByteArray} (h : digB s = true) (hk : s.size ≤ atN s + 9) : magN s < 1000000000 := by
  have e : ((tx s).drop (atN s)).take (s.size - atN s) = (tx s).drop (atN s) := List.take_of_length_le (by rw [List.length_drop]; exact Nat.le_refl _)
  obtain ⟨m, hm⟩ := Option.isSome_iff_exists.1 h
  have := prt_lt (s := s) (k := s.size) (m := m) (by unfold prtN; rw [e]; exact hm) hk
  simp only [magN, hm, Option.getD_some]; exact this
theorem num_range {s : ByteArray} (h : isNum s = true) : -999999999 ≤ numV s ∧ numV s ≤ 999999999 ∧ numV s = sgN s ∧ Lib.itoa (sgN s) = tx s := by
  have e : numV s = sgN s := by unfold numV; rw [if_pos h]
  simp only [isNum, shpN, Bool.and_eq_true, decide_eq_true_eq] at h
  have := mag_lt h.1.2 h.1.1.2
  refine ⟨?_, ?_, e, h.2⟩ <;> rw [e] <;> unfold sgN <;> split <;> omega
theorem num_none {s : ByteArray} (h : isNum s = false) : numV s = 0 := by unfold numV; rw [h]; rfl
theorem num_atoi {s : ByteArray} (h : isNum s = true) : Lib.atoi (tx s) = some (sgN s) ∧ 1 ≤ s.size ∧ s.size ≤ 10 := by
  have hr := num_range h
  have h0 := h
  simp only [isNum, shpN, Bool.and_eq_true, decide_eq_true_eq] at h
  obtain ⟨⟨⟨h1, h2⟩, h3⟩, h4⟩ := h
  have hle := at_le s
  refine ⟨?_, by omega, by omega⟩
  obtain ⟨m, hm⟩ := Option.isSome_iff_exists.1 h3
  have hmag : magN s = m := by simp [magN, hm]
  have hl : (tx s).length = s.size := rfl
  cases e : tx s with
  | nil => rw [e] at hl; simp at hl; omega
  | cons b r =>
    have hb : (tx s).getD 0 0 = b := by rw [e]; rfl
    unfold digO at hm
    by_cases ha : atN s = 1
    · rw [ha, e, List.drop_one, List.tail_cons] at hm
      have hb45 : b = 45 := by
        unfold atN at ha
        split at ha
        · rename_i hc; have := hc.2; rw [show s.data.toList = tx s from rfl, hb] at this
          exact UInt8.toNat_inj.1 (by have : b.toNat = 45 := by omega
                                      rw [this]; rfl)
        · cases ha
      subst hb45
      have hr0 : r ≠ [] := by intro hh; rw [e, hh] at hl; simp at hl; omega
      simp only [Lib.atoi, Lib.decNat, hm, sgN, ha, hmag]
      cases r with
      | nil => exact absurd rfl hr0
      | cons x y => simp
    · have ha0 : atN s = 0 := by omega
      rw [ha0, e, List.drop_zero] at hm
      obtain ⟨d, hd⟩ := Lib.digit_of_decFrom _ _ _ hm 0 b rfl
      have hdig : 48 ≤ b.toNat ∧ b.toNat ≤ 57 := by
        unfold Lib.digitVal at hd; split at hd
        · assumption
        · cases hd
      have n1 : ¬ b = 45 := by rintro rfl; exact absurd hdig.1 (by decide)
      have n2 : ¬ b = 43 := by rintro rfl; exact absurd hdig.1 (by decide)
      simp only [Lib.atoi, Lib.decNat, hm, sgN, ha0, hmag]
      simp [n1, n2]
theorem atoi_num {s : ByteArray} {v : Int} (h : Lib.atoi (tx s) = some v) (hv : -999999999 ≤ v ∧ v ≤ 999999999) (hi : Lib.itoa v = tx s) : isNum s = true ∧ sgN s = v := by
  have e9 : (10 : Nat) ^ (8 + 1) = 1000000000 := by decide
  have hlen := dec_len 8 v.natAbs (by omega)
  have hl : (tx s).length = s.size := rfl
  obtain ⟨b0, r, e, hc⟩ := Lib.atoi_cases h
  have hb : (tx s).getD 0 0 = b0 := by rw [e]; rfl
  have key : atN s < s.size ∧ s.size ≤ atN s + 9 ∧ digB s = true ∧ sgN s = v := by
    by_cases hn : v < 0
    · rw [itoa_neg hn, e] at hi
      obtain ⟨rfl, rfl⟩ := List.cons.inj hi
      have ha : atN s = 1 := by unfold atN; rw [if_pos]; refine ⟨by rw [e] at hl; simp at hl; omega, ?_⟩; rw [show s.data.toList = tx s from rfl, hb]; rfl
      rcases hc with ⟨_, m, _, hm, rfl⟩ | ⟨h43, _⟩ | ⟨h45, _⟩
      · have hd : digO s = some m := by unfold digO; rw [ha, e]; exact hm
        rw [e] at hl; simp only [List.length_cons] at hl
        have := List.length_pos_iff.2 (dec_ne (-(m : Int)).natAbs)
        exact ⟨by omega, by omega, by simp [digB, hd], by simp [sgN, ha, magN, hd]⟩
      · exact absurd h43 (by decide)
      · exact absurd rfl h45
    · rw [itoa_pos (by omega), e] at hi
      have hb0 := dec_dig v.natAbs b0 (by rw [hi]; exact List.mem_cons_self)
      have ha : atN s = 0 := by
        unfold atN; rw [if_neg]; rintro ⟨_, h45⟩; rw [show s.data.toList = tx s from rfl, hb] at h45; omega
      rcases hc with ⟨h45, _⟩ | ⟨h43, _⟩ | ⟨_, _, m, hm, rfl⟩
      · subst h45; exact absurd hb0.1 (by decide)
      · subst h43; exact absurd hb0.1 (by decide)
      · have hd : digO s = some m := by unfold digO; rw [ha, e]; exact hm
        rw [hi, ← e] at hlen
        rw [e] at hl; simp only [List.length_cons] at hl
        have hl2 : (tx s).length = s.size := rfl
        exact ⟨by omega, by omega, by simp [digB, hd], by simp [sgN, ha, magN, hd]⟩
  obtain ⟨k1, k2, k3, k4⟩ := key
  exact ⟨by simp only [isNum, shpN, Bool.and_eq_true, decide_eq_true_eq]; exact ⟨⟨⟨k1, k2⟩, k3⟩, by rw [k4]; exact hi⟩, k4⟩
theorem rng_u8 {n : Int} : rng .u8 n ↔ 0 ≤ n ∧ n ≤ 255 := by
  simp [rng, IntKind.min, IntKind.max, IntKind.signed, IntKind.bits]
theorem u8_back {m : Int} (h : 0 ≤ m ∧ m ≤ 255) : ((UInt8.ofNat m.toNat).toNat : Int) = m := by
  rw [UInt8.toNat_ofNat']; omega
end Go.Proofs.YtgeegppaaggcjaaGreatDoor
end
section
namespace Go.Proofs.YtgeegppaaggcjaaGreatDoor
open Go Go.Proofs.YtgeegppaaggcjaaGreatDoor.Ab
set_option linter.unusedVariables false
set_option linter.unusedSimpArgs false
set_option maxHeartbeats 4000000
abbrev P_c_sNum (n : Int) : Ct := ⟨104, [], [li n], [], .sv (ls (mkS (Lib.itoa n)))⟩
def lc_sNumLa (n : Int) : Lp (Int × List UInt8) := .mk 31 0 (fun x => [(0, li n), (3, hs x 1), (4, hs x 0)]) (fun x => []) (fun k => [.s (li k.fst), .s (ls (mkS k.snd))]) (fun k =>
 n ≠ 0 ∧ dgs k.fst.natAbs ++ k.snd = Lib.decDigits n.natAbs ∧ (-9223372036854775808 : Int) ≤ k.fst ∧ k.fst ≤ 9223372036854775807) (fun k => k.fst.natAbs) [.mk True (.exit 0) (fun x
 => [(0, li n), (3, hs x 0)]) (fun x => []) [.s (ls (mkS (Lib.decDigits n.natAbs)))]]
theorem Sc_sNumLa (n : Int) (h : (-9223372036854775808 : Int) ≤ n ∧ n ≤ 9223372036854775807) : Lp.Sem Tryz.prog (loopAt Tryz.f104 0) (lc_sNumLa n) := lpOK (fun k => .i (k.fst ≠ 0)
 (.p ((10 : Int) ≠ 0) (.i (k.fst.tmod (10 : Int) < 0) (.r (0 - k.fst.tmod 10) (.r (48 + (0 - k.fst.tmod 10)) (.p (rng IntKind.u8 (48 + (0 - k.fst.tmod 10))) (.w (.bytes
 [UInt8.ofNat (48 + (0 - k.fst.tmod 10)).toNat]) (.p ([[Cell.lit (Value.int IntKind.u8 (48 + (0 - k.fst.tmod 10)))]] = [[Cell.lit (Value.int IntKind.u8 (↑(UInt8.ofNat (48 + (0 -
 k.fst.tmod 10)).toNat).toNat : Int))]]) (.p (1 + k.snd.length ≤ 9223372036854775807) (.p ((10 : Int) ≠ 0) (.r (k.fst.tdiv 10) (.g [] (k.fst.tdiv 10, [UInt8.ofNat (48 + (0 -
 k.fst.tmod 10)).toNat] ++ k.snd) [.s (li (k.fst.tdiv 10)), .s (ls (ByteArray.mk ([UInt8.ofNat (48 + (0 - k.fst.tmod 10)).toNat] ++ k.snd).toArray))]))))))))) (.r (48 + k.fst.tmod
 10) (.p (rng IntKind.u8 (48 + k.fst.tmod 10)) (.w (.bytes [UInt8.ofNat (48 + k.fst.tmod 10).toNat]) (.p ([[Cell.lit (Value.int IntKind.u8 (48 + k.fst.tmod 10))]] = [[Cell.lit
 (Value.int IntKind.u8 (↑(UInt8.ofNat (48 + k.fst.tmod 10).toNat).toNat : Int))]]) (.p (1 + k.snd.length ≤ 9223372036854775807) (.p ((10 : Int) ≠ 0) (.r (k.fst.tdiv 10) (.g []
 (k.fst.tdiv 10, [UInt8.ofNat (48 + k.fst.tmod 10).toNat] ++ k.snd) [.s (li (k.fst.tdiv 10)), .s (ls (ByteArray.mk ([UInt8.ofNat (48 + k.fst.tmod 10).toNat] ++
 k.snd).toArray))])))))))))) (.o 0 [] [.s (ls (mkS k.snd))])) (by
  intro k h; try dsimp only [teasy, nthW, lc_sNumLa] at h ⊢
  obtain ⟨x, o⟩ := k
  simp only at *
  have g1 := @dgs_step x.natAbs
  have g2 : (x.tdiv 10).natAbs = x.natAbs / 10 := Int.natAbs_tdiv _ _
  have g3 : (x.tmod 10).natAbs = x.natAbs % 10 := Int.natAbs_tmod _ _
  have g4 := congrArg List.length h.2.1
  have g5 := dec_ge (n := n) (by assumption)
  with_reducible repeat' (first | apply And.intro | exact zR | (intro; skip))
  all_goals (try simp only [std, inj] at *)
  all_goals with_reducible repeat' apply And.intro
  all_goals (try (first | exact zw | grind [dgs_zero, snocI, snocS, rowSnoc]))
  all_goals first | (rw [rng_u8]; omega) | (rw [u8_back (by omega)]))
theorem c_sNum (n : Int) (h : -9223372036854775808 ≤ n ∧ n ≤ 9223372036854775807)  : P_c_sNum n := fnOK Tryz.call104 Tryz.func104 (.i (n = 0) (.s (ls (ByteArray.mk #[(48 : UInt8)])))
 (.l (lc_sNumLa n) (Sc_sNumLa n h) [] [.s (li n), .s (ls (ByteArray.mk #[]))] (n, []) (.t (.i (n < 0) (.p (1 + (Lib.decDigits n.natAbs).length ≤ 9223372036854775807) (.s (ls
 (ByteArray.mk ([(45 : UInt8)] ++ Lib.decDigits n.natAbs).toArray)))) (.s (ls (mkS (Lib.decDigits n.natAbs))))) .q))) (by
  dsimp only [teasy, P_c_sNum, nthW, lc_sNumLa]
  have g1 := @itoa_pos n
  have g2 := @itoa_neg n
  have g3 := itoa_zero
  have g4 := dec_ge h
  with_reducible repeat' (first | apply And.intro | exact zR | (intro; skip))
  all_goals (try simp only [std, inj] at *)
  all_goals with_reducible repeat' apply And.intro
  all_goals (try (first | exact zw | grind [dgs_ne, snocI, snocS, rowSnoc])))
abbrev P_c_sPNum (s : ByteArray) : Ct := ⟨114, [], [ls s], [], .tup [li (numV s), lb (isNum s)]⟩
def lc_sPNumLa (s : ByteArray) : Lp (Nat × Int) := .mk 55 0 (fun x => [(0, ls s), (4, hs x 0), (5, hs x 2), (6, hs x 1)]) (fun x => []) (fun k => [.s (li (↑(atN s) : Int)), .s (li
 (↑k.fst : Int)), .s (li k.snd)]) (fun k => atN s ≤ k.fst ∧ k.fst ≤ s.size ∧ prtN s k.fst = some k.snd.toNat ∧ 0 ≤ k.snd ∧ s.size ≤ atN s + 9 ∧ atN s < s.size) (fun k => s.size -
 k.fst) [.mk (digB s = true) (.exit 0) (fun x => [(0, ls s), (4, hs x 0), (5, hs x 1)]) (fun x => []) [.s (li (↑(atN s) : Int)), .s (li (↑(magN s) : Int))], .mk (digB s = false ∧
 s.size ≤ atN s + 9 ∧ atN s < s.size) .ret (fun x => [(2, hs x 0), (3, hs x 1)]) (fun x => []) [.s (li 0), .s (lb false)]]
theorem Sc_sPNumLa (s : ByteArray) : Lp.Sem Tryz.prog (loopAt Tryz.f114 0) (lc_sPNumLa s) := lpOK (fun k => .h (s.data.toList.length ≤ 9223372036854775807) (.i ((↑k.fst : Int) <
 (↑s.data.toList.length : Int)) (.p (0 ≤ (↑k.fst : Int) ∧ (↑k.fst : Int).toNat < s.data.toList.length) (.c [.rd] (c_sDigit (↑(s.data.toList.getD (↑k.fst : Int).toNat (0 :
 UInt8)).toNat : Int)) (.b (!isDig (↑(s.data.toList.getD (↑k.fst : Int).toNat (0 : UInt8)).toNat : Int)) (.o 1 [] [.s (li 0), .s (lb false)]) (.r (10 * k.snd) (.p (0 ≤ (↑k.fst :
 Int) ∧ (↑k.fst : Int).toNat < s.data.toList.length) (.p (rng IntKind.u8 ((↑(s.data.toList.getD (↑k.fst : Int).toNat (0 : UInt8)).toNat : Int) - 48)) (.r ((↑(s.data.toList.getD
 (↑k.fst : Int).toNat (0 : UInt8)).toNat : Int) - 48) (.r (10 * k.snd + ((↑(s.data.toList.getD (↑k.fst : Int).toNat (0 : UInt8)).toNat : Int) - 48)) (.r ((↑k.fst : Int) + 1) (.g []
 (k.fst + 1, 10 * k.snd + ((↑(s.data.toList.getD (↑k.fst : Int).toNat (0 : UInt8)).toNat : Int) - 48)) [.s (li (↑(atN s) : Int)), .s (li ((↑k.fst : Int) + 1)), .s (li (10 * k.snd +
 ((↑(s.data.toList.getD (↑k.fst : Int).toNat (0 : UInt8)).toNat : Int) - 48)))])))))))))) (.o 0 [] [.s (li (↑(atN s) : Int)), .s (li k.snd)]))) (by
  intro k h; try dsimp only [teasy, nthW, lc_sPNumLa] at h ⊢
  obtain ⟨i, m⟩ := k
  simp only at *
  have g1 := @prt_step s i m.toNat
  have g2 := @prt_stop s i
  have g3 := @prt_all s m.toNat
  have g4 := @prt_lt s i m.toNat
  with_reducible repeat' (first | apply And.intro | exact zR | (intro; skip) | apply c_sNum)
  all_goals (try simp only [std, inj] at *)
  all_goals with_reducible repeat' apply And.intro
  all_goals (try (first | with_reducible apply c_sNum | (simp only [← List.map_append]; first | with_reducible apply c_sNum)))
  all_goals (try (first | exact zw | grind [isDig, snocI, snocS, rowSnoc]))
  all_goals (rw [rng_u8]; simp only [isDig, Bool.not_eq_false', decide_eq_true_eq] at *; omega))
theorem c_sPNum (s : ByteArray)  : P_c_sPNum s := fnOK Tryz.call114 Tryz.func114 (.h (s.data.toList.length ≤ 9223372036854775807) (.i (0 < (↑s.data.toList.length : Int)) (.p ((0 :
 Int) ≤ 0 ∧ 0 < s.data.toList.length) (.i ((↑(s.data.toList.getD 0 (0 : UInt8)).toNat : Int) = 45) (.h (s.data.toList.length ≤ 9223372036854775807) (.i (1 = (↑s.data.toList.length
 : Int)) (.y true (.f [] [] (AV.tup [li 0, lb false]))) (.h (s.data.toList.length ≤ 9223372036854775807) (.r ((↑s.data.toList.length : Int) - 1) (.i (9 < (↑s.data.toList.length :
 Int) - 1) (.f [] [] (AV.tup [li 0, lb false])) (.l (lc_sPNumLa s) (Sc_sPNumLa s) [] [.s (li 1), .s (li 1), .s (li 0)] (atN s, 0) (.t (.i ((↑(atN s) : Int) = 1) (.r (0 - (↑(magN s)
 : Int)) (.d [.rd] (P_c_sNum (0 - (↑(magN s) : Int))) (.i (Lib.itoa (0 - (↑(magN s) : Int)) ≠ s.data.toList) (.f [] [] (AV.tup [li 0, lb false])) (.f [] [] (AV.tup [li (0 - (↑(magN
 s) : Int)), lb true]))))) (.d [.rd] (P_c_sNum (↑(magN s) : Int)) (.i (Lib.itoa (↑(magN s) : Int) ≠ s.data.toList) (.f [] [] (AV.tup [li 0, lb false])) (.f [] [] (AV.tup [li
 (↑(magN s) : Int), lb true]))))) (.t (.f [] [] (AV.tup [li 0, lb false])) .q)))))))) (.h (s.data.toList.length ≤ 9223372036854775807) (.i (0 = (↑s.data.toList.length : Int)) (.y
 true (.f [] [] (AV.tup [li 0, lb false]))) (.h (s.data.toList.length ≤ 9223372036854775807) (.r ((↑s.data.toList.length : Int) - 0) (.i (9 < (↑s.data.toList.length : Int) - 0) (.f
 [] [] (AV.tup [li 0, lb false])) (.l (lc_sPNumLa s) (Sc_sPNumLa s) [] [.s (li 0), .s (li 0), .s (li 0)] (atN s, 0) (.t (.i ((↑(atN s) : Int) = 1) (.r (0 - (↑(magN s) : Int)) (.d
 [.rd] (P_c_sNum (0 - (↑(magN s) : Int))) (.i (Lib.itoa (0 - (↑(magN s) : Int)) ≠ s.data.toList) (.f [] [] (AV.tup [li 0, lb false])) (.f [] [] (AV.tup [li (0 - (↑(magN s) : Int)),
 lb true]))))) (.d [.rd] (P_c_sNum (↑(magN s) : Int)) (.i (Lib.itoa (↑(magN s) : Int) ≠ s.data.toList) (.f [] [] (AV.tup [li 0, lb false])) (.f [] [] (AV.tup [li (↑(magN s) : Int),
 lb true]))))) (.t (.f [] [] (AV.tup [li 0, lb false])) .q)))))))))) (.y false (.h (s.data.toList.length ≤ 9223372036854775807) (.i (0 = (↑s.data.toList.length : Int)) (.y true (.f
 [] [] (AV.tup [li 0, lb false]))) (.h (s.data.toList.length ≤ 9223372036854775807) (.r ((↑s.data.toList.length : Int) - 0) (.i (9 < (↑s.data.toList.length : Int) - 0) (.f [] []
 (AV.tup [li 0, lb false])) (.l (lc_sPNumLa s) (Sc_sPNumLa s) [] [.s (li 0), .s (li 0), .s (li 0)] (atN s, 0) (.t (.i ((↑(atN s) : Int) = 1) (.r (0 - (↑(magN s) : Int)) (.d [.rd]
 (P_c_sNum (0 - (↑(magN s) : Int))) (.i (Lib.itoa (0 - (↑(magN s) : Int)) ≠ s.data.toList) (.f [] [] (AV.tup [li 0, lb false])) (.f [] [] (AV.tup [li (0 - (↑(magN s) : Int)), lb
 true]))))) (.d [.rd] (P_c_sNum (↑(magN s) : Int)) (.i (Lib.itoa (↑(magN s) : Int) ≠ s.data.toList) (.f [] [] (AV.tup [li 0, lb false])) (.f [] [] (AV.tup [li (↑(magN s) : Int), lb
 true]))))) (.t (.f [] [] (AV.tup [li 0, lb false])) .q))))))))))) (by
  dsimp only [teasy, P_c_sPNum, nthW, lc_sPNumLa]
  have g1 := prt_zero s
  have g2 := @mag_lt s
  have g3 := @num_none s
  have g4 : atN s = 0 ∨ atN s = 1 := by have := at_le s; omega
  with_reducible repeat' (first | apply And.intro | exact zR | (intro; skip) | apply c_sNum)
  all_goals (try simp only [std, inj] at *)
  all_goals with_reducible repeat' apply And.intro
  all_goals (try (first | with_reducible apply c_sNum | (simp only [← List.map_append]; first | with_reducible apply c_sNum)))
  all_goals (try (first | exact zw | grind [isNum, shpN, numV, sgN, atN, snocI, snocS, rowSnoc])))
end Go.Proofs.YtgeegppaaggcjaaGreatDoor
end
section
namespace Go.Proofs.YtgeegppaaggcjaaGreatDoor
open Go Go.Shelf Go.RowKit Go.Proofs.YtgeegppaaggcjaaGreatDoor.Ab
set_option linter.unusedVariables false
def itoRen : Go.Shelf.Ren := ⟨fun | 171 => 143 | 243 => 164 | 246 => 175 | 283 => 171 | 284 => 172 | 285 => 173 | 286 => 174 | 129 => 185 | 317 => 184 | 318 => 186 | 319 => 187 | 320 => 188 | 337 => 192 | 338 => 193 | n => n, fun | 3 => 3 | 9 => 9 | 2 => 2 | 4 => 4 | 171 => 155 | 0 => 0 | 53 => 151 | 37 => 60 | 5 => 5 | 173 => 158 | 212 => 169 | 51 => 170 | 20 => 20 | 213 => 171 | 46 => 173 | 232 => 187 | 233 => 188 | n => n, fun | 17 => 0 | 18 => 3 | 19 => 4 | n => n⟩
theorem itoLays : Go.Proofs.LaysM.n171 Tryz.prog itoRen := {
  mixed := by kernel_rfl
  f129 := Tryz.func185.trans (congrArg some (by kernel_rfl))
  f171 := Tryz.func143.trans (congrArg some (by kernel_rfl))
  f243 := Tryz.func164.trans (congrArg some (by kernel_rfl))
  f246 := Tryz.func175.trans (congrArg some (by kernel_rfl))
  f283 := Tryz.func171.trans (congrArg some (by kernel_rfl))
  f284 := Tryz.func172.trans (congrArg some (by kernel_rfl))
  f285 := Tryz.func173.trans (congrArg some (by kernel_rfl))
  f286 := Tryz.func174.trans (congrArg some (by kernel_rfl))
  f317 := Tryz.func184.trans (congrArg some (by kernel_rfl))
  f318 := Tryz.func186.trans (congrArg some (by kernel_rfl))
  f319 := Tryz.func187.trans (congrArg some (by kernel_rfl))
  f320 := Tryz.func188.trans (congrArg some (by kernel_rfl))
  f337 := Tryz.func192.trans (congrArg some (by kernel_rfl))
  f338 := Tryz.func193.trans (congrArg some (by kernel_rfl))
  t0 := Tryz.underlying0
  a0 := Tryz.isAgg0
  z0 := Tryz.sizeOf0
  v0 := Tryz.zeroValue0
  t2 := Tryz.underlying2
  a2 := Tryz.isAgg2
  z2 := Tryz.sizeOf2
  v2 := Tryz.zeroValue2
  t3 := Tryz.underlying3
  a3 := Tryz.isAgg3
  z3 := Tryz.sizeOf3
  v3 := Tryz.zeroValue3
  t4 := Tryz.underlying4
  a4 := Tryz.isAgg4
  z4 := Tryz.sizeOf4
  v4 := Tryz.zeroValue4
  t5 := Tryz.underlying5
  a5 := Tryz.isAgg5
  z5 := Tryz.sizeOf5
  v5 := Tryz.zeroValue5
  t9 := Tryz.underlying9
  a9 := Tryz.isAgg9
  z9 := Tryz.sizeOf9
  v9 := Tryz.zeroValue9
  t20 := Tryz.underlying20
  a20 := Tryz.isAgg20
  z20 := Tryz.sizeOf20
  v20 := Tryz.zeroValue20
  t37 := Tryz.underlying60
  a37 := Tryz.isAgg60
  z37 := Tryz.sizeOf60
  v37 := Tryz.zeroValue60
  t46 := Tryz.underlying173
  a46 := Tryz.isAgg173
  z46 := Tryz.sizeOf173
  v46 := Tryz.zeroValue173
  t51 := Tryz.underlying170
  a51 := Tryz.isAgg170
  z51 := Tryz.sizeOf170
  v51 := Tryz.zeroValue170
  t53 := Tryz.underlying151
  a53 := Tryz.isAgg151
  z53 := Tryz.sizeOf151
  v53 := Tryz.zeroValue151
  t171 := Tryz.underlying155
  a171 := Tryz.isAgg155
  z171 := Tryz.sizeOf155
  v171 := Tryz.zeroValue155
  t173 := Tryz.underlying158
  a173 := Tryz.isAgg158
  z173 := Tryz.sizeOf158
  v173 := Tryz.zeroValue158
  t212 := Tryz.underlying169
  a212 := Tryz.isAgg169
  z212 := Tryz.sizeOf169
  v212 := Tryz.zeroValue169
  t213 := Tryz.underlying171
  a213 := Tryz.isAgg171
  z213 := Tryz.sizeOf171
  t232 := Tryz.underlying187
  a232 := Tryz.isAgg187
  z232 := Tryz.sizeOf187
  v232 := Tryz.zeroValue187
  t233 := Tryz.underlying188
  a233 := Tryz.isAgg188
  z233 := Tryz.sizeOf188
  v233 := Tryz.zeroValue188
  g17 := by kernel_rfl
  g18 := by kernel_rfl
  g19 := by kernel_rfl
  i0 := by kernel_rfl
  i2 := by kernel_rfl
  i3 := by kernel_rfl
  i4 := by kernel_rfl
  i5 := by kernel_rfl
  i9 := by kernel_rfl
  i20 := by kernel_rfl
  i37 := by kernel_rfl
  i46 := by kernel_rfl
  i51 := by kernel_rfl
  i53 := by kernel_rfl
  i171 := by kernel_rfl
  i173 := by kernel_rfl
  i212 := by kernel_rfl
  i232 := by kernel_rfl
  i233 := by kernel_rfl
  m17 := by kernel_rfl
  m18 := by kernel_rfl
  m19 := by kernel_rfl }
theorem post_below {w w' : Go.World} {ι : Interp} {args : List SV} {vals : Array Value} {v : Value} {res : AV} (hp : PreRel w ι [] args vals) (hb : Below w.heap.size w w') (hv : AVRel w' ι (obOf []) res v) : PostRel w ι [] [] res w' v ι :=
  { ext := fun j => trivial
    obj := fun j => hp.obj j
    disj := hp.disj
    gfp := hp.gfp
    lt := fun i b h => absurd h (hp.obj i b)
    glt := fun b h => Nat.lt_of_lt_of_le (hp.glt b h) hb.size
    gg := fun _ h => h
    gown := fun _ h => .inl h
    own := fun j b h => absurd h (hp.obj j b)
    frame := fun b h _ => hb.block b h
    size := hb.size
    os := hb.os
    out := hb.output
    val := hv }
theorem kn_tab {w : Go.World} {ι : Interp} (hk : Kn Tryz.prog w ι) : Lib.TabIs Tryz.prog w pow10N .u64 Lib.pow10Tab := by
  cases hg : Tryz.prog.globalNamed pow10N with
  | none => have : (Tryz.prog.globalNamed pow10N).isSome = true := by kernel_rfl
            rw [hg] at this; cases this
  | some g => obtain ⟨_, _, cs, hv, rfl⟩ := hk.1 g hg; exact hv
abbrev P_c_itoa (n : Int) : Ct := ⟨143, [], [li n], [], .sv (ls (mkS (Lib.itoa n)))⟩
theorem c_itoa (n : Int) (h : -9223372036854775808 ≤ n ∧ n ≤ 9223372036854775807) : OK (P_c_itoa n) := by
  refine ⟨Tryz.call143, fun w ι vals hp hk => ?_⟩
  have harg := hp.arg
  rcases vals with ⟨l⟩
  match l, harg with
  | [v0], ⟨h0, _⟩ =>
    obtain ⟨rfl, _⟩ := h0.1.lit_inv
    refine (Any.strconv_Itoa itoLays n h.1 h.2 w (Eq.subst (motive := fun s => Lib.TabIs Tryz.prog w s .u64 Lib.pow10Tab) (by kernel_rfl) (kn_tab hk))).mono fun e w' hh => ?_
    obtain ⟨rfl, k, os, rfl⟩ := hh
    refine ⟨_, ι, rfl, post_below hp ⟨rfl, rfl, rfl, ?_, fun j hj => ?_⟩ ⟨.lit ?_, fun _ => rfl⟩⟩
    · show w.heap.size ≤ (w.heap ++ os).size
      rw [Array.size_append]; omega
    · show (w.heap ++ os)[j]? = w.heap[j]?
      exact Array.getElem?_append_left hj
    · show (Lib.itoa n).toArray.size ≤ maxLen
      rw [List.size_toArray]; have := itoa_len h; unfold maxLen; omega
end Go.Proofs.YtgeegppaaggcjaaGreatDoor
end
section
namespace Go.Proofs.YtgeegppaaggcjaaGreatDoor
open Go Go.Proofs.YtgeegppaaggcjaaGreatDoor.Ab
set_option linter.unusedVariables false
set_option linter.unusedSimpArgs false
set_option maxHeartbeats 4000000
instance memDec (s : ByteArray) (L : List ByteArray) : Decidable (s ∈ L) := @List.instDecidableMemOfLawfulBEq ByteArray instBEqOfDecidableEq _ s L
def symD (s : ByteArray) : Datum := ⟨1, 0, s, []⟩
def lstD (L : List Datum) : Datum := ⟨0, 0, mkS [], L⟩
abbrev lstR (i : Nat) : SV := .agg [vI 0, vI 0, vS (mkS []), .ref i]
theorem isSym_le {s : ByteArray} : isSym s = true → (s.size : Int) ≤ 16 := by
  unfold isSym; simp only [Bool.and_eq_true, decide_eq_true_eq]; intro h; exact h.1.1.1.2
abbrev P_c_iSymbolOf (s : ByteArray) : Ct := ⟨89, [], [ls s], [], .sv (.agg [vI 1, vI 0, vS s, .val (.lit (.slice none 0 0))])⟩
theorem c_iSymbolOf (s : ByteArray)  : P_c_iSymbolOf s := fnOK Tryz.call89 Tryz.func89 (.s (SV.agg [vI 1, vI 0, vS s, AC.val (Cell.lit (Value.slice none 0 0))])) (by
  dsimp only [teasy, P_c_iSymbolOf]
  with_reducible repeat' (first | apply And.intro | exact zR | (intro; skip))
  all_goals (try simp only [std, inj] at *)
  all_goals with_reducible repeat' apply And.intro
  all_goals (try (first | exact z | grind [snocI, snocS, rowSnoc])))
abbrev P_c_iCopyData (L : List Datum) : Ct := ⟨125, [], [ll (L.map datumC)], [.arr true 4 (L.map datumC)], .sv (.one (.ref 0))⟩
abbrev P_c_iCopyDatum (x : Datum) : Ct := ⟨83, [], [datumA x], datumO x, .sv (datumR x 0)⟩
def lc_iCopyDataLa (L : List Datum) : Lp Nat := .mk 19 0 (fun x => [(3, SV.one (AC.ref 0)), (6, ll (List.map datumC L)), (7, li (↑(List.map datumC L).length : Int)), (8, hs x 0)])
 (fun x => [ho x 1]) (fun k => [.s (li (↑k : Int)), .o (Ob.arr true 4 (List.map datumC (List.take k L)))]) (fun k => k ≤ L.length ∧ L.length ≤ 9223372036854775807) (fun k =>
 L.length - k) [.mk True (.exit 0) (fun x => [(3, SV.one (AC.ref 0))]) (fun x => [ho x 0]) [.o (Ob.arr true 4 (List.map datumC L))]]
theorem Sc_iCopyDataLa (L : List Datum) (h : L.length + sumBy wD L ≤ 1048576) (ih : ∀ (x : Datum), x ∈ L → wD x ≤ 1048576 → OK (P_c_iCopyDatum x)) : Lp.Sem Tryz.prog (loopAt
 Tryz.f125 0) (lc_iCopyDataLa L) := lpOK (fun k => .i ((↑k : Int) < (↑(List.map datumC L).length : Int)) (.x (↑k : Int) (List.map datumC L) (datumF (L.getD k default)) (.d [.rd]
 (P_c_iCopyDatum (L.getD k default)) (.p (((List.map datumC (List.take k L)).length + 1) * 56 ≤ 140737488355328) (.r ((↑k : Int) + 1) (.g [4] (k + 1) [.s (li ((↑k : Int) + 1)), .o
 (Ob.arr true 4 (List.map datumC (List.take k L) ++ [datumF (L.getD k default)]))]))))) (.o 0 [0] [.o (Ob.arr true 4 (List.map datumC (List.take k L)))])) (by
  intro k h; try dsimp only [teasy, nthW, lc_iCopyDataLa] at h ⊢
  have g := @sumBy_mem _ wD L (L.getD k default)
  with_reducible repeat' (first | apply And.intro | exact zR | exact ih | (intro; skip) | apply ih)
  all_goals (try simp only [std, inj] at *)
  all_goals with_reducible repeat' apply And.intro
  all_goals (try (first | with_reducible apply ih | (simp only [← List.map_append]; first | with_reducible apply ih)))
  all_goals (try (first | exact z | grind [take_get, getD_mem', snocI, snocS, rowSnoc, getD_mem'])))
theorem c_iCopyData (L : List Datum) (h : L.length + sumBy wD L ≤ 1048576) (ih : ∀ x ∈ L, ∀ (h : wD x ≤ 1048576), P_c_iCopyDatum x)  : P_c_iCopyData L := fnOK Tryz.call125
 Tryz.func125 (.z datumC L (.w (.ghost (.nilreg 3 true 4)) (.l (lc_iCopyDataLa L) (Sc_iCopyDataLa L h ih) [0] [.s (li 0), .o (Ob.arr true 4 [])] 0 (.t (.f [0] [Ob.arr true 4
 (List.map datumC L)] (AV.sv (SV.one (AC.ref 0)))) .q)))) (by
  dsimp only [teasy, P_c_iCopyData, nthW, lc_iCopyDataLa]
  with_reducible repeat' (first | apply And.intro | exact zR | exact ih | (intro; skip))
  all_goals (try simp only [std, inj] at *)
  all_goals with_reducible repeat' apply And.intro
  all_goals (try (first | with_reducible apply ih | (simp only [← List.map_append]; first | with_reducible apply ih)))
  all_goals (try (first | exact z | grind [snocI, snocS, rowSnoc])))
theorem c_iCopyDatum_s (x : Datum) (h : wD x ≤ 1048576) (ih : ∀ z ∈ x.items, ∀ (h : wD z ≤ 1048576), P_c_iCopyDatum z)  : P_c_iCopyDatum x := fnOK Tryz.call83 Tryz.func83 (.d [.rd]
 (P_c_iCopyData x.items) (.f [2] [Ob.arr true 4 (List.map datumC x.items)] (AV.sv (SV.agg [vI x.kind, vI x.number, vS x.text, AC.ref 0])))) (by
  dsimp only [teasy, P_c_iCopyDatum]
  have g := wD_eq x
  with_reducible repeat' (first | apply And.intro | exact zR | exact ih | (intro; skip) | apply c_iCopyData | apply ih)
  all_goals (try simp only [std, inj] at *)
  all_goals with_reducible repeat' apply And.intro
  all_goals (try (first | with_reducible apply c_iCopyData | with_reducible apply ih | (simp only [← List.map_append]; first | with_reducible apply c_iCopyData | with_reducible apply ih)))
  all_goals (try (first | exact z | grind [snocI, snocS, rowSnoc])))
theorem c_iCopyDatum (x : Datum) : ∀ (h : wD x ≤ 1048576), P_c_iCopyDatum x := Datum.ind (P := fun x => ∀ (h : wD x ≤ 1048576), P_c_iCopyDatum x) (fun x ih h => c_iCopyDatum_s x h ih) x
end Go.Proofs.YtgeegppaaggcjaaGreatDoor
end
section
namespace Go.Proofs.YtgeegppaaggcjaaGreatDoor
open Go Go.Proofs.YtgeegppaaggcjaaGreatDoor.Ab
set_option linter.unusedVariables false
set_option linter.unusedSimpArgs false
set_option maxHeartbeats 4000000
abbrev P_c_iNum (n : Int) : Ct := ⟨113, [], [li n], [], .sv (ls (mkS (Lib.itoa n)))⟩
theorem c_iNum (n : Int) (h : -9223372036854775808 ≤ n ∧ n ≤ 9223372036854775807)  : P_c_iNum n := fnOK Tryz.call113 Tryz.func113 (.d [.rd] (P_c_itoa n) (.s (ls (mkS (Lib.itoa n)))))
 (by
  dsimp only [teasy, P_c_iNum]
  with_reducible repeat' (first | apply And.intro | exact zR | (intro; skip) | apply c_itoa)
  all_goals (try simp only [std, inj] at *)
  all_goals with_reducible repeat' apply And.intro
  all_goals (try (first | with_reducible apply c_itoa | (simp only [← List.map_append]; first | with_reducible apply c_itoa)))
  all_goals (try (first | exact z | grind [snocI, snocS, rowSnoc])))
theorem nod_txt {k n : Int} {t : ByteArray} {i : Int} (h : nodD k n t i = true) : t.size ≤ 20 := by
  have h3 := @isSym_le t
  have e : t.data.toList.length = t.size := rfl
  simp only [nodD, Bool.or_eq_true, decide_eq_true_eq] at h
  rcases h with (((h | h) | h) | h) | h
  · rw [h.2.2] at e; simp at e; omega
  · have := h3 h.2.2.1; omega
  · rw [h.2.2.2.1] at e; simp at e; omega
  · rw [h.2.2.2.1] at e; simp at e; omega
  · have h7 := h.2.2.1; simp only [isStr, Bool.and_eq_true, decide_eq_true_eq] at h7; omega
end Go.Proofs.YtgeegppaaggcjaaGreatDoor
end
section
namespace Go.Proofs.YtgeegppaaggcjaaGreatDoor
open Go Go.Proofs.YtgeegppaaggcjaaGreatDoor.Ab
set_option linter.unusedVariables false
set_option linter.unusedSimpArgs false
set_option maxHeartbeats 4000000
def addU (L : List Int) (n : Int) : List Int := if n ∈ L then L else L ++ [n]
def memI (S : List Int) (n : Int) : Int := if n ∈ S then 1 else 0
def cntI (b : List Int) (n : Int) : Int := (b.count n : Int)
theorem memI_nil : zI = memI [] := by funext m; simp [zI, memI]
theorem memI_snoc {S : List Int} {n : Int} : upd1 (memI S) n 1 = memI (S ++ [n]) := by
  funext m; simp only [upd1, memI, List.mem_append, List.mem_singleton]; grind
theorem cntI_inc {b : List Int} {n : Int} : upd1 (cntI b) n (cntI b n + 1) = cntI (b ++ [n]) := by
  funext m; simp only [upd1, cntI, List.count_append, List.count_singleton]; grind
theorem cntI_dec {b p : List Int} {n : Int} : upd1 (cntI (b ++ n :: p)) n (cntI (b ++ n :: p) n - 1) = cntI (b ++ p) := by
  funext m; simp only [upd1, cntI, List.count_append, List.count_cons]; grind
theorem cntI_zero {b : List Int} {n : Int} : cntI b n = 0 ↔ n ∉ b := by
  simp only [cntI]; rw [← List.count_eq_zero]; omega
theorem cntI_le {b : List Int} {n : Int} : 0 ≤ cntI b n ∧ cntI b n ≤ b.length := by
  have := List.count_le_length (a := n) (l := b)
  simp only [cntI]; omega
theorem memI_zero {b : List Int} {n : Int} : memI b n = 0 ↔ n ∉ b := by
  simp only [memI]; grind
theorem addU_len (L : List Int) (n : Int) : (addU L n).length ≤ L.length + 1 := by
  unfold addU; split <;> simp
mutual
def fre : Core → List Int → List Int → List Int
  | ⟨k, n, p, _, l⟩, b, o => fres l (b ++ p) (if (k = 2 ∨ k = 4) ∧ n ∉ b then addU o n else o)
def fres : List Core → List Int → List Int → List Int
  | [], _, o => o
  | x :: r, b, o => fres r b (fre x b o)
end
theorem fres_eq : ∀ (l : List Core) (b o : List Int), fres l b o = l.foldl (fun o x => fre x b o) o
  | [], _, _ => by rw [fres]; rfl
  | x :: r, b, o => by rw [fres, fres_eq r]; rfl
def fre0 (c : Core) (b o : List Int) : List Int := if (c.kind = 2 ∨ c.kind = 4) ∧ c.number ∉ b then addU o c.number else o
theorem fre_eq (c : Core) (b o : List Int) : fre c b o = c.kids.foldl (fun o x => fre x (b ++ c.params) o) (fre0 c b o) := by cases c; simp only [fre, fres_eq, fre0]
theorem fre_len : ∀ c b o, (fre c b o).length ≤ o.length + 1 + wC c := by
  refine Core.ind fun c ih b o => ?_
  rw [fre_eq, wC_eq]
  have h : ∀ (L : List Core), (∀ y ∈ L, ∀ b o, (fre y b o).length ≤ o.length + 1 + wC y) → ∀ o, (L.foldl (fun o x => fre x (b ++ c.params) o) o).length ≤ o.length + L.length + sumBy wC L := by
    intro L
    induction L with
    | nil => intro _ o; simp [sumBy]
    | cons x r ihr =>
      intro hL o
      have h1 := hL x List.mem_cons_self (b ++ c.params) o
      have h2 := ihr (fun y hy => hL y (List.mem_cons_of_mem _ hy)) (fre x (b ++ c.params) o)
      simp only [List.foldl_cons, sumBy, List.length_cons]; omega
  have h1 := h c.kids ih (fre0 c b o)
  have h2 : (fre0 c b o).length ≤ o.length + 1 := by
    unfold fre0; split
    · exact addU_len _ _
    · omega
  omega
theorem fre0_len (c : Core) (b o : List Int) : (fre0 c b o).length ≤ o.length + 1 := by
  unfold fre0; split
  · exact addU_len _ _
  · omega
abbrev P_c_addNum (S : List Int) (n : Int) : Ct := ⟨150, [.box [.ref 1, .mref 2], .arr true 1 (S.map intC), .map (decide (S = [])) kI (mI (memI S))], [.one (.ptr 0 0), li n], [.box [.ref 3, .mref 4], .dead, .dead, .arr true 1 ((addU S n).map intC), .map (decide (addU S n = [])) kI (mI (memI (addU S n)))], .tup []⟩
theorem c_addNum (S : List Int) (n : Int) (h : S.length < 2147483647)  : P_c_addNum S n := fnOK Tryz.call150 Tryz.func150 (.i (S = []) (.w (.mkmap kI) (.w (.cells [cI (zI n)]) (.p
 (LookAt (Value.int IntKind.i64 0) (mI zI) (Value.int IntKind.i64 n) (cI 0)) (.y true (.w (.upd (mI (upd1 zI n 1))) (.p (false = false) (.p (UpdF kI.d (mI zI) (mI (upd1 zI n 1))
 (Value.int IntKind.i64 n) (some (cI 1))) (.p (((List.map intC S).length + 1) * 8 ≤ 140737488355328) (.w (.ghost (.move 2)) (.f [5, 3] [Ob.box [AC.ref 3, AC.mref 4], Ob.dead,
 Ob.dead, Ob.arr true 1 (List.map intC S ++ [[cI n]]), Ob.map false kI (mI (upd1 zI n 1))] (AV.tup []))))))))))) (.w (.cells [cI (memI S n)]) (.p (LookAt (Value.int IntKind.i64 0)
 (mI (memI S)) (Value.int IntKind.i64 n) (cI (memI S n))) (.i (memI S n = 0) (.w (.upd (mI (upd1 (memI S) n 1))) (.p (decide (S = []) = false) (.p (UpdF kI.d (mI (memI S)) (mI
 (upd1 (memI S) n 1)) (Value.int IntKind.i64 n) (some (cI 1))) (.p (((List.map intC S).length + 1) * 8 ≤ 140737488355328) (.w (.ghost (.move 2)) (.f [4, 5] [Ob.box [AC.ref 3,
 AC.mref 4], Ob.dead, Ob.dead, Ob.arr true 1 (List.map intC S ++ [[cI n]]), Ob.map (decide (S = [])) kI (mI (upd1 (memI S) n 1))] (AV.tup []))))))) (.w (.ghost (.move 1)) (.w
 (.ghost (.move 2)) (.f [3, 4] [Ob.box [AC.ref 3, AC.mref 4], Ob.dead, Ob.dead, Ob.arr true 1 (List.map intC S), Ob.map (decide (S = [])) kI (mI (memI S))] (AV.tup [])))))))) (by
  dsimp only [teasy, P_c_addNum]
  with_reducible repeat' (first | apply And.intro | exact zR | (intro; skip) | apply mIc | apply mOc | apply mSc | apply mLc)
  all_goals (try simp only [std, inj] at *)
  all_goals with_reducible repeat' apply And.intro
  all_goals (try (first | exact z | exact zM | grind [addU, memI_zero, memI_snoc, memI_nil, List.append_eq_nil_iff, snocI, snocS, rowSnoc])))
abbrev P_c_freeIn (c : Core) (b : List Int) (S : List Int) : Ct := ⟨127, [.map false kI (mI (cntI b)), .box [.ref 2, .mref 3], .arr true 1 (S.map intC), .map (decide (S = [])) kI (mI (memI S))], [coreA c, .one (.mref 0), .one (.ptr 1 0)], [.map false kI (mI (cntI b)), .box [.ref 4, .mref 5], .dead, .dead, .arr true 1 ((fre c b S).map intC), .map (decide (fre c b S = [])) kI (mI (memI (fre c b S)))], .tup []⟩
def lc_freeIn_sLc (c : Core) (b : List Int) (S : List Int) : Lp Nat := .mk 67 4 (fun x => [(1, SV.one (AC.mref 0)), (56, ll (List.map intC c.params)), (57, li (↑(List.map intC
 c.params).length : Int)), (58, hs x 0)]) (fun x => [ho x 1, Ob.box [AC.ref 4, AC.mref 5], Ob.dead, Ob.dead, Ob.arr true 1 (List.map intC (fre c b S)), Ob.map (decide (fre c b S =
 [])) kI (mI (memI (fre c b S)))]) (fun k => [.s (li (↑k : Int)), .o (Ob.map false kI (mI (cntI (b ++ List.drop k c.params))))]) (fun k => k ≤ c.params.length ∧ c.params.length ≤
 9223372036854775807) (fun k => c.params.length - k) [.mk True (.exit 4) (fun x => []) (fun x => [ho x 0, Ob.box [AC.ref 4, AC.mref 5], Ob.dead, Ob.dead, Ob.arr true 1 (List.map
 intC (fre c b S)), Ob.map (decide (fre c b S = [])) kI (mI (memI (fre c b S)))]) [.o (Ob.map false kI (mI (cntI b)))]]
def lc_freeIn_sLb (c : Core) (b : List Int) (S : List Int) : Lp Nat := .mk 67 4 (fun x => [(1, SV.one (AC.mref 0)), (2, SV.one (AC.ptr 1 0)), (3, SV.one (AC.ptr 4 0)), (44, ll
 (List.map coreC c.kids)), (45, li (↑(List.map coreC c.kids).length : Int)), (46, hs x 0)]) (fun x => [Ob.map false kI (mI (cntI (b ++ c.params))), Ob.box [AC.ref 5, AC.mref 6],
 Ob.dead, Ob.dead, Ob.box (vals (coreF c)), ho x 1, ho x 2]) (fun k => [.s (li (↑k : Int)), .o (Ob.arr true 1 (List.map intC (List.foldl (fun o x => fre x (b ++ c.params) o) (fre0
 c b S) (List.take k c.kids)))), .o (Ob.map (decide (List.foldl (fun o x => fre x (b ++ c.params) o) (fre0 c b S) (List.take k c.kids) = [])) kI (mI (memI (List.foldl (fun o x =>
 fre x (b ++ c.params) o) (fre0 c b S) (List.take k c.kids)))))]) (fun k => k ≤ c.kids.length ∧ c.kids.length ≤ 9223372036854775807) (fun k => c.kids.length - k) [.mk True (.exit
 2) (fun x => [(1, SV.one (AC.mref 0)), (3, SV.one (AC.ptr 4 0))]) (fun x => [Ob.map false kI (mI (cntI (b ++ c.params))), Ob.box [AC.ref 5, AC.mref 6], Ob.dead, Ob.dead, Ob.box
 (vals (coreF c)), ho x 0, ho x 1]) [.o (Ob.arr true 1 (List.map intC (fre c b S))), .o (Ob.map (decide (fre c b S = [])) kI (mI (memI (fre c b S))))]]
def lc_freeIn_sLa (c : Core) (b : List Int) (S : List Int) : Lp Nat := .mk 67 4 (fun x => [(1, SV.one (AC.mref 0)), (2, SV.one (AC.ptr 1 0)), (3, SV.one (AC.ptr 4 0)), (32, ll
 (List.map intC c.params)), (33, li (↑(List.map intC c.params).length : Int)), (34, hs x 0)]) (fun x => [ho x 1, Ob.box [AC.ref 5, AC.mref 6], Ob.dead, Ob.dead, Ob.box (vals (coreF
 c)), ho x 2, ho x 3]) (fun k => [.s (li (↑k : Int)), .o (Ob.map false kI (mI (cntI (b ++ List.take k c.params)))), .o (Ob.arr true 1 (List.map intC (fre0 c b S))), .o (Ob.map
 (decide (fre0 c b S = [])) kI (mI (memI (fre0 c b S))))]) (fun k => k ≤ c.params.length ∧ c.params.length ≤ 9223372036854775807) (fun k => c.params.length - k) [.mk True (.exit 0)
 (fun x => [(1, SV.one (AC.mref 0)), (2, SV.one (AC.ptr 1 0)), (3, SV.one (AC.ptr 4 0))]) (fun x => [ho x 0, Ob.box [AC.ref 5, AC.mref 6], Ob.dead, Ob.dead, Ob.box (vals (coreF
 c)), ho x 1, ho x 2]) [.o (Ob.map false kI (mI (cntI (b ++ c.params)))), .o (Ob.arr true 1 (List.map intC (fre0 c b S))), .o (Ob.map (decide (fre0 c b S = [])) kI (mI (memI (fre0
 c b S))))]]
theorem Sc_freeIn_sLc (c : Core) (b : List Int) (S : List Int) (h : b.length + S.length + wC c + 1 ≤ 2147483647) (ih : ∀ (z : Core), z ∈ c.kids → ∀ (b S : List Int), b.length +
 S.length + wC z + 1 ≤ 2147483647 → OK (P_c_freeIn z b S)) : Lp.Sem Tryz.prog (loopAt Tryz.f127 2) (lc_freeIn_sLc c b S) := lpOK (fun k => .i ((↑k : Int) < (↑(List.map intC
 c.params).length : Int)) (.x (↑k : Int) (List.map intC c.params) [cI (c.params.getD k 0)] (.w (.cells [cI (cntI (b ++ List.drop k c.params) (c.params.getD k 0))]) (.p (LookAt
 (Value.int IntKind.i64 0) (mI (cntI (b ++ List.drop k c.params))) (Value.int IntKind.i64 (c.params.getD k 0)) (cI (cntI (b ++ List.drop k c.params) (c.params.getD k 0)))) (.r
 (cntI (b ++ List.drop k c.params) (c.params.getD k 0) - 1) (.w (.upd (mI (upd1 (cntI (b ++ List.drop k c.params)) (c.params.getD k 0) (cntI (b ++ List.drop k c.params)
 (c.params.getD k 0) - 1)))) (.p (false = false) (.p (UpdF kI.d (mI (cntI (b ++ List.drop k c.params))) (mI (upd1 (cntI (b ++ List.drop k c.params)) (c.params.getD k 0) (cntI (b ++
 List.drop k c.params) (c.params.getD k 0) - 1))) (Value.int IntKind.i64 (c.params.getD k 0)) (some (cI (cntI (b ++ List.drop k c.params) (c.params.getD k 0) - 1)))) (.r ((↑k :
 Int) + 1) (.g [0, 1, 2, 3, 4, 5] (k + 1) [.s (li ((↑k : Int) + 1)), .o (Ob.map false kI (mI (upd1 (cntI (b ++ List.drop k c.params)) (c.params.getD k 0) (cntI (b ++ List.drop k
 c.params) (c.params.getD k 0) - 1))))]))))))))) (.o 0 [0, 1, 2, 3, 4, 5] [.o (Ob.map false kI (mI (cntI (b ++ List.drop k c.params))))])) (by
  intro k h; try dsimp only [teasy, nthW, lc_freeIn_sLc] at h ⊢
  have g := fun L n => (cntI_le (b := L) (n := n)).2
  have g' := fun L n => (cntI_le (b := L) (n := n)).1
  have g4 := wC_eq c
  have b1 := g (b ++ c.params.drop k) (c.params.getD k 0)
  have b2 := g' (b ++ c.params.drop k) (c.params.getD k 0)
  have b3 : (b ++ c.params.drop k).length ≤ b.length + c.params.length := by rw [List.length_append, List.length_drop]; omega
  have b4 : -9223372036854775808 ≤ cntI (b ++ c.params.drop k) (c.params.getD k 0) - 1 := by omega
  have b5 : cntI (b ++ c.params.drop k) (c.params.getD k 0) - 1 ≤ 9223372036854775807 := by omega
  with_reducible repeat' (first | apply And.intro | exact zR | exact ih | (intro; skip) | apply mIc | apply mOc | apply mSc | apply mLc | apply c_addNum)
  all_goals (try simp only [std, inj] at *)
  all_goals with_reducible repeat' apply And.intro
  all_goals (try (first | with_reducible apply c_addNum | with_reducible apply ih | (simp only [← List.map_append]; first | with_reducible apply c_addNum | with_reducible apply ih)))
  all_goals (try (first | exact z | exact zM | grind [cntI_dec, drop_get, snocI, snocS, rowSnoc])))
theorem Sc_freeIn_sLb (c : Core) (b : List Int) (S : List Int) (h : b.length + S.length + wC c + 1 ≤ 2147483647) (ih : ∀ (z : Core), z ∈ c.kids → ∀ (b S : List Int), b.length +
 S.length + wC z + 1 ≤ 2147483647 → OK (P_c_freeIn z b S)) : Lp.Sem Tryz.prog (loopAt Tryz.f127 1) (lc_freeIn_sLb c b S) := lpOK (fun k => .i ((↑k : Int) < (↑(List.map coreC
 c.kids).length : Int)) (.x (↑k : Int) (List.map coreC c.kids) (coreF (c.kids.getD k default)) (.d [.rd, .map, .ptr] (P_c_freeIn (c.kids.getD k default) (b ++ c.params) (List.foldl
 (fun o x => fre x (b ++ c.params) o) (fre0 c b S) (List.take k c.kids))) (.r ((↑k : Int) + 1) (.g [0, 1, 2, 3, 4, 12, 13] (k + 1) [.s (li ((↑k : Int) + 1)), .o (Ob.arr true 1
 (List.map intC (fre (c.kids.getD k default) (b ++ c.params) (List.foldl (fun o x => fre x (b ++ c.params) o) (fre0 c b S) (List.take k c.kids))))), .o (Ob.map (decide (fre
 (c.kids.getD k default) (b ++ c.params) (List.foldl (fun o x => fre x (b ++ c.params) o) (fre0 c b S) (List.take k c.kids)) = [])) kI (mI (memI (fre (c.kids.getD k default) (b ++
 c.params) (List.foldl (fun o x => fre x (b ++ c.params) o) (fre0 c b S) (List.take k c.kids))))))])))) (.o 0 [0, 1, 2, 3, 4, 5, 6] [.o (Ob.arr true 1 (List.map intC (List.foldl
 (fun o x => fre x (b ++ c.params) o) (fre0 c b S) (List.take k c.kids)))), .o (Ob.map (decide (List.foldl (fun o x => fre x (b ++ c.params) o) (fre0 c b S) (List.take k c.kids) =
 [])) kI (mI (memI (List.foldl (fun o x => fre x (b ++ c.params) o) (fre0 c b S) (List.take k c.kids)))))])) (by
  intro k h; try dsimp only [teasy, nthW, lc_freeIn_sLb] at h ⊢
  have g1 := foldl_len (fun o x => fre x (b ++ c.params) o) wC (c.kids.take k) (fun y _ o => fre_len y _ o) (fre0 c b S)
  have g2 := fre0_len c b S
  have g3 := sumBy_takeLe wC c.kids (k + 1)
  have g4 := wC_eq c
  with_reducible repeat' (first | apply And.intro | exact zR | exact ih | (intro; skip) | apply mIc | apply mOc | apply mSc | apply mLc | apply c_addNum | apply ih)
  all_goals (try simp only [std, inj] at *)
  all_goals with_reducible repeat' apply And.intro
  all_goals (try (first | with_reducible apply c_addNum | with_reducible apply ih | (simp only [← List.map_append]; first | with_reducible apply c_addNum | with_reducible apply ih)))
  all_goals (try (first | exact z | exact zM | grind [fre_eq, foldl_step, getD_mem', sumBy_step, snocI, snocS, rowSnoc])))
theorem Sc_freeIn_sLa (c : Core) (b : List Int) (S : List Int) (h : b.length + S.length + wC c + 1 ≤ 2147483647) (ih : ∀ (z : Core), z ∈ c.kids → ∀ (b S : List Int), b.length +
 S.length + wC z + 1 ≤ 2147483647 → OK (P_c_freeIn z b S)) : Lp.Sem Tryz.prog (loopAt Tryz.f127 0) (lc_freeIn_sLa c b S) := lpOK (fun k => .i ((↑k : Int) < (↑(List.map intC
 c.params).length : Int)) (.x (↑k : Int) (List.map intC c.params) [cI (c.params.getD k 0)] (.w (.cells [cI (cntI (b ++ List.take k c.params) (c.params.getD k 0))]) (.p (LookAt
 (Value.int IntKind.i64 0) (mI (cntI (b ++ List.take k c.params))) (Value.int IntKind.i64 (c.params.getD k 0)) (cI (cntI (b ++ List.take k c.params) (c.params.getD k 0)))) (.r
 (cntI (b ++ List.take k c.params) (c.params.getD k 0) + 1) (.w (.upd (mI (upd1 (cntI (b ++ List.take k c.params)) (c.params.getD k 0) (cntI (b ++ List.take k c.params)
 (c.params.getD k 0) + 1)))) (.p (false = false) (.p (UpdF kI.d (mI (cntI (b ++ List.take k c.params))) (mI (upd1 (cntI (b ++ List.take k c.params)) (c.params.getD k 0) (cntI (b ++
 List.take k c.params) (c.params.getD k 0) + 1))) (Value.int IntKind.i64 (c.params.getD k 0)) (some (cI (cntI (b ++ List.take k c.params) (c.params.getD k 0) + 1)))) (.r ((↑k :
 Int) + 1) (.g [0, 1, 2, 3, 4, 5, 6] (k + 1) [.s (li ((↑k : Int) + 1)), .o (Ob.map false kI (mI (upd1 (cntI (b ++ List.take k c.params)) (c.params.getD k 0) (cntI (b ++ List.take k
 c.params) (c.params.getD k 0) + 1)))), .o (Ob.arr true 1 (List.map intC (fre0 c b S))), .o (Ob.map (decide (fre0 c b S = [])) kI (mI (memI (fre0 c b S))))]))))))))) (.o 0 [0, 1,
 2, 3, 4, 5, 6] [.o (Ob.map false kI (mI (cntI (b ++ List.take k c.params)))), .o (Ob.arr true 1 (List.map intC (fre0 c b S))), .o (Ob.map (decide (fre0 c b S = [])) kI (mI (memI
 (fre0 c b S))))])) (by
  intro k h; try dsimp only [teasy, nthW, lc_freeIn_sLa] at h ⊢
  have g := fun L n => (cntI_le (b := L) (n := n)).2
  have g' := fun L n => (cntI_le (b := L) (n := n)).1
  have g4 := wC_eq c
  have b1 := g (b ++ c.params.take k) (c.params.getD k 0)
  have b2 := g' (b ++ c.params.take k) (c.params.getD k 0)
  have b3 : (b ++ c.params.take k).length ≤ b.length + c.params.length := by rw [List.length_append, List.length_take]; omega
  have b4 : -9223372036854775808 ≤ cntI (b ++ c.params.take k) (c.params.getD k 0) + 1 := by omega
  have b5 : cntI (b ++ c.params.take k) (c.params.getD k 0) + 1 ≤ 9223372036854775807 := by omega
  with_reducible repeat' (first | apply And.intro | exact zR | exact ih | (intro; skip) | apply mIc | apply mOc | apply mSc | apply mLc | apply c_addNum)
  all_goals (try simp only [std, inj] at *)
  all_goals with_reducible repeat' apply And.intro
  all_goals (try (first | with_reducible apply c_addNum | with_reducible apply ih | (simp only [← List.map_append]; first | with_reducible apply c_addNum | with_reducible apply ih)))
  all_goals (try (first | exact z | exact zM | grind [cntI_inc, take_get, snocI, snocS, rowSnoc])))
theorem c_freeIn_s (c : Core) (b S : List Int) (h : b.length + S.length + wC c + 1 ≤ 2147483647) (ih : ∀ z ∈ c.kids, ∀ (b : List Int) (S : List Int) (h : b.length + S.length + wC z
 + 1 ≤ 2147483647), P_c_freeIn z b S)  : P_c_freeIn c b S := fnOK Tryz.call127 Tryz.func127 (let v1 := [Ob.map false kI (mI (cntI b)), Ob.box [AC.ref 4, AC.mref 5], Ob.dead, Ob.dead,
 Ob.arr true 1 (List.map intC (fre c b S)), Ob.map (decide (fre c b S = [])) kI (mI (memI (fre c b S)))]; let v2 := [0, 1, 2, 3, 4, 5, 6]; let v3 := [0, 1, 2, 3, 5, 6]; let v4 :=
 (Ob.map (decide (fre0 c b S = [])) kI (mI (memI (fre0 c b S)))); let v5 := (Ob.arr true 1 (List.map intC (fre0 c b S))); let v6 := (Ob.map false kI (mI (cntI (b ++ c.params))));
 let v7 := (Ob.map false kI (mI (cntI b))); let v8 := (LookAt (Value.int IntKind.i64 0) (mI (cntI b)) (Value.int IntKind.i64 c.number) (cI (cntI b c.number))); let v9 :=
 (Sc_freeIn_sLc c b S h ih); let v10 := (Sc_freeIn_sLb c b S h ih); let v11 := (Sc_freeIn_sLa c b S h ih); let v12 := (Ob.map (decide (S = [])) kI (mI (memI S))); let v13 :=
 (Ob.arr true 1 (List.map intC S)); .i (c.kind = 2) (.y true (.w (.cells [cI (cntI b c.number)]) (.p v8 (.i (cntI b c.number = 0) (.d [.ptr, .rd] (P_c_addNum S c.number) (.z intC
 c.params (.l (lc_freeIn_sLa c b S) v11 [0, 1, 2, 3, 4, 8, 9] [.s (li 0), .o v7, .o (Ob.arr true 1 (List.map intC (addU S c.number))), .o (Ob.map (decide (addU S c.number = [])) kI
 (mI (memI (addU S c.number))))] 0 (.t (.z coreC c.kids (.l (lc_freeIn_sLb c b S) v10 v2 [.s (li 0), .o v5, .o v4] 0 (.t (.z intC c.params (.l (lc_freeIn_sLc c b S) v9 v3 [.s (li
 0), .o v6] 0 (.t (.f [4, 5] v1 (AV.tup [])) .q))) .q))) .q)))) (.z intC c.params (.w (.ghost (.move 2)) (.w (.ghost (.move 3)) (.l (lc_freeIn_sLa c b S) v11 v2 [.s (li 0), .o v7,
 .o v13, .o v12] 0 (.t (.z coreC c.kids (.l (lc_freeIn_sLb c b S) v10 v2 [.s (li 0), .o v5, .o v4] 0 (.t (.z intC c.params (.l (lc_freeIn_sLc c b S) v9 v3 [.s (li 0), .o v6] 0 (.t
 (.f [4, 5] v1 (AV.tup [])) .q))) .q))) .q))))))))) (.i (c.kind = 4) (.w (.cells [cI (cntI b c.number)]) (.p v8 (.i (cntI b c.number = 0) (.d [.ptr, .rd] (P_c_addNum S c.number)
 (.z intC c.params (.l (lc_freeIn_sLa c b S) v11 [0, 1, 2, 3, 4, 8, 9] [.s (li 0), .o v7, .o (Ob.arr true 1 (List.map intC (addU S c.number))), .o (Ob.map (decide (addU S c.number
 = [])) kI (mI (memI (addU S c.number))))] 0 (.t (.z coreC c.kids (.l (lc_freeIn_sLb c b S) v10 v2 [.s (li 0), .o v5, .o v4] 0 (.t (.z intC c.params (.l (lc_freeIn_sLc c b S) v9 v3
 [.s (li 0), .o v6] 0 (.t (.f [4, 5] v1 (AV.tup [])) .q))) .q))) .q)))) (.z intC c.params (.w (.ghost (.move 2)) (.w (.ghost (.move 3)) (.l (lc_freeIn_sLa c b S) v11 v2 [.s (li 0),
 .o v7, .o v13, .o v12] 0 (.t (.z coreC c.kids (.l (lc_freeIn_sLb c b S) v10 v2 [.s (li 0), .o v5, .o v4] 0 (.t (.z intC c.params (.l (lc_freeIn_sLc c b S) v9 v3 [.s (li 0), .o v6]
 0 (.t (.f [4, 5] v1 (AV.tup [])) .q))) .q))) .q)))))))) (.y false (.z intC c.params (.w (.ghost (.move 2)) (.w (.ghost (.move 3)) (.l (lc_freeIn_sLa c b S) v11 v2 [.s (li 0), .o
 v7, .o v13, .o v12] 0 (.t (.z coreC c.kids (.l (lc_freeIn_sLb c b S) v10 v2 [.s (li 0), .o v5, .o v4] 0 (.t (.z intC c.params (.l (lc_freeIn_sLc c b S) v9 v3 [.s (li 0), .o v6] 0
 (.t (.f [4, 5] v1 (AV.tup [])) .q))) .q))) .q)))))))) (by
  dsimp only [teasy, P_c_freeIn, nthW, lc_freeIn_sLa, lc_freeIn_sLb, lc_freeIn_sLc]
  with_reducible repeat' (first | apply And.intro | exact zR | exact ih | (intro; skip) | apply mIc | apply mOc | apply mSc | apply mLc | apply c_addNum)
  all_goals (try simp only [std, inj] at *)
  all_goals with_reducible repeat' apply And.intro
  all_goals (try (first | with_reducible apply c_addNum | with_reducible apply ih | (simp only [← List.map_append]; first | with_reducible apply c_addNum | with_reducible apply ih)))
  all_goals (try (first | exact z | exact zM | grind [cntI_zero, fre0, snocI, snocS, rowSnoc])))
theorem c_freeIn (c : Core) : ∀ (b : List Int) (S : List Int) (h : b.length + S.length + wC c + 1 ≤ 2147483647), P_c_freeIn c b S := Core.ind (P := fun c => ∀ (b : List Int) (S : List Int) (h : b.length + S.length + wC c + 1 ≤ 2147483647), P_c_freeIn c b S) (fun c ih b S h => c_freeIn_s c b S h ih) c
abbrev P_c_sHas (L : List Int) (n : Int) : Ct := ⟨121, [], [ll (L.map intC), li n], [], .sv (lb (decide (n ∈ L)))⟩
def lc_sHasLa (L : List Int) (n : Int) : Lp Nat := .mk 17 0 (fun x => [(1, li n), (7, ll (List.map intC L)), (8, li (↑(List.map intC L).length : Int)), (9, hs x 0)]) (fun x => [])
 (fun k => [.s (li (↑k : Int))]) (fun k => k ≤ L.length ∧ L.length ≤ 9223372036854775807 ∧ ¬n ∈ List.take k L) (fun k => L.length - k) [.mk (¬n ∈ L) (.exit 0) (fun x => []) (fun x
 => []) [], .mk (n ∈ L) .ret (fun x => [(4, hs x 0)]) (fun x => []) [.s (lb true)]]
theorem Sc_sHasLa (L : List Int) (n : Int) : Lp.Sem Tryz.prog (loopAt Tryz.f121 0) (lc_sHasLa L n) := lpOK (fun k => .i ((↑k : Int) < (↑(List.map intC L).length : Int)) (.x (↑k :
 Int) (List.map intC L) [cI (L.getD k 0)] (.i (L.getD k 0 = n) (.o 1 [] [.s (lb true)]) (.r ((↑k : Int) + 1) (.g [] (k + 1) [.s (li ((↑k : Int) + 1))])))) (.o 0 [] [])) (by
  intro k h; try dsimp only [teasy, nthW, lc_sHasLa] at h ⊢
  with_reducible repeat' (first | apply And.intro | exact zR | (intro; skip) | apply mIc | apply mOc | apply mSc | apply mLc)
  all_goals (try simp only [std, inj] at *)
  all_goals with_reducible repeat' apply And.intro
  all_goals (try (first | exact z | exact zM | grind [take_get, getD_mem', snocI, snocS, rowSnoc])))
theorem c_sHas (L : List Int) (n : Int)  : P_c_sHas L n := fnOK Tryz.call121 Tryz.func121 (.z intC L (.l (lc_sHasLa L n) (Sc_sHasLa L n) [] [.s (li 0)] 0 (.t (.s (lb false)) (.t (.s
 (lb true)) .q)))) (by
  dsimp only [teasy, P_c_sHas, nthW, lc_sHasLa]
  with_reducible repeat' (first | apply And.intro | exact zR | (intro; skip) | apply mIc | apply mOc | apply mSc | apply mLc)
  all_goals (try simp only [std, inj] at *)
  all_goals with_reducible repeat' apply And.intro
  all_goals (try (first | exact z | exact zM | grind [snocI, snocS, rowSnoc])))
abbrev P_c_l2Ints (L : List Int) : Ct := ⟨119, [], [ll (L.map intC)], [.arr true 1 (L.map intC)], .sv (.one (.ref 0))⟩
theorem c_l2Ints (L : List Int) (h : L.length ≤ 2147483647)  : P_c_l2Ints L := fnOK Tryz.call119 Tryz.func119 (.w (.bool false) (.p (∀ (e : List Cell), e ∈ List.map intC L → ∀ (c :
 Cell), c ∈ e → ∃ v, c = Cell.lit v) (.p (∀ (e : List Cell), e ∈ List.map intC L → e.length = 1) (.p ((0 + (List.map intC L).length) * 8 ≤ 140737488355328) (.f [1] [Ob.arr true 1
 (List.map intC L)] (AV.sv (SV.one (AC.ref 0)))))))) (by
  dsimp only [teasy, P_c_l2Ints]
  with_reducible repeat' (first | apply And.intro | exact zR | (intro; skip) | apply mIc | apply mOc | apply mSc | apply mLc)
  all_goals (try simp only [std, inj] at *)
  all_goals with_reducible repeat' apply And.intro
  all_goals (try (first | exact z | exact zM | grind [snocI, snocS, rowSnoc])))
abbrev P_c_l5Names (c : Core) : Ct := ⟨146, [], [coreA c], [], .sv (lb (decide (c.kind = 2 ∨ c.kind = 4)))⟩
theorem c_l5Names (c : Core)  : P_c_l5Names c := fnOK Tryz.call146 Tryz.func146 (.i (c.kind = 2) (.s (lb true)) (.s (lb (decide (c.kind = 4))))) (by
  dsimp only [teasy, P_c_l5Names]
  with_reducible repeat' (first | apply And.intro | exact zR | (intro; skip) | apply mIc | apply mOc | apply mSc | apply mLc)
  all_goals (try simp only [std, inj] at *)
  all_goals with_reducible repeat' apply And.intro
  all_goals (try (first | exact z | exact zM | grind [snocI, snocS, rowSnoc])))
abbrev P_c_l5Free (c : Core) (b : List Int) (S : List Int) : Ct := ⟨122, [.arr true 1 (S.map intC)], [coreA c, ll (b.map intC), .one (.ref 0)], [.dead, .arr true 1 ((fre c b S).map intC)], .sv (.one (.ref 1))⟩
def lc_l5Free_sLa (c : Core) (b : List Int) (S : List Int) : Lp Nat := .mk 48 1 (fun x => [(1, SV.one (AC.ref 1)), (2, SV.one (AC.ref 2)), (36, ll (List.map coreC c.kids)), (37, li
 (↑(List.map coreC c.kids).length : Int)), (38, hs x 0)]) (fun x => [Ob.dead, Ob.arr true 1 (List.map intC b ++ List.map intC c.params), ho x 1]) (fun k => [.s (li (↑k : Int)), .o
 (Ob.arr true 1 (List.map intC (List.foldl (fun o x => fre x (b ++ c.params) o) (fre0 c b S) (List.take k c.kids))))]) (fun k => k ≤ c.kids.length ∧ c.kids.length ≤
 9223372036854775807) (fun k => c.kids.length - k) [.mk True (.exit 0) (fun x => [(2, SV.one (AC.ref 1))]) (fun x => [Ob.dead, ho x 0]) [.o (Ob.arr true 1 (List.map intC (fre c b
 S)))]]
theorem Sc_l5Free_sLa (c : Core) (b : List Int) (S : List Int) (h : b.length + S.length + wC c + 1 ≤ 2147483647) (ih : ∀ (z : Core), z ∈ c.kids → ∀ (b S : List Int), b.length +
 S.length + wC z + 1 ≤ 2147483647 → OK (P_c_l5Free z b S)) : Lp.Sem Tryz.prog (loopAt Tryz.f122 0) (lc_l5Free_sLa c b S) := lpOK (fun k => .i ((↑k : Int) < (↑(List.map coreC
 c.kids).length : Int)) (.x (↑k : Int) (List.map coreC c.kids) (coreF (c.kids.getD k default)) (.u [.rd, .rd, .own true 1] (P_c_l5Free (c.kids.getD k default) (b ++ c.params)
 (List.foldl (fun o x => fre x (b ++ c.params) o) (fre0 c b S) (List.take k c.kids))) (.p (CallOK Tryz.prog 122 [Ob.arr true 1 (List.map intC (List.foldl (fun o x => fre x (b ++
 c.params) o) (fre0 c b S) (List.take k c.kids)))] [SV.agg (vals (coreF (c.kids.getD k default))), ll (List.map intC b ++ List.map intC c.params), SV.one (AC.ref 0)] [Ob.dead,
 Ob.arr true 1 (List.map intC (fre (c.kids.getD k default) (b ++ c.params) (List.foldl (fun o x => fre x (b ++ c.params) o) (fre0 c b S) (List.take k c.kids))))] (AV.sv (SV.one
 (AC.ref 1)))) (.r ((↑k : Int) + 1) (.g [0, 1, 5] (k + 1) [.s (li ((↑k : Int) + 1)), .o (Ob.arr true 1 (List.map intC (fre (c.kids.getD k default) (b ++ c.params) (List.foldl (fun
 o x => fre x (b ++ c.params) o) (fre0 c b S) (List.take k c.kids)))))]))))) (.o 0 [0, 2] [.o (Ob.arr true 1 (List.map intC (List.foldl (fun o x => fre x (b ++ c.params) o) (fre0 c
 b S) (List.take k c.kids))))])) (by
  intro k h; try dsimp only [teasy, nthW, lc_l5Free_sLa] at h ⊢
  have g1 := foldl_len (fun o x => fre x (b ++ c.params) o) wC (c.kids.take k) (fun y _ o => fre_len y _ o) (fre0 c b S)
  have g2 := fre0_len c b S
  have g3 := sumBy_takeLe wC c.kids (k + 1)
  have g4 := wC_eq c
  with_reducible repeat' (first | apply And.intro | exact zR | exact ih | (intro; skip) | apply mIc | apply mOc | apply mSc | apply mLc | apply c_sHas | apply c_l2Ints | apply c_l5Names | apply ih)
  all_goals (try simp only [std, inj] at *)
  all_goals with_reducible repeat' apply And.intro
  all_goals (try (first | with_reducible apply c_sHas | with_reducible apply c_l2Ints | with_reducible apply c_l5Names | with_reducible apply ih | (simp only [← List.map_append]; first | with_reducible apply c_sHas | with_reducible apply c_l2Ints | with_reducible apply c_l5Names | with_reducible apply ih)))
  all_goals (try (first | exact z | exact zM | grind [fre_eq, foldl_step, getD_mem', sumBy_step, snocI, snocS, rowSnoc])))
theorem c_l5Free_s (c : Core) (b S : List Int) (h : b.length + S.length + wC c + 1 ≤ 2147483647) (ih : ∀ z ∈ c.kids, ∀ (b : List Int) (S : List Int) (h : b.length + S.length + wC z
 + 1 ≤ 2147483647), P_c_l5Free z b S)  : P_c_l5Free c b S := fnOK Tryz.call122 Tryz.func122 (.c [.rd] (c_l5Names c) (.i (c.kind = 2 ∨ c.kind = 4) (.c [.rd, .rd] (c_sHas b c.number)
 (.b (!decide (c.number ∈ b)) (.c [.rd, .rd] (c_sHas S c.number) (.b (!decide (c.number ∈ S)) (.p (((List.map intC S).length + 1) * 8 ≤ 140737488355328) (.w (.draw [(4, [4])]) (.d
 [.rd] (P_c_l2Ints b) (.p (∀ (e : List Cell), e ∈ List.map intC c.params → ∀ (c : Cell), c ∈ e → ∃ v, c = Cell.lit v) (.p (∀ (e : List Cell), e ∈ List.map intC c.params → e.length
 = 1) (.p (((List.map intC b).length + (List.map intC c.params).length) * 8 ≤ 140737488355328) (.z coreC c.kids (.l (lc_l5Free_sLa c b S) (Sc_l5Free_sLa c b S h ih) [0, 12, 3] [.s
 (li 0), .o (Ob.arr true 1 (List.map intC S ++ [[cI c.number]]))] 0 (.t (.f [1] [Ob.dead, Ob.arr true 1 (List.map intC (fre c b S))] (AV.sv (SV.one (AC.ref 1)))) .q))))))))) (.w
 (.draw [(4, [2])]) (.d [.rd] (P_c_l2Ints b) (.p (∀ (e : List Cell), e ∈ List.map intC c.params → ∀ (c : Cell), c ∈ e → ∃ v, c = Cell.lit v) (.p (∀ (e : List Cell), e ∈ List.map
 intC c.params → e.length = 1) (.p (((List.map intC b).length + (List.map intC c.params).length) * 8 ≤ 140737488355328) (.z coreC c.kids (.w (.ghost (.move 0)) (.l (lc_l5Free_sLa c
 b S) (Sc_l5Free_sLa c b S h ih) [0, 10, 11] [.s (li 0), .o (Ob.arr true 1 (List.map intC S))] 0 (.t (.f [1] [Ob.dead, Ob.arr true 1 (List.map intC (fre c b S))] (AV.sv (SV.one
 (AC.ref 1)))) .q))))))))))) (.y false (.w (.draw [(4, [2])]) (.d [.rd] (P_c_l2Ints b) (.p (∀ (e : List Cell), e ∈ List.map intC c.params → ∀ (c : Cell), c ∈ e → ∃ v, c = Cell.lit
 v) (.p (∀ (e : List Cell), e ∈ List.map intC c.params → e.length = 1) (.p (((List.map intC b).length + (List.map intC c.params).length) * 8 ≤ 140737488355328) (.z coreC c.kids (.w
 (.ghost (.move 0)) (.l (lc_l5Free_sLa c b S) (Sc_l5Free_sLa c b S h ih) [0, 10, 11] [.s (li 0), .o (Ob.arr true 1 (List.map intC S))] 0 (.t (.f [1] [Ob.dead, Ob.arr true 1
 (List.map intC (fre c b S))] (AV.sv (SV.one (AC.ref 1)))) .q)))))))))))) (.y false (.y false (.w (.draw [(4, [2])]) (.d [.rd] (P_c_l2Ints b) (.p (∀ (e : List Cell), e ∈ List.map
 intC c.params → ∀ (c : Cell), c ∈ e → ∃ v, c = Cell.lit v) (.p (∀ (e : List Cell), e ∈ List.map intC c.params → e.length = 1) (.p (((List.map intC b).length + (List.map intC
 c.params).length) * 8 ≤ 140737488355328) (.z coreC c.kids (.w (.ghost (.move 0)) (.l (lc_l5Free_sLa c b S) (Sc_l5Free_sLa c b S h ih) [0, 10, 11] [.s (li 0), .o (Ob.arr true 1
 (List.map intC S))] 0 (.t (.f [1] [Ob.dead, Ob.arr true 1 (List.map intC (fre c b S))] (AV.sv (SV.one (AC.ref 1)))) .q))))))))))))) (by
  dsimp only [teasy, P_c_l5Free, nthW, lc_l5Free_sLa]
  have g4 := wC_eq c
  with_reducible repeat' (first | apply And.intro | exact zR | exact ih | (intro; skip) | apply mIc | apply mOc | apply mSc | apply mLc | apply c_l2Ints)
  all_goals (try simp only [std, inj] at *)
  all_goals with_reducible repeat' apply And.intro
  all_goals (try (first | with_reducible apply c_l2Ints | with_reducible apply ih | (simp only [← List.map_append]; first | with_reducible apply c_l2Ints | with_reducible apply ih)))
  all_goals (try (first | exact z | exact zM | grind [fre0, addU, snocI, snocS, rowSnoc])))
theorem c_l5Free (c : Core) : ∀ (b : List Int) (S : List Int) (h : b.length + S.length + wC c + 1 ≤ 2147483647), P_c_l5Free c b S := Core.ind (P := fun c => ∀ (b : List Int) (S : List Int) (h : b.length + S.length + wC c + 1 ≤ 2147483647), P_c_l5Free c b S) (fun c ih b S h => c_l5Free_s c b S h ih) c
abbrev P_c_sFree (c : Core) : Ct := ⟨77, [], [coreA c], [.arr true 1 ((fre c [] []).map intC)], .sv (.one (.ref 0))⟩
theorem c_sFree (c : Core) (h : wC c ≤ 2147483600)  : P_c_sFree c := fnOK Tryz.call77 Tryz.func77 (.w (.bool false) (.d [.rd, .rd, .own true 1] (P_c_l5Free c [] []) (.f [3] [Ob.arr
 true 1 (List.map intC (fre c [] []))] (AV.sv (SV.one (AC.ref 0)))))) (by
  dsimp only [teasy, P_c_sFree]
  with_reducible repeat' (first | apply And.intro | exact zR | (intro; skip) | apply mIc | apply mOc | apply mSc | apply mLc | apply c_l5Free)
  all_goals (try simp only [std, inj] at *)
  all_goals with_reducible repeat' apply And.intro
  all_goals (try (first | with_reducible apply c_l5Free | (simp only [← List.map_append]; first | with_reducible apply c_l5Free)))
  all_goals (try (first | exact z | exact zM | grind [snocI, snocS, rowSnoc])))
abbrev P_c_iFree (c : Core) : Ct := ⟨87, [], [coreA c], [.arr true 1 ((fre c [] []).map intC)], .sv (.one (.ref 0))⟩
theorem c_iFree (c : Core) (h : wC c ≤ 2147483600)  : P_c_iFree c := fnOK Tryz.call87 Tryz.func87 (.w (.mkmap kI) (.w (.ghost (.nilbox 1 0 true 1)) (.w (.ghost (.nilmbox 1 1 kI)) (.d
 [.rd, .map, .ptr] (P_c_freeIn c [] []) (.f [9] [Ob.arr true 1 (List.map intC (fre c [] []))] (AV.sv (SV.one (AC.ref 0)))))))) (by
  dsimp only [teasy, P_c_iFree]
  with_reducible repeat' (first | apply And.intro | exact zR | (intro; skip) | apply mIc | apply mOc | apply mSc | apply mLc | apply c_freeIn)
  all_goals (try simp only [std, inj] at *)
  all_goals with_reducible repeat' apply And.intro
  all_goals (try (first | with_reducible apply c_freeIn | (simp only [← List.map_append]; first | with_reducible apply c_freeIn)))
  all_goals (try (first | exact z | exact zM | grind [snocI, snocS, rowSnoc])))
end Go.Proofs.YtgeegppaaggcjaaGreatDoor
end
section
namespace Go.Proofs.YtgeegppaaggcjaaGreatDoor
open Go Go.Proofs.YtgeegppaaggcjaaGreatDoor.Ab
set_option linter.unusedVariables false
set_option linter.unusedSimpArgs false
set_option maxHeartbeats 4000000
def primNames : List ByteArray := [mkS [43], mkS [45], mkS [42], mkS [61], mkS [60], mkS [99, 111, 110, 115], mkS [99, 97, 114], mkS [99, 100, 114], mkS [110, 117, 108, 108, 63], mkS [112, 97, 105, 114, 63], mkS [110, 117, 109, 98, 101, 114, 63], mkS [101, 113, 63], mkS [110, 111, 116], mkS [100, 105, 115, 112, 108, 97, 121]]
abbrev P_c_sPrimitiveNames  : Ct := ⟨71, [], [], [.arr true 1 (primNames.map strC)], .sv (.one (.ref 0))⟩
theorem c_sPrimitiveNames   : P_c_sPrimitiveNames := fnOK Tryz.call71 Tryz.func71 (.f [0] [Ob.arr true 1 [[cS (ByteArray.mk #[(43 : UInt8)])], [cS (ByteArray.mk #[(45 : UInt8)])],
 [cS (ByteArray.mk #[(42 : UInt8)])], [cS (ByteArray.mk #[(61 : UInt8)])], [cS (ByteArray.mk #[(60 : UInt8)])], [cS (ByteArray.mk #[(99 : UInt8), (111 : UInt8), (110 : UInt8), (115
 : UInt8)])], [cS (ByteArray.mk #[(99 : UInt8), (97 : UInt8), (114 : UInt8)])], [cS (ByteArray.mk #[(99 : UInt8), (100 : UInt8), (114 : UInt8)])], [cS (ByteArray.mk #[(110 :
 UInt8), (117 : UInt8), (108 : UInt8), (108 : UInt8), (63 : UInt8)])], [cS (ByteArray.mk #[(112 : UInt8), (97 : UInt8), (105 : UInt8), (114 : UInt8), (63 : UInt8)])], [cS
 (ByteArray.mk #[(110 : UInt8), (117 : UInt8), (109 : UInt8), (98 : UInt8), (101 : UInt8), (114 : UInt8), (63 : UInt8)])], [cS (ByteArray.mk #[(101 : UInt8), (113 : UInt8), (63 :
 UInt8)])], [cS (ByteArray.mk #[(110 : UInt8), (111 : UInt8), (116 : UInt8)])], [cS (ByteArray.mk #[(100 : UInt8), (105 : UInt8), (115 : UInt8), (112 : UInt8), (108 : UInt8), (97 :
 UInt8), (121 : UInt8)])]]] (AV.sv (SV.one (AC.ref 0)))) (by
  dsimp only [teasy, P_c_sPrimitiveNames]
  with_reducible repeat' (first | apply And.intro | exact zR | (intro; skip))
  all_goals (try simp only [std, inj] at *)
  all_goals with_reducible repeat' apply And.intro
  all_goals (try (first | exact z | grind [snocI, snocS, rowSnoc]))
  all_goals rfl)
abbrev P_c_iPrimitiveNames  : Ct := ⟨82, [], [], [.arr true 1 (primNames.map strC)], .sv (.one (.ref 0))⟩
theorem c_iPrimitiveNames   : P_c_iPrimitiveNames := fnOK Tryz.call82 Tryz.func82 (.f [0] [Ob.arr true 1 [[cS (ByteArray.mk #[(43 : UInt8)])], [cS (ByteArray.mk #[(45 : UInt8)])],
 [cS (ByteArray.mk #[(42 : UInt8)])], [cS (ByteArray.mk #[(61 : UInt8)])], [cS (ByteArray.mk #[(60 : UInt8)])], [cS (ByteArray.mk #[(99 : UInt8), (111 : UInt8), (110 : UInt8), (115
 : UInt8)])], [cS (ByteArray.mk #[(99 : UInt8), (97 : UInt8), (114 : UInt8)])], [cS (ByteArray.mk #[(99 : UInt8), (100 : UInt8), (114 : UInt8)])], [cS (ByteArray.mk #[(110 :
 UInt8), (117 : UInt8), (108 : UInt8), (108 : UInt8), (63 : UInt8)])], [cS (ByteArray.mk #[(112 : UInt8), (97 : UInt8), (105 : UInt8), (114 : UInt8), (63 : UInt8)])], [cS
 (ByteArray.mk #[(110 : UInt8), (117 : UInt8), (109 : UInt8), (98 : UInt8), (101 : UInt8), (114 : UInt8), (63 : UInt8)])], [cS (ByteArray.mk #[(101 : UInt8), (113 : UInt8), (63 :
 UInt8)])], [cS (ByteArray.mk #[(110 : UInt8), (111 : UInt8), (116 : UInt8)])], [cS (ByteArray.mk #[(100 : UInt8), (105 : UInt8), (115 : UInt8), (112 : UInt8), (108 : UInt8), (97 :
 UInt8), (121 : UInt8)])]]] (AV.sv (SV.one (AC.ref 0)))) (by
  dsimp only [teasy, P_c_iPrimitiveNames]
  with_reducible repeat' (first | apply And.intro | exact zR | (intro; skip))
  all_goals (try simp only [std, inj] at *)
  all_goals with_reducible repeat' apply And.intro
  all_goals (try (first | exact z | grind [snocI, snocS, rowSnoc]))
  all_goals rfl)
end Go.Proofs.YtgeegppaaggcjaaGreatDoor
end
section
namespace Go.Proofs.YtgeegppaaggcjaaGreatDoor
open Go Go.Proofs.YtgeegppaaggcjaaGreatDoor.Ab
set_option linter.unusedVariables false
set_option linter.unusedSimpArgs false
set_option maxHeartbeats 4000000
def lintC (l : List Int) : List Cell := [.list (l.map intC)]
def lintF (l : List Int) : List Cell := [.list (l.map intC)]
instance : Row (List Int) lintC lintF 1 := ⟨fun _ => rfl, fun _ => rfl⟩
theorem takeI {L : List Int} {k : Nat} (h : k < L.length) : L.take (k + 1) = L.take k ++ [L.getD k 0] := take_get h
theorem takeLs {L : List (List Int)} {k : Nat} (h : k < L.length) : (L.take (k + 1)).flatten = (L.take k).flatten ++ L.getD k [] := by
  rw [take_get h, List.flatten_append]; simp; rfl
theorem okU_flat {L : List (List Int)} {k : Nat} (h : okU L.flatten = true) : okU (L.take k).flatten = true := by
  rw [← List.take_append_drop k L, List.flatten_append] at h; exact okU_left h
theorem okU_part {L : List (List Int)} {k j : Nat} (hk : k < L.length) (h : okU L.flatten = true) : okU ((L.take k).flatten ++ (L.getD k []).take j) = true := by
  have h1 := okU_flat (k := k + 1) h
  rw [takeLs hk] at h1
  have h2 : (L.take k).flatten ++ L.getD k [] = ((L.take k).flatten ++ (L.getD k []).take j) ++ (L.getD k []).drop j := by rw [List.append_assoc, List.take_append_drop]
  rw [h2] at h1; exact okU_left h1
theorem memI_one {S : List Int} {n : Int} : memI S n = 1 ↔ n ∈ S := by simp only [memI]; grind
mutual
def bnd : Core → List Int
  | ⟨_, _, p, _, l⟩ => p ++ bnds l
def bnds : List Core → List Int
  | [] => []
  | x :: r => bnd x ++ bnds r
end
theorem bnds_eq : ∀ l, bnds l = l.flatMap bnd
  | [] => by simp [bnds]
  | x :: r => by rw [bnds, bnds_eq r]; simp
theorem bnd_eq (x : Core) : bnd x = x.params ++ x.kids.flatMap bnd := by cases x; simp only [bnd, bnds_eq]
theorem bnd_le : ∀ c : Core, (bnd c).length ≤ wC c := by
  refine Core.ind fun c ih => ?_
  have h : ∀ L : List Core, (∀ y ∈ L, (bnd y).length ≤ wC y) → (L.flatMap bnd).length ≤ sumBy wC L := by
    intro L
    induction L with
    | nil => intro _; simp
    | cons x r ihr =>
      intro hL
      have h1 := hL x List.mem_cons_self
      have h2 := ihr fun y hy => hL y (List.mem_cons_of_mem _ hy)
      simp only [List.flatMap_cons, List.length_append, sumBy]; omega
  have := h c.kids ih
  rw [bnd_eq, wC_eq, List.length_append]; omega
mutual
def depC : Core → Nat
  | ⟨_, _, _, _, l⟩ => depCs l + 1
def depCs : List Core → Nat
  | [] => 0
  | c :: r => max (depC c) (depCs r)
end
theorem depCs_eq : ∀ l, depCs l = maxBy depC l
  | [] => by simp [depCs, maxBy]
  | c :: r => by rw [depCs, maxBy, depCs_eq r]
theorem depC_eq (c : Core) : depC c = maxBy depC c.kids + 1 := by cases c; simp only [depC, depCs_eq]
mutual
def sizeC : Core → Nat
  | ⟨_, _, _, _, l⟩ => sizeCs l + 1
def sizeCs : List Core → Nat
  | [] => 0
  | c :: r => sizeC c + sizeCs r
end
theorem sizeCs_eq : ∀ l, sizeCs l = sumBy sizeC l
  | [] => by simp [sizeCs, sumBy]
  | c :: r => by rw [sizeCs, sumBy, sizeCs_eq r]
theorem sizeC_eq (c : Core) : sizeC c = sumBy sizeC c.kids + 1 := by cases c; simp only [sizeC, sizeCs_eq]
theorem depC_le : ∀ c : Core, depC c ≤ sizeC c := by
  refine Core.ind fun c ih => ?_
  have := maxBy_sum ih
  rw [sizeC_eq, depC_eq]; omega
def shC (c : Core) : Bool :=
  (decide (c.kind = 1) || decide (c.datum = ⟨0, 0, mkS [], []⟩)) && (decide (c.number = 0) || decide (c.kind = 2 ∨ c.kind = 4) || decide (c.kind = 3)) &&
  (if c.kind = 1 then decide ((c.kids.length : Int) = 0) && decide ((c.params.length : Int) = 0) && isDat c.datum
   else if c.kind = 2 then decide ((c.kids.length : Int) = 0) && decide ((c.params.length : Int) = 0)
   else if c.kind = 3 then decide ((c.kids.length : Int) = 0) && decide ((c.params.length : Int) = 0) && decide (0 ≤ c.number ∧ c.number ≤ 13)
   else if c.kind = 4 then decide ((c.kids.length : Int) = 1) && decide ((c.params.length : Int) = 0)
   else if c.kind = 5 then decide ((c.kids.length : Int) = 1) && decide ((c.params.length : Int) ≤ 8)
   else if c.kind = 6 then decide (1 ≤ (c.kids.length : Int) ∧ (c.kids.length : Int) ≤ 9) && decide ((c.params.length : Int) = 0)
   else if c.kind = 7 then decide ((c.kids.length : Int) = 3) && decide ((c.params.length : Int) = 0)
   else if c.kind = 8 then decide (2 ≤ (c.kids.length : Int) ∧ (c.kids.length : Int) ≤ 60) && decide ((c.params.length : Int) = 0)
   else if c.kind = 9 then decide (1 ≤ (c.kids.length : Int) ∧ (c.kids.length : Int) ≤ 60) && decide (1 ≤ (c.params.length : Int) ∧ (c.params.length : Int) ≤ 60)
   else if c.kind = 10 then decide ((c.kids.length : Int) = 1) && decide ((c.params.length : Int) = 0)
   else if c.kind = 11 then decide ((c.kids.length : Int) = 1) && decide ((c.params.length : Int) = 1)
   else false)
def sqC (c x : Core) : Bool := !(decide (c.kind = 8) && decide (x.kind = 8))
def shI (c : Core) : Bool := shC c && c.kids.all (sqC c)
mutual
def okC : Core → Bool
  | c@⟨_, _, _, _, l⟩ => okCs l && shI c
def okCs : List Core → Bool
  | [] => true
  | c :: r => okC c && okCs r
end
theorem okCs_eq : ∀ l, okCs l = l.all okC
  | [] => by simp [okCs]
  | c :: r => by rw [okCs, okCs_eq r]; rfl
theorem okC_eq (c : Core) : okC c = (c.kids.all okC && shI c) := by cases c; simp only [okC, okCs_eq]
mutual
def meaC : Core → Int → Int → Bool × Int
  | c@⟨_, _, _, _, l⟩, deep, m => if deep ≤ 150 ∧ m + 1 ≤ 3000 ∧ shI c = true then meaCs l (deep + 1) (m + 1) else (false, m + 1)
def meaCs : List Core → Int → Int → Bool × Int
  | [], _, m => (true, m)
  | x :: r, deep, m => if (meaC x deep m).1 then meaCs r deep (meaC x deep m).2 else (false, (meaC x deep m).2)
end
theorem meaCs_eq : ∀ l deep m, meaCs l deep m = scan (fun x m => meaC x deep m) l m
  | [], _, _ => by simp [meaCs, scan]
  | x :: r, deep, m => by simp only [meaCs, scan, meaCs_eq r]
theorem meaC_eq (c : Core) (deep m : Int) : meaC c deep m = if deep ≤ 150 ∧ m + 1 ≤ 3000 ∧ shI c = true then scan (fun x m => meaC x (deep + 1) m) c.kids (m + 1) else (false, m + 1) := by cases c; simp only [meaC, meaCs_eq]
theorem meaC_of : ∀ (c : Core) (deep m : Int), m ≤ 3000 → ((meaC c deep m).1 = true ↔ (m + sizeC c ≤ 3000 ∧ (deep + depC c ≤ 151 ∧ okC c = true))) ∧ ((meaC c deep m).1 = true → (meaC c deep m).2 = m + sizeC c) := by
  refine Core.ind fun c ih deep m hm => ?_
  rw [meaC_eq, sizeC_eq, depC_eq, okC_eq, Bool.and_eq_true, List.all_eq_true]
  by_cases h : deep ≤ 150 ∧ m + 1 ≤ 3000 ∧ shI c = true
  · rw [if_pos h]
    have h1 := scan_of (fun x m => meaC x (deep + 1) m) sizeC (fun x => deep + 1 + depC x ≤ 151 ∧ okC x = true) 3000 c.kids (fun x hx m hm => ih x hx (deep + 1) m hm) (m + 1) h.2.1
    have h2 := maxBy_le depC (m := (150 - deep).toNat) (L := c.kids)
    constructor
    · rw [h1.1]
      constructor
      · rintro ⟨a, b⟩
        have := h2.2 fun x hx => by have := (b x hx).1; omega
        exact ⟨by omega, by omega, fun x hx => (b x hx).2, h.2.2⟩
      · rintro ⟨a, b, d, e⟩
        have := h2.1 (by omega)
        exact ⟨by omega, fun x hx => ⟨by have := this x hx; omega, d x hx⟩⟩
    · intro ht; rw [h1.2 ht]; omega
  · rw [if_neg h]
    refine ⟨⟨fun e => Bool.noConfusion e, ?_⟩, fun e => Bool.noConfusion e⟩
    rintro ⟨a, b, d, e⟩
    exact absurd ⟨by omega, by omega, e⟩ h
def smC (c : Core) : Bool := decide (sizeC c ≤ 3000) && decide (depC c ≤ 150) && okC c
theorem meaC_sm (c : Core) : (meaC c 1 0).1 = smC c := by
  have h := (meaC_of c 1 0 (by decide)).1
  rw [Bool.eq_iff_iff, h]
  simp only [smC, Bool.and_eq_true, decide_eq_true_eq, and_assoc]
  constructor
  · rintro ⟨a, b, e⟩; exact ⟨by omega, by omega, e⟩
  · rintro ⟨a, b, e⟩; exact ⟨by omega, by omega, e⟩
def isCor (c : Core) (G : List Int) : Bool := smC c && okU (G ++ bnd c) && (fre c [] []).all fun n => decide (n ∈ G)
def valC (c : Core) : Bool := smC c && okU (fre c [] [] ++ bnd c)
abbrev P_c_sEqData (a : Datum) (b : Datum) : Ct := ⟨30, [], [datumA a, datumA b], [], .sv (lb (decide (a = b)))⟩
def lc_sEqData_sLa (a : Datum) (b : Datum) : Lp Nat := .mk 53 0 (fun x => [(2, SV.one (AC.ptr 0 0)), (3, SV.one (AC.ptr 1 0)), (36, li (↑(List.map datumC a.items).length : Int)),
 (37, hs x 0)]) (fun x => [Ob.box (vals (datumF a)), Ob.box (vals (datumF b))]) (fun k => [.s (li (↑k : Int))]) (fun k => k ≤ a.items.length ∧ a.items.length ≤ 9223372036854775807
 ∧ a.items.length = b.items.length ∧ List.take k a.items = List.take k b.items) (fun k => a.items.length - k) [.mk (a.items = b.items) (.exit 0) (fun x => []) (fun x => []) [], .mk
 (a.items ≠ b.items) .ret (fun x => [(4, hs x 0)]) (fun x => []) [.s (lb false)]]
theorem Sc_sEqData_sLa (a : Datum) (b : Datum) (ih : ∀ (z : Datum), z ∈ a.items → ∀ (b : Datum), OK (P_c_sEqData z b)) : Lp.Sem Tryz.prog (loopAt Tryz.f30 0) (lc_sEqData_sLa a b)
 := lpOK (fun k => .i ((↑k : Int) < (↑(List.map datumC a.items).length : Int)) (.w (.draw []) (.x (↑k : Int) (List.map datumC a.items) (datumF (a.items.getD k default)) (.x (↑k :
 Int) (List.map datumC b.items) (datumF (b.items.getD k default)) (.d [.rd, .rd] (P_c_sEqData (a.items.getD k default) (b.items.getD k default)) (.b (!decide (a.items.getD k
 default = b.items.getD k default)) (.o 1 [] [.s (lb false)]) (.r ((↑k : Int) + 1) (.g [0, 1] (k + 1) [.s (li ((↑k : Int) + 1))]))))))) (.o 0 [] [])) (by
  intro k h; try dsimp only [teasy, nthW, lc_sEqData_sLa] at h ⊢
  with_reducible repeat' (first | apply And.intro | exact zR | exact ih | (intro; skip) | apply mIc | apply mOc | apply mSc | apply mLc | apply ih)
  all_goals (try simp only [std, inj] at *)
  all_goals with_reducible repeat' apply And.intro
  all_goals (try (first | with_reducible apply ih | (simp only [← List.map_append]; first | with_reducible apply ih)))
  all_goals (try (first | exact z | exact zM | grind [take_eq, getD_mem', snocI, snocS, rowSnoc])))
theorem c_sEqData_s (a b : Datum) (ih : ∀ z ∈ a.items, ∀ (b : Datum), P_c_sEqData z b)  : P_c_sEqData a b := fnOK Tryz.call30 Tryz.func30 (.i (a.kind ≠ b.kind) (.y true (.y true (.y
 true (.s (lb false))))) (.i (a.number ≠ b.number) (.y true (.y true (.s (lb false)))) (.i (a.text.data.toList ≠ b.text.data.toList) (.y true (.s (lb false))) (.z datumC a.items
 (.z datumC b.items (.i ((↑(List.map datumC a.items).length : Int) ≠ (↑(List.map datumC b.items).length : Int)) (.s (lb false)) (.z datumC a.items (.l (lc_sEqData_sLa a b)
 (Sc_sEqData_sLa a b ih) [0, 1] [.s (li 0)] 0 (.t (.s (lb true)) (.t (.s (lb false)) .q)))))))))) (by
  dsimp only [teasy, P_c_sEqData, nthW, lc_sEqData_sLa]
  simp only [datumExt]
  with_reducible repeat' (first | apply And.intro | exact zR | exact ih | (intro; skip) | apply mIc | apply mOc | apply mSc | apply mLc)
  all_goals (try simp only [std, inj] at *)
  all_goals with_reducible repeat' apply And.intro
  all_goals (try (first | with_reducible apply ih | (simp only [← List.map_append]; first | with_reducible apply ih)))
  all_goals (try (first | exact z | exact zM | grind [bytes_ext, snocI, snocS, rowSnoc])))
theorem c_sEqData (a : Datum) : ∀ (b : Datum), P_c_sEqData a b := Datum.ind (P := fun a => ∀ (b : Datum), P_c_sEqData a b) (fun a ih b => c_sEqData_s a b ih) a
abbrev P_c_iEqData (a : Datum) (b : Datum) : Ct := ⟨35, [], [datumA a, datumA b], [], .sv (lb (decide (a = b)))⟩
def lc_iEqData_sLa (a : Datum) (b : Datum) : Lp Nat := .mk 53 0 (fun x => [(2, SV.one (AC.ptr 0 0)), (3, SV.one (AC.ptr 1 0)), (36, li (↑(List.map datumC a.items).length : Int)),
 (37, hs x 0)]) (fun x => [Ob.box (vals (datumF a)), Ob.box (vals (datumF b))]) (fun k => [.s (li (↑k : Int))]) (fun k => k ≤ a.items.length ∧ a.items.length ≤ 9223372036854775807
 ∧ a.items.length = b.items.length ∧ List.take k a.items = List.take k b.items) (fun k => a.items.length - k) [.mk (a.items = b.items) (.exit 0) (fun x => []) (fun x => []) [], .mk
 (a.items ≠ b.items) .ret (fun x => [(4, hs x 0)]) (fun x => []) [.s (lb false)]]
theorem Sc_iEqData_sLa (a : Datum) (b : Datum) (ih : ∀ (z : Datum), z ∈ a.items → ∀ (b : Datum), OK (P_c_iEqData z b)) : Lp.Sem Tryz.prog (loopAt Tryz.f35 0) (lc_iEqData_sLa a b)
 := lpOK (fun k => .i ((↑k : Int) < (↑(List.map datumC a.items).length : Int)) (.w (.draw []) (.x (↑k : Int) (List.map datumC a.items) (datumF (a.items.getD k default)) (.x (↑k :
 Int) (List.map datumC b.items) (datumF (b.items.getD k default)) (.d [.rd, .rd] (P_c_iEqData (a.items.getD k default) (b.items.getD k default)) (.b (!decide (a.items.getD k
 default = b.items.getD k default)) (.o 1 [] [.s (lb false)]) (.r ((↑k : Int) + 1) (.g [0, 1] (k + 1) [.s (li ((↑k : Int) + 1))]))))))) (.o 0 [] [])) (by
  intro k h; try dsimp only [teasy, nthW, lc_iEqData_sLa] at h ⊢
  with_reducible repeat' (first | apply And.intro | exact zR | exact ih | (intro; skip) | apply mIc | apply mOc | apply mSc | apply mLc | apply ih)
  all_goals (try simp only [std, inj] at *)
  all_goals with_reducible repeat' apply And.intro
  all_goals (try (first | with_reducible apply ih | (simp only [← List.map_append]; first | with_reducible apply ih)))
  all_goals (try (first | exact z | exact zM | grind [take_eq, getD_mem', snocI, snocS, rowSnoc])))
theorem c_iEqData_s (a b : Datum) (ih : ∀ z ∈ a.items, ∀ (b : Datum), P_c_iEqData z b)  : P_c_iEqData a b := fnOK Tryz.call35 Tryz.func35 (.i (a.kind ≠ b.kind) (.y true (.y true (.y
 true (.s (lb false))))) (.i (a.number ≠ b.number) (.y true (.y true (.s (lb false)))) (.i (a.text.data.toList ≠ b.text.data.toList) (.y true (.s (lb false))) (.z datumC a.items
 (.z datumC b.items (.i ((↑(List.map datumC a.items).length : Int) ≠ (↑(List.map datumC b.items).length : Int)) (.s (lb false)) (.z datumC a.items (.l (lc_iEqData_sLa a b)
 (Sc_iEqData_sLa a b ih) [0, 1] [.s (li 0)] 0 (.t (.s (lb true)) (.t (.s (lb false)) .q)))))))))) (by
  dsimp only [teasy, P_c_iEqData, nthW, lc_iEqData_sLa]
  simp only [datumExt]
  with_reducible repeat' (first | apply And.intro | exact zR | exact ih | (intro; skip) | apply mIc | apply mOc | apply mSc | apply mLc)
  all_goals (try simp only [std, inj] at *)
  all_goals with_reducible repeat' apply And.intro
  all_goals (try (first | with_reducible apply ih | (simp only [← List.map_append]; first | with_reducible apply ih)))
  all_goals (try (first | exact z | exact zM | grind [bytes_ext, snocI, snocS, rowSnoc])))
theorem c_iEqData (a : Datum) : ∀ (b : Datum), P_c_iEqData a b := Datum.ind (P := fun a => ∀ (b : Datum), P_c_iEqData a b) (fun a ih b => c_iEqData_s a b ih) a
abbrev P_c_sBound (c : Core) (A : List Int) : Ct := ⟨120, [.arr true 1 (A.map intC)], [coreA c, .one (.ref 0)], [.dead, .arr true 1 ((A ++ bnd c).map intC)], .sv (.one (.ref 1))⟩
def lc_sBound_sLa (c : Core) (A : List Int) : Lp Nat := .mk 23 1 (fun x => [(1, SV.one (AC.ref 1)), (12, ll (List.map coreC c.kids)), (13, li (↑(List.map coreC c.kids).length :
 Int)), (14, hs x 0)]) (fun x => [Ob.dead, ho x 1]) (fun k => [.s (li (↑k : Int)), .o (Ob.arr true 1 (List.map intC (A ++ c.params ++ List.flatMap bnd (List.take k c.kids))))])
 (fun k => k ≤ c.kids.length ∧ c.kids.length ≤ 9223372036854775807) (fun k => c.kids.length - k) [.mk True (.exit 0) (fun x => [(1, SV.one (AC.ref 1))]) (fun x => [Ob.dead, ho x
 0]) [.o (Ob.arr true 1 (List.map intC (A ++ bnd c)))]]
theorem Sc_sBound_sLa (c : Core) (A : List Int) (h : A.length + (bnd c).length ≤ 2147483647) (ih : ∀ (z : Core), z ∈ c.kids → ∀ (A : List Int), A.length + (bnd z).length ≤
 2147483647 → OK (P_c_sBound z A)) : Lp.Sem Tryz.prog (loopAt Tryz.f120 0) (lc_sBound_sLa c A) := lpOK (fun k => .i ((↑k : Int) < (↑(List.map coreC c.kids).length : Int)) (.x (↑k :
 Int) (List.map coreC c.kids) (coreF (c.kids.getD k default)) (.d [.rd, .own true 1] (P_c_sBound (c.kids.getD k default) (A ++ c.params ++ List.flatMap bnd (List.take k c.kids)))
 (.r ((↑k : Int) + 1) (.g [0, 4] (k + 1) [.s (li ((↑k : Int) + 1)), .o (Ob.arr true 1 (List.map intC (A ++ c.params ++ List.flatMap bnd (List.take k c.kids) ++ bnd (c.kids.getD k
 default))))])))) (.o 0 [0, 1] [.o (Ob.arr true 1 (List.map intC (A ++ c.params ++ List.flatMap bnd (List.take k c.kids))))])) (by
  intro k h; try dsimp only [teasy, nthW, lc_sBound_sLa] at h ⊢
  have g0 := flat_takeLe bnd c.kids (k + 1)
  with_reducible repeat' (first | apply And.intro | exact zR | exact ih | (intro; skip) | apply mIc | apply mOc | apply mSc | apply mLc | apply ih)
  all_goals (try simp only [std, inj] at *)
  all_goals with_reducible repeat' apply And.intro
  all_goals (try (first | with_reducible apply ih | (simp only [← List.map_append]; first | with_reducible apply ih)))
  all_goals (try (first | exact z | exact zM | grind [flat_take, getD_mem', bnd_eq, snocI, snocS, rowSnoc])))
theorem c_sBound_s (c : Core) (A : List Int) (h : A.length + (bnd c).length ≤ 2147483647) (ih : ∀ z ∈ c.kids, ∀ (A : List Int) (h : A.length + (bnd z).length ≤ 2147483647),
 P_c_sBound z A)  : P_c_sBound c A := fnOK Tryz.call120 Tryz.func120 (.p (∀ (e : List Cell), e ∈ List.map intC c.params → ∀ (c : Cell), c ∈ e → ∃ v, c = Cell.lit v) (.p (∀ (e : List
 Cell), e ∈ List.map intC c.params → e.length = 1) (.p (((List.map intC A).length + (List.map intC c.params).length) * 8 ≤ 140737488355328) (.z coreC c.kids (.l (lc_sBound_sLa c A)
 (Sc_sBound_sLa c A h ih) [0, 2] [.s (li 0), .o (Ob.arr true 1 (List.map intC A ++ List.map intC c.params))] 0 (.t (.f [1] [Ob.dead, Ob.arr true 1 (List.map intC (A ++ bnd c))]
 (AV.sv (SV.one (AC.ref 1)))) .q)))))) (by
  dsimp only [teasy, P_c_sBound, nthW, lc_sBound_sLa]
  with_reducible repeat' (first | apply And.intro | exact zR | exact ih | (intro; skip) | apply mIc | apply mOc | apply mSc | apply mLc)
  all_goals (try simp only [std, inj] at *)
  all_goals with_reducible repeat' apply And.intro
  all_goals (try (first | with_reducible apply ih | (simp only [← List.map_append]; first | with_reducible apply ih)))
  all_goals (try (first | exact z | exact zM | grind [bnd_eq, snocI, snocS, rowSnoc])))
theorem c_sBound (c : Core) : ∀ (A : List Int) (h : A.length + (bnd c).length ≤ 2147483647), P_c_sBound c A := Core.ind (P := fun c => ∀ (A : List Int) (h : A.length + (bnd c).length ≤ 2147483647), P_c_sBound c A) (fun c ih A h => c_sBound_s c A h ih) c
abbrev P_c_iBound (c : Core) (A : List Int) : Ct := ⟨128, [.arr true 1 (A.map intC)], [coreA c, .one (.ref 0)], [.dead, .arr true 1 ((A ++ bnd c).map intC)], .sv (.one (.ref 1))⟩
def lc_iBound_sLa (c : Core) (A : List Int) : Lp Nat := .mk 23 1 (fun x => [(1, SV.one (AC.ref 1)), (12, ll (List.map coreC c.kids)), (13, li (↑(List.map coreC c.kids).length :
 Int)), (14, hs x 0)]) (fun x => [Ob.dead, ho x 1]) (fun k => [.s (li (↑k : Int)), .o (Ob.arr true 1 (List.map intC (A ++ c.params ++ List.flatMap bnd (List.take k c.kids))))])
 (fun k => k ≤ c.kids.length ∧ c.kids.length ≤ 9223372036854775807) (fun k => c.kids.length - k) [.mk True (.exit 0) (fun x => [(1, SV.one (AC.ref 1))]) (fun x => [Ob.dead, ho x
 0]) [.o (Ob.arr true 1 (List.map intC (A ++ bnd c)))]]
theorem Sc_iBound_sLa (c : Core) (A : List Int) (h : A.length + (bnd c).length ≤ 2147483647) (ih : ∀ (z : Core), z ∈ c.kids → ∀ (A : List Int), A.length + (bnd z).length ≤
 2147483647 → OK (P_c_iBound z A)) : Lp.Sem Tryz.prog (loopAt Tryz.f128 0) (lc_iBound_sLa c A) := lpOK (fun k => .i ((↑k : Int) < (↑(List.map coreC c.kids).length : Int)) (.x (↑k :
 Int) (List.map coreC c.kids) (coreF (c.kids.getD k default)) (.d [.rd, .own true 1] (P_c_iBound (c.kids.getD k default) (A ++ c.params ++ List.flatMap bnd (List.take k c.kids)))
 (.r ((↑k : Int) + 1) (.g [0, 4] (k + 1) [.s (li ((↑k : Int) + 1)), .o (Ob.arr true 1 (List.map intC (A ++ c.params ++ List.flatMap bnd (List.take k c.kids) ++ bnd (c.kids.getD k
 default))))])))) (.o 0 [0, 1] [.o (Ob.arr true 1 (List.map intC (A ++ c.params ++ List.flatMap bnd (List.take k c.kids))))])) (by
  intro k h; try dsimp only [teasy, nthW, lc_iBound_sLa] at h ⊢
  have g0 := flat_takeLe bnd c.kids (k + 1)
  with_reducible repeat' (first | apply And.intro | exact zR | exact ih | (intro; skip) | apply mIc | apply mOc | apply mSc | apply mLc | apply ih)
  all_goals (try simp only [std, inj] at *)
  all_goals with_reducible repeat' apply And.intro
  all_goals (try (first | with_reducible apply ih | (simp only [← List.map_append]; first | with_reducible apply ih)))
  all_goals (try (first | exact z | exact zM | grind [flat_take, getD_mem', bnd_eq, snocI, snocS, rowSnoc])))
theorem c_iBound_s (c : Core) (A : List Int) (h : A.length + (bnd c).length ≤ 2147483647) (ih : ∀ z ∈ c.kids, ∀ (A : List Int) (h : A.length + (bnd z).length ≤ 2147483647),
 P_c_iBound z A)  : P_c_iBound c A := fnOK Tryz.call128 Tryz.func128 (.p (∀ (e : List Cell), e ∈ List.map intC c.params → ∀ (c : Cell), c ∈ e → ∃ v, c = Cell.lit v) (.p (∀ (e : List
 Cell), e ∈ List.map intC c.params → e.length = 1) (.p (((List.map intC A).length + (List.map intC c.params).length) * 8 ≤ 140737488355328) (.z coreC c.kids (.l (lc_iBound_sLa c A)
 (Sc_iBound_sLa c A h ih) [0, 2] [.s (li 0), .o (Ob.arr true 1 (List.map intC A ++ List.map intC c.params))] 0 (.t (.f [1] [Ob.dead, Ob.arr true 1 (List.map intC (A ++ bnd c))]
 (AV.sv (SV.one (AC.ref 1)))) .q)))))) (by
  dsimp only [teasy, P_c_iBound, nthW, lc_iBound_sLa]
  with_reducible repeat' (first | apply And.intro | exact zR | exact ih | (intro; skip) | apply mIc | apply mOc | apply mSc | apply mLc)
  all_goals (try simp only [std, inj] at *)
  all_goals with_reducible repeat' apply And.intro
  all_goals (try (first | with_reducible apply ih | (simp only [← List.map_append]; first | with_reducible apply ih)))
  all_goals (try (first | exact z | exact zM | grind [bnd_eq, snocI, snocS, rowSnoc])))
theorem c_iBound (c : Core) : ∀ (A : List Int) (h : A.length + (bnd c).length ≤ 2147483647), P_c_iBound c A := Core.ind (P := fun c => ∀ (A : List Int) (h : A.length + (bnd c).length ≤ 2147483647), P_c_iBound c A) (fun c ih A h => c_iBound_s c A h ih) c
abbrev P_c_iBoundVariables (c : Core) : Ct := ⟨88, [], [coreA c], [.arr true 1 ((bnd c).map intC)], .sv (.one (.ref 0))⟩
theorem c_iBoundVariables (c : Core) (h : (bnd c).length ≤ 2147483647)  : P_c_iBoundVariables c := fnOK Tryz.call88 Tryz.func88 (.d [.rd, .own true 1] (P_c_iBound c []) (.f [2]
 [Ob.arr true 1 (List.map intC (bnd c))] (AV.sv (SV.one (AC.ref 0))))) (by
  dsimp only [teasy, P_c_iBoundVariables]
  with_reducible repeat' (first | apply And.intro | exact zR | (intro; skip) | apply mIc | apply mOc | apply mSc | apply mLc | apply c_iBound)
  all_goals (try simp only [std, inj] at *)
  all_goals with_reducible repeat' apply And.intro
  all_goals (try (first | with_reducible apply c_iBound | (simp only [← List.map_append]; first | with_reducible apply c_iBound)))
  all_goals (try (first | exact z | exact zM | grind [snocI, snocS, rowSnoc])))
abbrev P_c_sUniq (L : List Int) : Ct := ⟨118, [], [ll (L.map intC)], [], .sv (lb (okU L))⟩
def lc_sUniqLa (L : List Int) : Lp Nat := .mk 23 0 (fun x => [(0, ll (List.map intC L)), (5, ll (List.map intC L)), (6, li (↑(List.map intC L).length : Int)), (7, hs x 0)]) (fun x
 => []) (fun k => [.s (li (↑k : Int))]) (fun k => k ≤ L.length ∧ L.length ≤ 9223372036854775807 ∧ okU (List.take k L) = true) (fun k => L.length - k) [.mk (okU L = true) (.exit 0)
 (fun x => []) (fun x => []) [], .mk (okU L = false) .ret (fun x => [(2, hs x 0)]) (fun x => []) [.s (lb false)]]
theorem Sc_sUniqLa (L : List Int) : Lp.Sem Tryz.prog (loopAt Tryz.f118 0) (lc_sUniqLa L) := lpOK (fun k => .i ((↑k : Int) < (↑(List.map intC L).length : Int)) (.x (↑k : Int)
 (List.map intC L) [cI (L.getD k 0)] (.c [.rd, .rd, .rd] (c_l1In (L.getD k 0) 0 99999) (.b (!decide (0 ≤ L.getD k 0 ∧ L.getD k (0 : Int) ≤ 99999)) (.y true (.o 1 [] [.s (lb
 false)])) (.p (0 ≤ (↑k : Int)) (.p (0 ≤ (↑k : Int).toNat ∧ (↑k : Int).toNat ≤ (List.map intC L).length ∧ ∀ (e : List Cell), e ∈ List.map intC L → e.length = 1) (.u [.rd, .rd]
 (P_c_sHas (List.take ((↑k : Int).toNat - 0) (List.drop 0 L)) (L.getD k 0)) (.p (CallOK Tryz.prog 121 [] [ll (List.take ((↑k : Int).toNat - 0) (List.drop 0 (List.map intC L))), li
 (L.getD k 0)] [] (AV.sv (lb (decide (L.getD k 0 ∈ List.take ((↑k : Int).toNat - 0) (List.drop 0 L)))))) (.i (L.getD k 0 ∈ List.take ((↑k : Int).toNat - 0) (List.drop 0 L)) (.o 1
 [] [.s (lb false)]) (.r ((↑k : Int) + 1) (.g [] (k + 1) [.s (li ((↑k : Int) + 1))])))))))))) (.o 0 [] [])) (by
  intro k h; try dsimp only [teasy, nthW, lc_sUniqLa] at h ⊢
  have g1 := @okU_snoc (L.take k) (L.getD k default)
  have g2 := @okU_take L (k + 1)
  with_reducible repeat' (first | apply And.intro | exact zR | (intro; skip) | apply mIc | apply mOc | apply mSc | apply mLc | apply c_l1In | apply c_sHas)
  all_goals (try simp only [std, inj] at *)
  all_goals with_reducible repeat' apply And.intro
  all_goals (try (first | with_reducible apply c_l1In | with_reducible apply c_sHas | (simp only [← List.map_append]; first | with_reducible apply c_l1In | with_reducible apply c_sHas)))
  all_goals (try (first | exact z | exact zM | grind [take_get, snocI, snocS, rowSnoc])))
theorem c_sUniq (L : List Int)  : P_c_sUniq L := fnOK Tryz.call118 Tryz.func118 (.z intC L (.l (lc_sUniqLa L) (Sc_sUniqLa L) [] [.s (li 0)] 0 (.t (.s (lb true)) (.t (.s (lb false))
 .q)))) (by
  dsimp only [teasy, P_c_sUniq, nthW, lc_sUniqLa]
  with_reducible repeat' (first | apply And.intro | exact zR | (intro; skip) | apply mIc | apply mOc | apply mSc | apply mLc)
  all_goals (try simp only [std, inj] at *)
  all_goals with_reducible repeat' apply And.intro
  all_goals (try (first | exact z | exact zM | grind [okU_nil, snocI, snocS, rowSnoc])))
abbrev P_c_sFewC (c : Core) (l : Int) : Ct := ⟨115, [.box [vI l]], [coreA c, .one (.ptr 0 0)], [.box [vI (max (l - sizeC c) (-1))]], .sv (lb (decide (sizeC c ≤ l)))⟩
def lc_sFewC_sLa (c : Core) (l : Int) : Lp Nat := .mk 36 1 (fun x => [(1, SV.one (AC.ptr 0 0)), (2, SV.one (AC.ptr 1 0)), (5, hs x 0)]) (fun x => [Ob.box [ha x 1], Ob.box (vals
 (coreF c))]) (fun k => [.s (li (↑k : Int)), .a (vI (max (l - 1 - (↑(sumBy sizeC (List.take k c.kids)) : Int)) (-1 : Int)))]) (fun k => c.kids.length ≥ k) (fun k => c.kids.length -
 k) [.mk True (.exit 0) (fun x => [(1, SV.one (AC.ptr 0 0))]) (fun x => [Ob.box [ha x 0]]) [.a (vI (max (l - (↑(sizeC c) : Int)) (-1 : Int)))]]
theorem Sc_sFewC_sLa (c : Core) (l : Int) (h : 0 ≤ l ∧ l ≤ 1000000) (ih : ∀ (z : Core), z ∈ c.kids → ∀ (l : Int), 0 ≤ l ∧ l ≤ 1000000 → OK (P_c_sFewC z l)) : Lp.Sem Tryz.prog
 (loopAt Tryz.f115 0) (lc_sFewC_sLa c l) := lpOK (fun k => .z coreC c.kids (.i ((↑k : Int) < (↑(List.map coreC c.kids).length : Int)) (.i (0 ≤ max (l - 1 - (↑(sumBy sizeC
 (List.take k c.kids)) : Int)) (-1 : Int)) (.x (↑k : Int) (List.map coreC c.kids) (coreF (c.kids.getD k default)) (.d [.rd, .ptr] (P_c_sFewC (c.kids.getD k default) (max (l - 1 -
 (↑(sumBy sizeC (List.take k c.kids)) : Int)) (-1 : Int))) (.r ((↑k : Int) + 1) (.g [0, 1] (k + 1) [.s (li ((↑k : Int) + 1)), .a (vI (max (max (l - 1 - (↑(sumBy sizeC (List.take k
 c.kids)) : Int)) (-1 : Int) - (↑(sizeC (c.kids.getD k default)) : Int)) (-1 : Int)))])))) (.o 0 [0] [.a (vI (max (l - 1 - (↑(sumBy sizeC (List.take k c.kids)) : Int)) (-1 :
 Int)))])) (.y false (.o 0 [0] [.a (vI (max (l - 1 - (↑(sumBy sizeC (List.take k c.kids)) : Int)) (-1 : Int)))])))) (by
  intro k h; try dsimp only [teasy, nthW, lc_sFewC_sLa] at h ⊢
  have g1 := sizeC_eq c
  have g2 := sumBy_takeLe sizeC c.kids k
  have g3 := @sumBy_step _ _ sizeC c.kids k
  with_reducible repeat' (first | apply And.intro | exact zR | exact ih | (intro; skip) | apply mIc | apply mOc | apply mSc | apply mLc | apply ih)
  all_goals (try simp only [std, inj] at *)
  all_goals with_reducible repeat' apply And.intro
  all_goals (try (first | with_reducible apply ih | (simp only [← List.map_append]; first | with_reducible apply ih)))
  all_goals (try (first | exact z | exact zM | grind [getD_mem', snocI, snocS, rowSnoc])))
theorem c_sFewC_s (c : Core) (l : Int) (h : 0 ≤ l ∧ l ≤ 1000000) (ih : ∀ z ∈ c.kids, ∀ (l : Int) (h : 0 ≤ l ∧ l ≤ 1000000), P_c_sFewC z l)  : P_c_sFewC c l := fnOK Tryz.call115
 Tryz.func115 (.r (l - 1) (.l (lc_sFewC_sLa c l) (Sc_sFewC_sLa c l h ih) [0, 1] [.s (li 0), .a (vI (l - 1))] 0 (.t (.f [] [Ob.box [vI (max (l - (↑(sizeC c) : Int)) (-1 : Int))]]
 (AV.sv (lb (decide (0 ≤ max (l - (↑(sizeC c) : Int)) (-1 : Int)))))) .q))) (by
  dsimp only [teasy, P_c_sFewC, nthW, lc_sFewC_sLa]
  have g1 := sizeC_eq c
  have g2 : sumBy sizeC (c.kids.take 0) = 0 := rfl
  with_reducible repeat' (first | apply And.intro | exact zR | exact ih | (intro; skip) | apply mIc | apply mOc | apply mSc | apply mLc)
  all_goals (try simp only [std, inj] at *)
  all_goals with_reducible repeat' apply And.intro
  all_goals (try (first | with_reducible apply ih | (simp only [← List.map_append]; first | with_reducible apply ih)))
  all_goals (try (first | exact z | exact zM | grind [snocI, snocS, rowSnoc])))
theorem c_sFewC (c : Core) : ∀ (l : Int) (h : 0 ≤ l ∧ l ≤ 1000000), P_c_sFewC c l := Core.ind (P := fun c => ∀ (l : Int) (h : 0 ≤ l ∧ l ≤ 1000000), P_c_sFewC c l) (fun c ih l h => c_sFewC_s c l h ih) c
abbrev P_c_sSmall (c : Core) : Ct := ⟨75, [], [coreA c], [], .sv (lb (decide (sizeC c ≤ 3000)))⟩
theorem c_sSmall (c : Core)  : P_c_sSmall c := fnOK Tryz.call75 Tryz.func75 (.d [.rd, .ptr] (P_c_sFewC c 3000) (.s (lb (decide ((↑(sizeC c) : Int) ≤ 3000))))) (by
  dsimp only [teasy, P_c_sSmall]
  with_reducible repeat' (first | apply And.intro | exact zR | (intro; skip) | apply mIc | apply mOc | apply mSc | apply mLc | apply c_sFewC)
  all_goals (try simp only [std, inj] at *)
  all_goals with_reducible repeat' apply And.intro
  all_goals (try (first | with_reducible apply c_sFewC | (simp only [← List.map_append]; first | with_reducible apply c_sFewC)))
  all_goals (try (first | exact z | exact zM | grind [snocI, snocS, rowSnoc])))
abbrev P_c_sDepC (c : Core) : Ct := ⟨116, [], [coreA c], [], .sv (li (depC c))⟩
def lc_sDepC_sLa (c : Core) : Lp Nat := .mk 20 0 (fun x => [(3, hs x 1), (7, ll (List.map coreC c.kids)), (8, li (↑(List.map coreC c.kids).length : Int)), (9, hs x 0)]) (fun x =>
 []) (fun k => [.s (li (↑k : Int)), .s (li (↑(maxBy depC (List.take k c.kids)) : Int))]) (fun k => k ≤ c.kids.length ∧ c.kids.length ≤ 9223372036854775807) (fun k => c.kids.length
 - k) [.mk True (.exit 0) (fun x => [(3, hs x 0)]) (fun x => []) [.s (li (↑(maxBy depC c.kids) : Int))]]
theorem Sc_sDepC_sLa (c : Core) (h : sizeC c ≤ 2147483647) (ih : ∀ (z : Core), z ∈ c.kids → sizeC z ≤ 2147483647 → OK (P_c_sDepC z)) : Lp.Sem Tryz.prog (loopAt Tryz.f116 0)
 (lc_sDepC_sLa c) := lpOK (fun k => .i ((↑k : Int) < (↑(List.map coreC c.kids).length : Int)) (.x (↑k : Int) (List.map coreC c.kids) (coreF (c.kids.getD k default)) (.d [.rd]
 (P_c_sDepC (c.kids.getD k default)) (.r ((↑k : Int) + 1) (.g [] (k + 1) [.s (li ((↑k : Int) + 1)), .s (li (max (↑(maxBy depC (List.take k c.kids)) : Int) (↑(depC (c.kids.getD k
 default)) : Int)))])))) (.o 0 [] [.s (li (↑(maxBy depC (List.take k c.kids)) : Int))])) (by
  intro k h; try dsimp only [teasy, nthW, lc_sDepC_sLa] at h ⊢
  have g1 := sizeC_eq c
  have g2 := @sumBy_mem _ sizeC c.kids (c.kids.getD k default)
  with_reducible repeat' (first | apply And.intro | exact zR | exact ih | (intro; skip) | apply mIc | apply mOc | apply mSc | apply mLc | apply ih)
  all_goals (try simp only [std, inj] at *)
  all_goals with_reducible repeat' apply And.intro
  all_goals (try (first | with_reducible apply ih | (simp only [← List.map_append]; first | with_reducible apply ih)))
  all_goals (try (first | exact z | exact zM | grind [maxBy_step, getD_mem', snocI, snocS, rowSnoc])))
theorem c_sDepC_s (c : Core) (h : sizeC c ≤ 2147483647) (ih : ∀ z ∈ c.kids, ∀ (h : sizeC z ≤ 2147483647), P_c_sDepC z)  : P_c_sDepC c := fnOK Tryz.call116 Tryz.func116 (.z coreC
 c.kids (.l (lc_sDepC_sLa c) (Sc_sDepC_sLa c h ih) [] [.s (li 0), .s (li 0)] 0 (.t (.r ((↑(maxBy depC c.kids) : Int) + 1) (.s (li ((↑(maxBy depC c.kids) : Int) + 1)))) .q))) (by
  dsimp only [teasy, P_c_sDepC, nthW, lc_sDepC_sLa]
  have h1 := depC_le c
  have g2 : maxBy depC (c.kids.take 0) = 0 := rfl
  with_reducible repeat' (first | apply And.intro | exact zR | exact ih | (intro; skip) | apply mIc | apply mOc | apply mSc | apply mLc)
  all_goals (try simp only [std, inj] at *)
  all_goals with_reducible repeat' apply And.intro
  all_goals (try (first | with_reducible apply ih | (simp only [← List.map_append]; first | with_reducible apply ih)))
  all_goals (try (first | exact z | exact zM | grind [depC_eq, snocI, snocS, rowSnoc])))
theorem c_sDepC (c : Core) : ∀ (h : sizeC c ≤ 2147483647), P_c_sDepC c := Core.ind (P := fun c => ∀ (h : sizeC c ≤ 2147483647), P_c_sDepC c) (fun c ih h => c_sDepC_s c h ih) c
abbrev P_c_sShape (c : Core) : Ct := ⟨145, [], [coreA c], [], .sv (lb (shC c))⟩
theorem c_sShape (c : Core)  : P_c_sShape c := fnOK Tryz.call145 Tryz.func145 (let v1 := (↑(List.map coreC c.kids).length : Int); let v2 := (↑(List.map intC c.params).length : Int);
 let v3 := (lb (decide (0 ≤ c.number ∧ c.number ≤ 13))); let v4 := (14 ≤ 9223372036854775807); let v5 := (c_l1In c.number 0 13); let v6 := (c.kind = 11); let v14 := (v2 = 0); let
 v7 := (lb (decide v14)); let v8 := (v1 = 1); let v9 := (lb (decide (1 ≤ v2 ∧ v2 ≤ 60))); let v10 := (v1 = 0); let v11 := (2 ≤ v1 ∧ v1 ≤ 60); let v12 := (1 ≤ v1 ∧ v1 ≤ 60); let v13
 := (1 ≤ v1 ∧ v1 ≤ 9); let v15 := (c_l1In v2 1 60); let v16 := (c_l1In v1 2 60); let v17 := (c_l1In v1 1 60); let v18 := (c_l1In v1 1 9); let v19 := (lb (decide (v2 ≤ 8))); let v20
 := (lb (decide (v2 = 1))); let v21 := (c.kind = 10); let v22 := (lb (isDat c.datum)); let v23 := (c_sIsDatum c.datum); let v24 := (c.kind = 9); let v25 := (c.kind = 8); let v26 :=
 (c.kind = 7); let v27 := (c.kind = 6); let v28 := (c.kind = 5); let v29 := (c.kind = 4); let v30 := (c.kind = 3); let v31 := (c.kind = 2); let v32 := (c.kind = 1); .z coreC c.kids
 (.z intC c.params (.i (c.kind ≠ 1) (.c [.rd, .rd] (c_sEqData c.datum (Datum.mk 0 0 (ByteArray.mk #[]) [])) (.b (!decide (c.datum = Datum.mk 0 0 (ByteArray.mk #[]) [])) (.y true
 (.s (lb false))) (.i (c.number ≠ 0) (.c [.rd] (c_l5Names c) (.b (!decide (c.kind = 2 ∨ c.kind = 4)) (.i (c.kind ≠ 3) (.s (lb false)) (.i v32 (.i v10 (.i v14 (.c [.rd] v23 (.s
 v22)) (.s (lb false))) (.y false (.s (lb false)))) (.i v31 (.i v10 (.s v7) (.s (lb false))) (.i v30 (.w (.draw []) (.i v10 (.i v14 (.c [] c_sPrimitiveNames (.r 13 (.c [.rd, .rd,
 .rd] v5 (.h v4 (.s v3))))) (.s (lb false))) (.y false (.s (lb false))))) (.i v29 (.i v8 (.s v7) (.s (lb false))) (.i v28 (.i v8 (.s v19) (.s (lb false))) (.i v27 (.c [.rd, .rd,
 .rd] v18 (.i v13 (.s v7) (.s (lb false)))) (.i v26 (.i (v1 = 3) (.s v7) (.s (lb false))) (.i v25 (.c [.rd, .rd, .rd] v16 (.i v11 (.s v7) (.s (lb false)))) (.i v24 (.c [.rd, .rd,
 .rd] v17 (.i v12 (.c [.rd, .rd, .rd] v15 (.s v9)) (.s (lb false)))) (.i v21 (.i v8 (.s v7) (.s (lb false))) (.i v6 (.i v8 (.s v20) (.s (lb false))) (.s (lb false)))))))))))))) (.y
 false (.i v32 (.i v10 (.i v14 (.c [.rd] v23 (.s v22)) (.s (lb false))) (.y false (.s (lb false)))) (.i v31 (.i v10 (.s v7) (.s (lb false))) (.i v30 (.w (.draw []) (.i v10 (.i v14
 (.c [] c_sPrimitiveNames (.r 13 (.c [.rd, .rd, .rd] v5 (.h v4 (.s v3))))) (.s (lb false))) (.y false (.s (lb false))))) (.i v29 (.i v8 (.s v7) (.s (lb false))) (.i v28 (.i v8 (.s
 v19) (.s (lb false))) (.i v27 (.c [.rd, .rd, .rd] v18 (.i v13 (.s v7) (.s (lb false)))) (.i v26 (.i (v1 = 3) (.s v7) (.s (lb false))) (.i v25 (.c [.rd, .rd, .rd] v16 (.i v11 (.s
 v7) (.s (lb false)))) (.i v24 (.c [.rd, .rd, .rd] v17 (.i v12 (.c [.rd, .rd, .rd] v15 (.s v9)) (.s (lb false)))) (.i v21 (.i v8 (.s v7) (.s (lb false))) (.i v6 (.i v8 (.s v20) (.s
 (lb false))) (.s (lb false)))))))))))))))) (.y false (.y false (.i v32 (.i v10 (.i v14 (.c [.rd] v23 (.s v22)) (.s (lb false))) (.y false (.s (lb false)))) (.i v31 (.i v10 (.s v7)
 (.s (lb false))) (.i v30 (.w (.draw []) (.i v10 (.i v14 (.c [] c_sPrimitiveNames (.r 13 (.c [.rd, .rd, .rd] v5 (.h v4 (.s v3))))) (.s (lb false))) (.y false (.s (lb false))))) (.i
 v29 (.i v8 (.s v7) (.s (lb false))) (.i v28 (.i v8 (.s v19) (.s (lb false))) (.i v27 (.c [.rd, .rd, .rd] v18 (.i v13 (.s v7) (.s (lb false)))) (.i v26 (.i (v1 = 3) (.s v7) (.s (lb
 false))) (.i v25 (.c [.rd, .rd, .rd] v16 (.i v11 (.s v7) (.s (lb false)))) (.i v24 (.c [.rd, .rd, .rd] v17 (.i v12 (.c [.rd, .rd, .rd] v15 (.s v9)) (.s (lb false)))) (.i v21 (.i
 v8 (.s v7) (.s (lb false))) (.i v6 (.i v8 (.s v20) (.s (lb false))) (.s (lb false)))))))))))))))))) (.y false (.i (c.number ≠ 0) (.c [.rd] (c_l5Names c) (.b (!decide (c.kind = 2 ∨
 c.kind = 4)) (.i (c.kind ≠ 3) (.s (lb false)) (.i v32 (.i v10 (.i v14 (.c [.rd] v23 (.s v22)) (.s (lb false))) (.y false (.s (lb false)))) (.i v31 (.i v10 (.s v7) (.s (lb false)))
 (.i v30 (.w (.draw []) (.i v10 (.i v14 (.c [] c_sPrimitiveNames (.r 13 (.c [.rd, .rd, .rd] v5 (.h v4 (.s v3))))) (.s (lb false))) (.y false (.s (lb false))))) (.i v29 (.i v8 (.s
 v7) (.s (lb false))) (.i v28 (.i v8 (.s v19) (.s (lb false))) (.i v27 (.c [.rd, .rd, .rd] v18 (.i v13 (.s v7) (.s (lb false)))) (.i v26 (.i (v1 = 3) (.s v7) (.s (lb false))) (.i
 v25 (.c [.rd, .rd, .rd] v16 (.i v11 (.s v7) (.s (lb false)))) (.i v24 (.c [.rd, .rd, .rd] v17 (.i v12 (.c [.rd, .rd, .rd] v15 (.s v9)) (.s (lb false)))) (.i v21 (.i v8 (.s v7) (.s
 (lb false))) (.i v6 (.i v8 (.s v20) (.s (lb false))) (.s (lb false)))))))))))))) (.y false (.i v32 (.i v10 (.i v14 (.c [.rd] v23 (.s v22)) (.s (lb false))) (.y false (.s (lb
 false)))) (.i v31 (.i v10 (.s v7) (.s (lb false))) (.i v30 (.w (.draw []) (.i v10 (.i v14 (.c [] c_sPrimitiveNames (.r 13 (.c [.rd, .rd, .rd] v5 (.h v4 (.s v3))))) (.s (lb
 false))) (.y false (.s (lb false))))) (.i v29 (.i v8 (.s v7) (.s (lb false))) (.i v28 (.i v8 (.s v19) (.s (lb false))) (.i v27 (.c [.rd, .rd, .rd] v18 (.i v13 (.s v7) (.s (lb
 false)))) (.i v26 (.i (v1 = 3) (.s v7) (.s (lb false))) (.i v25 (.c [.rd, .rd, .rd] v16 (.i v11 (.s v7) (.s (lb false)))) (.i v24 (.c [.rd, .rd, .rd] v17 (.i v12 (.c [.rd, .rd,
 .rd] v15 (.s v9)) (.s (lb false)))) (.i v21 (.i v8 (.s v7) (.s (lb false))) (.i v6 (.i v8 (.s v20) (.s (lb false))) (.s (lb false)))))))))))))))) (.y false (.y false (.i v32 (.i
 v10 (.i v14 (.c [.rd] v23 (.s v22)) (.s (lb false))) (.y false (.s (lb false)))) (.i v31 (.i v10 (.s v7) (.s (lb false))) (.i v30 (.w (.draw []) (.i v10 (.i v14 (.c []
 c_sPrimitiveNames (.r 13 (.c [.rd, .rd, .rd] v5 (.h v4 (.s v3))))) (.s (lb false))) (.y false (.s (lb false))))) (.i v29 (.i v8 (.s v7) (.s (lb false))) (.i v28 (.i v8 (.s v19)
 (.s (lb false))) (.i v27 (.c [.rd, .rd, .rd] v18 (.i v13 (.s v7) (.s (lb false)))) (.i v26 (.i (v1 = 3) (.s v7) (.s (lb false))) (.i v25 (.c [.rd, .rd, .rd] v16 (.i v11 (.s v7)
 (.s (lb false)))) (.i v24 (.c [.rd, .rd, .rd] v17 (.i v12 (.c [.rd, .rd, .rd] v15 (.s v9)) (.s (lb false)))) (.i v21 (.i v8 (.s v7) (.s (lb false))) (.i v6 (.i v8 (.s v20) (.s (lb
 false))) (.s (lb false)))))))))))))))))))) (by
  dsimp only [teasy, P_c_sShape]
  have e : primNames.length = 14 := rfl
  with_reducible repeat' (first | apply And.intro | exact zR | (intro; skip) | apply mIc | apply mOc | apply mSc | apply mLc)
  all_goals (try simp only [std, inj] at *)
  all_goals with_reducible repeat' apply And.intro
  all_goals (try (first | exact z | exact zM | grind [shC, snocI, snocS, rowSnoc])))
abbrev P_c_sNodesC (c : Core) : Ct := ⟨117, [], [coreA c], [], .sv (lb (okC c))⟩
def lc_sNodesC_sLa (c : Core) : Lp Nat := .mk 28 0 (fun x => [(1, SV.one (AC.ptr 0 0)), (6, ll (List.map coreC c.kids)), (7, li (↑(List.map coreC c.kids).length : Int)), (8, hs x
 0)]) (fun x => [Ob.box (vals (coreF c))]) (fun k => [.s (li (↑k : Int))]) (fun k => k ≤ c.kids.length ∧ c.kids.length ≤ 9223372036854775807 ∧ (List.take k c.kids).all okC = true ∧
 (List.take k c.kids).all (sqC c) = true) (fun k => c.kids.length - k) [.mk (c.kids.all okC = true ∧ c.kids.all (sqC c) = true) (.exit 0) (fun x => [(1, SV.one (AC.ptr 0 0))]) (fun
 x => [Ob.box (vals (coreF c))]) [], .mk (¬(c.kids.all okC = true ∧ c.kids.all (sqC c) = true)) .ret (fun x => [(2, hs x 0)]) (fun x => []) [.s (lb false)]]
theorem Sc_sNodesC_sLa (c : Core) (ih : ∀ (z : Core), z ∈ c.kids → OK (P_c_sNodesC z)) : Lp.Sem Tryz.prog (loopAt Tryz.f117 0) (lc_sNodesC_sLa c) := lpOK (fun k => .i ((↑k : Int) <
 (↑(List.map coreC c.kids).length : Int)) (.x (↑k : Int) (List.map coreC c.kids) (coreF (c.kids.getD k default)) (.d [.rd] (P_c_sNodesC (c.kids.getD k default)) (.b (!okC
 (c.kids.getD k default)) (.y true (.o 1 [] [.s (lb false)])) (.i (c.kind = 8) (.i ((c.kids.getD k default).kind = 8) (.o 1 [] [.s (lb false)]) (.r ((↑k : Int) + 1) (.g [0] (k + 1)
 [.s (li ((↑k : Int) + 1))]))) (.y false (.r ((↑k : Int) + 1) (.g [0] (k + 1) [.s (li ((↑k : Int) + 1))]))))))) (.o 0 [0] [])) (by
  intro k h; try dsimp only [teasy, nthW, lc_sNodesC_sLa] at h ⊢
  with_reducible repeat' (first | apply And.intro | exact zR | exact ih | (intro; skip) | apply mIc | apply mOc | apply mSc | apply mLc | apply ih)
  all_goals (try simp only [std, inj] at *)
  all_goals with_reducible repeat' apply And.intro
  all_goals (try (first | with_reducible apply ih | (simp only [← List.map_append]; first | with_reducible apply ih)))
  all_goals (try (first | exact z | exact zM | grind [take_get, getD_mem', sqC, snocI, snocS, rowSnoc])))
theorem c_sNodesC_s (c : Core) (ih : ∀ z ∈ c.kids, P_c_sNodesC z)  : P_c_sNodesC c := fnOK Tryz.call117 Tryz.func117 (.z coreC c.kids (.l (lc_sNodesC_sLa c) (Sc_sNodesC_sLa c ih) [0]
 [.s (li 0)] 0 (.t (.c [.rd] (c_sShape c) (.s (lb (shC c)))) (.t (.s (lb false)) .q)))) (by
  dsimp only [teasy, P_c_sNodesC, nthW, lc_sNodesC_sLa]
  with_reducible repeat' (first | apply And.intro | exact zR | exact ih | (intro; skip) | apply mIc | apply mOc | apply mSc | apply mLc)
  all_goals (try simp only [std, inj] at *)
  all_goals with_reducible repeat' apply And.intro
  all_goals (try (first | with_reducible apply ih | (simp only [← List.map_append]; first | with_reducible apply ih)))
  all_goals (try (first | exact z | exact zM | grind [okC_eq, shI, snocI, snocS, rowSnoc])))
theorem c_sNodesC (c : Core) : P_c_sNodesC c := Core.ind (P := fun c => P_c_sNodesC c) (fun c ih => c_sNodesC_s c ih) c
abbrev P_c_sIsCore (c : Core) (G : List Int) : Ct := ⟨76, [], [coreA c, ll (G.map intC)], [], .sv (lb (isCor c G))⟩
def lc_sIsCoreLa (c : Core) (G : List Int) : Lp Nat := .mk 41 0 (fun x => [(1, ll (List.map intC G)), (30, SV.one (AC.ref 0)), (31, li (↑(List.map intC (fre c [] [])).length :
 Int)), (32, hs x 0)]) (fun x => [Ob.arr true 1 (List.map intC (fre c [] []))]) (fun k => [.s (li (↑k : Int))]) (fun k => k ≤ (fre c [] []).length ∧ (fre c [] []).length ≤
 9223372036854775807 ∧ ((List.take k (fre c [] [])).all fun n => decide (n ∈ G)) = true) (fun k => (fre c [] []).length - k) [.mk (((fre c [] []).all fun n => decide (n ∈ G)) =
 true) (.exit 0) (fun x => []) (fun x => []) [], .mk (((fre c [] []).all fun n => decide (n ∈ G)) = false) .ret (fun x => [(4, hs x 0)]) (fun x => []) [.s (lb false)]]
theorem Sc_sIsCoreLa (c : Core) (G : List Int) (h : wC c ≤ 100000000 ∧ G.length ≤ 100000000) : Lp.Sem Tryz.prog (loopAt Tryz.f76 0) (lc_sIsCoreLa c G) := lpOK (fun k => .i ((↑k :
 Int) < (↑(List.map intC (fre c [] [])).length : Int)) (.p (0 ≤ (↑k : Int) ∧ (↑k : Int).toNat < (List.map intC (fre c [] [])).length) (.w (.cells (intC ((fre c [] []).getD (↑k :
 Int).toNat default))) (.p ((List.map intC (fre c [] []))[(↑k : Int).toNat]? = some [cI ((fre c [] []).getD (↑k : Int).toNat 0)]) (.c [.rd, .rd] (c_sHas G ((fre c [] []).getD (↑k :
 Int).toNat 0)) (.b (!decide ((fre c [] []).getD (↑k : Int).toNat 0 ∈ G)) (.o 1 [] [.s (lb false)]) (.r ((↑k : Int) + 1) (.g [0] (k + 1) [.s (li ((↑k : Int) + 1))]))))))) (.o 0 []
 [])) (by
  intro k h; try dsimp only [teasy, nthW, lc_sIsCoreLa] at h ⊢
  with_reducible repeat' (first | apply And.intro | exact zR | (intro; skip) | apply mIc | apply mOc | apply mSc | apply mLc | apply c_sDepC | apply c_l2Ints | apply c_sBound | apply c_sFree)
  all_goals (try simp only [std, inj] at *)
  all_goals with_reducible repeat' apply And.intro
  all_goals (try (first | with_reducible apply c_sDepC | with_reducible apply c_l2Ints | with_reducible apply c_sBound | with_reducible apply c_sFree | (simp only [← List.map_append]; first | with_reducible apply c_sDepC | with_reducible apply c_l2Ints | with_reducible apply c_sBound | with_reducible apply c_sFree)))
  all_goals (try (first | exact z | exact zM | grind [take_get, snocI, snocS, rowSnoc])))
theorem c_sIsCore (c : Core) (G : List Int) (h : wC c ≤ 100000000 ∧ G.length ≤ 100000000)  : P_c_sIsCore c G := fnOK Tryz.call76 Tryz.func76 (.w (.draw [(18, [25, 34])]) (.c [.rd]
 (c_sSmall c) (.b (!decide (sizeC c ≤ 3000)) (.y true (.y true (.y true (.s (lb false))))) (.d [.rd] (P_c_sDepC c) (.i (150 < (↑(depC c) : Int)) (.y true (.y true (.s (lb false))))
 (.c [.rd] (c_sNodesC c) (.b (!okC c) (.y true (.s (lb false))) (.d [.rd] (P_c_l2Ints G) (.d [.rd, .own true 1] (P_c_sBound c []) (.p (((List.map intC G).length + (List.map intC
 (bnd c)).length) * 8 ≤ 140737488355328) (.u [.rd] (P_c_sUniq (G ++ bnd c)) (.p (CallOK Tryz.prog 118 [] [ll (List.map intC G ++ List.map intC (bnd c))] [] (AV.sv (lb (okU (G ++
 bnd c))))) (.b (!okU (G ++ bnd c)) (.s (lb false)) (.d [.rd] (P_c_sFree c) (.z intC (fre c [] []) (.l (lc_sIsCoreLa c G) (Sc_sIsCoreLa c G h) [42] [.s (li 0)] 0 (.t (.s (lb true))
 (.t (.s (lb false)) .q)))))))))))))))))) (by
  dsimp only [teasy, P_c_sIsCore, nthW, lc_sIsCoreLa]
  have g1 := bnd_le c
  have g2 := fre_len c [] []
  with_reducible repeat' (first | apply And.intro | exact zR | (intro; skip) | apply mIc | apply mOc | apply mSc | apply mLc | apply c_sSmall | apply c_sDepC | apply c_sNodesC | apply c_l2Ints | apply c_sBound | apply c_sUniq | apply c_sFree | apply c_sHas)
  all_goals (try simp only [std, inj] at *)
  all_goals with_reducible repeat' apply And.intro
  all_goals (try (first | with_reducible apply c_sSmall | with_reducible apply c_sDepC | with_reducible apply c_sNodesC | with_reducible apply c_l2Ints | with_reducible apply c_sBound | with_reducible apply c_sUniq | with_reducible apply c_sFree | with_reducible apply c_sHas | (simp only [← List.map_append]; first | with_reducible apply c_sSmall | with_reducible apply c_sDepC | with_reducible apply c_sNodesC | with_reducible apply c_l2Ints | with_reducible apply c_sBound | with_reducible apply c_sUniq | with_reducible apply c_sFree | with_reducible apply c_sHas)))
  all_goals (try (first | exact z | exact zM | grind [isCor, smC, snocI, snocS, rowSnoc])))
abbrev P_c_sValid (c : Core) : Ct := ⟨29, [], [coreA c], [], .sv (lb (valC c))⟩
theorem c_sValid (c : Core) (h : wC c ≤ 90000000)  : P_c_sValid c := fnOK Tryz.call29 Tryz.func29 (.w (.draw []) (.c [.rd] (c_sSmall c) (.i (sizeC c ≤ 3000) (.d [.rd] (P_c_sFree c)
 (.d [.rd, .rd] (P_c_sIsCore c (fre c [] [])) (.s (lb (isCor c (fre c [] [])))))) (.s (lb false))))) (by
  dsimp only [teasy, P_c_sValid]
  have g2 := fre_len c [] []
  with_reducible repeat' (first | apply And.intro | exact zR | (intro; skip) | apply mIc | apply mOc | apply mSc | apply mLc | apply c_sIsCore | apply c_sFree)
  all_goals (try simp only [std, inj] at *)
  all_goals with_reducible repeat' apply And.intro
  all_goals (try (first | with_reducible apply c_sIsCore | with_reducible apply c_sFree | (simp only [← List.map_append]; first | with_reducible apply c_sIsCore | with_reducible apply c_sFree)))
  all_goals (try (first | exact z | exact zM | grind [isCor, smC, valC, snocI, snocS, rowSnoc])))
abbrev P_c_iShape (c : Core) : Ct := ⟨126, [], [coreA c], [], .sv (lb (shI c))⟩
def lc_iShapeLa (c : Core) : Lp Nat := .mk 175 0 (fun x => [(133, ll (List.map coreC c.kids)), (134, li (↑(List.map coreC c.kids).length : Int)), (135, hs x 0)]) (fun x => []) (fun
 k => [.s (li (↑k : Int))]) (fun k => k ≤ c.kids.length ∧ c.kids.length ≤ 9223372036854775807 ∧ ((List.take k c.kids).all fun x => !decide (x.kind = 8)) = true) (fun k =>
 c.kids.length - k) [.mk ((c.kids.all fun x => !decide (x.kind = 8)) = true) (.exit 1) (fun x => []) (fun x => []) [], .mk ((c.kids.all fun x => !decide (x.kind = 8)) = false) .ret
 (fun x => [(2, hs x 0)]) (fun x => []) [.s (lb false)]]
theorem Sc_iShapeLa (c : Core) : Lp.Sem Tryz.prog (loopAt Tryz.f126 0) (lc_iShapeLa c) := lpOK (fun k => .i ((↑k : Int) < (↑(List.map coreC c.kids).length : Int)) (.x (↑k : Int)
 (List.map coreC c.kids) (coreF (c.kids.getD k default)) (.i ((c.kids.getD k default).kind = 8) (.o 1 [] [.s (lb false)]) (.r ((↑k : Int) + 1) (.g [] (k + 1) [.s (li ((↑k : Int) +
 1))])))) (.o 0 [] [])) (by
  intro k h; try dsimp only [teasy, nthW, lc_iShapeLa] at h ⊢
  with_reducible repeat' (first | apply And.intro | exact zR | (intro; skip) | apply mIc | apply mOc | apply mSc | apply mLc)
  all_goals (try simp only [std, inj] at *)
  all_goals with_reducible repeat' apply And.intro
  all_goals (try (first | exact z | exact zM | grind [take_get, snocI, snocS, rowSnoc])))
theorem c_iShape (c : Core)  : P_c_iShape c := fnOK Tryz.call126 Tryz.func126 (let v1 := (↑(List.map coreC c.kids).length : Int); let v2 := (↑(List.map intC c.params).length : Int);
 let v3 := (14 ≤ 9223372036854775807); let v4 := (lb (decide (c.number < 14))); let v5 := (0 ≤ c.number); let v6 := (c.kind = 11); let v7 := (lb (decide (v1 = 1))); let v8 := (v2 =
 0); let v9 := (v1 = 0); let v10 := (lb (decide (v1 ≤ 60))); let v11 := (lb (decide (v1 ≤ 9))); let v12 := (lb (decide (v1 = 3))); let v13 := (1 ≤ v1); let v14 := (c.kind = 10);
 let v15 := (lb (isDat c.datum)); let v16 := (c_iIsDatum c.datum); let v17 := (c.kind = 9); let v18 := (c.kind = 8); let v19 := (c.kind = 7); let v20 := (c.kind = 6); let v21 :=
 (c.kind = 5); let v22 := (c.kind = 4); let v23 := (c.kind = 3); let v24 := (c.kind = 2); let v25 := (c.kind = 1); let v26 := (v2 ≤ 60); let v27 := (60 < v1); let v28 := (v2 ≤ 8);
 let v29 := (v2 ≠ 0); let v30 := (v2 = 1); let v31 := (v1 < 2); let v32 := (lb (decide v9)); let v33 := (1 ≤ v2); .w (.draw []) (.z intC c.params (.z coreC c.kids (.i (c.kind ≠ 1)
 (.c [.rd, .rd] (c_iEqData c.datum (Datum.mk 0 0 (ByteArray.mk #[]) [])) (.b (!decide (c.datum = Datum.mk 0 0 (ByteArray.mk #[]) [])) (.s (lb false)) (.i (c.number ≠ 0) (.i (c.kind
 ≠ 2) (.i (c.kind ≠ 3) (.i (c.kind ≠ 4) (.s (lb false)) (.i v25 (.i v8 (.i v9 (.c [.rd] v16 (.s v15)) (.s (lb false))) (.y false (.s (lb false)))) (.i v24 (.i v8 (.s v32) (.s (lb
 false))) (.i v23 (.w (.draw []) (.i v8 (.i v9 (.i v5 (.c [] c_iPrimitiveNames (.h v3 (.s v4))) (.s (lb false))) (.y false (.s (lb false)))) (.y false (.y false (.s (lb false))))))
 (.i v22 (.i v8 (.s v7) (.s (lb false))) (.i v21 (.i v28 (.s v7) (.s (lb false))) (.i v20 (.i v8 (.i v13 (.s v11) (.s (lb false))) (.y false (.s (lb false)))) (.i v19 (.i v8 (.s
 v12) (.s (lb false))) (.i v18 (.i v29 (.y true (.y true (.s (lb false)))) (.i v31 (.y true (.s (lb false))) (.i v27 (.s (lb false)) (.z coreC c.kids (.l (lc_iShapeLa c)
 (Sc_iShapeLa c) [] [.s (li 0)] 0 (.t (.s (lb true)) (.t (.s (lb false)) .q))))))) (.i v17 (.i v33 (.i v26 (.i v13 (.s v10) (.s (lb false))) (.y false (.s (lb false)))) (.y false
 (.y false (.s (lb false))))) (.i v14 (.i v8 (.s v7) (.s (lb false))) (.i v6 (.i v30 (.s v7) (.s (lb false))) (.s (lb false)))))))))))))) (.y false (.i v25 (.i v8 (.i v9 (.c [.rd]
 v16 (.s v15)) (.s (lb false))) (.y false (.s (lb false)))) (.i v24 (.i v8 (.s v32) (.s (lb false))) (.i v23 (.w (.draw []) (.i v8 (.i v9 (.i v5 (.c [] c_iPrimitiveNames (.h v3 (.s
 v4))) (.s (lb false))) (.y false (.s (lb false)))) (.y false (.y false (.s (lb false)))))) (.i v22 (.i v8 (.s v7) (.s (lb false))) (.i v21 (.i v28 (.s v7) (.s (lb false))) (.i v20
 (.i v8 (.i v13 (.s v11) (.s (lb false))) (.y false (.s (lb false)))) (.i v19 (.i v8 (.s v12) (.s (lb false))) (.i v18 (.i v29 (.y true (.y true (.s (lb false)))) (.i v31 (.y true
 (.s (lb false))) (.i v27 (.s (lb false)) (.z coreC c.kids (.l (lc_iShapeLa c) (Sc_iShapeLa c) [] [.s (li 0)] 0 (.t (.s (lb true)) (.t (.s (lb false)) .q))))))) (.i v17 (.i v33 (.i
 v26 (.i v13 (.s v10) (.s (lb false))) (.y false (.s (lb false)))) (.y false (.y false (.s (lb false))))) (.i v14 (.i v8 (.s v7) (.s (lb false))) (.i v6 (.i v30 (.s v7) (.s (lb
 false))) (.s (lb false))))))))))))))) (.y false (.y false (.i v25 (.i v8 (.i v9 (.c [.rd] v16 (.s v15)) (.s (lb false))) (.y false (.s (lb false)))) (.i v24 (.i v8 (.s v32) (.s
 (lb false))) (.i v23 (.w (.draw []) (.i v8 (.i v9 (.i v5 (.c [] c_iPrimitiveNames (.h v3 (.s v4))) (.s (lb false))) (.y false (.s (lb false)))) (.y false (.y false (.s (lb
 false)))))) (.i v22 (.i v8 (.s v7) (.s (lb false))) (.i v21 (.i v28 (.s v7) (.s (lb false))) (.i v20 (.i v8 (.i v13 (.s v11) (.s (lb false))) (.y false (.s (lb false)))) (.i v19
 (.i v8 (.s v12) (.s (lb false))) (.i v18 (.i v29 (.y true (.y true (.s (lb false)))) (.i v31 (.y true (.s (lb false))) (.i v27 (.s (lb false)) (.z coreC c.kids (.l (lc_iShapeLa c)
 (Sc_iShapeLa c) [] [.s (li 0)] 0 (.t (.s (lb true)) (.t (.s (lb false)) .q))))))) (.i v17 (.i v33 (.i v26 (.i v13 (.s v10) (.s (lb false))) (.y false (.s (lb false)))) (.y false
 (.y false (.s (lb false))))) (.i v14 (.i v8 (.s v7) (.s (lb false))) (.i v6 (.i v30 (.s v7) (.s (lb false))) (.s (lb false)))))))))))))))) (.y false (.y false (.y false (.i v25
 (.i v8 (.i v9 (.c [.rd] v16 (.s v15)) (.s (lb false))) (.y false (.s (lb false)))) (.i v24 (.i v8 (.s v32) (.s (lb false))) (.i v23 (.w (.draw []) (.i v8 (.i v9 (.i v5 (.c []
 c_iPrimitiveNames (.h v3 (.s v4))) (.s (lb false))) (.y false (.s (lb false)))) (.y false (.y false (.s (lb false)))))) (.i v22 (.i v8 (.s v7) (.s (lb false))) (.i v21 (.i v28 (.s
 v7) (.s (lb false))) (.i v20 (.i v8 (.i v13 (.s v11) (.s (lb false))) (.y false (.s (lb false)))) (.i v19 (.i v8 (.s v12) (.s (lb false))) (.i v18 (.i v29 (.y true (.y true (.s
 (lb false)))) (.i v31 (.y true (.s (lb false))) (.i v27 (.s (lb false)) (.z coreC c.kids (.l (lc_iShapeLa c) (Sc_iShapeLa c) [] [.s (li 0)] 0 (.t (.s (lb true)) (.t (.s (lb
 false)) .q))))))) (.i v17 (.i v33 (.i v26 (.i v13 (.s v10) (.s (lb false))) (.y false (.s (lb false)))) (.y false (.y false (.s (lb false))))) (.i v14 (.i v8 (.s v7) (.s (lb
 false))) (.i v6 (.i v30 (.s v7) (.s (lb false))) (.s (lb false))))))))))))))))))) (.y false (.i (c.number ≠ 0) (.i (c.kind ≠ 2) (.i (c.kind ≠ 3) (.i (c.kind ≠ 4) (.s (lb false))
 (.i v25 (.i v8 (.i v9 (.c [.rd] v16 (.s v15)) (.s (lb false))) (.y false (.s (lb false)))) (.i v24 (.i v8 (.s v32) (.s (lb false))) (.i v23 (.w (.draw []) (.i v8 (.i v9 (.i v5 (.c
 [] c_iPrimitiveNames (.h v3 (.s v4))) (.s (lb false))) (.y false (.s (lb false)))) (.y false (.y false (.s (lb false)))))) (.i v22 (.i v8 (.s v7) (.s (lb false))) (.i v21 (.i v28
 (.s v7) (.s (lb false))) (.i v20 (.i v8 (.i v13 (.s v11) (.s (lb false))) (.y false (.s (lb false)))) (.i v19 (.i v8 (.s v12) (.s (lb false))) (.i v18 (.i v29 (.y true (.y true
 (.s (lb false)))) (.i v31 (.y true (.s (lb false))) (.i v27 (.s (lb false)) (.z coreC c.kids (.l (lc_iShapeLa c) (Sc_iShapeLa c) [] [.s (li 0)] 0 (.t (.s (lb true)) (.t (.s (lb
 false)) .q))))))) (.i v17 (.i v33 (.i v26 (.i v13 (.s v10) (.s (lb false))) (.y false (.s (lb false)))) (.y false (.y false (.s (lb false))))) (.i v14 (.i v8 (.s v7) (.s (lb
 false))) (.i v6 (.i v30 (.s v7) (.s (lb false))) (.s (lb false)))))))))))))) (.y false (.i v25 (.i v8 (.i v9 (.c [.rd] v16 (.s v15)) (.s (lb false))) (.y false (.s (lb false))))
 (.i v24 (.i v8 (.s v32) (.s (lb false))) (.i v23 (.w (.draw []) (.i v8 (.i v9 (.i v5 (.c [] c_iPrimitiveNames (.h v3 (.s v4))) (.s (lb false))) (.y false (.s (lb false)))) (.y
 false (.y false (.s (lb false)))))) (.i v22 (.i v8 (.s v7) (.s (lb false))) (.i v21 (.i v28 (.s v7) (.s (lb false))) (.i v20 (.i v8 (.i v13 (.s v11) (.s (lb false))) (.y false (.s
 (lb false)))) (.i v19 (.i v8 (.s v12) (.s (lb false))) (.i v18 (.i v29 (.y true (.y true (.s (lb false)))) (.i v31 (.y true (.s (lb false))) (.i v27 (.s (lb false)) (.z coreC
 c.kids (.l (lc_iShapeLa c) (Sc_iShapeLa c) [] [.s (li 0)] 0 (.t (.s (lb true)) (.t (.s (lb false)) .q))))))) (.i v17 (.i v33 (.i v26 (.i v13 (.s v10) (.s (lb false))) (.y false
 (.s (lb false)))) (.y false (.y false (.s (lb false))))) (.i v14 (.i v8 (.s v7) (.s (lb false))) (.i v6 (.i v30 (.s v7) (.s (lb false))) (.s (lb false))))))))))))))) (.y false (.y
 false (.i v25 (.i v8 (.i v9 (.c [.rd] v16 (.s v15)) (.s (lb false))) (.y false (.s (lb false)))) (.i v24 (.i v8 (.s v32) (.s (lb false))) (.i v23 (.w (.draw []) (.i v8 (.i v9 (.i
 v5 (.c [] c_iPrimitiveNames (.h v3 (.s v4))) (.s (lb false))) (.y false (.s (lb false)))) (.y false (.y false (.s (lb false)))))) (.i v22 (.i v8 (.s v7) (.s (lb false))) (.i v21
 (.i v28 (.s v7) (.s (lb false))) (.i v20 (.i v8 (.i v13 (.s v11) (.s (lb false))) (.y false (.s (lb false)))) (.i v19 (.i v8 (.s v12) (.s (lb false))) (.i v18 (.i v29 (.y true (.y
 true (.s (lb false)))) (.i v31 (.y true (.s (lb false))) (.i v27 (.s (lb false)) (.z coreC c.kids (.l (lc_iShapeLa c) (Sc_iShapeLa c) [] [.s (li 0)] 0 (.t (.s (lb true)) (.t (.s
 (lb false)) .q))))))) (.i v17 (.i v33 (.i v26 (.i v13 (.s v10) (.s (lb false))) (.y false (.s (lb false)))) (.y false (.y false (.s (lb false))))) (.i v14 (.i v8 (.s v7) (.s (lb
 false))) (.i v6 (.i v30 (.s v7) (.s (lb false))) (.s (lb false)))))))))))))))) (.y false (.y false (.y false (.i v25 (.i v8 (.i v9 (.c [.rd] v16 (.s v15)) (.s (lb false))) (.y
 false (.s (lb false)))) (.i v24 (.i v8 (.s v32) (.s (lb false))) (.i v23 (.w (.draw []) (.i v8 (.i v9 (.i v5 (.c [] c_iPrimitiveNames (.h v3 (.s v4))) (.s (lb false))) (.y false
 (.s (lb false)))) (.y false (.y false (.s (lb false)))))) (.i v22 (.i v8 (.s v7) (.s (lb false))) (.i v21 (.i v28 (.s v7) (.s (lb false))) (.i v20 (.i v8 (.i v13 (.s v11) (.s (lb
 false))) (.y false (.s (lb false)))) (.i v19 (.i v8 (.s v12) (.s (lb false))) (.i v18 (.i v29 (.y true (.y true (.s (lb false)))) (.i v31 (.y true (.s (lb false))) (.i v27 (.s (lb
 false)) (.z coreC c.kids (.l (lc_iShapeLa c) (Sc_iShapeLa c) [] [.s (li 0)] 0 (.t (.s (lb true)) (.t (.s (lb false)) .q))))))) (.i v17 (.i v33 (.i v26 (.i v13 (.s v10) (.s (lb
 false))) (.y false (.s (lb false)))) (.y false (.y false (.s (lb false))))) (.i v14 (.i v8 (.s v7) (.s (lb false))) (.i v6 (.i v30 (.s v7) (.s (lb false))) (.s (lb
 false)))))))))))))))))))))) (by
  dsimp only [teasy, P_c_iShape, nthW, lc_iShapeLa]
  have e : primNames.length = 14 := rfl
  with_reducible repeat' (first | apply And.intro | exact zR | (intro; skip) | apply mIc | apply mOc | apply mSc | apply mLc)
  all_goals (try simp only [std, inj] at *)
  all_goals with_reducible repeat' apply And.intro
  all_goals (try (first | exact z | exact zM | grind [shC, shI, sqC, snocI, snocS, rowSnoc])))
abbrev P_c_iMeaC (c : Core) (deep : Int) (q : Int) : Ct := ⟨85, [.box [vI q]], [coreA c, li deep, .one (.ptr 0 0)], [.box [vI (meaC c deep q).2]], .sv (lb (meaC c deep q).1)⟩
def lc_iMeaC_sLa (c : Core) (deep : Int) (q : Int) : Lp Nat := .mk 41 1 (fun x => [(1, li deep), (2, SV.one (AC.ptr 0 0)), (28, ll (List.map coreC c.kids)), (29, li (↑(List.map
 coreC c.kids).length : Int)), (30, hs x 0)]) (fun x => [Ob.box [ha x 1]]) (fun k => [.s (li (↑k : Int)), .a (vI (scan (fun x m => meaC x (deep + 1) m) (List.take k c.kids) (q +
 1)).snd)]) (fun k => k ≤ c.kids.length ∧ c.kids.length ≤ 9223372036854775807 ∧ deep ≤ 150 ∧ (scan (fun x m => meaC x (deep + 1) m) (List.take k c.kids) (q + 1)).fst = true ∧ q ≤
 (scan (fun x m => meaC x (deep + 1) m) (List.take k c.kids) (q + 1)).snd ∧ (scan (fun x m => meaC x (deep + 1) m) (List.take k c.kids) (q + 1)).snd ≤ 3000) (fun k => c.kids.length
 - k) [.mk ((scan (fun x m => meaC x (deep + 1) m) c.kids (q + 1)).fst = true) (.exit 0) (fun x => []) (fun x => [Ob.box [ha x 0]]) [.a (vI (scan (fun x m => meaC x (deep + 1) m)
 c.kids (q + 1)).snd)], .mk ((scan (fun x m => meaC x (deep + 1) m) c.kids (q + 1)).fst = false) .ret (fun x => [(6, hs x 0)]) (fun x => [Ob.box [ha x 1]]) [.s (lb false), .a (vI
 (scan (fun x m => meaC x (deep + 1) m) c.kids (q + 1)).snd)]]
theorem Sc_iMeaC_sLa (c : Core) (deep : Int) (q : Int) (h : 0 ≤ deep ∧ deep ≤ 151 ∧ 0 ≤ q ∧ q ≤ 3000) (ih : ∀ (z : Core), z ∈ c.kids → ∀ (deep q : Int), 0 ≤ deep ∧ deep ≤ 151 ∧ 0 ≤
 q ∧ q ≤ 3000 → OK (P_c_iMeaC z deep q)) : Lp.Sem Tryz.prog (loopAt Tryz.f85 0) (lc_iMeaC_sLa c deep q) := lpOK (fun k => .i ((↑k : Int) < (↑(List.map coreC c.kids).length : Int))
 (.x (↑k : Int) (List.map coreC c.kids) (coreF (c.kids.getD k default)) (.r (deep + 1) (.d [.rd, .rd, .ptr] (P_c_iMeaC (c.kids.getD k default) (deep + 1) (scan (fun x m => meaC x
 (deep + 1) m) (List.take k c.kids) (q + 1)).snd) (.b (!(meaC (c.kids.getD k default) (deep + 1) (scan (fun x m => meaC x (deep + 1) m) (List.take k c.kids) (q + 1)).snd).fst) (.o
 1 [0] [.s (lb false), .a (vI (meaC (c.kids.getD k default) (deep + 1) (scan (fun x m => meaC x (deep + 1) m) (List.take k c.kids) (q + 1)).snd).snd)]) (.r ((↑k : Int) + 1) (.g [0]
 (k + 1) [.s (li ((↑k : Int) + 1)), .a (vI (meaC (c.kids.getD k default) (deep + 1) (scan (fun x m => meaC x (deep + 1) m) (List.take k c.kids) (q + 1)).snd).snd)])))))) (.o 0 [0]
 [.a (vI (scan (fun x m => meaC x (deep + 1) m) (List.take k c.kids) (q + 1)).snd)])) (by
  intro k h; try dsimp only [teasy, nthW, lc_iMeaC_sLa] at h ⊢
  have g1 := fun x m => meaC_of x (deep + 1) m
  with_reducible repeat' (first | apply And.intro | exact zR | exact ih | (intro; skip) | apply mIc | apply mOc | apply mSc | apply mLc | apply ih)
  all_goals (try simp only [std, inj] at *)
  all_goals with_reducible repeat' apply And.intro
  all_goals (try (first | with_reducible apply ih | (simp only [← List.map_append]; first | with_reducible apply ih)))
  all_goals (try (first | exact z | exact zM | grind [scan_step, scan_stop, getD_mem', snocI, snocS, rowSnoc])))
theorem c_iMeaC_s (c : Core) (deep q : Int) (h : 0 ≤ deep ∧ deep ≤ 151 ∧ 0 ≤ q ∧ q ≤ 3000) (ih : ∀ z ∈ c.kids, ∀ (deep : Int) (q : Int) (h : 0 ≤ deep ∧ deep ≤ 151 ∧ 0 ≤ q ∧ q ≤
 3000), P_c_iMeaC z deep q)  : P_c_iMeaC c deep q := fnOK Tryz.call85 Tryz.func85 (.r (q + 1) (.i (150 < deep) (.y true (.y true (.f [] [Ob.box [vI (q + 1)]] (AV.sv (lb false)))))
 (.i (3000 < q + 1) (.y true (.f [] [Ob.box [vI (q + 1)]] (AV.sv (lb false)))) (.c [.rd] (c_iShape c) (.b (!shI c) (.f [] [Ob.box [vI (q + 1)]] (AV.sv (lb false))) (.z coreC c.kids
 (.l (lc_iMeaC_sLa c deep q) (Sc_iMeaC_sLa c deep q h ih) [0] [.s (li 0), .a (vI (q + 1))] 0 (.t (.f [] [Ob.box [vI (scan (fun x m => meaC x (deep + 1) m) c.kids (q + 1)).snd]]
 (AV.sv (lb true))) (.t (.f [] [Ob.box [vI (scan (fun x m => meaC x (deep + 1) m) c.kids (q + 1)).snd]] (AV.sv (lb false))) .q))))))))) (by
  dsimp only [teasy, P_c_iMeaC, nthW, lc_iMeaC_sLa]
  with_reducible repeat' (first | apply And.intro | exact zR | exact ih | (intro; skip) | apply mIc | apply mOc | apply mSc | apply mLc)
  all_goals (try simp only [std, inj] at *)
  all_goals with_reducible repeat' apply And.intro
  all_goals (try (first | with_reducible apply ih | (simp only [← List.map_append]; first | with_reducible apply ih)))
  all_goals (try (first | exact z | exact zM | grind [meaC_eq, scan, snocI, snocS, rowSnoc])))
theorem c_iMeaC (c : Core) : ∀ (deep : Int) (q : Int) (h : 0 ≤ deep ∧ deep ≤ 151 ∧ 0 ≤ q ∧ q ≤ 3000), P_c_iMeaC c deep q := Core.ind (P := fun c => ∀ (deep : Int) (q : Int) (h : 0 ≤ deep ∧ deep ≤ 151 ∧ 0 ≤ q ∧ q ≤ 3000), P_c_iMeaC c deep q) (fun c ih deep q h => c_iMeaC_s c deep q h ih) c
abbrev P_c_iDiff (Ls : List (List Int)) : Ct := ⟨86, [], [ll (Ls.map lintC)], [], .sv (lb (okU Ls.flatten))⟩
def lc_iDiffLb (Ls : List (List Int)) (k : Nat) : Lp Nat := .mk 37 0 (fun x => [(3, SV.one (AC.mref 0)), (9, ll (List.map lintC Ls)), (10, li (↑(List.map lintC Ls).length : Int)),
 (11, li (↑k : Int)), (15, ll (List.map intC (Ls.getD k []))), (16, li (↑(List.map intC (Ls.getD k [])).length : Int)), (17, hs x 0)]) (fun x => [ho x 1]) (fun k1 => [.s (li (↑k1 :
 Int)), .o (Ob.map false kI (mI (memI ((List.take k Ls).flatten ++ List.take k1 (Ls.getD k [])))))]) (fun k1 => k1 ≤ (Ls.getD k []).length ∧ (Ls.getD k []).length ≤
 9223372036854775807 ∧ k < Ls.length ∧ okU ((List.take k Ls).flatten ++ List.take k1 (Ls.getD k [])) = true) (fun k1 => (Ls.getD k []).length - k1) [.mk (okU (List.take (k + 1)
 Ls).flatten = true) (.exit 2) (fun x => [(3, SV.one (AC.mref 0)), (9, ll (List.map lintC Ls)), (10, li (↑(List.map lintC Ls).length : Int)), (11, li (↑k : Int))]) (fun x => [ho x
 0]) [.o (Ob.map false kI (mI (memI (List.take (k + 1) Ls).flatten)))], .mk (okU Ls.flatten = false) .ret (fun x => [(2, hs x 0)]) (fun x => []) [.s (lb false)]]
def lc_iDiffLa (Ls : List (List Int)) : Lp Nat := .mk 37 0 (fun x => [(3, SV.one (AC.mref 0)), (9, ll (List.map lintC Ls)), (10, li (↑(List.map lintC Ls).length : Int)), (11, hs x
 0)]) (fun x => [ho x 1]) (fun k => [.s (li (↑k : Int)), .o (Ob.map false kI (mI (memI (List.take k Ls).flatten)))]) (fun k => k ≤ Ls.length ∧ Ls.length ≤ 9223372036854775807 ∧ okU
 (List.take k Ls).flatten = true) (fun k => Ls.length - k) [.mk (okU Ls.flatten = true) (.exit 0) (fun x => []) (fun x => []) [], .mk (okU Ls.flatten = false) .ret (fun x => [(2,
 hs x 0)]) (fun x => []) [.s (lb false)]]
theorem Sc_iDiffLb (Ls : List (List Int)) (k : Nat) : Lp.Sem Tryz.prog (loopAt Tryz.f86 1) (lc_iDiffLb Ls k) := lpOK (fun k1 => .i ((↑k1 : Int) < (↑(List.map intC (Ls.getD k
 [])).length : Int)) (.x (↑k1 : Int) (List.map intC (Ls.getD k [])) [cI ((Ls.getD k []).getD k1 0)] (.i ((Ls.getD k []).getD k1 (0 : Int) < 0) (.y true (.y true (.o 1 [] [.s (lb
 false)]))) (.i (99999 < (Ls.getD k []).getD k1 0) (.y true (.o 1 [] [.s (lb false)])) (.w (.cells [cI (memI ((List.take k Ls).flatten ++ List.take k1 (Ls.getD k [])) ((Ls.getD k
 []).getD k1 0))]) (.p (LookAt (Value.int IntKind.i64 0) (mI (memI ((List.take k Ls).flatten ++ List.take k1 (Ls.getD k [])))) (Value.int IntKind.i64 ((Ls.getD k []).getD k1 0))
 (cI (memI ((List.take k Ls).flatten ++ List.take k1 (Ls.getD k [])) ((Ls.getD k []).getD k1 0)))) (.i (memI ((List.take k Ls).flatten ++ List.take k1 (Ls.getD k [])) ((Ls.getD k
 []).getD k1 0) = 1) (.o 1 [] [.s (lb false)]) (.w (.upd (mI (upd1 (memI ((List.take k Ls).flatten ++ List.take k1 (Ls.getD k []))) ((Ls.getD k []).getD k1 0) 1))) (.p (false =
 false) (.p (UpdF kI.d (mI (memI ((List.take k Ls).flatten ++ List.take k1 (Ls.getD k [])))) (mI (upd1 (memI ((List.take k Ls).flatten ++ List.take k1 (Ls.getD k []))) ((Ls.getD k
 []).getD k1 0) 1)) (Value.int IntKind.i64 ((Ls.getD k []).getD k1 0)) (some (cI 1))) (.r ((↑k1 : Int) + 1) (.g [0] (k1 + 1) [.s (li ((↑k1 : Int) + 1)), .o (Ob.map false kI (mI
 (upd1 (memI ((List.take k Ls).flatten ++ List.take k1 (Ls.getD k []))) ((Ls.getD k []).getD k1 0) 1)))]))))))))))) (.o 0 [0] [.o (Ob.map false kI (mI (memI ((List.take k
 Ls).flatten ++ List.take k1 (Ls.getD k [])))))])) (by
  intro k1 h; try dsimp only [teasy, nthW, lc_iDiffLb] at h ⊢
  have g1 := @okU_part Ls k (k1 + 1)
  have g2 := @takeI (Ls.getD k []) k1
  have g3 := @okU_snoc ((Ls.take k).flatten ++ (Ls.getD k []).take k1) ((Ls.getD k []).getD k1 0)
  have g4 := @memI_one ((Ls.take k).flatten ++ (Ls.getD k []).take k1) ((Ls.getD k []).getD k1 0)
  have g5 : ∀ j, (Ls.getD k []).length ≤ j → (Ls.getD k []).take j = Ls.getD k [] := fun j h => List.take_of_length_le h
  with_reducible repeat' (first | apply And.intro | exact zR | (intro; skip) | apply mIc | apply mOc | apply mSc | apply mLc)
  all_goals (try simp only [std, inj] at *)
  all_goals with_reducible repeat' apply And.intro
  all_goals (try (first | exact z | exact zM | grind [takeLs, memI_snoc, List.append_assoc, snocI, snocS, rowSnoc])))
theorem Sc_iDiffLa (Ls : List (List Int)) : Lp.Sem Tryz.prog (loopAt Tryz.f86 0) (lc_iDiffLa Ls) := lpOK (fun k => .i ((↑k : Int) < (↑(List.map lintC Ls).length : Int)) (.x (↑k :
 Int) (List.map lintC Ls) [Cell.list (List.map intC (Ls.getD k []))] (.z intC (Ls.getD k []) (.l (lc_iDiffLb Ls k) (Sc_iDiffLb Ls k) [0] [.s (li 0), .o (Ob.map false kI (mI (memI
 (List.take k Ls).flatten)))] 0 (.t (.r ((↑k : Int) + 1) (.g [0] (k + 1) [.s (li ((↑k : Int) + 1)), .o (Ob.map false kI (mI (memI (List.take (k + 1) Ls).flatten)))])) (.t (.o 1 []
 [.s (lb false)]) .q))))) (.o 0 [] [])) (by
  intro k h; try dsimp only [teasy, nthW, lc_iDiffLa, lc_iDiffLb] at h ⊢
  with_reducible repeat' (first | apply And.intro | exact zR | (intro; skip) | apply mIc | apply mOc | apply mSc | apply mLc)
  all_goals (try simp only [std, inj] at *)
  all_goals with_reducible repeat' apply And.intro
  all_goals (try (first | exact z | exact zM | grind [takeLs, snocI, snocS, rowSnoc])))
theorem c_iDiff (Ls : List (List Int))  : P_c_iDiff Ls := fnOK Tryz.call86 Tryz.func86 (.w (.mkmap kI) (.z lintC Ls (.l (lc_iDiffLa Ls) (Sc_iDiffLa Ls) [0] [.s (li 0), .o (Ob.map
 false kI (mI zI))] 0 (.t (.s (lb true)) (.t (.s (lb false)) .q))))) (by
  dsimp only [teasy, P_c_iDiff, nthW, lc_iDiffLa]
  with_reducible repeat' (first | apply And.intro | exact zR | (intro; skip) | apply mIc | apply mOc | apply mSc | apply mLc)
  all_goals (try simp only [std, inj] at *)
  all_goals with_reducible repeat' apply And.intro
  all_goals (try (first | exact z | exact zM | grind [memI_nil, okU_nil, snocI, snocS, rowSnoc])))
abbrev P_c_iValid (c : Core) : Ct := ⟨34, [], [coreA c], [], .sv (lb (valC c))⟩
theorem c_iValid (c : Core) (h : wC c ≤ 90000000)  : P_c_iValid c := fnOK Tryz.call34 Tryz.func34 (.w (.draw [(1, [1]), (7, [10, 18])]) (.d [.rd, .rd, .ptr] (P_c_iMeaC c 1 0) (.b
 (meaC c 1 0).fst (.d [.rd] (P_c_iFree c) (.d [.rd] (P_c_iBoundVariables c) (.c [.rd] (c_iDiff [fre c [] [], bnd c]) (.s (lb (okU [fre c [] [], bnd c].flatten)))))) (.s (lb
 false))))) (by
  dsimp only [teasy, P_c_iValid]
  have g1 := bnd_le c
  have g2 := fre_len c [] []
  with_reducible repeat' (first | apply And.intro | exact zR | (intro; skip) | apply mIc | apply mOc | apply mSc | apply mLc | apply c_iMeaC | apply c_iBoundVariables | apply c_iFree)
  all_goals (try simp only [std, inj] at *)
  all_goals with_reducible repeat' apply And.intro
  all_goals (try (first | with_reducible apply c_iMeaC | with_reducible apply c_iBoundVariables | with_reducible apply c_iFree | (simp only [← List.map_append]; first | with_reducible apply c_iMeaC | with_reducible apply c_iBoundVariables | with_reducible apply c_iFree)))
  all_goals (try (first | exact z | exact zM | grind [valC, meaC_sm, snocI, snocS, rowSnoc])))
end Go.Proofs.YtgeegppaaggcjaaGreatDoor
end
section
namespace Go.Proofs.YtgeegppaaggcjaaGreatDoor
open Go Go.Proofs.YtgeegppaaggcjaaGreatDoor.Ab
set_option linter.unusedVariables false
set_option linter.unusedSimpArgs false
set_option maxHeartbeats 4000000
abbrev P_c_sCopyD (x : Datum) : Ct := ⟨73, [], [datumA x], datumO x, .sv (datumR x 0)⟩
def lc_sCopyD_sLa (x : Datum) : Lp Nat := .mk 29 0 (fun x_1 => [(2, SV.one (AC.ptr 0 0)), (3, SV.one (AC.ptr 1 0)), (14, ll (List.map datumC x.items)), (15, li (↑(List.map datumC
 x.items).length : Int)), (16, hs x_1 0)]) (fun x_1 => [Ob.box [vI 0, vI 0, vS (ByteArray.mk #[]), AC.val (Cell.lit (Value.slice none 0 0))], Ob.box [vI x.kind, vI x.number, vS
 x.text, AC.ref 2], ho x_1 1]) (fun k => [.s (li (↑k : Int)), .o (Ob.arr true 4 (List.map datumC (List.take k x.items)))]) (fun k => k ≤ x.items.length ∧ x.items.length ≤
 9223372036854775807) (fun k => x.items.length - k) [.mk True (.exit 0) (fun x => [(2, SV.one (AC.ptr 0 0)), (3, SV.one (AC.ptr 1 0))]) (fun x_1 => [Ob.box [vI 0, vI 0, vS
 (ByteArray.mk #[]), AC.val (Cell.lit (Value.slice none 0 0))], Ob.box [vI x.kind, vI x.number, vS x.text, AC.ref 2], ho x_1 0]) [.o (Ob.arr true 4 (List.map datumC x.items))]]
theorem Sc_sCopyD_sLa (x : Datum) (h : wD x ≤ 1048576) (ih : ∀ (z : Datum), z ∈ x.items → wD z ≤ 1048576 → OK (P_c_sCopyD z)) : Lp.Sem Tryz.prog (loopAt Tryz.f73 0) (lc_sCopyD_sLa
 x) := lpOK (fun k => .i ((↑k : Int) < (↑(List.map datumC x.items).length : Int)) (.x (↑k : Int) (List.map datumC x.items) (datumF (x.items.getD k default)) (.w (.draw [(4, [4]),
 (5, [2, 12]), (7, [1])]) (.d [.rd] (P_c_sCopyD (x.items.getD k default)) (.p (((List.map datumC (List.take k x.items)).length + 1) * 56 ≤ 140737488355328) (.r ((↑k : Int) + 1) (.g
 [0, 1, 13] (k + 1) [.s (li ((↑k : Int) + 1)), .o (Ob.arr true 4 (List.map datumC (List.take k x.items) ++ [datumF (x.items.getD k default)]))])))))) (.o 0 [0, 1, 2] [.o (Ob.arr
 true 4 (List.map datumC (List.take k x.items)))])) (by
  intro k h; try dsimp only [teasy, nthW, lc_sCopyD_sLa] at h ⊢
  have g1 := wD_eq x
  have g2 := @sumBy_mem _ wD x.items (x.items.getD k default)
  with_reducible repeat' (first | apply And.intro | exact zR | exact ih | (intro; skip) | apply ih)
  all_goals (try simp only [std, inj] at *)
  all_goals with_reducible repeat' apply And.intro
  all_goals (try (first | with_reducible apply ih | (simp only [← List.map_append]; first | with_reducible apply ih)))
  all_goals (try (first | exact z | grind [take_get, getD_mem', snocI, snocS, rowSnoc, getD_mem'])))
theorem c_sCopyD_s (x : Datum) (h : wD x ≤ 1048576) (ih : ∀ z ∈ x.items, ∀ (h : wD z ≤ 1048576), P_c_sCopyD z)  : P_c_sCopyD x := fnOK Tryz.call73 Tryz.func73 (.z datumC x.items (.w
 (.ghost (.nilbox 2 3 true 4)) (.l (lc_sCopyD_sLa x) (Sc_sCopyD_sLa x h ih) [1, 2, 3] [.s (li 0), .o (Ob.arr true 4 [])] 0 (.t (.f [2] [Ob.arr true 4 (List.map datumC x.items)]
 (AV.sv (SV.agg [vI x.kind, vI x.number, vS x.text, AC.ref 0]))) .q)))) (by
  dsimp only [teasy, P_c_sCopyD, nthW, lc_sCopyD_sLa]
  with_reducible repeat' (first | apply And.intro | exact zR | exact ih | (intro; skip))
  all_goals (try simp only [std, inj] at *)
  all_goals with_reducible repeat' apply And.intro
  all_goals (try (first | with_reducible apply ih | (simp only [← List.map_append]; first | with_reducible apply ih)))
  all_goals (try (first | exact z | grind [snocI, snocS, rowSnoc])))
theorem c_sCopyD (x : Datum) : ∀ (h : wD x ≤ 1048576), P_c_sCopyD x := Datum.ind (P := fun x => ∀ (h : wD x ≤ 1048576), P_c_sCopyD x) (fun x ih h => c_sCopyD_s x h ih) x
end Go.Proofs.YtgeegppaaggcjaaGreatDoor
end
section
namespace Go.Proofs.YtgeegppaaggcjaaGreatDoor
open Go Go.Proofs.YtgeegppaaggcjaaGreatDoor.Ab
set_option linter.unusedVariables false
set_option linter.unusedSimpArgs false
set_option maxHeartbeats 4000000
def smI (n : Int) : Bool := decide (0 ≤ n ∧ n ≤ 99999)
theorem smI_iff {n : Int} : smI n = true ↔ 0 ≤ n ∧ n ≤ 99999 := decide_eq_true_iff
mutual
def okV : Core → Bool
  | ⟨k, n, p, _, l⟩ => okVs l && ((!decide (k = 2 ∨ k = 4) || smI n) && p.all smI)
def okVs : List Core → Bool
  | [] => true
  | c :: r => okV c && okVs r
end
theorem okVs_eq : ∀ l, okVs l = l.all okV
  | [] => by simp [okVs]
  | c :: r => by rw [okVs, okVs_eq r]; rfl
theorem okV_eq (c : Core) : okV c = (c.kids.all okV && ((!decide (c.kind = 2 ∨ c.kind = 4) || smI c.number) && c.params.all smI)) := by cases c; simp only [okV, okVs_eq]
theorem fre0_keep {c : Core} {b o : List Int} {n : Int} (hn : n ∈ o) : n ∈ fre0 c b o := by
  unfold fre0; split
  · unfold addU; split
    · exact hn
    · exact List.mem_append_left _ hn
  · exact hn
theorem fre_keep : ∀ (c : Core) (b o : List Int), ∀ n ∈ o, n ∈ fre c b o := by
  refine Core.ind fun c ih b o n hn => ?_
  rw [fre_eq]
  have h : ∀ (L : List Core), (∀ y ∈ L, ∀ b o, ∀ n ∈ o, n ∈ fre y b o) → ∀ o, n ∈ o → n ∈ L.foldl (fun o x => fre x (b ++ c.params) o) o := by
    intro L; induction L with
    | nil => intro _ o h; exact h
    | cons x r ihr => intro hL o h; exact ihr (fun y hy => hL y (List.mem_cons_of_mem _ hy)) _ (hL x List.mem_cons_self _ _ n h)
  exact h c.kids ih _ (fre0_keep hn)
theorem okV_of : ∀ (c : Core) (b o : List Int), (∀ n ∈ b, smI n = true) → (∀ n ∈ bnd c, smI n = true) → (∀ n ∈ fre c b o, smI n = true) → okV c = true := by
  refine Core.ind fun c ih b o hb hp hf => ?_
  rw [okV_eq, Bool.and_eq_true, Bool.and_eq_true, List.all_eq_true, List.all_eq_true]
  rw [fre_eq] at hf
  have hpar : ∀ n ∈ c.params, smI n = true := fun n hn => hp n (by rw [bnd_eq]; exact List.mem_append_left _ hn)
  have keep : ∀ (L : List Core) o n, n ∈ o → n ∈ L.foldl (fun o x => fre x (b ++ c.params) o) o := by
    intro L; induction L with
    | nil => intro o n h; exact h
    | cons x r ihr => intro o n h; exact ihr _ n (fre_keep x _ _ n h)
  refine ⟨fun x hx => ?_, ?_, hpar⟩
  · have kid : ∀ (L : List Core) o, x ∈ L → (∀ n ∈ L.foldl (fun o x => fre x (b ++ c.params) o) o, smI n = true) → ∃ o', ∀ n ∈ fre x (b ++ c.params) o', smI n = true := by
      intro L; induction L with
      | nil => intro o h; cases h
      | cons y r ihr =>
        intro o h hall
        rcases List.mem_cons.1 h with rfl | h
        · exact ⟨o, fun n hn => hall n (keep r _ n hn)⟩
        · exact ihr _ h hall
    obtain ⟨o', h'⟩ := kid c.kids _ hx hf
    exact ih x hx (b ++ c.params) o' (fun n hn => (List.mem_append.1 hn).elim (hb n) (hpar n)) (fun n hn => hp n (by rw [bnd_eq]; exact List.mem_append_right _ (List.mem_flatMap.2 ⟨x, hx, hn⟩))) h'
  · by_cases hk : c.kind = 2 ∨ c.kind = 4
    · by_cases hm : c.number ∈ b
      · simp [hb _ hm]
      · have : c.number ∈ fre0 c b o := by
          unfold fre0; rw [if_pos ⟨hk, hm⟩]; unfold addU; split
          · assumption
          · exact List.mem_append_right _ List.mem_cons_self
        simp [hf _ (keep _ _ _ this)]
    · simp [hk]
theorem valC_V {c : Core} (h : valC c = true) : okV c = true := by
  simp only [valC, Bool.and_eq_true, okU_iff] at h
  exact okV_of c [] [] (by simp) (fun n hn => smI_iff.2 (h.2.2 n (List.mem_append_right _ hn))) (fun n hn => smI_iff.2 (h.2.2 n (List.mem_append_left _ hn)))
theorem valC_K {c : Core} (h : valC c = true) : okC c = true ∧ sizeC c ≤ 3000 := by
  simp only [valC, smC, Bool.and_eq_true, decide_eq_true_eq] at h; exact ⟨h.1.2, h.1.1.1⟩
def quoteS : ByteArray := mkS [113, 117, 111, 116, 101]
def setS : ByteArray := mkS [115, 101, 116, 33]
def lambdaS : ByteArray := mkS [108, 97, 109, 98, 100, 97]
def ifS : ByteArray := mkS [105, 102]
def beginS : ByteArray := mkS [98, 101, 103, 105, 110]
def localS : ByteArray := mkS [108, 111, 99, 97, 108]
def resetS : ByteArray := mkS [114, 101, 115, 101, 116]
def shiftS : ByteArray := mkS [115, 104, 105, 102, 116]
def varT (n : Int) : ByteArray := mkS ([118] ++ Lib.itoa n)
def varD (n : Int) : Datum := symD (varT n)
def headU (k n : Int) (p : List Int) : List Datum :=
  if k = 4 then [symD setS, varD n] else if k = 5 then [symD lambdaS, lstD (p.map varD)] else if k = 7 then [symD ifS] else if k = 8 then [symD beginS]
  else if k = 9 then [symD localS, lstD (p.map varD)] else if k = 10 then [symD resetS] else if k = 11 then [symD shiftS, varD (p.getD 0 0)] else []
mutual
def unpD : Core → Datum
  | ⟨k, n, p, d, l⟩ => if k = 1 then lstD [symD quoteS, d] else if k = 2 then varD n else if k = 3 then symD (primNames.getD n.toNat default) else lstD (headU k n p ++ unpDs l)
def unpDs : List Core → List Datum
  | [] => []
  | c :: r => unpD c :: unpDs r
end
theorem unpDs_eq : ∀ l, unpDs l = l.map unpD
  | [] => by simp [unpDs]
  | c :: r => by rw [unpDs, unpDs_eq r]; rfl
theorem unpD_eq (c : Core) : unpD c = if c.kind = 1 then lstD [symD quoteS, c.datum] else if c.kind = 2 then varD c.number else if c.kind = 3 then symD (primNames.getD c.number.toNat default) else lstD (headU c.kind c.number c.params ++ c.kids.map unpD) := by
  cases c; simp only [unpD, unpDs_eq]
theorem prim_sym : ∀ n : Nat, n < 14 → isSym (primNames.getD n default) = true := by decide +kernel
theorem wrd_sym : isSym quoteS = true ∧ isSym setS = true ∧ isSym lambdaS = true ∧ isSym ifS = true ∧ isSym beginS = true ∧ isSym localS = true ∧ isSym resetS = true ∧ isSym shiftS = true := by decide +kernel
theorem var_snoc (L : List Int) (n : Int) : (L.map varD).map datumC ++ [[cI 1, cI 0, cS (varT n), Cell.list []]] = ((L ++ [n]).map varD).map datumC := by
  simp only [List.map_append, List.map_cons, List.map_nil, datumC_eq]; rfl
theorem okV_kid {c : Core} (h : okV c = true) : ∀ x ∈ c.kids, okV x = true := by
  rw [okV_eq, Bool.and_eq_true, List.all_eq_true] at h; exact h.1
theorem okC_kid {c : Core} (h : okC c = true) : ∀ x ∈ c.kids, okC x = true := by
  rw [okC_eq, Bool.and_eq_true, List.all_eq_true] at h; exact h.1
theorem okD_w : ∀ d : Datum, okD d = true → wD d + 1 ≤ 40 * sizeD d := by
  refine Datum.ind fun d ih hd => ?_
  rw [okD_eq, Bool.and_eq_true, List.all_eq_true] at hd
  have h1 : d.items.length + sumBy wD d.items ≤ 40 * sumBy sizeD d.items := by
    have h0 : ∀ x ∈ d.items, wD x + 1 ≤ 40 * sizeD x := fun x hx => ih x hx (hd.1 x hx)
    revert h0; generalize d.items = L; intro h0
    induction L with
    | nil => simp [sumBy]
    | cons x r ihr => have := ihr fun y hy => h0 y (List.mem_cons_of_mem _ hy); have := h0 x List.mem_cons_self; simp only [sumBy, List.length_cons]; omega
  have h5 := nod_txt hd.2
  rw [wD_eq, sizeD_eq]
  omega
theorem isDat_w {d : Datum} (h : isDat d = true) : wD d ≤ 24000 := by
  simp only [isDat, Bool.and_eq_true, decide_eq_true_eq] at h
  have := okD_w d h.2; omega
theorem unpD_1 {c : Core} (h : c.kind = 1) : unpD c = lstD [symD quoteS, c.datum] := by rw [unpD_eq, if_pos h]
theorem unpD_2 {c : Core} (h : c.kind = 2) : unpD c = ⟨1, 0, varT c.number, []⟩ := by rw [unpD_eq, if_neg (by omega), if_pos h]; rfl
theorem unpD_3 {c : Core} (h : c.kind = 3) : unpD c = ⟨1, 0, primNames.getD c.number.toNat default, []⟩ := by rw [unpD_eq, if_neg (by omega), if_neg (by omega), if_pos h]; rfl
theorem unpD_4 {c : Core} (h1 : ¬ c.kind = 1) (h2 : ¬ c.kind = 2) (h3 : ¬ c.kind = 3) : unpD c = ⟨0, 0, mkS [], headU c.kind c.number c.params ++ c.kids.map unpD⟩ := by rw [unpD_eq, if_neg h1, if_neg h2, if_neg h3]; rfl
theorem unp_row1 {c : Core} (h : c.kind = 1) : (unpD c).items.map datumC = [[cI 1, cI 0, cS (mkS [113, 117, 111, 116, 101]), Cell.list []], datumF c.datum] := by
  rw [unpD_1 h]; simp only [lstD, symD, List.map_cons, List.map_nil, datumC_eq]; rfl
theorem head_row4 {c : Core} (h : c.kind = 4) : (headU c.kind c.number c.params).map datumC = [[cI 1, cI 0, cS (mkS [115, 101, 116, 33]), Cell.list []], [cI 1, cI 0, cS (varT c.number), Cell.list []]] := by
  unfold headU; rw [if_pos h]; simp only [varD, symD, List.map_cons, List.map_nil, datumC_eq]; rfl
theorem head_row5 {c : Core} (h : c.kind = 5) : (headU c.kind c.number c.params).map datumC = [[cI 1, cI 0, cS (mkS [108, 97, 109, 98, 100, 97]), Cell.list []], [cI 0, cI 0, cS (mkS []), Cell.list ((c.params.map varD).map datumC)]] := by
  unfold headU; rw [if_neg (by omega), if_pos h]; simp only [lstD, symD, List.map_cons, List.map_nil, datumC_eq]; rfl
theorem head_row9 {c : Core} (h : c.kind = 9) : (headU c.kind c.number c.params).map datumC = [[cI 1, cI 0, cS (mkS [108, 111, 99, 97, 108]), Cell.list []], [cI 0, cI 0, cS (mkS []), Cell.list ((c.params.map varD).map datumC)]] := by
  unfold headU; rw [if_neg (by omega), if_neg (by omega), if_neg (by omega), if_neg (by omega), if_pos h]; simp only [lstD, symD, List.map_cons, List.map_nil, datumC_eq]; rfl
theorem head_row7 {c : Core} (h : c.kind = 7) : (headU c.kind c.number c.params).map datumC = [[cI 1, cI 0, cS (mkS [105, 102]), Cell.list []]] := by
  unfold headU; rw [if_neg (by omega), if_neg (by omega), if_pos h]; simp only [symD, List.map_cons, List.map_nil, datumC_eq]; rfl
theorem head_row8 {c : Core} (h : c.kind = 8) : (headU c.kind c.number c.params).map datumC = [[cI 1, cI 0, cS (mkS [98, 101, 103, 105, 110]), Cell.list []]] := by
  unfold headU; rw [if_neg (by omega), if_neg (by omega), if_neg (by omega), if_pos h]; simp only [symD, List.map_cons, List.map_nil, datumC_eq]; rfl
theorem head_row10 {c : Core} (h : c.kind = 10) : (headU c.kind c.number c.params).map datumC = [[cI 1, cI 0, cS (mkS [114, 101, 115, 101, 116]), Cell.list []]] := by
  unfold headU; rw [if_neg (by omega), if_neg (by omega), if_neg (by omega), if_neg (by omega), if_neg (by omega), if_pos h]; simp only [symD, List.map_cons, List.map_nil, datumC_eq]; rfl
theorem head_row11 {c : Core} (h : c.kind = 11) : (headU c.kind c.number c.params).map datumC = [[cI 1, cI 0, cS (mkS [115, 104, 105, 102, 116]), Cell.list []], [cI 1, cI 0, cS (varT (c.params.getD 0 0)), Cell.list []]] := by
  unfold headU; rw [if_neg (by omega), if_neg (by omega), if_neg (by omega), if_neg (by omega), if_neg (by omega), if_neg (by omega), if_pos h]; simp only [varD, symD, List.map_cons, List.map_nil, datumC_eq]; rfl
theorem headU_len (k n : Int) (p : List Int) : (headU k n p).length ≤ 2 := by
  unfold headU
  repeat' split
  all_goals simp
theorem prim_at {n : Nat} (h : n < 14) : (primNames.map strC)[n]? = some [cS (primNames.getD n default)] := by
  have h1 : n < primNames.length := h
  simp [strC, h1]
theorem okC_num {c : Core} (h : okC c = true) : c.kids.length ≤ 60 ∧ c.params.length ≤ 60 ∧ (c.kind = 1 → isDat c.datum = true ∧ wD c.datum ≤ 1048576) := by
  rw [okC_eq, Bool.and_eq_true] at h
  have h1 := h.2
  simp only [shI, shC, Bool.and_eq_true] at h1
  have h2 := h1.1.2
  have h3 := @isDat_w c.datum
  repeat' split at h2
  all_goals simp only [Bool.and_eq_true, decide_eq_true_eq, Bool.false_eq_true] at h2
  all_goals refine ⟨by omega, by omega, fun e => ?_⟩
  all_goals first | exact ⟨h2.2, by have := h3 h2.2; omega⟩ | omega
theorem par_11 {c : Core} (h1 : okC c = true) (h2 : okV c = true) (hk : c.kind = 11) : (c.params.map intC)[0]? = some [cI (c.params.getD 0 0)] ∧ smI (c.params.getD 0 0) = true := by
  rw [okC_eq, Bool.and_eq_true] at h1
  rw [okV_eq, Bool.and_eq_true, Bool.and_eq_true, List.all_eq_true (p := smI)] at h2
  have h6 := h1.2
  simp only [shI, shC, Bool.and_eq_true] at h6
  have h7 := h6.1.2
  rw [hk] at h7; simp only [Bool.and_eq_true, decide_eq_true_eq] at h7; simp at h7
  have hl : c.params.length = 1 := by omega
  obtain ⟨x, e⟩ := List.length_eq_one_iff.1 hl
  rw [e] at h2 ⊢
  exact ⟨rfl, h2.2.2 x (by simp)⟩
abbrev P_c_sSymD (s : ByteArray) : Ct := ⟨79, [], [ls s], [], .sv (.agg [vI 1, vI 0, vS s, .val (.lit (.slice none 0 0))])⟩
theorem c_sSymD (s : ByteArray) (h : isSym s = true)  : P_c_sSymD s := fnOK Tryz.call79 Tryz.func79 (.c [.rd] (c_sIsSymbol s) (.b (!isSym s) (.s (SV.agg [vI 0, vI 0, vS (ByteArray.mk
 #[]), AC.val (Cell.lit (Value.slice none 0 0))])) (.s (SV.agg [vI 1, vI 0, vS s, AC.val (Cell.lit (Value.slice none 0 0))])))) (by
  dsimp only [teasy, P_c_sSymD]
  with_reducible repeat' (first | apply And.intro | exact zR | (intro; skip))
  all_goals (try simp only [std, inj] at *)
  all_goals with_reducible repeat' apply And.intro
  all_goals (try (first | exact z | grind [snocI, snocS, rowSnoc])))
abbrev P_c_sVar (n : Int) : Ct := ⟨78, [], [li n], [], .sv (.agg [vI 1, vI 0, vS (varT n), .val (.lit (.slice none 0 0))])⟩
theorem c_sVar (n : Int) (h : smI n = true)  : P_c_sVar n := fnOK Tryz.call78 Tryz.func78 (.d [.rd] (P_c_sNum n) (.p (1 + (Lib.itoa n).length ≤ 9223372036854775807) (.s (SV.agg [vI
 1, vI 0, vS (ByteArray.mk ([(118 : UInt8)] ++ Lib.itoa n).toArray), AC.val (Cell.lit (Value.slice none 0 0))])))) (by
  dsimp only [teasy, P_c_sVar]
  rw [smI_iff] at h
  have g := itoa_len (n := n) (by omega)
  with_reducible repeat' (first | apply And.intro | exact zR | (intro; skip) | apply c_sNum)
  all_goals (try simp only [std, inj] at *)
  all_goals with_reducible repeat' apply And.intro
  all_goals (try (first | with_reducible apply c_sNum | (simp only [← List.map_append]; first | with_reducible apply c_sNum)))
  all_goals (try (first | exact z | grind [varT, snocI, snocS, rowSnoc])))
abbrev P_c_sVars (L : List Int) : Ct := ⟨80, [], [ll (L.map intC)], [.arr true 4 ((L.map varD).map datumC)], .sv (lstR 0)⟩
def lc_sVarsLa (L : List Int) : Lp Nat := .mk 22 0 (fun x => [(2, SV.one (AC.ptr 0 0)), (3, SV.one (AC.ptr 1 0)), (7, ll (List.map intC L)), (8, li (↑(List.map intC L).length :
 Int)), (9, hs x 0)]) (fun x => [Ob.box [vI 0, vI 0, vS (ByteArray.mk #[]), AC.val (Cell.lit (Value.slice none 0 0))], Ob.box [vI 0, vI 0, vS (ByteArray.mk #[]), AC.ref 2], ho x
 1]) (fun k => [.s (li (↑k : Int)), .o (Ob.arr true 4 (List.map datumC (List.map varD (List.take k L))))]) (fun k => k ≤ L.length ∧ L.length ≤ 9223372036854775807 ∧ L.length ≤
 2147483647 ∧ L.all smI = true) (fun k => L.length - k) [.mk True (.exit 0) (fun x => [(2, SV.one (AC.ptr 0 0)), (3, SV.one (AC.ptr 1 0))]) (fun x => [Ob.box [vI 0, vI 0, vS
 (ByteArray.mk #[]), AC.val (Cell.lit (Value.slice none 0 0))], Ob.box [vI 0, vI 0, vS (ByteArray.mk #[]), AC.ref 2], ho x 0]) [.o (Ob.arr true 4 (List.map datumC (List.map varD
 L)))]]
theorem Sc_sVarsLa (L : List Int) (h : L.length ≤ 2147483647 ∧ L.all smI = true) : Lp.Sem Tryz.prog (loopAt Tryz.f80 0) (lc_sVarsLa L) := lpOK (fun k => .i ((↑k : Int) <
 (↑(List.map intC L).length : Int)) (.x (↑k : Int) (List.map intC L) [cI (L.getD k 0)] (.w (.draw [(5, [2, 11]), (7, [1])]) (.d [.rd] (P_c_sVar (L.getD k 0)) (.p (((List.map datumC
 (List.map varD (List.take k L))).length + 1) * 56 ≤ 140737488355328) (.r ((↑k : Int) + 1) (.g [0, 1, 12] (k + 1) [.s (li ((↑k : Int) + 1)), .o (Ob.arr true 4 (List.map datumC
 (List.map varD (List.take k L)) ++ [[cI 1, cI 0, cS (varT (L.getD k 0)), Cell.list []]]))])))))) (.o 0 [0, 1, 2] [.o (Ob.arr true 4 (List.map datumC (List.map varD (List.take k
 L))))])) (by
  intro k h; try dsimp only [teasy, nthW, lc_sVarsLa] at h ⊢
  with_reducible repeat' (first | apply And.intro | exact zR | (intro; skip) | apply c_sVar)
  all_goals (try simp only [std, inj] at *)
  all_goals with_reducible repeat' apply And.intro
  all_goals (try (first | with_reducible apply c_sVar | (simp only [← List.map_append]; first | with_reducible apply c_sVar)))
  all_goals (try (first | exact z | grind [take_get, var_snoc, getD_mem', List.all_eq_true, snocI, snocS, rowSnoc, getD_mem'])))
theorem c_sVars (L : List Int) (h : L.length ≤ 2147483647 ∧ L.all smI = true)  : P_c_sVars L := fnOK Tryz.call80 Tryz.func80 (.z intC L (.w (.ghost (.nilbox 1 3 true 4)) (.l
 (lc_sVarsLa L) (Sc_sVarsLa L h) [0, 1, 2] [.s (li 0), .o (Ob.arr true 4 [])] 0 (.t (.f [2] [Ob.arr true 4 (List.map datumC (List.map varD L))] (AV.sv (SV.agg [vI 0, vI 0, vS
 (ByteArray.mk #[]), AC.ref 0]))) .q)))) (by
  dsimp only [teasy, P_c_sVars, nthW, lc_sVarsLa]
  with_reducible repeat' (first | apply And.intro | exact zR | (intro; skip) | apply c_sVar)
  all_goals (try simp only [std, inj] at *)
  all_goals with_reducible repeat' apply And.intro
  all_goals (try (first | with_reducible apply c_sVar | (simp only [← List.map_append]; first | with_reducible apply c_sVar)))
  all_goals (try (first | exact z | grind [snocI, snocS, rowSnoc])))
abbrev P_c_sUnp (c : Core) : Ct := ⟨31, [], [coreA c], datumO (unpD c), .sv (datumR (unpD c) 0)⟩
def lc_sUnp_sLa (c : Core) : Lp Nat := .mk 103 0 (fun x => [(2, SV.one (AC.ptr 0 0)), (5, SV.one (AC.ptr 1 0)), (88, ll (List.map coreC c.kids)), (89, li (↑(List.map coreC
 c.kids).length : Int)), (90, hs x 0)]) (fun x => [Ob.box [vI 0, vI 0, vS (ByteArray.mk #[]), AC.val (Cell.lit (Value.slice none 0 0))], Ob.box [vI 0, vI 0, vS (ByteArray.mk #[]),
 AC.ref 2], ho x 1]) (fun k => [.s (li (↑k : Int)), .o (Ob.arr true 4 (List.map datumC (headU c.kind c.number c.params ++ List.map unpD (List.take k c.kids))))]) (fun k => k ≤
 c.kids.length ∧ c.kids.length ≤ 9223372036854775807 ∧ okC c = true ∧ okV c = true) (fun k => c.kids.length - k) [.mk True (.exit 1) (fun x => [(2, SV.one (AC.ptr 0 0)), (5, SV.one
 (AC.ptr 1 0))]) (fun x => [Ob.box [vI 0, vI 0, vS (ByteArray.mk #[]), AC.val (Cell.lit (Value.slice none 0 0))], Ob.box [vI 0, vI 0, vS (ByteArray.mk #[]), AC.ref 2], ho x 0]) [.o
 (Ob.arr true 4 (List.map datumC (headU c.kind c.number c.params ++ List.map unpD c.kids)))]]
theorem Sc_sUnp_sLa (c : Core) (h : okC c = true ∧ okV c = true) (ih : ∀ (z : Core), z ∈ c.kids → okC z = true ∧ okV z = true → OK (P_c_sUnp z)) : Lp.Sem Tryz.prog (loopAt Tryz.f31
 0) (lc_sUnp_sLa c) := lpOK (fun k => .i ((↑k : Int) < (↑(List.map coreC c.kids).length : Int)) (.x (↑k : Int) (List.map coreC c.kids) (coreF (c.kids.getD k default)) (.w (.draw
 [(4, [4]), (5, [2, 12]), (7, [1])]) (.d [.rd] (P_c_sUnp (c.kids.getD k default)) (.p (((List.map datumC (headU c.kind c.number c.params ++ List.map unpD (List.take k
 c.kids))).length + 1) * 56 ≤ 140737488355328) (.r ((↑k : Int) + 1) (.g [0, 1, 13] (k + 1) [.s (li ((↑k : Int) + 1)), .o (Ob.arr true 4 (List.map datumC (headU c.kind c.number
 c.params ++ List.map unpD (List.take k c.kids)) ++ [datumF (unpD (c.kids.getD k default))]))])))))) (.o 0 [0, 1, 2] [.o (Ob.arr true 4 (List.map datumC (headU c.kind c.number
 c.params ++ List.map unpD (List.take k c.kids))))])) (by
  intro k h; try dsimp only [teasy, nthW, lc_sUnp_sLa] at h ⊢
  have g1 := @okC_num c
  have g2 := headU_len c.kind c.number c.params
  have g3 := @okV_kid c
  have g4 := @okC_kid c
  with_reducible repeat' (first | apply And.intro | exact zR | exact ih | (intro; skip) | apply c_sVar | apply c_sVars | apply c_sSymD | apply c_sCopyD | apply ih)
  all_goals (try simp only [std, inj] at *)
  all_goals with_reducible repeat' apply And.intro
  all_goals (try (first | with_reducible apply c_sVar | with_reducible apply c_sVars | with_reducible apply c_sSymD | with_reducible apply c_sCopyD | with_reducible apply ih | (simp only [← List.map_append]; first | with_reducible apply c_sVar | with_reducible apply c_sVars | with_reducible apply c_sSymD | with_reducible apply c_sCopyD | with_reducible apply ih)))
  all_goals (try (first | exact z | grind [take_get, getD_mem', snocI, snocS, rowSnoc, getD_mem'])))
theorem c_sUnp_s (c : Core) (h : okC c = true ∧ okV c = true) (ih : ∀ z ∈ c.kids, ∀ (h : okC z = true ∧ okV z = true), P_c_sUnp z)  : P_c_sUnp c := fnOK Tryz.call31 Tryz.func31 (let
 v1 := [Ob.arr true 4 (List.map datumC (headU c.kind c.number c.params ++ List.map unpD c.kids))]; let v2 := (AV.sv (SV.agg [vI 0, vI 0, vS (ByteArray.mk #[]), AC.ref 0])); let v3
 := (56 ≤ 140737488355328); let v4 := (Sc_sUnp_sLa c h ih); let v5 := (primNames.getD c.number.toNat default); let v6 := (112 ≤ 140737488355328); let v7 := (ByteArray.mk #[(108 :
 UInt8), (97 : UInt8), (109 : UInt8), (98 : UInt8), (100 : UInt8), (97 : UInt8)]); let v8 := [(5, [12]), (7, [3])]; let v9 := [cI 0, cI 0, cS (mkS []), Cell.list (List.map datumC
 (List.map varD c.params))]; let v10 := (ByteArray.mk #[(115 : UInt8), (104 : UInt8), (105 : UInt8), (102 : UInt8), (116 : UInt8)]); let v11 := (ByteArray.mk #[(114 : UInt8), (101
 : UInt8), (115 : UInt8), (101 : UInt8), (116 : UInt8)]); let v12 := (ByteArray.mk #[(113 : UInt8), (117 : UInt8), (111 : UInt8), (116 : UInt8), (101 : UInt8)]); let v13 :=
 (ByteArray.mk #[(98 : UInt8), (101 : UInt8), (103 : UInt8), (105 : UInt8), (110 : UInt8)]); let v14 := (ByteArray.mk #[(108 : UInt8), (111 : UInt8), (99 : UInt8), (97 : UInt8),
 (108 : UInt8)]); .w (.bool false) (.i (c.kind = 2) (.d [.rd] (P_c_sVar c.number) (.w (.ghost (.nilbox 1 3 true 4)) (.f [3] [Ob.arr true 4 []] (AV.sv (SV.agg [vI 1, vI 0, vS (varT
 c.number), AC.ref 0]))))) (.i (c.kind = 3) (.w (.draw [(6, [1])]) (.c [] c_sPrimitiveNames (.p (0 ≤ c.number ∧ c.number.toNat < 14) (.w (.cells (strC v5)) (.p ((List.map strC
 primNames)[c.number.toNat]? = some [cS v5]) (.d [.rd] (P_c_sSymD v5) (.w (.ghost (.nilbox 1 3 true 4)) (.f [4] [Ob.arr true 4 []] (AV.sv (SV.agg [vI 1, vI 0, vS v5, AC.ref
 0])))))))))) (.i (c.kind = 1) (.w (.draw [(4, [11]), (6, [1])]) (.d [.rd] (P_c_sSymD v12) (.d [.rd] (P_c_sCopyD c.datum) (.f [19] [Ob.arr true 4 [[cI 1, cI 0, cS v12, Cell.list
 []], datumF c.datum]] v2)))) (.i (c.kind = 4) (.d [.rd] (P_c_sVar c.number) (.p v3 (.y true (.w (.draw [(5, [14]), (7, [5])]) (.d [.rd] (P_c_sSymD (ByteArray.mk #[(115 : UInt8),
 (101 : UInt8), (116 : UInt8), (33 : UInt8)])) (.w (.bool true) (.p v3 (.p v6 (.z coreC c.kids (.l (lc_sUnp_sLa c) v4 [1, 5, 16] [.s (li 0), .o (Ob.arr true 4 [[cI 1, cI 0, cS
 (ByteArray.mk #[(115 : UInt8), (101 : UInt8), (116 : UInt8), (33 : UInt8)]), Cell.list []], [cI 1, cI 0, cS (varT c.number), Cell.list []]])] 0 (.t (.f [2] v1 v2) .q)))))))))))
 (.i (c.kind = 5) (.d [.rd] (P_c_sVars c.params) (.p v3 (.y true (.w (.draw [(5, [15]), (7, [6])]) (.d [.rd] (P_c_sSymD v7) (.w (.bool true) (.p v3 (.p v6 (.z coreC c.kids (.l
 (lc_sUnp_sLa c) v4 [1, 6, 17] [.s (li 0), .o (Ob.arr true 4 [[cI 1, cI 0, cS v7, Cell.list []], v9])] 0 (.t (.f [2] v1 v2) .q))))))))))) (.i (c.kind = 7) (.y true (.w (.draw v8)
 (.d [.rd] (P_c_sSymD (ByteArray.mk #[(105 : UInt8), (102 : UInt8)])) (.w (.bool true) (.p v3 (.p v3 (.z coreC c.kids (.l (lc_sUnp_sLa c) v4 [1, 3, 14] [.s (li 0), .o (Ob.arr true
 4 [[cI 1, cI 0, cS (ByteArray.mk #[(105 : UInt8), (102 : UInt8)]), Cell.list []]])] 0 (.t (.f [2] v1 v2) .q))))))))) (.i (c.kind = 8) (.y true (.w (.draw v8) (.d [.rd] (P_c_sSymD
 v13) (.w (.bool true) (.p v3 (.p v3 (.z coreC c.kids (.l (lc_sUnp_sLa c) v4 [1, 3, 14] [.s (li 0), .o (Ob.arr true 4 [[cI 1, cI 0, cS v13, Cell.list []]])] 0 (.t (.f [2] v1 v2)
 .q))))))))) (.i (c.kind = 9) (.d [.rd] (P_c_sVars c.params) (.p v3 (.y true (.w (.draw [(5, [15]), (7, [6])]) (.d [.rd] (P_c_sSymD v14) (.w (.bool true) (.p v3 (.p v6 (.z coreC
 c.kids (.l (lc_sUnp_sLa c) v4 [1, 6, 17] [.s (li 0), .o (Ob.arr true 4 [[cI 1, cI 0, cS v14, Cell.list []], v9])] 0 (.t (.f [2] v1 v2) .q))))))))))) (.i (c.kind = 10) (.y true (.w
 (.draw v8) (.d [.rd] (P_c_sSymD v11) (.w (.bool true) (.p v3 (.p v3 (.z coreC c.kids (.l (lc_sUnp_sLa c) v4 [1, 3, 14] [.s (li 0), .o (Ob.arr true 4 [[cI 1, cI 0, cS v11,
 Cell.list []]])] 0 (.t (.f [2] v1 v2) .q))))))))) (.i (c.kind = 11) (.w (.cells (intC (c.params.getD 0 default))) (.p ((0 : Int) ≤ 0 ∧ (List.map intC c.params)[0]? = some [cI
 (c.params.getD 0 0)]) (.d [.rd] (P_c_sVar (c.params.getD 0 0)) (.p v3 (.y true (.w (.draw [(5, [14]), (7, [5])]) (.d [.rd] (P_c_sSymD v10) (.w (.bool true) (.p v3 (.p v6 (.z coreC
 c.kids (.l (lc_sUnp_sLa c) v4 [1, 5, 16] [.s (li 0), .o (Ob.arr true 4 [[cI 1, cI 0, cS v10, Cell.list []], [cI 1, cI 0, cS (varT (c.params.getD 0 0)), Cell.list []]])] 0 (.t (.f
 [2] v1 v2) .q))))))))))))) (.y false (.w (.bool true) (.p (0 ≤ 140737488355328) (.z coreC c.kids (.l (lc_sUnp_sLa c) v4 [1, 3, 4] [.s (li 0), .o (Ob.arr true 4 [])] 0 (.t (.f [2]
 v1 v2) .q))))))))))))))))) (by
  dsimp only [teasy, P_c_sUnp, nthW, lc_sUnp_sLa]
  have g1 := @okC_num c
  have g2 := okV_eq c
  have g3 := okC_eq c
  have g4 := @unpD_1 c
  have g5 := @unpD_2 c
  have g6 := @unpD_3 c
  have g7 := @unpD_4 c
  have g8 := wrd_sym
  have g9 := prim_sym c.number.toNat
  have g10 := @prim_at c.number.toNat
  have g11 := @unp_row1 c
  have g12 := @head_row4 c
  have g14 := @head_row5 c
  have g15 := @head_row9 c
  have g16 := @head_row7 c
  have g17 := @head_row8 c
  have g18 := @head_row10 c
  have g19 := @head_row11 c
  have g20 := @par_11 c
  have g13 : isSym (mkS [113, 117, 111, 116, 101]) = true := wrd_sym.1
  with_reducible repeat' (first | apply And.intro | exact zR | exact ih | (intro; skip) | apply c_sVar | apply c_sVars | apply c_sSymD | apply c_sCopyD)
  all_goals (try simp only [std, inj] at *)
  all_goals with_reducible repeat' apply And.intro
  all_goals (try (first | with_reducible apply c_sVar | with_reducible apply c_sVars | with_reducible apply c_sSymD | with_reducible apply c_sCopyD | with_reducible apply ih | (simp only [← List.map_append]; first | with_reducible apply c_sVar | with_reducible apply c_sVars | with_reducible apply c_sSymD | with_reducible apply c_sCopyD | with_reducible apply ih)))
  all_goals (try (first | exact z | grind [shI, shC, headU, symD, lstD, varD, snocI, snocS, rowSnoc])))
theorem c_sUnp (c : Core) : ∀ (h : okC c = true ∧ okV c = true), P_c_sUnp c := Core.ind (P := fun c => ∀ (h : okC c = true ∧ okV c = true), P_c_sUnp c) (fun c ih h => c_sUnp_s c h ih) c
abbrev P_c_iVar (n : Int) : Ct := ⟨90, [], [li n], [], .sv (.agg [vI 1, vI 0, vS (varT n), .val (.lit (.slice none 0 0))])⟩
theorem c_iVar (n : Int) (h : smI n = true)  : P_c_iVar n := fnOK Tryz.call90 Tryz.func90 (.d [.rd] (P_c_iNum n) (.p (1 + (Lib.itoa n).length ≤ 9223372036854775807) (.c [.rd]
 (c_iSymbolOf (ByteArray.mk ([(118 : UInt8)] ++ Lib.itoa n).toArray)) (.s (SV.agg [vI 1, vI 0, vS (ByteArray.mk ([(118 : UInt8)] ++ Lib.itoa n).toArray), AC.val (Cell.lit
 (Value.slice none 0 0))]))))) (by
  dsimp only [teasy, P_c_iVar]
  rw [smI_iff] at h
  have g := itoa_len (n := n) (by omega)
  with_reducible repeat' (first | apply And.intro | exact zR | (intro; skip) | apply c_iNum)
  all_goals (try simp only [std, inj] at *)
  all_goals with_reducible repeat' apply And.intro
  all_goals (try (first | with_reducible apply c_iNum | (simp only [← List.map_append]; first | with_reducible apply c_iNum)))
  all_goals (try (first | exact z | grind [varT, snocI, snocS, rowSnoc])))
abbrev P_c_iVars (L : List Int) : Ct := ⟨91, [], [ll (L.map intC)], [.arr true 4 ((L.map varD).map datumC)], .sv (lstR 0)⟩
def lc_iVarsLa (L : List Int) : Lp Nat := .mk 21 0 (fun x => [(2, SV.one (AC.ptr 0 0)), (3, SV.one (AC.ptr 1 0)), (6, ll (List.map intC L)), (7, li (↑(List.map intC L).length :
 Int)), (8, hs x 0)]) (fun x => [Ob.box [vI 0, vI 0, vS (ByteArray.mk #[]), AC.val (Cell.lit (Value.slice none 0 0))], Ob.box [vI 0, vI 0, vS (ByteArray.mk #[]), AC.ref 2], ho x
 1]) (fun k => [.s (li (↑k : Int)), .o (Ob.arr true 4 (List.map datumC (List.map varD (List.take k L))))]) (fun k => k ≤ L.length ∧ L.length ≤ 9223372036854775807 ∧ L.length ≤
 2147483647 ∧ L.all smI = true) (fun k => L.length - k) [.mk True (.exit 0) (fun x => [(2, SV.one (AC.ptr 0 0)), (3, SV.one (AC.ptr 1 0))]) (fun x => [Ob.box [vI 0, vI 0, vS
 (ByteArray.mk #[]), AC.val (Cell.lit (Value.slice none 0 0))], Ob.box [vI 0, vI 0, vS (ByteArray.mk #[]), AC.ref 2], ho x 0]) [.o (Ob.arr true 4 (List.map datumC (List.map varD
 L)))]]
theorem Sc_iVarsLa (L : List Int) (h : L.length ≤ 2147483647 ∧ L.all smI = true) : Lp.Sem Tryz.prog (loopAt Tryz.f91 0) (lc_iVarsLa L) := lpOK (fun k => .i ((↑k : Int) <
 (↑(List.map intC L).length : Int)) (.x (↑k : Int) (List.map intC L) [cI (L.getD k 0)] (.w (.draw [(5, [2, 11]), (7, [1])]) (.d [.rd] (P_c_iVar (L.getD k 0)) (.p (((List.map datumC
 (List.map varD (List.take k L))).length + 1) * 56 ≤ 140737488355328) (.r ((↑k : Int) + 1) (.g [0, 1, 12] (k + 1) [.s (li ((↑k : Int) + 1)), .o (Ob.arr true 4 (List.map datumC
 (List.map varD (List.take k L)) ++ [[cI 1, cI 0, cS (varT (L.getD k 0)), Cell.list []]]))])))))) (.o 0 [0, 1, 2] [.o (Ob.arr true 4 (List.map datumC (List.map varD (List.take k
 L))))])) (by
  intro k h; try dsimp only [teasy, nthW, lc_iVarsLa] at h ⊢
  with_reducible repeat' (first | apply And.intro | exact zR | (intro; skip) | apply c_iVar)
  all_goals (try simp only [std, inj] at *)
  all_goals with_reducible repeat' apply And.intro
  all_goals (try (first | with_reducible apply c_iVar | (simp only [← List.map_append]; first | with_reducible apply c_iVar)))
  all_goals (try (first | exact z | grind [take_get, var_snoc, getD_mem', List.all_eq_true, snocI, snocS, rowSnoc, getD_mem'])))
theorem c_iVars (L : List Int) (h : L.length ≤ 2147483647 ∧ L.all smI = true)  : P_c_iVars L := fnOK Tryz.call91 Tryz.func91 (.z intC L (.w (.ghost (.nilbox 1 3 true 4)) (.l
 (lc_iVarsLa L) (Sc_iVarsLa L h) [0, 1, 2] [.s (li 0), .o (Ob.arr true 4 [])] 0 (.t (.f [2] [Ob.arr true 4 (List.map datumC (List.map varD L))] (AV.sv (SV.agg [vI 0, vI 0, vS
 (ByteArray.mk #[]), AC.ref 0]))) .q)))) (by
  dsimp only [teasy, P_c_iVars, nthW, lc_iVarsLa]
  with_reducible repeat' (first | apply And.intro | exact zR | (intro; skip) | apply c_iVar)
  all_goals (try simp only [std, inj] at *)
  all_goals with_reducible repeat' apply And.intro
  all_goals (try (first | with_reducible apply c_iVar | (simp only [← List.map_append]; first | with_reducible apply c_iVar)))
  all_goals (try (first | exact z | grind [snocI, snocS, rowSnoc])))
abbrev P_c_iUnp (c : Core) : Ct := ⟨36, [], [coreA c], datumO (unpD c), .sv (datumR (unpD c) 0)⟩
def lc_iUnp_sLa (c : Core) : Lp Nat := .mk 86 0 (fun x => [(2, SV.one (AC.ptr 0 0)), (3, SV.one (AC.ref 1)), (72, ll (List.map coreC c.kids)), (73, li (↑(List.map coreC
 c.kids).length : Int)), (74, hs x 0)]) (fun x => [Ob.box [vI 0, vI 0, vS (ByteArray.mk #[]), AC.val (Cell.lit (Value.slice none 0 0))], ho x 1]) (fun k => [.s (li (↑k : Int)), .o
 (Ob.arr true 4 (List.map datumC (headU c.kind c.number c.params ++ List.map unpD (List.take k c.kids))))]) (fun k => k ≤ c.kids.length ∧ c.kids.length ≤ 9223372036854775807 ∧ okC
 c = true ∧ okV c = true) (fun k => c.kids.length - k) [.mk True (.exit 1) (fun x => [(2, SV.one (AC.ptr 0 0)), (3, SV.one (AC.ref 1))]) (fun x => [Ob.box [vI 0, vI 0, vS
 (ByteArray.mk #[]), AC.val (Cell.lit (Value.slice none 0 0))], ho x 0]) [.o (Ob.arr true 4 (List.map datumC (headU c.kind c.number c.params ++ List.map unpD c.kids)))]]
theorem Sc_iUnp_sLa (c : Core) (h : okC c = true ∧ okV c = true) (ih : ∀ (z : Core), z ∈ c.kids → okC z = true ∧ okV z = true → OK (P_c_iUnp z)) : Lp.Sem Tryz.prog (loopAt Tryz.f36
 0) (lc_iUnp_sLa c) := lpOK (fun k => .i ((↑k : Int) < (↑(List.map coreC c.kids).length : Int)) (.x (↑k : Int) (List.map coreC c.kids) (coreF (c.kids.getD k default)) (.d [.rd]
 (P_c_iUnp (c.kids.getD k default)) (.p (((List.map datumC (headU c.kind c.number c.params ++ List.map unpD (List.take k c.kids))).length + 1) * 56 ≤ 140737488355328) (.r ((↑k :
 Int) + 1) (.g [0, 5] (k + 1) [.s (li ((↑k : Int) + 1)), .o (Ob.arr true 4 (List.map datumC (headU c.kind c.number c.params ++ List.map unpD (List.take k c.kids)) ++ [datumF (unpD
 (c.kids.getD k default))]))]))))) (.o 0 [0, 1] [.o (Ob.arr true 4 (List.map datumC (headU c.kind c.number c.params ++ List.map unpD (List.take k c.kids))))])) (by
  intro k h; try dsimp only [teasy, nthW, lc_iUnp_sLa] at h ⊢
  have g1 := @okC_num c
  have g2 := headU_len c.kind c.number c.params
  have g3 := @okV_kid c
  have g4 := @okC_kid c
  with_reducible repeat' (first | apply And.intro | exact zR | exact ih | (intro; skip) | apply c_iVar | apply c_iVars | apply c_iCopyDatum | apply ih)
  all_goals (try simp only [std, inj] at *)
  all_goals with_reducible repeat' apply And.intro
  all_goals (try (first | with_reducible apply c_iVar | with_reducible apply c_iVars | with_reducible apply c_iCopyDatum | with_reducible apply ih | (simp only [← List.map_append]; first | with_reducible apply c_iVar | with_reducible apply c_iVars | with_reducible apply c_iCopyDatum | with_reducible apply ih)))
  all_goals (try (first | exact z | grind [take_get, getD_mem', snocI, snocS, rowSnoc, getD_mem'])))
theorem c_iUnp_s (c : Core) (h : okC c = true ∧ okV c = true) (ih : ∀ z ∈ c.kids, ∀ (h : okC z = true ∧ okV z = true), P_c_iUnp z)  : P_c_iUnp c := fnOK Tryz.call36 Tryz.func36 (let
 v1 := [Ob.arr true 4 (List.map datumC (headU c.kind c.number c.params ++ List.map unpD c.kids))]; let v2 := (AV.sv (SV.agg [vI 0, vI 0, vS (ByteArray.mk #[]), AC.ref 0])); let v3
 := (Sc_iUnp_sLa c h ih); let v4 := (primNames.getD c.number.toNat default); let v5 := (ByteArray.mk #[(108 : UInt8), (97 : UInt8), (109 : UInt8), (98 : UInt8), (100 : UInt8), (97
 : UInt8)]); let v6 := [cI 0, cI 0, cS (mkS []), Cell.list (List.map datumC (List.map varD c.params))]; let v7 := (ByteArray.mk #[(115 : UInt8), (104 : UInt8), (105 : UInt8), (102
 : UInt8), (116 : UInt8)]); let v8 := (ByteArray.mk #[(114 : UInt8), (101 : UInt8), (115 : UInt8), (101 : UInt8), (116 : UInt8)]); let v9 := (ByteArray.mk #[(113 : UInt8), (117 :
 UInt8), (111 : UInt8), (116 : UInt8), (101 : UInt8)]); let v10 := (ByteArray.mk #[(98 : UInt8), (101 : UInt8), (103 : UInt8), (105 : UInt8), (110 : UInt8)]); let v11 :=
 (ByteArray.mk #[(108 : UInt8), (111 : UInt8), (99 : UInt8), (97 : UInt8), (108 : UInt8)]); .i (c.kind = 1) (.w (.draw [(4, [10]), (6, [1])]) (.c [.rd] (c_iSymbolOf v9) (.d [.rd]
 (P_c_iCopyDatum c.datum) (.f [18] [Ob.arr true 4 [[cI 1, cI 0, cS v9, Cell.list []], datumF c.datum]] v2)))) (.i (c.kind = 2) (.d [.rd] (P_c_iVar c.number) (.w (.ghost (.nilbox 1
 3 true 4)) (.f [2] [Ob.arr true 4 []] (AV.sv (SV.agg [vI 1, vI 0, vS (varT c.number), AC.ref 0]))))) (.i (c.kind = 3) (.w (.draw [(6, [1])]) (.c [] c_iPrimitiveNames (.p (0 ≤
 c.number ∧ c.number.toNat < 14) (.w (.cells (strC v4)) (.p ((List.map strC primNames)[c.number.toNat]? = some [cS v4]) (.c [.rd] (c_iSymbolOf v4) (.w (.ghost (.nilbox 1 3 true 4))
 (.f [3] [Ob.arr true 4 []] (AV.sv (SV.agg [vI 1, vI 0, vS v4, AC.ref 0])))))))))) (.i (c.kind = 4) (.w (.draw []) (.c [.rd] (c_iSymbolOf (ByteArray.mk #[(115 : UInt8), (101 :
 UInt8), (116 : UInt8), (33 : UInt8)])) (.d [.rd] (P_c_iVar c.number) (.z coreC c.kids (.l (lc_iUnp_sLa c) v3 [1, 18] [.s (li 0), .o (Ob.arr true 4 [[cI 1, cI 0, cS (ByteArray.mk
 #[(115 : UInt8), (101 : UInt8), (116 : UInt8), (33 : UInt8)]), Cell.list []], [cI 1, cI 0, cS (varT c.number), Cell.list []]])] 0 (.t (.f [1] v1 v2) .q)))))) (.i (c.kind = 5) (.w
 (.draw [(4, [10])]) (.c [.rd] (c_iSymbolOf v5) (.d [.rd] (P_c_iVars c.params) (.z coreC c.kids (.l (lc_iUnp_sLa c) v3 [1, 18] [.s (li 0), .o (Ob.arr true 4 [[cI 1, cI 0, cS v5,
 Cell.list []], v6])] 0 (.t (.f [1] v1 v2) .q)))))) (.i (c.kind = 7) (.c [.rd] (c_iSymbolOf (ByteArray.mk #[(105 : UInt8), (102 : UInt8)])) (.z coreC c.kids (.l (lc_iUnp_sLa c) v3
 [1, 2] [.s (li 0), .o (Ob.arr true 4 [[cI 1, cI 0, cS (ByteArray.mk #[(105 : UInt8), (102 : UInt8)]), Cell.list []]])] 0 (.t (.f [1] v1 v2) .q)))) (.i (c.kind = 8) (.c [.rd]
 (c_iSymbolOf v10) (.z coreC c.kids (.l (lc_iUnp_sLa c) v3 [1, 2] [.s (li 0), .o (Ob.arr true 4 [[cI 1, cI 0, cS v10, Cell.list []]])] 0 (.t (.f [1] v1 v2) .q)))) (.i (c.kind = 9)
 (.w (.draw [(4, [10])]) (.c [.rd] (c_iSymbolOf v11) (.d [.rd] (P_c_iVars c.params) (.z coreC c.kids (.l (lc_iUnp_sLa c) v3 [1, 18] [.s (li 0), .o (Ob.arr true 4 [[cI 1, cI 0, cS
 v11, Cell.list []], v6])] 0 (.t (.f [1] v1 v2) .q)))))) (.i (c.kind = 10) (.c [.rd] (c_iSymbolOf v8) (.z coreC c.kids (.l (lc_iUnp_sLa c) v3 [1, 2] [.s (li 0), .o (Ob.arr true 4
 [[cI 1, cI 0, cS v8, Cell.list []]])] 0 (.t (.f [1] v1 v2) .q)))) (.i (c.kind = 11) (.w (.draw []) (.c [.rd] (c_iSymbolOf v7) (.w (.cells (intC (c.params.getD 0 default))) (.p ((0
 : Int) ≤ 0 ∧ (List.map intC c.params)[0]? = some [cI (c.params.getD 0 0)]) (.d [.rd] (P_c_iVar (c.params.getD 0 0)) (.z coreC c.kids (.l (lc_iUnp_sLa c) v3 [1, 18] [.s (li 0), .o
 (Ob.arr true 4 [[cI 1, cI 0, cS v7, Cell.list []], [cI 1, cI 0, cS (varT (c.params.getD 0 0)), Cell.list []]])] 0 (.t (.f [1] v1 v2) .q)))))))) (.z coreC c.kids (.w (.ghost
 (.nilreg 3 true 4)) (.l (lc_iUnp_sLa c) v3 [1, 2] [.s (li 0), .o (Ob.arr true 4 [])] 0 (.t (.f [1] v1 v2) .q)))))))))))))) (by
  dsimp only [teasy, P_c_iUnp, nthW, lc_iUnp_sLa]
  have g1 := @okC_num c
  have g2 := okV_eq c
  have g3 := okC_eq c
  have g4 := @unpD_1 c
  have g5 := @unpD_2 c
  have g6 := @unpD_3 c
  have g7 := @unpD_4 c
  have g8 := wrd_sym
  have g9 := prim_sym c.number.toNat
  have g10 := @prim_at c.number.toNat
  have g11 := @unp_row1 c
  have g12 := @head_row4 c
  have g14 := @head_row5 c
  have g15 := @head_row9 c
  have g16 := @head_row7 c
  have g17 := @head_row8 c
  have g18 := @head_row10 c
  have g19 := @head_row11 c
  have g20 := @par_11 c
  have g13 : isSym (mkS [113, 117, 111, 116, 101]) = true := wrd_sym.1
  with_reducible repeat' (first | apply And.intro | exact zR | exact ih | (intro; skip) | apply c_iVar | apply c_iVars | apply c_iCopyDatum)
  all_goals (try simp only [std, inj] at *)
  all_goals with_reducible repeat' apply And.intro
  all_goals (try (first | with_reducible apply c_iVar | with_reducible apply c_iVars | with_reducible apply c_iCopyDatum | with_reducible apply ih | (simp only [← List.map_append]; first | with_reducible apply c_iVar | with_reducible apply c_iVars | with_reducible apply c_iCopyDatum | with_reducible apply ih)))
  all_goals (try (first | exact z | grind [shI, shC, headU, symD, lstD, varD, snocI, snocS, rowSnoc])))
theorem c_iUnp (c : Core) : ∀ (h : okC c = true ∧ okV c = true), P_c_iUnp c := Core.ind (P := fun c => ∀ (h : okC c = true ∧ okV c = true), P_c_iUnp c) (fun c ih h => c_iUnp_s c h ih) c
end Go.Proofs.YtgeegppaaggcjaaGreatDoor
end
