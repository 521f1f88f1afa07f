/- Part 2 of the proof: The program's FormatRules returns what the reference's returns, for all arguments. No condition. -/
import Derived.Test.YtclpofblehlojaaGreatDoorFmR1
import Derived.Lib.AtoiErr
import Derived.Shelf.Strconv.Itoa3
section
namespace Go.Proofs.YtclpofblehlojaaGreatDoor
open Go Go.Proofs.YtclpofblehlojaaGreatDoor.Ab
set_option linter.unusedVariables false
set_option linter.unusedSimpArgs false
set_option maxHeartbeats 4000000
theorem all_stop {L : List UInt8} {p : UInt8 → Bool} {k : Nat} (h : k < L.length) (hp : p (L.getD k 0) = false) : L.all p = false := by
  rw [List.all_eq_false]
  have e : L.getD k 0 = L[k] := by simp [h]
  exact ⟨L[k], List.getElem_mem h, by rw [← e, hp]; decide⟩
theorem all_go {L : List UInt8} {p : UInt8 → Bool} {k : Nat} (h : k < L.length) (hp : p (L.getD k 0) = true) (ht : (L.take k).all p = true) : (L.take (k + 1)).all p = true := by
  rw [take0 h, List.all_append, ht, List.all_cons, hp]; rfl
theorem all_all {L : List UInt8} {p : UInt8 → Bool} {k : Nat} (h : L.length ≤ k) (ht : (L.take k).all p = true) : L.all p = true := by
  rwa [List.take_of_length_le h] at ht
def lu (n : Int) : SV := .one (.val (.lit (.int .u8 n)))
def isDig (n : Int) : Bool := decide (48 ≤ n ∧ n ≤ 57)
def markI : List Int := [33, 63, 42, 60, 62, 61, 47, 43, 45, 46, 95]
def isMk (n : Int) : Bool := decide (97 ≤ n ∧ n ≤ 122) || isDig n || decide (n ∈ markI)
theorem mark_at {k : Nat} (h : k < 11) : ((([33, 63, 42, 60, 62, 61, 47, 43, 45, 46, 95] : List UInt8).getD k 0).toNat : Int) = markI.getD k default := by
  have : ∀ k, k < 11 → ((([33, 63, 42, 60, 62, 61, 47, 43, 45, 46, 95] : List UInt8).getD k 0).toNat : Int) = markI.getD k default := by decide
  exact this k h
def isStB (n : Int) : Bool := decide (32 ≤ n ∧ n ≤ 126 ∧ n ≠ 34)
def isSym (s : ByteArray) : Bool := decide (1 ≤ (s.size : Int) ∧ (s.size : Int) ≤ 16) && !isDig (s.data.toList.getD 0 0).toNat && !(decide (((s.data.toList.getD 0 0).toNat : Int) = 45) && decide (1 < (s.size : Int)) && isDig (s.data.toList.getD 1 0).toNat) && s.data.toList.all fun b => isMk b.toNat
def isStr (s : ByteArray) : Bool := decide ((s.size : Int) ≤ 20) && s.data.toList.all fun b => isStB b.toNat
abbrev P_c_sDigit (n : Int) : Ct := ⟨191, [], [lu n], [], .sv (lb (isDig n))⟩
theorem c_sDigit (n : Int)  : P_c_sDigit n := fnOK Tryz.call191 Tryz.func191 (.i (48 ≤ n) (.s (lb (decide (n ≤ 57)))) (.s (lb false))) (by
  dsimp only [teasy, P_c_sDigit]
  with_reducible repeat' (first | apply And.intro | exact zR | (intro; skip))
  all_goals (try simp only [std, inj] at *)
  all_goals with_reducible repeat' apply And.intro
  all_goals (try (first | exact z | grind [isDig, snocI, snocS, rowSnoc])))
abbrev P_c_iDigit (n : Int) : Ct := ⟨225, [], [lu n], [], .sv (lb (isDig n))⟩
theorem c_iDigit (n : Int)  : P_c_iDigit n := fnOK Tryz.call225 Tryz.func225 (.i (48 ≤ n) (.s (lb (decide (n ≤ 57)))) (.s (lb false))) (by
  dsimp only [teasy, P_c_iDigit]
  with_reducible repeat' (first | apply And.intro | exact zR | (intro; skip))
  all_goals (try simp only [std, inj] at *)
  all_goals with_reducible repeat' apply And.intro
  all_goals (try (first | exact z | grind [isDig, snocI, snocS, rowSnoc])))
abbrev P_c_sMark (n : Int) : Ct := ⟨192, [], [lu n], [], .sv (lb (isMk n))⟩
def lc_sMarkLa (n : Int) : Lp Nat := .mk 26 0 (fun x => [(0, SV.one (AC.val (Cell.lit (Value.int IntKind.u8 n)))), (3, ls (ByteArray.mk #[(33 : UInt8), (63 : UInt8), (42 : UInt8),
 (60 : UInt8), (62 : UInt8), (61 : UInt8), (47 : UInt8), (43 : UInt8), (45 : UInt8), (46 : UInt8), (95 : UInt8)])), (4, hs x 0)]) (fun x => []) (fun k => [.s (li (↑k : Int))]) (fun
 k => k ≤ 11 ∧ ¬n ∈ List.take k markI) (fun k => 11 - k) [.mk (decide (n ∈ markI) = false) (.exit 0) (fun x => []) (fun x => []) [], .mk (decide (n ∈ markI) = true) .ret (fun x =>
 [(2, hs x 0)]) (fun x => []) [.s (lb true)]]
theorem Sc_sMarkLa (n : Int) : Lp.Sem Tryz.prog (loopAt Tryz.f192 0) (lc_sMarkLa n) := lpOK (fun k => .h (11 ≤ 9223372036854775807) (.i ((↑k : Int) < 11) (.p (0 ≤ (↑k : Int) ∧ (↑k
 : Int).toNat < 11) (.i ((↑([(33 : UInt8), (63 : UInt8), (42 : UInt8), (60 : UInt8), (62 : UInt8), (61 : UInt8), (47 : UInt8), (43 : UInt8), (45 : UInt8), (46 : UInt8), (95 :
 UInt8)].getD (↑k : Int).toNat (0 : UInt8)).toNat : Int) = n) (.o 1 [] [.s (lb true)]) (.r ((↑k : Int) + 1) (.g [] (k + 1) [.s (li ((↑k : Int) + 1))])))) (.o 0 [] []))) (by
  intro k h; try dsimp only [teasy, nthW, lc_sMarkLa] at h ⊢
  have g := @mark_at k
  have e : markI.length = 11 := rfl
  have e2 : markI.take 11 = markI := rfl
  with_reducible repeat' (first | apply And.intro | exact zR | (intro; skip))
  all_goals (try simp only [std, inj] at *)
  all_goals with_reducible repeat' apply And.intro
  all_goals (try (first | exact z | grind [take_get, getD_mem', snocI, snocS, rowSnoc])))
theorem c_sMark (n : Int)  : P_c_sMark n := fnOK Tryz.call192 Tryz.func192 (.i (97 ≤ n) (.i (n ≤ 122) (.y true (.s (lb true))) (.c [.rd] (c_sDigit n) (.b (isDig n) (.s (lb true)) (.l
 (lc_sMarkLa n) (Sc_sMarkLa n) [] [.s (li 0)] 0 (.t (.s (lb false)) (.t (.s (lb true)) .q)))))) (.y false (.c [.rd] (c_sDigit n) (.b (isDig n) (.s (lb true)) (.l (lc_sMarkLa n)
 (Sc_sMarkLa n) [] [.s (li 0)] 0 (.t (.s (lb false)) (.t (.s (lb true)) .q))))))) (by
  dsimp only [teasy, P_c_sMark, nthW, lc_sMarkLa]
  with_reducible repeat' (first | apply And.intro | exact zR | (intro; skip))
  all_goals (try simp only [std, inj] at *)
  all_goals with_reducible repeat' apply And.intro
  all_goals (try (first | exact z | grind [isMk, snocI, snocS, rowSnoc])))
abbrev P_c_iMark (n : Int) : Ct := ⟨226, [], [lu n], [], .sv (lb (isMk n))⟩
theorem c_iMark (n : Int)  : P_c_iMark n := fnOK Tryz.call226 Tryz.func226 (.i (97 ≤ n) (.i (n ≤ 122) (.y true (.s (lb true))) (.i (48 ≤ n) (.i (n ≤ 57) (.s (lb true)) (.i (n = 33)
 (.y true (.s (lb true))) (.i (n = 63) (.y true (.s (lb true))) (.i (n = 42) (.y true (.s (lb true))) (.i (n = 60) (.y true (.s (lb true))) (.i (n = 62) (.y true (.s (lb true)))
 (.i (n = 61) (.y true (.s (lb true))) (.i (n = 47) (.y true (.s (lb true))) (.i (n = 43) (.y true (.s (lb true))) (.i (n = 45) (.y true (.s (lb true))) (.i (n = 46) (.y true (.s
 (lb true))) (.i (n = 95) (.s (lb true)) (.s (lb false)))))))))))))) (.y false (.i (n = 33) (.y true (.s (lb true))) (.i (n = 63) (.y true (.s (lb true))) (.i (n = 42) (.y true (.s
 (lb true))) (.i (n = 60) (.y true (.s (lb true))) (.i (n = 62) (.y true (.s (lb true))) (.i (n = 61) (.y true (.s (lb true))) (.i (n = 47) (.y true (.s (lb true))) (.i (n = 43)
 (.y true (.s (lb true))) (.i (n = 45) (.y true (.s (lb true))) (.i (n = 46) (.y true (.s (lb true))) (.i (n = 95) (.s (lb true)) (.s (lb false)))))))))))))))) (.y false (.i (48 ≤
 n) (.i (n ≤ 57) (.s (lb true)) (.i (n = 33) (.y true (.s (lb true))) (.i (n = 63) (.y true (.s (lb true))) (.i (n = 42) (.y true (.s (lb true))) (.i (n = 60) (.y true (.s (lb
 true))) (.i (n = 62) (.y true (.s (lb true))) (.i (n = 61) (.y true (.s (lb true))) (.i (n = 47) (.y true (.s (lb true))) (.i (n = 43) (.y true (.s (lb true))) (.i (n = 45) (.y
 true (.s (lb true))) (.i (n = 46) (.y true (.s (lb true))) (.i (n = 95) (.s (lb true)) (.s (lb false)))))))))))))) (.y false (.i (n = 33) (.y true (.s (lb true))) (.i (n = 63) (.y
 true (.s (lb true))) (.i (n = 42) (.y true (.s (lb true))) (.i (n = 60) (.y true (.s (lb true))) (.i (n = 62) (.y true (.s (lb true))) (.i (n = 61) (.y true (.s (lb true))) (.i (n
 = 47) (.y true (.s (lb true))) (.i (n = 43) (.y true (.s (lb true))) (.i (n = 45) (.y true (.s (lb true))) (.i (n = 46) (.y true (.s (lb true))) (.i (n = 95) (.s (lb true)) (.s
 (lb false))))))))))))))))) (by
  dsimp only [teasy, P_c_iMark]
  with_reducible repeat' (first | apply And.intro | exact zR | (intro; skip))
  all_goals (try simp only [std, inj] at *)
  all_goals with_reducible repeat' apply And.intro
  all_goals (try (first | exact z | grind [snocI, snocS, rowSnoc]))
  all_goals (symm; simp only [isMk, isDig, markI, List.mem_cons, List.not_mem_nil, Bool.or_eq_true, Bool.or_eq_false_iff, decide_eq_true_eq, decide_eq_false_iff_not, or_false]; omega))
abbrev P_c_l1In (x : Int) (a : Int) (b : Int) : Ct := ⟨53, [], [li x, li a, li b], [], .sv (lb (decide (a ≤ x ∧ x ≤ b)))⟩
theorem c_l1In (x a b : Int)  : P_c_l1In x a b := fnOK Tryz.call53 Tryz.func53 (.i (a ≤ x) (.s (lb (decide (x ≤ b)))) (.s (lb false))) (by
  dsimp only [teasy, P_c_l1In]
  with_reducible repeat' (first | apply And.intro | exact zR | (intro; skip))
  all_goals (try simp only [std, inj] at *)
  all_goals with_reducible repeat' apply And.intro
  all_goals (try (first | exact z | grind [snocI, snocS, rowSnoc])))
abbrev P_c_sIsSymbol (s : ByteArray) : Ct := ⟨146, [], [ls s], [], .sv (lb (isSym s))⟩
def lc_sIsSymbolLa (s : ByteArray) : Lp Nat := .mk 39 0 (fun x => [(0, ls s), (3, hs x 0)]) (fun x => []) (fun k => [.s (li (↑k : Int))]) (fun k => k ≤ s.size ∧ s.size ≤ 16 ∧
 ((List.take k s.data.toList).all fun b => isMk (↑b.toNat : Int)) = true) (fun k => s.size - k) [.mk ((s.data.toList.all fun b => isMk (↑b.toNat : Int)) = true) (.exit 0) (fun x =>
 []) (fun x => []) [], .mk ((s.data.toList.all fun b => isMk (↑b.toNat : Int)) = false) .ret (fun x => [(2, hs x 0)]) (fun x => []) [.s (lb false)]]
theorem Sc_sIsSymbolLa (s : ByteArray) : Lp.Sem Tryz.prog (loopAt Tryz.f146 0) (lc_sIsSymbolLa s) := lpOK (fun k => .h (s.data.toList.length ≤ 9223372036854775807) (.i ((↑k : Int)
 < (↑s.data.toList.length : Int)) (.p (0 ≤ (↑k : Int) ∧ (↑k : Int).toNat < s.data.toList.length) (.c [.rd] (c_sMark (↑(s.data.toList.getD (↑k : Int).toNat (0 : UInt8)).toNat :
 Int)) (.b (!isMk (↑(s.data.toList.getD (↑k : Int).toNat (0 : UInt8)).toNat : Int)) (.o 1 [] [.s (lb false)]) (.r ((↑k : Int) + 1) (.g [] (k + 1) [.s (li ((↑k : Int) + 1))])))))
 (.o 0 [] []))) (by
  intro k h; try dsimp only [teasy, nthW, lc_sIsSymbolLa] at h ⊢
  have g1 := @all_stop s.data.toList (fun b => isMk b.toNat) k
  have g2 := @all_go s.data.toList (fun b => isMk b.toNat) k
  have g3 := @all_all s.data.toList (fun b => isMk b.toNat) k
  with_reducible repeat' (first | apply And.intro | exact zR | (intro; skip))
  all_goals (try simp only [std, inj] at *)
  all_goals with_reducible repeat' apply And.intro
  all_goals (try (first | exact z | grind [snocI, snocS, rowSnoc])))
theorem c_sIsSymbol (s : ByteArray)  : P_c_sIsSymbol s := fnOK Tryz.call146 Tryz.func146 (.h (s.data.toList.length ≤ 9223372036854775807) (.c [.rd, .rd, .rd] (c_l1In
 (↑s.data.toList.length : Int) 1 16) (.b (!decide (1 ≤ (↑s.data.toList.length : Int) ∧ (↑s.data.toList.length : Int) ≤ 16)) (.y true (.y true (.s (lb false)))) (.p ((0 : Int) ≤ 0 ∧
 0 < s.data.toList.length) (.c [.rd] (c_sDigit (↑(s.data.toList.getD 0 (0 : UInt8)).toNat : Int)) (.b (isDig (↑(s.data.toList.getD 0 (0 : UInt8)).toNat : Int)) (.y true (.s (lb
 false))) (.p ((0 : Int) ≤ 0 ∧ 0 < s.data.toList.length) (.i ((↑(s.data.toList.getD 0 (0 : UInt8)).toNat : Int) = 45) (.h (s.data.toList.length ≤ 9223372036854775807) (.i (1 <
 (↑s.data.toList.length : Int)) (.p ((0 : Int) ≤ 1 ∧ 1 < s.data.toList.length) (.c [.rd] (c_sDigit (↑(s.data.toList.getD 1 (0 : UInt8)).toNat : Int)) (.b (isDig
 (↑(s.data.toList.getD 1 (0 : UInt8)).toNat : Int)) (.s (lb false)) (.l (lc_sIsSymbolLa s) (Sc_sIsSymbolLa s) [] [.s (li 0)] 0 (.t (.s (lb true)) (.t (.s (lb false)) .q)))))) (.y
 false (.l (lc_sIsSymbolLa s) (Sc_sIsSymbolLa s) [] [.s (li 0)] 0 (.t (.s (lb true)) (.t (.s (lb false)) .q)))))) (.y false (.y false (.l (lc_sIsSymbolLa s) (Sc_sIsSymbolLa s) []
 [.s (li 0)] 0 (.t (.s (lb true)) (.t (.s (lb false)) .q))))))))))))) (by
  dsimp only [teasy, P_c_sIsSymbol, nthW, lc_sIsSymbolLa]
  with_reducible repeat' (first | apply And.intro | exact zR | (intro; skip))
  all_goals (try simp only [std, inj] at *)
  all_goals with_reducible repeat' apply And.intro
  all_goals (try (first | exact z | grind [isSym, snocI, snocS, rowSnoc])))
abbrev P_c_iIsSymbol (s : ByteArray) : Ct := ⟨199, [], [ls s], [], .sv (lb (isSym s))⟩
def lc_iIsSymbolLa (s : ByteArray) : Lp Nat := .mk 43 0 (fun x => [(0, ls s), (3, hs x 0)]) (fun x => []) (fun k => [.s (li (↑k : Int))]) (fun k => k ≤ s.size ∧ s.size ≤ 16 ∧
 ((List.take k s.data.toList).all fun b => isMk (↑b.toNat : Int)) = true) (fun k => s.size - k) [.mk ((s.data.toList.all fun b => isMk (↑b.toNat : Int)) = true) (.exit 0) (fun x =>
 []) (fun x => []) [], .mk ((s.data.toList.all fun b => isMk (↑b.toNat : Int)) = false) .ret (fun x => [(2, hs x 0)]) (fun x => []) [.s (lb false)]]
theorem Sc_iIsSymbolLa (s : ByteArray) : Lp.Sem Tryz.prog (loopAt Tryz.f199 0) (lc_iIsSymbolLa s) := lpOK (fun k => .h (s.data.toList.length ≤ 9223372036854775807) (.i ((↑k : Int)
 < (↑s.data.toList.length : Int)) (.p (0 ≤ (↑k : Int) ∧ (↑k : Int).toNat < s.data.toList.length) (.c [.rd] (c_iMark (↑(s.data.toList.getD (↑k : Int).toNat (0 : UInt8)).toNat :
 Int)) (.b (!isMk (↑(s.data.toList.getD (↑k : Int).toNat (0 : UInt8)).toNat : Int)) (.o 1 [] [.s (lb false)]) (.r ((↑k : Int) + 1) (.g [] (k + 1) [.s (li ((↑k : Int) + 1))])))))
 (.o 0 [] []))) (by
  intro k h; try dsimp only [teasy, nthW, lc_iIsSymbolLa] at h ⊢
  have g1 := @all_stop s.data.toList (fun b => isMk b.toNat) k
  have g2 := @all_go s.data.toList (fun b => isMk b.toNat) k
  have g3 := @all_all s.data.toList (fun b => isMk b.toNat) k
  with_reducible repeat' (first | apply And.intro | exact zR | (intro; skip))
  all_goals (try simp only [std, inj] at *)
  all_goals with_reducible repeat' apply And.intro
  all_goals (try (first | exact z | grind [snocI, snocS, rowSnoc])))
theorem c_iIsSymbol (s : ByteArray)  : P_c_iIsSymbol s := fnOK Tryz.call199 Tryz.func199 (.h (s.data.toList.length ≤ 9223372036854775807) (.i ((↑s.data.toList.length : Int) < 1) (.y
 true (.y true (.y true (.s (lb false))))) (.h (s.data.toList.length ≤ 9223372036854775807) (.i (16 < (↑s.data.toList.length : Int)) (.y true (.y true (.s (lb false)))) (.p ((0 :
 Int) ≤ 0 ∧ 0 < s.data.toList.length) (.c [.rd] (c_iDigit (↑(s.data.toList.getD 0 (0 : UInt8)).toNat : Int)) (.b (isDig (↑(s.data.toList.getD 0 (0 : UInt8)).toNat : Int)) (.y true
 (.s (lb false))) (.p ((0 : Int) ≤ 0 ∧ 0 < s.data.toList.length) (.i ((↑(s.data.toList.getD 0 (0 : UInt8)).toNat : Int) = 45) (.h (s.data.toList.length ≤ 9223372036854775807) (.i
 (1 < (↑s.data.toList.length : Int)) (.p ((0 : Int) ≤ 1 ∧ 1 < s.data.toList.length) (.c [.rd] (c_iDigit (↑(s.data.toList.getD 1 (0 : UInt8)).toNat : Int)) (.b (isDig
 (↑(s.data.toList.getD 1 (0 : UInt8)).toNat : Int)) (.s (lb false)) (.l (lc_iIsSymbolLa s) (Sc_iIsSymbolLa s) [] [.s (li 0)] 0 (.t (.s (lb true)) (.t (.s (lb false)) .q)))))) (.y
 false (.l (lc_iIsSymbolLa s) (Sc_iIsSymbolLa s) [] [.s (li 0)] 0 (.t (.s (lb true)) (.t (.s (lb false)) .q)))))) (.y false (.y false (.l (lc_iIsSymbolLa s) (Sc_iIsSymbolLa s) []
 [.s (li 0)] 0 (.t (.s (lb true)) (.t (.s (lb false)) .q)))))))))))))) (by
  dsimp only [teasy, P_c_iIsSymbol, nthW, lc_iIsSymbolLa]
  with_reducible repeat' (first | apply And.intro | exact zR | (intro; skip))
  all_goals (try simp only [std, inj] at *)
  all_goals with_reducible repeat' apply And.intro
  all_goals (try (first | exact z | grind [isSym, snocI, snocS, rowSnoc])))
abbrev P_c_sString (s : ByteArray) : Ct := ⟨185, [], [ls s], [], .sv (lb (isStr s))⟩
def lc_sStringLa (s : ByteArray) : Lp Nat := .mk 29 0 (fun x => [(0, ls s), (3, hs x 0)]) (fun x => []) (fun k => [.s (li (↑k : Int))]) (fun k => k ≤ s.size ∧ ((List.take k
 s.data.toList).all fun b => isStB (↑b.toNat : Int)) = true) (fun k => s.size - k) [.mk ((s.data.toList.all fun b => isStB (↑b.toNat : Int)) = true) (.exit 0) (fun x => [(0, ls
 s)]) (fun x => []) [], .mk ((s.data.toList.all fun b => isStB (↑b.toNat : Int)) = false) .ret (fun x => [(2, hs x 0)]) (fun x => []) [.s (lb false)]]
theorem Sc_sStringLa (s : ByteArray) : Lp.Sem Tryz.prog (loopAt Tryz.f185 0) (lc_sStringLa s) := lpOK (fun k => .h (s.data.toList.length ≤ 9223372036854775807) (.i ((↑k : Int) <
 (↑s.data.toList.length : Int)) (.p (0 ≤ (↑k : Int) ∧ (↑k : Int).toNat < s.data.toList.length) (.i ((↑(s.data.toList.getD (↑k : Int).toNat (0 : UInt8)).toNat : Int) < 32) (.y true
 (.y true (.o 1 [] [.s (lb false)]))) (.p (0 ≤ (↑k : Int) ∧ (↑k : Int).toNat < s.data.toList.length) (.i (126 < (↑(s.data.toList.getD (↑k : Int).toNat (0 : UInt8)).toNat : Int))
 (.y true (.o 1 [] [.s (lb false)])) (.p (0 ≤ (↑k : Int) ∧ (↑k : Int).toNat < s.data.toList.length) (.i ((↑(s.data.toList.getD (↑k : Int).toNat (0 : UInt8)).toNat : Int) = 34) (.o
 1 [] [.s (lb false)]) (.r ((↑k : Int) + 1) (.g [] (k + 1) [.s (li ((↑k : Int) + 1))])))))))) (.o 0 [] []))) (by
  intro k h; try dsimp only [teasy, nthW, lc_sStringLa] at h ⊢
  have g1 := @all_stop s.data.toList (fun b => isStB b.toNat) k
  have g2 := @all_go s.data.toList (fun b => isStB b.toNat) k
  have g3 := @all_all s.data.toList (fun b => isStB b.toNat) k
  with_reducible repeat' (first | apply And.intro | exact zR | (intro; skip))
  all_goals (try simp only [std, inj] at *)
  all_goals with_reducible repeat' apply And.intro
  all_goals (try (first | exact z | grind [isStB, snocI, snocS, rowSnoc])))
theorem c_sString (s : ByteArray)  : P_c_sString s := fnOK Tryz.call185 Tryz.func185 (.l (lc_sStringLa s) (Sc_sStringLa s) [] [.s (li 0)] 0 (.t (.h (s.data.toList.length ≤
 9223372036854775807) (.s (lb (decide ((↑s.data.toList.length : Int) ≤ 20))))) (.t (.s (lb false)) .q))) (by
  dsimp only [teasy, P_c_sString, nthW, lc_sStringLa]
  with_reducible repeat' (first | apply And.intro | exact zR | (intro; skip))
  all_goals (try simp only [std, inj] at *)
  all_goals with_reducible repeat' apply And.intro
  all_goals (try (first | exact z | grind [isStr, snocI, snocS, rowSnoc])))
abbrev P_c_iString (s : ByteArray) : Ct := ⟨200, [], [ls s], [], .sv (lb (isStr s))⟩
def lc_iStringLa (s : ByteArray) : Lp Nat := .mk 29 0 (fun x => [(0, ls s), (3, hs x 0)]) (fun x => []) (fun k => [.s (li (↑k : Int))]) (fun k => k ≤ s.size ∧ ((List.take k
 s.data.toList).all fun b => isStB (↑b.toNat : Int)) = true) (fun k => s.size - k) [.mk ((s.data.toList.all fun b => isStB (↑b.toNat : Int)) = true) (.exit 0) (fun x => []) (fun x
 => []) [], .mk ((s.data.toList.all fun b => isStB (↑b.toNat : Int)) = false) .ret (fun x => [(2, hs x 0)]) (fun x => []) [.s (lb false)]]
theorem Sc_iStringLa (s : ByteArray) : Lp.Sem Tryz.prog (loopAt Tryz.f200 0) (lc_iStringLa s) := lpOK (fun k => .h (s.data.toList.length ≤ 9223372036854775807) (.i ((↑k : Int) <
 (↑s.data.toList.length : Int)) (.p (0 ≤ (↑k : Int) ∧ (↑k : Int).toNat < s.data.toList.length) (.i ((↑(s.data.toList.getD (↑k : Int).toNat (0 : UInt8)).toNat : Int) < 32) (.y true
 (.y true (.o 1 [] [.s (lb false)]))) (.p (0 ≤ (↑k : Int) ∧ (↑k : Int).toNat < s.data.toList.length) (.i (126 < (↑(s.data.toList.getD (↑k : Int).toNat (0 : UInt8)).toNat : Int))
 (.y true (.o 1 [] [.s (lb false)])) (.p (0 ≤ (↑k : Int) ∧ (↑k : Int).toNat < s.data.toList.length) (.i ((↑(s.data.toList.getD (↑k : Int).toNat (0 : UInt8)).toNat : Int) = 34) (.o
 1 [] [.s (lb false)]) (.r ((↑k : Int) + 1) (.g [] (k + 1) [.s (li ((↑k : Int) + 1))])))))))) (.o 0 [] []))) (by
  intro k h; try dsimp only [teasy, nthW, lc_iStringLa] at h ⊢
  have g1 := @all_stop s.data.toList (fun b => isStB b.toNat) k
  have g2 := @all_go s.data.toList (fun b => isStB b.toNat) k
  have g3 := @all_all s.data.toList (fun b => isStB b.toNat) k
  with_reducible repeat' (first | apply And.intro | exact zR | (intro; skip))
  all_goals (try simp only [std, inj] at *)
  all_goals with_reducible repeat' apply And.intro
  all_goals (try (first | exact z | grind [isStB, snocI, snocS, rowSnoc])))
theorem c_iString (s : ByteArray)  : P_c_iString s := fnOK Tryz.call200 Tryz.func200 (.h (s.data.toList.length ≤ 9223372036854775807) (.i (20 < (↑s.data.toList.length : Int)) (.s (lb
 false)) (.l (lc_iStringLa s) (Sc_iStringLa s) [] [.s (li 0)] 0 (.t (.s (lb true)) (.t (.s (lb false)) .q))))) (by
  dsimp only [teasy, P_c_iString, nthW, lc_iStringLa]
  with_reducible repeat' (first | apply And.intro | exact zR | (intro; skip))
  all_goals (try simp only [std, inj] at *)
  all_goals with_reducible repeat' apply And.intro
  all_goals (try (first | exact z | grind [isStr, snocI, snocS, rowSnoc])))
def nodD (k n : Int) (t : ByteArray) (i : Int) : Bool := decide (k = 0 ∧ n = 0 ∧ t.data.toList = []) || decide (k = 1 ∧ n = 0 ∧ isSym t = true ∧ i = 0) || decide (k = 2 ∧ -999999999 ≤ n ∧ n ≤ 999999999 ∧ t.data.toList = [] ∧ i = 0) || decide (k = 3 ∧ 0 ≤ n ∧ n ≤ 1 ∧ t.data.toList = [] ∧ i = 0) || decide (k = 4 ∧ n = 0 ∧ isStr t = true ∧ i = 0)
abbrev P_c_sNode (k : Int) (n : Int) (t : ByteArray) (i : Int) : Ct := ⟨152, [], [li k, li n, ls t, li i], [], .sv (lb (nodD k n t i))⟩
theorem c_sNode (k n : Int) (t : ByteArray) (i : Int)  : P_c_sNode k n t i := fnOK Tryz.call152 Tryz.func152 (.i (k = 0) (.i (n = 0) (.s (lb (decide (t.data.toList = [])))) (.s (lb
 false))) (.i (k = 1) (.i (n = 0) (.c [.rd] (c_sIsSymbol t) (.b (isSym t) (.s (lb (decide (i = 0)))) (.s (lb false)))) (.y false (.s (lb false)))) (.i (k = 2) (.c [.rd, .rd, .rd]
 (c_l1In n (-999999999 : Int) 999999999) (.i ((-999999999 : Int) ≤ n ∧ n ≤ 999999999) (.i (t.data.toList = []) (.s (lb (decide (i = 0)))) (.s (lb false))) (.y false (.s (lb
 false))))) (.i (k = 3) (.c [.rd, .rd, .rd] (c_l1In n 0 1) (.i (0 ≤ n ∧ n ≤ 1) (.i (t.data.toList = []) (.s (lb (decide (i = 0)))) (.s (lb false))) (.y false (.s (lb false))))) (.i
 (k = 4) (.i (n = 0) (.c [.rd] (c_sString t) (.b (isStr t) (.s (lb (decide (i = 0)))) (.s (lb false)))) (.y false (.s (lb false)))) (.s (lb false))))))) (by
  dsimp only [teasy, P_c_sNode]
  with_reducible repeat' (first | apply And.intro | exact zR | (intro; skip))
  all_goals (try simp only [std, inj] at *)
  all_goals with_reducible repeat' apply And.intro
  all_goals (try (first | exact z | grind [nodD, snocI, snocS, rowSnoc])))
abbrev P_c_iNode (k : Int) (n : Int) (t : ByteArray) (i : Int) : Ct := ⟨157, [], [li k, li n, ls t, li i], [], .sv (lb (nodD k n t i))⟩
theorem c_iNode (k n : Int) (t : ByteArray) (i : Int)  : P_c_iNode k n t i := fnOK Tryz.call157 Tryz.func157 (.i (k = 0) (.i (n = 0) (.s (lb (decide (t.data.toList = [])))) (.s (lb
 false))) (.i (k = 1) (.i (n = 0) (.i (i = 0) (.c [.rd] (c_iIsSymbol t) (.s (lb (isSym t)))) (.s (lb false))) (.y false (.s (lb false)))) (.i (k = 2) (.i ((-999999999 : Int) ≤ n)
 (.i (n ≤ 999999999) (.i (t.data.toList = []) (.s (lb (decide (i = 0)))) (.s (lb false))) (.y false (.s (lb false)))) (.y false (.y false (.s (lb false))))) (.i (k = 3) (.i (n = 0)
 (.y true (.i (t.data.toList = []) (.s (lb (decide (i = 0)))) (.s (lb false)))) (.i (n = 1) (.i (t.data.toList = []) (.s (lb (decide (i = 0)))) (.s (lb false))) (.y false (.s (lb
 false))))) (.i (k = 4) (.i (n = 0) (.i (i = 0) (.c [.rd] (c_iString t) (.s (lb (isStr t)))) (.s (lb false))) (.y false (.s (lb false)))) (.s (lb false))))))) (by
  dsimp only [teasy, P_c_iNode]
  with_reducible repeat' (first | apply And.intro | exact zR | (intro; skip))
  all_goals (try simp only [std, inj] at *)
  all_goals with_reducible repeat' apply And.intro
  all_goals (try (first | exact z | grind [nodD, snocI, snocS, rowSnoc])))
mutual
def sizeD : Datum → Nat
  | ⟨_, _, _, l⟩ => sizeDs l + 1
def sizeDs : List Datum → Nat
  | [] => 0
  | c :: r => sizeD c + sizeDs r
end
theorem sizeDs_eq : ∀ l, sizeDs l = sumBy sizeD l
  | [] => by simp [sizeDs, sumBy]
  | c :: r => by rw [sizeDs, sumBy, sizeDs_eq r]
theorem sizeD_eq (c : Datum) : sizeD c = sumBy sizeD c.items + 1 := by cases c; simp only [sizeD, sizeDs_eq]
mutual
def okD : Datum → Bool
  | ⟨k, n, t, l⟩ => okDs l && nodD k n t l.length
def okDs : List Datum → Bool
  | [] => true
  | c :: r => okD c && okDs r
end
theorem okDs_eq : ∀ l, okDs l = l.all okD
  | [] => by simp [okDs]
  | c :: r => by rw [okDs, okDs_eq r]; rfl
theorem okD_eq (c : Datum) : okD c = (c.items.all okD && nodD c.kind c.number c.text c.items.length) := by cases c; simp only [okD, okDs_eq]
end Go.Proofs.YtclpofblehlojaaGreatDoor
end
section
namespace Go.Proofs.YtclpofblehlojaaGreatDoor
open Go Go.Proofs.YtclpofblehlojaaGreatDoor.Ab
set_option linter.unusedVariables false
theorem dec_one {u : Nat} (h : u < 10) : Lib.decDigits u = [UInt8.ofNat (48 + u)] := by rw [Lib.decDigits, dif_pos h]
theorem dec_more {u : Nat} (h : ¬ u < 10) : Lib.decDigits u = Lib.decDigits (u / 10) ++ [UInt8.ofNat (48 + u % 10)] := by rw [Lib.decDigits, dif_neg h]
theorem dec_len : ∀ (k u : Nat), u < 10 ^ (k + 1) → (Lib.decDigits u).length ≤ k + 1
  | k, u, h => by
    by_cases hu : u < 10
    · rw [dec_one hu]; simp
    · cases k with
      | zero => exact absurd (by simpa using h) hu
      | succ k =>
        have := dec_len k (u / 10) (by rw [Nat.pow_succ] at h; omega)
        rw [dec_more hu]; simp only [List.length_append, List.length_cons, List.length_nil]; omega
def dgs (u : Nat) : List UInt8 := if u = 0 then [] else Lib.decDigits u
theorem dgs_step {u : Nat} (h : u ≠ 0) : dgs u = dgs (u / 10) ++ [UInt8.ofNat (48 + u % 10)] := by
  unfold dgs
  rw [if_neg h]
  by_cases hu : u < 10
  · rw [dec_one hu, if_pos (by omega), Nat.mod_eq_of_lt hu]; rfl
  · rw [dec_more hu, if_neg (by omega)]
theorem dgs_zero : dgs 0 = [] := rfl
theorem dgs_ne {u : Nat} (h : u ≠ 0) : dgs u = Lib.decDigits u := if_neg h
theorem itoa_pos {n : Int} (h : 0 ≤ n) : Lib.itoa n = Lib.decDigits n.natAbs := by
  unfold Lib.itoa; rw [if_neg (by omega)]; congr 1; omega
theorem itoa_neg {n : Int} (h : n < 0) : Lib.itoa n = 45 :: Lib.decDigits n.natAbs := by unfold Lib.itoa; rw [if_pos h]
theorem itoa_zero : Lib.itoa 0 = [48] := by rw [itoa_pos (by decide)]; exact dec_one (by decide)
theorem itoa_len {n : Int} (h : -9223372036854775808 ≤ n ∧ n ≤ 9223372036854775807) : (Lib.itoa n).length ≤ 21 := by
  have e : (10 : Nat) ^ (19 + 1) = 100000000000000000000 := by decide
  have := dec_len 19 n.natAbs (by omega)
  by_cases hn : n < 0
  · rw [itoa_neg hn]; simp only [List.length_cons]; omega
  · rw [itoa_pos (by omega)]; omega
theorem itoa_len9 {n : Int} (h : -999999999 ≤ n ∧ n ≤ 999999999) : (Lib.itoa n).length ≤ 10 := by
  have e : (10 : Nat) ^ (8 + 1) = 1000000000 := by decide
  have := dec_len 8 n.natAbs (by omega)
  by_cases hn : n < 0
  · rw [itoa_neg hn]; simp only [List.length_cons]; omega
  · rw [itoa_pos (by omega)]; omega
theorem dec_ge {n : Int} (h : -9223372036854775808 ≤ n ∧ n ≤ 9223372036854775807) : (Lib.decDigits n.natAbs).length ≤ 20 := by
  have e : (10 : Nat) ^ (19 + 1) = 100000000000000000000 := by decide
  exact dec_len 19 n.natAbs (by omega)
theorem rng_u8 {n : Int} : rng .u8 n ↔ 0 ≤ n ∧ n ≤ 255 := by
  simp [rng, IntKind.min, IntKind.max, IntKind.signed, IntKind.bits]
theorem u8_back {m : Int} (h : 0 ≤ m ∧ m ≤ 255) : ((UInt8.ofNat m.toNat).toNat : Int) = m := by
  rw [UInt8.toNat_ofNat']; omega
end Go.Proofs.YtclpofblehlojaaGreatDoor
end
section
namespace Go.Proofs.YtclpofblehlojaaGreatDoor
open Go Go.Proofs.YtclpofblehlojaaGreatDoor.Ab
set_option linter.unusedVariables false
set_option linter.unusedSimpArgs false
set_option maxHeartbeats 4000000
abbrev P_c_sNum (n : Int) : Ct := ⟨112, [], [li n], [], .sv (ls (mkS (Lib.itoa n)))⟩
def lc_sNumLa (n : Int) : Lp (Int × List UInt8) := .mk 31 0 (fun x => [(0, li n), (3, hs x 1), (4, hs x 0)]) (fun x => []) (fun k => [.s (li k.fst), .s (ls (mkS k.snd))]) (fun k =>
 n ≠ 0 ∧ dgs k.fst.natAbs ++ k.snd = Lib.decDigits n.natAbs ∧ (-9223372036854775808 : Int) ≤ k.fst ∧ k.fst ≤ 9223372036854775807) (fun k => k.fst.natAbs) [.mk True (.exit 0) (fun x
 => [(0, li n), (3, hs x 0)]) (fun x => []) [.s (ls (mkS (Lib.decDigits n.natAbs)))]]
theorem Sc_sNumLa (n : Int) (h : (-9223372036854775808 : Int) ≤ n ∧ n ≤ 9223372036854775807) : Lp.Sem Tryz.prog (loopAt Tryz.f112 0) (lc_sNumLa n) := lpOK (fun k => .i (k.fst ≠ 0)
 (.p ((10 : Int) ≠ 0) (.i (k.fst.tmod (10 : Int) < 0) (.r (0 - k.fst.tmod 10) (.r (48 + (0 - k.fst.tmod 10)) (.p (rng IntKind.u8 (48 + (0 - k.fst.tmod 10))) (.w (.bytes
 [UInt8.ofNat (48 + (0 - k.fst.tmod 10)).toNat]) (.p ([[Cell.lit (Value.int IntKind.u8 (48 + (0 - k.fst.tmod 10)))]] = [[Cell.lit (Value.int IntKind.u8 (↑(UInt8.ofNat (48 + (0 -
 k.fst.tmod 10)).toNat).toNat : Int))]]) (.p (1 + k.snd.length ≤ 9223372036854775807) (.p ((10 : Int) ≠ 0) (.r (k.fst.tdiv 10) (.g [] (k.fst.tdiv 10, [UInt8.ofNat (48 + (0 -
 k.fst.tmod 10)).toNat] ++ k.snd) [.s (li (k.fst.tdiv 10)), .s (ls (ByteArray.mk ([UInt8.ofNat (48 + (0 - k.fst.tmod 10)).toNat] ++ k.snd).toArray))]))))))))) (.r (48 + k.fst.tmod
 10) (.p (rng IntKind.u8 (48 + k.fst.tmod 10)) (.w (.bytes [UInt8.ofNat (48 + k.fst.tmod 10).toNat]) (.p ([[Cell.lit (Value.int IntKind.u8 (48 + k.fst.tmod 10))]] = [[Cell.lit
 (Value.int IntKind.u8 (↑(UInt8.ofNat (48 + k.fst.tmod 10).toNat).toNat : Int))]]) (.p (1 + k.snd.length ≤ 9223372036854775807) (.p ((10 : Int) ≠ 0) (.r (k.fst.tdiv 10) (.g []
 (k.fst.tdiv 10, [UInt8.ofNat (48 + k.fst.tmod 10).toNat] ++ k.snd) [.s (li (k.fst.tdiv 10)), .s (ls (ByteArray.mk ([UInt8.ofNat (48 + k.fst.tmod 10).toNat] ++
 k.snd).toArray))])))))))))) (.o 0 [] [.s (ls (mkS k.snd))])) (by
  intro k h; try dsimp only [teasy, nthW, lc_sNumLa] at h ⊢
  obtain ⟨x, o⟩ := k
  simp only at *
  have g1 := @dgs_step x.natAbs
  have g2 : (x.tdiv 10).natAbs = x.natAbs / 10 := Int.natAbs_tdiv _ _
  have g3 : (x.tmod 10).natAbs = x.natAbs % 10 := Int.natAbs_tmod _ _
  have g4 := congrArg List.length h.2.1
  have g5 := dec_ge (n := n) (by assumption)
  with_reducible repeat' (first | apply And.intro | exact zR | (intro; skip))
  all_goals (try simp only [std, inj] at *)
  all_goals with_reducible repeat' apply And.intro
  all_goals (try (first | exact zw | grind [dgs_zero, snocI, snocS, rowSnoc]))
  all_goals first | (rw [rng_u8]; omega) | (rw [u8_back (by omega)]))
theorem c_sNum (n : Int) (h : -9223372036854775808 ≤ n ∧ n ≤ 9223372036854775807)  : P_c_sNum n := fnOK Tryz.call112 Tryz.func112 (.i (n = 0) (.s (ls (ByteArray.mk #[(48 : UInt8)])))
 (.l (lc_sNumLa n) (Sc_sNumLa n h) [] [.s (li n), .s (ls (ByteArray.mk #[]))] (n, []) (.t (.i (n < 0) (.p (1 + (Lib.decDigits n.natAbs).length ≤ 9223372036854775807) (.s (ls
 (ByteArray.mk ([(45 : UInt8)] ++ Lib.decDigits n.natAbs).toArray)))) (.s (ls (mkS (Lib.decDigits n.natAbs))))) .q))) (by
  dsimp only [teasy, P_c_sNum, nthW, lc_sNumLa]
  have g1 := @itoa_pos n
  have g2 := @itoa_neg n
  have g3 := itoa_zero
  have g4 := dec_ge h
  with_reducible repeat' (first | apply And.intro | exact zR | (intro; skip))
  all_goals (try simp only [std, inj] at *)
  all_goals with_reducible repeat' apply And.intro
  all_goals (try (first | exact zw | grind [dgs_ne, snocI, snocS, rowSnoc])))
end Go.Proofs.YtclpofblehlojaaGreatDoor
end
section
namespace Go.Proofs.YtclpofblehlojaaGreatDoor
open Go Go.Shelf Go.RowKit Go.Proofs.YtclpofblehlojaaGreatDoor.Ab
set_option linter.unusedVariables false
def itoRen : Go.Shelf.Ren := ⟨fun | 171 => 166 | 243 => 205 | 246 => 231 | 283 => 227 | 284 => 228 | 285 => 229 | 286 => 230 | 129 => 250 | 317 => 249 | 318 => 251 | 319 => 252 | 320 => 253 | 337 => 262 | 338 => 263 | n => n, fun | 3 => 3 | 9 => 9 | 2 => 2 | 4 => 4 | 171 => 228 | 0 => 0 | 53 => 210 | 37 => 33 | 5 => 5 | 173 => 231 | 212 => 254 | 51 => 255 | 20 => 20 | 213 => 256 | 46 => 204 | 232 => 277 | 233 => 278 | n => n, fun | 17 => 0 | 18 => 3 | 19 => 4 | n => n⟩
theorem itoLays : Go.Proofs.LaysM.n171 Tryz.prog itoRen := {
  mixed := by kernel_rfl
  f129 := Tryz.func250.trans (congrArg some (by kernel_rfl))
  f171 := Tryz.func166.trans (congrArg some (by kernel_rfl))
  f243 := Tryz.func205.trans (congrArg some (by kernel_rfl))
  f246 := Tryz.func231.trans (congrArg some (by kernel_rfl))
  f283 := Tryz.func227.trans (congrArg some (by kernel_rfl))
  f284 := Tryz.func228.trans (congrArg some (by kernel_rfl))
  f285 := Tryz.func229.trans (congrArg some (by kernel_rfl))
  f286 := Tryz.func230.trans (congrArg some (by kernel_rfl))
  f317 := Tryz.func249.trans (congrArg some (by kernel_rfl))
  f318 := Tryz.func251.trans (congrArg some (by kernel_rfl))
  f319 := Tryz.func252.trans (congrArg some (by kernel_rfl))
  f320 := Tryz.func253.trans (congrArg some (by kernel_rfl))
  f337 := Tryz.func262.trans (congrArg some (by kernel_rfl))
  f338 := Tryz.func263.trans (congrArg some (by kernel_rfl))
  t0 := Tryz.underlying0
  a0 := Tryz.isAgg0
  z0 := Tryz.sizeOf0
  v0 := Tryz.zeroValue0
  t2 := Tryz.underlying2
  a2 := Tryz.isAgg2
  z2 := Tryz.sizeOf2
  v2 := Tryz.zeroValue2
  t3 := Tryz.underlying3
  a3 := Tryz.isAgg3
  z3 := Tryz.sizeOf3
  v3 := Tryz.zeroValue3
  t4 := Tryz.underlying4
  a4 := Tryz.isAgg4
  z4 := Tryz.sizeOf4
  v4 := Tryz.zeroValue4
  t5 := Tryz.underlying5
  a5 := Tryz.isAgg5
  z5 := Tryz.sizeOf5
  v5 := Tryz.zeroValue5
  t9 := Tryz.underlying9
  a9 := Tryz.isAgg9
  z9 := Tryz.sizeOf9
  v9 := Tryz.zeroValue9
  t20 := Tryz.underlying20
  a20 := Tryz.isAgg20
  z20 := Tryz.sizeOf20
  v20 := Tryz.zeroValue20
  t37 := Tryz.underlying33
  a37 := Tryz.isAgg33
  z37 := Tryz.sizeOf33
  v37 := Tryz.zeroValue33
  t46 := Tryz.underlying204
  a46 := Tryz.isAgg204
  z46 := Tryz.sizeOf204
  v46 := Tryz.zeroValue204
  t51 := Tryz.underlying255
  a51 := Tryz.isAgg255
  z51 := Tryz.sizeOf255
  v51 := Tryz.zeroValue255
  t53 := Tryz.underlying210
  a53 := Tryz.isAgg210
  z53 := Tryz.sizeOf210
  v53 := Tryz.zeroValue210
  t171 := Tryz.underlying228
  a171 := Tryz.isAgg228
  z171 := Tryz.sizeOf228
  v171 := Tryz.zeroValue228
  t173 := Tryz.underlying231
  a173 := Tryz.isAgg231
  z173 := Tryz.sizeOf231
  v173 := Tryz.zeroValue231
  t212 := Tryz.underlying254
  a212 := Tryz.isAgg254
  z212 := Tryz.sizeOf254
  v212 := Tryz.zeroValue254
  t213 := Tryz.underlying256
  a213 := Tryz.isAgg256
  z213 := Tryz.sizeOf256
  t232 := Tryz.underlying277
  a232 := Tryz.isAgg277
  z232 := Tryz.sizeOf277
  v232 := Tryz.zeroValue277
  t233 := Tryz.underlying278
  a233 := Tryz.isAgg278
  z233 := Tryz.sizeOf278
  v233 := Tryz.zeroValue278
  g17 := by kernel_rfl
  g18 := by kernel_rfl
  g19 := by kernel_rfl
  i0 := by kernel_rfl
  i2 := by kernel_rfl
  i3 := by kernel_rfl
  i4 := by kernel_rfl
  i5 := by kernel_rfl
  i9 := by kernel_rfl
  i20 := by kernel_rfl
  i37 := by kernel_rfl
  i46 := by kernel_rfl
  i51 := by kernel_rfl
  i53 := by kernel_rfl
  i171 := by kernel_rfl
  i173 := by kernel_rfl
  i212 := by kernel_rfl
  i232 := by kernel_rfl
  i233 := by kernel_rfl
  m17 := by kernel_rfl
  m18 := by kernel_rfl
  m19 := by kernel_rfl }
theorem post_below {w w' : Go.World} {ι : Interp} {args : List SV} {vals : Array Value} {v : Value} {res : AV} (hp : PreRel w ι [] args vals) (hb : Below w.heap.size w w') (hv : AVRel w' ι (obOf []) res v) : PostRel w ι [] [] res w' v ι :=
  { ext := fun j => trivial
    obj := fun j => hp.obj j
    disj := hp.disj
    gfp := hp.gfp
    lt := fun i b h => absurd h (hp.obj i b)
    glt := fun b h => Nat.lt_of_lt_of_le (hp.glt b h) hb.size
    gg := fun _ h => h
    gown := fun _ h => .inl h
    own := fun j b h => absurd h (hp.obj j b)
    frame := fun b h _ => hb.block b h
    size := hb.size
    os := hb.os
    out := hb.output
    val := hv }
theorem kn_tab {w : Go.World} {ι : Interp} (hk : Kn Tryz.prog w ι) : Lib.TabIs Tryz.prog w pow10N .u64 Lib.pow10Tab := by
  cases hg : Tryz.prog.globalNamed pow10N with
  | none => have : (Tryz.prog.globalNamed pow10N).isSome = true := by kernel_rfl
            rw [hg] at this; cases this
  | some g => obtain ⟨_, _, cs, hv, rfl⟩ := hk.1 g hg; exact hv
abbrev P_c_itoa (n : Int) : Ct := ⟨166, [], [li n], [], .sv (ls (mkS (Lib.itoa n)))⟩
theorem c_itoa (n : Int) (h : -9223372036854775808 ≤ n ∧ n ≤ 9223372036854775807) : OK (P_c_itoa n) := by
  refine ⟨Tryz.call166, fun w ι vals hp hk => ?_⟩
  have harg := hp.arg
  rcases vals with ⟨l⟩
  match l, harg with
  | [v0], ⟨h0, _⟩ =>
    obtain ⟨rfl, _⟩ := h0.1.lit_inv
    refine (Any.strconv_Itoa itoLays n h.1 h.2 w (Eq.subst (motive := fun s => Lib.TabIs Tryz.prog w s .u64 Lib.pow10Tab) (by kernel_rfl) (kn_tab hk))).mono fun e w' hh => ?_
    obtain ⟨rfl, k, os, rfl⟩ := hh
    refine ⟨_, ι, rfl, post_below hp ⟨rfl, rfl, rfl, ?_, fun j hj => ?_⟩ ⟨.lit ?_, fun _ => rfl⟩⟩
    · show w.heap.size ≤ (w.heap ++ os).size
      rw [Array.size_append]; omega
    · show (w.heap ++ os)[j]? = w.heap[j]?
      exact Array.getElem?_append_left hj
    · show (Lib.itoa n).toArray.size ≤ maxLen
      rw [List.size_toArray]; have := itoa_len h; unfold maxLen; omega
end Go.Proofs.YtclpofblehlojaaGreatDoor
end
section
namespace Go.Proofs.YtclpofblehlojaaGreatDoor
open Go Go.Proofs.YtclpofblehlojaaGreatDoor.Ab
set_option linter.unusedVariables false
set_option linter.unusedSimpArgs false
set_option maxHeartbeats 4000000
instance memDec (s : ByteArray) (L : List ByteArray) : Decidable (s ∈ L) := @List.instDecidableMemOfLawfulBEq ByteArray instBEqOfDecidableEq _ s L
theorem isSym_le {s : ByteArray} : isSym s = true → (s.size : Int) ≤ 16 := by
  unfold isSym; simp only [Bool.and_eq_true, decide_eq_true_eq]; intro h; exact h.1.1.1.2
end Go.Proofs.YtclpofblehlojaaGreatDoor
end
section
namespace Go.Proofs.YtclpofblehlojaaGreatDoor
open Go Go.Proofs.YtclpofblehlojaaGreatDoor.Ab
set_option linter.unusedVariables false
set_option linter.unusedSimpArgs false
set_option maxHeartbeats 4000000
abbrev P_c_iNum (n : Int) : Ct := ⟨121, [], [li n], [], .sv (ls (mkS (Lib.itoa n)))⟩
theorem c_iNum (n : Int) (h : -9223372036854775808 ≤ n ∧ n ≤ 9223372036854775807)  : P_c_iNum n := fnOK Tryz.call121 Tryz.func121 (.d [.rd] (P_c_itoa n) (.s (ls (mkS (Lib.itoa n)))))
 (by
  dsimp only [teasy, P_c_iNum]
  with_reducible repeat' (first | apply And.intro | exact zR | (intro; skip) | apply c_itoa)
  all_goals (try simp only [std, inj] at *)
  all_goals with_reducible repeat' apply And.intro
  all_goals (try (first | with_reducible apply c_itoa | (simp only [← List.map_append]; first | with_reducible apply c_itoa)))
  all_goals (try (first | exact z | grind [snocI, snocS, rowSnoc])))
mutual
def fmtD : Datum → List UInt8
  | ⟨k, n, t, l⟩ => if k = 1 then tx t else if k = 2 then Lib.itoa n else if k = 3 then (if n = 1 then [35, 116] else [35, 102]) else if k = 4 then [34] ++ (tx t ++ [34]) else [40] ++ (fmtDs l ++ [41])
def fmtDs : List Datum → List UInt8
  | [] => []
  | x :: r => fmtD x ++ fmtDr r
def fmtDr : List Datum → List UInt8
  | [] => []
  | x :: r => ([32] ++ fmtD x) ++ fmtDr r
end
def fmS (x : Datum) : ByteArray := mkS (fmtD x)
def fmJ (L : List Datum) : List UInt8 := jn [32] (L.map fmS)
theorem fmtDr_eq : ∀ l, fmtDr l = (l.map fmS).flatMap fun y => [32] ++ tx y
  | [] => by simp [fmtDr]
  | x :: r => by rw [fmtDr, fmtDr_eq r]; rfl
theorem fmtDs_eq : ∀ l, fmtDs l = fmJ l
  | [] => by simp [fmtDs, fmJ, jn]
  | x :: r => by rw [fmtDs, fmtDr_eq]; rfl
theorem fmtD_eq (d : Datum) : fmtD d = if d.kind = 1 then tx d.text else if d.kind = 2 then Lib.itoa d.number else if d.kind = 3 then (if d.number = 1 then [35, 116] else [35, 102]) else if d.kind = 4 then [34] ++ (tx d.text ++ [34]) else [40] ++ (fmJ d.items ++ [41]) := by
  cases d; simp only [fmtD, fmtDs_eq]
theorem fmJ_step {L : List Datum} {k : Nat} (h : k < L.length) : fmJ (L.take (k + 1)) = if k = 0 then fmtD (L.getD k default) else fmJ (L.take k) ++ ([32] ++ fmtD (L.getD k default)) := by
  rw [take_get h]; unfold fmJ
  rw [List.map_append, List.map_cons, List.map_nil, jn_snoc]
  cases k with
  | zero => simp [fmS]; rfl
  | succ k => rw [if_neg, if_neg (by omega)]; rfl; intro e; have := congrArg List.length e; rw [List.length_map, List.length_take, List.length_nil] at this; omega
theorem jn_le (L : List Datum) {m : Datum → Nat} (h : ∀ x ∈ L, (fmtD x).length + 1 ≤ m x) : (fmJ L).length ≤ sumBy m L := by
  have e : ∀ L : List Datum, (∀ x ∈ L, (fmtD x).length + 1 ≤ m x) → ((L.map fmS).flatMap fun y => [32] ++ tx y).length ≤ sumBy m L := by
    intro L
    induction L with
    | nil => intro _; simp [sumBy]
    | cons x r ih =>
      intro h
      have h1 := ih fun y hy => h y (List.mem_cons_of_mem _ hy)
      have h2 := h x List.mem_cons_self
      have h3 : (tx (fmS x)).length = (fmtD x).length := rfl
      simp only [List.map_cons, List.flatMap_cons, List.length_append, List.length_cons, List.length_nil, sumBy, h3]
      omega
  cases L with
  | nil => simp [fmJ, jn, sumBy]
  | cons x r =>
    have h1 := e r fun y hy => h y (List.mem_cons_of_mem _ hy)
    have h2 := h x List.mem_cons_self
    have h3 : (tx (fmS x)).length = (fmtD x).length := rfl
    simp only [fmJ, jn, List.map_cons, List.length_append, sumBy, h3]
    omega
theorem nod_txt {k n : Int} {t : ByteArray} {i : Int} (h : nodD k n t i = true) : t.size ≤ 20 := by
  have h3 := @isSym_le t
  have e : t.data.toList.length = t.size := rfl
  simp only [nodD, Bool.or_eq_true, decide_eq_true_eq] at h
  rcases h with (((h | h) | h) | h) | h
  · rw [h.2.2] at e; simp at e; omega
  · have := h3 h.2.2.1; omega
  · rw [h.2.2.2.1] at e; simp at e; omega
  · rw [h.2.2.2.1] at e; simp at e; omega
  · have h7 := h.2.2.1; simp only [isStr, Bool.and_eq_true, decide_eq_true_eq] at h7; omega
theorem sum_mul (w : Datum → Nat) (m : Nat) : ∀ L : List Datum, sumBy (fun x => m * w x) L = m * sumBy w L
  | [] => rfl
  | x :: r => by simp only [sumBy, sum_mul w m r, Nat.mul_add]
theorem len_size (L : List Datum) : L.length ≤ sumBy sizeD L := by
  induction L with
  | nil => simp
  | cons x r ih => have := sizeD_eq x; simp only [sumBy, List.length_cons]; omega
theorem fmtD_len : ∀ d : Datum, okD d = true → (fmtD d).length + 1 ≤ 30 * sizeD d := by
  refine Datum.ind fun d ih hd => ?_
  rw [okD_eq, Bool.and_eq_true, List.all_eq_true] at hd
  have h1 := jn_le d.items (m := fun x => 30 * sizeD x) fun x hx => ih x hx (hd.1 x hx)
  rw [sum_mul] at h1
  have h5 := nod_txt hd.2
  have h4 := hd.2
  have h6 : (tx d.text).length = d.text.size := rfl
  rw [fmtD_eq, sizeD_eq]
  simp only [nodD, Bool.or_eq_true, decide_eq_true_eq] at h4
  split
  · omega
  · split
    · have := itoa_len9 (n := d.number) (by omega); omega
    · split
      · split <;> simp <;> omega
      · split
        · simp only [List.length_append, List.length_cons, List.length_nil, h6]; omega
        · simp only [List.length_append, List.length_cons, List.length_nil]; omega
theorem sum_map_size (L : List ByteArray) : (L.map ByteArray.size).sum = sumBy ByteArray.size L := by
  induction L with
  | nil => rfl
  | cons x r ih => simp only [List.map_cons, List.sum_cons, sumBy, ih]
theorem jn_len' (b : List UInt8) (L : List ByteArray) : (jn b L).length ≤ sumBy ByteArray.size L + L.length * b.length := by rw [← sum_map_size]; exact jn_len b L
theorem sumBy_take_le' (L : List ByteArray) (k : Nat) : sumBy ByteArray.size (L.take k) ≤ sumBy ByteArray.size L := by
  have := sumBy_append ByteArray.size (L.take k) (L.drop k)
  rw [List.take_append_drop] at this; omega
theorem jn_take (b : List UInt8) (L : List ByteArray) (k : Nat) : (jn b (L.take k)).length ≤ sumBy ByteArray.size L + L.length * b.length := by
  have h1 := jn_len' b (L.take k)
  have h2 := sumBy_take_le' L k
  have h3 : (L.take k).length ≤ L.length := by rw [List.length_take]; exact Nat.min_le_right _ _
  have h4 := Nat.mul_le_mul_right b.length h3
  omega
theorem jn_step (b : List UInt8) {L : List ByteArray} {k : Nat} (h : k < L.length) : jn b (L.take (k + 1)) = if k = 0 then tx (L.getD k default) else jn b (L.take k) ++ (b ++ tx (L.getD k default)) := by
  rw [take_get h, jn_snoc]
  cases k with
  | zero => simp
  | succ k => rw [if_neg, if_neg (by omega)]; intro e; have := congrArg List.length e; rw [List.length_take, List.length_nil] at this; omega
abbrev P_c_l1Join (L : List ByteArray) (b : ByteArray) : Ct := ⟨24, [], [ll (L.map strC), ls b], [], .sv (ls (mkS (jn (tx b) L)))⟩
def lc_l1JoinLa (L : List ByteArray) (b : ByteArray) : Lp Nat := .mk 25 0 (fun x => [(1, ls b), (5, hs x 1), (8, ll (List.map strC L)), (9, li (↑(List.map strC L).length : Int)),
 (10, hs x 0)]) (fun x => []) (fun k => [.s (li (↑k : Int)), .s (ls (mkS (jn (tx b) (List.take k L))))]) (fun k => k ≤ L.length ∧ L.length ≤ 9223372036854775807) (fun k => L.length
 - k) [.mk True (.exit 0) (fun x => [(5, hs x 0)]) (fun x => []) [.s (ls (mkS (jn (tx b) L)))]]
theorem Sc_l1JoinLa (L : List ByteArray) (b : ByteArray) (h : sumBy ByteArray.size L + L.length * b.size ≤ 1099511627776) (hb : b.size ≤ 1099511627776) : Lp.Sem Tryz.prog (loopAt
 Tryz.f24 0) (lc_l1JoinLa L b) := lpOK (fun k => .i ((↑k : Int) < (↑(List.map strC L).length : Int)) (.x (↑k : Int) (List.map strC L) [cS (L.getD k default)] (.i (0 < (↑k : Int))
 (.p ((jn (tx b) (List.take k L)).length + b.data.toList.length ≤ 9223372036854775807) (.p ((jn (tx b) (List.take k L) ++ b.data.toList).length + (L.getD k
 default).data.toList.length ≤ 9223372036854775807) (.r ((↑k : Int) + 1) (.g [] (k + 1) [.s (li ((↑k : Int) + 1)), .s (ls (ByteArray.mk (jn (tx b) (List.take k L) ++ b.data.toList
 ++ (L.getD k default).data.toList).toArray))])))) (.p ((jn (tx b) (List.take k L)).length + (L.getD k default).data.toList.length ≤ 9223372036854775807) (.r ((↑k : Int) + 1) (.g
 [] (k + 1) [.s (li ((↑k : Int) + 1)), .s (ls (ByteArray.mk (jn (tx b) (List.take k L) ++ (L.getD k default).data.toList).toArray))]))))) (.o 0 [] [.s (ls (mkS (jn (tx b)
 (List.take k L))))])) (by
  intro k h; try dsimp only [teasy, nthW, lc_l1JoinLa] at h ⊢
  have h1 := jn_take (tx b) L k
  have h2 := @sumBy_mem _ ByteArray.size L (L.getD k default)
  rw [tx_len] at h1
  with_reducible repeat' (first | apply And.intro | exact zR | (intro; skip))
  all_goals (try simp only [std, inj] at *)
  all_goals with_reducible repeat' apply And.intro
  all_goals (try (first | exact z | grind [jn_step, getD_mem', jn, List.append_assoc, snocI, snocS, rowSnoc])))
theorem c_l1Join (L : List ByteArray) (b : ByteArray) (h : sumBy ByteArray.size L + L.length * b.size ≤ 1099511627776) (hb : b.size ≤ 1099511627776)  : P_c_l1Join L b := fnOK
 Tryz.call24 Tryz.func24 (.z strC L (.l (lc_l1JoinLa L b) (Sc_l1JoinLa L b h hb) [] [.s (li 0), .s (ls (ByteArray.mk #[]))] 0 (.t (.s (ls (mkS (jn (tx b) L)))) .q))) (by
  dsimp only [teasy, P_c_l1Join, nthW, lc_l1JoinLa]
  with_reducible repeat' (first | apply And.intro | exact zR | (intro; skip))
  all_goals (try simp only [std, inj] at *)
  all_goals with_reducible repeat' apply And.intro
  all_goals (try (first | exact z | grind [jn, snocI, snocS, rowSnoc])))
theorem fmS_size (L : List Datum) (h : L.all okD = true) : sumBy ByteArray.size (L.map fmS) ≤ 30 * sumBy sizeD L := by
  induction L with
  | nil => simp [sumBy]
  | cons x r ih =>
    rw [List.all_cons, Bool.and_eq_true] at h
    have h1 := ih h.2
    have h2 := fmtD_len x h.1
    have h3 : (fmS x).size = (fmtD x).length := rfl
    simp only [List.map_cons, sumBy, h3]; omega
abbrev P_c_sFmt (d : Datum) : Ct := ⟨60, [], [datumA d], [], .sv (ls (mkS (fmtD d)))⟩
def lc_sFmt_sLa (d : Datum) : Lp Nat := .mk 48 0 (fun x => [(3, SV.one (AC.ref 0)), (32, ll (List.map datumC d.items)), (33, li (↑(List.map datumC d.items).length : Int)), (34, hs
 x 0)]) (fun x => [ho x 1]) (fun k => [.s (li (↑k : Int)), .o (Ob.arr true 1 (List.map strC (List.map fmS (List.take k d.items))))]) (fun k => k ≤ d.items.length ∧ d.items.length ≤
 9223372036854775807 ∧ okD d = true ∧ sizeD d ≤ 1073741824) (fun k => d.items.length - k) [.mk True (.exit 1) (fun x => [(3, SV.one (AC.ref 0))]) (fun x => [ho x 0]) [.o (Ob.arr
 true 1 (List.map strC (List.map fmS d.items)))]]
theorem Sc_sFmt_sLa (d : Datum) (h : okD d = true ∧ sizeD d ≤ 1073741824) (ih : ∀ (z : Datum), z ∈ d.items → okD z = true ∧ sizeD z ≤ 1073741824 → OK (P_c_sFmt z)) : Lp.Sem
 Tryz.prog (loopAt Tryz.f60 0) (lc_sFmt_sLa d) := lpOK (fun k => .i ((↑k : Int) < (↑(List.map datumC d.items).length : Int)) (.x (↑k : Int) (List.map datumC d.items) (datumF
 (d.items.getD k default)) (.d [.rd] (P_c_sFmt (d.items.getD k default)) (.p (((List.map strC (List.map fmS (List.take k d.items))).length + 1) * 16 ≤ 140737488355328) (.r ((↑k :
 Int) + 1) (.g [3] (k + 1) [.s (li ((↑k : Int) + 1)), .o (Ob.arr true 1 (List.map strC (List.map fmS (List.take k d.items)) ++ [[cS (mkS (fmtD (d.items.getD k default)))]]))])))))
 (.o 0 [0] [.o (Ob.arr true 1 (List.map strC (List.map fmS (List.take k d.items))))])) (by
  intro k h; try dsimp only [teasy, nthW, lc_sFmt_sLa] at h ⊢
  have g1 := okD_eq d
  have g2 := sizeD_eq d
  have g3 := @sumBy_mem _ sizeD d.items (d.items.getD k default)
  have g4 := len_size d.items
  with_reducible repeat' (first | apply And.intro | exact zR | exact ih | (intro; skip) | apply c_sNum | apply c_l1Join | apply ih)
  all_goals (try simp only [std, inj] at *)
  all_goals with_reducible repeat' apply And.intro
  all_goals (try (first | with_reducible apply c_sNum | with_reducible apply c_l1Join | with_reducible apply ih | (simp only [← List.map_append]; first | with_reducible apply c_sNum | with_reducible apply c_l1Join | with_reducible apply ih)))
  all_goals (try (first | exact z | grind [take_get, fmS, getD_mem', snocI, snocS, rowSnoc, getD_mem'])))
theorem c_sFmt_s (d : Datum) (h : okD d = true ∧ sizeD d ≤ 1073741824) (ih : ∀ z ∈ d.items, ∀ (h : okD z = true ∧ sizeD z ≤ 1073741824), P_c_sFmt z)  : P_c_sFmt d := fnOK
 Tryz.call60 Tryz.func60 (.i (d.kind = 1) (.s (ls d.text)) (.i (d.kind = 2) (.d [.rd] (P_c_sNum d.number) (.s (ls (mkS (Lib.itoa d.number))))) (.i (d.kind = 3) (.p (0 ≤ d.number ∧
 d.number.toNat < 2) (.w (.cells (strC ([ByteArray.mk #[(35 : UInt8), (102 : UInt8)], ByteArray.mk #[(35 : UInt8), (116 : UInt8)]].getD d.number.toNat ByteArray.empty))) (.p ([[cS
 (ByteArray.mk #[(35 : UInt8), (102 : UInt8)])], [cS (ByteArray.mk #[(35 : UInt8), (116 : UInt8)])]][d.number.toNat]? = some [cS ([ByteArray.mk #[(35 : UInt8), (102 : UInt8)],
 ByteArray.mk #[(35 : UInt8), (116 : UInt8)]].getD d.number.toNat ByteArray.empty)]) (.s (ls ([ByteArray.mk #[(35 : UInt8), (102 : UInt8)], ByteArray.mk #[(35 : UInt8), (116 :
 UInt8)]].getD d.number.toNat ByteArray.empty)))))) (.i (d.kind = 4) (.p (1 + d.text.data.toList.length ≤ 9223372036854775807) (.p (([(34 : UInt8)] ++ d.text.data.toList).length +
 1 ≤ 9223372036854775807) (.s (ls (ByteArray.mk ([(34 : UInt8)] ++ d.text.data.toList ++ [(34 : UInt8)]).toArray))))) (.w (.bool false) (.z datumC d.items (.l (lc_sFmt_sLa d)
 (Sc_sFmt_sLa d h ih) [1] [.s (li 0), .o (Ob.arr true 1 [])] 0 (.t (.d [.rd, .rd] (P_c_l1Join (List.map fmS d.items) (ByteArray.mk #[(32 : UInt8)])) (.p (1 + (jn (tx (ByteArray.mk
 #[(32 : UInt8)])) (List.map fmS d.items)).length ≤ 9223372036854775807) (.p (([(40 : UInt8)] ++ jn (tx (ByteArray.mk #[(32 : UInt8)])) (List.map fmS d.items)).length + 1 ≤
 9223372036854775807) (.s (ls (ByteArray.mk ([(40 : UInt8)] ++ jn (tx (ByteArray.mk #[(32 : UInt8)])) (List.map fmS d.items) ++ [(41 : UInt8)]).toArray)))))) .q)))))))) (by
  dsimp only [teasy, P_c_sFmt, nthW, lc_sFmt_sLa]
  have g1 := okD_eq d
  have g2 := sizeD_eq d
  have g3 := fmS_size d.items
  have g4 := len_size d.items
  have g5 := fmtD_eq d
  have g6 := fmtD_len d
  have g7 := @nod_txt d.kind d.number d.text d.items.length
  have g8 := mkS_tx d.text
  with_reducible repeat' (first | apply And.intro | exact zR | exact ih | (intro; skip) | apply c_sNum | apply c_l1Join)
  all_goals (try simp only [std, inj] at *)
  all_goals with_reducible repeat' apply And.intro
  all_goals (try (first | with_reducible apply c_sNum | with_reducible apply c_l1Join | with_reducible apply ih | (simp only [← List.map_append]; first | with_reducible apply c_sNum | with_reducible apply c_l1Join | with_reducible apply ih)))
  all_goals (try (first | exact z | grind [nodD, fmJ, snocI, snocS, rowSnoc])))
theorem c_sFmt (d : Datum) : ∀ (h : okD d = true ∧ sizeD d ≤ 1073741824), P_c_sFmt d := Datum.ind (P := fun d => ∀ (h : okD d = true ∧ sizeD d ≤ 1073741824), P_c_sFmt d) (fun d ih h => c_sFmt_s d h ih) d
def fmO (L : List Datum) : List UInt8 := [40] ++ fmJ L
theorem fmO_nil : [[Cell.lit (.int .u8 40)]] = (fmO []).map byteC := rfl
theorem fmO_go {L : List Datum} {k : Nat} (h : k < L.length) (e : ¬ 0 < (k : Int)) : (fmO (L.take (k + 1))).map byteC = (fmO (L.take k)).map byteC ++ (fmtD (L.getD k default)).map byteC := by
  have : k = 0 := by omega
  subst this; unfold fmO; rw [fmJ_step h]; rfl
theorem fmO_on {L : List Datum} {k : Nat} (h : k < L.length) (e : 0 < (k : Int)) : (fmO (L.take (k + 1))).map byteC = (fmO (L.take k)).map byteC ++ ([[Cell.lit (.int .u8 32)]] ++ (fmtD (L.getD k default)).map byteC) := by
  unfold fmO; rw [fmJ_step h, if_neg (by omega), ← List.append_assoc, List.map_append, List.map_append]; rfl
theorem fmO_len {d : Datum} (k : Nat) (h : okD d = true) : (fmO (d.items.take k)).length ≤ 1 + 30 * sumBy sizeD (d.items.take k) := by
  rw [okD_eq, Bool.and_eq_true, List.all_eq_true] at h
  have h1 := jn_le (d.items.take k) (m := fun x => 30 * sizeD x) fun x hx => fmtD_len x (h.1 x (List.mem_of_mem_take hx))
  rw [sum_mul] at h1
  unfold fmO; simp only [List.length_append, List.length_cons, List.length_nil]; omega
theorem sum_two {w : Datum → Nat} {L : List Datum} {k : Nat} (h : k < L.length) : sumBy w (L.take k) + w (L.getD k default) ≤ sumBy w L := by
  have h1 := sumBy_step w h
  have h2 := sumBy_takeLe w L (k + 1)
  omega
theorem fmtD_list {d : Datum} (h1 : ¬ d.kind = 1) (h2 : ¬ d.kind = 2) (h3 : ¬ d.kind = 3) (h4 : ¬ d.kind = 4) : (fmtD d).map byteC = (fmO d.items).map byteC ++ [[Cell.lit (.int .u8 41)]] := by
  rw [fmtD_eq, if_neg h1, if_neg h2, if_neg h3, if_neg h4]; unfold fmO
  rw [← List.append_assoc, List.map_append]; rfl
theorem fmtD_1 {d : Datum} (h : d.kind = 1) : (fmtD d).map byteC = d.text.data.toList.map (fun b => [Cell.lit (.int .u8 b.toNat)]) := by rw [fmtD_eq, if_pos h]; rfl
theorem fmtD_2 {d : Datum} (h : d.kind = 2) : (fmtD d).map byteC = (Lib.itoa d.number).map (fun b => [Cell.lit (.int .u8 b.toNat)]) := by rw [fmtD_eq, if_neg (by omega), if_pos h]; rfl
theorem fmtD_t {d : Datum} (h : d.kind = 3) (h1 : d.number = 1) : (fmtD d).map byteC = [[Cell.lit (.int .u8 35)], [Cell.lit (.int .u8 116)]] := by rw [fmtD_eq, if_neg (by omega), if_neg (by omega), if_pos h, if_pos h1]; rfl
theorem fmtD_f {d : Datum} (h : d.kind = 3) (h1 : ¬ d.number = 1) : (fmtD d).map byteC = [[Cell.lit (.int .u8 35)], [Cell.lit (.int .u8 102)]] := by rw [fmtD_eq, if_neg (by omega), if_neg (by omega), if_pos h, if_neg h1]; rfl
theorem fmtD_4 {d : Datum} (h4 : d.kind = 4) : (fmtD d).map byteC = [[Cell.lit (.int .u8 34)]] ++ (d.text.data.toList.map (fun b => [Cell.lit (.int .u8 b.toNat)]) ++ [[Cell.lit (.int .u8 34)]]) := by
  rw [fmtD_eq, if_neg (by omega), if_neg (by omega), if_neg (by omega), if_pos h4]
  rw [List.map_append, List.map_append]; rfl
abbrev P_c_iWrite (R : List (List Cell)) (d : Datum) : Ct := ⟨72, [.arr true 1 R], [.one (.ref 0), datumA d], [.dead, .arr true 1 (R ++ (fmtD d).map byteC)], .sv (.one (.ref 1))⟩
def lc_iWrite_sLa (R : List (List Cell)) (d : Datum) : Lp Nat := .mk 66 1 (fun x => [(0, SV.one (AC.ref 1)), (47, ll (List.map datumC d.items)), (48, li (↑(List.map datumC
 d.items).length : Int)), (49, hs x 0)]) (fun x => [Ob.dead, ho x 1]) (fun k => [.s (li (↑k : Int)), .o (Ob.arr true 1 (R ++ List.map byteC (fmO (List.take k d.items))))]) (fun k
 => k ≤ d.items.length ∧ d.items.length ≤ 9223372036854775807 ∧ okD d = true ∧ sizeD d ≤ 1073741824 ∧ R.length + 30 * sizeD d ≤ 70368744177664) (fun k => d.items.length - k) [.mk
 True (.exit 1) (fun x => [(0, SV.one (AC.ref 1))]) (fun x => [Ob.dead, ho x 0]) [.o (Ob.arr true 1 (R ++ List.map byteC (fmO d.items)))]]
theorem Sc_iWrite_sLa (R : List (List Cell)) (d : Datum) (h : okD d = true ∧ sizeD d ≤ 1073741824 ∧ R.length + 30 * sizeD d ≤ 70368744177664) (ih : ∀ (z : Datum), z ∈ d.items → ∀
 (R : List (List Cell)), okD z = true ∧ sizeD z ≤ 1073741824 ∧ R.length + 30 * sizeD z ≤ 70368744177664 → OK (P_c_iWrite R z)) : Lp.Sem Tryz.prog (loopAt Tryz.f72 0) (lc_iWrite_sLa
 R d) := lpOK (fun k => .i ((↑k : Int) < (↑(List.map datumC d.items).length : Int)) (.x (↑k : Int) (List.map datumC d.items) (datumF (d.items.getD k default)) (.i (0 < (↑k : Int))
 (.p (((R ++ List.map byteC (fmO (List.take k d.items))).length + 1) * 1 ≤ 140737488355328) (.d [.own true 1, .rd] (P_c_iWrite (R ++ List.map byteC (fmO (List.take k d.items)) ++
 [[Cell.lit (Value.int IntKind.u8 32)]]) (d.items.getD k default)) (.r ((↑k : Int) + 1) (.g [0, 6] (k + 1) [.s (li ((↑k : Int) + 1)), .o (Ob.arr true 1 (R ++ List.map byteC (fmO
 (List.take k d.items)) ++ [[Cell.lit (Value.int IntKind.u8 32)]] ++ List.map byteC (fmtD (d.items.getD k default))))])))) (.d [.own true 1, .rd] (P_c_iWrite (R ++ List.map byteC
 (fmO (List.take k d.items))) (d.items.getD k default)) (.r ((↑k : Int) + 1) (.g [0, 4] (k + 1) [.s (li ((↑k : Int) + 1)), .o (Ob.arr true 1 (R ++ List.map byteC (fmO (List.take k
 d.items)) ++ List.map byteC (fmtD (d.items.getD k default))))]))))) (.o 0 [0, 1] [.o (Ob.arr true 1 (R ++ List.map byteC (fmO (List.take k d.items))))])) (by
  intro k h; try dsimp only [teasy, nthW, lc_iWrite_sLa] at h ⊢
  have g1 := okD_eq d
  have g2 := sizeD_eq d
  have g3 := @sum_two sizeD d.items k
  have g4 := @fmO_len d k
  have g5 := @fmO_go d.items k
  have g6 := @fmO_on d.items k
  with_reducible repeat' (first | apply And.intro | exact zR | exact ih | (intro; skip) | apply c_iNum | apply ih)
  all_goals (try simp only [std, inj] at *)
  all_goals with_reducible repeat' apply And.intro
  all_goals (try (first | with_reducible apply c_iNum | with_reducible apply ih | (simp only [← List.map_append]; first | with_reducible apply c_iNum | with_reducible apply ih)))
  all_goals (try (first | exact z | grind [getD_mem', snocI, snocS, rowSnoc])))
theorem c_iWrite_s (R : List (List Cell)) (d : Datum) (h : okD d = true ∧ sizeD d ≤ 1073741824 ∧ R.length + 30 * sizeD d ≤ 70368744177664) (ih : ∀ z ∈ d.items, ∀ (R : List (List
 Cell)) (h : okD z = true ∧ sizeD z ≤ 1073741824 ∧ R.length + 30 * sizeD z ≤ 70368744177664), P_c_iWrite R z)  : P_c_iWrite R d := fnOK Tryz.call72 Tryz.func72 (.i (d.kind = 1) (.p
 ((R.length + (List.map (fun b => [Cell.lit (Value.int IntKind.u8 (↑b.toNat : Int))]) d.text.data.toList).length) * 1 ≤ 140737488355328) (.f [2] [Ob.dead, Ob.arr true 1 (R ++
 List.map (fun b => [Cell.lit (Value.int IntKind.u8 (↑b.toNat : Int))]) d.text.data.toList)] (AV.sv (SV.one (AC.ref 1))))) (.i (d.kind = 2) (.d [.rd] (P_c_iNum d.number) (.p
 ((R.length + (List.map (fun b => [Cell.lit (Value.int IntKind.u8 (↑b.toNat : Int))]) (Lib.itoa d.number)).length) * 1 ≤ 140737488355328) (.f [2] [Ob.dead, Ob.arr true 1 (R ++
 List.map (fun b => [Cell.lit (Value.int IntKind.u8 (↑b.toNat : Int))]) (Lib.itoa d.number))] (AV.sv (SV.one (AC.ref 1)))))) (.i (d.kind = 3) (.i (d.number = 1) (.p ((R.length + 2)
 * 1 ≤ 140737488355328) (.f [2] [Ob.dead, Ob.arr true 1 (R ++ [[Cell.lit (Value.int IntKind.u8 35)], [Cell.lit (Value.int IntKind.u8 116)]])] (AV.sv (SV.one (AC.ref 1))))) (.p
 ((R.length + 2) * 1 ≤ 140737488355328) (.f [2] [Ob.dead, Ob.arr true 1 (R ++ [[Cell.lit (Value.int IntKind.u8 35)], [Cell.lit (Value.int IntKind.u8 102)]])] (AV.sv (SV.one (AC.ref
 1)))))) (.i (d.kind = 4) (.p ((R.length + 1) * 1 ≤ 140737488355328) (.p (((R ++ [[Cell.lit (Value.int IntKind.u8 34)]]).length + (List.map (fun b => [Cell.lit (Value.int
 IntKind.u8 (↑b.toNat : Int))]) d.text.data.toList).length) * 1 ≤ 140737488355328) (.p (((R ++ [[Cell.lit (Value.int IntKind.u8 34)]] ++ List.map (fun b => [Cell.lit (Value.int
 IntKind.u8 (↑b.toNat : Int))]) d.text.data.toList).length + 1) * 1 ≤ 140737488355328) (.f [6] [Ob.dead, Ob.arr true 1 (R ++ [[Cell.lit (Value.int IntKind.u8 34)]] ++ List.map (fun
 b => [Cell.lit (Value.int IntKind.u8 (↑b.toNat : Int))]) d.text.data.toList ++ [[Cell.lit (Value.int IntKind.u8 34)]])] (AV.sv (SV.one (AC.ref 1))))))) (.p ((R.length + 1) * 1 ≤
 140737488355328) (.z datumC d.items (.l (lc_iWrite_sLa R d) (Sc_iWrite_sLa R d h ih) [0, 3] [.s (li 0), .o (Ob.arr true 1 (R ++ [[Cell.lit (Value.int IntKind.u8 40)]]))] 0 (.t (.p
 (((R ++ List.map byteC (fmO d.items)).length + 1) * 1 ≤ 140737488355328) (.f [3] [Ob.dead, Ob.arr true 1 (R ++ List.map byteC (fmO d.items) ++ [[Cell.lit (Value.int IntKind.u8
 41)]])] (AV.sv (SV.one (AC.ref 1))))) .q)))))))) (by
  dsimp only [teasy, P_c_iWrite, nthW, lc_iWrite_sLa]
  have g1 := okD_eq d
  have g2 := sizeD_eq d
  have g3 := @fmO_len d d.items.length
  have g4 := fmO_nil
  have g5 := @fmtD_1 d
  have g6 := fmtD_len d
  have g7 := @nod_txt d.kind d.number d.text d.items.length
  have g8 := @fmtD_list d
  have g9 := @fmtD_4 d
  have g10 := @fmtD_2 d
  have g11 := @fmtD_t d
  have g12 := @fmtD_f d
  have g13 := itoa_len9 (n := d.number)
  with_reducible repeat' (first | apply And.intro | exact zR | exact ih | (intro; skip) | apply c_iNum)
  all_goals (try simp only [std, inj] at *)
  all_goals with_reducible repeat' apply And.intro
  all_goals (try (first | with_reducible apply c_iNum | with_reducible apply ih | (simp only [← List.map_append]; first | with_reducible apply c_iNum | with_reducible apply ih)))
  all_goals (try (first | exact z | grind [nodD, snocI, snocS, rowSnoc])))
theorem c_iWrite (d : Datum) : ∀ (R : List (List Cell)) (h : okD d = true ∧ sizeD d ≤ 1073741824 ∧ R.length + 30 * sizeD d ≤ 70368744177664), P_c_iWrite R d := Datum.ind (P := fun d => ∀ (R : List (List Cell)) (h : okD d = true ∧ sizeD d ≤ 1073741824 ∧ R.length + 30 * sizeD d ≤ 70368744177664), P_c_iWrite R d) (fun d ih R h => c_iWrite_s R d h ih) d
end Go.Proofs.YtclpofblehlojaaGreatDoor
end
section
namespace Go.Proofs.YtclpofblehlojaaGreatDoor
open Go Go.Proofs.YtclpofblehlojaaGreatDoor.Ab
set_option linter.unusedVariables false
set_option linter.unusedSimpArgs false
set_option maxHeartbeats 4000000
def kindS (n : Int) : Int := if 1 ≤ n ∧ n ≤ 99999 then (if n % 3 = 0 then 3 else n % 3) else 0
theorem kindS_zero {n : Int} : kindS n = 0 ↔ ¬ (1 ≤ n ∧ n ≤ 99999) := by unfold kindS; split <;> (try split) <;> omega
def okScN (L : List Int) : Nat → Bool
  | 0 => true
  | k + 1 => okScN L k && decide (1 ≤ L.getD k default ∧ L.getD k default ≤ 99999) && (decide (k = 0) || decide (L.getD (k - 1) default < L.getD k default))
def okSc (L : List Int) : Bool := okScN L L.length
theorem okScN_le (L : List Int) : ∀ (m k : Nat), k ≤ m → okScN L m = true → okScN L k = true
  | 0, k, h, _ => by
    obtain rfl : k = 0 := by omega
    rfl
  | m + 1, k, h, ht => by
    by_cases e : k = m + 1
    · rw [e]; exact ht
    · refine okScN_le L m k (by omega) ?_
      simp only [okScN, Bool.and_eq_true] at ht; exact ht.1.1
abbrev P_c_sKind (n : Int) : Ct := ⟨194, [], [li n], [], .sv (li (kindS n))⟩
theorem c_sKind (n : Int)  : P_c_sKind n := fnOK Tryz.call194 Tryz.func194 (.c [.rd, .rd, .rd] (c_l1In n 1 99999) (.b (!decide (1 ≤ n ∧ n ≤ 99999)) (.s (li 0)) (.p ((3 : Int) ≠ 0)
 (.p (0 ≤ n.tmod 3 ∧ (n.tmod 3).toNat < 3) (.w (.cells (intC ([3, 1, 2].getD (n.tmod 3).toNat 0))) (.p ([[cI 3], [cI 1], [cI 2]][(n.tmod 3).toNat]? = some [cI ([3, 1, 2].getD
 (n.tmod 3).toNat 0)]) (.s (li ([3, 1, 2].getD (n.tmod 3).toNat 0))))))))) (by
  dsimp only [teasy, P_c_sKind]
  with_reducible repeat' (first | apply And.intro | exact zR | (intro; skip))
  all_goals (try simp only [std, inj] at *)
  all_goals with_reducible repeat' apply And.intro
  all_goals (try (first | exact z | grind [kindS, snocI, snocS, rowSnoc])))
abbrev P_c_iKind (n : Int) : Ct := ⟨201, [], [li n], [], .sv (li (kindS n))⟩
theorem c_iKind (n : Int)  : P_c_iKind n := fnOK Tryz.call201 Tryz.func201 (.i (n < 1) (.y true (.s (li 0))) (.i (99999 < n) (.s (li 0)) (.p ((3 : Int) ≠ 0) (.i (n.tmod (3 : Int) =
 1) (.s (li 1)) (.i (n.tmod (3 : Int) = 2) (.s (li 2)) (.s (li 3))))))) (by
  dsimp only [teasy, P_c_iKind]
  with_reducible repeat' (first | apply And.intro | exact zR | (intro; skip))
  all_goals (try simp only [std, inj] at *)
  all_goals with_reducible repeat' apply And.intro
  all_goals (try (first | exact z | grind [kindS, snocI, snocS, rowSnoc])))
abbrev P_c_sScopes (L : List Int) : Ct := ⟨153, [], [ll (L.map intC)], [], .sv (lb (okSc L))⟩
def lc_sScopesLa (L : List Int) : Lp Nat := .mk 29 0 (fun x => [(0, ll (List.map intC L)), (5, ll (List.map intC L)), (6, li (↑(List.map intC L).length : Int)), (7, hs x 0)]) (fun
 x => []) (fun k => [.s (li (↑k : Int))]) (fun k => k ≤ L.length ∧ L.length ≤ 9223372036854775807 ∧ okScN L k = true) (fun k => L.length - k) [.mk (okSc L = true) (.exit 0) (fun x
 => []) (fun x => []) [], .mk (okSc L = false) .ret (fun x => [(2, hs x 0)]) (fun x => []) [.s (lb false)]]
theorem Sc_sScopesLa (L : List Int) : Lp.Sem Tryz.prog (loopAt Tryz.f153 0) (lc_sScopesLa L) := lpOK (fun k => .i ((↑k : Int) < (↑(List.map intC L).length : Int)) (.x (↑k : Int)
 (List.map intC L) [cI (L.getD k 0)] (.c [.rd] (c_sKind (L.getD k 0)) (.i (kindS (L.getD k 0) = 0) (.y true (.o 1 [] [.s (lb false)])) (.i (0 < (↑k : Int)) (.r ((↑k : Int) - 1) (.x
 ((↑k : Int) - 1) (List.map intC L) [cI (L.getD ((↑k : Int) - 1).toNat 0)] (.i (L.getD k 0 ≤ L.getD ((↑k : Int) - 1).toNat 0) (.o 1 [] [.s (lb false)]) (.r ((↑k : Int) + 1) (.g []
 (k + 1) [.s (li ((↑k : Int) + 1))]))))) (.y false (.r ((↑k : Int) + 1) (.g [] (k + 1) [.s (li ((↑k : Int) + 1))]))))))) (.o 0 [] [])) (by
  intro k h; try dsimp only [teasy, nthW, lc_sScopesLa] at h ⊢
  have g1 := okScN_le L L.length (k + 1)
  have g2 := @kindS_zero (L.getD k 0)
  have e : ((k : Int) - 1).toNat = k - 1 := by omega
  have g3 : okScN L (k + 1) = (okScN L k && decide (1 ≤ L.getD k 0 ∧ L.getD k 0 ≤ 99999) && (decide (k = 0) || decide (L.getD (k - 1) 0 < L.getD k 0))) := rfl
  with_reducible repeat' (first | apply And.intro | exact zR | (intro; skip))
  all_goals (try simp only [std, inj] at *)
  all_goals with_reducible repeat' apply And.intro
  all_goals (try (first | exact z | grind [okSc, snocI, snocS, rowSnoc])))
theorem c_sScopes (L : List Int)  : P_c_sScopes L := fnOK Tryz.call153 Tryz.func153 (.z intC L (.l (lc_sScopesLa L) (Sc_sScopesLa L) [] [.s (li 0)] 0 (.t (.s (lb true)) (.t (.s (lb
 false)) .q)))) (by
  dsimp only [teasy, P_c_sScopes, nthW, lc_sScopesLa]
  with_reducible repeat' (first | apply And.intro | exact zR | (intro; skip))
  all_goals (try simp only [std, inj] at *)
  all_goals with_reducible repeat' apply And.intro
  all_goals (try (first | exact z | grind [okScN, snocI, snocS, rowSnoc])))
abbrev P_c_iScopes (L : List Int) : Ct := ⟨158, [], [ll (L.map intC)], [], .sv (lb (okSc L))⟩
def lc_iScopesLa (L : List Int) : Lp Nat := .mk 29 0 (fun x => [(0, ll (List.map intC L)), (5, ll (List.map intC L)), (6, li (↑(List.map intC L).length : Int)), (7, hs x 0)]) (fun
 x => []) (fun k => [.s (li (↑k : Int))]) (fun k => k ≤ L.length ∧ L.length ≤ 9223372036854775807 ∧ okScN L k = true) (fun k => L.length - k) [.mk (okSc L = true) (.exit 0) (fun x
 => []) (fun x => []) [], .mk (okSc L = false) .ret (fun x => [(2, hs x 0)]) (fun x => []) [.s (lb false)]]
theorem Sc_iScopesLa (L : List Int) : Lp.Sem Tryz.prog (loopAt Tryz.f158 0) (lc_iScopesLa L) := lpOK (fun k => .i ((↑k : Int) < (↑(List.map intC L).length : Int)) (.x (↑k : Int)
 (List.map intC L) [cI (L.getD k 0)] (.c [.rd] (c_iKind (L.getD k 0)) (.i (kindS (L.getD k 0) = 0) (.y true (.o 1 [] [.s (lb false)])) (.i (0 < (↑k : Int)) (.r ((↑k : Int) - 1) (.x
 ((↑k : Int) - 1) (List.map intC L) [cI (L.getD ((↑k : Int) - 1).toNat 0)] (.i (L.getD k 0 ≤ L.getD ((↑k : Int) - 1).toNat 0) (.o 1 [] [.s (lb false)]) (.r ((↑k : Int) + 1) (.g []
 (k + 1) [.s (li ((↑k : Int) + 1))]))))) (.y false (.r ((↑k : Int) + 1) (.g [] (k + 1) [.s (li ((↑k : Int) + 1))]))))))) (.o 0 [] [])) (by
  intro k h; try dsimp only [teasy, nthW, lc_iScopesLa] at h ⊢
  have g1 := okScN_le L L.length (k + 1)
  have g2 := @kindS_zero (L.getD k 0)
  have e : ((k : Int) - 1).toNat = k - 1 := by omega
  have g3 : okScN L (k + 1) = (okScN L k && decide (1 ≤ L.getD k 0 ∧ L.getD k 0 ≤ 99999) && (decide (k = 0) || decide (L.getD (k - 1) 0 < L.getD k 0))) := rfl
  with_reducible repeat' (first | apply And.intro | exact zR | (intro; skip))
  all_goals (try simp only [std, inj] at *)
  all_goals with_reducible repeat' apply And.intro
  all_goals (try (first | exact z | grind [okSc, snocI, snocS, rowSnoc])))
theorem c_iScopes (L : List Int)  : P_c_iScopes L := fnOK Tryz.call158 Tryz.func158 (.z intC L (.l (lc_iScopesLa L) (Sc_iScopesLa L) [] [.s (li 0)] 0 (.t (.s (lb true)) (.t (.s (lb
 false)) .q)))) (by
  dsimp only [teasy, P_c_iScopes, nthW, lc_iScopesLa]
  with_reducible repeat' (first | apply And.intro | exact zR | (intro; skip))
  all_goals (try simp only [std, inj] at *)
  all_goals with_reducible repeat' apply And.intro
  all_goals (try (first | exact z | grind [okScN, snocI, snocS, rowSnoc])))
def nodY0 (k n : Int) (t : ByteArray) (s : List Int) (i : Int) : Bool := nodD k n t i && okSc s && (decide ((s.length : Int) = 0) || decide (k = 1))
mutual
def sizeY : Syntax → Nat
  | ⟨_, _, _, _, l⟩ => sizeYs l + 1
def sizeYs : List Syntax → Nat
  | [] => 0
  | c :: r => sizeY c + sizeYs r
end
theorem sizeYs_eq : ∀ l, sizeYs l = sumBy sizeY l
  | [] => by simp [sizeYs, sumBy]
  | c :: r => by rw [sizeYs, sumBy, sizeYs_eq r]
theorem sizeY_eq (c : Syntax) : sizeY c = sumBy sizeY c.items + 1 := by cases c; simp only [sizeY, sizeYs_eq]
mutual
def depY : Syntax → Nat
  | ⟨_, _, _, _, l⟩ => depYs l + 1
def depYs : List Syntax → Nat
  | [] => 0
  | c :: r => max (depY c) (depYs r)
end
theorem depYs_eq : ∀ l, depYs l = maxBy depY l
  | [] => by simp [depYs, maxBy]
  | c :: r => by rw [depYs, maxBy, depYs_eq r]
theorem depY_eq (c : Syntax) : depY c = maxBy depY c.items + 1 := by cases c; simp only [depY, depYs_eq]
theorem depY_le : ∀ c : Syntax, depY c ≤ sizeY c := by
  refine Syntax.ind fun c ih => ?_
  have := maxBy_sum ih
  rw [sizeY_eq, depY_eq]; omega
mutual
def okY : Syntax → Bool
  | ⟨k, n, t, s, l⟩ => okYs l && nodY0 k n t s l.length
def okYs : List Syntax → Bool
  | [] => true
  | c :: r => okY c && okYs r
end
theorem okYs_eq : ∀ l, okYs l = l.all okY
  | [] => by simp [okYs]
  | c :: r => by rw [okYs, okYs_eq r]; rfl
theorem okY_eq (c : Syntax) : okY c = (c.items.all okY && nodY0 c.kind c.number c.text c.scopes c.items.length) := by cases c; simp only [okY, okYs_eq]
def isSyn (d : Syntax) : Bool := decide (sizeY d ≤ 2000) && decide (depY d ≤ 40) && okY d
mutual
def meaY : Syntax → Int → Int → Bool × Int
  | ⟨k, n, t, s, l⟩, deep, m => if deep ≤ 40 ∧ m + 1 ≤ 2000 ∧ nodY0 k n t s l.length = true then meaYs l (deep + 1) (m + 1) else (false, m + 1)
def meaYs : List Syntax → Int → Int → Bool × Int
  | [], _, m => (true, m)
  | x :: r, deep, m => if (meaY x deep m).1 then meaYs r deep (meaY x deep m).2 else (false, (meaY x deep m).2)
end
theorem meaYs_eq : ∀ l deep m, meaYs l deep m = scan (fun x m => meaY x deep m) l m
  | [], _, _ => by simp [meaYs, scan]
  | x :: r, deep, m => by simp only [meaYs, scan, meaYs_eq r]
theorem meaY_eq (c : Syntax) (deep m : Int) : meaY c deep m = if deep ≤ 40 ∧ m + 1 ≤ 2000 ∧ nodY0 c.kind c.number c.text c.scopes c.items.length = true then scan (fun x m => meaY x (deep + 1) m) c.items (m + 1) else (false, m + 1) := by cases c; simp only [meaY, meaYs_eq]
theorem meaY_of : ∀ (c : Syntax) (deep m : Int), m ≤ 2000 → ((meaY c deep m).1 = true ↔ (m + sizeY c ≤ 2000 ∧ (deep + depY c ≤ 41 ∧ okY c = true))) ∧ ((meaY c deep m).1 = true → (meaY c deep m).2 = m + sizeY c) := by
  refine Syntax.ind fun c ih deep m hm => ?_
  rw [meaY_eq, sizeY_eq, depY_eq, okY_eq, Bool.and_eq_true, List.all_eq_true]
  by_cases h : deep ≤ 40 ∧ m + 1 ≤ 2000 ∧ nodY0 c.kind c.number c.text c.scopes c.items.length = true
  · rw [if_pos h]
    have h1 := scan_of (fun x m => meaY x (deep + 1) m) sizeY (fun x => deep + 1 + depY x ≤ 41 ∧ okY x = true) 2000 c.items (fun x hx m hm => ih x hx (deep + 1) m hm) (m + 1) h.2.1
    have h2 := maxBy_le depY (m := (40 - deep).toNat) (L := c.items)
    constructor
    · rw [h1.1]
      constructor
      · rintro ⟨a, b⟩
        have := h2.2 fun x hx => by have := (b x hx).1; omega
        exact ⟨by omega, by omega, fun x hx => (b x hx).2, h.2.2⟩
      · rintro ⟨a, b, d, e⟩
        have := h2.1 (by omega)
        exact ⟨by omega, fun x hx => ⟨by have := this x hx; omega, d x hx⟩⟩
    · intro ht; rw [h1.2 ht]; omega
  · rw [if_neg h]
    refine ⟨⟨fun e => Bool.noConfusion e, ?_⟩, fun e => Bool.noConfusion e⟩
    rintro ⟨a, b, d, e⟩
    exact absurd ⟨by omega, by omega, e⟩ h
theorem meaY_isSyn (d : Syntax) : (meaY d 1 0).1 = isSyn d := by
  have h := (meaY_of d 1 0 (by decide)).1
  rw [Bool.eq_iff_iff, h]
  simp only [isSyn, Bool.and_eq_true, decide_eq_true_eq, and_assoc]
  constructor
  · rintro ⟨a, b, e⟩; exact ⟨by omega, by omega, e⟩
  · rintro ⟨a, b, e⟩; exact ⟨by omega, by omega, e⟩
abbrev P_c_sFewY (d : Syntax) (l : Int) : Ct := ⟨104, [.box [vI l]], [syntaxA d, .one (.ptr 0 0)], [.box [vI (max (l - sizeY d) (-1))]], .sv (lb (decide (sizeY d ≤ l)))⟩
def lc_sFewY_sLa (d : Syntax) (l : Int) : Lp Nat := .mk 36 1 (fun x => [(1, SV.one (AC.ptr 0 0)), (2, SV.one (AC.ptr 1 0)), (5, hs x 0)]) (fun x => [Ob.box [ha x 1], Ob.box (vals
 (syntaxF d))]) (fun k => [.s (li (↑k : Int)), .a (vI (max (l - 1 - (↑(sumBy sizeY (List.take k d.items)) : Int)) (-1 : Int)))]) (fun k => d.items.length ≥ k) (fun k =>
 d.items.length - k) [.mk True (.exit 0) (fun x => [(1, SV.one (AC.ptr 0 0))]) (fun x => [Ob.box [ha x 0]]) [.a (vI (max (l - (↑(sizeY d) : Int)) (-1 : Int)))]]
theorem Sc_sFewY_sLa (d : Syntax) (l : Int) (h : 0 ≤ l ∧ l ≤ 1000000) (ih : ∀ (z : Syntax), z ∈ d.items → ∀ (l : Int), 0 ≤ l ∧ l ≤ 1000000 → OK (P_c_sFewY z l)) : Lp.Sem Tryz.prog
 (loopAt Tryz.f104 0) (lc_sFewY_sLa d l) := lpOK (fun k => .z syntaxC d.items (.i ((↑k : Int) < (↑(List.map syntaxC d.items).length : Int)) (.i (0 ≤ max (l - 1 - (↑(sumBy sizeY
 (List.take k d.items)) : Int)) (-1 : Int)) (.x (↑k : Int) (List.map syntaxC d.items) (syntaxF (d.items.getD k default)) (.d [.rd, .ptr] (P_c_sFewY (d.items.getD k default) (max (l
 - 1 - (↑(sumBy sizeY (List.take k d.items)) : Int)) (-1 : Int))) (.r ((↑k : Int) + 1) (.g [0, 1] (k + 1) [.s (li ((↑k : Int) + 1)), .a (vI (max (max (l - 1 - (↑(sumBy sizeY
 (List.take k d.items)) : Int)) (-1 : Int) - (↑(sizeY (d.items.getD k default)) : Int)) (-1 : Int)))])))) (.o 0 [0] [.a (vI (max (l - 1 - (↑(sumBy sizeY (List.take k d.items)) :
 Int)) (-1 : Int)))])) (.y false (.o 0 [0] [.a (vI (max (l - 1 - (↑(sumBy sizeY (List.take k d.items)) : Int)) (-1 : Int)))])))) (by
  intro k h; try dsimp only [teasy, nthW, lc_sFewY_sLa] at h ⊢
  have g1 := sizeY_eq d
  have g2 := sumBy_takeLe sizeY d.items k
  have g3 := @sumBy_step _ _ sizeY d.items k
  with_reducible repeat' (first | apply And.intro | exact zR | exact ih | (intro; skip) | apply ih)
  all_goals (try simp only [std, inj] at *)
  all_goals with_reducible repeat' apply And.intro
  all_goals (try (first | with_reducible apply ih | (simp only [← List.map_append]; first | with_reducible apply ih)))
  all_goals (try (first | exact z | grind [getD_mem', snocI, snocS, rowSnoc])))
theorem c_sFewY_s (d : Syntax) (l : Int) (h : 0 ≤ l ∧ l ≤ 1000000) (ih : ∀ z ∈ d.items, ∀ (l : Int) (h : 0 ≤ l ∧ l ≤ 1000000), P_c_sFewY z l)  : P_c_sFewY d l := fnOK Tryz.call104
 Tryz.func104 (.r (l - 1) (.l (lc_sFewY_sLa d l) (Sc_sFewY_sLa d l h ih) [0, 1] [.s (li 0), .a (vI (l - 1))] 0 (.t (.f [] [Ob.box [vI (max (l - (↑(sizeY d) : Int)) (-1 : Int))]]
 (AV.sv (lb (decide (0 ≤ max (l - (↑(sizeY d) : Int)) (-1 : Int)))))) .q))) (by
  dsimp only [teasy, P_c_sFewY, nthW, lc_sFewY_sLa]
  have g1 := sizeY_eq d
  have g2 : sumBy sizeY (d.items.take 0) = 0 := rfl
  with_reducible repeat' (first | apply And.intro | exact zR | exact ih | (intro; skip))
  all_goals (try simp only [std, inj] at *)
  all_goals with_reducible repeat' apply And.intro
  all_goals (try (first | with_reducible apply ih | (simp only [← List.map_append]; first | with_reducible apply ih)))
  all_goals (try (first | exact z | grind [snocI, snocS, rowSnoc])))
theorem c_sFewY (d : Syntax) : ∀ (l : Int) (h : 0 ≤ l ∧ l ≤ 1000000), P_c_sFewY d l := Syntax.ind (P := fun d => ∀ (l : Int) (h : 0 ≤ l ∧ l ≤ 1000000), P_c_sFewY d l) (fun d ih l h => c_sFewY_s d l h ih) d
abbrev P_c_sDepY (d : Syntax) : Ct := ⟨105, [], [syntaxA d], [], .sv (li (depY d))⟩
def lc_sDepY_sLa (d : Syntax) : Lp Nat := .mk 20 0 (fun x => [(3, hs x 1), (7, ll (List.map syntaxC d.items)), (8, li (↑(List.map syntaxC d.items).length : Int)), (9, hs x 0)])
 (fun x => []) (fun k => [.s (li (↑k : Int)), .s (li (↑(maxBy depY (List.take k d.items)) : Int))]) (fun k => k ≤ d.items.length ∧ d.items.length ≤ 9223372036854775807) (fun k =>
 d.items.length - k) [.mk True (.exit 0) (fun x => [(3, hs x 0)]) (fun x => []) [.s (li (↑(maxBy depY d.items) : Int))]]
theorem Sc_sDepY_sLa (d : Syntax) (h : sizeY d ≤ 2147483647) (ih : ∀ (z : Syntax), z ∈ d.items → sizeY z ≤ 2147483647 → OK (P_c_sDepY z)) : Lp.Sem Tryz.prog (loopAt Tryz.f105 0)
 (lc_sDepY_sLa d) := lpOK (fun k => .i ((↑k : Int) < (↑(List.map syntaxC d.items).length : Int)) (.x (↑k : Int) (List.map syntaxC d.items) (syntaxF (d.items.getD k default)) (.d
 [.rd] (P_c_sDepY (d.items.getD k default)) (.r ((↑k : Int) + 1) (.g [] (k + 1) [.s (li ((↑k : Int) + 1)), .s (li (max (↑(maxBy depY (List.take k d.items)) : Int) (↑(depY
 (d.items.getD k default)) : Int)))])))) (.o 0 [] [.s (li (↑(maxBy depY (List.take k d.items)) : Int))])) (by
  intro k h; try dsimp only [teasy, nthW, lc_sDepY_sLa] at h ⊢
  have g1 := sizeY_eq d
  have g2 := @sumBy_mem _ sizeY d.items (d.items.getD k default)
  with_reducible repeat' (first | apply And.intro | exact zR | exact ih | (intro; skip) | apply ih)
  all_goals (try simp only [std, inj] at *)
  all_goals with_reducible repeat' apply And.intro
  all_goals (try (first | with_reducible apply ih | (simp only [← List.map_append]; first | with_reducible apply ih)))
  all_goals (try (first | exact z | grind [maxBy_step, getD_mem', snocI, snocS, rowSnoc])))
theorem c_sDepY_s (d : Syntax) (h : sizeY d ≤ 2147483647) (ih : ∀ z ∈ d.items, ∀ (h : sizeY z ≤ 2147483647), P_c_sDepY z)  : P_c_sDepY d := fnOK Tryz.call105 Tryz.func105 (.z syntaxC
 d.items (.l (lc_sDepY_sLa d) (Sc_sDepY_sLa d h ih) [] [.s (li 0), .s (li 0)] 0 (.t (.r ((↑(maxBy depY d.items) : Int) + 1) (.s (li ((↑(maxBy depY d.items) : Int) + 1)))) .q))) (by
  dsimp only [teasy, P_c_sDepY, nthW, lc_sDepY_sLa]
  have h1 := depY_le d
  have g2 : maxBy depY (d.items.take 0) = 0 := rfl
  with_reducible repeat' (first | apply And.intro | exact zR | exact ih | (intro; skip))
  all_goals (try simp only [std, inj] at *)
  all_goals with_reducible repeat' apply And.intro
  all_goals (try (first | with_reducible apply ih | (simp only [← List.map_append]; first | with_reducible apply ih)))
  all_goals (try (first | exact z | grind [depY_eq, snocI, snocS, rowSnoc])))
theorem c_sDepY (d : Syntax) : ∀ (h : sizeY d ≤ 2147483647), P_c_sDepY d := Syntax.ind (P := fun d => ∀ (h : sizeY d ≤ 2147483647), P_c_sDepY d) (fun d ih h => c_sDepY_s d h ih) d
abbrev P_c_sOkY (d : Syntax) : Ct := ⟨106, [], [syntaxA d], [], .sv (lb (okY d))⟩
def lc_sOkY_sLa (d : Syntax) : Lp Nat := .mk 42 0 (fun x => [(1, SV.one (AC.ptr 0 0)), (6, ll (List.map syntaxC d.items)), (7, li (↑(List.map syntaxC d.items).length : Int)), (8,
 hs x 0)]) (fun x => [Ob.box (vals (syntaxF d))]) (fun k => [.s (li (↑k : Int))]) (fun k => k ≤ d.items.length ∧ d.items.length ≤ 9223372036854775807 ∧ (List.take k d.items).all
 okY = true) (fun k => d.items.length - k) [.mk (d.items.all okY = true) (.exit 0) (fun x => [(1, SV.one (AC.ptr 0 0))]) (fun x => [Ob.box (vals (syntaxF d))]) [], .mk (d.items.all
 okY = false) .ret (fun x => [(2, hs x 0)]) (fun x => []) [.s (lb false)]]
theorem Sc_sOkY_sLa (d : Syntax) (ih : ∀ (z : Syntax), z ∈ d.items → OK (P_c_sOkY z)) : Lp.Sem Tryz.prog (loopAt Tryz.f106 0) (lc_sOkY_sLa d) := lpOK (fun k => .i ((↑k : Int) <
 (↑(List.map syntaxC d.items).length : Int)) (.x (↑k : Int) (List.map syntaxC d.items) (syntaxF (d.items.getD k default)) (.d [.rd] (P_c_sOkY (d.items.getD k default)) (.b (!okY
 (d.items.getD k default)) (.o 1 [] [.s (lb false)]) (.r ((↑k : Int) + 1) (.g [0] (k + 1) [.s (li ((↑k : Int) + 1))]))))) (.o 0 [0] [])) (by
  intro k h; try dsimp only [teasy, nthW, lc_sOkY_sLa] at h ⊢
  with_reducible repeat' (first | apply And.intro | exact zR | exact ih | (intro; skip) | apply ih)
  all_goals (try simp only [std, inj] at *)
  all_goals with_reducible repeat' apply And.intro
  all_goals (try (first | with_reducible apply ih | (simp only [← List.map_append]; first | with_reducible apply ih)))
  all_goals (try (first | exact z | grind [take_get, getD_mem', snocI, snocS, rowSnoc])))
theorem c_sOkY_s (d : Syntax) (ih : ∀ z ∈ d.items, P_c_sOkY z)  : P_c_sOkY d := fnOK Tryz.call106 Tryz.func106 (.z syntaxC d.items (.l (lc_sOkY_sLa d) (Sc_sOkY_sLa d ih) [0] [.s (li
 0)] 0 (.t (.z syntaxC d.items (.c [.rd, .rd, .rd, .rd] (c_sNode d.kind d.number d.text (↑(List.map syntaxC d.items).length : Int)) (.b (nodD d.kind d.number d.text (↑(List.map
 syntaxC d.items).length : Int)) (.c [.rd] (c_sScopes d.scopes) (.b (okSc d.scopes) (.z intC d.scopes (.i ((↑(List.map intC d.scopes).length : Int) = 0) (.s (lb true)) (.s (lb
 (decide (d.kind = 1)))))) (.s (lb false)))) (.y false (.s (lb false)))))) (.t (.s (lb false)) .q)))) (by
  dsimp only [teasy, P_c_sOkY, nthW, lc_sOkY_sLa]
  with_reducible repeat' (first | apply And.intro | exact zR | exact ih | (intro; skip))
  all_goals (try simp only [std, inj] at *)
  all_goals with_reducible repeat' apply And.intro
  all_goals (try (first | with_reducible apply ih | (simp only [← List.map_append]; first | with_reducible apply ih)))
  all_goals (try (first | exact z | grind [okY_eq, nodY0, snocI, snocS, rowSnoc])))
theorem c_sOkY (d : Syntax) : P_c_sOkY d := Syntax.ind (P := fun d => P_c_sOkY d) (fun d ih => c_sOkY_s d ih) d
abbrev P_c_sIsSyntax (d : Syntax) : Ct := ⟨54, [], [syntaxA d], [], .sv (lb (isSyn d))⟩
theorem c_sIsSyntax (d : Syntax)  : P_c_sIsSyntax d := fnOK Tryz.call54 Tryz.func54 (.d [.rd, .ptr] (P_c_sFewY d 2000) (.i ((↑(sizeY d) : Int) ≤ 2000) (.d [.rd] (P_c_sDepY d) (.i
 ((↑(depY d) : Int) ≤ 40) (.c [.rd] (c_sOkY d) (.s (lb (okY d)))) (.s (lb false)))) (.y false (.s (lb false))))) (by
  dsimp only [teasy, P_c_sIsSyntax]
  with_reducible repeat' (first | apply And.intro | exact zR | (intro; skip) | apply c_sFewY | apply c_sDepY)
  all_goals (try simp only [std, inj] at *)
  all_goals with_reducible repeat' apply And.intro
  all_goals (try (first | with_reducible apply c_sFewY | with_reducible apply c_sDepY | (simp only [← List.map_append]; first | with_reducible apply c_sFewY | with_reducible apply c_sDepY)))
  all_goals (try (first | exact z | grind [isSyn, snocI, snocS, rowSnoc])))
abbrev P_c_iMeaY (d : Syntax) (deep : Int) (q : Int) : Ct := ⟨116, [.box [vI q]], [syntaxA d, li deep, .one (.ptr 0 0)], [.box [vI (meaY d deep q).2]], .sv (lb (meaY d deep q).1)⟩
def lc_iMeaY_sLa (d : Syntax) (deep : Int) (q : Int) : Lp Nat := .mk 64 1 (fun x => [(1, li deep), (2, SV.one (AC.ptr 0 0)), (51, ll (List.map syntaxC d.items)), (52, li
 (↑(List.map syntaxC d.items).length : Int)), (53, hs x 0)]) (fun x => [Ob.box [ha x 1]]) (fun k => [.s (li (↑k : Int)), .a (vI (scan (fun x m => meaY x (deep + 1) m) (List.take k
 d.items) (q + 1)).snd)]) (fun k => k ≤ d.items.length ∧ d.items.length ≤ 9223372036854775807 ∧ deep ≤ 40 ∧ (scan (fun x m => meaY x (deep + 1) m) (List.take k d.items) (q +
 1)).fst = true ∧ q ≤ (scan (fun x m => meaY x (deep + 1) m) (List.take k d.items) (q + 1)).snd ∧ (scan (fun x m => meaY x (deep + 1) m) (List.take k d.items) (q + 1)).snd ≤ 2000)
 (fun k => d.items.length - k) [.mk ((scan (fun x m => meaY x (deep + 1) m) d.items (q + 1)).fst = true) (.exit 0) (fun x => []) (fun x => [Ob.box [ha x 0]]) [.a (vI (scan (fun x m
 => meaY x (deep + 1) m) d.items (q + 1)).snd)], .mk ((scan (fun x m => meaY x (deep + 1) m) d.items (q + 1)).fst = false) .ret (fun x => [(6, hs x 0)]) (fun x => [Ob.box [ha x
 1]]) [.s (lb false), .a (vI (scan (fun x m => meaY x (deep + 1) m) d.items (q + 1)).snd)]]
theorem Sc_iMeaY_sLa (d : Syntax) (deep : Int) (q : Int) (h : 0 ≤ deep ∧ deep ≤ 41 ∧ 0 ≤ q ∧ q ≤ 2000) (ih : ∀ (z : Syntax), z ∈ d.items → ∀ (deep q : Int), 0 ≤ deep ∧ deep ≤ 41 ∧
 0 ≤ q ∧ q ≤ 2000 → OK (P_c_iMeaY z deep q)) : Lp.Sem Tryz.prog (loopAt Tryz.f116 0) (lc_iMeaY_sLa d deep q) := lpOK (fun k => .i ((↑k : Int) < (↑(List.map syntaxC d.items).length
 : Int)) (.x (↑k : Int) (List.map syntaxC d.items) (syntaxF (d.items.getD k default)) (.r (deep + 1) (.d [.rd, .rd, .ptr] (P_c_iMeaY (d.items.getD k default) (deep + 1) (scan (fun
 x m => meaY x (deep + 1) m) (List.take k d.items) (q + 1)).snd) (.b (!(meaY (d.items.getD k default) (deep + 1) (scan (fun x m => meaY x (deep + 1) m) (List.take k d.items) (q +
 1)).snd).fst) (.o 1 [0] [.s (lb false), .a (vI (meaY (d.items.getD k default) (deep + 1) (scan (fun x m => meaY x (deep + 1) m) (List.take k d.items) (q + 1)).snd).snd)]) (.r ((↑k
 : Int) + 1) (.g [0] (k + 1) [.s (li ((↑k : Int) + 1)), .a (vI (meaY (d.items.getD k default) (deep + 1) (scan (fun x m => meaY x (deep + 1) m) (List.take k d.items) (q +
 1)).snd).snd)])))))) (.o 0 [0] [.a (vI (scan (fun x m => meaY x (deep + 1) m) (List.take k d.items) (q + 1)).snd)])) (by
  intro k h; try dsimp only [teasy, nthW, lc_iMeaY_sLa] at h ⊢
  have g1 := fun x m => meaY_of x (deep + 1) m
  with_reducible repeat' (first | apply And.intro | exact zR | exact ih | (intro; skip) | apply ih)
  all_goals (try simp only [std, inj] at *)
  all_goals with_reducible repeat' apply And.intro
  all_goals (try (first | with_reducible apply ih | (simp only [← List.map_append]; first | with_reducible apply ih)))
  all_goals (try (first | exact z | grind [scan_step, scan_stop, getD_mem', snocI, snocS, rowSnoc])))
theorem c_iMeaY_s (d : Syntax) (deep q : Int) (h : 0 ≤ deep ∧ deep ≤ 41 ∧ 0 ≤ q ∧ q ≤ 2000) (ih : ∀ z ∈ d.items, ∀ (deep : Int) (q : Int) (h : 0 ≤ deep ∧ deep ≤ 41 ∧ 0 ≤ q ∧ q ≤
 2000), P_c_iMeaY z deep q)  : P_c_iMeaY d deep q := fnOK Tryz.call116 Tryz.func116 (.r (q + 1) (.i (40 < deep) (.y true (.y true (.f [] [Ob.box [vI (q + 1)]] (AV.sv (lb false)))))
 (.i (2000 < q + 1) (.y true (.f [] [Ob.box [vI (q + 1)]] (AV.sv (lb false)))) (.z syntaxC d.items (.c [.rd, .rd, .rd, .rd] (c_iNode d.kind d.number d.text (↑(List.map syntaxC
 d.items).length : Int)) (.b (!nodD d.kind d.number d.text (↑(List.map syntaxC d.items).length : Int)) (.f [] [Ob.box [vI (q + 1)]] (AV.sv (lb false))) (.i (d.kind ≠ 1) (.z intC
 d.scopes (.i (0 < (↑(List.map intC d.scopes).length : Int)) (.y true (.f [] [Ob.box [vI (q + 1)]] (AV.sv (lb false)))) (.c [.rd] (c_iScopes d.scopes) (.b (!okSc d.scopes) (.f []
 [Ob.box [vI (q + 1)]] (AV.sv (lb false))) (.z syntaxC d.items (.l (lc_iMeaY_sLa d deep q) (Sc_iMeaY_sLa d deep q h ih) [0] [.s (li 0), .a (vI (q + 1))] 0 (.t (.f [] [Ob.box [vI
 (scan (fun x m => meaY x (deep + 1) m) d.items (q + 1)).snd]] (AV.sv (lb true))) (.t (.f [] [Ob.box [vI (scan (fun x m => meaY x (deep + 1) m) d.items (q + 1)).snd]] (AV.sv (lb
 false))) .q)))))))) (.y false (.c [.rd] (c_iScopes d.scopes) (.b (!okSc d.scopes) (.f [] [Ob.box [vI (q + 1)]] (AV.sv (lb false))) (.z syntaxC d.items (.l (lc_iMeaY_sLa d deep q)
 (Sc_iMeaY_sLa d deep q h ih) [0] [.s (li 0), .a (vI (q + 1))] 0 (.t (.f [] [Ob.box [vI (scan (fun x m => meaY x (deep + 1) m) d.items (q + 1)).snd]] (AV.sv (lb true))) (.t (.f []
 [Ob.box [vI (scan (fun x m => meaY x (deep + 1) m) d.items (q + 1)).snd]] (AV.sv (lb false))) .q)))))))))))))) (by
  dsimp only [teasy, P_c_iMeaY, nthW, lc_iMeaY_sLa]
  with_reducible repeat' (first | apply And.intro | exact zR | exact ih | (intro; skip))
  all_goals (try simp only [std, inj] at *)
  all_goals with_reducible repeat' apply And.intro
  all_goals (try (first | with_reducible apply ih | (simp only [← List.map_append]; first | with_reducible apply ih)))
  all_goals (try (first | exact z | grind [meaY_eq, scan, nodY0, snocI, snocS, rowSnoc])))
theorem c_iMeaY (d : Syntax) : ∀ (deep : Int) (q : Int) (h : 0 ≤ deep ∧ deep ≤ 41 ∧ 0 ≤ q ∧ q ≤ 2000), P_c_iMeaY d deep q := Syntax.ind (P := fun d => ∀ (deep : Int) (q : Int) (h : 0 ≤ deep ∧ deep ≤ 41 ∧ 0 ≤ q ∧ q ≤ 2000), P_c_iMeaY d deep q) (fun d ih deep q h => c_iMeaY_s d deep q h ih) d
abbrev P_c_iIsSyntax (d : Syntax) : Ct := ⟨65, [], [syntaxA d], [], .sv (lb (isSyn d))⟩
theorem c_iIsSyntax (d : Syntax)  : P_c_iIsSyntax d := fnOK Tryz.call65 Tryz.func65 (.d [.rd, .rd, .ptr] (P_c_iMeaY d 1 0) (.s (lb (meaY d 1 0).fst))) (by
  dsimp only [teasy, P_c_iIsSyntax]
  with_reducible repeat' (first | apply And.intro | exact zR | (intro; skip) | apply c_iMeaY)
  all_goals (try simp only [std, inj] at *)
  all_goals with_reducible repeat' apply And.intro
  all_goals (try (first | with_reducible apply c_iMeaY | (simp only [← List.map_append]; first | with_reducible apply c_iMeaY)))
  all_goals (try (first | exact z | grind [meaY_isSyn, snocI, snocS, rowSnoc])))
abbrev P_c_sIsId (s : Syntax) : Ct := ⟨103, [], [syntaxA s], [], .sv (lb (decide (s.kind = 1) && isSyn s))⟩
theorem c_sIsId (s : Syntax)  : P_c_sIsId s := fnOK Tryz.call103 Tryz.func103 (.i (s.kind = 1) (.c [.rd] (c_sIsSyntax s) (.s (lb (isSyn s)))) (.s (lb false))) (by
  dsimp only [teasy, P_c_sIsId]
  with_reducible repeat' (first | apply And.intro | exact zR | (intro; skip))
  all_goals (try simp only [std, inj] at *)
  all_goals with_reducible repeat' apply And.intro
  all_goals (try (first | exact z | grind [snocI, snocS, rowSnoc])))
abbrev P_c_iIsId (s : Syntax) : Ct := ⟨114, [], [syntaxA s], [], .sv (lb (decide (s.kind = 1) && isSyn s))⟩
theorem c_iIsId (s : Syntax)  : P_c_iIsId s := fnOK Tryz.call114 Tryz.func114 (.i (s.kind = 1) (.c [.rd] (c_iIsSyntax s) (.s (lb (isSyn s)))) (.s (lb false))) (by
  dsimp only [teasy, P_c_iIsId]
  with_reducible repeat' (first | apply And.intro | exact zR | (intro; skip))
  all_goals (try simp only [std, inj] at *)
  all_goals with_reducible repeat' apply And.intro
  all_goals (try (first | exact z | grind [snocI, snocS, rowSnoc])))
end Go.Proofs.YtclpofblehlojaaGreatDoor
end
section
namespace Go.Proofs.YtclpofblehlojaaGreatDoor
open Go Go.Proofs.YtclpofblehlojaaGreatDoor.Ab
set_option linter.unusedVariables false
set_option linter.unusedSimpArgs false
set_option maxHeartbeats 4000000
abbrev P_c_sSameInts (A : List Int) (B : List Int) : Ct := ⟨195, [], [ll (A.map intC), ll (B.map intC)], [], .sv (lb (decide (A = B)))⟩
def lc_sSameIntsLa (A : List Int) (B : List Int) : Lp Nat := .mk 26 0 (fun x => [(0, ll (List.map intC A)), (1, ll (List.map intC B)), (12, li (↑(List.map intC A).length : Int)),
 (13, hs x 0)]) (fun x => []) (fun k => [.s (li (↑k : Int))]) (fun k => k ≤ A.length ∧ A.length ≤ 9223372036854775807 ∧ A.length = B.length ∧ List.take k A = List.take k B) (fun k
 => A.length - k) [.mk (A = B) (.exit 0) (fun x => []) (fun x => []) [], .mk (A ≠ B) .ret (fun x => [(4, hs x 0)]) (fun x => []) [.s (lb false)]]
theorem Sc_sSameIntsLa (A : List Int) (B : List Int) : Lp.Sem Tryz.prog (loopAt Tryz.f195 0) (lc_sSameIntsLa A B) := lpOK (fun k => .i ((↑k : Int) < (↑(List.map intC A).length :
 Int)) (.w (.draw []) (.x (↑k : Int) (List.map intC A) [cI (A.getD k 0)] (.x (↑k : Int) (List.map intC B) [cI (B.getD k 0)] (.i (A.getD k (0 : Int) ≠ B.getD k 0) (.o 1 [] [.s (lb
 false)]) (.r ((↑k : Int) + 1) (.g [] (k + 1) [.s (li ((↑k : Int) + 1))])))))) (.o 0 [] [])) (by
  intro k h; try dsimp only [teasy, nthW, lc_sSameIntsLa] at h ⊢
  with_reducible repeat' (first | apply And.intro | exact zR | (intro; skip))
  all_goals (try simp only [std, inj] at *)
  all_goals with_reducible repeat' apply And.intro
  all_goals (try (first | exact z | grind [take_eq, snocI, snocS, rowSnoc])))
theorem c_sSameInts (A B : List Int)  : P_c_sSameInts A B := fnOK Tryz.call195 Tryz.func195 (.z intC A (.z intC B (.i ((↑(List.map intC A).length : Int) ≠ (↑(List.map intC B).length
 : Int)) (.s (lb false)) (.z intC A (.l (lc_sSameIntsLa A B) (Sc_sSameIntsLa A B) [] [.s (li 0)] 0 (.t (.s (lb true)) (.t (.s (lb false)) .q))))))) (by
  dsimp only [teasy, P_c_sSameInts, nthW, lc_sSameIntsLa]
  with_reducible repeat' (first | apply And.intro | exact zR | (intro; skip))
  all_goals (try simp only [std, inj] at *)
  all_goals with_reducible repeat' apply And.intro
  all_goals (try (first | exact z | grind [snocI, snocS, rowSnoc])))
abbrev P_c_iSameInts (A : List Int) (B : List Int) : Ct := ⟨42, [], [ll (A.map intC), ll (B.map intC)], [], .sv (lb (decide (A = B)))⟩
def lc_iSameIntsLa (A : List Int) (B : List Int) : Lp Nat := .mk 26 0 (fun x => [(0, ll (List.map intC A)), (1, ll (List.map intC B)), (12, li (↑(List.map intC A).length : Int)),
 (13, hs x 0)]) (fun x => []) (fun k => [.s (li (↑k : Int))]) (fun k => k ≤ A.length ∧ A.length ≤ 9223372036854775807 ∧ A.length = B.length ∧ List.take k A = List.take k B) (fun k
 => A.length - k) [.mk (A = B) (.exit 0) (fun x => []) (fun x => []) [], .mk (A ≠ B) .ret (fun x => [(4, hs x 0)]) (fun x => []) [.s (lb false)]]
theorem Sc_iSameIntsLa (A : List Int) (B : List Int) : Lp.Sem Tryz.prog (loopAt Tryz.f42 0) (lc_iSameIntsLa A B) := lpOK (fun k => .i ((↑k : Int) < (↑(List.map intC A).length :
 Int)) (.w (.draw []) (.x (↑k : Int) (List.map intC A) [cI (A.getD k 0)] (.x (↑k : Int) (List.map intC B) [cI (B.getD k 0)] (.i (A.getD k (0 : Int) ≠ B.getD k 0) (.o 1 [] [.s (lb
 false)]) (.r ((↑k : Int) + 1) (.g [] (k + 1) [.s (li ((↑k : Int) + 1))])))))) (.o 0 [] [])) (by
  intro k h; try dsimp only [teasy, nthW, lc_iSameIntsLa] at h ⊢
  with_reducible repeat' (first | apply And.intro | exact zR | (intro; skip))
  all_goals (try simp only [std, inj] at *)
  all_goals with_reducible repeat' apply And.intro
  all_goals (try (first | exact z | grind [take_eq, snocI, snocS, rowSnoc])))
theorem c_iSameInts (A B : List Int)  : P_c_iSameInts A B := fnOK Tryz.call42 Tryz.func42 (.z intC A (.z intC B (.i ((↑(List.map intC A).length : Int) ≠ (↑(List.map intC B).length :
 Int)) (.s (lb false)) (.z intC A (.l (lc_iSameIntsLa A B) (Sc_iSameIntsLa A B) [] [.s (li 0)] 0 (.t (.s (lb true)) (.t (.s (lb false)) .q))))))) (by
  dsimp only [teasy, P_c_iSameInts, nthW, lc_iSameIntsLa]
  with_reducible repeat' (first | apply And.intro | exact zR | (intro; skip))
  all_goals (try simp only [std, inj] at *)
  all_goals with_reducible repeat' apply And.intro
  all_goals (try (first | exact z | grind [snocI, snocS, rowSnoc])))
end Go.Proofs.YtclpofblehlojaaGreatDoor
end
section
namespace Go.Proofs.YtclpofblehlojaaGreatDoor
open Go Go.Proofs.YtclpofblehlojaaGreatDoor.Ab
set_option linter.unusedVariables false
set_option linter.unusedSimpArgs false
set_option maxHeartbeats 4000000
def dotsB : List UInt8 := [46, 46, 46]
def isDots (s : Syntax) : Bool := decide (s.kind = 1) && decide (s.text.data.toList = dotsB)
def isId (s : Syntax) : Bool := decide (s.kind = 1) && isSyn s
def capFor (s : Syntax) (x : Capture) : Bool := decide (x.name.text = s.text) && decide (x.name.scopes = s.scopes) && isId x.name
def fndN (L : List Capture) (s : Syntax) : Nat := L.findIdx (capFor s)
def fnd (L : List Capture) (s : Syntax) : Int := if isDots s = false ∧ fndN L s < L.length then fndN L s else -1
theorem fndN_at {L : List Capture} {s : Syntax} {k : Nat} (hk : k < L.length) (hb : k ≤ fndN L s) (h : capFor s (L.getD k default) = true) : fndN L s = k := by
  have h1 : L.getD k default = L[k] := by simp [hk]
  rw [h1] at h
  rcases Nat.lt_or_ge k (fndN L s) with h2 | h2
  · have := List.not_of_lt_findIdx h2
    simp [h] at this
  · omega
theorem fndN_next {L : List Capture} {s : Syntax} {k : Nat} (hk : k < L.length) (hb : k ≤ fndN L s) (h : capFor s (L.getD k default) = false) : k + 1 ≤ fndN L s := by
  have h1 : L.getD k default = L[k] := by simp [hk]
  rw [h1] at h
  rcases Nat.lt_or_ge k (fndN L s) with h2 | h2
  · exact h2
  · have e : fndN L s = k := by omega
    have := List.findIdx_getElem (p := capFor s) (xs := L) (w := by show fndN L s < _; omega)
    have h3 : capFor s (L[fndN L s]'(by omega)) = true := this
    simp only [e, h] at h3
    exact absurd h3 (by decide)
theorem fndN_le (L : List Capture) (s : Syntax) : fndN L s ≤ L.length := List.findIdx_le_length
theorem fnd_lt (L : List Capture) (s : Syntax) : -1 ≤ fnd L s ∧ fnd L s < L.length := by
  unfold fnd; split <;> omega
abbrev P_c_sDots (s : Syntax) : Ct := ⟨55, [], [syntaxA s], [], .sv (lb (isDots s))⟩
theorem c_sDots (s : Syntax)  : P_c_sDots s := fnOK Tryz.call55 Tryz.func55 (.i (s.kind = 1) (.s (lb (decide (s.text.data.toList = [(46 : UInt8), (46 : UInt8), (46 : UInt8)])))) (.s
 (lb false))) (by
  dsimp only [teasy, P_c_sDots]
  with_reducible repeat' (first | apply And.intro | exact zR | (intro; skip))
  all_goals (try simp only [std, inj] at *)
  all_goals with_reducible repeat' apply And.intro
  all_goals (try (first | exact z | grind [isDots, dotsB, snocI, snocS, rowSnoc])))
abbrev P_c_iDots (s : Syntax) : Ct := ⟨66, [], [syntaxA s], [], .sv (lb (isDots s))⟩
theorem c_iDots (s : Syntax)  : P_c_iDots s := fnOK Tryz.call66 Tryz.func66 (.i (s.kind = 1) (.s (lb (decide (s.text.data.toList = [(46 : UInt8), (46 : UInt8), (46 : UInt8)])))) (.s
 (lb false))) (by
  dsimp only [teasy, P_c_iDots]
  with_reducible repeat' (first | apply And.intro | exact zR | (intro; skip))
  all_goals (try simp only [std, inj] at *)
  all_goals with_reducible repeat' apply And.intro
  all_goals (try (first | exact z | grind [isDots, dotsB, snocI, snocS, rowSnoc])))
abbrev P_c_sSame (a : Syntax) (b : Syntax) : Ct := ⟨154, [], [syntaxA a, syntaxA b], [], .sv (lb (decide (a.text = b.text) && decide (a.scopes = b.scopes)))⟩
theorem c_sSame (a b : Syntax)  : P_c_sSame a b := fnOK Tryz.call154 Tryz.func154 (.i (a.text.data.toList = b.text.data.toList) (.c [.rd, .rd] (c_sSameInts a.scopes b.scopes) (.s (lb
 (decide (a.scopes = b.scopes))))) (.s (lb false))) (by
  dsimp only [teasy, P_c_sSame]
  with_reducible repeat' (first | apply And.intro | exact zR | (intro; skip))
  all_goals (try simp only [std, inj] at *)
  all_goals with_reducible repeat' apply And.intro
  all_goals (try (first | exact z | grind [bytes_ext, snocI, snocS, rowSnoc])))
abbrev P_c_iSame (a : Syntax) (b : Syntax) : Ct := ⟨160, [], [syntaxA a, syntaxA b], [], .sv (lb (decide (a.kind = 1) && decide (b.kind = 1) && decide (a.text = b.text) && decide (a.scopes = b.scopes)))⟩
theorem c_iSame (a b : Syntax)  : P_c_iSame a b := fnOK Tryz.call160 Tryz.func160 (.i (a.kind = 1) (.i (b.kind = 1) (.i (a.text.data.toList = b.text.data.toList) (.c [.rd, .rd]
 (c_iSameInts a.scopes b.scopes) (.s (lb (decide (a.scopes = b.scopes))))) (.s (lb false))) (.y false (.s (lb false)))) (.y false (.y false (.s (lb false))))) (by
  dsimp only [teasy, P_c_iSame]
  with_reducible repeat' (first | apply And.intro | exact zR | (intro; skip))
  all_goals (try simp only [std, inj] at *)
  all_goals with_reducible repeat' apply And.intro
  all_goals (try (first | exact z | grind [bytes_ext, snocI, snocS, rowSnoc])))
abbrev P_c_sFind (L : List Capture) (s : Syntax) : Ct := ⟨108, [], [ll (L.map captureC), syntaxA s], [], .sv (li (fnd L s))⟩
def lc_sFindLa (L : List Capture) (s : Syntax) : Lp Nat := .mk 30 0 (fun x => [(3, SV.one (AC.ptr 0 0)), (7, ll (List.map captureC L)), (8, li (↑(List.map captureC L).length :
 Int)), (9, hs x 0)]) (fun x => [Ob.box (vals (syntaxF s))]) (fun k => [.s (li (↑k : Int))]) (fun k => k ≤ L.length ∧ L.length ≤ 9223372036854775807 ∧ (isDots s = true ∨ k ≤ fndN L
 s)) (fun k => L.length - k) [.mk (fnd L s = (-1 : Int)) (.exit 0) (fun x => []) (fun x => []) [], .mk True .ret (fun x => [(4, hs x 0)]) (fun x => []) [.s (li (fnd L s))]]
theorem Sc_sFindLa (L : List Capture) (s : Syntax) : Lp.Sem Tryz.prog (loopAt Tryz.f108 0) (lc_sFindLa L s) := lpOK (fun k => .i ((↑k : Int) < (↑(List.map captureC L).length :
 Int)) (.x (↑k : Int) (List.map captureC L) (captureF (L.getD k default)) (.c [.rd, .rd] (c_sSame (L.getD k default).name s) (.b (decide ((L.getD k default).name.text = s.text) &&
 decide ((L.getD k default).name.scopes = s.scopes)) (.c [.rd] (c_sDots s) (.b (!isDots s) (.c [.rd] (c_sIsId (L.getD k default).name) (.b (decide ((L.getD k default).name.kind =
 1) && isSyn (L.getD k default).name) (.o 1 [] [.s (li (↑k : Int))]) (.r ((↑k : Int) + 1) (.g [0] (k + 1) [.s (li ((↑k : Int) + 1))])))) (.y false (.r ((↑k : Int) + 1) (.g [0] (k +
 1) [.s (li ((↑k : Int) + 1))]))))) (.y false (.y false (.r ((↑k : Int) + 1) (.g [0] (k + 1) [.s (li ((↑k : Int) + 1))]))))))) (.o 0 [] [])) (by
  intro k h; try dsimp only [teasy, nthW, lc_sFindLa] at h ⊢
  have g1 := @fndN_at L s k
  have g2 := @fndN_next L s k
  have g3 := fndN_le L s
  with_reducible repeat' (first | apply And.intro | exact zR | (intro; skip))
  all_goals (try simp only [std, inj] at *)
  all_goals with_reducible repeat' apply And.intro
  all_goals (try (first | exact z | grind [fnd, capFor, isId, snocI, snocS, rowSnoc])))
theorem c_sFind (L : List Capture) (s : Syntax)  : P_c_sFind L s := fnOK Tryz.call108 Tryz.func108 (.z captureC L (.l (lc_sFindLa L s) (Sc_sFindLa L s) [0] [.s (li 0)] 0 (.t (.s (li
 (-1 : Int))) (.t (.s (li (fnd L s))) .q)))) (by
  dsimp only [teasy, P_c_sFind, nthW, lc_sFindLa]
  with_reducible repeat' (first | apply And.intro | exact zR | (intro; skip))
  all_goals (try simp only [std, inj] at *)
  all_goals with_reducible repeat' apply And.intro
  all_goals (try (first | exact z | grind [snocI, snocS, rowSnoc])))
abbrev P_c_iFind (L : List Capture) (s : Syntax) : Ct := ⟨163, [], [ll (L.map captureC), syntaxA s], [], .sv (li (if s.kind = 1 then fnd L s else -1))⟩
def lc_iFindLa (L : List Capture) (s : Syntax) : Lp Nat := .mk 32 0 (fun x => [(3, SV.one (AC.ptr 0 0)), (14, ll (List.map captureC L)), (15, li (↑(List.map captureC L).length :
 Int)), (16, hs x 0)]) (fun x => [Ob.box (vals (syntaxF s))]) (fun k => [.s (li (↑k : Int))]) (fun k => k ≤ L.length ∧ L.length ≤ 9223372036854775807 ∧ k ≤ fndN L s ∧ s.kind = 1 ∧
 isDots s = false) (fun k => L.length - k) [.mk (fnd L s = (-1 : Int)) (.exit 0) (fun x => []) (fun x => []) [], .mk True .ret (fun x => [(4, hs x 0)]) (fun x => []) [.s (li (fnd L
 s))]]
theorem Sc_iFindLa (L : List Capture) (s : Syntax) : Lp.Sem Tryz.prog (loopAt Tryz.f163 0) (lc_iFindLa L s) := lpOK (fun k => .i ((↑k : Int) < (↑(List.map captureC L).length :
 Int)) (.x (↑k : Int) (List.map captureC L) (captureF (L.getD k default)) (.c [.rd] (c_iIsId (L.getD k default).name) (.b (decide ((L.getD k default).name.kind = 1) && isSyn
 (L.getD k default).name) (.c [.rd, .rd] (c_iSame (L.getD k default).name s) (.b (decide ((L.getD k default).name.kind = 1) && decide (s.kind = 1) && decide ((L.getD k
 default).name.text = s.text) && decide ((L.getD k default).name.scopes = s.scopes)) (.o 1 [] [.s (li (↑k : Int))]) (.r ((↑k : Int) + 1) (.g [0] (k + 1) [.s (li ((↑k : Int) +
 1))])))) (.y false (.r ((↑k : Int) + 1) (.g [0] (k + 1) [.s (li ((↑k : Int) + 1))])))))) (.o 0 [] [])) (by
  intro k h; try dsimp only [teasy, nthW, lc_iFindLa] at h ⊢
  have g1 := @fndN_at L s k
  have g2 := @fndN_next L s k
  have g3 := fndN_le L s
  with_reducible repeat' (first | apply And.intro | exact zR | (intro; skip) | apply c_iIsId)
  all_goals (try simp only [std, inj] at *)
  all_goals with_reducible repeat' apply And.intro
  all_goals (try (first | with_reducible apply c_iIsId | (simp only [← List.map_append]; first | with_reducible apply c_iIsId)))
  all_goals (try (first | exact z | grind [fnd, capFor, isId, snocI, snocS, rowSnoc])))
theorem c_iFind (L : List Capture) (s : Syntax)  : P_c_iFind L s := fnOK Tryz.call163 Tryz.func163 (.i (s.kind ≠ 1) (.y true (.s (li (-1 : Int)))) (.c [.rd] (c_iDots s) (.b (isDots
 s) (.s (li (-1 : Int))) (.z captureC L (.l (lc_iFindLa L s) (Sc_iFindLa L s) [0] [.s (li 0)] 0 (.t (.s (li (-1 : Int))) (.t (.s (li (fnd L s))) .q))))))) (by
  dsimp only [teasy, P_c_iFind, nthW, lc_iFindLa]
  with_reducible repeat' (first | apply And.intro | exact zR | (intro; skip) | apply c_iIsId)
  all_goals (try simp only [std, inj] at *)
  all_goals with_reducible repeat' apply And.intro
  all_goals (try (first | with_reducible apply c_iIsId | (simp only [← List.map_append]; first | with_reducible apply c_iIsId)))
  all_goals (try (first | exact z | grind [fnd, snocI, snocS, rowSnoc])))
def capD (L : List Capture) (s : Syntax) : Int := (L.getD (fnd L s).toNat default).depth
mutual
/-- is there a name of a deeper capture? -/
def drv (L : List Capture) (v : Int) : Syntax → Bool
  | ⟨k, n, t, s, l⟩ => if k = 1 then decide (0 ≤ fnd L ⟨k, n, t, s, l⟩) && decide (v < capD L ⟨k, n, t, s, l⟩) else drvs L v l
def drvs (L : List Capture) (v : Int) : List Syntax → Bool
  | [] => false
  | x :: r => drv L v x || drvs L v r
end
theorem drvs_eq (L : List Capture) (v : Int) : ∀ l, drvs L v l = l.any (drv L v)
  | [] => by simp [drvs]
  | x :: r => by rw [drvs, drvs_eq L v r]; rfl
theorem drv_eq (L : List Capture) (v : Int) (t : Syntax) : drv L v t = if t.kind = 1 then decide (0 ≤ fnd L t) && decide (v < capD L t) else t.items.any (drv L v) := by cases t; simp only [drv, drvs_eq]
mutual
/-- the reference's test of a template -/
def fit (L : List Capture) : Syntax → Int → Bool
  | ⟨k, n, t, s, l⟩, v => if k = 1 then !isDots ⟨k, n, t, s, l⟩ && (decide (fnd L ⟨k, n, t, s, l⟩ < 0) || decide (capD L ⟨k, n, t, s, l⟩ ≤ v)) else fits L l v
def fits (L : List Capture) : List Syntax → Int → Bool
  | [], _ => true
  | [x], v => fit L x v
  | x :: y :: r, v => if isDots y then !isDots x && drv L v x && fit L x (v + 1) && fits L r v else fit L x v && fits L (y :: r) v
end
theorem fit_eq (L : List Capture) (t : Syntax) (v : Int) : fit L t v = if t.kind = 1 then !isDots t && (decide (fnd L t < 0) || decide (capD L t ≤ v)) else fits L t.items v := by cases t; simp only [fit]
theorem fits_last {L : List Capture} {l : List Syntax} {k : Nat} {v : Int} (h : k + 1 = l.length) : fits L (l.drop k) v = fit L (l.getD k default) v := by
  rw [drop_get (by omega), List.drop_eq_nil_of_le (by omega), fits]
theorem fits_plain {L : List Capture} {l : List Syntax} {k : Nat} {v : Int} (h : k + 1 < l.length) (hd : isDots (l.getD (k + 1) default) = false) : fits L (l.drop k) v = (fit L (l.getD k default) v && fits L (l.drop (k + 1)) v) := by
  rw [drop_get (by omega : k < l.length), drop_get h, fits, hd]; rfl
theorem fits_dots {L : List Capture} {l : List Syntax} {k : Nat} {v : Int} (h : k + 1 < l.length) (hd : isDots (l.getD (k + 1) default) = true) : fits L (l.drop k) v = (!isDots (l.getD k default) && drv L v (l.getD k default) && fit L (l.getD k default) (v + 1) && fits L (l.drop (k + 1 + 1)) v) := by
  rw [drop_get (by omega : k < l.length), drop_get h, fits, hd]; rfl
theorem fits_end {L : List Capture} {l : List Syntax} {k : Nat} {v : Int} (h : l.length ≤ k) : fits L (l.drop k) v = true := by
  rw [List.drop_eq_nil_of_le h, fits]
theorem depY_item {t : Syntax} {k : Nat} (h : k < t.items.length) : depY (t.items.getD k default) + 1 ≤ depY t := by
  have := maxBy_mem depY (getD_mem' h)
  rw [depY_eq t]; omega
abbrev P_c_sDrv (L : List Capture) (t : Syntax) (v : Int) : Ct := ⟨156, [], [ll (L.map captureC), syntaxA t, li v], [], .sv (lb (drv L v t))⟩
def lc_sDrv_sLa (L : List Capture) (t : Syntax) (v : Int) : Lp Nat := .mk 39 0 (fun x => [(0, ll (List.map captureC L)), (2, li v), (28, ll (List.map syntaxC t.items)), (29, li
 (↑(List.map syntaxC t.items).length : Int)), (30, hs x 0)]) (fun x => []) (fun k => [.s (li (↑k : Int))]) (fun k => k ≤ t.items.length ∧ t.items.length ≤ 9223372036854775807 ∧
 (List.take k t.items).any (drv L v) = false) (fun k => t.items.length - k) [.mk (t.items.any (drv L v) = false) (.exit 0) (fun x => []) (fun x => []) [], .mk (t.items.any (drv L
 v) = true) .ret (fun x => [(6, hs x 0)]) (fun x => []) [.s (lb true)]]
theorem Sc_sDrv_sLa (L : List Capture) (t : Syntax) (v : Int) (ih : ∀ (z : Syntax), z ∈ t.items → ∀ (L : List Capture) (v : Int), OK (P_c_sDrv L z v)) : Lp.Sem Tryz.prog (loopAt
 Tryz.f156 0) (lc_sDrv_sLa L t v) := lpOK (fun k => .i ((↑k : Int) < (↑(List.map syntaxC t.items).length : Int)) (.x (↑k : Int) (List.map syntaxC t.items) (syntaxF (t.items.getD k
 default)) (.d [.rd, .rd, .rd] (P_c_sDrv L (t.items.getD k default) v) (.b (drv L v (t.items.getD k default)) (.o 1 [] [.s (lb true)]) (.r ((↑k : Int) + 1) (.g [] (k + 1) [.s (li
 ((↑k : Int) + 1))]))))) (.o 0 [] [])) (by
  intro k h; try dsimp only [teasy, nthW, lc_sDrv_sLa] at h ⊢
  with_reducible repeat' (first | apply And.intro | exact zR | exact ih | (intro; skip) | apply ih)
  all_goals (try simp only [std, inj] at *)
  all_goals with_reducible repeat' apply And.intro
  all_goals (try (first | with_reducible apply ih | (simp only [← List.map_append]; first | with_reducible apply ih)))
  all_goals (try (first | exact z | grind [take_get, getD_mem', snocI, snocS, rowSnoc])))
theorem c_sDrv_s (L : List Capture) (t : Syntax) (v : Int) (ih : ∀ z ∈ t.items, ∀ (L : List Capture) (v : Int), P_c_sDrv L z v)  : P_c_sDrv L t v := fnOK Tryz.call156 Tryz.func156
 (.i (t.kind = 1) (.c [.rd, .rd] (c_sFind L t) (.i (0 ≤ fnd L t) (.x (fnd L t) (List.map captureC L) (captureF (L.getD (fnd L t).toNat default)) (.s (lb (decide (v < (L.getD (fnd L
 t).toNat default).depth))))) (.s (lb false)))) (.z syntaxC t.items (.l (lc_sDrv_sLa L t v) (Sc_sDrv_sLa L t v ih) [] [.s (li 0)] 0 (.t (.s (lb false)) (.t (.s (lb true)) .q)))))
 (by
  dsimp only [teasy, P_c_sDrv, nthW, lc_sDrv_sLa]
  have g := fnd_lt L t
  with_reducible repeat' (first | apply And.intro | exact zR | exact ih | (intro; skip))
  all_goals (try simp only [std, inj] at *)
  all_goals with_reducible repeat' apply And.intro
  all_goals (try (first | with_reducible apply ih | (simp only [← List.map_append]; first | with_reducible apply ih)))
  all_goals (try (first | exact z | grind [drv_eq, capD, snocI, snocS, rowSnoc])))
theorem c_sDrv (t : Syntax) : ∀ (L : List Capture) (v : Int), P_c_sDrv L t v := Syntax.ind (P := fun t => ∀ (L : List Capture) (v : Int), P_c_sDrv L t v) (fun t ih L v => c_sDrv_s L t v ih) t
abbrev P_c_sFit (L : List Capture) (t : Syntax) (v : Int) : Ct := ⟨111, [], [ll (L.map captureC), syntaxA t, li v], [], .sv (lb (fit L t v))⟩
def lc_sFit_sLa (L : List Capture) (t : Syntax) (v : Int) : Lp Nat := .mk 79 0 (fun x => [(0, ll (List.map captureC L)), (2, li v), (4, SV.one (AC.ptr 0 0)), (8, hs x 0)]) (fun x
 => [Ob.box (vals (syntaxF t))]) (fun k => [.s (li (↑k : Int))]) (fun k => t.items.length ≥ k ∧ fits L t.items v = fits L (List.drop k t.items) v) (fun k => t.items.length - k)
 [.mk (fits L t.items v = true) (.exit 0) (fun x => []) (fun x => []) [], .mk (fits L t.items v = false) .ret (fun x => [(6, hs x 0)]) (fun x => []) [.s (lb false)]]
theorem Sc_sFit_sLa (L : List Capture) (t : Syntax) (v : Int) (h : 0 ≤ v ∧ v + (↑(depY t) : Int) ≤ 1000) (ih : ∀ (z : Syntax), z ∈ t.items → ∀ (L : List Capture) (v : Int), 0 ≤ v ∧
 v + (↑(depY z) : Int) ≤ 1000 → OK (P_c_sFit L z v)) : Lp.Sem Tryz.prog (loopAt Tryz.f111 0) (lc_sFit_sLa L t v) := lpOK (fun k => .z syntaxC t.items (.i ((↑k : Int) < (↑(List.map
 syntaxC t.items).length : Int)) (.x (↑k : Int) (List.map syntaxC t.items) (syntaxF (t.items.getD k default)) (.r ((↑k : Int) + 1) (.z syntaxC t.items (.i ((↑k : Int) + 1 <
 (↑(List.map syntaxC t.items).length : Int)) (.r ((↑k : Int) + 1) (.x ((↑k : Int) + 1) (List.map syntaxC t.items) (syntaxF (t.items.getD (k + 1) default)) (.c [.rd] (c_sDots
 (t.items.getD (k + 1) default)) (.b (isDots (t.items.getD (k + 1) default)) (.c [.rd] (c_sDots (t.items.getD k default)) (.b (isDots (t.items.getD k default)) (.y true (.o 1 []
 [.s (lb false)])) (.c [.rd, .rd, .rd] (c_sDrv (t.items.getD k default) L v) (.b (!drv L v (t.items.getD k default)) (.o 1 [] [.s (lb false)]) (.r (v + 1) (.r ((↑k : Int) + 1) (.d
 [.rd, .rd, .rd] (P_c_sFit L (t.items.getD k default) (v + 1)) (.b (!fit L (t.items.getD k default) (v + 1)) (.o 1 [] [.s (lb false)]) (.r ((↑k : Int) + 1 + 1) (.g [0] (k + 1 + 1)
 [.s (li ((↑k : Int) + 1 + 1))])))))))))) (.d [.rd, .rd, .rd] (P_c_sFit L (t.items.getD k default) v) (.b (!fit L (t.items.getD k default) v) (.o 1 [] [.s (lb false)]) (.r ((↑k :
 Int) + 1) (.g [0] (k + 1) [.s (li ((↑k : Int) + 1))])))))))) (.y false (.d [.rd, .rd, .rd] (P_c_sFit L (t.items.getD k default) v) (.b (!fit L (t.items.getD k default) v) (.o 1 []
 [.s (lb false)]) (.r ((↑k : Int) + 1) (.g [0] (k + 1) [.s (li ((↑k : Int) + 1))]))))))))) (.o 0 [] []))) (by
  intro k h; try dsimp only [teasy, nthW, lc_sFit_sLa] at h ⊢
  have g1 := @fits_last L t.items k v
  have g2 := @fits_plain L t.items k v
  have g3 := @fits_dots L t.items k v
  have g4 := @fits_end L t.items k v
  have g5 := @depY_item t k
  have g6 := @fits_end L t.items (k + 1) v
  with_reducible repeat' (first | apply And.intro | exact zR | exact ih | (intro; skip) | apply ih)
  all_goals (try simp only [std, inj] at *)
  all_goals with_reducible repeat' apply And.intro
  all_goals (try (first | with_reducible apply ih | (simp only [← List.map_append]; first | with_reducible apply ih)))
  all_goals (try (first | exact z | grind [getD_mem', snocI, snocS, rowSnoc])))
theorem c_sFit_s (L : List Capture) (t : Syntax) (v : Int) (h : 0 ≤ v ∧ v + depY t ≤ 1000) (ih : ∀ z ∈ t.items, ∀ (L : List Capture) (v : Int) (h : 0 ≤ v ∧ v + depY z ≤ 1000),
 P_c_sFit L z v)  : P_c_sFit L t v := fnOK Tryz.call111 Tryz.func111 (.i (t.kind = 1) (.c [.rd, .rd] (c_sFind L t) (.c [.rd] (c_sDots t) (.b (!isDots t) (.i (fnd L t < 0) (.s (lb
 true)) (.x (fnd L t) (List.map captureC L) (captureF (L.getD (fnd L t).toNat default)) (.s (lb (decide ((L.getD (fnd L t).toNat default).depth ≤ v)))))) (.s (lb false))))) (.l
 (lc_sFit_sLa L t v) (Sc_sFit_sLa L t v h ih) [0] [.s (li 0)] 0 (.t (.s (lb true)) (.t (.s (lb false)) .q)))) (by
  dsimp only [teasy, P_c_sFit, nthW, lc_sFit_sLa]
  have g := fnd_lt L t
  with_reducible repeat' (first | apply And.intro | exact zR | exact ih | (intro; skip))
  all_goals (try simp only [std, inj] at *)
  all_goals with_reducible repeat' apply And.intro
  all_goals (try (first | with_reducible apply ih | (simp only [← List.map_append]; first | with_reducible apply ih)))
  all_goals (try (first | exact z | grind [fit_eq, capD, snocI, snocS, rowSnoc])))
theorem c_sFit (t : Syntax) : ∀ (L : List Capture) (v : Int) (h : 0 ≤ v ∧ v + depY t ≤ 1000), P_c_sFit L t v := Syntax.ind (P := fun t => ∀ (L : List Capture) (v : Int) (h : 0 ≤ v ∧ v + depY t ≤ 1000), P_c_sFit L t v) (fun t ih L v h => c_sFit_s L t v h ih) t
def tmF (L : List Capture) (t : Syntax) : Bool := L.all (fun x => isId x.name && decide (0 ≤ x.depth)) && isSyn t && fit L t 0
abbrev P_c_sTem (L : List Capture) (t : Syntax) : Ct := ⟨58, [], [ll (L.map captureC), syntaxA t], [], .sv (lb (tmF L t))⟩
def lc_sTemLa (L : List Capture) (t : Syntax) : Lp Nat := .mk 30 0 (fun x => [(0, ll (List.map captureC L)), (3, SV.one (AC.ptr 0 0)), (7, ll (List.map captureC L)), (8, li
 (↑(List.map captureC L).length : Int)), (9, hs x 0)]) (fun x => [Ob.box (vals (syntaxF t))]) (fun k => [.s (li (↑k : Int))]) (fun k => k ≤ L.length ∧ L.length ≤
 9223372036854775807 ∧ ((List.take k L).all fun x => isId x.name && decide (0 ≤ x.depth)) = true) (fun k => L.length - k) [.mk ((L.all fun x => isId x.name && decide (0 ≤ x.depth))
 = true) (.exit 0) (fun x => [(0, ll (List.map captureC L)), (3, SV.one (AC.ptr 0 0))]) (fun x => [Ob.box (vals (syntaxF t))]) [], .mk ((L.all fun x => isId x.name && decide (0 ≤
 x.depth)) = false) .ret (fun x => [(4, hs x 0)]) (fun x => []) [.s (lb false)]]
theorem Sc_sTemLa (L : List Capture) (t : Syntax) : Lp.Sem Tryz.prog (loopAt Tryz.f58 0) (lc_sTemLa L t) := lpOK (fun k => .i ((↑k : Int) < (↑(List.map captureC L).length : Int))
 (.x (↑k : Int) (List.map captureC L) (captureF (L.getD k default)) (.c [.rd] (c_sIsId (L.getD k default).name) (.b (!(decide ((L.getD k default).name.kind = 1) && isSyn (L.getD k
 default).name)) (.y true (.o 1 [] [.s (lb false)])) (.i ((L.getD k default).depth < 0) (.o 1 [] [.s (lb false)]) (.r ((↑k : Int) + 1) (.g [0] (k + 1) [.s (li ((↑k : Int) +
 1))])))))) (.o 0 [0] [])) (by
  intro k h; try dsimp only [teasy, nthW, lc_sTemLa] at h ⊢
  with_reducible repeat' (first | apply And.intro | exact zR | (intro; skip) | apply c_sFit)
  all_goals (try simp only [std, inj] at *)
  all_goals with_reducible repeat' apply And.intro
  all_goals (try (first | with_reducible apply c_sFit | (simp only [← List.map_append]; first | with_reducible apply c_sFit)))
  all_goals (try (first | exact z | grind [take_get, isId, getD_mem', snocI, snocS, rowSnoc])))
theorem c_sTem (L : List Capture) (t : Syntax)  : P_c_sTem L t := fnOK Tryz.call58 Tryz.func58 (.z captureC L (.l (lc_sTemLa L t) (Sc_sTemLa L t) [0] [.s (li 0)] 0 (.t (.c [.rd]
 (c_sIsSyntax t) (.b (isSyn t) (.d [.rd, .rd, .rd] (P_c_sFit L t 0) (.s (lb (fit L t 0)))) (.s (lb false)))) (.t (.s (lb false)) .q)))) (by
  dsimp only [teasy, P_c_sTem, nthW, lc_sTemLa]
  with_reducible repeat' (first | apply And.intro | exact zR | (intro; skip) | apply c_sFit)
  all_goals (try simp only [std, inj] at *)
  all_goals with_reducible repeat' apply And.intro
  all_goals (try (first | with_reducible apply c_sFit | (simp only [← List.map_append]; first | with_reducible apply c_sFit)))
  all_goals (try (first | exact z | grind [tmF, isSyn, snocI, snocS, rowSnoc])))
mutual
def dotf : Syntax → Bool
  | ⟨k, n, t, s, l⟩ => !isDots ⟨k, n, t, s, l⟩ && dotfs true l
def dotfs : Bool → List Syntax → Bool
  | _, [] => true
  | b, x :: r => if isDots x then !b && dotfs true r else dotf x && dotfs false r
end
theorem dotf_eq (t : Syntax) : dotf t = (!isDots t && dotfs true t.items) := by cases t; simp only [dotf]
def barred (l : List Syntax) (k : Nat) : Bool := decide (k = 0) || isDots (l.getD (k - 1) default)
theorem dotfs_step {l : List Syntax} {b : Bool} {k : Nat} (h : k < l.length) : dotfs b (l.drop k) = if isDots (l.getD k default) then !b && dotfs true (l.drop (k + 1)) else dotf (l.getD k default) && dotfs false (l.drop (k + 1)) := by
  rw [drop_get h, dotfs]
theorem dotfs_end {l : List Syntax} {b : Bool} {k : Nat} (h : l.length ≤ k) : dotfs b (l.drop k) = true := by
  rw [List.drop_eq_nil_of_le h, dotfs]
abbrev P_c_iDotsFit (t : Syntax) : Ct := ⟨118, [], [syntaxA t], [], .sv (lb (dotf t))⟩
def lc_iDotsFit_sLa (t : Syntax) : Lp Nat := .mk 32 0 (fun x => [(1, SV.one (AC.ptr 0 0)), (8, ll (List.map syntaxC t.items)), (9, li (↑(List.map syntaxC t.items).length : Int)),
 (10, hs x 0)]) (fun x => [Ob.box (vals (syntaxF t))]) (fun k => [.s (li (↑k : Int))]) (fun k => k ≤ t.items.length ∧ t.items.length ≤ 9223372036854775807 ∧ dotfs true t.items =
 dotfs (barred t.items k) (List.drop k t.items)) (fun k => t.items.length - k) [.mk (dotfs true t.items = true) (.exit 0) (fun x => []) (fun x => []) [], .mk (dotfs true t.items =
 false) .ret (fun x => [(2, hs x 0)]) (fun x => []) [.s (lb false)]]
theorem Sc_iDotsFit_sLa (t : Syntax) (ih : ∀ (z : Syntax), z ∈ t.items → OK (P_c_iDotsFit z)) : Lp.Sem Tryz.prog (loopAt Tryz.f118 0) (lc_iDotsFit_sLa t) := lpOK (fun k => .i ((↑k
 : Int) < (↑(List.map syntaxC t.items).length : Int)) (.x (↑k : Int) (List.map syntaxC t.items) (syntaxF (t.items.getD k default)) (.c [.rd] (c_iDots (t.items.getD k default)) (.b
 (isDots (t.items.getD k default)) (.i ((↑k : Int) = 0) (.y true (.o 1 [] [.s (lb false)])) (.r ((↑k : Int) - 1) (.x ((↑k : Int) - 1) (List.map syntaxC t.items) (syntaxF
 (t.items.getD ((↑k : Int) - 1).toNat default)) (.c [.rd] (c_iDots (t.items.getD ((↑k : Int) - 1).toNat default)) (.b (isDots (t.items.getD ((↑k : Int) - 1).toNat default)) (.o 1
 [] [.s (lb false)]) (.r ((↑k : Int) + 1) (.g [0] (k + 1) [.s (li ((↑k : Int) + 1))]))))))) (.d [.rd] (P_c_iDotsFit (t.items.getD k default)) (.b (!dotf (t.items.getD k default))
 (.o 1 [] [.s (lb false)]) (.r ((↑k : Int) + 1) (.g [0] (k + 1) [.s (li ((↑k : Int) + 1))]))))))) (.o 0 [] [])) (by
  intro k h; try dsimp only [teasy, nthW, lc_iDotsFit_sLa] at h ⊢
  have g1 := @dotfs_step t.items (barred t.items k) k
  have g2 := @dotfs_end t.items (barred t.items k) k
  have e : ((k : Int) - 1).toNat = k - 1 := by omega
  have g3 : barred t.items k = (decide (k = 0) || isDots (t.items.getD (k - 1) default)) := rfl
  have g4 : barred t.items (k + 1) = isDots (t.items.getD k default) := by simp [barred]
  with_reducible repeat' (first | apply And.intro | exact zR | exact ih | (intro; skip) | apply ih)
  all_goals (try simp only [std, inj] at *)
  all_goals with_reducible repeat' apply And.intro
  all_goals (try (first | with_reducible apply ih | (simp only [← List.map_append]; first | with_reducible apply ih)))
  all_goals (try (first | exact z | grind [getD_mem', snocI, snocS, rowSnoc])))
theorem c_iDotsFit_s (t : Syntax) (ih : ∀ z ∈ t.items, P_c_iDotsFit z)  : P_c_iDotsFit t := fnOK Tryz.call118 Tryz.func118 (.c [.rd] (c_iDots t) (.b (isDots t) (.s (lb false)) (.z
 syntaxC t.items (.l (lc_iDotsFit_sLa t) (Sc_iDotsFit_sLa t ih) [0] [.s (li 0)] 0 (.t (.s (lb true)) (.t (.s (lb false)) .q)))))) (by
  dsimp only [teasy, P_c_iDotsFit, nthW, lc_iDotsFit_sLa]
  with_reducible repeat' (first | apply And.intro | exact zR | exact ih | (intro; skip))
  all_goals (try simp only [std, inj] at *)
  all_goals with_reducible repeat' apply And.intro
  all_goals (try (first | with_reducible apply ih | (simp only [← List.map_append]; first | with_reducible apply ih)))
  all_goals (try (first | exact z | grind [dotf_eq, barred, snocI, snocS, rowSnoc])))
theorem c_iDotsFit (t : Syntax) : P_c_iDotsFit t := Syntax.ind (P := fun t => P_c_iDotsFit t) (fun t ih => c_iDotsFit_s t ih) t
mutual
def dee (L : List Capture) : Syntax → Int
  | ⟨k, n, t, s, l⟩ => dees L l (if k = 1 ∧ 0 ≤ fnd L ⟨k, n, t, s, l⟩ then capD L ⟨k, n, t, s, l⟩ else -1)
def dees (L : List Capture) : List Syntax → Int → Int
  | [], b => b
  | x :: r, b => dees L r (max b (dee L x))
end
theorem dees_eq (L : List Capture) : ∀ l b, dees L l b = l.foldl (fun b x => max b (dee L x)) b
  | [], _ => by rw [dees]; rfl
  | x :: r, b => by rw [dees, dees_eq L r]; rfl
def dee0 (L : List Capture) (t : Syntax) : Int := if t.kind = 1 ∧ 0 ≤ fnd L t then capD L t else -1
theorem dee_eq (L : List Capture) (t : Syntax) : dee L t = t.items.foldl (fun b x => max b (dee L x)) (dee0 L t) := by cases t; simp only [dee, dees_eq, dee0]
abbrev P_c_iDeep (L : List Capture) (t : Syntax) : Ct := ⟨164, [], [ll (L.map captureC), syntaxA t], [], .sv (li (dee L t))⟩
def lc_iDeep_sLa (L : List Capture) (t : Syntax) : Lp Nat := .mk 33 0 (fun x => [(0, ll (List.map captureC L)), (5, hs x 1), (20, ll (List.map syntaxC t.items)), (21, li
 (↑(List.map syntaxC t.items).length : Int)), (22, hs x 0)]) (fun x => []) (fun k => [.s (li (↑k : Int)), .s (li (List.foldl (fun b x => max b (dee L x)) (dee0 L t) (List.take k
 t.items)))]) (fun k => k ≤ t.items.length ∧ t.items.length ≤ 9223372036854775807) (fun k => t.items.length - k) [.mk True (.exit 0) (fun x => [(5, hs x 0)]) (fun x => []) [.s (li
 (dee L t))]]
theorem Sc_iDeep_sLa (L : List Capture) (t : Syntax) (ih : ∀ (z : Syntax), z ∈ t.items → ∀ (L : List Capture), OK (P_c_iDeep L z)) : Lp.Sem Tryz.prog (loopAt Tryz.f164 0)
 (lc_iDeep_sLa L t) := lpOK (fun k => .i ((↑k : Int) < (↑(List.map syntaxC t.items).length : Int)) (.x (↑k : Int) (List.map syntaxC t.items) (syntaxF (t.items.getD k default)) (.d
 [.rd, .rd] (P_c_iDeep L (t.items.getD k default)) (.r ((↑k : Int) + 1) (.g [] (k + 1) [.s (li ((↑k : Int) + 1)), .s (li (max (List.foldl (fun b x => max b (dee L x)) (dee0 L t)
 (List.take k t.items)) (dee L (t.items.getD k default))))])))) (.o 0 [] [.s (li (List.foldl (fun b x => max b (dee L x)) (dee0 L t) (List.take k t.items)))])) (by
  intro k h; try dsimp only [teasy, nthW, lc_iDeep_sLa] at h ⊢
  with_reducible repeat' (first | apply And.intro | exact zR | exact ih | (intro; skip) | apply ih)
  all_goals (try simp only [std, inj] at *)
  all_goals with_reducible repeat' apply And.intro
  all_goals (try (first | with_reducible apply ih | (simp only [← List.map_append]; first | with_reducible apply ih)))
  all_goals (try (first | exact z | grind [foldl_step, getD_mem', dee_eq, snocI, snocS, rowSnoc])))
theorem c_iDeep_s (L : List Capture) (t : Syntax) (ih : ∀ z ∈ t.items, ∀ (L : List Capture), P_c_iDeep L z)  : P_c_iDeep L t := fnOK Tryz.call164 Tryz.func164 (.c [.rd, .rd] (c_iFind
 L t) (.i (0 ≤ if t.kind = 1 then fnd L t else (-1 : Int)) (.x (if t.kind = 1 then fnd L t else (-1 : Int)) (List.map captureC L) (captureF (L.getD (if t.kind = 1 then fnd L t else
 (-1 : Int)).toNat default)) (.z syntaxC t.items (.l (lc_iDeep_sLa L t) (Sc_iDeep_sLa L t ih) [] [.s (li 0), .s (li (L.getD (if t.kind = 1 then fnd L t else (-1 : Int)).toNat
 default).depth)] 0 (.t (.s (li (dee L t))) .q)))) (.z syntaxC t.items (.l (lc_iDeep_sLa L t) (Sc_iDeep_sLa L t ih) [] [.s (li 0), .s (li (-1 : Int))] 0 (.t (.s (li (dee L t)))
 .q))))) (by
  dsimp only [teasy, P_c_iDeep, nthW, lc_iDeep_sLa]
  have g := fnd_lt L t
  with_reducible repeat' (first | apply And.intro | exact zR | exact ih | (intro; skip))
  all_goals (try simp only [std, inj] at *)
  all_goals with_reducible repeat' apply And.intro
  all_goals (try (first | with_reducible apply ih | (simp only [← List.map_append]; first | with_reducible apply ih)))
  all_goals (try (first | exact z | grind [dee0, capD, snocI, snocS, rowSnoc])))
theorem c_iDeep (t : Syntax) : ∀ (L : List Capture), P_c_iDeep L t := Syntax.ind (P := fun t => ∀ (L : List Capture), P_c_iDeep L t) (fun t ih L => c_iDeep_s L t ih) t
mutual
def tfit (L : List Capture) : Syntax → Int → Bool
  | ⟨k, n, t, s, l⟩, v => if k = 1 ∧ 0 ≤ fnd L ⟨k, n, t, s, l⟩ then decide (capD L ⟨k, n, t, s, l⟩ ≤ v) else tfits L l v
def tfits (L : List Capture) : List Syntax → Int → Bool
  | [], _ => true
  | [x], v => if isDots x then true else tfit L x v
  | x :: y :: r, v => if isDots x then tfits L (y :: r) v else if isDots y then decide (v < dee L x) && tfit L x (v + 1) && tfits L (y :: r) v else tfit L x v && tfits L (y :: r) v
end
theorem tfit_eq (L : List Capture) (t : Syntax) (v : Int) : tfit L t v = if t.kind = 1 ∧ 0 ≤ fnd L t then decide (capD L t ≤ v) else tfits L t.items v := by cases t; simp only [tfit]
theorem tfits_last {L : List Capture} {l : List Syntax} {k : Nat} {v : Int} (h : k + 1 = l.length) : tfits L (l.drop k) v = if isDots (l.getD k default) then true else tfit L (l.getD k default) v := by
  rw [drop_get (by omega), List.drop_eq_nil_of_le (by omega), tfits]
theorem tfits_step {L : List Capture} {l : List Syntax} {k : Nat} {v : Int} (h : k + 1 < l.length) : tfits L (l.drop k) v = if isDots (l.getD k default) then tfits L (l.drop (k + 1)) v else
    if isDots (l.getD (k + 1) default) then decide (v < dee L (l.getD k default)) && tfit L (l.getD k default) (v + 1) && tfits L (l.drop (k + 1)) v else tfit L (l.getD k default) v && tfits L (l.drop (k + 1)) v := by
  rw [drop_get (by omega : k < l.length), drop_get h, tfits]
theorem tfits_end {L : List Capture} {l : List Syntax} {k : Nat} {v : Int} (h : l.length ≤ k) : tfits L (l.drop k) v = true := by
  rw [List.drop_eq_nil_of_le h, tfits]
abbrev P_c_iTFit (L : List Capture) (t : Syntax) (v : Int) : Ct := ⟨119, [], [ll (L.map captureC), syntaxA t, li v], [], .sv (lb (tfit L t v))⟩
def lc_iTFit_sLa (L : List Capture) (t : Syntax) (v : Int) : Lp Nat := .mk 62 0 (fun x => [(0, ll (List.map captureC L)), (2, li v), (4, SV.one (AC.ptr 0 0)), (24, ll (List.map
 syntaxC t.items)), (25, li (↑(List.map syntaxC t.items).length : Int)), (26, hs x 0)]) (fun x => [Ob.box (vals (syntaxF t))]) (fun k => [.s (li (↑k : Int))]) (fun k => k ≤
 t.items.length ∧ t.items.length ≤ 9223372036854775807 ∧ tfits L t.items v = tfits L (List.drop k t.items) v) (fun k => t.items.length - k) [.mk (tfits L t.items v = true) (.exit
 0) (fun x => []) (fun x => []) [], .mk (tfits L t.items v = false) .ret (fun x => [(6, hs x 0)]) (fun x => []) [.s (lb false)]]
theorem Sc_iTFit_sLa (L : List Capture) (t : Syntax) (v : Int) (h : 0 ≤ v ∧ v + (↑(depY t) : Int) ≤ 1000) (ih : ∀ (z : Syntax), z ∈ t.items → ∀ (L : List Capture) (v : Int), 0 ≤ v
 ∧ v + (↑(depY z) : Int) ≤ 1000 → OK (P_c_iTFit L z v)) : Lp.Sem Tryz.prog (loopAt Tryz.f119 0) (lc_iTFit_sLa L t v) := lpOK (fun k => .i ((↑k : Int) < (↑(List.map syntaxC
 t.items).length : Int)) (.x (↑k : Int) (List.map syntaxC t.items) (syntaxF (t.items.getD k default)) (.c [.rd] (c_iDots (t.items.getD k default)) (.b (isDots (t.items.getD k
 default)) (.r ((↑k : Int) + 1) (.g [0] (k + 1) [.s (li ((↑k : Int) + 1))])) (.r ((↑k : Int) + 1) (.z syntaxC t.items (.i ((↑k : Int) + 1 < (↑(List.map syntaxC t.items).length :
 Int)) (.r ((↑k : Int) + 1) (.x ((↑k : Int) + 1) (List.map syntaxC t.items) (syntaxF (t.items.getD (k + 1) default)) (.c [.rd] (c_iDots (t.items.getD (k + 1) default)) (.b (isDots
 (t.items.getD (k + 1) default)) (.c [.rd, .rd] (c_iDeep (t.items.getD k default) L) (.i (dee L (t.items.getD k default) ≤ v) (.o 1 [] [.s (lb false)]) (.r (v + 1) (.d [.rd, .rd,
 .rd] (P_c_iTFit L (t.items.getD k default) (v + 1)) (.b (!tfit L (t.items.getD k default) (v + 1)) (.o 1 [] [.s (lb false)]) (.r ((↑k : Int) + 1) (.g [0] (k + 1) [.s (li ((↑k :
 Int) + 1))]))))))) (.d [.rd, .rd, .rd] (P_c_iTFit L (t.items.getD k default) v) (.b (!tfit L (t.items.getD k default) v) (.o 1 [] [.s (lb false)]) (.r ((↑k : Int) + 1) (.g [0] (k
 + 1) [.s (li ((↑k : Int) + 1))])))))))) (.y false (.d [.rd, .rd, .rd] (P_c_iTFit L (t.items.getD k default) v) (.b (!tfit L (t.items.getD k default) v) (.o 1 [] [.s (lb false)])
 (.r ((↑k : Int) + 1) (.g [0] (k + 1) [.s (li ((↑k : Int) + 1))]))))))))))) (.o 0 [] [])) (by
  intro k h; try dsimp only [teasy, nthW, lc_iTFit_sLa] at h ⊢
  have g1 := @tfits_last L t.items k v
  have g2 := @tfits_step L t.items k v
  have g3 := @tfits_end L t.items (k + 1) v
  have g4 := @tfits_end L t.items k v
  have g5 := @depY_item t k
  with_reducible repeat' (first | apply And.intro | exact zR | exact ih | (intro; skip) | apply ih)
  all_goals (try simp only [std, inj] at *)
  all_goals with_reducible repeat' apply And.intro
  all_goals (try (first | with_reducible apply ih | (simp only [← List.map_append]; first | with_reducible apply ih)))
  all_goals (try (first | exact z | grind [getD_mem', snocI, snocS, rowSnoc])))
theorem c_iTFit_s (L : List Capture) (t : Syntax) (v : Int) (h : 0 ≤ v ∧ v + depY t ≤ 1000) (ih : ∀ z ∈ t.items, ∀ (L : List Capture) (v : Int) (h : 0 ≤ v ∧ v + depY z ≤ 1000),
 P_c_iTFit L z v)  : P_c_iTFit L t v := fnOK Tryz.call119 Tryz.func119 (.c [.rd, .rd] (c_iFind L t) (.i (0 ≤ if t.kind = 1 then fnd L t else (-1 : Int)) (.x (if t.kind = 1 then fnd L
 t else (-1 : Int)) (List.map captureC L) (captureF (L.getD (if t.kind = 1 then fnd L t else (-1 : Int)).toNat default)) (.s (lb (decide ((L.getD (if t.kind = 1 then fnd L t else
 (-1 : Int)).toNat default).depth ≤ v))))) (.z syntaxC t.items (.l (lc_iTFit_sLa L t v) (Sc_iTFit_sLa L t v h ih) [0] [.s (li 0)] 0 (.t (.s (lb true)) (.t (.s (lb false)) .q))))))
 (by
  dsimp only [teasy, P_c_iTFit, nthW, lc_iTFit_sLa]
  have g := fnd_lt L t
  with_reducible repeat' (first | apply And.intro | exact zR | exact ih | (intro; skip))
  all_goals (try simp only [std, inj] at *)
  all_goals with_reducible repeat' apply And.intro
  all_goals (try (first | with_reducible apply ih | (simp only [← List.map_append]; first | with_reducible apply ih)))
  all_goals (try (first | exact z | grind [tfit_eq, capD, snocI, snocS, rowSnoc])))
theorem c_iTFit (t : Syntax) : ∀ (L : List Capture) (v : Int) (h : 0 ≤ v ∧ v + depY t ≤ 1000), P_c_iTFit L t v := Syntax.ind (P := fun t => ∀ (L : List Capture) (v : Int) (h : 0 ≤ v ∧ v + depY t ≤ 1000), P_c_iTFit L t v) (fun t ih L v h => c_iTFit_s L t v h ih) t
theorem foldl_max (f : Syntax → Int) (v : Int) : ∀ (l : List Syntax) (b : Int), v < l.foldl (fun b x => max b (f x)) b ↔ v < b ∨ ∃ x ∈ l, v < f x
  | [], b => by simp
  | x :: r, b => by
    rw [List.foldl_cons, foldl_max f v r]
    have e : v < max b (f x) ↔ v < b ∨ v < f x := by omega
    simp only [List.mem_cons, exists_eq_or_imp, e, or_assoc]
theorem okY_sym {t : Syntax} (h : okY t = true) (hk : t.kind = 1) : t.items = [] := by
  rw [okY_eq] at h
  simp only [nodY0, nodD, Bool.and_eq_true, Bool.or_eq_true, decide_eq_true_eq] at h
  have : t.items.length = 0 := by omega
  exact List.length_eq_zero_iff.1 this
theorem okY_item {t : Syntax} (h : okY t = true) : ∀ x ∈ t.items, okY x = true := by
  rw [okY_eq, Bool.and_eq_true, List.all_eq_true] at h; exact h.1
theorem drv_dee (L : List Capture) (v : Int) (hv : 0 ≤ v) : ∀ t : Syntax, okY t = true → (drv L v t = decide (v < dee L t)) := by
  refine Syntax.ind fun t ih h => ?_
  rw [Bool.eq_iff_iff, decide_eq_true_eq, drv_eq, dee_eq, foldl_max]
  by_cases hk : t.kind = 1
  · rw [if_pos hk, okY_sym h hk]
    simp only [Bool.and_eq_true, decide_eq_true_eq, List.not_mem_nil, false_and, exists_false, or_false, dee0, hk, true_and]
    split <;> omega
  · rw [if_neg hk, List.any_eq_true]
    have : ¬ v < dee0 L t := by unfold dee0; rw [if_neg (by omega)]; omega
    constructor
    · rintro ⟨x, hx, e⟩
      exact .inr ⟨x, hx, by have := ih x hx (okY_item h x hx); rw [e] at this; exact of_decide_eq_true this.symm⟩
    · rintro (e | ⟨x, hx, e⟩)
      · exact absurd e this
      · exact ⟨x, hx, by rw [ih x hx (okY_item h x hx)]; exact decide_eq_true e⟩
theorem fit_dots {L : List Capture} {x : Syntax} {v : Int} (h : isDots x = true) : fit L x v = false := by
  have hk : x.kind = 1 := by simp only [isDots, Bool.and_eq_true, decide_eq_true_eq] at h; exact h.1
  rw [fit_eq, if_pos hk, h]; rfl
theorem dotfs_flag {x : Syntax} {r : List Syntax} {b : Bool} (h : isDots x = false) : dotfs b (x :: r) = dotfs true (x :: r) := by simp only [dotfs, h]; rfl
theorem fits_all (L : List Capture) : ∀ (l : List Syntax), (∀ x ∈ l, okY x = true ∧ ∀ v, 0 ≤ v → fit L x v = (dotf x && tfit L x v)) → ∀ v, 0 ≤ v → fits L l v = (dotfs true l && tfits L l v)
  | [], _, v, _ => by simp [fits, dotfs, tfits]
  | [x], h, v, hv => by
    rw [fits, tfits, dotfs]
    have h1 := (h x List.mem_cons_self).2 v hv
    by_cases e : isDots x = true
    · rw [if_pos e, if_pos e, fit_dots e]; rfl
    · rw [if_neg e, if_neg e, h1]; simp [dotfs]
  | x :: y :: r, h, v, hv => by
    have hx := h x List.mem_cons_self
    have h1 := hx.2 v hv
    have h2 := hx.2 (v + 1) (by omega)
    have ihr := fits_all L r (fun z hz => h z (List.mem_cons_of_mem _ (List.mem_cons_of_mem _ hz))) v hv
    have ihy := fits_all L (y :: r) (fun z hz => h z (List.mem_cons_of_mem _ hz)) v hv
    have hd := drv_dee L v hv x hx.1
    rw [fits, tfits]
    by_cases ey : isDots y = true
    · rw [if_pos ey]
      by_cases ex : isDots x = true
      · rw [ex, dotfs, if_pos ex]; simp
      · have ex' : isDots x = false := by simpa using ex
        have hy : dotfs false (y :: r) = dotfs true r := by rw [dotfs, if_pos ey]; rfl
        have hyt : tfits L (y :: r) v = tfits L r v := by
          cases r with
          | nil => simp only [tfits, if_pos ey]
          | cons z r => rw [tfits, if_pos ey]
        rw [if_neg ex, if_pos ey, dotfs, if_neg ex, hy, hyt, ihr, hd, h2, ex']
        cases dotf x <;> cases dotfs true r <;> cases decide (v < dee L x) <;> cases tfit L x (v + 1) <;> cases tfits L r v <;> rfl
    · have ey' : isDots y = false := by simpa using ey
      rw [if_neg ey]
      by_cases ex : isDots x = true
      · rw [fit_dots ex, dotfs, if_pos ex]; simp
      · rw [if_neg ex, if_neg ey, dotfs, if_neg ex, dotfs_flag ey', ihy, h1]
        cases dotf x <;> cases dotfs true (y :: r) <;> cases tfit L x v <;> cases tfits L (y :: r) v <;> rfl
theorem fit_all (L : List Capture) : ∀ t : Syntax, okY t = true → ∀ v, 0 ≤ v → fit L t v = (dotf t && tfit L t v) := by
  refine Syntax.ind fun t ih h v hv => ?_
  rw [fit_eq, dotf_eq, tfit_eq]
  by_cases hk : t.kind = 1
  · rw [if_pos hk, okY_sym h hk]
    by_cases h0 : 0 ≤ fnd L t
    · rw [if_pos ⟨hk, h0⟩, decide_eq_false (by omega : ¬ fnd L t < 0)]; simp [dotfs]
    · rw [if_neg (fun e => h0 e.2), decide_eq_true (by omega : fnd L t < 0)]; simp [dotfs, tfits]
  · have hd : isDots t = false := by simp [isDots, hk]
    rw [if_neg hk, if_neg (fun e => hk e.1), hd, fits_all L t.items (fun x hx => ⟨okY_item h x hx, fun v hv => ih x hx (okY_item h x hx) v hv⟩) v hv]
    simp
theorem tmF_eq (L : List Capture) (t : Syntax) : tmF L t = (L.all (fun x => isId x.name && decide (0 ≤ x.depth)) && (isSyn t && (dotf t && tfit L t 0))) := by
  unfold tmF
  by_cases h : isSyn t = true
  · have h2 : okY t = true := by simp only [isSyn, Bool.and_eq_true] at h; exact h.2
    rw [fit_all L t h2 0 (Int.le_refl _), Bool.and_assoc]
  · have : isSyn t = false := by simpa using h
    rw [this]; simp
abbrev P_c_iTem (L : List Capture) (t : Syntax) : Ct := ⟨69, [], [ll (L.map captureC), syntaxA t], [], .sv (lb (tmF L t))⟩
def lc_iTemLa (L : List Capture) (t : Syntax) : Lp Nat := .mk 34 0 (fun x => [(0, ll (List.map captureC L)), (3, SV.one (AC.ptr 0 0)), (7, ll (List.map captureC L)), (8, li
 (↑(List.map captureC L).length : Int)), (9, hs x 0)]) (fun x => [Ob.box (vals (syntaxF t))]) (fun k => [.s (li (↑k : Int))]) (fun k => k ≤ L.length ∧ L.length ≤
 9223372036854775807 ∧ ((List.take k L).all fun x => isId x.name && decide (0 ≤ x.depth)) = true) (fun k => L.length - k) [.mk ((L.all fun x => isId x.name && decide (0 ≤ x.depth))
 = true) (.exit 0) (fun x => [(0, ll (List.map captureC L)), (3, SV.one (AC.ptr 0 0))]) (fun x => [Ob.box (vals (syntaxF t))]) [], .mk ((L.all fun x => isId x.name && decide (0 ≤
 x.depth)) = false) .ret (fun x => [(4, hs x 0)]) (fun x => []) [.s (lb false)]]
theorem Sc_iTemLa (L : List Capture) (t : Syntax) : Lp.Sem Tryz.prog (loopAt Tryz.f69 0) (lc_iTemLa L t) := lpOK (fun k => .i ((↑k : Int) < (↑(List.map captureC L).length : Int))
 (.x (↑k : Int) (List.map captureC L) (captureF (L.getD k default)) (.c [.rd] (c_iIsId (L.getD k default).name) (.b (!(decide ((L.getD k default).name.kind = 1) && isSyn (L.getD k
 default).name)) (.y true (.o 1 [] [.s (lb false)])) (.i ((L.getD k default).depth < 0) (.o 1 [] [.s (lb false)]) (.r ((↑k : Int) + 1) (.g [0] (k + 1) [.s (li ((↑k : Int) +
 1))])))))) (.o 0 [0] [])) (by
  intro k h; try dsimp only [teasy, nthW, lc_iTemLa] at h ⊢
  with_reducible repeat' (first | apply And.intro | exact zR | (intro; skip) | apply c_iIsId | apply c_iTFit)
  all_goals (try simp only [std, inj] at *)
  all_goals with_reducible repeat' apply And.intro
  all_goals (try (first | with_reducible apply c_iIsId | with_reducible apply c_iTFit | (simp only [← List.map_append]; first | with_reducible apply c_iIsId | with_reducible apply c_iTFit)))
  all_goals (try (first | exact z | grind [take_get, isId, getD_mem', snocI, snocS, rowSnoc])))
theorem c_iTem (L : List Capture) (t : Syntax)  : P_c_iTem L t := fnOK Tryz.call69 Tryz.func69 (.z captureC L (.l (lc_iTemLa L t) (Sc_iTemLa L t) [0] [.s (li 0)] 0 (.t (.c [.rd]
 (c_iIsSyntax t) (.b (isSyn t) (.c [.rd] (c_iDotsFit t) (.b (dotf t) (.d [.rd, .rd, .rd] (P_c_iTFit L t 0) (.s (lb (tfit L t 0)))) (.s (lb false)))) (.y false (.s (lb false)))))
 (.t (.s (lb false)) .q)))) (by
  dsimp only [teasy, P_c_iTem, nthW, lc_iTemLa]
  with_reducible repeat' (first | apply And.intro | exact zR | (intro; skip) | apply c_iIsId | apply c_iTFit)
  all_goals (try simp only [std, inj] at *)
  all_goals with_reducible repeat' apply And.intro
  all_goals (try (first | with_reducible apply c_iIsId | with_reducible apply c_iTFit | (simp only [← List.map_append]; first | with_reducible apply c_iIsId | with_reducible apply c_iTFit)))
  all_goals (try (first | exact z | grind [tmF_eq, isSyn, snocI, snocS, rowSnoc])))
end Go.Proofs.YtclpofblehlojaaGreatDoor
end
section
namespace Go.Proofs.YtclpofblehlojaaGreatDoor
open Go Go.Proofs.YtclpofblehlojaaGreatDoor.Ab
set_option linter.unusedVariables false
set_option linter.unusedSimpArgs false
set_option maxHeartbeats 4000000
theorem fx_at {α : Type} [Inhabited α] {p : α → Bool} {L : List α} {k : Nat} (hk : k < L.length) (hb : k ≤ L.findIdx p) (h : p (L.getD k default) = true) : L.findIdx p = k := by
  have h1 : L.getD k default = L[k] := by simp [hk]
  rw [h1] at h
  rcases Nat.lt_or_ge k (L.findIdx p) with h2 | h2
  · have := List.not_of_lt_findIdx h2
    simp [h] at this
  · omega
theorem fx_next {α : Type} [Inhabited α] {p : α → Bool} {L : List α} {k : Nat} (hk : k < L.length) (hb : k ≤ L.findIdx p) (h : p (L.getD k default) = false) : k + 1 ≤ L.findIdx p := by
  have h1 : L.getD k default = L[k] := by simp [hk]
  rw [h1] at h
  rcases Nat.lt_or_ge k (L.findIdx p) with h2 | h2
  · exact h2
  · have e : L.findIdx p = k := by omega
    have h3 := List.findIdx_getElem (p := p) (xs := L) (w := by omega)
    simp only [e, h] at h3
    exact absurd h3 (by decide)
abbrev P_c_yInts (L : List Int) : Ct := ⟨38, [], [ll (L.map intC)], [.arr true 1 (L.map intC)], .sv (.one (.ref 0))⟩
theorem c_yInts (L : List Int) (h : L.length ≤ 2147483647)  : P_c_yInts L := fnOK Tryz.call38 Tryz.func38 (.w (.bool false) (.p (∀ (e : List Cell), e ∈ List.map intC L → ∀ (c :
 Cell), c ∈ e → ∃ v, c = Cell.lit v) (.p (∀ (e : List Cell), e ∈ List.map intC L → e.length = 1) (.p ((0 + (List.map intC L).length) * 8 ≤ 140737488355328) (.f [1] [Ob.arr true 1
 (List.map intC L)] (AV.sv (SV.one (AC.ref 0)))))))) (by
  dsimp only [teasy, P_c_yInts]
  with_reducible repeat' (first | apply And.intro | exact zR | (intro; skip))
  all_goals (try simp only [std, inj] at *)
  all_goals with_reducible repeat' apply And.intro
  all_goals (try (first | exact z | grind [snocI, snocS, rowSnoc])))
abbrev P_c_yIInts (L : List Int) : Ct := ⟨203, [], [ll (L.map intC)], [.arr true 1 (L.map intC)], .sv (.one (.ref 0))⟩
theorem c_yIInts (L : List Int) (h : L.length ≤ 2147483647)  : P_c_yIInts L := fnOK Tryz.call203 Tryz.func203 (.w (.bool true) (.p (∀ (e : List Cell), e ∈ List.map intC L → ∀ (c :
 Cell), c ∈ e → ∃ v, c = Cell.lit v) (.p (∀ (e : List Cell), e ∈ List.map intC L → e.length = 1) (.p ((0 + (List.map intC L).length) * 8 ≤ 140737488355328) (.f [0] [Ob.arr true 1
 (List.map intC L)] (AV.sv (SV.one (AC.ref 0)))))))) (by
  dsimp only [teasy, P_c_yIInts]
  with_reducible repeat' (first | apply And.intro | exact zR | (intro; skip))
  all_goals (try simp only [std, inj] at *)
  all_goals with_reducible repeat' apply And.intro
  all_goals (try (first | exact z | grind [snocI, snocS, rowSnoc])))
abbrev P_c_sMap (s : Syntax) : Ct := ⟨155, [], [syntaxA s, li 0, li 0], syntaxO s, .sv (syntaxR s 0)⟩
def lc_sMap_sLa (s : Syntax) : Lp Nat := .mk 62 0 (fun x => [(1, li 0), (2, li 0), (6, SV.one (AC.ptr 0 0)), (7, SV.one (AC.ptr 1 0)), (45, ll (List.map syntaxC s.items)), (46, li
 (↑(List.map syntaxC s.items).length : Int)), (47, hs x 0)]) (fun x => [Ob.box [vI 0, vI 0, vS (ByteArray.mk #[]), AC.val (Cell.lit (Value.slice none 0 0)), AC.val (Cell.lit
 (Value.slice none 0 0))], Ob.box [vI s.kind, vI s.number, vS s.text, AC.ref 2, AC.ref 3], Ob.arr true 1 (List.map intC s.scopes), ho x 1]) (fun k => [.s (li (↑k : Int)), .o
 (Ob.arr true 5 (List.map syntaxC (List.take k s.items)))]) (fun k => k ≤ s.items.length ∧ s.items.length ≤ 9223372036854775807) (fun k => s.items.length - k) [.mk True (.exit 1)
 (fun x => [(6, SV.one (AC.ptr 0 0)), (7, SV.one (AC.ptr 1 0))]) (fun x => [Ob.box [vI 0, vI 0, vS (ByteArray.mk #[]), AC.val (Cell.lit (Value.slice none 0 0)), AC.val (Cell.lit
 (Value.slice none 0 0))], Ob.box [vI s.kind, vI s.number, vS s.text, AC.ref 2, AC.ref 3], Ob.arr true 1 (List.map intC s.scopes), ho x 0]) [.o (Ob.arr true 5 (List.map syntaxC
 s.items))]]
theorem Sc_sMap_sLa (s : Syntax) (h : wY s ≤ 1000000000) (ih : ∀ (z : Syntax), z ∈ s.items → wY z ≤ 1000000000 → OK (P_c_sMap z)) : Lp.Sem Tryz.prog (loopAt Tryz.f155 0)
 (lc_sMap_sLa s) := lpOK (fun k => .i ((↑k : Int) < (↑(List.map syntaxC s.items).length : Int)) (.x (↑k : Int) (List.map syntaxC s.items) (syntaxF (s.items.getD k default)) (.w
 (.draw [(6, [5, 6]), (7, [3, 13]), (9, [1])]) (.d [.rd, .rd, .rd] (P_c_sMap (s.items.getD k default)) (.p (((List.map syntaxC (List.take k s.items)).length + 1) * 80 ≤
 140737488355328) (.r ((↑k : Int) + 1) (.g [0, 1, 2, 14] (k + 1) [.s (li ((↑k : Int) + 1)), .o (Ob.arr true 5 (List.map syntaxC (List.take k s.items) ++ [syntaxF (s.items.getD k
 default)]))])))))) (.o 0 [0, 1, 2, 3] [.o (Ob.arr true 5 (List.map syntaxC (List.take k s.items)))])) (by
  intro k h; try dsimp only [teasy, nthW, lc_sMap_sLa] at h ⊢
  have g1 := wY_eq s
  have g2 := @sumBy_mem _ wY s.items (s.items.getD k default)
  with_reducible repeat' (first | apply And.intro | exact zR | exact ih | (intro; skip) | apply c_yInts | apply ih)
  all_goals (try simp only [std, inj] at *)
  all_goals with_reducible repeat' apply And.intro
  all_goals (try (first | with_reducible apply c_yInts | with_reducible apply ih | (simp only [← List.map_append]; first | with_reducible apply c_yInts | with_reducible apply ih)))
  all_goals (try (first | exact z | grind [take_get, getD_mem', snocI, snocS, rowSnoc, getD_mem'])))
theorem c_sMap_s (s : Syntax) (h : wY s ≤ 1000000000) (ih : ∀ z ∈ s.items, ∀ (h : wY z ≤ 1000000000), P_c_sMap z)  : P_c_sMap s := fnOK Tryz.call155 Tryz.func155 (.w (.draw [(11,
 [10])]) (.d [.rd] (P_c_yInts s.scopes) (.i (s.kind = 1) (.y false (.y false (.y false (.z syntaxC s.items (.w (.ghost (.nilbox 10 4 true 5)) (.l (lc_sMap_sLa s) (Sc_sMap_sLa s h
 ih) [1, 10, 2, 11] [.s (li 0), .o (Ob.arr true 5 [])] 0 (.t (.f [2, 3] [Ob.arr true 1 (List.map intC s.scopes), Ob.arr true 5 (List.map syntaxC s.items)] (AV.sv (SV.agg [vI
 s.kind, vI s.number, vS s.text, AC.ref 0, AC.ref 1]))) .q))))))) (.z syntaxC s.items (.w (.ghost (.nilbox 10 4 true 5)) (.l (lc_sMap_sLa s) (Sc_sMap_sLa s h ih) [1, 10, 2, 11] [.s
 (li 0), .o (Ob.arr true 5 [])] 0 (.t (.f [2, 3] [Ob.arr true 1 (List.map intC s.scopes), Ob.arr true 5 (List.map syntaxC s.items)] (AV.sv (SV.agg [vI s.kind, vI s.number, vS
 s.text, AC.ref 0, AC.ref 1]))) .q))))))) (by
  dsimp only [teasy, P_c_sMap, nthW, lc_sMap_sLa]
  have g1 := wY_eq s
  with_reducible repeat' (first | apply And.intro | exact zR | exact ih | (intro; skip) | apply c_yInts)
  all_goals (try simp only [std, inj] at *)
  all_goals with_reducible repeat' apply And.intro
  all_goals (try (first | with_reducible apply c_yInts | with_reducible apply ih | (simp only [← List.map_append]; first | with_reducible apply c_yInts | with_reducible apply ih)))
  all_goals (try (first | exact z | grind [snocI, snocS, rowSnoc])))
theorem c_sMap (s : Syntax) : ∀ (h : wY s ≤ 1000000000), P_c_sMap s := Syntax.ind (P := fun s => ∀ (h : wY s ≤ 1000000000), P_c_sMap s) (fun s ih h => c_sMap_s s h ih) s
abbrev P_c_sCopyY (s : Syntax) : Ct := ⟨109, [], [syntaxA s], syntaxO s, .sv (syntaxR s 0)⟩
theorem c_sCopyY (s : Syntax) (h : wY s ≤ 1000000000)  : P_c_sCopyY s := fnOK Tryz.call109 Tryz.func109 (.d [.rd, .rd, .rd] (P_c_sMap s) (.f [2, 3] [Ob.arr true 1 (List.map intC
 s.scopes), Ob.arr true 5 (List.map syntaxC s.items)] (AV.sv (SV.agg [vI s.kind, vI s.number, vS s.text, AC.ref 0, AC.ref 1])))) (by
  dsimp only [teasy, P_c_sCopyY]
  with_reducible repeat' (first | apply And.intro | exact zR | (intro; skip) | apply c_sMap)
  all_goals (try simp only [std, inj] at *)
  all_goals with_reducible repeat' apply And.intro
  all_goals (try (first | with_reducible apply c_sMap | (simp only [← List.map_append]; first | with_reducible apply c_sMap)))
  all_goals (try (first | exact z | grind [snocI, snocS, rowSnoc])))
def fnA (f : FuncId) : SV := .one (.val (.lit (.func (.func f) #[] #[])))
abbrev P_c_iMap (s : Syntax) : Ct := ⟨202, [], [syntaxA s, fnA 203], syntaxO s, .sv (syntaxR s 0)⟩
def lc_iMap_sLa (s : Syntax) : Lp Nat := .mk 43 0 (fun x => [(1, SV.one (AC.val (Cell.lit (Value.func (Fn.func 203) #[] #[])))), (4, SV.one (AC.ptr 0 0)), (5, SV.one (AC.ptr 1 0)),
 (27, ll (List.map syntaxC s.items)), (28, li (↑(List.map syntaxC s.items).length : Int)), (29, hs x 0)]) (fun x => [Ob.box [vI 0, vI 0, vS (ByteArray.mk #[]), AC.val (Cell.lit
 (Value.slice none 0 0)), AC.val (Cell.lit (Value.slice none 0 0))], Ob.box [vI s.kind, vI s.number, vS s.text, AC.ref 2, AC.ref 3], Ob.arr true 1 (List.map intC s.scopes), ho x
 1]) (fun k => [.s (li (↑k : Int)), .o (Ob.arr true 5 (List.map syntaxC (List.take k s.items)))]) (fun k => k ≤ s.items.length ∧ s.items.length ≤ 9223372036854775807) (fun k =>
 s.items.length - k) [.mk True (.exit 0) (fun x => [(4, SV.one (AC.ptr 0 0)), (5, SV.one (AC.ptr 1 0))]) (fun x => [Ob.box [vI 0, vI 0, vS (ByteArray.mk #[]), AC.val (Cell.lit
 (Value.slice none 0 0)), AC.val (Cell.lit (Value.slice none 0 0))], Ob.box [vI s.kind, vI s.number, vS s.text, AC.ref 2, AC.ref 3], Ob.arr true 1 (List.map intC s.scopes), ho x
 0]) [.o (Ob.arr true 5 (List.map syntaxC s.items))]]
theorem Sc_iMap_sLa (s : Syntax) (h : wY s ≤ 1000000000) (ih : ∀ (z : Syntax), z ∈ s.items → wY z ≤ 1000000000 → OK (P_c_iMap z)) : Lp.Sem Tryz.prog (loopAt Tryz.f202 0)
 (lc_iMap_sLa s) := lpOK (fun k => .i ((↑k : Int) < (↑(List.map syntaxC s.items).length : Int)) (.x (↑k : Int) (List.map syntaxC s.items) (syntaxF (s.items.getD k default)) (.w
 (.draw [(5, [5, 6]), (6, [3, 13]), (8, [1])]) (.d [.rd, .rd] (P_c_iMap (s.items.getD k default)) (.p (((List.map syntaxC (List.take k s.items)).length + 1) * 80 ≤ 140737488355328)
 (.r ((↑k : Int) + 1) (.g [0, 1, 2, 14] (k + 1) [.s (li ((↑k : Int) + 1)), .o (Ob.arr true 5 (List.map syntaxC (List.take k s.items) ++ [syntaxF (s.items.getD k default)]))]))))))
 (.o 0 [0, 1, 2, 3] [.o (Ob.arr true 5 (List.map syntaxC (List.take k s.items)))])) (by
  intro k h; try dsimp only [teasy, nthW, lc_iMap_sLa] at h ⊢
  have g1 := wY_eq s
  have g2 := @sumBy_mem _ wY s.items (s.items.getD k default)
  with_reducible repeat' (first | apply And.intro | exact zR | exact ih | (intro; skip) | apply c_yIInts | apply ih)
  all_goals (try simp only [std, inj] at *)
  all_goals with_reducible repeat' apply And.intro
  all_goals (try (first | with_reducible apply c_yIInts | with_reducible apply ih | (simp only [← List.map_append]; first | with_reducible apply c_yIInts | with_reducible apply ih)))
  all_goals (try (first | exact z | grind [take_get, getD_mem', snocI, snocS, rowSnoc, getD_mem'])))
theorem c_iMap_s (s : Syntax) (h : wY s ≤ 1000000000) (ih : ∀ z ∈ s.items, ∀ (h : wY z ≤ 1000000000), P_c_iMap z)  : P_c_iMap s := fnOK Tryz.call202 Tryz.func202 (.w (.draw [(11,
 [10])]) (.d [.rd] (P_c_yIInts s.scopes) (.i (s.kind = 1) (.d [.rd] (P_c_yIInts s.scopes) (.z syntaxC s.items (.w (.ghost (.nilbox 10 4 true 5)) (.l (lc_iMap_sLa s) (Sc_iMap_sLa s
 h ih) [1, 10, 11, 12] [.s (li 0), .o (Ob.arr true 5 [])] 0 (.t (.f [2, 3] [Ob.arr true 1 (List.map intC s.scopes), Ob.arr true 5 (List.map syntaxC s.items)] (AV.sv (SV.agg [vI
 s.kind, vI s.number, vS s.text, AC.ref 0, AC.ref 1]))) .q))))) (.z syntaxC s.items (.w (.ghost (.nilbox 10 4 true 5)) (.l (lc_iMap_sLa s) (Sc_iMap_sLa s h ih) [1, 10, 2, 11] [.s
 (li 0), .o (Ob.arr true 5 [])] 0 (.t (.f [2, 3] [Ob.arr true 1 (List.map intC s.scopes), Ob.arr true 5 (List.map syntaxC s.items)] (AV.sv (SV.agg [vI s.kind, vI s.number, vS
 s.text, AC.ref 0, AC.ref 1]))) .q))))))) (by
  dsimp only [teasy, P_c_iMap, nthW, lc_iMap_sLa]
  have g1 := wY_eq s
  with_reducible repeat' (first | apply And.intro | exact zR | exact ih | (intro; skip) | apply c_yIInts)
  all_goals (try simp only [std, inj] at *)
  all_goals with_reducible repeat' apply And.intro
  all_goals (try (first | with_reducible apply c_yIInts | with_reducible apply ih | (simp only [← List.map_append]; first | with_reducible apply c_yIInts | with_reducible apply ih)))
  all_goals (try (first | exact z | grind [snocI, snocS, rowSnoc])))
theorem c_iMap (s : Syntax) : ∀ (h : wY s ≤ 1000000000), P_c_iMap s := Syntax.ind (P := fun s => ∀ (h : wY s ≤ 1000000000), P_c_iMap s) (fun s ih h => c_iMap_s s h ih) s
abbrev P_c_iCopyY (s : Syntax) : Ct := ⟨161, [], [syntaxA s], syntaxO s, .sv (syntaxR s 0)⟩
theorem c_iCopyY (s : Syntax) (h : wY s ≤ 1000000000)  : P_c_iCopyY s := fnOK Tryz.call161 Tryz.func161 (.d [.rd, .rd] (P_c_iMap s) (.f [2, 3] [Ob.arr true 1 (List.map intC
 s.scopes), Ob.arr true 5 (List.map syntaxC s.items)] (AV.sv (SV.agg [vI s.kind, vI s.number, vS s.text, AC.ref 0, AC.ref 1])))) (by
  dsimp only [teasy, P_c_iCopyY]
  with_reducible repeat' (first | apply And.intro | exact zR | (intro; skip) | apply c_iMap)
  all_goals (try simp only [std, inj] at *)
  all_goals with_reducible repeat' apply And.intro
  all_goals (try (first | with_reducible apply c_iMap | (simp only [← List.map_append]; first | with_reducible apply c_iMap)))
  all_goals (try (first | exact z | grind [snocI, snocS, rowSnoc])))
def isUnd (s : Syntax) : Bool := decide (s.text.data.toList = [95])
def litP (x : Syntax) : Bool := isId x && !isDots x && !isUnd x
def okL (L : List Syntax) : Bool := L.all litP && decide ((L.length : Int) ≤ 8)
def hasI (L : List Syntax) (s : Syntax) : Bool := L.any fun x => decide (x.text = s.text) && decide (x.scopes = s.scopes)
def sameB (x s : Syntax) : Bool := decide (x.kind = 1) && decide (s.kind = 1) && decide (x.text = s.text) && decide (x.scopes = s.scopes)
def hasJ (L : List Syntax) (s : Syntax) : Bool := L.any fun x => sameB x s
theorem allS_stop {α : Type} [Inhabited α] {L : List α} {p : α → Bool} {k : Nat} (h : k < L.length) (hp : p (L.getD k default) = false) : L.all p = false := by
  rw [List.all_eq_false]; exact ⟨_, getD_mem' h, by rw [hp]; decide⟩
theorem litP_at (x : Syntax) : litP x = ((decide (x.kind = 1) && isSyn x) && !isDots x && !decide (x.text.data.toList = [95])) := rfl
abbrev P_c_sLits (L : List Syntax) : Ct := ⟨52, [], [ll (L.map syntaxC)], [], .sv (lb (okL L))⟩
def lc_sLitsLa (L : List Syntax) : Lp Nat := .mk 27 0 (fun x => [(0, ll (List.map syntaxC L)), (5, ll (List.map syntaxC L)), (6, li (↑(List.map syntaxC L).length : Int)), (7, hs x
 0)]) (fun x => []) (fun k => [.s (li (↑k : Int))]) (fun k => k ≤ L.length ∧ L.length ≤ 9223372036854775807 ∧ (List.take k L).all litP = true) (fun k => L.length - k) [.mk (L.all
 litP = true) (.exit 0) (fun x => [(0, ll (List.map syntaxC L))]) (fun x => []) [], .mk (L.all litP = false) .ret (fun x => [(2, hs x 0)]) (fun x => []) [.s (lb false)]]
theorem Sc_sLitsLa (L : List Syntax) : Lp.Sem Tryz.prog (loopAt Tryz.f52 0) (lc_sLitsLa L) := lpOK (fun k => .i ((↑k : Int) < (↑(List.map syntaxC L).length : Int)) (.x (↑k : Int)
 (List.map syntaxC L) (syntaxF (L.getD k default)) (.c [.rd] (c_sIsId (L.getD k default)) (.b (!(decide ((L.getD k default).kind = 1) && isSyn (L.getD k default))) (.y true (.y
 true (.o 1 [] [.s (lb false)]))) (.c [.rd] (c_sDots (L.getD k default)) (.b (isDots (L.getD k default)) (.y true (.o 1 [] [.s (lb false)])) (.i ((L.getD k
 default).text.data.toList = [(95 : UInt8)]) (.o 1 [] [.s (lb false)]) (.r ((↑k : Int) + 1) (.g [] (k + 1) [.s (li ((↑k : Int) + 1))])))))))) (.o 0 [] [])) (by
  intro k h; try dsimp only [teasy, nthW, lc_sLitsLa] at h ⊢
  have g1 := @allS_stop _ _ L litP k
  have g2 := litP_at (L.getD k default)
  with_reducible repeat' (first | apply And.intro | exact zR | (intro; skip))
  all_goals (try simp only [std, inj] at *)
  all_goals with_reducible repeat' apply And.intro
  all_goals (try (first | exact z | grind [take_get, snocI, snocS, rowSnoc])))
theorem c_sLits (L : List Syntax)  : P_c_sLits L := fnOK Tryz.call52 Tryz.func52 (.z syntaxC L (.l (lc_sLitsLa L) (Sc_sLitsLa L) [] [.s (li 0)] 0 (.t (.z syntaxC L (.s (lb (decide
 ((↑(List.map syntaxC L).length : Int) ≤ 8))))) (.t (.s (lb false)) .q)))) (by
  dsimp only [teasy, P_c_sLits, nthW, lc_sLitsLa]
  with_reducible repeat' (first | apply And.intro | exact zR | (intro; skip))
  all_goals (try simp only [std, inj] at *)
  all_goals with_reducible repeat' apply And.intro
  all_goals (try (first | exact z | grind [okL, snocI, snocS, rowSnoc])))
abbrev P_c_iWild (s : Syntax) : Ct := ⟨115, [], [syntaxA s], [], .sv (lb (decide (s.kind = 1) && isUnd s))⟩
theorem c_iWild (s : Syntax)  : P_c_iWild s := fnOK Tryz.call115 Tryz.func115 (.i (s.kind = 1) (.s (lb (decide (s.text.data.toList = [(95 : UInt8)])))) (.s (lb false))) (by
  dsimp only [teasy, P_c_iWild]
  with_reducible repeat' (first | apply And.intro | exact zR | (intro; skip))
  all_goals (try simp only [std, inj] at *)
  all_goals with_reducible repeat' apply And.intro
  all_goals (try (first | exact z | grind [isUnd, snocI, snocS, rowSnoc])))
abbrev P_c_iLits (L : List Syntax) : Ct := ⟨64, [], [ll (L.map syntaxC)], [], .sv (lb (okL L))⟩
def lc_iLitsLa (L : List Syntax) : Lp Nat := .mk 26 0 (fun x => [(8, ll (List.map syntaxC L)), (9, li (↑(List.map syntaxC L).length : Int)), (10, hs x 0)]) (fun x => []) (fun k =>
 [.s (li (↑k : Int))]) (fun k => k ≤ L.length ∧ L.length ≤ 9223372036854775807 ∧ (List.take k L).all litP = true) (fun k => L.length - k) [.mk (L.all litP = true) (.exit 0) (fun x
 => []) (fun x => []) [], .mk (L.all litP = false) .ret (fun x => [(2, hs x 0)]) (fun x => []) [.s (lb false)]]
theorem Sc_iLitsLa (L : List Syntax) : Lp.Sem Tryz.prog (loopAt Tryz.f64 0) (lc_iLitsLa L) := lpOK (fun k => .i ((↑k : Int) < (↑(List.map syntaxC L).length : Int)) (.x (↑k : Int)
 (List.map syntaxC L) (syntaxF (L.getD k default)) (.c [.rd] (c_iIsId (L.getD k default)) (.b (!(decide ((L.getD k default).kind = 1) && isSyn (L.getD k default))) (.y true (.y
 true (.o 1 [] [.s (lb false)]))) (.c [.rd] (c_iDots (L.getD k default)) (.b (isDots (L.getD k default)) (.y true (.o 1 [] [.s (lb false)])) (.c [.rd] (c_iWild (L.getD k default))
 (.b (decide ((L.getD k default).kind = 1) && isUnd (L.getD k default)) (.o 1 [] [.s (lb false)]) (.r ((↑k : Int) + 1) (.g [] (k + 1) [.s (li ((↑k : Int) + 1))]))))))))) (.o 0 []
 [])) (by
  intro k h; try dsimp only [teasy, nthW, lc_iLitsLa] at h ⊢
  with_reducible repeat' (first | apply And.intro | exact zR | (intro; skip) | apply c_iIsId | apply c_iDots)
  all_goals (try simp only [std, inj] at *)
  all_goals with_reducible repeat' apply And.intro
  all_goals (try (first | with_reducible apply c_iIsId | with_reducible apply c_iDots | (simp only [← List.map_append]; first | with_reducible apply c_iIsId | with_reducible apply c_iDots)))
  all_goals (try (first | exact z | grind [take_get, litP, isId, getD_mem', snocI, snocS, rowSnoc])))
theorem c_iLits (L : List Syntax)  : P_c_iLits L := fnOK Tryz.call64 Tryz.func64 (.z syntaxC L (.i (8 < (↑(List.map syntaxC L).length : Int)) (.s (lb false)) (.z syntaxC L (.l
 (lc_iLitsLa L) (Sc_iLitsLa L) [] [.s (li 0)] 0 (.t (.s (lb true)) (.t (.s (lb false)) .q)))))) (by
  dsimp only [teasy, P_c_iLits, nthW, lc_iLitsLa]
  with_reducible repeat' (first | apply And.intro | exact zR | (intro; skip) | apply c_iIsId | apply c_iDots)
  all_goals (try simp only [std, inj] at *)
  all_goals with_reducible repeat' apply And.intro
  all_goals (try (first | with_reducible apply c_iIsId | with_reducible apply c_iDots | (simp only [← List.map_append]; first | with_reducible apply c_iIsId | with_reducible apply c_iDots)))
  all_goals (try (first | exact z | grind [okL, snocI, snocS, rowSnoc])))
abbrev P_c_sHasI (L : List Syntax) (s : Syntax) : Ct := ⟨107, [], [ll (L.map syntaxC), syntaxA s], [], .sv (lb (hasI L s))⟩
def lc_sHasILa (L : List Syntax) (s : Syntax) : Lp Nat := .mk 17 0 (fun x => [(3, SV.one (AC.ptr 0 0)), (7, ll (List.map syntaxC L)), (8, li (↑(List.map syntaxC L).length : Int)),
 (9, hs x 0)]) (fun x => [Ob.box (vals (syntaxF s))]) (fun k => [.s (li (↑k : Int))]) (fun k => k ≤ L.length ∧ L.length ≤ 9223372036854775807 ∧ hasI (List.take k L) s = false) (fun
 k => L.length - k) [.mk (hasI L s = false) (.exit 0) (fun x => []) (fun x => []) [], .mk (hasI L s = true) .ret (fun x => [(4, hs x 0)]) (fun x => []) [.s (lb true)]]
theorem Sc_sHasILa (L : List Syntax) (s : Syntax) : Lp.Sem Tryz.prog (loopAt Tryz.f107 0) (lc_sHasILa L s) := lpOK (fun k => .i ((↑k : Int) < (↑(List.map syntaxC L).length : Int))
 (.x (↑k : Int) (List.map syntaxC L) (syntaxF (L.getD k default)) (.c [.rd, .rd] (c_sSame (L.getD k default) s) (.b (decide ((L.getD k default).text = s.text) && decide ((L.getD k
 default).scopes = s.scopes)) (.o 1 [] [.s (lb true)]) (.r ((↑k : Int) + 1) (.g [0] (k + 1) [.s (li ((↑k : Int) + 1))]))))) (.o 0 [] [])) (by
  intro k h; try dsimp only [teasy, nthW, lc_sHasILa] at h ⊢
  with_reducible repeat' (first | apply And.intro | exact zR | (intro; skip))
  all_goals (try simp only [std, inj] at *)
  all_goals with_reducible repeat' apply And.intro
  all_goals (try (first | exact z | grind [take_get, hasI, getD_mem', snocI, snocS, rowSnoc])))
theorem c_sHasI (L : List Syntax) (s : Syntax)  : P_c_sHasI L s := fnOK Tryz.call107 Tryz.func107 (.z syntaxC L (.l (lc_sHasILa L s) (Sc_sHasILa L s) [0] [.s (li 0)] 0 (.t (.s (lb
 false)) (.t (.s (lb true)) .q)))) (by
  dsimp only [teasy, P_c_sHasI, nthW, lc_sHasILa]
  with_reducible repeat' (first | apply And.intro | exact zR | (intro; skip))
  all_goals (try simp only [std, inj] at *)
  all_goals with_reducible repeat' apply And.intro
  all_goals (try (first | exact z | grind [hasI, snocI, snocS, rowSnoc])))
abbrev P_c_iHasJ (L : List Syntax) (s : Syntax) : Ct := ⟨159, [], [ll (L.map syntaxC), syntaxA s], [], .sv (lb (hasJ L s))⟩
def lc_iHasJLa (L : List Syntax) (s : Syntax) : Lp Nat := .mk 17 0 (fun x => [(3, SV.one (AC.ptr 0 0)), (7, ll (List.map syntaxC L)), (8, li (↑(List.map syntaxC L).length : Int)),
 (9, hs x 0)]) (fun x => [Ob.box (vals (syntaxF s))]) (fun k => [.s (li (↑k : Int))]) (fun k => k ≤ L.length ∧ L.length ≤ 9223372036854775807 ∧ hasJ (List.take k L) s = false) (fun
 k => L.length - k) [.mk (hasJ L s = false) (.exit 0) (fun x => []) (fun x => []) [], .mk (hasJ L s = true) .ret (fun x => [(4, hs x 0)]) (fun x => []) [.s (lb true)]]
theorem Sc_iHasJLa (L : List Syntax) (s : Syntax) : Lp.Sem Tryz.prog (loopAt Tryz.f159 0) (lc_iHasJLa L s) := lpOK (fun k => .i ((↑k : Int) < (↑(List.map syntaxC L).length : Int))
 (.x (↑k : Int) (List.map syntaxC L) (syntaxF (L.getD k default)) (.c [.rd, .rd] (c_iSame (L.getD k default) s) (.b (decide ((L.getD k default).kind = 1) && decide (s.kind = 1) &&
 decide ((L.getD k default).text = s.text) && decide ((L.getD k default).scopes = s.scopes)) (.o 1 [] [.s (lb true)]) (.r ((↑k : Int) + 1) (.g [0] (k + 1) [.s (li ((↑k : Int) +
 1))]))))) (.o 0 [] [])) (by
  intro k h; try dsimp only [teasy, nthW, lc_iHasJLa] at h ⊢
  with_reducible repeat' (first | apply And.intro | exact zR | (intro; skip))
  all_goals (try simp only [std, inj] at *)
  all_goals with_reducible repeat' apply And.intro
  all_goals (try (first | exact z | grind [take_get, hasJ, sameB, getD_mem', snocI, snocS, rowSnoc])))
theorem c_iHasJ (L : List Syntax) (s : Syntax)  : P_c_iHasJ L s := fnOK Tryz.call159 Tryz.func159 (.z syntaxC L (.l (lc_iHasJLa L s) (Sc_iHasJLa L s) [0] [.s (li 0)] 0 (.t (.s (lb
 false)) (.t (.s (lb true)) .q)))) (by
  dsimp only [teasy, P_c_iHasJ, nthW, lc_iHasJLa]
  with_reducible repeat' (first | apply And.intro | exact zR | (intro; skip))
  all_goals (try simp only [std, inj] at *)
  all_goals with_reducible repeat' apply And.intro
  all_goals (try (first | exact z | grind [hasJ, snocI, snocS, rowSnoc])))
def atF (l : List Syntax) : Nat → Int
  | 0 => -1
  | k + 1 => if isDots (l.getD k default) = true then (k : Int) else atF l k
def okA (l : List Syntax) : Nat → Bool
  | 0 => true
  | k + 1 => okA l k && (!isDots (l.getD k default) || (decide (k ≠ 0) && decide (atF l k < 0)))
def atS (l : List Syntax) : Int := atF l l.length
def okS (l : List Syntax) : Bool := okA l l.length
theorem okA_le (l : List Syntax) : ∀ (m k : Nat), k ≤ m → okA l m = true → okA l k = true
  | 0, k, h, _ => by
    obtain rfl : k = 0 := by omega
    rfl
  | m + 1, k, h, ht => by
    by_cases e : k = m + 1
    · rw [e]; exact ht
    · refine okA_le l m k (by omega) ?_
      simp only [okA, Bool.and_eq_true] at ht; exact ht.1
def atI (l : List Syntax) : Int := if l.findIdx isDots < l.length then (l.findIdx isDots : Int) else -1
abbrev P_c_sAt (l : List Syntax) : Ct := ⟨110, [], [ll (l.map syntaxC)], [], .tup [li (if okS l = true then atS l else -1), lb (okS l)]⟩
def lc_sAtLa (l : List Syntax) : Lp Nat := .mk 26 0 (fun x => [(4, hs x 1), (7, ll (List.map syntaxC l)), (8, li (↑(List.map syntaxC l).length : Int)), (9, hs x 0)]) (fun x => [])
 (fun k => [.s (li (↑k : Int)), .s (li (atF l k))]) (fun k => k ≤ l.length ∧ l.length ≤ 9223372036854775807 ∧ okA l k = true) (fun k => l.length - k) [.mk (okS l = true) (.exit 0)
 (fun x => [(4, hs x 0)]) (fun x => []) [.s (li (atS l))], .mk (okS l = false) .ret (fun x => [(2, hs x 0), (3, hs x 1)]) (fun x => []) [.s (li (-1 : Int)), .s (lb false)]]
theorem Sc_sAtLa (l : List Syntax) : Lp.Sem Tryz.prog (loopAt Tryz.f110 0) (lc_sAtLa l) := lpOK (fun k => .i ((↑k : Int) < (↑(List.map syntaxC l).length : Int)) (.x (↑k : Int)
 (List.map syntaxC l) (syntaxF (l.getD k default)) (.c [.rd] (c_sDots (l.getD k default)) (.b (!isDots (l.getD k default)) (.r ((↑k : Int) + 1) (.g [] (k + 1) [.s (li ((↑k : Int) +
 1)), .s (li (atF l k))])) (.i ((↑k : Int) = 0) (.y true (.o 1 [] [.s (li (-1 : Int)), .s (lb false)])) (.i (0 ≤ atF l k) (.o 1 [] [.s (li (-1 : Int)), .s (lb false)]) (.r ((↑k :
 Int) + 1) (.g [] (k + 1) [.s (li ((↑k : Int) + 1)), .s (li (↑k : Int))]))))))) (.o 0 [] [.s (li (atF l k))])) (by
  intro k h; try dsimp only [teasy, nthW, lc_sAtLa] at h ⊢
  have g1 := okA_le l l.length (k + 1)
  have g2 : okA l (k + 1) = (okA l k && (!isDots (l.getD k default) || (decide (k ≠ 0) && decide (atF l k < 0)))) := rfl
  have g3 : atF l (k + 1) = if isDots (l.getD k default) = true then (k : Int) else atF l k := rfl
  with_reducible repeat' (first | apply And.intro | exact zR | (intro; skip))
  all_goals (try simp only [std, inj] at *)
  all_goals with_reducible repeat' apply And.intro
  all_goals (try (first | exact z | grind [okS, atS, snocI, snocS, rowSnoc])))
theorem c_sAt (l : List Syntax)  : P_c_sAt l := fnOK Tryz.call110 Tryz.func110 (.z syntaxC l (.l (lc_sAtLa l) (Sc_sAtLa l) [] [.s (li 0), .s (li (-1 : Int))] 0 (.t (.f [] [] (AV.tup
 [li (atS l), lb true])) (.t (.f [] [] (AV.tup [li (-1 : Int), lb false])) .q)))) (by
  dsimp only [teasy, P_c_sAt, nthW, lc_sAtLa]
  with_reducible repeat' (first | apply And.intro | exact zR | (intro; skip))
  all_goals (try simp only [std, inj] at *)
  all_goals with_reducible repeat' apply And.intro
  all_goals (try (first | exact z | grind [okA, atF, snocI, snocS, rowSnoc])))
abbrev P_c_iAt (l : List Syntax) : Ct := ⟨162, [], [ll (l.map syntaxC)], [], .sv (li (atI l))⟩
def lc_iAtLa (l : List Syntax) : Lp Nat := .mk 16 0 (fun x => [(5, ll (List.map syntaxC l)), (6, li (↑(List.map syntaxC l).length : Int)), (7, hs x 0)]) (fun x => []) (fun k => [.s
 (li (↑k : Int))]) (fun k => k ≤ l.length ∧ l.length ≤ 9223372036854775807 ∧ k ≤ List.findIdx isDots l) (fun k => l.length - k) [.mk (atI l = (-1 : Int)) (.exit 0) (fun x => [])
 (fun x => []) [], .mk True .ret (fun x => [(2, hs x 0)]) (fun x => []) [.s (li (atI l))]]
theorem Sc_iAtLa (l : List Syntax) : Lp.Sem Tryz.prog (loopAt Tryz.f162 0) (lc_iAtLa l) := lpOK (fun k => .i ((↑k : Int) < (↑(List.map syntaxC l).length : Int)) (.x (↑k : Int)
 (List.map syntaxC l) (syntaxF (l.getD k default)) (.c [.rd] (c_iDots (l.getD k default)) (.b (isDots (l.getD k default)) (.o 1 [] [.s (li (↑k : Int))]) (.r ((↑k : Int) + 1) (.g []
 (k + 1) [.s (li ((↑k : Int) + 1))]))))) (.o 0 [] [])) (by
  intro k h; try dsimp only [teasy, nthW, lc_iAtLa] at h ⊢
  have g1 := @fx_at _ _ isDots l k
  have g2 := @fx_next _ _ isDots l k
  with_reducible repeat' (first | apply And.intro | exact zR | (intro; skip) | apply c_iDots)
  all_goals (try simp only [std, inj] at *)
  all_goals with_reducible repeat' apply And.intro
  all_goals (try (first | with_reducible apply c_iDots | (simp only [← List.map_append]; first | with_reducible apply c_iDots)))
  all_goals (try (first | exact z | grind [atI, snocI, snocS, rowSnoc])))
theorem c_iAt (l : List Syntax)  : P_c_iAt l := fnOK Tryz.call162 Tryz.func162 (.z syntaxC l (.l (lc_iAtLa l) (Sc_iAtLa l) [] [.s (li 0)] 0 (.t (.s (li (-1 : Int))) (.t (.s (li (atI
 l))) .q)))) (by
  dsimp only [teasy, P_c_iAt, nthW, lc_iAtLa]
  with_reducible repeat' (first | apply And.intro | exact zR | (intro; skip) | apply c_iDots)
  all_goals (try simp only [std, inj] at *)
  all_goals with_reducible repeat' apply And.intro
  all_goals (try (first | with_reducible apply c_iDots | (simp only [← List.map_append]; first | with_reducible apply c_iDots)))
  all_goals (try (first | exact z | grind [snocI, snocS, rowSnoc])))
def wlk (f : Syntax → Int → List Capture → Option (List Capture)) : List Syntax → Int → Int → Int → List Capture → Option (List Capture)
  | [], _, _, _, o => some o
  | x :: r, i, a, d, o => if i = a then wlk f r (i + 1) a d o else match f x (if i + 1 = a then d + 1 else d) o with
    | none => none
    | some o' => wlk f r (i + 1) a d o'
theorem wlk_append (f : Syntax → Int → List Capture → Option (List Capture)) : ∀ (A B : List Syntax) (i a d : Int) (o : List Capture), wlk f (A ++ B) i a d o = match wlk f A i a d o with
    | none => none
    | some o' => wlk f B (i + (A.length : Int)) a d o'
  | [], B, i, a, d, o => by simp [wlk]
  | x :: A, B, i, a, d, o => by
    have e : i + ((x :: A).length : Int) = i + 1 + (A.length : Int) := by simp only [List.length_cons]; omega
    simp only [List.cons_append, wlk, e]
    split
    · exact wlk_append f A B _ a d o
    · split
      · rfl
      · exact wlk_append f A B _ a d _
theorem wlk_step {f : Syntax → Int → List Capture → Option (List Capture)} {l : List Syntax} {k : Nat} {a d : Int} {o o' : List Capture} (h : k < l.length) (e : wlk f (l.take k) 0 a d o = some o') :
    wlk f (l.take (k + 1)) 0 a d o = if (k : Int) = a then some o' else f (l.getD k default) (if (k : Int) + 1 = a then d + 1 else d) o' := by
  rw [take_get h, wlk_append, e]
  have : (0 : Int) + ((l.take k).length : Int) = (k : Int) := by simp; omega
  simp only [this, wlk]
  split
  · rfl
  · cases f (l.getD k default) (if (k : Int) + 1 = a then d + 1 else d) o' <;> rfl
theorem wlk_none {f : Syntax → Int → List Capture → Option (List Capture)} {l : List Syntax} {k : Nat} {a d : Int} {o : List Capture} (e : wlk f (l.take k) 0 a d o = none) : wlk f l 0 a d o = none := by
  have := wlk_append f (l.take k) (l.drop k) 0 a d o
  rw [List.take_append_drop, e] at this; exact this
def cap1 (p : Syntax) (d : Int) : Capture := ⟨p, d, ⟨0, 0, mkS [], [], []⟩, []⟩
mutual
def vrS (Ls : List Syntax) : Syntax → Int → List Capture → Option (List Capture)
  | ⟨k, n, t, s, l⟩, d, o => if k = 1 then (if isUnd ⟨k, n, t, s, l⟩ = true ∨ hasI Ls ⟨k, n, t, s, l⟩ = true then some o else
      if isDots ⟨k, n, t, s, l⟩ = true ∨ 0 ≤ fnd o ⟨k, n, t, s, l⟩ ∨ 3 < d then none else some (o ++ [cap1 ⟨k, n, t, s, l⟩ d]))
    else if okS l = true then vrSs Ls l 0 (atS l) d o else none
def vrSs (Ls : List Syntax) : List Syntax → Int → Int → Int → List Capture → Option (List Capture)
  | [], _, _, _, o => some o
  | x :: r, i, a, d, o => if i = a then vrSs Ls r (i + 1) a d o else match vrS Ls x (if i + 1 = a then d + 1 else d) o with
    | none => none
    | some o' => vrSs Ls r (i + 1) a d o'
end
theorem vrSs_eq (Ls : List Syntax) : ∀ l i a d o, vrSs Ls l i a d o = wlk (vrS Ls) l i a d o
  | [], i, a, d, o => by simp [vrSs, wlk]
  | x :: r, i, a, d, o => by
    simp only [vrSs, wlk, vrSs_eq Ls r]
theorem vrS_eq (Ls : List Syntax) (p : Syntax) (d : Int) (o : List Capture) : vrS Ls p d o = if p.kind = 1 then (if isUnd p = true ∨ hasI Ls p = true then some o else
      if isDots p = true ∨ 0 ≤ fnd o p ∨ 3 < d then none else some (o ++ [cap1 p d]))
    else if okS p.items = true then wlk (vrS Ls) p.items 0 (atS p.items) d o else none := by cases p; simp only [vrS, vrSs_eq]
theorem wlk_len (f : Syntax → Int → List Capture → Option (List Capture)) : ∀ (l : List Syntax), (∀ x ∈ l, ∀ d o o', f x d o = some o' → o'.length ≤ o.length + sizeY x) → ∀ i a d o o', wlk f l i a d o = some o' → o'.length ≤ o.length + sumBy sizeY l
  | [], _, i, a, d, o, o', e => by simp only [wlk, Option.some.injEq] at e; subst e; simp [sumBy]
  | x :: r, h, i, a, d, o, o', e => by
    have ih := wlk_len f r fun y hy => h y (List.mem_cons_of_mem _ hy)
    simp only [wlk] at e
    simp only [sumBy]
    split at e
    · have := ih _ _ _ _ _ e; omega
    · split at e
      · cases e
      · rename_i o1 h1
        have h2 := ih _ _ _ _ _ e
        have h3 := h x List.mem_cons_self _ _ _ h1
        omega
theorem vrS_len (Ls : List Syntax) : ∀ (p : Syntax) (d : Int) (o o' : List Capture), vrS Ls p d o = some o' → o'.length ≤ o.length + sizeY p := by
  refine Syntax.ind fun p ih d o o' e => ?_
  rw [vrS_eq] at e
  rw [sizeY_eq]
  split at e
  · split at e
    · simp only [Option.some.injEq] at e; subst e; omega
    · split at e
      · cases e
      · simp only [Option.some.injEq] at e; subst e; simp
  · split at e
    · have := wlk_len (vrS Ls) p.items (fun x hx d o o' h => ih x hx d o o' h) _ _ _ _ _ e; omega
    · cases e
def vaS (Ls : List Syntax) (p : Syntax) (d : Int) (o : List Capture) (k : Nat) : List Capture := if okS p.items = true then (wlk (vrS Ls) (p.items.take k) 0 (atS p.items) d o).getD [] else o
def vbS (Ls : List Syntax) (p : Syntax) (d : Int) (o : List Capture) (k : Nat) : Bool := okS p.items && (wlk (vrS Ls) (p.items.take k) 0 (atS p.items) d o).isSome
theorem vS_stop {Ls : List Syntax} {p : Syntax} {d : Int} {o : List Capture} {k : Nat} (hk : k ≤ p.items.length) (h : vbS Ls p d o k = false) : vaS Ls p d o k = vaS Ls p d o p.items.length ∧ vbS Ls p d o p.items.length = false := by
  unfold vaS vbS at *
  by_cases e : okS p.items = true
  · rw [e] at h
    cases e2 : wlk (vrS Ls) (p.items.take k) 0 (atS p.items) d o with
    | none => rw [if_pos e, if_pos e, List.take_length, wlk_none e2]; simp
    | some v => rw [e2] at h; cases h
  · have e' : okS p.items = false := by simpa using e
    rw [if_neg e, if_neg e, e']; simp
theorem vS_skip {Ls : List Syntax} {p : Syntax} {d : Int} {o : List Capture} {k : Nat} (hk : k < p.items.length) (h : vbS Ls p d o k = true) (e : (k : Int) = atS p.items) : vaS Ls p d o (k + 1) = vaS Ls p d o k ∧ vbS Ls p d o (k + 1) = true := by
  unfold vaS vbS at *
  simp only [Bool.and_eq_true] at h
  obtain ⟨v, hv⟩ := Option.isSome_iff_exists.1 h.2
  rw [if_pos h.1, if_pos h.1, wlk_step hk hv, if_pos e, hv, h.1]; simp
theorem vS_go {Ls : List Syntax} {p : Syntax} {d : Int} {o : List Capture} {k : Nat} (hk : k < p.items.length) (h : vbS Ls p d o k = true) (e : ¬ (k : Int) = atS p.items) :
    vaS Ls p d o (k + 1) = (vrS Ls (p.items.getD k default) (if (k : Int) + 1 = atS p.items then d + 1 else d) (vaS Ls p d o k)).getD [] ∧ vbS Ls p d o (k + 1) = (vrS Ls (p.items.getD k default) (if (k : Int) + 1 = atS p.items then d + 1 else d) (vaS Ls p d o k)).isSome := by
  unfold vaS vbS at *
  simp only [Bool.and_eq_true] at h
  obtain ⟨v, hv⟩ := Option.isSome_iff_exists.1 h.2
  rw [if_pos h.1, if_pos h.1, wlk_step hk hv, if_neg e, hv, h.1]; simp
theorem vS_len {Ls : List Syntax} {p : Syntax} {d : Int} {o : List Capture} {k : Nat} (h : vbS Ls p d o k = true) : (vaS Ls p d o k).length ≤ o.length + sumBy sizeY (p.items.take k) := by
  unfold vaS vbS at *
  simp only [Bool.and_eq_true] at h
  obtain ⟨v, hv⟩ := Option.isSome_iff_exists.1 h.2
  rw [if_pos h.1, hv]
  exact wlk_len (vrS Ls) _ (fun x _ d o o' h => vrS_len Ls x d o o' h) _ _ _ _ _ hv
theorem vS_ok {Ls : List Syntax} {p : Syntax} {d : Int} {o : List Capture} {k : Nat} (h : vbS Ls p d o k = true) : okS p.items = true := by
  unfold vbS at h; simp only [Bool.and_eq_true] at h; exact h.1
theorem vS_end (Ls : List Syntax) (p : Syntax) (d : Int) (o : List Capture) (hk : ¬ p.kind = 1) : (vrS Ls p d o).isSome = vbS Ls p d o p.items.length ∧ (vbS Ls p d o p.items.length = true → (vrS Ls p d o).getD [] = vaS Ls p d o p.items.length) ∧ (vbS Ls p d o p.items.length = false → (vrS Ls p d o).getD [] = []) := by
  rw [vrS_eq, if_neg hk]
  unfold vaS vbS
  rw [List.take_length]
  by_cases e : okS p.items = true
  · rw [if_pos e, if_pos e, e]
    cases wlk (vrS Ls) p.items 0 (atS p.items) d o <;> simp
  · have e' : okS p.items = false := by simpa using e
    rw [if_neg e, if_neg e, e']; simp
theorem size_item {p : Syntax} {k : Nat} (h : k < p.items.length) : sumBy sizeY (p.items.take k) + sizeY (p.items.getD k default) + 1 ≤ sizeY p ∧ wY (p.items.getD k default) ≤ wY p := by
  have g1 := sizeY_eq p
  have g2 := @sumBy_step _ _ sizeY p.items k h
  have g3 := sumBy_takeLe sizeY p.items (k + 1)
  have g4 := @sumBy_mem _ wY p.items _ (getD_mem' h)
  have g5 := wY_eq p
  omega
theorem cap_snoc (o : List Capture) (p : Syntax) (d : Int) : o.map captureC ++ [[cI p.kind, cI p.number, cS p.text, Cell.list (List.map intC p.scopes), Cell.list (List.map syntaxC p.items), cI d, cI 0, cI 0, cS (mkS []), Cell.list [], Cell.list [], Cell.list []]] = (o ++ [cap1 p d]).map captureC :=
  rowSnoc (C := captureC) o (cap1 p d)
theorem vrS_out (Ls : List Syntax) (p : Syntax) (d : Int) (o : List Capture) (hk : p.kind = 1) (h : isUnd p = true ∨ hasI Ls p = true) : vrS Ls p d o = some o := by
  rw [vrS_eq, if_pos hk, if_pos h]
theorem vrS_bad (Ls : List Syntax) (p : Syntax) (d : Int) (o : List Capture) (hk : p.kind = 1) (h : isUnd p = false) (h2 : hasI Ls p = false) (h3 : isDots p = true ∨ 0 ≤ fnd o p ∨ 3 < d) : vrS Ls p d o = none := by
  rw [vrS_eq, if_pos hk, if_neg (by rw [h, h2]; simp), if_pos h3]
theorem vrS_new (Ls : List Syntax) (p : Syntax) (d : Int) (o : List Capture) (hk : p.kind = 1) (h : isUnd p = false) (h2 : hasI Ls p = false) (h3 : isDots p = false) (h4 : fnd o p < 0) (h5 : d ≤ 3) : vrS Ls p d o = some (o ++ [cap1 p d]) := by
  rw [vrS_eq, if_pos hk, if_neg (by rw [h, h2]; simp), if_neg (by rw [h3]; simp; omega)]
abbrev P_c_sVars (Ls : List Syntax) (p : Syntax) (d : Int) (o : List Capture) : Ct := ⟨56, [.arr true 12 (o.map captureC)], [ll (Ls.map syntaxC), syntaxA p, li d, .one (.ref 0)], [.dead, .arr true 12 (((vrS Ls p d o).getD []).map captureC)], .tup [.one (.ref 1), lb (vrS Ls p d o).isSome]⟩
def lc_sVars_sLa (Ls : List Syntax) (p : Syntax) (d : Int) (o : List Capture) : Lp Nat := .mk 84 1 (fun x => [(0, ll (List.map syntaxC Ls)), (2, li d), (3, SV.one (AC.ref 1)), (10,
 li (if okS p.items = true then atS p.items else (-1 : Int))), (11, hs x 1), (53, ll (List.map syntaxC p.items)), (54, li (↑(List.map syntaxC p.items).length : Int)), (55, hs x
 0)]) (fun x => [Ob.dead, ho x 2]) (fun k => [.s (li (↑k : Int)), .s (lb (vbS Ls p d o k)), .o (Ob.arr true 12 (List.map captureC (vaS Ls p d o k)))]) (fun k => k ≤ p.items.length
 ∧ p.items.length ≤ 9223372036854775807) (fun k => p.items.length - k) [.mk True (.exit 0) (fun x => [(3, SV.one (AC.ref 1)), (11, hs x 0)]) (fun x => [Ob.dead, ho x 1]) [.s (lb
 (vbS Ls p d o p.items.length)), .o (Ob.arr true 12 (List.map captureC (vaS Ls p d o p.items.length)))]]
theorem Sc_sVars_sLa (Ls : List Syntax) (p : Syntax) (d : Int) (o : List Capture) (h : 0 ≤ d ∧ d + (↑(depY p) : Int) ≤ 1000 ∧ wY p ≤ 1048576 ∧ o.length + sizeY p ≤ 2147483647) (ih
 : ∀ (z : Syntax), z ∈ p.items → ∀ (Ls : List Syntax) (d : Int) (o : List Capture), 0 ≤ d ∧ d + (↑(depY z) : Int) ≤ 1000 ∧ wY z ≤ 1048576 ∧ o.length + sizeY z ≤ 2147483647 → OK
 (P_c_sVars Ls z d o)) : Lp.Sem Tryz.prog (loopAt Tryz.f56 0) (lc_sVars_sLa Ls p d o) := lpOK (fun k => .i ((↑k : Int) < (↑(List.map syntaxC p.items).length : Int)) (.x (↑k : Int)
 (List.map syntaxC p.items) (syntaxF (p.items.getD k default)) (.b (!vbS Ls p d o k) (.o 0 [0, 1] [.s (lb (vbS Ls p d o k)), .o (Ob.arr true 12 (List.map captureC (vaS Ls p d o
 k)))]) (.i ((↑k : Int) = if okS p.items = true then atS p.items else (-1 : Int)) (.r ((↑k : Int) + 1) (.g [0, 1] (k + 1) [.s (li ((↑k : Int) + 1)), .s (lb (vbS Ls p d o k)), .o
 (Ob.arr true 12 (List.map captureC (vaS Ls p d o k)))])) (.r ((↑k : Int) + 1) (.i ((↑k : Int) + 1 = if okS p.items = true then atS p.items else (-1 : Int)) (.r (d + 1) (.d [.rd,
 .rd, .rd, .own true 12] (P_c_sVars Ls (p.items.getD k default) (d + 1) (vaS Ls p d o k)) (.r ((↑k : Int) + 1) (.g [0, 4] (k + 1) [.s (li ((↑k : Int) + 1)), .s (lb (vrS Ls
 (p.items.getD k default) (d + 1) (vaS Ls p d o k)).isSome), .o (Ob.arr true 12 (List.map captureC ((vrS Ls (p.items.getD k default) (d + 1) (vaS Ls p d o k)).getD [])))])))) (.d
 [.rd, .rd, .rd, .own true 12] (P_c_sVars Ls (p.items.getD k default) d (vaS Ls p d o k)) (.r ((↑k : Int) + 1) (.g [0, 4] (k + 1) [.s (li ((↑k : Int) + 1)), .s (lb (vrS Ls
 (p.items.getD k default) d (vaS Ls p d o k)).isSome), .o (Ob.arr true 12 (List.map captureC ((vrS Ls (p.items.getD k default) d (vaS Ls p d o k)).getD [])))])))))))) (.o 0 [0, 1]
 [.s (lb (vbS Ls p d o k)), .o (Ob.arr true 12 (List.map captureC (vaS Ls p d o k)))])) (by
  intro k h; try dsimp only [teasy, nthW, lc_sVars_sLa] at h ⊢
  have g1 := @vS_stop Ls p d o k
  have g2 := @vS_skip Ls p d o k
  have g3 := @vS_go Ls p d o k
  have g4 := @vS_len Ls p d o k
  have g5 := @vS_ok Ls p d o k
  have g6 := @depY_item p k
  have g7 := @size_item p k
  have g8 : k < p.items.length ∨ k = p.items.length ∨ p.items.length < k := by omega
  with_reducible repeat' (first | apply And.intro | exact zR | exact ih | (intro; skip) | apply c_sCopyY | apply ih)
  all_goals (try simp only [std, inj] at *)
  all_goals with_reducible repeat' apply And.intro
  all_goals (try (first | with_reducible apply c_sCopyY | with_reducible apply ih | (simp only [← List.map_append]; first | with_reducible apply c_sCopyY | with_reducible apply ih)))
  all_goals (try (first | exact z | grind [getD_mem', snocI, snocS, rowSnoc])))
theorem c_sVars_s (Ls : List Syntax) (p : Syntax) (d : Int) (o : List Capture) (h : 0 ≤ d ∧ d + depY p ≤ 1000 ∧ wY p ≤ 1048576 ∧ o.length + sizeY p ≤ 2147483647) (ih : ∀ z ∈
 p.items, ∀ (Ls : List Syntax) (d : Int) (o : List Capture) (h : 0 ≤ d ∧ d + depY z ≤ 1000 ∧ wY z ≤ 1048576 ∧ o.length + sizeY z ≤ 2147483647), P_c_sVars Ls z d o)  : P_c_sVars Ls
 p d o := fnOK Tryz.call56 Tryz.func56 (.i (p.kind = 1) (.i (p.text.data.toList = [(95 : UInt8)]) (.y true (.w (.ghost (.move 0)) (.f [2] [Ob.dead, Ob.arr true 12 (List.map captureC
 o)] (AV.tup [SV.one (AC.ref 1), lb true])))) (.c [.rd, .rd] (c_sHasI Ls p) (.b (hasI Ls p) (.w (.ghost (.move 0)) (.f [2] [Ob.dead, Ob.arr true 12 (List.map captureC o)] (AV.tup
 [SV.one (AC.ref 1), lb true]))) (.c [.rd] (c_sDots p) (.b (isDots p) (.y true (.y true (.w (.ghost (.nilreg 8 true 12)) (.w (.ghost (.move 0)) (.f [2] [Ob.dead, Ob.arr true 12 []]
 (AV.tup [SV.one (AC.ref 1), lb false])))))) (.c [.rd, .rd] (c_sFind o p) (.i (0 ≤ fnd o p) (.y true (.w (.ghost (.nilreg 8 true 12)) (.w (.ghost (.move 0)) (.f [2] [Ob.dead,
 Ob.arr true 12 []] (AV.tup [SV.one (AC.ref 1), lb false]))))) (.i (3 < d) (.w (.ghost (.nilreg 8 true 12)) (.w (.ghost (.move 0)) (.f [2] [Ob.dead, Ob.arr true 12 []] (AV.tup
 [SV.one (AC.ref 1), lb false])))) (.d [.rd] (P_c_sCopyY p) (.p (((List.map captureC o).length + 1) * 192 ≤ 140737488355328) (.f [5] [Ob.dead, Ob.arr true 12 (List.map captureC o
 ++ [[cI p.kind, cI p.number, cS p.text, Cell.list (List.map intC p.scopes), Cell.list (List.map syntaxC p.items), cI d, cI 0, cI 0, cS (ByteArray.mk #[]), Cell.list [], Cell.list
 [], Cell.list []]])] (AV.tup [SV.one (AC.ref 1), lb true])))))))))))) (.c [.rd] (c_sAt p.items) (.z syntaxC p.items (.w (.ghost (.move 0)) (.l (lc_sVars_sLa Ls p d o)
 (Sc_sVars_sLa Ls p d o h ih) [0, 2] [.s (li 0), .s (lb (okS p.items)), .o (Ob.arr true 12 (List.map captureC o))] 0 (.t (.b (!vbS Ls p d o p.items.length) (.w (.ghost (.nilreg 8
 true 12)) (.f [2] [Ob.dead, Ob.arr true 12 []] (AV.tup [SV.one (AC.ref 1), lb false]))) (.f [1] [Ob.dead, Ob.arr true 12 (List.map captureC (vaS Ls p d o p.items.length))] (AV.tup
 [SV.one (AC.ref 1), lb true]))) .q)))))) (by
  dsimp only [teasy, P_c_sVars, nthW, lc_sVars_sLa]
  have g1 := vS_end Ls p d o
  have g2 := sizeY_eq p
  have g3 : isUnd p = decide (p.text.data.toList = [95]) := rfl
  have g4 := vrS_out Ls p d o
  have g5 := vrS_bad Ls p d o
  have g6 := vrS_new Ls p d o
  have g7 : ¬p.kind = 1 → okS p.items = false → vbS Ls p d o 0 = false := fun _ h => by unfold vbS; rw [h]; rfl
  have g8 : okS p.items = true → vbS Ls p d o 0 = true := fun h => by unfold vbS; rw [h]; simp [wlk]
  have g9 : vaS Ls p d o 0 = o := by unfold vaS; split <;> simp [wlk]
  have g10 : okS p.items = vbS Ls p d o 0 := by unfold vbS; simp [wlk]
  have g11 := cap_snoc o p d
  have g12 : p.kind = 1 → isUnd p = false → hasI Ls p = false → isDots p = false → fnd o p < 0 → d ≤ 3 → (vrS Ls p d o).getD [] = o ++ [cap1 p d] := fun a b c e f g => by rw [g6 a b c e f g]; rfl
  with_reducible repeat' (first | apply And.intro | exact zR | exact ih | (intro; skip) | apply c_sCopyY)
  all_goals (try simp only [std, inj] at *)
  all_goals with_reducible repeat' apply And.intro
  all_goals (try (first | with_reducible apply c_sCopyY | with_reducible apply ih | (simp only [← List.map_append]; first | with_reducible apply c_sCopyY | with_reducible apply ih)))
  all_goals (try (first | exact z | grind [snocI, snocS, rowSnoc])))
theorem c_sVars (p : Syntax) : ∀ (Ls : List Syntax) (d : Int) (o : List Capture) (h : 0 ≤ d ∧ d + depY p ≤ 1000 ∧ wY p ≤ 1048576 ∧ o.length + sizeY p ≤ 2147483647), P_c_sVars Ls p d o := Syntax.ind (P := fun p => ∀ (Ls : List Syntax) (d : Int) (o : List Capture) (h : 0 ≤ d ∧ d + depY p ≤ 1000 ∧ wY p ≤ 1048576 ∧ o.length + sizeY p ≤ 2147483647), P_c_sVars Ls p d o) (fun p ih Ls d o h => c_sVars_s Ls p d o h ih) p
mutual
def vrI (Ls : List Syntax) : Syntax → Int → List Capture → Option (List Capture)
  | ⟨k, n, t, s, l⟩, d, o => if k = 1 then (if isDots ⟨k, n, t, s, l⟩ = true then none else if isUnd ⟨k, n, t, s, l⟩ = true ∨ hasJ Ls ⟨k, n, t, s, l⟩ = true then some o else
      if 3 < d then none else if (o.any fun c => sameB c.name ⟨k, n, t, s, l⟩) = true then none else some (o ++ [cap1 ⟨k, n, t, s, l⟩ d]))
    else if k ≠ 0 then some o else if atI l = 0 then none else vrIs Ls l 0 (atI l) d o
def vrIs (Ls : List Syntax) : List Syntax → Int → Int → Int → List Capture → Option (List Capture)
  | [], _, _, _, o => some o
  | x :: r, i, a, d, o => if i = a then vrIs Ls r (i + 1) a d o else match vrI Ls x (if i + 1 = a then d + 1 else d) o with
    | none => none
    | some o' => vrIs Ls r (i + 1) a d o'
end
theorem vrIs_eq (Ls : List Syntax) : ∀ l i a d o, vrIs Ls l i a d o = wlk (vrI Ls) l i a d o
  | [], i, a, d, o => by simp [vrIs, wlk]
  | x :: r, i, a, d, o => by
    simp only [vrIs, wlk, vrIs_eq Ls r]
theorem vrI_eq (Ls : List Syntax) (p : Syntax) (d : Int) (o : List Capture) : vrI Ls p d o = if p.kind = 1 then (if isDots p = true then none else if isUnd p = true ∨ hasJ Ls p = true then some o else
      if 3 < d then none else if (o.any fun c => sameB c.name p) = true then none else some (o ++ [cap1 p d]))
    else if p.kind ≠ 0 then some o else if atI p.items = 0 then none else wlk (vrI Ls) p.items 0 (atI p.items) d o := by cases p; simp only [vrI, vrIs_eq]
theorem vrI_len (Ls : List Syntax) : ∀ (p : Syntax) (d : Int) (o o' : List Capture), vrI Ls p d o = some o' → o'.length ≤ o.length + sizeY p := by
  refine Syntax.ind fun p ih d o o' e => ?_
  rw [vrI_eq] at e
  rw [sizeY_eq]
  split at e
  · split at e
    · cases e
    · split at e
      · simp only [Option.some.injEq] at e; subst e; omega
      · split at e
        · cases e
        · split at e
          · cases e
          · simp only [Option.some.injEq] at e; subst e; simp
  · split at e
    · simp only [Option.some.injEq] at e; subst e; omega
    · split at e
      · cases e
      · have := wlk_len (vrI Ls) p.items (fun x hx d o o' h => ih x hx d o o' h) _ _ _ _ _ e; omega
def wI (Ls : List Syntax) (p : Syntax) (d : Int) (o : List Capture) (k : Nat) : Option (List Capture) := wlk (vrI Ls) (p.items.take k) 0 (atI p.items) d o
def vaI (Ls : List Syntax) (p : Syntax) (d : Int) (o : List Capture) (k : Nat) : List Capture := (wI Ls p d o k).getD []
def vbI (Ls : List Syntax) (p : Syntax) (d : Int) (o : List Capture) (k : Nat) : Bool := (wI Ls p d o k).isSome
theorem vI_skip {Ls : List Syntax} {p : Syntax} {d : Int} {o : List Capture} {k : Nat} (hk : k < p.items.length) (h : vbI Ls p d o k = true) (e : (k : Int) = atI p.items) : vaI Ls p d o (k + 1) = vaI Ls p d o k ∧ vbI Ls p d o (k + 1) = true := by
  unfold vaI vbI wI at *
  obtain ⟨v, hv⟩ := Option.isSome_iff_exists.1 h
  rw [wlk_step hk hv, if_pos e, hv]; simp
theorem vI_go {Ls : List Syntax} {p : Syntax} {d : Int} {o : List Capture} {k : Nat} (hk : k < p.items.length) (h : vbI Ls p d o k = true) (e : ¬ (k : Int) = atI p.items) :
    vaI Ls p d o (k + 1) = (vrI Ls (p.items.getD k default) (if (k : Int) + 1 = atI p.items then d + 1 else d) (vaI Ls p d o k)).getD [] ∧ vbI Ls p d o (k + 1) = (vrI Ls (p.items.getD k default) (if (k : Int) + 1 = atI p.items then d + 1 else d) (vaI Ls p d o k)).isSome := by
  unfold vaI vbI wI at *
  obtain ⟨v, hv⟩ := Option.isSome_iff_exists.1 h
  rw [wlk_step hk hv, if_neg e, hv]; simp
theorem vI_stop {Ls : List Syntax} {p : Syntax} {d : Int} {o : List Capture} {k : Nat} (h : vbI Ls p d o k = false) : vbI Ls p d o p.items.length = false := by
  unfold vbI wI at *
  cases e2 : wlk (vrI Ls) (p.items.take k) 0 (atI p.items) d o with
  | none => rw [List.take_length, wlk_none e2]; rfl
  | some v => rw [e2] at h; cases h
theorem vI_len {Ls : List Syntax} {p : Syntax} {d : Int} {o : List Capture} {k : Nat} (h : vbI Ls p d o k = true) : (vaI Ls p d o k).length ≤ o.length + sumBy sizeY (p.items.take k) := by
  unfold vaI vbI wI at *
  obtain ⟨v, hv⟩ := Option.isSome_iff_exists.1 h
  rw [hv]
  exact wlk_len (vrI Ls) _ (fun x _ d o o' h => vrI_len Ls x d o o' h) _ _ _ _ _ hv
theorem vI_end (Ls : List Syntax) (p : Syntax) (d : Int) (o : List Capture) (hk : ¬ p.kind = 1) (h0 : p.kind = 0) (ha : ¬ atI p.items = 0) : (vrI Ls p d o).isSome = vbI Ls p d o p.items.length ∧ (vrI Ls p d o).getD [] = vaI Ls p d o p.items.length := by
  rw [vrI_eq, if_neg hk, if_neg (by simp [h0]), if_neg ha]
  unfold vaI vbI wI
  rw [List.take_length]; exact ⟨rfl, rfl⟩
theorem vrI_dots {Ls : List Syntax} {p : Syntax} {d : Int} {o : List Capture} (hk : p.kind = 1) (h : isDots p = true) : vrI Ls p d o = none := by
  rw [vrI_eq, if_pos hk, if_pos h]
theorem vrI_out {Ls : List Syntax} {p : Syntax} {d : Int} {o : List Capture} (hk : p.kind = 1) (h : isDots p = false) (h2 : isUnd p = true ∨ hasJ Ls p = true) : vrI Ls p d o = some o := by
  rw [vrI_eq, if_pos hk, if_neg (by simp [h]), if_pos h2]
theorem vrI_deep {Ls : List Syntax} {p : Syntax} {d : Int} {o : List Capture} (hk : p.kind = 1) (h : isDots p = false) (h2 : isUnd p = false) (h3 : hasJ Ls p = false) (h4 : 3 < d) : vrI Ls p d o = none := by
  rw [vrI_eq, if_pos hk, if_neg (by simp [h]), if_neg (by simp [h2, h3]), if_pos h4]
theorem vrI_twice {Ls : List Syntax} {p : Syntax} {d : Int} {o : List Capture} (hk : p.kind = 1) (h : isDots p = false) (h2 : isUnd p = false) (h3 : hasJ Ls p = false) (h5 : (o.any fun c => sameB c.name p) = true) : vrI Ls p d o = none := by
  rw [vrI_eq, if_pos hk, if_neg (by simp [h]), if_neg (by simp [h2, h3])]
  split
  · rfl
  · first | rfl | rw [if_pos h5]
theorem vrI_new {Ls : List Syntax} {p : Syntax} {d : Int} {o : List Capture} (hk : p.kind = 1) (h : isDots p = false) (h2 : isUnd p = false) (h3 : hasJ Ls p = false) (h4 : d ≤ 3) (h5 : (o.any fun c => sameB c.name p) = false) : vrI Ls p d o = some (o ++ [cap1 p d]) := by
  rw [vrI_eq, if_pos hk, if_neg (by simp [h]), if_neg (by simp [h2, h3]), if_neg (by omega), if_neg (by simp [h5])]
theorem vrI_other {Ls : List Syntax} {p : Syntax} {d : Int} {o : List Capture} (hk : ¬ p.kind = 1) (h0 : ¬ p.kind = 0) : vrI Ls p d o = some o := by
  rw [vrI_eq, if_neg hk, if_pos h0]
theorem vrI_front {Ls : List Syntax} {p : Syntax} {d : Int} {o : List Capture} (hk : ¬ p.kind = 1) (h0 : p.kind = 0) (ha : atI p.items = 0) : vrI Ls p d o = none := by
  rw [vrI_eq, if_neg hk, if_neg (by simp [h0]), if_pos ha]
abbrev P_c_iVars (Ls : List Syntax) (p : Syntax) (d : Int) (o : List Capture) : Ct := ⟨117, [.arr true 12 (o.map captureC)], [ll (Ls.map syntaxC), syntaxA p, li d, .one (.ref 0)], [.dead, .arr true 12 (((vrI Ls p d o).getD []).map captureC)], .tup [.one (.ref 1), lb (vrI Ls p d o).isSome]⟩
def lc_iVars_sLb (Ls : List Syntax) (p : Syntax) (d : Int) (o : List Capture) : Lp Nat := .mk 93 1 (fun x => [(0, ll (List.map syntaxC Ls)), (2, li d), (3, SV.one (AC.ref 1)), (12,
 li (atI p.items)), (63, ll (List.map syntaxC p.items)), (64, li (↑(List.map syntaxC p.items).length : Int)), (65, hs x 0)]) (fun x => [Ob.dead, ho x 1]) (fun k => [.s (li (↑k :
 Int)), .o (Ob.arr true 12 (List.map captureC (vaI Ls p d o k)))]) (fun k => k ≤ p.items.length ∧ p.items.length ≤ 9223372036854775807 ∧ vbI Ls p d o k = true) (fun k =>
 p.items.length - k) [.mk (vbI Ls p d o p.items.length = true) (.exit 3) (fun x => [(3, SV.one (AC.ref 1))]) (fun x => [Ob.dead, ho x 0]) [.o (Ob.arr true 12 (List.map captureC
 (vaI Ls p d o p.items.length)))], .mk (vbI Ls p d o p.items.length = false) .ret (fun x => [(8, hs x 0), (9, hs x 1)]) (fun x => [Ob.dead]) [.s (SV.one (AC.val (Cell.lit
 (Value.slice none 0 0)))), .s (lb false)]]
def lc_iVars_sLa (Ls : List Syntax) (p : Syntax) (d : Int) (o : List Capture) : Lp Nat := .mk 93 1 (fun x => [(2, li d), (3, SV.one (AC.ref 1)), (5, SV.one (AC.ptr 2 0)), (34,
 SV.one (AC.ref 1)), (35, li (↑(List.map captureC o).length : Int)), (36, hs x 0)]) (fun x => [Ob.dead, Ob.arr true 12 (List.map captureC o), Ob.box (vals (syntaxF p))]) (fun k =>
 [.s (li (↑k : Int))]) (fun k => k ≤ o.length ∧ o.length ≤ 9223372036854775807 ∧ ((List.take k o).any fun c => sameB c.name p) = false) (fun k => o.length - k) [.mk ((o.any fun c
 => sameB c.name p) = false) (.exit 1) (fun x => [(2, li d), (3, SV.one (AC.ref 1)), (5, SV.one (AC.ptr 2 0))]) (fun x => [Ob.dead, Ob.arr true 12 (List.map captureC o), Ob.box
 (vals (syntaxF p))]) [], .mk ((o.any fun c => sameB c.name p) = true) .ret (fun x => [(8, hs x 0), (9, hs x 1)]) (fun x => [Ob.dead]) [.s (SV.one (AC.val (Cell.lit (Value.slice
 none 0 0)))), .s (lb false)]]
theorem Sc_iVars_sLb (Ls : List Syntax) (p : Syntax) (d : Int) (o : List Capture) (h : 0 ≤ d ∧ d + (↑(depY p) : Int) ≤ 1000 ∧ wY p ≤ 1048576 ∧ o.length + sizeY p ≤ 2147483647) (ih
 : ∀ (z : Syntax), z ∈ p.items → ∀ (Ls : List Syntax) (d : Int) (o : List Capture), 0 ≤ d ∧ d + (↑(depY z) : Int) ≤ 1000 ∧ wY z ≤ 1048576 ∧ o.length + sizeY z ≤ 2147483647 → OK
 (P_c_iVars Ls z d o)) : Lp.Sem Tryz.prog (loopAt Tryz.f117 1) (lc_iVars_sLb Ls p d o) := lpOK (fun k => .i ((↑k : Int) < (↑(List.map syntaxC p.items).length : Int)) (.x (↑k : Int)
 (List.map syntaxC p.items) (syntaxF (p.items.getD k default)) (.i ((↑k : Int) = atI p.items) (.r ((↑k : Int) + 1) (.g [0, 1] (k + 1) [.s (li ((↑k : Int) + 1)), .o (Ob.arr true 12
 (List.map captureC (vaI Ls p d o k)))])) (.r ((↑k : Int) + 1) (.i ((↑k : Int) + 1 = atI p.items) (.r (d + 1) (.d [.rd, .rd, .rd, .own true 12] (P_c_iVars Ls (p.items.getD k
 default) (d + 1) (vaI Ls p d o k)) (.b (!(vrI Ls (p.items.getD k default) (d + 1) (vaI Ls p d o k)).isSome) (.o 1 [0] [.s (SV.one (AC.val (Cell.lit (Value.slice none 0 0)))), .s
 (lb false)]) (.r ((↑k : Int) + 1) (.g [0, 4] (k + 1) [.s (li ((↑k : Int) + 1)), .o (Ob.arr true 12 (List.map captureC ((vrI Ls (p.items.getD k default) (d + 1) (vaI Ls p d o
 k)).getD [])))]))))) (.d [.rd, .rd, .rd, .own true 12] (P_c_iVars Ls (p.items.getD k default) d (vaI Ls p d o k)) (.b (!(vrI Ls (p.items.getD k default) d (vaI Ls p d o
 k)).isSome) (.o 1 [0] [.s (SV.one (AC.val (Cell.lit (Value.slice none 0 0)))), .s (lb false)]) (.r ((↑k : Int) + 1) (.g [0, 4] (k + 1) [.s (li ((↑k : Int) + 1)), .o (Ob.arr true
 12 (List.map captureC ((vrI Ls (p.items.getD k default) d (vaI Ls p d o k)).getD [])))])))))))) (.o 0 [0, 1] [.o (Ob.arr true 12 (List.map captureC (vaI Ls p d o k)))])) (by
  intro k h; try dsimp only [teasy, nthW, lc_iVars_sLb] at h ⊢
  have g1 := @vI_stop Ls p d o (k + 1)
  have g2 := @vI_skip Ls p d o k
  have g3 := @vI_go Ls p d o k
  have g4 := @vI_len Ls p d o k
  have g6 := @depY_item p k
  have g7 := @size_item p k
  have g8 : k < p.items.length ∨ k = p.items.length ∨ p.items.length < k := by omega
  with_reducible repeat' (first | apply And.intro | exact zR | exact ih | (intro; skip) | apply c_iDots | apply c_iCopyY | apply ih)
  all_goals (try simp only [std, inj] at *)
  all_goals with_reducible repeat' apply And.intro
  all_goals (try (first | with_reducible apply c_iDots | with_reducible apply c_iCopyY | with_reducible apply ih | (simp only [← List.map_append]; first | with_reducible apply c_iDots | with_reducible apply c_iCopyY | with_reducible apply ih)))
  all_goals (try (first | exact z | grind [getD_mem', snocI, snocS, rowSnoc])))
theorem Sc_iVars_sLa (Ls : List Syntax) (p : Syntax) (d : Int) (o : List Capture) (h : 0 ≤ d ∧ d + (↑(depY p) : Int) ≤ 1000 ∧ wY p ≤ 1048576 ∧ o.length + sizeY p ≤ 2147483647) (ih
 : ∀ (z : Syntax), z ∈ p.items → ∀ (Ls : List Syntax) (d : Int) (o : List Capture), 0 ≤ d ∧ d + (↑(depY z) : Int) ≤ 1000 ∧ wY z ≤ 1048576 ∧ o.length + sizeY z ≤ 2147483647 → OK
 (P_c_iVars Ls z d o)) : Lp.Sem Tryz.prog (loopAt Tryz.f117 0) (lc_iVars_sLa Ls p d o) := lpOK (fun k => .i ((↑k : Int) < (↑(List.map captureC o).length : Int)) (.p (0 ≤ (↑k : Int)
 ∧ (↑k : Int).toNat < (List.map captureC o).length) (.w (.cells (captureF (o.getD (↑k : Int).toNat default))) (.p ((List.map captureC o)[(↑k : Int).toNat]? = some (captureF (o.getD
 (↑k : Int).toNat default))) (.c [.rd, .rd] (c_iSame (o.getD (↑k : Int).toNat default).name p) (.b (decide ((o.getD (↑k : Int).toNat default).name.kind = 1) && decide (p.kind = 1)
 && decide ((o.getD (↑k : Int).toNat default).name.text = p.text) && decide ((o.getD (↑k : Int).toNat default).name.scopes = p.scopes)) (.o 1 [0] [.s (SV.one (AC.val (Cell.lit
 (Value.slice none 0 0)))), .s (lb false)]) (.r ((↑k : Int) + 1) (.g [0, 1, 2] (k + 1) [.s (li ((↑k : Int) + 1))]))))))) (.o 0 [0, 1, 2] [])) (by
  intro k h; try dsimp only [teasy, nthW, lc_iVars_sLa] at h ⊢
  have g : k < o.length → sameB (o.getD k default).name p = true → (o.any fun c => sameB c.name p) = true := fun h1 h2 => by
    rw [List.any_eq_true]; exact ⟨_, getD_mem' h1, h2⟩
  have g2 : sameB (o.getD k default).name p = (decide ((o.getD k default).name.kind = 1) && decide (p.kind = 1) && decide ((o.getD k default).name.text = p.text) && decide ((o.getD k default).name.scopes = p.scopes)) := rfl
  with_reducible repeat' (first | apply And.intro | exact zR | exact ih | (intro; skip) | apply c_iDots | apply c_iCopyY)
  all_goals (try simp only [std, inj] at *)
  all_goals with_reducible repeat' apply And.intro
  all_goals (try (first | with_reducible apply c_iDots | with_reducible apply c_iCopyY | with_reducible apply ih | (simp only [← List.map_append]; first | with_reducible apply c_iDots | with_reducible apply c_iCopyY | with_reducible apply ih)))
  all_goals (try (first | exact z | grind [take_get, snocI, snocS, rowSnoc])))
theorem c_iVars_s (Ls : List Syntax) (p : Syntax) (d : Int) (o : List Capture) (h : 0 ≤ d ∧ d + depY p ≤ 1000 ∧ wY p ≤ 1048576 ∧ o.length + sizeY p ≤ 2147483647) (ih : ∀ z ∈
 p.items, ∀ (Ls : List Syntax) (d : Int) (o : List Capture) (h : 0 ≤ d ∧ d + depY z ≤ 1000 ∧ wY z ≤ 1048576 ∧ o.length + sizeY z ≤ 2147483647), P_c_iVars Ls z d o)  : P_c_iVars Ls
 p d o := fnOK Tryz.call117 Tryz.func117 (.i (p.kind = 1) (.c [.rd] (c_iDots p) (.b (isDots p) (.w (.ghost (.nilreg 8 true 12)) (.w (.ghost (.move 0)) (.f [2] [Ob.dead, Ob.arr true
 12 []] (AV.tup [SV.one (AC.ref 1), lb false])))) (.c [.rd] (c_iWild p) (.b (decide (p.kind = 1) && isUnd p) (.y true (.w (.ghost (.move 0)) (.f [2] [Ob.dead, Ob.arr true 12
 (List.map captureC o)] (AV.tup [SV.one (AC.ref 1), lb true])))) (.c [.rd, .rd] (c_iHasJ Ls p) (.b (hasJ Ls p) (.w (.ghost (.move 0)) (.f [2] [Ob.dead, Ob.arr true 12 (List.map
 captureC o)] (AV.tup [SV.one (AC.ref 1), lb true]))) (.i (3 < d) (.w (.ghost (.nilreg 8 true 12)) (.w (.ghost (.move 0)) (.f [2] [Ob.dead, Ob.arr true 12 []] (AV.tup [SV.one
 (AC.ref 1), lb false])))) (.z captureC o (.w (.ghost (.move 0)) (.l (lc_iVars_sLa Ls p d o) (Sc_iVars_sLa Ls p d o h ih) [0, 2, 1] [.s (li 0)] 0 (.t (.d [.rd] (P_c_iCopyY p) (.p
 (((List.map captureC o).length + 1) * 192 ≤ 140737488355328) (.f [6] [Ob.dead, Ob.arr true 12 (List.map captureC o ++ [[cI p.kind, cI p.number, cS p.text, Cell.list (List.map intC
 p.scopes), Cell.list (List.map syntaxC p.items), cI d, cI 0, cI 0, cS (ByteArray.mk #[]), Cell.list [], Cell.list [], Cell.list []]])] (AV.tup [SV.one (AC.ref 1), lb true])))) (.t
 (.w (.ghost (.nilreg 8 true 12)) (.f [1] [Ob.dead, Ob.arr true 12 []] (AV.tup [SV.one (AC.ref 1), lb false]))) .q)))))))))))) (.i (p.kind ≠ 0) (.w (.ghost (.move 0)) (.f [2]
 [Ob.dead, Ob.arr true 12 (List.map captureC o)] (AV.tup [SV.one (AC.ref 1), lb true]))) (.c [.rd] (c_iAt p.items) (.i (atI p.items = 0) (.w (.ghost (.nilreg 8 true 12)) (.w
 (.ghost (.move 0)) (.f [2] [Ob.dead, Ob.arr true 12 []] (AV.tup [SV.one (AC.ref 1), lb false])))) (.z syntaxC p.items (.w (.ghost (.move 0)) (.l (lc_iVars_sLb Ls p d o)
 (Sc_iVars_sLb Ls p d o h ih) [0, 2] [.s (li 0), .o (Ob.arr true 12 (List.map captureC o))] 0 (.t (.f [1] [Ob.dead, Ob.arr true 12 (List.map captureC (vaI Ls p d o
 p.items.length))] (AV.tup [SV.one (AC.ref 1), lb true])) (.t (.w (.ghost (.nilreg 8 true 12)) (.f [1] [Ob.dead, Ob.arr true 12 []] (AV.tup [SV.one (AC.ref 1), lb false])))
 .q))))))))) (by
  dsimp only [teasy, P_c_iVars, nthW, lc_iVars_sLa, lc_iVars_sLb]
  have g1 := vI_end Ls p d o
  have g2 := sizeY_eq p
  have g3 := @vrI_dots Ls p d o
  have g4 := @vrI_out Ls p d o
  have g5 := @vrI_deep Ls p d o
  have g6 := @vrI_twice Ls p d o
  have g7 := @vrI_new Ls p d o
  have g8 := @vrI_other Ls p d o
  have g9 := @vrI_front Ls p d o
  have g10 : vbI Ls p d o 0 = true := by unfold vbI wI; simp [wlk]
  have g11 : vaI Ls p d o 0 = o := by unfold vaI wI; simp [wlk]
  have g12 := cap_snoc o p d
  have g13 : isUnd p = decide (p.text.data.toList = [95]) := rfl
  have g14 : p.kind = 1 → isDots p = false → isUnd p = false → hasJ Ls p = false → d ≤ 3 → (o.any fun c => sameB c.name p) = false → (vrI Ls p d o).getD [] = o ++ [cap1 p d] := fun a b c e f g => by rw [g7 a b c e f g]; rfl
  have g15 : (vrI Ls p d o).isSome = false → (vrI Ls p d o).getD [] = [] := fun h => by cases e : vrI Ls p d o <;> simp_all
  with_reducible repeat' (first | apply And.intro | exact zR | exact ih | (intro; skip) | apply c_iDots | apply c_iCopyY)
  all_goals (try simp only [std, inj] at *)
  all_goals with_reducible repeat' apply And.intro
  all_goals (try (first | with_reducible apply c_iDots | with_reducible apply c_iCopyY | with_reducible apply ih | (simp only [← List.map_append]; first | with_reducible apply c_iDots | with_reducible apply c_iCopyY | with_reducible apply ih)))
  all_goals (try (first | exact z | grind [snocI, snocS, rowSnoc])))
theorem c_iVars (p : Syntax) : ∀ (Ls : List Syntax) (d : Int) (o : List Capture) (h : 0 ≤ d ∧ d + depY p ≤ 1000 ∧ wY p ≤ 1048576 ∧ o.length + sizeY p ≤ 2147483647), P_c_iVars Ls p d o := Syntax.ind (P := fun p => ∀ (Ls : List Syntax) (d : Int) (o : List Capture) (h : 0 ≤ d ∧ d + depY p ≤ 1000 ∧ wY p ≤ 1048576 ∧ o.length + sizeY p ≤ 2147483647), P_c_iVars Ls p d o) (fun p ih Ls d o h => c_iVars_s Ls p d o h ih) p
theorem hasI_hasJ {Ls : List Syntax} {p : Syntax} (hL : ∀ x ∈ Ls, litP x = true) (hk : p.kind = 1) : hasI Ls p = hasJ Ls p := by
  unfold hasI hasJ
  rw [Bool.eq_iff_iff]; simp only [List.any_eq_true]
  constructor
  · rintro ⟨x, hx, e⟩
    have := hL x hx
    simp only [litP_at, Bool.and_eq_true, decide_eq_true_eq] at this e
    exact ⟨x, hx, by simp only [sameB, Bool.and_eq_true, decide_eq_true_eq]; exact ⟨⟨⟨this.1.1.1, hk⟩, e.1⟩, e.2⟩⟩
  · rintro ⟨x, hx, e⟩
    simp only [sameB, Bool.and_eq_true, decide_eq_true_eq] at e
    exact ⟨x, hx, by simp only [Bool.and_eq_true, decide_eq_true_eq]; exact ⟨e.1.2, e.2⟩⟩
theorem lit_dots {Ls : List Syntax} {p : Syntax} (hL : ∀ x ∈ Ls, litP x = true) (hd : isDots p = true) : hasI Ls p = false ∧ isUnd p = false := by
  simp only [isDots, Bool.and_eq_true, decide_eq_true_eq] at hd
  constructor
  · unfold hasI; rw [List.any_eq_false]
    intro x hx e
    have := hL x hx
    simp only [litP_at, Bool.and_eq_true, decide_eq_true_eq, Bool.not_eq_true', isDots, Bool.and_eq_false_iff, decide_eq_false_iff_not] at this e
    rcases this.1.2 with h | h
    · exact h this.1.1.1
    · exact h (by rw [e.1]; exact hd.2)
  · unfold isUnd; rw [hd.2]; rfl
theorem fnd_any {o : List Capture} {p : Syntax} (ho : ∀ x ∈ o, isId x.name = true) (hk : p.kind = 1) (hd : isDots p = false) : (o.any fun c => sameB c.name p) = true ↔ 0 ≤ fnd o p := by
  have h1 : fndN o p < o.length ↔ ∃ x ∈ o, capFor p x = true := List.findIdx_lt_length
  have h2 : (o.any fun c => sameB c.name p) = true ↔ fndN o p < o.length := by
    rw [h1, List.any_eq_true]
    constructor
    · rintro ⟨x, hx, e⟩
      refine ⟨x, hx, ?_⟩
      simp only [sameB, Bool.and_eq_true, decide_eq_true_eq] at e
      simp only [capFor, Bool.and_eq_true, decide_eq_true_eq]
      exact ⟨⟨e.1.2, e.2⟩, ho x hx⟩
    · rintro ⟨x, hx, e⟩
      refine ⟨x, hx, ?_⟩
      simp only [capFor, isId, Bool.and_eq_true, decide_eq_true_eq] at e
      simp only [sameB, Bool.and_eq_true, decide_eq_true_eq]
      exact ⟨⟨⟨e.2.1, hk⟩, e.1.1⟩, e.1.2⟩
  rw [h2]; unfold fnd; rw [hd]
  simp only [true_and]
  split <;> omega
theorem fx_ge {α : Type} [Inhabited α] {p : α → Bool} {L : List α} : ∀ k, k ≤ L.length → (∀ j, j < k → p (L.getD j default) = false) → k ≤ L.findIdx p
  | 0, _, _ => Nat.zero_le _
  | k + 1, hk, h => fx_next (by omega) (fx_ge k (by omega) fun j hj => h j (by omega)) (h k (by omega))
theorem okA_at (l : List Syntax) : ∀ k, k ≤ l.length → okA l k = true → (atF l k = -1 ∧ ∀ j, j < k → isDots (l.getD j default) = false) ∨ ∃ m : Nat, 0 < m ∧ m < k ∧ atF l k = m ∧ isDots (l.getD m default) = true ∧ ∀ j, j < k → j ≠ m → isDots (l.getD j default) = false
  | 0, _, _ => .inl ⟨rfl, fun j h => absurd h (by omega)⟩
  | k + 1, hk, h => by
    simp only [okA, Bool.and_eq_true, Bool.or_eq_true, Bool.not_eq_true', decide_eq_true_eq] at h
    have ih := okA_at l k (by omega) h.1
    cases e : isDots (l.getD k default) with
    | false =>
      have e2 : atF l (k + 1) = atF l k := by simp only [atF, e]; rfl
      rcases ih with ⟨h1, h2⟩ | ⟨m, h1, h2, h3, h4, h5⟩
      · exact .inl ⟨by rw [e2]; exact h1, fun j hj => by
          by_cases ej : j = k
          · rw [ej]; exact e
          · exact h2 j (by omega)⟩
      · exact .inr ⟨m, h1, by omega, by rw [e2]; exact h3, h4, fun j hj hm => by
          by_cases ej : j = k
          · rw [ej]; exact e
          · exact h5 j (by omega) hm⟩
    | true =>
      have e2 : atF l (k + 1) = (k : Int) := by simp only [atF, e]; rfl
      rcases h.2 with h0 | ⟨h0, h0'⟩
      · rw [e] at h0; cases h0
      · rcases ih with ⟨h1, h2⟩ | ⟨m, h1, h2, h3, h4, h5⟩
        · exact .inr ⟨k, by omega, by omega, e2, e, fun j hj hm => h2 j (by omega)⟩
        · omega
theorem atI_at {l : List Syntax} {m : Nat} (hm : m < l.length) (h : isDots (l.getD m default) = true) (h2 : ∀ j, j < m → isDots (l.getD j default) = false) : atI l = m := by
  have := fx_at hm (fx_ge m (by omega) h2) h
  unfold atI; rw [this, if_pos hm]
theorem atI_ok {l : List Syntax} (h : okS l = true) : atI l = atS l ∧ atI l ≠ 0 := by
  rcases okA_at l l.length (Nat.le_refl _) h with ⟨h1, h2⟩ | ⟨m, h1, h2, h3, h4, h5⟩
  · have := fx_ge (p := isDots) l.length (Nat.le_refl _) h2
    have e : atI l = -1 := by unfold atI; rw [if_neg (by omega)]
    exact ⟨by rw [e]; exact h1.symm, by omega⟩
  · have e := atI_at h2 h4 fun j hj => h5 j (by omega) (by omega)
    exact ⟨by rw [e]; exact h3.symm, by omega⟩
theorem atI_bad {l : List Syntax} (h : okS l = false) : atI l = 0 ∨ ∃ j, j < l.length ∧ (j : Int) ≠ atI l ∧ isDots (l.getD j default) = true := by
  have : ∃ k, k < l.length ∧ okA l k = true ∧ okA l (k + 1) = false := by
    have : ∀ m, m ≤ l.length → okA l m = false → ∃ k, k < m ∧ okA l k = true ∧ okA l (k + 1) = false := by
      intro m
      induction m with
      | zero => intro _ e; cases e
      | succ m ih =>
        intro hm e
        cases e2 : okA l m with
        | true => exact ⟨m, by omega, e2, e⟩
        | false => obtain ⟨k, h1, h2⟩ := ih (by omega) e2; exact ⟨k, by omega, h2⟩
    obtain ⟨k, h1, h2⟩ := this l.length (Nat.le_refl _) h
    exact ⟨k, h1, h2⟩
  obtain ⟨k, hk, h1, h2⟩ := this
  have hd : isDots (l.getD k default) = true ∧ (k = 0 ∨ 0 ≤ atF l k) := by
    simp only [okA, h1, Bool.true_and, Bool.or_eq_false_iff, Bool.not_eq_false', Bool.and_eq_false_iff, decide_eq_false_iff_not] at h2
    exact ⟨h2.1, h2.2.elim (fun h => .inl (by omega)) fun h => .inr (by omega)⟩
  rcases hd.2 with e | e
  · subst e
    exact .inl (atI_at hk hd.1 fun j hj => absurd hj (Nat.not_lt_zero j))
  · rcases okA_at l k (by omega) h1 with ⟨h3, _⟩ | ⟨m, h3, h4, h5, h6, h7⟩
    · omega
    · have e := atI_at (by omega) h6 fun j hj => h7 j (by omega) (by omega)
      exact .inr ⟨k, hk, by omega, hd.1⟩
theorem wlk_same {f g : Syntax → Int → List Capture → Option (List Capture)} {good : List Capture → Prop} : ∀ (l : List Syntax), (∀ x ∈ l, ∀ d o, good o → f x d o = g x d o ∧ ∀ o', g x d o = some o' → good o') → ∀ i a d o, good o → wlk f l i a d o = wlk g l i a d o ∧ ∀ o', wlk g l i a d o = some o' → good o'
  | [], _, i, a, d, o, ho => ⟨rfl, fun o' e => by simp only [wlk, Option.some.injEq] at e; subst e; exact ho⟩
  | x :: r, h, i, a, d, o, ho => by
    have ih := wlk_same r fun y hy => h y (List.mem_cons_of_mem _ hy)
    simp only [wlk]
    by_cases e : i = a
    · rw [if_pos e, if_pos e]; exact ih _ _ _ _ ho
    · rw [if_neg e, if_neg e]
      have hx := h x List.mem_cons_self (if i + 1 = a then d + 1 else d) o ho
      rw [hx.1]
      cases e2 : g x (if i + 1 = a then d + 1 else d) o with
      | none => exact ⟨rfl, fun o' e => by cases e⟩
      | some o1 => exact ih _ _ _ _ (hx.2 o1 e2)
theorem wlk_bad {f : Syntax → Int → List Capture → Option (List Capture)} : ∀ (l : List Syntax) (j : Nat) (i a d : Int) (o : List Capture), j < l.length → i + (j : Int) ≠ a → (∀ d o, f (l.getD j default) d o = none) → wlk f l i a d o = none
  | [], j, _, _, _, _, h, _, _ => absurd h (by simp)
  | x :: r, 0, i, a, d, o, _, h1, h2 => by
    simp only [wlk]
    rw [if_neg (by omega)]
    have := h2 (if i + 1 = a then d + 1 else d) o
    simp only [List.getD_cons_zero] at this
    rw [this]
  | x :: r, j + 1, i, a, d, o, h, h1, h2 => by
    have ih := fun d o => wlk_bad r j (i + 1) a d o (by simpa using h) (by omega) (by simpa using h2)
    simp only [wlk]
    split
    · exact ih d o
    · split
      · rfl
      · exact ih d _
theorem isId_sym {p : Syntax} (h : okY p = true) (hk : p.kind = 1) : isId p = true := by
  have hi := okY_sym h hk
  simp only [isId, isSyn, Bool.and_eq_true, decide_eq_true_eq]
  refine ⟨hk, ⟨?_, ?_⟩, h⟩
  · rw [sizeY_eq, hi]; simp [sumBy]
  · rw [depY_eq, hi]; simp [maxBy]
theorem okY_kind {p : Syntax} (h : okY p = true) (h1 : ¬ p.kind = 1) (h0 : ¬ p.kind = 0) : p.items = [] := by
  rw [okY_eq] at h
  simp only [nodY0, nodD, Bool.and_eq_true, Bool.or_eq_true, decide_eq_true_eq] at h
  have : p.items.length = 0 := by omega
  exact List.length_eq_zero_iff.1 this
theorem vr_same {Ls : List Syntax} (hL : ∀ x ∈ Ls, litP x = true) : ∀ p : Syntax, okY p = true → ∀ d o, (∀ x ∈ o, isId x.name = true) → vrI Ls p d o = vrS Ls p d o ∧ ∀ o', vrS Ls p d o = some o' → ∀ x ∈ o', isId x.name = true := by
  refine Syntax.ind fun p ih h d o ho => ?_
  by_cases hk : p.kind = 1
  · have hn : ∀ x ∈ o ++ [cap1 p d], isId x.name = true := by
      intro x hx
      rcases List.mem_append.1 hx with hx | hx
      · exact ho x hx
      · rw [List.mem_singleton.1 hx]; exact isId_sym h hk
    cases hd : isDots p with
    | true =>
      have h1 := lit_dots hL hd
      rw [vrI_dots hk hd, vrS_bad Ls p d o hk h1.2 h1.1 (.inl hd)]
      exact ⟨rfl, fun o' e => by cases e⟩
    | false =>
      have hj := hasI_hasJ hL hk
      by_cases h1 : isUnd p = true ∨ hasI Ls p = true
      · rw [vrI_out hk hd (hj ▸ h1), vrS_out Ls p d o hk h1]
        exact ⟨rfl, fun o' e => by simp only [Option.some.injEq] at e; subst e; exact ho⟩
      · have hu : isUnd p = false := by cases e : isUnd p <;> simp_all
        have hI : hasI Ls p = false := by cases e : hasI Ls p <;> simp_all
        have hJ : hasJ Ls p = false := by rw [← hj]; exact hI
        by_cases h3 : 3 < d
        · rw [vrI_deep hk hd hu hJ h3, vrS_bad Ls p d o hk hu hI (.inr (.inr h3))]
          exact ⟨rfl, fun o' e => by cases e⟩
        · have hf := fnd_any ho hk hd
          cases h5 : (o.any fun c => sameB c.name p) with
          | true =>
            rw [vrI_twice hk hd hu hJ h5, vrS_bad Ls p d o hk hu hI (.inr (.inl (hf.1 h5)))]
            exact ⟨rfl, fun o' e => by cases e⟩
          | false =>
            have h6 : fnd o p < 0 := by
              by_cases h6 : fnd o p < 0
              · exact h6
              · rw [hf.2 (by omega)] at h5; cases h5
            rw [vrI_new hk hd hu hJ (by omega) h5, vrS_new Ls p d o hk hu hI hd h6 (by omega)]
            exact ⟨rfl, fun o' e => by simp only [Option.some.injEq] at e; subst e; exact hn⟩
  · by_cases h0 : p.kind = 0
    · rw [vrS_eq, if_neg hk]
      cases hs : okS p.items with
      | true =>
        have ha := atI_ok hs
        rw [vrI_eq, if_neg hk, if_neg (by simp [h0]), if_neg ha.2, if_pos rfl, ha.1]
        exact wlk_same (good := fun o => ∀ x ∈ o, isId x.name = true) p.items (fun x hx d o ho => ih x hx (okY_item h x hx) d o ho) _ _ _ _ ho
      | false =>
        refine ⟨?_, fun o' e => by simp at e⟩
        rw [if_neg (by simp)]
        rcases atI_bad hs with ha | ⟨j, hj, hja, hjd⟩
        · exact vrI_front hk h0 ha
        · rw [vrI_eq, if_neg hk, if_neg (by simp [h0])]
          split
          · rfl
          · refine wlk_bad p.items j _ _ _ _ hj (by omega) fun d o => vrI_dots ?_ hjd
            simp only [isDots, Bool.and_eq_true, decide_eq_true_eq] at hjd; exact hjd.1
    · have hi := okY_kind h hk h0
      rw [vrI_other hk h0, vrS_eq, if_neg hk, hi]
      simp only [okS, List.length_nil, okA, if_true, wlk]
      exact ⟨trivial, fun o' e => by simp only [Option.some.injEq] at e; subst e; exact ho⟩
theorem vr_top {Ls : List Syntax} {p : Syntax} (hL : okL Ls = true) (hp : isSyn p = true) : vrI Ls p 0 [] = vrS Ls p 0 [] := by
  simp only [okL, Bool.and_eq_true, List.all_eq_true] at hL
  simp only [isSyn, Bool.and_eq_true] at hp
  exact (vr_same hL.1 p hp.2 0 [] (fun x hx => by cases hx)).1
abbrev P_c_iPat (Ls : List Syntax) (p : Syntax) : Ct := ⟨67, [], [ll (Ls.map syntaxC), syntaxA p], [.arr true 12 ((if okL Ls = true ∧ isSyn p = true then (vrS Ls p 0 []).getD [] else []).map captureC)], .tup [.one (.ref 0), lb (okL Ls && isSyn p && (vrS Ls p 0 []).isSome)]⟩
theorem c_iPat (Ls : List Syntax) (p : Syntax) (h : wY p ≤ 1048576)  : P_c_iPat Ls p := fnOK Tryz.call67 Tryz.func67 (.c [.rd] (c_iLits Ls) (.b (!okL Ls) (.y true (.w (.ghost
 (.nilreg 4 true 12)) (.f [1] [Ob.arr true 12 []] (AV.tup [SV.one (AC.ref 0), lb false])))) (.c [.rd] (c_iIsSyntax p) (.b (!isSyn p) (.w (.ghost (.nilreg 4 true 12)) (.f [1]
 [Ob.arr true 12 []] (AV.tup [SV.one (AC.ref 0), lb false]))) (.d [.rd, .rd, .rd, .own true 12] (P_c_iVars Ls p 0 []) (.f [2] [Ob.arr true 12 (List.map captureC ((vrI Ls p 0
 []).getD []))] (AV.tup [SV.one (AC.ref 0), lb (vrI Ls p 0 []).isSome]))))))) (by
  dsimp only [teasy, P_c_iPat]
  have g : isSyn p = true → sizeY p ≤ 2000 ∧ depY p ≤ 40 := fun h => by simp only [isSyn, Bool.and_eq_true, decide_eq_true_eq] at h; exact ⟨h.1.1, h.1.2⟩
  have g2 := @vr_top Ls p
  with_reducible repeat' (first | apply And.intro | exact zR | (intro; skip) | apply c_iVars)
  all_goals (try simp only [std, inj] at *)
  all_goals with_reducible repeat' apply And.intro
  all_goals (try (first | with_reducible apply c_iVars | (simp only [← List.map_append]; first | with_reducible apply c_iVars)))
  all_goals (try (first | exact z | grind [snocI, snocS, rowSnoc])))
end Go.Proofs.YtclpofblehlojaaGreatDoor
end
