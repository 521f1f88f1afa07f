/- Part 1 of the proof: The program's NewWorld returns what the reference's returns. No condition. -/
import Derived.Test.YtjgbkigdnjalkaaGreatDoorQ4
import Derived.Lib.AtoiErr
import Derived.Shelf.Strings.OnBuilder
import Derived.Shelf.Strconv.Itoa3
import Derived.Shelf.Strconv.Atoi
import Derived.Shelf.Strconv.AtoiErr
import Derived.WalkSmall
section
namespace Go.Proofs.YtjgbkigdnjalkaaGreatDoor
open Go Go.Proofs.YtjgbkigdnjalkaaGreatDoor.Ab
set_option linter.unusedVariables false
set_option linter.unusedSimpArgs false
set_option maxHeartbeats 4000000
theorem all_stop {L : List UInt8} {p : UInt8 → Bool} {k : Nat} (h : k < L.length) (hp : p (L.getD k 0) = false) : L.all p = false := by
  rw [List.all_eq_false]
  have e : L.getD k 0 = L[k] := by simp [h]
  exact ⟨L[k], List.getElem_mem h, by rw [← e, hp]; decide⟩
theorem all_go {L : List UInt8} {p : UInt8 → Bool} {k : Nat} (h : k < L.length) (hp : p (L.getD k 0) = true) (ht : (L.take k).all p = true) : (L.take (k + 1)).all p = true := by
  rw [take0 h, List.all_append, ht, List.all_cons, hp]; rfl
theorem all_all {L : List UInt8} {p : UInt8 → Bool} {k : Nat} (h : L.length ≤ k) (ht : (L.take k).all p = true) : L.all p = true := by
  rwa [List.take_of_length_le h] at ht
def lu (n : Int) : SV := .one (.val (.lit (.int .u8 n)))
def isDig (n : Int) : Bool := decide (48 ≤ n ∧ n ≤ 57)
def markI : List Int := [33, 63, 42, 60, 62, 61, 47, 43, 45, 46, 95]
def isMk (n : Int) : Bool := decide (97 ≤ n ∧ n ≤ 122) || isDig n || decide (n ∈ markI)
theorem mark_at {k : Nat} (h : k < 11) : ((([33, 63, 42, 60, 62, 61, 47, 43, 45, 46, 95] : List UInt8).getD k 0).toNat : Int) = markI.getD k default := by
  have : ∀ k, k < 11 → ((([33, 63, 42, 60, 62, 61, 47, 43, 45, 46, 95] : List UInt8).getD k 0).toNat : Int) = markI.getD k default := by decide
  exact this k h
def isStB (n : Int) : Bool := decide (32 ≤ n ∧ n ≤ 126 ∧ n ≠ 34)
def isSym (s : ByteArray) : Bool := decide (1 ≤ (s.size : Int) ∧ (s.size : Int) ≤ 16) && !isDig (s.data.toList.getD 0 0).toNat && !(decide (((s.data.toList.getD 0 0).toNat : Int) = 45) && decide (1 < (s.size : Int)) && isDig (s.data.toList.getD 1 0).toNat) && s.data.toList.all fun b => isMk b.toNat
def isStr (s : ByteArray) : Bool := decide ((s.size : Int) ≤ 20) && s.data.toList.all fun b => isStB b.toNat
abbrev P_c_sDigit (n : Int) : Ct := ⟨147, [], [lu n], [], .sv (lb (isDig n))⟩
theorem c_sDigit (n : Int)  : P_c_sDigit n := fnOK Tryz.call147 Tryz.func147 (.i (48 ≤ n) (.s (lb (decide (n ≤ 57)))) (.s (lb false))) (by
  dsimp only [teasy, P_c_sDigit]
  with_reducible repeat' (first | apply And.intro | exact zR | (intro; skip))
  all_goals (try simp only [std, inj] at *)
  all_goals with_reducible repeat' apply And.intro
  all_goals (try (first | exact z | grind [isDig, snocI, snocS, rowSnoc])))
abbrev P_c_iDigit (n : Int) : Ct := ⟨165, [], [lu n], [], .sv (lb (isDig n))⟩
theorem c_iDigit (n : Int)  : P_c_iDigit n := fnOK Tryz.call165 Tryz.func165 (.i (48 ≤ n) (.s (lb (decide (n ≤ 57)))) (.s (lb false))) (by
  dsimp only [teasy, P_c_iDigit]
  with_reducible repeat' (first | apply And.intro | exact zR | (intro; skip))
  all_goals (try simp only [std, inj] at *)
  all_goals with_reducible repeat' apply And.intro
  all_goals (try (first | exact z | grind [isDig, snocI, snocS, rowSnoc])))
abbrev P_c_sMark (n : Int) : Ct := ⟨148, [], [lu n], [], .sv (lb (isMk n))⟩
def lc_sMarkLa (n : Int) : Lp Nat := .mk 26 0 (fun x => [(0, SV.one (AC.val (Cell.lit (Value.int IntKind.u8 n)))), (3, ls (ByteArray.mk #[(33 : UInt8), (63 : UInt8), (42 : UInt8),
 (60 : UInt8), (62 : UInt8), (61 : UInt8), (47 : UInt8), (43 : UInt8), (45 : UInt8), (46 : UInt8), (95 : UInt8)])), (4, hs x 0)]) (fun x => []) (fun k => [.s (li (↑k : Int))]) (fun
 k => k ≤ 11 ∧ ¬n ∈ List.take k markI) (fun k => 11 - k) [.mk (decide (n ∈ markI) = false) (.exit 0) (fun x => []) (fun x => []) [], .mk (decide (n ∈ markI) = true) .ret (fun x =>
 [(2, hs x 0)]) (fun x => []) [.s (lb true)]]
theorem Sc_sMarkLa (n : Int) : Lp.Sem Tryz.prog (loopAt Tryz.f148 0) (lc_sMarkLa n) := lpOK (fun k => .h (11 ≤ 9223372036854775807) (.i ((↑k : Int) < 11) (.p (0 ≤ (↑k : Int) ∧ (↑k
 : Int).toNat < 11) (.i ((↑([(33 : UInt8), (63 : UInt8), (42 : UInt8), (60 : UInt8), (62 : UInt8), (61 : UInt8), (47 : UInt8), (43 : UInt8), (45 : UInt8), (46 : UInt8), (95 :
 UInt8)].getD (↑k : Int).toNat (0 : UInt8)).toNat : Int) = n) (.o 1 [] [.s (lb true)]) (.r ((↑k : Int) + 1) (.g [] (k + 1) [.s (li ((↑k : Int) + 1))])))) (.o 0 [] []))) (by
  intro k h; try dsimp only [teasy, nthW, lc_sMarkLa] at h ⊢
  have g := @mark_at k
  have e : markI.length = 11 := rfl
  have e2 : markI.take 11 = markI := rfl
  with_reducible repeat' (first | apply And.intro | exact zR | (intro; skip))
  all_goals (try simp only [std, inj] at *)
  all_goals with_reducible repeat' apply And.intro
  all_goals (try (first | exact z | grind [take_get, getD_mem', snocI, snocS, rowSnoc])))
theorem c_sMark (n : Int)  : P_c_sMark n := fnOK Tryz.call148 Tryz.func148 (.i (97 ≤ n) (.i (n ≤ 122) (.y true (.s (lb true))) (.c [.rd] (c_sDigit n) (.b (isDig n) (.s (lb true)) (.l
 (lc_sMarkLa n) (Sc_sMarkLa n) [] [.s (li 0)] 0 (.t (.s (lb false)) (.t (.s (lb true)) .q)))))) (.y false (.c [.rd] (c_sDigit n) (.b (isDig n) (.s (lb true)) (.l (lc_sMarkLa n)
 (Sc_sMarkLa n) [] [.s (li 0)] 0 (.t (.s (lb false)) (.t (.s (lb true)) .q))))))) (by
  dsimp only [teasy, P_c_sMark, nthW, lc_sMarkLa]
  with_reducible repeat' (first | apply And.intro | exact zR | (intro; skip))
  all_goals (try simp only [std, inj] at *)
  all_goals with_reducible repeat' apply And.intro
  all_goals (try (first | exact z | grind [isMk, snocI, snocS, rowSnoc])))
abbrev P_c_iMark (n : Int) : Ct := ⟨166, [], [lu n], [], .sv (lb (isMk n))⟩
theorem c_iMark (n : Int)  : P_c_iMark n := fnOK Tryz.call166 Tryz.func166 (.i (97 ≤ n) (.i (n ≤ 122) (.y true (.s (lb true))) (.i (48 ≤ n) (.i (n ≤ 57) (.s (lb true)) (.i (n = 33)
 (.y true (.s (lb true))) (.i (n = 63) (.y true (.s (lb true))) (.i (n = 42) (.y true (.s (lb true))) (.i (n = 60) (.y true (.s (lb true))) (.i (n = 62) (.y true (.s (lb true)))
 (.i (n = 61) (.y true (.s (lb true))) (.i (n = 47) (.y true (.s (lb true))) (.i (n = 43) (.y true (.s (lb true))) (.i (n = 45) (.y true (.s (lb true))) (.i (n = 46) (.y true (.s
 (lb true))) (.i (n = 95) (.s (lb true)) (.s (lb false)))))))))))))) (.y false (.i (n = 33) (.y true (.s (lb true))) (.i (n = 63) (.y true (.s (lb true))) (.i (n = 42) (.y true (.s
 (lb true))) (.i (n = 60) (.y true (.s (lb true))) (.i (n = 62) (.y true (.s (lb true))) (.i (n = 61) (.y true (.s (lb true))) (.i (n = 47) (.y true (.s (lb true))) (.i (n = 43)
 (.y true (.s (lb true))) (.i (n = 45) (.y true (.s (lb true))) (.i (n = 46) (.y true (.s (lb true))) (.i (n = 95) (.s (lb true)) (.s (lb false)))))))))))))))) (.y false (.i (48 ≤
 n) (.i (n ≤ 57) (.s (lb true)) (.i (n = 33) (.y true (.s (lb true))) (.i (n = 63) (.y true (.s (lb true))) (.i (n = 42) (.y true (.s (lb true))) (.i (n = 60) (.y true (.s (lb
 true))) (.i (n = 62) (.y true (.s (lb true))) (.i (n = 61) (.y true (.s (lb true))) (.i (n = 47) (.y true (.s (lb true))) (.i (n = 43) (.y true (.s (lb true))) (.i (n = 45) (.y
 true (.s (lb true))) (.i (n = 46) (.y true (.s (lb true))) (.i (n = 95) (.s (lb true)) (.s (lb false)))))))))))))) (.y false (.i (n = 33) (.y true (.s (lb true))) (.i (n = 63) (.y
 true (.s (lb true))) (.i (n = 42) (.y true (.s (lb true))) (.i (n = 60) (.y true (.s (lb true))) (.i (n = 62) (.y true (.s (lb true))) (.i (n = 61) (.y true (.s (lb true))) (.i (n
 = 47) (.y true (.s (lb true))) (.i (n = 43) (.y true (.s (lb true))) (.i (n = 45) (.y true (.s (lb true))) (.i (n = 46) (.y true (.s (lb true))) (.i (n = 95) (.s (lb true)) (.s
 (lb false))))))))))))))))) (by
  dsimp only [teasy, P_c_iMark]
  with_reducible repeat' (first | apply And.intro | exact zR | (intro; skip))
  all_goals (try simp only [std, inj] at *)
  all_goals with_reducible repeat' apply And.intro
  all_goals (try (first | exact z | grind [snocI, snocS, rowSnoc]))
  all_goals (symm; simp only [isMk, isDig, markI, List.mem_cons, List.not_mem_nil, Bool.or_eq_true, Bool.or_eq_false_iff, decide_eq_true_eq, decide_eq_false_iff_not, or_false]; omega))
abbrev P_c_l1In (x : Int) (a : Int) (b : Int) : Ct := ⟨120, [], [li x, li a, li b], [], .sv (lb (decide (a ≤ x ∧ x ≤ b)))⟩
theorem c_l1In (x a b : Int)  : P_c_l1In x a b := fnOK Tryz.call120 Tryz.func120 (.i (a ≤ x) (.s (lb (decide (x ≤ b)))) (.s (lb false))) (by
  dsimp only [teasy, P_c_l1In]
  with_reducible repeat' (first | apply And.intro | exact zR | (intro; skip))
  all_goals (try simp only [std, inj] at *)
  all_goals with_reducible repeat' apply And.intro
  all_goals (try (first | exact z | grind [snocI, snocS, rowSnoc])))
abbrev P_c_sIsSymbol (s : ByteArray) : Ct := ⟨110, [], [ls s], [], .sv (lb (isSym s))⟩
def lc_sIsSymbolLa (s : ByteArray) : Lp Nat := .mk 39 0 (fun x => [(0, ls s), (3, hs x 0)]) (fun x => []) (fun k => [.s (li (↑k : Int))]) (fun k => k ≤ s.size ∧ s.size ≤ 16 ∧
 ((List.take k s.data.toList).all fun b => isMk (↑b.toNat : Int)) = true) (fun k => s.size - k) [.mk ((s.data.toList.all fun b => isMk (↑b.toNat : Int)) = true) (.exit 0) (fun x =>
 []) (fun x => []) [], .mk ((s.data.toList.all fun b => isMk (↑b.toNat : Int)) = false) .ret (fun x => [(2, hs x 0)]) (fun x => []) [.s (lb false)]]
theorem Sc_sIsSymbolLa (s : ByteArray) : Lp.Sem Tryz.prog (loopAt Tryz.f110 0) (lc_sIsSymbolLa s) := lpOK (fun k => .h (s.data.toList.length ≤ 9223372036854775807) (.i ((↑k : Int)
 < (↑s.data.toList.length : Int)) (.p (0 ≤ (↑k : Int) ∧ (↑k : Int).toNat < s.data.toList.length) (.c [.rd] (c_sMark (↑(s.data.toList.getD (↑k : Int).toNat (0 : UInt8)).toNat :
 Int)) (.b (!isMk (↑(s.data.toList.getD (↑k : Int).toNat (0 : UInt8)).toNat : Int)) (.o 1 [] [.s (lb false)]) (.r ((↑k : Int) + 1) (.g [] (k + 1) [.s (li ((↑k : Int) + 1))])))))
 (.o 0 [] []))) (by
  intro k h; try dsimp only [teasy, nthW, lc_sIsSymbolLa] at h ⊢
  have g1 := @all_stop s.data.toList (fun b => isMk b.toNat) k
  have g2 := @all_go s.data.toList (fun b => isMk b.toNat) k
  have g3 := @all_all s.data.toList (fun b => isMk b.toNat) k
  with_reducible repeat' (first | apply And.intro | exact zR | (intro; skip))
  all_goals (try simp only [std, inj] at *)
  all_goals with_reducible repeat' apply And.intro
  all_goals (try (first | exact z | grind [snocI, snocS, rowSnoc])))
theorem c_sIsSymbol (s : ByteArray)  : P_c_sIsSymbol s := fnOK Tryz.call110 Tryz.func110 (.h (s.data.toList.length ≤ 9223372036854775807) (.c [.rd, .rd, .rd] (c_l1In
 (↑s.data.toList.length : Int) 1 16) (.b (!decide (1 ≤ (↑s.data.toList.length : Int) ∧ (↑s.data.toList.length : Int) ≤ 16)) (.y true (.y true (.s (lb false)))) (.p ((0 : Int) ≤ 0 ∧
 0 < s.data.toList.length) (.c [.rd] (c_sDigit (↑(s.data.toList.getD 0 (0 : UInt8)).toNat : Int)) (.b (isDig (↑(s.data.toList.getD 0 (0 : UInt8)).toNat : Int)) (.y true (.s (lb
 false))) (.p ((0 : Int) ≤ 0 ∧ 0 < s.data.toList.length) (.i ((↑(s.data.toList.getD 0 (0 : UInt8)).toNat : Int) = 45) (.h (s.data.toList.length ≤ 9223372036854775807) (.i (1 <
 (↑s.data.toList.length : Int)) (.p ((0 : Int) ≤ 1 ∧ 1 < s.data.toList.length) (.c [.rd] (c_sDigit (↑(s.data.toList.getD 1 (0 : UInt8)).toNat : Int)) (.b (isDig
 (↑(s.data.toList.getD 1 (0 : UInt8)).toNat : Int)) (.s (lb false)) (.l (lc_sIsSymbolLa s) (Sc_sIsSymbolLa s) [] [.s (li 0)] 0 (.t (.s (lb true)) (.t (.s (lb false)) .q)))))) (.y
 false (.l (lc_sIsSymbolLa s) (Sc_sIsSymbolLa s) [] [.s (li 0)] 0 (.t (.s (lb true)) (.t (.s (lb false)) .q)))))) (.y false (.y false (.l (lc_sIsSymbolLa s) (Sc_sIsSymbolLa s) []
 [.s (li 0)] 0 (.t (.s (lb true)) (.t (.s (lb false)) .q))))))))))))) (by
  dsimp only [teasy, P_c_sIsSymbol, nthW, lc_sIsSymbolLa]
  with_reducible repeat' (first | apply And.intro | exact zR | (intro; skip))
  all_goals (try simp only [std, inj] at *)
  all_goals with_reducible repeat' apply And.intro
  all_goals (try (first | exact z | grind [isSym, snocI, snocS, rowSnoc])))
abbrev P_c_iIsSymbol (s : ByteArray) : Ct := ⟨132, [], [ls s], [], .sv (lb (isSym s))⟩
def lc_iIsSymbolLa (s : ByteArray) : Lp Nat := .mk 43 0 (fun x => [(0, ls s), (3, hs x 0)]) (fun x => []) (fun k => [.s (li (↑k : Int))]) (fun k => k ≤ s.size ∧ s.size ≤ 16 ∧
 ((List.take k s.data.toList).all fun b => isMk (↑b.toNat : Int)) = true) (fun k => s.size - k) [.mk ((s.data.toList.all fun b => isMk (↑b.toNat : Int)) = true) (.exit 0) (fun x =>
 []) (fun x => []) [], .mk ((s.data.toList.all fun b => isMk (↑b.toNat : Int)) = false) .ret (fun x => [(2, hs x 0)]) (fun x => []) [.s (lb false)]]
theorem Sc_iIsSymbolLa (s : ByteArray) : Lp.Sem Tryz.prog (loopAt Tryz.f132 0) (lc_iIsSymbolLa s) := lpOK (fun k => .h (s.data.toList.length ≤ 9223372036854775807) (.i ((↑k : Int)
 < (↑s.data.toList.length : Int)) (.p (0 ≤ (↑k : Int) ∧ (↑k : Int).toNat < s.data.toList.length) (.c [.rd] (c_iMark (↑(s.data.toList.getD (↑k : Int).toNat (0 : UInt8)).toNat :
 Int)) (.b (!isMk (↑(s.data.toList.getD (↑k : Int).toNat (0 : UInt8)).toNat : Int)) (.o 1 [] [.s (lb false)]) (.r ((↑k : Int) + 1) (.g [] (k + 1) [.s (li ((↑k : Int) + 1))])))))
 (.o 0 [] []))) (by
  intro k h; try dsimp only [teasy, nthW, lc_iIsSymbolLa] at h ⊢
  have g1 := @all_stop s.data.toList (fun b => isMk b.toNat) k
  have g2 := @all_go s.data.toList (fun b => isMk b.toNat) k
  have g3 := @all_all s.data.toList (fun b => isMk b.toNat) k
  with_reducible repeat' (first | apply And.intro | exact zR | (intro; skip))
  all_goals (try simp only [std, inj] at *)
  all_goals with_reducible repeat' apply And.intro
  all_goals (try (first | exact z | grind [snocI, snocS, rowSnoc])))
theorem c_iIsSymbol (s : ByteArray)  : P_c_iIsSymbol s := fnOK Tryz.call132 Tryz.func132 (.h (s.data.toList.length ≤ 9223372036854775807) (.i ((↑s.data.toList.length : Int) < 1) (.y
 true (.y true (.y true (.s (lb false))))) (.h (s.data.toList.length ≤ 9223372036854775807) (.i (16 < (↑s.data.toList.length : Int)) (.y true (.y true (.s (lb false)))) (.p ((0 :
 Int) ≤ 0 ∧ 0 < s.data.toList.length) (.c [.rd] (c_iDigit (↑(s.data.toList.getD 0 (0 : UInt8)).toNat : Int)) (.b (isDig (↑(s.data.toList.getD 0 (0 : UInt8)).toNat : Int)) (.y true
 (.s (lb false))) (.p ((0 : Int) ≤ 0 ∧ 0 < s.data.toList.length) (.i ((↑(s.data.toList.getD 0 (0 : UInt8)).toNat : Int) = 45) (.h (s.data.toList.length ≤ 9223372036854775807) (.i
 (1 < (↑s.data.toList.length : Int)) (.p ((0 : Int) ≤ 1 ∧ 1 < s.data.toList.length) (.c [.rd] (c_iDigit (↑(s.data.toList.getD 1 (0 : UInt8)).toNat : Int)) (.b (isDig
 (↑(s.data.toList.getD 1 (0 : UInt8)).toNat : Int)) (.s (lb false)) (.l (lc_iIsSymbolLa s) (Sc_iIsSymbolLa s) [] [.s (li 0)] 0 (.t (.s (lb true)) (.t (.s (lb false)) .q)))))) (.y
 false (.l (lc_iIsSymbolLa s) (Sc_iIsSymbolLa s) [] [.s (li 0)] 0 (.t (.s (lb true)) (.t (.s (lb false)) .q)))))) (.y false (.y false (.l (lc_iIsSymbolLa s) (Sc_iIsSymbolLa s) []
 [.s (li 0)] 0 (.t (.s (lb true)) (.t (.s (lb false)) .q)))))))))))))) (by
  dsimp only [teasy, P_c_iIsSymbol, nthW, lc_iIsSymbolLa]
  with_reducible repeat' (first | apply And.intro | exact zR | (intro; skip))
  all_goals (try simp only [std, inj] at *)
  all_goals with_reducible repeat' apply And.intro
  all_goals (try (first | exact z | grind [isSym, snocI, snocS, rowSnoc])))
abbrev P_c_sString (s : ByteArray) : Ct := ⟨75, [], [ls s], [], .sv (lb (isStr s))⟩
def lc_sStringLa (s : ByteArray) : Lp Nat := .mk 29 0 (fun x => [(0, ls s), (3, hs x 0)]) (fun x => []) (fun k => [.s (li (↑k : Int))]) (fun k => k ≤ s.size ∧ ((List.take k
 s.data.toList).all fun b => isStB (↑b.toNat : Int)) = true) (fun k => s.size - k) [.mk ((s.data.toList.all fun b => isStB (↑b.toNat : Int)) = true) (.exit 0) (fun x => [(0, ls
 s)]) (fun x => []) [], .mk ((s.data.toList.all fun b => isStB (↑b.toNat : Int)) = false) .ret (fun x => [(2, hs x 0)]) (fun x => []) [.s (lb false)]]
theorem Sc_sStringLa (s : ByteArray) : Lp.Sem Tryz.prog (loopAt Tryz.f75 0) (lc_sStringLa s) := lpOK (fun k => .h (s.data.toList.length ≤ 9223372036854775807) (.i ((↑k : Int) <
 (↑s.data.toList.length : Int)) (.p (0 ≤ (↑k : Int) ∧ (↑k : Int).toNat < s.data.toList.length) (.i ((↑(s.data.toList.getD (↑k : Int).toNat (0 : UInt8)).toNat : Int) < 32) (.y true
 (.y true (.o 1 [] [.s (lb false)]))) (.p (0 ≤ (↑k : Int) ∧ (↑k : Int).toNat < s.data.toList.length) (.i (126 < (↑(s.data.toList.getD (↑k : Int).toNat (0 : UInt8)).toNat : Int))
 (.y true (.o 1 [] [.s (lb false)])) (.p (0 ≤ (↑k : Int) ∧ (↑k : Int).toNat < s.data.toList.length) (.i ((↑(s.data.toList.getD (↑k : Int).toNat (0 : UInt8)).toNat : Int) = 34) (.o
 1 [] [.s (lb false)]) (.r ((↑k : Int) + 1) (.g [] (k + 1) [.s (li ((↑k : Int) + 1))])))))))) (.o 0 [] []))) (by
  intro k h; try dsimp only [teasy, nthW, lc_sStringLa] at h ⊢
  have g1 := @all_stop s.data.toList (fun b => isStB b.toNat) k
  have g2 := @all_go s.data.toList (fun b => isStB b.toNat) k
  have g3 := @all_all s.data.toList (fun b => isStB b.toNat) k
  with_reducible repeat' (first | apply And.intro | exact zR | (intro; skip))
  all_goals (try simp only [std, inj] at *)
  all_goals with_reducible repeat' apply And.intro
  all_goals (try (first | exact z | grind [isStB, snocI, snocS, rowSnoc])))
theorem c_sString (s : ByteArray)  : P_c_sString s := fnOK Tryz.call75 Tryz.func75 (.l (lc_sStringLa s) (Sc_sStringLa s) [] [.s (li 0)] 0 (.t (.h (s.data.toList.length ≤
 9223372036854775807) (.s (lb (decide ((↑s.data.toList.length : Int) ≤ 20))))) (.t (.s (lb false)) .q))) (by
  dsimp only [teasy, P_c_sString, nthW, lc_sStringLa]
  with_reducible repeat' (first | apply And.intro | exact zR | (intro; skip))
  all_goals (try simp only [std, inj] at *)
  all_goals with_reducible repeat' apply And.intro
  all_goals (try (first | exact z | grind [isStr, snocI, snocS, rowSnoc])))
abbrev P_c_iString (s : ByteArray) : Ct := ⟨90, [], [ls s], [], .sv (lb (isStr s))⟩
def lc_iStringLa (s : ByteArray) : Lp Nat := .mk 29 0 (fun x => [(0, ls s), (3, hs x 0)]) (fun x => []) (fun k => [.s (li (↑k : Int))]) (fun k => k ≤ s.size ∧ ((List.take k
 s.data.toList).all fun b => isStB (↑b.toNat : Int)) = true) (fun k => s.size - k) [.mk ((s.data.toList.all fun b => isStB (↑b.toNat : Int)) = true) (.exit 0) (fun x => []) (fun x
 => []) [], .mk ((s.data.toList.all fun b => isStB (↑b.toNat : Int)) = false) .ret (fun x => [(2, hs x 0)]) (fun x => []) [.s (lb false)]]
theorem Sc_iStringLa (s : ByteArray) : Lp.Sem Tryz.prog (loopAt Tryz.f90 0) (lc_iStringLa s) := lpOK (fun k => .h (s.data.toList.length ≤ 9223372036854775807) (.i ((↑k : Int) <
 (↑s.data.toList.length : Int)) (.p (0 ≤ (↑k : Int) ∧ (↑k : Int).toNat < s.data.toList.length) (.i ((↑(s.data.toList.getD (↑k : Int).toNat (0 : UInt8)).toNat : Int) < 32) (.y true
 (.y true (.o 1 [] [.s (lb false)]))) (.p (0 ≤ (↑k : Int) ∧ (↑k : Int).toNat < s.data.toList.length) (.i (126 < (↑(s.data.toList.getD (↑k : Int).toNat (0 : UInt8)).toNat : Int))
 (.y true (.o 1 [] [.s (lb false)])) (.p (0 ≤ (↑k : Int) ∧ (↑k : Int).toNat < s.data.toList.length) (.i ((↑(s.data.toList.getD (↑k : Int).toNat (0 : UInt8)).toNat : Int) = 34) (.o
 1 [] [.s (lb false)]) (.r ((↑k : Int) + 1) (.g [] (k + 1) [.s (li ((↑k : Int) + 1))])))))))) (.o 0 [] []))) (by
  intro k h; try dsimp only [teasy, nthW, lc_iStringLa] at h ⊢
  have g1 := @all_stop s.data.toList (fun b => isStB b.toNat) k
  have g2 := @all_go s.data.toList (fun b => isStB b.toNat) k
  have g3 := @all_all s.data.toList (fun b => isStB b.toNat) k
  with_reducible repeat' (first | apply And.intro | exact zR | (intro; skip))
  all_goals (try simp only [std, inj] at *)
  all_goals with_reducible repeat' apply And.intro
  all_goals (try (first | exact z | grind [isStB, snocI, snocS, rowSnoc])))
theorem c_iString (s : ByteArray)  : P_c_iString s := fnOK Tryz.call90 Tryz.func90 (.h (s.data.toList.length ≤ 9223372036854775807) (.i (20 < (↑s.data.toList.length : Int)) (.s (lb
 false)) (.l (lc_iStringLa s) (Sc_iStringLa s) [] [.s (li 0)] 0 (.t (.s (lb true)) (.t (.s (lb false)) .q))))) (by
  dsimp only [teasy, P_c_iString, nthW, lc_iStringLa]
  with_reducible repeat' (first | apply And.intro | exact zR | (intro; skip))
  all_goals (try simp only [std, inj] at *)
  all_goals with_reducible repeat' apply And.intro
  all_goals (try (first | exact z | grind [isStr, snocI, snocS, rowSnoc])))
def nodD (k n : Int) (t : ByteArray) (i : Int) : Bool := decide (k = 0 ∧ n = 0 ∧ t.data.toList = []) || decide (k = 1 ∧ n = 0 ∧ isSym t = true ∧ i = 0) || decide (k = 2 ∧ -999999999 ≤ n ∧ n ≤ 999999999 ∧ t.data.toList = [] ∧ i = 0) || decide (k = 3 ∧ 0 ≤ n ∧ n ≤ 1 ∧ t.data.toList = [] ∧ i = 0) || decide (k = 4 ∧ n = 0 ∧ isStr t = true ∧ i = 0)
abbrev P_c_sNode (k : Int) (n : Int) (t : ByteArray) (i : Int) : Ct := ⟨150, [], [li k, li n, ls t, li i], [], .sv (lb (nodD k n t i))⟩
theorem c_sNode (k n : Int) (t : ByteArray) (i : Int)  : P_c_sNode k n t i := fnOK Tryz.call150 Tryz.func150 (.i (k = 0) (.i (n = 0) (.s (lb (decide (t.data.toList = [])))) (.s (lb
 false))) (.i (k = 1) (.i (n = 0) (.c [.rd] (c_sIsSymbol t) (.b (isSym t) (.s (lb (decide (i = 0)))) (.s (lb false)))) (.y false (.s (lb false)))) (.i (k = 2) (.c [.rd, .rd, .rd]
 (c_l1In n (-999999999 : Int) 999999999) (.i ((-999999999 : Int) ≤ n ∧ n ≤ 999999999) (.i (t.data.toList = []) (.s (lb (decide (i = 0)))) (.s (lb false))) (.y false (.s (lb
 false))))) (.i (k = 3) (.c [.rd, .rd, .rd] (c_l1In n 0 1) (.i (0 ≤ n ∧ n ≤ 1) (.i (t.data.toList = []) (.s (lb (decide (i = 0)))) (.s (lb false))) (.y false (.s (lb false))))) (.i
 (k = 4) (.i (n = 0) (.c [.rd] (c_sString t) (.b (isStr t) (.s (lb (decide (i = 0)))) (.s (lb false)))) (.y false (.s (lb false)))) (.s (lb false))))))) (by
  dsimp only [teasy, P_c_sNode]
  with_reducible repeat' (first | apply And.intro | exact zR | (intro; skip))
  all_goals (try simp only [std, inj] at *)
  all_goals with_reducible repeat' apply And.intro
  all_goals (try (first | exact z | grind [nodD, snocI, snocS, rowSnoc])))
abbrev P_c_iNode (k : Int) (n : Int) (t : ByteArray) (i : Int) : Ct := ⟨133, [], [li k, li n, ls t, li i], [], .sv (lb (nodD k n t i))⟩
theorem c_iNode (k n : Int) (t : ByteArray) (i : Int)  : P_c_iNode k n t i := fnOK Tryz.call133 Tryz.func133 (.i (k = 0) (.i (n = 0) (.s (lb (decide (t.data.toList = [])))) (.s (lb
 false))) (.i (k = 1) (.i (n = 0) (.i (i = 0) (.c [.rd] (c_iIsSymbol t) (.s (lb (isSym t)))) (.s (lb false))) (.y false (.s (lb false)))) (.i (k = 2) (.i ((-999999999 : Int) ≤ n)
 (.i (n ≤ 999999999) (.i (t.data.toList = []) (.s (lb (decide (i = 0)))) (.s (lb false))) (.y false (.s (lb false)))) (.y false (.y false (.s (lb false))))) (.i (k = 3) (.i (n = 0)
 (.y true (.i (t.data.toList = []) (.s (lb (decide (i = 0)))) (.s (lb false)))) (.i (n = 1) (.i (t.data.toList = []) (.s (lb (decide (i = 0)))) (.s (lb false))) (.y false (.s (lb
 false))))) (.i (k = 4) (.i (n = 0) (.i (i = 0) (.c [.rd] (c_iString t) (.s (lb (isStr t)))) (.s (lb false))) (.y false (.s (lb false)))) (.s (lb false))))))) (by
  dsimp only [teasy, P_c_iNode]
  with_reducible repeat' (first | apply And.intro | exact zR | (intro; skip))
  all_goals (try simp only [std, inj] at *)
  all_goals with_reducible repeat' apply And.intro
  all_goals (try (first | exact z | grind [nodD, snocI, snocS, rowSnoc])))
mutual
def sizeD : Datum → Nat
  | ⟨_, _, _, l⟩ => sizeDs l + 1
def sizeDs : List Datum → Nat
  | [] => 0
  | c :: r => sizeD c + sizeDs r
end
theorem sizeDs_eq : ∀ l, sizeDs l = sumBy sizeD l
  | [] => by simp [sizeDs, sumBy]
  | c :: r => by rw [sizeDs, sumBy, sizeDs_eq r]
theorem sizeD_eq (c : Datum) : sizeD c = sumBy sizeD c.items + 1 := by cases c; simp only [sizeD, sizeDs_eq]
mutual
def depD : Datum → Nat
  | ⟨_, _, _, l⟩ => depDs l + 1
def depDs : List Datum → Nat
  | [] => 0
  | c :: r => max (depD c) (depDs r)
end
theorem depDs_eq : ∀ l, depDs l = maxBy depD l
  | [] => by simp [depDs, maxBy]
  | c :: r => by rw [depDs, maxBy, depDs_eq r]
theorem depD_eq (c : Datum) : depD c = maxBy depD c.items + 1 := by cases c; simp only [depD, depDs_eq]
theorem depD_le : ∀ c : Datum, depD c ≤ sizeD c := by
  refine Datum.ind fun c ih => ?_
  have := maxBy_sum ih
  rw [sizeD_eq, depD_eq]; omega
mutual
def okD : Datum → Bool
  | ⟨k, n, t, l⟩ => okDs l && nodD k n t l.length
def okDs : List Datum → Bool
  | [] => true
  | c :: r => okD c && okDs r
end
theorem okDs_eq : ∀ l, okDs l = l.all okD
  | [] => by simp [okDs]
  | c :: r => by rw [okDs, okDs_eq r]; rfl
theorem okD_eq (c : Datum) : okD c = (c.items.all okD && nodD c.kind c.number c.text c.items.length) := by cases c; simp only [okD, okDs_eq]
def isDat (d : Datum) : Bool := decide (sizeD d ≤ 600) && decide (depD d ≤ 20) && okD d
mutual
def meaD : Datum → Int → Int → Bool × Int
  | ⟨k, n, t, l⟩, deep, m => if deep ≤ 20 ∧ m + 1 ≤ 600 ∧ nodD k n t l.length = true then meaDs l (deep + 1) (m + 1) else (false, m + 1)
def meaDs : List Datum → Int → Int → Bool × Int
  | [], _, m => (true, m)
  | x :: r, deep, m => if (meaD x deep m).1 then meaDs r deep (meaD x deep m).2 else (false, (meaD x deep m).2)
end
theorem meaDs_eq : ∀ l deep m, meaDs l deep m = scan (fun x m => meaD x deep m) l m
  | [], _, _ => by simp [meaDs, scan]
  | x :: r, deep, m => by simp only [meaDs, scan, meaDs_eq r]
theorem meaD_eq (c : Datum) (deep m : Int) : meaD c deep m = if deep ≤ 20 ∧ m + 1 ≤ 600 ∧ nodD c.kind c.number c.text c.items.length = true then scan (fun x m => meaD x (deep + 1) m) c.items (m + 1) else (false, m + 1) := by cases c; simp only [meaD, meaDs_eq]
theorem meaD_of : ∀ (c : Datum) (deep m : Int), m ≤ 600 → ((meaD c deep m).1 = true ↔ (m + sizeD c ≤ 600 ∧ (deep + depD c ≤ 21 ∧ okD c = true))) ∧ ((meaD c deep m).1 = true → (meaD c deep m).2 = m + sizeD c) := by
  refine Datum.ind fun c ih deep m hm => ?_
  rw [meaD_eq, sizeD_eq, depD_eq, okD_eq, Bool.and_eq_true, List.all_eq_true]
  by_cases h : deep ≤ 20 ∧ m + 1 ≤ 600 ∧ nodD c.kind c.number c.text c.items.length = true
  · rw [if_pos h]
    have h1 := scan_of (fun x m => meaD x (deep + 1) m) sizeD (fun x => deep + 1 + depD x ≤ 21 ∧ okD x = true) 600 c.items (fun x hx m hm => ih x hx (deep + 1) m hm) (m + 1) h.2.1
    have h2 := maxBy_le depD (m := (20 - deep).toNat) (L := c.items)
    constructor
    · rw [h1.1]
      constructor
      · rintro ⟨a, b⟩
        have := h2.2 fun x hx => by have := (b x hx).1; omega
        exact ⟨by omega, by omega, fun x hx => (b x hx).2, h.2.2⟩
      · rintro ⟨a, b, d, e⟩
        have := h2.1 (by omega)
        exact ⟨by omega, fun x hx => ⟨by have := this x hx; omega, d x hx⟩⟩
    · intro ht; rw [h1.2 ht]; omega
  · rw [if_neg h]
    refine ⟨⟨fun e => Bool.noConfusion e, ?_⟩, fun e => Bool.noConfusion e⟩
    rintro ⟨a, b, d, e⟩
    exact absurd ⟨by omega, by omega, e⟩ h
abbrev P_c_sFewD (d : Datum) (l : Int) : Ct := ⟨115, [.box [vI l]], [datumA d, .one (.ptr 0 0)], [.box [vI (max (l - sizeD d) (-1))]], .sv (lb (decide (sizeD d ≤ l)))⟩
def lc_sFewD_sLa (d : Datum) (l : Int) : Lp Nat := .mk 36 1 (fun x => [(1, SV.one (AC.ptr 0 0)), (2, SV.one (AC.ptr 1 0)), (5, hs x 0)]) (fun x => [Ob.box [ha x 1], Ob.box (vals
 (datumF d))]) (fun k => [.s (li (↑k : Int)), .a (vI (max (l - 1 - (↑(sumBy sizeD (List.take k d.items)) : Int)) (-1 : Int)))]) (fun k => d.items.length ≥ k) (fun k =>
 d.items.length - k) [.mk True (.exit 0) (fun x => [(1, SV.one (AC.ptr 0 0))]) (fun x => [Ob.box [ha x 0]]) [.a (vI (max (l - (↑(sizeD d) : Int)) (-1 : Int)))]]
theorem Sc_sFewD_sLa (d : Datum) (l : Int) (h : 0 ≤ l ∧ l ≤ 1000000) (ih : ∀ (z : Datum), z ∈ d.items → ∀ (l : Int), 0 ≤ l ∧ l ≤ 1000000 → OK (P_c_sFewD z l)) : Lp.Sem Tryz.prog
 (loopAt Tryz.f115 0) (lc_sFewD_sLa d l) := lpOK (fun k => .z datumC d.items (.i ((↑k : Int) < (↑(List.map datumC d.items).length : Int)) (.i (0 ≤ max (l - 1 - (↑(sumBy sizeD
 (List.take k d.items)) : Int)) (-1 : Int)) (.x (↑k : Int) (List.map datumC d.items) (datumF (d.items.getD k default)) (.d [.rd, .ptr] (P_c_sFewD (d.items.getD k default) (max (l -
 1 - (↑(sumBy sizeD (List.take k d.items)) : Int)) (-1 : Int))) (.r ((↑k : Int) + 1) (.g [0, 1] (k + 1) [.s (li ((↑k : Int) + 1)), .a (vI (max (max (l - 1 - (↑(sumBy sizeD
 (List.take k d.items)) : Int)) (-1 : Int) - (↑(sizeD (d.items.getD k default)) : Int)) (-1 : Int)))])))) (.o 0 [0] [.a (vI (max (l - 1 - (↑(sumBy sizeD (List.take k d.items)) :
 Int)) (-1 : Int)))])) (.y false (.o 0 [0] [.a (vI (max (l - 1 - (↑(sumBy sizeD (List.take k d.items)) : Int)) (-1 : Int)))])))) (by
  intro k h; try dsimp only [teasy, nthW, lc_sFewD_sLa] at h ⊢
  have g1 := sizeD_eq d
  have g2 := sumBy_takeLe sizeD d.items k
  have g3 := @sumBy_step _ _ sizeD d.items k
  with_reducible repeat' (first | apply And.intro | exact zR | exact ih | (intro; skip) | apply ih)
  all_goals (try simp only [std, inj] at *)
  all_goals with_reducible repeat' apply And.intro
  all_goals (try (first | with_reducible apply ih | (simp only [← List.map_append]; first | with_reducible apply ih)))
  all_goals (try (first | exact z | grind [getD_mem', snocI, snocS, rowSnoc])))
theorem c_sFewD_s (d : Datum) (l : Int) (h : 0 ≤ l ∧ l ≤ 1000000) (ih : ∀ z ∈ d.items, ∀ (l : Int) (h : 0 ≤ l ∧ l ≤ 1000000), P_c_sFewD z l)  : P_c_sFewD d l := fnOK Tryz.call115
 Tryz.func115 (.r (l - 1) (.l (lc_sFewD_sLa d l) (Sc_sFewD_sLa d l h ih) [0, 1] [.s (li 0), .a (vI (l - 1))] 0 (.t (.f [] [Ob.box [vI (max (l - (↑(sizeD d) : Int)) (-1 : Int))]]
 (AV.sv (lb (decide (0 ≤ max (l - (↑(sizeD d) : Int)) (-1 : Int)))))) .q))) (by
  dsimp only [teasy, P_c_sFewD, nthW, lc_sFewD_sLa]
  have g1 := sizeD_eq d
  have g2 : sumBy sizeD (d.items.take 0) = 0 := rfl
  with_reducible repeat' (first | apply And.intro | exact zR | exact ih | (intro; skip))
  all_goals (try simp only [std, inj] at *)
  all_goals with_reducible repeat' apply And.intro
  all_goals (try (first | with_reducible apply ih | (simp only [← List.map_append]; first | with_reducible apply ih)))
  all_goals (try (first | exact z | grind [snocI, snocS, rowSnoc])))
theorem c_sFewD (d : Datum) : ∀ (l : Int) (h : 0 ≤ l ∧ l ≤ 1000000), P_c_sFewD d l := Datum.ind (P := fun d => ∀ (l : Int) (h : 0 ≤ l ∧ l ≤ 1000000), P_c_sFewD d l) (fun d ih l h => c_sFewD_s d l h ih) d
abbrev P_c_sDepD (d : Datum) : Ct := ⟨116, [], [datumA d], [], .sv (li (depD d))⟩
def lc_sDepD_sLa (d : Datum) : Lp Nat := .mk 20 0 (fun x => [(3, hs x 1), (7, ll (List.map datumC d.items)), (8, li (↑(List.map datumC d.items).length : Int)), (9, hs x 0)]) (fun x
 => []) (fun k => [.s (li (↑k : Int)), .s (li (↑(maxBy depD (List.take k d.items)) : Int))]) (fun k => k ≤ d.items.length ∧ d.items.length ≤ 9223372036854775807) (fun k =>
 d.items.length - k) [.mk True (.exit 0) (fun x => [(3, hs x 0)]) (fun x => []) [.s (li (↑(maxBy depD d.items) : Int))]]
theorem Sc_sDepD_sLa (d : Datum) (h : sizeD d ≤ 2147483647) (ih : ∀ (z : Datum), z ∈ d.items → sizeD z ≤ 2147483647 → OK (P_c_sDepD z)) : Lp.Sem Tryz.prog (loopAt Tryz.f116 0)
 (lc_sDepD_sLa d) := lpOK (fun k => .i ((↑k : Int) < (↑(List.map datumC d.items).length : Int)) (.x (↑k : Int) (List.map datumC d.items) (datumF (d.items.getD k default)) (.d [.rd]
 (P_c_sDepD (d.items.getD k default)) (.r ((↑k : Int) + 1) (.g [] (k + 1) [.s (li ((↑k : Int) + 1)), .s (li (max (↑(maxBy depD (List.take k d.items)) : Int) (↑(depD (d.items.getD k
 default)) : Int)))])))) (.o 0 [] [.s (li (↑(maxBy depD (List.take k d.items)) : Int))])) (by
  intro k h; try dsimp only [teasy, nthW, lc_sDepD_sLa] at h ⊢
  have g1 := sizeD_eq d
  have g2 := @sumBy_mem _ sizeD d.items (d.items.getD k default)
  with_reducible repeat' (first | apply And.intro | exact zR | exact ih | (intro; skip) | apply ih)
  all_goals (try simp only [std, inj] at *)
  all_goals with_reducible repeat' apply And.intro
  all_goals (try (first | with_reducible apply ih | (simp only [← List.map_append]; first | with_reducible apply ih)))
  all_goals (try (first | exact z | grind [maxBy_step, getD_mem', snocI, snocS, rowSnoc])))
theorem c_sDepD_s (d : Datum) (h : sizeD d ≤ 2147483647) (ih : ∀ z ∈ d.items, ∀ (h : sizeD z ≤ 2147483647), P_c_sDepD z)  : P_c_sDepD d := fnOK Tryz.call116 Tryz.func116 (.z datumC
 d.items (.l (lc_sDepD_sLa d) (Sc_sDepD_sLa d h ih) [] [.s (li 0), .s (li 0)] 0 (.t (.r ((↑(maxBy depD d.items) : Int) + 1) (.s (li ((↑(maxBy depD d.items) : Int) + 1)))) .q))) (by
  dsimp only [teasy, P_c_sDepD, nthW, lc_sDepD_sLa]
  have h1 := depD_le d
  have g2 : maxBy depD (d.items.take 0) = 0 := rfl
  with_reducible repeat' (first | apply And.intro | exact zR | exact ih | (intro; skip))
  all_goals (try simp only [std, inj] at *)
  all_goals with_reducible repeat' apply And.intro
  all_goals (try (first | with_reducible apply ih | (simp only [← List.map_append]; first | with_reducible apply ih)))
  all_goals (try (first | exact z | grind [depD_eq, snocI, snocS, rowSnoc])))
theorem c_sDepD (d : Datum) : ∀ (h : sizeD d ≤ 2147483647), P_c_sDepD d := Datum.ind (P := fun d => ∀ (h : sizeD d ≤ 2147483647), P_c_sDepD d) (fun d ih h => c_sDepD_s d h ih) d
abbrev P_c_sOkD (d : Datum) : Ct := ⟨117, [], [datumA d], [], .sv (lb (okD d))⟩
def lc_sOkD_sLa (d : Datum) : Lp Nat := .mk 26 0 (fun x => [(1, SV.one (AC.ptr 0 0)), (6, ll (List.map datumC d.items)), (7, li (↑(List.map datumC d.items).length : Int)), (8, hs x
 0)]) (fun x => [Ob.box (vals (datumF d))]) (fun k => [.s (li (↑k : Int))]) (fun k => k ≤ d.items.length ∧ d.items.length ≤ 9223372036854775807 ∧ (List.take k d.items).all okD =
 true) (fun k => d.items.length - k) [.mk (d.items.all okD = true) (.exit 0) (fun x => [(1, SV.one (AC.ptr 0 0))]) (fun x => [Ob.box (vals (datumF d))]) [], .mk (d.items.all okD =
 false) .ret (fun x => [(2, hs x 0)]) (fun x => []) [.s (lb false)]]
theorem Sc_sOkD_sLa (d : Datum) (ih : ∀ (z : Datum), z ∈ d.items → OK (P_c_sOkD z)) : Lp.Sem Tryz.prog (loopAt Tryz.f117 0) (lc_sOkD_sLa d) := lpOK (fun k => .i ((↑k : Int) <
 (↑(List.map datumC d.items).length : Int)) (.x (↑k : Int) (List.map datumC d.items) (datumF (d.items.getD k default)) (.d [.rd] (P_c_sOkD (d.items.getD k default)) (.b (!okD
 (d.items.getD k default)) (.o 1 [] [.s (lb false)]) (.r ((↑k : Int) + 1) (.g [0] (k + 1) [.s (li ((↑k : Int) + 1))]))))) (.o 0 [0] [])) (by
  intro k h; try dsimp only [teasy, nthW, lc_sOkD_sLa] at h ⊢
  with_reducible repeat' (first | apply And.intro | exact zR | exact ih | (intro; skip) | apply ih)
  all_goals (try simp only [std, inj] at *)
  all_goals with_reducible repeat' apply And.intro
  all_goals (try (first | with_reducible apply ih | (simp only [← List.map_append]; first | with_reducible apply ih)))
  all_goals (try (first | exact z | grind [take_get, getD_mem', snocI, snocS, rowSnoc])))
theorem c_sOkD_s (d : Datum) (ih : ∀ z ∈ d.items, P_c_sOkD z)  : P_c_sOkD d := fnOK Tryz.call117 Tryz.func117 (.z datumC d.items (.l (lc_sOkD_sLa d) (Sc_sOkD_sLa d ih) [0] [.s (li
 0)] 0 (.t (.z datumC d.items (.c [.rd, .rd, .rd, .rd] (c_sNode d.kind d.number d.text (↑(List.map datumC d.items).length : Int)) (.s (lb (nodD d.kind d.number d.text (↑(List.map
 datumC d.items).length : Int)))))) (.t (.s (lb false)) .q)))) (by
  dsimp only [teasy, P_c_sOkD, nthW, lc_sOkD_sLa]
  with_reducible repeat' (first | apply And.intro | exact zR | exact ih | (intro; skip))
  all_goals (try simp only [std, inj] at *)
  all_goals with_reducible repeat' apply And.intro
  all_goals (try (first | with_reducible apply ih | (simp only [← List.map_append]; first | with_reducible apply ih)))
  all_goals (try (first | exact z | grind [okD_eq, snocI, snocS, rowSnoc])))
theorem c_sOkD (d : Datum) : P_c_sOkD d := Datum.ind (P := fun d => P_c_sOkD d) (fun d ih => c_sOkD_s d ih) d
abbrev P_c_sIsDatum (d : Datum) : Ct := ⟨78, [], [datumA d], [], .sv (lb (isDat d))⟩
theorem c_sIsDatum (d : Datum)  : P_c_sIsDatum d := fnOK Tryz.call78 Tryz.func78 (.d [.rd, .ptr] (P_c_sFewD d 600) (.i ((↑(sizeD d) : Int) ≤ 600) (.d [.rd] (P_c_sDepD d) (.i ((↑(depD
 d) : Int) ≤ 20) (.c [.rd] (c_sOkD d) (.s (lb (okD d)))) (.s (lb false)))) (.y false (.s (lb false))))) (by
  dsimp only [teasy, P_c_sIsDatum]
  with_reducible repeat' (first | apply And.intro | exact zR | (intro; skip) | apply c_sFewD | apply c_sDepD)
  all_goals (try simp only [std, inj] at *)
  all_goals with_reducible repeat' apply And.intro
  all_goals (try (first | with_reducible apply c_sFewD | with_reducible apply c_sDepD | (simp only [← List.map_append]; first | with_reducible apply c_sFewD | with_reducible apply c_sDepD)))
  all_goals (try (first | exact z | grind [isDat, snocI, snocS, rowSnoc])))
abbrev P_c_iMeaD (d : Datum) (deep : Int) (q : Int) : Ct := ⟨93, [.box [vI q]], [datumA d, li deep, .one (.ptr 0 0)], [.box [vI (meaD d deep q).2]], .sv (lb (meaD d deep q).1)⟩
def lc_iMeaD_sLa (d : Datum) (deep : Int) (q : Int) : Lp Nat := .mk 49 1 (fun x => [(1, li deep), (2, SV.one (AC.ptr 0 0)), (36, ll (List.map datumC d.items)), (37, li (↑(List.map
 datumC d.items).length : Int)), (38, hs x 0)]) (fun x => [Ob.box [ha x 1]]) (fun k => [.s (li (↑k : Int)), .a (vI (scan (fun x m => meaD x (deep + 1) m) (List.take k d.items) (q +
 1)).snd)]) (fun k => k ≤ d.items.length ∧ d.items.length ≤ 9223372036854775807 ∧ deep ≤ 20 ∧ (scan (fun x m => meaD x (deep + 1) m) (List.take k d.items) (q + 1)).fst = true ∧ q ≤
 (scan (fun x m => meaD x (deep + 1) m) (List.take k d.items) (q + 1)).snd ∧ (scan (fun x m => meaD x (deep + 1) m) (List.take k d.items) (q + 1)).snd ≤ 600) (fun k =>
 d.items.length - k) [.mk ((scan (fun x m => meaD x (deep + 1) m) d.items (q + 1)).fst = true) (.exit 0) (fun x => []) (fun x => [Ob.box [ha x 0]]) [.a (vI (scan (fun x m => meaD x
 (deep + 1) m) d.items (q + 1)).snd)], .mk ((scan (fun x m => meaD x (deep + 1) m) d.items (q + 1)).fst = false) .ret (fun x => [(6, hs x 0)]) (fun x => [Ob.box [ha x 1]]) [.s (lb
 false), .a (vI (scan (fun x m => meaD x (deep + 1) m) d.items (q + 1)).snd)]]
theorem Sc_iMeaD_sLa (d : Datum) (deep : Int) (q : Int) (h : 0 ≤ deep ∧ deep ≤ 21 ∧ 0 ≤ q ∧ q ≤ 600) (ih : ∀ (z : Datum), z ∈ d.items → ∀ (deep q : Int), 0 ≤ deep ∧ deep ≤ 21 ∧ 0 ≤
 q ∧ q ≤ 600 → OK (P_c_iMeaD z deep q)) : Lp.Sem Tryz.prog (loopAt Tryz.f93 0) (lc_iMeaD_sLa d deep q) := lpOK (fun k => .i ((↑k : Int) < (↑(List.map datumC d.items).length : Int))
 (.x (↑k : Int) (List.map datumC d.items) (datumF (d.items.getD k default)) (.r (deep + 1) (.d [.rd, .rd, .ptr] (P_c_iMeaD (d.items.getD k default) (deep + 1) (scan (fun x m =>
 meaD x (deep + 1) m) (List.take k d.items) (q + 1)).snd) (.b (!(meaD (d.items.getD k default) (deep + 1) (scan (fun x m => meaD x (deep + 1) m) (List.take k d.items) (q +
 1)).snd).fst) (.o 1 [0] [.s (lb false), .a (vI (meaD (d.items.getD k default) (deep + 1) (scan (fun x m => meaD x (deep + 1) m) (List.take k d.items) (q + 1)).snd).snd)]) (.r ((↑k
 : Int) + 1) (.g [0] (k + 1) [.s (li ((↑k : Int) + 1)), .a (vI (meaD (d.items.getD k default) (deep + 1) (scan (fun x m => meaD x (deep + 1) m) (List.take k d.items) (q +
 1)).snd).snd)])))))) (.o 0 [0] [.a (vI (scan (fun x m => meaD x (deep + 1) m) (List.take k d.items) (q + 1)).snd)])) (by
  intro k h; try dsimp only [teasy, nthW, lc_iMeaD_sLa] at h ⊢
  have g1 := fun x m => meaD_of x (deep + 1) m
  with_reducible repeat' (first | apply And.intro | exact zR | exact ih | (intro; skip) | apply ih)
  all_goals (try simp only [std, inj] at *)
  all_goals with_reducible repeat' apply And.intro
  all_goals (try (first | with_reducible apply ih | (simp only [← List.map_append]; first | with_reducible apply ih)))
  all_goals (try (first | exact z | grind [scan_step, scan_stop, getD_mem', snocI, snocS, rowSnoc])))
theorem c_iMeaD_s (d : Datum) (deep q : Int) (h : 0 ≤ deep ∧ deep ≤ 21 ∧ 0 ≤ q ∧ q ≤ 600) (ih : ∀ z ∈ d.items, ∀ (deep : Int) (q : Int) (h : 0 ≤ deep ∧ deep ≤ 21 ∧ 0 ≤ q ∧ q ≤
 600), P_c_iMeaD z deep q)  : P_c_iMeaD d deep q := fnOK Tryz.call93 Tryz.func93 (.r (q + 1) (.i (20 < deep) (.y true (.y true (.f [] [Ob.box [vI (q + 1)]] (AV.sv (lb false))))) (.i
 (600 < q + 1) (.y true (.f [] [Ob.box [vI (q + 1)]] (AV.sv (lb false)))) (.z datumC d.items (.c [.rd, .rd, .rd, .rd] (c_iNode d.kind d.number d.text (↑(List.map datumC
 d.items).length : Int)) (.b (!nodD d.kind d.number d.text (↑(List.map datumC d.items).length : Int)) (.f [] [Ob.box [vI (q + 1)]] (AV.sv (lb false))) (.z datumC d.items (.l
 (lc_iMeaD_sLa d deep q) (Sc_iMeaD_sLa d deep q h ih) [0] [.s (li 0), .a (vI (q + 1))] 0 (.t (.f [] [Ob.box [vI (scan (fun x m => meaD x (deep + 1) m) d.items (q + 1)).snd]] (AV.sv
 (lb true))) (.t (.f [] [Ob.box [vI (scan (fun x m => meaD x (deep + 1) m) d.items (q + 1)).snd]] (AV.sv (lb false))) .q)))))))))) (by
  dsimp only [teasy, P_c_iMeaD, nthW, lc_iMeaD_sLa]
  with_reducible repeat' (first | apply And.intro | exact zR | exact ih | (intro; skip))
  all_goals (try simp only [std, inj] at *)
  all_goals with_reducible repeat' apply And.intro
  all_goals (try (first | with_reducible apply ih | (simp only [← List.map_append]; first | with_reducible apply ih)))
  all_goals (try (first | exact z | grind [meaD_eq, scan, snocI, snocS, rowSnoc])))
theorem c_iMeaD (d : Datum) : ∀ (deep : Int) (q : Int) (h : 0 ≤ deep ∧ deep ≤ 21 ∧ 0 ≤ q ∧ q ≤ 600), P_c_iMeaD d deep q := Datum.ind (P := fun d => ∀ (deep : Int) (q : Int) (h : 0 ≤ deep ∧ deep ≤ 21 ∧ 0 ≤ q ∧ q ≤ 600), P_c_iMeaD d deep q) (fun d ih deep q h => c_iMeaD_s d deep q h ih) d
end Go.Proofs.YtjgbkigdnjalkaaGreatDoor
end
section
namespace Go.Proofs.YtjgbkigdnjalkaaGreatDoor
open Go Go.Proofs.YtjgbkigdnjalkaaGreatDoor.Ab
set_option linter.unusedVariables false
theorem dec_one {u : Nat} (h : u < 10) : Lib.decDigits u = [UInt8.ofNat (48 + u)] := by rw [Lib.decDigits, dif_pos h]
theorem dec_more {u : Nat} (h : ¬ u < 10) : Lib.decDigits u = Lib.decDigits (u / 10) ++ [UInt8.ofNat (48 + u % 10)] := by rw [Lib.decDigits, dif_neg h]
theorem dec_len : ∀ (k u : Nat), u < 10 ^ (k + 1) → (Lib.decDigits u).length ≤ k + 1
  | k, u, h => by
    by_cases hu : u < 10
    · rw [dec_one hu]; simp
    · cases k with
      | zero => exact absurd (by simpa using h) hu
      | succ k =>
        have := dec_len k (u / 10) (by rw [Nat.pow_succ] at h; omega)
        rw [dec_more hu]; simp only [List.length_append, List.length_cons, List.length_nil]; omega
theorem dig_one {d : Nat} (hd : d < 10) : (UInt8.ofNat (48 + d)).toNat = 48 + d := by
  rw [UInt8.toNat_ofNat']; omega
theorem dec_dig (u : Nat) : ∀ b ∈ Lib.decDigits u, 48 ≤ b.toNat ∧ b.toNat ≤ 57 := by
  induction u using Nat.strongRecOn with
  | _ u ih =>
    by_cases hu : u < 10
    · rw [dec_one hu]; intro b hb; rw [List.mem_singleton.1 hb, dig_one hu]; omega
    · rw [dec_more hu]; intro b hb
      rcases List.mem_append.1 hb with hb | hb
      · exact ih (u / 10) (by omega) b hb
      · rw [List.mem_singleton.1 hb, dig_one (by omega)]; omega
theorem dec_ne (u : Nat) : Lib.decDigits u ≠ [] := by
  by_cases hu : u < 10
  · rw [dec_one hu]; simp
  · rw [dec_more hu]; simp
def dgs (u : Nat) : List UInt8 := if u = 0 then [] else Lib.decDigits u
theorem dgs_step {u : Nat} (h : u ≠ 0) : dgs u = dgs (u / 10) ++ [UInt8.ofNat (48 + u % 10)] := by
  unfold dgs
  rw [if_neg h]
  by_cases hu : u < 10
  · rw [dec_one hu, if_pos (by omega), Nat.mod_eq_of_lt hu]; rfl
  · rw [dec_more hu, if_neg (by omega)]
theorem dgs_zero : dgs 0 = [] := rfl
theorem dgs_ne {u : Nat} (h : u ≠ 0) : dgs u = Lib.decDigits u := if_neg h
theorem itoa_pos {n : Int} (h : 0 ≤ n) : Lib.itoa n = Lib.decDigits n.natAbs := by
  unfold Lib.itoa; rw [if_neg (by omega)]; congr 1; omega
theorem itoa_neg {n : Int} (h : n < 0) : Lib.itoa n = 45 :: Lib.decDigits n.natAbs := by unfold Lib.itoa; rw [if_pos h]
theorem itoa_zero : Lib.itoa 0 = [48] := by rw [itoa_pos (by decide)]; exact dec_one (by decide)
theorem dec_ge {n : Int} (h : -9223372036854775808 ≤ n ∧ n ≤ 9223372036854775807) : (Lib.decDigits n.natAbs).length ≤ 20 := by
  have e : (10 : Nat) ^ (19 + 1) = 100000000000000000000 := by decide
  exact dec_len 19 n.natAbs (by omega)
def atN (s : ByteArray) : Nat := if 0 < (s.size : Int) ∧ ((s.data.toList.getD 0 0).toNat : Int) = 45 then 1 else 0
def digO (s : ByteArray) : Option Nat := Lib.decFrom 0 ((tx s).drop (atN s))
def digB (s : ByteArray) : Bool := (digO s).isSome
def magN (s : ByteArray) : Nat := (digO s).getD 0
def sgN (s : ByteArray) : Int := if atN s = 1 then 0 - (magN s : Int) else magN s
def shpN (s : ByteArray) : Bool := decide (atN s < s.size ∧ s.size ≤ atN s + 9) && digB s
def isNum (s : ByteArray) : Bool := shpN s && decide (Lib.itoa (sgN s) = tx s)
def numV (s : ByteArray) : Int := if isNum s then sgN s else 0
def prtN (s : ByteArray) (k : Nat) : Option Nat := Lib.decFrom 0 (((tx s).drop (atN s)).take (k - atN s))
theorem prt_zero (s : ByteArray) : prtN s (atN s) = some 0 := by simp [prtN, Lib.decFrom]
theorem prt_all {s : ByteArray} {m : Nat} (h : prtN s s.size = some m) : digB s = true ∧ magN s = m := by
  have e : ((tx s).drop (atN s)).take (s.size - atN s) = (tx s).drop (atN s) := List.take_of_length_le (by rw [List.length_drop]; exact Nat.le_refl _)
  unfold prtN at h; rw [e] at h
  simp [digB, magN, digO, h]
theorem at_le (s : ByteArray) : atN s ≤ 1 := by unfold atN; split <;> omega
theorem get_drop {l : List UInt8} {a k : Nat} (h1 : a ≤ k) (h2 : k < l.length) : (l.drop a)[k - a]? = some (l.getD k 0) := by
  rw [List.getElem?_drop, show a + (k - a) = k by omega]; simp [h2]
theorem prt_step {s : ByteArray} {k m : Nat} (h1 : atN s ≤ k) (h2 : k < s.size) (h : prtN s k = some m) (hd : 48 ≤ ((tx s).getD k 0).toNat ∧ ((tx s).getD k 0).toNat ≤ 57) :
    prtN s (k + 1) = some (m * 10 + (((tx s).getD k 0).toNat - 48)) := by
  unfold prtN at *
  rw [show k + 1 - atN s = k - atN s + 1 by omega]
  exact Lib.decFrom_take _ _ _ _ _ _ h (get_drop h1 h2) (by unfold Lib.digitVal; rw [if_pos hd])
theorem prt_stop {s : ByteArray} {k : Nat} (h1 : atN s ≤ k) (h2 : k < s.size) (hd : ¬ (48 ≤ ((tx s).getD k 0).toNat ∧ ((tx s).getD k 0).toNat ≤ 57)) : digB s = false := by
  cases e : digO s with
  | none => simp [digB, e]
  | some m =>
    obtain ⟨d, hd'⟩ := Lib.digit_of_decFrom _ _ _ e _ _ (get_drop h1 h2)
    unfold Lib.digitVal at hd'
    rw [if_neg hd] at hd'; cases hd'
theorem prt_lt {s : ByteArray} {k m : Nat} (h : prtN s k = some m) (hk : k ≤ atN s + 9) : m < 1000000000 := by
  have h1 := Lib.decFrom_lt _ 0 m h
  have h2 : (((tx s).drop (atN s)).take (k - atN s)).length ≤ 9 := by rw [List.length_take]; omega
  have h3 := Nat.pow_le_pow_right (n := 10) (by decide) h2
  have e : (10 : Nat) ^ 9 = 1000000000 := by decide
  omega
theorem mag_lt {s : ByteArray} (h : digB s = true) (hk : s.size ≤ atN s + 9) : magN s < 1000000000 := by
  have e : ((tx s).drop (atN s)).take (s.size - atN s) = (tx s).drop (atN s) := List.take_of_length_le (by rw [List.length_drop]; exact Nat.le_refl _)
  obtain ⟨m, hm⟩ := Option.isSome_iff_exists.1 h
  have := prt_lt (s := s) (k := s.size) (m := m) (by unfold prtN; rw [e]; exact hm) hk
  simp only [magN, hm, Option.getD_some]; exact this
theorem num_range {s : ByteArray} (h : isNum s = true) : -999999999 ≤ numV s ∧ numV s ≤ 999999999 ∧ numV s = sgN s ∧ Lib.itoa (sgN s) = tx s := by
  have e : numV s = sgN s := by unfold numV; rw [if_pos h]
  simp only [isNum, shpN, Bool.and_eq_true, decide_eq_true_eq] at h
  have := mag_lt h.1.2 h.1.1.2
  refine ⟨?_, ?_, e, h.2⟩ <;> rw [e] <;> unfold sgN <;> split <;> omega
theorem num_none {s : ByteArray} (h : isNum s = false) : numV s = 0 := by unfold numV; rw [h]; rfl
theorem num_atoi {s : ByteArray} (h : isNum s = true) : Lib.atoi (tx s) = some (sgN s) ∧ 1 ≤ s.size ∧ s.size ≤ 10 := by
  have hr := num_range h
  have h0 := h
  simp only [isNum, shpN, Bool.and_eq_true, decide_eq_true_eq] at h
  obtain ⟨⟨⟨h1, h2⟩, h3⟩, h4⟩ := h
  have hle := at_le s
  refine ⟨?_, by omega, by omega⟩
  obtain ⟨m, hm⟩ := Option.isSome_iff_exists.1 h3
  have hmag : magN s = m := by simp [magN, hm]
  have hl : (tx s).length = s.size := rfl
  cases e : tx s with
  | nil => rw [e] at hl; simp at hl; omega
  | cons b r =>
    have hb : (tx s).getD 0 0 = b := by rw [e]; rfl
    unfold digO at hm
    by_cases ha : atN s = 1
    · rw [ha, e, List.drop_one, List.tail_cons] at hm
      have hb45 : b = 45 := by
        unfold atN at ha
        split at ha
        · rename_i hc; have := hc.2; rw [show s.data.toList = tx s from rfl, hb] at this
          exact UInt8.toNat_inj.1 (by have : b.toNat = 45 := by omega
                                      rw [this]; rfl)
        · cases ha
      subst hb45
      have hr0 : r ≠ [] := by intro hh; rw [e, hh] at hl; simp at hl; omega
      simp only [Lib.atoi, Lib.decNat, hm, sgN, ha, hmag]
      cases r with
      | nil => exact absurd rfl hr0
      | cons x y => simp
    · have ha0 : atN s = 0 := by omega
      rw [ha0, e, List.drop_zero] at hm
      obtain ⟨d, hd⟩ := Lib.digit_of_decFrom _ _ _ hm 0 b rfl
      have hdig : 48 ≤ b.toNat ∧ b.toNat ≤ 57 := by
        unfold Lib.digitVal at hd; split at hd
        · assumption
        · cases hd
      have n1 : ¬ b = 45 := by rintro rfl; exact absurd hdig.1 (by decide)
      have n2 : ¬ b = 43 := by rintro rfl; exact absurd hdig.1 (by decide)
      simp only [Lib.atoi, Lib.decNat, hm, sgN, ha0, hmag]
      simp [n1, n2]
theorem atoi_num {s : ByteArray} {v : Int} (h : Lib.atoi (tx s) = some v) (hv : -999999999 ≤ v ∧ v ≤ 999999999) (hi : Lib.itoa v = tx s) : isNum s = true ∧ sgN s = v := by
  have e9 : (10 : Nat) ^ (8 + 1) = 1000000000 := by decide
  have hlen := dec_len 8 v.natAbs (by omega)
  have hl : (tx s).length = s.size := rfl
  obtain ⟨b0, r, e, hc⟩ := Lib.atoi_cases h
  have hb : (tx s).getD 0 0 = b0 := by rw [e]; rfl
  have key : atN s < s.size ∧ s.size ≤ atN s + 9 ∧ digB s = true ∧ sgN s = v := by
    by_cases hn : v < 0
    · rw [itoa_neg hn, e] at hi
      obtain ⟨rfl, rfl⟩ := List.cons.inj hi
      have ha : atN s = 1 := by unfold atN; rw [if_pos]; refine ⟨by rw [e] at hl; simp at hl; omega, ?_⟩; rw [show s.data.toList = tx s from rfl, hb]; rfl
      rcases hc with ⟨_, m, _, hm, rfl⟩ | ⟨h43, _⟩ | ⟨h45, _⟩
      · have hd : digO s = some m := by unfold digO; rw [ha, e]; exact hm
        rw [e] at hl; simp only [List.length_cons] at hl
        have := List.length_pos_iff.2 (dec_ne (-(m : Int)).natAbs)
        exact ⟨by omega, by omega, by simp [digB, hd], by simp [sgN, ha, magN, hd]⟩
      · exact absurd h43 (by decide)
      · exact absurd rfl h45
    · rw [itoa_pos (by omega), e] at hi
      have hb0 := dec_dig v.natAbs b0 (by rw [hi]; exact List.mem_cons_self)
      have ha : atN s = 0 := by
        unfold atN; rw [if_neg]; rintro ⟨_, h45⟩; rw [show s.data.toList = tx s from rfl, hb] at h45; omega
      rcases hc with ⟨h45, _⟩ | ⟨h43, _⟩ | ⟨_, _, m, hm, rfl⟩
      · subst h45; exact absurd hb0.1 (by decide)
      · subst h43; exact absurd hb0.1 (by decide)
      · have hd : digO s = some m := by unfold digO; rw [ha, e]; exact hm
        rw [hi, ← e] at hlen
        rw [e] at hl; simp only [List.length_cons] at hl
        have hl2 : (tx s).length = s.size := rfl
        exact ⟨by omega, by omega, by simp [digB, hd], by simp [sgN, ha, magN, hd]⟩
  obtain ⟨k1, k2, k3, k4⟩ := key
  exact ⟨by simp only [isNum, shpN, Bool.and_eq_true, decide_eq_true_eq]; exact ⟨⟨⟨k1, k2⟩, k3⟩, by rw [k4]; exact hi⟩, k4⟩
theorem rng_u8 {n : Int} : rng .u8 n ↔ 0 ≤ n ∧ n ≤ 255 := by
  simp [rng, IntKind.min, IntKind.max, IntKind.signed, IntKind.bits]
theorem u8_back {m : Int} (h : 0 ≤ m ∧ m ≤ 255) : ((UInt8.ofNat m.toNat).toNat : Int) = m := by
  rw [UInt8.toNat_ofNat']; omega
end Go.Proofs.YtjgbkigdnjalkaaGreatDoor
end
section
namespace Go.Proofs.YtjgbkigdnjalkaaGreatDoor
open Go Go.Proofs.YtjgbkigdnjalkaaGreatDoor.Ab
set_option linter.unusedVariables false
def isBl (n : Int) : Bool := decide (n = 32 ∨ n = 10 ∨ n = 9)
def isEn (n : Int) : Bool := decide (n = 40 ∨ n = 41 ∨ n = 34 ∨ n = 59 ∨ n = 39)
def isRu (n : Int) : Bool := !isBl n && !isEn n
def pas (p : Int → Bool) : List UInt8 → List UInt8
  | [] => []
  | b :: r => if p b.toNat then pas p r else b :: r
def pre (p : Int → Bool) : List UInt8 → List UInt8
  | [] => []
  | b :: r => if p b.toNat then b :: pre p r else []
def noQ (n : Int) : Bool := !decide (n = 34)
theorem pas_suf (p : Int → Bool) : ∀ r, pas p r <:+ r
  | [] => List.suffix_refl _
  | b :: r => by
    unfold pas; split
    · exact (pas_suf p r).trans (List.suffix_cons b r)
    · exact List.suffix_refl _
theorem pas_pre (p : Int → Bool) : ∀ r, pre p r ++ pas p r = r
  | [] => rfl
  | b :: r => by
    unfold pas pre; split
    · rw [List.cons_append, pas_pre p r]
    · rfl
theorem pas_idem (p : Int → Bool) : ∀ r, pas p (pas p r) = pas p r
  | [] => rfl
  | b :: r => by
    by_cases h : p b.toNat = true
    · have e : pas p (b :: r) = pas p r := by show (if p b.toNat = true then pas p r else b :: r) = _; rw [if_pos h]
      rw [e]; exact pas_idem p r
    · have e : pas p (b :: r) = b :: r := by show (if p b.toNat = true then pas p r else b :: r) = _; rw [if_neg h]
      rw [e, e]
abbrev skp := pas isBl
def by0 (r : List UInt8) : Int := ((r.getD 0 0).toNat : Int)
def atomO (t : ByteArray) : Option Datum :=
  if isNum t = true then some ⟨2, numV t, mkS [], []⟩ else if tx t = [35, 116] then some ⟨3, 1, mkS [], []⟩ else if tx t = [35, 102] then some ⟨3, 0, mkS [], []⟩ else if isSym t = true then some ⟨1, 0, t, []⟩ else none
def clo (r : List UInt8) : Option (List UInt8) := if skp r ≠ [] ∧ by0 (skp r) = 41 then some ((skp r).drop 1) else none
mutual
/-- does the text read as the datum, and what is left -/
def ckD : Datum → List UInt8 → Option (List UInt8)
  | ⟨k, n, t, l⟩, r =>
    if skp r = [] ∨ by0 (skp r) = 41 ∨ by0 (skp r) = 39 ∨ by0 (skp r) = 59 then none
    else if by0 (skp r) = 40 then (if k = 0 ∧ n = 0 ∧ t = mkS [] then (ckP l ((skp r).drop 1)).bind clo else none)
    else if by0 (skp r) = 34 then (if k = 4 ∧ n = 0 ∧ t = mkS (pre noQ ((skp r).drop 1)) ∧ l = [] ∧ isStr t = true ∧ pas noQ ((skp r).drop 1) ≠ [] then some ((pas noQ ((skp r).drop 1)).drop 1) else none)
    else if atomO (mkS (pre isRu (skp r))) = some ⟨k, n, t, l⟩ then some (pas isRu (skp r)) else none
def ckP : List Datum → List UInt8 → Option (List UInt8)
  | [], r => some r
  | x :: l, r => (ckD x r).bind fun q => ckP l q
end
theorem ckD_eq (d : Datum) (r : List UInt8) : ckD d r =
    if skp r = [] ∨ by0 (skp r) = 41 ∨ by0 (skp r) = 39 ∨ by0 (skp r) = 59 then none
    else if by0 (skp r) = 40 then (if d.kind = 0 ∧ d.number = 0 ∧ d.text = mkS [] then (ckP d.items ((skp r).drop 1)).bind clo else none)
    else if by0 (skp r) = 34 then (if d.kind = 4 ∧ d.number = 0 ∧ d.text = mkS (pre noQ ((skp r).drop 1)) ∧ d.items = [] ∧ isStr d.text = true ∧ pas noQ ((skp r).drop 1) ≠ [] then some ((pas noQ ((skp r).drop 1)).drop 1) else none)
    else if atomO (mkS (pre isRu (skp r))) = some d then some (pas isRu (skp r)) else none := by
  cases d; rw [ckD]
theorem clo_some {r q : List UInt8} (h : clo r = some q) : skp r ≠ [] ∧ by0 (skp r) = 41 ∧ q = (skp r).drop 1 := by
  unfold clo at h; split at h
  · rename_i e; exact ⟨e.1, e.2, (Option.some.inj h).symm⟩
  · cases h
theorem drop1_suf (l : List UInt8) : l.drop 1 <:+ l := List.drop_suffix 1 l
theorem ckP_suf {L : List Datum} (ih : ∀ (d : Datum), d ∈ L → ∀ r q, ckD d r = some q → q <:+ r) : ∀ (l : List Datum), (∀ d ∈ l, d ∈ L) → ∀ r q, ckP l r = some q → q <:+ r
  | [], _, r, q, h => by simp only [ckP, Option.some.injEq] at h; rw [h]; exact List.suffix_refl _
  | x :: l, hl, r, q, h => by
    simp only [ckP, Option.bind_eq_some_iff] at h
    obtain ⟨m, h1, h2⟩ := h
    exact (ckP_suf ih l (fun d hd => hl d (List.mem_cons_of_mem _ hd)) m q h2).trans (ih x (hl x List.mem_cons_self) r m h1)
theorem ckD_suf : ∀ (d : Datum) (r q : List UInt8), ckD d r = some q → q <:+ r := by
  refine Datum.ind fun d ih r q h => ?_
  have hs := pas_suf isBl r
  have h1 := (drop1_suf (skp r)).trans hs
  rw [ckD_eq] at h
  split at h
  · cases h
  split at h
  · split at h
    · rw [Option.bind_eq_some_iff] at h
      obtain ⟨m, h2, h3⟩ := h
      have h4 := clo_some h3
      rw [h4.2.2]
      exact ((drop1_suf _).trans (pas_suf isBl m)).trans ((ckP_suf ih d.items (fun _ h => h) _ _ h2).trans h1)
    · cases h
  split at h
  · split at h
    · rw [← Option.some.inj h]
      exact ((drop1_suf _).trans (pas_suf noQ _)).trans h1
    · cases h
  split at h
  · rw [← Option.some.inj h]; exact (pas_suf isRu _).trans hs
  · cases h
def rs (s : ByteArray) (a : Nat) : List UInt8 := (tx s).drop a
def plR (s : ByteArray) (r : List UInt8) : Nat := s.size - r.length
theorem rs_len (s : ByteArray) (a : Nat) : (rs s a).length = s.size - a := by unfold rs; rw [List.length_drop]; rfl
theorem suf_rs {s : ByteArray} {a : Nat} {q : List UInt8} (ha : a ≤ s.size) (h : q <:+ rs s a) : rs s (plR s q) = q ∧ a ≤ plR s q ∧ plR s q ≤ s.size ∧ q.length = s.size - plR s q := by
  have h1 := h.length_le
  rw [rs_len] at h1
  have h2 : q <:+ tx s := h.trans (List.drop_suffix a _)
  have h3 := (List.suffix_iff_eq_drop.1 h2)
  have e : (tx s).length = s.size := rfl
  rw [e] at h3
  exact ⟨h3.symm, by unfold plR; omega, by unfold plR; omega, by unfold plR; omega⟩
theorem rs_cons {s : ByteArray} {a : Nat} (h : a < s.size) : rs s a = (tx s).getD a 0 :: rs s (a + 1) := drop_get (L := tx s) h
theorem rs_end {s : ByteArray} {a : Nat} (h : s.size ≤ a) : rs s a = [] := List.drop_eq_nil_of_le h
theorem rs_ne {s : ByteArray} {a : Nat} : rs s a ≠ [] ↔ a < s.size := by
  constructor
  · intro h; rcases Nat.lt_or_ge a s.size with e | e
    · exact e
    · exact absurd (rs_end e) h
  · intro h; rw [rs_cons h]; simp
theorem by0_rs {s : ByteArray} {a : Nat} (h : a < s.size) : by0 (rs s a) = (((tx s).getD a 0).toNat : Int) := by rw [rs_cons h]; rfl
def pst (p : Int → Bool) (s : ByteArray) (a : Nat) : Nat := plR s (pas p (rs s a))
theorem pst_rs (p : Int → Bool) {s : ByteArray} {a : Nat} (h : a ≤ s.size) : rs s (pst p s a) = pas p (rs s a) ∧ a ≤ pst p s a ∧ pst p s a ≤ s.size := by
  have := suf_rs h (pas_suf p (rs s a)); exact ⟨this.1, this.2.1, this.2.2.1⟩
theorem pst_go (p : Int → Bool) {s : ByteArray} {a : Nat} (h : a < s.size) (hp : p ((tx s).getD a 0).toNat = true) : pst p s (a + 1) = pst p s a := by
  unfold pst; rw [rs_cons h]; simp only [pas]; rw [if_pos hp]
theorem pst_stop (p : Int → Bool) {s : ByteArray} {a : Nat} (h : a ≤ s.size) (hp : a < s.size → p ((tx s).getD a 0).toNat = false) : pst p s a = a := by
  rcases Nat.lt_or_ge a s.size with e | e
  · unfold pst; rw [rs_cons e]; simp only [pas]; rw [if_neg (by rw [hp e]; decide), ← rs_cons e]
    unfold plR; rw [rs_len]; omega
  · unfold pst; rw [rs_end e]; unfold pas plR; simp; omega
theorem pst_idem (p : Int → Bool) {s : ByteArray} {a : Nat} (h : a ≤ s.size) : pst p s (pst p s a) = pst p s a := by
  have h1 := pst_rs p h
  unfold pst at h1 ⊢; rw [h1.1, pas_idem]
theorem pst_txt (p : Int → Bool) {s : ByteArray} {a : Nat} (h : a ≤ s.size) : (rs s a).take (pst p s a - a) = pre p (rs s a) := by
  have h1 := pas_pre p (rs s a)
  have h2 := suf_rs h (pas_suf p (rs s a))
  have h3 := congrArg List.length h1
  rw [List.length_append, rs_len] at h3
  have h4 : (pre p (rs s a)).length = pst p s a - a := by unfold pst; omega
  have h5 : (pre p (rs s a) ++ pas p (rs s a)).take (pre p (rs s a)).length = pre p (rs s a) := List.take_left
  rw [h1, h4] at h5; exact h5
def okR (d : Datum) (s : ByteArray) (a : Nat) : Bool := (ckD d (rs s a)).isSome
def enR (d : Datum) (s : ByteArray) (a : Nat) : Nat := plR s ((ckD d (rs s a)).getD [])
def okP (l : List Datum) (s : ByteArray) (a : Nat) : Bool := (ckP l (rs s a)).isSome
def enP (l : List Datum) (s : ByteArray) (a : Nat) : Nat := plR s ((ckP l (rs s a)).getD [])
def sk (s : ByteArray) (a : Nat) : Nat := pst isBl s a
theorem ckP_suf' (l : List Datum) (r q : List UInt8) (h : ckP l r = some q) : q <:+ r := ckP_suf (L := l) (fun d _ => ckD_suf d) l (fun _ h => h) r q h
theorem enR_rs {d : Datum} {s : ByteArray} {a : Nat} (h : a ≤ s.size) (hd : okR d s a = true) : ckD d (rs s a) = some (rs s (enR d s a)) ∧ a ≤ enR d s a ∧ enR d s a ≤ s.size := by
  obtain ⟨q, hq⟩ := Option.isSome_iff_exists.1 hd
  have := suf_rs h (ckD_suf d _ _ hq)
  unfold enR; rw [hq, Option.getD_some, this.1]; exact ⟨rfl, this.2.1, this.2.2.1⟩
theorem enP_rs {l : List Datum} {s : ByteArray} {a : Nat} (h : a ≤ s.size) (hd : okP l s a = true) : ckP l (rs s a) = some (rs s (enP l s a)) ∧ a ≤ enP l s a ∧ enP l s a ≤ s.size := by
  obtain ⟨q, hq⟩ := Option.isSome_iff_exists.1 hd
  have := suf_rs h (ckP_suf' l _ _ hq)
  unfold enP; rw [hq, Option.getD_some, this.1]; exact ⟨rfl, this.2.1, this.2.2.1⟩
theorem enP_nil (s : ByteArray) {a : Nat} (h : a ≤ s.size) : enP [] s a = a := by
  unfold enP; rw [ckP]; unfold plR; rw [Option.getD_some, rs_len]; omega
theorem ckP_append : ∀ (l m : List Datum) (r : List UInt8), ckP (l ++ m) r = (ckP l r).bind fun q => ckP m q
  | [], m, r => by simp [ckP]
  | x :: l, m, r => by
    rw [List.cons_append, ckP, ckP]
    cases ckD x r with
    | none => rfl
    | some q => simp only [Option.bind_some]; exact ckP_append l m q
theorem okP_take {l : List Datum} {s : ByteArray} {a k : Nat} (h : a ≤ s.size) (hd : okP l s a = true) : okP (l.take k) s a = true := by
  unfold okP at *; rw [← List.take_append_drop k l, ckP_append] at hd
  cases e : ckP (l.take k) (rs s a) with
  | none => rw [e] at hd; cases hd
  | some q => rfl
theorem okP_step {l : List Datum} {s : ByteArray} {a k : Nat} (h : a ≤ s.size) (hd : okP l s a = true) (hk : k < l.length) :
    okR (l.getD k default) s (enP (l.take k) s a) = true ∧ enP (l.take (k + 1)) s a = enR (l.getD k default) s (enP (l.take k) s a) := by
  have h1 := okP_take (k := k) h hd
  have h2 := okP_take (k := k + 1) h hd
  have h3 := enP_rs h h1
  rw [take_get hk] at h2
  have h4 : ckP (l.take k ++ [l.getD k default]) (rs s a) = ckD (l.getD k default) (rs s (enP (l.take k) s a)) := by
    rw [ckP_append, h3.1, Option.bind_some, ckP]
    cases ckD (l.getD k default) (rs s (enP (l.take k) s a)) <;> rfl
  constructor
  · unfold okR; unfold okP at h2; rw [h4] at h2; exact h2
  · rw [take_get hk]; unfold enP enR; rw [h4]; rfl
def byt (s : ByteArray) (a : Nat) : Int := ((s.data.toList.getD a 0).toNat : Int)
theorem byt_tx (s : ByteArray) (a : Nat) : byt s a = (((tx s).getD a 0).toNat : Int) := rfl
def noc (s : ByteArray) (a : Nat) : Bool := !(decide (sk s a < s.size) && decide (byt s (sk s a) = 59))
def sbs (s : ByteArray) (a b : Nat) : ByteArray := mkS (((tx s).drop a).take (b - a))
theorem clo_at {s : ByteArray} {a : Nat} (h : a ≤ s.size) {q : List UInt8} (hq : clo (rs s a) = some q) : sk s a < s.size ∧ byt s (sk s a) = 41 ∧ plR s q = sk s a + 1 ∧ noc s a = true := by
  have h1 := clo_some hq
  have h2 := (pst_rs isBl h).1
  have h3 : sk s a < s.size := rs_ne.1 (by unfold sk; rw [h2]; exact h1.1)
  have h4 : byt s (sk s a) = 41 := by rw [byt_tx, ← by0_rs h3]; unfold sk; rw [h2]; exact h1.2.1
  refine ⟨h3, h4, ?_, by simp [noc, h4]⟩
  have h5 : q = rs s (sk s a + 1) := by
    rw [h1.2.2]; show (pas isBl (rs s a)).drop 1 = _; rw [← h2]; show (rs s (sk s a)).drop 1 = _; rw [rs_cons h3]; rfl
  rw [h5]; unfold plR; rw [rs_len]; omega
theorem okR_cases {d : Datum} {s : ByteArray} {a : Nat} (h : a ≤ s.size) (hd : okR d s a = true) :
    noc s a = true ∧ sk s a < s.size ∧ byt s (sk s a) ≠ 41 ∧ byt s (sk s a) ≠ 39 ∧ byt s (sk s a) ≠ 59 ∧
    ((byt s (sk s a) = 40 ∧ d.kind = 0 ∧ d.number = 0 ∧ d.text = mkS [] ∧ okP d.items s (sk s a + 1) = true ∧ noc s (enP d.items s (sk s a + 1)) = true ∧ sk s (enP d.items s (sk s a + 1)) < s.size ∧ byt s (sk s (enP d.items s (sk s a + 1))) = 41 ∧ enR d s a = sk s (enP d.items s (sk s a + 1)) + 1)
     ∨ (byt s (sk s a) = 34 ∧ d.kind = 4 ∧ d.number = 0 ∧ d.items = [] ∧ d.text = sbs s (sk s a + 1) (pst noQ s (sk s a + 1)) ∧ isStr d.text = true ∧ pst noQ s (sk s a + 1) < s.size ∧ enR d s a = pst noQ s (sk s a + 1) + 1)
     ∨ (byt s (sk s a) ≠ 40 ∧ byt s (sk s a) ≠ 34 ∧ atomO (sbs s (sk s a) (pst isRu s (sk s a))) = some d ∧ enR d s a = pst isRu s (sk s a))) := by
  obtain ⟨q, hq⟩ := Option.isSome_iff_exists.1 hd
  have he : enR d s a = plR s q := by unfold enR; rw [hq]; rfl
  have h2 := pst_rs isBl h
  rw [ckD_eq] at hq
  change rs s (sk s a) = skp (rs s a) ∧ a ≤ sk s a ∧ sk s a ≤ s.size at h2
  rw [← h2.1] at hq
  split at hq
  · cases hq
  rename_i h3
  simp only [not_or] at h3
  have h4 : sk s a < s.size := rs_ne.1 h3.1
  have hb : by0 (rs s (sk s a)) = byt s (sk s a) := by rw [by0_rs h4, byt_tx]
  have hd1 : (rs s (sk s a)).drop 1 = rs s (sk s a + 1) := by rw [rs_cons h4]; rfl
  rw [hb] at h3 hq
  rw [hd1] at hq
  refine ⟨by simp [noc, h3.2.2.2], h4, h3.2.1, h3.2.2.1, h3.2.2.2, ?_⟩
  split at hq
  · rename_i h5
    split at hq
    · rename_i h6
      rw [Option.bind_eq_some_iff] at hq
      obtain ⟨m, h7, h8⟩ := hq
      have ho : okP d.items s (sk s a + 1) = true := by unfold okP; rw [h7]; rfl
      have h9 := enP_rs (by omega) ho
      rw [h7, Option.some.injEq] at h9
      rw [h9.1] at h8
      have h10 := clo_at h9.2.2 h8
      exact .inl ⟨h5, h6.1, h6.2.1, h6.2.2, ho, h10.2.2.2, h10.1, h10.2.1, by rw [he, h10.2.2.1]⟩
    · cases hq
  rename_i h5
  split at hq
  · rename_i h6
    split at hq
    · rename_i h7
      have h8 := pst_rs noQ (s := s) (a := sk s a + 1) (by omega)
      rw [← h8.1] at h7
      have h9 := rs_ne.1 h7.2.2.2.2.2
      refine .inr (.inl ⟨h6, h7.1, h7.2.1, h7.2.2.2.1, ?_, h7.2.2.2.2.1, h9, ?_⟩)
      · unfold sbs; rw [h7.2.2.1, ← pst_txt noQ (by omega)]; rfl
      · rw [he, ← Option.some.inj hq, ← h8.1, rs_cons h9]
        show plR s (rs s _) = _
        unfold plR; rw [rs_len]; omega
    · cases hq
  rename_i h6
  split at hq
  · rename_i h7
    have h8 := pst_rs isRu (s := s) (a := sk s a) (by omega)
    refine .inr (.inr ⟨h5, h6, ?_, ?_⟩)
    · unfold sbs; rw [show (tx s).drop (sk s a) = rs s (sk s a) from rfl, pst_txt isRu (by omega)]; exact h7
    · rw [he, ← Option.some.inj hq, ← h8.1]; unfold plR; rw [rs_len]; omega
  · cases hq
theorem sk_le {s : ByteArray} {a : Nat} (h : a ≤ s.size) : a ≤ sk s a ∧ sk s a ≤ s.size := (pst_rs isBl h).2
def rdsB (L : List Datum) (s : ByteArray) : Bool := okP L s 0 && decide (sk s (enP L s 0) = s.size) && L.all isDat && decide (sumBy sizeD L ≤ 600) && decide (s.size ≤ 15000)
theorem sbs_tx (s : ByteArray) (a b : Nat) : tx (sbs s a b) = (s.data.toList.drop a).take (b - a) := tx_mkS _
theorem sbs_mk (s : ByteArray) (a b : Nat) : sbs s a b = mkS ((s.data.toList.drop a).take (b - a)) := rfl
theorem sk_idem {s : ByteArray} {a : Nat} (h : a ≤ s.size) : sk s (sk s a) = sk s a := pst_idem isBl h
theorem noc_sk {s : ByteArray} {a : Nat} (h : a ≤ s.size) : noc s (sk s a) = noc s a := by unfold noc; rw [sk_idem h]
theorem rd_hd {d : Datum} {s : ByteArray} {a : Nat} (h : a ≤ s.size) (hd : okR d s a = true) : noc s a = true ∧ sk s a < s.size ∧ byt s (sk s a) ≠ 41 ∧ byt s (sk s a) ≠ 39 ∧ byt s (sk s a) ≠ 59 ∧ a ≤ sk s a ∧ sk s (sk s a) = sk s a ∧ noc s (sk s a) = true := by
  have g := okR_cases h hd
  exact ⟨g.1, g.2.1, g.2.2.1, g.2.2.2.1, g.2.2.2.2.1, (sk_le h).1, sk_idem h, by rw [noc_sk h]; exact g.1⟩
theorem rd_list {d : Datum} {s : ByteArray} {a : Nat} (h : a ≤ s.size) (hd : okR d s a = true) (hb : byt s (sk s a) = 40) : d.kind = 0 ∧ d.number = 0 ∧ d.text = mkS [] ∧ enR d s a = sk s (enP d.items s (sk s a + 1)) + 1 := by
  rcases (okR_cases h hd).2.2.2.2.2 with g | g | g
  · exact ⟨g.2.1, g.2.2.1, g.2.2.2.1, g.2.2.2.2.2.2.2.2⟩
  · omega
  · omega
theorem rd_str {d : Datum} {s : ByteArray} {a : Nat} (h : a ≤ s.size) (hd : okR d s a = true) (hb : byt s (sk s a) = 34) : d.kind = 4 ∧ d.number = 0 ∧ d.items = [] ∧ d.text = mkS ((s.data.toList.drop (sk s a + 1)).take (pst noQ s (sk s a + 1) - (sk s a + 1))) ∧ isStr (mkS ((s.data.toList.drop (sk s a + 1)).take (pst noQ s (sk s a + 1) - (sk s a + 1)))) = true ∧ pst noQ s (sk s a + 1) < s.size ∧ enR d s a = pst noQ s (sk s a + 1) + 1 := by
  rcases (okR_cases h hd).2.2.2.2.2 with g | g | g
  · omega
  · have e := g.2.2.2.2.1
    refine ⟨g.2.1, g.2.2.1, g.2.2.2.1, e, ?_, g.2.2.2.2.2.2.1, g.2.2.2.2.2.2.2⟩
    have := g.2.2.2.2.2.1; rw [e] at this; exact this
  · omega
theorem rd_atm {d : Datum} {s : ByteArray} {a : Nat} (h : a ≤ s.size) (hd : okR d s a = true) (h1 : byt s (sk s a) ≠ 40) (h2 : byt s (sk s a) ≠ 34) : atomO (sbs s (sk s a) (pst isRu s (sk s a))) = some d ∧ enR d s a = pst isRu s (sk s a) := by
  rcases (okR_cases h hd).2.2.2.2.2 with g | g | g
  · omega
  · omega
  · exact g.2.2
theorem rdl {d : Datum} {s : ByteArray} {a : Nat} (h : a ≤ s.size) (hd : okR d s a = true) (hb : byt s (sk s a) = 40) {k : Nat} (hk : k ≤ d.items.length) :
    enP (d.items.take k) s (sk s a + 1) ≤ s.size ∧ noc s (enP (d.items.take k) s (sk s a + 1)) = true ∧ sk s (enP (d.items.take k) s (sk s a + 1)) < s.size ∧ (byt s (sk s (enP (d.items.take k) s (sk s a + 1))) = 41 ↔ k = d.items.length) ∧
    (k < d.items.length → okR (d.items.getD k default) s (enP (d.items.take k) s (sk s a + 1)) = true ∧ enP (d.items.take (k + 1)) s (sk s a + 1) = enR (d.items.getD k default) s (enP (d.items.take k) s (sk s a + 1))) ∧
    (k = d.items.length → enP (d.items.take k) s (sk s a + 1) = enP d.items s (sk s a + 1)) := by
  have g := okR_cases h hd
  rcases g.2.2.2.2.2 with c | c | c
  · have hs : sk s a + 1 ≤ s.size := g.2.1
    have hp := enP_rs hs (okP_take (k := k) hs c.2.2.2.2.1)
    have e : k = d.items.length → enP (d.items.take k) s (sk s a + 1) = enP d.items s (sk s a + 1) := fun e => by rw [e, List.take_length]
    rcases Nat.lt_or_eq_of_le hk with hl | hl
    · have st := okP_step hs c.2.2.2.2.1 hl
      have g2 := okR_cases hp.2.2 st.1
      exact ⟨hp.2.2, g2.1, g2.2.1, ⟨fun q => absurd q g2.2.2.1, fun q => by omega⟩, fun _ => st, e⟩
    · rw [e hl]
      exact ⟨by rw [← e hl]; exact hp.2.2, c.2.2.2.2.2.1, c.2.2.2.2.2.2.1, ⟨fun _ => hl, fun _ => c.2.2.2.2.2.2.2.1⟩, fun q => by omega, fun _ => rfl⟩
  · omega
  · omega
theorem rdl0 {d : Datum} {s : ByteArray} {a : Nat} (h : a ≤ s.size) (hd : okR d s a = true) : enP (d.items.take 0) s (sk s a + 1) = sk s a + 1 := enP_nil s (okR_cases h hd).2.1
end Go.Proofs.YtjgbkigdnjalkaaGreatDoor
end
section
namespace Go.Proofs.YtjgbkigdnjalkaaGreatDoor
open Go Go.Shelf Go.RowKit Go.Proofs.YtjgbkigdnjalkaaGreatDoor.Ab
set_option linter.unusedVariables false
def jnRen : Go.Shelf.Ren := ⟨fun | 156 => 50 | 165 => 94 | 166 => 95 | 169 => 96 | 240 => 134 | 241 => 135 | 276 => 167 | 277 => 168 | n => n, fun | 31 => 85 | 9 => 9 | 3 => 3 | 4 => 4 | 0 => 0 | 20 => 20 | 72 => 125 | 76 => 129 | 70 => 122 | 37 => 123 | 75 => 128 | 127 => 157 | 164 => 172 | 5 => 5 | 80 => 43 | n => n, fun | n => n⟩
theorem jnLays : Go.Proofs.Lays.n156 Tryz.prog jnRen := {
  mixed := by kernel_rfl
  f156 := Tryz.func50.trans (congrArg some (by kernel_rfl))
  f165 := Tryz.func94.trans (congrArg some (by kernel_rfl))
  f166 := Tryz.func95.trans (congrArg some (by kernel_rfl))
  f169 := Tryz.func96.trans (congrArg some (by kernel_rfl))
  f240 := Tryz.func134.trans (congrArg some (by kernel_rfl))
  f241 := Tryz.func135.trans (congrArg some (by kernel_rfl))
  f276 := Tryz.func167.trans (congrArg some (by kernel_rfl))
  f277 := Tryz.func168.trans (congrArg some (by kernel_rfl))
  t0 := Tryz.underlying0
  a0 := Tryz.isAgg0
  z0 := Tryz.sizeOf0
  v0 := Tryz.zeroValue0
  t3 := Tryz.underlying3
  a3 := Tryz.isAgg3
  z3 := Tryz.sizeOf3
  v3 := Tryz.zeroValue3
  t4 := Tryz.underlying4
  a4 := Tryz.isAgg4
  z4 := Tryz.sizeOf4
  v4 := Tryz.zeroValue4
  t9 := Tryz.underlying9
  a9 := Tryz.isAgg9
  z9 := Tryz.sizeOf9
  v9 := Tryz.zeroValue9
  t20 := Tryz.underlying20
  a20 := Tryz.isAgg20
  z20 := Tryz.sizeOf20
  v20 := Tryz.zeroValue20
  t31 := Tryz.underlying85
  a31 := Tryz.isAgg85
  z31 := Tryz.sizeOf85
  v31 := Tryz.zeroValue85
  t37 := Tryz.underlying123
  a37 := Tryz.isAgg123
  z37 := Tryz.sizeOf123
  v37 := Tryz.zeroValue123
  t70 := Tryz.underlying122
  a70 := Tryz.isAgg122
  z70 := Tryz.sizeOf122
  v70 := Tryz.zeroValue122
  t72 := Tryz.underlying125
  a72 := Tryz.isAgg125
  z72 := Tryz.sizeOf125
  v72 := Tryz.zeroValue125
  t75 := Tryz.underlying128
  a75 := Tryz.isAgg128
  z75 := Tryz.sizeOf128
  v75 := Tryz.zeroValue128
  t76 := Tryz.underlying129
  a76 := Tryz.isAgg129
  z76 := Tryz.sizeOf129
  v76 := Tryz.zeroValue129
  t127 := Tryz.underlying157
  a127 := Tryz.isAgg157
  z127 := Tryz.sizeOf157
  v127 := Tryz.zeroValue157
  t164 := Tryz.underlying172
  a164 := Tryz.isAgg172
  z164 := Tryz.sizeOf172
  v164 := Tryz.zeroValue172 }
theorem jnExtra : Builder.Extra Tryz.prog jnRen := {
  sizeBuilder := by kernel_rfl
  liesBuilder := by kernel_rfl
  t5 := Tryz.underlying5
  a5 := Tryz.isAgg5
  z5 := Tryz.sizeOf5
  v5 := Tryz.zeroValue5
  infoByte := by kernel_rfl
  cellsByte := by kernel_rfl
  sizeByte := by kernel_rfl
  neB5 := by decide }
theorem flat_str : ∀ (L : List ByteArray) (j : Nat), (L.map strC).flatten[j]? = (L[j]?).map cS
  | [], j => by simp
  | x :: r, 0 => by simp [strC]
  | x :: r, j + 1 => by
    have := flat_str r j
    simpa [strC] using this
abbrev joinS (L : List ByteArray) (sep : ByteArray) : ByteArray := ⟨(Lib.join (L.map (·.data.toList)) sep.data.toList).toArray⟩
theorem c_join (L : List ByteArray) (sep : ByteArray) (hN : L.length ≤ 140737488355328) (hlen : (Lib.join (L.map (·.data.toList)) sep.data.toList).length ≤ 1000000) :
    CallOK Tryz.prog 50 [] [ll (L.map strC), ls sep] [] (.sv (ls (joinS L sep))) := by
  refine ⟨Tryz.call50, fun w ι vals hp _ => ?_⟩
  have hpost : ∀ w', Below w.heap.size w w' → PostRel w ι [] [] (.sv (ls (joinS L sep))) w' (.string (joinS L sep)) ι := fun w' hb =>
    { ext := fun j => trivial
      obj := fun j => hp.obj j
      disj := hp.disj
      gfp := hp.gfp
      lt := fun i b h => absurd h (hp.obj i b)
      glt := fun b h => Nat.lt_of_lt_of_le (hp.glt b h) hb.size
      gg := fun _ h => h
      gown := fun _ h => .inl h
      own := fun j b h => absurd h (hp.obj j b)
      frame := fun b h _ => hb.block b h
      size := hb.size
      os := hb.os
      out := hb.output
      val := ⟨.lit (by show (Lib.join (L.map (·.data.toList)) sep.data.toList).toArray.size ≤ maxLen; rw [List.size_toArray]; exact Nat.le_trans hlen (by decide)), fun _ => rfl⟩ }
  have harg := hp.arg
  rcases vals with ⟨l⟩
  match l, harg with
  | [v0, v1], ⟨h0, h1, _⟩ =>
    obtain ⟨rfl, _⟩ := h1.1.lit_inv
    have h2 : Rd w ι.G v0 (.list (L.map strC)) := h0.1
    generalize hE : L.map strC = es at h2
    cases h2 with
    | nil =>
      obtain rfl : L = [] := List.map_eq_nil_iff.1 hE
      rename_i a cap
      refine (Any.strings_Join_none jnLays jnExtra a cap sep w).mono fun e w' h => ?_
      obtain ⟨rfl, rfl⟩ := h
      exact ⟨_, ι, rfl, hpost _ (Below.refl _ _)⟩
    | slice hG hc hm hsz hl hx hr =>
      rename_i b off cap sz xs
      subst hE
      rw [List.length_map] at hc ⊢
      refine (Any.strings_Join jnLays jnExtra b off cap L sep w (fun j x hj => ?_) (hp.glt b hG) hN hc (by omega)).mono fun e w' h => ?_
      · have hf := flat_str L j
        rw [hj] at hf
        have hlt : j < xs.length := by
          have := (List.getElem?_eq_some_iff.1 hf).1
          omega
        have e1 : xs[j]? = some xs[j] := List.getElem?_eq_getElem hlt
        have h3 := hr j _ _ e1 hf
        have h4 := hx j _ e1
        rw [h4, (h3.lit_inv).1]
      · exact ⟨_, ι, h.1, hpost _ h.2⟩
end Go.Proofs.YtjgbkigdnjalkaaGreatDoor
end
section
namespace Go.Proofs.YtjgbkigdnjalkaaGreatDoor
open Go Go.Proofs.YtjgbkigdnjalkaaGreatDoor.Ab
set_option linter.unusedVariables false
set_option linter.unusedSimpArgs false
set_option maxHeartbeats 4000000
set_option maxRecDepth 100000
def baseL : List ByteArray := [mkS [40, 100, 101, 102, 105, 110, 101, 45, 115, 121, 110, 116, 97, 120, 32, 108, 101, 116, 32, 40, 115, 121, 110, 116, 97, 120, 45, 114, 117, 108, 101, 115, 32, 40, 41, 32, 40, 40, 95, 32, 40, 40, 120, 32, 101, 41, 32, 46, 46, 46, 41, 32, 98, 32, 46, 46, 46, 41, 32, 40, 40, 108, 97, 109, 98, 100, 97, 32, 40, 120, 32, 46, 46, 46, 41, 32, 98, 32, 46, 46, 46, 41, 32, 101, 32, 46, 46, 46, 41, 41, 41, 41],
  mkS [40, 100, 101, 102, 105, 110, 101, 45, 115, 121, 110, 116, 97, 120, 32, 108, 101, 116, 42, 32, 40, 115, 121, 110, 116, 97, 120, 45, 114, 117, 108, 101, 115, 32, 40, 41, 32, 40, 40, 95, 32, 40, 41, 32, 98, 32, 46, 46, 46, 41, 32, 40, 108, 101, 116, 32, 40, 41, 32, 98, 32, 46, 46, 46, 41, 41, 32, 40, 40, 95, 32, 40, 97, 32, 109, 32, 46, 46, 46, 41, 32, 98, 32, 46, 46, 46, 41, 32, 40, 108, 101, 116, 32, 40, 97, 41, 32, 40, 108, 101, 116, 42, 32, 40, 109, 32, 46, 46, 46, 41, 32, 98, 32, 46, 46, 46, 41, 41, 41, 41, 41],
  mkS [40, 100, 101, 102, 105, 110, 101, 45, 115, 121, 110, 116, 97, 120, 32, 108, 101, 116, 114, 101, 99, 32, 40, 115, 121, 110, 116, 97, 120, 45, 114, 117, 108, 101, 115, 32, 40, 41, 32, 40, 40, 95, 32, 40, 40, 120, 32, 101, 41, 32, 46, 46, 46, 41, 32, 98, 32, 46, 46, 46, 41, 32, 40, 108, 101, 116, 32, 40, 41, 32, 40, 100, 101, 102, 105, 110, 101, 32, 120, 32, 101, 41, 32, 46, 46, 46, 32, 40, 108, 101, 116, 32, 40, 41, 32, 98, 32, 46, 46, 46, 41, 41, 41, 41, 41],
  mkS [40, 100, 101, 102, 105, 110, 101, 45, 115, 121, 110, 116, 97, 120, 32, 97, 110, 100, 32, 40, 115, 121, 110, 116, 97, 120, 45, 114, 117, 108, 101, 115, 32, 40, 41, 32, 40, 40, 95, 41, 32, 35, 116, 41, 32, 40, 40, 95, 32, 101, 41, 32, 101, 41, 32, 40, 40, 95, 32, 101, 32, 109, 32, 46, 46, 46, 41, 32, 40, 105, 102, 32, 101, 32, 40, 97, 110, 100, 32, 109, 32, 46, 46, 46, 41, 32, 35, 102, 41, 41, 41, 41],
  mkS [40, 100, 101, 102, 105, 110, 101, 45, 115, 121, 110, 116, 97, 120, 32, 111, 114, 32, 40, 115, 121, 110, 116, 97, 120, 45, 114, 117, 108, 101, 115, 32, 40, 41, 32, 40, 40, 95, 41, 32, 35, 102, 41, 32, 40, 40, 95, 32, 101, 41, 32, 101, 41, 32, 40, 40, 95, 32, 101, 32, 109, 32, 46, 46, 46, 41, 32, 40, 108, 101, 116, 32, 40, 40, 116, 32, 101, 41, 41, 32, 40, 105, 102, 32, 116, 32, 116, 32, 40, 111, 114, 32, 109, 32, 46, 46, 46, 41, 41, 41, 41, 41, 41],
  mkS [40, 100, 101, 102, 105, 110, 101, 45, 115, 121, 110, 116, 97, 120, 32, 119, 104, 101, 110, 32, 40, 115, 121, 110, 116, 97, 120, 45, 114, 117, 108, 101, 115, 32, 40, 41, 32, 40, 40, 95, 32, 99, 32, 101, 32, 46, 46, 46, 41, 32, 40, 105, 102, 32, 99, 32, 40, 98, 101, 103, 105, 110, 32, 101, 32, 46, 46, 46, 41, 32, 35, 102, 41, 41, 41, 41],
  mkS [40, 100, 101, 102, 105, 110, 101, 45, 115, 121, 110, 116, 97, 120, 32, 99, 111, 110, 100, 32, 40, 115, 121, 110, 116, 97, 120, 45, 114, 117, 108, 101, 115, 32, 40, 101, 108, 115, 101, 41, 32, 40, 40, 95, 41, 32, 35, 102, 41, 32, 40, 40, 95, 32, 40, 101, 108, 115, 101, 32, 101, 32, 46, 46, 46, 41, 41, 32, 40, 98, 101, 103, 105, 110, 32, 101, 32, 46, 46, 46, 41, 41, 32, 40, 40, 95, 32, 40, 99, 32, 101, 32, 46, 46, 46, 41, 32, 109, 32, 46, 46, 46, 41, 32, 40, 105, 102, 32, 99, 32, 40, 98, 101, 103, 105, 110, 32, 101, 32, 46, 46, 46, 41, 32, 40, 99, 111, 110, 100, 32, 109, 32, 46, 46, 46, 41, 41, 41, 41, 41],
  mkS [40, 100, 101, 102, 105, 110, 101, 45, 115, 121, 110, 116, 97, 120, 32, 119, 104, 105, 108, 101, 32, 40, 115, 121, 110, 116, 97, 120, 45, 114, 117, 108, 101, 115, 32, 40, 41, 32, 40, 40, 95, 32, 99, 32, 98, 32, 46, 46, 46, 41, 32, 40, 108, 101, 116, 32, 40, 41, 32, 40, 100, 101, 102, 105, 110, 101, 32, 40, 108, 111, 111, 112, 41, 32, 40, 105, 102, 32, 99, 32, 40, 98, 101, 103, 105, 110, 32, 98, 32, 46, 46, 46, 32, 40, 108, 111, 111, 112, 41, 41, 32, 35, 102, 41, 41, 32, 40, 108, 111, 111, 112, 41, 41, 41, 41, 41],
  mkS [40, 100, 101, 102, 105, 110, 101, 45, 115, 121, 110, 116, 97, 120, 32, 115, 119, 97, 112, 33, 32, 40, 115, 121, 110, 116, 97, 120, 45, 114, 117, 108, 101, 115, 32, 40, 41, 32, 40, 40, 95, 32, 97, 32, 98, 41, 32, 40, 108, 101, 116, 32, 40, 40, 116, 109, 112, 32, 97, 41, 41, 32, 40, 115, 101, 116, 33, 32, 97, 32, 98, 41, 32, 40, 115, 101, 116, 33, 32, 98, 32, 116, 109, 112, 41, 41, 41, 41, 41],
  mkS []]
def nlS : ByteArray := mkS [10]
def baseT : ByteArray := mkS [40, 100, 101, 102, 105, 110, 101, 45, 115, 121, 110, 116, 97, 120, 32, 108, 101, 116, 32, 40, 115, 121, 110, 116, 97, 120, 45, 114, 117, 108, 101, 115, 32, 40, 41, 32, 40, 40, 95, 32, 40, 40, 120, 32, 101, 41, 32, 46, 46, 46, 41, 32, 98, 32, 46, 46, 46, 41, 32, 40, 40, 108, 97, 109, 98, 100, 97, 32, 40, 120, 32, 46, 46, 46, 41, 32, 98, 32, 46, 46, 46, 41, 32, 101, 32, 46, 46, 46, 41, 41, 41, 41, 10, 40, 100, 101, 102, 105, 110, 101, 45, 115, 121, 110, 116, 97, 120, 32, 108, 101, 116, 42, 32, 40, 115, 121, 110, 116, 97, 120, 45, 114, 117, 108, 101, 115, 32, 40, 41, 32, 40, 40, 95, 32, 40, 41, 32, 98, 32, 46, 46, 46, 41, 32, 40, 108, 101, 116, 32, 40, 41, 32, 98, 32, 46, 46, 46, 41, 41, 32, 40, 40, 95, 32, 40, 97, 32, 109, 32, 46, 46, 46, 41, 32, 98, 32, 46, 46, 46, 41, 32, 40, 108, 101, 116, 32, 40, 97, 41, 32, 40, 108, 101, 116, 42, 32, 40, 109, 32, 46, 46, 46, 41, 32, 98, 32, 46, 46, 46, 41, 41, 41, 41, 41, 10, 40, 100, 101, 102, 105, 110, 101, 45, 115, 121, 110, 116, 97, 120, 32, 108, 101, 116, 114, 101, 99, 32, 40, 115, 121, 110, 116, 97, 120, 45, 114, 117, 108, 101, 115, 32, 40, 41, 32, 40, 40, 95, 32, 40, 40, 120, 32, 101, 41, 32, 46, 46, 46, 41, 32, 98, 32, 46, 46, 46, 41, 32, 40, 108, 101, 116, 32, 40, 41, 32, 40, 100, 101, 102, 105, 110, 101, 32, 120, 32, 101, 41, 32, 46, 46, 46, 32, 40, 108, 101, 116, 32, 40, 41, 32, 98, 32, 46, 46, 46, 41, 41, 41, 41, 41, 10, 40, 100, 101, 102, 105, 110, 101, 45, 115, 121, 110, 116, 97, 120, 32, 97, 110, 100, 32, 40, 115, 121, 110, 116, 97, 120, 45, 114, 117, 108, 101, 115, 32, 40, 41, 32, 40, 40, 95, 41, 32, 35, 116, 41, 32, 40, 40, 95, 32, 101, 41, 32, 101, 41, 32, 40, 40, 95, 32, 101, 32, 109, 32, 46, 46, 46, 41, 32, 40, 105, 102, 32, 101, 32, 40, 97, 110, 100, 32, 109, 32, 46, 46, 46, 41, 32, 35, 102, 41, 41, 41, 41, 10, 40, 100, 101, 102, 105, 110, 101, 45, 115, 121, 110, 116, 97, 120, 32, 111, 114, 32, 40, 115, 121, 110, 116, 97, 120, 45, 114, 117, 108, 101, 115, 32, 40, 41, 32, 40, 40, 95, 41, 32, 35, 102, 41, 32, 40, 40, 95, 32, 101, 41, 32, 101, 41, 32, 40, 40, 95, 32, 101, 32, 109, 32, 46, 46, 46, 41, 32, 40, 108, 101, 116, 32, 40, 40, 116, 32, 101, 41, 41, 32, 40, 105, 102, 32, 116, 32, 116, 32, 40, 111, 114, 32, 109, 32, 46, 46, 46, 41, 41, 41, 41, 41, 41, 10, 40, 100, 101, 102, 105, 110, 101, 45, 115, 121, 110, 116, 97, 120, 32, 119, 104, 101, 110, 32, 40, 115, 121, 110, 116, 97, 120, 45, 114, 117, 108, 101, 115, 32, 40, 41, 32, 40, 40, 95, 32, 99, 32, 101, 32, 46, 46, 46, 41, 32, 40, 105, 102, 32, 99, 32, 40, 98, 101, 103, 105, 110, 32, 101, 32, 46, 46, 46, 41, 32, 35, 102, 41, 41, 41, 41, 10, 40, 100, 101, 102, 105, 110, 101, 45, 115, 121, 110, 116, 97, 120, 32, 99, 111, 110, 100, 32, 40, 115, 121, 110, 116, 97, 120, 45, 114, 117, 108, 101, 115, 32, 40, 101, 108, 115, 101, 41, 32, 40, 40, 95, 41, 32, 35, 102, 41, 32, 40, 40, 95, 32, 40, 101, 108, 115, 101, 32, 101, 32, 46, 46, 46, 41, 41, 32, 40, 98, 101, 103, 105, 110, 32, 101, 32, 46, 46, 46, 41, 41, 32, 40, 40, 95, 32, 40, 99, 32, 101, 32, 46, 46, 46, 41, 32, 109, 32, 46, 46, 46, 41, 32, 40, 105, 102, 32, 99, 32, 40, 98, 101, 103, 105, 110, 32, 101, 32, 46, 46, 46, 41, 32, 40, 99, 111, 110, 100, 32, 109, 32, 46, 46, 46, 41, 41, 41, 41, 41, 10, 40, 100, 101, 102, 105, 110, 101, 45, 115, 121, 110, 116, 97, 120, 32, 119, 104, 105, 108, 101, 32, 40, 115, 121, 110, 116, 97, 120, 45, 114, 117, 108, 101, 115, 32, 40, 41, 32, 40, 40, 95, 32, 99, 32, 98, 32, 46, 46, 46, 41, 32, 40, 108, 101, 116, 32, 40, 41, 32, 40, 100, 101, 102, 105, 110, 101, 32, 40, 108, 111, 111, 112, 41, 32, 40, 105, 102, 32, 99, 32, 40, 98, 101, 103, 105, 110, 32, 98, 32, 46, 46, 46, 32, 40, 108, 111, 111, 112, 41, 41, 32, 35, 102, 41, 41, 32, 40, 108, 111, 111, 112, 41, 41, 41, 41, 41, 10, 40, 100, 101, 102, 105, 110, 101, 45, 115, 121, 110, 116, 97, 120, 32, 115, 119, 97, 112, 33, 32, 40, 115, 121, 110, 116, 97, 120, 45, 114, 117, 108, 101, 115, 32, 40, 41, 32, 40, 40, 95, 32, 97, 32, 98, 41, 32, 40, 108, 101, 116, 32, 40, 40, 116, 109, 112, 32, 97, 41, 41, 32, 40, 115, 101, 116, 33, 32, 97, 32, 98, 41, 32, 40, 115, 101, 116, 33, 32, 98, 32, 116, 109, 112, 41, 41, 41, 41, 41, 10]
theorem base_join : joinS baseL nlS = baseT := by kernel_rfl
abbrev P_c_joinB : Ct := ⟨50, [], [ll (baseL.map strC), ls nlS], [], .sv (ls baseT)⟩
theorem c_joinB : OK P_c_joinB := by
  have h : CallOK Tryz.prog 50 [] [ll (baseL.map strC), ls nlS] [] (.sv (ls baseT)) := by
    rw [← base_join]; exact c_join baseL nlS (by decide) (by decide +kernel)
  exact h
abbrev P_c_sBase  : Ct := ⟨17, [], [], [], .sv (ls baseT)⟩
theorem c_sBase   : P_c_sBase := fnOK Tryz.call17 Tryz.func17 (.s (ls (ByteArray.mk #[(40 : UInt8), (100 : UInt8), (101 : UInt8), (102 : UInt8), (105 : UInt8), (110 : UInt8), (101 :
 UInt8), (45 : UInt8), (115 : UInt8), (121 : UInt8), (110 : UInt8), (116 : UInt8), (97 : UInt8), (120 : UInt8), (32 : UInt8), (108 : UInt8), (101 : UInt8), (116 : UInt8), (32 :
 UInt8), (40 : UInt8), (115 : UInt8), (121 : UInt8), (110 : UInt8), (116 : UInt8), (97 : UInt8), (120 : UInt8), (45 : UInt8), (114 : UInt8), (117 : UInt8), (108 : UInt8), (101 :
 UInt8), (115 : UInt8), (32 : UInt8), (40 : UInt8), (41 : UInt8), (32 : UInt8), (40 : UInt8), (40 : UInt8), (95 : UInt8), (32 : UInt8), (40 : UInt8), (40 : UInt8), (120 : UInt8),
 (32 : UInt8), (101 : UInt8), (41 : UInt8), (32 : UInt8), (46 : UInt8), (46 : UInt8), (46 : UInt8), (41 : UInt8), (32 : UInt8), (98 : UInt8), (32 : UInt8), (46 : UInt8), (46 :
 UInt8), (46 : UInt8), (41 : UInt8), (32 : UInt8), (40 : UInt8), (40 : UInt8), (108 : UInt8), (97 : UInt8), (109 : UInt8), (98 : UInt8), (100 : UInt8), (97 : UInt8), (32 : UInt8),
 (40 : UInt8), (120 : UInt8), (32 : UInt8), (46 : UInt8), (46 : UInt8), (46 : UInt8), (41 : UInt8), (32 : UInt8), (98 : UInt8), (32 : UInt8), (46 : UInt8), (46 : UInt8), (46 :
 UInt8), (41 : UInt8), (32 : UInt8), (101 : UInt8), (32 : UInt8), (46 : UInt8), (46 : UInt8), (46 : UInt8), (41 : UInt8), (41 : UInt8), (41 : UInt8), (41 : UInt8), (10 : UInt8),
 (40 : UInt8), (100 : UInt8), (101 : UInt8), (102 : UInt8), (105 : UInt8), (110 : UInt8), (101 : UInt8), (45 : UInt8), (115 : UInt8), (121 : UInt8), (110 : UInt8), (116 : UInt8),
 (97 : UInt8), (120 : UInt8), (32 : UInt8), (108 : UInt8), (101 : UInt8), (116 : UInt8), (42 : UInt8), (32 : UInt8), (40 : UInt8), (115 : UInt8), (121 : UInt8), (110 : UInt8), (116
 : UInt8), (97 : UInt8), (120 : UInt8), (45 : UInt8), (114 : UInt8), (117 : UInt8), (108 : UInt8), (101 : UInt8), (115 : UInt8), (32 : UInt8), (40 : UInt8), (41 : UInt8), (32 :
 UInt8), (40 : UInt8), (40 : UInt8), (95 : UInt8), (32 : UInt8), (40 : UInt8), (41 : UInt8), (32 : UInt8), (98 : UInt8), (32 : UInt8), (46 : UInt8), (46 : UInt8), (46 : UInt8), (41
 : UInt8), (32 : UInt8), (40 : UInt8), (108 : UInt8), (101 : UInt8), (116 : UInt8), (32 : UInt8), (40 : UInt8), (41 : UInt8), (32 : UInt8), (98 : UInt8), (32 : UInt8), (46 :
 UInt8), (46 : UInt8), (46 : UInt8), (41 : UInt8), (41 : UInt8), (32 : UInt8), (40 : UInt8), (40 : UInt8), (95 : UInt8), (32 : UInt8), (40 : UInt8), (97 : UInt8), (32 : UInt8),
 (109 : UInt8), (32 : UInt8), (46 : UInt8), (46 : UInt8), (46 : UInt8), (41 : UInt8), (32 : UInt8), (98 : UInt8), (32 : UInt8), (46 : UInt8), (46 : UInt8), (46 : UInt8), (41 :
 UInt8), (32 : UInt8), (40 : UInt8), (108 : UInt8), (101 : UInt8), (116 : UInt8), (32 : UInt8), (40 : UInt8), (97 : UInt8), (41 : UInt8), (32 : UInt8), (40 : UInt8), (108 : UInt8),
 (101 : UInt8), (116 : UInt8), (42 : UInt8), (32 : UInt8), (40 : UInt8), (109 : UInt8), (32 : UInt8), (46 : UInt8), (46 : UInt8), (46 : UInt8), (41 : UInt8), (32 : UInt8), (98 :
 UInt8), (32 : UInt8), (46 : UInt8), (46 : UInt8), (46 : UInt8), (41 : UInt8), (41 : UInt8), (41 : UInt8), (41 : UInt8), (41 : UInt8), (10 : UInt8), (40 : UInt8), (100 : UInt8),
 (101 : UInt8), (102 : UInt8), (105 : UInt8), (110 : UInt8), (101 : UInt8), (45 : UInt8), (115 : UInt8), (121 : UInt8), (110 : UInt8), (116 : UInt8), (97 : UInt8), (120 : UInt8),
 (32 : UInt8), (108 : UInt8), (101 : UInt8), (116 : UInt8), (114 : UInt8), (101 : UInt8), (99 : UInt8), (32 : UInt8), (40 : UInt8), (115 : UInt8), (121 : UInt8), (110 : UInt8),
 (116 : UInt8), (97 : UInt8), (120 : UInt8), (45 : UInt8), (114 : UInt8), (117 : UInt8), (108 : UInt8), (101 : UInt8), (115 : UInt8), (32 : UInt8), (40 : UInt8), (41 : UInt8), (32
 : UInt8), (40 : UInt8), (40 : UInt8), (95 : UInt8), (32 : UInt8), (40 : UInt8), (40 : UInt8), (120 : UInt8), (32 : UInt8), (101 : UInt8), (41 : UInt8), (32 : UInt8), (46 : UInt8),
 (46 : UInt8), (46 : UInt8), (41 : UInt8), (32 : UInt8), (98 : UInt8), (32 : UInt8), (46 : UInt8), (46 : UInt8), (46 : UInt8), (41 : UInt8), (32 : UInt8), (40 : UInt8), (108 :
 UInt8), (101 : UInt8), (116 : UInt8), (32 : UInt8), (40 : UInt8), (41 : UInt8), (32 : UInt8), (40 : UInt8), (100 : UInt8), (101 : UInt8), (102 : UInt8), (105 : UInt8), (110 :
 UInt8), (101 : UInt8), (32 : UInt8), (120 : UInt8), (32 : UInt8), (101 : UInt8), (41 : UInt8), (32 : UInt8), (46 : UInt8), (46 : UInt8), (46 : UInt8), (32 : UInt8), (40 : UInt8),
 (108 : UInt8), (101 : UInt8), (116 : UInt8), (32 : UInt8), (40 : UInt8), (41 : UInt8), (32 : UInt8), (98 : UInt8), (32 : UInt8), (46 : UInt8), (46 : UInt8), (46 : UInt8), (41 :
 UInt8), (41 : UInt8), (41 : UInt8), (41 : UInt8), (41 : UInt8), (10 : UInt8), (40 : UInt8), (100 : UInt8), (101 : UInt8), (102 : UInt8), (105 : UInt8), (110 : UInt8), (101 :
 UInt8), (45 : UInt8), (115 : UInt8), (121 : UInt8), (110 : UInt8), (116 : UInt8), (97 : UInt8), (120 : UInt8), (32 : UInt8), (97 : UInt8), (110 : UInt8), (100 : UInt8), (32 :
 UInt8), (40 : UInt8), (115 : UInt8), (121 : UInt8), (110 : UInt8), (116 : UInt8), (97 : UInt8), (120 : UInt8), (45 : UInt8), (114 : UInt8), (117 : UInt8), (108 : UInt8), (101 :
 UInt8), (115 : UInt8), (32 : UInt8), (40 : UInt8), (41 : UInt8), (32 : UInt8), (40 : UInt8), (40 : UInt8), (95 : UInt8), (41 : UInt8), (32 : UInt8), (35 : UInt8), (116 : UInt8),
 (41 : UInt8), (32 : UInt8), (40 : UInt8), (40 : UInt8), (95 : UInt8), (32 : UInt8), (101 : UInt8), (41 : UInt8), (32 : UInt8), (101 : UInt8), (41 : UInt8), (32 : UInt8), (40 :
 UInt8), (40 : UInt8), (95 : UInt8), (32 : UInt8), (101 : UInt8), (32 : UInt8), (109 : UInt8), (32 : UInt8), (46 : UInt8), (46 : UInt8), (46 : UInt8), (41 : UInt8), (32 : UInt8),
 (40 : UInt8), (105 : UInt8), (102 : UInt8), (32 : UInt8), (101 : UInt8), (32 : UInt8), (40 : UInt8), (97 : UInt8), (110 : UInt8), (100 : UInt8), (32 : UInt8), (109 : UInt8), (32 :
 UInt8), (46 : UInt8), (46 : UInt8), (46 : UInt8), (41 : UInt8), (32 : UInt8), (35 : UInt8), (102 : UInt8), (41 : UInt8), (41 : UInt8), (41 : UInt8), (41 : UInt8), (10 : UInt8),
 (40 : UInt8), (100 : UInt8), (101 : UInt8), (102 : UInt8), (105 : UInt8), (110 : UInt8), (101 : UInt8), (45 : UInt8), (115 : UInt8), (121 : UInt8), (110 : UInt8), (116 : UInt8),
 (97 : UInt8), (120 : UInt8), (32 : UInt8), (111 : UInt8), (114 : UInt8), (32 : UInt8), (40 : UInt8), (115 : UInt8), (121 : UInt8), (110 : UInt8), (116 : UInt8), (97 : UInt8), (120
 : UInt8), (45 : UInt8), (114 : UInt8), (117 : UInt8), (108 : UInt8), (101 : UInt8), (115 : UInt8), (32 : UInt8), (40 : UInt8), (41 : UInt8), (32 : UInt8), (40 : UInt8), (40 :
 UInt8), (95 : UInt8), (41 : UInt8), (32 : UInt8), (35 : UInt8), (102 : UInt8), (41 : UInt8), (32 : UInt8), (40 : UInt8), (40 : UInt8), (95 : UInt8), (32 : UInt8), (101 : UInt8),
 (41 : UInt8), (32 : UInt8), (101 : UInt8), (41 : UInt8), (32 : UInt8), (40 : UInt8), (40 : UInt8), (95 : UInt8), (32 : UInt8), (101 : UInt8), (32 : UInt8), (109 : UInt8), (32 :
 UInt8), (46 : UInt8), (46 : UInt8), (46 : UInt8), (41 : UInt8), (32 : UInt8), (40 : UInt8), (108 : UInt8), (101 : UInt8), (116 : UInt8), (32 : UInt8), (40 : UInt8), (40 : UInt8),
 (116 : UInt8), (32 : UInt8), (101 : UInt8), (41 : UInt8), (41 : UInt8), (32 : UInt8), (40 : UInt8), (105 : UInt8), (102 : UInt8), (32 : UInt8), (116 : UInt8), (32 : UInt8), (116 :
 UInt8), (32 : UInt8), (40 : UInt8), (111 : UInt8), (114 : UInt8), (32 : UInt8), (109 : UInt8), (32 : UInt8), (46 : UInt8), (46 : UInt8), (46 : UInt8), (41 : UInt8), (41 : UInt8),
 (41 : UInt8), (41 : UInt8), (41 : UInt8), (41 : UInt8), (10 : UInt8), (40 : UInt8), (100 : UInt8), (101 : UInt8), (102 : UInt8), (105 : UInt8), (110 : UInt8), (101 : UInt8), (45 :
 UInt8), (115 : UInt8), (121 : UInt8), (110 : UInt8), (116 : UInt8), (97 : UInt8), (120 : UInt8), (32 : UInt8), (119 : UInt8), (104 : UInt8), (101 : UInt8), (110 : UInt8), (32 :
 UInt8), (40 : UInt8), (115 : UInt8), (121 : UInt8), (110 : UInt8), (116 : UInt8), (97 : UInt8), (120 : UInt8), (45 : UInt8), (114 : UInt8), (117 : UInt8), (108 : UInt8), (101 :
 UInt8), (115 : UInt8), (32 : UInt8), (40 : UInt8), (41 : UInt8), (32 : UInt8), (40 : UInt8), (40 : UInt8), (95 : UInt8), (32 : UInt8), (99 : UInt8), (32 : UInt8), (101 : UInt8),
 (32 : UInt8), (46 : UInt8), (46 : UInt8), (46 : UInt8), (41 : UInt8), (32 : UInt8), (40 : UInt8), (105 : UInt8), (102 : UInt8), (32 : UInt8), (99 : UInt8), (32 : UInt8), (40 :
 UInt8), (98 : UInt8), (101 : UInt8), (103 : UInt8), (105 : UInt8), (110 : UInt8), (32 : UInt8), (101 : UInt8), (32 : UInt8), (46 : UInt8), (46 : UInt8), (46 : UInt8), (41 :
 UInt8), (32 : UInt8), (35 : UInt8), (102 : UInt8), (41 : UInt8), (41 : UInt8), (41 : UInt8), (41 : UInt8), (10 : UInt8), (40 : UInt8), (100 : UInt8), (101 : UInt8), (102 : UInt8),
 (105 : UInt8), (110 : UInt8), (101 : UInt8), (45 : UInt8), (115 : UInt8), (121 : UInt8), (110 : UInt8), (116 : UInt8), (97 : UInt8), (120 : UInt8), (32 : UInt8), (99 : UInt8),
 (111 : UInt8), (110 : UInt8), (100 : UInt8), (32 : UInt8), (40 : UInt8), (115 : UInt8), (121 : UInt8), (110 : UInt8), (116 : UInt8), (97 : UInt8), (120 : UInt8), (45 : UInt8),
 (114 : UInt8), (117 : UInt8), (108 : UInt8), (101 : UInt8), (115 : UInt8), (32 : UInt8), (40 : UInt8), (101 : UInt8), (108 : UInt8), (115 : UInt8), (101 : UInt8), (41 : UInt8),
 (32 : UInt8), (40 : UInt8), (40 : UInt8), (95 : UInt8), (41 : UInt8), (32 : UInt8), (35 : UInt8), (102 : UInt8), (41 : UInt8), (32 : UInt8), (40 : UInt8), (40 : UInt8), (95 :
 UInt8), (32 : UInt8), (40 : UInt8), (101 : UInt8), (108 : UInt8), (115 : UInt8), (101 : UInt8), (32 : UInt8), (101 : UInt8), (32 : UInt8), (46 : UInt8), (46 : UInt8), (46 :
 UInt8), (41 : UInt8), (41 : UInt8), (32 : UInt8), (40 : UInt8), (98 : UInt8), (101 : UInt8), (103 : UInt8), (105 : UInt8), (110 : UInt8), (32 : UInt8), (101 : UInt8), (32 :
 UInt8), (46 : UInt8), (46 : UInt8), (46 : UInt8), (41 : UInt8), (41 : UInt8), (32 : UInt8), (40 : UInt8), (40 : UInt8), (95 : UInt8), (32 : UInt8), (40 : UInt8), (99 : UInt8), (32
 : UInt8), (101 : UInt8), (32 : UInt8), (46 : UInt8), (46 : UInt8), (46 : UInt8), (41 : UInt8), (32 : UInt8), (109 : UInt8), (32 : UInt8), (46 : UInt8), (46 : UInt8), (46 : UInt8),
 (41 : UInt8), (32 : UInt8), (40 : UInt8), (105 : UInt8), (102 : UInt8), (32 : UInt8), (99 : UInt8), (32 : UInt8), (40 : UInt8), (98 : UInt8), (101 : UInt8), (103 : UInt8), (105 :
 UInt8), (110 : UInt8), (32 : UInt8), (101 : UInt8), (32 : UInt8), (46 : UInt8), (46 : UInt8), (46 : UInt8), (41 : UInt8), (32 : UInt8), (40 : UInt8), (99 : UInt8), (111 : UInt8),
 (110 : UInt8), (100 : UInt8), (32 : UInt8), (109 : UInt8), (32 : UInt8), (46 : UInt8), (46 : UInt8), (46 : UInt8), (41 : UInt8), (41 : UInt8), (41 : UInt8), (41 : UInt8), (41 :
 UInt8), (10 : UInt8), (40 : UInt8), (100 : UInt8), (101 : UInt8), (102 : UInt8), (105 : UInt8), (110 : UInt8), (101 : UInt8), (45 : UInt8), (115 : UInt8), (121 : UInt8), (110 :
 UInt8), (116 : UInt8), (97 : UInt8), (120 : UInt8), (32 : UInt8), (119 : UInt8), (104 : UInt8), (105 : UInt8), (108 : UInt8), (101 : UInt8), (32 : UInt8), (40 : UInt8), (115 :
 UInt8), (121 : UInt8), (110 : UInt8), (116 : UInt8), (97 : UInt8), (120 : UInt8), (45 : UInt8), (114 : UInt8), (117 : UInt8), (108 : UInt8), (101 : UInt8), (115 : UInt8), (32 :
 UInt8), (40 : UInt8), (41 : UInt8), (32 : UInt8), (40 : UInt8), (40 : UInt8), (95 : UInt8), (32 : UInt8), (99 : UInt8), (32 : UInt8), (98 : UInt8), (32 : UInt8), (46 : UInt8), (46
 : UInt8), (46 : UInt8), (41 : UInt8), (32 : UInt8), (40 : UInt8), (108 : UInt8), (101 : UInt8), (116 : UInt8), (32 : UInt8), (40 : UInt8), (41 : UInt8), (32 : UInt8), (40 :
 UInt8), (100 : UInt8), (101 : UInt8), (102 : UInt8), (105 : UInt8), (110 : UInt8), (101 : UInt8), (32 : UInt8), (40 : UInt8), (108 : UInt8), (111 : UInt8), (111 : UInt8), (112 :
 UInt8), (41 : UInt8), (32 : UInt8), (40 : UInt8), (105 : UInt8), (102 : UInt8), (32 : UInt8), (99 : UInt8), (32 : UInt8), (40 : UInt8), (98 : UInt8), (101 : UInt8), (103 : UInt8),
 (105 : UInt8), (110 : UInt8), (32 : UInt8), (98 : UInt8), (32 : UInt8), (46 : UInt8), (46 : UInt8), (46 : UInt8), (32 : UInt8), (40 : UInt8), (108 : UInt8), (111 : UInt8), (111 :
 UInt8), (112 : UInt8), (41 : UInt8), (41 : UInt8), (32 : UInt8), (35 : UInt8), (102 : UInt8), (41 : UInt8), (41 : UInt8), (32 : UInt8), (40 : UInt8), (108 : UInt8), (111 : UInt8),
 (111 : UInt8), (112 : UInt8), (41 : UInt8), (41 : UInt8), (41 : UInt8), (41 : UInt8), (41 : UInt8), (10 : UInt8), (40 : UInt8), (100 : UInt8), (101 : UInt8), (102 : UInt8), (105 :
 UInt8), (110 : UInt8), (101 : UInt8), (45 : UInt8), (115 : UInt8), (121 : UInt8), (110 : UInt8), (116 : UInt8), (97 : UInt8), (120 : UInt8), (32 : UInt8), (115 : UInt8), (119 :
 UInt8), (97 : UInt8), (112 : UInt8), (33 : UInt8), (32 : UInt8), (40 : UInt8), (115 : UInt8), (121 : UInt8), (110 : UInt8), (116 : UInt8), (97 : UInt8), (120 : UInt8), (45 :
 UInt8), (114 : UInt8), (117 : UInt8), (108 : UInt8), (101 : UInt8), (115 : UInt8), (32 : UInt8), (40 : UInt8), (41 : UInt8), (32 : UInt8), (40 : UInt8), (40 : UInt8), (95 :
 UInt8), (32 : UInt8), (97 : UInt8), (32 : UInt8), (98 : UInt8), (41 : UInt8), (32 : UInt8), (40 : UInt8), (108 : UInt8), (101 : UInt8), (116 : UInt8), (32 : UInt8), (40 : UInt8),
 (40 : UInt8), (116 : UInt8), (109 : UInt8), (112 : UInt8), (32 : UInt8), (97 : UInt8), (41 : UInt8), (41 : UInt8), (32 : UInt8), (40 : UInt8), (115 : UInt8), (101 : UInt8), (116 :
 UInt8), (33 : UInt8), (32 : UInt8), (97 : UInt8), (32 : UInt8), (98 : UInt8), (41 : UInt8), (32 : UInt8), (40 : UInt8), (115 : UInt8), (101 : UInt8), (116 : UInt8), (33 : UInt8),
 (32 : UInt8), (98 : UInt8), (32 : UInt8), (116 : UInt8), (109 : UInt8), (112 : UInt8), (41 : UInt8), (41 : UInt8), (41 : UInt8), (41 : UInt8), (41 : UInt8), (10 : UInt8)]))) (by
  dsimp only [teasy, P_c_sBase]
  with_reducible repeat' (first | apply And.intro | exact zR | (intro; skip))
  all_goals (try simp only [std, inj] at *)
  all_goals with_reducible repeat' apply And.intro
  all_goals (try (first | exact z | grind [snocI, snocS, rowSnoc]))
  all_goals rfl)
abbrev P_c_iBase  : Ct := ⟨22, [], [], [], .sv (ls baseT)⟩
theorem c_iBase   : P_c_iBase := fnOK Tryz.call22 Tryz.func22 (.c [.rd, .rd] c_joinB (.s (ls baseT))) (by
  dsimp only [teasy, P_c_iBase]
  with_reducible repeat' (first | apply And.intro | exact zR | (intro; skip) | apply c_joinB)
  all_goals (try simp only [std, inj] at *)
  all_goals with_reducible repeat' apply And.intro
  all_goals (try (first | with_reducible apply c_joinB | (simp only [← List.map_append]; first | with_reducible apply c_joinB)))
  all_goals (try (first | exact z | grind [snocI, snocS, rowSnoc])))
end Go.Proofs.YtjgbkigdnjalkaaGreatDoor
end
section
namespace Go.Proofs.YtjgbkigdnjalkaaGreatDoor
open Go Go.Proofs.YtjgbkigdnjalkaaGreatDoor.Ab
set_option linter.unusedVariables false
def lD (l : List Datum) : Datum := ⟨0, 0, mkS [], l⟩
def bD (n : Int) : Datum := ⟨3, n, mkS [], []⟩
def sD (l : List UInt8) : Datum := ⟨1, 0, mkS l, []⟩
def bw0 : Datum := sD [100, 101, 102, 105, 110, 101, 45, 115, 121, 110, 116, 97, 120]
def bw1 : Datum := sD [108, 101, 116]
def bw2 : Datum := sD [115, 121, 110, 116, 97, 120, 45, 114, 117, 108, 101, 115]
def bw3 : Datum := sD [95]
def bw4 : Datum := sD [120]
def bw5 : Datum := sD [101]
def bw6 : Datum := sD [46, 46, 46]
def bw7 : Datum := sD [98]
def bw8 : Datum := sD [108, 97, 109, 98, 100, 97]
def bw9 : Datum := sD [108, 101, 116, 42]
def bw10 : Datum := sD [97]
def bw11 : Datum := sD [109]
def bw12 : Datum := sD [108, 101, 116, 114, 101, 99]
def bw13 : Datum := sD [100, 101, 102, 105, 110, 101]
def bw14 : Datum := sD [97, 110, 100]
def bw15 : Datum := sD [105, 102]
def bw16 : Datum := sD [111, 114]
def bw17 : Datum := sD [116]
def bw18 : Datum := sD [119, 104, 101, 110]
def bw19 : Datum := sD [99]
def bw20 : Datum := sD [98, 101, 103, 105, 110]
def bw21 : Datum := sD [99, 111, 110, 100]
def bw22 : Datum := sD [101, 108, 115, 101]
def bw23 : Datum := sD [119, 104, 105, 108, 101]
def bw24 : Datum := sD [108, 111, 111, 112]
def bw25 : Datum := sD [115, 119, 97, 112, 33]
def bw26 : Datum := sD [116, 109, 112]
def bw27 : Datum := sD [115, 101, 116, 33]
def basD : List Datum :=
  [lD [bw0, bw1, lD [bw2, lD [], lD [lD [bw3, lD [lD [bw4, bw5], bw6], bw7, bw6], lD [lD [bw8, lD [bw4, bw6], bw7, bw6], bw5, bw6]]]],
   lD [bw0, bw9, lD [bw2, lD [], lD [lD [bw3, lD [], bw7, bw6], lD [bw1, lD [], bw7, bw6]], lD [lD [bw3, lD [bw10, bw11, bw6], bw7, bw6], lD [bw1, lD [bw10], lD [bw9, lD [bw11, bw6], bw7, bw6]]]]],
   lD [bw0, bw12, lD [bw2, lD [], lD [lD [bw3, lD [lD [bw4, bw5], bw6], bw7, bw6], lD [bw1, lD [], lD [bw13, bw4, bw5], bw6, lD [bw1, lD [], bw7, bw6]]]]],
   lD [bw0, bw14, lD [bw2, lD [], lD [lD [bw3], bD 1], lD [lD [bw3, bw5], bw5], lD [lD [bw3, bw5, bw11, bw6], lD [bw15, bw5, lD [bw14, bw11, bw6], bD 0]]]],
   lD [bw0, bw16, lD [bw2, lD [], lD [lD [bw3], bD 0], lD [lD [bw3, bw5], bw5], lD [lD [bw3, bw5, bw11, bw6], lD [bw1, lD [lD [bw17, bw5]], lD [bw15, bw17, bw17, lD [bw16, bw11, bw6]]]]]],
   lD [bw0, bw18, lD [bw2, lD [], lD [lD [bw3, bw19, bw5, bw6], lD [bw15, bw19, lD [bw20, bw5, bw6], bD 0]]]],
   lD [bw0, bw21, lD [bw2, lD [bw22], lD [lD [bw3], bD 0], lD [lD [bw3, lD [bw22, bw5, bw6]], lD [bw20, bw5, bw6]], lD [lD [bw3, lD [bw19, bw5, bw6], bw11, bw6], lD [bw15, bw19, lD [bw20, bw5, bw6], lD [bw21, bw11, bw6]]]]],
   lD [bw0, bw23, lD [bw2, lD [], lD [lD [bw3, bw19, bw7, bw6], lD [bw1, lD [], lD [bw13, lD [bw24], lD [bw15, bw19, lD [bw20, bw7, bw6, lD [bw24]], bD 0]], lD [bw24]]]]],
   lD [bw0, bw25, lD [bw2, lD [], lD [lD [bw3, bw10, bw7], lD [bw1, lD [lD [bw26, bw10]], lD [bw27, bw10, bw7], lD [bw27, bw7, bw26]]]]]]
theorem bas_rd : rdsB basD baseT = true := by decide +kernel
end Go.Proofs.YtjgbkigdnjalkaaGreatDoor
end
section
namespace Go.Proofs.YtjgbkigdnjalkaaGreatDoor
open Go Go.Shelf Go.RowKit Go.Proofs.YtjgbkigdnjalkaaGreatDoor.Ab
set_option linter.unusedVariables false
def itoRen : Go.Shelf.Ren := ⟨fun | 171 => 182 | 243 => 189 | 246 => 193 | 283 => 196 | 284 => 197 | 285 => 198 | 286 => 199 | 129 => 201 | 317 => 200 | 318 => 202 | 319 => 203 | 320 => 204 | 337 => 205 | 338 => 206 | n => n, fun | 3 => 3 | 9 => 9 | 2 => 2 | 4 => 4 | 171 => 198 | 0 => 0 | 53 => 185 | 37 => 123 | 5 => 5 | 173 => 201 | 212 => 204 | 51 => 205 | 20 => 20 | 213 => 206 | 46 => 188 | 232 => 210 | 233 => 211 | n => n, fun | 17 => 3 | 18 => 4 | 19 => 5 | n => n⟩
theorem itoLays : Go.Proofs.LaysM.n171 Tryz.prog itoRen := {
  mixed := by kernel_rfl
  f129 := Tryz.func201.trans (congrArg some (by kernel_rfl))
  f171 := Tryz.func182.trans (congrArg some (by kernel_rfl))
  f243 := Tryz.func189.trans (congrArg some (by kernel_rfl))
  f246 := Tryz.func193.trans (congrArg some (by kernel_rfl))
  f283 := Tryz.func196.trans (congrArg some (by kernel_rfl))
  f284 := Tryz.func197.trans (congrArg some (by kernel_rfl))
  f285 := Tryz.func198.trans (congrArg some (by kernel_rfl))
  f286 := Tryz.func199.trans (congrArg some (by kernel_rfl))
  f317 := Tryz.func200.trans (congrArg some (by kernel_rfl))
  f318 := Tryz.func202.trans (congrArg some (by kernel_rfl))
  f319 := Tryz.func203.trans (congrArg some (by kernel_rfl))
  f320 := Tryz.func204.trans (congrArg some (by kernel_rfl))
  f337 := Tryz.func205.trans (congrArg some (by kernel_rfl))
  f338 := Tryz.func206.trans (congrArg some (by kernel_rfl))
  t0 := Tryz.underlying0
  a0 := Tryz.isAgg0
  z0 := Tryz.sizeOf0
  v0 := Tryz.zeroValue0
  t2 := Tryz.underlying2
  a2 := Tryz.isAgg2
  z2 := Tryz.sizeOf2
  v2 := Tryz.zeroValue2
  t3 := Tryz.underlying3
  a3 := Tryz.isAgg3
  z3 := Tryz.sizeOf3
  v3 := Tryz.zeroValue3
  t4 := Tryz.underlying4
  a4 := Tryz.isAgg4
  z4 := Tryz.sizeOf4
  v4 := Tryz.zeroValue4
  t5 := Tryz.underlying5
  a5 := Tryz.isAgg5
  z5 := Tryz.sizeOf5
  v5 := Tryz.zeroValue5
  t9 := Tryz.underlying9
  a9 := Tryz.isAgg9
  z9 := Tryz.sizeOf9
  v9 := Tryz.zeroValue9
  t20 := Tryz.underlying20
  a20 := Tryz.isAgg20
  z20 := Tryz.sizeOf20
  v20 := Tryz.zeroValue20
  t37 := Tryz.underlying123
  a37 := Tryz.isAgg123
  z37 := Tryz.sizeOf123
  v37 := Tryz.zeroValue123
  t46 := Tryz.underlying188
  a46 := Tryz.isAgg188
  z46 := Tryz.sizeOf188
  v46 := Tryz.zeroValue188
  t51 := Tryz.underlying205
  a51 := Tryz.isAgg205
  z51 := Tryz.sizeOf205
  v51 := Tryz.zeroValue205
  t53 := Tryz.underlying185
  a53 := Tryz.isAgg185
  z53 := Tryz.sizeOf185
  v53 := Tryz.zeroValue185
  t171 := Tryz.underlying198
  a171 := Tryz.isAgg198
  z171 := Tryz.sizeOf198
  v171 := Tryz.zeroValue198
  t173 := Tryz.underlying201
  a173 := Tryz.isAgg201
  z173 := Tryz.sizeOf201
  v173 := Tryz.zeroValue201
  t212 := Tryz.underlying204
  a212 := Tryz.isAgg204
  z212 := Tryz.sizeOf204
  v212 := Tryz.zeroValue204
  t213 := Tryz.underlying206
  a213 := Tryz.isAgg206
  z213 := Tryz.sizeOf206
  t232 := Tryz.underlying210
  a232 := Tryz.isAgg210
  z232 := Tryz.sizeOf210
  v232 := Tryz.zeroValue210
  t233 := Tryz.underlying211
  a233 := Tryz.isAgg211
  z233 := Tryz.sizeOf211
  v233 := Tryz.zeroValue211
  g17 := by kernel_rfl
  g18 := by kernel_rfl
  g19 := by kernel_rfl
  i0 := by kernel_rfl
  i2 := by kernel_rfl
  i3 := by kernel_rfl
  i4 := by kernel_rfl
  i5 := by kernel_rfl
  i9 := by kernel_rfl
  i20 := by kernel_rfl
  i37 := by kernel_rfl
  i46 := by kernel_rfl
  i51 := by kernel_rfl
  i53 := by kernel_rfl
  i171 := by kernel_rfl
  i173 := by kernel_rfl
  i212 := by kernel_rfl
  i232 := by kernel_rfl
  i233 := by kernel_rfl
  m17 := by kernel_rfl
  m18 := by kernel_rfl
  m19 := by kernel_rfl }
theorem post_below {w w' : Go.World} {ι : Interp} {args : List SV} {vals : Array Value} {v : Value} {res : AV} (hp : PreRel w ι [] args vals) (hb : Below w.heap.size w w') (hv : AVRel w' ι (obOf []) res v) : PostRel w ι [] [] res w' v ι :=
  { ext := fun j => trivial
    obj := fun j => hp.obj j
    disj := hp.disj
    gfp := hp.gfp
    lt := fun i b h => absurd h (hp.obj i b)
    glt := fun b h => Nat.lt_of_lt_of_le (hp.glt b h) hb.size
    gg := fun _ h => h
    gown := fun _ h => .inl h
    own := fun j b h => absurd h (hp.obj j b)
    frame := fun b h _ => hb.block b h
    size := hb.size
    os := hb.os
    out := hb.output
    val := hv }
end Go.Proofs.YtjgbkigdnjalkaaGreatDoor
end
section
namespace Go.Proofs.YtjgbkigdnjalkaaGreatDoor
open Go Go.Shelf Go.RowKit Go.Proofs.YtjgbkigdnjalkaaGreatDoor.Ab
set_option linter.unusedVariables false
def atoRen : Go.Shelf.Ren := ⟨fun | 172 => 163 | 244 => 180 | 245 => 181 | 247 => 184 | 279 => 185 | 280 => 186 | 281 => 187 | 282 => 188 | 287 => 190 | 316 => 191 | 171 => 182 | 205 => 192 | 321 => 194 | 322 => 195 | 243 => 189 | 246 => 193 | 283 => 196 | 284 => 197 | 285 => 198 | 286 => 199 | 129 => 201 | 317 => 200 | 318 => 202 | 319 => 203 | 320 => 204 | 337 => 205 | 338 => 206 | n => n, fun | 9 => 9 | 3 => 3 | 75 => 128 | 76 => 129 | 4 => 4 | 5 => 5 | 167 => 179 | 37 => 123 | 0 => 0 | 85 => 180 | 2 => 2 | 168 => 182 | 53 => 185 | 175 => 186 | 46 => 188 | 210 => 191 | 127 => 157 | 145 => 197 | 143 => 195 | 21 => 21 | 171 => 198 | 173 => 201 | 212 => 204 | 51 => 205 | 20 => 20 | 213 => 206 | 232 => 210 | 233 => 211 | 80 => 43 | n => n, fun | 15 => 1 | 16 => 2 | 17 => 3 | 18 => 4 | 19 => 5 | n => n⟩
theorem atoLays : Go.Proofs.LaysC.n172 Tryz.prog atoRen := {
  mixed := by kernel_rfl
  f129 := Tryz.func201.trans (congrArg some (by kernel_rfl))
  f171 := Tryz.func182.trans (congrArg some (by kernel_rfl))
  f172 := Tryz.func163.trans (congrArg some (by kernel_rfl))
  f205 := Tryz.func192.trans (congrArg some (by kernel_rfl))
  f243 := Tryz.func189.trans (congrArg some (by kernel_rfl))
  f244 := Tryz.func180.trans (congrArg some (by kernel_rfl))
  f245 := Tryz.func181.trans (congrArg some (by kernel_rfl))
  f246 := Tryz.func193.trans (congrArg some (by kernel_rfl))
  f247 := Tryz.func184.trans (congrArg some (by kernel_rfl))
  f279 := Tryz.func185.trans (congrArg some (by kernel_rfl))
  f280 := Tryz.func186.trans (congrArg some (by kernel_rfl))
  f281 := Tryz.func187.trans (congrArg some (by kernel_rfl))
  f282 := Tryz.func188.trans (congrArg some (by kernel_rfl))
  f283 := Tryz.func196.trans (congrArg some (by kernel_rfl))
  f284 := Tryz.func197.trans (congrArg some (by kernel_rfl))
  f285 := Tryz.func198.trans (congrArg some (by kernel_rfl))
  f286 := Tryz.func199.trans (congrArg some (by kernel_rfl))
  f287 := Tryz.func190.trans (congrArg some (by kernel_rfl))
  f316 := Tryz.func191.trans (congrArg some (by kernel_rfl))
  f317 := Tryz.func200.trans (congrArg some (by kernel_rfl))
  f318 := Tryz.func202.trans (congrArg some (by kernel_rfl))
  f319 := Tryz.func203.trans (congrArg some (by kernel_rfl))
  f320 := Tryz.func204.trans (congrArg some (by kernel_rfl))
  f321 := Tryz.func194.trans (congrArg some (by kernel_rfl))
  f322 := Tryz.func195.trans (congrArg some (by kernel_rfl))
  f337 := Tryz.func205.trans (congrArg some (by kernel_rfl))
  f338 := Tryz.func206.trans (congrArg some (by kernel_rfl))
  t0 := Tryz.underlying0
  a0 := Tryz.isAgg0
  z0 := Tryz.sizeOf0
  v0 := Tryz.zeroValue0
  t2 := Tryz.underlying2
  a2 := Tryz.isAgg2
  z2 := Tryz.sizeOf2
  v2 := Tryz.zeroValue2
  t3 := Tryz.underlying3
  a3 := Tryz.isAgg3
  z3 := Tryz.sizeOf3
  v3 := Tryz.zeroValue3
  t4 := Tryz.underlying4
  a4 := Tryz.isAgg4
  z4 := Tryz.sizeOf4
  v4 := Tryz.zeroValue4
  t5 := Tryz.underlying5
  a5 := Tryz.isAgg5
  z5 := Tryz.sizeOf5
  v5 := Tryz.zeroValue5
  t9 := Tryz.underlying9
  a9 := Tryz.isAgg9
  z9 := Tryz.sizeOf9
  v9 := Tryz.zeroValue9
  t20 := Tryz.underlying20
  a20 := Tryz.isAgg20
  z20 := Tryz.sizeOf20
  v20 := Tryz.zeroValue20
  t21 := Tryz.underlying21
  a21 := Tryz.isAgg21
  z21 := Tryz.sizeOf21
  v21 := Tryz.zeroValue21
  t37 := Tryz.underlying123
  a37 := Tryz.isAgg123
  z37 := Tryz.sizeOf123
  v37 := Tryz.zeroValue123
  t46 := Tryz.underlying188
  a46 := Tryz.isAgg188
  z46 := Tryz.sizeOf188
  v46 := Tryz.zeroValue188
  t51 := Tryz.underlying205
  a51 := Tryz.isAgg205
  z51 := Tryz.sizeOf205
  v51 := Tryz.zeroValue205
  t53 := Tryz.underlying185
  a53 := Tryz.isAgg185
  z53 := Tryz.sizeOf185
  v53 := Tryz.zeroValue185
  t75 := Tryz.underlying128
  a75 := Tryz.isAgg128
  z75 := Tryz.sizeOf128
  v75 := Tryz.zeroValue128
  t76 := Tryz.underlying129
  a76 := Tryz.isAgg129
  z76 := Tryz.sizeOf129
  v76 := Tryz.zeroValue129
  t85 := Tryz.underlying180
  a85 := Tryz.isAgg180
  z85 := Tryz.sizeOf180
  v85 := Tryz.zeroValue180
  t127 := Tryz.underlying157
  a127 := Tryz.isAgg157
  z127 := Tryz.sizeOf157
  v127 := Tryz.zeroValue157
  t143 := Tryz.underlying195
  a143 := Tryz.isAgg195
  z143 := Tryz.sizeOf195
  v143 := Tryz.zeroValue195
  t145 := Tryz.underlying197
  a145 := Tryz.isAgg197
  z145 := Tryz.sizeOf197
  v145 := Tryz.zeroValue197
  t167 := Tryz.underlying179
  a167 := Tryz.isAgg179
  z167 := Tryz.sizeOf179
  v167 := Tryz.zeroValue179
  t168 := Tryz.underlying182
  a168 := Tryz.isAgg182
  z168 := Tryz.sizeOf182
  v168 := Tryz.zeroValue182
  t171 := Tryz.underlying198
  a171 := Tryz.isAgg198
  z171 := Tryz.sizeOf198
  v171 := Tryz.zeroValue198
  t173 := Tryz.underlying201
  a173 := Tryz.isAgg201
  z173 := Tryz.sizeOf201
  v173 := Tryz.zeroValue201
  t175 := Tryz.underlying186
  a175 := Tryz.isAgg186
  z175 := Tryz.sizeOf186
  v175 := Tryz.zeroValue186
  t210 := Tryz.underlying191
  a210 := Tryz.isAgg191
  z210 := Tryz.sizeOf191
  v210 := Tryz.zeroValue191
  t212 := Tryz.underlying204
  a212 := Tryz.isAgg204
  z212 := Tryz.sizeOf204
  v212 := Tryz.zeroValue204
  t213 := Tryz.underlying206
  a213 := Tryz.isAgg206
  z213 := Tryz.sizeOf206
  t232 := Tryz.underlying210
  a232 := Tryz.isAgg210
  z232 := Tryz.sizeOf210
  v232 := Tryz.zeroValue210
  t233 := Tryz.underlying211
  a233 := Tryz.isAgg211
  z233 := Tryz.sizeOf211
  v233 := Tryz.zeroValue211
  g15 := by kernel_rfl
  g16 := by kernel_rfl
  g17 := by kernel_rfl
  g18 := by kernel_rfl
  g19 := by kernel_rfl
  t80 := Tryz.underlying43
  a80 := Tryz.isAgg43
  z80 := Tryz.sizeOf43
  v80 := Tryz.zeroValue43
  i0 := by kernel_rfl
  i2 := by kernel_rfl
  i3 := by kernel_rfl
  i4 := by kernel_rfl
  i5 := by kernel_rfl
  i9 := by kernel_rfl
  i20 := by kernel_rfl
  i21 := by kernel_rfl
  i37 := by kernel_rfl
  i46 := by kernel_rfl
  i51 := by kernel_rfl
  i53 := by kernel_rfl
  i75 := by kernel_rfl
  i76 := by kernel_rfl
  i80 := by kernel_rfl
  i85 := by kernel_rfl
  i127 := by kernel_rfl
  i143 := by kernel_rfl
  i145 := by kernel_rfl
  i167 := by kernel_rfl
  i168 := by kernel_rfl
  i171 := by kernel_rfl
  i173 := by kernel_rfl
  i175 := by kernel_rfl
  i210 := by kernel_rfl
  i212 := by kernel_rfl
  i232 := by kernel_rfl
  i233 := by kernel_rfl
  m15 := by kernel_rfl
  m16 := by kernel_rfl
  m17 := by kernel_rfl
  m18 := by kernel_rfl
  m19 := by kernel_rfl
  c0 := by kernel_rfl
  c2 := by kernel_rfl
  c3 := by kernel_rfl
  c4 := by kernel_rfl
  c5 := by kernel_rfl
  c9 := by kernel_rfl
  c20 := by kernel_rfl
  c21 := by kernel_rfl
  c37 := by kernel_rfl
  c46 := by kernel_rfl
  c51 := by kernel_rfl
  c53 := by kernel_rfl
  c75 := by kernel_rfl
  c76 := by kernel_rfl
  c80 := by kernel_rfl
  c85 := by kernel_rfl
  c127 := by kernel_rfl
  c143 := by kernel_rfl
  c145 := by kernel_rfl
  c167 := by kernel_rfl
  c168 := by kernel_rfl
  c171 := by kernel_rfl
  c173 := by kernel_rfl
  c175 := by kernel_rfl
  c210 := by kernel_rfl
  c212 := by kernel_rfl
  c213 := by kernel_rfl
  c232 := by kernel_rfl
  c233 := by kernel_rfl }
theorem kn_es {w : Go.World} {ι : Interp} (hk : Kn Tryz.prog w ι) : ∃ te pe, w.cell? ⟨1, 0, none⟩ = some (.iface te pe) := by
  have hg : Tryz.prog.globalNamed "strconv.ErrSyntax" = some 1 := by kernel_rfl
  obtain ⟨_, _, cs, hv, te, pe, rfl⟩ := hk.2 rfl 1 hg
  exact ⟨te, pe, by have h0 := World.var?_cell hg hv 0; simpa using h0⟩
abbrev TabW (w : Go.World) : Prop := ∀ w', Below w.heap.size w w' → Lib.TabIs Tryz.prog w' "internal/strconv.uint64pow10" .u64 Lib.pow10Tab
theorem kn_tabW {w : Go.World} {ι : Interp} (hk : Kn Tryz.prog w ι) : TabW w := fun w' hb => by
  have e : pow10N = "internal/strconv.uint64pow10" := by kernel_rfl
  rw [← e]
  cases hg : Tryz.prog.globalNamed pow10N with
  | none => have : (Tryz.prog.globalNamed pow10N).isSome = true := by kernel_rfl
            rw [hg] at this; cases this
  | some g => obtain ⟨hlt, _, cs, hv, rfl⟩ := hk.1 g hg; exact var?_below hb hg hlt hv
theorem fmt_calls (n : Int) (h0 : -9223372036854775808 ≤ n) (h1 : n ≤ 9223372036854775807) (w : Go.World) (htab : Lib.TabIs Tryz.prog w "internal/strconv.uint64pow10" .u64 Lib.pow10Tab) :
    Calls Tryz.prog 164 #[.int .i64 n] w fun e w' => e = .returned (.string ⟨(Lib.itoa n).toArray⟩) ∧ Below w.heap.size w w' := by
  go_enter Tryz.func164, Tryz.ntmps164
  go_wp2_with (go_at_call 182; refine (Any.strconv_Itoa itoLays n h0 h1 _ htab).mono ?_; rintro e w' ⟨rfl, k, os, rfl⟩)
  go_ret
  refine ⟨rfl, rfl, rfl, rfl, ?_, fun j hj => ?_⟩
  · show w.heap.size ≤ (w.heap ++ os).size
    rw [Array.size_append]; omega
  · show (w.heap ++ os)[j]? = w.heap[j]?
    exact Array.getElem?_append_left hj
theorem num_big {s : ByteArray} (h : s.size = 0 ∨ 10 < s.size) : isNum s = false := by
  cases e : isNum s with
  | false => rfl
  | true => have := (num_atoi e).2; omega
theorem num_atoi0 {s : ByteArray} (h : Lib.atoi (tx s) = none) : isNum s = false := by
  cases e : isNum s with
  | false => rfl
  | true => have := (num_atoi e).1; rw [h] at this; cases this
set_option maxRecDepth 100000 in
theorem pn_calls (s : ByteArray) (w : Go.World) (htab : TabW w) (hes : ∃ te pe, w.cell? ⟨1, 0, none⟩ = some (.iface te pe)) :
    Calls Tryz.prog 131 #[.string s] w fun e w' => e = .returned (.tuple #[.int .i64 (numV s), .bool (isNum s)]) ∧ Below w.heap.size w w' := by
  by_cases hz : s.size = 0 ∨ 10 < s.size
  · have hn := num_big hz
    rw [num_none hn, hn]
    go_enter Tryz.func131, Tryz.ntmps131
    rcases hz with hz | hz
    all_goals go_wp2
    all_goals go_ret2
    all_goals exact ⟨rfl, Below.refl _ _⟩
  · obtain ⟨te, pe, hev⟩ := hes
    cases h : Lib.atoi s.data.toList with
    | none =>
      have hn := num_atoi0 h
      rw [num_none hn, hn]
      go_enter Tryz.func131, Tryz.ntmps131
      go_wp2_with (go_at_call 163; refine (Any.strconv_Atoi_err atoLays s (by omega) h _ _ hev (Or.inr ⟨te, pe, rfl⟩)).mono ?_; rintro e W1 ⟨N, rfl, -, -, hb⟩)
      all_goals go_ret2
      all_goals first | exact ⟨rfl, Below.refl _ _⟩ | exact ⟨rfl, by assumption⟩
    | some n =>
      have hN : isNum s = true → n = sgN s := fun e => Option.some.inj (h.symm.trans (num_atoi e).1)
      go_enter Tryz.func131, Tryz.ntmps131
      go_wp2_with (first
        | (go_at_call 163; refine (Any.strconv_Atoi { atoLays with } s n (by omega) h _).mono ?_; rintro e w' ⟨rfl, t, rfl⟩; have hb1 := Lib.bytesWorld_below w (atoRen.t 5) t; have htab1 := htab _ hb1)
        | (go_at_call 164; refine (fmt_calls n (by omega) (by omega) _ (by assumption)).mono ?_; rintro e W2 ⟨rfl, hb2⟩))
      all_goals go_ret2
      · rename_i e; exact absurd (Or.inl (by rw [e]; rfl)) hz
      · rename_i e; exact absurd (e.imp (fun a => by have := eq_of_beq a; omega) (fun a => by omega)) hz
      · rename_i hb2 e
        have hn : isNum s = false := by
          cases q : isNum s with
          | false => rfl
          | true =>
            have hr := num_range q
            rw [← hN q] at hr
            rcases e with e | e
            · omega
            · rw [hr.2.2.2, ByteArray.toList_eq] at e; simp at e
        rw [num_none hn, hn]
        exact ⟨rfl, hb1.trans (hb2.mono hb1.size)⟩
      · rename_i hb2 e
        have ei : Lib.itoa n = tx s := by have := e.2; rw [ByteArray.toList_eq] at this; simpa using this
        have hq := atoi_num h e.1 ei
        have hv : numV s = n := by rw [(num_range hq.1).2.2.1, hq.2]
        rw [hv, hq.1]
        exact ⟨rfl, hb1.trans (hb2.mono hb1.size)⟩
      all_goals
        have hn : isNum s = false := by
          cases q : isNum s with
          | false => rfl
          | true => have hr := num_range q; rw [← hN q] at hr; omega
        rw [num_none hn, hn]
        exact ⟨rfl, by assumption⟩
abbrev P_c_iPNum (s : ByteArray) : Ct := ⟨131, [], [ls s], [], .tup [li (numV s), lb (isNum s)]⟩
theorem c_iPNum (s : ByteArray) : OK (P_c_iPNum s) := by
  refine ⟨Tryz.call131, fun w ι vals hp hk => ?_⟩
  have harg := hp.arg
  rcases vals with ⟨l⟩
  match l, harg with
  | [v0], ⟨h0, _⟩ =>
    obtain ⟨rfl, _⟩ := h0.1.lit_inv
    refine (pn_calls s w (kn_tabW hk) (kn_es hk)).mono fun e w' hh => ?_
    obtain ⟨rfl, hb⟩ := hh
    exact ⟨_, ι, rfl, post_below hp hb ⟨_, rfl, ⟨.lit trivial, fun _ => rfl⟩, ⟨.lit trivial, fun _ => rfl⟩, trivial⟩⟩
end Go.Proofs.YtjgbkigdnjalkaaGreatDoor
end
section
namespace Go.Proofs.YtjgbkigdnjalkaaGreatDoor
open Go Go.Proofs.YtjgbkigdnjalkaaGreatDoor.Ab
set_option linter.unusedVariables false
set_option linter.unusedSimpArgs false
set_option maxHeartbeats 4000000
abbrev P_c_sNum (n : Int) : Ct := ⟨149, [], [li n], [], .sv (ls (mkS (Lib.itoa n)))⟩
def lc_sNumLa (n : Int) : Lp (Int × List UInt8) := .mk 31 0 (fun x => [(0, li n), (3, hs x 1), (4, hs x 0)]) (fun x => []) (fun k => [.s (li k.fst), .s (ls (mkS k.snd))]) (fun k =>
 n ≠ 0 ∧ dgs k.fst.natAbs ++ k.snd = Lib.decDigits n.natAbs ∧ (-9223372036854775808 : Int) ≤ k.fst ∧ k.fst ≤ 9223372036854775807) (fun k => k.fst.natAbs) [.mk True (.exit 0) (fun x
 => [(0, li n), (3, hs x 0)]) (fun x => []) [.s (ls (mkS (Lib.decDigits n.natAbs)))]]
theorem Sc_sNumLa (n : Int) (h : (-9223372036854775808 : Int) ≤ n ∧ n ≤ 9223372036854775807) : Lp.Sem Tryz.prog (loopAt Tryz.f149 0) (lc_sNumLa n) := lpOK (fun k => .i (k.fst ≠ 0)
 (.p ((10 : Int) ≠ 0) (.i (k.fst.tmod (10 : Int) < 0) (.r (0 - k.fst.tmod 10) (.r (48 + (0 - k.fst.tmod 10)) (.p (rng IntKind.u8 (48 + (0 - k.fst.tmod 10))) (.w (.bytes
 [UInt8.ofNat (48 + (0 - k.fst.tmod 10)).toNat]) (.p ([[Cell.lit (Value.int IntKind.u8 (48 + (0 - k.fst.tmod 10)))]] = [[Cell.lit (Value.int IntKind.u8 (↑(UInt8.ofNat (48 + (0 -
 k.fst.tmod 10)).toNat).toNat : Int))]]) (.p (1 + k.snd.length ≤ 9223372036854775807) (.p ((10 : Int) ≠ 0) (.r (k.fst.tdiv 10) (.g [] (k.fst.tdiv 10, [UInt8.ofNat (48 + (0 -
 k.fst.tmod 10)).toNat] ++ k.snd) [.s (li (k.fst.tdiv 10)), .s (ls (ByteArray.mk ([UInt8.ofNat (48 + (0 - k.fst.tmod 10)).toNat] ++ k.snd).toArray))]))))))))) (.r (48 + k.fst.tmod
 10) (.p (rng IntKind.u8 (48 + k.fst.tmod 10)) (.w (.bytes [UInt8.ofNat (48 + k.fst.tmod 10).toNat]) (.p ([[Cell.lit (Value.int IntKind.u8 (48 + k.fst.tmod 10))]] = [[Cell.lit
 (Value.int IntKind.u8 (↑(UInt8.ofNat (48 + k.fst.tmod 10).toNat).toNat : Int))]]) (.p (1 + k.snd.length ≤ 9223372036854775807) (.p ((10 : Int) ≠ 0) (.r (k.fst.tdiv 10) (.g []
 (k.fst.tdiv 10, [UInt8.ofNat (48 + k.fst.tmod 10).toNat] ++ k.snd) [.s (li (k.fst.tdiv 10)), .s (ls (ByteArray.mk ([UInt8.ofNat (48 + k.fst.tmod 10).toNat] ++
 k.snd).toArray))])))))))))) (.o 0 [] [.s (ls (mkS k.snd))])) (by
  intro k h; try dsimp only [teasy, nthW, lc_sNumLa] at h ⊢
  obtain ⟨x, o⟩ := k
  simp only at *
  have g1 := @dgs_step x.natAbs
  have g2 : (x.tdiv 10).natAbs = x.natAbs / 10 := Int.natAbs_tdiv _ _
  have g3 : (x.tmod 10).natAbs = x.natAbs % 10 := Int.natAbs_tmod _ _
  have g4 := congrArg List.length h.2.1
  have g5 := dec_ge (n := n) (by assumption)
  with_reducible repeat' (first | apply And.intro | exact zR | (intro; skip))
  all_goals (try simp only [std, inj] at *)
  all_goals with_reducible repeat' apply And.intro
  all_goals (try (first | exact zw | grind [dgs_zero, snocI, snocS, rowSnoc]))
  all_goals first | (rw [rng_u8]; omega) | (rw [u8_back (by omega)]))
theorem c_sNum (n : Int) (h : -9223372036854775808 ≤ n ∧ n ≤ 9223372036854775807)  : P_c_sNum n := fnOK Tryz.call149 Tryz.func149 (.i (n = 0) (.s (ls (ByteArray.mk #[(48 : UInt8)])))
 (.l (lc_sNumLa n) (Sc_sNumLa n h) [] [.s (li n), .s (ls (ByteArray.mk #[]))] (n, []) (.t (.i (n < 0) (.p (1 + (Lib.decDigits n.natAbs).length ≤ 9223372036854775807) (.s (ls
 (ByteArray.mk ([(45 : UInt8)] ++ Lib.decDigits n.natAbs).toArray)))) (.s (ls (mkS (Lib.decDigits n.natAbs))))) .q))) (by
  dsimp only [teasy, P_c_sNum, nthW, lc_sNumLa]
  have g1 := @itoa_pos n
  have g2 := @itoa_neg n
  have g3 := itoa_zero
  have g4 := dec_ge h
  with_reducible repeat' (first | apply And.intro | exact zR | (intro; skip))
  all_goals (try simp only [std, inj] at *)
  all_goals with_reducible repeat' apply And.intro
  all_goals (try (first | exact zw | grind [dgs_ne, snocI, snocS, rowSnoc])))
abbrev P_c_sPNum (s : ByteArray) : Ct := ⟨112, [], [ls s], [], .tup [li (numV s), lb (isNum s)]⟩
def lc_sPNumLa (s : ByteArray) : Lp (Nat × Int) := .mk 55 0 (fun x => [(0, ls s), (4, hs x 0), (5, hs x 2), (6, hs x 1)]) (fun x => []) (fun k => [.s (li (↑(atN s) : Int)), .s (li
 (↑k.fst : Int)), .s (li k.snd)]) (fun k => atN s ≤ k.fst ∧ k.fst ≤ s.size ∧ prtN s k.fst = some k.snd.toNat ∧ 0 ≤ k.snd ∧ s.size ≤ atN s + 9 ∧ atN s < s.size) (fun k => s.size -
 k.fst) [.mk (digB s = true) (.exit 0) (fun x => [(0, ls s), (4, hs x 0), (5, hs x 1)]) (fun x => []) [.s (li (↑(atN s) : Int)), .s (li (↑(magN s) : Int))], .mk (digB s = false ∧
 s.size ≤ atN s + 9 ∧ atN s < s.size) .ret (fun x => [(2, hs x 0), (3, hs x 1)]) (fun x => []) [.s (li 0), .s (lb false)]]
theorem Sc_sPNumLa (s : ByteArray) : Lp.Sem Tryz.prog (loopAt Tryz.f112 0) (lc_sPNumLa s) := lpOK (fun k => .h (s.data.toList.length ≤ 9223372036854775807) (.i ((↑k.fst : Int) <
 (↑s.data.toList.length : Int)) (.p (0 ≤ (↑k.fst : Int) ∧ (↑k.fst : Int).toNat < s.data.toList.length) (.c [.rd] (c_sDigit (↑(s.data.toList.getD (↑k.fst : Int).toNat (0 :
 UInt8)).toNat : Int)) (.b (!isDig (↑(s.data.toList.getD (↑k.fst : Int).toNat (0 : UInt8)).toNat : Int)) (.o 1 [] [.s (li 0), .s (lb false)]) (.r (10 * k.snd) (.p (0 ≤ (↑k.fst :
 Int) ∧ (↑k.fst : Int).toNat < s.data.toList.length) (.p (rng IntKind.u8 ((↑(s.data.toList.getD (↑k.fst : Int).toNat (0 : UInt8)).toNat : Int) - 48)) (.r ((↑(s.data.toList.getD
 (↑k.fst : Int).toNat (0 : UInt8)).toNat : Int) - 48) (.r (10 * k.snd + ((↑(s.data.toList.getD (↑k.fst : Int).toNat (0 : UInt8)).toNat : Int) - 48)) (.r ((↑k.fst : Int) + 1) (.g []
 (k.fst + 1, 10 * k.snd + ((↑(s.data.toList.getD (↑k.fst : Int).toNat (0 : UInt8)).toNat : Int) - 48)) [.s (li (↑(atN s) : Int)), .s (li ((↑k.fst : Int) + 1)), .s (li (10 * k.snd +
 ((↑(s.data.toList.getD (↑k.fst : Int).toNat (0 : UInt8)).toNat : Int) - 48)))])))))))))) (.o 0 [] [.s (li (↑(atN s) : Int)), .s (li k.snd)]))) (by
  intro k h; try dsimp only [teasy, nthW, lc_sPNumLa] at h ⊢
  obtain ⟨i, m⟩ := k
  simp only at *
  have g1 := @prt_step s i m.toNat
  have g2 := @prt_stop s i
  have g3 := @prt_all s m.toNat
  have g4 := @prt_lt s i m.toNat
  with_reducible repeat' (first | apply And.intro | exact zR | (intro; skip) | apply c_sNum)
  all_goals (try simp only [std, inj] at *)
  all_goals with_reducible repeat' apply And.intro
  all_goals (try (first | with_reducible apply c_sNum | (simp only [← List.map_append]; first | with_reducible apply c_sNum)))
  all_goals (try (first | exact zw | grind [isDig, snocI, snocS, rowSnoc]))
  all_goals (rw [rng_u8]; simp only [isDig, Bool.not_eq_false', decide_eq_true_eq] at *; omega))
theorem c_sPNum (s : ByteArray)  : P_c_sPNum s := fnOK Tryz.call112 Tryz.func112 (.h (s.data.toList.length ≤ 9223372036854775807) (.i (0 < (↑s.data.toList.length : Int)) (.p ((0 :
 Int) ≤ 0 ∧ 0 < s.data.toList.length) (.i ((↑(s.data.toList.getD 0 (0 : UInt8)).toNat : Int) = 45) (.h (s.data.toList.length ≤ 9223372036854775807) (.i (1 = (↑s.data.toList.length
 : Int)) (.y true (.f [] [] (AV.tup [li 0, lb false]))) (.h (s.data.toList.length ≤ 9223372036854775807) (.r ((↑s.data.toList.length : Int) - 1) (.i (9 < (↑s.data.toList.length :
 Int) - 1) (.f [] [] (AV.tup [li 0, lb false])) (.l (lc_sPNumLa s) (Sc_sPNumLa s) [] [.s (li 1), .s (li 1), .s (li 0)] (atN s, 0) (.t (.i ((↑(atN s) : Int) = 1) (.r (0 - (↑(magN s)
 : Int)) (.d [.rd] (P_c_sNum (0 - (↑(magN s) : Int))) (.i (Lib.itoa (0 - (↑(magN s) : Int)) ≠ s.data.toList) (.f [] [] (AV.tup [li 0, lb false])) (.f [] [] (AV.tup [li (0 - (↑(magN
 s) : Int)), lb true]))))) (.d [.rd] (P_c_sNum (↑(magN s) : Int)) (.i (Lib.itoa (↑(magN s) : Int) ≠ s.data.toList) (.f [] [] (AV.tup [li 0, lb false])) (.f [] [] (AV.tup [li
 (↑(magN s) : Int), lb true]))))) (.t (.f [] [] (AV.tup [li 0, lb false])) .q)))))))) (.h (s.data.toList.length ≤ 9223372036854775807) (.i (0 = (↑s.data.toList.length : Int)) (.y
 true (.f [] [] (AV.tup [li 0, lb false]))) (.h (s.data.toList.length ≤ 9223372036854775807) (.r ((↑s.data.toList.length : Int) - 0) (.i (9 < (↑s.data.toList.length : Int) - 0) (.f
 [] [] (AV.tup [li 0, lb false])) (.l (lc_sPNumLa s) (Sc_sPNumLa s) [] [.s (li 0), .s (li 0), .s (li 0)] (atN s, 0) (.t (.i ((↑(atN s) : Int) = 1) (.r (0 - (↑(magN s) : Int)) (.d
 [.rd] (P_c_sNum (0 - (↑(magN s) : Int))) (.i (Lib.itoa (0 - (↑(magN s) : Int)) ≠ s.data.toList) (.f [] [] (AV.tup [li 0, lb false])) (.f [] [] (AV.tup [li (0 - (↑(magN s) : Int)),
 lb true]))))) (.d [.rd] (P_c_sNum (↑(magN s) : Int)) (.i (Lib.itoa (↑(magN s) : Int) ≠ s.data.toList) (.f [] [] (AV.tup [li 0, lb false])) (.f [] [] (AV.tup [li (↑(magN s) : Int),
 lb true]))))) (.t (.f [] [] (AV.tup [li 0, lb false])) .q)))))))))) (.y false (.h (s.data.toList.length ≤ 9223372036854775807) (.i (0 = (↑s.data.toList.length : Int)) (.y true (.f
 [] [] (AV.tup [li 0, lb false]))) (.h (s.data.toList.length ≤ 9223372036854775807) (.r ((↑s.data.toList.length : Int) - 0) (.i (9 < (↑s.data.toList.length : Int) - 0) (.f [] []
 (AV.tup [li 0, lb false])) (.l (lc_sPNumLa s) (Sc_sPNumLa s) [] [.s (li 0), .s (li 0), .s (li 0)] (atN s, 0) (.t (.i ((↑(atN s) : Int) = 1) (.r (0 - (↑(magN s) : Int)) (.d [.rd]
 (P_c_sNum (0 - (↑(magN s) : Int))) (.i (Lib.itoa (0 - (↑(magN s) : Int)) ≠ s.data.toList) (.f [] [] (AV.tup [li 0, lb false])) (.f [] [] (AV.tup [li (0 - (↑(magN s) : Int)), lb
 true]))))) (.d [.rd] (P_c_sNum (↑(magN s) : Int)) (.i (Lib.itoa (↑(magN s) : Int) ≠ s.data.toList) (.f [] [] (AV.tup [li 0, lb false])) (.f [] [] (AV.tup [li (↑(magN s) : Int), lb
 true]))))) (.t (.f [] [] (AV.tup [li 0, lb false])) .q))))))))))) (by
  dsimp only [teasy, P_c_sPNum, nthW, lc_sPNumLa]
  have g1 := prt_zero s
  have g2 := @mag_lt s
  have g3 := @num_none s
  have g4 : atN s = 0 ∨ atN s = 1 := by have := at_le s; omega
  with_reducible repeat' (first | apply And.intro | exact zR | (intro; skip) | apply c_sNum)
  all_goals (try simp only [std, inj] at *)
  all_goals with_reducible repeat' apply And.intro
  all_goals (try (first | with_reducible apply c_sNum | (simp only [← List.map_append]; first | with_reducible apply c_sNum)))
  all_goals (try (first | exact zw | grind [isNum, shpN, numV, sgN, atN, snocI, snocS, rowSnoc])))
end Go.Proofs.YtjgbkigdnjalkaaGreatDoor
end
section
namespace Go.Proofs.YtjgbkigdnjalkaaGreatDoor
open Go Go.Proofs.YtjgbkigdnjalkaaGreatDoor.Ab
set_option linter.unusedVariables false
set_option linter.unusedSimpArgs false
set_option maxHeartbeats 4000000
abbrev P_c_sBlank (n : Int) : Ct := ⟨73, [], [lu n], [], .sv (lb (isBl n))⟩
theorem c_sBlank (n : Int)  : P_c_sBlank n := fnOK Tryz.call73 Tryz.func73 (.i (n = 32) (.y true (.s (lb true))) (.i (n = 10) (.s (lb true)) (.s (lb (decide (n = 9)))))) (by
  dsimp only [teasy, P_c_sBlank]
  with_reducible repeat' (first | apply And.intro | exact zR | (intro; skip))
  all_goals (try simp only [std, inj] at *)
  all_goals with_reducible repeat' apply And.intro
  all_goals (try (first | exact z | grind [isBl, snocI, snocS, rowSnoc])))
abbrev P_c_sEnds (n : Int) : Ct := ⟨111, [], [lu n], [], .sv (lb (isEn n))⟩
theorem c_sEnds (n : Int)  : P_c_sEnds n := fnOK Tryz.call111 Tryz.func111 (.i (n = 40) (.y true (.y true (.y true (.s (lb true))))) (.i (n = 41) (.y true (.y true (.s (lb true))))
 (.i (n = 34) (.y true (.s (lb true))) (.i (n = 59) (.s (lb true)) (.s (lb (decide (n = 39)))))))) (by
  dsimp only [teasy, P_c_sEnds]
  with_reducible repeat' (first | apply And.intro | exact zR | (intro; skip))
  all_goals (try simp only [std, inj] at *)
  all_goals with_reducible repeat' apply And.intro
  all_goals (try (first | exact z | grind [isEn, snocI, snocS, rowSnoc])))
abbrev P_c_iEnds (n : Int) : Ct := ⟨91, [], [lu n], [], .sv (lb (!isRu n))⟩
theorem c_iEnds (n : Int)  : P_c_iEnds n := fnOK Tryz.call91 Tryz.func91 (.i (n = 32) (.y true (.s (lb true))) (.i (n = 10) (.y true (.s (lb true))) (.i (n = 9) (.y true (.s (lb
 true))) (.i (n = 40) (.y true (.s (lb true))) (.i (n = 41) (.y true (.s (lb true))) (.i (n = 34) (.y true (.s (lb true))) (.i (n = 59) (.y true (.s (lb true))) (.i (n = 39) (.s
 (lb true)) (.s (lb false)))))))))) (by
  dsimp only [teasy, P_c_iEnds]
  with_reducible repeat' (first | apply And.intro | exact zR | (intro; skip))
  all_goals (try simp only [std, inj] at *)
  all_goals with_reducible repeat' apply And.intro
  all_goals (try (first | exact z | grind [isRu, isEn, isBl, snocI, snocS, rowSnoc])))
theorem sk_go {s : ByteArray} {a : Nat} (h : a < s.size) (hp : isBl (byt s a) = true) : sk s (a + 1) = sk s a := pst_go isBl h hp
theorem sk_stop {s : ByteArray} {a : Nat} (h : a ≤ s.size) (hp : a < s.size → isBl (byt s a) = false) : sk s a = a := pst_stop isBl h hp
theorem noc_no {s : ByteArray} {a k : Nat} (h : k < s.size) (hk : sk s k = sk s a) (hb : byt s k = 59) : noc s a = false := by
  have h1 : sk s k = k := sk_stop (by omega) fun _ => by rw [hb]; decide
  rw [hk] at h1
  unfold noc; rw [h1, hb]; simp [h]
abbrev P_c_sSkip (s : ByteArray) (a : Nat) (b : Bool) : Ct := ⟨39, [.box [vS s, vI (a : Nat), vB b]], [.one (.ptr 0 0)], [.box [vS s, vI (sk s a : Nat), vB b]], .tup []⟩
def lc_sSkipLb (s : ByteArray) (a : Nat) (b : Bool) (k : Nat) : Lp Nat := .mk 82 1 (fun x => [(0, SV.one (AC.ptr 0 0))]) (fun x => [Ob.box [vS s, ha x 0, vB b]]) (fun k1 => [.a (vI
 (↑(k + k1) : Int))]) (fun k1 => k < k ∧ k1 ≤ s.size) (fun k1 => s.size - k1) [.mk True (.exit 2) (fun x => [(0, SV.one (AC.ptr 0 0))]) (fun x => [Ob.box [vS s, ha x 0, vB b]]) [.a
 (vI (↑k : Int))]]
def lc_sSkipLa (s : ByteArray) (a : Nat) (b : Bool) : Lp Nat := .mk 82 1 (fun x => [(0, SV.one (AC.ptr 0 0))]) (fun x => [Ob.box [vS s, ha x 0, vB b]]) (fun k => [.a (vI (↑k :
 Int))]) (fun k => a ≤ k ∧ k ≤ s.size ∧ sk s k = sk s a ∧ noc s a = true) (fun k => s.size - k) [.mk True (.exit 0) (fun x => []) (fun x => [Ob.box [vS s, ha x 0, vB b]]) [.a (vI
 (↑(sk s a) : Int))]]
theorem Sc_sSkipLb (s : ByteArray) (a : Nat) (b : Bool) (h : a ≤ s.size ∧ noc s a = true) (k : Nat) : Lp.Sem Tryz.prog (loopAt Tryz.f39 1) (lc_sSkipLb s a b k) := lpOK (fun k1 =>
 .w (.draw []) (.i ((↑(k + k1) : Int) < (↑s.data.toList.length : Int)) (.p (0 ≤ (↑(k + k1) : Int) ∧ (↑(k + k1) : Int).toNat < s.data.toList.length) (.h (s.data.toList.length ≤
 9223372036854775807) (.i ((↑(s.data.toList.getD (↑(k + k1) : Int).toNat (0 : UInt8)).toNat : Int) ≠ 10) (.r ((↑(k + k1) : Int) + 1) (.g [0] 1 [.a (vI ((↑(k + k1) : Int) + 1))]))
 (.o 0 [0] [.a (vI (↑(k + k1) : Int))])))) (.h (s.data.toList.length ≤ 9223372036854775807) (.y false (.o 0 [0] [.a (vI (↑(k + k1) : Int))]))))) (by
  intro k1 h; try dsimp only [teasy, nthW, lc_sSkipLb] at h ⊢
  with_reducible repeat' (first | apply And.intro | exact zR | (intro; skip))
  all_goals (try simp only [std, inj] at *)
  all_goals with_reducible repeat' apply And.intro
  all_goals (try (first | exact z | grind [snocI, snocS, rowSnoc])))
theorem Sc_sSkipLa (s : ByteArray) (a : Nat) (b : Bool) (h : a ≤ s.size ∧ noc s a = true) : Lp.Sem Tryz.prog (loopAt Tryz.f39 0) (lc_sSkipLa s a b) := lpOK (fun k => .w (.draw [])
 (.i ((↑k : Int) < (↑s.data.toList.length : Int)) (.p (0 ≤ (↑k : Int) ∧ (↑k : Int).toNat < s.data.toList.length) (.c [.rd] (c_sBlank (↑(s.data.toList.getD (↑k : Int).toNat (0 :
 UInt8)).toNat : Int)) (.b (isBl (↑(s.data.toList.getD (↑k : Int).toNat (0 : UInt8)).toNat : Int)) (.h (s.data.toList.length ≤ 9223372036854775807) (.y true (.w (.draw []) (.p (0 ≤
 (↑k : Int) ∧ (↑k : Int).toNat < s.data.toList.length) (.i ((↑(s.data.toList.getD (↑k : Int).toNat (0 : UInt8)).toNat : Int) = 59) (.l (lc_sSkipLb s a b k) (Sc_sSkipLb s a b h k)
 [0] [.a (vI (↑k : Int))] 0 (.t (.g [0] k [.a (vI (↑k : Int))]) .q)) (.r ((↑k : Int) + 1) (.g [0] (k + 1) [.a (vI ((↑k : Int) + 1))]))))))) (.p (0 ≤ (↑k : Int) ∧ (↑k : Int).toNat <
 s.data.toList.length) (.h (s.data.toList.length ≤ 9223372036854775807) (.i ((↑(s.data.toList.getD (↑k : Int).toNat (0 : UInt8)).toNat : Int) = 59) (.w (.draw []) (.p (0 ≤ (↑k :
 Int) ∧ (↑k : Int).toNat < s.data.toList.length) (.i ((↑(s.data.toList.getD (↑k : Int).toNat (0 : UInt8)).toNat : Int) = 59) (.l (lc_sSkipLb s a b k) (Sc_sSkipLb s a b h k) [0] [.a
 (vI (↑k : Int))] 0 (.t (.g [0] k [.a (vI (↑k : Int))]) .q)) (.r ((↑k : Int) + 1) (.g [0] (k + 1) [.a (vI ((↑k : Int) + 1))]))))) (.o 0 [0] [.a (vI (↑k : Int))]))))))) (.h
 (s.data.toList.length ≤ 9223372036854775807) (.y false (.o 0 [0] [.a (vI (↑k : Int))]))))) (by
  intro k h; try dsimp only [teasy, nthW, lc_sSkipLa, lc_sSkipLb] at h ⊢
  have g1 := @sk_go s k
  have g2 := @sk_stop s k
  have g3 := @noc_no s a k
  with_reducible repeat' (first | apply And.intro | exact zR | (intro; skip))
  all_goals (try simp only [std, inj] at *)
  all_goals with_reducible repeat' apply And.intro
  all_goals (try (first | exact z | grind [byt, snocI, snocS, rowSnoc])))
theorem c_sSkip (s : ByteArray) (a : Nat) (b : Bool) (h : a ≤ s.size ∧ noc s a = true)  : P_c_sSkip s a b := fnOK Tryz.call39 Tryz.func39 (.l (lc_sSkipLa s a b) (Sc_sSkipLa s a b h)
 [0] [.a (vI (↑a : Int))] a (.t (.f [] [Ob.box [vS s, vI (↑(sk s a) : Int), vB b]] (AV.tup [])) .q)) (by
  dsimp only [teasy, P_c_sSkip, nthW, lc_sSkipLa]
  with_reducible repeat' (first | apply And.intro | exact zR | (intro; skip))
  all_goals (try simp only [std, inj] at *)
  all_goals with_reducible repeat' apply And.intro
  all_goals (try (first | exact z | grind [snocI, snocS, rowSnoc])))
abbrev P_c_iSkip (s : ByteArray) (a : Nat) (q : Int) : Ct := ⟨47, [.box [vS s, vI (a : Nat), vI q]], [.one (.ptr 0 0)], [.box [vS s, vI (sk s a : Nat), vI q]], .tup []⟩
def lc_iSkipLb (s : ByteArray) (a : Nat) (q : Int) (k : Nat) : Lp Nat := .mk 63 1 (fun x => [(0, SV.one (AC.ptr 0 0))]) (fun x => [Ob.box [vS s, ha x 0, vI q]]) (fun k1 => [.a (vI
 (↑(k + k1) : Int))]) (fun k1 => k < k ∧ k1 ≤ s.size) (fun k1 => s.size - k1) [.mk True (.exit 3) (fun x => [(0, SV.one (AC.ptr 0 0))]) (fun x => [Ob.box [vS s, ha x 0, vI q]]) [.a
 (vI (↑k : Int))]]
def lc_iSkipLa (s : ByteArray) (a : Nat) (q : Int) : Lp Nat := .mk 63 1 (fun x => [(0, SV.one (AC.ptr 0 0))]) (fun x => [Ob.box [vS s, ha x 0, vI q]]) (fun k => [.a (vI (↑k :
 Int))]) (fun k => a ≤ k ∧ k ≤ s.size ∧ sk s k = sk s a ∧ noc s a = true) (fun k => s.size - k) [.mk True (.exit 0) (fun x => []) (fun x => [Ob.box [vS s, ha x 0, vI q]]) [.a (vI
 (↑(sk s a) : Int))], .mk True .ret (fun x => []) (fun x => [Ob.box [vS s, ha x 0, vI q]]) [.a (vI (↑(sk s a) : Int))]]
theorem Sc_iSkipLb (s : ByteArray) (a : Nat) (q : Int) (h : a ≤ s.size ∧ noc s a = true) (k : Nat) : Lp.Sem Tryz.prog (loopAt Tryz.f47 1) (lc_iSkipLb s a q k) := lpOK (fun k1 => .w
 (.draw []) (.i ((↑(k + k1) : Int) < (↑s.data.toList.length : Int)) (.p (0 ≤ (↑(k + k1) : Int) ∧ (↑(k + k1) : Int).toNat < s.data.toList.length) (.h (s.data.toList.length ≤
 9223372036854775807) (.i ((↑(s.data.toList.getD (↑(k + k1) : Int).toNat (0 : UInt8)).toNat : Int) ≠ 10) (.r ((↑(k + k1) : Int) + 1) (.g [0] 1 [.a (vI ((↑(k + k1) : Int) + 1))]))
 (.o 0 [0] [.a (vI (↑(k + k1) : Int))])))) (.h (s.data.toList.length ≤ 9223372036854775807) (.y false (.o 0 [0] [.a (vI (↑(k + k1) : Int))]))))) (by
  intro k1 h; try dsimp only [teasy, nthW, lc_iSkipLb] at h ⊢
  with_reducible repeat' (first | apply And.intro | exact zR | (intro; skip))
  all_goals (try simp only [std, inj] at *)
  all_goals with_reducible repeat' apply And.intro
  all_goals (try (first | exact z | grind [snocI, snocS, rowSnoc])))
theorem Sc_iSkipLa (s : ByteArray) (a : Nat) (q : Int) (h : a ≤ s.size ∧ noc s a = true) : Lp.Sem Tryz.prog (loopAt Tryz.f47 0) (lc_iSkipLa s a q) := lpOK (fun k => .w (.draw [])
 (.h (s.data.toList.length ≤ 9223372036854775807) (.i ((↑k : Int) < (↑s.data.toList.length : Int)) (.w (.draw []) (.p (0 ≤ (↑k : Int) ∧ (↑k : Int).toNat < s.data.toList.length) (.i
 ((↑(s.data.toList.getD (↑k : Int).toNat (0 : UInt8)).toNat : Int) = 32) (.y true (.r ((↑k : Int) + 1) (.g [0] (k + 1) [.a (vI ((↑k : Int) + 1))]))) (.i ((↑(s.data.toList.getD (↑k
 : Int).toNat (0 : UInt8)).toNat : Int) = 10) (.y true (.r ((↑k : Int) + 1) (.g [0] (k + 1) [.a (vI ((↑k : Int) + 1))]))) (.i ((↑(s.data.toList.getD (↑k : Int).toNat (0 :
 UInt8)).toNat : Int) = 9) (.r ((↑k : Int) + 1) (.g [0] (k + 1) [.a (vI ((↑k : Int) + 1))])) (.i ((↑(s.data.toList.getD (↑k : Int).toNat (0 : UInt8)).toNat : Int) = 59) (.l
 (lc_iSkipLb s a q k) (Sc_iSkipLb s a q h k) [0] [.a (vI (↑k : Int))] 0 (.t (.g [0] k [.a (vI (↑k : Int))]) .q)) (.o 1 [0] [.a (vI (↑k : Int))]))))))) (.o 0 [0] [.a (vI (↑k :
 Int))])))) (by
  intro k h; try dsimp only [teasy, nthW, lc_iSkipLa, lc_iSkipLb] at h ⊢
  have g1 := @sk_go s k
  have g2 := @sk_stop s k
  have g3 := @noc_no s a k
  with_reducible repeat' (first | apply And.intro | exact zR | (intro; skip))
  all_goals (try simp only [std, inj] at *)
  all_goals with_reducible repeat' apply And.intro
  all_goals (try (first | exact z | grind [byt, isBl, snocI, snocS, rowSnoc])))
theorem c_iSkip (s : ByteArray) (a : Nat) (q : Int) (h : a ≤ s.size ∧ noc s a = true)  : P_c_iSkip s a q := fnOK Tryz.call47 Tryz.func47 (.l (lc_iSkipLa s a q) (Sc_iSkipLa s a q h)
 [0] [.a (vI (↑a : Int))] a (.t (.f [] [Ob.box [vS s, vI (↑(sk s a) : Int), vI q]] (AV.tup [])) (.t (.f [] [Ob.box [vS s, vI (↑(sk s a) : Int), vI q]] (AV.tup [])) .q))) (by
  dsimp only [teasy, P_c_iSkip, nthW, lc_iSkipLa]
  with_reducible repeat' (first | apply And.intro | exact zR | (intro; skip))
  all_goals (try simp only [std, inj] at *)
  all_goals with_reducible repeat' apply And.intro
  all_goals (try (first | exact z | grind [snocI, snocS, rowSnoc])))
abbrev nilI : AC := .val (.lit (.slice none 0 0))
theorem atm_num {t : ByteArray} {d : Datum} (h : atomO t = some d) (h1 : isNum t = true) : d = ⟨2, numV t, mkS [], []⟩ := by
  unfold atomO at h; rw [if_pos h1] at h; exact (Option.some.inj h).symm
theorem atm_t {t : ByteArray} {d : Datum} (h : atomO t = some d) (h1 : isNum t = false) (h2 : tx t = [35, 116]) : d = ⟨3, 1, mkS [], []⟩ := by
  unfold atomO at h; rw [if_neg (by simp [h1]), if_pos h2] at h; exact (Option.some.inj h).symm
theorem atm_f {t : ByteArray} {d : Datum} (h : atomO t = some d) (h1 : isNum t = false) (h2 : tx t ≠ [35, 116]) (h3 : tx t = [35, 102]) : d = ⟨3, 0, mkS [], []⟩ := by
  unfold atomO at h; rw [if_neg (by simp [h1]), if_neg h2, if_pos h3] at h; exact (Option.some.inj h).symm
theorem atm_s {t : ByteArray} {d : Datum} (h : atomO t = some d) (h1 : isNum t = false) (h2 : tx t ≠ [35, 116]) (h3 : tx t ≠ [35, 102]) : isSym t = true ∧ d = ⟨1, 0, t, []⟩ := by
  unfold atomO at h; rw [if_neg (by simp [h1]), if_neg h2, if_neg h3] at h
  split at h
  · rename_i e; exact ⟨e, (Option.some.inj h).symm⟩
  · cases h
abbrev P_c_sNumD (n : Int) : Ct := ⟨113, [], [li n], [], .sv (.agg [vI 2, vI n, vS (mkS []), nilI])⟩
theorem c_sNumD (n : Int) (h : -999999999 ≤ n ∧ n ≤ 999999999)  : P_c_sNumD n := fnOK Tryz.call113 Tryz.func113 (.c [.rd, .rd, .rd] (c_l1In n (-999999999 : Int) 999999999) (.b
 (!decide ((-999999999 : Int) ≤ n ∧ n ≤ 999999999)) (.s (SV.agg [vI 0, vI 0, vS (ByteArray.mk #[]), AC.val (Cell.lit (Value.slice none 0 0))])) (.s (SV.agg [vI 2, vI n, vS
 (ByteArray.mk #[]), AC.val (Cell.lit (Value.slice none 0 0))])))) (by
  dsimp only [teasy, P_c_sNumD]
  with_reducible repeat' (first | apply And.intro | exact zR | (intro; skip))
  all_goals (try simp only [std, inj] at *)
  all_goals with_reducible repeat' apply And.intro
  all_goals (try (first | exact z | grind [snocI, snocS, rowSnoc])))
abbrev P_c_sBooD (b : Bool) : Ct := ⟨114, [], [lb b], [], .sv (.agg [vI 3, vI (if b = true then 1 else 0), vS (mkS []), nilI])⟩
theorem c_sBooD (b : Bool)  : P_c_sBooD b := fnOK Tryz.call114 Tryz.func114 (.b b (.s (SV.agg [vI 3, vI 1, vS (ByteArray.mk #[]), AC.val (Cell.lit (Value.slice none 0 0))])) (.s
 (SV.agg [vI 3, vI 0, vS (ByteArray.mk #[]), AC.val (Cell.lit (Value.slice none 0 0))]))) (by
  dsimp only [teasy, P_c_sBooD]
  with_reducible repeat' (first | apply And.intro | exact zR | (intro; skip))
  all_goals (try simp only [std, inj] at *)
  all_goals with_reducible repeat' apply And.intro
  all_goals (try (first | exact z | grind [snocI, snocS, rowSnoc])))
abbrev P_c_sSyD (s : ByteArray) : Ct := ⟨74, [], [ls s], [], .sv (.agg [vI 1, vI 0, vS s, nilI])⟩
theorem c_sSyD (s : ByteArray) (h : isSym s = true)  : P_c_sSyD s := fnOK Tryz.call74 Tryz.func74 (.c [.rd] (c_sIsSymbol s) (.b (!isSym s) (.s (SV.agg [vI 0, vI 0, vS (ByteArray.mk
 #[]), AC.val (Cell.lit (Value.slice none 0 0))])) (.s (SV.agg [vI 1, vI 0, vS s, AC.val (Cell.lit (Value.slice none 0 0))])))) (by
  dsimp only [teasy, P_c_sSyD]
  with_reducible repeat' (first | apply And.intro | exact zR | (intro; skip))
  all_goals (try simp only [std, inj] at *)
  all_goals with_reducible repeat' apply And.intro
  all_goals (try (first | exact z | grind [snocI, snocS, rowSnoc])))
abbrev P_c_sStD (s : ByteArray) : Ct := ⟨76, [], [ls s], [], .sv (.agg [vI 4, vI 0, vS s, nilI])⟩
theorem c_sStD (s : ByteArray) (h : isStr s = true)  : P_c_sStD s := fnOK Tryz.call76 Tryz.func76 (.c [.rd] (c_sString s) (.b (!isStr s) (.s (SV.agg [vI 0, vI 0, vS (ByteArray.mk
 #[]), AC.val (Cell.lit (Value.slice none 0 0))])) (.s (SV.agg [vI 4, vI 0, vS s, AC.val (Cell.lit (Value.slice none 0 0))])))) (by
  dsimp only [teasy, P_c_sStD]
  with_reducible repeat' (first | apply And.intro | exact zR | (intro; skip))
  all_goals (try simp only [std, inj] at *)
  all_goals with_reducible repeat' apply And.intro
  all_goals (try (first | exact z | grind [snocI, snocS, rowSnoc])))
def atR (d : Datum) (a : Nat) : Nat := a
theorem pst_goR {s : ByteArray} {a : Nat} (h : a < s.size) (h1 : isBl (byt s a) = false) (h2 : isEn (byt s a) = false) : pst isRu s (a + 1) = pst isRu s a := pst_go isRu h (by show (!isBl (byt s a) && !isEn (byt s a)) = true; rw [h1, h2]; rfl)
theorem pst_stopR {s : ByteArray} {a : Nat} (h : a ≤ s.size) (hp : a < s.size → isBl (byt s a) = true ∨ isEn (byt s a) = true) : pst isRu s a = a := pst_stop isRu h fun e => by
  have := hp e
  show (!isBl (byt s a) && !isEn (byt s a)) = false
  rcases this with e | e <;> rw [e] <;> simp
theorem pst_goQ {s : ByteArray} {a : Nat} (h : a < s.size) (h1 : byt s a ≠ 34) : pst noQ s (a + 1) = pst noQ s a := pst_go noQ h (by show (!decide (byt s a = 34)) = true; simp [h1])
theorem pst_stopQ {s : ByteArray} {a : Nat} (h : a ≤ s.size) (hp : a < s.size → byt s a = 34) : pst noQ s a = a := pst_stop noQ h fun e => by show (!decide (byt s a = 34)) = false; simp [hp e]
def atG (t : ByteArray) : Datum := (atomO t).getD default
abbrev P_c_sAtom (s : ByteArray) (a : Nat) : Ct := ⟨77, [.box [vS s, vI (a : Nat), vB false]], [.one (.ptr 0 0)], .box [vS s, vI (pst isRu s a : Nat), vB false] :: datumO (atG (sbs s a (pst isRu s a))), .sv (datumR (atG (sbs s a (pst isRu s a))) 1)⟩
def lc_sAtomLa (s : ByteArray) (a : Nat) : Lp Nat := .mk 92 1 (fun x => [(0, SV.one (AC.ptr 0 0)), (2, SV.one (AC.ptr 1 0)), (3, li (↑a : Int))]) (fun x => [Ob.box [vS s, ha x 0,
 vB false], Ob.box [vI 0, vI 0, vS (ByteArray.mk #[]), AC.val (Cell.lit (Value.slice none 0 0))]]) (fun k => [.a (vI (↑k : Int))]) (fun k => a ≤ k ∧ k ≤ s.size ∧ pst isRu s k = pst
 isRu s a) (fun k => s.size - k) [.mk True (.exit 0) (fun x => [(0, SV.one (AC.ptr 0 0)), (2, SV.one (AC.ptr 1 0)), (3, li (↑a : Int))]) (fun x => [Ob.box [vS s, ha x 0, vB false],
 Ob.box [vI 0, vI 0, vS (ByteArray.mk #[]), AC.val (Cell.lit (Value.slice none 0 0))]]) [.a (vI (↑(pst isRu s a) : Int))]]
theorem Sc_sAtomLa (s : ByteArray) (a : Nat) (h : a ≤ s.size ∧ s.size ≤ 15000 ∧ (atomO (sbs s a (pst isRu s a))).isSome = true) : Lp.Sem Tryz.prog (loopAt Tryz.f77 0) (lc_sAtomLa s
 a) := lpOK (fun k => .w (.draw []) (.i ((↑k : Int) < (↑s.data.toList.length : Int)) (.p (0 ≤ (↑k : Int) ∧ (↑k : Int).toNat < s.data.toList.length) (.c [.rd] (c_sBlank
 (↑(s.data.toList.getD (↑k : Int).toNat (0 : UInt8)).toNat : Int)) (.b (!isBl (↑(s.data.toList.getD (↑k : Int).toNat (0 : UInt8)).toNat : Int)) (.p (0 ≤ (↑k : Int) ∧ (↑k :
 Int).toNat < s.data.toList.length) (.c [.rd] (c_sEnds (↑(s.data.toList.getD (↑k : Int).toNat (0 : UInt8)).toNat : Int)) (.h (s.data.toList.length ≤ 9223372036854775807) (.b (!isEn
 (↑(s.data.toList.getD (↑k : Int).toNat (0 : UInt8)).toNat : Int)) (.r ((↑k : Int) + 1) (.g [0, 1] (k + 1) [.a (vI ((↑k : Int) + 1))])) (.o 0 [0, 1] [.a (vI (↑k : Int))]))))) (.h
 (s.data.toList.length ≤ 9223372036854775807) (.y false (.o 0 [0, 1] [.a (vI (↑k : Int))])))))) (.y false (.h (s.data.toList.length ≤ 9223372036854775807) (.y false (.o 0 [0, 1]
 [.a (vI (↑k : Int))])))))) (by
  intro k h; try dsimp only [teasy, nthW, lc_sAtomLa] at h ⊢
  have g1 := @pst_goR s k
  have g2 := @pst_stopR s k
  with_reducible repeat' (first | apply And.intro | exact zR | (intro; skip) | apply c_sNumD | apply c_sSyD)
  all_goals (try simp only [std, inj] at *)
  all_goals with_reducible repeat' apply And.intro
  all_goals (try (first | with_reducible apply c_sNumD | with_reducible apply c_sSyD | (simp only [← List.map_append]; first | with_reducible apply c_sNumD | with_reducible apply c_sSyD)))
  all_goals (try (first | exact z | grind [byt, snocI, snocS, rowSnoc])))
theorem c_sAtom (s : ByteArray) (a : Nat) (h : a ≤ s.size ∧ s.size ≤ 15000 ∧ (atomO (sbs s a (pst isRu s a))).isSome = true)  : P_c_sAtom s a := fnOK Tryz.call77 Tryz.func77 (.l
 (lc_sAtomLa s a) (Sc_sAtomLa s a h) [0, 1] [.a (vI (↑a : Int))] a (.t (.w (.draw []) (.p (0 ≤ (↑a : Int)) (.p (0 ≤ (↑(pst isRu s a) : Int)) (.p ((↑a : Int).toNat ≤ (↑(pst isRu s
 a) : Int).toNat ∧ (↑(pst isRu s a) : Int).toNat ≤ s.data.toList.length) (.c [.rd] (c_sPNum (ByteArray.mk (List.take ((↑(pst isRu s a) : Int).toNat - (↑a : Int).toNat) (List.drop
 (↑a : Int).toNat s.data.toList)).toArray)) (.b (isNum (ByteArray.mk (List.take ((↑(pst isRu s a) : Int).toNat - (↑a : Int).toNat) (List.drop (↑a : Int).toNat
 s.data.toList)).toArray)) (.d [.rd] (P_c_sNumD (numV (ByteArray.mk (List.take ((↑(pst isRu s a) : Int).toNat - (↑a : Int).toNat) (List.drop (↑a : Int).toNat
 s.data.toList)).toArray))) (.w (.ghost (.nilbox 1 3 true 4)) (.f [2] [Ob.box [vS s, vI (↑(pst isRu s a) : Int), vB false], Ob.arr true 4 []] (AV.sv (SV.agg [vI 2, vI (numV
 (ByteArray.mk (List.take ((↑(pst isRu s a) : Int).toNat - (↑a : Int).toNat) (List.drop (↑a : Int).toNat s.data.toList)).toArray)), vS (mkS []), AC.ref 1]))))) (.i (List.take
 ((↑(pst isRu s a) : Int).toNat - (↑a : Int).toNat) (List.drop (↑a : Int).toNat s.data.toList) = [(35 : UInt8), (116 : UInt8)]) (.y true (.c [.rd] (c_sBooD (decide (List.take
 ((↑(pst isRu s a) : Int).toNat - (↑a : Int).toNat) (List.drop (↑a : Int).toNat s.data.toList) = [(35 : UInt8), (116 : UInt8)]))) (.w (.ghost (.nilbox 1 3 true 4)) (.f [2] [Ob.box
 [vS s, vI (↑(pst isRu s a) : Int), vB false], Ob.arr true 4 []] (AV.sv (SV.agg [vI 3, vI (if decide (List.take ((↑(pst isRu s a) : Int).toNat - (↑a : Int).toNat) (List.drop (↑a :
 Int).toNat s.data.toList) = [(35 : UInt8), (116 : UInt8)]) = true then 1 else 0), vS (mkS []), AC.ref 1])))))) (.i (List.take ((↑(pst isRu s a) : Int).toNat - (↑a : Int).toNat)
 (List.drop (↑a : Int).toNat s.data.toList) = [(35 : UInt8), (102 : UInt8)]) (.c [.rd] (c_sBooD (decide (List.take ((↑(pst isRu s a) : Int).toNat - (↑a : Int).toNat) (List.drop (↑a
 : Int).toNat s.data.toList) = [(35 : UInt8), (116 : UInt8)]))) (.w (.ghost (.nilbox 1 3 true 4)) (.f [2] [Ob.box [vS s, vI (↑(pst isRu s a) : Int), vB false], Ob.arr true 4 []]
 (AV.sv (SV.agg [vI 3, vI (if decide (List.take ((↑(pst isRu s a) : Int).toNat - (↑a : Int).toNat) (List.drop (↑a : Int).toNat s.data.toList) = [(35 : UInt8), (116 : UInt8)]) =
 true then 1 else 0), vS (mkS []), AC.ref 1]))))) (.c [.rd] (c_sIsSymbol (ByteArray.mk (List.take ((↑(pst isRu s a) : Int).toNat - (↑a : Int).toNat) (List.drop (↑a : Int).toNat
 s.data.toList)).toArray)) (.b (isSym (ByteArray.mk (List.take ((↑(pst isRu s a) : Int).toNat - (↑a : Int).toNat) (List.drop (↑a : Int).toNat s.data.toList)).toArray)) (.d [.rd]
 (P_c_sSyD (ByteArray.mk (List.take ((↑(pst isRu s a) : Int).toNat - (↑a : Int).toNat) (List.drop (↑a : Int).toNat s.data.toList)).toArray)) (.w (.ghost (.nilbox 1 3 true 4)) (.f
 [2] [Ob.box [vS s, vI (↑(pst isRu s a) : Int), vB false], Ob.arr true 4 []] (AV.sv (SV.agg [vI 1, vI 0, vS (ByteArray.mk (List.take ((↑(pst isRu s a) : Int).toNat - (↑a :
 Int).toNat) (List.drop (↑a : Int).toNat s.data.toList)).toArray), AC.ref 1]))))) (.w (.ghost (.nilbox 1 3 true 4)) (.f [2] [Ob.box [vS s, vI (↑(pst isRu s a) : Int), vB true],
 Ob.arr true 4 []] (AV.sv (SV.agg [vI 0, vI 0, vS (ByteArray.mk #[]), AC.ref 1])))))))))))))) .q)) (by
  dsimp only [teasy, P_c_sAtom, nthW, lc_sAtomLa]
  have g0 : atomO (sbs s a (pst isRu s a)) = some (atG (sbs s a (pst isRu s a))) := by obtain ⟨d, e⟩ := Option.isSome_iff_exists.1 h.2.2; unfold atG; rw [e]; rfl
  have g1 := @atm_num (sbs s a (pst isRu s a)) (atG (sbs s a (pst isRu s a))) g0
  have g2 := @atm_t (sbs s a (pst isRu s a)) (atG (sbs s a (pst isRu s a))) g0
  have g3 := @atm_f (sbs s a (pst isRu s a)) (atG (sbs s a (pst isRu s a))) g0
  have g4 := @atm_s (sbs s a (pst isRu s a)) (atG (sbs s a (pst isRu s a))) g0
  have g5 := @num_range (sbs s a (pst isRu s a))
  have g7 := @pst_rs isRu s a
  have g8 := sbs_tx s a (pst isRu s a)
  have g9 := sbs_mk s a (pst isRu s a)
  with_reducible repeat' (first | apply And.intro | exact zR | (intro; skip) | apply c_sNumD | apply c_sSyD)
  all_goals (try simp only [std, inj] at *)
  all_goals with_reducible repeat' apply And.intro
  all_goals (try (first | with_reducible apply c_sNumD | with_reducible apply c_sSyD | (simp only [← List.map_append]; first | with_reducible apply c_sNumD | with_reducible apply c_sSyD)))
  all_goals (try (first | exact z | grind [snocI, snocS, rowSnoc])))
theorem len_sizeD : ∀ L : List Datum, L.length ≤ sumBy sizeD L
  | [] => Nat.le_refl _
  | x :: r => by have := len_sizeD r; have := sizeD_eq x; simp only [List.length_cons, sumBy]; omega
theorem noc0 {d : Datum} {s : ByteArray} {a : Nat} (h : a ≤ s.size) (hd : okR d s a = true) (hb : byt s (sk s a) = 40) : noc s (sk s a + 1) = true := by
  have := (rdl h hd hb (Nat.zero_le _)).2.1
  rwa [rdl0 h hd] at this
theorem atm_items {t : ByteArray} {d : Datum} (h : atomO t = some d) : d.items = [] := by
  unfold atomO at h
  repeat' split at h
  all_goals first | (cases Option.some.inj h; rfl) | cases h
theorem items_one {d : Datum} (h : d.items = []) : sizeD d = 1 := by rw [sizeD_eq, h]; rfl
def dfD : Datum := default
abbrev P_c_sReadX (s : ByteArray) (n : Int) : Ct := ⟨40, [.box [vS s, vI n, vB false]], [.one (.ptr 0 0)], .box [vS s, vI n, vB false] :: datumO dfD, .sv (datumR dfD 1)⟩
theorem c_sReadX (s : ByteArray) (n : Int) (h : n < n) : OK (P_c_sReadX s n) := absurd h (Int.lt_irrefl n)
abbrev P_c_iReadX (s : ByteArray) (n q : Int) : Ct := ⟨48, [.box [vS s, vI n, vI q]], [.one (.ptr 0 0)], .box [vS s, vI n, vI q] :: datumO dfD, .tup [datumR dfD 1, lb true]⟩
theorem c_iReadX (s : ByteArray) (n q : Int) (h : n < n) : OK (P_c_iReadX s n q) := absurd h (Int.lt_irrefl n)
abbrev P_c_sReadD (s : ByteArray) (a : Nat) (d : Datum) : Ct := ⟨40, [.box [vS s, vI (sk s (atR d a) : Nat), vB false]], [.one (.ptr 0 0)], .box [vS s, vI (enR d s a : Nat), vB false] :: datumO d, .sv (datumR d 1)⟩
def lc_sReadD_sLb (s : ByteArray) (a : Nat) (d : Datum) : Lp Nat := .mk 228 1 (fun x => [(0, SV.one (AC.ptr 0 0)), (2, SV.one (AC.ptr 1 0)), (4, SV.one (AC.ptr 2 0))]) (fun x =>
 [Ob.box [vS s, ha x 0, vB false], Ob.box [vI 0, vI 0, vS (ByteArray.mk #[]), AC.val (Cell.lit (Value.slice none 0 0))], Ob.box [vI 0, vI 0, vS (ByteArray.mk #[]), AC.ref 3], ho x
 1]) (fun k => [.a (vI (↑(sk s (atR (d.items.getD k default) (enP (List.take k d.items) s (sk s a + 1)))) : Int)), .o (Ob.arr true 4 (List.map datumC (List.take k d.items)))]) (fun
 k => k ≤ d.items.length ∧ d.items.length ≤ 9223372036854775807 ∧ a ≤ s.size ∧ s.size ≤ 15000 ∧ okR d s a = true ∧ byt s (sk s a) = 40 ∧ sizeD d ≤ 600) (fun k => d.items.length -
 k) [.mk True (.exit 3) (fun x => [(0, SV.one (AC.ptr 0 0)), (2, SV.one (AC.ptr 1 0)), (4, SV.one (AC.ptr 2 0))]) (fun x => [Ob.box [vS s, ha x 0, vB false], Ob.box [vI 0, vI 0, vS
 (ByteArray.mk #[]), AC.val (Cell.lit (Value.slice none 0 0))], Ob.box [vI 0, vI 0, vS (ByteArray.mk #[]), AC.ref 3], ho x 1]) [.a (vI (↑(sk s (enP d.items s (sk s a + 1))) :
 Int)), .o (Ob.arr true 4 (List.map datumC d.items))]]
def lc_sReadD_sLa (s : ByteArray) (a : Nat) (d : Datum) : Lp Nat := .mk 228 1 (fun x => [(0, SV.one (AC.ptr 0 0)), (2, SV.one (AC.ptr 1 0)), (3, hs x 1)]) (fun x => [Ob.box [vS s,
 ha x 0, vB false], Ob.box [vI 0, vI 0, vS (ByteArray.mk #[]), AC.val (Cell.lit (Value.slice none 0 0))]]) (fun k => [.a (vI (↑k : Int)), .s (li (↑(sk s a + 1) : Int))]) (fun k =>
 sk s a + 1 ≤ k ∧ k ≤ s.size ∧ pst noQ s k = pst noQ s (sk s a + 1)) (fun k => s.size - k) [.mk True (.exit 1) (fun x => [(0, SV.one (AC.ptr 0 0)), (2, SV.one (AC.ptr 1 0)), (3, hs
 x 1)]) (fun x => [Ob.box [vS s, ha x 0, vB false], Ob.box [vI 0, vI 0, vS (ByteArray.mk #[]), AC.val (Cell.lit (Value.slice none 0 0))]]) [.a (vI (↑(pst noQ s (sk s a + 1)) :
 Int)), .s (li (↑(sk s a + 1) : Int))]]
theorem Sc_sReadD_sLb (s : ByteArray) (a : Nat) (d : Datum) (h : a ≤ s.size ∧ s.size ≤ 15000 ∧ okR d s a = true ∧ sizeD d ≤ 600) (ih : ∀ (z : Datum), z ∈ d.items → ∀ (s :
 ByteArray) (a : Nat), a ≤ s.size ∧ s.size ≤ 15000 ∧ okR z s a = true ∧ sizeD z ≤ 600 → OK (P_c_sReadD s a z)) : Lp.Sem Tryz.prog (loopAt Tryz.f40 1) (lc_sReadD_sLb s a d) := lpOK
 (fun k => .w (.draw []) (.y true (.i ((↑(sk s (atR (d.items.getD k default) (enP (List.take k d.items) s (sk s a + 1)))) : Int) < (↑s.data.toList.length : Int)) (.p (0 ≤ (↑(sk s
 (atR (d.items.getD k default) (enP (List.take k d.items) s (sk s a + 1)))) : Int) ∧ (↑(sk s (atR (d.items.getD k default) (enP (List.take k d.items) s (sk s a + 1)))) : Int).toNat
 < s.data.toList.length) (.h (s.data.toList.length ≤ 9223372036854775807) (.i ((↑(s.data.toList.getD (↑(sk s (atR (d.items.getD k default) (enP (List.take k d.items) s (sk s a +
 1)))) : Int).toNat (0 : UInt8)).toNat : Int) ≠ 41) (.w (.draw [(3, [0]), (4, [5]), (5, [3, 12]), (7, [2])]) (.d [.ptr] (P_c_sReadD s (enP (List.take k d.items) s (sk s a + 1))
 (d.items.getD k default)) (.p (((List.map datumC (List.take k d.items)).length + 1) * 56 ≤ 140737488355328) (.d [.ptr] (P_c_sSkip s (enR (d.items.getD k default) s (enP (List.take
 k d.items) s (sk s a + 1))) false) (.g [0, 1, 2, 13] (k + 1) [.a (vI (↑(sk s (enR (d.items.getD k default) s (enP (List.take k d.items) s (sk s a + 1)))) : Int)), .o (Ob.arr true
 4 (List.map datumC (List.take k d.items) ++ [datumF (d.items.getD k default)]))]))))) (.o 0 [0, 1, 2, 3] [.a (vI (↑(sk s (atR (d.items.getD k default) (enP (List.take k d.items) s
 (sk s a + 1)))) : Int)), .o (Ob.arr true 4 (List.map datumC (List.take k d.items)))])))) (.h (s.data.toList.length ≤ 9223372036854775807) (.y false (.o 0 [0, 1, 2, 3] [.a (vI
 (↑(sk s (atR (d.items.getD k default) (enP (List.take k d.items) s (sk s a + 1)))) : Int)), .o (Ob.arr true 4 (List.map datumC (List.take k d.items)))])))))) (by
  intro k h; try dsimp only [teasy, nthW, lc_sReadD_sLb] at h ⊢
  have hq := h
  obtain ⟨q1, q2, q3, q4, q5, q6, q7⟩ := hq
  have g7 := sizeD_eq d
  have g8 := len_sizeD d.items
  have g9 := @sumBy_mem _ sizeD d.items (d.items.getD k default)
  have g4 := @rdl d s a q3 q5 q6 k q1
  have g5 : k < d.items.length → _ := fun hk => @rdl d s a q3 q5 q6 (k + 1) hk
  with_reducible repeat' (first | apply And.intro | exact zR | exact ih | (intro; skip) | apply c_sSkip | apply c_sAtom | apply c_sStD | apply c_sSyD | apply c_sReadX | apply ih)
  all_goals (try simp only [std, inj] at *)
  all_goals with_reducible repeat' apply And.intro
  all_goals (try (first | with_reducible apply c_sSkip | with_reducible apply c_sAtom | with_reducible apply c_sStD | with_reducible apply c_sSyD | with_reducible apply c_sReadX | with_reducible apply ih | (simp only [← List.map_append]; first | with_reducible apply c_sSkip | with_reducible apply c_sAtom | with_reducible apply c_sStD | with_reducible apply c_sSyD | with_reducible apply c_sReadX | with_reducible apply ih)))
  all_goals (try (first | exact z | grind [byt, atR, take_get, getD_mem', snocI, snocS, rowSnoc])))
theorem Sc_sReadD_sLa (s : ByteArray) (a : Nat) (d : Datum) (h : a ≤ s.size ∧ s.size ≤ 15000 ∧ okR d s a = true ∧ sizeD d ≤ 600) (ih : ∀ (z : Datum), z ∈ d.items → ∀ (s :
 ByteArray) (a : Nat), a ≤ s.size ∧ s.size ≤ 15000 ∧ okR z s a = true ∧ sizeD z ≤ 600 → OK (P_c_sReadD s a z)) : Lp.Sem Tryz.prog (loopAt Tryz.f40 0) (lc_sReadD_sLa s a d) := lpOK
 (fun k => .w (.draw []) (.i ((↑k : Int) < (↑s.data.toList.length : Int)) (.p (0 ≤ (↑k : Int) ∧ (↑k : Int).toNat < s.data.toList.length) (.h (s.data.toList.length ≤
 9223372036854775807) (.i ((↑(s.data.toList.getD (↑k : Int).toNat (0 : UInt8)).toNat : Int) ≠ 34) (.r ((↑k : Int) + 1) (.g [0, 1] (k + 1) [.a (vI ((↑k : Int) + 1)), .s (li (↑(sk s
 a + 1) : Int))])) (.o 0 [0, 1] [.a (vI (↑k : Int)), .s (li (↑(sk s a + 1) : Int))])))) (.h (s.data.toList.length ≤ 9223372036854775807) (.y false (.o 0 [0, 1] [.a (vI (↑k : Int)),
 .s (li (↑(sk s a + 1) : Int))]))))) (by
  intro k h; try dsimp only [teasy, nthW, lc_sReadD_sLa] at h ⊢
  have g1 := @pst_goQ s k
  have g2 := @pst_stopQ s k
  with_reducible repeat' (first | apply And.intro | exact zR | exact ih | (intro; skip) | apply c_sSkip | apply c_sAtom | apply c_sStD | apply c_sSyD | apply c_sReadX)
  all_goals (try simp only [std, inj] at *)
  all_goals with_reducible repeat' apply And.intro
  all_goals (try (first | with_reducible apply c_sSkip | with_reducible apply c_sAtom | with_reducible apply c_sStD | with_reducible apply c_sSyD | with_reducible apply c_sReadX | with_reducible apply ih | (simp only [← List.map_append]; first | with_reducible apply c_sSkip | with_reducible apply c_sAtom | with_reducible apply c_sStD | with_reducible apply c_sSyD | with_reducible apply c_sReadX | with_reducible apply ih)))
  all_goals (try (first | exact z | grind [byt, snocI, snocS, rowSnoc])))
theorem c_sReadD_s (s : ByteArray) (a : Nat) (d : Datum) (h : a ≤ s.size ∧ s.size ≤ 15000 ∧ okR d s a = true ∧ sizeD d ≤ 600) (ih : ∀ z ∈ d.items, ∀ (s : ByteArray) (a : Nat) (h :
 a ≤ s.size ∧ s.size ≤ 15000 ∧ okR z s a = true ∧ sizeD z ≤ 600), P_c_sReadD s a z)  : P_c_sReadD s a d := fnOK Tryz.call40 Tryz.func40 (let v1 := (↑(pst noQ s (sk s a + 1)) : Int);
 let v12 := (sk s (atR d a)); let v2 := (↑(sk s v12) : Int); let v3 := (AV.sv (SV.agg [vI 0, vI 0, vS (ByteArray.mk #[]), AC.ref 1])); let v4 := (↑(sk s a + 1) : Int); let v5 :=
 (atG (sbs s (sk s v12) (pst isRu s (sk s v12)))); let v6 := (s.data.toList.length ≤ 9223372036854775807); let v7 := (↑(s.data.toList.getD v2.toNat (0 : UInt8)).toNat : Int); let
 v8 := (ByteArray.mk (List.take ((v1 + 1 - 1).toNat - v4.toNat) (List.drop v4.toNat s.data.toList)).toArray); let v9 := (↑(sk s (enP d.items s (sk s a + 1))) : Int); let v10 :=
 (ByteArray.mk (List.take (v1.toNat - v4.toNat) (List.drop v4.toNat s.data.toList)).toArray); let v11 := (ByteArray.mk #[(113 : UInt8), (117 : UInt8), (111 : UInt8), (116 : UInt8),
 (101 : UInt8)]); .d [.ptr] (P_c_sSkip s v12 false) (.w (.draw []) (.y false (.i ((↑s.data.toList.length : Int) ≤ v2) (.h v6 (.y true (.w (.ghost (.nilbox 1 3 true 4)) (.f [2]
 [Ob.box [vS s, vI v2, vB true], Ob.arr true 4 []] v3)))) (.p (0 ≤ v2 ∧ v2.toNat < s.data.toList.length) (.h v6 (.i (v7 = 41) (.w (.ghost (.nilbox 1 3 true 4)) (.f [2] [Ob.box [vS
 s, vI v2, vB true], Ob.arr true 4 []] v3)) (.w (.draw []) (.p (0 ≤ v2 ∧ v2.toNat < s.data.toList.length) (.i (v7 = 39) (.r (v2 + 1) (.d [.rd] (P_c_sSyD v11) (.d [.ptr] (P_c_sReadX
 s (v2 + 1)) (.f [4] [Ob.box [vS s, vI (v2 + 1), vB false], Ob.arr true 4 [[cI 1, cI 0, cS v11, Cell.list []], [cI dfD.kind, cI dfD.number, cS dfD.text, Cell.list []]]] v3)))) (.i
 (v7 = 34) (.r (v2 + 1) (.l (lc_sReadD_sLa s a d) (Sc_sReadD_sLa s a d h ih) [0, 1] [.a (vI (v2 + 1)), .s (li (v2 + 1))] (sk s a + 1) (.t (.w (.draw []) (.i ((↑s.data.toList.length
 : Int) ≤ v1) (.h v6 (.y true (.w (.ghost (.nilbox 1 3 true 4)) (.f [2] [Ob.box [vS s, vI v1, vB true], Ob.arr true 4 []] v3)))) (.p (0 ≤ v4) (.p (0 ≤ v1) (.p (v4.toNat ≤ v1.toNat
 ∧ v1.toNat ≤ s.data.toList.length) (.c [.rd] (c_sString v10) (.h v6 (.b (!isStr v10) (.w (.ghost (.nilbox 1 3 true 4)) (.f [2] [Ob.box [vS s, vI v1, vB true], Ob.arr true 4 []]
 v3)) (.r (v1 + 1) (.w (.draw [(12, [1])]) (.r (v1 + 1 - 1) (.p (0 ≤ v4) (.p (0 ≤ v1 + 1 - 1) (.p (v4.toNat ≤ (v1 + 1 - 1).toNat ∧ (v1 + 1 - 1).toNat ≤ s.data.toList.length) (.d
 [.rd] (P_c_sStD v8) (.w (.ghost (.nilbox 1 3 true 4)) (.f [2] [Ob.box [vS s, vI (v1 + 1), vB false], Ob.arr true 4 []] (AV.sv (SV.agg [vI 4, vI 0, vS v8, AC.ref
 1]))))))))))))))))))) .q))) (.i (v7 = 40) (.r (v2 + 1) (.d [.ptr] (P_c_sSkip s (sk s v12 + 1) false) (.w (.ghost (.nilbox 2 3 true 4)) (.l (lc_sReadD_sLb s a d) (Sc_sReadD_sLb s a
 d h ih) [0, 1, 2, 3] [.a (vI (↑(sk s (sk s v12 + 1)) : Int)), .o (Ob.arr true 4 [])] 0 (.t (.w (.draw [(19, [0])]) (.y false (.h v6 (.r (v9 + 1) (.f [3] [Ob.box [vS s, vI (v9 +
 1), vB (decide ((↑s.data.toList.length : Int) ≤ v9))], Ob.arr true 4 (List.map datumC d.items)] v3))))) .q))))) (.d [.ptr] (P_c_sAtom s (sk s v12)) (.f [3] [Ob.box [vS s, vI
 (↑(pst isRu s (sk s v12)) : Int), vB false], Ob.arr true 4 (List.map datumC v5.items)] (AV.sv (SV.agg [vI v5.kind, vI v5.number, vS v5.text, AC.ref 1])))))))))))))))) (by
  dsimp only [teasy, P_c_sReadD, nthW, lc_sReadD_sLa, lc_sReadD_sLb]
  have g1 := @rd_hd d s a
  have g2 := @rd_list d s a
  have g3 := @rd_str d s a
  have g4 := @rd_atm d s a
  have g5 := @rdl0 d s a
  have g6 := @sk_le s a
  have e0 : sk s (atR d a) = sk s a := rfl
  have g9 := @noc0 d s a
  have g17 : atomO (sbs s (sk s a) (pst isRu s (sk s a))) = some d → atG (sbs s (sk s a) (pst isRu s (sk s a))) = d := fun q => by unfold atG; rw [q]; rfl
  have g10 : enR d s a ≤ s.size := (enR_rs h.1 h.2.2.1).2.2
  have g11 : d.items.length ≤ 600 := by have := sizeD_eq d; have := len_sizeD d.items; have := h.2.2.2; omega
  have e1 : sk s (sk s (atR d a)) = sk s a := sk_idem h.1
  have g7 : sk s a + 1 ≤ s.size → sk s a + 1 ≤ pst noQ s (sk s a + 1) ∧ pst noQ s (sk s a + 1) ≤ s.size := fun q => (pst_rs noQ q).2
  have g8 : sk s a ≤ s.size → sk s a ≤ pst isRu s (sk s a) ∧ pst isRu s (sk s a) ≤ s.size := fun q => (pst_rs isRu q).2
  with_reducible repeat' (first | apply And.intro | exact zR | exact ih | (intro; skip) | apply c_sSkip | apply c_sAtom | apply c_sStD | apply c_sSyD | apply c_sReadX)
  all_goals (try simp only [std, inj] at *)
  all_goals with_reducible repeat' apply And.intro
  all_goals (try (first | with_reducible apply c_sSkip | with_reducible apply c_sAtom | with_reducible apply c_sStD | with_reducible apply c_sSyD | with_reducible apply c_sReadX | with_reducible apply ih | (simp only [← List.map_append]; first | with_reducible apply c_sSkip | with_reducible apply c_sAtom | with_reducible apply c_sStD | with_reducible apply c_sSyD | with_reducible apply c_sReadX | with_reducible apply ih)))
  all_goals (try (first | exact z | grind [byt, atR, snocI, snocS, rowSnoc])))
theorem c_sReadD (d : Datum) : ∀ (s : ByteArray) (a : Nat) (h : a ≤ s.size ∧ s.size ≤ 15000 ∧ okR d s a = true ∧ sizeD d ≤ 600), P_c_sReadD s a d := Datum.ind (P := fun d => ∀ (s : ByteArray) (a : Nat) (h : a ≤ s.size ∧ s.size ≤ 15000 ∧ okR d s a = true ∧ sizeD d ≤ 600), P_c_sReadD s a d) (fun d ih s a h => c_sReadD_s s a d h ih) d
theorem rds_step {L : List Datum} {s : ByteArray} {k : Nat} (h : rdsB L s = true) (hk : k < L.length) :
    okR (L.getD k default) s (enP (L.take k) s 0) = true ∧ enP (L.take (k + 1)) s 0 = enR (L.getD k default) s (enP (L.take k) s 0) ∧ enP (L.take k) s 0 ≤ s.size ∧ sk s (enP (L.take k) s 0) < s.size ∧ noc s (enP (L.take k) s 0) = true := by
  simp only [rdsB, Bool.and_eq_true, decide_eq_true_eq] at h
  have h1 := okP_step (Nat.zero_le _) h.1.1.1.1 hk
  have h2 := (enP_rs (Nat.zero_le _) (okP_take (k := k) (Nat.zero_le _) h.1.1.1.1)).2.2
  have h3 := okR_cases h2 h1.1
  exact ⟨h1.1, h1.2, h2, h3.2.1, h3.1⟩
theorem noc_end {s : ByteArray} {a : Nat} (h : sk s a = s.size) : noc s a = true := by simp [noc, h]
theorem rds_end {L : List Datum} {s : ByteArray} (h : rdsB L s = true) : sk s (enP L s 0) = s.size ∧ enP L s 0 ≤ s.size ∧ noc s (enP L s 0) = true ∧ L.all isDat = true ∧ sumBy sizeD L ≤ 600 ∧ s.size ≤ 15000 ∧ L.length ≤ 600 := by
  simp only [rdsB, Bool.and_eq_true, decide_eq_true_eq] at h
  exact ⟨h.1.1.1.2, (enP_rs (Nat.zero_le _) h.1.1.1.1).2.2, noc_end h.1.1.1.2, h.1.1.2, h.1.2, h.2, Nat.le_trans (len_sizeD L) h.1.2⟩
theorem rds_at {L : List Datum} {s : ByteArray} {k : Nat} (h : rdsB L s = true) (hk : k ≤ L.length) : enP (L.take k) s 0 ≤ s.size ∧ noc s (enP (L.take k) s 0) = true ∧ (k = L.length → sk s (enP (L.take k) s 0) = s.size) := by
  rcases Nat.lt_or_eq_of_le hk with hl | rfl
  · have := rds_step h hl; exact ⟨this.2.2.1, this.2.2.2.2, fun e => by omega⟩
  · have := rds_end h; rw [List.take_length]; exact ⟨this.2.1, this.2.2.1, fun _ => this.1⟩
theorem rds_zero {L : List Datum} {s : ByteArray} : enP (L.take 0) s 0 = 0 := enP_nil s (Nat.zero_le _)
theorem rds_noc0 {L : List Datum} {s : ByteArray} (h : rdsB L s = true) : noc s 0 = true := by
  cases L with
  | nil => have := (rds_end h).2.2.1; rwa [enP_nil s (Nat.zero_le _)] at this
  | cons x l => have := (rds_step (k := 0) h (by simp)).2.2.2.2; rwa [rds_zero] at this
def areD (L : List Datum) : Bool := L.all isDat && decide ((sumBy sizeD L : Int) ≤ 600)
abbrev P_c_sCntD (d : Datum) : Ct := ⟨79, [], [datumA d], [], .sv (li (sizeD d : Nat))⟩
def lc_sCntD_sLa (d : Datum) : Lp Nat := .mk 19 0 (fun x => [(3, hs x 1), (7, ll (List.map datumC d.items)), (8, li (↑(List.map datumC d.items).length : Int)), (9, hs x 0)]) (fun x
 => []) (fun k => [.s (li (↑k : Int)), .s (li (↑(1 + sumBy sizeD (List.take k d.items)) : Int))]) (fun k => k ≤ d.items.length ∧ d.items.length ≤ 9223372036854775807) (fun k =>
 d.items.length - k) [.mk True (.exit 0) (fun x => [(3, hs x 0)]) (fun x => []) [.s (li (↑(1 + sumBy sizeD d.items) : Int))]]
theorem Sc_sCntD_sLa (d : Datum) (h : sizeD d ≤ 2147483647) (ih : ∀ (z : Datum), z ∈ d.items → sizeD z ≤ 2147483647 → OK (P_c_sCntD z)) : Lp.Sem Tryz.prog (loopAt Tryz.f79 0)
 (lc_sCntD_sLa d) := lpOK (fun k => .i ((↑k : Int) < (↑(List.map datumC d.items).length : Int)) (.x (↑k : Int) (List.map datumC d.items) (datumF (d.items.getD k default)) (.d [.rd]
 (P_c_sCntD (d.items.getD k default)) (.r ((↑(1 + sumBy sizeD (List.take k d.items)) : Int) + (↑(sizeD (d.items.getD k default)) : Int)) (.r ((↑k : Int) + 1) (.g [] (k + 1) [.s (li
 ((↑k : Int) + 1)), .s (li ((↑(1 + sumBy sizeD (List.take k d.items)) : Int) + (↑(sizeD (d.items.getD k default)) : Int)))]))))) (.o 0 [] [.s (li (↑(1 + sumBy sizeD (List.take k
 d.items)) : Int))])) (by
  intro k h; try dsimp only [teasy, nthW, lc_sCntD_sLa] at h ⊢
  have g2 := @sumBy_mem _ sizeD d.items (d.items.getD k default)
  have g3 := @sumBy_step _ _ sizeD d.items k
  have g4 := sumBy_takeLe sizeD d.items (k + 1)
  have g6 := sizeD_eq d
  have g7 : d.items.length ≤ k → d.items.take k = d.items := fun h => List.take_of_length_le h
  with_reducible repeat' (first | apply And.intro | exact zR | exact ih | (intro; skip) | apply ih)
  all_goals (try simp only [std, inj] at *)
  all_goals with_reducible repeat' apply And.intro
  all_goals (try (first | with_reducible apply ih | (simp only [← List.map_append]; first | with_reducible apply ih)))
  all_goals (try (first | exact z | grind [getD_mem', snocI, snocS, rowSnoc])))
theorem c_sCntD_s (d : Datum) (h : sizeD d ≤ 2147483647) (ih : ∀ z ∈ d.items, ∀ (h : sizeD z ≤ 2147483647), P_c_sCntD z)  : P_c_sCntD d := fnOK Tryz.call79 Tryz.func79 (.z datumC
 d.items (.l (lc_sCntD_sLa d) (Sc_sCntD_sLa d h ih) [] [.s (li 0), .s (li 1)] 0 (.t (.s (li (↑(1 + sumBy sizeD d.items) : Int))) .q))) (by
  dsimp only [teasy, P_c_sCntD, nthW, lc_sCntD_sLa]
  have g6 := sizeD_eq d
  have g7 : sumBy sizeD (d.items.take 0) = 0 := rfl
  with_reducible repeat' (first | apply And.intro | exact zR | exact ih | (intro; skip))
  all_goals (try simp only [std, inj] at *)
  all_goals with_reducible repeat' apply And.intro
  all_goals (try (first | with_reducible apply ih | (simp only [← List.map_append]; first | with_reducible apply ih)))
  all_goals (try (first | exact z | grind [snocI, snocS, rowSnoc])))
theorem c_sCntD (d : Datum) : ∀ (h : sizeD d ≤ 2147483647), P_c_sCntD d := Datum.ind (P := fun d => ∀ (h : sizeD d ≤ 2147483647), P_c_sCntD d) (fun d ih h => c_sCntD_s d h ih) d
abbrev P_c_sAreD (L : List Datum) : Ct := ⟨41, [], [ll (L.map datumC)], [], .sv (lb (areD L))⟩
def lc_sAreDLa (L : List Datum) : Lp Nat := .mk 22 0 (fun x => [(3, hs x 1), (6, ll (List.map datumC L)), (7, li (↑(List.map datumC L).length : Int)), (8, hs x 0)]) (fun x => [])
 (fun k => [.s (li (↑k : Int)), .s (li (↑(sumBy sizeD (List.take k L)) : Int))]) (fun k => k ≤ L.length ∧ L.length ≤ 9223372036854775807 ∧ L.length ≤ 1000000 ∧ (List.take k L).all
 isDat = true ∧ (↑(sumBy sizeD (List.take k L)) : Int) ≤ 600 * (↑k : Int)) (fun k => L.length - k) [.mk (L.all isDat = true) (.exit 0) (fun x => [(3, hs x 0)]) (fun x => []) [.s
 (li (↑(sumBy sizeD L) : Int))], .mk (L.all isDat = false) .ret (fun x => [(2, hs x 0)]) (fun x => []) [.s (lb false)]]
theorem Sc_sAreDLa (L : List Datum) (h : L.length ≤ 1000000) : Lp.Sem Tryz.prog (loopAt Tryz.f41 0) (lc_sAreDLa L) := lpOK (fun k => .i ((↑k : Int) < (↑(List.map datumC L).length :
 Int)) (.x (↑k : Int) (List.map datumC L) (datumF (L.getD k default)) (.c [.rd] (c_sIsDatum (L.getD k default)) (.b (!isDat (L.getD k default)) (.o 1 [] [.s (lb false)]) (.d [.rd]
 (P_c_sCntD (L.getD k default)) (.r ((↑(sumBy sizeD (List.take k L)) : Int) + (↑(sizeD (L.getD k default)) : Int)) (.r ((↑k : Int) + 1) (.g [] (k + 1) [.s (li ((↑k : Int) + 1)), .s
 (li ((↑(sumBy sizeD (List.take k L)) : Int) + (↑(sizeD (L.getD k default)) : Int)))]))))))) (.o 0 [] [.s (li (↑(sumBy sizeD (List.take k L)) : Int))])) (by
  intro k h; try dsimp only [teasy, nthW, lc_sAreDLa] at h ⊢
  have g3 := @sumBy_step _ _ sizeD L k
  have g4 : isDat (L.getD k default) = true → sizeD (L.getD k default) ≤ 600 := fun h => by simp only [isDat, Bool.and_eq_true, decide_eq_true_eq] at h; exact h.1.1
  with_reducible repeat' (first | apply And.intro | exact zR | (intro; skip) | apply c_sCntD)
  all_goals (try simp only [std, inj] at *)
  all_goals with_reducible repeat' apply And.intro
  all_goals (try (first | with_reducible apply c_sCntD | (simp only [← List.map_append]; first | with_reducible apply c_sCntD)))
  all_goals (try (first | exact z | grind [take_get, snocI, snocS, rowSnoc])))
theorem c_sAreD (L : List Datum) (h : L.length ≤ 1000000)  : P_c_sAreD L := fnOK Tryz.call41 Tryz.func41 (.z datumC L (.l (lc_sAreDLa L) (Sc_sAreDLa L h) [] [.s (li 0), .s (li 0)] 0
 (.t (.s (lb (decide ((↑(sumBy sizeD L) : Int) ≤ 600)))) (.t (.s (lb false)) .q)))) (by
  dsimp only [teasy, P_c_sAreD, nthW, lc_sAreDLa]
  with_reducible repeat' (first | apply And.intro | exact zR | (intro; skip) | apply c_sCntD)
  all_goals (try simp only [std, inj] at *)
  all_goals with_reducible repeat' apply And.intro
  all_goals (try (first | with_reducible apply c_sCntD | (simp only [← List.map_append]; first | with_reducible apply c_sCntD)))
  all_goals (try (first | exact z | grind [areD, sumBy, snocI, snocS, rowSnoc])))
abbrev P_c_sPData (L : List Datum) (s : ByteArray) : Ct := ⟨16, [], [ls s], [.arr true 4 (L.map datumC)], .tup [.one (.ref 0), lb true]⟩
def lc_sPDataLa (L : List Datum) (s : ByteArray) : Lp Nat := .mk 49 0 (fun x => [(4, SV.one (AC.ptr 0 0)), (5, SV.one (AC.ref 1))]) (fun x => [Ob.box [vS s, ha x 0, vB false], ho x
 1]) (fun k => [.a (vI (↑(sk s (atR (L.getD k default) (enP (List.take k L) s 0))) : Int)), .o (Ob.arr true 4 (List.map datumC (List.take k L)))]) (fun k => k ≤ L.length ∧ L.length
 ≤ 9223372036854775807 ∧ rdsB L s = true ∧ L.length ≤ 600) (fun k => L.length - k) [.mk True (.exit 0) (fun x => [(4, SV.one (AC.ptr 0 0)), (5, SV.one (AC.ref 1))]) (fun x =>
 [Ob.box [vS s, ha x 0, vB false], ho x 1]) [.a (vI (↑s.size : Int)), .o (Ob.arr true 4 (List.map datumC L))]]
theorem Sc_sPDataLa (L : List Datum) (s : ByteArray) (h : rdsB L s = true) : Lp.Sem Tryz.prog (loopAt Tryz.f16 0) (lc_sPDataLa L s) := lpOK (fun k => .w (.draw []) (.y true (.h
 (s.data.toList.length ≤ 9223372036854775807) (.i ((↑(sk s (atR (L.getD k default) (enP (List.take k L) s 0))) : Int) < (↑s.data.toList.length : Int)) (.d [.ptr] (P_c_sReadD s (enP
 (List.take k L) s 0) (L.getD k default)) (.p (((List.map datumC (List.take k L)).length + 1) * 56 ≤ 140737488355328) (.d [.ptr] (P_c_sSkip s (enR (L.getD k default) s (enP
 (List.take k L) s 0)) false) (.g [0, 5] (k + 1) [.a (vI (↑(sk s (enR (L.getD k default) s (enP (List.take k L) s 0))) : Int)), .o (Ob.arr true 4 (List.map datumC (List.take k L)
 ++ [datumF (L.getD k default)]))])))) (.o 0 [0, 1] [.a (vI (↑(sk s (atR (L.getD k default) (enP (List.take k L) s 0))) : Int)), .o (Ob.arr true 4 (List.map datumC (List.take k
 L)))]))))) (by
  intro k h; try dsimp only [teasy, nthW, lc_sPDataLa] at h ⊢
  have g1 := @rds_step L s k
  have g0 := @rds_at L s (k + 1)
  have g00 := @rds_at L s k
  have g2 := @rds_end L s
  have g3 := @sumBy_mem _ sizeD L (L.getD k default)
  with_reducible repeat' (first | apply And.intro | exact zR | (intro; skip) | apply c_sSkip | apply c_sReadD | apply c_sAreD)
  all_goals (try simp only [std, inj] at *)
  all_goals with_reducible repeat' apply And.intro
  all_goals (try (first | with_reducible apply c_sSkip | with_reducible apply c_sReadD | with_reducible apply c_sAreD | (simp only [← List.map_append]; first | with_reducible apply c_sSkip | with_reducible apply c_sReadD | with_reducible apply c_sAreD)))
  all_goals (try (first | exact z | grind [atR, take_get, getD_mem', snocI, snocS, rowSnoc])))
theorem c_sPData (L : List Datum) (s : ByteArray) (h : rdsB L s = true)  : P_c_sPData L s := fnOK Tryz.call16 Tryz.func16 (.h (s.data.toList.length ≤ 9223372036854775807) (.i (15000
 < (↑s.data.toList.length : Int)) (.w (.ghost (.nilreg 2 true 4)) (.f [0] [Ob.arr true 4 []] (AV.tup [SV.one (AC.ref 0), lb false]))) (.w (.bool false) (.d [.ptr] (P_c_sSkip s 0
 false) (.l (lc_sPDataLa L s) (Sc_sPDataLa L s h) [0, 1] [.a (vI (↑(sk s 0) : Int)), .o (Ob.arr true 4 [])] 0 (.t (.y false (.d [.rd] (P_c_sAreD L) (.b (!areD L) (.w (.ghost
 (.nilreg 2 true 4)) (.f [2] [Ob.arr true 4 []] (AV.tup [SV.one (AC.ref 0), lb false]))) (.f [1] [Ob.arr true 4 (List.map datumC L)] (AV.tup [SV.one (AC.ref 0), lb true])))))
 .q)))))) (by
  dsimp only [teasy, P_c_sPData, nthW, lc_sPDataLa]
  have g1 := @rds_end L s
  have g2 := @rds_zero L s
  have g3 := @rds_noc0 L s
  with_reducible repeat' (first | apply And.intro | exact zR | (intro; skip) | apply c_sSkip | apply c_sReadD | apply c_sAreD)
  all_goals (try simp only [std, inj] at *)
  all_goals with_reducible repeat' apply And.intro
  all_goals (try (first | with_reducible apply c_sSkip | with_reducible apply c_sReadD | with_reducible apply c_sAreD | (simp only [← List.map_append]; first | with_reducible apply c_sSkip | with_reducible apply c_sReadD | with_reducible apply c_sAreD)))
  all_goals (try (first | exact z | grind [atR, areD, snocI, snocS, rowSnoc])))
abbrev P_c_iAtom (t : ByteArray) : Ct := ⟨92, [], [ls t], datumO (atG t), .tup [datumR (atG t) 0, lb true]⟩
theorem c_iAtom (t : ByteArray) (h : (atomO t).isSome = true)  : P_c_iAtom t := fnOK Tryz.call92 Tryz.func92 (.c [.rd] (c_iPNum t) (.b (isNum t) (.w (.ghost (.nilbox 0 3 true 4)) (.f
 [1] [Ob.arr true 4 []] (AV.tup [SV.agg [vI 2, vI (numV t), vS (ByteArray.mk #[]), AC.ref 0], lb true]))) (.i (t.data.toList = [(35 : UInt8), (116 : UInt8)]) (.w (.ghost (.nilbox 0
 3 true 4)) (.f [1] [Ob.arr true 4 []] (AV.tup [SV.agg [vI 3, vI 1, vS (ByteArray.mk #[]), AC.ref 0], lb true]))) (.i (t.data.toList = [(35 : UInt8), (102 : UInt8)]) (.w (.ghost
 (.nilbox 0 3 true 4)) (.f [1] [Ob.arr true 4 []] (AV.tup [SV.agg [vI 3, vI 0, vS (ByteArray.mk #[]), AC.ref 0], lb true]))) (.c [.rd] (c_iIsSymbol t) (.b (isSym t) (.w (.ghost
 (.nilbox 0 3 true 4)) (.f [1] [Ob.arr true 4 []] (AV.tup [SV.agg [vI 1, vI 0, vS t, AC.ref 0], lb true]))) (.w (.ghost (.nilbox 0 3 true 4)) (.f [1] [Ob.arr true 4 []] (AV.tup
 [SV.agg [vI 0, vI 0, vS (ByteArray.mk #[]), AC.ref 0], lb false]))))))))) (by
  dsimp only [teasy, P_c_iAtom]
  have g0 : atomO t = some (atG t) := by obtain ⟨d, e⟩ := Option.isSome_iff_exists.1 h; unfold atG; rw [e]; rfl
  have g1 := @atm_num t (atG t) g0
  have g2 := @atm_t t (atG t) g0
  have g3 := @atm_f t (atG t) g0
  have g4 := @atm_s t (atG t) g0
  with_reducible repeat' (first | apply And.intro | exact zR | (intro; skip) | apply c_iPNum | apply c_iIsSymbol)
  all_goals (try simp only [std, inj] at *)
  all_goals with_reducible repeat' apply And.intro
  all_goals (try (first | with_reducible apply c_iPNum | with_reducible apply c_iIsSymbol | (simp only [← List.map_append]; first | with_reducible apply c_iPNum | with_reducible apply c_iIsSymbol)))
  all_goals (try (first | exact z | grind [snocI, snocS, rowSnoc])))
abbrev P_c_iReadD (s : ByteArray) (a : Nat) (q : Int) (d : Datum) : Ct := ⟨48, [.box [vS s, vI (sk s (atR d a) : Nat), vI q]], [.one (.ptr 0 0)], .box [vS s, vI (enR d s a : Nat), vI (q + sizeD d)] :: datumO d, .tup [datumR d 1, lb true]⟩
def lc_iReadD_sLc (s : ByteArray) (a : Nat) (q : Int) (d : Datum) : Lp Nat := .mk 225 1 (fun x => [(0, SV.one (AC.ptr 0 0)), (2, SV.one (AC.ptr 1 0)), (11, li (↑(sk s (sk s (atR d
 a))) : Int))]) (fun x => [Ob.box [vS s, ha x 0, vI (q + 1)], Ob.box [vI 0, vI 0, vS (ByteArray.mk #[]), AC.val (Cell.lit (Value.slice none 0 0))]]) (fun k => [.a (vI (↑k : Int))])
 (fun k => sk s a ≤ k ∧ k ≤ s.size ∧ pst isRu s k = pst isRu s (sk s a)) (fun k => s.size - k) [.mk True (.exit 5) (fun x => [(0, SV.one (AC.ptr 0 0)), (2, SV.one (AC.ptr 1 0)),
 (11, li (↑(sk s (sk s (atR d a))) : Int))]) (fun x => [Ob.box [vS s, ha x 0, vI (q + 1)], Ob.box [vI 0, vI 0, vS (ByteArray.mk #[]), AC.val (Cell.lit (Value.slice none 0 0))]])
 [.a (vI (↑(pst isRu s (sk s a)) : Int))]]
def lc_iReadD_sLb (s : ByteArray) (a : Nat) (q : Int) (d : Datum) : Lp Nat := .mk 225 1 (fun x => [(0, SV.one (AC.ptr 0 0)), (2, SV.one (AC.ptr 1 0)), (9, hs x 1), (10, hs x 0)])
 (fun x => [Ob.box [vS s, vI (↑(sk s (sk s (atR d a))) : Int), vI (q + 1)], Ob.box [vI 0, vI 0, vS (ByteArray.mk #[]), AC.val (Cell.lit (Value.slice none 0 0))]]) (fun k => [.s (li
 (↑k : Int)), .s (li (↑(sk s a + 1) : Int))]) (fun k => sk s a + 1 ≤ k ∧ k ≤ s.size ∧ pst noQ s k = pst noQ s (sk s a + 1)) (fun k => s.size - k) [.mk (pst noQ s (sk s a + 1) =
 s.size) (.exit 3) (fun x => [(2, SV.one (AC.ptr 1 0))]) (fun x => [Ob.box [vS s, vI (↑(sk s (sk s (atR d a))) : Int), vI (q + 1)], Ob.box [vI 0, vI 0, vS (ByteArray.mk #[]),
 AC.val (Cell.lit (Value.slice none 0 0))]]) [], .mk (pst noQ s (sk s a + 1) < s.size) .ret (fun x => [(2, SV.one (AC.ptr 1 0)), (3, hs x 4)]) (fun x => [Ob.box [vS s, ha x 0, vI
 (q + 1)], Ob.box [ha x 1, ha x 2, ha x 3, AC.val (Cell.lit (Value.slice none 0 0))]]) [.a (vI (↑(pst noQ s (sk s a + 1) + 1) : Int)), .a (vI 4), .a (vI 0), .a (vS (mkS (List.take
 (pst noQ s (sk s a + 1) - (sk s a + 1)) (List.drop (sk s a + 1) s.data.toList)))), .s (lb (isStr (mkS (List.take (pst noQ s (sk s a + 1) - (sk s a + 1)) (List.drop (sk s a + 1)
 s.data.toList)))))]]
def lc_iReadD_sLa (s : ByteArray) (a : Nat) (q : Int) (d : Datum) : Lp Nat := .mk 225 1 (fun x => [(0, SV.one (AC.ptr 0 0)), (2, SV.one (AC.ptr 1 0)), (4, SV.one (AC.ref 2))]) (fun
 x => [Ob.box [vS s, ha x 0, ha x 1], Ob.box [vI 0, vI 0, vS (ByteArray.mk #[]), AC.val (Cell.lit (Value.slice none 0 0))], ho x 2]) (fun k => [.a (vI (↑(atR (d.items.getD k
 default) (enP (List.take k d.items) s (sk s a + 1))) : Int)), .a (vI (q + 1 + (↑(sumBy sizeD (List.take k d.items)) : Int))), .o (Ob.arr true 4 (List.map datumC (List.take k
 d.items)))]) (fun k => k ≤ d.items.length ∧ d.items.length ≤ 9223372036854775807 ∧ a ≤ s.size ∧ s.size ≤ 15000 ∧ okR d s a = true ∧ byt s (sk s a) = 40 ∧ 0 ≤ q ∧ q + (↑(sizeD d) :
 Int) ≤ 600) (fun k => d.items.length - k) [.mk (byt s (sk s a) = 40) .ret (fun x => [(2, SV.one (AC.ptr 1 0)), (3, hs x 6)]) (fun x => [Ob.box [vS s, ha x 0, ha x 1], Ob.box [ha x
 2, ha x 3, ha x 4, AC.ref 2], ho x 5]) [.a (vI (↑(enR d s a) : Int)), .a (vI (q + (↑(sizeD d) : Int))), .a (vI 0), .a (vI 0), .a (vS (mkS [])), .o (Ob.arr true 4 (List.map datumC
 d.items)), .s (lb true)]]
theorem Sc_iReadD_sLc (s : ByteArray) (a : Nat) (q : Int) (d : Datum) (h : a ≤ s.size ∧ s.size ≤ 15000 ∧ okR d s a = true ∧ 0 ≤ q ∧ q + (↑(sizeD d) : Int) ≤ 600) (ih : ∀ (z :
 Datum), z ∈ d.items → ∀ (s : ByteArray) (a : Nat) (q : Int), a ≤ s.size ∧ s.size ≤ 15000 ∧ okR z s a = true ∧ 0 ≤ q ∧ q + (↑(sizeD z) : Int) ≤ 600 → OK (P_c_iReadD s a q z)) :
 Lp.Sem Tryz.prog (loopAt Tryz.f48 2) (lc_iReadD_sLc s a q d) := lpOK (fun k => .w (.draw []) (.i ((↑k : Int) < (↑s.data.toList.length : Int)) (.p (0 ≤ (↑k : Int) ∧ (↑k :
 Int).toNat < s.data.toList.length) (.c [.rd] (c_iEnds (↑(s.data.toList.getD (↑k : Int).toNat (0 : UInt8)).toNat : Int)) (.h (s.data.toList.length ≤ 9223372036854775807) (.b
 (!!isRu (↑(s.data.toList.getD (↑k : Int).toNat (0 : UInt8)).toNat : Int)) (.r ((↑k : Int) + 1) (.g [0, 1] (k + 1) [.a (vI ((↑k : Int) + 1))])) (.o 0 [0, 1] [.a (vI (↑k :
 Int))]))))) (.h (s.data.toList.length ≤ 9223372036854775807) (.y false (.o 0 [0, 1] [.a (vI (↑k : Int))]))))) (by
  intro k h; try dsimp only [teasy, nthW, lc_iReadD_sLc] at h ⊢
  have g1 := @pst_go isRu s k
  have g2 := @pst_stop isRu s k
  with_reducible repeat' (first | apply And.intro | exact zR | exact ih | (intro; skip) | apply c_iSkip | apply c_iAtom | apply c_iString | apply c_iReadX)
  all_goals (try simp only [std, inj] at *)
  all_goals with_reducible repeat' apply And.intro
  all_goals (try (first | with_reducible apply c_iSkip | with_reducible apply c_iAtom | with_reducible apply c_iString | with_reducible apply c_iReadX | with_reducible apply ih | (simp only [← List.map_append]; first | with_reducible apply c_iSkip | with_reducible apply c_iAtom | with_reducible apply c_iString | with_reducible apply c_iReadX | with_reducible apply ih)))
  all_goals (try (first | exact z | grind [byt, snocI, snocS, rowSnoc])))
theorem Sc_iReadD_sLb (s : ByteArray) (a : Nat) (q : Int) (d : Datum) (h : a ≤ s.size ∧ s.size ≤ 15000 ∧ okR d s a = true ∧ 0 ≤ q ∧ q + (↑(sizeD d) : Int) ≤ 600) (ih : ∀ (z :
 Datum), z ∈ d.items → ∀ (s : ByteArray) (a : Nat) (q : Int), a ≤ s.size ∧ s.size ≤ 15000 ∧ okR z s a = true ∧ 0 ≤ q ∧ q + (↑(sizeD z) : Int) ≤ 600 → OK (P_c_iReadD s a q z)) :
 Lp.Sem Tryz.prog (loopAt Tryz.f48 1) (lc_iReadD_sLb s a q d) := lpOK (fun k => .h (s.data.toList.length ≤ 9223372036854775807) (.i ((↑k : Int) < (↑s.data.toList.length : Int)) (.p
 (0 ≤ (↑k : Int) ∧ (↑k : Int).toNat < s.data.toList.length) (.i ((↑(s.data.toList.getD (↑k : Int).toNat (0 : UInt8)).toNat : Int) = 34) (.r ((↑k : Int) + 1) (.w (.draw [(16, [1])])
 (.p (0 ≤ (↑(sk s a + 1) : Int)) (.p (0 ≤ (↑k : Int)) (.p ((↑(sk s a + 1) : Int).toNat ≤ (↑k : Int).toNat ∧ (↑k : Int).toNat ≤ s.data.toList.length) (.p (0 ≤ (↑(sk s a + 1) : Int))
 (.p (0 ≤ (↑k : Int)) (.p ((↑(sk s a + 1) : Int).toNat ≤ (↑k : Int).toNat ∧ (↑k : Int).toNat ≤ s.data.toList.length) (.c [.rd] (c_iString (ByteArray.mk (List.take ((↑k : Int).toNat
 - (↑(sk s a + 1) : Int).toNat) (List.drop (↑(sk s a + 1) : Int).toNat s.data.toList)).toArray)) (.o 1 [0, 1] [.a (vI ((↑k : Int) + 1)), .a (vI 4), .a (vI 0), .a (vS (ByteArray.mk
 (List.take ((↑k : Int).toNat - (↑(sk s a + 1) : Int).toNat) (List.drop (↑(sk s a + 1) : Int).toNat s.data.toList)).toArray)), .s (lb (isStr (ByteArray.mk (List.take ((↑k :
 Int).toNat - (↑(sk s a + 1) : Int).toNat) (List.drop (↑(sk s a + 1) : Int).toNat s.data.toList)).toArray)))])))))))))) (.r ((↑k : Int) + 1) (.g [0, 1] (k + 1) [.s (li ((↑k : Int)
 + 1)), .s (li (↑(sk s a + 1) : Int))])))) (.o 0 [0, 1] []))) (by
  intro k h; try dsimp only [teasy, nthW, lc_iReadD_sLb] at h ⊢
  have g1 := @pst_goQ s k
  have g2 := @pst_stopQ s k
  with_reducible repeat' (first | apply And.intro | exact zR | exact ih | (intro; skip) | apply c_iSkip | apply c_iAtom | apply c_iString | apply c_iReadX)
  all_goals (try simp only [std, inj] at *)
  all_goals with_reducible repeat' apply And.intro
  all_goals (try (first | with_reducible apply c_iSkip | with_reducible apply c_iAtom | with_reducible apply c_iString | with_reducible apply c_iReadX | with_reducible apply ih | (simp only [← List.map_append]; first | with_reducible apply c_iSkip | with_reducible apply c_iAtom | with_reducible apply c_iString | with_reducible apply c_iReadX | with_reducible apply ih)))
  all_goals (try (first | exact z | grind [byt, snocI, snocS, rowSnoc])))
theorem Sc_iReadD_sLa (s : ByteArray) (a : Nat) (q : Int) (d : Datum) (h : a ≤ s.size ∧ s.size ≤ 15000 ∧ okR d s a = true ∧ 0 ≤ q ∧ q + (↑(sizeD d) : Int) ≤ 600) (ih : ∀ (z :
 Datum), z ∈ d.items → ∀ (s : ByteArray) (a : Nat) (q : Int), a ≤ s.size ∧ s.size ≤ 15000 ∧ okR z s a = true ∧ 0 ≤ q ∧ q + (↑(sizeD z) : Int) ≤ 600 → OK (P_c_iReadD s a q z)) :
 Lp.Sem Tryz.prog (loopAt Tryz.f48 0) (lc_iReadD_sLa s a q d) := lpOK (fun k => .d [.ptr] (P_c_iSkip s (atR (d.items.getD k default) (enP (List.take k d.items) s (sk s a + 1))) (q
 + 1 + (↑(sumBy sizeD (List.take k d.items)) : Int))) (.w (.draw []) (.h (s.data.toList.length ≤ 9223372036854775807) (.i ((↑s.data.toList.length : Int) ≤ (↑(sk s (atR
 (d.items.getD k default) (enP (List.take k d.items) s (sk s a + 1)))) : Int)) (.w (.ghost (.nilbox 1 3 true 4)) (.o 0 [0, 1, 3] [.a (vI (↑(sk s (atR (d.items.getD k default) (enP
 (List.take k d.items) s (sk s a + 1)))) : Int)), .a (vI (q + 1 + (↑(sumBy sizeD (List.take k d.items)) : Int))), .a (vI 0), .a (vI 0), .a (vS (ByteArray.mk #[])), .o (Ob.arr true
 4 []), .s (lb false)])) (.w (.draw []) (.p (0 ≤ (↑(sk s (atR (d.items.getD k default) (enP (List.take k d.items) s (sk s a + 1)))) : Int) ∧ (↑(sk s (atR (d.items.getD k default)
 (enP (List.take k d.items) s (sk s a + 1)))) : Int).toNat < s.data.toList.length) (.i ((↑(s.data.toList.getD (↑(sk s (atR (d.items.getD k default) (enP (List.take k d.items) s (sk
 s a + 1)))) : Int).toNat (0 : UInt8)).toNat : Int) = 41) (.r ((↑(sk s (atR (d.items.getD k default) (enP (List.take k d.items) s (sk s a + 1)))) : Int) + 1) (.o 0 [0, 1, 2] [.a
 (vI ((↑(sk s (atR (d.items.getD k default) (enP (List.take k d.items) s (sk s a + 1)))) : Int) + 1)), .a (vI (q + 1 + (↑(sumBy sizeD (List.take k d.items)) : Int))), .a (vI 0), .a
 (vI 0), .a (vS (ByteArray.mk #[])), .o (Ob.arr true 4 (List.map datumC (List.take k d.items))), .s (lb true)])) (.d [.ptr] (P_c_iReadD s (enP (List.take k d.items) s (sk s a + 1))
 (q + 1 + (↑(sumBy sizeD (List.take k d.items)) : Int)) (d.items.getD k default)) (.y false (.p (((List.map datumC (List.take k d.items)).length + 1) * 56 ≤ 140737488355328) (.g
 [0, 1, 7] (k + 1) [.a (vI (↑(enR (d.items.getD k default) s (enP (List.take k d.items) s (sk s a + 1))) : Int)), .a (vI (q + 1 + (↑(sumBy sizeD (List.take k d.items)) : Int) +
 (↑(sizeD (d.items.getD k default)) : Int))), .o (Ob.arr true 4 (List.map datumC (List.take k d.items) ++ [datumF (d.items.getD k default)]))]))))))))))) (by
  intro k h; try dsimp only [teasy, nthW, lc_iReadD_sLa] at h ⊢
  have hq := h
  obtain ⟨q1, q2, q3, q4, q5, q6, q7, q8⟩ := hq
  have g4 := @rdl d s a q3 q5 q6 k q1
  have g5 : k < d.items.length → _ := fun hk => @rdl d s a q3 q5 q6 (k + 1) hk
  have g6 := @rd_list d s a q3 q5 q6
  have g7 := sizeD_eq d
  have g8 := @sumBy_step _ _ sizeD d.items k
  have g9 := sumBy_takeLe sizeD d.items (k + 1)
  have g10 := len_sizeD d.items
  with_reducible repeat' (first | apply And.intro | exact zR | exact ih | (intro; skip) | apply c_iSkip | apply c_iAtom | apply c_iString | apply c_iReadX | apply ih)
  all_goals (try simp only [std, inj] at *)
  all_goals with_reducible repeat' apply And.intro
  all_goals (try (first | with_reducible apply c_iSkip | with_reducible apply c_iAtom | with_reducible apply c_iString | with_reducible apply c_iReadX | with_reducible apply ih | (simp only [← List.map_append]; first | with_reducible apply c_iSkip | with_reducible apply c_iAtom | with_reducible apply c_iString | with_reducible apply c_iReadX | with_reducible apply ih)))
  all_goals (try (first | exact z | grind [byt, atR, take_get, getD_mem', snocI, snocS, rowSnoc])))
theorem c_iReadD_s (s : ByteArray) (a : Nat) (q : Int) (d : Datum) (h : a ≤ s.size ∧ s.size ≤ 15000 ∧ okR d s a = true ∧ 0 ≤ q ∧ q + sizeD d ≤ 600) (ih : ∀ z ∈ d.items, ∀ (s :
 ByteArray) (a : Nat) (q : Int) (h : a ≤ s.size ∧ s.size ≤ 15000 ∧ okR z s a = true ∧ 0 ≤ q ∧ q + sizeD z ≤ 600), P_c_iReadD s a q z)  : P_c_iReadD s a q d := fnOK Tryz.call48
 Tryz.func48 (.d [.ptr] (P_c_iSkip s (sk s (atR d a)) q) (.r (q + 1) (.w (.draw []) (.i ((↑s.data.toList.length : Int) ≤ (↑(sk s (sk s (atR d a))) : Int)) (.h (s.data.toList.length
 ≤ 9223372036854775807) (.y true (.w (.ghost (.nilbox 1 3 true 4)) (.f [2] [Ob.box [vS s, vI (↑(sk s (sk s (atR d a))) : Int), vI (q + 1)], Ob.arr true 4 []] (AV.tup [SV.agg [vI 0,
 vI 0, vS (ByteArray.mk #[]), AC.ref 1], lb false]))))) (.h (s.data.toList.length ≤ 9223372036854775807) (.i (600 < q + 1) (.w (.ghost (.nilbox 1 3 true 4)) (.f [2] [Ob.box [vS s,
 vI (↑(sk s (sk s (atR d a))) : Int), vI (q + 1)], Ob.arr true 4 []] (AV.tup [SV.agg [vI 0, vI 0, vS (ByteArray.mk #[]), AC.ref 1], lb false]))) (.w (.draw []) (.p (0 ≤ (↑(sk s (sk
 s (atR d a))) : Int) ∧ (↑(sk s (sk s (atR d a))) : Int).toNat < s.data.toList.length) (.i ((↑(s.data.toList.getD (↑(sk s (sk s (atR d a))) : Int).toNat (0 : UInt8)).toNat : Int) =
 40) (.r ((↑(sk s (sk s (atR d a))) : Int) + 1) (.w (.ghost (.nilreg 4 true 4)) (.l (lc_iReadD_sLa s a q d) (Sc_iReadD_sLa s a q d h ih) [0, 1, 2] [.a (vI ((↑(sk s (sk s (atR d
 a))) : Int) + 1)), .a (vI (q + 1)), .o (Ob.arr true 4 [])] 0 (.t (.f [2] [Ob.box [vS s, vI (↑(enR d s a) : Int), vI (q + (↑(sizeD d) : Int))], Ob.arr true 4 (List.map datumC
 d.items)] (AV.tup [SV.agg [vI 0, vI 0, vS (mkS []), AC.ref 1], lb true])) .q)))) (.i ((↑(s.data.toList.getD (↑(sk s (sk s (atR d a))) : Int).toNat (0 : UInt8)).toNat : Int) = 41)
 (.w (.ghost (.nilbox 1 3 true 4)) (.f [2] [Ob.box [vS s, vI (↑(sk s (sk s (atR d a))) : Int), vI (q + 1)], Ob.arr true 4 []] (AV.tup [SV.agg [vI 0, vI 0, vS (ByteArray.mk #[]),
 AC.ref 1], lb false]))) (.i ((↑(s.data.toList.getD (↑(sk s (sk s (atR d a))) : Int).toNat (0 : UInt8)).toNat : Int) = 39) (.r ((↑(sk s (sk s (atR d a))) : Int) + 1) (.r (q + 1 +
 1) (.d [.ptr] (P_c_iReadX s ((↑(sk s (sk s (atR d a))) : Int) + 1) (q + 1 + 1)) (.y false (.f [5] [Ob.box [vS s, vI ((↑(sk s (sk s (atR d a))) : Int) + 1), vI (q + 1 + 1)], Ob.arr
 true 4 [[cI 1, cI 0, cS (ByteArray.mk #[(113 : UInt8), (117 : UInt8), (111 : UInt8), (116 : UInt8), (101 : UInt8)]), Cell.list []], [cI dfD.kind, cI dfD.number, cS dfD.text,
 Cell.list []]]] (AV.tup [SV.agg [vI 0, vI 0, vS (ByteArray.mk #[]), AC.ref 1], lb true])))))) (.i ((↑(s.data.toList.getD (↑(sk s (sk s (atR d a))) : Int).toNat (0 : UInt8)).toNat
 : Int) = 34) (.r ((↑(sk s (sk s (atR d a))) : Int) + 1) (.l (lc_iReadD_sLb s a q d) (Sc_iReadD_sLb s a q d h ih) [0, 1] [.s (li ((↑(sk s (sk s (atR d a))) : Int) + 1)), .s (li
 ((↑(sk s (sk s (atR d a))) : Int) + 1))] (sk s a + 1) (.t (.w (.ghost (.nilbox 1 3 true 4)) (.f [2] [Ob.box [vS s, vI (↑(sk s (sk s (atR d a))) : Int), vI (q + 1)], Ob.arr true 4
 []] (AV.tup [SV.agg [vI 0, vI 0, vS (ByteArray.mk #[]), AC.ref 1], lb false]))) (.t (.w (.ghost (.nilbox 1 3 true 4)) (.f [2] [Ob.box [vS s, vI (↑(pst noQ s (sk s a + 1) + 1) :
 Int), vI (q + 1)], Ob.arr true 4 []] (AV.tup [SV.agg [vI 4, vI 0, vS (mkS (List.take (pst noQ s (sk s a + 1) - (sk s a + 1)) (List.drop (sk s a + 1) s.data.toList))), AC.ref 1],
 lb (isStr (mkS (List.take (pst noQ s (sk s a + 1) - (sk s a + 1)) (List.drop (sk s a + 1) s.data.toList))))]))) .q)))) (.l (lc_iReadD_sLc s a q d) (Sc_iReadD_sLc s a q d h ih) [0,
 1] [.a (vI (↑(sk s (sk s (atR d a))) : Int))] (sk s a) (.t (.w (.draw [(13, [1])]) (.p (0 ≤ (↑(sk s (sk s (atR d a))) : Int)) (.p (0 ≤ (↑(pst isRu s (sk s a)) : Int)) (.p ((↑(sk s
 (sk s (atR d a))) : Int).toNat ≤ (↑(pst isRu s (sk s a)) : Int).toNat ∧ (↑(pst isRu s (sk s a)) : Int).toNat ≤ s.data.toList.length) (.d [.rd] (P_c_iAtom (ByteArray.mk (List.take
 ((↑(pst isRu s (sk s a)) : Int).toNat - (↑(sk s (sk s (atR d a))) : Int).toNat) (List.drop (↑(sk s (sk s (atR d a))) : Int).toNat s.data.toList)).toArray)) (.f [2] [Ob.box [vS s,
 vI (↑(pst isRu s (sk s a)) : Int), vI (q + 1)], Ob.arr true 4 (List.map datumC (atG (ByteArray.mk (List.take ((↑(pst isRu s (sk s a)) : Int).toNat - (↑(sk s (sk s (atR d a))) :
 Int).toNat) (List.drop (↑(sk s (sk s (atR d a))) : Int).toNat s.data.toList)).toArray)).items)] (AV.tup [SV.agg [vI (atG (ByteArray.mk (List.take ((↑(pst isRu s (sk s a)) :
 Int).toNat - (↑(sk s (sk s (atR d a))) : Int).toNat) (List.drop (↑(sk s (sk s (atR d a))) : Int).toNat s.data.toList)).toArray)).kind, vI (atG (ByteArray.mk (List.take ((↑(pst
 isRu s (sk s a)) : Int).toNat - (↑(sk s (sk s (atR d a))) : Int).toNat) (List.drop (↑(sk s (sk s (atR d a))) : Int).toNat s.data.toList)).toArray)).number, vS (atG (ByteArray.mk
 (List.take ((↑(pst isRu s (sk s a)) : Int).toNat - (↑(sk s (sk s (atR d a))) : Int).toNat) (List.drop (↑(sk s (sk s (atR d a))) : Int).toNat s.data.toList)).toArray)).text, AC.ref
 1], lb true]))))))) .q)))))))))))))) (by
  dsimp only [teasy, P_c_iReadD, nthW, lc_iReadD_sLa, lc_iReadD_sLb, lc_iReadD_sLc]
  have g1 := @rd_hd d s a
  have g2 := @rd_list d s a
  have g3 := @rd_str d s a
  have g4 := @rd_atm d s a
  have g5 := @rdl0 d s a
  have g6 := @sk_le s a
  have g7 := sizeD_eq d
  have g8 : sumBy sizeD (d.items.take 0) = 0 := rfl
  have g9 := sbs_mk s (sk s a) (pst isRu s (sk s a))
  have e0 : sk s (atR d a) = sk s a := rfl
  have g12 := @noc0 d s a
  have g13 : enR d s a ≤ s.size := (enR_rs h.1 h.2.2.1).2.2
  have g14 : d.items.length ≤ 600 := by have := len_sizeD d.items; omega
  have g15 := @atm_items (sbs s (sk s a) (pst isRu s (sk s a))) d
  have g16 := @items_one d
  have g17 : atomO (sbs s (sk s a) (pst isRu s (sk s a))) = some d → atG (sbs s (sk s a) (pst isRu s (sk s a))) = d := fun q => by unfold atG; rw [q]; rfl
  have e1 : sk s (sk s (atR d a)) = sk s a := sk_idem h.1
  have g10 : sk s a + 1 ≤ s.size → sk s a + 1 ≤ pst noQ s (sk s a + 1) ∧ pst noQ s (sk s a + 1) ≤ s.size := fun q => (pst_rs noQ q).2
  have g11 : sk s a ≤ s.size → sk s a ≤ pst isRu s (sk s a) ∧ pst isRu s (sk s a) ≤ s.size := fun q => (pst_rs isRu q).2
  with_reducible repeat' (first | apply And.intro | exact zR | exact ih | (intro; skip) | apply c_iSkip | apply c_iAtom | apply c_iString | apply c_iReadX)
  all_goals (try simp only [std, inj] at *)
  all_goals with_reducible repeat' apply And.intro
  all_goals (try (first | with_reducible apply c_iSkip | with_reducible apply c_iAtom | with_reducible apply c_iString | with_reducible apply c_iReadX | with_reducible apply ih | (simp only [← List.map_append]; first | with_reducible apply c_iSkip | with_reducible apply c_iAtom | with_reducible apply c_iString | with_reducible apply c_iReadX | with_reducible apply ih)))
  all_goals (try (first | exact z | grind [byt, atR, snocI, snocS, rowSnoc])))
theorem c_iReadD (d : Datum) : ∀ (s : ByteArray) (a : Nat) (q : Int) (h : a ≤ s.size ∧ s.size ≤ 15000 ∧ okR d s a = true ∧ 0 ≤ q ∧ q + sizeD d ≤ 600), P_c_iReadD s a q d := Datum.ind (P := fun d => ∀ (s : ByteArray) (a : Nat) (q : Int) (h : a ≤ s.size ∧ s.size ≤ 15000 ∧ okR d s a = true ∧ 0 ≤ q ∧ q + sizeD d ≤ 600), P_c_iReadD s a q d) (fun d ih s a q h => c_iReadD_s s a q d h ih) d
def scnA (L : List Datum) : Bool × Int := scan (fun x m => meaD x 1 m) L 0
theorem scnA_of {L : List Datum} (h : L.all isDat = true) (h1 : sumBy sizeD L ≤ 600) : (scnA L).1 = true := by
  refine ((scan_of (fun x m => meaD x 1 m) sizeD (fun x => (1 : Int) + depD x ≤ 21 ∧ okD x = true) 600 L (fun x _ m hm => meaD_of x 1 m hm) 0 (by decide)).1).2 ⟨by omega, fun x hx => ?_⟩
  have := List.all_eq_true.1 h x hx
  simp only [isDat, Bool.and_eq_true, decide_eq_true_eq] at this
  exact ⟨by omega, this.2⟩
abbrev P_c_iAreD (L : List Datum) : Ct := ⟨49, [], [ll (L.map datumC)], [], .sv (lb true)⟩
def lc_iAreDLa (L : List Datum) : Lp Nat := .mk 16 0 (fun x => [(3, SV.one (AC.ptr 0 0)), (6, ll (List.map datumC L)), (7, li (↑(List.map datumC L).length : Int)), (8, hs x 0)])
 (fun x => [Ob.box [ha x 1]]) (fun k => [.s (li (↑k : Int)), .a (vI (scnA (List.take k L)).snd)]) (fun k => k ≤ L.length ∧ L.length ≤ 9223372036854775807 ∧ (scnA (List.take k
 L)).fst = true ∧ 0 ≤ (scnA (List.take k L)).snd ∧ (scnA (List.take k L)).snd ≤ 600 ∧ (scnA L).fst = true) (fun k => L.length - k) [.mk True (.exit 0) (fun x => []) (fun x => [])
 [], .mk True .ret (fun x => [(2, hs x 0)]) (fun x => []) [.s (lb true)]]
theorem Sc_iAreDLa (L : List Datum) (h : L.all isDat = true ∧ sumBy sizeD L ≤ 600) : Lp.Sem Tryz.prog (loopAt Tryz.f49 0) (lc_iAreDLa L) := lpOK (fun k => .i ((↑k : Int) <
 (↑(List.map datumC L).length : Int)) (.x (↑k : Int) (List.map datumC L) (datumF (L.getD k default)) (.d [.rd, .rd, .ptr] (P_c_iMeaD (L.getD k default) 1 (scnA (List.take k
 L)).snd) (.b (!(meaD (L.getD k default) 1 (scnA (List.take k L)).snd).fst) (.o 1 [] [.s (lb false)]) (.r ((↑k : Int) + 1) (.g [0] (k + 1) [.s (li ((↑k : Int) + 1)), .a (vI (meaD
 (L.getD k default) 1 (scnA (List.take k L)).snd).snd)]))))) (.o 0 [] [])) (by
  intro k h; try dsimp only [teasy, nthW, lc_iAreDLa] at h ⊢
  have g1 := fun x m => meaD_of x 1 m
  with_reducible repeat' (first | apply And.intro | exact zR | (intro; skip) | apply c_iMeaD)
  all_goals (try simp only [std, inj] at *)
  all_goals with_reducible repeat' apply And.intro
  all_goals (try (first | with_reducible apply c_iMeaD | (simp only [← List.map_append]; first | with_reducible apply c_iMeaD)))
  all_goals (try (first | exact z | grind [scan_step, scan_stop, scnA, snocI, snocS, rowSnoc])))
theorem c_iAreD (L : List Datum) (h : L.all isDat = true ∧ sumBy sizeD L ≤ 600)  : P_c_iAreD L := fnOK Tryz.call49 Tryz.func49 (.z datumC L (.l (lc_iAreDLa L) (Sc_iAreDLa L h) [0]
 [.s (li 0), .a (vI 0)] 0 (.t (.s (lb true)) (.t (.s (lb true)) .q)))) (by
  dsimp only [teasy, P_c_iAreD, nthW, lc_iAreDLa]
  have g1 := @scnA_of L
  with_reducible repeat' (first | apply And.intro | exact zR | (intro; skip) | apply c_iMeaD)
  all_goals (try simp only [std, inj] at *)
  all_goals with_reducible repeat' apply And.intro
  all_goals (try (first | with_reducible apply c_iMeaD | (simp only [← List.map_append]; first | with_reducible apply c_iMeaD)))
  all_goals (try (first | exact z | grind [scnA, scan, snocI, snocS, rowSnoc])))
abbrev P_c_iPData (L : List Datum) (s : ByteArray) : Ct := ⟨21, [], [ls s], [.arr true 4 (L.map datumC)], .tup [.one (.ref 0), lb true]⟩
def lc_iPDataLa (L : List Datum) (s : ByteArray) : Lp Nat := .mk 33 0 (fun x => [(0, ls s), (4, SV.one (AC.ptr 0 0)), (5, SV.one (AC.ref 1))]) (fun x => [Ob.box [vS s, ha x 0, ha x
 1], ho x 2]) (fun k => [.a (vI (↑(atR (L.getD k default) (enP (List.take k L) s 0)) : Int)), .a (vI (↑(sumBy sizeD (List.take k L)) : Int)), .o (Ob.arr true 4 (List.map datumC
 (List.take k L)))]) (fun k => k ≤ L.length ∧ L.length ≤ 9223372036854775807 ∧ rdsB L s = true ∧ L.length ≤ 600) (fun k => L.length - k) [.mk True (.exit 0) (fun x => [(5, SV.one
 (AC.ref 0))]) (fun x => [ho x 0]) [.o (Ob.arr true 4 (List.map datumC L))]]
theorem Sc_iPDataLa (L : List Datum) (s : ByteArray) (h : rdsB L s = true) : Lp.Sem Tryz.prog (loopAt Tryz.f21 0) (lc_iPDataLa L s) := lpOK (fun k => .d [.ptr] (P_c_iSkip s (atR
 (L.getD k default) (enP (List.take k L) s 0)) (↑(sumBy sizeD (List.take k L)) : Int)) (.h (s.data.toList.length ≤ 9223372036854775807) (.i ((↑s.data.toList.length : Int) ≤ (↑(sk s
 (atR (L.getD k default) (enP (List.take k L) s 0))) : Int)) (.o 0 [1] [.o (Ob.arr true 4 (List.map datumC (List.take k L)))]) (.d [.ptr] (P_c_iReadD s (enP (List.take k L) s 0)
 (↑(sumBy sizeD (List.take k L)) : Int) (L.getD k default)) (.y false (.p (((List.map datumC (List.take k L)).length + 1) * 56 ≤ 140737488355328) (.g [0, 6] (k + 1) [.a (vI (↑(enR
 (L.getD k default) s (enP (List.take k L) s 0)) : Int)), .a (vI ((↑(sumBy sizeD (List.take k L)) : Int) + (↑(sizeD (L.getD k default)) : Int))), .o (Ob.arr true 4 (List.map datumC
 (List.take k L) ++ [datumF (L.getD k default)]))]))))))) (by
  intro k h; try dsimp only [teasy, nthW, lc_iPDataLa] at h ⊢
  have g1 := @rds_step L s k
  have g0 := @rds_at L s (k + 1)
  have g00 := @rds_at L s k
  have g2 := @rds_end L s
  have g3 := @sumBy_step _ _ sizeD L k
  have g4 := sumBy_takeLe sizeD L (k + 1)
  with_reducible repeat' (first | apply And.intro | exact zR | (intro; skip) | apply c_iSkip | apply c_iReadD | apply c_iAreD)
  all_goals (try simp only [std, inj] at *)
  all_goals with_reducible repeat' apply And.intro
  all_goals (try (first | with_reducible apply c_iSkip | with_reducible apply c_iReadD | with_reducible apply c_iAreD | (simp only [← List.map_append]; first | with_reducible apply c_iSkip | with_reducible apply c_iReadD | with_reducible apply c_iAreD)))
  all_goals (try (first | exact z | grind [atR, take_get, snocI, snocS, rowSnoc])))
theorem c_iPData (L : List Datum) (s : ByteArray) (h : rdsB L s = true)  : P_c_iPData L s := fnOK Tryz.call21 Tryz.func21 (.h (s.data.toList.length ≤ 9223372036854775807) (.i (15000
 < (↑s.data.toList.length : Int)) (.w (.ghost (.nilreg 2 true 4)) (.f [0] [Ob.arr true 4 []] (AV.tup [SV.one (AC.ref 0), lb false]))) (.w (.ghost (.nilreg 5 true 4)) (.l
 (lc_iPDataLa L s) (Sc_iPDataLa L s h) [0, 1] [.a (vI 0), .a (vI 0), .o (Ob.arr true 4 [])] 0 (.t (.d [.rd] (P_c_iAreD L) (.y false (.f [0] [Ob.arr true 4 (List.map datumC L)]
 (AV.tup [SV.one (AC.ref 0), lb true])))) .q))))) (by
  dsimp only [teasy, P_c_iPData, nthW, lc_iPDataLa]
  have g1 := @rds_end L s
  have g2 := @rds_zero L s
  have g3 := @rds_noc0 L s
  with_reducible repeat' (first | apply And.intro | exact zR | (intro; skip) | apply c_iSkip | apply c_iReadD | apply c_iAreD)
  all_goals (try simp only [std, inj] at *)
  all_goals with_reducible repeat' apply And.intro
  all_goals (try (first | with_reducible apply c_iSkip | with_reducible apply c_iReadD | with_reducible apply c_iAreD | (simp only [← List.map_append]; first | with_reducible apply c_iSkip | with_reducible apply c_iReadD | with_reducible apply c_iAreD)))
  all_goals (try (first | exact z | grind [atR, areD, sumBy, snocI, snocS, rowSnoc])))
end Go.Proofs.YtjgbkigdnjalkaaGreatDoor
end
