/- Part 1 of the proof: Modules that are drawn and right are read back from their text: the card of FnModuleText. No condition. -/
import Derived.Test.YtgeegppaaggcjaaDoorQ4
import Derived.Lib.AtoiErr
import Derived.Shelf.Strconv.Itoa3
import Derived.Shelf.Strconv.Atoi
import Derived.Shelf.Strconv.AtoiErr
import Derived.WalkSmall
section
namespace Go.Proofs.YtgeegppaaggcjaaDoor
open Go Go.Proofs.YtgeegppaaggcjaaDoor.Ab
set_option linter.unusedVariables false
set_option linter.unusedSimpArgs false
set_option maxHeartbeats 4000000
theorem all_stop {L : List UInt8} {p : UInt8 → Bool} {k : Nat} (h : k < L.length) (hp : p (L.getD k 0) = false) : L.all p = false := by
  rw [List.all_eq_false]
  have e : L.getD k 0 = L[k] := by simp [h]
  exact ⟨L[k], List.getElem_mem h, by rw [← e, hp]; decide⟩
theorem all_go {L : List UInt8} {p : UInt8 → Bool} {k : Nat} (h : k < L.length) (hp : p (L.getD k 0) = true) (ht : (L.take k).all p = true) : (L.take (k + 1)).all p = true := by
  rw [take0 h, List.all_append, ht, List.all_cons, hp]; rfl
theorem all_all {L : List UInt8} {p : UInt8 → Bool} {k : Nat} (h : L.length ≤ k) (ht : (L.take k).all p = true) : L.all p = true := by
  rwa [List.take_of_length_le h] at ht
def lu (n : Int) : SV := .one (.val (.lit (.int .u8 n)))
def isDig (n : Int) : Bool := decide (48 ≤ n ∧ n ≤ 57)
def markI : List Int := [33, 63, 42, 60, 62, 61, 47, 43, 45, 46, 95]
def isMk (n : Int) : Bool := decide (97 ≤ n ∧ n ≤ 122) || isDig n || decide (n ∈ markI)
theorem mark_at {k : Nat} (h : k < 11) : ((([33, 63, 42, 60, 62, 61, 47, 43, 45, 46, 95] : List UInt8).getD k 0).toNat : Int) = markI.getD k default := by
  have : ∀ k, k < 11 → ((([33, 63, 42, 60, 62, 61, 47, 43, 45, 46, 95] : List UInt8).getD k 0).toNat : Int) = markI.getD k default := by decide
  exact this k h
def isStB (n : Int) : Bool := decide (32 ≤ n ∧ n ≤ 126 ∧ n ≠ 34)
def isSym (s : ByteArray) : Bool := decide (1 ≤ (s.size : Int) ∧ (s.size : Int) ≤ 16) && !isDig (s.data.toList.getD 0 0).toNat && !(decide (((s.data.toList.getD 0 0).toNat : Int) = 45) && decide (1 < (s.size : Int)) && isDig (s.data.toList.getD 1 0).toNat) && s.data.toList.all fun b => isMk b.toNat
def isStr (s : ByteArray) : Bool := decide ((s.size : Int) ≤ 20) && s.data.toList.all fun b => isStB b.toNat
abbrev P_c_sDigit (n : Int) : Ct := ⟨55, [], [lu n], [], .sv (lb (isDig n))⟩
theorem c_sDigit (n : Int)  : P_c_sDigit n := fnOK Tryd.call55 Tryd.func55 (.i (48 ≤ n) (.s (lb (decide (n ≤ 57)))) (.s (lb false))) (by
  dsimp only [teasy, P_c_sDigit]
  with_reducible repeat' (first | apply And.intro | exact zR | (intro; skip))
  all_goals (try simp only [std, inj] at *)
  all_goals with_reducible repeat' apply And.intro
  all_goals (try (first | exact z | grind [isDig, snocI, snocS, rowSnoc])))
abbrev P_c_iDigit (n : Int) : Ct := ⟨51, [], [lu n], [], .sv (lb (isDig n))⟩
theorem c_iDigit (n : Int)  : P_c_iDigit n := fnOK Tryd.call51 Tryd.func51 (.i (48 ≤ n) (.s (lb (decide (n ≤ 57)))) (.s (lb false))) (by
  dsimp only [teasy, P_c_iDigit]
  with_reducible repeat' (first | apply And.intro | exact zR | (intro; skip))
  all_goals (try simp only [std, inj] at *)
  all_goals with_reducible repeat' apply And.intro
  all_goals (try (first | exact z | grind [isDig, snocI, snocS, rowSnoc])))
abbrev P_c_sMark (n : Int) : Ct := ⟨56, [], [lu n], [], .sv (lb (isMk n))⟩
def lc_sMarkLa (n : Int) : Lp Nat := .mk 26 0 (fun x => [(0, SV.one (AC.val (Cell.lit (Value.int IntKind.u8 n)))), (3, ls (ByteArray.mk #[(33 : UInt8), (63 : UInt8), (42 : UInt8),
 (60 : UInt8), (62 : UInt8), (61 : UInt8), (47 : UInt8), (43 : UInt8), (45 : UInt8), (46 : UInt8), (95 : UInt8)])), (4, hs x 0)]) (fun x => []) (fun k => [.s (li (↑k : Int))]) (fun
 k => k ≤ 11 ∧ ¬n ∈ List.take k markI) (fun k => 11 - k) [.mk (decide (n ∈ markI) = false) (.exit 0) (fun x => []) (fun x => []) [], .mk (decide (n ∈ markI) = true) .ret (fun x =>
 [(2, hs x 0)]) (fun x => []) [.s (lb true)]]
theorem Sc_sMarkLa (n : Int) : Lp.Sem Tryd.prog (loopAt Tryd.f56 0) (lc_sMarkLa n) := lpOK (fun k => .h (11 ≤ 9223372036854775807) (.i ((↑k : Int) < 11) (.p (0 ≤ (↑k : Int) ∧ (↑k :
 Int).toNat < 11) (.i ((↑([(33 : UInt8), (63 : UInt8), (42 : UInt8), (60 : UInt8), (62 : UInt8), (61 : UInt8), (47 : UInt8), (43 : UInt8), (45 : UInt8), (46 : UInt8), (95 :
 UInt8)].getD (↑k : Int).toNat (0 : UInt8)).toNat : Int) = n) (.o 1 [] [.s (lb true)]) (.r ((↑k : Int) + 1) (.g [] (k + 1) [.s (li ((↑k : Int) + 1))])))) (.o 0 [] []))) (by
  intro k h; try dsimp only [teasy, nthW, lc_sMarkLa] at h ⊢
  have g := @mark_at k
  have e : markI.length = 11 := rfl
  have e2 : markI.take 11 = markI := rfl
  with_reducible repeat' (first | apply And.intro | exact zR | (intro; skip))
  all_goals (try simp only [std, inj] at *)
  all_goals with_reducible repeat' apply And.intro
  all_goals (try (first | exact z | grind [take_get, getD_mem', snocI, snocS, rowSnoc])))
theorem c_sMark (n : Int)  : P_c_sMark n := fnOK Tryd.call56 Tryd.func56 (.i (97 ≤ n) (.i (n ≤ 122) (.y true (.s (lb true))) (.c [.rd] (c_sDigit n) (.b (isDig n) (.s (lb true)) (.l
 (lc_sMarkLa n) (Sc_sMarkLa n) [] [.s (li 0)] 0 (.t (.s (lb false)) (.t (.s (lb true)) .q)))))) (.y false (.c [.rd] (c_sDigit n) (.b (isDig n) (.s (lb true)) (.l (lc_sMarkLa n)
 (Sc_sMarkLa n) [] [.s (li 0)] 0 (.t (.s (lb false)) (.t (.s (lb true)) .q))))))) (by
  dsimp only [teasy, P_c_sMark, nthW, lc_sMarkLa]
  with_reducible repeat' (first | apply And.intro | exact zR | (intro; skip))
  all_goals (try simp only [std, inj] at *)
  all_goals with_reducible repeat' apply And.intro
  all_goals (try (first | exact z | grind [isMk, snocI, snocS, rowSnoc])))
abbrev P_c_iMark (n : Int) : Ct := ⟨52, [], [lu n], [], .sv (lb (isMk n))⟩
theorem c_iMark (n : Int)  : P_c_iMark n := fnOK Tryd.call52 Tryd.func52 (.i (97 ≤ n) (.i (n ≤ 122) (.y true (.s (lb true))) (.i (48 ≤ n) (.i (n ≤ 57) (.s (lb true)) (.i (n = 33) (.y
 true (.s (lb true))) (.i (n = 63) (.y true (.s (lb true))) (.i (n = 42) (.y true (.s (lb true))) (.i (n = 60) (.y true (.s (lb true))) (.i (n = 62) (.y true (.s (lb true))) (.i (n
 = 61) (.y true (.s (lb true))) (.i (n = 47) (.y true (.s (lb true))) (.i (n = 43) (.y true (.s (lb true))) (.i (n = 45) (.y true (.s (lb true))) (.i (n = 46) (.y true (.s (lb
 true))) (.i (n = 95) (.s (lb true)) (.s (lb false)))))))))))))) (.y false (.i (n = 33) (.y true (.s (lb true))) (.i (n = 63) (.y true (.s (lb true))) (.i (n = 42) (.y true (.s (lb
 true))) (.i (n = 60) (.y true (.s (lb true))) (.i (n = 62) (.y true (.s (lb true))) (.i (n = 61) (.y true (.s (lb true))) (.i (n = 47) (.y true (.s (lb true))) (.i (n = 43) (.y
 true (.s (lb true))) (.i (n = 45) (.y true (.s (lb true))) (.i (n = 46) (.y true (.s (lb true))) (.i (n = 95) (.s (lb true)) (.s (lb false)))))))))))))))) (.y false (.i (48 ≤ n)
 (.i (n ≤ 57) (.s (lb true)) (.i (n = 33) (.y true (.s (lb true))) (.i (n = 63) (.y true (.s (lb true))) (.i (n = 42) (.y true (.s (lb true))) (.i (n = 60) (.y true (.s (lb true)))
 (.i (n = 62) (.y true (.s (lb true))) (.i (n = 61) (.y true (.s (lb true))) (.i (n = 47) (.y true (.s (lb true))) (.i (n = 43) (.y true (.s (lb true))) (.i (n = 45) (.y true (.s
 (lb true))) (.i (n = 46) (.y true (.s (lb true))) (.i (n = 95) (.s (lb true)) (.s (lb false)))))))))))))) (.y false (.i (n = 33) (.y true (.s (lb true))) (.i (n = 63) (.y true (.s
 (lb true))) (.i (n = 42) (.y true (.s (lb true))) (.i (n = 60) (.y true (.s (lb true))) (.i (n = 62) (.y true (.s (lb true))) (.i (n = 61) (.y true (.s (lb true))) (.i (n = 47)
 (.y true (.s (lb true))) (.i (n = 43) (.y true (.s (lb true))) (.i (n = 45) (.y true (.s (lb true))) (.i (n = 46) (.y true (.s (lb true))) (.i (n = 95) (.s (lb true)) (.s (lb
 false))))))))))))))))) (by
  dsimp only [teasy, P_c_iMark]
  with_reducible repeat' (first | apply And.intro | exact zR | (intro; skip))
  all_goals (try simp only [std, inj] at *)
  all_goals with_reducible repeat' apply And.intro
  all_goals (try (first | exact z | grind [snocI, snocS, rowSnoc]))
  all_goals (symm; simp only [isMk, isDig, markI, List.mem_cons, List.not_mem_nil, Bool.or_eq_true, Bool.or_eq_false_iff, decide_eq_true_eq, decide_eq_false_iff_not, or_false]; omega))
abbrev P_c_l1In (x : Int) (a : Int) (b : Int) : Ct := ⟨54, [], [li x, li a, li b], [], .sv (lb (decide (a ≤ x ∧ x ≤ b)))⟩
theorem c_l1In (x a b : Int)  : P_c_l1In x a b := fnOK Tryd.call54 Tryd.func54 (.i (a ≤ x) (.s (lb (decide (x ≤ b)))) (.s (lb false))) (by
  dsimp only [teasy, P_c_l1In]
  with_reducible repeat' (first | apply And.intro | exact zR | (intro; skip))
  all_goals (try simp only [std, inj] at *)
  all_goals with_reducible repeat' apply And.intro
  all_goals (try (first | exact z | grind [snocI, snocS, rowSnoc])))
abbrev P_c_sIsSymbol (s : ByteArray) : Ct := ⟨36, [], [ls s], [], .sv (lb (isSym s))⟩
def lc_sIsSymbolLa (s : ByteArray) : Lp Nat := .mk 39 0 (fun x => [(0, ls s), (3, hs x 0)]) (fun x => []) (fun k => [.s (li (↑k : Int))]) (fun k => k ≤ s.size ∧ s.size ≤ 16 ∧
 ((List.take k s.data.toList).all fun b => isMk (↑b.toNat : Int)) = true) (fun k => s.size - k) [.mk ((s.data.toList.all fun b => isMk (↑b.toNat : Int)) = true) (.exit 0) (fun x =>
 []) (fun x => []) [], .mk ((s.data.toList.all fun b => isMk (↑b.toNat : Int)) = false) .ret (fun x => [(2, hs x 0)]) (fun x => []) [.s (lb false)]]
theorem Sc_sIsSymbolLa (s : ByteArray) : Lp.Sem Tryd.prog (loopAt Tryd.f36 0) (lc_sIsSymbolLa s) := lpOK (fun k => .h (s.data.toList.length ≤ 9223372036854775807) (.i ((↑k : Int) <
 (↑s.data.toList.length : Int)) (.p (0 ≤ (↑k : Int) ∧ (↑k : Int).toNat < s.data.toList.length) (.c [.rd] (c_sMark (↑(s.data.toList.getD (↑k : Int).toNat (0 : UInt8)).toNat : Int))
 (.b (!isMk (↑(s.data.toList.getD (↑k : Int).toNat (0 : UInt8)).toNat : Int)) (.o 1 [] [.s (lb false)]) (.r ((↑k : Int) + 1) (.g [] (k + 1) [.s (li ((↑k : Int) + 1))]))))) (.o 0 []
 []))) (by
  intro k h; try dsimp only [teasy, nthW, lc_sIsSymbolLa] at h ⊢
  have g1 := @all_stop s.data.toList (fun b => isMk b.toNat) k
  have g2 := @all_go s.data.toList (fun b => isMk b.toNat) k
  have g3 := @all_all s.data.toList (fun b => isMk b.toNat) k
  with_reducible repeat' (first | apply And.intro | exact zR | (intro; skip))
  all_goals (try simp only [std, inj] at *)
  all_goals with_reducible repeat' apply And.intro
  all_goals (try (first | exact z | grind [snocI, snocS, rowSnoc])))
theorem c_sIsSymbol (s : ByteArray)  : P_c_sIsSymbol s := fnOK Tryd.call36 Tryd.func36 (.h (s.data.toList.length ≤ 9223372036854775807) (.c [.rd, .rd, .rd] (c_l1In
 (↑s.data.toList.length : Int) 1 16) (.b (!decide (1 ≤ (↑s.data.toList.length : Int) ∧ (↑s.data.toList.length : Int) ≤ 16)) (.y true (.y true (.s (lb false)))) (.p ((0 : Int) ≤ 0 ∧
 0 < s.data.toList.length) (.c [.rd] (c_sDigit (↑(s.data.toList.getD 0 (0 : UInt8)).toNat : Int)) (.b (isDig (↑(s.data.toList.getD 0 (0 : UInt8)).toNat : Int)) (.y true (.s (lb
 false))) (.p ((0 : Int) ≤ 0 ∧ 0 < s.data.toList.length) (.i ((↑(s.data.toList.getD 0 (0 : UInt8)).toNat : Int) = 45) (.h (s.data.toList.length ≤ 9223372036854775807) (.i (1 <
 (↑s.data.toList.length : Int)) (.p ((0 : Int) ≤ 1 ∧ 1 < s.data.toList.length) (.c [.rd] (c_sDigit (↑(s.data.toList.getD 1 (0 : UInt8)).toNat : Int)) (.b (isDig
 (↑(s.data.toList.getD 1 (0 : UInt8)).toNat : Int)) (.s (lb false)) (.l (lc_sIsSymbolLa s) (Sc_sIsSymbolLa s) [] [.s (li 0)] 0 (.t (.s (lb true)) (.t (.s (lb false)) .q)))))) (.y
 false (.l (lc_sIsSymbolLa s) (Sc_sIsSymbolLa s) [] [.s (li 0)] 0 (.t (.s (lb true)) (.t (.s (lb false)) .q)))))) (.y false (.y false (.l (lc_sIsSymbolLa s) (Sc_sIsSymbolLa s) []
 [.s (li 0)] 0 (.t (.s (lb true)) (.t (.s (lb false)) .q))))))))))))) (by
  dsimp only [teasy, P_c_sIsSymbol, nthW, lc_sIsSymbolLa]
  with_reducible repeat' (first | apply And.intro | exact zR | (intro; skip))
  all_goals (try simp only [std, inj] at *)
  all_goals with_reducible repeat' apply And.intro
  all_goals (try (first | exact z | grind [isSym, snocI, snocS, rowSnoc])))
abbrev P_c_iIsSymbol (s : ByteArray) : Ct := ⟨32, [], [ls s], [], .sv (lb (isSym s))⟩
def lc_iIsSymbolLa (s : ByteArray) : Lp Nat := .mk 43 0 (fun x => [(0, ls s), (3, hs x 0)]) (fun x => []) (fun k => [.s (li (↑k : Int))]) (fun k => k ≤ s.size ∧ s.size ≤ 16 ∧
 ((List.take k s.data.toList).all fun b => isMk (↑b.toNat : Int)) = true) (fun k => s.size - k) [.mk ((s.data.toList.all fun b => isMk (↑b.toNat : Int)) = true) (.exit 0) (fun x =>
 []) (fun x => []) [], .mk ((s.data.toList.all fun b => isMk (↑b.toNat : Int)) = false) .ret (fun x => [(2, hs x 0)]) (fun x => []) [.s (lb false)]]
theorem Sc_iIsSymbolLa (s : ByteArray) : Lp.Sem Tryd.prog (loopAt Tryd.f32 0) (lc_iIsSymbolLa s) := lpOK (fun k => .h (s.data.toList.length ≤ 9223372036854775807) (.i ((↑k : Int) <
 (↑s.data.toList.length : Int)) (.p (0 ≤ (↑k : Int) ∧ (↑k : Int).toNat < s.data.toList.length) (.c [.rd] (c_iMark (↑(s.data.toList.getD (↑k : Int).toNat (0 : UInt8)).toNat : Int))
 (.b (!isMk (↑(s.data.toList.getD (↑k : Int).toNat (0 : UInt8)).toNat : Int)) (.o 1 [] [.s (lb false)]) (.r ((↑k : Int) + 1) (.g [] (k + 1) [.s (li ((↑k : Int) + 1))]))))) (.o 0 []
 []))) (by
  intro k h; try dsimp only [teasy, nthW, lc_iIsSymbolLa] at h ⊢
  have g1 := @all_stop s.data.toList (fun b => isMk b.toNat) k
  have g2 := @all_go s.data.toList (fun b => isMk b.toNat) k
  have g3 := @all_all s.data.toList (fun b => isMk b.toNat) k
  with_reducible repeat' (first | apply And.intro | exact zR | (intro; skip))
  all_goals (try simp only [std, inj] at *)
  all_goals with_reducible repeat' apply And.intro
  all_goals (try (first | exact z | grind [snocI, snocS, rowSnoc])))
theorem c_iIsSymbol (s : ByteArray)  : P_c_iIsSymbol s := fnOK Tryd.call32 Tryd.func32 (.h (s.data.toList.length ≤ 9223372036854775807) (.i ((↑s.data.toList.length : Int) < 1) (.y
 true (.y true (.y true (.s (lb false))))) (.h (s.data.toList.length ≤ 9223372036854775807) (.i (16 < (↑s.data.toList.length : Int)) (.y true (.y true (.s (lb false)))) (.p ((0 :
 Int) ≤ 0 ∧ 0 < s.data.toList.length) (.c [.rd] (c_iDigit (↑(s.data.toList.getD 0 (0 : UInt8)).toNat : Int)) (.b (isDig (↑(s.data.toList.getD 0 (0 : UInt8)).toNat : Int)) (.y true
 (.s (lb false))) (.p ((0 : Int) ≤ 0 ∧ 0 < s.data.toList.length) (.i ((↑(s.data.toList.getD 0 (0 : UInt8)).toNat : Int) = 45) (.h (s.data.toList.length ≤ 9223372036854775807) (.i
 (1 < (↑s.data.toList.length : Int)) (.p ((0 : Int) ≤ 1 ∧ 1 < s.data.toList.length) (.c [.rd] (c_iDigit (↑(s.data.toList.getD 1 (0 : UInt8)).toNat : Int)) (.b (isDig
 (↑(s.data.toList.getD 1 (0 : UInt8)).toNat : Int)) (.s (lb false)) (.l (lc_iIsSymbolLa s) (Sc_iIsSymbolLa s) [] [.s (li 0)] 0 (.t (.s (lb true)) (.t (.s (lb false)) .q)))))) (.y
 false (.l (lc_iIsSymbolLa s) (Sc_iIsSymbolLa s) [] [.s (li 0)] 0 (.t (.s (lb true)) (.t (.s (lb false)) .q)))))) (.y false (.y false (.l (lc_iIsSymbolLa s) (Sc_iIsSymbolLa s) []
 [.s (li 0)] 0 (.t (.s (lb true)) (.t (.s (lb false)) .q)))))))))))))) (by
  dsimp only [teasy, P_c_iIsSymbol, nthW, lc_iIsSymbolLa]
  with_reducible repeat' (first | apply And.intro | exact zR | (intro; skip))
  all_goals (try simp only [std, inj] at *)
  all_goals with_reducible repeat' apply And.intro
  all_goals (try (first | exact z | grind [isSym, snocI, snocS, rowSnoc])))
abbrev P_c_sString (s : ByteArray) : Ct := ⟨63, [], [ls s], [], .sv (lb (isStr s))⟩
def lc_sStringLa (s : ByteArray) : Lp Nat := .mk 29 0 (fun x => [(0, ls s), (3, hs x 0)]) (fun x => []) (fun k => [.s (li (↑k : Int))]) (fun k => k ≤ s.size ∧ ((List.take k
 s.data.toList).all fun b => isStB (↑b.toNat : Int)) = true) (fun k => s.size - k) [.mk ((s.data.toList.all fun b => isStB (↑b.toNat : Int)) = true) (.exit 0) (fun x => [(0, ls
 s)]) (fun x => []) [], .mk ((s.data.toList.all fun b => isStB (↑b.toNat : Int)) = false) .ret (fun x => [(2, hs x 0)]) (fun x => []) [.s (lb false)]]
theorem Sc_sStringLa (s : ByteArray) : Lp.Sem Tryd.prog (loopAt Tryd.f63 0) (lc_sStringLa s) := lpOK (fun k => .h (s.data.toList.length ≤ 9223372036854775807) (.i ((↑k : Int) <
 (↑s.data.toList.length : Int)) (.p (0 ≤ (↑k : Int) ∧ (↑k : Int).toNat < s.data.toList.length) (.i ((↑(s.data.toList.getD (↑k : Int).toNat (0 : UInt8)).toNat : Int) < 32) (.y true
 (.y true (.o 1 [] [.s (lb false)]))) (.p (0 ≤ (↑k : Int) ∧ (↑k : Int).toNat < s.data.toList.length) (.i (126 < (↑(s.data.toList.getD (↑k : Int).toNat (0 : UInt8)).toNat : Int))
 (.y true (.o 1 [] [.s (lb false)])) (.p (0 ≤ (↑k : Int) ∧ (↑k : Int).toNat < s.data.toList.length) (.i ((↑(s.data.toList.getD (↑k : Int).toNat (0 : UInt8)).toNat : Int) = 34) (.o
 1 [] [.s (lb false)]) (.r ((↑k : Int) + 1) (.g [] (k + 1) [.s (li ((↑k : Int) + 1))])))))))) (.o 0 [] []))) (by
  intro k h; try dsimp only [teasy, nthW, lc_sStringLa] at h ⊢
  have g1 := @all_stop s.data.toList (fun b => isStB b.toNat) k
  have g2 := @all_go s.data.toList (fun b => isStB b.toNat) k
  have g3 := @all_all s.data.toList (fun b => isStB b.toNat) k
  with_reducible repeat' (first | apply And.intro | exact zR | (intro; skip))
  all_goals (try simp only [std, inj] at *)
  all_goals with_reducible repeat' apply And.intro
  all_goals (try (first | exact z | grind [isStB, snocI, snocS, rowSnoc])))
theorem c_sString (s : ByteArray)  : P_c_sString s := fnOK Tryd.call63 Tryd.func63 (.l (lc_sStringLa s) (Sc_sStringLa s) [] [.s (li 0)] 0 (.t (.h (s.data.toList.length ≤
 9223372036854775807) (.s (lb (decide ((↑s.data.toList.length : Int) ≤ 20))))) (.t (.s (lb false)) .q))) (by
  dsimp only [teasy, P_c_sString, nthW, lc_sStringLa]
  with_reducible repeat' (first | apply And.intro | exact zR | (intro; skip))
  all_goals (try simp only [std, inj] at *)
  all_goals with_reducible repeat' apply And.intro
  all_goals (try (first | exact z | grind [isStr, snocI, snocS, rowSnoc])))
abbrev P_c_iString (s : ByteArray) : Ct := ⟨42, [], [ls s], [], .sv (lb (isStr s))⟩
def lc_iStringLa (s : ByteArray) : Lp Nat := .mk 29 0 (fun x => [(0, ls s), (3, hs x 0)]) (fun x => []) (fun k => [.s (li (↑k : Int))]) (fun k => k ≤ s.size ∧ ((List.take k
 s.data.toList).all fun b => isStB (↑b.toNat : Int)) = true) (fun k => s.size - k) [.mk ((s.data.toList.all fun b => isStB (↑b.toNat : Int)) = true) (.exit 0) (fun x => []) (fun x
 => []) [], .mk ((s.data.toList.all fun b => isStB (↑b.toNat : Int)) = false) .ret (fun x => [(2, hs x 0)]) (fun x => []) [.s (lb false)]]
theorem Sc_iStringLa (s : ByteArray) : Lp.Sem Tryd.prog (loopAt Tryd.f42 0) (lc_iStringLa s) := lpOK (fun k => .h (s.data.toList.length ≤ 9223372036854775807) (.i ((↑k : Int) <
 (↑s.data.toList.length : Int)) (.p (0 ≤ (↑k : Int) ∧ (↑k : Int).toNat < s.data.toList.length) (.i ((↑(s.data.toList.getD (↑k : Int).toNat (0 : UInt8)).toNat : Int) < 32) (.y true
 (.y true (.o 1 [] [.s (lb false)]))) (.p (0 ≤ (↑k : Int) ∧ (↑k : Int).toNat < s.data.toList.length) (.i (126 < (↑(s.data.toList.getD (↑k : Int).toNat (0 : UInt8)).toNat : Int))
 (.y true (.o 1 [] [.s (lb false)])) (.p (0 ≤ (↑k : Int) ∧ (↑k : Int).toNat < s.data.toList.length) (.i ((↑(s.data.toList.getD (↑k : Int).toNat (0 : UInt8)).toNat : Int) = 34) (.o
 1 [] [.s (lb false)]) (.r ((↑k : Int) + 1) (.g [] (k + 1) [.s (li ((↑k : Int) + 1))])))))))) (.o 0 [] []))) (by
  intro k h; try dsimp only [teasy, nthW, lc_iStringLa] at h ⊢
  have g1 := @all_stop s.data.toList (fun b => isStB b.toNat) k
  have g2 := @all_go s.data.toList (fun b => isStB b.toNat) k
  have g3 := @all_all s.data.toList (fun b => isStB b.toNat) k
  with_reducible repeat' (first | apply And.intro | exact zR | (intro; skip))
  all_goals (try simp only [std, inj] at *)
  all_goals with_reducible repeat' apply And.intro
  all_goals (try (first | exact z | grind [isStB, snocI, snocS, rowSnoc])))
theorem c_iString (s : ByteArray)  : P_c_iString s := fnOK Tryd.call42 Tryd.func42 (.h (s.data.toList.length ≤ 9223372036854775807) (.i (20 < (↑s.data.toList.length : Int)) (.s (lb
 false)) (.l (lc_iStringLa s) (Sc_iStringLa s) [] [.s (li 0)] 0 (.t (.s (lb true)) (.t (.s (lb false)) .q))))) (by
  dsimp only [teasy, P_c_iString, nthW, lc_iStringLa]
  with_reducible repeat' (first | apply And.intro | exact zR | (intro; skip))
  all_goals (try simp only [std, inj] at *)
  all_goals with_reducible repeat' apply And.intro
  all_goals (try (first | exact z | grind [isStr, snocI, snocS, rowSnoc])))
def isNam (s : ByteArray) : Bool := isSym s && decide ((s.size : Int) ≤ 8)
abbrev P_c_sNam (s : ByteArray) : Ct := ⟨15, [], [ls s], [], .sv (lb (isNam s))⟩
theorem c_sNam (s : ByteArray)  : P_c_sNam s := fnOK Tryd.call15 Tryd.func15 (.h (s.data.toList.length ≤ 9223372036854775807) (.i ((↑s.data.toList.length : Int) ≤ 8) (.c [.rd]
 (c_sIsSymbol s) (.s (lb (isSym s)))) (.s (lb false)))) (by
  dsimp only [teasy, P_c_sNam]
  with_reducible repeat' (first | apply And.intro | exact zR | (intro; skip))
  all_goals (try simp only [std, inj] at *)
  all_goals with_reducible repeat' apply And.intro
  all_goals (try (first | exact z | grind [isNam, snocI, snocS, rowSnoc])))
abbrev P_c_iNam (s : ByteArray) : Ct := ⟨31, [], [ls s], [], .sv (lb (isNam s))⟩
theorem c_iNam (s : ByteArray)  : P_c_iNam s := fnOK Tryd.call31 Tryd.func31 (.c [.rd] (c_iIsSymbol s) (.b (isSym s) (.h (s.data.toList.length ≤ 9223372036854775807) (.s (lb (decide
 ((↑s.data.toList.length : Int) ≤ 8))))) (.s (lb false)))) (by
  dsimp only [teasy, P_c_iNam]
  with_reducible repeat' (first | apply And.intro | exact zR | (intro; skip))
  all_goals (try simp only [std, inj] at *)
  all_goals with_reducible repeat' apply And.intro
  all_goals (try (first | exact z | grind [isNam, snocI, snocS, rowSnoc])))
def nodD (k n : Int) (t : ByteArray) (i : Int) : Bool := decide (k = 0 ∧ n = 0 ∧ t.data.toList = []) || decide (k = 1 ∧ n = 0 ∧ isSym t = true ∧ i = 0) || decide (k = 2 ∧ -999999999 ≤ n ∧ n ≤ 999999999 ∧ t.data.toList = [] ∧ i = 0) || decide (k = 3 ∧ 0 ≤ n ∧ n ≤ 1 ∧ t.data.toList = [] ∧ i = 0) || decide (k = 4 ∧ n = 0 ∧ isStr t = true ∧ i = 0)
abbrev P_c_sNode (k : Int) (n : Int) (t : ByteArray) (i : Int) : Ct := ⟨57, [], [li k, li n, ls t, li i], [], .sv (lb (nodD k n t i))⟩
theorem c_sNode (k n : Int) (t : ByteArray) (i : Int)  : P_c_sNode k n t i := fnOK Tryd.call57 Tryd.func57 (.i (k = 0) (.i (n = 0) (.s (lb (decide (t.data.toList = [])))) (.s (lb
 false))) (.i (k = 1) (.i (n = 0) (.c [.rd] (c_sIsSymbol t) (.b (isSym t) (.s (lb (decide (i = 0)))) (.s (lb false)))) (.y false (.s (lb false)))) (.i (k = 2) (.c [.rd, .rd, .rd]
 (c_l1In n (-999999999 : Int) 999999999) (.i ((-999999999 : Int) ≤ n ∧ n ≤ 999999999) (.i (t.data.toList = []) (.s (lb (decide (i = 0)))) (.s (lb false))) (.y false (.s (lb
 false))))) (.i (k = 3) (.c [.rd, .rd, .rd] (c_l1In n 0 1) (.i (0 ≤ n ∧ n ≤ 1) (.i (t.data.toList = []) (.s (lb (decide (i = 0)))) (.s (lb false))) (.y false (.s (lb false))))) (.i
 (k = 4) (.i (n = 0) (.c [.rd] (c_sString t) (.b (isStr t) (.s (lb (decide (i = 0)))) (.s (lb false)))) (.y false (.s (lb false)))) (.s (lb false))))))) (by
  dsimp only [teasy, P_c_sNode]
  with_reducible repeat' (first | apply And.intro | exact zR | (intro; skip))
  all_goals (try simp only [std, inj] at *)
  all_goals with_reducible repeat' apply And.intro
  all_goals (try (first | exact z | grind [nodD, snocI, snocS, rowSnoc])))
abbrev P_c_iNode (k : Int) (n : Int) (t : ByteArray) (i : Int) : Ct := ⟨59, [], [li k, li n, ls t, li i], [], .sv (lb (nodD k n t i))⟩
theorem c_iNode (k n : Int) (t : ByteArray) (i : Int)  : P_c_iNode k n t i := fnOK Tryd.call59 Tryd.func59 (.i (k = 0) (.i (n = 0) (.s (lb (decide (t.data.toList = [])))) (.s (lb
 false))) (.i (k = 1) (.i (n = 0) (.i (i = 0) (.c [.rd] (c_iIsSymbol t) (.s (lb (isSym t)))) (.s (lb false))) (.y false (.s (lb false)))) (.i (k = 2) (.i ((-999999999 : Int) ≤ n)
 (.i (n ≤ 999999999) (.i (t.data.toList = []) (.s (lb (decide (i = 0)))) (.s (lb false))) (.y false (.s (lb false)))) (.y false (.y false (.s (lb false))))) (.i (k = 3) (.i (n = 0)
 (.y true (.i (t.data.toList = []) (.s (lb (decide (i = 0)))) (.s (lb false)))) (.i (n = 1) (.i (t.data.toList = []) (.s (lb (decide (i = 0)))) (.s (lb false))) (.y false (.s (lb
 false))))) (.i (k = 4) (.i (n = 0) (.i (i = 0) (.c [.rd] (c_iString t) (.s (lb (isStr t)))) (.s (lb false))) (.y false (.s (lb false)))) (.s (lb false))))))) (by
  dsimp only [teasy, P_c_iNode]
  with_reducible repeat' (first | apply And.intro | exact zR | (intro; skip))
  all_goals (try simp only [std, inj] at *)
  all_goals with_reducible repeat' apply And.intro
  all_goals (try (first | exact z | grind [nodD, snocI, snocS, rowSnoc])))
mutual
def sizeD : Datum → Nat
  | ⟨_, _, _, l⟩ => sizeDs l + 1
def sizeDs : List Datum → Nat
  | [] => 0
  | c :: r => sizeD c + sizeDs r
end
theorem sizeDs_eq : ∀ l, sizeDs l = sumBy sizeD l
  | [] => by simp [sizeDs, sumBy]
  | c :: r => by rw [sizeDs, sumBy, sizeDs_eq r]
theorem sizeD_eq (c : Datum) : sizeD c = sumBy sizeD c.items + 1 := by cases c; simp only [sizeD, sizeDs_eq]
mutual
def depD : Datum → Nat
  | ⟨_, _, _, l⟩ => depDs l + 1
def depDs : List Datum → Nat
  | [] => 0
  | c :: r => max (depD c) (depDs r)
end
theorem depDs_eq : ∀ l, depDs l = maxBy depD l
  | [] => by simp [depDs, maxBy]
  | c :: r => by rw [depDs, maxBy, depDs_eq r]
theorem depD_eq (c : Datum) : depD c = maxBy depD c.items + 1 := by cases c; simp only [depD, depDs_eq]
theorem depD_le : ∀ c : Datum, depD c ≤ sizeD c := by
  refine Datum.ind fun c ih => ?_
  have := maxBy_sum ih
  rw [sizeD_eq, depD_eq]; omega
mutual
def okD : Datum → Bool
  | ⟨k, n, t, l⟩ => okDs l && nodD k n t l.length
def okDs : List Datum → Bool
  | [] => true
  | c :: r => okD c && okDs r
end
theorem okDs_eq : ∀ l, okDs l = l.all okD
  | [] => by simp [okDs]
  | c :: r => by rw [okDs, okDs_eq r]; rfl
theorem okD_eq (c : Datum) : okD c = (c.items.all okD && nodD c.kind c.number c.text c.items.length) := by cases c; simp only [okD, okDs_eq]
def isDat (d : Datum) : Bool := decide (sizeD d ≤ 600) && decide (depD d ≤ 20) && okD d
mutual
def meaD : Datum → Int → Int → Bool × Int
  | ⟨k, n, t, l⟩, deep, m => if deep ≤ 20 ∧ m + 1 ≤ 600 ∧ nodD k n t l.length = true then meaDs l (deep + 1) (m + 1) else (false, m + 1)
def meaDs : List Datum → Int → Int → Bool × Int
  | [], _, m => (true, m)
  | x :: r, deep, m => if (meaD x deep m).1 then meaDs r deep (meaD x deep m).2 else (false, (meaD x deep m).2)
end
theorem meaDs_eq : ∀ l deep m, meaDs l deep m = scan (fun x m => meaD x deep m) l m
  | [], _, _ => by simp [meaDs, scan]
  | x :: r, deep, m => by simp only [meaDs, scan, meaDs_eq r]
theorem meaD_eq (c : Datum) (deep m : Int) : meaD c deep m = if deep ≤ 20 ∧ m + 1 ≤ 600 ∧ nodD c.kind c.number c.text c.items.length = true then scan (fun x m => meaD x (deep + 1) m) c.items (m + 1) else (false, m + 1) := by cases c; simp only [meaD, meaDs_eq]
theorem meaD_of : ∀ (c : Datum) (deep m : Int), m ≤ 600 → ((meaD c deep m).1 = true ↔ (m + sizeD c ≤ 600 ∧ (deep + depD c ≤ 21 ∧ okD c = true))) ∧ ((meaD c deep m).1 = true → (meaD c deep m).2 = m + sizeD c) := by
  refine Datum.ind fun c ih deep m hm => ?_
  rw [meaD_eq, sizeD_eq, depD_eq, okD_eq, Bool.and_eq_true, List.all_eq_true]
  by_cases h : deep ≤ 20 ∧ m + 1 ≤ 600 ∧ nodD c.kind c.number c.text c.items.length = true
  · rw [if_pos h]
    have h1 := scan_of (fun x m => meaD x (deep + 1) m) sizeD (fun x => deep + 1 + depD x ≤ 21 ∧ okD x = true) 600 c.items (fun x hx m hm => ih x hx (deep + 1) m hm) (m + 1) h.2.1
    have h2 := maxBy_le depD (m := (20 - deep).toNat) (L := c.items)
    constructor
    · rw [h1.1]
      constructor
      · rintro ⟨a, b⟩
        have := h2.2 fun x hx => by have := (b x hx).1; omega
        exact ⟨by omega, by omega, fun x hx => (b x hx).2, h.2.2⟩
      · rintro ⟨a, b, d, e⟩
        have := h2.1 (by omega)
        exact ⟨by omega, fun x hx => ⟨by have := this x hx; omega, d x hx⟩⟩
    · intro ht; rw [h1.2 ht]; omega
  · rw [if_neg h]
    refine ⟨⟨fun e => Bool.noConfusion e, ?_⟩, fun e => Bool.noConfusion e⟩
    rintro ⟨a, b, d, e⟩
    exact absurd ⟨by omega, by omega, e⟩ h
theorem meaD_isDat (d : Datum) : (meaD d 1 0).1 = isDat d := by
  have h := (meaD_of d 1 0 (by decide)).1
  rw [Bool.eq_iff_iff, h]
  simp only [isDat, Bool.and_eq_true, decide_eq_true_eq, and_assoc]
  constructor
  · rintro ⟨a, b, e⟩; exact ⟨by omega, by omega, e⟩
  · rintro ⟨a, b, e⟩; exact ⟨by omega, by omega, e⟩
abbrev P_c_sFewD (d : Datum) (l : Int) : Ct := ⟨37, [.box [vI l]], [datumA d, .one (.ptr 0 0)], [.box [vI (max (l - sizeD d) (-1))]], .sv (lb (decide (sizeD d ≤ l)))⟩
def lc_sFewD_sLa (d : Datum) (l : Int) : Lp Nat := .mk 36 1 (fun x => [(1, SV.one (AC.ptr 0 0)), (2, SV.one (AC.ptr 1 0)), (5, hs x 0)]) (fun x => [Ob.box [ha x 1], Ob.box (vals
 (datumF d))]) (fun k => [.s (li (↑k : Int)), .a (vI (max (l - 1 - (↑(sumBy sizeD (List.take k d.items)) : Int)) (-1 : Int)))]) (fun k => d.items.length ≥ k) (fun k =>
 d.items.length - k) [.mk True (.exit 0) (fun x => [(1, SV.one (AC.ptr 0 0))]) (fun x => [Ob.box [ha x 0]]) [.a (vI (max (l - (↑(sizeD d) : Int)) (-1 : Int)))]]
theorem Sc_sFewD_sLa (d : Datum) (l : Int) (h : 0 ≤ l ∧ l ≤ 1000000) (ih : ∀ (z : Datum), z ∈ d.items → ∀ (l : Int), 0 ≤ l ∧ l ≤ 1000000 → OK (P_c_sFewD z l)) : Lp.Sem Tryd.prog
 (loopAt Tryd.f37 0) (lc_sFewD_sLa d l) := lpOK (fun k => .z datumC d.items (.i ((↑k : Int) < (↑(List.map datumC d.items).length : Int)) (.i (0 ≤ max (l - 1 - (↑(sumBy sizeD
 (List.take k d.items)) : Int)) (-1 : Int)) (.x (↑k : Int) (List.map datumC d.items) (datumF (d.items.getD k default)) (.d [.rd, .ptr] (P_c_sFewD (d.items.getD k default) (max (l -
 1 - (↑(sumBy sizeD (List.take k d.items)) : Int)) (-1 : Int))) (.r ((↑k : Int) + 1) (.g [0, 1] (k + 1) [.s (li ((↑k : Int) + 1)), .a (vI (max (max (l - 1 - (↑(sumBy sizeD
 (List.take k d.items)) : Int)) (-1 : Int) - (↑(sizeD (d.items.getD k default)) : Int)) (-1 : Int)))])))) (.o 0 [0] [.a (vI (max (l - 1 - (↑(sumBy sizeD (List.take k d.items)) :
 Int)) (-1 : Int)))])) (.y false (.o 0 [0] [.a (vI (max (l - 1 - (↑(sumBy sizeD (List.take k d.items)) : Int)) (-1 : Int)))])))) (by
  intro k h; try dsimp only [teasy, nthW, lc_sFewD_sLa] at h ⊢
  have g1 := sizeD_eq d
  have g2 := sumBy_takeLe sizeD d.items k
  have g3 := @sumBy_step _ _ sizeD d.items k
  with_reducible repeat' (first | apply And.intro | exact zR | exact ih | (intro; skip) | apply ih)
  all_goals (try simp only [std, inj] at *)
  all_goals with_reducible repeat' apply And.intro
  all_goals (try (first | with_reducible apply ih | (simp only [← List.map_append]; first | with_reducible apply ih)))
  all_goals (try (first | exact z | grind [getD_mem', snocI, snocS, rowSnoc])))
theorem c_sFewD_s (d : Datum) (l : Int) (h : 0 ≤ l ∧ l ≤ 1000000) (ih : ∀ z ∈ d.items, ∀ (l : Int) (h : 0 ≤ l ∧ l ≤ 1000000), P_c_sFewD z l)  : P_c_sFewD d l := fnOK Tryd.call37
 Tryd.func37 (.r (l - 1) (.l (lc_sFewD_sLa d l) (Sc_sFewD_sLa d l h ih) [0, 1] [.s (li 0), .a (vI (l - 1))] 0 (.t (.f [] [Ob.box [vI (max (l - (↑(sizeD d) : Int)) (-1 : Int))]]
 (AV.sv (lb (decide (0 ≤ max (l - (↑(sizeD d) : Int)) (-1 : Int)))))) .q))) (by
  dsimp only [teasy, P_c_sFewD, nthW, lc_sFewD_sLa]
  have g1 := sizeD_eq d
  have g2 : sumBy sizeD (d.items.take 0) = 0 := rfl
  with_reducible repeat' (first | apply And.intro | exact zR | exact ih | (intro; skip))
  all_goals (try simp only [std, inj] at *)
  all_goals with_reducible repeat' apply And.intro
  all_goals (try (first | with_reducible apply ih | (simp only [← List.map_append]; first | with_reducible apply ih)))
  all_goals (try (first | exact z | grind [snocI, snocS, rowSnoc])))
theorem c_sFewD (d : Datum) : ∀ (l : Int) (h : 0 ≤ l ∧ l ≤ 1000000), P_c_sFewD d l := Datum.ind (P := fun d => ∀ (l : Int) (h : 0 ≤ l ∧ l ≤ 1000000), P_c_sFewD d l) (fun d ih l h => c_sFewD_s d l h ih) d
abbrev P_c_sDepD (d : Datum) : Ct := ⟨38, [], [datumA d], [], .sv (li (depD d))⟩
def lc_sDepD_sLa (d : Datum) : Lp Nat := .mk 20 0 (fun x => [(3, hs x 1), (7, ll (List.map datumC d.items)), (8, li (↑(List.map datumC d.items).length : Int)), (9, hs x 0)]) (fun x
 => []) (fun k => [.s (li (↑k : Int)), .s (li (↑(maxBy depD (List.take k d.items)) : Int))]) (fun k => k ≤ d.items.length ∧ d.items.length ≤ 9223372036854775807) (fun k =>
 d.items.length - k) [.mk True (.exit 0) (fun x => [(3, hs x 0)]) (fun x => []) [.s (li (↑(maxBy depD d.items) : Int))]]
theorem Sc_sDepD_sLa (d : Datum) (h : sizeD d ≤ 2147483647) (ih : ∀ (z : Datum), z ∈ d.items → sizeD z ≤ 2147483647 → OK (P_c_sDepD z)) : Lp.Sem Tryd.prog (loopAt Tryd.f38 0)
 (lc_sDepD_sLa d) := lpOK (fun k => .i ((↑k : Int) < (↑(List.map datumC d.items).length : Int)) (.x (↑k : Int) (List.map datumC d.items) (datumF (d.items.getD k default)) (.d [.rd]
 (P_c_sDepD (d.items.getD k default)) (.r ((↑k : Int) + 1) (.g [] (k + 1) [.s (li ((↑k : Int) + 1)), .s (li (max (↑(maxBy depD (List.take k d.items)) : Int) (↑(depD (d.items.getD k
 default)) : Int)))])))) (.o 0 [] [.s (li (↑(maxBy depD (List.take k d.items)) : Int))])) (by
  intro k h; try dsimp only [teasy, nthW, lc_sDepD_sLa] at h ⊢
  have g1 := sizeD_eq d
  have g2 := @sumBy_mem _ sizeD d.items (d.items.getD k default)
  with_reducible repeat' (first | apply And.intro | exact zR | exact ih | (intro; skip) | apply ih)
  all_goals (try simp only [std, inj] at *)
  all_goals with_reducible repeat' apply And.intro
  all_goals (try (first | with_reducible apply ih | (simp only [← List.map_append]; first | with_reducible apply ih)))
  all_goals (try (first | exact z | grind [maxBy_step, getD_mem', snocI, snocS, rowSnoc])))
theorem c_sDepD_s (d : Datum) (h : sizeD d ≤ 2147483647) (ih : ∀ z ∈ d.items, ∀ (h : sizeD z ≤ 2147483647), P_c_sDepD z)  : P_c_sDepD d := fnOK Tryd.call38 Tryd.func38 (.z datumC
 d.items (.l (lc_sDepD_sLa d) (Sc_sDepD_sLa d h ih) [] [.s (li 0), .s (li 0)] 0 (.t (.r ((↑(maxBy depD d.items) : Int) + 1) (.s (li ((↑(maxBy depD d.items) : Int) + 1)))) .q))) (by
  dsimp only [teasy, P_c_sDepD, nthW, lc_sDepD_sLa]
  have h1 := depD_le d
  have g2 : maxBy depD (d.items.take 0) = 0 := rfl
  with_reducible repeat' (first | apply And.intro | exact zR | exact ih | (intro; skip))
  all_goals (try simp only [std, inj] at *)
  all_goals with_reducible repeat' apply And.intro
  all_goals (try (first | with_reducible apply ih | (simp only [← List.map_append]; first | with_reducible apply ih)))
  all_goals (try (first | exact z | grind [depD_eq, snocI, snocS, rowSnoc])))
theorem c_sDepD (d : Datum) : ∀ (h : sizeD d ≤ 2147483647), P_c_sDepD d := Datum.ind (P := fun d => ∀ (h : sizeD d ≤ 2147483647), P_c_sDepD d) (fun d ih h => c_sDepD_s d h ih) d
abbrev P_c_sOkD (d : Datum) : Ct := ⟨39, [], [datumA d], [], .sv (lb (okD d))⟩
def lc_sOkD_sLa (d : Datum) : Lp Nat := .mk 26 0 (fun x => [(1, SV.one (AC.ptr 0 0)), (6, ll (List.map datumC d.items)), (7, li (↑(List.map datumC d.items).length : Int)), (8, hs x
 0)]) (fun x => [Ob.box (vals (datumF d))]) (fun k => [.s (li (↑k : Int))]) (fun k => k ≤ d.items.length ∧ d.items.length ≤ 9223372036854775807 ∧ (List.take k d.items).all okD =
 true) (fun k => d.items.length - k) [.mk (d.items.all okD = true) (.exit 0) (fun x => [(1, SV.one (AC.ptr 0 0))]) (fun x => [Ob.box (vals (datumF d))]) [], .mk (d.items.all okD =
 false) .ret (fun x => [(2, hs x 0)]) (fun x => []) [.s (lb false)]]
theorem Sc_sOkD_sLa (d : Datum) (ih : ∀ (z : Datum), z ∈ d.items → OK (P_c_sOkD z)) : Lp.Sem Tryd.prog (loopAt Tryd.f39 0) (lc_sOkD_sLa d) := lpOK (fun k => .i ((↑k : Int) <
 (↑(List.map datumC d.items).length : Int)) (.x (↑k : Int) (List.map datumC d.items) (datumF (d.items.getD k default)) (.d [.rd] (P_c_sOkD (d.items.getD k default)) (.b (!okD
 (d.items.getD k default)) (.o 1 [] [.s (lb false)]) (.r ((↑k : Int) + 1) (.g [0] (k + 1) [.s (li ((↑k : Int) + 1))]))))) (.o 0 [0] [])) (by
  intro k h; try dsimp only [teasy, nthW, lc_sOkD_sLa] at h ⊢
  with_reducible repeat' (first | apply And.intro | exact zR | exact ih | (intro; skip) | apply ih)
  all_goals (try simp only [std, inj] at *)
  all_goals with_reducible repeat' apply And.intro
  all_goals (try (first | with_reducible apply ih | (simp only [← List.map_append]; first | with_reducible apply ih)))
  all_goals (try (first | exact z | grind [take_get, getD_mem', snocI, snocS, rowSnoc])))
theorem c_sOkD_s (d : Datum) (ih : ∀ z ∈ d.items, P_c_sOkD z)  : P_c_sOkD d := fnOK Tryd.call39 Tryd.func39 (.z datumC d.items (.l (lc_sOkD_sLa d) (Sc_sOkD_sLa d ih) [0] [.s (li 0)]
 0 (.t (.z datumC d.items (.c [.rd, .rd, .rd, .rd] (c_sNode d.kind d.number d.text (↑(List.map datumC d.items).length : Int)) (.s (lb (nodD d.kind d.number d.text (↑(List.map
 datumC d.items).length : Int)))))) (.t (.s (lb false)) .q)))) (by
  dsimp only [teasy, P_c_sOkD, nthW, lc_sOkD_sLa]
  with_reducible repeat' (first | apply And.intro | exact zR | exact ih | (intro; skip))
  all_goals (try simp only [std, inj] at *)
  all_goals with_reducible repeat' apply And.intro
  all_goals (try (first | with_reducible apply ih | (simp only [← List.map_append]; first | with_reducible apply ih)))
  all_goals (try (first | exact z | grind [okD_eq, snocI, snocS, rowSnoc])))
theorem c_sOkD (d : Datum) : P_c_sOkD d := Datum.ind (P := fun d => P_c_sOkD d) (fun d ih => c_sOkD_s d ih) d
abbrev P_c_sIsDatum (d : Datum) : Ct := ⟨18, [], [datumA d], [], .sv (lb (isDat d))⟩
theorem c_sIsDatum (d : Datum)  : P_c_sIsDatum d := fnOK Tryd.call18 Tryd.func18 (.d [.rd, .ptr] (P_c_sFewD d 600) (.i ((↑(sizeD d) : Int) ≤ 600) (.d [.rd] (P_c_sDepD d) (.i ((↑(depD
 d) : Int) ≤ 20) (.c [.rd] (c_sOkD d) (.s (lb (okD d)))) (.s (lb false)))) (.y false (.s (lb false))))) (by
  dsimp only [teasy, P_c_sIsDatum]
  with_reducible repeat' (first | apply And.intro | exact zR | (intro; skip) | apply c_sFewD | apply c_sDepD)
  all_goals (try simp only [std, inj] at *)
  all_goals with_reducible repeat' apply And.intro
  all_goals (try (first | with_reducible apply c_sFewD | with_reducible apply c_sDepD | (simp only [← List.map_append]; first | with_reducible apply c_sFewD | with_reducible apply c_sDepD)))
  all_goals (try (first | exact z | grind [isDat, snocI, snocS, rowSnoc])))
abbrev P_c_iMeaD (d : Datum) (deep : Int) (q : Int) : Ct := ⟨45, [.box [vI q]], [datumA d, li deep, .one (.ptr 0 0)], [.box [vI (meaD d deep q).2]], .sv (lb (meaD d deep q).1)⟩
def lc_iMeaD_sLa (d : Datum) (deep : Int) (q : Int) : Lp Nat := .mk 49 1 (fun x => [(1, li deep), (2, SV.one (AC.ptr 0 0)), (36, ll (List.map datumC d.items)), (37, li (↑(List.map
 datumC d.items).length : Int)), (38, hs x 0)]) (fun x => [Ob.box [ha x 1]]) (fun k => [.s (li (↑k : Int)), .a (vI (scan (fun x m => meaD x (deep + 1) m) (List.take k d.items) (q +
 1)).snd)]) (fun k => k ≤ d.items.length ∧ d.items.length ≤ 9223372036854775807 ∧ deep ≤ 20 ∧ (scan (fun x m => meaD x (deep + 1) m) (List.take k d.items) (q + 1)).fst = true ∧ q ≤
 (scan (fun x m => meaD x (deep + 1) m) (List.take k d.items) (q + 1)).snd ∧ (scan (fun x m => meaD x (deep + 1) m) (List.take k d.items) (q + 1)).snd ≤ 600) (fun k =>
 d.items.length - k) [.mk ((scan (fun x m => meaD x (deep + 1) m) d.items (q + 1)).fst = true) (.exit 0) (fun x => []) (fun x => [Ob.box [ha x 0]]) [.a (vI (scan (fun x m => meaD x
 (deep + 1) m) d.items (q + 1)).snd)], .mk ((scan (fun x m => meaD x (deep + 1) m) d.items (q + 1)).fst = false) .ret (fun x => [(6, hs x 0)]) (fun x => [Ob.box [ha x 1]]) [.s (lb
 false), .a (vI (scan (fun x m => meaD x (deep + 1) m) d.items (q + 1)).snd)]]
theorem Sc_iMeaD_sLa (d : Datum) (deep : Int) (q : Int) (h : 0 ≤ deep ∧ deep ≤ 21 ∧ 0 ≤ q ∧ q ≤ 600) (ih : ∀ (z : Datum), z ∈ d.items → ∀ (deep q : Int), 0 ≤ deep ∧ deep ≤ 21 ∧ 0 ≤
 q ∧ q ≤ 600 → OK (P_c_iMeaD z deep q)) : Lp.Sem Tryd.prog (loopAt Tryd.f45 0) (lc_iMeaD_sLa d deep q) := lpOK (fun k => .i ((↑k : Int) < (↑(List.map datumC d.items).length : Int))
 (.x (↑k : Int) (List.map datumC d.items) (datumF (d.items.getD k default)) (.r (deep + 1) (.d [.rd, .rd, .ptr] (P_c_iMeaD (d.items.getD k default) (deep + 1) (scan (fun x m =>
 meaD x (deep + 1) m) (List.take k d.items) (q + 1)).snd) (.b (!(meaD (d.items.getD k default) (deep + 1) (scan (fun x m => meaD x (deep + 1) m) (List.take k d.items) (q +
 1)).snd).fst) (.o 1 [0] [.s (lb false), .a (vI (meaD (d.items.getD k default) (deep + 1) (scan (fun x m => meaD x (deep + 1) m) (List.take k d.items) (q + 1)).snd).snd)]) (.r ((↑k
 : Int) + 1) (.g [0] (k + 1) [.s (li ((↑k : Int) + 1)), .a (vI (meaD (d.items.getD k default) (deep + 1) (scan (fun x m => meaD x (deep + 1) m) (List.take k d.items) (q +
 1)).snd).snd)])))))) (.o 0 [0] [.a (vI (scan (fun x m => meaD x (deep + 1) m) (List.take k d.items) (q + 1)).snd)])) (by
  intro k h; try dsimp only [teasy, nthW, lc_iMeaD_sLa] at h ⊢
  have g1 := fun x m => meaD_of x (deep + 1) m
  with_reducible repeat' (first | apply And.intro | exact zR | exact ih | (intro; skip) | apply ih)
  all_goals (try simp only [std, inj] at *)
  all_goals with_reducible repeat' apply And.intro
  all_goals (try (first | with_reducible apply ih | (simp only [← List.map_append]; first | with_reducible apply ih)))
  all_goals (try (first | exact z | grind [scan_step, scan_stop, getD_mem', snocI, snocS, rowSnoc])))
theorem c_iMeaD_s (d : Datum) (deep q : Int) (h : 0 ≤ deep ∧ deep ≤ 21 ∧ 0 ≤ q ∧ q ≤ 600) (ih : ∀ z ∈ d.items, ∀ (deep : Int) (q : Int) (h : 0 ≤ deep ∧ deep ≤ 21 ∧ 0 ≤ q ∧ q ≤
 600), P_c_iMeaD z deep q)  : P_c_iMeaD d deep q := fnOK Tryd.call45 Tryd.func45 (.r (q + 1) (.i (20 < deep) (.y true (.y true (.f [] [Ob.box [vI (q + 1)]] (AV.sv (lb false))))) (.i
 (600 < q + 1) (.y true (.f [] [Ob.box [vI (q + 1)]] (AV.sv (lb false)))) (.z datumC d.items (.c [.rd, .rd, .rd, .rd] (c_iNode d.kind d.number d.text (↑(List.map datumC
 d.items).length : Int)) (.b (!nodD d.kind d.number d.text (↑(List.map datumC d.items).length : Int)) (.f [] [Ob.box [vI (q + 1)]] (AV.sv (lb false))) (.z datumC d.items (.l
 (lc_iMeaD_sLa d deep q) (Sc_iMeaD_sLa d deep q h ih) [0] [.s (li 0), .a (vI (q + 1))] 0 (.t (.f [] [Ob.box [vI (scan (fun x m => meaD x (deep + 1) m) d.items (q + 1)).snd]] (AV.sv
 (lb true))) (.t (.f [] [Ob.box [vI (scan (fun x m => meaD x (deep + 1) m) d.items (q + 1)).snd]] (AV.sv (lb false))) .q)))))))))) (by
  dsimp only [teasy, P_c_iMeaD, nthW, lc_iMeaD_sLa]
  with_reducible repeat' (first | apply And.intro | exact zR | exact ih | (intro; skip))
  all_goals (try simp only [std, inj] at *)
  all_goals with_reducible repeat' apply And.intro
  all_goals (try (first | with_reducible apply ih | (simp only [← List.map_append]; first | with_reducible apply ih)))
  all_goals (try (first | exact z | grind [meaD_eq, scan, snocI, snocS, rowSnoc])))
theorem c_iMeaD (d : Datum) : ∀ (deep : Int) (q : Int) (h : 0 ≤ deep ∧ deep ≤ 21 ∧ 0 ≤ q ∧ q ≤ 600), P_c_iMeaD d deep q := Datum.ind (P := fun d => ∀ (deep : Int) (q : Int) (h : 0 ≤ deep ∧ deep ≤ 21 ∧ 0 ≤ q ∧ q ≤ 600), P_c_iMeaD d deep q) (fun d ih deep q h => c_iMeaD_s d deep q h ih) d
abbrev P_c_iIsDatum (d : Datum) : Ct := ⟨23, [], [datumA d], [], .sv (lb (isDat d))⟩
theorem c_iIsDatum (d : Datum)  : P_c_iIsDatum d := fnOK Tryd.call23 Tryd.func23 (.d [.rd, .rd, .ptr] (P_c_iMeaD d 1 0) (.s (lb (meaD d 1 0).fst))) (by
  dsimp only [teasy, P_c_iIsDatum]
  with_reducible repeat' (first | apply And.intro | exact zR | (intro; skip) | apply c_iMeaD)
  all_goals (try simp only [std, inj] at *)
  all_goals with_reducible repeat' apply And.intro
  all_goals (try (first | with_reducible apply c_iMeaD | (simp only [← List.map_append]; first | with_reducible apply c_iMeaD)))
  all_goals (try (first | exact z | grind [meaD_isDat, snocI, snocS, rowSnoc])))
end Go.Proofs.YtgeegppaaggcjaaDoor
end
section
namespace Go.Proofs.YtgeegppaaggcjaaDoor
open Go Go.Proofs.YtgeegppaaggcjaaDoor.Ab
set_option linter.unusedVariables false
theorem wrap_u64 {n : Nat} (h : n < 9223372036854775808) : IntKind.wrap .i64 (n : Int) = n := by
  apply wrap_rng; rw [rng_i64]; omega
theorem wAnd_low {x : Int} {m : Nat} (hm : m < 9223372036854775808) : 0 ≤ wAnd .i64 x m ∧ wAnd .i64 x m ≤ m := by
  unfold wAnd
  have h1 : (BitVec.ofInt (IntKind.bits .i64) x &&& BitVec.ofInt (IntKind.bits .i64) (m : Int)).toNat ≤ m := by
    rw [BitVec.toNat_and]
    refine Nat.le_trans Nat.and_le_right ?_
    rw [BitVec.toNat_ofInt]
    have e : ((m : Int) % ((2 ^ IntKind.bits .i64 : Nat) : Int)).toNat = m := by
      have : ((2 ^ IntKind.bits .i64 : Nat) : Int) = 18446744073709551616 := by decide
      rw [this]; omega
    rw [e]; exact Nat.le_refl _
  rw [wrap_u64 (by omega)]
  omega
structure Cr where
  b : List UInt8
  i : Nat
  h : Int
instance : Inhabited Cr := ⟨⟨[], 0, 0⟩⟩
def crO (c : Cr) : Ob := .box [vL (c.b.map byteC), vI (c.i : Nat), vI c.h]
def hN (b : List UInt8) : Nat → Int
  | 0 => 3220 + (b.length : Int)
  | k + 1 => wAnd .i64 (hN b k * 1103 + ((b.getD k 0).toNat : Int) + 7) 1073741823
theorem hN_le {b : List UInt8} (h : b.length ≤ 1048576) : ∀ k, 0 ≤ hN b k ∧ hN b k ≤ 1073741823
  | 0 => by unfold hN; omega
  | k + 1 => by unfold hN; exact wAnd_low (m := 1073741823) (by decide)
def newC (b : List UInt8) : Cr := ⟨b, 0, hN b (min b.length 4000)⟩
def nxH (c : Cr) : Int := wI .i64 (wI .i64 (c.h * 6364136223846793005) + 1442695040888963407)
def nxR (c : Cr) : Int := wAnd .i64 (wXor .i64 (wShr .i64 (nxH c) 33) (wShr .i64 (nxH c) 45)) 255
def held {α : Type} (x : α) : α := if System.Platform.numBits = 64 then x else x
theorem held_eq {α : Type} (x : α) : held x = x := by unfold held; split <;> rfl
def nxX0 (c : Cr) : Int := if (c.i : Int) < (c.b.length : Int) then wAnd .i64 (nxR c + ((c.b.getD c.i 0).toNat : Int)) 255 else nxR c
def nxC0 (c : Cr) : Cr := ⟨c.b, if (c.i : Int) < (c.b.length : Int) then c.i + 1 else c.i, nxH c⟩
def nxX (c : Cr) : Int := held (nxX0 c)
def nxC (c : Cr) : Cr := held (nxC0 c)
theorem nxX_eq (c : Cr) : nxX c = nxX0 c := held_eq _
theorem nxC_eq (c : Cr) : nxC c = nxC0 c := held_eq _
theorem nxR_le (c : Cr) : 0 ≤ nxR c ∧ nxR c ≤ 255 := wAnd_low (m := 255) (by decide)
theorem nxX_le (c : Cr) : 0 ≤ nxX c ∧ nxX c ≤ 255 := by
  rw [nxX_eq]; unfold nxX0; split
  · exact wAnd_low (m := 255) (by decide)
  · exact nxR_le c
def okK (c : Cr) : Prop := c.b.length ≤ 1048576
theorem nxC_ok {c : Cr} (h : okK c) : okK (nxC c) := by rw [nxC_eq]; exact h
theorem newC_ok {b : List UInt8} (h : b.length ≤ 1048576) : okK (newC b) := h
def bigX (c : Cr) : Int := nxX c * 16777216 + nxX (nxC c) * 65536 + nxX (nxC (nxC c)) * 256 + nxX (nxC (nxC (nxC c)))
def beX0 (c : Cr) (n : Int) : Int := if n ≤ 0 then 0 else if n ≤ 256 then (nxX c).tmod n else (bigX c).tmod n
def beC0 (c : Cr) (n : Int) : Cr := if n ≤ 0 then c else if n ≤ 256 then nxC c else nxC (nxC (nxC (nxC c)))
def beX (c : Cr) (n : Int) : Int := held (beX0 c n)
def beC (c : Cr) (n : Int) : Cr := held (beC0 c n)
theorem beX_eq (c : Cr) (n : Int) : beX c n = beX0 c n := held_eq _
theorem beC_eq (c : Cr) (n : Int) : beC c n = beC0 c n := held_eq _
theorem beC_ok {c : Cr} {n : Int} (h : okK c) : okK (beC c n) := by
  rw [beC_eq]; unfold beC0; split
  · exact h
  · split
    · exact nxC_ok h
    · exact nxC_ok (nxC_ok (nxC_ok (nxC_ok h)))
theorem tmod_le {a n : Int} (ha : 0 ≤ a) (hn : 0 < n) : 0 ≤ a.tmod n ∧ a.tmod n < n := ⟨Int.tmod_nonneg _ ha, Int.tmod_lt_of_pos _ hn⟩
theorem beX_le (c : Cr) {n : Int} (hn : 0 < n) : 0 ≤ beX c n ∧ beX c n < n := by
  have h1 := nxX_le c; have h2 := nxX_le (nxC c); have h3 := nxX_le (nxC (nxC c)); have h4 := nxX_le (nxC (nxC (nxC c)))
  rw [beX_eq]; unfold beX0; rw [if_neg (by omega)]; split
  · exact tmod_le h1.1 hn
  · exact tmod_le (by unfold bigX; omega) hn
theorem beX_zero {c : Cr} {n : Int} (hn : n ≤ 0) : beX c n = 0 := by rw [beX_eq]; exact if_pos hn
theorem be_0 {c : Cr} {n : Int} (hn : n ≤ 0) : beX c n = 0 ∧ beC c n = c := ⟨beX_zero hn, by rw [beC_eq]; exact if_pos hn⟩
theorem be_1 {c : Cr} {n : Int} (h0 : ¬ n ≤ 0) (hn : n ≤ 256) : beX c n = (nxX c).tmod n ∧ beC c n = nxC c :=
  ⟨by rw [beX_eq]; unfold beX0; rw [if_neg h0, if_pos hn], by rw [beC_eq]; unfold beC0; rw [if_neg h0, if_pos hn]⟩
theorem be_4 {c : Cr} {n : Int} (h0 : ¬ n ≤ 0) (hn : ¬ n ≤ 256) : beX c n = (nxX c * 16777216 + nxX (nxC c) * 65536 + nxX (nxC (nxC c)) * 256 + nxX (nxC (nxC (nxC c)))).tmod n ∧ beC c n = nxC (nxC (nxC (nxC c))) :=
  ⟨by rw [beX_eq]; unfold beX0; rw [if_neg h0, if_neg hn]; rfl, by rw [beC_eq]; unfold beC0; rw [if_neg h0, if_neg hn]⟩
end Go.Proofs.YtgeegppaaggcjaaDoor
end
section
namespace Go.Proofs.YtgeegppaaggcjaaDoor
open Go Go.Proofs.YtgeegppaaggcjaaDoor.Ab
set_option linter.unusedVariables false
set_option linter.unusedSimpArgs false
set_option maxHeartbeats 4000000
abbrev P_c_dNew (b : List UInt8) : Ct := ⟨11, [], [ll (b.map byteC)], [crO (newC b)], .sv (.one (.ptr 0 0))⟩
def lc_dNewLa (b : List UInt8) : Lp Nat := .mk 32 0 (fun x => [(0, ll (List.map byteC b)), (3, hs x 1), (4, hs x 0)]) (fun x => []) (fun k => [.s (li (↑k : Int)), .s (li (hN b
 k))]) (fun k => k ≤ b.length ∧ b.length ≤ 9223372036854775807 ∧ k ≤ 4000) (fun k => b.length - k) [.mk True (.exit 0) (fun x => [(0, ll (List.map byteC b)), (3, hs x 0)]) (fun x
 => []) [.s (li (hN b (min b.length 4000)))]]
theorem Sc_dNewLa (b : List UInt8) (h : b.length ≤ 1048576) : Lp.Sem Tryd.prog (loopAt Tryd.f11 0) (lc_dNewLa b) := lpOK (fun k => .z byteC b (.i ((↑k : Int) < (↑(List.map byteC
 b).length : Int)) (.i ((↑k : Int) < 4000) (.r (hN b k * 1103) (.x (↑k : Int) (List.map byteC b) [Cell.lit (Value.int IntKind.u8 (↑(b.getD k default).toNat : Int))] (.r (↑(b.getD k
 default).toNat : Int) (.r (hN b k * 1103 + (↑(b.getD k default).toNat : Int)) (.r (hN b k * 1103 + (↑(b.getD k default).toNat : Int) + 7) (.r ((↑k : Int) + 1) (.g [] (k + 1) [.s
 (li ((↑k : Int) + 1)), .s (li (wAnd IntKind.i64 (hN b k * 1103 + (↑(b.getD k default).toNat : Int) + 7) 1073741823))]))))))) (.o 0 [] [.s (li (hN b k))])) (.y false (.o 0 [] [.s
 (li (hN b k))])))) (by
  intro k h; try dsimp only [teasy, nthW, lc_dNewLa] at h ⊢
  have g1 := hN_le (b := b) (by assumption) k
  have g2 : hN b (k + 1) = wAnd .i64 (hN b k * 1103 + ((b.getD k 0).toNat : Int) + 7) 1073741823 := rfl
  have g3 := (b.getD k 0).toNat_lt
  have g4 : b.length ≤ k → k ≤ 4000 → min b.length 4000 = k ∨ b.length < k := by omega
  have g5 : 4000 ≤ k → k ≤ 4000 → k ≤ b.length → min b.length 4000 = k := by omega
  have g6 : k < b.length → (b.map byteC)[k]? = some [.lit (.int .u8 ((b.getD k 0).toNat : Int))] := fun e => by simp [byteC, List.getD_eq_getElem?_getD, e]
  with_reducible repeat' (first | apply And.intro | exact zR | (intro; skip))
  all_goals (try simp only [std, inj] at *)
  all_goals with_reducible repeat' apply And.intro
  all_goals (try (first | exact zw | grind [snocI, snocS, rowSnoc])))
theorem c_dNew (b : List UInt8) (h : b.length ≤ 1048576)  : P_c_dNew b := fnOK Tryd.call11 Tryd.func11 (.z byteC b (.r (3220 + (↑(List.map byteC b).length : Int)) (.l (lc_dNewLa b)
 (Sc_dNewLa b h) [] [.s (li 0), .s (li (3220 + (↑(List.map byteC b).length : Int)))] 0 (.t (.f [0] [Ob.box [vL (List.map byteC b), vI 0, vI (hN b (min b.length 4000))]] (AV.sv
 (SV.one (AC.ptr 0 0)))) .q)))) (by
  dsimp only [teasy, P_c_dNew, nthW, lc_dNewLa]
  have g1 : hN b 0 = 3220 + (b.length : Int) := rfl
  have g2 : crO (newC b) = .box [vL (b.map byteC), vI 0, vI (hN b (min b.length 4000))] := rfl
  with_reducible repeat' (first | apply And.intro | exact zR | (intro; skip))
  all_goals (try simp only [std, inj] at *)
  all_goals with_reducible repeat' apply And.intro
  all_goals (try (first | exact zw | grind [snocI, snocS, rowSnoc])))
abbrev P_c_dByte (c : Cr) : Ct := ⟨60, [crO c], [.one (.ptr 0 0)], [crO (nxC c)], .sv (li (nxX c))⟩
theorem c_dByte (c : Cr) (h : okK c)  : P_c_dByte c := fnOK Tryd.call60 Tryd.func60 (.w (.draw []) (.p ((0 : Int) ≤ 33) (.p ((0 : Int) ≤ 45) (.w (.draw []) (.z byteC c.b (.i ((↑c.i :
 Int) < (↑(List.map byteC c.b).length : Int)) (.w (.draw []) (.x (↑c.i : Int) (List.map byteC c.b) [Cell.lit (Value.int IntKind.u8 (↑(c.b.getD c.i default).toNat : Int))] (.r
 (↑(c.b.getD c.i default).toNat : Int) (.r (wAnd IntKind.i64 (wXor IntKind.i64 (wShr IntKind.i64 (wI IntKind.i64 (wI IntKind.i64 (c.h * 6364136223846793005) + 1442695040888963407))
 33) (wShr IntKind.i64 (wI IntKind.i64 (wI IntKind.i64 (c.h * 6364136223846793005) + 1442695040888963407)) 45)) 255 + (↑(c.b.getD c.i default).toNat : Int)) (.r ((↑c.i : Int) + 1)
 (.f [] [Ob.box [vL (List.map byteC c.b), vI ((↑c.i : Int) + 1), vI (wI IntKind.i64 (wI IntKind.i64 (c.h * 6364136223846793005) + 1442695040888963407))]] (AV.sv (li (wAnd
 IntKind.i64 (wAnd IntKind.i64 (wXor IntKind.i64 (wShr IntKind.i64 (wI IntKind.i64 (wI IntKind.i64 (c.h * 6364136223846793005) + 1442695040888963407)) 33) (wShr IntKind.i64 (wI
 IntKind.i64 (wI IntKind.i64 (c.h * 6364136223846793005) + 1442695040888963407)) 45)) 255 + (↑(c.b.getD c.i default).toNat : Int)) 255))))))))) (.f [] [Ob.box [vL (List.map byteC
 c.b), vI (↑c.i : Int), vI (wI IntKind.i64 (wI IntKind.i64 (c.h * 6364136223846793005) + 1442695040888963407))]] (AV.sv (li (wAnd IntKind.i64 (wXor IntKind.i64 (wShr IntKind.i64
 (wI IntKind.i64 (wI IntKind.i64 (c.h * 6364136223846793005) + 1442695040888963407)) 33) (wShr IntKind.i64 (wI IntKind.i64 (wI IntKind.i64 (c.h * 6364136223846793005) +
 1442695040888963407)) 45)) 255)))))))))) (by
  dsimp only [teasy, P_c_dByte]
  have g1 := nxR_le c
  have g2 : nxR c = wAnd .i64 (wXor .i64 (wShr .i64 (wI .i64 (wI .i64 (c.h * 6364136223846793005) + 1442695040888963407)) 33) (wShr .i64 (wI .i64 (wI .i64 (c.h * 6364136223846793005) + 1442695040888963407)) 45)) 255 := rfl
  have g3 := (c.b.getD c.i 0).toNat_lt
  have g4 : c.i < c.b.length → (c.b.map byteC)[c.i]? = some [.lit (.int .u8 ((c.b.getD c.i 0).toNat : Int))] := fun e => by simp [byteC, List.getD_eq_getElem?_getD, e]
  have g5 : (c.i : Int) < c.b.length → crO (nxC c) = .box [vL (c.b.map byteC), vI ((c.i : Int) + 1), vI (wI .i64 (wI .i64 (c.h * 6364136223846793005) + 1442695040888963407))] := fun e => by rw [nxC_eq]; show Ob.box [_, vI ((if (c.i : Int) < (c.b.length : Int) then c.i + 1 else c.i : Nat) : Int), _] = _; rw [if_pos e]; rfl
  have g6 : ¬ (c.i : Int) < c.b.length → crO (nxC c) = .box [vL (c.b.map byteC), vI (c.i : Int), vI (wI .i64 (wI .i64 (c.h * 6364136223846793005) + 1442695040888963407))] := fun e => by rw [nxC_eq]; show Ob.box [_, vI ((if (c.i : Int) < (c.b.length : Int) then c.i + 1 else c.i : Nat) : Int), _] = _; rw [if_neg e]; rfl
  have g7 := nxX_eq c
  with_reducible repeat' (first | apply And.intro | exact zR | (intro; skip))
  all_goals (try simp only [std, inj] at *)
  all_goals with_reducible repeat' apply And.intro
  all_goals (try (first | exact zw | grind [nxX0, snocI, snocS, rowSnoc])))
abbrev P_c_dBelow (c : Cr) (n : Int) : Ct := ⟨47, [crO c], [.one (.ptr 0 0), li n], [crO (beC c n)], .sv (li (beX c n))⟩
theorem c_dBelow (c : Cr) (n : Int) (h : okK c)  : P_c_dBelow c n := fnOK Tryd.call47 Tryd.func47 (.i (n ≤ 0) (.f [] [Ob.box [vL (List.map byteC c.b), vI (↑c.i : Int), vI c.h]]
 (AV.sv (li 0))) (.i (n ≤ 256) (.d [.ptr] (P_c_dByte c) (.p (n ≠ 0) (.f [] [Ob.box [vL (List.map byteC (nxC c).b), vI (↑(nxC c).i : Int), vI (nxC c).h]] (AV.sv (li ((nxX c).tmod
 n)))))) (.d [.ptr] (P_c_dByte c) (.d [.ptr] (P_c_dByte (nxC c)) (.d [.ptr] (P_c_dByte (nxC (nxC c))) (.d [.ptr] (P_c_dByte (nxC (nxC (nxC c)))) (.r (nxX c * 16777216) (.r (nxX
 (nxC c) * 65536) (.r (nxX c * 16777216 + nxX (nxC c) * 65536) (.r (nxX (nxC (nxC c)) * 256) (.r (nxX c * 16777216 + nxX (nxC c) * 65536 + nxX (nxC (nxC c)) * 256) (.r (nxX c *
 16777216 + nxX (nxC c) * 65536 + nxX (nxC (nxC c)) * 256 + nxX (nxC (nxC (nxC c)))) (.p (n ≠ 0) (.f [] [Ob.box [vL (List.map byteC (nxC (nxC (nxC (nxC c)))).b), vI (↑(nxC (nxC
 (nxC (nxC c)))).i : Int), vI (nxC (nxC (nxC (nxC c)))).h]] (AV.sv (li ((nxX c * 16777216 + nxX (nxC c) * 65536 + nxX (nxC (nxC c)) * 256 + nxX (nxC (nxC (nxC c)))).tmod
 n))))))))))))))))) (by
  dsimp only [teasy, P_c_dBelow]
  have g1 := nxX_le c
  have g2 := nxX_le (nxC c)
  have g3 := nxX_le (nxC (nxC c))
  have g4 := nxX_le (nxC (nxC (nxC c)))
  have g5 := @be_0 c n
  have g6 := @be_1 c n
  have g7 := @be_4 c n
  with_reducible repeat' (first | apply And.intro | exact zR | (intro; skip) | apply c_dByte)
  all_goals (try simp only [std, inj] at *)
  all_goals with_reducible repeat' apply And.intro
  all_goals (try (first | with_reducible apply c_dByte | (simp only [← List.map_append]; first | with_reducible apply c_dByte)))
  all_goals (try (first | exact zw | grind [nxC_ok, crO, snocI, snocS, rowSnoc])))
abbrev P_c_dOnce (c : Cr) (n : Int) : Ct := ⟨27, [crO c], [.one (.ptr 0 0), li n], [crO (beC c n)], .sv (lb (decide (beX c n = 0)))⟩
theorem c_dOnce (c : Cr) (n : Int) (h : okK c)  : P_c_dOnce c n := fnOK Tryd.call27 Tryd.func27 (.d [.ptr, .rd] (P_c_dBelow c n) (.f [] [Ob.box [vL (List.map byteC (beC c n).b), vI
 (↑(beC c n).i : Int), vI (beC c n).h]] (AV.sv (lb (decide (beX c n = 0)))))) (by
  dsimp only [teasy, P_c_dOnce]
  with_reducible repeat' (first | apply And.intro | exact zR | (intro; skip) | apply c_dBelow)
  all_goals (try simp only [std, inj] at *)
  all_goals with_reducible repeat' apply And.intro
  all_goals (try (first | with_reducible apply c_dBelow | (simp only [← List.map_append]; first | with_reducible apply c_dBelow)))
  all_goals (try (first | exact zw | grind [crO, snocI, snocS, rowSnoc])))
abbrev P_c_dPick (c : Cr) (L : List ByteArray) : Ct := ⟨26, [crO c, .arr true 1 (L.map strC)], [.one (.ptr 0 0), .one (.ref 1)], [crO (beC c (L.length : Int)), .dead], .sv (ls (L.getD (beX c (L.length : Int)).toNat default))⟩
theorem c_dPick (c : Cr) (L : List ByteArray) (h : okK c ∧ 0 < L.length ∧ L.length ≤ 1000)  : P_c_dPick c L := fnOK Tryd.call26 Tryd.func26 (.z strC L (.d [.ptr, .rd] (P_c_dBelow c
 (↑(List.map strC L).length : Int)) (.p (0 ≤ beX c (↑(List.map strC L).length : Int) ∧ (beX c (↑(List.map strC L).length : Int)).toNat < (List.map strC L).length) (.w (.cells (strC
 (L.getD (beX c (↑(List.map strC L).length : Int)).toNat default))) (.p ((List.map strC L)[(beX c (↑(List.map strC L).length : Int)).toNat]? = some [cS (L.getD (beX c (↑(List.map
 strC L).length : Int)).toNat default)]) (.w (.ghost (.move 1)) (.f [] [Ob.box [vL (List.map byteC (beC c (↑(List.map strC L).length : Int)).b), vI (↑(beC c (↑(List.map strC
 L).length : Int)).i : Int), vI (beC c (↑(List.map strC L).length : Int)).h], Ob.dead] (AV.sv (ls (L.getD (beX c (↑(List.map strC L).length : Int)).toNat default)))))))))) (by
  dsimp only [teasy, P_c_dPick]
  have g1 := beX_le c (n := (L.length : Int)) (by omega)
  have g2 : (L.map strC)[(beX c (L.length : Int)).toNat]? = some [cS (L.getD (beX c (L.length : Int)).toNat default)] := getC (by omega) rfl
  with_reducible repeat' (first | apply And.intro | exact zR | (intro; skip) | apply c_dBelow)
  all_goals (try simp only [std, inj] at *)
  all_goals with_reducible repeat' apply And.intro
  all_goals (try (first | with_reducible apply c_dBelow | (simp only [← List.map_append]; first | with_reducible apply c_dBelow)))
  all_goals (try (first | exact zw | grind [crO, snocI, snocS, rowSnoc])))
end Go.Proofs.YtgeegppaaggcjaaDoor
end
section
namespace Go.Proofs.YtgeegppaaggcjaaDoor
open Go Go.Proofs.YtgeegppaaggcjaaDoor.Ab
set_option linter.unusedVariables false
theorem dec_one {u : Nat} (h : u < 10) : Lib.decDigits u = [UInt8.ofNat (48 + u)] := by rw [Lib.decDigits, dif_pos h]
theorem dec_more {u : Nat} (h : ¬ u < 10) : Lib.decDigits u = Lib.decDigits (u / 10) ++ [UInt8.ofNat (48 + u % 10)] := by rw [Lib.decDigits, dif_neg h]
theorem dec_len : ∀ (k u : Nat), u < 10 ^ (k + 1) → (Lib.decDigits u).length ≤ k + 1
  | k, u, h => by
    by_cases hu : u < 10
    · rw [dec_one hu]; simp
    · cases k with
      | zero => exact absurd (by simpa using h) hu
      | succ k =>
        have := dec_len k (u / 10) (by rw [Nat.pow_succ] at h; omega)
        rw [dec_more hu]; simp only [List.length_append, List.length_cons, List.length_nil]; omega
theorem dig_one {d : Nat} (hd : d < 10) : (UInt8.ofNat (48 + d)).toNat = 48 + d := by
  rw [UInt8.toNat_ofNat']; omega
theorem dec_dig (u : Nat) : ∀ b ∈ Lib.decDigits u, 48 ≤ b.toNat ∧ b.toNat ≤ 57 := by
  induction u using Nat.strongRecOn with
  | _ u ih =>
    by_cases hu : u < 10
    · rw [dec_one hu]; intro b hb; rw [List.mem_singleton.1 hb, dig_one hu]; omega
    · rw [dec_more hu]; intro b hb
      rcases List.mem_append.1 hb with hb | hb
      · exact ih (u / 10) (by omega) b hb
      · rw [List.mem_singleton.1 hb, dig_one (by omega)]; omega
theorem dec_ne (u : Nat) : Lib.decDigits u ≠ [] := by
  by_cases hu : u < 10
  · rw [dec_one hu]; simp
  · rw [dec_more hu]; simp
def dgs (u : Nat) : List UInt8 := if u = 0 then [] else Lib.decDigits u
theorem dgs_step {u : Nat} (h : u ≠ 0) : dgs u = dgs (u / 10) ++ [UInt8.ofNat (48 + u % 10)] := by
  unfold dgs
  rw [if_neg h]
  by_cases hu : u < 10
  · rw [dec_one hu, if_pos (by omega), Nat.mod_eq_of_lt hu]; rfl
  · rw [dec_more hu, if_neg (by omega)]
theorem dgs_zero : dgs 0 = [] := rfl
theorem dgs_ne {u : Nat} (h : u ≠ 0) : dgs u = Lib.decDigits u := if_neg h
theorem itoa_pos {n : Int} (h : 0 ≤ n) : Lib.itoa n = Lib.decDigits n.natAbs := by
  unfold Lib.itoa; rw [if_neg (by omega)]; congr 1; omega
theorem itoa_neg {n : Int} (h : n < 0) : Lib.itoa n = 45 :: Lib.decDigits n.natAbs := by unfold Lib.itoa; rw [if_pos h]
theorem itoa_zero : Lib.itoa 0 = [48] := by rw [itoa_pos (by decide)]; exact dec_one (by decide)
theorem itoa_len {n : Int} (h : -9223372036854775808 ≤ n ∧ n ≤ 9223372036854775807) : (Lib.itoa n).length ≤ 21 := by
  have e : (10 : Nat) ^ (19 + 1) = 100000000000000000000 := by decide
  have := dec_len 19 n.natAbs (by omega)
  by_cases hn : n < 0
  · rw [itoa_neg hn]; simp only [List.length_cons]; omega
  · rw [itoa_pos (by omega)]; omega
theorem itoa_len9 {n : Int} (h : -999999999 ≤ n ∧ n ≤ 999999999) : (Lib.itoa n).length ≤ 10 := by
  have e : (10 : Nat) ^ (8 + 1) = 1000000000 := by decide
  have := dec_len 8 n.natAbs (by omega)
  by_cases hn : n < 0
  · rw [itoa_neg hn]; simp only [List.length_cons]; omega
  · rw [itoa_pos (by omega)]; omega
theorem dec_ge {n : Int} (h : -9223372036854775808 ≤ n ∧ n ≤ 9223372036854775807) : (Lib.decDigits n.natAbs).length ≤ 20 := by
  have e : (10 : Nat) ^ (19 + 1) = 100000000000000000000 := by decide
  exact dec_len 19 n.natAbs (by omega)
def atN (s : ByteArray) : Nat := if 0 < (s.size : Int) ∧ ((s.data.toList.getD 0 0).toNat : Int) = 45 then 1 else 0
def digO (s : ByteArray) : Option Nat := Lib.decFrom 0 ((tx s).drop (atN s))
def digB (s : ByteArray) : Bool := (digO s).isSome
def magN (s : ByteArray) : Nat := (digO s).getD 0
def sgN (s : ByteArray) : Int := if atN s = 1 then 0 - (magN s : Int) else magN s
def shpN (s : ByteArray) : Bool := decide (atN s < s.size ∧ s.size ≤ atN s + 9) && digB s
def isNum (s : ByteArray) : Bool := shpN s && decide (Lib.itoa (sgN s) = tx s)
def numV (s : ByteArray) : Int := if isNum s then sgN s else 0
def prtN (s : ByteArray) (k : Nat) : Option Nat := Lib.decFrom 0 (((tx s).drop (atN s)).take (k - atN s))
theorem prt_zero (s : ByteArray) : prtN s (atN s) = some 0 := by simp [prtN, Lib.decFrom]
theorem prt_all {s : ByteArray} {m : Nat} (h : prtN s s.size = some m) : digB s = true ∧ magN s = m := by
  have e : ((tx s).drop (atN s)).take (s.size - atN s) = (tx s).drop (atN s) := List.take_of_length_le (by rw [List.length_drop]; exact Nat.le_refl _)
  unfold prtN at h; rw [e] at h
  simp [digB, magN, digO, h]
theorem at_le (s : ByteArray) : atN s ≤ 1 := by unfold atN; split <;> omega
theorem get_drop {l : List UInt8} {a k : Nat} (h1 : a ≤ k) (h2 : k < l.length) : (l.drop a)[k - a]? = some (l.getD k 0) := by
  rw [List.getElem?_drop, show a + (k - a) = k by omega]; simp [h2]
theorem prt_step {s : ByteArray} {k m : Nat} (h1 : atN s ≤ k) (h2 : k < s.size) (h : prtN s k = some m) (hd : 48 ≤ ((tx s).getD k 0).toNat ∧ ((tx s).getD k 0).toNat ≤ 57) :
    prtN s (k + 1) = some (m * 10 + (((tx s).getD k 0).toNat - 48)) := by
  unfold prtN at *
  rw [show k + 1 - atN s = k - atN s + 1 by omega]
  exact Lib.decFrom_take _ _ _ _ _ _ h (get_drop h1 h2) (by unfold Lib.digitVal; rw [if_pos hd])
theorem prt_stop {s : ByteArray} {k : Nat} (h1 : atN s ≤ k) (h2 : k < s.size) (hd : ¬ (48 ≤ ((tx s).getD k 0).toNat ∧ ((tx s).getD k 0).toNat ≤ 57)) : digB s = false := by
  cases e : digO s with
  | none => simp [digB, e]
  | some m =>
    obtain ⟨d, hd'⟩ := Lib.digit_of_decFrom _ _ _ e _ _ (get_drop h1 h2)
    unfold Lib.digitVal at hd'
    rw [if_neg hd] at hd'; cases hd'
theorem prt_lt {s : ByteArray} {k m : Nat} (h : prtN s k = some m) (hk : k ≤ atN s + 9) : m < 1000000000 := by
  have h1 := Lib.decFrom_lt _ 0 m h
  have h2 : (((tx s).drop (atN s)).take (k - atN s)).length ≤ 9 := by rw [List.length_take]; omega
  have h3 := Nat.pow_le_pow_right (n := 10) (by decide) h2
  have e : (10 : Nat) ^ 9 = 1000000000 := by decide
  omega
theorem mag_lt {s : ByteArray} (h : digB s = true) (hk : s.size ≤ atN s + 9) : magN s < 1000000000 := by
  have e : ((tx s).drop (atN s)).take (s.size - atN s) = (tx s).drop (atN s) := List.take_of_length_le (by rw [List.length_drop]; exact Nat.le_refl _)
  obtain ⟨m, hm⟩ := Option.isSome_iff_exists.1 h
  have := prt_lt (s := s) (k := s.size) (m := m) (by unfold prtN; rw [e]; exact hm) hk
  simp only [magN, hm, Option.getD_some]; exact this
theorem num_range {s : ByteArray} (h : isNum s = true) : -999999999 ≤ numV s ∧ numV s ≤ 999999999 ∧ numV s = sgN s ∧ Lib.itoa (sgN s) = tx s := by
  have e : numV s = sgN s := by unfold numV; rw [if_pos h]
  simp only [isNum, shpN, Bool.and_eq_true, decide_eq_true_eq] at h
  have := mag_lt h.1.2 h.1.1.2
  refine ⟨?_, ?_, e, h.2⟩ <;> rw [e] <;> unfold sgN <;> split <;> omega
theorem num_none {s : ByteArray} (h : isNum s = false) : numV s = 0 := by unfold numV; rw [h]; rfl
theorem num_atoi {s : ByteArray} (h : isNum s = true) : Lib.atoi (tx s) = some (sgN s) ∧ 1 ≤ s.size ∧ s.size ≤ 10 := by
  have hr := num_range h
  have h0 := h
  simp only [isNum, shpN, Bool.and_eq_true, decide_eq_true_eq] at h
  obtain ⟨⟨⟨h1, h2⟩, h3⟩, h4⟩ := h
  have hle := at_le s
  refine ⟨?_, by omega, by omega⟩
  obtain ⟨m, hm⟩ := Option.isSome_iff_exists.1 h3
  have hmag : magN s = m := by simp [magN, hm]
  have hl : (tx s).length = s.size := rfl
  cases e : tx s with
  | nil => rw [e] at hl; simp at hl; omega
  | cons b r =>
    have hb : (tx s).getD 0 0 = b := by rw [e]; rfl
    unfold digO at hm
    by_cases ha : atN s = 1
    · rw [ha, e, List.drop_one, List.tail_cons] at hm
      have hb45 : b = 45 := by
        unfold atN at ha
        split at ha
        · rename_i hc; have := hc.2; rw [show s.data.toList = tx s from rfl, hb] at this
          exact UInt8.toNat_inj.1 (by have : b.toNat = 45 := by omega
                                      rw [this]; rfl)
        · cases ha
      subst hb45
      have hr0 : r ≠ [] := by intro hh; rw [e, hh] at hl; simp at hl; omega
      simp only [Lib.atoi, Lib.decNat, hm, sgN, ha, hmag]
      cases r with
      | nil => exact absurd rfl hr0
      | cons x y => simp
    · have ha0 : atN s = 0 := by omega
      rw [ha0, e, List.drop_zero] at hm
      obtain ⟨d, hd⟩ := Lib.digit_of_decFrom _ _ _ hm 0 b rfl
      have hdig : 48 ≤ b.toNat ∧ b.toNat ≤ 57 := by
        unfold Lib.digitVal at hd; split at hd
        · assumption
        · cases hd
      have n1 : ¬ b = 45 := by rintro rfl; exact absurd hdig.1 (by decide)
      have n2 : ¬ b = 43 := by rintro rfl; exact absurd hdig.1 (by decide)
      simp only [Lib.atoi, Lib.decNat, hm, sgN, ha0, hmag]
      simp [n1, n2]
theorem atoi_num {s : ByteArray} {v : Int} (h : Lib.atoi (tx s) = some v) (hv : -999999999 ≤ v ∧ v ≤ 999999999) (hi : Lib.itoa v = tx s) : isNum s = true ∧ sgN s = v := by
  have e9 : (10 : Nat) ^ (8 + 1) = 1000000000 := by decide
  have hlen := dec_len 8 v.natAbs (by omega)
  have hl : (tx s).length = s.size := rfl
  obtain ⟨b0, r, e, hc⟩ := Lib.atoi_cases h
  have hb : (tx s).getD 0 0 = b0 := by rw [e]; rfl
  have key : atN s < s.size ∧ s.size ≤ atN s + 9 ∧ digB s = true ∧ sgN s = v := by
    by_cases hn : v < 0
    · rw [itoa_neg hn, e] at hi
      obtain ⟨rfl, rfl⟩ := List.cons.inj hi
      have ha : atN s = 1 := by unfold atN; rw [if_pos]; refine ⟨by rw [e] at hl; simp at hl; omega, ?_⟩; rw [show s.data.toList = tx s from rfl, hb]; rfl
      rcases hc with ⟨_, m, _, hm, rfl⟩ | ⟨h43, _⟩ | ⟨h45, _⟩
      · have hd : digO s = some m := by unfold digO; rw [ha, e]; exact hm
        rw [e] at hl; simp only [List.length_cons] at hl
        have := List.length_pos_iff.2 (dec_ne (-(m : Int)).natAbs)
        exact ⟨by omega, by omega, by simp [digB, hd], by simp [sgN, ha, magN, hd]⟩
      · exact absurd h43 (by decide)
      · exact absurd rfl h45
    · rw [itoa_pos (by omega), e] at hi
      have hb0 := dec_dig v.natAbs b0 (by rw [hi]; exact List.mem_cons_self)
      have ha : atN s = 0 := by
        unfold atN; rw [if_neg]; rintro ⟨_, h45⟩; rw [show s.data.toList = tx s from rfl, hb] at h45; omega
      rcases hc with ⟨h45, _⟩ | ⟨h43, _⟩ | ⟨_, _, m, hm, rfl⟩
      · subst h45; exact absurd hb0.1 (by decide)
      · subst h43; exact absurd hb0.1 (by decide)
      · have hd : digO s = some m := by unfold digO; rw [ha, e]; exact hm
        rw [hi, ← e] at hlen
        rw [e] at hl; simp only [List.length_cons] at hl
        have hl2 : (tx s).length = s.size := rfl
        exact ⟨by omega, by omega, by simp [digB, hd], by simp [sgN, ha, magN, hd]⟩
  obtain ⟨k1, k2, k3, k4⟩ := key
  exact ⟨by simp only [isNum, shpN, Bool.and_eq_true, decide_eq_true_eq]; exact ⟨⟨⟨k1, k2⟩, k3⟩, by rw [k4]; exact hi⟩, k4⟩
theorem rng_u8 {n : Int} : rng .u8 n ↔ 0 ≤ n ∧ n ≤ 255 := by
  simp [rng, IntKind.min, IntKind.max, IntKind.signed, IntKind.bits]
theorem u8_back {m : Int} (h : 0 ≤ m ∧ m ≤ 255) : ((UInt8.ofNat m.toNat).toNat : Int) = m := by
  rw [UInt8.toNat_ofNat']; omega
end Go.Proofs.YtgeegppaaggcjaaDoor
end
section
namespace Go.Proofs.YtgeegppaaggcjaaDoor
open Go Go.Proofs.YtgeegppaaggcjaaDoor.Ab
set_option linter.unusedVariables false
def isBl (n : Int) : Bool := decide (n = 32 ∨ n = 10 ∨ n = 9)
def isEn (n : Int) : Bool := decide (n = 40 ∨ n = 41 ∨ n = 34 ∨ n = 59 ∨ n = 39)
def isRu (n : Int) : Bool := !isBl n && !isEn n
def pas (p : Int → Bool) : List UInt8 → List UInt8
  | [] => []
  | b :: r => if p b.toNat then pas p r else b :: r
def pre (p : Int → Bool) : List UInt8 → List UInt8
  | [] => []
  | b :: r => if p b.toNat then b :: pre p r else []
def noQ (n : Int) : Bool := !decide (n = 34)
theorem pas_suf (p : Int → Bool) : ∀ r, pas p r <:+ r
  | [] => List.suffix_refl _
  | b :: r => by
    unfold pas; split
    · exact (pas_suf p r).trans (List.suffix_cons b r)
    · exact List.suffix_refl _
theorem pas_pre (p : Int → Bool) : ∀ r, pre p r ++ pas p r = r
  | [] => rfl
  | b :: r => by
    unfold pas pre; split
    · rw [List.cons_append, pas_pre p r]
    · rfl
theorem pas_idem (p : Int → Bool) : ∀ r, pas p (pas p r) = pas p r
  | [] => rfl
  | b :: r => by
    by_cases h : p b.toNat = true
    · have e : pas p (b :: r) = pas p r := by show (if p b.toNat = true then pas p r else b :: r) = _; rw [if_pos h]
      rw [e]; exact pas_idem p r
    · have e : pas p (b :: r) = b :: r := by show (if p b.toNat = true then pas p r else b :: r) = _; rw [if_neg h]
      rw [e, e]
abbrev skp := pas isBl
def by0 (r : List UInt8) : Int := ((r.getD 0 0).toNat : Int)
def atomO (t : ByteArray) : Option Datum :=
  if isNum t = true then some ⟨2, numV t, mkS [], []⟩ else if tx t = [35, 116] then some ⟨3, 1, mkS [], []⟩ else if tx t = [35, 102] then some ⟨3, 0, mkS [], []⟩ else if isSym t = true then some ⟨1, 0, t, []⟩ else none
def clo (r : List UInt8) : Option (List UInt8) := if skp r ≠ [] ∧ by0 (skp r) = 41 then some ((skp r).drop 1) else none
mutual
/-- does the text read as the datum, and what is left -/
def ckD : Datum → List UInt8 → Option (List UInt8)
  | ⟨k, n, t, l⟩, r =>
    if skp r = [] ∨ by0 (skp r) = 41 ∨ by0 (skp r) = 39 ∨ by0 (skp r) = 59 then none
    else if by0 (skp r) = 40 then (if k = 0 ∧ n = 0 ∧ t = mkS [] then (ckP l ((skp r).drop 1)).bind clo else none)
    else if by0 (skp r) = 34 then (if k = 4 ∧ n = 0 ∧ t = mkS (pre noQ ((skp r).drop 1)) ∧ l = [] ∧ isStr t = true ∧ pas noQ ((skp r).drop 1) ≠ [] then some ((pas noQ ((skp r).drop 1)).drop 1) else none)
    else if atomO (mkS (pre isRu (skp r))) = some ⟨k, n, t, l⟩ then some (pas isRu (skp r)) else none
def ckP : List Datum → List UInt8 → Option (List UInt8)
  | [], r => some r
  | x :: l, r => (ckD x r).bind fun q => ckP l q
end
theorem ckD_eq (d : Datum) (r : List UInt8) : ckD d r =
    if skp r = [] ∨ by0 (skp r) = 41 ∨ by0 (skp r) = 39 ∨ by0 (skp r) = 59 then none
    else if by0 (skp r) = 40 then (if d.kind = 0 ∧ d.number = 0 ∧ d.text = mkS [] then (ckP d.items ((skp r).drop 1)).bind clo else none)
    else if by0 (skp r) = 34 then (if d.kind = 4 ∧ d.number = 0 ∧ d.text = mkS (pre noQ ((skp r).drop 1)) ∧ d.items = [] ∧ isStr d.text = true ∧ pas noQ ((skp r).drop 1) ≠ [] then some ((pas noQ ((skp r).drop 1)).drop 1) else none)
    else if atomO (mkS (pre isRu (skp r))) = some d then some (pas isRu (skp r)) else none := by
  cases d; rw [ckD]
theorem clo_some {r q : List UInt8} (h : clo r = some q) : skp r ≠ [] ∧ by0 (skp r) = 41 ∧ q = (skp r).drop 1 := by
  unfold clo at h; split at h
  · rename_i e; exact ⟨e.1, e.2, (Option.some.inj h).symm⟩
  · cases h
theorem drop1_suf (l : List UInt8) : l.drop 1 <:+ l := List.drop_suffix 1 l
theorem ckP_suf {L : List Datum} (ih : ∀ (d : Datum), d ∈ L → ∀ r q, ckD d r = some q → q <:+ r) : ∀ (l : List Datum), (∀ d ∈ l, d ∈ L) → ∀ r q, ckP l r = some q → q <:+ r
  | [], _, r, q, h => by simp only [ckP, Option.some.injEq] at h; rw [h]; exact List.suffix_refl _
  | x :: l, hl, r, q, h => by
    simp only [ckP, Option.bind_eq_some_iff] at h
    obtain ⟨m, h1, h2⟩ := h
    exact (ckP_suf ih l (fun d hd => hl d (List.mem_cons_of_mem _ hd)) m q h2).trans (ih x (hl x List.mem_cons_self) r m h1)
theorem ckD_suf : ∀ (d : Datum) (r q : List UInt8), ckD d r = some q → q <:+ r := by
  refine Datum.ind fun d ih r q h => ?_
  have hs := pas_suf isBl r
  have h1 := (drop1_suf (skp r)).trans hs
  rw [ckD_eq] at h
  split at h
  · cases h
  split at h
  · split at h
    · rw [Option.bind_eq_some_iff] at h
      obtain ⟨m, h2, h3⟩ := h
      have h4 := clo_some h3
      rw [h4.2.2]
      exact ((drop1_suf _).trans (pas_suf isBl m)).trans ((ckP_suf ih d.items (fun _ h => h) _ _ h2).trans h1)
    · cases h
  split at h
  · split at h
    · rw [← Option.some.inj h]
      exact ((drop1_suf _).trans (pas_suf noQ _)).trans h1
    · cases h
  split at h
  · rw [← Option.some.inj h]; exact (pas_suf isRu _).trans hs
  · cases h
def rs (s : ByteArray) (a : Nat) : List UInt8 := (tx s).drop a
def plR (s : ByteArray) (r : List UInt8) : Nat := s.size - r.length
theorem rs_len (s : ByteArray) (a : Nat) : (rs s a).length = s.size - a := by unfold rs; rw [List.length_drop]; rfl
theorem suf_rs {s : ByteArray} {a : Nat} {q : List UInt8} (ha : a ≤ s.size) (h : q <:+ rs s a) : rs s (plR s q) = q ∧ a ≤ plR s q ∧ plR s q ≤ s.size ∧ q.length = s.size - plR s q := by
  have h1 := h.length_le
  rw [rs_len] at h1
  have h2 : q <:+ tx s := h.trans (List.drop_suffix a _)
  have h3 := (List.suffix_iff_eq_drop.1 h2)
  have e : (tx s).length = s.size := rfl
  rw [e] at h3
  exact ⟨h3.symm, by unfold plR; omega, by unfold plR; omega, by unfold plR; omega⟩
theorem rs_cons {s : ByteArray} {a : Nat} (h : a < s.size) : rs s a = (tx s).getD a 0 :: rs s (a + 1) := drop_get (L := tx s) h
theorem rs_end {s : ByteArray} {a : Nat} (h : s.size ≤ a) : rs s a = [] := List.drop_eq_nil_of_le h
theorem rs_ne {s : ByteArray} {a : Nat} : rs s a ≠ [] ↔ a < s.size := by
  constructor
  · intro h; rcases Nat.lt_or_ge a s.size with e | e
    · exact e
    · exact absurd (rs_end e) h
  · intro h; rw [rs_cons h]; simp
theorem by0_rs {s : ByteArray} {a : Nat} (h : a < s.size) : by0 (rs s a) = (((tx s).getD a 0).toNat : Int) := by rw [rs_cons h]; rfl
def pst (p : Int → Bool) (s : ByteArray) (a : Nat) : Nat := plR s (pas p (rs s a))
theorem pst_rs (p : Int → Bool) {s : ByteArray} {a : Nat} (h : a ≤ s.size) : rs s (pst p s a) = pas p (rs s a) ∧ a ≤ pst p s a ∧ pst p s a ≤ s.size := by
  have := suf_rs h (pas_suf p (rs s a)); exact ⟨this.1, this.2.1, this.2.2.1⟩
theorem pst_go (p : Int → Bool) {s : ByteArray} {a : Nat} (h : a < s.size) (hp : p ((tx s).getD a 0).toNat = true) : pst p s (a + 1) = pst p s a := by
  unfold pst; rw [rs_cons h]; simp only [pas]; rw [if_pos hp]
theorem pst_stop (p : Int → Bool) {s : ByteArray} {a : Nat} (h : a ≤ s.size) (hp : a < s.size → p ((tx s).getD a 0).toNat = false) : pst p s a = a := by
  rcases Nat.lt_or_ge a s.size with e | e
  · unfold pst; rw [rs_cons e]; simp only [pas]; rw [if_neg (by rw [hp e]; decide), ← rs_cons e]
    unfold plR; rw [rs_len]; omega
  · unfold pst; rw [rs_end e]; unfold pas plR; simp; omega
theorem pst_idem (p : Int → Bool) {s : ByteArray} {a : Nat} (h : a ≤ s.size) : pst p s (pst p s a) = pst p s a := by
  have h1 := pst_rs p h
  unfold pst at h1 ⊢; rw [h1.1, pas_idem]
theorem pst_txt (p : Int → Bool) {s : ByteArray} {a : Nat} (h : a ≤ s.size) : (rs s a).take (pst p s a - a) = pre p (rs s a) := by
  have h1 := pas_pre p (rs s a)
  have h2 := suf_rs h (pas_suf p (rs s a))
  have h3 := congrArg List.length h1
  rw [List.length_append, rs_len] at h3
  have h4 : (pre p (rs s a)).length = pst p s a - a := by unfold pst; omega
  have h5 : (pre p (rs s a) ++ pas p (rs s a)).take (pre p (rs s a)).length = pre p (rs s a) := List.take_left
  rw [h1, h4] at h5; exact h5
def okR (d : Datum) (s : ByteArray) (a : Nat) : Bool := (ckD d (rs s a)).isSome
def enR (d : Datum) (s : ByteArray) (a : Nat) : Nat := plR s ((ckD d (rs s a)).getD [])
def okP (l : List Datum) (s : ByteArray) (a : Nat) : Bool := (ckP l (rs s a)).isSome
def enP (l : List Datum) (s : ByteArray) (a : Nat) : Nat := plR s ((ckP l (rs s a)).getD [])
def sk (s : ByteArray) (a : Nat) : Nat := pst isBl s a
theorem ckP_suf' (l : List Datum) (r q : List UInt8) (h : ckP l r = some q) : q <:+ r := ckP_suf (L := l) (fun d _ => ckD_suf d) l (fun _ h => h) r q h
theorem enR_rs {d : Datum} {s : ByteArray} {a : Nat} (h : a ≤ s.size) (hd : okR d s a = true) : ckD d (rs s a) = some (rs s (enR d s a)) ∧ a ≤ enR d s a ∧ enR d s a ≤ s.size := by
  obtain ⟨q, hq⟩ := Option.isSome_iff_exists.1 hd
  have := suf_rs h (ckD_suf d _ _ hq)
  unfold enR; rw [hq, Option.getD_some, this.1]; exact ⟨rfl, this.2.1, this.2.2.1⟩
theorem enP_rs {l : List Datum} {s : ByteArray} {a : Nat} (h : a ≤ s.size) (hd : okP l s a = true) : ckP l (rs s a) = some (rs s (enP l s a)) ∧ a ≤ enP l s a ∧ enP l s a ≤ s.size := by
  obtain ⟨q, hq⟩ := Option.isSome_iff_exists.1 hd
  have := suf_rs h (ckP_suf' l _ _ hq)
  unfold enP; rw [hq, Option.getD_some, this.1]; exact ⟨rfl, this.2.1, this.2.2.1⟩
theorem enP_nil (s : ByteArray) {a : Nat} (h : a ≤ s.size) : enP [] s a = a := by
  unfold enP; rw [ckP]; unfold plR; rw [Option.getD_some, rs_len]; omega
theorem ckP_append : ∀ (l m : List Datum) (r : List UInt8), ckP (l ++ m) r = (ckP l r).bind fun q => ckP m q
  | [], m, r => by simp [ckP]
  | x :: l, m, r => by
    rw [List.cons_append, ckP, ckP]
    cases ckD x r with
    | none => rfl
    | some q => simp only [Option.bind_some]; exact ckP_append l m q
theorem okP_take {l : List Datum} {s : ByteArray} {a k : Nat} (h : a ≤ s.size) (hd : okP l s a = true) : okP (l.take k) s a = true := by
  unfold okP at *; rw [← List.take_append_drop k l, ckP_append] at hd
  cases e : ckP (l.take k) (rs s a) with
  | none => rw [e] at hd; cases hd
  | some q => rfl
theorem okP_step {l : List Datum} {s : ByteArray} {a k : Nat} (h : a ≤ s.size) (hd : okP l s a = true) (hk : k < l.length) :
    okR (l.getD k default) s (enP (l.take k) s a) = true ∧ enP (l.take (k + 1)) s a = enR (l.getD k default) s (enP (l.take k) s a) := by
  have h1 := okP_take (k := k) h hd
  have h2 := okP_take (k := k + 1) h hd
  have h3 := enP_rs h h1
  rw [take_get hk] at h2
  have h4 : ckP (l.take k ++ [l.getD k default]) (rs s a) = ckD (l.getD k default) (rs s (enP (l.take k) s a)) := by
    rw [ckP_append, h3.1, Option.bind_some, ckP]
    cases ckD (l.getD k default) (rs s (enP (l.take k) s a)) <;> rfl
  constructor
  · unfold okR; unfold okP at h2; rw [h4] at h2; exact h2
  · rw [take_get hk]; unfold enP enR; rw [h4]; rfl
def byt (s : ByteArray) (a : Nat) : Int := ((s.data.toList.getD a 0).toNat : Int)
theorem byt_tx (s : ByteArray) (a : Nat) : byt s a = (((tx s).getD a 0).toNat : Int) := rfl
def noc (s : ByteArray) (a : Nat) : Bool := !(decide (sk s a < s.size) && decide (byt s (sk s a) = 59))
def sbs (s : ByteArray) (a b : Nat) : ByteArray := mkS (((tx s).drop a).take (b - a))
theorem clo_at {s : ByteArray} {a : Nat} (h : a ≤ s.size) {q : List UInt8} (hq : clo (rs s a) = some q) : sk s a < s.size ∧ byt s (sk s a) = 41 ∧ plR s q = sk s a + 1 ∧ noc s a = true := by
  have h1 := clo_some hq
  have h2 := (pst_rs isBl h).1
  have h3 : sk s a < s.size := rs_ne.1 (by unfold sk; rw [h2]; exact h1.1)
  have h4 : byt s (sk s a) = 41 := by rw [byt_tx, ← by0_rs h3]; unfold sk; rw [h2]; exact h1.2.1
  refine ⟨h3, h4, ?_, by simp [noc, h4]⟩
  have h5 : q = rs s (sk s a + 1) := by
    rw [h1.2.2]; show (pas isBl (rs s a)).drop 1 = _; rw [← h2]; show (rs s (sk s a)).drop 1 = _; rw [rs_cons h3]; rfl
  rw [h5]; unfold plR; rw [rs_len]; omega
theorem okR_cases {d : Datum} {s : ByteArray} {a : Nat} (h : a ≤ s.size) (hd : okR d s a = true) :
    noc s a = true ∧ sk s a < s.size ∧ byt s (sk s a) ≠ 41 ∧ byt s (sk s a) ≠ 39 ∧ byt s (sk s a) ≠ 59 ∧
    ((byt s (sk s a) = 40 ∧ d.kind = 0 ∧ d.number = 0 ∧ d.text = mkS [] ∧ okP d.items s (sk s a + 1) = true ∧ noc s (enP d.items s (sk s a + 1)) = true ∧ sk s (enP d.items s (sk s a + 1)) < s.size ∧ byt s (sk s (enP d.items s (sk s a + 1))) = 41 ∧ enR d s a = sk s (enP d.items s (sk s a + 1)) + 1)
     ∨ (byt s (sk s a) = 34 ∧ d.kind = 4 ∧ d.number = 0 ∧ d.items = [] ∧ d.text = sbs s (sk s a + 1) (pst noQ s (sk s a + 1)) ∧ isStr d.text = true ∧ pst noQ s (sk s a + 1) < s.size ∧ enR d s a = pst noQ s (sk s a + 1) + 1)
     ∨ (byt s (sk s a) ≠ 40 ∧ byt s (sk s a) ≠ 34 ∧ atomO (sbs s (sk s a) (pst isRu s (sk s a))) = some d ∧ enR d s a = pst isRu s (sk s a))) := by
  obtain ⟨q, hq⟩ := Option.isSome_iff_exists.1 hd
  have he : enR d s a = plR s q := by unfold enR; rw [hq]; rfl
  have h2 := pst_rs isBl h
  rw [ckD_eq] at hq
  change rs s (sk s a) = skp (rs s a) ∧ a ≤ sk s a ∧ sk s a ≤ s.size at h2
  rw [← h2.1] at hq
  split at hq
  · cases hq
  rename_i h3
  simp only [not_or] at h3
  have h4 : sk s a < s.size := rs_ne.1 h3.1
  have hb : by0 (rs s (sk s a)) = byt s (sk s a) := by rw [by0_rs h4, byt_tx]
  have hd1 : (rs s (sk s a)).drop 1 = rs s (sk s a + 1) := by rw [rs_cons h4]; rfl
  rw [hb] at h3 hq
  rw [hd1] at hq
  refine ⟨by simp [noc, h3.2.2.2], h4, h3.2.1, h3.2.2.1, h3.2.2.2, ?_⟩
  split at hq
  · rename_i h5
    split at hq
    · rename_i h6
      rw [Option.bind_eq_some_iff] at hq
      obtain ⟨m, h7, h8⟩ := hq
      have ho : okP d.items s (sk s a + 1) = true := by unfold okP; rw [h7]; rfl
      have h9 := enP_rs (by omega) ho
      rw [h7, Option.some.injEq] at h9
      rw [h9.1] at h8
      have h10 := clo_at h9.2.2 h8
      exact .inl ⟨h5, h6.1, h6.2.1, h6.2.2, ho, h10.2.2.2, h10.1, h10.2.1, by rw [he, h10.2.2.1]⟩
    · cases hq
  rename_i h5
  split at hq
  · rename_i h6
    split at hq
    · rename_i h7
      have h8 := pst_rs noQ (s := s) (a := sk s a + 1) (by omega)
      rw [← h8.1] at h7
      have h9 := rs_ne.1 h7.2.2.2.2.2
      refine .inr (.inl ⟨h6, h7.1, h7.2.1, h7.2.2.2.1, ?_, h7.2.2.2.2.1, h9, ?_⟩)
      · unfold sbs; rw [h7.2.2.1, ← pst_txt noQ (by omega)]; rfl
      · rw [he, ← Option.some.inj hq, ← h8.1, rs_cons h9]
        show plR s (rs s _) = _
        unfold plR; rw [rs_len]; omega
    · cases hq
  rename_i h6
  split at hq
  · rename_i h7
    have h8 := pst_rs isRu (s := s) (a := sk s a) (by omega)
    refine .inr (.inr ⟨h5, h6, ?_, ?_⟩)
    · unfold sbs; rw [show (tx s).drop (sk s a) = rs s (sk s a) from rfl, pst_txt isRu (by omega)]; exact h7
    · rw [he, ← Option.some.inj hq, ← h8.1]; unfold plR; rw [rs_len]; omega
  · cases hq
theorem sk_le {s : ByteArray} {a : Nat} (h : a ≤ s.size) : a ≤ sk s a ∧ sk s a ≤ s.size := (pst_rs isBl h).2
def rdsB (L : List Datum) (s : ByteArray) : Bool := okP L s 0 && decide (sk s (enP L s 0) = s.size) && L.all isDat && decide (sumBy sizeD L ≤ 600) && decide (s.size ≤ 15000)
theorem rdsB_of {L : List Datum} {s : ByteArray} {q : List UInt8} (h : ckP L (tx s) = some q) (h1 : skp q = []) (h2 : L.all isDat = true) (h3 : sumBy sizeD L ≤ 600) (h4 : s.size ≤ 15000) : rdsB L s = true := by
  have e : rs s 0 = tx s := rfl
  have h0 : okP L s 0 = true := by unfold okP; rw [e, h]; rfl
  have h5 := enP_rs (Nat.zero_le _) h0
  rw [e, h, Option.some.injEq] at h5
  have h6 : sk s (enP L s 0) = s.size := by unfold sk pst; rw [← h5.1, show pas isBl q = [] from h1]; unfold plR; simp
  simp [rdsB, h0, h6, h2, h3, h4]
theorem sbs_tx (s : ByteArray) (a b : Nat) : tx (sbs s a b) = (s.data.toList.drop a).take (b - a) := tx_mkS _
theorem sbs_mk (s : ByteArray) (a b : Nat) : sbs s a b = mkS ((s.data.toList.drop a).take (b - a)) := rfl
theorem sk_idem {s : ByteArray} {a : Nat} (h : a ≤ s.size) : sk s (sk s a) = sk s a := pst_idem isBl h
theorem noc_sk {s : ByteArray} {a : Nat} (h : a ≤ s.size) : noc s (sk s a) = noc s a := by unfold noc; rw [sk_idem h]
theorem rd_hd {d : Datum} {s : ByteArray} {a : Nat} (h : a ≤ s.size) (hd : okR d s a = true) : noc s a = true ∧ sk s a < s.size ∧ byt s (sk s a) ≠ 41 ∧ byt s (sk s a) ≠ 39 ∧ byt s (sk s a) ≠ 59 ∧ a ≤ sk s a ∧ sk s (sk s a) = sk s a ∧ noc s (sk s a) = true := by
  have g := okR_cases h hd
  exact ⟨g.1, g.2.1, g.2.2.1, g.2.2.2.1, g.2.2.2.2.1, (sk_le h).1, sk_idem h, by rw [noc_sk h]; exact g.1⟩
theorem rd_list {d : Datum} {s : ByteArray} {a : Nat} (h : a ≤ s.size) (hd : okR d s a = true) (hb : byt s (sk s a) = 40) : d.kind = 0 ∧ d.number = 0 ∧ d.text = mkS [] ∧ enR d s a = sk s (enP d.items s (sk s a + 1)) + 1 := by
  rcases (okR_cases h hd).2.2.2.2.2 with g | g | g
  · exact ⟨g.2.1, g.2.2.1, g.2.2.2.1, g.2.2.2.2.2.2.2.2⟩
  · omega
  · omega
theorem rd_str {d : Datum} {s : ByteArray} {a : Nat} (h : a ≤ s.size) (hd : okR d s a = true) (hb : byt s (sk s a) = 34) : d.kind = 4 ∧ d.number = 0 ∧ d.items = [] ∧ d.text = mkS ((s.data.toList.drop (sk s a + 1)).take (pst noQ s (sk s a + 1) - (sk s a + 1))) ∧ isStr (mkS ((s.data.toList.drop (sk s a + 1)).take (pst noQ s (sk s a + 1) - (sk s a + 1)))) = true ∧ pst noQ s (sk s a + 1) < s.size ∧ enR d s a = pst noQ s (sk s a + 1) + 1 := by
  rcases (okR_cases h hd).2.2.2.2.2 with g | g | g
  · omega
  · have e := g.2.2.2.2.1
    refine ⟨g.2.1, g.2.2.1, g.2.2.2.1, e, ?_, g.2.2.2.2.2.2.1, g.2.2.2.2.2.2.2⟩
    have := g.2.2.2.2.2.1; rw [e] at this; exact this
  · omega
theorem rd_atm {d : Datum} {s : ByteArray} {a : Nat} (h : a ≤ s.size) (hd : okR d s a = true) (h1 : byt s (sk s a) ≠ 40) (h2 : byt s (sk s a) ≠ 34) : atomO (sbs s (sk s a) (pst isRu s (sk s a))) = some d ∧ enR d s a = pst isRu s (sk s a) := by
  rcases (okR_cases h hd).2.2.2.2.2 with g | g | g
  · omega
  · omega
  · exact g.2.2
theorem rdl {d : Datum} {s : ByteArray} {a : Nat} (h : a ≤ s.size) (hd : okR d s a = true) (hb : byt s (sk s a) = 40) {k : Nat} (hk : k ≤ d.items.length) :
    enP (d.items.take k) s (sk s a + 1) ≤ s.size ∧ noc s (enP (d.items.take k) s (sk s a + 1)) = true ∧ sk s (enP (d.items.take k) s (sk s a + 1)) < s.size ∧ (byt s (sk s (enP (d.items.take k) s (sk s a + 1))) = 41 ↔ k = d.items.length) ∧
    (k < d.items.length → okR (d.items.getD k default) s (enP (d.items.take k) s (sk s a + 1)) = true ∧ enP (d.items.take (k + 1)) s (sk s a + 1) = enR (d.items.getD k default) s (enP (d.items.take k) s (sk s a + 1))) ∧
    (k = d.items.length → enP (d.items.take k) s (sk s a + 1) = enP d.items s (sk s a + 1)) := by
  have g := okR_cases h hd
  rcases g.2.2.2.2.2 with c | c | c
  · have hs : sk s a + 1 ≤ s.size := g.2.1
    have hp := enP_rs hs (okP_take (k := k) hs c.2.2.2.2.1)
    have e : k = d.items.length → enP (d.items.take k) s (sk s a + 1) = enP d.items s (sk s a + 1) := fun e => by rw [e, List.take_length]
    rcases Nat.lt_or_eq_of_le hk with hl | hl
    · have st := okP_step hs c.2.2.2.2.1 hl
      have g2 := okR_cases hp.2.2 st.1
      exact ⟨hp.2.2, g2.1, g2.2.1, ⟨fun q => absurd q g2.2.2.1, fun q => by omega⟩, fun _ => st, e⟩
    · rw [e hl]
      exact ⟨by rw [← e hl]; exact hp.2.2, c.2.2.2.2.2.1, c.2.2.2.2.2.2.1, ⟨fun _ => hl, fun _ => c.2.2.2.2.2.2.2.1⟩, fun q => by omega, fun _ => rfl⟩
  · omega
  · omega
theorem rdl0 {d : Datum} {s : ByteArray} {a : Nat} (h : a ≤ s.size) (hd : okR d s a = true) : enP (d.items.take 0) s (sk s a + 1) = sk s a + 1 := enP_nil s (okR_cases h hd).2.1
end Go.Proofs.YtgeegppaaggcjaaDoor
end
section
namespace Go.Proofs.YtgeegppaaggcjaaDoor
open Go Go.Proofs.YtgeegppaaggcjaaDoor.Ab
set_option linter.unusedVariables false
set_option linter.unusedSimpArgs false
set_option maxHeartbeats 4000000
abbrev P_c_sNum (n : Int) : Ct := ⟨76, [], [li n], [], .sv (ls (mkS (Lib.itoa n)))⟩
def lc_sNumLa (n : Int) : Lp (Int × List UInt8) := .mk 31 0 (fun x => [(0, li n), (3, hs x 1), (4, hs x 0)]) (fun x => []) (fun k => [.s (li k.fst), .s (ls (mkS k.snd))]) (fun k =>
 n ≠ 0 ∧ dgs k.fst.natAbs ++ k.snd = Lib.decDigits n.natAbs ∧ (-9223372036854775808 : Int) ≤ k.fst ∧ k.fst ≤ 9223372036854775807) (fun k => k.fst.natAbs) [.mk True (.exit 0) (fun x
 => [(0, li n), (3, hs x 0)]) (fun x => []) [.s (ls (mkS (Lib.decDigits n.natAbs)))]]
theorem Sc_sNumLa (n : Int) (h : (-9223372036854775808 : Int) ≤ n ∧ n ≤ 9223372036854775807) : Lp.Sem Tryd.prog (loopAt Tryd.f76 0) (lc_sNumLa n) := lpOK (fun k => .i (k.fst ≠ 0)
 (.p ((10 : Int) ≠ 0) (.i (k.fst.tmod (10 : Int) < 0) (.r (0 - k.fst.tmod 10) (.r (48 + (0 - k.fst.tmod 10)) (.p (rng IntKind.u8 (48 + (0 - k.fst.tmod 10))) (.w (.bytes
 [UInt8.ofNat (48 + (0 - k.fst.tmod 10)).toNat]) (.p ([[Cell.lit (Value.int IntKind.u8 (48 + (0 - k.fst.tmod 10)))]] = [[Cell.lit (Value.int IntKind.u8 (↑(UInt8.ofNat (48 + (0 -
 k.fst.tmod 10)).toNat).toNat : Int))]]) (.p (1 + k.snd.length ≤ 9223372036854775807) (.p ((10 : Int) ≠ 0) (.r (k.fst.tdiv 10) (.g [] (k.fst.tdiv 10, [UInt8.ofNat (48 + (0 -
 k.fst.tmod 10)).toNat] ++ k.snd) [.s (li (k.fst.tdiv 10)), .s (ls (ByteArray.mk ([UInt8.ofNat (48 + (0 - k.fst.tmod 10)).toNat] ++ k.snd).toArray))]))))))))) (.r (48 + k.fst.tmod
 10) (.p (rng IntKind.u8 (48 + k.fst.tmod 10)) (.w (.bytes [UInt8.ofNat (48 + k.fst.tmod 10).toNat]) (.p ([[Cell.lit (Value.int IntKind.u8 (48 + k.fst.tmod 10))]] = [[Cell.lit
 (Value.int IntKind.u8 (↑(UInt8.ofNat (48 + k.fst.tmod 10).toNat).toNat : Int))]]) (.p (1 + k.snd.length ≤ 9223372036854775807) (.p ((10 : Int) ≠ 0) (.r (k.fst.tdiv 10) (.g []
 (k.fst.tdiv 10, [UInt8.ofNat (48 + k.fst.tmod 10).toNat] ++ k.snd) [.s (li (k.fst.tdiv 10)), .s (ls (ByteArray.mk ([UInt8.ofNat (48 + k.fst.tmod 10).toNat] ++
 k.snd).toArray))])))))))))) (.o 0 [] [.s (ls (mkS k.snd))])) (by
  intro k h; try dsimp only [teasy, nthW, lc_sNumLa] at h ⊢
  obtain ⟨x, o⟩ := k
  simp only at *
  have g1 := @dgs_step x.natAbs
  have g2 : (x.tdiv 10).natAbs = x.natAbs / 10 := Int.natAbs_tdiv _ _
  have g3 : (x.tmod 10).natAbs = x.natAbs % 10 := Int.natAbs_tmod _ _
  have g4 := congrArg List.length h.2.1
  have g5 := dec_ge (n := n) (by assumption)
  with_reducible repeat' (first | apply And.intro | exact zR | (intro; skip))
  all_goals (try simp only [std, inj] at *)
  all_goals with_reducible repeat' apply And.intro
  all_goals (try (first | exact zw | grind [dgs_zero, snocI, snocS, rowSnoc]))
  all_goals first | (rw [rng_u8]; omega) | (rw [u8_back (by omega)]))
theorem c_sNum (n : Int) (h : -9223372036854775808 ≤ n ∧ n ≤ 9223372036854775807)  : P_c_sNum n := fnOK Tryd.call76 Tryd.func76 (.i (n = 0) (.s (ls (ByteArray.mk #[(48 : UInt8)])))
 (.l (lc_sNumLa n) (Sc_sNumLa n h) [] [.s (li n), .s (ls (ByteArray.mk #[]))] (n, []) (.t (.i (n < 0) (.p (1 + (Lib.decDigits n.natAbs).length ≤ 9223372036854775807) (.s (ls
 (ByteArray.mk ([(45 : UInt8)] ++ Lib.decDigits n.natAbs).toArray)))) (.s (ls (mkS (Lib.decDigits n.natAbs))))) .q))) (by
  dsimp only [teasy, P_c_sNum, nthW, lc_sNumLa]
  have g1 := @itoa_pos n
  have g2 := @itoa_neg n
  have g3 := itoa_zero
  have g4 := dec_ge h
  with_reducible repeat' (first | apply And.intro | exact zR | (intro; skip))
  all_goals (try simp only [std, inj] at *)
  all_goals with_reducible repeat' apply And.intro
  all_goals (try (first | exact zw | grind [dgs_ne, snocI, snocS, rowSnoc])))
abbrev P_c_sPNum (s : ByteArray) : Ct := ⟨70, [], [ls s], [], .tup [li (numV s), lb (isNum s)]⟩
def lc_sPNumLa (s : ByteArray) : Lp (Nat × Int) := .mk 55 0 (fun x => [(0, ls s), (4, hs x 0), (5, hs x 2), (6, hs x 1)]) (fun x => []) (fun k => [.s (li (↑(atN s) : Int)), .s (li
 (↑k.fst : Int)), .s (li k.snd)]) (fun k => atN s ≤ k.fst ∧ k.fst ≤ s.size ∧ prtN s k.fst = some k.snd.toNat ∧ 0 ≤ k.snd ∧ s.size ≤ atN s + 9 ∧ atN s < s.size) (fun k => s.size -
 k.fst) [.mk (digB s = true) (.exit 0) (fun x => [(0, ls s), (4, hs x 0), (5, hs x 1)]) (fun x => []) [.s (li (↑(atN s) : Int)), .s (li (↑(magN s) : Int))], .mk (digB s = false ∧
 s.size ≤ atN s + 9 ∧ atN s < s.size) .ret (fun x => [(2, hs x 0), (3, hs x 1)]) (fun x => []) [.s (li 0), .s (lb false)]]
theorem Sc_sPNumLa (s : ByteArray) : Lp.Sem Tryd.prog (loopAt Tryd.f70 0) (lc_sPNumLa s) := lpOK (fun k => .h (s.data.toList.length ≤ 9223372036854775807) (.i ((↑k.fst : Int) <
 (↑s.data.toList.length : Int)) (.p (0 ≤ (↑k.fst : Int) ∧ (↑k.fst : Int).toNat < s.data.toList.length) (.c [.rd] (c_sDigit (↑(s.data.toList.getD (↑k.fst : Int).toNat (0 :
 UInt8)).toNat : Int)) (.b (!isDig (↑(s.data.toList.getD (↑k.fst : Int).toNat (0 : UInt8)).toNat : Int)) (.o 1 [] [.s (li 0), .s (lb false)]) (.r (10 * k.snd) (.p (0 ≤ (↑k.fst :
 Int) ∧ (↑k.fst : Int).toNat < s.data.toList.length) (.p (rng IntKind.u8 ((↑(s.data.toList.getD (↑k.fst : Int).toNat (0 : UInt8)).toNat : Int) - 48)) (.r ((↑(s.data.toList.getD
 (↑k.fst : Int).toNat (0 : UInt8)).toNat : Int) - 48) (.r (10 * k.snd + ((↑(s.data.toList.getD (↑k.fst : Int).toNat (0 : UInt8)).toNat : Int) - 48)) (.r ((↑k.fst : Int) + 1) (.g []
 (k.fst + 1, 10 * k.snd + ((↑(s.data.toList.getD (↑k.fst : Int).toNat (0 : UInt8)).toNat : Int) - 48)) [.s (li (↑(atN s) : Int)), .s (li ((↑k.fst : Int) + 1)), .s (li (10 * k.snd +
 ((↑(s.data.toList.getD (↑k.fst : Int).toNat (0 : UInt8)).toNat : Int) - 48)))])))))))))) (.o 0 [] [.s (li (↑(atN s) : Int)), .s (li k.snd)]))) (by
  intro k h; try dsimp only [teasy, nthW, lc_sPNumLa] at h ⊢
  obtain ⟨i, m⟩ := k
  simp only at *
  have g1 := @prt_step s i m.toNat
  have g2 := @prt_stop s i
  have g3 := @prt_all s m.toNat
  have g4 := @prt_lt s i m.toNat
  with_reducible repeat' (first | apply And.intro | exact zR | (intro; skip) | apply c_sNum)
  all_goals (try simp only [std, inj] at *)
  all_goals with_reducible repeat' apply And.intro
  all_goals (try (first | with_reducible apply c_sNum | (simp only [← List.map_append]; first | with_reducible apply c_sNum)))
  all_goals (try (first | exact zw | grind [isDig, snocI, snocS, rowSnoc]))
  all_goals (rw [rng_u8]; simp only [isDig, Bool.not_eq_false', decide_eq_true_eq] at *; omega))
theorem c_sPNum (s : ByteArray)  : P_c_sPNum s := fnOK Tryd.call70 Tryd.func70 (.h (s.data.toList.length ≤ 9223372036854775807) (.i (0 < (↑s.data.toList.length : Int)) (.p ((0 : Int)
 ≤ 0 ∧ 0 < s.data.toList.length) (.i ((↑(s.data.toList.getD 0 (0 : UInt8)).toNat : Int) = 45) (.h (s.data.toList.length ≤ 9223372036854775807) (.i (1 = (↑s.data.toList.length :
 Int)) (.y true (.f [] [] (AV.tup [li 0, lb false]))) (.h (s.data.toList.length ≤ 9223372036854775807) (.r ((↑s.data.toList.length : Int) - 1) (.i (9 < (↑s.data.toList.length :
 Int) - 1) (.f [] [] (AV.tup [li 0, lb false])) (.l (lc_sPNumLa s) (Sc_sPNumLa s) [] [.s (li 1), .s (li 1), .s (li 0)] (atN s, 0) (.t (.i ((↑(atN s) : Int) = 1) (.r (0 - (↑(magN s)
 : Int)) (.d [.rd] (P_c_sNum (0 - (↑(magN s) : Int))) (.i (Lib.itoa (0 - (↑(magN s) : Int)) ≠ s.data.toList) (.f [] [] (AV.tup [li 0, lb false])) (.f [] [] (AV.tup [li (0 - (↑(magN
 s) : Int)), lb true]))))) (.d [.rd] (P_c_sNum (↑(magN s) : Int)) (.i (Lib.itoa (↑(magN s) : Int) ≠ s.data.toList) (.f [] [] (AV.tup [li 0, lb false])) (.f [] [] (AV.tup [li
 (↑(magN s) : Int), lb true]))))) (.t (.f [] [] (AV.tup [li 0, lb false])) .q)))))))) (.h (s.data.toList.length ≤ 9223372036854775807) (.i (0 = (↑s.data.toList.length : Int)) (.y
 true (.f [] [] (AV.tup [li 0, lb false]))) (.h (s.data.toList.length ≤ 9223372036854775807) (.r ((↑s.data.toList.length : Int) - 0) (.i (9 < (↑s.data.toList.length : Int) - 0) (.f
 [] [] (AV.tup [li 0, lb false])) (.l (lc_sPNumLa s) (Sc_sPNumLa s) [] [.s (li 0), .s (li 0), .s (li 0)] (atN s, 0) (.t (.i ((↑(atN s) : Int) = 1) (.r (0 - (↑(magN s) : Int)) (.d
 [.rd] (P_c_sNum (0 - (↑(magN s) : Int))) (.i (Lib.itoa (0 - (↑(magN s) : Int)) ≠ s.data.toList) (.f [] [] (AV.tup [li 0, lb false])) (.f [] [] (AV.tup [li (0 - (↑(magN s) : Int)),
 lb true]))))) (.d [.rd] (P_c_sNum (↑(magN s) : Int)) (.i (Lib.itoa (↑(magN s) : Int) ≠ s.data.toList) (.f [] [] (AV.tup [li 0, lb false])) (.f [] [] (AV.tup [li (↑(magN s) : Int),
 lb true]))))) (.t (.f [] [] (AV.tup [li 0, lb false])) .q)))))))))) (.y false (.h (s.data.toList.length ≤ 9223372036854775807) (.i (0 = (↑s.data.toList.length : Int)) (.y true (.f
 [] [] (AV.tup [li 0, lb false]))) (.h (s.data.toList.length ≤ 9223372036854775807) (.r ((↑s.data.toList.length : Int) - 0) (.i (9 < (↑s.data.toList.length : Int) - 0) (.f [] []
 (AV.tup [li 0, lb false])) (.l (lc_sPNumLa s) (Sc_sPNumLa s) [] [.s (li 0), .s (li 0), .s (li 0)] (atN s, 0) (.t (.i ((↑(atN s) : Int) = 1) (.r (0 - (↑(magN s) : Int)) (.d [.rd]
 (P_c_sNum (0 - (↑(magN s) : Int))) (.i (Lib.itoa (0 - (↑(magN s) : Int)) ≠ s.data.toList) (.f [] [] (AV.tup [li 0, lb false])) (.f [] [] (AV.tup [li (0 - (↑(magN s) : Int)), lb
 true]))))) (.d [.rd] (P_c_sNum (↑(magN s) : Int)) (.i (Lib.itoa (↑(magN s) : Int) ≠ s.data.toList) (.f [] [] (AV.tup [li 0, lb false])) (.f [] [] (AV.tup [li (↑(magN s) : Int), lb
 true]))))) (.t (.f [] [] (AV.tup [li 0, lb false])) .q))))))))))) (by
  dsimp only [teasy, P_c_sPNum, nthW, lc_sPNumLa]
  have g1 := prt_zero s
  have g2 := @mag_lt s
  have g3 := @num_none s
  have g4 : atN s = 0 ∨ atN s = 1 := by have := at_le s; omega
  with_reducible repeat' (first | apply And.intro | exact zR | (intro; skip) | apply c_sNum)
  all_goals (try simp only [std, inj] at *)
  all_goals with_reducible repeat' apply And.intro
  all_goals (try (first | with_reducible apply c_sNum | (simp only [← List.map_append]; first | with_reducible apply c_sNum)))
  all_goals (try (first | exact zw | grind [isNum, shpN, numV, sgN, atN, snocI, snocS, rowSnoc])))
end Go.Proofs.YtgeegppaaggcjaaDoor
end
section
namespace Go.Proofs.YtgeegppaaggcjaaDoor
open Go Go.Shelf Go.RowKit Go.Proofs.YtgeegppaaggcjaaDoor.Ab
set_option linter.unusedVariables false
def itoRen : Go.Shelf.Ren := ⟨fun | 171 => 67 | 243 => 73 | 246 => 77 | 283 => 83 | 284 => 84 | 285 => 85 | 286 => 86 | 129 => 91 | 317 => 90 | 318 => 92 | 319 => 93 | 320 => 94 | 337 => 97 | 338 => 98 | n => n, fun | 3 => 3 | 9 => 9 | 2 => 2 | 4 => 4 | 171 => 100 | 0 => 0 | 53 => 101 | 37 => 22 | 5 => 5 | 173 => 104 | 212 => 114 | 51 => 115 | 20 => 20 | 213 => 116 | 46 => 89 | 232 => 125 | 233 => 126 | n => n, fun | 17 => 2 | 18 => 3 | 19 => 4 | n => n⟩
theorem itoLays : Go.Proofs.LaysM.n171 Tryd.prog itoRen := {
  mixed := by kernel_rfl
  f129 := Tryd.func91.trans (congrArg some (by kernel_rfl))
  f171 := Tryd.func67.trans (congrArg some (by kernel_rfl))
  f243 := Tryd.func73.trans (congrArg some (by kernel_rfl))
  f246 := Tryd.func77.trans (congrArg some (by kernel_rfl))
  f283 := Tryd.func83.trans (congrArg some (by kernel_rfl))
  f284 := Tryd.func84.trans (congrArg some (by kernel_rfl))
  f285 := Tryd.func85.trans (congrArg some (by kernel_rfl))
  f286 := Tryd.func86.trans (congrArg some (by kernel_rfl))
  f317 := Tryd.func90.trans (congrArg some (by kernel_rfl))
  f318 := Tryd.func92.trans (congrArg some (by kernel_rfl))
  f319 := Tryd.func93.trans (congrArg some (by kernel_rfl))
  f320 := Tryd.func94.trans (congrArg some (by kernel_rfl))
  f337 := Tryd.func97.trans (congrArg some (by kernel_rfl))
  f338 := Tryd.func98.trans (congrArg some (by kernel_rfl))
  t0 := Tryd.underlying0
  a0 := Tryd.isAgg0
  z0 := Tryd.sizeOf0
  v0 := Tryd.zeroValue0
  t2 := Tryd.underlying2
  a2 := Tryd.isAgg2
  z2 := Tryd.sizeOf2
  v2 := Tryd.zeroValue2
  t3 := Tryd.underlying3
  a3 := Tryd.isAgg3
  z3 := Tryd.sizeOf3
  v3 := Tryd.zeroValue3
  t4 := Tryd.underlying4
  a4 := Tryd.isAgg4
  z4 := Tryd.sizeOf4
  v4 := Tryd.zeroValue4
  t5 := Tryd.underlying5
  a5 := Tryd.isAgg5
  z5 := Tryd.sizeOf5
  v5 := Tryd.zeroValue5
  t9 := Tryd.underlying9
  a9 := Tryd.isAgg9
  z9 := Tryd.sizeOf9
  v9 := Tryd.zeroValue9
  t20 := Tryd.underlying20
  a20 := Tryd.isAgg20
  z20 := Tryd.sizeOf20
  v20 := Tryd.zeroValue20
  t37 := Tryd.underlying22
  a37 := Tryd.isAgg22
  z37 := Tryd.sizeOf22
  v37 := Tryd.zeroValue22
  t46 := Tryd.underlying89
  a46 := Tryd.isAgg89
  z46 := Tryd.sizeOf89
  v46 := Tryd.zeroValue89
  t51 := Tryd.underlying115
  a51 := Tryd.isAgg115
  z51 := Tryd.sizeOf115
  v51 := Tryd.zeroValue115
  t53 := Tryd.underlying101
  a53 := Tryd.isAgg101
  z53 := Tryd.sizeOf101
  v53 := Tryd.zeroValue101
  t171 := Tryd.underlying100
  a171 := Tryd.isAgg100
  z171 := Tryd.sizeOf100
  v171 := Tryd.zeroValue100
  t173 := Tryd.underlying104
  a173 := Tryd.isAgg104
  z173 := Tryd.sizeOf104
  v173 := Tryd.zeroValue104
  t212 := Tryd.underlying114
  a212 := Tryd.isAgg114
  z212 := Tryd.sizeOf114
  v212 := Tryd.zeroValue114
  t213 := Tryd.underlying116
  a213 := Tryd.isAgg116
  z213 := Tryd.sizeOf116
  t232 := Tryd.underlying125
  a232 := Tryd.isAgg125
  z232 := Tryd.sizeOf125
  v232 := Tryd.zeroValue125
  t233 := Tryd.underlying126
  a233 := Tryd.isAgg126
  z233 := Tryd.sizeOf126
  v233 := Tryd.zeroValue126
  g17 := by kernel_rfl
  g18 := by kernel_rfl
  g19 := by kernel_rfl
  i0 := by kernel_rfl
  i2 := by kernel_rfl
  i3 := by kernel_rfl
  i4 := by kernel_rfl
  i5 := by kernel_rfl
  i9 := by kernel_rfl
  i20 := by kernel_rfl
  i37 := by kernel_rfl
  i46 := by kernel_rfl
  i51 := by kernel_rfl
  i53 := by kernel_rfl
  i171 := by kernel_rfl
  i173 := by kernel_rfl
  i212 := by kernel_rfl
  i232 := by kernel_rfl
  i233 := by kernel_rfl
  m17 := by kernel_rfl
  m18 := by kernel_rfl
  m19 := by kernel_rfl }
theorem post_below {w w' : Go.World} {ι : Interp} {args : List SV} {vals : Array Value} {v : Value} {res : AV} (hp : PreRel w ι [] args vals) (hb : Below w.heap.size w w') (hv : AVRel w' ι (obOf []) res v) : PostRel w ι [] [] res w' v ι :=
  { ext := fun j => trivial
    obj := fun j => hp.obj j
    disj := hp.disj
    gfp := hp.gfp
    lt := fun i b h => absurd h (hp.obj i b)
    glt := fun b h => Nat.lt_of_lt_of_le (hp.glt b h) hb.size
    gg := fun _ h => h
    gown := fun _ h => .inl h
    own := fun j b h => absurd h (hp.obj j b)
    frame := fun b h _ => hb.block b h
    size := hb.size
    os := hb.os
    out := hb.output
    val := hv }
theorem kn_tab {w : Go.World} {ι : Interp} (hk : Kn Tryd.prog w ι) : Lib.TabIs Tryd.prog w pow10N .u64 Lib.pow10Tab := by
  cases hg : Tryd.prog.globalNamed pow10N with
  | none => have : (Tryd.prog.globalNamed pow10N).isSome = true := by kernel_rfl
            rw [hg] at this; cases this
  | some g => obtain ⟨_, _, cs, hv, rfl⟩ := hk.1 g hg; exact hv
abbrev P_c_itoa (n : Int) : Ct := ⟨67, [], [li n], [], .sv (ls (mkS (Lib.itoa n)))⟩
theorem c_itoa (n : Int) (h : -9223372036854775808 ≤ n ∧ n ≤ 9223372036854775807) : OK (P_c_itoa n) := by
  refine ⟨Tryd.call67, fun w ι vals hp hk => ?_⟩
  have harg := hp.arg
  rcases vals with ⟨l⟩
  match l, harg with
  | [v0], ⟨h0, _⟩ =>
    obtain ⟨rfl, _⟩ := h0.1.lit_inv
    refine (Any.strconv_Itoa itoLays n h.1 h.2 w (Eq.subst (motive := fun s => Lib.TabIs Tryd.prog w s .u64 Lib.pow10Tab) (by kernel_rfl) (kn_tab hk))).mono fun e w' hh => ?_
    obtain ⟨rfl, k, os, rfl⟩ := hh
    refine ⟨_, ι, rfl, post_below hp ⟨rfl, rfl, rfl, ?_, fun j hj => ?_⟩ ⟨.lit ?_, fun _ => rfl⟩⟩
    · show w.heap.size ≤ (w.heap ++ os).size
      rw [Array.size_append]; omega
    · show (w.heap ++ os)[j]? = w.heap[j]?
      exact Array.getElem?_append_left hj
    · show (Lib.itoa n).toArray.size ≤ maxLen
      rw [List.size_toArray]; have := itoa_len h; unfold maxLen; omega
end Go.Proofs.YtgeegppaaggcjaaDoor
end
section
namespace Go.Proofs.YtgeegppaaggcjaaDoor
open Go Go.Proofs.YtgeegppaaggcjaaDoor.Ab
set_option linter.unusedVariables false
set_option linter.unusedSimpArgs false
set_option maxHeartbeats 4000000
instance memDec (s : ByteArray) (L : List ByteArray) : Decidable (s ∈ L) := @List.instDecidableMemOfLawfulBEq ByteArray instBEqOfDecidableEq _ s L
def memS (S : List ByteArray) (n : ByteArray) : Int := if n ∈ S then 1 else 0
theorem memS_nil : zS = memS [] := by funext m; simp [zS, memS]
theorem memS_snoc {S : List ByteArray} {n : ByteArray} : upd1 (memS S) n 1 = memS (S ++ [n]) := by
  funext m; simp only [upd1, memS, List.mem_append, List.mem_singleton]; grind
theorem memS_one {S : List ByteArray} {n : ByteArray} : memS S n = 1 ↔ n ∈ S := by
  simp only [memS]; grind
def okN (n : Int) (L : List ByteArray) : Bool := decide (L.Nodup ∧ ∀ s ∈ L, isSym s = true ∧ (s.size : Int) ≤ n)
theorem okN_iff {n : Int} {L : List ByteArray} : okN n L = true ↔ L.Nodup ∧ ∀ s ∈ L, isSym s = true ∧ (s.size : Int) ≤ n := decide_eq_true_iff
theorem okN_nil {n : Int} : okN n [] = true := rfl
theorem okN_snoc {m : Int} {L : List ByteArray} {n : ByteArray} : okN m (L ++ [n]) = true ↔ okN m L = true ∧ isSym n = true ∧ (n.size : Int) ≤ m ∧ n ∉ L := by
  simp only [okN_iff]; rw [List.nodup_append]
  simp only [List.mem_append, List.mem_singleton]
  grind
theorem okN_left {n : Int} {A B : List ByteArray} (h : okN n (A ++ B) = true) : okN n A = true := by
  rw [okN_iff] at h ⊢
  exact ⟨(List.nodup_append.1 h.1).1, fun s hs => h.2 s (List.mem_append_left _ hs)⟩
theorem okN_take {n : Int} {L : List ByteArray} {k : Nat} (h : okN n L = true) : okN n (L.take k) = true := by
  rw [← List.take_append_drop k L] at h; exact okN_left h
def inS (L : List ByteArray) (s : ByteArray) : Bool := decide (s ∈ L)
theorem inS_iff {L : List ByteArray} {s : ByteArray} : inS L s = true ↔ s ∈ L := decide_eq_true_iff
def symD (s : ByteArray) : Datum := ⟨1, 0, s, []⟩
def lstD (L : List Datum) : Datum := ⟨0, 0, mkS [], L⟩
abbrev lstR (i : Nat) : SV := .agg [vI 0, vI 0, vS (mkS []), .ref i]
theorem sym_snoc (L : List ByteArray) (s : ByteArray) : (L.map symD).map datumC ++ [[cI 1, cI 0, cS s, Cell.list []]] = ((L ++ [s]).map symD).map datumC := by
  simp only [List.map_append, List.map_cons, List.map_nil, datumC_eq]; rfl
def moduleS : ByteArray := mkS [109, 111, 100, 117, 108, 101]
theorem isSym_le {s : ByteArray} : isSym s = true → (s.size : Int) ≤ 16 := by
  unfold isSym; simp only [Bool.and_eq_true, decide_eq_true_eq]; intro h; exact h.1.1.1.2
def modD (m : Module) : List Datum := [symD moduleS, symD m.name, lstD (m.imports.map symD), lstD (m.exports.map symD)] ++ m.body
theorem modD_rows (m : Module) : (modD m).map datumC = [cI 1, cI 0, cS moduleS, Cell.list []] :: [cI 1, cI 0, cS m.name, Cell.list []] :: [cI 0, cI 0, cS (mkS []), Cell.list ((m.imports.map symD).map datumC)] :: [cI 0, cI 0, cS (mkS []), Cell.list ((m.exports.map symD).map datumC)] :: m.body.map datumC := by
  simp only [modD, symD, lstD, List.map_append, List.map_cons, List.map_nil, datumC_eq, List.cons_append, List.nil_append]; rfl
def modOK (m : Module) : Bool := isNam m.name && okN 8 m.imports && decide (m.imports.length ≤ 12) && okN 16 m.exports && decide (m.exports.length ≤ 60) && !inS m.imports m.name && isDat (lstD (modD m))
abbrev P_c_sHasS (L : List ByteArray) (s : ByteArray) : Ct := ⟨17, [], [ll (L.map strC), ls s], [], .sv (lb (inS L s))⟩
def lc_sHasSLa (L : List ByteArray) (s : ByteArray) : Lp Nat := .mk 17 0 (fun x => [(1, ls s), (7, ll (List.map strC L)), (8, li (↑(List.map strC L).length : Int)), (9, hs x 0)])
 (fun x => []) (fun k => [.s (li (↑k : Int))]) (fun k => k ≤ L.length ∧ L.length ≤ 9223372036854775807 ∧ ¬s ∈ List.take k L) (fun k => L.length - k) [.mk (inS L s = false) (.exit
 0) (fun x => []) (fun x => []) [], .mk (inS L s = true) .ret (fun x => [(4, hs x 0)]) (fun x => []) [.s (lb true)]]
theorem Sc_sHasSLa (L : List ByteArray) (s : ByteArray) : Lp.Sem Tryd.prog (loopAt Tryd.f17 0) (lc_sHasSLa L s) := lpOK (fun k => .i ((↑k : Int) < (↑(List.map strC L).length :
 Int)) (.x (↑k : Int) (List.map strC L) [cS (L.getD k default)] (.i ((L.getD k default).data.toList = s.data.toList) (.o 1 [] [.s (lb true)]) (.r ((↑k : Int) + 1) (.g [] (k + 1)
 [.s (li ((↑k : Int) + 1))])))) (.o 0 [] [])) (by
  intro k h; try dsimp only [teasy, nthW, lc_sHasSLa] at h ⊢
  with_reducible repeat' (first | apply And.intro | exact zR | (intro; skip) | apply mIc | apply mOc | apply mSc | apply mLc)
  all_goals (try simp only [std, inj] at *)
  all_goals with_reducible repeat' apply And.intro
  all_goals (try (first | exact z | exact zM | grind [take_get, getD_mem', bytes_ext, inS, snocI, snocS, rowSnoc])))
theorem c_sHasS (L : List ByteArray) (s : ByteArray)  : P_c_sHasS L s := fnOK Tryd.call17 Tryd.func17 (.z strC L (.l (lc_sHasSLa L s) (Sc_sHasSLa L s) [] [.s (li 0)] 0 (.t (.s (lb
 false)) (.t (.s (lb true)) .q)))) (by
  dsimp only [teasy, P_c_sHasS, nthW, lc_sHasSLa]
  with_reducible repeat' (first | apply And.intro | exact zR | (intro; skip) | apply mIc | apply mOc | apply mSc | apply mLc)
  all_goals (try simp only [std, inj] at *)
  all_goals with_reducible repeat' apply And.intro
  all_goals (try (first | exact z | exact zM | grind [snocI, snocS, rowSnoc])))
abbrev P_c_sNames (L : List ByteArray) (most : Int) (longest : Int) : Ct := ⟨16, [], [ll (L.map strC), li most, li longest], [], .sv (lb (okN longest L && decide ((L.length : Int) ≤ most)))⟩
def lc_sNamesLa (L : List ByteArray) (most : Int) (longest : Int) : Lp Nat := .mk 37 0 (fun x => [(0, ll (List.map strC L)), (1, li most), (2, li longest), (9, ll (List.map strC
 L)), (10, li (↑(List.map strC L).length : Int)), (11, hs x 0)]) (fun x => []) (fun k => [.s (li (↑k : Int))]) (fun k => k ≤ L.length ∧ L.length ≤ 9223372036854775807 ∧ okN longest
 (List.take k L) = true) (fun k => L.length - k) [.mk (okN longest L = true) (.exit 0) (fun x => [(0, ll (List.map strC L)), (1, li most)]) (fun x => []) [], .mk (okN longest L =
 false) .ret (fun x => [(6, hs x 0)]) (fun x => []) [.s (lb false)]]
theorem Sc_sNamesLa (L : List ByteArray) (most : Int) (longest : Int) : Lp.Sem Tryd.prog (loopAt Tryd.f16 0) (lc_sNamesLa L most longest) := lpOK (fun k => .i ((↑k : Int) <
 (↑(List.map strC L).length : Int)) (.x (↑k : Int) (List.map strC L) [cS (L.getD k default)] (.c [.rd] (c_sIsSymbol (L.getD k default)) (.b (!isSym (L.getD k default)) (.y true (.y
 true (.o 1 [] [.s (lb false)]))) (.h ((L.getD k default).data.toList.length ≤ 9223372036854775807) (.i (longest < (↑(L.getD k default).data.toList.length : Int)) (.y true (.o 1 []
 [.s (lb false)])) (.p (0 ≤ (↑k : Int)) (.p (0 ≤ (↑k : Int).toNat ∧ (↑k : Int).toNat ≤ (List.map strC L).length ∧ ∀ (e : List Cell), e ∈ List.map strC L → e.length = 1) (.u [.rd,
 .rd] (P_c_sHasS (List.take ((↑k : Int).toNat - 0) (List.drop 0 L)) (L.getD k default)) (.p (CallOK Tryd.prog 17 [] [ll (List.take ((↑k : Int).toNat - 0) (List.drop 0 (List.map
 strC L))), ls (L.getD k default)] [] (AV.sv (lb (inS (List.take ((↑k : Int).toNat - 0) (List.drop 0 L)) (L.getD k default))))) (.b (inS (List.take ((↑k : Int).toNat - 0)
 (List.drop 0 L)) (L.getD k default)) (.o 1 [] [.s (lb false)]) (.r ((↑k : Int) + 1) (.g [] (k + 1) [.s (li ((↑k : Int) + 1))])))))))))))) (.o 0 [] [])) (by
  intro k h; try dsimp only [teasy, nthW, lc_sNamesLa] at h ⊢
  have g1 := @okN_snoc longest (L.take k) (L.getD k default)
  have g2 := @okN_take longest L (k + 1)
  with_reducible repeat' (first | apply And.intro | exact zR | (intro; skip) | apply mIc | apply mOc | apply mSc | apply mLc | apply c_sIsSymbol | apply c_sHasS)
  all_goals (try simp only [std, inj] at *)
  all_goals with_reducible repeat' apply And.intro
  all_goals (try (first | with_reducible apply c_sIsSymbol | with_reducible apply c_sHasS | (simp only [← List.map_append]; first | with_reducible apply c_sIsSymbol | with_reducible apply c_sHasS)))
  all_goals (try (first | exact z | exact zM | grind [take_get, inS_iff, snocI, snocS, rowSnoc])))
theorem c_sNames (L : List ByteArray) (most longest : Int)  : P_c_sNames L most longest := fnOK Tryd.call16 Tryd.func16 (.z strC L (.l (lc_sNamesLa L most longest) (Sc_sNamesLa L
 most longest) [] [.s (li 0)] 0 (.t (.z strC L (.s (lb (decide ((↑(List.map strC L).length : Int) ≤ most))))) (.t (.s (lb false)) .q)))) (by
  dsimp only [teasy, P_c_sNames, nthW, lc_sNamesLa]
  with_reducible repeat' (first | apply And.intro | exact zR | (intro; skip) | apply mIc | apply mOc | apply mSc | apply mLc)
  all_goals (try simp only [std, inj] at *)
  all_goals with_reducible repeat' apply And.intro
  all_goals (try (first | exact z | exact zM | grind [okN_nil, snocI, snocS, rowSnoc])))
abbrev P_c_sList (R : List (List Cell)) : Ct := ⟨40, [.arr false 4 R], [.one (.ref 0)], [.dead, .arr false 4 R], .sv (lstR 1)⟩
theorem c_sList (R : List (List Cell))  : P_c_sList R := fnOK Tryd.call40 Tryd.func40 (.w (.ghost (.move 0)) (.f [2] [Ob.dead, Ob.arr false 4 R] (AV.sv (SV.agg [vI 0, vI 0, vS
 (ByteArray.mk #[]), AC.ref 1])))) (by
  dsimp only [teasy, P_c_sList]
  with_reducible repeat' (first | apply And.intro | exact zR | (intro; skip) | apply mIc | apply mOc | apply mSc | apply mLc)
  all_goals (try simp only [std, inj] at *)
  all_goals with_reducible repeat' apply And.intro
  all_goals (try (first | exact z | exact zM | grind [snocI, snocS, rowSnoc])))
abbrev P_c_sSymbols (L : List ByteArray) : Ct := ⟨41, [], [ll (L.map strC)], [], .sv (.agg [vI 0, vI 0, vS (mkS []), vL ((L.map symD).map datumC)])⟩
def lc_sSymbolsLa (L : List ByteArray) : Lp Nat := .mk 22 0 (fun x => [(2, SV.one (AC.ptr 0 0)), (3, SV.one (AC.ptr 1 0)), (7, ll (List.map strC L)), (8, li (↑(List.map strC
 L).length : Int)), (9, hs x 0)]) (fun x => [Ob.box [vI 0, vI 0, vS (ByteArray.mk #[]), AC.val (Cell.lit (Value.slice none 0 0))], Ob.box [vI 0, vI 0, vS (ByteArray.mk #[]), AC.ref
 2], ho x 1]) (fun k => [.s (li (↑k : Int)), .o (Ob.arr true 4 (List.map datumC (List.map symD (List.take k L))))]) (fun k => k ≤ L.length ∧ L.length ≤ 9223372036854775807) (fun k
 => L.length - k) [.mk True (.exit 0) (fun x => [(2, SV.one (AC.ptr 0 0)), (3, SV.one (AC.ptr 1 0))]) (fun x => [Ob.box [vI 0, vI 0, vS (ByteArray.mk #[]), AC.val (Cell.lit
 (Value.slice none 0 0))], Ob.box [vI 0, vI 0, vS (ByteArray.mk #[]), AC.ref 2], ho x 0]) [.o (Ob.arr true 4 (List.map datumC (List.map symD L)))]]
theorem Sc_sSymbolsLa (L : List ByteArray) (h : L.length ≤ 2147483647) : Lp.Sem Tryd.prog (loopAt Tryd.f41 0) (lc_sSymbolsLa L) := lpOK (fun k => .i ((↑k : Int) < (↑(List.map strC
 L).length : Int)) (.x (↑k : Int) (List.map strC L) [cS (L.getD k default)] (.p (((List.map datumC (List.map symD (List.take k L))).length + 1) * 56 ≤ 140737488355328) (.r ((↑k :
 Int) + 1) (.g [0, 1, 4] (k + 1) [.s (li ((↑k : Int) + 1)), .o (Ob.arr true 4 (List.map datumC (List.map symD (List.take k L)) ++ [[cI 1, cI 0, cS (L.getD k default), Cell.list
 []]]))])))) (.o 0 [0, 1, 2] [.o (Ob.arr true 4 (List.map datumC (List.map symD (List.take k L))))])) (by
  intro k h; try dsimp only [teasy, nthW, lc_sSymbolsLa] at h ⊢
  with_reducible repeat' (first | apply And.intro | exact zR | (intro; skip) | apply mIc | apply mOc | apply mSc | apply mLc)
  all_goals (try simp only [std, inj] at *)
  all_goals with_reducible repeat' apply And.intro
  all_goals (try (first | exact z | exact zM | grind [take_get, sym_snoc, snocI, snocS, rowSnoc, getD_mem'])))
theorem c_sSymbols (L : List ByteArray) (h : L.length ≤ 2147483647)  : P_c_sSymbols L := fnOK Tryd.call41 Tryd.func41 (.z strC L (.w (.ghost (.nilbox 1 3 true 4)) (.l (lc_sSymbolsLa
 L) (Sc_sSymbolsLa L h) [0, 1, 2] [.s (li 0), .o (Ob.arr true 4 [])] 0 (.t (.w (.ghost (.lock 2)) (.s (SV.agg [vI 0, vI 0, vS (ByteArray.mk #[]), vL (List.map datumC (List.map symD
 L))]))) .q)))) (by
  dsimp only [teasy, P_c_sSymbols, nthW, lc_sSymbolsLa]
  with_reducible repeat' (first | apply And.intro | exact zR | (intro; skip) | apply mIc | apply mOc | apply mSc | apply mLc)
  all_goals (try simp only [std, inj] at *)
  all_goals with_reducible repeat' apply And.intro
  all_goals (try (first | exact z | exact zM | grind [snocI, snocS, rowSnoc])))
abbrev P_c_sModD (u : Module) : Ct := ⟨19, [], [moduleA u], [], .sv (.agg [vI 0, vI 0, vS (mkS []), vL ((modD u).map datumC)])⟩
theorem c_sModD (u : Module) (h : wM u ≤ 1048576)  : P_c_sModD u := fnOK Tryd.call19 Tryd.func19 (.w (.draw [(11, [18]), (13, [27])]) (.d [.rd] (P_c_sSymbols u.imports) (.d [.rd]
 (P_c_sSymbols u.exports) (.c [.own false 4] (c_sList [[cI 1, cI 0, cS (ByteArray.mk #[(109 : UInt8), (111 : UInt8), (100 : UInt8), (117 : UInt8), (108 : UInt8), (101 : UInt8)]),
 Cell.list []], [cI 1, cI 0, cS u.name, Cell.list []], [cI 0, cI 0, cS (mkS []), Cell.list (List.map datumC (List.map symD u.imports))], [cI 0, cI 0, cS (mkS []), Cell.list
 (List.map datumC (List.map symD u.exports))]]) (.p (∀ (e : List Cell), e ∈ List.map datumC u.body → e.length = 4) (.p ((4 + (List.map datumC u.body).length) * 56 ≤
 140737488355328) (.w (.ghost (.lock 28)) (.s (SV.agg [vI 0, vI 0, vS (mkS []), vL ([cI 1, cI 0, cS (ByteArray.mk #[(109 : UInt8), (111 : UInt8), (100 : UInt8), (117 : UInt8), (108
 : UInt8), (101 : UInt8)]), Cell.list []] :: [cI 1, cI 0, cS u.name, Cell.list []] :: [cI 0, cI 0, cS (mkS []), Cell.list (List.map datumC (List.map symD u.imports))] :: [cI 0, cI
 0, cS (mkS []), Cell.list (List.map datumC (List.map symD u.exports))] :: List.map datumC u.body)]))))))))) (by
  dsimp only [teasy, P_c_sModD]
  have g := wM_eq u
  with_reducible repeat' (first | apply And.intro | exact zR | (intro; skip) | apply mIc | apply mOc | apply mSc | apply mLc | apply c_sSymbols)
  all_goals (try simp only [std, inj] at *)
  all_goals with_reducible repeat' apply And.intro
  all_goals (try (first | with_reducible apply c_sSymbols | (simp only [← List.map_append]; first | with_reducible apply c_sSymbols)))
  all_goals (try (first | exact z | exact zM | grind [modD_rows, moduleS, wS, snocI, snocS, rowSnoc])))
abbrev P_c_sIsModule (u : Module) : Ct := ⟨6, [], [moduleA u], [], .sv (lb (modOK u))⟩
theorem c_sIsModule (u : Module) (h : wM u ≤ 1048576)  : P_c_sIsModule u := fnOK Tryd.call6 Tryd.func6 (.c [.rd] (c_sNam u.name) (.b (isNam u.name) (.c [.rd, .rd, .rd] (c_sNames
 u.imports 12 8) (.b (okN 8 u.imports && decide ((↑u.imports.length : Int) ≤ 12)) (.c [.rd, .rd, .rd] (c_sNames u.exports 60 16) (.b (okN 16 u.exports && decide ((↑u.exports.length
 : Int) ≤ 60)) (.c [.rd, .rd] (c_sHasS u.imports u.name) (.b (!inS u.imports u.name) (.d [.rd] (P_c_sModD u) (.c [.rd] (c_sIsDatum (Datum.mk 0 0 (mkS []) (modD u))) (.s (lb (isDat
 (Datum.mk 0 0 (mkS []) (modD u))))))) (.s (lb false)))) (.y false (.s (lb false))))) (.y false (.y false (.s (lb false)))))) (.y false (.y false (.y false (.s (lb false))))))) (by
  dsimp only [teasy, P_c_sIsModule]
  with_reducible repeat' (first | apply And.intro | exact zR | (intro; skip) | apply mIc | apply mOc | apply mSc | apply mLc | apply c_sModD)
  all_goals (try simp only [std, inj] at *)
  all_goals with_reducible repeat' apply And.intro
  all_goals (try (first | with_reducible apply c_sModD | (simp only [← List.map_append]; first | with_reducible apply c_sModD)))
  all_goals (try (first | exact z | exact zM | grind [modOK, lstD, snocI, snocS, rowSnoc])))
abbrev P_c_iSymbolOf (s : ByteArray) : Ct := ⟨34, [], [ls s], [], .sv (.agg [vI 1, vI 0, vS s, .val (.lit (.slice none 0 0))])⟩
theorem c_iSymbolOf (s : ByteArray)  : P_c_iSymbolOf s := fnOK Tryd.call34 Tryd.func34 (.s (SV.agg [vI 1, vI 0, vS s, AC.val (Cell.lit (Value.slice none 0 0))])) (by
  dsimp only [teasy, P_c_iSymbolOf]
  with_reducible repeat' (first | apply And.intro | exact zR | (intro; skip) | apply mIc | apply mOc | apply mSc | apply mLc)
  all_goals (try simp only [std, inj] at *)
  all_goals with_reducible repeat' apply And.intro
  all_goals (try (first | exact z | exact zM | grind [snocI, snocS, rowSnoc])))
abbrev P_c_iSymbolList (L : List ByteArray) : Ct := ⟨35, [], [ll (L.map strC)], [.arr true 4 ((L.map symD).map datumC)], .sv (lstR 0)⟩
def lc_iSymbolListLa (L : List ByteArray) : Lp Nat := .mk 21 0 (fun x => [(2, SV.one (AC.ptr 0 0)), (3, SV.one (AC.ptr 1 0)), (6, ll (List.map strC L)), (7, li (↑(List.map strC
 L).length : Int)), (8, hs x 0)]) (fun x => [Ob.box [vI 0, vI 0, vS (ByteArray.mk #[]), AC.val (Cell.lit (Value.slice none 0 0))], Ob.box [vI 0, vI 0, vS (ByteArray.mk #[]), AC.ref
 2], ho x 1]) (fun k => [.s (li (↑k : Int)), .o (Ob.arr true 4 (List.map datumC (List.map symD (List.take k L))))]) (fun k => k ≤ L.length ∧ L.length ≤ 9223372036854775807) (fun k
 => L.length - k) [.mk True (.exit 0) (fun x => [(2, SV.one (AC.ptr 0 0)), (3, SV.one (AC.ptr 1 0))]) (fun x => [Ob.box [vI 0, vI 0, vS (ByteArray.mk #[]), AC.val (Cell.lit
 (Value.slice none 0 0))], Ob.box [vI 0, vI 0, vS (ByteArray.mk #[]), AC.ref 2], ho x 0]) [.o (Ob.arr true 4 (List.map datumC (List.map symD L)))]]
theorem Sc_iSymbolListLa (L : List ByteArray) (h : L.length ≤ 2147483647) : Lp.Sem Tryd.prog (loopAt Tryd.f35 0) (lc_iSymbolListLa L) := lpOK (fun k => .i ((↑k : Int) < (↑(List.map
 strC L).length : Int)) (.x (↑k : Int) (List.map strC L) [cS (L.getD k default)] (.w (.draw [(5, [2, 11]), (7, [1])]) (.c [.rd] (c_iSymbolOf (L.getD k default)) (.p (((List.map
 datumC (List.map symD (List.take k L))).length + 1) * 56 ≤ 140737488355328) (.r ((↑k : Int) + 1) (.g [0, 1, 12] (k + 1) [.s (li ((↑k : Int) + 1)), .o (Ob.arr true 4 (List.map
 datumC (List.map symD (List.take k L)) ++ [[cI 1, cI 0, cS (L.getD k default), Cell.list []]]))])))))) (.o 0 [0, 1, 2] [.o (Ob.arr true 4 (List.map datumC (List.map symD
 (List.take k L))))])) (by
  intro k h; try dsimp only [teasy, nthW, lc_iSymbolListLa] at h ⊢
  with_reducible repeat' (first | apply And.intro | exact zR | (intro; skip) | apply mIc | apply mOc | apply mSc | apply mLc)
  all_goals (try simp only [std, inj] at *)
  all_goals with_reducible repeat' apply And.intro
  all_goals (try (first | exact z | exact zM | grind [take_get, sym_snoc, snocI, snocS, rowSnoc, getD_mem'])))
theorem c_iSymbolList (L : List ByteArray) (h : L.length ≤ 2147483647)  : P_c_iSymbolList L := fnOK Tryd.call35 Tryd.func35 (.z strC L (.w (.ghost (.nilbox 1 3 true 4)) (.l
 (lc_iSymbolListLa L) (Sc_iSymbolListLa L h) [0, 1, 2] [.s (li 0), .o (Ob.arr true 4 [])] 0 (.t (.f [2] [Ob.arr true 4 (List.map datumC (List.map symD L))] (AV.sv (SV.agg [vI 0, vI
 0, vS (ByteArray.mk #[]), AC.ref 0]))) .q)))) (by
  dsimp only [teasy, P_c_iSymbolList, nthW, lc_iSymbolListLa]
  with_reducible repeat' (first | apply And.intro | exact zR | (intro; skip) | apply mIc | apply mOc | apply mSc | apply mLc)
  all_goals (try simp only [std, inj] at *)
  all_goals with_reducible repeat' apply And.intro
  all_goals (try (first | exact z | exact zM | grind [snocI, snocS, rowSnoc])))
abbrev P_c_iCopyData (L : List Datum) : Ct := ⟨25, [], [ll (L.map datumC)], [.arr true 4 (L.map datumC)], .sv (.one (.ref 0))⟩
abbrev P_c_iCopyDatum (x : Datum) : Ct := ⟨46, [], [datumA x], datumO x, .sv (datumR x 0)⟩
def lc_iCopyDataLa (L : List Datum) : Lp Nat := .mk 19 0 (fun x => [(3, SV.one (AC.ref 0)), (6, ll (List.map datumC L)), (7, li (↑(List.map datumC L).length : Int)), (8, hs x 0)])
 (fun x => [ho x 1]) (fun k => [.s (li (↑k : Int)), .o (Ob.arr true 4 (List.map datumC (List.take k L)))]) (fun k => k ≤ L.length ∧ L.length ≤ 9223372036854775807) (fun k =>
 L.length - k) [.mk True (.exit 0) (fun x => [(3, SV.one (AC.ref 0))]) (fun x => [ho x 0]) [.o (Ob.arr true 4 (List.map datumC L))]]
theorem Sc_iCopyDataLa (L : List Datum) (h : L.length + sumBy wD L ≤ 1048576) (ih : ∀ (x : Datum), x ∈ L → wD x ≤ 1048576 → OK (P_c_iCopyDatum x)) : Lp.Sem Tryd.prog (loopAt
 Tryd.f25 0) (lc_iCopyDataLa L) := lpOK (fun k => .i ((↑k : Int) < (↑(List.map datumC L).length : Int)) (.x (↑k : Int) (List.map datumC L) (datumF (L.getD k default)) (.d [.rd]
 (P_c_iCopyDatum (L.getD k default)) (.p (((List.map datumC (List.take k L)).length + 1) * 56 ≤ 140737488355328) (.r ((↑k : Int) + 1) (.g [4] (k + 1) [.s (li ((↑k : Int) + 1)), .o
 (Ob.arr true 4 (List.map datumC (List.take k L) ++ [datumF (L.getD k default)]))]))))) (.o 0 [0] [.o (Ob.arr true 4 (List.map datumC (List.take k L)))])) (by
  intro k h; try dsimp only [teasy, nthW, lc_iCopyDataLa] at h ⊢
  have g := @sumBy_mem _ wD L (L.getD k default)
  with_reducible repeat' (first | apply And.intro | exact zR | exact ih | (intro; skip) | apply mIc | apply mOc | apply mSc | apply mLc | apply ih)
  all_goals (try simp only [std, inj] at *)
  all_goals with_reducible repeat' apply And.intro
  all_goals (try (first | with_reducible apply ih | (simp only [← List.map_append]; first | with_reducible apply ih)))
  all_goals (try (first | exact z | exact zM | grind [take_get, getD_mem', snocI, snocS, rowSnoc, getD_mem'])))
theorem c_iCopyData (L : List Datum) (h : L.length + sumBy wD L ≤ 1048576) (ih : ∀ x ∈ L, ∀ (h : wD x ≤ 1048576), P_c_iCopyDatum x)  : P_c_iCopyData L := fnOK Tryd.call25 Tryd.func25
 (.z datumC L (.w (.ghost (.nilreg 3 true 4)) (.l (lc_iCopyDataLa L) (Sc_iCopyDataLa L h ih) [0] [.s (li 0), .o (Ob.arr true 4 [])] 0 (.t (.f [0] [Ob.arr true 4 (List.map datumC
 L)] (AV.sv (SV.one (AC.ref 0)))) .q)))) (by
  dsimp only [teasy, P_c_iCopyData, nthW, lc_iCopyDataLa]
  with_reducible repeat' (first | apply And.intro | exact zR | exact ih | (intro; skip) | apply mIc | apply mOc | apply mSc | apply mLc)
  all_goals (try simp only [std, inj] at *)
  all_goals with_reducible repeat' apply And.intro
  all_goals (try (first | with_reducible apply ih | (simp only [← List.map_append]; first | with_reducible apply ih)))
  all_goals (try (first | exact z | exact zM | grind [snocI, snocS, rowSnoc])))
theorem c_iCopyDatum_s (x : Datum) (h : wD x ≤ 1048576) (ih : ∀ z ∈ x.items, ∀ (h : wD z ≤ 1048576), P_c_iCopyDatum z)  : P_c_iCopyDatum x := fnOK Tryd.call46 Tryd.func46 (.d [.rd]
 (P_c_iCopyData x.items) (.f [2] [Ob.arr true 4 (List.map datumC x.items)] (AV.sv (SV.agg [vI x.kind, vI x.number, vS x.text, AC.ref 0])))) (by
  dsimp only [teasy, P_c_iCopyDatum]
  have g := wD_eq x
  with_reducible repeat' (first | apply And.intro | exact zR | exact ih | (intro; skip) | apply mIc | apply mOc | apply mSc | apply mLc | apply c_iCopyData | apply ih)
  all_goals (try simp only [std, inj] at *)
  all_goals with_reducible repeat' apply And.intro
  all_goals (try (first | with_reducible apply c_iCopyData | with_reducible apply ih | (simp only [← List.map_append]; first | with_reducible apply c_iCopyData | with_reducible apply ih)))
  all_goals (try (first | exact z | exact zM | grind [snocI, snocS, rowSnoc])))
theorem c_iCopyDatum (x : Datum) : ∀ (h : wD x ≤ 1048576), P_c_iCopyDatum x := Datum.ind (P := fun x => ∀ (h : wD x ≤ 1048576), P_c_iCopyDatum x) (fun x ih h => c_iCopyDatum_s x h ih) x
abbrev P_c_iModD (u : Module) : Ct := ⟨14, [], [moduleA u], [.arr true 4 ((modD u).map datumC)], .sv (lstR 0)⟩
theorem c_iModD (u : Module) (h : wM u ≤ 1048576)  : P_c_iModD u := fnOK Tryd.call14 Tryd.func14 (.w (.draw [(10, [18, 26])]) (.c [.rd] (c_iSymbolOf (ByteArray.mk #[(109 : UInt8),
 (111 : UInt8), (100 : UInt8), (117 : UInt8), (108 : UInt8), (101 : UInt8)])) (.c [.rd] (c_iSymbolOf u.name) (.d [.rd] (P_c_iSymbolList u.imports) (.d [.rd] (P_c_iSymbolList
 u.exports) (.d [.rd] (P_c_iCopyData u.body) (.p ((4 + (List.map datumC u.body).length) * 56 ≤ 140737488355328) (.f [36] [Ob.arr true 4 ([cI 1, cI 0, cS (ByteArray.mk #[(109 :
 UInt8), (111 : UInt8), (100 : UInt8), (117 : UInt8), (108 : UInt8), (101 : UInt8)]), Cell.list []] :: [cI 1, cI 0, cS u.name, Cell.list []] :: [cI 0, cI 0, cS (mkS []), Cell.list
 (List.map datumC (List.map symD u.imports))] :: [cI 0, cI 0, cS (mkS []), Cell.list (List.map datumC (List.map symD u.exports))] :: List.map datumC u.body)] (AV.sv (SV.agg [vI 0,
 vI 0, vS (ByteArray.mk #[]), AC.ref 0])))))))))) (by
  dsimp only [teasy, P_c_iModD]
  have g := wM_eq u
  with_reducible repeat' (first | apply And.intro | exact zR | (intro; skip) | apply mIc | apply mOc | apply mSc | apply mLc | apply c_iSymbolOf | apply c_iSymbolList | apply c_iCopyData | apply c_iCopyDatum)
  all_goals (try simp only [std, inj] at *)
  all_goals with_reducible repeat' apply And.intro
  all_goals (try (first | with_reducible apply c_iSymbolOf | with_reducible apply c_iSymbolList | with_reducible apply c_iCopyData | with_reducible apply c_iCopyDatum | (simp only [← List.map_append]; first | with_reducible apply c_iSymbolOf | with_reducible apply c_iSymbolList | with_reducible apply c_iCopyData | with_reducible apply c_iCopyDatum)))
  all_goals (try (first | exact z | exact zM | grind [modD_rows, moduleS, wS, snocI, snocS, rowSnoc])))
abbrev P_c_iIsModule (u : Module) : Ct := ⟨12, [], [moduleA u], [], .sv (lb (modOK u))⟩
def lc_iIsModuleLb (u : Module) : Lp Nat := .mk 70 0 (fun x => [(1, SV.one (AC.ptr 0 0)), (3, SV.one (AC.mref 1)), (49, ll (List.map strC u.exports)), (50, li (↑(List.map strC
 u.exports).length : Int)), (51, hs x 0)]) (fun x => [Ob.box (vals (moduleF u)), ho x 1]) (fun k => [.s (li (↑k : Int)), .o (Ob.map false kS (mS (memS (List.take k u.exports))))])
 (fun k => k ≤ u.exports.length ∧ u.exports.length ≤ 9223372036854775807 ∧ okN 16 (List.take k u.exports) = true) (fun k => u.exports.length - k) [.mk (okN 16 u.exports = true)
 (.exit 2) (fun x => [(1, SV.one (AC.ptr 0 0))]) (fun x => [Ob.box (vals (moduleF u))]) [], .mk (okN 16 u.exports = false) .ret (fun x => [(2, hs x 0)]) (fun x => []) [.s (lb
 false)]]
def lc_iIsModuleLa (u : Module) : Lp Nat := .mk 70 0 (fun x => [(1, SV.one (AC.ptr 0 0)), (3, SV.one (AC.mref 1)), (29, ll (List.map strC u.imports)), (30, li (↑(List.map strC
 u.imports).length : Int)), (31, hs x 0)]) (fun x => [Ob.box (vals (moduleF u)), ho x 1]) (fun k => [.s (li (↑k : Int)), .o (Ob.map false kS (mS (memS ([u.name] ++ List.take k
 u.imports))))]) (fun k => k ≤ u.imports.length ∧ u.imports.length ≤ 9223372036854775807 ∧ okN 8 (List.take k u.imports) = true ∧ inS (List.take k u.imports) u.name = false) (fun k
 => u.imports.length - k) [.mk (okN 8 u.imports = true ∧ inS u.imports u.name = false) (.exit 0) (fun x => [(1, SV.one (AC.ptr 0 0))]) (fun x => [Ob.box (vals (moduleF u))]) [],
 .mk ((okN 8 u.imports && !inS u.imports u.name) = false) .ret (fun x => [(2, hs x 0)]) (fun x => []) [.s (lb false)]]
theorem Sc_iIsModuleLb (u : Module) (h : wM u ≤ 1048576) : Lp.Sem Tryd.prog (loopAt Tryd.f12 1) (lc_iIsModuleLb u) := lpOK (fun k => .i ((↑k : Int) < (↑(List.map strC
 u.exports).length : Int)) (.x (↑k : Int) (List.map strC u.exports) [cS (u.exports.getD k default)] (.c [.rd] (c_iIsSymbol (u.exports.getD k default)) (.b (!isSym (u.exports.getD k
 default)) (.y true (.o 1 [] [.s (lb false)])) (.w (.cells [cI (memS (List.take k u.exports) (u.exports.getD k default))]) (.p (LookAt (Value.int IntKind.i64 0) (mS (memS
 (List.take k u.exports))) (Value.string (u.exports.getD k default)) (cI (memS (List.take k u.exports) (u.exports.getD k default)))) (.i (memS (List.take k u.exports)
 (u.exports.getD k default) = 1) (.o 1 [] [.s (lb false)]) (.w (.upd (mS (upd1 (memS (List.take k u.exports)) (u.exports.getD k default) 1))) (.p (false = false) (.p (UpdF kS.d (mS
 (memS (List.take k u.exports))) (mS (upd1 (memS (List.take k u.exports)) (u.exports.getD k default) 1)) (Value.string (u.exports.getD k default)) (some (cI 1))) (.r ((↑k : Int) +
 1) (.g [0, 1] (k + 1) [.s (li ((↑k : Int) + 1)), .o (Ob.map false kS (mS (upd1 (memS (List.take k u.exports)) (u.exports.getD k default) 1)))]))))))))))) (.o 0 [0] [])) (by
  intro k h; try dsimp only [teasy, nthW, lc_iIsModuleLb] at h ⊢
  have g1 := @okN_snoc 16 (u.exports.take k) (u.exports.getD k default)
  have g2 := @okN_take 16 u.exports (k + 1)
  have g3 := @isSym_le (u.exports.getD k default)
  with_reducible repeat' (first | apply And.intro | exact zR | (intro; skip) | apply mIc | apply mOc | apply mSc | apply mLc | apply c_iNam | apply c_iIsSymbol | apply c_iModD)
  all_goals (try simp only [std, inj] at *)
  all_goals with_reducible repeat' apply And.intro
  all_goals (try (first | with_reducible apply c_iNam | with_reducible apply c_iIsSymbol | with_reducible apply c_iModD | (simp only [← List.map_append]; first | with_reducible apply c_iNam | with_reducible apply c_iIsSymbol | with_reducible apply c_iModD)))
  all_goals (try (first | exact z | exact zM | grind [take_get, memS_one, memS_snoc, snocI, snocS, rowSnoc])))
theorem Sc_iIsModuleLa (u : Module) (h : wM u ≤ 1048576) : Lp.Sem Tryd.prog (loopAt Tryd.f12 0) (lc_iIsModuleLa u) := lpOK (fun k => .i ((↑k : Int) < (↑(List.map strC
 u.imports).length : Int)) (.x (↑k : Int) (List.map strC u.imports) [cS (u.imports.getD k default)] (.c [.rd] (c_iNam (u.imports.getD k default)) (.b (!isNam (u.imports.getD k
 default)) (.y true (.o 1 [] [.s (lb false)])) (.w (.cells [cI (memS (u.name :: List.take k u.imports) (u.imports.getD k default))]) (.p (LookAt (Value.int IntKind.i64 0) (mS (memS
 (u.name :: List.take k u.imports))) (Value.string (u.imports.getD k default)) (cI (memS (u.name :: List.take k u.imports) (u.imports.getD k default)))) (.i (memS (u.name ::
 List.take k u.imports) (u.imports.getD k default) = 1) (.o 1 [] [.s (lb false)]) (.w (.upd (mS (upd1 (memS (u.name :: List.take k u.imports)) (u.imports.getD k default) 1))) (.p
 (false = false) (.p (UpdF kS.d (mS (memS (u.name :: List.take k u.imports))) (mS (upd1 (memS (u.name :: List.take k u.imports)) (u.imports.getD k default) 1)) (Value.string
 (u.imports.getD k default)) (some (cI 1))) (.r ((↑k : Int) + 1) (.g [0, 1] (k + 1) [.s (li ((↑k : Int) + 1)), .o (Ob.map false kS (mS (upd1 (memS (u.name :: List.take k
 u.imports)) (u.imports.getD k default) 1)))]))))))))))) (.o 0 [0] [])) (by
  intro k h; try dsimp only [teasy, nthW, lc_iIsModuleLa] at h ⊢
  have g1 := @okN_snoc 8 (u.imports.take k) (u.imports.getD k default)
  have g2 := @okN_take 8 u.imports (k + 1)
  have g3 := @List.mem_of_mem_take _ (k + 1) u.name u.imports
  with_reducible repeat' (first | apply And.intro | exact zR | (intro; skip) | apply mIc | apply mOc | apply mSc | apply mLc | apply c_iNam | apply c_iIsSymbol | apply c_iModD)
  all_goals (try simp only [std, inj] at *)
  all_goals with_reducible repeat' apply And.intro
  all_goals (try (first | with_reducible apply c_iNam | with_reducible apply c_iIsSymbol | with_reducible apply c_iModD | (simp only [← List.map_append]; first | with_reducible apply c_iNam | with_reducible apply c_iIsSymbol | with_reducible apply c_iModD)))
  all_goals (try (first | exact z | exact zM | grind [take_get, memS_one, memS_snoc, isNam, inS, snocI, snocS, rowSnoc])))
theorem c_iIsModule (u : Module) (h : wM u ≤ 1048576)  : P_c_iIsModule u := fnOK Tryd.call12 Tryd.func12 (.c [.rd] (c_iNam u.name) (.b (!isNam u.name) (.y true (.y true (.s (lb
 false)))) (.z strC u.imports (.i (12 < (↑(List.map strC u.imports).length : Int)) (.y true (.s (lb false))) (.z strC u.exports (.i (60 < (↑(List.map strC u.exports).length : Int))
 (.s (lb false)) (.w (.mkmap kS) (.w (.upd (mS (upd1 zS u.name 1))) (.p (false = false) (.p (UpdF kS.d (mS zS) (mS (upd1 zS u.name 1)) (Value.string u.name) (some (cI 1))) (.z strC
 u.imports (.l (lc_iIsModuleLa u) (Sc_iIsModuleLa u h) [0, 1] [.s (li 0), .o (Ob.map false kS (mS (upd1 zS u.name 1)))] 0 (.t (.w (.mkmap kS) (.z strC u.exports (.l (lc_iIsModuleLb
 u) (Sc_iIsModuleLb u h) [0, 1] [.s (li 0), .o (Ob.map false kS (mS zS))] 0 (.t (.d [.rd] (P_c_iModD u) (.c [.rd] (c_iIsDatum (Datum.mk 0 0 (mkS []) (modD u))) (.s (lb (isDat
 (Datum.mk 0 0 (mkS []) (modD u))))))) (.t (.s (lb false)) .q))))) (.t (.s (lb false)) .q)))))))))))))) (by
  dsimp only [teasy, P_c_iIsModule, nthW, lc_iIsModuleLa, lc_iIsModuleLb]
  have e : inS (u.imports.take 0) u.name = false := by simp [inS]
  with_reducible repeat' (first | apply And.intro | exact zR | (intro; skip) | apply mIc | apply mOc | apply mSc | apply mLc | apply c_iNam | apply c_iIsSymbol | apply c_iModD)
  all_goals (try simp only [std, inj] at *)
  all_goals with_reducible repeat' apply And.intro
  all_goals (try (first | with_reducible apply c_iNam | with_reducible apply c_iIsSymbol | with_reducible apply c_iModD | (simp only [← List.map_append]; first | with_reducible apply c_iNam | with_reducible apply c_iIsSymbol | with_reducible apply c_iModD)))
  all_goals (try (first | exact z | exact zM | grind [modOK, lstD, okN_nil, memS_nil, memS_snoc, snocI, snocS, rowSnoc])))
end Go.Proofs.YtgeegppaaggcjaaDoor
end
section
namespace Go.Proofs.YtgeegppaaggcjaaDoor
open Go Go.Proofs.YtgeegppaaggcjaaDoor.Ab
set_option linter.unusedVariables false
set_option linter.unusedSimpArgs false
set_option maxHeartbeats 4000000
abbrev P_c_iNum (n : Int) : Ct := ⟨53, [], [li n], [], .sv (ls (mkS (Lib.itoa n)))⟩
theorem c_iNum (n : Int) (h : -9223372036854775808 ≤ n ∧ n ≤ 9223372036854775807)  : P_c_iNum n := fnOK Tryd.call53 Tryd.func53 (.d [.rd] (P_c_itoa n) (.s (ls (mkS (Lib.itoa n)))))
 (by
  dsimp only [teasy, P_c_iNum]
  with_reducible repeat' (first | apply And.intro | exact zR | (intro; skip) | apply c_itoa)
  all_goals (try simp only [std, inj] at *)
  all_goals with_reducible repeat' apply And.intro
  all_goals (try (first | with_reducible apply c_itoa | (simp only [← List.map_append]; first | with_reducible apply c_itoa)))
  all_goals (try (first | exact z | grind [snocI, snocS, rowSnoc])))
mutual
def fmtD : Datum → List UInt8
  | ⟨k, n, t, l⟩ => if k = 1 then tx t else if k = 2 then Lib.itoa n else if k = 3 then (if n = 1 then [35, 116] else [35, 102]) else if k = 4 then [34] ++ (tx t ++ [34]) else [40] ++ (fmtDs l ++ [41])
def fmtDs : List Datum → List UInt8
  | [] => []
  | x :: r => fmtD x ++ fmtDr r
def fmtDr : List Datum → List UInt8
  | [] => []
  | x :: r => ([32] ++ fmtD x) ++ fmtDr r
end
def fmS (x : Datum) : ByteArray := mkS (fmtD x)
def fmJ (L : List Datum) : List UInt8 := jn [32] (L.map fmS)
theorem fmtDr_eq : ∀ l, fmtDr l = (l.map fmS).flatMap fun y => [32] ++ tx y
  | [] => by simp [fmtDr]
  | x :: r => by rw [fmtDr, fmtDr_eq r]; rfl
theorem fmtDs_eq : ∀ l, fmtDs l = fmJ l
  | [] => by simp [fmtDs, fmJ, jn]
  | x :: r => by rw [fmtDs, fmtDr_eq]; rfl
theorem fmtD_eq (d : Datum) : fmtD d = if d.kind = 1 then tx d.text else if d.kind = 2 then Lib.itoa d.number else if d.kind = 3 then (if d.number = 1 then [35, 116] else [35, 102]) else if d.kind = 4 then [34] ++ (tx d.text ++ [34]) else [40] ++ (fmJ d.items ++ [41]) := by
  cases d; simp only [fmtD, fmtDs_eq]
theorem fmJ_step {L : List Datum} {k : Nat} (h : k < L.length) : fmJ (L.take (k + 1)) = if k = 0 then fmtD (L.getD k default) else fmJ (L.take k) ++ ([32] ++ fmtD (L.getD k default)) := by
  rw [take_get h]; unfold fmJ
  rw [List.map_append, List.map_cons, List.map_nil, jn_snoc]
  cases k with
  | zero => simp [fmS]; rfl
  | succ k => rw [if_neg, if_neg (by omega)]; rfl; intro e; have := congrArg List.length e; rw [List.length_map, List.length_take, List.length_nil] at this; omega
theorem jn_le (L : List Datum) {m : Datum → Nat} (h : ∀ x ∈ L, (fmtD x).length + 1 ≤ m x) : (fmJ L).length ≤ sumBy m L := by
  have e : ∀ L : List Datum, (∀ x ∈ L, (fmtD x).length + 1 ≤ m x) → ((L.map fmS).flatMap fun y => [32] ++ tx y).length ≤ sumBy m L := by
    intro L
    induction L with
    | nil => intro _; simp [sumBy]
    | cons x r ih =>
      intro h
      have h1 := ih fun y hy => h y (List.mem_cons_of_mem _ hy)
      have h2 := h x List.mem_cons_self
      have h3 : (tx (fmS x)).length = (fmtD x).length := rfl
      simp only [List.map_cons, List.flatMap_cons, List.length_append, List.length_cons, List.length_nil, sumBy, h3]
      omega
  cases L with
  | nil => simp [fmJ, jn, sumBy]
  | cons x r =>
    have h1 := e r fun y hy => h y (List.mem_cons_of_mem _ hy)
    have h2 := h x List.mem_cons_self
    have h3 : (tx (fmS x)).length = (fmtD x).length := rfl
    simp only [fmJ, jn, List.map_cons, List.length_append, sumBy, h3]
    omega
theorem nod_txt {k n : Int} {t : ByteArray} {i : Int} (h : nodD k n t i = true) : t.size ≤ 20 := by
  have h3 := @isSym_le t
  have e : t.data.toList.length = t.size := rfl
  simp only [nodD, Bool.or_eq_true, decide_eq_true_eq] at h
  rcases h with (((h | h) | h) | h) | h
  · rw [h.2.2] at e; simp at e; omega
  · have := h3 h.2.2.1; omega
  · rw [h.2.2.2.1] at e; simp at e; omega
  · rw [h.2.2.2.1] at e; simp at e; omega
  · have h7 := h.2.2.1; simp only [isStr, Bool.and_eq_true, decide_eq_true_eq] at h7; omega
theorem sum_mul (w : Datum → Nat) (m : Nat) : ∀ L : List Datum, sumBy (fun x => m * w x) L = m * sumBy w L
  | [] => rfl
  | x :: r => by simp only [sumBy, sum_mul w m r, Nat.mul_add]
theorem fmtD_len : ∀ d : Datum, okD d = true → (fmtD d).length + 1 ≤ 30 * sizeD d := by
  refine Datum.ind fun d ih hd => ?_
  rw [okD_eq, Bool.and_eq_true, List.all_eq_true] at hd
  have h1 := jn_le d.items (m := fun x => 30 * sizeD x) fun x hx => ih x hx (hd.1 x hx)
  rw [sum_mul] at h1
  have h5 := nod_txt hd.2
  have h4 := hd.2
  have h6 : (tx d.text).length = d.text.size := rfl
  rw [fmtD_eq, sizeD_eq]
  simp only [nodD, Bool.or_eq_true, decide_eq_true_eq] at h4
  split
  · omega
  · split
    · have := itoa_len9 (n := d.number) (by omega); omega
    · split
      · split <;> simp <;> omega
      · split
        · simp only [List.length_append, List.length_cons, List.length_nil, h6]; omega
        · simp only [List.length_append, List.length_cons, List.length_nil]; omega
def fmX (d : Datum) : List UInt8 := if isDat d then fmtD d else []
def fmO (L : List Datum) : List UInt8 := [40] ++ fmJ L
theorem fmO_nil : [[Cell.lit (.int .u8 40)]] = (fmO []).map byteC := rfl
theorem fmO_go {L : List Datum} {k : Nat} (h : k < L.length) (e : ¬ 0 < (k : Int)) : (fmO (L.take (k + 1))).map byteC = (fmO (L.take k)).map byteC ++ (fmtD (L.getD k default)).map byteC := by
  have : k = 0 := by omega
  subst this; unfold fmO; rw [fmJ_step h]; rfl
theorem fmO_on {L : List Datum} {k : Nat} (h : k < L.length) (e : 0 < (k : Int)) : (fmO (L.take (k + 1))).map byteC = (fmO (L.take k)).map byteC ++ ([[Cell.lit (.int .u8 32)]] ++ (fmtD (L.getD k default)).map byteC) := by
  unfold fmO; rw [fmJ_step h, if_neg (by omega), ← List.append_assoc, List.map_append, List.map_append]; rfl
theorem fmO_len {d : Datum} (k : Nat) (h : okD d = true) : (fmO (d.items.take k)).length ≤ 1 + 30 * sumBy sizeD (d.items.take k) := by
  rw [okD_eq, Bool.and_eq_true, List.all_eq_true] at h
  have h1 := jn_le (d.items.take k) (m := fun x => 30 * sizeD x) fun x hx => fmtD_len x (h.1 x (List.mem_of_mem_take hx))
  rw [sum_mul] at h1
  unfold fmO; simp only [List.length_append, List.length_cons, List.length_nil]; omega
theorem sum_two {w : Datum → Nat} {L : List Datum} {k : Nat} (h : k < L.length) : sumBy w (L.take k) + w (L.getD k default) ≤ sumBy w L := by
  have h1 := sumBy_step w h
  have h2 := sumBy_takeLe w L (k + 1)
  omega
theorem fmtD_list {d : Datum} (h1 : ¬ d.kind = 1) (h2 : ¬ d.kind = 2) (h3 : ¬ d.kind = 3) (h4 : ¬ d.kind = 4) : (fmtD d).map byteC = (fmO d.items).map byteC ++ [[Cell.lit (.int .u8 41)]] := by
  rw [fmtD_eq, if_neg h1, if_neg h2, if_neg h3, if_neg h4]; unfold fmO
  rw [← List.append_assoc, List.map_append]; rfl
theorem fmtD_1 {d : Datum} (h : d.kind = 1) : (fmtD d).map byteC = d.text.data.toList.map (fun b => [Cell.lit (.int .u8 b.toNat)]) := by rw [fmtD_eq, if_pos h]; rfl
theorem fmtD_2 {d : Datum} (h : d.kind = 2) : (fmtD d).map byteC = (Lib.itoa d.number).map (fun b => [Cell.lit (.int .u8 b.toNat)]) := by rw [fmtD_eq, if_neg (by omega), if_pos h]; rfl
theorem fmtD_t {d : Datum} (h : d.kind = 3) (h1 : d.number = 1) : (fmtD d).map byteC = [[Cell.lit (.int .u8 35)], [Cell.lit (.int .u8 116)]] := by rw [fmtD_eq, if_neg (by omega), if_neg (by omega), if_pos h, if_pos h1]; rfl
theorem fmtD_f {d : Datum} (h : d.kind = 3) (h1 : ¬ d.number = 1) : (fmtD d).map byteC = [[Cell.lit (.int .u8 35)], [Cell.lit (.int .u8 102)]] := by rw [fmtD_eq, if_neg (by omega), if_neg (by omega), if_pos h, if_neg h1]; rfl
theorem fmtD_4 {d : Datum} (h4 : d.kind = 4) : (fmtD d).map byteC = [[Cell.lit (.int .u8 34)]] ++ (d.text.data.toList.map (fun b => [Cell.lit (.int .u8 b.toNat)]) ++ [[Cell.lit (.int .u8 34)]]) := by
  rw [fmtD_eq, if_neg (by omega), if_neg (by omega), if_neg (by omega), if_pos h4]
  rw [List.map_append, List.map_append]; rfl
abbrev P_c_iWrite (R : List (List Cell)) (d : Datum) : Ct := ⟨33, [.arr true 1 R], [.one (.ref 0), datumA d], [.dead, .arr true 1 (R ++ (fmtD d).map byteC)], .sv (.one (.ref 1))⟩
def lc_iWrite_sLa (R : List (List Cell)) (d : Datum) : Lp Nat := .mk 66 1 (fun x => [(0, SV.one (AC.ref 1)), (47, ll (List.map datumC d.items)), (48, li (↑(List.map datumC
 d.items).length : Int)), (49, hs x 0)]) (fun x => [Ob.dead, ho x 1]) (fun k => [.s (li (↑k : Int)), .o (Ob.arr true 1 (R ++ List.map byteC (fmO (List.take k d.items))))]) (fun k
 => k ≤ d.items.length ∧ d.items.length ≤ 9223372036854775807 ∧ okD d = true ∧ sizeD d ≤ 1073741824 ∧ R.length + 30 * sizeD d ≤ 70368744177664) (fun k => d.items.length - k) [.mk
 True (.exit 1) (fun x => [(0, SV.one (AC.ref 1))]) (fun x => [Ob.dead, ho x 0]) [.o (Ob.arr true 1 (R ++ List.map byteC (fmO d.items)))]]
theorem Sc_iWrite_sLa (R : List (List Cell)) (d : Datum) (h : okD d = true ∧ sizeD d ≤ 1073741824 ∧ R.length + 30 * sizeD d ≤ 70368744177664) (ih : ∀ (z : Datum), z ∈ d.items → ∀
 (R : List (List Cell)), okD z = true ∧ sizeD z ≤ 1073741824 ∧ R.length + 30 * sizeD z ≤ 70368744177664 → OK (P_c_iWrite R z)) : Lp.Sem Tryd.prog (loopAt Tryd.f33 0) (lc_iWrite_sLa
 R d) := lpOK (fun k => .i ((↑k : Int) < (↑(List.map datumC d.items).length : Int)) (.x (↑k : Int) (List.map datumC d.items) (datumF (d.items.getD k default)) (.i (0 < (↑k : Int))
 (.p (((R ++ List.map byteC (fmO (List.take k d.items))).length + 1) * 1 ≤ 140737488355328) (.d [.own true 1, .rd] (P_c_iWrite (R ++ List.map byteC (fmO (List.take k d.items)) ++
 [[Cell.lit (Value.int IntKind.u8 32)]]) (d.items.getD k default)) (.r ((↑k : Int) + 1) (.g [0, 6] (k + 1) [.s (li ((↑k : Int) + 1)), .o (Ob.arr true 1 (R ++ List.map byteC (fmO
 (List.take k d.items)) ++ [[Cell.lit (Value.int IntKind.u8 32)]] ++ List.map byteC (fmtD (d.items.getD k default))))])))) (.d [.own true 1, .rd] (P_c_iWrite (R ++ List.map byteC
 (fmO (List.take k d.items))) (d.items.getD k default)) (.r ((↑k : Int) + 1) (.g [0, 4] (k + 1) [.s (li ((↑k : Int) + 1)), .o (Ob.arr true 1 (R ++ List.map byteC (fmO (List.take k
 d.items)) ++ List.map byteC (fmtD (d.items.getD k default))))]))))) (.o 0 [0, 1] [.o (Ob.arr true 1 (R ++ List.map byteC (fmO (List.take k d.items))))])) (by
  intro k h; try dsimp only [teasy, nthW, lc_iWrite_sLa] at h ⊢
  have g1 := okD_eq d
  have g2 := sizeD_eq d
  have g3 := @sum_two sizeD d.items k
  have g4 := @fmO_len d k
  have g5 := @fmO_go d.items k
  have g6 := @fmO_on d.items k
  with_reducible repeat' (first | apply And.intro | exact zR | exact ih | (intro; skip) | apply c_iNum | apply ih)
  all_goals (try simp only [std, inj] at *)
  all_goals with_reducible repeat' apply And.intro
  all_goals (try (first | with_reducible apply c_iNum | with_reducible apply ih | (simp only [← List.map_append]; first | with_reducible apply c_iNum | with_reducible apply ih)))
  all_goals (try (first | exact z | grind [getD_mem', snocI, snocS, rowSnoc])))
theorem c_iWrite_s (R : List (List Cell)) (d : Datum) (h : okD d = true ∧ sizeD d ≤ 1073741824 ∧ R.length + 30 * sizeD d ≤ 70368744177664) (ih : ∀ z ∈ d.items, ∀ (R : List (List
 Cell)) (h : okD z = true ∧ sizeD z ≤ 1073741824 ∧ R.length + 30 * sizeD z ≤ 70368744177664), P_c_iWrite R z)  : P_c_iWrite R d := fnOK Tryd.call33 Tryd.func33 (.i (d.kind = 1) (.p
 ((R.length + (List.map (fun b => [Cell.lit (Value.int IntKind.u8 (↑b.toNat : Int))]) d.text.data.toList).length) * 1 ≤ 140737488355328) (.f [2] [Ob.dead, Ob.arr true 1 (R ++
 List.map (fun b => [Cell.lit (Value.int IntKind.u8 (↑b.toNat : Int))]) d.text.data.toList)] (AV.sv (SV.one (AC.ref 1))))) (.i (d.kind = 2) (.d [.rd] (P_c_iNum d.number) (.p
 ((R.length + (List.map (fun b => [Cell.lit (Value.int IntKind.u8 (↑b.toNat : Int))]) (Lib.itoa d.number)).length) * 1 ≤ 140737488355328) (.f [2] [Ob.dead, Ob.arr true 1 (R ++
 List.map (fun b => [Cell.lit (Value.int IntKind.u8 (↑b.toNat : Int))]) (Lib.itoa d.number))] (AV.sv (SV.one (AC.ref 1)))))) (.i (d.kind = 3) (.i (d.number = 1) (.p ((R.length + 2)
 * 1 ≤ 140737488355328) (.f [2] [Ob.dead, Ob.arr true 1 (R ++ [[Cell.lit (Value.int IntKind.u8 35)], [Cell.lit (Value.int IntKind.u8 116)]])] (AV.sv (SV.one (AC.ref 1))))) (.p
 ((R.length + 2) * 1 ≤ 140737488355328) (.f [2] [Ob.dead, Ob.arr true 1 (R ++ [[Cell.lit (Value.int IntKind.u8 35)], [Cell.lit (Value.int IntKind.u8 102)]])] (AV.sv (SV.one (AC.ref
 1)))))) (.i (d.kind = 4) (.p ((R.length + 1) * 1 ≤ 140737488355328) (.p (((R ++ [[Cell.lit (Value.int IntKind.u8 34)]]).length + (List.map (fun b => [Cell.lit (Value.int
 IntKind.u8 (↑b.toNat : Int))]) d.text.data.toList).length) * 1 ≤ 140737488355328) (.p (((R ++ [[Cell.lit (Value.int IntKind.u8 34)]] ++ List.map (fun b => [Cell.lit (Value.int
 IntKind.u8 (↑b.toNat : Int))]) d.text.data.toList).length + 1) * 1 ≤ 140737488355328) (.f [6] [Ob.dead, Ob.arr true 1 (R ++ [[Cell.lit (Value.int IntKind.u8 34)]] ++ List.map (fun
 b => [Cell.lit (Value.int IntKind.u8 (↑b.toNat : Int))]) d.text.data.toList ++ [[Cell.lit (Value.int IntKind.u8 34)]])] (AV.sv (SV.one (AC.ref 1))))))) (.p ((R.length + 1) * 1 ≤
 140737488355328) (.z datumC d.items (.l (lc_iWrite_sLa R d) (Sc_iWrite_sLa R d h ih) [0, 3] [.s (li 0), .o (Ob.arr true 1 (R ++ [[Cell.lit (Value.int IntKind.u8 40)]]))] 0 (.t (.p
 (((R ++ List.map byteC (fmO d.items)).length + 1) * 1 ≤ 140737488355328) (.f [3] [Ob.dead, Ob.arr true 1 (R ++ List.map byteC (fmO d.items) ++ [[Cell.lit (Value.int IntKind.u8
 41)]])] (AV.sv (SV.one (AC.ref 1))))) .q)))))))) (by
  dsimp only [teasy, P_c_iWrite, nthW, lc_iWrite_sLa]
  have g1 := okD_eq d
  have g2 := sizeD_eq d
  have g3 := @fmO_len d d.items.length
  have g4 := fmO_nil
  have g5 := @fmtD_1 d
  have g6 := fmtD_len d
  have g7 := @nod_txt d.kind d.number d.text d.items.length
  have g8 := @fmtD_list d
  have g9 := @fmtD_4 d
  have g10 := @fmtD_2 d
  have g11 := @fmtD_t d
  have g12 := @fmtD_f d
  have g13 := itoa_len9 (n := d.number)
  with_reducible repeat' (first | apply And.intro | exact zR | exact ih | (intro; skip) | apply c_iNum)
  all_goals (try simp only [std, inj] at *)
  all_goals with_reducible repeat' apply And.intro
  all_goals (try (first | with_reducible apply c_iNum | with_reducible apply ih | (simp only [← List.map_append]; first | with_reducible apply c_iNum | with_reducible apply ih)))
  all_goals (try (first | exact z | grind [nodD, snocI, snocS, rowSnoc])))
theorem c_iWrite (d : Datum) : ∀ (R : List (List Cell)) (h : okD d = true ∧ sizeD d ≤ 1073741824 ∧ R.length + 30 * sizeD d ≤ 70368744177664), P_c_iWrite R d := Datum.ind (P := fun d => ∀ (R : List (List Cell)) (h : okD d = true ∧ sizeD d ≤ 1073741824 ∧ R.length + 30 * sizeD d ≤ 70368744177664), P_c_iWrite R d) (fun d ih R h => c_iWrite_s R d h ih) d
abbrev P_c_iFmtD (d : Datum) : Ct := ⟨13, [], [datumA d], [], .sv (ls (mkS (fmX d)))⟩
theorem c_iFmtD (d : Datum)  : P_c_iFmtD d := fnOK Tryd.call13 Tryd.func13 (.c [.rd] (c_iIsDatum d) (.b (!isDat d) (.s (ls (ByteArray.mk #[]))) (.d [.own true 1, .rd] (P_c_iWrite []
 d) (.w (.bytes (fmtD d)) (.p (List.map byteC (fmtD d) = List.map byteC (fmtD d)) (.s (ls (ByteArray.mk (fmtD d).toArray)))))))) (by
  dsimp only [teasy, P_c_iFmtD]
  have g6 := fmtD_len d
  with_reducible repeat' (first | apply And.intro | exact zR | (intro; skip) | apply c_iWrite)
  all_goals (try simp only [std, inj] at *)
  all_goals with_reducible repeat' apply And.intro
  all_goals (try (first | with_reducible apply c_iWrite | (simp only [← List.map_append]; first | with_reducible apply c_iWrite)))
  all_goals (try (first | exact z | grind [fmX, isDat, snocI, snocS, rowSnoc])))
def fmM (u : Module) : List UInt8 := if modOK u then fmtD (lstD (modD u)) else []
theorem modOK_dat {u : Module} (h : modOK u = true) : isDat (lstD (modD u)) = true ∧ okD (lstD (modD u)) = true ∧ sizeD (lstD (modD u)) ≤ 600 := by
  simp only [modOK, Bool.and_eq_true] at h
  refine ⟨h.2, ?_⟩
  have := h.2
  simp only [isDat, Bool.and_eq_true, decide_eq_true_eq] at this
  exact ⟨this.2, this.1.1⟩
abbrev P_c_iFmtM (u : Module) : Ct := ⟨5, [], [moduleA u], [], .sv (ls (mkS (fmM u)))⟩
theorem c_iFmtM (u : Module) (h : wM u ≤ 1048576)  : P_c_iFmtM u := fnOK Tryd.call5 Tryd.func5 (.d [.rd] (P_c_iIsModule u) (.b (!modOK u) (.s (ls (ByteArray.mk #[]))) (.d [.rd]
 (P_c_iModD u) (.c [.rd] (c_iFmtD (Datum.mk 0 0 (mkS []) (modD u))) (.s (ls (mkS (fmX (Datum.mk 0 0 (mkS []) (modD u)))))))))) (by
  dsimp only [teasy, P_c_iFmtM]
  have g := @modOK_dat u
  with_reducible repeat' (first | apply And.intro | exact zR | (intro; skip) | apply c_iIsModule | apply c_iModD)
  all_goals (try simp only [std, inj] at *)
  all_goals with_reducible repeat' apply And.intro
  all_goals (try (first | with_reducible apply c_iIsModule | with_reducible apply c_iModD | (simp only [← List.map_append]; first | with_reducible apply c_iIsModule | with_reducible apply c_iModD)))
  all_goals (try (first | exact z | grind [fmM, lstD, fmX, snocI, snocS, rowSnoc])))
end Go.Proofs.YtgeegppaaggcjaaDoor
end
section
namespace Go.Proofs.YtgeegppaaggcjaaDoor
open Go Go.Proofs.YtgeegppaaggcjaaDoor.Ab
set_option linter.unusedVariables false
theorem pas_app (p : Int → Bool) : ∀ (A post : List UInt8), (∀ b ∈ A, p b.toNat = true) → (∀ b r, post = b :: r → p b.toNat = false) → pre p (A ++ post) = A ∧ pas p (A ++ post) = post
  | [], [], _, _ => ⟨rfl, rfl⟩
  | [], b :: r, _, h => by
    have e := h b r rfl
    constructor
    · show (if p b.toNat = true then b :: pre p r else []) = []; rw [if_neg (by rw [e]; decide)]
    · show (if p b.toNat = true then pas p r else b :: r) = b :: r; rw [if_neg (by rw [e]; decide)]
  | a :: A, post, hA, h => by
    have e := hA a List.mem_cons_self
    have ih := pas_app p A post (fun b hb => hA b (List.mem_cons_of_mem _ hb)) h
    constructor
    · show (if p a.toNat = true then a :: pre p (A ++ post) else []) = a :: A; rw [if_pos e, ih.1]
    · show (if p a.toNat = true then pas p (A ++ post) else a :: (A ++ post)) = post; rw [if_pos e, ih.2]
theorem skp_no {b : UInt8} {r : List UInt8} (h : isBl b.toNat = false) : skp (b :: r) = b :: r := by
  show (if isBl b.toNat = true then pas isBl r else b :: r) = _; rw [if_neg (by rw [h]; decide)]
theorem skp_bl {r : List UInt8} : skp (32 :: r) = skp r := by
  show (if isBl (32 : UInt8).toNat = true then pas isBl r else 32 :: r) = _; rw [if_pos (by decide)]
theorem ckD_bl (d : Datum) (r : List UInt8) : ckD d (32 :: r) = ckD d r := by rw [ckD_eq, ckD_eq, skp_bl]
theorem mk_run : ∀ n : Nat, n < 256 → isMk n = true → isRu n = true ∧ isBl n = false ∧ n ≠ 41 ∧ n ≠ 39 ∧ n ≠ 59 ∧ n ≠ 40 ∧ n ≠ 34 := by decide +kernel
theorem run_no : ∀ n : Nat, n < 256 → isRu n = true → isBl n = false ∧ n ≠ 41 ∧ n ≠ 39 ∧ n ≠ 59 ∧ n ≠ 40 ∧ n ≠ 34 := by decide +kernel
def stops (post : List UInt8) : Prop := ∀ b r, post = b :: r → isRu b.toNat = false
theorem ckD_atom {d : Datum} {A post : List UInt8} (hA : ∀ b ∈ A, isRu b.toNat = true) (hn : A ≠ []) (ha : atomO (mkS A) = some d) (hp : stops post) : ckD d (A ++ post) = some post := by
  have h1 := pas_app isRu A post hA hp
  cases A with
  | nil => exact absurd rfl hn
  | cons a A =>
    have h2 := run_no a.toNat a.toNat_lt (hA a List.mem_cons_self)
    have hs : skp (a :: A ++ post) = a :: A ++ post := skp_no h2.1
    have hb : by0 (a :: A ++ post) = (a.toNat : Int) := rfl
    rw [ckD_eq, hs, hb, if_neg, if_neg (by omega), if_neg (by omega), h1.1, h1.2, if_pos ha]
    simp only [not_or]
    exact ⟨by simp, by omega, by omega, by omega⟩
theorem decFrom_snoc : ∀ (l : List UInt8) (acc : Nat) (b : UInt8), Lib.decFrom acc (l ++ [b]) = (Lib.decFrom acc l).bind fun m => (Lib.digitVal b).map fun e => m * 10 + e
  | [], acc, b => by
    simp only [List.nil_append, Lib.decFrom, Option.bind_some]
    cases Lib.digitVal b <;> rfl
  | a :: l, acc, b => by
    simp only [List.cons_append, Lib.decFrom]
    cases Lib.digitVal a with
    | none => rfl
    | some e => exact decFrom_snoc l _ b
theorem digitVal_dig {d : Nat} (h : d < 10) : Lib.digitVal (UInt8.ofNat (48 + d)) = some d := by
  unfold Lib.digitVal
  have := dig_one h
  rw [this, if_pos (by omega)]; congr 1; omega
theorem decFrom_dec (u : Nat) : Lib.decFrom 0 (Lib.decDigits u) = some u := by
  induction u using Nat.strongRecOn with
  | _ u ih =>
    by_cases hu : u < 10
    · rw [dec_one hu]; simp only [Lib.decFrom, digitVal_dig hu]; simp
    · rw [dec_more hu, decFrom_snoc, ih (u / 10) (by omega), Option.bind_some, digitVal_dig (by omega), Option.map_some]; congr 1; omega
theorem num_itoa {n : Int} (h : -999999999 ≤ n ∧ n ≤ 999999999) : isNum (mkS (Lib.itoa n)) = true ∧ numV (mkS (Lib.itoa n)) = n := by
  have ht : tx (mkS (Lib.itoa n)) = Lib.itoa n := tx_mkS _
  have hsz : (mkS (Lib.itoa n)).size = (Lib.itoa n).length := congrArg List.length ht
  have hl := dec_len 8 n.natAbs (by have e : (10 : Nat) ^ (8 + 1) = 1000000000 := by decide
                                    omega)
  have hne := dec_ne n.natAbs
  have hdig := dec_dig n.natAbs
  have hpos : 0 < (Lib.decDigits n.natAbs).length := List.length_pos_iff.2 hne
  have key : atN (mkS (Lib.itoa n)) = (if n < 0 then 1 else 0) ∧ (Lib.itoa n).drop (if n < 0 then 1 else 0) = Lib.decDigits n.natAbs ∧ (Lib.itoa n).length = (if n < 0 then 1 else 0) + (Lib.decDigits n.natAbs).length := by
    by_cases hn : n < 0
    · rw [if_pos hn]
      have e := itoa_neg hn
      refine ⟨?_, by rw [e]; rfl, by rw [e, List.length_cons]; omega⟩
      unfold atN; rw [hsz, show (mkS (Lib.itoa n)).data.toList = Lib.itoa n from ht, e]
      rw [if_pos]; exact ⟨by simp only [List.length_cons]; omega, rfl⟩
    · rw [if_neg hn]
      have e := itoa_pos (n := n) (by omega)
      refine ⟨?_, by rw [e]; rfl, by rw [e]; omega⟩
      unfold atN; rw [hsz, show (mkS (Lib.itoa n)).data.toList = Lib.itoa n from ht, e]
      rw [if_neg]
      rintro ⟨_, h2⟩
      cases hd : Lib.decDigits n.natAbs with
      | nil => exact hne hd
      | cons b r => rw [hd] at h2; have := hdig b (by rw [hd]; exact List.mem_cons_self); simp only [List.getD_cons_zero] at h2; omega
  have hd : digO (mkS (Lib.itoa n)) = some n.natAbs := by
    unfold digO; rw [key.1, ht, key.2.1]; exact decFrom_dec _
  have hm : magN (mkS (Lib.itoa n)) = n.natAbs := by unfold magN; rw [hd]; rfl
  have hs : sgN (mkS (Lib.itoa n)) = n := by
    unfold sgN; rw [key.1, hm]
    by_cases hn : n < 0
    · rw [if_pos (by rw [if_pos hn])]; omega
    · rw [if_neg (by rw [if_neg hn]; decide)]; omega
  have hnum : isNum (mkS (Lib.itoa n)) = true := by
    unfold isNum shpN digB
    rw [hd, hs, ht, hsz, key.1, key.2.2]
    simp only [Option.isSome_some, Bool.and_true, decide_true, Bool.and_eq_true, decide_eq_true_eq]
    split <;> omega
  exact ⟨hnum, by unfold numV; rw [if_pos hnum, hs]⟩
theorem isSym_no {t : ByteArray} (h : isSym t = true) : isNum t = false ∧ tx t ≠ [35, 116] ∧ tx t ≠ [35, 102] ∧ tx t ≠ [] ∧ ∀ b ∈ tx t, isRu b.toNat = true := by
  have hl : (tx t).length = t.size := rfl
  simp only [isSym, Bool.and_eq_true, decide_eq_true_eq, Bool.not_eq_true', List.all_eq_true] at h
  obtain ⟨⟨⟨h1, h2⟩, h3⟩, h4⟩ := h
  have h5 : ∀ b ∈ tx t, isRu b.toNat = true := fun b hb => (mk_run b.toNat b.toNat_lt (h4 b hb)).1
  have hne : tx t ≠ [] := fun e => by rw [e] at hl; simp at hl; omega
  have h35 : ∀ r, tx t ≠ 35 :: r := fun r e => by
    have := h4 35 (by show (35 : UInt8) ∈ tx t; rw [e]; exact List.mem_cons_self)
    exact absurd this (by decide)
  refine ⟨?_, h35 _, h35 _, hne, h5⟩
  cases hn : isNum t with
  | false => rfl
  | true =>
    exfalso
    have hr := num_range hn
    have e : tx t = Lib.itoa (sgN t) := hr.2.2.2.symm
    by_cases hs : sgN t < 0
    · rw [itoa_neg hs] at e
      cases hd : Lib.decDigits (sgN t).natAbs with
      | nil => exact dec_ne _ hd
      | cons b r =>
        rw [hd] at e
        have hb := dec_dig (sgN t).natAbs b (by rw [hd]; exact List.mem_cons_self)
        have e0 : t.data.toList.getD 0 0 = 45 := by show (tx t).getD 0 0 = 45; rw [e]; rfl
        have e1 : t.data.toList.getD 1 0 = b := by show (tx t).getD 1 0 = b; rw [e]; rfl
        rw [e0, e1] at h3
        rw [e] at hl; simp only [List.length_cons] at hl
        have : isDig (b.toNat : Int) = true := by simp only [isDig, decide_eq_true_eq]; omega
        rw [this] at h3
        simp at h3
        omega
    · rw [itoa_pos (by omega)] at e
      cases hd : Lib.decDigits (sgN t).natAbs with
      | nil => exact dec_ne _ hd
      | cons b r =>
        rw [hd] at e
        have hb := dec_dig (sgN t).natAbs b (by rw [hd]; exact List.mem_cons_self)
        have e0 : t.data.toList.getD 0 0 = b := by show (tx t).getD 0 0 = b; rw [e]; rfl
        rw [e0] at h2
        have : isDig (b.toNat : Int) = true := by simp only [isDig, decide_eq_true_eq]; omega
        rw [this] at h2; cases h2
theorem isStr_no {t : ByteArray} (h : isStr t = true) : ∀ b ∈ tx t, noQ b.toNat = true := by
  simp only [isStr, Bool.and_eq_true, List.all_eq_true] at h
  intro b hb
  have := h.2 b hb
  simp only [isStB, decide_eq_true_eq] at this
  simp only [noQ, Bool.not_eq_true', decide_eq_false_iff_not]
  omega
theorem itoa_run {n : Int} : (∀ b ∈ Lib.itoa n, isRu b.toNat = true) ∧ Lib.itoa n ≠ [] := by
  have hd : ∀ b ∈ Lib.decDigits n.natAbs, isRu b.toNat = true := fun b hb => by
    have := dec_dig n.natAbs b hb
    have key : ∀ k : Nat, k < 256 → 48 ≤ k ∧ k ≤ 57 → isRu k = true := by decide +kernel
    exact key b.toNat b.toNat_lt this
  by_cases hn : n < 0
  · rw [itoa_neg hn]
    refine ⟨fun b hb => ?_, by simp⟩
    rcases List.mem_cons.1 hb with rfl | hb
    · decide
    · exact hd b hb
  · rw [itoa_pos (by omega)]; exact ⟨hd, dec_ne _⟩
theorem stops_cons {b : UInt8} {r : List UInt8} (h : isRu b.toNat = false) : stops (b :: r) := fun c s e => by cases e; exact h
theorem ckD_fmt : ∀ d : Datum, okD d = true → ∀ post, stops post → ckD d (fmtD d ++ post) = some post := by
  refine Datum.ind fun d ih hd post hp => ?_
  rw [okD_eq, Bool.and_eq_true, List.all_eq_true] at hd
  have h4 := hd.2
  simp only [nodD, Bool.or_eq_true, decide_eq_true_eq] at h4
  have hi0 : (d.items.length : Int) = 0 → d.items = [] := fun e => List.length_eq_zero_iff.1 (by omega)
  have tn : d.text.data.toList = [] → d.text = mkS [] := fun e => by rw [← mkS_tx d.text]; show mkS d.text.data.toList = _; rw [e]
  rw [fmtD_eq]
  rcases h4 with (((h | h) | h) | h) | h
  · -- a list
    rw [if_neg (by omega), if_neg (by omega), if_neg (by omega), if_neg (by omega)]
    have hs : skp ([40] ++ (fmJ d.items ++ [41]) ++ post) = 40 :: (fmJ d.items ++ (41 :: post)) := by
      have : [40] ++ (fmJ d.items ++ [41]) ++ post = 40 :: (fmJ d.items ++ (41 :: post)) := by simp
      rw [this]; exact skp_no (by decide)
    have hrest : ∀ (L : List Datum), (∀ x ∈ L, okD x = true ∧ ∀ post, stops post → ckD x (fmtD x ++ post) = some post) → ckP L (((L.map fmS).flatMap fun y => [32] ++ tx y) ++ (41 :: post)) = some (41 :: post) := by
      intro L; induction L with
      | nil => intro _; rfl
      | cons x r ihr =>
        intro hL
        have hx := hL x List.mem_cons_self
        have e : (((x :: r).map fmS).flatMap fun y => [32] ++ tx y) ++ (41 :: post) = 32 :: (fmtD x ++ (((r.map fmS).flatMap fun y => [32] ++ tx y) ++ (41 :: post))) := by
          rw [List.map_cons, List.flatMap_cons]; simp [show tx (fmS x) = fmtD x from tx_mkS _]
        rw [e, ckP, ckD_bl, hx.2 _ ?_, Option.bind_some]
        · exact ihr fun y hy => hL y (List.mem_cons_of_mem _ hy)
        · cases r with
          | nil => exact stops_cons (by decide)
          | cons y r => exact stops_cons (b := 32) (by decide)
    have hall : ckP d.items (fmJ d.items ++ (41 :: post)) = some (41 :: post) := by
      have hL : ∀ x ∈ d.items, okD x = true ∧ ∀ post, stops post → ckD x (fmtD x ++ post) = some post := fun x hx => ⟨hd.1 x hx, ih x hx (hd.1 x hx)⟩
      revert hL; generalize d.items = L; intro hL
      cases L with
      | nil => rfl
      | cons x r =>
        have hx := hL x List.mem_cons_self
        have e : fmJ (x :: r) ++ (41 :: post) = fmtD x ++ (((r.map fmS).flatMap fun y => [32] ++ tx y) ++ (41 :: post)) := by
          show jn [32] ((x :: r).map fmS) ++ _ = _
          rw [List.map_cons, jn, List.append_assoc]; rw [show tx (fmS x) = fmtD x from tx_mkS _]
        rw [e, ckP, hx.2 _ ?_, Option.bind_some]
        · exact hrest r fun y hy => hL y (List.mem_cons_of_mem _ hy)
        · cases r with
          | nil => exact stops_cons (by decide)
          | cons y r => exact stops_cons (b := 32) (by decide)
    have hb : by0 (40 :: (fmJ d.items ++ (41 :: post))) = 40 := rfl
    rw [ckD_eq, hs, hb, if_neg (by simp), if_pos rfl, if_pos ⟨h.1, h.2.1, tn h.2.2⟩]
    show (ckP d.items (fmJ d.items ++ (41 :: post))).bind clo = some post
    rw [hall, Option.bind_some]
    unfold clo
    rw [show skp (41 :: post) = 41 :: post from skp_no (by decide), if_pos ⟨by simp, rfl⟩]; rfl
  · rw [if_pos h.1]
    have hn := isSym_no h.2.2.1
    refine ckD_atom hn.2.2.2.2 hn.2.2.2.1 ?_ hp
    rw [mkS_tx]
    unfold atomO
    rw [if_neg (by rw [hn.1]; decide), if_neg hn.2.1, if_neg hn.2.2.1, if_pos h.2.2.1]
    have := hi0 h.2.2.2
    cases d; simp_all
  · rw [if_neg (by omega), if_pos h.1]
    have hn := num_itoa (n := d.number) ⟨h.2.1, h.2.2.1⟩
    refine ckD_atom itoa_run.1 itoa_run.2 ?_ hp
    unfold atomO
    rw [if_pos hn.1, hn.2]
    have h1 := hi0 h.2.2.2.2
    have h2 := tn h.2.2.2.1
    cases d; simp_all
  · rw [if_neg (by omega), if_neg (by omega), if_pos h.1]
    have h1 := hi0 h.2.2.2.2
    have h2 := tn h.2.2.2.1
    split
    · rename_i e
      refine ckD_atom (by decide) (by decide) ?_ hp
      have : atomO (mkS [35, 116]) = some ⟨3, 1, mkS [], []⟩ := by decide +kernel
      rw [this]; cases d; simp_all
    · rename_i e
      refine ckD_atom (by decide) (by decide) ?_ hp
      have : atomO (mkS [35, 102]) = some ⟨3, 0, mkS [], []⟩ := by decide +kernel
      have e0 : d.number = 0 := by omega
      rw [this]; cases d; simp_all
  · rw [if_neg (by omega), if_neg (by omega), if_neg (by omega), if_pos h.1]
    have hn := isStr_no h.2.2.1
    have hs : skp ([34] ++ (tx d.text ++ [34]) ++ post) = 34 :: (tx d.text ++ (34 :: post)) := by
      have : [34] ++ (tx d.text ++ [34]) ++ post = 34 :: (tx d.text ++ (34 :: post)) := by simp
      rw [this]; exact skp_no (by decide)
    have hb : by0 (34 :: (tx d.text ++ (34 :: post))) = 34 := rfl
    have ha := pas_app noQ (tx d.text) (34 :: post) hn fun b r e => by cases e; decide
    rw [ckD_eq, hs, hb, if_neg (by simp), if_neg (by decide), if_pos rfl]
    have e1 : (34 :: (tx d.text ++ (34 :: post))).drop 1 = tx d.text ++ (34 :: post) := rfl
    rw [e1, ha.1, ha.2, if_pos ⟨h.1, h.2.1, (mkS_tx d.text).symm, hi0 h.2.2.2, h.2.2.1, by simp⟩]; rfl
theorem rds_fmt {d : Datum} (h : isDat d = true) (hl : (fmtD d).length ≤ 15000) : rdsB [d] (mkS (fmtD d)) = true := by
  have h1 := h
  simp only [isDat, Bool.and_eq_true, decide_eq_true_eq] at h1
  have h2 := ckD_fmt d h1.2 [] (fun b r e => by cases e)
  rw [List.append_nil] at h2
  refine rdsB_of (q := []) ?_ rfl (by simp [h]) (by simp only [sumBy]; omega) ?_
  · show ckP [d] (mkS (fmtD d)).data.toList = some []
    rw [tx_mkS, ckP, h2, Option.bind_some]; rfl
  · show (mkS (fmtD d)).data.toList.length ≤ 15000
    rw [tx_mkS]; exact hl
end Go.Proofs.YtgeegppaaggcjaaDoor
end
section
namespace Go.Proofs.YtgeegppaaggcjaaDoor
open Go Go.Proofs.YtgeegppaaggcjaaDoor.Ab
set_option linter.unusedVariables false
set_option linter.unusedSimpArgs false
set_option maxHeartbeats 4000000
def txs (d : Datum) : List ByteArray := d.items.map Datum.text
theorem txs_snoc (d : Datum) {k : Nat} (h : k < d.items.length) : (d.items.take (k + 1)).map Datum.text = (d.items.take k).map Datum.text ++ [(d.items.getD k default).text] := by
  rw [take_get h]; simp
def parM (d : Datum) : Module := ⟨(d.items.getD 1 default).text, txs (d.items.getD 2 default), txs (d.items.getD 3 default), d.items.drop 4⟩
def parB (d : Datum) : Bool := isDat d && decide (4 ≤ (d.items.length : Int)) && modOK (parM d) && decide (lstD (modD (parM d)) = d)
def parR (d : Datum) : Module := if parB d = true then parM d else ⟨mkS [], [], [], []⟩
theorem txs_w (d : Datum) : wS (txs d) ≤ wD d := by
  have h : ∀ L : List Datum, sumBy ByteArray.size (L.map Datum.text) ≤ sumBy wD L := by
    intro L
    induction L with
    | nil => exact Nat.le_refl _
    | cons x r ih => have := wD_eq x; simp only [List.map_cons, sumBy]; omega
  have h1 := h d.items
  have h2 := wD_eq d
  unfold wS txs; rw [List.length_map]; omega
theorem parM_w {d : Datum} (h : 4 ≤ d.items.length) : wM (parM d) ≤ wD d := by
  have h1 := @sumBy_drop _ _ wD d.items 0 (by omega)
  have h2 := @sumBy_drop _ _ wD d.items 1 (by omega)
  have h3 := @sumBy_drop _ _ wD d.items 2 (by omega)
  have h4 := @sumBy_drop _ _ wD d.items 3 (by omega)
  rw [List.drop_zero] at h1
  simp only [Nat.zero_add, Nat.reduceAdd] at h1 h2 h3 h4
  have h5 := txs_w (d.items.getD 2 default)
  have h6 := txs_w (d.items.getD 3 default)
  have h7 := wD_eq (d.items.getD 1 default)
  have h8 := wD_eq d
  have h9 : (d.items.drop 4).length = d.items.length - 4 := List.length_drop
  rw [wM_eq]; simp only [parM]; omega
def symB (d : Datum) : Bool := decide (d.kind = 0) && d.items.all fun x => decide (x.kind = 1)
def symT (d : Datum) : List ByteArray := if symB d = true then txs d else []
theorem symB_stop {d : Datum} {k : Nat} (h : k < d.items.length) (e : ¬ (d.items.getD k default).kind = 1) : symB d = false := by
  unfold symB; rw [Bool.and_eq_false_iff]; right
  rw [List.all_eq_false]; exact ⟨_, getD_mem' h, by simpa using e⟩
theorem symB_all {d : Datum} (h0 : d.kind = 0) (h : (d.items.take d.items.length).all (fun x => decide (x.kind = 1)) = true) : symB d = true := by
  rw [List.take_length] at h
  unfold symB; rw [h, h0]; rfl
abbrev P_c_iSymsIn (d : Datum) : Ct := ⟨24, [], [datumA d], [.arr true 1 ((symT d).map strC)], .tup [.one (.ref 0), lb (symB d)]⟩
def lc_iSymsInLa (d : Datum) : Lp Nat := .mk 27 0 (fun x => [(4, SV.one (AC.ref 0)), (11, ll (List.map datumC d.items)), (12, li (↑(List.map datumC d.items).length : Int)), (13, hs
 x 0)]) (fun x => [ho x 1]) (fun k => [.s (li (↑k : Int)), .o (Ob.arr true 1 (List.map strC (List.map Datum.text (List.take k d.items))))]) (fun k => k ≤ d.items.length ∧
 d.items.length ≤ 9223372036854775807 ∧ d.kind = 0 ∧ ((List.take k d.items).all fun x => decide (x.kind = 1)) = true) (fun k => d.items.length - k) [.mk (symB d = true) (.exit 0)
 (fun x => [(4, SV.one (AC.ref 0))]) (fun x => [ho x 0]) [.o (Ob.arr true 1 (List.map strC (txs d)))], .mk (symB d = false) .ret (fun x => [(2, hs x 0), (3, hs x 1)]) (fun x => [])
 [.s (SV.one (AC.val (Cell.lit (Value.slice none 0 0)))), .s (lb false)]]
theorem Sc_iSymsInLa (d : Datum) (h : wD d ≤ 1048576) : Lp.Sem Tryd.prog (loopAt Tryd.f24 0) (lc_iSymsInLa d) := lpOK (fun k => .i ((↑k : Int) < (↑(List.map datumC d.items).length
 : Int)) (.x (↑k : Int) (List.map datumC d.items) (datumF (d.items.getD k default)) (.i ((d.items.getD k default).kind ≠ 1) (.o 1 [] [.s (SV.one (AC.val (Cell.lit (Value.slice none
 0 0)))), .s (lb false)]) (.p (((List.map strC (List.map Datum.text (List.take k d.items))).length + 1) * 16 ≤ 140737488355328) (.r ((↑k : Int) + 1) (.g [3] (k + 1) [.s (li ((↑k :
 Int) + 1)), .o (Ob.arr true 1 (List.map strC (List.map Datum.text (List.take k d.items)) ++ [[cS (d.items.getD k default).text]]))]))))) (.o 0 [0] [.o (Ob.arr true 1 (List.map
 strC (List.map Datum.text (List.take k d.items))))])) (by
  intro k h; try dsimp only [teasy, nthW, lc_iSymsInLa] at h ⊢
  have g1 := wD_eq d
  have g2 := @txs_snoc d k
  have g3 := @symB_stop d k
  have g4 := @symB_all d
  have g5 : d.items.length ≤ k → d.items.take k = d.items := fun h => List.take_of_length_le h
  have g6 : txs d = d.items.map Datum.text := rfl
  with_reducible repeat' (first | apply And.intro | exact zR | (intro; skip))
  all_goals (try simp only [std, inj] at *)
  all_goals with_reducible repeat' apply And.intro
  all_goals (try (first | exact z | grind [take_get, snocI, snocS, rowSnoc])))
theorem c_iSymsIn (d : Datum) (h : wD d ≤ 1048576)  : P_c_iSymsIn d := fnOK Tryd.call24 Tryd.func24 (.i (d.kind ≠ 0) (.w (.ghost (.nilreg 2 true 1)) (.f [1] [Ob.arr true 1 []]
 (AV.tup [SV.one (AC.ref 0), lb false]))) (.z datumC d.items (.w (.ghost (.nilreg 4 true 1)) (.l (lc_iSymsInLa d) (Sc_iSymsInLa d h) [1] [.s (li 0), .o (Ob.arr true 1 [])] 0 (.t
 (.f [0] [Ob.arr true 1 (List.map strC (txs d))] (AV.tup [SV.one (AC.ref 0), lb true])) (.t (.w (.ghost (.nilreg 2 true 1)) (.f [0] [Ob.arr true 1 []] (AV.tup [SV.one (AC.ref 0),
 lb false]))) .q)))))) (by
  dsimp only [teasy, P_c_iSymsIn, nthW, lc_iSymsInLa]
  have g1 : symB d = true → symT d = txs d := fun h => by unfold symT; rw [if_pos h]
  have g2 : symB d = false → symT d = [] := fun h => by unfold symT; rw [if_neg (by simp [h])]
  have g3 : ¬ d.kind = 0 → symB d = false := fun h => by unfold symB; simp [h]
  have g4 : (d.items.take 0).map Datum.text = [] := rfl
  with_reducible repeat' (first | apply And.intro | exact zR | (intro; skip))
  all_goals (try simp only [std, inj] at *)
  all_goals with_reducible repeat' apply And.intro
  all_goals (try (first | exact z | grind [snocI, snocS, rowSnoc])))
def parI (d : Datum) : Bool := isDat d && decide (d.kind = 0) && decide (4 ≤ (d.items.length : Int)) && decide ((d.items.getD 0 default).kind = 1) && decide ((d.items.getD 0 default).text = moduleS) && decide ((d.items.getD 1 default).kind = 1) && symB (d.items.getD 2 default) && symB (d.items.getD 3 default) && modOK (parM d)
theorem okD_at {d : Datum} (h : okD d = true) {j : Nat} (hj : j < d.items.length) : okD (d.items.getD j default) = true := by
  rw [okD_eq, Bool.and_eq_true, List.all_eq_true] at h; exact h.1 _ (getD_mem' hj)
theorem okD_sym {x : Datum} (h : okD x = true) (hk : x.kind = 1) : x = symD x.text := by
  rw [okD_eq] at h
  simp only [nodD, Bool.and_eq_true, Bool.or_eq_true, decide_eq_true_eq] at h
  have h2 : x.number = 0 ∧ x.items.length = 0 := by omega
  rw [datumExt]; exact ⟨hk, h2.1, rfl, List.length_eq_zero_iff.1 h2.2⟩
theorem okD_lst {x : Datum} (h : okD x = true) (hk : x.kind = 0) : x.number = 0 ∧ x.text = mkS [] := by
  rw [okD_eq] at h
  simp only [nodD, Bool.and_eq_true, Bool.or_eq_true, decide_eq_true_eq] at h
  have h2 : x.number = 0 ∧ x.text.data.toList = [] := by
    rcases h.2 with (((h | h) | h) | h) | h
    · exact ⟨h.2.1, h.2.2⟩
    · omega
    · omega
    · omega
    · omega
  exact ⟨h2.1, (bytes_ext _ _).1 h2.2⟩
theorem okD_syms {x : Datum} (h : okD x = true) (hs : symB x = true) : x = lstD ((txs x).map symD) := by
  simp only [symB, Bool.and_eq_true, decide_eq_true_eq, List.all_eq_true] at hs
  have h1 := okD_lst h hs.1
  have h2 : ∀ y ∈ x.items, symD y.text = y := fun y hy => (okD_sym (by rw [okD_eq, Bool.and_eq_true, List.all_eq_true] at h; exact h.1 y hy) (hs.2 y hy)).symm
  have h3 : (txs x).map symD = x.items := by
    unfold txs; rw [List.map_map]
    exact (List.map_congr_left h2).trans (List.map_id' _)
  rw [datumExt]; exact ⟨hs.1, h1.1, h1.2, h3.symm⟩
theorem drop4 {L : List Datum} (h : 4 ≤ L.length) : L = [L.getD 0 default, L.getD 1 default, L.getD 2 default, L.getD 3 default] ++ L.drop 4 := by
  have h0 := drop_get (L := L) (k := 0) (by omega)
  have h1 := drop_get (L := L) (k := 1) (by omega)
  have h2 := drop_get (L := L) (k := 2) (by omega)
  have h3 := drop_get (L := L) (k := 3) (by omega)
  rw [List.drop_zero] at h0
  simp only [Nat.zero_add, Nat.reduceAdd] at h0 h1 h2 h3
  calc L = L.getD 0 default :: L.drop 1 := h0
    _ = _ := by rw [h1, h2, h3]; rfl
theorem par_same (d : Datum) : parI d = parB d := by
  rw [Bool.eq_iff_iff]
  simp only [parI, parB, Bool.and_eq_true, decide_eq_true_eq]
  constructor
  · rintro ⟨⟨⟨⟨⟨⟨⟨⟨h1, h2⟩, h3⟩, h4⟩, h5⟩, h6⟩, h7⟩, h8⟩, h9⟩
    refine ⟨⟨⟨h1, h3⟩, h9⟩, ?_⟩
    have hok : okD d = true := by simp only [isDat, Bool.and_eq_true] at h1; exact h1.2
    have hl : 4 ≤ d.items.length := by omega
    have a := okD_lst hok h2
    have b0 := okD_sym (okD_at hok (by omega : 0 < d.items.length)) h4
    have b1 := okD_sym (okD_at hok (by omega : 1 < d.items.length)) h6
    have b2 := okD_syms (okD_at hok (by omega : 2 < d.items.length)) h7
    have b3 := okD_syms (okD_at hok (by omega : 3 < d.items.length)) h8
    rw [h5] at b0
    rw [datumExt]
    refine ⟨h2.symm, a.1.symm, a.2.symm, ?_⟩
    show modD (parM d) = d.items
    conv => rhs; rw [drop4 hl]
    simp only [modD, parM]
    rw [← b0, ← b1, ← b2, ← b3]
  · rintro ⟨⟨⟨h1, h3⟩, h9⟩, h10⟩
    have hl : 4 ≤ d.items.length := by omega
    have e : modD (parM d) = d.items := (datumExt _ _).1 h10 |>.2.2.2
    have e0 : d.items.getD 0 default = symD moduleS := by rw [← e]; rfl
    have e1 : d.items.getD 1 default = symD (parM d).name := by rw [← e]; rfl
    have e2 : d.items.getD 2 default = lstD ((parM d).imports.map symD) := by rw [← e]; rfl
    have e3 : d.items.getD 3 default = lstD ((parM d).exports.map symD) := by rw [← e]; rfl
    have hs : ∀ L : List ByteArray, symB (lstD (L.map symD)) = true := fun L => by
      simp only [symB, lstD, Bool.and_eq_true, List.all_eq_true, decide_eq_true_eq]
      refine ⟨trivial, fun x hx => ?_⟩
      obtain ⟨y, _, rfl⟩ := List.mem_map.1 hx; rfl
    refine ⟨⟨⟨⟨⟨⟨⟨⟨h1, ?_⟩, h3⟩, ?_⟩, ?_⟩, ?_⟩, ?_⟩, ?_⟩, h9⟩
    · rw [← h10]; rfl
    · rw [e0]; rfl
    · rw [e0]; rfl
    · rw [e1]; rfl
    · rw [e2]; exact hs _
    · rw [e3]; exact hs _
abbrev P_c_iParse (d : Datum) : Ct := ⟨8, [], [datumA d], moduleO (parR d), .tup [moduleR (parR d) 0, lb (parB d)]⟩
theorem c_iParse (d : Datum) (h : wD d ≤ 1048576)  : P_c_iParse d := fnOK Tryd.call8 Tryd.func8 (let v1 := (AV.tup [SV.agg [vS (ByteArray.mk #[]), AC.ref 0, AC.ref 1, AC.ref 2], lb
 false]); let v2 := [Ob.arr true 1 [], Ob.arr true 1 [], Ob.arr true 4 []]; let v7 := (List.map datumC d.items); let v3 := (List.take (v7.length - 4) (List.drop 4 d.items)); let v4
 := (d.items.getD 1 default); let v5 := (d.items.getD 3 default); let v6 := (d.items.getD 2 default); let v8 := [2, 3, 4]; let v9 := (d.items.getD 0 default); .c [.rd] (c_iIsDatum
 d) (.b (!isDat d) (.y true (.y true (.y true (.y true (.y true (.w (.ghost (.nilbox 1 1 true 1)) (.w (.ghost (.nilbox 1 2 true 1)) (.w (.ghost (.nilbox 1 3 true 4)) (.f v8 v2
 v1))))))))) (.i (d.kind ≠ 0) (.y true (.y true (.y true (.y true (.w (.ghost (.nilbox 1 1 true 1)) (.w (.ghost (.nilbox 1 2 true 1)) (.w (.ghost (.nilbox 1 3 true 4)) (.f v8 v2
 v1)))))))) (.z datumC d.items (.i ((↑(List.map datumC d.items).length : Int) < 4) (.y true (.y true (.y true (.w (.ghost (.nilbox 1 1 true 1)) (.w (.ghost (.nilbox 1 2 true 1))
 (.w (.ghost (.nilbox 1 3 true 4)) (.f v8 v2 v1))))))) (.w (.cells (datumF v9)) (.p ((0 : Int) ≤ 0 ∧ v7[0]? = some (datumF v9)) (.i (v9.kind ≠ 1) (.y true (.y true (.w (.ghost
 (.nilbox 1 1 true 1)) (.w (.ghost (.nilbox 1 2 true 1)) (.w (.ghost (.nilbox 1 3 true 4)) (.f v8 v2 v1)))))) (.w (.cells (datumF v9)) (.p ((0 : Int) ≤ 0 ∧ v7[0]? = some (datumF
 v9)) (.i (v9.text.data.toList ≠ [(109 : UInt8), (111 : UInt8), (100 : UInt8), (117 : UInt8), (108 : UInt8), (101 : UInt8)]) (.y true (.w (.ghost (.nilbox 1 1 true 1)) (.w (.ghost
 (.nilbox 1 2 true 1)) (.w (.ghost (.nilbox 1 3 true 4)) (.f v8 v2 v1))))) (.w (.cells (datumF v4)) (.p ((0 : Int) ≤ 1 ∧ v7[1]? = some (datumF v4)) (.i (v4.kind ≠ 1) (.w (.ghost
 (.nilbox 1 1 true 1)) (.w (.ghost (.nilbox 1 2 true 1)) (.w (.ghost (.nilbox 1 3 true 4)) (.f v8 v2 v1)))) (.w (.cells (datumF v6)) (.p ((0 : Int) ≤ 2 ∧ v7[2]? = some (datumF v6))
 (.d [.rd] (P_c_iSymsIn v6) (.w (.cells (datumF v5)) (.p ((0 : Int) ≤ 3 ∧ v7[3]? = some (datumF v5)) (.d [.rd] (P_c_iSymsIn v5) (.w (.draw [(13, [12])]) (.w (.cells (datumF v4))
 (.p ((0 : Int) ≤ 1 ∧ v7[1]? = some (datumF v4)) (.p ((0 : Int) ≤ 4) (.p (4 ≤ v7.length ∧ v7.length ≤ v7.length ∧ ∀ (e : List Cell), e ∈ List.map datumC d.items → e.length = 4) (.u
 [.rd] (P_c_iCopyData v3) (.p (CallOK Tryd.prog 25 [] [ll (List.take (v7.length - 4) (List.drop 4 v7))] [Ob.arr true 4 (List.map datumC v3)] (AV.sv (SV.one (AC.ref 0)))) (.b (!symB
 v6) (.y true (.y true (.w (.ghost (.nilbox 1 1 true 1)) (.w (.ghost (.nilbox 1 2 true 1)) (.w (.ghost (.nilbox 1 3 true 4)) (.f [13, 14, 15] v2 v1)))))) (.b (!symB v5) (.y true
 (.w (.ghost (.nilbox 1 1 true 1)) (.w (.ghost (.nilbox 1 2 true 1)) (.w (.ghost (.nilbox 1 3 true 4)) (.f [13, 14, 15] v2 v1))))) (.d [.rd] (P_c_iIsModule (Module.mk v4.text (symT
 v6) (symT v5) v3)) (.b (!modOK (Module.mk v4.text (symT v6) (symT v5) v3)) (.w (.ghost (.nilbox 1 1 true 1)) (.w (.ghost (.nilbox 1 2 true 1)) (.w (.ghost (.nilbox 1 3 true 4))
 (.f [13, 14, 15] v2 v1)))) (.f v8 [Ob.arr true 1 (List.map strC (symT v6)), Ob.arr true 1 (List.map strC (symT v5)), Ob.arr true 4 (List.map datumC v3)] (AV.tup [SV.agg [vS
 v4.text, AC.ref 0, AC.ref 1, AC.ref 2], lb true]))))))))))))))))))))))))))))))))) (by
  dsimp only [teasy, P_c_iParse]
  have g1 := wD_eq d
  have g2 := @parM_w d
  have e : (d.items.drop 4).take (d.items.length - 4) = d.items.drop 4 := List.take_of_length_le (by rw [List.length_drop]; omega)
  have e2 : ∀ j, j < d.items.length → wD (d.items.getD j default) ≤ wD d := fun j hj => by have := @sumBy_mem _ wD d.items _ (getD_mem' hj); omega
  have p0 := par_same d
  have q1 : parB d = false → (parR d).name = mkS [] ∧ (parR d).imports = [] ∧ (parR d).exports = [] ∧ (parR d).body = [] := fun h => by unfold parR; rw [if_neg (by simp [h])]; exact ⟨rfl, rfl, rfl, rfl⟩
  have q2 : parB d = true → (parR d).name = (d.items.getD 1 default).text ∧ (parR d).imports = txs (d.items.getD 2 default) ∧ (parR d).exports = txs (d.items.getD 3 default) ∧ (parR d).body = d.items.drop 4 := fun h => by unfold parR; rw [if_pos h]; exact ⟨rfl, rfl, rfl, rfl⟩
  have q3 : parB d = (isDat d && decide (d.kind = 0) && decide (4 ≤ (d.items.length : Int)) && decide ((d.items.getD 0 default).kind = 1) && decide ((d.items.getD 0 default).text = moduleS) && decide ((d.items.getD 1 default).kind = 1) && symB (d.items.getD 2 default) && symB (d.items.getD 3 default) && modOK { name := (d.items.getD 1 default).text, imports := txs (d.items.getD 2 default), exports := txs (d.items.getD 3 default), body := d.items.drop 4 }) := by rw [← p0]; rfl
  have q4 : wM { name := (d.items.getD 1 default).text, imports := txs (d.items.getD 2 default), exports := txs (d.items.getD 3 default), body := d.items.drop 4 } = wM (parM d) := rfl
  have q5 : ∀ x : Datum, symB x = true → symT x = txs x := fun x h => by unfold symT; rw [if_pos h]
  have q6 : ∀ x : Datum, symB x = false → symT x = [] := fun x h => by unfold symT; rw [if_neg (by simp [h])]
  have q7 : ∀ t : ByteArray, t.data.toList = [109, 111, 100, 117, 108, 101] ↔ t = moduleS := fun t => bytes_ext t moduleS
  have q8 : (d.items.drop 4).length + sumBy wD (d.items.drop 4) ≤ wD d := by
    have a1 := sumBy_append wD (d.items.take 4) (d.items.drop 4)
    rw [List.take_append_drop] at a1
    have a2 : (d.items.drop 4).length ≤ d.items.length := by rw [List.length_drop]; omega
    omega
  with_reducible repeat' (first | apply And.intro | exact zR | (intro; skip) | apply c_iIsDatum | apply c_iSymsIn | apply c_iCopyData | apply c_iCopyDatum | apply c_iIsModule)
  all_goals (try simp only [std, inj] at *)
  all_goals with_reducible repeat' apply And.intro
  all_goals (try (first | with_reducible apply c_iIsDatum | with_reducible apply c_iSymsIn | with_reducible apply c_iCopyData | with_reducible apply c_iCopyDatum | with_reducible apply c_iIsModule | (simp only [← List.map_append]; first | with_reducible apply c_iIsDatum | with_reducible apply c_iSymsIn | with_reducible apply c_iCopyData | with_reducible apply c_iCopyDatum | with_reducible apply c_iIsModule)))
  all_goals (try (first | exact z | grind [snocI, snocS, rowSnoc]))
  all_goals exact fun x _ h => c_iCopyDatum x h)
end Go.Proofs.YtgeegppaaggcjaaDoor
end
section
namespace Go.Proofs.YtgeegppaaggcjaaDoor
open Go Go.Proofs.YtgeegppaaggcjaaDoor.Ab
set_option linter.unusedVariables false
def numA (n : Int) : Datum := ⟨2, n, mkS [], []⟩
def bodT : List ByteArray := [mkS [40, 100, 101, 102, 105, 110, 101, 32, 97, 32, 51, 41, 32, 40, 100, 101, 102, 105, 110, 101, 32, 40, 105, 110, 99, 32, 120, 41, 32, 40, 43, 32, 120, 32, 49, 41, 41], mkS [40, 100, 101, 102, 105, 110, 101, 45, 115, 121, 110, 116, 97, 120, 32, 116, 119, 105, 99, 101, 32, 40, 115, 121, 110, 116, 97, 120, 45, 114, 117, 108, 101, 115, 32, 40, 41, 32, 40, 40, 95, 32, 101, 41, 32, 40, 98, 101, 103, 105, 110, 32, 101, 32, 101, 41, 41, 41, 41, 32, 40, 100, 101, 102, 105, 110, 101, 32, 99, 111, 117, 110, 116, 32, 48, 41, 32, 40, 100, 101, 102, 105, 110, 101, 32, 40, 98, 117, 109, 112, 41, 32, 40, 115, 101, 116, 33, 32, 99, 111, 117, 110, 116, 32, 40, 43, 32, 99, 111, 117, 110, 116, 32, 49, 41, 41, 41], mkS [40, 100, 101, 102, 105, 110, 101, 32, 115, 101, 99, 114, 101, 116, 32, 53, 41, 32, 40, 100, 101, 102, 105, 110, 101, 45, 115, 121, 110, 116, 97, 120, 32, 112, 101, 101, 107, 32, 40, 115, 121, 110, 116, 97, 120, 45, 114, 117, 108, 101, 115, 32, 40, 41, 32, 40, 40, 95, 41, 32, 115, 101, 99, 114, 101, 116, 41, 41, 41], mkS [40, 100, 105, 115, 112, 108, 97, 121, 32, 49, 41], mkS [40, 100, 101, 102, 105, 110, 101, 45, 115, 121, 110, 116, 97, 120, 32, 100, 101, 102, 32, 40, 115, 121, 110, 116, 97, 120, 45, 114, 117, 108, 101, 115, 32, 40, 41, 32, 40, 40, 95, 32, 110, 32, 101, 41, 32, 40, 100, 101, 102, 105, 110, 101, 32, 110, 32, 101, 41, 41, 41, 41, 32, 40, 100, 101, 102, 32, 98, 32, 52, 41], mkS []]
def useT : List ByteArray := [mkS [], mkS [], mkS [40, 100, 105, 115, 112, 108, 97, 121, 32, 40, 105, 110, 99, 32, 97, 41, 41], mkS [40, 116, 119, 105, 99, 101, 32, 40, 98, 117, 109, 112, 41, 41], mkS [40, 100, 105, 115, 112, 108, 97, 121, 32, 40, 112, 101, 101, 107, 41, 41], mkS [40, 108, 101, 116, 32, 40, 40, 115, 101, 99, 114, 101, 116, 32, 57, 41, 41, 32, 40, 100, 105, 115, 112, 108, 97, 121, 32, 40, 112, 101, 101, 107, 41, 41, 41], mkS [40, 100, 101, 102, 105, 110, 101, 32, 99, 32, 40, 43, 32, 97, 32, 97, 41, 41], mkS [40, 115, 101, 116, 33, 32, 97, 32, 57, 41], mkS [40, 100, 105, 115, 112, 108, 97, 121, 32, 98, 41]]
def mw0 : Datum := symD (mkS [100, 101, 102, 105, 110, 101])
def mw1 : Datum := symD (mkS [97])
def mw2 : Datum := symD (mkS [105, 110, 99])
def mw3 : Datum := symD (mkS [120])
def mw4 : Datum := symD (mkS [43])
def mw5 : Datum := symD (mkS [100, 101, 102, 105, 110, 101, 45, 115, 121, 110, 116, 97, 120])
def mw6 : Datum := symD (mkS [116, 119, 105, 99, 101])
def mw7 : Datum := symD (mkS [115, 121, 110, 116, 97, 120, 45, 114, 117, 108, 101, 115])
def mw8 : Datum := symD (mkS [95])
def mw9 : Datum := symD (mkS [101])
def mw10 : Datum := symD (mkS [98, 101, 103, 105, 110])
def mw11 : Datum := symD (mkS [99, 111, 117, 110, 116])
def mw12 : Datum := symD (mkS [98, 117, 109, 112])
def mw13 : Datum := symD (mkS [115, 101, 116, 33])
def mw14 : Datum := symD (mkS [115, 101, 99, 114, 101, 116])
def mw15 : Datum := symD (mkS [112, 101, 101, 107])
def mw16 : Datum := symD (mkS [100, 105, 115, 112, 108, 97, 121])
def mw17 : Datum := symD (mkS [100, 101, 102])
def mw18 : Datum := symD (mkS [110])
def mw19 : Datum := symD (mkS [98])
def mw20 : Datum := symD (mkS [108, 101, 116])
def mw21 : Datum := symD (mkS [99])
def bodDs : List (List Datum) := [[lstD [mw0, mw1, numA 3], lstD [mw0, lstD [mw2, mw3], lstD [mw4, mw3, numA 1]]],
  [lstD [mw5, mw6, lstD [mw7, lstD [], lstD [lstD [mw8, mw9], lstD [mw10, mw9, mw9]]]], lstD [mw0, mw11, numA 0], lstD [mw0, lstD [mw12], lstD [mw13, mw11, lstD [mw4, mw11, numA 1]]]],
  [lstD [mw0, mw14, numA 5], lstD [mw5, mw15, lstD [mw7, lstD [], lstD [lstD [mw8], mw14]]]],
  [lstD [mw16, numA 1]],
  [lstD [mw5, mw17, lstD [mw7, lstD [], lstD [lstD [mw8, mw18, mw9], lstD [mw0, mw18, mw9]]]], lstD [mw17, mw19, numA 4]],
  []]
def useDs : List (List Datum) := [[],
  [],
  [lstD [mw16, lstD [mw2, mw1]]],
  [lstD [mw6, lstD [mw12]]],
  [lstD [mw16, lstD [mw15]]],
  [lstD [mw20, lstD [lstD [mw14, numA 9]], lstD [mw16, lstD [mw15]]]],
  [lstD [mw0, mw21, lstD [mw4, mw1, mw1]]],
  [lstD [mw13, mw1, numA 9]],
  [lstD [mw16, mw19]]]
def motD (i j : Nat) : List Datum := bodDs.getD i [] ++ useDs.getD j []
theorem mot_rd' : ∀ i, i < 6 → ∀ j, j < 9 → rdsB (motD i j) (mkS ((tx (bodT.getD i default) ++ [32]) ++ tx (useT.getD j default))) = true := by decide +kernel
theorem mot_w : ∀ i, i < 6 → ∀ j, j < 9 → (motD i j).length ≤ 10 ∧ sumBy wD (motD i j) ≤ 1000 ∧ sumBy sizeD (motD i j) ≤ 200 := by decide +kernel
theorem bodT_le : ∀ i, i < 6 → (bodT.getD i default).size ≤ 500 := by decide +kernel
theorem useT_le : ∀ i, i < 9 → (useT.getD i default).size ≤ 500 := by decide +kernel
def namL : List ByteArray := [mkS [112], mkS [113], mkS [115], mkS [116, 111, 111, 108, 111, 110, 103, 110, 97, 109, 101], mkS []]
def expL : List ByteArray := [mkS [97], mkS [105, 110, 99], mkS [112, 101, 101, 107], mkS [108, 101, 116], mkS [49]]
def impL : List ByteArray := [mkS [112], mkS [113], mkS [109, 97, 105, 110], mkS [115]]
theorem namL_le : ∀ i, i < 5 → (namL.getD i default).size ≤ 20 := by decide
theorem expL_le : ∀ i, i < 5 → (expL.getD i default).size ≤ 20 := by decide
theorem impL_le : ∀ i, i < 4 → (impL.getD i default).size ≤ 20 := by decide
def rw2 (c : Cr) : Cr := beC (beC c 5) 5
def rw4 (c : Cr) : Cr := if beX (rw2 c) 2 = 0 then beC (beC (rw2 c) 2) 4 else beC (rw2 c) 2
def rw6 (c : Cr) : Cr := beC (beC (rw4 c) 6) 9
def rwC (c : Cr) : Cr := beC (rw6 c) 4
def rawI (c : Cr) : List ByteArray := if beX (rw2 c) 2 = 0 then [impL.getD (beX (beC (rw2 c) 2) 4).toNat default] else []
def rawE (c : Cr) : List ByteArray := if beX (rw6 c) 4 = 0 then [] else [expL.getD (beX (beC c 5) 5).toNat default]
def rawB (c : Cr) : List Datum := motD (beX (rw4 c) 6).toNat (beX (beC (rw4 c) 6) 9).toNat
def rawM (c : Cr) : Module := ⟨namL.getD (beX c 5).toNat default, rawI c, rawE c, rawB c⟩
theorem beX_nat (c : Cr) {n : Int} (hn : 0 < n) : (beX c n).toNat < n.toNat := by have := beX_le c hn; omega
theorem rawM_le (c : Cr) : wM (rawM c) ≤ 5000 ∧ sizeD (lstD (modD (rawM c))) ≤ 300 := by
  have h1 := namL_le _ (beX_nat c (n := 5) (by decide))
  have h2 := expL_le _ (beX_nat (beC c 5) (n := 5) (by decide))
  have h3 := impL_le _ (beX_nat (beC (rw2 c) 2) (n := 4) (by decide))
  have h4 := mot_w _ (beX_nat (rw4 c) (n := 6) (by decide)) _ (beX_nat (beC (rw4 c) 6) (n := 9) (by decide))
  have h5 : (rawI c).length ≤ 1 ∧ sumBy ByteArray.size (rawI c) ≤ 20 := by
    unfold rawI; split
    · simp only [List.length_cons, List.length_nil, sumBy]; omega
    · simp only [List.length_nil, sumBy]; omega
  have h6 : (rawE c).length ≤ 1 ∧ sumBy ByteArray.size (rawE c) ≤ 20 := by
    unfold rawE; split
    · simp only [List.length_nil, sumBy]; omega
    · simp only [List.length_cons, List.length_nil, sumBy]; omega
  have hs : ∀ L : List ByteArray, sizeD (lstD (L.map symD)) = 1 + L.length := by
    intro L; rw [sizeD_eq]
    have : sumBy sizeD (L.map symD) = L.length := by
      induction L with
      | nil => rfl
      | cons x r ih => simp only [List.map_cons, sumBy, ih, List.length_cons]; rw [sizeD_eq]; simp only [symD, sumBy]; omega
    simp only [lstD, this]; omega
  have e0 : ∀ s, sizeD (symD s) = 1 := fun s => by rw [sizeD_eq]; rfl
  have eb : sumBy sizeD (rawB c) ≤ 200 := h4.2.2
  have ew : sumBy wD (rawB c) ≤ 1000 := h4.2.1
  have el : (rawB c).length ≤ 10 := h4.1
  constructor
  · rw [wM_eq]
    show (namL.getD (beX c 5).toNat default).size + wS (rawI c) + wS (rawE c) + ((rawB c).length + sumBy wD (rawB c)) ≤ _
    unfold wS; omega
  · rw [sizeD_eq]
    show sumBy sizeD ([symD moduleS, symD (rawM c).name, lstD ((rawI c).map symD), lstD ((rawE c).map symD)] ++ rawB c) + 1 ≤ _
    rw [sumBy_append]
    simp only [sumBy, hs, e0]; omega
theorem txs_sym (L : List ByteArray) : txs (lstD (L.map symD)) = L := by
  simp only [txs, lstD, List.map_map]
  induction L with
  | nil => rfl
  | cons x r ih => simp only [List.map_cons, ih]; rfl
theorem parM_mod (u : Module) : parM (lstD (modD u)) = u := by
  have : parM (lstD (modD u)) = ⟨u.name, txs (lstD (u.imports.map symD)), txs (lstD (u.exports.map symD)), u.body⟩ := rfl
  rw [this, txs_sym, txs_sym]
theorem parB_mod {u : Module} (h : modOK u = true) : parB (lstD (modD u)) = true := by
  unfold parB
  rw [parM_mod, h, (modOK_dat h).1]
  have : ((lstD (modD u)).items.length : Int) = (4 + u.body.length : Nat) := by show ((modD u).length : Int) = _; unfold modD; rw [List.length_append]; rfl
  have h4 : decide ((4 : Int) ≤ ((lstD (modD u)).items.length : Int)) = true := decide_eq_true (by rw [this]; omega)
  rw [h4]; simp
theorem parR_mod {u : Module} (h : modOK u = true) : parR (lstD (modD u)) = u := by unfold parR; rw [if_pos (parB_mod h), parM_mod]
theorem fmM_rd {u : Module} (h : modOK u = true) (h1 : sizeD (lstD (modD u)) ≤ 300) : rdsB [lstD (modD u)] (mkS (fmM u)) = true := by
  have h2 := modOK_dat h
  have h3 := fmtD_len _ h2.2.1
  unfold fmM; rw [if_pos h]
  exact rds_fmt h2.1 (by omega)
theorem fmM_no {u : Module} (h : ¬ modOK u = true) : fmM u = [] := if_neg h
theorem modD_w (u : Module) : wD (lstD (modD u)) ≤ 100 + 2 * wM u := by
  have hs : ∀ L : List ByteArray, sumBy wD (L.map symD) = sumBy ByteArray.size L := by
    intro L
    induction L with
    | nil => rfl
    | cons x r ih => simp only [List.map_cons, sumBy, ih]; rw [wD_eq]; simp [symD, sumBy]
  have e0 : ∀ s, wD (symD s) = s.size := fun s => by rw [wD_eq]; simp [symD, sumBy]
  have e1 : ∀ L : List ByteArray, wD (lstD (L.map symD)) = L.length + sumBy ByteArray.size L := fun L => by rw [wD_eq]; simp only [lstD, List.length_map, hs]; show 0 + _ = _; omega
  have e2 : moduleS.size = 6 := rfl
  rw [wD_eq, wM_eq]
  show (mkS []).size + ((modD u).length + sumBy wD (modD u)) ≤ _
  have e3 : (mkS []).size = 0 := rfl
  unfold modD wS
  rw [sumBy_append, List.length_append]
  simp only [sumBy, List.length_cons, List.length_nil, e0, e1, e2, e3]; omega
end Go.Proofs.YtgeegppaaggcjaaDoor
end
section
namespace Go.Proofs.YtgeegppaaggcjaaDoor
open Go Go.Shelf Go.RowKit Go.Proofs.YtgeegppaaggcjaaDoor.Ab
set_option linter.unusedVariables false
def atoRen : Go.Shelf.Ren := ⟨fun | 172 => 68 | 244 => 74 | 245 => 75 | 247 => 78 | 279 => 79 | 280 => 80 | 281 => 81 | 282 => 82 | 287 => 87 | 316 => 88 | 171 => 67 | 205 => 89 | 321 => 95 | 322 => 96 | 243 => 73 | 246 => 77 | 283 => 83 | 284 => 84 | 285 => 85 | 286 => 86 | 129 => 91 | 317 => 90 | 318 => 92 | 319 => 93 | 320 => 94 | 337 => 97 | 338 => 98 | n => n, fun | 9 => 9 | 3 => 3 | 75 => 86 | 76 => 87 | 4 => 4 | 5 => 5 | 167 => 94 | 37 => 22 | 0 => 0 | 85 => 95 | 2 => 2 | 168 => 97 | 53 => 101 | 175 => 106 | 46 => 89 | 210 => 110 | 127 => 120 | 145 => 123 | 143 => 121 | 21 => 21 | 171 => 100 | 173 => 104 | 212 => 114 | 51 => 115 | 20 => 20 | 213 => 116 | 232 => 125 | 233 => 126 | 80 => 127 | n => n, fun | 15 => 0 | 16 => 1 | 17 => 2 | 18 => 3 | 19 => 4 | n => n⟩
theorem atoLays : Go.Proofs.LaysC.n172 Tryd.prog atoRen := {
  mixed := by kernel_rfl
  f129 := Tryd.func91.trans (congrArg some (by kernel_rfl))
  f171 := Tryd.func67.trans (congrArg some (by kernel_rfl))
  f172 := Tryd.func68.trans (congrArg some (by kernel_rfl))
  f205 := Tryd.func89.trans (congrArg some (by kernel_rfl))
  f243 := Tryd.func73.trans (congrArg some (by kernel_rfl))
  f244 := Tryd.func74.trans (congrArg some (by kernel_rfl))
  f245 := Tryd.func75.trans (congrArg some (by kernel_rfl))
  f246 := Tryd.func77.trans (congrArg some (by kernel_rfl))
  f247 := Tryd.func78.trans (congrArg some (by kernel_rfl))
  f279 := Tryd.func79.trans (congrArg some (by kernel_rfl))
  f280 := Tryd.func80.trans (congrArg some (by kernel_rfl))
  f281 := Tryd.func81.trans (congrArg some (by kernel_rfl))
  f282 := Tryd.func82.trans (congrArg some (by kernel_rfl))
  f283 := Tryd.func83.trans (congrArg some (by kernel_rfl))
  f284 := Tryd.func84.trans (congrArg some (by kernel_rfl))
  f285 := Tryd.func85.trans (congrArg some (by kernel_rfl))
  f286 := Tryd.func86.trans (congrArg some (by kernel_rfl))
  f287 := Tryd.func87.trans (congrArg some (by kernel_rfl))
  f316 := Tryd.func88.trans (congrArg some (by kernel_rfl))
  f317 := Tryd.func90.trans (congrArg some (by kernel_rfl))
  f318 := Tryd.func92.trans (congrArg some (by kernel_rfl))
  f319 := Tryd.func93.trans (congrArg some (by kernel_rfl))
  f320 := Tryd.func94.trans (congrArg some (by kernel_rfl))
  f321 := Tryd.func95.trans (congrArg some (by kernel_rfl))
  f322 := Tryd.func96.trans (congrArg some (by kernel_rfl))
  f337 := Tryd.func97.trans (congrArg some (by kernel_rfl))
  f338 := Tryd.func98.trans (congrArg some (by kernel_rfl))
  t0 := Tryd.underlying0
  a0 := Tryd.isAgg0
  z0 := Tryd.sizeOf0
  v0 := Tryd.zeroValue0
  t2 := Tryd.underlying2
  a2 := Tryd.isAgg2
  z2 := Tryd.sizeOf2
  v2 := Tryd.zeroValue2
  t3 := Tryd.underlying3
  a3 := Tryd.isAgg3
  z3 := Tryd.sizeOf3
  v3 := Tryd.zeroValue3
  t4 := Tryd.underlying4
  a4 := Tryd.isAgg4
  z4 := Tryd.sizeOf4
  v4 := Tryd.zeroValue4
  t5 := Tryd.underlying5
  a5 := Tryd.isAgg5
  z5 := Tryd.sizeOf5
  v5 := Tryd.zeroValue5
  t9 := Tryd.underlying9
  a9 := Tryd.isAgg9
  z9 := Tryd.sizeOf9
  v9 := Tryd.zeroValue9
  t20 := Tryd.underlying20
  a20 := Tryd.isAgg20
  z20 := Tryd.sizeOf20
  v20 := Tryd.zeroValue20
  t21 := Tryd.underlying21
  a21 := Tryd.isAgg21
  z21 := Tryd.sizeOf21
  v21 := Tryd.zeroValue21
  t37 := Tryd.underlying22
  a37 := Tryd.isAgg22
  z37 := Tryd.sizeOf22
  v37 := Tryd.zeroValue22
  t46 := Tryd.underlying89
  a46 := Tryd.isAgg89
  z46 := Tryd.sizeOf89
  v46 := Tryd.zeroValue89
  t51 := Tryd.underlying115
  a51 := Tryd.isAgg115
  z51 := Tryd.sizeOf115
  v51 := Tryd.zeroValue115
  t53 := Tryd.underlying101
  a53 := Tryd.isAgg101
  z53 := Tryd.sizeOf101
  v53 := Tryd.zeroValue101
  t75 := Tryd.underlying86
  a75 := Tryd.isAgg86
  z75 := Tryd.sizeOf86
  v75 := Tryd.zeroValue86
  t76 := Tryd.underlying87
  a76 := Tryd.isAgg87
  z76 := Tryd.sizeOf87
  v76 := Tryd.zeroValue87
  t85 := Tryd.underlying95
  a85 := Tryd.isAgg95
  z85 := Tryd.sizeOf95
  v85 := Tryd.zeroValue95
  t127 := Tryd.underlying120
  a127 := Tryd.isAgg120
  z127 := Tryd.sizeOf120
  v127 := Tryd.zeroValue120
  t143 := Tryd.underlying121
  a143 := Tryd.isAgg121
  z143 := Tryd.sizeOf121
  v143 := Tryd.zeroValue121
  t145 := Tryd.underlying123
  a145 := Tryd.isAgg123
  z145 := Tryd.sizeOf123
  v145 := Tryd.zeroValue123
  t167 := Tryd.underlying94
  a167 := Tryd.isAgg94
  z167 := Tryd.sizeOf94
  v167 := Tryd.zeroValue94
  t168 := Tryd.underlying97
  a168 := Tryd.isAgg97
  z168 := Tryd.sizeOf97
  v168 := Tryd.zeroValue97
  t171 := Tryd.underlying100
  a171 := Tryd.isAgg100
  z171 := Tryd.sizeOf100
  v171 := Tryd.zeroValue100
  t173 := Tryd.underlying104
  a173 := Tryd.isAgg104
  z173 := Tryd.sizeOf104
  v173 := Tryd.zeroValue104
  t175 := Tryd.underlying106
  a175 := Tryd.isAgg106
  z175 := Tryd.sizeOf106
  v175 := Tryd.zeroValue106
  t210 := Tryd.underlying110
  a210 := Tryd.isAgg110
  z210 := Tryd.sizeOf110
  v210 := Tryd.zeroValue110
  t212 := Tryd.underlying114
  a212 := Tryd.isAgg114
  z212 := Tryd.sizeOf114
  v212 := Tryd.zeroValue114
  t213 := Tryd.underlying116
  a213 := Tryd.isAgg116
  z213 := Tryd.sizeOf116
  t232 := Tryd.underlying125
  a232 := Tryd.isAgg125
  z232 := Tryd.sizeOf125
  v232 := Tryd.zeroValue125
  t233 := Tryd.underlying126
  a233 := Tryd.isAgg126
  z233 := Tryd.sizeOf126
  v233 := Tryd.zeroValue126
  g15 := by kernel_rfl
  g16 := by kernel_rfl
  g17 := by kernel_rfl
  g18 := by kernel_rfl
  g19 := by kernel_rfl
  t80 := Tryd.underlying127
  a80 := Tryd.isAgg127
  z80 := Tryd.sizeOf127
  v80 := Tryd.zeroValue127
  i0 := by kernel_rfl
  i2 := by kernel_rfl
  i3 := by kernel_rfl
  i4 := by kernel_rfl
  i5 := by kernel_rfl
  i9 := by kernel_rfl
  i20 := by kernel_rfl
  i21 := by kernel_rfl
  i37 := by kernel_rfl
  i46 := by kernel_rfl
  i51 := by kernel_rfl
  i53 := by kernel_rfl
  i75 := by kernel_rfl
  i76 := by kernel_rfl
  i80 := by kernel_rfl
  i85 := by kernel_rfl
  i127 := by kernel_rfl
  i143 := by kernel_rfl
  i145 := by kernel_rfl
  i167 := by kernel_rfl
  i168 := by kernel_rfl
  i171 := by kernel_rfl
  i173 := by kernel_rfl
  i175 := by kernel_rfl
  i210 := by kernel_rfl
  i212 := by kernel_rfl
  i232 := by kernel_rfl
  i233 := by kernel_rfl
  m15 := by kernel_rfl
  m16 := by kernel_rfl
  m17 := by kernel_rfl
  m18 := by kernel_rfl
  m19 := by kernel_rfl
  c0 := by kernel_rfl
  c2 := by kernel_rfl
  c3 := by kernel_rfl
  c4 := by kernel_rfl
  c5 := by kernel_rfl
  c9 := by kernel_rfl
  c20 := by kernel_rfl
  c21 := by kernel_rfl
  c37 := by kernel_rfl
  c46 := by kernel_rfl
  c51 := by kernel_rfl
  c53 := by kernel_rfl
  c75 := by kernel_rfl
  c76 := by kernel_rfl
  c80 := by kernel_rfl
  c85 := by kernel_rfl
  c127 := by kernel_rfl
  c143 := by kernel_rfl
  c145 := by kernel_rfl
  c167 := by kernel_rfl
  c168 := by kernel_rfl
  c171 := by kernel_rfl
  c173 := by kernel_rfl
  c175 := by kernel_rfl
  c210 := by kernel_rfl
  c212 := by kernel_rfl
  c213 := by kernel_rfl
  c232 := by kernel_rfl
  c233 := by kernel_rfl }
theorem kn_es {w : Go.World} {ι : Interp} (hk : Kn Tryd.prog w ι) : ∃ te pe, w.cell? ⟨0, 0, none⟩ = some (.iface te pe) := by
  have hg : Tryd.prog.globalNamed "strconv.ErrSyntax" = some 0 := by kernel_rfl
  obtain ⟨_, _, cs, hv, te, pe, rfl⟩ := hk.2 rfl 0 hg
  exact ⟨te, pe, by have h0 := World.var?_cell hg hv 0; simpa using h0⟩
abbrev TabW (w : Go.World) : Prop := ∀ w', Below w.heap.size w w' → Lib.TabIs Tryd.prog w' pow10N .u64 Lib.pow10Tab
theorem kn_tabW {w : Go.World} {ι : Interp} (hk : Kn Tryd.prog w ι) : TabW w := fun w' hb => by
  cases hg : Tryd.prog.globalNamed pow10N with
  | none => have : (Tryd.prog.globalNamed pow10N).isSome = true := by kernel_rfl
            rw [hg] at this; cases this
  | some g => obtain ⟨hlt, _, cs, hv, rfl⟩ := hk.1 g hg; exact var?_below hb hg hlt hv
theorem fmt_calls (n : Int) (h0 : -9223372036854775808 ≤ n) (h1 : n ≤ 9223372036854775807) (w : Go.World) (htab : Lib.TabIs Tryd.prog w pow10N .u64 Lib.pow10Tab) :
    Calls Tryd.prog 53 #[.int .i64 n] w fun e w' => e = .returned (.string ⟨(Lib.itoa n).toArray⟩) ∧ Below w.heap.size w w' := by
  go_enter Tryd.func53, Tryd.ntmps53
  go_wp2_with (go_at_call 67; refine (Any.strconv_Itoa itoLays n h0 h1 _ (Eq.subst (motive := fun s => Lib.TabIs Tryd.prog w s .u64 Lib.pow10Tab) (by kernel_rfl) htab)).mono ?_; rintro e w' ⟨rfl, k, os, rfl⟩)
  go_ret
  refine ⟨rfl, rfl, rfl, rfl, ?_, fun j hj => ?_⟩
  · show w.heap.size ≤ (w.heap ++ os).size
    rw [Array.size_append]; omega
  · show (w.heap ++ os)[j]? = w.heap[j]?
    exact Array.getElem?_append_left hj
theorem num_big {s : ByteArray} (h : s.size = 0 ∨ 10 < s.size) : isNum s = false := by
  cases e : isNum s with
  | false => rfl
  | true => have := (num_atoi e).2; omega
theorem num_atoi0 {s : ByteArray} (h : Lib.atoi (tx s) = none) : isNum s = false := by
  cases e : isNum s with
  | false => rfl
  | true => have := (num_atoi e).1; rw [h] at this; cases this
set_option maxRecDepth 100000 in
theorem pn_calls (s : ByteArray) (w : Go.World) (htab : TabW w) (hes : ∃ te pe, w.cell? ⟨0, 0, none⟩ = some (.iface te pe)) :
    Calls Tryd.prog 58 #[.string s] w fun e w' => e = .returned (.tuple #[.int .i64 (numV s), .bool (isNum s)]) ∧ Below w.heap.size w w' := by
  by_cases hz : s.size = 0 ∨ 10 < s.size
  · have hn := num_big hz
    rw [num_none hn, hn]
    go_enter Tryd.func58, Tryd.ntmps58
    rcases hz with hz | hz
    all_goals go_wp2
    all_goals go_ret2
    all_goals exact ⟨rfl, Below.refl _ _⟩
  · obtain ⟨te, pe, hev⟩ := hes
    cases h : Lib.atoi s.data.toList with
    | none =>
      have hn := num_atoi0 h
      rw [num_none hn, hn]
      go_enter Tryd.func58, Tryd.ntmps58
      go_wp2_with (go_at_call 68; refine (Any.strconv_Atoi_err atoLays s (by omega) h _ _ hev (Or.inr ⟨te, pe, rfl⟩)).mono ?_; rintro e W1 ⟨N, rfl, -, -, hb⟩)
      all_goals go_ret2
      all_goals first | exact ⟨rfl, Below.refl _ _⟩ | exact ⟨rfl, by assumption⟩
    | some n =>
      have hN : isNum s = true → n = sgN s := fun e => Option.some.inj (h.symm.trans (num_atoi e).1)
      go_enter Tryd.func58, Tryd.ntmps58
      go_wp2_with (first
        | (go_at_call 68; refine (Any.strconv_Atoi { atoLays with } s n (by omega) h _).mono ?_; rintro e w' ⟨rfl, t, rfl⟩; have hb1 := Lib.bytesWorld_below w (atoRen.t 5) t; have htab1 := htab _ hb1)
        | (go_at_call 53; refine (fmt_calls n (by omega) (by omega) _ (by assumption)).mono ?_; rintro e W2 ⟨rfl, hb2⟩))
      all_goals go_ret2
      · rename_i e; exact absurd (Or.inl (by rw [e]; rfl)) hz
      · rename_i e; exact absurd (e.imp (fun a => by have := eq_of_beq a; omega) (fun a => by omega)) hz
      · rename_i hb2 e
        have hn : isNum s = false := by
          cases q : isNum s with
          | false => rfl
          | true =>
            have hr := num_range q
            rw [← hN q] at hr
            rcases e with e | e
            · omega
            · rw [hr.2.2.2, ByteArray.toList_eq] at e; simp at e
        rw [num_none hn, hn]
        exact ⟨rfl, hb1.trans (hb2.mono hb1.size)⟩
      · rename_i hb2 e
        have ei : Lib.itoa n = tx s := by have := e.2; rw [ByteArray.toList_eq] at this; simpa using this
        have hq := atoi_num h e.1 ei
        have hv : numV s = n := by rw [(num_range hq.1).2.2.1, hq.2]
        rw [hv, hq.1]
        exact ⟨rfl, hb1.trans (hb2.mono hb1.size)⟩
      all_goals
        have hn : isNum s = false := by
          cases q : isNum s with
          | false => rfl
          | true => have hr := num_range q; rw [← hN q] at hr; omega
        rw [num_none hn, hn]
        exact ⟨rfl, by assumption⟩
abbrev P_c_iPNum (s : ByteArray) : Ct := ⟨58, [], [ls s], [], .tup [li (numV s), lb (isNum s)]⟩
theorem c_iPNum (s : ByteArray) : OK (P_c_iPNum s) := by
  refine ⟨Tryd.call58, fun w ι vals hp hk => ?_⟩
  have harg := hp.arg
  rcases vals with ⟨l⟩
  match l, harg with
  | [v0], ⟨h0, _⟩ =>
    obtain ⟨rfl, _⟩ := h0.1.lit_inv
    refine (pn_calls s w (kn_tabW hk) (kn_es hk)).mono fun e w' hh => ?_
    obtain ⟨rfl, hb⟩ := hh
    exact ⟨_, ι, rfl, post_below hp hb ⟨_, rfl, ⟨.lit trivial, fun _ => rfl⟩, ⟨.lit trivial, fun _ => rfl⟩, trivial⟩⟩
end Go.Proofs.YtgeegppaaggcjaaDoor
end
