/- For every module, the program's FormatModule returns what the reference's returns (a tied card). No condition. -/
import Derived.Test.YtpflccjienojfaaDoorQ4
import Derived.Lib.AtoiErr
import Derived.Shelf.Strconv.Itoa3
import Derived.Test.YtpflccjienojfaaDoorCards
import Derived.Test.YtpflccjienojfaaDoorTie
import Derived.Deep.DeepHandedRow
import Derived.Lib.LaidTab
import Derived.Stop.LaidErr
section
namespace Go.Proofs.YtpflccjienojfaaDoor
open Go Go.Proofs.YtpflccjienojfaaDoor.Ab
set_option linter.unusedVariables false
set_option linter.unusedSimpArgs false
set_option maxHeartbeats 4000000
theorem all_stop {L : List UInt8} {p : UInt8 → Bool} {k : Nat} (h : k < L.length) (hp : p (L.getD k 0) = false) : L.all p = false := by
  rw [List.all_eq_false]
  have e : L.getD k 0 = L[k] := by simp [h]
  exact ⟨L[k], List.getElem_mem h, by rw [← e, hp]; decide⟩
theorem all_go {L : List UInt8} {p : UInt8 → Bool} {k : Nat} (h : k < L.length) (hp : p (L.getD k 0) = true) (ht : (L.take k).all p = true) : (L.take (k + 1)).all p = true := by
  rw [take0 h, List.all_append, ht, List.all_cons, hp]; rfl
theorem all_all {L : List UInt8} {p : UInt8 → Bool} {k : Nat} (h : L.length ≤ k) (ht : (L.take k).all p = true) : L.all p = true := by
  rwa [List.take_of_length_le h] at ht
def lu (n : Int) : SV := .one (.val (.lit (.int .u8 n)))
def isDig (n : Int) : Bool := decide (48 ≤ n ∧ n ≤ 57)
def markI : List Int := [33, 63, 42, 60, 62, 61, 47, 43, 45, 46, 95]
def isMk (n : Int) : Bool := decide (97 ≤ n ∧ n ≤ 122) || isDig n || decide (n ∈ markI)
theorem mark_at {k : Nat} (h : k < 11) : ((([33, 63, 42, 60, 62, 61, 47, 43, 45, 46, 95] : List UInt8).getD k 0).toNat : Int) = markI.getD k default := by
  have : ∀ k, k < 11 → ((([33, 63, 42, 60, 62, 61, 47, 43, 45, 46, 95] : List UInt8).getD k 0).toNat : Int) = markI.getD k default := by decide
  exact this k h
def isStB (n : Int) : Bool := decide (32 ≤ n ∧ n ≤ 126 ∧ n ≠ 34)
def isSym (s : ByteArray) : Bool := decide (1 ≤ (s.size : Int) ∧ (s.size : Int) ≤ 16) && !isDig (s.data.toList.getD 0 0).toNat && !(decide (((s.data.toList.getD 0 0).toNat : Int) = 45) && decide (1 < (s.size : Int)) && isDig (s.data.toList.getD 1 0).toNat) && s.data.toList.all fun b => isMk b.toNat
def isStr (s : ByteArray) : Bool := decide ((s.size : Int) ≤ 20) && s.data.toList.all fun b => isStB b.toNat
abbrev P_c_sDigit (n : Int) : Ct := ⟨126, [], [lu n], [], .sv (lb (isDig n))⟩
theorem c_sDigit (n : Int)  : P_c_sDigit n := fnOK Tryd.call126 Tryd.func126 (.i (48 ≤ n) (.s (lb (decide (n ≤ 57)))) (.s (lb false))) (by
  dsimp only [teasy, P_c_sDigit]
  with_reducible repeat' (first | apply And.intro | exact zR | (intro; skip))
  all_goals (try simp only [std, inj] at *)
  all_goals with_reducible repeat' apply And.intro
  all_goals (try (first | exact z | grind [isDig, snocI, snocS, rowSnoc])))
abbrev P_c_iDigit (n : Int) : Ct := ⟨107, [], [lu n], [], .sv (lb (isDig n))⟩
theorem c_iDigit (n : Int)  : P_c_iDigit n := fnOK Tryd.call107 Tryd.func107 (.i (48 ≤ n) (.s (lb (decide (n ≤ 57)))) (.s (lb false))) (by
  dsimp only [teasy, P_c_iDigit]
  with_reducible repeat' (first | apply And.intro | exact zR | (intro; skip))
  all_goals (try simp only [std, inj] at *)
  all_goals with_reducible repeat' apply And.intro
  all_goals (try (first | exact z | grind [isDig, snocI, snocS, rowSnoc])))
abbrev P_c_sMark (n : Int) : Ct := ⟨127, [], [lu n], [], .sv (lb (isMk n))⟩
def lc_sMarkLa (n : Int) : Lp Nat := .mk 26 0 (fun x => [(0, SV.one (AC.val (Cell.lit (Value.int IntKind.u8 n)))), (3, ls (ByteArray.mk #[(33 : UInt8), (63 : UInt8), (42 : UInt8),
 (60 : UInt8), (62 : UInt8), (61 : UInt8), (47 : UInt8), (43 : UInt8), (45 : UInt8), (46 : UInt8), (95 : UInt8)])), (4, hs x 0)]) (fun x => []) (fun k => [.s (li (↑k : Int))]) (fun
 k => k ≤ 11 ∧ ¬n ∈ List.take k markI) (fun k => 11 - k) [.mk (decide (n ∈ markI) = false) (.exit 0) (fun x => []) (fun x => []) [], .mk (decide (n ∈ markI) = true) .ret (fun x =>
 [(2, hs x 0)]) (fun x => []) [.s (lb true)]]
theorem Sc_sMarkLa (n : Int) : Lp.Sem Tryd.prog (loopAt Tryd.f127 0) (lc_sMarkLa n) := lpOK (fun k => .h (11 ≤ 9223372036854775807) (.i ((↑k : Int) < 11) (.p (0 ≤ (↑k : Int) ∧ (↑k
 : Int).toNat < 11) (.i ((↑([(33 : UInt8), (63 : UInt8), (42 : UInt8), (60 : UInt8), (62 : UInt8), (61 : UInt8), (47 : UInt8), (43 : UInt8), (45 : UInt8), (46 : UInt8), (95 :
 UInt8)].getD (↑k : Int).toNat (0 : UInt8)).toNat : Int) = n) (.o 1 [] [.s (lb true)]) (.r ((↑k : Int) + 1) (.g [] (k + 1) [.s (li ((↑k : Int) + 1))])))) (.o 0 [] []))) (by
  intro k h; try dsimp only [teasy, nthW, lc_sMarkLa] at h ⊢
  have g := @mark_at k
  have e : markI.length = 11 := rfl
  have e2 : markI.take 11 = markI := rfl
  with_reducible repeat' (first | apply And.intro | exact zR | (intro; skip))
  all_goals (try simp only [std, inj] at *)
  all_goals with_reducible repeat' apply And.intro
  all_goals (try (first | exact z | grind [take_get, getD_mem', snocI, snocS, rowSnoc])))
theorem c_sMark (n : Int)  : P_c_sMark n := fnOK Tryd.call127 Tryd.func127 (.i (97 ≤ n) (.i (n ≤ 122) (.y true (.s (lb true))) (.c [.rd] (c_sDigit n) (.b (isDig n) (.s (lb true)) (.l
 (lc_sMarkLa n) (Sc_sMarkLa n) [] [.s (li 0)] 0 (.t (.s (lb false)) (.t (.s (lb true)) .q)))))) (.y false (.c [.rd] (c_sDigit n) (.b (isDig n) (.s (lb true)) (.l (lc_sMarkLa n)
 (Sc_sMarkLa n) [] [.s (li 0)] 0 (.t (.s (lb false)) (.t (.s (lb true)) .q))))))) (by
  dsimp only [teasy, P_c_sMark, nthW, lc_sMarkLa]
  with_reducible repeat' (first | apply And.intro | exact zR | (intro; skip))
  all_goals (try simp only [std, inj] at *)
  all_goals with_reducible repeat' apply And.intro
  all_goals (try (first | exact z | grind [isMk, snocI, snocS, rowSnoc])))
abbrev P_c_iMark (n : Int) : Ct := ⟨108, [], [lu n], [], .sv (lb (isMk n))⟩
theorem c_iMark (n : Int)  : P_c_iMark n := fnOK Tryd.call108 Tryd.func108 (.i (97 ≤ n) (.i (n ≤ 122) (.y true (.s (lb true))) (.i (48 ≤ n) (.i (n ≤ 57) (.s (lb true)) (.i (n = 33)
 (.y true (.s (lb true))) (.i (n = 63) (.y true (.s (lb true))) (.i (n = 42) (.y true (.s (lb true))) (.i (n = 60) (.y true (.s (lb true))) (.i (n = 62) (.y true (.s (lb true)))
 (.i (n = 61) (.y true (.s (lb true))) (.i (n = 47) (.y true (.s (lb true))) (.i (n = 43) (.y true (.s (lb true))) (.i (n = 45) (.y true (.s (lb true))) (.i (n = 46) (.y true (.s
 (lb true))) (.i (n = 95) (.s (lb true)) (.s (lb false)))))))))))))) (.y false (.i (n = 33) (.y true (.s (lb true))) (.i (n = 63) (.y true (.s (lb true))) (.i (n = 42) (.y true (.s
 (lb true))) (.i (n = 60) (.y true (.s (lb true))) (.i (n = 62) (.y true (.s (lb true))) (.i (n = 61) (.y true (.s (lb true))) (.i (n = 47) (.y true (.s (lb true))) (.i (n = 43)
 (.y true (.s (lb true))) (.i (n = 45) (.y true (.s (lb true))) (.i (n = 46) (.y true (.s (lb true))) (.i (n = 95) (.s (lb true)) (.s (lb false)))))))))))))))) (.y false (.i (48 ≤
 n) (.i (n ≤ 57) (.s (lb true)) (.i (n = 33) (.y true (.s (lb true))) (.i (n = 63) (.y true (.s (lb true))) (.i (n = 42) (.y true (.s (lb true))) (.i (n = 60) (.y true (.s (lb
 true))) (.i (n = 62) (.y true (.s (lb true))) (.i (n = 61) (.y true (.s (lb true))) (.i (n = 47) (.y true (.s (lb true))) (.i (n = 43) (.y true (.s (lb true))) (.i (n = 45) (.y
 true (.s (lb true))) (.i (n = 46) (.y true (.s (lb true))) (.i (n = 95) (.s (lb true)) (.s (lb false)))))))))))))) (.y false (.i (n = 33) (.y true (.s (lb true))) (.i (n = 63) (.y
 true (.s (lb true))) (.i (n = 42) (.y true (.s (lb true))) (.i (n = 60) (.y true (.s (lb true))) (.i (n = 62) (.y true (.s (lb true))) (.i (n = 61) (.y true (.s (lb true))) (.i (n
 = 47) (.y true (.s (lb true))) (.i (n = 43) (.y true (.s (lb true))) (.i (n = 45) (.y true (.s (lb true))) (.i (n = 46) (.y true (.s (lb true))) (.i (n = 95) (.s (lb true)) (.s
 (lb false))))))))))))))))) (by
  dsimp only [teasy, P_c_iMark]
  with_reducible repeat' (first | apply And.intro | exact zR | (intro; skip))
  all_goals (try simp only [std, inj] at *)
  all_goals with_reducible repeat' apply And.intro
  all_goals (try (first | exact z | grind [snocI, snocS, rowSnoc]))
  all_goals (symm; simp only [isMk, isDig, markI, List.mem_cons, List.not_mem_nil, Bool.or_eq_true, Bool.or_eq_false_iff, decide_eq_true_eq, decide_eq_false_iff_not, or_false]; omega))
abbrev P_c_l1In (x : Int) (a : Int) (b : Int) : Ct := ⟨125, [], [li x, li a, li b], [], .sv (lb (decide (a ≤ x ∧ x ≤ b)))⟩
theorem c_l1In (x a b : Int)  : P_c_l1In x a b := fnOK Tryd.call125 Tryd.func125 (.i (a ≤ x) (.s (lb (decide (x ≤ b)))) (.s (lb false))) (by
  dsimp only [teasy, P_c_l1In]
  with_reducible repeat' (first | apply And.intro | exact zR | (intro; skip))
  all_goals (try simp only [std, inj] at *)
  all_goals with_reducible repeat' apply And.intro
  all_goals (try (first | exact z | grind [snocI, snocS, rowSnoc])))
abbrev P_c_sIsSymbol (s : ByteArray) : Ct := ⟨99, [], [ls s], [], .sv (lb (isSym s))⟩
def lc_sIsSymbolLa (s : ByteArray) : Lp Nat := .mk 39 0 (fun x => [(0, ls s), (3, hs x 0)]) (fun x => []) (fun k => [.s (li (↑k : Int))]) (fun k => k ≤ s.size ∧ s.size ≤ 16 ∧
 ((List.take k s.data.toList).all fun b => isMk (↑b.toNat : Int)) = true) (fun k => s.size - k) [.mk ((s.data.toList.all fun b => isMk (↑b.toNat : Int)) = true) (.exit 0) (fun x =>
 []) (fun x => []) [], .mk ((s.data.toList.all fun b => isMk (↑b.toNat : Int)) = false) .ret (fun x => [(2, hs x 0)]) (fun x => []) [.s (lb false)]]
theorem Sc_sIsSymbolLa (s : ByteArray) : Lp.Sem Tryd.prog (loopAt Tryd.f99 0) (lc_sIsSymbolLa s) := lpOK (fun k => .h (s.data.toList.length ≤ 9223372036854775807) (.i ((↑k : Int) <
 (↑s.data.toList.length : Int)) (.p (0 ≤ (↑k : Int) ∧ (↑k : Int).toNat < s.data.toList.length) (.c [.rd] (c_sMark (↑(s.data.toList.getD (↑k : Int).toNat (0 : UInt8)).toNat : Int))
 (.b (!isMk (↑(s.data.toList.getD (↑k : Int).toNat (0 : UInt8)).toNat : Int)) (.o 1 [] [.s (lb false)]) (.r ((↑k : Int) + 1) (.g [] (k + 1) [.s (li ((↑k : Int) + 1))]))))) (.o 0 []
 []))) (by
  intro k h; try dsimp only [teasy, nthW, lc_sIsSymbolLa] at h ⊢
  have g1 := @all_stop s.data.toList (fun b => isMk b.toNat) k
  have g2 := @all_go s.data.toList (fun b => isMk b.toNat) k
  have g3 := @all_all s.data.toList (fun b => isMk b.toNat) k
  with_reducible repeat' (first | apply And.intro | exact zR | (intro; skip))
  all_goals (try simp only [std, inj] at *)
  all_goals with_reducible repeat' apply And.intro
  all_goals (try (first | exact z | grind [snocI, snocS, rowSnoc])))
theorem c_sIsSymbol (s : ByteArray)  : P_c_sIsSymbol s := fnOK Tryd.call99 Tryd.func99 (.h (s.data.toList.length ≤ 9223372036854775807) (.c [.rd, .rd, .rd] (c_l1In
 (↑s.data.toList.length : Int) 1 16) (.b (!decide (1 ≤ (↑s.data.toList.length : Int) ∧ (↑s.data.toList.length : Int) ≤ 16)) (.y true (.y true (.s (lb false)))) (.p ((0 : Int) ≤ 0 ∧
 0 < s.data.toList.length) (.c [.rd] (c_sDigit (↑(s.data.toList.getD 0 (0 : UInt8)).toNat : Int)) (.b (isDig (↑(s.data.toList.getD 0 (0 : UInt8)).toNat : Int)) (.y true (.s (lb
 false))) (.p ((0 : Int) ≤ 0 ∧ 0 < s.data.toList.length) (.i ((↑(s.data.toList.getD 0 (0 : UInt8)).toNat : Int) = 45) (.h (s.data.toList.length ≤ 9223372036854775807) (.i (1 <
 (↑s.data.toList.length : Int)) (.p ((0 : Int) ≤ 1 ∧ 1 < s.data.toList.length) (.c [.rd] (c_sDigit (↑(s.data.toList.getD 1 (0 : UInt8)).toNat : Int)) (.b (isDig
 (↑(s.data.toList.getD 1 (0 : UInt8)).toNat : Int)) (.s (lb false)) (.l (lc_sIsSymbolLa s) (Sc_sIsSymbolLa s) [] [.s (li 0)] 0 (.t (.s (lb true)) (.t (.s (lb false)) .q)))))) (.y
 false (.l (lc_sIsSymbolLa s) (Sc_sIsSymbolLa s) [] [.s (li 0)] 0 (.t (.s (lb true)) (.t (.s (lb false)) .q)))))) (.y false (.y false (.l (lc_sIsSymbolLa s) (Sc_sIsSymbolLa s) []
 [.s (li 0)] 0 (.t (.s (lb true)) (.t (.s (lb false)) .q))))))))))))) (by
  dsimp only [teasy, P_c_sIsSymbol, nthW, lc_sIsSymbolLa]
  with_reducible repeat' (first | apply And.intro | exact zR | (intro; skip))
  all_goals (try simp only [std, inj] at *)
  all_goals with_reducible repeat' apply And.intro
  all_goals (try (first | exact z | grind [isSym, snocI, snocS, rowSnoc])))
abbrev P_c_iIsSymbol (s : ByteArray) : Ct := ⟨73, [], [ls s], [], .sv (lb (isSym s))⟩
def lc_iIsSymbolLa (s : ByteArray) : Lp Nat := .mk 43 0 (fun x => [(0, ls s), (3, hs x 0)]) (fun x => []) (fun k => [.s (li (↑k : Int))]) (fun k => k ≤ s.size ∧ s.size ≤ 16 ∧
 ((List.take k s.data.toList).all fun b => isMk (↑b.toNat : Int)) = true) (fun k => s.size - k) [.mk ((s.data.toList.all fun b => isMk (↑b.toNat : Int)) = true) (.exit 0) (fun x =>
 []) (fun x => []) [], .mk ((s.data.toList.all fun b => isMk (↑b.toNat : Int)) = false) .ret (fun x => [(2, hs x 0)]) (fun x => []) [.s (lb false)]]
theorem Sc_iIsSymbolLa (s : ByteArray) : Lp.Sem Tryd.prog (loopAt Tryd.f73 0) (lc_iIsSymbolLa s) := lpOK (fun k => .h (s.data.toList.length ≤ 9223372036854775807) (.i ((↑k : Int) <
 (↑s.data.toList.length : Int)) (.p (0 ≤ (↑k : Int) ∧ (↑k : Int).toNat < s.data.toList.length) (.c [.rd] (c_iMark (↑(s.data.toList.getD (↑k : Int).toNat (0 : UInt8)).toNat : Int))
 (.b (!isMk (↑(s.data.toList.getD (↑k : Int).toNat (0 : UInt8)).toNat : Int)) (.o 1 [] [.s (lb false)]) (.r ((↑k : Int) + 1) (.g [] (k + 1) [.s (li ((↑k : Int) + 1))]))))) (.o 0 []
 []))) (by
  intro k h; try dsimp only [teasy, nthW, lc_iIsSymbolLa] at h ⊢
  have g1 := @all_stop s.data.toList (fun b => isMk b.toNat) k
  have g2 := @all_go s.data.toList (fun b => isMk b.toNat) k
  have g3 := @all_all s.data.toList (fun b => isMk b.toNat) k
  with_reducible repeat' (first | apply And.intro | exact zR | (intro; skip))
  all_goals (try simp only [std, inj] at *)
  all_goals with_reducible repeat' apply And.intro
  all_goals (try (first | exact z | grind [snocI, snocS, rowSnoc])))
theorem c_iIsSymbol (s : ByteArray)  : P_c_iIsSymbol s := fnOK Tryd.call73 Tryd.func73 (.h (s.data.toList.length ≤ 9223372036854775807) (.i ((↑s.data.toList.length : Int) < 1) (.y
 true (.y true (.y true (.s (lb false))))) (.h (s.data.toList.length ≤ 9223372036854775807) (.i (16 < (↑s.data.toList.length : Int)) (.y true (.y true (.s (lb false)))) (.p ((0 :
 Int) ≤ 0 ∧ 0 < s.data.toList.length) (.c [.rd] (c_iDigit (↑(s.data.toList.getD 0 (0 : UInt8)).toNat : Int)) (.b (isDig (↑(s.data.toList.getD 0 (0 : UInt8)).toNat : Int)) (.y true
 (.s (lb false))) (.p ((0 : Int) ≤ 0 ∧ 0 < s.data.toList.length) (.i ((↑(s.data.toList.getD 0 (0 : UInt8)).toNat : Int) = 45) (.h (s.data.toList.length ≤ 9223372036854775807) (.i
 (1 < (↑s.data.toList.length : Int)) (.p ((0 : Int) ≤ 1 ∧ 1 < s.data.toList.length) (.c [.rd] (c_iDigit (↑(s.data.toList.getD 1 (0 : UInt8)).toNat : Int)) (.b (isDig
 (↑(s.data.toList.getD 1 (0 : UInt8)).toNat : Int)) (.s (lb false)) (.l (lc_iIsSymbolLa s) (Sc_iIsSymbolLa s) [] [.s (li 0)] 0 (.t (.s (lb true)) (.t (.s (lb false)) .q)))))) (.y
 false (.l (lc_iIsSymbolLa s) (Sc_iIsSymbolLa s) [] [.s (li 0)] 0 (.t (.s (lb true)) (.t (.s (lb false)) .q)))))) (.y false (.y false (.l (lc_iIsSymbolLa s) (Sc_iIsSymbolLa s) []
 [.s (li 0)] 0 (.t (.s (lb true)) (.t (.s (lb false)) .q)))))))))))))) (by
  dsimp only [teasy, P_c_iIsSymbol, nthW, lc_iIsSymbolLa]
  with_reducible repeat' (first | apply And.intro | exact zR | (intro; skip))
  all_goals (try simp only [std, inj] at *)
  all_goals with_reducible repeat' apply And.intro
  all_goals (try (first | exact z | grind [isSym, snocI, snocS, rowSnoc])))
abbrev P_c_sString (s : ByteArray) : Ct := ⟨138, [], [ls s], [], .sv (lb (isStr s))⟩
def lc_sStringLa (s : ByteArray) : Lp Nat := .mk 29 0 (fun x => [(0, ls s), (3, hs x 0)]) (fun x => []) (fun k => [.s (li (↑k : Int))]) (fun k => k ≤ s.size ∧ ((List.take k
 s.data.toList).all fun b => isStB (↑b.toNat : Int)) = true) (fun k => s.size - k) [.mk ((s.data.toList.all fun b => isStB (↑b.toNat : Int)) = true) (.exit 0) (fun x => [(0, ls
 s)]) (fun x => []) [], .mk ((s.data.toList.all fun b => isStB (↑b.toNat : Int)) = false) .ret (fun x => [(2, hs x 0)]) (fun x => []) [.s (lb false)]]
theorem Sc_sStringLa (s : ByteArray) : Lp.Sem Tryd.prog (loopAt Tryd.f138 0) (lc_sStringLa s) := lpOK (fun k => .h (s.data.toList.length ≤ 9223372036854775807) (.i ((↑k : Int) <
 (↑s.data.toList.length : Int)) (.p (0 ≤ (↑k : Int) ∧ (↑k : Int).toNat < s.data.toList.length) (.i ((↑(s.data.toList.getD (↑k : Int).toNat (0 : UInt8)).toNat : Int) < 32) (.y true
 (.y true (.o 1 [] [.s (lb false)]))) (.p (0 ≤ (↑k : Int) ∧ (↑k : Int).toNat < s.data.toList.length) (.i (126 < (↑(s.data.toList.getD (↑k : Int).toNat (0 : UInt8)).toNat : Int))
 (.y true (.o 1 [] [.s (lb false)])) (.p (0 ≤ (↑k : Int) ∧ (↑k : Int).toNat < s.data.toList.length) (.i ((↑(s.data.toList.getD (↑k : Int).toNat (0 : UInt8)).toNat : Int) = 34) (.o
 1 [] [.s (lb false)]) (.r ((↑k : Int) + 1) (.g [] (k + 1) [.s (li ((↑k : Int) + 1))])))))))) (.o 0 [] []))) (by
  intro k h; try dsimp only [teasy, nthW, lc_sStringLa] at h ⊢
  have g1 := @all_stop s.data.toList (fun b => isStB b.toNat) k
  have g2 := @all_go s.data.toList (fun b => isStB b.toNat) k
  have g3 := @all_all s.data.toList (fun b => isStB b.toNat) k
  with_reducible repeat' (first | apply And.intro | exact zR | (intro; skip))
  all_goals (try simp only [std, inj] at *)
  all_goals with_reducible repeat' apply And.intro
  all_goals (try (first | exact z | grind [isStB, snocI, snocS, rowSnoc])))
theorem c_sString (s : ByteArray)  : P_c_sString s := fnOK Tryd.call138 Tryd.func138 (.l (lc_sStringLa s) (Sc_sStringLa s) [] [.s (li 0)] 0 (.t (.h (s.data.toList.length ≤
 9223372036854775807) (.s (lb (decide ((↑s.data.toList.length : Int) ≤ 20))))) (.t (.s (lb false)) .q))) (by
  dsimp only [teasy, P_c_sString, nthW, lc_sStringLa]
  with_reducible repeat' (first | apply And.intro | exact zR | (intro; skip))
  all_goals (try simp only [std, inj] at *)
  all_goals with_reducible repeat' apply And.intro
  all_goals (try (first | exact z | grind [isStr, snocI, snocS, rowSnoc])))
abbrev P_c_iString (s : ByteArray) : Ct := ⟨103, [], [ls s], [], .sv (lb (isStr s))⟩
def lc_iStringLa (s : ByteArray) : Lp Nat := .mk 29 0 (fun x => [(0, ls s), (3, hs x 0)]) (fun x => []) (fun k => [.s (li (↑k : Int))]) (fun k => k ≤ s.size ∧ ((List.take k
 s.data.toList).all fun b => isStB (↑b.toNat : Int)) = true) (fun k => s.size - k) [.mk ((s.data.toList.all fun b => isStB (↑b.toNat : Int)) = true) (.exit 0) (fun x => []) (fun x
 => []) [], .mk ((s.data.toList.all fun b => isStB (↑b.toNat : Int)) = false) .ret (fun x => [(2, hs x 0)]) (fun x => []) [.s (lb false)]]
theorem Sc_iStringLa (s : ByteArray) : Lp.Sem Tryd.prog (loopAt Tryd.f103 0) (lc_iStringLa s) := lpOK (fun k => .h (s.data.toList.length ≤ 9223372036854775807) (.i ((↑k : Int) <
 (↑s.data.toList.length : Int)) (.p (0 ≤ (↑k : Int) ∧ (↑k : Int).toNat < s.data.toList.length) (.i ((↑(s.data.toList.getD (↑k : Int).toNat (0 : UInt8)).toNat : Int) < 32) (.y true
 (.y true (.o 1 [] [.s (lb false)]))) (.p (0 ≤ (↑k : Int) ∧ (↑k : Int).toNat < s.data.toList.length) (.i (126 < (↑(s.data.toList.getD (↑k : Int).toNat (0 : UInt8)).toNat : Int))
 (.y true (.o 1 [] [.s (lb false)])) (.p (0 ≤ (↑k : Int) ∧ (↑k : Int).toNat < s.data.toList.length) (.i ((↑(s.data.toList.getD (↑k : Int).toNat (0 : UInt8)).toNat : Int) = 34) (.o
 1 [] [.s (lb false)]) (.r ((↑k : Int) + 1) (.g [] (k + 1) [.s (li ((↑k : Int) + 1))])))))))) (.o 0 [] []))) (by
  intro k h; try dsimp only [teasy, nthW, lc_iStringLa] at h ⊢
  have g1 := @all_stop s.data.toList (fun b => isStB b.toNat) k
  have g2 := @all_go s.data.toList (fun b => isStB b.toNat) k
  have g3 := @all_all s.data.toList (fun b => isStB b.toNat) k
  with_reducible repeat' (first | apply And.intro | exact zR | (intro; skip))
  all_goals (try simp only [std, inj] at *)
  all_goals with_reducible repeat' apply And.intro
  all_goals (try (first | exact z | grind [isStB, snocI, snocS, rowSnoc])))
theorem c_iString (s : ByteArray)  : P_c_iString s := fnOK Tryd.call103 Tryd.func103 (.h (s.data.toList.length ≤ 9223372036854775807) (.i (20 < (↑s.data.toList.length : Int)) (.s (lb
 false)) (.l (lc_iStringLa s) (Sc_iStringLa s) [] [.s (li 0)] 0 (.t (.s (lb true)) (.t (.s (lb false)) .q))))) (by
  dsimp only [teasy, P_c_iString, nthW, lc_iStringLa]
  with_reducible repeat' (first | apply And.intro | exact zR | (intro; skip))
  all_goals (try simp only [std, inj] at *)
  all_goals with_reducible repeat' apply And.intro
  all_goals (try (first | exact z | grind [isStr, snocI, snocS, rowSnoc])))
def isNam (s : ByteArray) : Bool := isSym s && decide ((s.size : Int) ≤ 8)
abbrev P_c_sNam (s : ByteArray) : Ct := ⟨58, [], [ls s], [], .sv (lb (isNam s))⟩
theorem c_sNam (s : ByteArray)  : P_c_sNam s := fnOK Tryd.call58 Tryd.func58 (.h (s.data.toList.length ≤ 9223372036854775807) (.i ((↑s.data.toList.length : Int) ≤ 8) (.c [.rd]
 (c_sIsSymbol s) (.s (lb (isSym s)))) (.s (lb false)))) (by
  dsimp only [teasy, P_c_sNam]
  with_reducible repeat' (first | apply And.intro | exact zR | (intro; skip))
  all_goals (try simp only [std, inj] at *)
  all_goals with_reducible repeat' apply And.intro
  all_goals (try (first | exact z | grind [isNam, snocI, snocS, rowSnoc])))
abbrev P_c_iNam (s : ByteArray) : Ct := ⟨72, [], [ls s], [], .sv (lb (isNam s))⟩
theorem c_iNam (s : ByteArray)  : P_c_iNam s := fnOK Tryd.call72 Tryd.func72 (.c [.rd] (c_iIsSymbol s) (.b (isSym s) (.h (s.data.toList.length ≤ 9223372036854775807) (.s (lb (decide
 ((↑s.data.toList.length : Int) ≤ 8))))) (.s (lb false)))) (by
  dsimp only [teasy, P_c_iNam]
  with_reducible repeat' (first | apply And.intro | exact zR | (intro; skip))
  all_goals (try simp only [std, inj] at *)
  all_goals with_reducible repeat' apply And.intro
  all_goals (try (first | exact z | grind [isNam, snocI, snocS, rowSnoc])))
def nodD (k n : Int) (t : ByteArray) (i : Int) : Bool := decide (k = 0 ∧ n = 0 ∧ t.data.toList = []) || decide (k = 1 ∧ n = 0 ∧ isSym t = true ∧ i = 0) || decide (k = 2 ∧ -999999999 ≤ n ∧ n ≤ 999999999 ∧ t.data.toList = [] ∧ i = 0) || decide (k = 3 ∧ 0 ≤ n ∧ n ≤ 1 ∧ t.data.toList = [] ∧ i = 0) || decide (k = 4 ∧ n = 0 ∧ isStr t = true ∧ i = 0)
abbrev P_c_sNode (k : Int) (n : Int) (t : ByteArray) (i : Int) : Ct := ⟨128, [], [li k, li n, ls t, li i], [], .sv (lb (nodD k n t i))⟩
theorem c_sNode (k n : Int) (t : ByteArray) (i : Int)  : P_c_sNode k n t i := fnOK Tryd.call128 Tryd.func128 (.i (k = 0) (.i (n = 0) (.s (lb (decide (t.data.toList = [])))) (.s (lb
 false))) (.i (k = 1) (.i (n = 0) (.c [.rd] (c_sIsSymbol t) (.b (isSym t) (.s (lb (decide (i = 0)))) (.s (lb false)))) (.y false (.s (lb false)))) (.i (k = 2) (.c [.rd, .rd, .rd]
 (c_l1In n (-999999999 : Int) 999999999) (.i ((-999999999 : Int) ≤ n ∧ n ≤ 999999999) (.i (t.data.toList = []) (.s (lb (decide (i = 0)))) (.s (lb false))) (.y false (.s (lb
 false))))) (.i (k = 3) (.c [.rd, .rd, .rd] (c_l1In n 0 1) (.i (0 ≤ n ∧ n ≤ 1) (.i (t.data.toList = []) (.s (lb (decide (i = 0)))) (.s (lb false))) (.y false (.s (lb false))))) (.i
 (k = 4) (.i (n = 0) (.c [.rd] (c_sString t) (.b (isStr t) (.s (lb (decide (i = 0)))) (.s (lb false)))) (.y false (.s (lb false)))) (.s (lb false))))))) (by
  dsimp only [teasy, P_c_sNode]
  with_reducible repeat' (first | apply And.intro | exact zR | (intro; skip))
  all_goals (try simp only [std, inj] at *)
  all_goals with_reducible repeat' apply And.intro
  all_goals (try (first | exact z | grind [nodD, snocI, snocS, rowSnoc])))
abbrev P_c_iNode (k : Int) (n : Int) (t : ByteArray) (i : Int) : Ct := ⟨130, [], [li k, li n, ls t, li i], [], .sv (lb (nodD k n t i))⟩
theorem c_iNode (k n : Int) (t : ByteArray) (i : Int)  : P_c_iNode k n t i := fnOK Tryd.call130 Tryd.func130 (.i (k = 0) (.i (n = 0) (.s (lb (decide (t.data.toList = [])))) (.s (lb
 false))) (.i (k = 1) (.i (n = 0) (.i (i = 0) (.c [.rd] (c_iIsSymbol t) (.s (lb (isSym t)))) (.s (lb false))) (.y false (.s (lb false)))) (.i (k = 2) (.i ((-999999999 : Int) ≤ n)
 (.i (n ≤ 999999999) (.i (t.data.toList = []) (.s (lb (decide (i = 0)))) (.s (lb false))) (.y false (.s (lb false)))) (.y false (.y false (.s (lb false))))) (.i (k = 3) (.i (n = 0)
 (.y true (.i (t.data.toList = []) (.s (lb (decide (i = 0)))) (.s (lb false)))) (.i (n = 1) (.i (t.data.toList = []) (.s (lb (decide (i = 0)))) (.s (lb false))) (.y false (.s (lb
 false))))) (.i (k = 4) (.i (n = 0) (.i (i = 0) (.c [.rd] (c_iString t) (.s (lb (isStr t)))) (.s (lb false))) (.y false (.s (lb false)))) (.s (lb false))))))) (by
  dsimp only [teasy, P_c_iNode]
  with_reducible repeat' (first | apply And.intro | exact zR | (intro; skip))
  all_goals (try simp only [std, inj] at *)
  all_goals with_reducible repeat' apply And.intro
  all_goals (try (first | exact z | grind [nodD, snocI, snocS, rowSnoc])))
mutual
def sizeD : Datum → Nat
  | ⟨_, _, _, l⟩ => sizeDs l + 1
def sizeDs : List Datum → Nat
  | [] => 0
  | c :: r => sizeD c + sizeDs r
end
theorem sizeDs_eq : ∀ l, sizeDs l = sumBy sizeD l
  | [] => by simp [sizeDs, sumBy]
  | c :: r => by rw [sizeDs, sumBy, sizeDs_eq r]
theorem sizeD_eq (c : Datum) : sizeD c = sumBy sizeD c.items + 1 := by cases c; simp only [sizeD, sizeDs_eq]
mutual
def depD : Datum → Nat
  | ⟨_, _, _, l⟩ => depDs l + 1
def depDs : List Datum → Nat
  | [] => 0
  | c :: r => max (depD c) (depDs r)
end
theorem depDs_eq : ∀ l, depDs l = maxBy depD l
  | [] => by simp [depDs, maxBy]
  | c :: r => by rw [depDs, maxBy, depDs_eq r]
theorem depD_eq (c : Datum) : depD c = maxBy depD c.items + 1 := by cases c; simp only [depD, depDs_eq]
theorem depD_le : ∀ c : Datum, depD c ≤ sizeD c := by
  refine Datum.ind fun c ih => ?_
  have := maxBy_sum ih
  rw [sizeD_eq, depD_eq]; omega
mutual
def okD : Datum → Bool
  | ⟨k, n, t, l⟩ => okDs l && nodD k n t l.length
def okDs : List Datum → Bool
  | [] => true
  | c :: r => okD c && okDs r
end
theorem okDs_eq : ∀ l, okDs l = l.all okD
  | [] => by simp [okDs]
  | c :: r => by rw [okDs, okDs_eq r]; rfl
theorem okD_eq (c : Datum) : okD c = (c.items.all okD && nodD c.kind c.number c.text c.items.length) := by cases c; simp only [okD, okDs_eq]
def isDat (d : Datum) : Bool := decide (sizeD d ≤ 600) && decide (depD d ≤ 20) && okD d
mutual
def meaD : Datum → Int → Int → Bool × Int
  | ⟨k, n, t, l⟩, deep, m => if deep ≤ 20 ∧ m + 1 ≤ 600 ∧ nodD k n t l.length = true then meaDs l (deep + 1) (m + 1) else (false, m + 1)
def meaDs : List Datum → Int → Int → Bool × Int
  | [], _, m => (true, m)
  | x :: r, deep, m => if (meaD x deep m).1 then meaDs r deep (meaD x deep m).2 else (false, (meaD x deep m).2)
end
theorem meaDs_eq : ∀ l deep m, meaDs l deep m = scan (fun x m => meaD x deep m) l m
  | [], _, _ => by simp [meaDs, scan]
  | x :: r, deep, m => by simp only [meaDs, scan, meaDs_eq r]
theorem meaD_eq (c : Datum) (deep m : Int) : meaD c deep m = if deep ≤ 20 ∧ m + 1 ≤ 600 ∧ nodD c.kind c.number c.text c.items.length = true then scan (fun x m => meaD x (deep + 1) m) c.items (m + 1) else (false, m + 1) := by cases c; simp only [meaD, meaDs_eq]
theorem meaD_of : ∀ (c : Datum) (deep m : Int), m ≤ 600 → ((meaD c deep m).1 = true ↔ (m + sizeD c ≤ 600 ∧ (deep + depD c ≤ 21 ∧ okD c = true))) ∧ ((meaD c deep m).1 = true → (meaD c deep m).2 = m + sizeD c) := by
  refine Datum.ind fun c ih deep m hm => ?_
  rw [meaD_eq, sizeD_eq, depD_eq, okD_eq, Bool.and_eq_true, List.all_eq_true]
  by_cases h : deep ≤ 20 ∧ m + 1 ≤ 600 ∧ nodD c.kind c.number c.text c.items.length = true
  · rw [if_pos h]
    have h1 := scan_of (fun x m => meaD x (deep + 1) m) sizeD (fun x => deep + 1 + depD x ≤ 21 ∧ okD x = true) 600 c.items (fun x hx m hm => ih x hx (deep + 1) m hm) (m + 1) h.2.1
    have h2 := maxBy_le depD (m := (20 - deep).toNat) (L := c.items)
    constructor
    · rw [h1.1]
      constructor
      · rintro ⟨a, b⟩
        have := h2.2 fun x hx => by have := (b x hx).1; omega
        exact ⟨by omega, by omega, fun x hx => (b x hx).2, h.2.2⟩
      · rintro ⟨a, b, d, e⟩
        have := h2.1 (by omega)
        exact ⟨by omega, fun x hx => ⟨by have := this x hx; omega, d x hx⟩⟩
    · intro ht; rw [h1.2 ht]; omega
  · rw [if_neg h]
    refine ⟨⟨fun e => Bool.noConfusion e, ?_⟩, fun e => Bool.noConfusion e⟩
    rintro ⟨a, b, d, e⟩
    exact absurd ⟨by omega, by omega, e⟩ h
theorem meaD_isDat (d : Datum) : (meaD d 1 0).1 = isDat d := by
  have h := (meaD_of d 1 0 (by decide)).1
  rw [Bool.eq_iff_iff, h]
  simp only [isDat, Bool.and_eq_true, decide_eq_true_eq, and_assoc]
  constructor
  · rintro ⟨a, b, e⟩; exact ⟨by omega, by omega, e⟩
  · rintro ⟨a, b, e⟩; exact ⟨by omega, by omega, e⟩
abbrev P_c_sFewD (d : Datum) (l : Int) : Ct := ⟨100, [.box [vI l]], [datumA d, .one (.ptr 0 0)], [.box [vI (max (l - sizeD d) (-1))]], .sv (lb (decide (sizeD d ≤ l)))⟩
def lc_sFewD_sLa (d : Datum) (l : Int) : Lp Nat := .mk 36 1 (fun x => [(1, SV.one (AC.ptr 0 0)), (2, SV.one (AC.ptr 1 0)), (5, hs x 0)]) (fun x => [Ob.box [ha x 1], Ob.box (vals
 (datumF d))]) (fun k => [.s (li (↑k : Int)), .a (vI (max (l - 1 - (↑(sumBy sizeD (List.take k d.items)) : Int)) (-1 : Int)))]) (fun k => d.items.length ≥ k) (fun k =>
 d.items.length - k) [.mk True (.exit 0) (fun x => [(1, SV.one (AC.ptr 0 0))]) (fun x => [Ob.box [ha x 0]]) [.a (vI (max (l - (↑(sizeD d) : Int)) (-1 : Int)))]]
theorem Sc_sFewD_sLa (d : Datum) (l : Int) (h : 0 ≤ l ∧ l ≤ 1000000) (ih : ∀ (z : Datum), z ∈ d.items → ∀ (l : Int), 0 ≤ l ∧ l ≤ 1000000 → OK (P_c_sFewD z l)) : Lp.Sem Tryd.prog
 (loopAt Tryd.f100 0) (lc_sFewD_sLa d l) := lpOK (fun k => .z datumC d.items (.i ((↑k : Int) < (↑(List.map datumC d.items).length : Int)) (.i (0 ≤ max (l - 1 - (↑(sumBy sizeD
 (List.take k d.items)) : Int)) (-1 : Int)) (.x (↑k : Int) (List.map datumC d.items) (datumF (d.items.getD k default)) (.d [.rd, .ptr] (P_c_sFewD (d.items.getD k default) (max (l -
 1 - (↑(sumBy sizeD (List.take k d.items)) : Int)) (-1 : Int))) (.r ((↑k : Int) + 1) (.g [0, 1] (k + 1) [.s (li ((↑k : Int) + 1)), .a (vI (max (max (l - 1 - (↑(sumBy sizeD
 (List.take k d.items)) : Int)) (-1 : Int) - (↑(sizeD (d.items.getD k default)) : Int)) (-1 : Int)))])))) (.o 0 [0] [.a (vI (max (l - 1 - (↑(sumBy sizeD (List.take k d.items)) :
 Int)) (-1 : Int)))])) (.y false (.o 0 [0] [.a (vI (max (l - 1 - (↑(sumBy sizeD (List.take k d.items)) : Int)) (-1 : Int)))])))) (by
  intro k h; try dsimp only [teasy, nthW, lc_sFewD_sLa] at h ⊢
  have g1 := sizeD_eq d
  have g2 := sumBy_takeLe sizeD d.items k
  have g3 := @sumBy_step _ _ sizeD d.items k
  with_reducible repeat' (first | apply And.intro | exact zR | exact ih | (intro; skip) | apply ih)
  all_goals (try simp only [std, inj] at *)
  all_goals with_reducible repeat' apply And.intro
  all_goals (try (first | with_reducible apply ih | (simp only [← List.map_append]; first | with_reducible apply ih)))
  all_goals (try (first | exact z | grind [getD_mem', snocI, snocS, rowSnoc])))
theorem c_sFewD_s (d : Datum) (l : Int) (h : 0 ≤ l ∧ l ≤ 1000000) (ih : ∀ z ∈ d.items, ∀ (l : Int) (h : 0 ≤ l ∧ l ≤ 1000000), P_c_sFewD z l)  : P_c_sFewD d l := fnOK Tryd.call100
 Tryd.func100 (.r (l - 1) (.l (lc_sFewD_sLa d l) (Sc_sFewD_sLa d l h ih) [0, 1] [.s (li 0), .a (vI (l - 1))] 0 (.t (.f [] [Ob.box [vI (max (l - (↑(sizeD d) : Int)) (-1 : Int))]]
 (AV.sv (lb (decide (0 ≤ max (l - (↑(sizeD d) : Int)) (-1 : Int)))))) .q))) (by
  dsimp only [teasy, P_c_sFewD, nthW, lc_sFewD_sLa]
  have g1 := sizeD_eq d
  have g2 : sumBy sizeD (d.items.take 0) = 0 := rfl
  with_reducible repeat' (first | apply And.intro | exact zR | exact ih | (intro; skip))
  all_goals (try simp only [std, inj] at *)
  all_goals with_reducible repeat' apply And.intro
  all_goals (try (first | with_reducible apply ih | (simp only [← List.map_append]; first | with_reducible apply ih)))
  all_goals (try (first | exact z | grind [snocI, snocS, rowSnoc])))
theorem c_sFewD (d : Datum) : ∀ (l : Int) (h : 0 ≤ l ∧ l ≤ 1000000), P_c_sFewD d l := Datum.ind (P := fun d => ∀ (l : Int) (h : 0 ≤ l ∧ l ≤ 1000000), P_c_sFewD d l) (fun d ih l h => c_sFewD_s d l h ih) d
abbrev P_c_sDepD (d : Datum) : Ct := ⟨101, [], [datumA d], [], .sv (li (depD d))⟩
def lc_sDepD_sLa (d : Datum) : Lp Nat := .mk 20 0 (fun x => [(3, hs x 1), (7, ll (List.map datumC d.items)), (8, li (↑(List.map datumC d.items).length : Int)), (9, hs x 0)]) (fun x
 => []) (fun k => [.s (li (↑k : Int)), .s (li (↑(maxBy depD (List.take k d.items)) : Int))]) (fun k => k ≤ d.items.length ∧ d.items.length ≤ 9223372036854775807) (fun k =>
 d.items.length - k) [.mk True (.exit 0) (fun x => [(3, hs x 0)]) (fun x => []) [.s (li (↑(maxBy depD d.items) : Int))]]
theorem Sc_sDepD_sLa (d : Datum) (h : sizeD d ≤ 2147483647) (ih : ∀ (z : Datum), z ∈ d.items → sizeD z ≤ 2147483647 → OK (P_c_sDepD z)) : Lp.Sem Tryd.prog (loopAt Tryd.f101 0)
 (lc_sDepD_sLa d) := lpOK (fun k => .i ((↑k : Int) < (↑(List.map datumC d.items).length : Int)) (.x (↑k : Int) (List.map datumC d.items) (datumF (d.items.getD k default)) (.d [.rd]
 (P_c_sDepD (d.items.getD k default)) (.r ((↑k : Int) + 1) (.g [] (k + 1) [.s (li ((↑k : Int) + 1)), .s (li (max (↑(maxBy depD (List.take k d.items)) : Int) (↑(depD (d.items.getD k
 default)) : Int)))])))) (.o 0 [] [.s (li (↑(maxBy depD (List.take k d.items)) : Int))])) (by
  intro k h; try dsimp only [teasy, nthW, lc_sDepD_sLa] at h ⊢
  have g1 := sizeD_eq d
  have g2 := @sumBy_mem _ sizeD d.items (d.items.getD k default)
  with_reducible repeat' (first | apply And.intro | exact zR | exact ih | (intro; skip) | apply ih)
  all_goals (try simp only [std, inj] at *)
  all_goals with_reducible repeat' apply And.intro
  all_goals (try (first | with_reducible apply ih | (simp only [← List.map_append]; first | with_reducible apply ih)))
  all_goals (try (first | exact z | grind [maxBy_step, getD_mem', snocI, snocS, rowSnoc])))
theorem c_sDepD_s (d : Datum) (h : sizeD d ≤ 2147483647) (ih : ∀ z ∈ d.items, ∀ (h : sizeD z ≤ 2147483647), P_c_sDepD z)  : P_c_sDepD d := fnOK Tryd.call101 Tryd.func101 (.z datumC
 d.items (.l (lc_sDepD_sLa d) (Sc_sDepD_sLa d h ih) [] [.s (li 0), .s (li 0)] 0 (.t (.r ((↑(maxBy depD d.items) : Int) + 1) (.s (li ((↑(maxBy depD d.items) : Int) + 1)))) .q))) (by
  dsimp only [teasy, P_c_sDepD, nthW, lc_sDepD_sLa]
  have h1 := depD_le d
  have g2 : maxBy depD (d.items.take 0) = 0 := rfl
  with_reducible repeat' (first | apply And.intro | exact zR | exact ih | (intro; skip))
  all_goals (try simp only [std, inj] at *)
  all_goals with_reducible repeat' apply And.intro
  all_goals (try (first | with_reducible apply ih | (simp only [← List.map_append]; first | with_reducible apply ih)))
  all_goals (try (first | exact z | grind [depD_eq, snocI, snocS, rowSnoc])))
theorem c_sDepD (d : Datum) : ∀ (h : sizeD d ≤ 2147483647), P_c_sDepD d := Datum.ind (P := fun d => ∀ (h : sizeD d ≤ 2147483647), P_c_sDepD d) (fun d ih h => c_sDepD_s d h ih) d
abbrev P_c_sOkD (d : Datum) : Ct := ⟨102, [], [datumA d], [], .sv (lb (okD d))⟩
def lc_sOkD_sLa (d : Datum) : Lp Nat := .mk 26 0 (fun x => [(1, SV.one (AC.ptr 0 0)), (6, ll (List.map datumC d.items)), (7, li (↑(List.map datumC d.items).length : Int)), (8, hs x
 0)]) (fun x => [Ob.box (vals (datumF d))]) (fun k => [.s (li (↑k : Int))]) (fun k => k ≤ d.items.length ∧ d.items.length ≤ 9223372036854775807 ∧ (List.take k d.items).all okD =
 true) (fun k => d.items.length - k) [.mk (d.items.all okD = true) (.exit 0) (fun x => [(1, SV.one (AC.ptr 0 0))]) (fun x => [Ob.box (vals (datumF d))]) [], .mk (d.items.all okD =
 false) .ret (fun x => [(2, hs x 0)]) (fun x => []) [.s (lb false)]]
theorem Sc_sOkD_sLa (d : Datum) (ih : ∀ (z : Datum), z ∈ d.items → OK (P_c_sOkD z)) : Lp.Sem Tryd.prog (loopAt Tryd.f102 0) (lc_sOkD_sLa d) := lpOK (fun k => .i ((↑k : Int) <
 (↑(List.map datumC d.items).length : Int)) (.x (↑k : Int) (List.map datumC d.items) (datumF (d.items.getD k default)) (.d [.rd] (P_c_sOkD (d.items.getD k default)) (.b (!okD
 (d.items.getD k default)) (.o 1 [] [.s (lb false)]) (.r ((↑k : Int) + 1) (.g [0] (k + 1) [.s (li ((↑k : Int) + 1))]))))) (.o 0 [0] [])) (by
  intro k h; try dsimp only [teasy, nthW, lc_sOkD_sLa] at h ⊢
  with_reducible repeat' (first | apply And.intro | exact zR | exact ih | (intro; skip) | apply ih)
  all_goals (try simp only [std, inj] at *)
  all_goals with_reducible repeat' apply And.intro
  all_goals (try (first | with_reducible apply ih | (simp only [← List.map_append]; first | with_reducible apply ih)))
  all_goals (try (first | exact z | grind [take_get, getD_mem', snocI, snocS, rowSnoc])))
theorem c_sOkD_s (d : Datum) (ih : ∀ z ∈ d.items, P_c_sOkD z)  : P_c_sOkD d := fnOK Tryd.call102 Tryd.func102 (.z datumC d.items (.l (lc_sOkD_sLa d) (Sc_sOkD_sLa d ih) [0] [.s (li
 0)] 0 (.t (.z datumC d.items (.c [.rd, .rd, .rd, .rd] (c_sNode d.kind d.number d.text (↑(List.map datumC d.items).length : Int)) (.s (lb (nodD d.kind d.number d.text (↑(List.map
 datumC d.items).length : Int)))))) (.t (.s (lb false)) .q)))) (by
  dsimp only [teasy, P_c_sOkD, nthW, lc_sOkD_sLa]
  with_reducible repeat' (first | apply And.intro | exact zR | exact ih | (intro; skip))
  all_goals (try simp only [std, inj] at *)
  all_goals with_reducible repeat' apply And.intro
  all_goals (try (first | with_reducible apply ih | (simp only [← List.map_append]; first | with_reducible apply ih)))
  all_goals (try (first | exact z | grind [okD_eq, snocI, snocS, rowSnoc])))
theorem c_sOkD (d : Datum) : P_c_sOkD d := Datum.ind (P := fun d => P_c_sOkD d) (fun d ih => c_sOkD_s d ih) d
abbrev P_c_sIsDatum (d : Datum) : Ct := ⟨61, [], [datumA d], [], .sv (lb (isDat d))⟩
theorem c_sIsDatum (d : Datum)  : P_c_sIsDatum d := fnOK Tryd.call61 Tryd.func61 (.d [.rd, .ptr] (P_c_sFewD d 600) (.i ((↑(sizeD d) : Int) ≤ 600) (.d [.rd] (P_c_sDepD d) (.i ((↑(depD
 d) : Int) ≤ 20) (.c [.rd] (c_sOkD d) (.s (lb (okD d)))) (.s (lb false)))) (.y false (.s (lb false))))) (by
  dsimp only [teasy, P_c_sIsDatum]
  with_reducible repeat' (first | apply And.intro | exact zR | (intro; skip) | apply c_sFewD | apply c_sDepD)
  all_goals (try simp only [std, inj] at *)
  all_goals with_reducible repeat' apply And.intro
  all_goals (try (first | with_reducible apply c_sFewD | with_reducible apply c_sDepD | (simp only [← List.map_append]; first | with_reducible apply c_sFewD | with_reducible apply c_sDepD)))
  all_goals (try (first | exact z | grind [isDat, snocI, snocS, rowSnoc])))
abbrev P_c_iMeaD (d : Datum) (deep : Int) (q : Int) : Ct := ⟨106, [.box [vI q]], [datumA d, li deep, .one (.ptr 0 0)], [.box [vI (meaD d deep q).2]], .sv (lb (meaD d deep q).1)⟩
def lc_iMeaD_sLa (d : Datum) (deep : Int) (q : Int) : Lp Nat := .mk 49 1 (fun x => [(1, li deep), (2, SV.one (AC.ptr 0 0)), (36, ll (List.map datumC d.items)), (37, li (↑(List.map
 datumC d.items).length : Int)), (38, hs x 0)]) (fun x => [Ob.box [ha x 1]]) (fun k => [.s (li (↑k : Int)), .a (vI (scan (fun x m => meaD x (deep + 1) m) (List.take k d.items) (q +
 1)).snd)]) (fun k => k ≤ d.items.length ∧ d.items.length ≤ 9223372036854775807 ∧ deep ≤ 20 ∧ (scan (fun x m => meaD x (deep + 1) m) (List.take k d.items) (q + 1)).fst = true ∧ q ≤
 (scan (fun x m => meaD x (deep + 1) m) (List.take k d.items) (q + 1)).snd ∧ (scan (fun x m => meaD x (deep + 1) m) (List.take k d.items) (q + 1)).snd ≤ 600) (fun k =>
 d.items.length - k) [.mk ((scan (fun x m => meaD x (deep + 1) m) d.items (q + 1)).fst = true) (.exit 0) (fun x => []) (fun x => [Ob.box [ha x 0]]) [.a (vI (scan (fun x m => meaD x
 (deep + 1) m) d.items (q + 1)).snd)], .mk ((scan (fun x m => meaD x (deep + 1) m) d.items (q + 1)).fst = false) .ret (fun x => [(6, hs x 0)]) (fun x => [Ob.box [ha x 1]]) [.s (lb
 false), .a (vI (scan (fun x m => meaD x (deep + 1) m) d.items (q + 1)).snd)]]
theorem Sc_iMeaD_sLa (d : Datum) (deep : Int) (q : Int) (h : 0 ≤ deep ∧ deep ≤ 21 ∧ 0 ≤ q ∧ q ≤ 600) (ih : ∀ (z : Datum), z ∈ d.items → ∀ (deep q : Int), 0 ≤ deep ∧ deep ≤ 21 ∧ 0 ≤
 q ∧ q ≤ 600 → OK (P_c_iMeaD z deep q)) : Lp.Sem Tryd.prog (loopAt Tryd.f106 0) (lc_iMeaD_sLa d deep q) := lpOK (fun k => .i ((↑k : Int) < (↑(List.map datumC d.items).length :
 Int)) (.x (↑k : Int) (List.map datumC d.items) (datumF (d.items.getD k default)) (.r (deep + 1) (.d [.rd, .rd, .ptr] (P_c_iMeaD (d.items.getD k default) (deep + 1) (scan (fun x m
 => meaD x (deep + 1) m) (List.take k d.items) (q + 1)).snd) (.b (!(meaD (d.items.getD k default) (deep + 1) (scan (fun x m => meaD x (deep + 1) m) (List.take k d.items) (q +
 1)).snd).fst) (.o 1 [0] [.s (lb false), .a (vI (meaD (d.items.getD k default) (deep + 1) (scan (fun x m => meaD x (deep + 1) m) (List.take k d.items) (q + 1)).snd).snd)]) (.r ((↑k
 : Int) + 1) (.g [0] (k + 1) [.s (li ((↑k : Int) + 1)), .a (vI (meaD (d.items.getD k default) (deep + 1) (scan (fun x m => meaD x (deep + 1) m) (List.take k d.items) (q +
 1)).snd).snd)])))))) (.o 0 [0] [.a (vI (scan (fun x m => meaD x (deep + 1) m) (List.take k d.items) (q + 1)).snd)])) (by
  intro k h; try dsimp only [teasy, nthW, lc_iMeaD_sLa] at h ⊢
  have g1 := fun x m => meaD_of x (deep + 1) m
  with_reducible repeat' (first | apply And.intro | exact zR | exact ih | (intro; skip) | apply ih)
  all_goals (try simp only [std, inj] at *)
  all_goals with_reducible repeat' apply And.intro
  all_goals (try (first | with_reducible apply ih | (simp only [← List.map_append]; first | with_reducible apply ih)))
  all_goals (try (first | exact z | grind [scan_step, scan_stop, getD_mem', snocI, snocS, rowSnoc])))
theorem c_iMeaD_s (d : Datum) (deep q : Int) (h : 0 ≤ deep ∧ deep ≤ 21 ∧ 0 ≤ q ∧ q ≤ 600) (ih : ∀ z ∈ d.items, ∀ (deep : Int) (q : Int) (h : 0 ≤ deep ∧ deep ≤ 21 ∧ 0 ≤ q ∧ q ≤
 600), P_c_iMeaD z deep q)  : P_c_iMeaD d deep q := fnOK Tryd.call106 Tryd.func106 (.r (q + 1) (.i (20 < deep) (.y true (.y true (.f [] [Ob.box [vI (q + 1)]] (AV.sv (lb false)))))
 (.i (600 < q + 1) (.y true (.f [] [Ob.box [vI (q + 1)]] (AV.sv (lb false)))) (.z datumC d.items (.c [.rd, .rd, .rd, .rd] (c_iNode d.kind d.number d.text (↑(List.map datumC
 d.items).length : Int)) (.b (!nodD d.kind d.number d.text (↑(List.map datumC d.items).length : Int)) (.f [] [Ob.box [vI (q + 1)]] (AV.sv (lb false))) (.z datumC d.items (.l
 (lc_iMeaD_sLa d deep q) (Sc_iMeaD_sLa d deep q h ih) [0] [.s (li 0), .a (vI (q + 1))] 0 (.t (.f [] [Ob.box [vI (scan (fun x m => meaD x (deep + 1) m) d.items (q + 1)).snd]] (AV.sv
 (lb true))) (.t (.f [] [Ob.box [vI (scan (fun x m => meaD x (deep + 1) m) d.items (q + 1)).snd]] (AV.sv (lb false))) .q)))))))))) (by
  dsimp only [teasy, P_c_iMeaD, nthW, lc_iMeaD_sLa]
  with_reducible repeat' (first | apply And.intro | exact zR | exact ih | (intro; skip))
  all_goals (try simp only [std, inj] at *)
  all_goals with_reducible repeat' apply And.intro
  all_goals (try (first | with_reducible apply ih | (simp only [← List.map_append]; first | with_reducible apply ih)))
  all_goals (try (first | exact z | grind [meaD_eq, scan, snocI, snocS, rowSnoc])))
theorem c_iMeaD (d : Datum) : ∀ (deep : Int) (q : Int) (h : 0 ≤ deep ∧ deep ≤ 21 ∧ 0 ≤ q ∧ q ≤ 600), P_c_iMeaD d deep q := Datum.ind (P := fun d => ∀ (deep : Int) (q : Int) (h : 0 ≤ deep ∧ deep ≤ 21 ∧ 0 ≤ q ∧ q ≤ 600), P_c_iMeaD d deep q) (fun d ih deep q h => c_iMeaD_s d deep q h ih) d
abbrev P_c_iIsDatum (d : Datum) : Ct := ⟨65, [], [datumA d], [], .sv (lb (isDat d))⟩
theorem c_iIsDatum (d : Datum)  : P_c_iIsDatum d := fnOK Tryd.call65 Tryd.func65 (.d [.rd, .rd, .ptr] (P_c_iMeaD d 1 0) (.s (lb (meaD d 1 0).fst))) (by
  dsimp only [teasy, P_c_iIsDatum]
  with_reducible repeat' (first | apply And.intro | exact zR | (intro; skip) | apply c_iMeaD)
  all_goals (try simp only [std, inj] at *)
  all_goals with_reducible repeat' apply And.intro
  all_goals (try (first | with_reducible apply c_iMeaD | (simp only [← List.map_append]; first | with_reducible apply c_iMeaD)))
  all_goals (try (first | exact z | grind [meaD_isDat, snocI, snocS, rowSnoc])))
end Go.Proofs.YtpflccjienojfaaDoor
end
section
namespace Go.Proofs.YtpflccjienojfaaDoor
open Go Go.Proofs.YtpflccjienojfaaDoor.Ab
set_option linter.unusedVariables false
theorem dec_one {u : Nat} (h : u < 10) : Lib.decDigits u = [UInt8.ofNat (48 + u)] := by rw [Lib.decDigits, dif_pos h]
theorem dec_more {u : Nat} (h : ¬ u < 10) : Lib.decDigits u = Lib.decDigits (u / 10) ++ [UInt8.ofNat (48 + u % 10)] := by rw [Lib.decDigits, dif_neg h]
theorem dec_len : ∀ (k u : Nat), u < 10 ^ (k + 1) → (Lib.decDigits u).length ≤ k + 1
  | k, u, h => by
    by_cases hu : u < 10
    · rw [dec_one hu]; simp
    · cases k with
      | zero => exact absurd (by simpa using h) hu
      | succ k =>
        have := dec_len k (u / 10) (by rw [Nat.pow_succ] at h; omega)
        rw [dec_more hu]; simp only [List.length_append, List.length_cons, List.length_nil]; omega
def dgs (u : Nat) : List UInt8 := if u = 0 then [] else Lib.decDigits u
theorem dgs_step {u : Nat} (h : u ≠ 0) : dgs u = dgs (u / 10) ++ [UInt8.ofNat (48 + u % 10)] := by
  unfold dgs
  rw [if_neg h]
  by_cases hu : u < 10
  · rw [dec_one hu, if_pos (by omega), Nat.mod_eq_of_lt hu]; rfl
  · rw [dec_more hu, if_neg (by omega)]
theorem dgs_zero : dgs 0 = [] := rfl
theorem dgs_ne {u : Nat} (h : u ≠ 0) : dgs u = Lib.decDigits u := if_neg h
theorem itoa_pos {n : Int} (h : 0 ≤ n) : Lib.itoa n = Lib.decDigits n.natAbs := by
  unfold Lib.itoa; rw [if_neg (by omega)]; congr 1; omega
theorem itoa_neg {n : Int} (h : n < 0) : Lib.itoa n = 45 :: Lib.decDigits n.natAbs := by unfold Lib.itoa; rw [if_pos h]
theorem itoa_zero : Lib.itoa 0 = [48] := by rw [itoa_pos (by decide)]; exact dec_one (by decide)
theorem itoa_len {n : Int} (h : -9223372036854775808 ≤ n ∧ n ≤ 9223372036854775807) : (Lib.itoa n).length ≤ 21 := by
  have e : (10 : Nat) ^ (19 + 1) = 100000000000000000000 := by decide
  have := dec_len 19 n.natAbs (by omega)
  by_cases hn : n < 0
  · rw [itoa_neg hn]; simp only [List.length_cons]; omega
  · rw [itoa_pos (by omega)]; omega
theorem itoa_len9 {n : Int} (h : -999999999 ≤ n ∧ n ≤ 999999999) : (Lib.itoa n).length ≤ 10 := by
  have e : (10 : Nat) ^ (8 + 1) = 1000000000 := by decide
  have := dec_len 8 n.natAbs (by omega)
  by_cases hn : n < 0
  · rw [itoa_neg hn]; simp only [List.length_cons]; omega
  · rw [itoa_pos (by omega)]; omega
theorem dec_ge {n : Int} (h : -9223372036854775808 ≤ n ∧ n ≤ 9223372036854775807) : (Lib.decDigits n.natAbs).length ≤ 20 := by
  have e : (10 : Nat) ^ (19 + 1) = 100000000000000000000 := by decide
  exact dec_len 19 n.natAbs (by omega)
theorem rng_u8 {n : Int} : rng .u8 n ↔ 0 ≤ n ∧ n ≤ 255 := by
  simp [rng, IntKind.min, IntKind.max, IntKind.signed, IntKind.bits]
theorem u8_back {m : Int} (h : 0 ≤ m ∧ m ≤ 255) : ((UInt8.ofNat m.toNat).toNat : Int) = m := by
  rw [UInt8.toNat_ofNat']; omega
end Go.Proofs.YtpflccjienojfaaDoor
end
section
namespace Go.Proofs.YtpflccjienojfaaDoor
open Go Go.Proofs.YtpflccjienojfaaDoor.Ab
set_option linter.unusedVariables false
set_option linter.unusedSimpArgs false
set_option maxHeartbeats 4000000
abbrev P_c_sNum (n : Int) : Ct := ⟨68, [], [li n], [], .sv (ls (mkS (Lib.itoa n)))⟩
def lc_sNumLa (n : Int) : Lp (Int × List UInt8) := .mk 31 0 (fun x => [(0, li n), (3, hs x 1), (4, hs x 0)]) (fun x => []) (fun k => [.s (li k.fst), .s (ls (mkS k.snd))]) (fun k =>
 n ≠ 0 ∧ dgs k.fst.natAbs ++ k.snd = Lib.decDigits n.natAbs ∧ (-9223372036854775808 : Int) ≤ k.fst ∧ k.fst ≤ 9223372036854775807) (fun k => k.fst.natAbs) [.mk True (.exit 0) (fun x
 => [(0, li n), (3, hs x 0)]) (fun x => []) [.s (ls (mkS (Lib.decDigits n.natAbs)))]]
theorem Sc_sNumLa (n : Int) (h : (-9223372036854775808 : Int) ≤ n ∧ n ≤ 9223372036854775807) : Lp.Sem Tryd.prog (loopAt Tryd.f68 0) (lc_sNumLa n) := lpOK (fun k => .i (k.fst ≠ 0)
 (.p ((10 : Int) ≠ 0) (.i (k.fst.tmod (10 : Int) < 0) (.r (0 - k.fst.tmod 10) (.r (48 + (0 - k.fst.tmod 10)) (.p (rng IntKind.u8 (48 + (0 - k.fst.tmod 10))) (.w (.bytes
 [UInt8.ofNat (48 + (0 - k.fst.tmod 10)).toNat]) (.p ([[Cell.lit (Value.int IntKind.u8 (48 + (0 - k.fst.tmod 10)))]] = [[Cell.lit (Value.int IntKind.u8 (↑(UInt8.ofNat (48 + (0 -
 k.fst.tmod 10)).toNat).toNat : Int))]]) (.p (1 + k.snd.length ≤ 9223372036854775807) (.p ((10 : Int) ≠ 0) (.r (k.fst.tdiv 10) (.g [] (k.fst.tdiv 10, [UInt8.ofNat (48 + (0 -
 k.fst.tmod 10)).toNat] ++ k.snd) [.s (li (k.fst.tdiv 10)), .s (ls (ByteArray.mk ([UInt8.ofNat (48 + (0 - k.fst.tmod 10)).toNat] ++ k.snd).toArray))]))))))))) (.r (48 + k.fst.tmod
 10) (.p (rng IntKind.u8 (48 + k.fst.tmod 10)) (.w (.bytes [UInt8.ofNat (48 + k.fst.tmod 10).toNat]) (.p ([[Cell.lit (Value.int IntKind.u8 (48 + k.fst.tmod 10))]] = [[Cell.lit
 (Value.int IntKind.u8 (↑(UInt8.ofNat (48 + k.fst.tmod 10).toNat).toNat : Int))]]) (.p (1 + k.snd.length ≤ 9223372036854775807) (.p ((10 : Int) ≠ 0) (.r (k.fst.tdiv 10) (.g []
 (k.fst.tdiv 10, [UInt8.ofNat (48 + k.fst.tmod 10).toNat] ++ k.snd) [.s (li (k.fst.tdiv 10)), .s (ls (ByteArray.mk ([UInt8.ofNat (48 + k.fst.tmod 10).toNat] ++
 k.snd).toArray))])))))))))) (.o 0 [] [.s (ls (mkS k.snd))])) (by
  intro k h; try dsimp only [teasy, nthW, lc_sNumLa] at h ⊢
  obtain ⟨x, o⟩ := k
  simp only at *
  have g1 := @dgs_step x.natAbs
  have g2 : (x.tdiv 10).natAbs = x.natAbs / 10 := Int.natAbs_tdiv _ _
  have g3 : (x.tmod 10).natAbs = x.natAbs % 10 := Int.natAbs_tmod _ _
  have g4 := congrArg List.length h.2.1
  have g5 := dec_ge (n := n) (by assumption)
  with_reducible repeat' (first | apply And.intro | exact zR | (intro; skip))
  all_goals (try simp only [std, inj] at *)
  all_goals with_reducible repeat' apply And.intro
  all_goals (try (first | exact zw | grind [dgs_zero, snocI, snocS, rowSnoc]))
  all_goals first | (rw [rng_u8]; omega) | (rw [u8_back (by omega)]))
theorem c_sNum (n : Int) (h : -9223372036854775808 ≤ n ∧ n ≤ 9223372036854775807)  : P_c_sNum n := fnOK Tryd.call68 Tryd.func68 (.i (n = 0) (.s (ls (ByteArray.mk #[(48 : UInt8)])))
 (.l (lc_sNumLa n) (Sc_sNumLa n h) [] [.s (li n), .s (ls (ByteArray.mk #[]))] (n, []) (.t (.i (n < 0) (.p (1 + (Lib.decDigits n.natAbs).length ≤ 9223372036854775807) (.s (ls
 (ByteArray.mk ([(45 : UInt8)] ++ Lib.decDigits n.natAbs).toArray)))) (.s (ls (mkS (Lib.decDigits n.natAbs))))) .q))) (by
  dsimp only [teasy, P_c_sNum, nthW, lc_sNumLa]
  have g1 := @itoa_pos n
  have g2 := @itoa_neg n
  have g3 := itoa_zero
  have g4 := dec_ge h
  with_reducible repeat' (first | apply And.intro | exact zR | (intro; skip))
  all_goals (try simp only [std, inj] at *)
  all_goals with_reducible repeat' apply And.intro
  all_goals (try (first | exact zw | grind [dgs_ne, snocI, snocS, rowSnoc])))
end Go.Proofs.YtpflccjienojfaaDoor
end
section
namespace Go.Proofs.YtpflccjienojfaaDoor
open Go Go.Shelf Go.RowKit Go.Proofs.YtpflccjienojfaaDoor.Ab
set_option linter.unusedVariables false
def itoRen : Go.Shelf.Ren := ⟨fun | 171 => 120 | 243 => 135 | 246 => 144 | 283 => 151 | 284 => 152 | 285 => 153 | 286 => 154 | 129 => 161 | 317 => 160 | 318 => 162 | 319 => 163 | 320 => 164 | 337 => 168 | 338 => 169 | n => n, fun | 3 => 3 | 9 => 9 | 2 => 2 | 4 => 4 | 171 => 154 | 0 => 0 | 53 => 155 | 37 => 54 | 5 => 5 | 173 => 158 | 212 => 168 | 51 => 169 | 20 => 20 | 213 => 170 | 46 => 151 | 232 => 185 | 233 => 186 | n => n, fun | 17 => 0 | 18 => 3 | 19 => 4 | n => n⟩
theorem itoLays : Go.Proofs.LaysM.n171 Tryd.prog itoRen := {
  mixed := by kernel_rfl
  f129 := Tryd.func161.trans (congrArg some (by kernel_rfl))
  f171 := Tryd.func120.trans (congrArg some (by kernel_rfl))
  f243 := Tryd.func135.trans (congrArg some (by kernel_rfl))
  f246 := Tryd.func144.trans (congrArg some (by kernel_rfl))
  f283 := Tryd.func151.trans (congrArg some (by kernel_rfl))
  f284 := Tryd.func152.trans (congrArg some (by kernel_rfl))
  f285 := Tryd.func153.trans (congrArg some (by kernel_rfl))
  f286 := Tryd.func154.trans (congrArg some (by kernel_rfl))
  f317 := Tryd.func160.trans (congrArg some (by kernel_rfl))
  f318 := Tryd.func162.trans (congrArg some (by kernel_rfl))
  f319 := Tryd.func163.trans (congrArg some (by kernel_rfl))
  f320 := Tryd.func164.trans (congrArg some (by kernel_rfl))
  f337 := Tryd.func168.trans (congrArg some (by kernel_rfl))
  f338 := Tryd.func169.trans (congrArg some (by kernel_rfl))
  t0 := Tryd.underlying0
  a0 := Tryd.isAgg0
  z0 := Tryd.sizeOf0
  v0 := Tryd.zeroValue0
  t2 := Tryd.underlying2
  a2 := Tryd.isAgg2
  z2 := Tryd.sizeOf2
  v2 := Tryd.zeroValue2
  t3 := Tryd.underlying3
  a3 := Tryd.isAgg3
  z3 := Tryd.sizeOf3
  v3 := Tryd.zeroValue3
  t4 := Tryd.underlying4
  a4 := Tryd.isAgg4
  z4 := Tryd.sizeOf4
  v4 := Tryd.zeroValue4
  t5 := Tryd.underlying5
  a5 := Tryd.isAgg5
  z5 := Tryd.sizeOf5
  v5 := Tryd.zeroValue5
  t9 := Tryd.underlying9
  a9 := Tryd.isAgg9
  z9 := Tryd.sizeOf9
  v9 := Tryd.zeroValue9
  t20 := Tryd.underlying20
  a20 := Tryd.isAgg20
  z20 := Tryd.sizeOf20
  v20 := Tryd.zeroValue20
  t37 := Tryd.underlying54
  a37 := Tryd.isAgg54
  z37 := Tryd.sizeOf54
  v37 := Tryd.zeroValue54
  t46 := Tryd.underlying151
  a46 := Tryd.isAgg151
  z46 := Tryd.sizeOf151
  v46 := Tryd.zeroValue151
  t51 := Tryd.underlying169
  a51 := Tryd.isAgg169
  z51 := Tryd.sizeOf169
  v51 := Tryd.zeroValue169
  t53 := Tryd.underlying155
  a53 := Tryd.isAgg155
  z53 := Tryd.sizeOf155
  v53 := Tryd.zeroValue155
  t171 := Tryd.underlying154
  a171 := Tryd.isAgg154
  z171 := Tryd.sizeOf154
  v171 := Tryd.zeroValue154
  t173 := Tryd.underlying158
  a173 := Tryd.isAgg158
  z173 := Tryd.sizeOf158
  v173 := Tryd.zeroValue158
  t212 := Tryd.underlying168
  a212 := Tryd.isAgg168
  z212 := Tryd.sizeOf168
  v212 := Tryd.zeroValue168
  t213 := Tryd.underlying170
  a213 := Tryd.isAgg170
  z213 := Tryd.sizeOf170
  t232 := Tryd.underlying185
  a232 := Tryd.isAgg185
  z232 := Tryd.sizeOf185
  v232 := Tryd.zeroValue185
  t233 := Tryd.underlying186
  a233 := Tryd.isAgg186
  z233 := Tryd.sizeOf186
  v233 := Tryd.zeroValue186
  g17 := by kernel_rfl
  g18 := by kernel_rfl
  g19 := by kernel_rfl
  i0 := by kernel_rfl
  i2 := by kernel_rfl
  i3 := by kernel_rfl
  i4 := by kernel_rfl
  i5 := by kernel_rfl
  i9 := by kernel_rfl
  i20 := by kernel_rfl
  i37 := by kernel_rfl
  i46 := by kernel_rfl
  i51 := by kernel_rfl
  i53 := by kernel_rfl
  i171 := by kernel_rfl
  i173 := by kernel_rfl
  i212 := by kernel_rfl
  i232 := by kernel_rfl
  i233 := by kernel_rfl
  m17 := by kernel_rfl
  m18 := by kernel_rfl
  m19 := by kernel_rfl }
theorem post_below {w w' : Go.World} {ι : Interp} {args : List SV} {vals : Array Value} {v : Value} {res : AV} (hp : PreRel w ι [] args vals) (hb : Below w.heap.size w w') (hv : AVRel w' ι (obOf []) res v) : PostRel w ι [] [] res w' v ι :=
  { ext := fun j => trivial
    obj := fun j => hp.obj j
    disj := hp.disj
    gfp := hp.gfp
    lt := fun i b h => absurd h (hp.obj i b)
    glt := fun b h => Nat.lt_of_lt_of_le (hp.glt b h) hb.size
    gg := fun _ h => h
    gown := fun _ h => .inl h
    own := fun j b h => absurd h (hp.obj j b)
    frame := fun b h _ => hb.block b h
    size := hb.size
    os := hb.os
    out := hb.output
    val := hv }
theorem kn_tab {w : Go.World} {ι : Interp} (hk : Kn Tryd.prog w ι) : Lib.TabIs Tryd.prog w pow10N .u64 Lib.pow10Tab := by
  cases hg : Tryd.prog.globalNamed pow10N with
  | none => have : (Tryd.prog.globalNamed pow10N).isSome = true := by kernel_rfl
            rw [hg] at this; cases this
  | some g => obtain ⟨_, _, cs, hv, rfl⟩ := hk.1 g hg; exact hv
abbrev P_c_itoa (n : Int) : Ct := ⟨120, [], [li n], [], .sv (ls (mkS (Lib.itoa n)))⟩
theorem c_itoa (n : Int) (h : -9223372036854775808 ≤ n ∧ n ≤ 9223372036854775807) : OK (P_c_itoa n) := by
  refine ⟨Tryd.call120, fun w ι vals hp hk => ?_⟩
  have harg := hp.arg
  rcases vals with ⟨l⟩
  match l, harg with
  | [v0], ⟨h0, _⟩ =>
    obtain ⟨rfl, _⟩ := h0.1.lit_inv
    refine (Any.strconv_Itoa itoLays n h.1 h.2 w (Eq.subst (motive := fun s => Lib.TabIs Tryd.prog w s .u64 Lib.pow10Tab) (by kernel_rfl) (kn_tab hk))).mono fun e w' hh => ?_
    obtain ⟨rfl, k, os, rfl⟩ := hh
    refine ⟨_, ι, rfl, post_below hp ⟨rfl, rfl, rfl, ?_, fun j hj => ?_⟩ ⟨.lit ?_, fun _ => rfl⟩⟩
    · show w.heap.size ≤ (w.heap ++ os).size
      rw [Array.size_append]; omega
    · show (w.heap ++ os)[j]? = w.heap[j]?
      exact Array.getElem?_append_left hj
    · show (Lib.itoa n).toArray.size ≤ maxLen
      rw [List.size_toArray]; have := itoa_len h; unfold maxLen; omega
end Go.Proofs.YtpflccjienojfaaDoor
end
section
namespace Go.Proofs.YtpflccjienojfaaDoor
open Go Go.Proofs.YtpflccjienojfaaDoor.Ab
set_option linter.unusedVariables false
set_option linter.unusedSimpArgs false
set_option maxHeartbeats 4000000
instance memDec (s : ByteArray) (L : List ByteArray) : Decidable (s ∈ L) := @List.instDecidableMemOfLawfulBEq ByteArray instBEqOfDecidableEq _ s L
def memS (S : List ByteArray) (n : ByteArray) : Int := if n ∈ S then 1 else 0
theorem memS_nil : zS = memS [] := by funext m; simp [zS, memS]
theorem memS_snoc {S : List ByteArray} {n : ByteArray} : upd1 (memS S) n 1 = memS (S ++ [n]) := by
  funext m; simp only [upd1, memS, List.mem_append, List.mem_singleton]; grind
theorem memS_one {S : List ByteArray} {n : ByteArray} : memS S n = 1 ↔ n ∈ S := by
  simp only [memS]; grind
def okN (n : Int) (L : List ByteArray) : Bool := decide (L.Nodup ∧ ∀ s ∈ L, isSym s = true ∧ (s.size : Int) ≤ n)
theorem okN_iff {n : Int} {L : List ByteArray} : okN n L = true ↔ L.Nodup ∧ ∀ s ∈ L, isSym s = true ∧ (s.size : Int) ≤ n := decide_eq_true_iff
theorem okN_nil {n : Int} : okN n [] = true := rfl
theorem okN_snoc {m : Int} {L : List ByteArray} {n : ByteArray} : okN m (L ++ [n]) = true ↔ okN m L = true ∧ isSym n = true ∧ (n.size : Int) ≤ m ∧ n ∉ L := by
  simp only [okN_iff]; rw [List.nodup_append]
  simp only [List.mem_append, List.mem_singleton]
  grind
theorem okN_left {n : Int} {A B : List ByteArray} (h : okN n (A ++ B) = true) : okN n A = true := by
  rw [okN_iff] at h ⊢
  exact ⟨(List.nodup_append.1 h.1).1, fun s hs => h.2 s (List.mem_append_left _ hs)⟩
theorem okN_take {n : Int} {L : List ByteArray} {k : Nat} (h : okN n L = true) : okN n (L.take k) = true := by
  rw [← List.take_append_drop k L] at h; exact okN_left h
def inS (L : List ByteArray) (s : ByteArray) : Bool := decide (s ∈ L)
theorem inS_iff {L : List ByteArray} {s : ByteArray} : inS L s = true ↔ s ∈ L := decide_eq_true_iff
def symD (s : ByteArray) : Datum := ⟨1, 0, s, []⟩
def lstD (L : List Datum) : Datum := ⟨0, 0, mkS [], L⟩
abbrev lstR (i : Nat) : SV := .agg [vI 0, vI 0, vS (mkS []), .ref i]
theorem sym_snoc (L : List ByteArray) (s : ByteArray) : (L.map symD).map datumC ++ [[cI 1, cI 0, cS s, Cell.list []]] = ((L ++ [s]).map symD).map datumC := by
  simp only [List.map_append, List.map_cons, List.map_nil, datumC_eq]; rfl
def moduleS : ByteArray := mkS [109, 111, 100, 117, 108, 101]
theorem isSym_le {s : ByteArray} : isSym s = true → (s.size : Int) ≤ 16 := by
  unfold isSym; simp only [Bool.and_eq_true, decide_eq_true_eq]; intro h; exact h.1.1.1.2
def modD (m : Module) : List Datum := [symD moduleS, symD m.name, lstD (m.imports.map symD), lstD (m.exports.map symD)] ++ m.body
theorem modD_rows (m : Module) : (modD m).map datumC = [cI 1, cI 0, cS moduleS, Cell.list []] :: [cI 1, cI 0, cS m.name, Cell.list []] :: [cI 0, cI 0, cS (mkS []), Cell.list ((m.imports.map symD).map datumC)] :: [cI 0, cI 0, cS (mkS []), Cell.list ((m.exports.map symD).map datumC)] :: m.body.map datumC := by
  simp only [modD, symD, lstD, List.map_append, List.map_cons, List.map_nil, datumC_eq, List.cons_append, List.nil_append]; rfl
def modOK (m : Module) : Bool := isNam m.name && okN 8 m.imports && decide (m.imports.length ≤ 12) && okN 16 m.exports && decide (m.exports.length ≤ 60) && !inS m.imports m.name && isDat (lstD (modD m))
abbrev P_c_sHasS (L : List ByteArray) (s : ByteArray) : Ct := ⟨60, [], [ll (L.map strC), ls s], [], .sv (lb (inS L s))⟩
def lc_sHasSLa (L : List ByteArray) (s : ByteArray) : Lp Nat := .mk 17 0 (fun x => [(1, ls s), (7, ll (List.map strC L)), (8, li (↑(List.map strC L).length : Int)), (9, hs x 0)])
 (fun x => []) (fun k => [.s (li (↑k : Int))]) (fun k => k ≤ L.length ∧ L.length ≤ 9223372036854775807 ∧ ¬s ∈ List.take k L) (fun k => L.length - k) [.mk (inS L s = false) (.exit
 0) (fun x => []) (fun x => []) [], .mk (inS L s = true) .ret (fun x => [(4, hs x 0)]) (fun x => []) [.s (lb true)]]
theorem Sc_sHasSLa (L : List ByteArray) (s : ByteArray) : Lp.Sem Tryd.prog (loopAt Tryd.f60 0) (lc_sHasSLa L s) := lpOK (fun k => .i ((↑k : Int) < (↑(List.map strC L).length :
 Int)) (.x (↑k : Int) (List.map strC L) [cS (L.getD k default)] (.i ((L.getD k default).data.toList = s.data.toList) (.o 1 [] [.s (lb true)]) (.r ((↑k : Int) + 1) (.g [] (k + 1)
 [.s (li ((↑k : Int) + 1))])))) (.o 0 [] [])) (by
  intro k h; try dsimp only [teasy, nthW, lc_sHasSLa] at h ⊢
  with_reducible repeat' (first | apply And.intro | exact zR | (intro; skip) | apply mIc | apply mOc | apply mSc | apply mLc)
  all_goals (try simp only [std, inj] at *)
  all_goals with_reducible repeat' apply And.intro
  all_goals (try (first | exact z | exact zM | grind [take_get, getD_mem', bytes_ext, inS, snocI, snocS, rowSnoc])))
theorem c_sHasS (L : List ByteArray) (s : ByteArray)  : P_c_sHasS L s := fnOK Tryd.call60 Tryd.func60 (.z strC L (.l (lc_sHasSLa L s) (Sc_sHasSLa L s) [] [.s (li 0)] 0 (.t (.s (lb
 false)) (.t (.s (lb true)) .q)))) (by
  dsimp only [teasy, P_c_sHasS, nthW, lc_sHasSLa]
  with_reducible repeat' (first | apply And.intro | exact zR | (intro; skip) | apply mIc | apply mOc | apply mSc | apply mLc)
  all_goals (try simp only [std, inj] at *)
  all_goals with_reducible repeat' apply And.intro
  all_goals (try (first | exact z | exact zM | grind [snocI, snocS, rowSnoc])))
abbrev P_c_sNames (L : List ByteArray) (most : Int) (longest : Int) : Ct := ⟨59, [], [ll (L.map strC), li most, li longest], [], .sv (lb (okN longest L && decide ((L.length : Int) ≤ most)))⟩
def lc_sNamesLa (L : List ByteArray) (most : Int) (longest : Int) : Lp Nat := .mk 37 0 (fun x => [(0, ll (List.map strC L)), (1, li most), (2, li longest), (9, ll (List.map strC
 L)), (10, li (↑(List.map strC L).length : Int)), (11, hs x 0)]) (fun x => []) (fun k => [.s (li (↑k : Int))]) (fun k => k ≤ L.length ∧ L.length ≤ 9223372036854775807 ∧ okN longest
 (List.take k L) = true) (fun k => L.length - k) [.mk (okN longest L = true) (.exit 0) (fun x => [(0, ll (List.map strC L)), (1, li most)]) (fun x => []) [], .mk (okN longest L =
 false) .ret (fun x => [(6, hs x 0)]) (fun x => []) [.s (lb false)]]
theorem Sc_sNamesLa (L : List ByteArray) (most : Int) (longest : Int) : Lp.Sem Tryd.prog (loopAt Tryd.f59 0) (lc_sNamesLa L most longest) := lpOK (fun k => .i ((↑k : Int) <
 (↑(List.map strC L).length : Int)) (.x (↑k : Int) (List.map strC L) [cS (L.getD k default)] (.c [.rd] (c_sIsSymbol (L.getD k default)) (.b (!isSym (L.getD k default)) (.y true (.y
 true (.o 1 [] [.s (lb false)]))) (.h ((L.getD k default).data.toList.length ≤ 9223372036854775807) (.i (longest < (↑(L.getD k default).data.toList.length : Int)) (.y true (.o 1 []
 [.s (lb false)])) (.p (0 ≤ (↑k : Int)) (.p (0 ≤ (↑k : Int).toNat ∧ (↑k : Int).toNat ≤ (List.map strC L).length ∧ ∀ (e : List Cell), e ∈ List.map strC L → e.length = 1) (.u [.rd,
 .rd] (P_c_sHasS (List.take ((↑k : Int).toNat - 0) (List.drop 0 L)) (L.getD k default)) (.p (CallOK Tryd.prog 60 [] [ll (List.take ((↑k : Int).toNat - 0) (List.drop 0 (List.map
 strC L))), ls (L.getD k default)] [] (AV.sv (lb (inS (List.take ((↑k : Int).toNat - 0) (List.drop 0 L)) (L.getD k default))))) (.b (inS (List.take ((↑k : Int).toNat - 0)
 (List.drop 0 L)) (L.getD k default)) (.o 1 [] [.s (lb false)]) (.r ((↑k : Int) + 1) (.g [] (k + 1) [.s (li ((↑k : Int) + 1))])))))))))))) (.o 0 [] [])) (by
  intro k h; try dsimp only [teasy, nthW, lc_sNamesLa] at h ⊢
  have g1 := @okN_snoc longest (L.take k) (L.getD k default)
  have g2 := @okN_take longest L (k + 1)
  with_reducible repeat' (first | apply And.intro | exact zR | (intro; skip) | apply mIc | apply mOc | apply mSc | apply mLc | apply c_sIsSymbol | apply c_sHasS)
  all_goals (try simp only [std, inj] at *)
  all_goals with_reducible repeat' apply And.intro
  all_goals (try (first | with_reducible apply c_sIsSymbol | with_reducible apply c_sHasS | (simp only [← List.map_append]; first | with_reducible apply c_sIsSymbol | with_reducible apply c_sHasS)))
  all_goals (try (first | exact z | exact zM | grind [take_get, inS_iff, snocI, snocS, rowSnoc])))
theorem c_sNames (L : List ByteArray) (most longest : Int)  : P_c_sNames L most longest := fnOK Tryd.call59 Tryd.func59 (.z strC L (.l (lc_sNamesLa L most longest) (Sc_sNamesLa L
 most longest) [] [.s (li 0)] 0 (.t (.z strC L (.s (lb (decide ((↑(List.map strC L).length : Int) ≤ most))))) (.t (.s (lb false)) .q)))) (by
  dsimp only [teasy, P_c_sNames, nthW, lc_sNamesLa]
  with_reducible repeat' (first | apply And.intro | exact zR | (intro; skip) | apply mIc | apply mOc | apply mSc | apply mLc)
  all_goals (try simp only [std, inj] at *)
  all_goals with_reducible repeat' apply And.intro
  all_goals (try (first | exact z | exact zM | grind [okN_nil, snocI, snocS, rowSnoc])))
abbrev P_c_sList (R : List (List Cell)) : Ct := ⟨70, [.arr false 4 R], [.one (.ref 0)], [.dead, .arr false 4 R], .sv (lstR 1)⟩
theorem c_sList (R : List (List Cell))  : P_c_sList R := fnOK Tryd.call70 Tryd.func70 (.w (.ghost (.move 0)) (.f [2] [Ob.dead, Ob.arr false 4 R] (AV.sv (SV.agg [vI 0, vI 0, vS
 (ByteArray.mk #[]), AC.ref 1])))) (by
  dsimp only [teasy, P_c_sList]
  with_reducible repeat' (first | apply And.intro | exact zR | (intro; skip) | apply mIc | apply mOc | apply mSc | apply mLc)
  all_goals (try simp only [std, inj] at *)
  all_goals with_reducible repeat' apply And.intro
  all_goals (try (first | exact z | exact zM | grind [snocI, snocS, rowSnoc])))
abbrev P_c_sSymbols (L : List ByteArray) : Ct := ⟨71, [], [ll (L.map strC)], [], .sv (.agg [vI 0, vI 0, vS (mkS []), vL ((L.map symD).map datumC)])⟩
def lc_sSymbolsLa (L : List ByteArray) : Lp Nat := .mk 22 0 (fun x => [(2, SV.one (AC.ptr 0 0)), (3, SV.one (AC.ptr 1 0)), (7, ll (List.map strC L)), (8, li (↑(List.map strC
 L).length : Int)), (9, hs x 0)]) (fun x => [Ob.box [vI 0, vI 0, vS (ByteArray.mk #[]), AC.val (Cell.lit (Value.slice none 0 0))], Ob.box [vI 0, vI 0, vS (ByteArray.mk #[]), AC.ref
 2], ho x 1]) (fun k => [.s (li (↑k : Int)), .o (Ob.arr true 4 (List.map datumC (List.map symD (List.take k L))))]) (fun k => k ≤ L.length ∧ L.length ≤ 9223372036854775807) (fun k
 => L.length - k) [.mk True (.exit 0) (fun x => [(2, SV.one (AC.ptr 0 0)), (3, SV.one (AC.ptr 1 0))]) (fun x => [Ob.box [vI 0, vI 0, vS (ByteArray.mk #[]), AC.val (Cell.lit
 (Value.slice none 0 0))], Ob.box [vI 0, vI 0, vS (ByteArray.mk #[]), AC.ref 2], ho x 0]) [.o (Ob.arr true 4 (List.map datumC (List.map symD L)))]]
theorem Sc_sSymbolsLa (L : List ByteArray) (h : L.length ≤ 2147483647) : Lp.Sem Tryd.prog (loopAt Tryd.f71 0) (lc_sSymbolsLa L) := lpOK (fun k => .i ((↑k : Int) < (↑(List.map strC
 L).length : Int)) (.x (↑k : Int) (List.map strC L) [cS (L.getD k default)] (.p (((List.map datumC (List.map symD (List.take k L))).length + 1) * 56 ≤ 140737488355328) (.r ((↑k :
 Int) + 1) (.g [0, 1, 4] (k + 1) [.s (li ((↑k : Int) + 1)), .o (Ob.arr true 4 (List.map datumC (List.map symD (List.take k L)) ++ [[cI 1, cI 0, cS (L.getD k default), Cell.list
 []]]))])))) (.o 0 [0, 1, 2] [.o (Ob.arr true 4 (List.map datumC (List.map symD (List.take k L))))])) (by
  intro k h; try dsimp only [teasy, nthW, lc_sSymbolsLa] at h ⊢
  with_reducible repeat' (first | apply And.intro | exact zR | (intro; skip) | apply mIc | apply mOc | apply mSc | apply mLc)
  all_goals (try simp only [std, inj] at *)
  all_goals with_reducible repeat' apply And.intro
  all_goals (try (first | exact z | exact zM | grind [take_get, sym_snoc, snocI, snocS, rowSnoc, getD_mem'])))
theorem c_sSymbols (L : List ByteArray) (h : L.length ≤ 2147483647)  : P_c_sSymbols L := fnOK Tryd.call71 Tryd.func71 (.z strC L (.w (.ghost (.nilbox 1 3 true 4)) (.l (lc_sSymbolsLa
 L) (Sc_sSymbolsLa L h) [0, 1, 2] [.s (li 0), .o (Ob.arr true 4 [])] 0 (.t (.w (.ghost (.lock 2)) (.s (SV.agg [vI 0, vI 0, vS (ByteArray.mk #[]), vL (List.map datumC (List.map symD
 L))]))) .q)))) (by
  dsimp only [teasy, P_c_sSymbols, nthW, lc_sSymbolsLa]
  with_reducible repeat' (first | apply And.intro | exact zR | (intro; skip) | apply mIc | apply mOc | apply mSc | apply mLc)
  all_goals (try simp only [std, inj] at *)
  all_goals with_reducible repeat' apply And.intro
  all_goals (try (first | exact z | exact zM | grind [snocI, snocS, rowSnoc])))
abbrev P_c_sModD (u : Module) : Ct := ⟨31, [], [moduleA u], [], .sv (.agg [vI 0, vI 0, vS (mkS []), vL ((modD u).map datumC)])⟩
theorem c_sModD (u : Module) (h : wM u ≤ 1048576)  : P_c_sModD u := fnOK Tryd.call31 Tryd.func31 (.w (.draw [(11, [18]), (13, [27])]) (.d [.rd] (P_c_sSymbols u.imports) (.d [.rd]
 (P_c_sSymbols u.exports) (.c [.own false 4] (c_sList [[cI 1, cI 0, cS (ByteArray.mk #[(109 : UInt8), (111 : UInt8), (100 : UInt8), (117 : UInt8), (108 : UInt8), (101 : UInt8)]),
 Cell.list []], [cI 1, cI 0, cS u.name, Cell.list []], [cI 0, cI 0, cS (mkS []), Cell.list (List.map datumC (List.map symD u.imports))], [cI 0, cI 0, cS (mkS []), Cell.list
 (List.map datumC (List.map symD u.exports))]]) (.p (∀ (e : List Cell), e ∈ List.map datumC u.body → e.length = 4) (.p ((4 + (List.map datumC u.body).length) * 56 ≤
 140737488355328) (.w (.ghost (.lock 28)) (.s (SV.agg [vI 0, vI 0, vS (mkS []), vL ([cI 1, cI 0, cS (ByteArray.mk #[(109 : UInt8), (111 : UInt8), (100 : UInt8), (117 : UInt8), (108
 : UInt8), (101 : UInt8)]), Cell.list []] :: [cI 1, cI 0, cS u.name, Cell.list []] :: [cI 0, cI 0, cS (mkS []), Cell.list (List.map datumC (List.map symD u.imports))] :: [cI 0, cI
 0, cS (mkS []), Cell.list (List.map datumC (List.map symD u.exports))] :: List.map datumC u.body)]))))))))) (by
  dsimp only [teasy, P_c_sModD]
  have g := wM_eq u
  with_reducible repeat' (first | apply And.intro | exact zR | (intro; skip) | apply mIc | apply mOc | apply mSc | apply mLc | apply c_sSymbols)
  all_goals (try simp only [std, inj] at *)
  all_goals with_reducible repeat' apply And.intro
  all_goals (try (first | with_reducible apply c_sSymbols | (simp only [← List.map_append]; first | with_reducible apply c_sSymbols)))
  all_goals (try (first | exact z | exact zM | grind [modD_rows, moduleS, wS, snocI, snocS, rowSnoc])))
abbrev P_c_sIsModule (u : Module) : Ct := ⟨24, [], [moduleA u], [], .sv (lb (modOK u))⟩
theorem c_sIsModule (u : Module) (h : wM u ≤ 1048576)  : P_c_sIsModule u := fnOK Tryd.call24 Tryd.func24 (.c [.rd] (c_sNam u.name) (.b (isNam u.name) (.c [.rd, .rd, .rd] (c_sNames
 u.imports 12 8) (.b (okN 8 u.imports && decide ((↑u.imports.length : Int) ≤ 12)) (.c [.rd, .rd, .rd] (c_sNames u.exports 60 16) (.b (okN 16 u.exports && decide ((↑u.exports.length
 : Int) ≤ 60)) (.c [.rd, .rd] (c_sHasS u.imports u.name) (.b (!inS u.imports u.name) (.d [.rd] (P_c_sModD u) (.c [.rd] (c_sIsDatum (Datum.mk 0 0 (mkS []) (modD u))) (.s (lb (isDat
 (Datum.mk 0 0 (mkS []) (modD u))))))) (.s (lb false)))) (.y false (.s (lb false))))) (.y false (.y false (.s (lb false)))))) (.y false (.y false (.y false (.s (lb false))))))) (by
  dsimp only [teasy, P_c_sIsModule]
  with_reducible repeat' (first | apply And.intro | exact zR | (intro; skip) | apply mIc | apply mOc | apply mSc | apply mLc | apply c_sModD)
  all_goals (try simp only [std, inj] at *)
  all_goals with_reducible repeat' apply And.intro
  all_goals (try (first | with_reducible apply c_sModD | (simp only [← List.map_append]; first | with_reducible apply c_sModD)))
  all_goals (try (first | exact z | exact zM | grind [modOK, lstD, snocI, snocS, rowSnoc])))
abbrev P_c_iSymbolOf (s : ByteArray) : Ct := ⟨74, [], [ls s], [], .sv (.agg [vI 1, vI 0, vS s, .val (.lit (.slice none 0 0))])⟩
theorem c_iSymbolOf (s : ByteArray)  : P_c_iSymbolOf s := fnOK Tryd.call74 Tryd.func74 (.s (SV.agg [vI 1, vI 0, vS s, AC.val (Cell.lit (Value.slice none 0 0))])) (by
  dsimp only [teasy, P_c_iSymbolOf]
  with_reducible repeat' (first | apply And.intro | exact zR | (intro; skip) | apply mIc | apply mOc | apply mSc | apply mLc)
  all_goals (try simp only [std, inj] at *)
  all_goals with_reducible repeat' apply And.intro
  all_goals (try (first | exact z | exact zM | grind [snocI, snocS, rowSnoc])))
abbrev P_c_iSymbolList (L : List ByteArray) : Ct := ⟨75, [], [ll (L.map strC)], [.arr true 4 ((L.map symD).map datumC)], .sv (lstR 0)⟩
def lc_iSymbolListLa (L : List ByteArray) : Lp Nat := .mk 21 0 (fun x => [(2, SV.one (AC.ptr 0 0)), (3, SV.one (AC.ptr 1 0)), (6, ll (List.map strC L)), (7, li (↑(List.map strC
 L).length : Int)), (8, hs x 0)]) (fun x => [Ob.box [vI 0, vI 0, vS (ByteArray.mk #[]), AC.val (Cell.lit (Value.slice none 0 0))], Ob.box [vI 0, vI 0, vS (ByteArray.mk #[]), AC.ref
 2], ho x 1]) (fun k => [.s (li (↑k : Int)), .o (Ob.arr true 4 (List.map datumC (List.map symD (List.take k L))))]) (fun k => k ≤ L.length ∧ L.length ≤ 9223372036854775807) (fun k
 => L.length - k) [.mk True (.exit 0) (fun x => [(2, SV.one (AC.ptr 0 0)), (3, SV.one (AC.ptr 1 0))]) (fun x => [Ob.box [vI 0, vI 0, vS (ByteArray.mk #[]), AC.val (Cell.lit
 (Value.slice none 0 0))], Ob.box [vI 0, vI 0, vS (ByteArray.mk #[]), AC.ref 2], ho x 0]) [.o (Ob.arr true 4 (List.map datumC (List.map symD L)))]]
theorem Sc_iSymbolListLa (L : List ByteArray) (h : L.length ≤ 2147483647) : Lp.Sem Tryd.prog (loopAt Tryd.f75 0) (lc_iSymbolListLa L) := lpOK (fun k => .i ((↑k : Int) < (↑(List.map
 strC L).length : Int)) (.x (↑k : Int) (List.map strC L) [cS (L.getD k default)] (.w (.draw [(5, [2, 11]), (7, [1])]) (.c [.rd] (c_iSymbolOf (L.getD k default)) (.p (((List.map
 datumC (List.map symD (List.take k L))).length + 1) * 56 ≤ 140737488355328) (.r ((↑k : Int) + 1) (.g [0, 1, 12] (k + 1) [.s (li ((↑k : Int) + 1)), .o (Ob.arr true 4 (List.map
 datumC (List.map symD (List.take k L)) ++ [[cI 1, cI 0, cS (L.getD k default), Cell.list []]]))])))))) (.o 0 [0, 1, 2] [.o (Ob.arr true 4 (List.map datumC (List.map symD
 (List.take k L))))])) (by
  intro k h; try dsimp only [teasy, nthW, lc_iSymbolListLa] at h ⊢
  with_reducible repeat' (first | apply And.intro | exact zR | (intro; skip) | apply mIc | apply mOc | apply mSc | apply mLc)
  all_goals (try simp only [std, inj] at *)
  all_goals with_reducible repeat' apply And.intro
  all_goals (try (first | exact z | exact zM | grind [take_get, sym_snoc, snocI, snocS, rowSnoc, getD_mem'])))
theorem c_iSymbolList (L : List ByteArray) (h : L.length ≤ 2147483647)  : P_c_iSymbolList L := fnOK Tryd.call75 Tryd.func75 (.z strC L (.w (.ghost (.nilbox 1 3 true 4)) (.l
 (lc_iSymbolListLa L) (Sc_iSymbolListLa L h) [0, 1, 2] [.s (li 0), .o (Ob.arr true 4 [])] 0 (.t (.f [2] [Ob.arr true 4 (List.map datumC (List.map symD L))] (AV.sv (SV.agg [vI 0, vI
 0, vS (ByteArray.mk #[]), AC.ref 0]))) .q)))) (by
  dsimp only [teasy, P_c_iSymbolList, nthW, lc_iSymbolListLa]
  with_reducible repeat' (first | apply And.intro | exact zR | (intro; skip) | apply mIc | apply mOc | apply mSc | apply mLc)
  all_goals (try simp only [std, inj] at *)
  all_goals with_reducible repeat' apply And.intro
  all_goals (try (first | exact z | exact zM | grind [snocI, snocS, rowSnoc])))
abbrev P_c_iCopyData (L : List Datum) : Ct := ⟨67, [], [ll (L.map datumC)], [.arr true 4 (L.map datumC)], .sv (.one (.ref 0))⟩
abbrev P_c_iCopyDatum (x : Datum) : Ct := ⟨89, [], [datumA x], datumO x, .sv (datumR x 0)⟩
def lc_iCopyDataLa (L : List Datum) : Lp Nat := .mk 19 0 (fun x => [(3, SV.one (AC.ref 0)), (6, ll (List.map datumC L)), (7, li (↑(List.map datumC L).length : Int)), (8, hs x 0)])
 (fun x => [ho x 1]) (fun k => [.s (li (↑k : Int)), .o (Ob.arr true 4 (List.map datumC (List.take k L)))]) (fun k => k ≤ L.length ∧ L.length ≤ 9223372036854775807) (fun k =>
 L.length - k) [.mk True (.exit 0) (fun x => [(3, SV.one (AC.ref 0))]) (fun x => [ho x 0]) [.o (Ob.arr true 4 (List.map datumC L))]]
theorem Sc_iCopyDataLa (L : List Datum) (h : L.length + sumBy wD L ≤ 1048576) (ih : ∀ (x : Datum), x ∈ L → wD x ≤ 1048576 → OK (P_c_iCopyDatum x)) : Lp.Sem Tryd.prog (loopAt
 Tryd.f67 0) (lc_iCopyDataLa L) := lpOK (fun k => .i ((↑k : Int) < (↑(List.map datumC L).length : Int)) (.x (↑k : Int) (List.map datumC L) (datumF (L.getD k default)) (.d [.rd]
 (P_c_iCopyDatum (L.getD k default)) (.p (((List.map datumC (List.take k L)).length + 1) * 56 ≤ 140737488355328) (.r ((↑k : Int) + 1) (.g [4] (k + 1) [.s (li ((↑k : Int) + 1)), .o
 (Ob.arr true 4 (List.map datumC (List.take k L) ++ [datumF (L.getD k default)]))]))))) (.o 0 [0] [.o (Ob.arr true 4 (List.map datumC (List.take k L)))])) (by
  intro k h; try dsimp only [teasy, nthW, lc_iCopyDataLa] at h ⊢
  have g := @sumBy_mem _ wD L (L.getD k default)
  with_reducible repeat' (first | apply And.intro | exact zR | exact ih | (intro; skip) | apply mIc | apply mOc | apply mSc | apply mLc | apply ih)
  all_goals (try simp only [std, inj] at *)
  all_goals with_reducible repeat' apply And.intro
  all_goals (try (first | with_reducible apply ih | (simp only [← List.map_append]; first | with_reducible apply ih)))
  all_goals (try (first | exact z | exact zM | grind [take_get, getD_mem', snocI, snocS, rowSnoc, getD_mem'])))
theorem c_iCopyData (L : List Datum) (h : L.length + sumBy wD L ≤ 1048576) (ih : ∀ x ∈ L, ∀ (h : wD x ≤ 1048576), P_c_iCopyDatum x)  : P_c_iCopyData L := fnOK Tryd.call67 Tryd.func67
 (.z datumC L (.w (.ghost (.nilreg 3 true 4)) (.l (lc_iCopyDataLa L) (Sc_iCopyDataLa L h ih) [0] [.s (li 0), .o (Ob.arr true 4 [])] 0 (.t (.f [0] [Ob.arr true 4 (List.map datumC
 L)] (AV.sv (SV.one (AC.ref 0)))) .q)))) (by
  dsimp only [teasy, P_c_iCopyData, nthW, lc_iCopyDataLa]
  with_reducible repeat' (first | apply And.intro | exact zR | exact ih | (intro; skip) | apply mIc | apply mOc | apply mSc | apply mLc)
  all_goals (try simp only [std, inj] at *)
  all_goals with_reducible repeat' apply And.intro
  all_goals (try (first | with_reducible apply ih | (simp only [← List.map_append]; first | with_reducible apply ih)))
  all_goals (try (first | exact z | exact zM | grind [snocI, snocS, rowSnoc])))
theorem c_iCopyDatum_s (x : Datum) (h : wD x ≤ 1048576) (ih : ∀ z ∈ x.items, ∀ (h : wD z ≤ 1048576), P_c_iCopyDatum z)  : P_c_iCopyDatum x := fnOK Tryd.call89 Tryd.func89 (.d [.rd]
 (P_c_iCopyData x.items) (.f [2] [Ob.arr true 4 (List.map datumC x.items)] (AV.sv (SV.agg [vI x.kind, vI x.number, vS x.text, AC.ref 0])))) (by
  dsimp only [teasy, P_c_iCopyDatum]
  have g := wD_eq x
  with_reducible repeat' (first | apply And.intro | exact zR | exact ih | (intro; skip) | apply mIc | apply mOc | apply mSc | apply mLc | apply c_iCopyData | apply ih)
  all_goals (try simp only [std, inj] at *)
  all_goals with_reducible repeat' apply And.intro
  all_goals (try (first | with_reducible apply c_iCopyData | with_reducible apply ih | (simp only [← List.map_append]; first | with_reducible apply c_iCopyData | with_reducible apply ih)))
  all_goals (try (first | exact z | exact zM | grind [snocI, snocS, rowSnoc])))
theorem c_iCopyDatum (x : Datum) : ∀ (h : wD x ≤ 1048576), P_c_iCopyDatum x := Datum.ind (P := fun x => ∀ (h : wD x ≤ 1048576), P_c_iCopyDatum x) (fun x ih h => c_iCopyDatum_s x h ih) x
abbrev P_c_iModD (u : Module) : Ct := ⟨36, [], [moduleA u], [.arr true 4 ((modD u).map datumC)], .sv (lstR 0)⟩
theorem c_iModD (u : Module) (h : wM u ≤ 1048576)  : P_c_iModD u := fnOK Tryd.call36 Tryd.func36 (.w (.draw [(10, [18, 26])]) (.c [.rd] (c_iSymbolOf (ByteArray.mk #[(109 : UInt8),
 (111 : UInt8), (100 : UInt8), (117 : UInt8), (108 : UInt8), (101 : UInt8)])) (.c [.rd] (c_iSymbolOf u.name) (.d [.rd] (P_c_iSymbolList u.imports) (.d [.rd] (P_c_iSymbolList
 u.exports) (.d [.rd] (P_c_iCopyData u.body) (.p ((4 + (List.map datumC u.body).length) * 56 ≤ 140737488355328) (.f [36] [Ob.arr true 4 ([cI 1, cI 0, cS (ByteArray.mk #[(109 :
 UInt8), (111 : UInt8), (100 : UInt8), (117 : UInt8), (108 : UInt8), (101 : UInt8)]), Cell.list []] :: [cI 1, cI 0, cS u.name, Cell.list []] :: [cI 0, cI 0, cS (mkS []), Cell.list
 (List.map datumC (List.map symD u.imports))] :: [cI 0, cI 0, cS (mkS []), Cell.list (List.map datumC (List.map symD u.exports))] :: List.map datumC u.body)] (AV.sv (SV.agg [vI 0,
 vI 0, vS (ByteArray.mk #[]), AC.ref 0])))))))))) (by
  dsimp only [teasy, P_c_iModD]
  have g := wM_eq u
  with_reducible repeat' (first | apply And.intro | exact zR | (intro; skip) | apply mIc | apply mOc | apply mSc | apply mLc | apply c_iSymbolOf | apply c_iSymbolList | apply c_iCopyData | apply c_iCopyDatum)
  all_goals (try simp only [std, inj] at *)
  all_goals with_reducible repeat' apply And.intro
  all_goals (try (first | with_reducible apply c_iSymbolOf | with_reducible apply c_iSymbolList | with_reducible apply c_iCopyData | with_reducible apply c_iCopyDatum | (simp only [← List.map_append]; first | with_reducible apply c_iSymbolOf | with_reducible apply c_iSymbolList | with_reducible apply c_iCopyData | with_reducible apply c_iCopyDatum)))
  all_goals (try (first | exact z | exact zM | grind [modD_rows, moduleS, wS, snocI, snocS, rowSnoc])))
abbrev P_c_iIsModule (u : Module) : Ct := ⟨34, [], [moduleA u], [], .sv (lb (modOK u))⟩
def lc_iIsModuleLb (u : Module) : Lp Nat := .mk 70 0 (fun x => [(1, SV.one (AC.ptr 0 0)), (3, SV.one (AC.mref 1)), (49, ll (List.map strC u.exports)), (50, li (↑(List.map strC
 u.exports).length : Int)), (51, hs x 0)]) (fun x => [Ob.box (vals (moduleF u)), ho x 1]) (fun k => [.s (li (↑k : Int)), .o (Ob.map false kS (mS (memS (List.take k u.exports))))])
 (fun k => k ≤ u.exports.length ∧ u.exports.length ≤ 9223372036854775807 ∧ okN 16 (List.take k u.exports) = true) (fun k => u.exports.length - k) [.mk (okN 16 u.exports = true)
 (.exit 2) (fun x => [(1, SV.one (AC.ptr 0 0))]) (fun x => [Ob.box (vals (moduleF u))]) [], .mk (okN 16 u.exports = false) .ret (fun x => [(2, hs x 0)]) (fun x => []) [.s (lb
 false)]]
def lc_iIsModuleLa (u : Module) : Lp Nat := .mk 70 0 (fun x => [(1, SV.one (AC.ptr 0 0)), (3, SV.one (AC.mref 1)), (29, ll (List.map strC u.imports)), (30, li (↑(List.map strC
 u.imports).length : Int)), (31, hs x 0)]) (fun x => [Ob.box (vals (moduleF u)), ho x 1]) (fun k => [.s (li (↑k : Int)), .o (Ob.map false kS (mS (memS ([u.name] ++ List.take k
 u.imports))))]) (fun k => k ≤ u.imports.length ∧ u.imports.length ≤ 9223372036854775807 ∧ okN 8 (List.take k u.imports) = true ∧ inS (List.take k u.imports) u.name = false) (fun k
 => u.imports.length - k) [.mk (okN 8 u.imports = true ∧ inS u.imports u.name = false) (.exit 0) (fun x => [(1, SV.one (AC.ptr 0 0))]) (fun x => [Ob.box (vals (moduleF u))]) [],
 .mk ((okN 8 u.imports && !inS u.imports u.name) = false) .ret (fun x => [(2, hs x 0)]) (fun x => []) [.s (lb false)]]
theorem Sc_iIsModuleLb (u : Module) (h : wM u ≤ 1048576) : Lp.Sem Tryd.prog (loopAt Tryd.f34 1) (lc_iIsModuleLb u) := lpOK (fun k => .i ((↑k : Int) < (↑(List.map strC
 u.exports).length : Int)) (.x (↑k : Int) (List.map strC u.exports) [cS (u.exports.getD k default)] (.c [.rd] (c_iIsSymbol (u.exports.getD k default)) (.b (!isSym (u.exports.getD k
 default)) (.y true (.o 1 [] [.s (lb false)])) (.w (.cells [cI (memS (List.take k u.exports) (u.exports.getD k default))]) (.p (LookAt (Value.int IntKind.i64 0) (mS (memS
 (List.take k u.exports))) (Value.string (u.exports.getD k default)) (cI (memS (List.take k u.exports) (u.exports.getD k default)))) (.i (memS (List.take k u.exports)
 (u.exports.getD k default) = 1) (.o 1 [] [.s (lb false)]) (.w (.upd (mS (upd1 (memS (List.take k u.exports)) (u.exports.getD k default) 1))) (.p (false = false) (.p (UpdF kS.d (mS
 (memS (List.take k u.exports))) (mS (upd1 (memS (List.take k u.exports)) (u.exports.getD k default) 1)) (Value.string (u.exports.getD k default)) (some (cI 1))) (.r ((↑k : Int) +
 1) (.g [0, 1] (k + 1) [.s (li ((↑k : Int) + 1)), .o (Ob.map false kS (mS (upd1 (memS (List.take k u.exports)) (u.exports.getD k default) 1)))]))))))))))) (.o 0 [0] [])) (by
  intro k h; try dsimp only [teasy, nthW, lc_iIsModuleLb] at h ⊢
  have g1 := @okN_snoc 16 (u.exports.take k) (u.exports.getD k default)
  have g2 := @okN_take 16 u.exports (k + 1)
  have g3 := @isSym_le (u.exports.getD k default)
  with_reducible repeat' (first | apply And.intro | exact zR | (intro; skip) | apply mIc | apply mOc | apply mSc | apply mLc | apply c_iNam | apply c_iIsSymbol | apply c_iModD)
  all_goals (try simp only [std, inj] at *)
  all_goals with_reducible repeat' apply And.intro
  all_goals (try (first | with_reducible apply c_iNam | with_reducible apply c_iIsSymbol | with_reducible apply c_iModD | (simp only [← List.map_append]; first | with_reducible apply c_iNam | with_reducible apply c_iIsSymbol | with_reducible apply c_iModD)))
  all_goals (try (first | exact z | exact zM | grind [take_get, memS_one, memS_snoc, snocI, snocS, rowSnoc])))
theorem Sc_iIsModuleLa (u : Module) (h : wM u ≤ 1048576) : Lp.Sem Tryd.prog (loopAt Tryd.f34 0) (lc_iIsModuleLa u) := lpOK (fun k => .i ((↑k : Int) < (↑(List.map strC
 u.imports).length : Int)) (.x (↑k : Int) (List.map strC u.imports) [cS (u.imports.getD k default)] (.c [.rd] (c_iNam (u.imports.getD k default)) (.b (!isNam (u.imports.getD k
 default)) (.y true (.o 1 [] [.s (lb false)])) (.w (.cells [cI (memS (u.name :: List.take k u.imports) (u.imports.getD k default))]) (.p (LookAt (Value.int IntKind.i64 0) (mS (memS
 (u.name :: List.take k u.imports))) (Value.string (u.imports.getD k default)) (cI (memS (u.name :: List.take k u.imports) (u.imports.getD k default)))) (.i (memS (u.name ::
 List.take k u.imports) (u.imports.getD k default) = 1) (.o 1 [] [.s (lb false)]) (.w (.upd (mS (upd1 (memS (u.name :: List.take k u.imports)) (u.imports.getD k default) 1))) (.p
 (false = false) (.p (UpdF kS.d (mS (memS (u.name :: List.take k u.imports))) (mS (upd1 (memS (u.name :: List.take k u.imports)) (u.imports.getD k default) 1)) (Value.string
 (u.imports.getD k default)) (some (cI 1))) (.r ((↑k : Int) + 1) (.g [0, 1] (k + 1) [.s (li ((↑k : Int) + 1)), .o (Ob.map false kS (mS (upd1 (memS (u.name :: List.take k
 u.imports)) (u.imports.getD k default) 1)))]))))))))))) (.o 0 [0] [])) (by
  intro k h; try dsimp only [teasy, nthW, lc_iIsModuleLa] at h ⊢
  have g1 := @okN_snoc 8 (u.imports.take k) (u.imports.getD k default)
  have g2 := @okN_take 8 u.imports (k + 1)
  have g3 := @List.mem_of_mem_take _ (k + 1) u.name u.imports
  with_reducible repeat' (first | apply And.intro | exact zR | (intro; skip) | apply mIc | apply mOc | apply mSc | apply mLc | apply c_iNam | apply c_iIsSymbol | apply c_iModD)
  all_goals (try simp only [std, inj] at *)
  all_goals with_reducible repeat' apply And.intro
  all_goals (try (first | with_reducible apply c_iNam | with_reducible apply c_iIsSymbol | with_reducible apply c_iModD | (simp only [← List.map_append]; first | with_reducible apply c_iNam | with_reducible apply c_iIsSymbol | with_reducible apply c_iModD)))
  all_goals (try (first | exact z | exact zM | grind [take_get, memS_one, memS_snoc, isNam, inS, snocI, snocS, rowSnoc])))
theorem c_iIsModule (u : Module) (h : wM u ≤ 1048576)  : P_c_iIsModule u := fnOK Tryd.call34 Tryd.func34 (.c [.rd] (c_iNam u.name) (.b (!isNam u.name) (.y true (.y true (.s (lb
 false)))) (.z strC u.imports (.i (12 < (↑(List.map strC u.imports).length : Int)) (.y true (.s (lb false))) (.z strC u.exports (.i (60 < (↑(List.map strC u.exports).length : Int))
 (.s (lb false)) (.w (.mkmap kS) (.w (.upd (mS (upd1 zS u.name 1))) (.p (false = false) (.p (UpdF kS.d (mS zS) (mS (upd1 zS u.name 1)) (Value.string u.name) (some (cI 1))) (.z strC
 u.imports (.l (lc_iIsModuleLa u) (Sc_iIsModuleLa u h) [0, 1] [.s (li 0), .o (Ob.map false kS (mS (upd1 zS u.name 1)))] 0 (.t (.w (.mkmap kS) (.z strC u.exports (.l (lc_iIsModuleLb
 u) (Sc_iIsModuleLb u h) [0, 1] [.s (li 0), .o (Ob.map false kS (mS zS))] 0 (.t (.d [.rd] (P_c_iModD u) (.c [.rd] (c_iIsDatum (Datum.mk 0 0 (mkS []) (modD u))) (.s (lb (isDat
 (Datum.mk 0 0 (mkS []) (modD u))))))) (.t (.s (lb false)) .q))))) (.t (.s (lb false)) .q)))))))))))))) (by
  dsimp only [teasy, P_c_iIsModule, nthW, lc_iIsModuleLa, lc_iIsModuleLb]
  have e : inS (u.imports.take 0) u.name = false := by simp [inS]
  with_reducible repeat' (first | apply And.intro | exact zR | (intro; skip) | apply mIc | apply mOc | apply mSc | apply mLc | apply c_iNam | apply c_iIsSymbol | apply c_iModD)
  all_goals (try simp only [std, inj] at *)
  all_goals with_reducible repeat' apply And.intro
  all_goals (try (first | with_reducible apply c_iNam | with_reducible apply c_iIsSymbol | with_reducible apply c_iModD | (simp only [← List.map_append]; first | with_reducible apply c_iNam | with_reducible apply c_iIsSymbol | with_reducible apply c_iModD)))
  all_goals (try (first | exact z | exact zM | grind [modOK, lstD, okN_nil, memS_nil, memS_snoc, snocI, snocS, rowSnoc])))
end Go.Proofs.YtpflccjienojfaaDoor
end
section
namespace Go.Proofs.YtpflccjienojfaaDoor
open Go Go.Proofs.YtpflccjienojfaaDoor.Ab
set_option linter.unusedVariables false
set_option linter.unusedSimpArgs false
set_option maxHeartbeats 4000000
abbrev P_c_iNum (n : Int) : Ct := ⟨88, [], [li n], [], .sv (ls (mkS (Lib.itoa n)))⟩
theorem c_iNum (n : Int) (h : -9223372036854775808 ≤ n ∧ n ≤ 9223372036854775807)  : P_c_iNum n := fnOK Tryd.call88 Tryd.func88 (.d [.rd] (P_c_itoa n) (.s (ls (mkS (Lib.itoa n)))))
 (by
  dsimp only [teasy, P_c_iNum]
  with_reducible repeat' (first | apply And.intro | exact zR | (intro; skip) | apply c_itoa)
  all_goals (try simp only [std, inj] at *)
  all_goals with_reducible repeat' apply And.intro
  all_goals (try (first | with_reducible apply c_itoa | (simp only [← List.map_append]; first | with_reducible apply c_itoa)))
  all_goals (try (first | exact z | grind [snocI, snocS, rowSnoc])))
mutual
def fmtD : Datum → List UInt8
  | ⟨k, n, t, l⟩ => if k = 1 then tx t else if k = 2 then Lib.itoa n else if k = 3 then (if n = 1 then [35, 116] else [35, 102]) else if k = 4 then [34] ++ (tx t ++ [34]) else [40] ++ (fmtDs l ++ [41])
def fmtDs : List Datum → List UInt8
  | [] => []
  | x :: r => fmtD x ++ fmtDr r
def fmtDr : List Datum → List UInt8
  | [] => []
  | x :: r => ([32] ++ fmtD x) ++ fmtDr r
end
def fmS (x : Datum) : ByteArray := mkS (fmtD x)
def fmJ (L : List Datum) : List UInt8 := jn [32] (L.map fmS)
theorem fmtDr_eq : ∀ l, fmtDr l = (l.map fmS).flatMap fun y => [32] ++ tx y
  | [] => by simp [fmtDr]
  | x :: r => by rw [fmtDr, fmtDr_eq r]; rfl
theorem fmtDs_eq : ∀ l, fmtDs l = fmJ l
  | [] => by simp [fmtDs, fmJ, jn]
  | x :: r => by rw [fmtDs, fmtDr_eq]; rfl
theorem fmtD_eq (d : Datum) : fmtD d = if d.kind = 1 then tx d.text else if d.kind = 2 then Lib.itoa d.number else if d.kind = 3 then (if d.number = 1 then [35, 116] else [35, 102]) else if d.kind = 4 then [34] ++ (tx d.text ++ [34]) else [40] ++ (fmJ d.items ++ [41]) := by
  cases d; simp only [fmtD, fmtDs_eq]
theorem fmJ_step {L : List Datum} {k : Nat} (h : k < L.length) : fmJ (L.take (k + 1)) = if k = 0 then fmtD (L.getD k default) else fmJ (L.take k) ++ ([32] ++ fmtD (L.getD k default)) := by
  rw [take_get h]; unfold fmJ
  rw [List.map_append, List.map_cons, List.map_nil, jn_snoc]
  cases k with
  | zero => simp [fmS]; rfl
  | succ k => rw [if_neg, if_neg (by omega)]; rfl; intro e; have := congrArg List.length e; rw [List.length_map, List.length_take, List.length_nil] at this; omega
theorem jn_le (L : List Datum) {m : Datum → Nat} (h : ∀ x ∈ L, (fmtD x).length + 1 ≤ m x) : (fmJ L).length ≤ sumBy m L := by
  have e : ∀ L : List Datum, (∀ x ∈ L, (fmtD x).length + 1 ≤ m x) → ((L.map fmS).flatMap fun y => [32] ++ tx y).length ≤ sumBy m L := by
    intro L
    induction L with
    | nil => intro _; simp [sumBy]
    | cons x r ih =>
      intro h
      have h1 := ih fun y hy => h y (List.mem_cons_of_mem _ hy)
      have h2 := h x List.mem_cons_self
      have h3 : (tx (fmS x)).length = (fmtD x).length := rfl
      simp only [List.map_cons, List.flatMap_cons, List.length_append, List.length_cons, List.length_nil, sumBy, h3]
      omega
  cases L with
  | nil => simp [fmJ, jn, sumBy]
  | cons x r =>
    have h1 := e r fun y hy => h y (List.mem_cons_of_mem _ hy)
    have h2 := h x List.mem_cons_self
    have h3 : (tx (fmS x)).length = (fmtD x).length := rfl
    simp only [fmJ, jn, List.map_cons, List.length_append, sumBy, h3]
    omega
theorem nod_txt {k n : Int} {t : ByteArray} {i : Int} (h : nodD k n t i = true) : t.size ≤ 20 := by
  have h3 := @isSym_le t
  have e : t.data.toList.length = t.size := rfl
  simp only [nodD, Bool.or_eq_true, decide_eq_true_eq] at h
  rcases h with (((h | h) | h) | h) | h
  · rw [h.2.2] at e; simp at e; omega
  · have := h3 h.2.2.1; omega
  · rw [h.2.2.2.1] at e; simp at e; omega
  · rw [h.2.2.2.1] at e; simp at e; omega
  · have h7 := h.2.2.1; simp only [isStr, Bool.and_eq_true, decide_eq_true_eq] at h7; omega
theorem sum_mul (w : Datum → Nat) (m : Nat) : ∀ L : List Datum, sumBy (fun x => m * w x) L = m * sumBy w L
  | [] => rfl
  | x :: r => by simp only [sumBy, sum_mul w m r, Nat.mul_add]
theorem len_size (L : List Datum) : L.length ≤ sumBy sizeD L := by
  induction L with
  | nil => simp
  | cons x r ih => have := sizeD_eq x; simp only [sumBy, List.length_cons]; omega
theorem fmtD_len : ∀ d : Datum, okD d = true → (fmtD d).length + 1 ≤ 30 * sizeD d := by
  refine Datum.ind fun d ih hd => ?_
  rw [okD_eq, Bool.and_eq_true, List.all_eq_true] at hd
  have h1 := jn_le d.items (m := fun x => 30 * sizeD x) fun x hx => ih x hx (hd.1 x hx)
  rw [sum_mul] at h1
  have h5 := nod_txt hd.2
  have h4 := hd.2
  have h6 : (tx d.text).length = d.text.size := rfl
  rw [fmtD_eq, sizeD_eq]
  simp only [nodD, Bool.or_eq_true, decide_eq_true_eq] at h4
  split
  · omega
  · split
    · have := itoa_len9 (n := d.number) (by omega); omega
    · split
      · split <;> simp <;> omega
      · split
        · simp only [List.length_append, List.length_cons, List.length_nil, h6]; omega
        · simp only [List.length_append, List.length_cons, List.length_nil]; omega
def fmX (d : Datum) : List UInt8 := if isDat d then fmtD d else []
theorem sum_map_size (L : List ByteArray) : (L.map ByteArray.size).sum = sumBy ByteArray.size L := by
  induction L with
  | nil => rfl
  | cons x r ih => simp only [List.map_cons, List.sum_cons, sumBy, ih]
theorem jn_len' (b : List UInt8) (L : List ByteArray) : (jn b L).length ≤ sumBy ByteArray.size L + L.length * b.length := by rw [← sum_map_size]; exact jn_len b L
theorem sumBy_take_le' (L : List ByteArray) (k : Nat) : sumBy ByteArray.size (L.take k) ≤ sumBy ByteArray.size L := by
  have := sumBy_append ByteArray.size (L.take k) (L.drop k)
  rw [List.take_append_drop] at this; omega
theorem jn_take (b : List UInt8) (L : List ByteArray) (k : Nat) : (jn b (L.take k)).length ≤ sumBy ByteArray.size L + L.length * b.length := by
  have h1 := jn_len' b (L.take k)
  have h2 := sumBy_take_le' L k
  have h3 : (L.take k).length ≤ L.length := by rw [List.length_take]; exact Nat.min_le_right _ _
  have h4 := Nat.mul_le_mul_right b.length h3
  omega
theorem jn_step (b : List UInt8) {L : List ByteArray} {k : Nat} (h : k < L.length) : jn b (L.take (k + 1)) = if k = 0 then tx (L.getD k default) else jn b (L.take k) ++ (b ++ tx (L.getD k default)) := by
  rw [take_get h, jn_snoc]
  cases k with
  | zero => simp
  | succ k => rw [if_neg, if_neg (by omega)]; intro e; have := congrArg List.length e; rw [List.length_take, List.length_nil] at this; omega
abbrev P_c_l1Join (L : List ByteArray) (b : ByteArray) : Ct := ⟨69, [], [ll (L.map strC), ls b], [], .sv (ls (mkS (jn (tx b) L)))⟩
def lc_l1JoinLa (L : List ByteArray) (b : ByteArray) : Lp Nat := .mk 25 0 (fun x => [(1, ls b), (5, hs x 1), (8, ll (List.map strC L)), (9, li (↑(List.map strC L).length : Int)),
 (10, hs x 0)]) (fun x => []) (fun k => [.s (li (↑k : Int)), .s (ls (mkS (jn (tx b) (List.take k L))))]) (fun k => k ≤ L.length ∧ L.length ≤ 9223372036854775807) (fun k => L.length
 - k) [.mk True (.exit 0) (fun x => [(5, hs x 0)]) (fun x => []) [.s (ls (mkS (jn (tx b) L)))]]
theorem Sc_l1JoinLa (L : List ByteArray) (b : ByteArray) (h : sumBy ByteArray.size L + L.length * b.size ≤ 1099511627776) (hb : b.size ≤ 1099511627776) : Lp.Sem Tryd.prog (loopAt
 Tryd.f69 0) (lc_l1JoinLa L b) := lpOK (fun k => .i ((↑k : Int) < (↑(List.map strC L).length : Int)) (.x (↑k : Int) (List.map strC L) [cS (L.getD k default)] (.i (0 < (↑k : Int))
 (.p ((jn (tx b) (List.take k L)).length + b.data.toList.length ≤ 9223372036854775807) (.p ((jn (tx b) (List.take k L) ++ b.data.toList).length + (L.getD k
 default).data.toList.length ≤ 9223372036854775807) (.r ((↑k : Int) + 1) (.g [] (k + 1) [.s (li ((↑k : Int) + 1)), .s (ls (ByteArray.mk (jn (tx b) (List.take k L) ++ b.data.toList
 ++ (L.getD k default).data.toList).toArray))])))) (.p ((jn (tx b) (List.take k L)).length + (L.getD k default).data.toList.length ≤ 9223372036854775807) (.r ((↑k : Int) + 1) (.g
 [] (k + 1) [.s (li ((↑k : Int) + 1)), .s (ls (ByteArray.mk (jn (tx b) (List.take k L) ++ (L.getD k default).data.toList).toArray))]))))) (.o 0 [] [.s (ls (mkS (jn (tx b)
 (List.take k L))))])) (by
  intro k h; try dsimp only [teasy, nthW, lc_l1JoinLa] at h ⊢
  have h1 := jn_take (tx b) L k
  have h2 := @sumBy_mem _ ByteArray.size L (L.getD k default)
  rw [tx_len] at h1
  with_reducible repeat' (first | apply And.intro | exact zR | (intro; skip))
  all_goals (try simp only [std, inj] at *)
  all_goals with_reducible repeat' apply And.intro
  all_goals (try (first | exact z | grind [jn_step, getD_mem', jn, List.append_assoc, snocI, snocS, rowSnoc])))
theorem c_l1Join (L : List ByteArray) (b : ByteArray) (h : sumBy ByteArray.size L + L.length * b.size ≤ 1099511627776) (hb : b.size ≤ 1099511627776)  : P_c_l1Join L b := fnOK
 Tryd.call69 Tryd.func69 (.z strC L (.l (lc_l1JoinLa L b) (Sc_l1JoinLa L b h hb) [] [.s (li 0), .s (ls (ByteArray.mk #[]))] 0 (.t (.s (ls (mkS (jn (tx b) L)))) .q))) (by
  dsimp only [teasy, P_c_l1Join, nthW, lc_l1JoinLa]
  with_reducible repeat' (first | apply And.intro | exact zR | (intro; skip))
  all_goals (try simp only [std, inj] at *)
  all_goals with_reducible repeat' apply And.intro
  all_goals (try (first | exact z | grind [jn, snocI, snocS, rowSnoc])))
theorem fmS_size (L : List Datum) (h : L.all okD = true) : sumBy ByteArray.size (L.map fmS) ≤ 30 * sumBy sizeD L := by
  induction L with
  | nil => simp [sumBy]
  | cons x r ih =>
    rw [List.all_cons, Bool.and_eq_true] at h
    have h1 := ih h.2
    have h2 := fmtD_len x h.1
    have h3 : (fmS x).size = (fmtD x).length := rfl
    simp only [List.map_cons, sumBy, h3]; omega
abbrev P_c_sFmt (d : Datum) : Ct := ⟨30, [], [datumA d], [], .sv (ls (mkS (fmtD d)))⟩
def lc_sFmt_sLa (d : Datum) : Lp Nat := .mk 48 0 (fun x => [(3, SV.one (AC.ref 0)), (32, ll (List.map datumC d.items)), (33, li (↑(List.map datumC d.items).length : Int)), (34, hs
 x 0)]) (fun x => [ho x 1]) (fun k => [.s (li (↑k : Int)), .o (Ob.arr true 1 (List.map strC (List.map fmS (List.take k d.items))))]) (fun k => k ≤ d.items.length ∧ d.items.length ≤
 9223372036854775807 ∧ okD d = true ∧ sizeD d ≤ 1073741824) (fun k => d.items.length - k) [.mk True (.exit 1) (fun x => [(3, SV.one (AC.ref 0))]) (fun x => [ho x 0]) [.o (Ob.arr
 true 1 (List.map strC (List.map fmS d.items)))]]
theorem Sc_sFmt_sLa (d : Datum) (h : okD d = true ∧ sizeD d ≤ 1073741824) (ih : ∀ (z : Datum), z ∈ d.items → okD z = true ∧ sizeD z ≤ 1073741824 → OK (P_c_sFmt z)) : Lp.Sem
 Tryd.prog (loopAt Tryd.f30 0) (lc_sFmt_sLa d) := lpOK (fun k => .i ((↑k : Int) < (↑(List.map datumC d.items).length : Int)) (.x (↑k : Int) (List.map datumC d.items) (datumF
 (d.items.getD k default)) (.d [.rd] (P_c_sFmt (d.items.getD k default)) (.p (((List.map strC (List.map fmS (List.take k d.items))).length + 1) * 16 ≤ 140737488355328) (.r ((↑k :
 Int) + 1) (.g [3] (k + 1) [.s (li ((↑k : Int) + 1)), .o (Ob.arr true 1 (List.map strC (List.map fmS (List.take k d.items)) ++ [[cS (mkS (fmtD (d.items.getD k default)))]]))])))))
 (.o 0 [0] [.o (Ob.arr true 1 (List.map strC (List.map fmS (List.take k d.items))))])) (by
  intro k h; try dsimp only [teasy, nthW, lc_sFmt_sLa] at h ⊢
  have g1 := okD_eq d
  have g2 := sizeD_eq d
  have g3 := @sumBy_mem _ sizeD d.items (d.items.getD k default)
  have g4 := len_size d.items
  with_reducible repeat' (first | apply And.intro | exact zR | exact ih | (intro; skip) | apply c_sNum | apply c_l1Join | apply ih)
  all_goals (try simp only [std, inj] at *)
  all_goals with_reducible repeat' apply And.intro
  all_goals (try (first | with_reducible apply c_sNum | with_reducible apply c_l1Join | with_reducible apply ih | (simp only [← List.map_append]; first | with_reducible apply c_sNum | with_reducible apply c_l1Join | with_reducible apply ih)))
  all_goals (try (first | exact z | grind [take_get, fmS, getD_mem', snocI, snocS, rowSnoc, getD_mem'])))
theorem c_sFmt_s (d : Datum) (h : okD d = true ∧ sizeD d ≤ 1073741824) (ih : ∀ z ∈ d.items, ∀ (h : okD z = true ∧ sizeD z ≤ 1073741824), P_c_sFmt z)  : P_c_sFmt d := fnOK
 Tryd.call30 Tryd.func30 (.i (d.kind = 1) (.s (ls d.text)) (.i (d.kind = 2) (.d [.rd] (P_c_sNum d.number) (.s (ls (mkS (Lib.itoa d.number))))) (.i (d.kind = 3) (.p (0 ≤ d.number ∧
 d.number.toNat < 2) (.w (.cells (strC ([ByteArray.mk #[(35 : UInt8), (102 : UInt8)], ByteArray.mk #[(35 : UInt8), (116 : UInt8)]].getD d.number.toNat ByteArray.empty))) (.p ([[cS
 (ByteArray.mk #[(35 : UInt8), (102 : UInt8)])], [cS (ByteArray.mk #[(35 : UInt8), (116 : UInt8)])]][d.number.toNat]? = some [cS ([ByteArray.mk #[(35 : UInt8), (102 : UInt8)],
 ByteArray.mk #[(35 : UInt8), (116 : UInt8)]].getD d.number.toNat ByteArray.empty)]) (.s (ls ([ByteArray.mk #[(35 : UInt8), (102 : UInt8)], ByteArray.mk #[(35 : UInt8), (116 :
 UInt8)]].getD d.number.toNat ByteArray.empty)))))) (.i (d.kind = 4) (.p (1 + d.text.data.toList.length ≤ 9223372036854775807) (.p (([(34 : UInt8)] ++ d.text.data.toList).length +
 1 ≤ 9223372036854775807) (.s (ls (ByteArray.mk ([(34 : UInt8)] ++ d.text.data.toList ++ [(34 : UInt8)]).toArray))))) (.w (.bool false) (.z datumC d.items (.l (lc_sFmt_sLa d)
 (Sc_sFmt_sLa d h ih) [1] [.s (li 0), .o (Ob.arr true 1 [])] 0 (.t (.d [.rd, .rd] (P_c_l1Join (List.map fmS d.items) (ByteArray.mk #[(32 : UInt8)])) (.p (1 + (jn (tx (ByteArray.mk
 #[(32 : UInt8)])) (List.map fmS d.items)).length ≤ 9223372036854775807) (.p (([(40 : UInt8)] ++ jn (tx (ByteArray.mk #[(32 : UInt8)])) (List.map fmS d.items)).length + 1 ≤
 9223372036854775807) (.s (ls (ByteArray.mk ([(40 : UInt8)] ++ jn (tx (ByteArray.mk #[(32 : UInt8)])) (List.map fmS d.items) ++ [(41 : UInt8)]).toArray)))))) .q)))))))) (by
  dsimp only [teasy, P_c_sFmt, nthW, lc_sFmt_sLa]
  have g1 := okD_eq d
  have g2 := sizeD_eq d
  have g3 := fmS_size d.items
  have g4 := len_size d.items
  have g5 := fmtD_eq d
  have g6 := fmtD_len d
  have g7 := @nod_txt d.kind d.number d.text d.items.length
  have g8 := mkS_tx d.text
  with_reducible repeat' (first | apply And.intro | exact zR | exact ih | (intro; skip) | apply c_sNum | apply c_l1Join)
  all_goals (try simp only [std, inj] at *)
  all_goals with_reducible repeat' apply And.intro
  all_goals (try (first | with_reducible apply c_sNum | with_reducible apply c_l1Join | with_reducible apply ih | (simp only [← List.map_append]; first | with_reducible apply c_sNum | with_reducible apply c_l1Join | with_reducible apply ih)))
  all_goals (try (first | exact z | grind [nodD, fmJ, snocI, snocS, rowSnoc])))
theorem c_sFmt (d : Datum) : ∀ (h : okD d = true ∧ sizeD d ≤ 1073741824), P_c_sFmt d := Datum.ind (P := fun d => ∀ (h : okD d = true ∧ sizeD d ≤ 1073741824), P_c_sFmt d) (fun d ih h => c_sFmt_s d h ih) d
def fmO (L : List Datum) : List UInt8 := [40] ++ fmJ L
theorem fmO_nil : [[Cell.lit (.int .u8 40)]] = (fmO []).map byteC := rfl
theorem fmO_go {L : List Datum} {k : Nat} (h : k < L.length) (e : ¬ 0 < (k : Int)) : (fmO (L.take (k + 1))).map byteC = (fmO (L.take k)).map byteC ++ (fmtD (L.getD k default)).map byteC := by
  have : k = 0 := by omega
  subst this; unfold fmO; rw [fmJ_step h]; rfl
theorem fmO_on {L : List Datum} {k : Nat} (h : k < L.length) (e : 0 < (k : Int)) : (fmO (L.take (k + 1))).map byteC = (fmO (L.take k)).map byteC ++ ([[Cell.lit (.int .u8 32)]] ++ (fmtD (L.getD k default)).map byteC) := by
  unfold fmO; rw [fmJ_step h, if_neg (by omega), ← List.append_assoc, List.map_append, List.map_append]; rfl
theorem fmO_len {d : Datum} (k : Nat) (h : okD d = true) : (fmO (d.items.take k)).length ≤ 1 + 30 * sumBy sizeD (d.items.take k) := by
  rw [okD_eq, Bool.and_eq_true, List.all_eq_true] at h
  have h1 := jn_le (d.items.take k) (m := fun x => 30 * sizeD x) fun x hx => fmtD_len x (h.1 x (List.mem_of_mem_take hx))
  rw [sum_mul] at h1
  unfold fmO; simp only [List.length_append, List.length_cons, List.length_nil]; omega
theorem sum_two {w : Datum → Nat} {L : List Datum} {k : Nat} (h : k < L.length) : sumBy w (L.take k) + w (L.getD k default) ≤ sumBy w L := by
  have h1 := sumBy_step w h
  have h2 := sumBy_takeLe w L (k + 1)
  omega
theorem fmtD_list {d : Datum} (h1 : ¬ d.kind = 1) (h2 : ¬ d.kind = 2) (h3 : ¬ d.kind = 3) (h4 : ¬ d.kind = 4) : (fmtD d).map byteC = (fmO d.items).map byteC ++ [[Cell.lit (.int .u8 41)]] := by
  rw [fmtD_eq, if_neg h1, if_neg h2, if_neg h3, if_neg h4]; unfold fmO
  rw [← List.append_assoc, List.map_append]; rfl
theorem fmtD_1 {d : Datum} (h : d.kind = 1) : (fmtD d).map byteC = d.text.data.toList.map (fun b => [Cell.lit (.int .u8 b.toNat)]) := by rw [fmtD_eq, if_pos h]; rfl
theorem fmtD_2 {d : Datum} (h : d.kind = 2) : (fmtD d).map byteC = (Lib.itoa d.number).map (fun b => [Cell.lit (.int .u8 b.toNat)]) := by rw [fmtD_eq, if_neg (by omega), if_pos h]; rfl
theorem fmtD_t {d : Datum} (h : d.kind = 3) (h1 : d.number = 1) : (fmtD d).map byteC = [[Cell.lit (.int .u8 35)], [Cell.lit (.int .u8 116)]] := by rw [fmtD_eq, if_neg (by omega), if_neg (by omega), if_pos h, if_pos h1]; rfl
theorem fmtD_f {d : Datum} (h : d.kind = 3) (h1 : ¬ d.number = 1) : (fmtD d).map byteC = [[Cell.lit (.int .u8 35)], [Cell.lit (.int .u8 102)]] := by rw [fmtD_eq, if_neg (by omega), if_neg (by omega), if_pos h, if_neg h1]; rfl
theorem fmtD_4 {d : Datum} (h4 : d.kind = 4) : (fmtD d).map byteC = [[Cell.lit (.int .u8 34)]] ++ (d.text.data.toList.map (fun b => [Cell.lit (.int .u8 b.toNat)]) ++ [[Cell.lit (.int .u8 34)]]) := by
  rw [fmtD_eq, if_neg (by omega), if_neg (by omega), if_neg (by omega), if_pos h4]
  rw [List.map_append, List.map_append]; rfl
abbrev P_c_iWrite (R : List (List Cell)) (d : Datum) : Ct := ⟨48, [.arr true 1 R], [.one (.ref 0), datumA d], [.dead, .arr true 1 (R ++ (fmtD d).map byteC)], .sv (.one (.ref 1))⟩
def lc_iWrite_sLa (R : List (List Cell)) (d : Datum) : Lp Nat := .mk 66 1 (fun x => [(0, SV.one (AC.ref 1)), (47, ll (List.map datumC d.items)), (48, li (↑(List.map datumC
 d.items).length : Int)), (49, hs x 0)]) (fun x => [Ob.dead, ho x 1]) (fun k => [.s (li (↑k : Int)), .o (Ob.arr true 1 (R ++ List.map byteC (fmO (List.take k d.items))))]) (fun k
 => k ≤ d.items.length ∧ d.items.length ≤ 9223372036854775807 ∧ okD d = true ∧ sizeD d ≤ 1073741824 ∧ R.length + 30 * sizeD d ≤ 70368744177664) (fun k => d.items.length - k) [.mk
 True (.exit 1) (fun x => [(0, SV.one (AC.ref 1))]) (fun x => [Ob.dead, ho x 0]) [.o (Ob.arr true 1 (R ++ List.map byteC (fmO d.items)))]]
theorem Sc_iWrite_sLa (R : List (List Cell)) (d : Datum) (h : okD d = true ∧ sizeD d ≤ 1073741824 ∧ R.length + 30 * sizeD d ≤ 70368744177664) (ih : ∀ (z : Datum), z ∈ d.items → ∀
 (R : List (List Cell)), okD z = true ∧ sizeD z ≤ 1073741824 ∧ R.length + 30 * sizeD z ≤ 70368744177664 → OK (P_c_iWrite R z)) : Lp.Sem Tryd.prog (loopAt Tryd.f48 0) (lc_iWrite_sLa
 R d) := lpOK (fun k => .i ((↑k : Int) < (↑(List.map datumC d.items).length : Int)) (.x (↑k : Int) (List.map datumC d.items) (datumF (d.items.getD k default)) (.i (0 < (↑k : Int))
 (.p (((R ++ List.map byteC (fmO (List.take k d.items))).length + 1) * 1 ≤ 140737488355328) (.d [.own true 1, .rd] (P_c_iWrite (R ++ List.map byteC (fmO (List.take k d.items)) ++
 [[Cell.lit (Value.int IntKind.u8 32)]]) (d.items.getD k default)) (.r ((↑k : Int) + 1) (.g [0, 6] (k + 1) [.s (li ((↑k : Int) + 1)), .o (Ob.arr true 1 (R ++ List.map byteC (fmO
 (List.take k d.items)) ++ [[Cell.lit (Value.int IntKind.u8 32)]] ++ List.map byteC (fmtD (d.items.getD k default))))])))) (.d [.own true 1, .rd] (P_c_iWrite (R ++ List.map byteC
 (fmO (List.take k d.items))) (d.items.getD k default)) (.r ((↑k : Int) + 1) (.g [0, 4] (k + 1) [.s (li ((↑k : Int) + 1)), .o (Ob.arr true 1 (R ++ List.map byteC (fmO (List.take k
 d.items)) ++ List.map byteC (fmtD (d.items.getD k default))))]))))) (.o 0 [0, 1] [.o (Ob.arr true 1 (R ++ List.map byteC (fmO (List.take k d.items))))])) (by
  intro k h; try dsimp only [teasy, nthW, lc_iWrite_sLa] at h ⊢
  have g1 := okD_eq d
  have g2 := sizeD_eq d
  have g3 := @sum_two sizeD d.items k
  have g4 := @fmO_len d k
  have g5 := @fmO_go d.items k
  have g6 := @fmO_on d.items k
  with_reducible repeat' (first | apply And.intro | exact zR | exact ih | (intro; skip) | apply c_iNum | apply ih)
  all_goals (try simp only [std, inj] at *)
  all_goals with_reducible repeat' apply And.intro
  all_goals (try (first | with_reducible apply c_iNum | with_reducible apply ih | (simp only [← List.map_append]; first | with_reducible apply c_iNum | with_reducible apply ih)))
  all_goals (try (first | exact z | grind [getD_mem', snocI, snocS, rowSnoc])))
theorem c_iWrite_s (R : List (List Cell)) (d : Datum) (h : okD d = true ∧ sizeD d ≤ 1073741824 ∧ R.length + 30 * sizeD d ≤ 70368744177664) (ih : ∀ z ∈ d.items, ∀ (R : List (List
 Cell)) (h : okD z = true ∧ sizeD z ≤ 1073741824 ∧ R.length + 30 * sizeD z ≤ 70368744177664), P_c_iWrite R z)  : P_c_iWrite R d := fnOK Tryd.call48 Tryd.func48 (.i (d.kind = 1) (.p
 ((R.length + (List.map (fun b => [Cell.lit (Value.int IntKind.u8 (↑b.toNat : Int))]) d.text.data.toList).length) * 1 ≤ 140737488355328) (.f [2] [Ob.dead, Ob.arr true 1 (R ++
 List.map (fun b => [Cell.lit (Value.int IntKind.u8 (↑b.toNat : Int))]) d.text.data.toList)] (AV.sv (SV.one (AC.ref 1))))) (.i (d.kind = 2) (.d [.rd] (P_c_iNum d.number) (.p
 ((R.length + (List.map (fun b => [Cell.lit (Value.int IntKind.u8 (↑b.toNat : Int))]) (Lib.itoa d.number)).length) * 1 ≤ 140737488355328) (.f [2] [Ob.dead, Ob.arr true 1 (R ++
 List.map (fun b => [Cell.lit (Value.int IntKind.u8 (↑b.toNat : Int))]) (Lib.itoa d.number))] (AV.sv (SV.one (AC.ref 1)))))) (.i (d.kind = 3) (.i (d.number = 1) (.p ((R.length + 2)
 * 1 ≤ 140737488355328) (.f [2] [Ob.dead, Ob.arr true 1 (R ++ [[Cell.lit (Value.int IntKind.u8 35)], [Cell.lit (Value.int IntKind.u8 116)]])] (AV.sv (SV.one (AC.ref 1))))) (.p
 ((R.length + 2) * 1 ≤ 140737488355328) (.f [2] [Ob.dead, Ob.arr true 1 (R ++ [[Cell.lit (Value.int IntKind.u8 35)], [Cell.lit (Value.int IntKind.u8 102)]])] (AV.sv (SV.one (AC.ref
 1)))))) (.i (d.kind = 4) (.p ((R.length + 1) * 1 ≤ 140737488355328) (.p (((R ++ [[Cell.lit (Value.int IntKind.u8 34)]]).length + (List.map (fun b => [Cell.lit (Value.int
 IntKind.u8 (↑b.toNat : Int))]) d.text.data.toList).length) * 1 ≤ 140737488355328) (.p (((R ++ [[Cell.lit (Value.int IntKind.u8 34)]] ++ List.map (fun b => [Cell.lit (Value.int
 IntKind.u8 (↑b.toNat : Int))]) d.text.data.toList).length + 1) * 1 ≤ 140737488355328) (.f [6] [Ob.dead, Ob.arr true 1 (R ++ [[Cell.lit (Value.int IntKind.u8 34)]] ++ List.map (fun
 b => [Cell.lit (Value.int IntKind.u8 (↑b.toNat : Int))]) d.text.data.toList ++ [[Cell.lit (Value.int IntKind.u8 34)]])] (AV.sv (SV.one (AC.ref 1))))))) (.p ((R.length + 1) * 1 ≤
 140737488355328) (.z datumC d.items (.l (lc_iWrite_sLa R d) (Sc_iWrite_sLa R d h ih) [0, 3] [.s (li 0), .o (Ob.arr true 1 (R ++ [[Cell.lit (Value.int IntKind.u8 40)]]))] 0 (.t (.p
 (((R ++ List.map byteC (fmO d.items)).length + 1) * 1 ≤ 140737488355328) (.f [3] [Ob.dead, Ob.arr true 1 (R ++ List.map byteC (fmO d.items) ++ [[Cell.lit (Value.int IntKind.u8
 41)]])] (AV.sv (SV.one (AC.ref 1))))) .q)))))))) (by
  dsimp only [teasy, P_c_iWrite, nthW, lc_iWrite_sLa]
  have g1 := okD_eq d
  have g2 := sizeD_eq d
  have g3 := @fmO_len d d.items.length
  have g4 := fmO_nil
  have g5 := @fmtD_1 d
  have g6 := fmtD_len d
  have g7 := @nod_txt d.kind d.number d.text d.items.length
  have g8 := @fmtD_list d
  have g9 := @fmtD_4 d
  have g10 := @fmtD_2 d
  have g11 := @fmtD_t d
  have g12 := @fmtD_f d
  have g13 := itoa_len9 (n := d.number)
  with_reducible repeat' (first | apply And.intro | exact zR | exact ih | (intro; skip) | apply c_iNum)
  all_goals (try simp only [std, inj] at *)
  all_goals with_reducible repeat' apply And.intro
  all_goals (try (first | with_reducible apply c_iNum | with_reducible apply ih | (simp only [← List.map_append]; first | with_reducible apply c_iNum | with_reducible apply ih)))
  all_goals (try (first | exact z | grind [nodD, snocI, snocS, rowSnoc])))
theorem c_iWrite (d : Datum) : ∀ (R : List (List Cell)) (h : okD d = true ∧ sizeD d ≤ 1073741824 ∧ R.length + 30 * sizeD d ≤ 70368744177664), P_c_iWrite R d := Datum.ind (P := fun d => ∀ (R : List (List Cell)) (h : okD d = true ∧ sizeD d ≤ 1073741824 ∧ R.length + 30 * sizeD d ≤ 70368744177664), P_c_iWrite R d) (fun d ih R h => c_iWrite_s R d h ih) d
abbrev P_c_iFmtD (d : Datum) : Ct := ⟨35, [], [datumA d], [], .sv (ls (mkS (fmX d)))⟩
theorem c_iFmtD (d : Datum)  : P_c_iFmtD d := fnOK Tryd.call35 Tryd.func35 (.c [.rd] (c_iIsDatum d) (.b (!isDat d) (.s (ls (ByteArray.mk #[]))) (.d [.own true 1, .rd] (P_c_iWrite []
 d) (.w (.bytes (fmtD d)) (.p (List.map byteC (fmtD d) = List.map byteC (fmtD d)) (.s (ls (ByteArray.mk (fmtD d).toArray)))))))) (by
  dsimp only [teasy, P_c_iFmtD]
  have g6 := fmtD_len d
  with_reducible repeat' (first | apply And.intro | exact zR | (intro; skip) | apply c_iWrite)
  all_goals (try simp only [std, inj] at *)
  all_goals with_reducible repeat' apply And.intro
  all_goals (try (first | with_reducible apply c_iWrite | (simp only [← List.map_append]; first | with_reducible apply c_iWrite)))
  all_goals (try (first | exact z | grind [fmX, isDat, snocI, snocS, rowSnoc])))
def fmM (u : Module) : List UInt8 := if modOK u then fmtD (lstD (modD u)) else []
theorem modOK_dat {u : Module} (h : modOK u = true) : isDat (lstD (modD u)) = true ∧ okD (lstD (modD u)) = true ∧ sizeD (lstD (modD u)) ≤ 600 := by
  simp only [modOK, Bool.and_eq_true] at h
  refine ⟨h.2, ?_⟩
  have := h.2
  simp only [isDat, Bool.and_eq_true, decide_eq_true_eq] at this
  exact ⟨this.2, this.1.1⟩
abbrev P_c_sFmtM (u : Module) : Ct := ⟨8, [], [moduleA u], [], .sv (ls (mkS (fmM u)))⟩
theorem c_sFmtM (u : Module) (h : wM u ≤ 1048576)  : P_c_sFmtM u := fnOK Tryd.call8 Tryd.func8 (.d [.rd] (P_c_sIsModule u) (.b (!modOK u) (.s (ls (ByteArray.mk #[]))) (.d [.rd]
 (P_c_sModD u) (.d [.rd] (P_c_sFmt (Datum.mk 0 0 (mkS []) (modD u))) (.s (ls (mkS (fmtD (Datum.mk 0 0 (mkS []) (modD u)))))))))) (by
  dsimp only [teasy, P_c_sFmtM]
  have g := @modOK_dat u
  with_reducible repeat' (first | apply And.intro | exact zR | (intro; skip) | apply c_sIsModule | apply c_sModD | apply c_sFmt)
  all_goals (try simp only [std, inj] at *)
  all_goals with_reducible repeat' apply And.intro
  all_goals (try (first | with_reducible apply c_sIsModule | with_reducible apply c_sModD | with_reducible apply c_sFmt | (simp only [← List.map_append]; first | with_reducible apply c_sIsModule | with_reducible apply c_sModD | with_reducible apply c_sFmt)))
  all_goals (try (first | exact z | grind [fmM, lstD, snocI, snocS, rowSnoc])))
abbrev P_c_iFmtM (u : Module) : Ct := ⟨10, [], [moduleA u], [], .sv (ls (mkS (fmM u)))⟩
theorem c_iFmtM (u : Module) (h : wM u ≤ 1048576)  : P_c_iFmtM u := fnOK Tryd.call10 Tryd.func10 (.d [.rd] (P_c_iIsModule u) (.b (!modOK u) (.s (ls (ByteArray.mk #[]))) (.d [.rd]
 (P_c_iModD u) (.c [.rd] (c_iFmtD (Datum.mk 0 0 (mkS []) (modD u))) (.s (ls (mkS (fmX (Datum.mk 0 0 (mkS []) (modD u)))))))))) (by
  dsimp only [teasy, P_c_iFmtM]
  have g := @modOK_dat u
  with_reducible repeat' (first | apply And.intro | exact zR | (intro; skip) | apply c_iIsModule | apply c_iModD)
  all_goals (try simp only [std, inj] at *)
  all_goals with_reducible repeat' apply And.intro
  all_goals (try (first | with_reducible apply c_iIsModule | with_reducible apply c_iModD | (simp only [← List.map_append]; first | with_reducible apply c_iIsModule | with_reducible apply c_iModD)))
  all_goals (try (first | exact z | grind [fmM, lstD, fmX, snocI, snocS, rowSnoc])))
end Go.Proofs.YtpflccjienojfaaDoor
end
section
namespace Go.Proofs.YtpflccjienojfaaDoor
open Go Go.Proofs.YtpflccjienojfaaDoor.Ab
set_option linter.unusedVariables false
set_option linter.unusedSimpArgs false
set_option maxHeartbeats 4000000
abbrev P_c_szStringS (L : List ByteArray) (left : Int) : Ct := ⟨28, [], [ll (L.map strC), li left], [], .sv (li (sz (wS L) left))⟩
def lc_szStringSLa (L : List ByteArray) (left : Int) : Lp (Nat × Int) := .mk 28 0 (fun x => [(0, ll (List.map strC L)), (1, hs x 1), (5, hs x 0)]) (fun x => []) (fun k => [.s (li
 (↑k.fst : Int)), .s (li k.snd)]) (fun k => k.fst ≤ L.length ∧ L.length ≤ 9223372036854775807 ∧ 0 ≤ k.snd ∧ k.snd ≤ left ∧ sz (sumBy ByteArray.size (List.drop k.fst L)) k.snd = sz
 (wS L) left) (fun k => L.length - k.fst) [.mk (0 ≤ sz (wS L) left) (.exit 0) (fun x => [(1, hs x 0)]) (fun x => []) [.s (li (sz (wS L) left))], .mk (sz (wS L) left = (-1 : Int))
 .ret (fun x => [(4, hs x 0)]) (fun x => []) [.s (li (-1 : Int))]]
theorem Sc_szStringSLa (L : List ByteArray) (left : Int) (h0 : 0 ≤ left) (h : left ≤ 2147483647) : Lp.Sem Tryd.prog (loopAt Tryd.f28 0) (lc_szStringSLa L left) := lpOK (fun k => .z
 strC L (.i ((↑k.fst : Int) < (↑(List.map strC L).length : Int)) (.x (↑k.fst : Int) (List.map strC L) [cS (L.getD k.fst default)] (.h ((L.getD k.fst default).data.toList.length ≤
 9223372036854775807) (.r (k.snd - (↑(L.getD k.fst default).data.toList.length : Int)) (.i (k.snd - (↑(L.getD k.fst default).data.toList.length : Int) < 0) (.o 1 [] [.s (li (-1 :
 Int))]) (.r ((↑k.fst : Int) + 1) (.g [] (k.fst + 1, k.snd - (↑(L.getD k.fst default).data.toList.length : Int)) [.s (li ((↑k.fst : Int) + 1)), .s (li (k.snd - (↑(L.getD k.fst
 default).data.toList.length : Int)))])))))) (.o 0 [] [.s (li k.snd)]))) (by
  intro k h; try dsimp only [teasy, nthW, lc_szStringSLa] at h ⊢
  obtain ⟨i, n⟩ := k
  simp only at *
  with_reducible repeat' (first | apply And.intro | exact zR | (intro; skip))
  all_goals (try simp only [std, inj] at *)
  all_goals with_reducible repeat' apply And.intro
  all_goals (try (first | exact z | grind [drop_get, sumBy, sz, snocI, snocS, rowSnoc])))
theorem c_szStringS (L : List ByteArray) (left : Int) (h0 : 0 ≤ left) (h : left ≤ 2147483647)  : P_c_szStringS L left := fnOK Tryd.call28 Tryd.func28 (.z strC L (.r (left -
 (↑(List.map strC L).length : Int)) (.i (left - (↑(List.map strC L).length : Int) < 0) (.s (li (-1 : Int))) (.l (lc_szStringSLa L left) (Sc_szStringSLa L left h0 h) [] [.s (li 0),
 .s (li (left - (↑(List.map strC L).length : Int)))] (0, left - (↑L.length : Int)) (.t (.s (li (sz (wS L) left))) (.t (.s (li (-1 : Int))) .q)))))) (by
  dsimp only [teasy, P_c_szStringS, nthW, lc_szStringSLa]
  with_reducible repeat' (first | apply And.intro | exact zR | (intro; skip))
  all_goals (try simp only [std, inj] at *)
  all_goals with_reducible repeat' apply And.intro
  all_goals (try (first | exact z | grind [wS, sz, snocI, snocS, rowSnoc])))
abbrev P_c_szDatumS (L : List Datum) (left : Int) : Ct := ⟨29, [], [ll (L.map datumC), li left], [], .sv (li (sz (L.length + sumBy wD L) left))⟩
abbrev P_c_szDatum (x : Datum) (left : Int) : Ct := ⟨40, [], [datumA x, li left], [], .sv (li (sz (wD x) left))⟩
def lc_szDatumSLa (L : List Datum) (left : Int) : Lp (Nat × Int) := .mk 27 0 (fun x => [(0, ll (List.map datumC L)), (1, hs x 1), (5, hs x 0)]) (fun x => []) (fun k => [.s (li
 (↑k.fst : Int)), .s (li k.snd)]) (fun k => k.fst ≤ L.length ∧ L.length ≤ 9223372036854775807 ∧ 0 ≤ k.snd ∧ k.snd ≤ left ∧ sz (sumBy wD (List.drop k.fst L)) k.snd = sz (L.length +
 sumBy wD L) left) (fun k => L.length - k.fst) [.mk (0 ≤ sz (L.length + sumBy wD L) left) (.exit 0) (fun x => [(1, hs x 0)]) (fun x => []) [.s (li (sz (L.length + sumBy wD L)
 left))], .mk (sz (L.length + sumBy wD L) left = (-1 : Int)) .ret (fun x => [(4, hs x 0)]) (fun x => []) [.s (li (-1 : Int))]]
theorem Sc_szDatumSLa (L : List Datum) (left : Int) (h0 : 0 ≤ left) (h : left ≤ 2147483647) (ih : ∀ (x : Datum), x ∈ L → ∀ (left : Int), 0 ≤ left → left ≤ 2147483647 → OK
 (P_c_szDatum x left)) : Lp.Sem Tryd.prog (loopAt Tryd.f29 0) (lc_szDatumSLa L left) := lpOK (fun k => .z datumC L (.i ((↑k.fst : Int) < (↑(List.map datumC L).length : Int)) (.x
 (↑k.fst : Int) (List.map datumC L) (datumF (L.getD k.fst default)) (.d [.rd, .rd] (P_c_szDatum (L.getD k.fst default) k.snd) (.i (sz (wD (L.getD k.fst default)) k.snd < 0) (.o 1
 [] [.s (li (-1 : Int))]) (.r ((↑k.fst : Int) + 1) (.g [] (k.fst + 1, sz (wD (L.getD k.fst default)) k.snd) [.s (li ((↑k.fst : Int) + 1)), .s (li (sz (wD (L.getD k.fst default))
 k.snd))]))))) (.o 0 [] [.s (li k.snd)]))) (by
  intro k h; try dsimp only [teasy, nthW, lc_szDatumSLa] at h ⊢
  obtain ⟨i, n⟩ := k
  simp only at *
  with_reducible repeat' (first | apply And.intro | exact zR | exact ih | (intro; skip) | apply ih)
  all_goals (try simp only [std, inj] at *)
  all_goals with_reducible repeat' apply And.intro
  all_goals (try (first | with_reducible apply ih | (simp only [← List.map_append]; first | with_reducible apply ih)))
  all_goals (try (first | exact z | grind [drop_get, sumBy, sz, getD_mem', snocI, snocS, rowSnoc])))
theorem c_szDatumS (L : List Datum) (left : Int) (h0 : 0 ≤ left) (h : left ≤ 2147483647) (ih : ∀ x ∈ L, ∀ (left : Int) (h0 : 0 ≤ left) (h : left ≤ 2147483647), P_c_szDatum x left) 
 : P_c_szDatumS L left := fnOK Tryd.call29 Tryd.func29 (.z datumC L (.r (left - (↑(List.map datumC L).length : Int)) (.i (left - (↑(List.map datumC L).length : Int) < 0) (.s (li (-1
 : Int))) (.l (lc_szDatumSLa L left) (Sc_szDatumSLa L left h0 h ih) [] [.s (li 0), .s (li (left - (↑(List.map datumC L).length : Int)))] (0, left - (↑L.length : Int)) (.t (.s (li
 (sz (L.length + sumBy wD L) left))) (.t (.s (li (-1 : Int))) .q)))))) (by
  dsimp only [teasy, P_c_szDatumS, nthW, lc_szDatumSLa]
  with_reducible repeat' (first | apply And.intro | exact zR | exact ih | (intro; skip))
  all_goals (try simp only [std, inj] at *)
  all_goals with_reducible repeat' apply And.intro
  all_goals (try (first | with_reducible apply ih | (simp only [← List.map_append]; first | with_reducible apply ih)))
  all_goals (try (first | exact z | grind [sz, snocI, snocS, rowSnoc])))
theorem c_szDatum_s (x : Datum) (left : Int) (h0 : 0 ≤ left) (h : left ≤ 2147483647) (ih : ∀ z ∈ x.items, ∀ (left : Int) (h0 : 0 ≤ left) (h : left ≤ 2147483647), P_c_szDatum z
 left)  : P_c_szDatum x left := fnOK Tryd.call40 Tryd.func40 (.h (x.text.data.toList.length ≤ 9223372036854775807) (.r (left - (↑x.text.data.toList.length : Int)) (.i (left -
 (↑x.text.data.toList.length : Int) < 0) (.s (li (-1 : Int))) (.d [.rd, .rd] (P_c_szDatumS x.items (left - (↑x.text.data.toList.length : Int))) (.i (sz (x.items.length + sumBy wD
 x.items) (left - (↑x.text.data.toList.length : Int)) < 0) (.s (li (-1 : Int))) (.s (li (sz (x.items.length + sumBy wD x.items) (left - (↑x.text.data.toList.length : Int))))))))))
 (by
  dsimp only [teasy, P_c_szDatum]
  with_reducible repeat' (first | apply And.intro | exact zR | exact ih | (intro; skip) | apply c_szDatumS | apply ih)
  all_goals (try simp only [std, inj] at *)
  all_goals with_reducible repeat' apply And.intro
  all_goals (try (first | with_reducible apply c_szDatumS | with_reducible apply ih | (simp only [← List.map_append]; first | with_reducible apply c_szDatumS | with_reducible apply ih)))
  all_goals (try (first | exact z | grind [wD_eq, sz, wS, snocI, snocS, rowSnoc])))
theorem c_szDatum (x : Datum) : ∀ (left : Int) (h0 : 0 ≤ left) (h : left ≤ 2147483647), P_c_szDatum x left := Datum.ind (P := fun x => ∀ (left : Int) (h0 : 0 ≤ left) (h : left ≤ 2147483647), P_c_szDatum x left) (fun x ih left h0 h => c_szDatum_s x left h0 h ih) x
abbrev P_c_szModule (x : Module) (left : Int) : Ct := ⟨7, [], [moduleA x, li left], [], .sv (li (sz (wM x) left))⟩
theorem c_szModule (x : Module) (left : Int) (h0 : 0 ≤ left) (h : left ≤ 2147483647)  : P_c_szModule x left := fnOK Tryd.call7 Tryd.func7 (.h (x.name.data.toList.length ≤
 9223372036854775807) (.r (left - (↑x.name.data.toList.length : Int)) (.i (left - (↑x.name.data.toList.length : Int) < 0) (.s (li (-1 : Int))) (.d [.rd, .rd] (P_c_szStringS
 x.imports (left - (↑x.name.data.toList.length : Int))) (.i (sz (wS x.imports) (left - (↑x.name.data.toList.length : Int)) < 0) (.s (li (-1 : Int))) (.d [.rd, .rd] (P_c_szStringS
 x.exports (sz (wS x.imports) (left - (↑x.name.data.toList.length : Int)))) (.i (sz (wS x.exports) (sz (wS x.imports) (left - (↑x.name.data.toList.length : Int))) < 0) (.s (li (-1
 : Int))) (.d [.rd, .rd] (P_c_szDatumS x.body (sz (wS x.exports) (sz (wS x.imports) (left - (↑x.name.data.toList.length : Int))))) (.i (sz (x.body.length + sumBy wD x.body) (sz (wS
 x.exports) (sz (wS x.imports) (left - (↑x.name.data.toList.length : Int)))) < 0) (.s (li (-1 : Int))) (.s (li (sz (x.body.length + sumBy wD x.body) (sz (wS x.exports) (sz (wS
 x.imports) (left - (↑x.name.data.toList.length : Int)))))))))))))))) (by
  dsimp only [teasy, P_c_szModule]
  with_reducible repeat' (first | apply And.intro | exact zR | (intro; skip) | apply c_szStringS | apply c_szDatumS | apply c_szDatum)
  all_goals (try simp only [std, inj] at *)
  all_goals with_reducible repeat' apply And.intro
  all_goals (try (first | with_reducible apply c_szStringS | with_reducible apply c_szDatumS | with_reducible apply c_szDatum | (simp only [← List.map_append]; first | with_reducible apply c_szStringS | with_reducible apply c_szDatumS | with_reducible apply c_szDatum)))
  all_goals (try (first | exact z | grind [wM_eq, sz, wS, snocI, snocS, rowSnoc])))
end Go.Proofs.YtpflccjienojfaaDoor
end
section
namespace Go.Proofs.YtpflccjienojfaaDoor
open Go Go.Proofs.YtpflccjienojfaaDoor.Ab
set_option linter.unusedVariables false
set_option linter.unusedSimpArgs false
set_option maxHeartbeats 4000000
abbrev P_c_toStringS (L : List ByteArray) : Ct := ⟨32, [], [ll (L.map strC)], [.arr true 1 (L.map strC)], .sv (.one (.ref 0))⟩
def lc_toStringSLa (L : List ByteArray) : Lp Nat := .mk 22 0 (fun x => [(0, ll (List.map strC L)), (3, SV.one (AC.ref 0)), (4, hs x 0)]) (fun x => [ho x 1]) (fun k => [.s (li (↑k :
 Int)), .o (Ob.arr true 1 (List.map strC (fillTo L k)))]) (fun k => k ≤ L.length ∧ L.length ≤ 9223372036854775807) (fun k => L.length - k) [.mk True (.exit 0) (fun x => [(3, SV.one
 (AC.ref 0))]) (fun x => [ho x 0]) [.o (Ob.arr true 1 (List.map strC L))]]
theorem Sc_toStringSLa (L : List ByteArray) (h : L.length ≤ 1048576) : Lp.Sem Tryd.prog (loopAt Tryd.f32 0) (lc_toStringSLa L) := lpOK (fun k => .z strC L (.i ((↑k : Int) <
 (↑(List.map strC L).length : Int)) (.x (↑k : Int) (List.map strC L) [cS (L.getD k default)] (.p (0 ≤ (↑k : Int) ∧ (↑k : Int).toNat < (List.map strC (fillTo L k)).length) (.w
 (.cells (strC ((fillTo L k).getD (↑k : Int).toNat default))) (.p ((List.map strC (fillTo L k))[(↑k : Int).toNat]? = some [cS ((fillTo L k).getD (↑k : Int).toNat default)]) (.r
 ((↑k : Int) + 1) (.g [0] (k + 1) [.s (li ((↑k : Int) + 1)), .o (Ob.arr true 1 ((List.map strC (fillTo L k)).set (↑k : Int).toNat [cS (L.getD k default)]))])))))) (.o 0 [0] [.o
 (Ob.arr true 1 (List.map strC (fillTo L k)))]))) (by
  intro k h; try dsimp only [teasy, nthW, lc_toStringSLa] at h ⊢
  with_reducible repeat' (first | apply And.intro | exact zR | (intro; skip))
  all_goals (try simp only [std, inj] at *)
  all_goals with_reducible repeat' apply And.intro
  all_goals (try (first | exact z | exact zF | grind [fillTo_all, snocI, snocS, rowSnoc])))
theorem c_toStringS (L : List ByteArray) (h : L.length ≤ 1048576)  : P_c_toStringS L := fnOK Tryd.call32 Tryd.func32 (.z strC L (.p (0 ≤ (↑(List.map strC L).length : Int) ∧ 16 *
 (↑(List.map strC L).length : Int).toNat ≤ 281474976710656) (.l (lc_toStringSLa L) (Sc_toStringSLa L h) [0] [.s (li 0), .o (Ob.arr true 1 (List.replicate (↑(List.map strC L).length
 : Int).toNat [cS (ByteArray.mk #[])]))] 0 (.t (.f [0] [Ob.arr true 1 (List.map strC L)] (AV.sv (SV.one (AC.ref 0)))) .q)))) (by
  dsimp only [teasy, P_c_toStringS, nthW, lc_toStringSLa]
  with_reducible repeat' (first | apply And.intro | exact zR | (intro; skip))
  all_goals (try simp only [std, inj] at *)
  all_goals with_reducible repeat' apply And.intro
  all_goals (try (first | exact z | exact zF | grind [snocI, snocS, rowSnoc])))
abbrev P_c_toDatumS (L : List Datum) : Ct := ⟨33, [], [ll (L.map datumC)], [.arr true 4 (L.map datumC)], .sv (.one (.ref 0))⟩
abbrev P_c_toDatum (x : Datum) : Ct := ⟨45, [], [datumA x], datumO x, .sv (datumR x 0)⟩
def lc_toDatumSLa (L : List Datum) : Lp Nat := .mk 23 0 (fun x => [(0, ll (List.map datumC L)), (3, SV.one (AC.ref 0)), (4, hs x 0)]) (fun x => [ho x 1]) (fun k => [.s (li (↑k :
 Int)), .o (Ob.arr true 4 (List.map datumC (fillTo L k)))]) (fun k => k ≤ L.length ∧ L.length ≤ 9223372036854775807) (fun k => L.length - k) [.mk True (.exit 0) (fun x => [(3,
 SV.one (AC.ref 0))]) (fun x => [ho x 0]) [.o (Ob.arr true 4 (List.map datumC L))]]
theorem Sc_toDatumSLa (L : List Datum) (h : L.length + sumBy wD L ≤ 1048576) (ih : ∀ (x : Datum), x ∈ L → wD x ≤ 1048576 → OK (P_c_toDatum x)) : Lp.Sem Tryd.prog (loopAt Tryd.f33
 0) (lc_toDatumSLa L) := lpOK (fun k => .z datumC L (.i ((↑k : Int) < (↑(List.map datumC L).length : Int)) (.x (↑k : Int) (List.map datumC L) (datumF (L.getD k default)) (.d [.rd]
 (P_c_toDatum (L.getD k default)) (.p (0 ≤ (↑k : Int) ∧ (↑k : Int).toNat < (List.map datumC (fillTo L k)).length) (.w (.cells (datumF ((fillTo L k).getD (↑k : Int).toNat default)))
 (.p ((List.map datumC (fillTo L k))[(↑k : Int).toNat]? = some (datumF ((fillTo L k).getD (↑k : Int).toNat default))) (.r ((↑k : Int) + 1) (.g [0] (k + 1) [.s (li ((↑k : Int) +
 1)), .o (Ob.arr true 4 ((List.map datumC (fillTo L k)).set (↑k : Int).toNat (datumF (L.getD k default))))]))))))) (.o 0 [0] [.o (Ob.arr true 4 (List.map datumC (fillTo L k)))])))
 (by
  intro k h; try dsimp only [teasy, nthW, lc_toDatumSLa] at h ⊢
  with_reducible repeat' (first | apply And.intro | exact zR | exact ih | (intro; skip) | apply ih)
  all_goals (try simp only [std, inj] at *)
  all_goals with_reducible repeat' apply And.intro
  all_goals (try (first | with_reducible apply ih | (simp only [← List.map_append]; first | with_reducible apply ih)))
  all_goals (try (first | exact z | exact zF | grind [fillTo_all, getD_mem', sumBy_mem, snocI, snocS, rowSnoc])))
theorem c_toDatumS (L : List Datum) (h : L.length + sumBy wD L ≤ 1048576) (ih : ∀ x ∈ L, ∀ (h : wD x ≤ 1048576), P_c_toDatum x)  : P_c_toDatumS L := fnOK Tryd.call33 Tryd.func33 (.z
 datumC L (.p (0 ≤ (↑(List.map datumC L).length : Int) ∧ 56 * (↑(List.map datumC L).length : Int).toNat ≤ 281474976710656) (.l (lc_toDatumSLa L) (Sc_toDatumSLa L h ih) [0] [.s (li
 0), .o (Ob.arr true 4 (List.replicate (↑(List.map datumC L).length : Int).toNat [cI 0, cI 0, cS (ByteArray.mk #[]), Cell.list []]))] 0 (.t (.f [0] [Ob.arr true 4 (List.map datumC
 L)] (AV.sv (SV.one (AC.ref 0)))) .q)))) (by
  dsimp only [teasy, P_c_toDatumS, nthW, lc_toDatumSLa]
  with_reducible repeat' (first | apply And.intro | exact zR | exact ih | (intro; skip))
  all_goals (try simp only [std, inj] at *)
  all_goals with_reducible repeat' apply And.intro
  all_goals (try (first | with_reducible apply ih | (simp only [← List.map_append]; first | with_reducible apply ih)))
  all_goals (try (first | exact z | exact zF | grind [snocI, snocS, rowSnoc])))
theorem c_toDatum_s (x : Datum) (h : wD x ≤ 1048576) (ih : ∀ z ∈ x.items, ∀ (h : wD z ≤ 1048576), P_c_toDatum z)  : P_c_toDatum x := fnOK Tryd.call45 Tryd.func45 (.d [.rd]
 (P_c_toDatumS x.items) (.f [3] [Ob.arr true 4 (List.map datumC x.items)] (AV.sv (SV.agg [vI x.kind, vI x.number, vS x.text, AC.ref 0])))) (by
  dsimp only [teasy, P_c_toDatum]
  with_reducible repeat' (first | apply And.intro | exact zR | exact ih | (intro; skip) | apply c_toDatumS | apply ih)
  all_goals (try simp only [std, inj] at *)
  all_goals with_reducible repeat' apply And.intro
  all_goals (try (first | with_reducible apply c_toDatumS | with_reducible apply ih | (simp only [← List.map_append]; first | with_reducible apply c_toDatumS | with_reducible apply ih)))
  all_goals (try (first | exact z | exact zF | grind [wD_eq, wS, snocI, snocS, rowSnoc])))
theorem c_toDatum (x : Datum) : ∀ (h : wD x ≤ 1048576), P_c_toDatum x := Datum.ind (P := fun x => ∀ (h : wD x ≤ 1048576), P_c_toDatum x) (fun x ih h => c_toDatum_s x h ih) x
abbrev P_c_toModule (x : Module) : Ct := ⟨9, [], [moduleA x], moduleO x, .sv (moduleR x 0)⟩
theorem c_toModule (x : Module) (h : wM x ≤ 1048576)  : P_c_toModule x := fnOK Tryd.call9 Tryd.func9 (.d [.rd] (P_c_toStringS x.imports) (.d [.rd] (P_c_toStringS x.exports) (.d [.rd]
 (P_c_toDatumS x.body) (.f [3, 4, 5] [Ob.arr true 1 (List.map strC x.imports), Ob.arr true 1 (List.map strC x.exports), Ob.arr true 4 (List.map datumC x.body)] (AV.sv (SV.agg [vS
 x.name, AC.ref 0, AC.ref 1, AC.ref 2])))))) (by
  dsimp only [teasy, P_c_toModule]
  with_reducible repeat' (first | apply And.intro | exact zR | (intro; skip) | apply c_toStringS | apply c_toDatumS | apply c_toDatum)
  all_goals (try simp only [std, inj] at *)
  all_goals with_reducible repeat' apply And.intro
  all_goals (try (first | with_reducible apply c_toStringS | with_reducible apply c_toDatumS | with_reducible apply c_toDatum | (simp only [← List.map_append]; first | with_reducible apply c_toStringS | with_reducible apply c_toDatumS | with_reducible apply c_toDatum)))
  all_goals (try (first | exact z | exact zF | grind [wM_eq, wS, snocI, snocS, rowSnoc])))
end Go.Proofs.YtpflccjienojfaaDoor
end
section
namespace Go.Proofs.YtpflccjienojfaaDoor
open Go Go.Proofs.YtpflccjienojfaaDoor.Ab
set_option linter.unusedVariables false
set_option linter.unusedSimpArgs false
set_option maxHeartbeats 4000000
abbrev P_c_eqStringS (A : List ByteArray) (B : List ByteArray) : Ct := ⟨37, [], [ll (A.map strC), ll (B.map strC)], [], .sv (lb (decide (A = B)))⟩
def lc_eqStringSLa (A : List ByteArray) (B : List ByteArray) : Lp Nat := .mk 26 0 (fun x => [(0, ll (List.map strC A)), (1, ll (List.map strC B)), (5, hs x 0)]) (fun x => []) (fun
 k => [.s (li (↑k : Int))]) (fun k => k ≤ A.length ∧ A.length ≤ 9223372036854775807 ∧ A.length = B.length ∧ List.take k A = List.take k B) (fun k => A.length - k) [.mk (A = B)
 (.exit 0) (fun x => []) (fun x => []) [], .mk (A ≠ B) .ret (fun x => [(4, hs x 0)]) (fun x => []) [.s (lb false)]]
theorem Sc_eqStringSLa (A : List ByteArray) (B : List ByteArray) : Lp.Sem Tryd.prog (loopAt Tryd.f37 0) (lc_eqStringSLa A B) := lpOK (fun k => .z strC A (.i ((↑k : Int) <
 (↑(List.map strC A).length : Int)) (.w (.draw []) (.x (↑k : Int) (List.map strC A) [cS (A.getD k default)] (.x (↑k : Int) (List.map strC B) [cS (B.getD k default)] (.i ((A.getD k
 default).data.toList ≠ (B.getD k default).data.toList) (.o 1 [] [.s (lb false)]) (.r ((↑k : Int) + 1) (.g [] (k + 1) [.s (li ((↑k : Int) + 1))])))))) (.o 0 [] []))) (by
  intro k h; try dsimp only [teasy, nthW, lc_eqStringSLa] at h ⊢
  with_reducible repeat' (first | apply And.intro | exact zR | (intro; skip))
  all_goals (try simp only [std, inj] at *)
  all_goals with_reducible repeat' apply And.intro
  all_goals (try (first | exact z | grind [take_eq, bytes_ext, snocI, snocS, rowSnoc])))
theorem c_eqStringS (A B : List ByteArray)  : P_c_eqStringS A B := fnOK Tryd.call37 Tryd.func37 (.z strC A (.z strC B (.i ((↑(List.map strC A).length : Int) ≠ (↑(List.map strC
 B).length : Int)) (.s (lb false)) (.l (lc_eqStringSLa A B) (Sc_eqStringSLa A B) [] [.s (li 0)] 0 (.t (.s (lb true)) (.t (.s (lb false)) .q)))))) (by
  dsimp only [teasy, P_c_eqStringS, nthW, lc_eqStringSLa]
  with_reducible repeat' (first | apply And.intro | exact zR | (intro; skip))
  all_goals (try simp only [std, inj] at *)
  all_goals with_reducible repeat' apply And.intro
  all_goals (try (first | exact z | grind [snocI, snocS, rowSnoc])))
abbrev P_c_eqDatumS (A : List Datum) (B : List Datum) : Ct := ⟨38, [], [ll (A.map datumC), ll (B.map datumC)], [], .sv (lb (decide (A = B)))⟩
abbrev P_c_eqDatum (x : Datum) (y : Datum) : Ct := ⟨19, [], [datumA x, datumA y], [], .sv (lb (decide (x = y)))⟩
def lc_eqDatumSLa (A : List Datum) (B : List Datum) : Lp Nat := .mk 27 0 (fun x => [(0, ll (List.map datumC A)), (1, ll (List.map datumC B)), (5, hs x 0)]) (fun x => []) (fun k =>
 [.s (li (↑k : Int))]) (fun k => k ≤ A.length ∧ A.length ≤ 9223372036854775807 ∧ A.length = B.length ∧ List.take k A = List.take k B) (fun k => A.length - k) [.mk (A = B) (.exit 0)
 (fun x => []) (fun x => []) [], .mk (A ≠ B) .ret (fun x => [(4, hs x 0)]) (fun x => []) [.s (lb false)]]
theorem Sc_eqDatumSLa (A : List Datum) (B : List Datum) (ih : ∀ (x : Datum), x ∈ A → ∀ (y : Datum), OK (P_c_eqDatum x y)) : Lp.Sem Tryd.prog (loopAt Tryd.f38 0) (lc_eqDatumSLa A B)
 := lpOK (fun k => .z datumC A (.i ((↑k : Int) < (↑(List.map datumC A).length : Int)) (.w (.draw []) (.x (↑k : Int) (List.map datumC A) (datumF (A.getD k default)) (.x (↑k : Int)
 (List.map datumC B) (datumF (B.getD k default)) (.d [.rd, .rd] (P_c_eqDatum (A.getD k default) (B.getD k default)) (.b (!decide (A.getD k default = B.getD k default)) (.o 1 [] [.s
 (lb false)]) (.r ((↑k : Int) + 1) (.g [] (k + 1) [.s (li ((↑k : Int) + 1))]))))))) (.o 0 [] []))) (by
  intro k h; try dsimp only [teasy, nthW, lc_eqDatumSLa] at h ⊢
  with_reducible repeat' (first | apply And.intro | exact zR | exact ih | (intro; skip) | apply ih)
  all_goals (try simp only [std, inj] at *)
  all_goals with_reducible repeat' apply And.intro
  all_goals (try (first | with_reducible apply ih | (simp only [← List.map_append]; first | with_reducible apply ih)))
  all_goals (try (first | exact z | grind [take_eq, getD_mem', snocI, snocS, rowSnoc])))
theorem c_eqDatumS (A B : List Datum) (ih : ∀ x ∈ A, ∀ (y : Datum), P_c_eqDatum x y)  : P_c_eqDatumS A B := fnOK Tryd.call38 Tryd.func38 (.z datumC A (.z datumC B (.i ((↑(List.map
 datumC A).length : Int) ≠ (↑(List.map datumC B).length : Int)) (.s (lb false)) (.l (lc_eqDatumSLa A B) (Sc_eqDatumSLa A B ih) [] [.s (li 0)] 0 (.t (.s (lb true)) (.t (.s (lb
 false)) .q)))))) (by
  dsimp only [teasy, P_c_eqDatumS, nthW, lc_eqDatumSLa]
  with_reducible repeat' (first | apply And.intro | exact zR | exact ih | (intro; skip))
  all_goals (try simp only [std, inj] at *)
  all_goals with_reducible repeat' apply And.intro
  all_goals (try (first | with_reducible apply ih | (simp only [← List.map_append]; first | with_reducible apply ih)))
  all_goals (try (first | exact z | grind [snocI, snocS, rowSnoc])))
theorem c_eqDatum_s (x y : Datum) (ih : ∀ z ∈ x.items, ∀ (y : Datum), P_c_eqDatum z y)  : P_c_eqDatum x y := fnOK Tryd.call19 Tryd.func19 (.i (x.kind ≠ y.kind) (.s (lb false)) (.i
 (x.number ≠ y.number) (.s (lb false)) (.i (x.text.data.toList ≠ y.text.data.toList) (.s (lb false)) (.d [.rd, .rd] (P_c_eqDatumS x.items y.items) (.b (!decide (x.items = y.items))
 (.s (lb false)) (.s (lb true))))))) (by
  dsimp only [teasy, P_c_eqDatum]
  simp only [datumExt]
  with_reducible repeat' (first | apply And.intro | exact zR | exact ih | (intro; skip) | apply c_eqDatumS | apply ih)
  all_goals (try simp only [std, inj] at *)
  all_goals with_reducible repeat' apply And.intro
  all_goals (try (first | with_reducible apply c_eqDatumS | with_reducible apply ih | (simp only [← List.map_append]; first | with_reducible apply c_eqDatumS | with_reducible apply ih)))
  all_goals (try (first | exact z | grind [bytes_ext, snocI, snocS, rowSnoc])))
theorem c_eqDatum (x : Datum) : ∀ (y : Datum), P_c_eqDatum x y := Datum.ind (P := fun x => ∀ (y : Datum), P_c_eqDatum x y) (fun x ih y => c_eqDatum_s x y ih) x
abbrev P_c_eqModule (x : Module) (y : Module) : Ct := ⟨11, [], [moduleA x, moduleA y], [], .sv (lb (decide (x = y)))⟩
theorem c_eqModule (x y : Module)  : P_c_eqModule x y := fnOK Tryd.call11 Tryd.func11 (.i (x.name.data.toList ≠ y.name.data.toList) (.s (lb false)) (.c [.rd, .rd] (c_eqStringS
 x.imports y.imports) (.b (!decide (x.imports = y.imports)) (.s (lb false)) (.c [.rd, .rd] (c_eqStringS x.exports y.exports) (.b (!decide (x.exports = y.exports)) (.s (lb false))
 (.d [.rd, .rd] (P_c_eqDatumS x.body y.body) (.b (!decide (x.body = y.body)) (.s (lb false)) (.s (lb true))))))))) (by
  dsimp only [teasy, P_c_eqModule]
  simp only [moduleExt]
  with_reducible repeat' (first | apply And.intro | exact zR | (intro; skip) | apply c_eqStringS | apply c_eqDatumS | apply c_eqDatum)
  all_goals (try simp only [std, inj] at *)
  all_goals with_reducible repeat' apply And.intro
  all_goals (try (first | with_reducible apply c_eqStringS | with_reducible apply c_eqDatumS | with_reducible apply c_eqDatum | (simp only [← List.map_append]; first | with_reducible apply c_eqStringS | with_reducible apply c_eqDatumS | with_reducible apply c_eqDatum)))
  all_goals (try (first | exact z | grind [bytes_ext, snocI, snocS, rowSnoc])))
end Go.Proofs.YtpflccjienojfaaDoor
end
section
namespace Go.Proofs.YtpflccjienojfaaDoor
open Go Go.Proofs.YtpflccjienojfaaDoor.Ab
set_option linter.unusedVariables false
set_option linter.unusedSimpArgs false
set_option maxHeartbeats 4000000
abbrev P_c_LFmM (a : Module) : Ct := ⟨3, [], [moduleA a], [], .sv (lb true)⟩
theorem c_LFmM (a : Module)  : P_c_LFmM a := fnOK Tryd.call3 Tryd.func3 (.d [.rd, .rd] (P_c_szModule a 1048576) (.i (sz (wM a) (1048576 : Int) < 0) (.s (lb true)) (.d [.rd]
 (P_c_toModule a) (.d [.rd] (P_c_sFmtM a) (.d [.rd] (P_c_toModule a) (.d [.rd] (P_c_iFmtM a) (.i (fmM a ≠ fmM a) (.s (lb false)) (.w (.draw []) (.d [.rd] (P_c_toModule a) (.c [.rd,
 .rd] (c_eqModule a a) (.b (!decide (a = a)) (.s (lb false)) (.s (lb true))))))))))))) (by
  dsimp only [teasy, P_c_LFmM]
  with_reducible repeat' (first | apply And.intro | exact zR | (intro; skip) | apply c_szModule | apply c_toModule | apply c_sFmtM | apply c_iFmtM)
  all_goals (try simp only [std, inj] at *)
  all_goals with_reducible repeat' apply And.intro
  all_goals (try (first | with_reducible apply c_szModule | with_reducible apply c_toModule | with_reducible apply c_sFmtM | with_reducible apply c_iFmtM | (simp only [← List.map_append]; first | with_reducible apply c_szModule | with_reducible apply c_toModule | with_reducible apply c_sFmtM | with_reducible apply c_iFmtM)))
  all_goals (try (first | exact z | grind [sz, snocI, snocS, rowSnoc])))
end Go.Proofs.YtpflccjienojfaaDoor
end
section
namespace Go.Proofs.YtpflccjienojfaaDoor.fnExactFormatModule
open Go Go.ChangeShapes Go.WideShapes Go.ChangeAt Go.RowKit Go.Proofs.YtpflccjienojfaaDoor.Ab
set_option linter.unusedVariables false
theorem own : ownKnob Tryd.prog.godebug = none := by kernel_rfl
theorem laidO : laidOutB Tryd.prog = true := by kernel_rfl
theorem rowed : mapsRowed Tryd.prog = true := by kernel_rfl
theorem sized : ((List.range Tryd.prog.types.size).all fun t => match Tryd.prog.underlying t with | some (.slice e) => decide (0 < Tryd.prog.cellsOf e) | _ => true) = true := by kernel_rfl
theorem gTab : Tryd.prog.globalNamed pow10N = some 0 := by kernel_rfl
theorem gTabType : (Tryd.prog.globals[0]?).map (·.type) = some 168 := by kernel_rfl
theorem cellsE : Tryd.prog.cellsOf 155 = 1 := by kernel_rfl
theorem cellsT : Tryd.prog.cellsOf 168 = 20 := by kernel_rfl
theorem rowTab : Rows.fnExactFormatModuleRow.laid.drop 2 = (pow10N, Lib.tabData .u64 Lib.pow10Tab) :: Rows.fnExactFormatModuleRow.laid.drop 3 := by kernel_rfl
theorem laid_drop {W : Go.World} : ∀ (k : Nat) (l : List (String × DataW PUnit.{1})), laidMet Tryd.prog l W → laidMet Tryd.prog (l.drop k) W
  | 0, _, h => h
  | k + 1, [], h => h
  | k + 1, _ :: r, h => laid_drop k r (laidMet.tail h)
theorem tab {W : Go.World} (h : laidMetH Tryd.prog Rows.fnExactFormatModuleRow.laid W) : Lib.TabIs Tryd.prog W pow10N .u64 Lib.pow10Tab := by
  have h1 : laidMet Tryd.prog Rows.fnExactFormatModuleRow.laid W := h
  have h2 := laid_drop 2 _ h1
  rw [rowTab] at h2
  exact Lib.tabIs_of_head gTab gTabType Tryd.underlying168 Tryd.underlying155 cellsE cellsT h2
theorem known {W : Go.World} (h : laidMetH Tryd.prog Rows.fnExactFormatModuleRow.laid W) : Kn Tryd.prog W (allI W) := by
  have lt : ∀ {n : String} {g : Nat} {cs : Array Value}, Tryd.prog.globalNamed n = some g → W.var? Tryd.prog n = some cs → g < W.heap.size := fun {n g cs} hg hv => by
    rcases Nat.lt_or_ge g W.heap.size with e | e
    · exact e
    · unfold World.var? at hv; rw [hg, Option.bind_some, Array.getElem?_eq_none e] at hv; cases hv
  exact ⟨fun g hg => ⟨lt hg (tab h), fun _ hb => hb, _, tab h, rfl⟩, fun e => absurd e (by decide)⟩
set_option maxRecDepth 100000 in
theorem contract (H : Type) (enc : TypeId × Value → H) (W : Go.World) (base : Nat) (args : Array Value) (ds gs : List (DataW H)) (before : List MemPlace)
    (hval0 : ∀ (j : Nat) t v, Tryd.f3.params[j]? = some t → args[j]? = some v → Value.okWide Tryd.prog W .any base t v)
    (hW : DataW.Whole enc Tryd.prog Tryd.f3.params.toList Rows.fnExactFormatModuleSpec.vars false W args.toList ds gs before) (hL : laidMetH Tryd.prog Rows.fnExactFormatModuleRow.laid W) :
    Calls Tryd.prog 3 args W fun e W' => ∃ v, e = .returned v ∧ Rows.fnExactFormatModuleSpec.post enc Tryd.prog Tryd.f3 false true false false W args v W' := by
  have hval : ∀ (j : Nat) t v, Tryd.f3.params[j]? = some t → args[j]? = some v → Value.okWide Tryd.prog W .any base t v := hval0
  have hW' := hW
  obtain ⟨p, q, hA0, hV, rfl, hfz, hnd⟩ := hW
  obtain ⟨rfl, rfl⟩ := trodVars_none hV
  have hA : DataW.TrodAll enc Tryd.prog W 0 (fun _ => true) true Tryd.f3.params.toList args.toList ds p := hA0
  rw [Tryd.params3] at hA hval
  have hA2 := hA
  clear hA0 hval0
  obtain ⟨v0, vs0, d0, ds0, p0, q0, hargs0, rfl, rfl, h0, r0⟩ := trodAll_cons hA
  obtain ⟨rfl, rfl, rfl⟩ := trodAll_nil r0
  obtain rfl : args = #[v0] := by cases args; simp_all
  obtain ⟨a0, c0⟩ := (let ⟨fuel, hf⟩ := h0; rd_module fuel _ _ hf)
  have s0 : SVRel W (allI W) (obOf []) (moduleA a0) v0 := agg_rel (let ⟨cs, h, _⟩ := okWide_struct Tryd.underlying25 (hval 0 25 v0 rfl rfl); ⟨cs, h⟩) c0
  refine (CallOK.kept (w := W) (vals := #[v0]) (c_LFmM a0) (known hL) ⟨s0, trivial⟩).mono fun e W' ⟨he, hg, _⟩ => ?_
  subst he
  exact ⟨_, rfl, post_of_kept (pv := []) hW' (fun _ _ _ => (trodAll_cons_mk (shut_bool Tryd.underlying4 _) trodAll_mk0))
    (fun sp hsp => trodAll_kept laidO rowed sized hg (by decide +kernel) hA2 fun y hy => hsp y (by simpa using hy)) (fun _ _ => rfl) rfl
    hg (ok_one (by kernel_rfl) rfl (okWide_bool_mk Tryd.underlying4 _))⟩
def litsV : DataW PUnit.{1} → Array Value
  | .agg l => (l.map fun x => match x with | .lit (.int k n) => Value.int k n | _ => .bool false).toArray
  | _ => #[]
noncomputable def laidWorld (os : Os) : Go.World :=
  { World.holding Tryd.prog os ⟨#[], #[], []⟩ with heap := ((((World.holding Tryd.prog os ⟨#[], #[], []⟩).heap.modify 3 fun | .cells _ t z => .cells (litsV Rows.laid_math_bits_deBruijn32tab) t z | o => o).modify 4 fun | .cells _ t z => .cells (litsV Rows.laid_math_bits_deBruijn64tab) t z | o => o).modify 0 fun | .cells _ t z => .cells (litsV Rows.laid_internal_strconv_uint64pow10) t z | o => o) }
abbrev arg0 : Array Value := #[.agg #[.string ⟨#[]⟩, .slice none 0 0, .slice none 0 0, .slice none 0 0]]
theorem laid_met (os : Os) : laidMet Tryd.prog Rows.fnExactFormatModuleRow.laid ((laidWorld os).forCall (fun _ _ => 0) ⟨#[], arg0, []⟩).memory :=
  laidMet_of_run' 8 (by kernel_rfl) (by kernel_rfl)
theorem reads (os : Os) {H : Type} (enc : TypeId × Value → H) : ∃ places, DataW.whole enc Tryd.prog ((laidWorld os).forCall (fun _ _ => 0) ⟨#[], arg0, []⟩).memory Tryd.f3.params.toList Rows.fnExactFormatModuleSpec.vars false arg0.toList 12 = some ([.agg [.lit (.string []), .nil, .nil, .nil]], [], places) :=
  ⟨[], by kernel_rfl⟩
set_option maxRecDepth 100000 in
theorem lifted (os : Os) (started : os.Started) (H : Type) (enc : TypeId × Value → H) (F : Stop.Interp) :
    ReturnsInHanded {} Tryd.checked os 3 .any ((OpenSpec.ofChange Rows.fnExactFormatModuleSpec).preRow enc Tryd.prog Tryd.f3 Rows.fnExactFormatModuleRow.domain false Rows.fnExactFormatModuleRow.laid) (((OpenSpec.ofChange Rows.fnExactFormatModuleSpec).at F).post enc Tryd.prog Tryd.f3 false true false false) := by
  obtain ⟨places, hx⟩ := reads os enc
  refine returnsInHanded_of_row (C := Tryd.checked) (s := OpenSpec.ofChange Rows.fnExactFormatModuleSpec) own started (by kernel_rfl) Tryd.func3
    (witness_row_at (enc := enc) (C := Tryd.checked) false (laidWorld os) arg0 rfl (by kernel_rfl) (by kernel_rfl) (by kernel_rfl)
      (OpenSpec.preRow_of_cond 12 hx (by kernel_rfl) (fun k hk => by cases hk) (by kernel_rfl) (laid_met os))) ?_
  intro W base args ds gs before hval hW _ _ _ hL _ _
  exact contract H enc W base args ds gs before hval hW hL
set_option maxRecDepth 100000 in
set_option maxHeartbeats 0 in
theorem facts : joinedFacts Tryd.pinned.checked.prog 3 Tryd.f3 Rows.fnExactFormatModuleSpec Rows.fnExactFormatModuleRow = true := by
  delta joinedFacts
  with_reducible repeat' apply and_i
  all_goals (first | with_reducible exact enters | (rw [makes]; kernel_rfl) | (rw [lifts]; kernel_rfl) | decide +kernel | kernel_rfl)
theorem said : Rows.FnExactFormatModuleSaid :=
  OpenClaim.holds_of_cond 3 Tryd.f3 rfl rfl rfl rfl rfl rfl rfl ⟨rfl, rfl, rfl, rfl, rfl⟩ rfl rfl rfl rfl rfl (by kernel_rfl) Tryd.func3 facts
    (of_decide_eq_true (by kernel_rfl)) (by unfold Func.isWrapper; first | (rw [if_pos (by decide +kernel)]; kernel_rfl) | (rw [if_neg (by decide +kernel)]; exact ⟨rfl, rfl⟩))
    (fun os started H enc _ F => by rw [OpenClaim.pre_eq_preRow]; exact lifted os started H enc F)
theorem plain (k : FuncId) (fn : Func) (hf : Tryd.pinned.checked.prog.funcNamed Rows.fnExactFormatModuleRow.func = some k) (hfn : Tryd.pinned.checked.prog.funcs[k]? = some fn) :
    true = Tryd.pinned.checked.prog.looks [] ∧ ∀ (j : Nat) t, fn.params[j]? = some t → Tryd.pinned.checked.prog.wantsStandIn t = false := by
  obtain rfl : k = 3 := Option.some.inj ((show Tryd.prog.funcNamed Rows.fnExactFormatModuleRow.func = some 3 by kernel_rfl).symm.trans hf) |>.symm
  obtain rfl : fn = Tryd.f3 := (Option.some.inj (Tryd.func3.symm.trans hfn)).symm
  refine ⟨by kernel_rfl, fun j t ht => ?_⟩
  rw [Tryd.params3] at ht
  have hm := Array.mem_of_getElem? ht
  have hall : ([25].all fun u => !Tryd.prog.wantsStandIn u) = true := by kernel_rfl
  exact (show Tryd.prog.wantsStandIn t = false by simpa using List.all_eq_true.1 hall t (by simpa using hm))
theorem proved : Rows.FnExactFormatModuleCardSaid :=
  Claim7.holds_tied_plain_at .later [] _ _ _ _ said (fun _ h => by cases h) (by kernel_rfl) (fun _ h => by cases h) fnExactFormatModule_row_tie rfl ⟨rfl, rfl⟩ (by kernel_rfl) rfl plain (by kernel_rfl)
end Go.Proofs.YtpflccjienojfaaDoor.fnExactFormatModule
end
