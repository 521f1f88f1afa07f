/- Part 1 of the proof: The program's FormatCore returns what the reference's returns, for all arguments. No condition. No condition. -/
import Derived.Test.YtpflccjienojfaaDoorQ4
import Derived.Lib.AtoiErr
import Derived.Shelf.Strconv.Itoa3
section
namespace Go.Proofs.YtpflccjienojfaaDoor
open Go Go.Proofs.YtpflccjienojfaaDoor.Ab
set_option linter.unusedVariables false
set_option linter.unusedSimpArgs false
set_option maxHeartbeats 4000000
theorem all_stop {L : List UInt8} {p : UInt8 → Bool} {k : Nat} (h : k < L.length) (hp : p (L.getD k 0) = false) : L.all p = false := by
  rw [List.all_eq_false]
  have e : L.getD k 0 = L[k] := by simp [h]
  exact ⟨L[k], List.getElem_mem h, by rw [← e, hp]; decide⟩
theorem all_go {L : List UInt8} {p : UInt8 → Bool} {k : Nat} (h : k < L.length) (hp : p (L.getD k 0) = true) (ht : (L.take k).all p = true) : (L.take (k + 1)).all p = true := by
  rw [take0 h, List.all_append, ht, List.all_cons, hp]; rfl
theorem all_all {L : List UInt8} {p : UInt8 → Bool} {k : Nat} (h : L.length ≤ k) (ht : (L.take k).all p = true) : L.all p = true := by
  rwa [List.take_of_length_le h] at ht
def lu (n : Int) : SV := .one (.val (.lit (.int .u8 n)))
def isDig (n : Int) : Bool := decide (48 ≤ n ∧ n ≤ 57)
def markI : List Int := [33, 63, 42, 60, 62, 61, 47, 43, 45, 46, 95]
def isMk (n : Int) : Bool := decide (97 ≤ n ∧ n ≤ 122) || isDig n || decide (n ∈ markI)
theorem mark_at {k : Nat} (h : k < 11) : ((([33, 63, 42, 60, 62, 61, 47, 43, 45, 46, 95] : List UInt8).getD k 0).toNat : Int) = markI.getD k default := by
  have : ∀ k, k < 11 → ((([33, 63, 42, 60, 62, 61, 47, 43, 45, 46, 95] : List UInt8).getD k 0).toNat : Int) = markI.getD k default := by decide
  exact this k h
def isStB (n : Int) : Bool := decide (32 ≤ n ∧ n ≤ 126 ∧ n ≠ 34)
def isSym (s : ByteArray) : Bool := decide (1 ≤ (s.size : Int) ∧ (s.size : Int) ≤ 16) && !isDig (s.data.toList.getD 0 0).toNat && !(decide (((s.data.toList.getD 0 0).toNat : Int) = 45) && decide (1 < (s.size : Int)) && isDig (s.data.toList.getD 1 0).toNat) && s.data.toList.all fun b => isMk b.toNat
def isStr (s : ByteArray) : Bool := decide ((s.size : Int) ≤ 20) && s.data.toList.all fun b => isStB b.toNat
abbrev P_c_sDigit (n : Int) : Ct := ⟨126, [], [lu n], [], .sv (lb (isDig n))⟩
theorem c_sDigit (n : Int)  : P_c_sDigit n := fnOK Tryd.call126 Tryd.func126 (.i (48 ≤ n) (.s (lb (decide (n ≤ 57)))) (.s (lb false))) (by
  dsimp only [teasy, P_c_sDigit]
  with_reducible repeat' (first | apply And.intro | exact zR | (intro; skip))
  all_goals (try simp only [std, inj] at *)
  all_goals with_reducible repeat' apply And.intro
  all_goals (try (first | exact z | grind [isDig, snocI, snocS, rowSnoc])))
abbrev P_c_iDigit (n : Int) : Ct := ⟨107, [], [lu n], [], .sv (lb (isDig n))⟩
theorem c_iDigit (n : Int)  : P_c_iDigit n := fnOK Tryd.call107 Tryd.func107 (.i (48 ≤ n) (.s (lb (decide (n ≤ 57)))) (.s (lb false))) (by
  dsimp only [teasy, P_c_iDigit]
  with_reducible repeat' (first | apply And.intro | exact zR | (intro; skip))
  all_goals (try simp only [std, inj] at *)
  all_goals with_reducible repeat' apply And.intro
  all_goals (try (first | exact z | grind [isDig, snocI, snocS, rowSnoc])))
abbrev P_c_sMark (n : Int) : Ct := ⟨127, [], [lu n], [], .sv (lb (isMk n))⟩
def lc_sMarkLa (n : Int) : Lp Nat := .mk 26 0 (fun x => [(0, SV.one (AC.val (Cell.lit (Value.int IntKind.u8 n)))), (3, ls (ByteArray.mk #[(33 : UInt8), (63 : UInt8), (42 : UInt8),
 (60 : UInt8), (62 : UInt8), (61 : UInt8), (47 : UInt8), (43 : UInt8), (45 : UInt8), (46 : UInt8), (95 : UInt8)])), (4, hs x 0)]) (fun x => []) (fun k => [.s (li (↑k : Int))]) (fun
 k => k ≤ 11 ∧ ¬n ∈ List.take k markI) (fun k => 11 - k) [.mk (decide (n ∈ markI) = false) (.exit 0) (fun x => []) (fun x => []) [], .mk (decide (n ∈ markI) = true) .ret (fun x =>
 [(2, hs x 0)]) (fun x => []) [.s (lb true)]]
theorem Sc_sMarkLa (n : Int) : Lp.Sem Tryd.prog (loopAt Tryd.f127 0) (lc_sMarkLa n) := lpOK (fun k => .h (11 ≤ 9223372036854775807) (.i ((↑k : Int) < 11) (.p (0 ≤ (↑k : Int) ∧ (↑k
 : Int).toNat < 11) (.i ((↑([(33 : UInt8), (63 : UInt8), (42 : UInt8), (60 : UInt8), (62 : UInt8), (61 : UInt8), (47 : UInt8), (43 : UInt8), (45 : UInt8), (46 : UInt8), (95 :
 UInt8)].getD (↑k : Int).toNat (0 : UInt8)).toNat : Int) = n) (.o 1 [] [.s (lb true)]) (.r ((↑k : Int) + 1) (.g [] (k + 1) [.s (li ((↑k : Int) + 1))])))) (.o 0 [] []))) (by
  intro k h; try dsimp only [teasy, nthW, lc_sMarkLa] at h ⊢
  have g := @mark_at k
  have e : markI.length = 11 := rfl
  have e2 : markI.take 11 = markI := rfl
  with_reducible repeat' (first | apply And.intro | exact zR | (intro; skip))
  all_goals (try simp only [std, inj] at *)
  all_goals with_reducible repeat' apply And.intro
  all_goals (try (first | exact z | grind [take_get, getD_mem', snocI, snocS, rowSnoc])))
theorem c_sMark (n : Int)  : P_c_sMark n := fnOK Tryd.call127 Tryd.func127 (.i (97 ≤ n) (.i (n ≤ 122) (.y true (.s (lb true))) (.c [.rd] (c_sDigit n) (.b (isDig n) (.s (lb true)) (.l
 (lc_sMarkLa n) (Sc_sMarkLa n) [] [.s (li 0)] 0 (.t (.s (lb false)) (.t (.s (lb true)) .q)))))) (.y false (.c [.rd] (c_sDigit n) (.b (isDig n) (.s (lb true)) (.l (lc_sMarkLa n)
 (Sc_sMarkLa n) [] [.s (li 0)] 0 (.t (.s (lb false)) (.t (.s (lb true)) .q))))))) (by
  dsimp only [teasy, P_c_sMark, nthW, lc_sMarkLa]
  with_reducible repeat' (first | apply And.intro | exact zR | (intro; skip))
  all_goals (try simp only [std, inj] at *)
  all_goals with_reducible repeat' apply And.intro
  all_goals (try (first | exact z | grind [isMk, snocI, snocS, rowSnoc])))
abbrev P_c_iMark (n : Int) : Ct := ⟨108, [], [lu n], [], .sv (lb (isMk n))⟩
theorem c_iMark (n : Int)  : P_c_iMark n := fnOK Tryd.call108 Tryd.func108 (.i (97 ≤ n) (.i (n ≤ 122) (.y true (.s (lb true))) (.i (48 ≤ n) (.i (n ≤ 57) (.s (lb true)) (.i (n = 33)
 (.y true (.s (lb true))) (.i (n = 63) (.y true (.s (lb true))) (.i (n = 42) (.y true (.s (lb true))) (.i (n = 60) (.y true (.s (lb true))) (.i (n = 62) (.y true (.s (lb true)))
 (.i (n = 61) (.y true (.s (lb true))) (.i (n = 47) (.y true (.s (lb true))) (.i (n = 43) (.y true (.s (lb true))) (.i (n = 45) (.y true (.s (lb true))) (.i (n = 46) (.y true (.s
 (lb true))) (.i (n = 95) (.s (lb true)) (.s (lb false)))))))))))))) (.y false (.i (n = 33) (.y true (.s (lb true))) (.i (n = 63) (.y true (.s (lb true))) (.i (n = 42) (.y true (.s
 (lb true))) (.i (n = 60) (.y true (.s (lb true))) (.i (n = 62) (.y true (.s (lb true))) (.i (n = 61) (.y true (.s (lb true))) (.i (n = 47) (.y true (.s (lb true))) (.i (n = 43)
 (.y true (.s (lb true))) (.i (n = 45) (.y true (.s (lb true))) (.i (n = 46) (.y true (.s (lb true))) (.i (n = 95) (.s (lb true)) (.s (lb false)))))))))))))))) (.y false (.i (48 ≤
 n) (.i (n ≤ 57) (.s (lb true)) (.i (n = 33) (.y true (.s (lb true))) (.i (n = 63) (.y true (.s (lb true))) (.i (n = 42) (.y true (.s (lb true))) (.i (n = 60) (.y true (.s (lb
 true))) (.i (n = 62) (.y true (.s (lb true))) (.i (n = 61) (.y true (.s (lb true))) (.i (n = 47) (.y true (.s (lb true))) (.i (n = 43) (.y true (.s (lb true))) (.i (n = 45) (.y
 true (.s (lb true))) (.i (n = 46) (.y true (.s (lb true))) (.i (n = 95) (.s (lb true)) (.s (lb false)))))))))))))) (.y false (.i (n = 33) (.y true (.s (lb true))) (.i (n = 63) (.y
 true (.s (lb true))) (.i (n = 42) (.y true (.s (lb true))) (.i (n = 60) (.y true (.s (lb true))) (.i (n = 62) (.y true (.s (lb true))) (.i (n = 61) (.y true (.s (lb true))) (.i (n
 = 47) (.y true (.s (lb true))) (.i (n = 43) (.y true (.s (lb true))) (.i (n = 45) (.y true (.s (lb true))) (.i (n = 46) (.y true (.s (lb true))) (.i (n = 95) (.s (lb true)) (.s
 (lb false))))))))))))))))) (by
  dsimp only [teasy, P_c_iMark]
  with_reducible repeat' (first | apply And.intro | exact zR | (intro; skip))
  all_goals (try simp only [std, inj] at *)
  all_goals with_reducible repeat' apply And.intro
  all_goals (try (first | exact z | grind [snocI, snocS, rowSnoc]))
  all_goals (symm; simp only [isMk, isDig, markI, List.mem_cons, List.not_mem_nil, Bool.or_eq_true, Bool.or_eq_false_iff, decide_eq_true_eq, decide_eq_false_iff_not, or_false]; omega))
abbrev P_c_l1In (x : Int) (a : Int) (b : Int) : Ct := ⟨125, [], [li x, li a, li b], [], .sv (lb (decide (a ≤ x ∧ x ≤ b)))⟩
theorem c_l1In (x a b : Int)  : P_c_l1In x a b := fnOK Tryd.call125 Tryd.func125 (.i (a ≤ x) (.s (lb (decide (x ≤ b)))) (.s (lb false))) (by
  dsimp only [teasy, P_c_l1In]
  with_reducible repeat' (first | apply And.intro | exact zR | (intro; skip))
  all_goals (try simp only [std, inj] at *)
  all_goals with_reducible repeat' apply And.intro
  all_goals (try (first | exact z | grind [snocI, snocS, rowSnoc])))
abbrev P_c_sIsSymbol (s : ByteArray) : Ct := ⟨99, [], [ls s], [], .sv (lb (isSym s))⟩
def lc_sIsSymbolLa (s : ByteArray) : Lp Nat := .mk 39 0 (fun x => [(0, ls s), (3, hs x 0)]) (fun x => []) (fun k => [.s (li (↑k : Int))]) (fun k => k ≤ s.size ∧ s.size ≤ 16 ∧
 ((List.take k s.data.toList).all fun b => isMk (↑b.toNat : Int)) = true) (fun k => s.size - k) [.mk ((s.data.toList.all fun b => isMk (↑b.toNat : Int)) = true) (.exit 0) (fun x =>
 []) (fun x => []) [], .mk ((s.data.toList.all fun b => isMk (↑b.toNat : Int)) = false) .ret (fun x => [(2, hs x 0)]) (fun x => []) [.s (lb false)]]
theorem Sc_sIsSymbolLa (s : ByteArray) : Lp.Sem Tryd.prog (loopAt Tryd.f99 0) (lc_sIsSymbolLa s) := lpOK (fun k => .h (s.data.toList.length ≤ 9223372036854775807) (.i ((↑k : Int) <
 (↑s.data.toList.length : Int)) (.p (0 ≤ (↑k : Int) ∧ (↑k : Int).toNat < s.data.toList.length) (.c [.rd] (c_sMark (↑(s.data.toList.getD (↑k : Int).toNat (0 : UInt8)).toNat : Int))
 (.b (!isMk (↑(s.data.toList.getD (↑k : Int).toNat (0 : UInt8)).toNat : Int)) (.o 1 [] [.s (lb false)]) (.r ((↑k : Int) + 1) (.g [] (k + 1) [.s (li ((↑k : Int) + 1))]))))) (.o 0 []
 []))) (by
  intro k h; try dsimp only [teasy, nthW, lc_sIsSymbolLa] at h ⊢
  have g1 := @all_stop s.data.toList (fun b => isMk b.toNat) k
  have g2 := @all_go s.data.toList (fun b => isMk b.toNat) k
  have g3 := @all_all s.data.toList (fun b => isMk b.toNat) k
  with_reducible repeat' (first | apply And.intro | exact zR | (intro; skip))
  all_goals (try simp only [std, inj] at *)
  all_goals with_reducible repeat' apply And.intro
  all_goals (try (first | exact z | grind [snocI, snocS, rowSnoc])))
theorem c_sIsSymbol (s : ByteArray)  : P_c_sIsSymbol s := fnOK Tryd.call99 Tryd.func99 (.h (s.data.toList.length ≤ 9223372036854775807) (.c [.rd, .rd, .rd] (c_l1In
 (↑s.data.toList.length : Int) 1 16) (.b (!decide (1 ≤ (↑s.data.toList.length : Int) ∧ (↑s.data.toList.length : Int) ≤ 16)) (.y true (.y true (.s (lb false)))) (.p ((0 : Int) ≤ 0 ∧
 0 < s.data.toList.length) (.c [.rd] (c_sDigit (↑(s.data.toList.getD 0 (0 : UInt8)).toNat : Int)) (.b (isDig (↑(s.data.toList.getD 0 (0 : UInt8)).toNat : Int)) (.y true (.s (lb
 false))) (.p ((0 : Int) ≤ 0 ∧ 0 < s.data.toList.length) (.i ((↑(s.data.toList.getD 0 (0 : UInt8)).toNat : Int) = 45) (.h (s.data.toList.length ≤ 9223372036854775807) (.i (1 <
 (↑s.data.toList.length : Int)) (.p ((0 : Int) ≤ 1 ∧ 1 < s.data.toList.length) (.c [.rd] (c_sDigit (↑(s.data.toList.getD 1 (0 : UInt8)).toNat : Int)) (.b (isDig
 (↑(s.data.toList.getD 1 (0 : UInt8)).toNat : Int)) (.s (lb false)) (.l (lc_sIsSymbolLa s) (Sc_sIsSymbolLa s) [] [.s (li 0)] 0 (.t (.s (lb true)) (.t (.s (lb false)) .q)))))) (.y
 false (.l (lc_sIsSymbolLa s) (Sc_sIsSymbolLa s) [] [.s (li 0)] 0 (.t (.s (lb true)) (.t (.s (lb false)) .q)))))) (.y false (.y false (.l (lc_sIsSymbolLa s) (Sc_sIsSymbolLa s) []
 [.s (li 0)] 0 (.t (.s (lb true)) (.t (.s (lb false)) .q))))))))))))) (by
  dsimp only [teasy, P_c_sIsSymbol, nthW, lc_sIsSymbolLa]
  with_reducible repeat' (first | apply And.intro | exact zR | (intro; skip))
  all_goals (try simp only [std, inj] at *)
  all_goals with_reducible repeat' apply And.intro
  all_goals (try (first | exact z | grind [isSym, snocI, snocS, rowSnoc])))
abbrev P_c_iIsSymbol (s : ByteArray) : Ct := ⟨73, [], [ls s], [], .sv (lb (isSym s))⟩
def lc_iIsSymbolLa (s : ByteArray) : Lp Nat := .mk 43 0 (fun x => [(0, ls s), (3, hs x 0)]) (fun x => []) (fun k => [.s (li (↑k : Int))]) (fun k => k ≤ s.size ∧ s.size ≤ 16 ∧
 ((List.take k s.data.toList).all fun b => isMk (↑b.toNat : Int)) = true) (fun k => s.size - k) [.mk ((s.data.toList.all fun b => isMk (↑b.toNat : Int)) = true) (.exit 0) (fun x =>
 []) (fun x => []) [], .mk ((s.data.toList.all fun b => isMk (↑b.toNat : Int)) = false) .ret (fun x => [(2, hs x 0)]) (fun x => []) [.s (lb false)]]
theorem Sc_iIsSymbolLa (s : ByteArray) : Lp.Sem Tryd.prog (loopAt Tryd.f73 0) (lc_iIsSymbolLa s) := lpOK (fun k => .h (s.data.toList.length ≤ 9223372036854775807) (.i ((↑k : Int) <
 (↑s.data.toList.length : Int)) (.p (0 ≤ (↑k : Int) ∧ (↑k : Int).toNat < s.data.toList.length) (.c [.rd] (c_iMark (↑(s.data.toList.getD (↑k : Int).toNat (0 : UInt8)).toNat : Int))
 (.b (!isMk (↑(s.data.toList.getD (↑k : Int).toNat (0 : UInt8)).toNat : Int)) (.o 1 [] [.s (lb false)]) (.r ((↑k : Int) + 1) (.g [] (k + 1) [.s (li ((↑k : Int) + 1))]))))) (.o 0 []
 []))) (by
  intro k h; try dsimp only [teasy, nthW, lc_iIsSymbolLa] at h ⊢
  have g1 := @all_stop s.data.toList (fun b => isMk b.toNat) k
  have g2 := @all_go s.data.toList (fun b => isMk b.toNat) k
  have g3 := @all_all s.data.toList (fun b => isMk b.toNat) k
  with_reducible repeat' (first | apply And.intro | exact zR | (intro; skip))
  all_goals (try simp only [std, inj] at *)
  all_goals with_reducible repeat' apply And.intro
  all_goals (try (first | exact z | grind [snocI, snocS, rowSnoc])))
theorem c_iIsSymbol (s : ByteArray)  : P_c_iIsSymbol s := fnOK Tryd.call73 Tryd.func73 (.h (s.data.toList.length ≤ 9223372036854775807) (.i ((↑s.data.toList.length : Int) < 1) (.y
 true (.y true (.y true (.s (lb false))))) (.h (s.data.toList.length ≤ 9223372036854775807) (.i (16 < (↑s.data.toList.length : Int)) (.y true (.y true (.s (lb false)))) (.p ((0 :
 Int) ≤ 0 ∧ 0 < s.data.toList.length) (.c [.rd] (c_iDigit (↑(s.data.toList.getD 0 (0 : UInt8)).toNat : Int)) (.b (isDig (↑(s.data.toList.getD 0 (0 : UInt8)).toNat : Int)) (.y true
 (.s (lb false))) (.p ((0 : Int) ≤ 0 ∧ 0 < s.data.toList.length) (.i ((↑(s.data.toList.getD 0 (0 : UInt8)).toNat : Int) = 45) (.h (s.data.toList.length ≤ 9223372036854775807) (.i
 (1 < (↑s.data.toList.length : Int)) (.p ((0 : Int) ≤ 1 ∧ 1 < s.data.toList.length) (.c [.rd] (c_iDigit (↑(s.data.toList.getD 1 (0 : UInt8)).toNat : Int)) (.b (isDig
 (↑(s.data.toList.getD 1 (0 : UInt8)).toNat : Int)) (.s (lb false)) (.l (lc_iIsSymbolLa s) (Sc_iIsSymbolLa s) [] [.s (li 0)] 0 (.t (.s (lb true)) (.t (.s (lb false)) .q)))))) (.y
 false (.l (lc_iIsSymbolLa s) (Sc_iIsSymbolLa s) [] [.s (li 0)] 0 (.t (.s (lb true)) (.t (.s (lb false)) .q)))))) (.y false (.y false (.l (lc_iIsSymbolLa s) (Sc_iIsSymbolLa s) []
 [.s (li 0)] 0 (.t (.s (lb true)) (.t (.s (lb false)) .q)))))))))))))) (by
  dsimp only [teasy, P_c_iIsSymbol, nthW, lc_iIsSymbolLa]
  with_reducible repeat' (first | apply And.intro | exact zR | (intro; skip))
  all_goals (try simp only [std, inj] at *)
  all_goals with_reducible repeat' apply And.intro
  all_goals (try (first | exact z | grind [isSym, snocI, snocS, rowSnoc])))
abbrev P_c_sString (s : ByteArray) : Ct := ⟨138, [], [ls s], [], .sv (lb (isStr s))⟩
def lc_sStringLa (s : ByteArray) : Lp Nat := .mk 29 0 (fun x => [(0, ls s), (3, hs x 0)]) (fun x => []) (fun k => [.s (li (↑k : Int))]) (fun k => k ≤ s.size ∧ ((List.take k
 s.data.toList).all fun b => isStB (↑b.toNat : Int)) = true) (fun k => s.size - k) [.mk ((s.data.toList.all fun b => isStB (↑b.toNat : Int)) = true) (.exit 0) (fun x => [(0, ls
 s)]) (fun x => []) [], .mk ((s.data.toList.all fun b => isStB (↑b.toNat : Int)) = false) .ret (fun x => [(2, hs x 0)]) (fun x => []) [.s (lb false)]]
theorem Sc_sStringLa (s : ByteArray) : Lp.Sem Tryd.prog (loopAt Tryd.f138 0) (lc_sStringLa s) := lpOK (fun k => .h (s.data.toList.length ≤ 9223372036854775807) (.i ((↑k : Int) <
 (↑s.data.toList.length : Int)) (.p (0 ≤ (↑k : Int) ∧ (↑k : Int).toNat < s.data.toList.length) (.i ((↑(s.data.toList.getD (↑k : Int).toNat (0 : UInt8)).toNat : Int) < 32) (.y true
 (.y true (.o 1 [] [.s (lb false)]))) (.p (0 ≤ (↑k : Int) ∧ (↑k : Int).toNat < s.data.toList.length) (.i (126 < (↑(s.data.toList.getD (↑k : Int).toNat (0 : UInt8)).toNat : Int))
 (.y true (.o 1 [] [.s (lb false)])) (.p (0 ≤ (↑k : Int) ∧ (↑k : Int).toNat < s.data.toList.length) (.i ((↑(s.data.toList.getD (↑k : Int).toNat (0 : UInt8)).toNat : Int) = 34) (.o
 1 [] [.s (lb false)]) (.r ((↑k : Int) + 1) (.g [] (k + 1) [.s (li ((↑k : Int) + 1))])))))))) (.o 0 [] []))) (by
  intro k h; try dsimp only [teasy, nthW, lc_sStringLa] at h ⊢
  have g1 := @all_stop s.data.toList (fun b => isStB b.toNat) k
  have g2 := @all_go s.data.toList (fun b => isStB b.toNat) k
  have g3 := @all_all s.data.toList (fun b => isStB b.toNat) k
  with_reducible repeat' (first | apply And.intro | exact zR | (intro; skip))
  all_goals (try simp only [std, inj] at *)
  all_goals with_reducible repeat' apply And.intro
  all_goals (try (first | exact z | grind [isStB, snocI, snocS, rowSnoc])))
theorem c_sString (s : ByteArray)  : P_c_sString s := fnOK Tryd.call138 Tryd.func138 (.l (lc_sStringLa s) (Sc_sStringLa s) [] [.s (li 0)] 0 (.t (.h (s.data.toList.length ≤
 9223372036854775807) (.s (lb (decide ((↑s.data.toList.length : Int) ≤ 20))))) (.t (.s (lb false)) .q))) (by
  dsimp only [teasy, P_c_sString, nthW, lc_sStringLa]
  with_reducible repeat' (first | apply And.intro | exact zR | (intro; skip))
  all_goals (try simp only [std, inj] at *)
  all_goals with_reducible repeat' apply And.intro
  all_goals (try (first | exact z | grind [isStr, snocI, snocS, rowSnoc])))
abbrev P_c_iString (s : ByteArray) : Ct := ⟨103, [], [ls s], [], .sv (lb (isStr s))⟩
def lc_iStringLa (s : ByteArray) : Lp Nat := .mk 29 0 (fun x => [(0, ls s), (3, hs x 0)]) (fun x => []) (fun k => [.s (li (↑k : Int))]) (fun k => k ≤ s.size ∧ ((List.take k
 s.data.toList).all fun b => isStB (↑b.toNat : Int)) = true) (fun k => s.size - k) [.mk ((s.data.toList.all fun b => isStB (↑b.toNat : Int)) = true) (.exit 0) (fun x => []) (fun x
 => []) [], .mk ((s.data.toList.all fun b => isStB (↑b.toNat : Int)) = false) .ret (fun x => [(2, hs x 0)]) (fun x => []) [.s (lb false)]]
theorem Sc_iStringLa (s : ByteArray) : Lp.Sem Tryd.prog (loopAt Tryd.f103 0) (lc_iStringLa s) := lpOK (fun k => .h (s.data.toList.length ≤ 9223372036854775807) (.i ((↑k : Int) <
 (↑s.data.toList.length : Int)) (.p (0 ≤ (↑k : Int) ∧ (↑k : Int).toNat < s.data.toList.length) (.i ((↑(s.data.toList.getD (↑k : Int).toNat (0 : UInt8)).toNat : Int) < 32) (.y true
 (.y true (.o 1 [] [.s (lb false)]))) (.p (0 ≤ (↑k : Int) ∧ (↑k : Int).toNat < s.data.toList.length) (.i (126 < (↑(s.data.toList.getD (↑k : Int).toNat (0 : UInt8)).toNat : Int))
 (.y true (.o 1 [] [.s (lb false)])) (.p (0 ≤ (↑k : Int) ∧ (↑k : Int).toNat < s.data.toList.length) (.i ((↑(s.data.toList.getD (↑k : Int).toNat (0 : UInt8)).toNat : Int) = 34) (.o
 1 [] [.s (lb false)]) (.r ((↑k : Int) + 1) (.g [] (k + 1) [.s (li ((↑k : Int) + 1))])))))))) (.o 0 [] []))) (by
  intro k h; try dsimp only [teasy, nthW, lc_iStringLa] at h ⊢
  have g1 := @all_stop s.data.toList (fun b => isStB b.toNat) k
  have g2 := @all_go s.data.toList (fun b => isStB b.toNat) k
  have g3 := @all_all s.data.toList (fun b => isStB b.toNat) k
  with_reducible repeat' (first | apply And.intro | exact zR | (intro; skip))
  all_goals (try simp only [std, inj] at *)
  all_goals with_reducible repeat' apply And.intro
  all_goals (try (first | exact z | grind [isStB, snocI, snocS, rowSnoc])))
theorem c_iString (s : ByteArray)  : P_c_iString s := fnOK Tryd.call103 Tryd.func103 (.h (s.data.toList.length ≤ 9223372036854775807) (.i (20 < (↑s.data.toList.length : Int)) (.s (lb
 false)) (.l (lc_iStringLa s) (Sc_iStringLa s) [] [.s (li 0)] 0 (.t (.s (lb true)) (.t (.s (lb false)) .q))))) (by
  dsimp only [teasy, P_c_iString, nthW, lc_iStringLa]
  with_reducible repeat' (first | apply And.intro | exact zR | (intro; skip))
  all_goals (try simp only [std, inj] at *)
  all_goals with_reducible repeat' apply And.intro
  all_goals (try (first | exact z | grind [isStr, snocI, snocS, rowSnoc])))
def nodD (k n : Int) (t : ByteArray) (i : Int) : Bool := decide (k = 0 ∧ n = 0 ∧ t.data.toList = []) || decide (k = 1 ∧ n = 0 ∧ isSym t = true ∧ i = 0) || decide (k = 2 ∧ -999999999 ≤ n ∧ n ≤ 999999999 ∧ t.data.toList = [] ∧ i = 0) || decide (k = 3 ∧ 0 ≤ n ∧ n ≤ 1 ∧ t.data.toList = [] ∧ i = 0) || decide (k = 4 ∧ n = 0 ∧ isStr t = true ∧ i = 0)
abbrev P_c_sNode (k : Int) (n : Int) (t : ByteArray) (i : Int) : Ct := ⟨128, [], [li k, li n, ls t, li i], [], .sv (lb (nodD k n t i))⟩
theorem c_sNode (k n : Int) (t : ByteArray) (i : Int)  : P_c_sNode k n t i := fnOK Tryd.call128 Tryd.func128 (.i (k = 0) (.i (n = 0) (.s (lb (decide (t.data.toList = [])))) (.s (lb
 false))) (.i (k = 1) (.i (n = 0) (.c [.rd] (c_sIsSymbol t) (.b (isSym t) (.s (lb (decide (i = 0)))) (.s (lb false)))) (.y false (.s (lb false)))) (.i (k = 2) (.c [.rd, .rd, .rd]
 (c_l1In n (-999999999 : Int) 999999999) (.i ((-999999999 : Int) ≤ n ∧ n ≤ 999999999) (.i (t.data.toList = []) (.s (lb (decide (i = 0)))) (.s (lb false))) (.y false (.s (lb
 false))))) (.i (k = 3) (.c [.rd, .rd, .rd] (c_l1In n 0 1) (.i (0 ≤ n ∧ n ≤ 1) (.i (t.data.toList = []) (.s (lb (decide (i = 0)))) (.s (lb false))) (.y false (.s (lb false))))) (.i
 (k = 4) (.i (n = 0) (.c [.rd] (c_sString t) (.b (isStr t) (.s (lb (decide (i = 0)))) (.s (lb false)))) (.y false (.s (lb false)))) (.s (lb false))))))) (by
  dsimp only [teasy, P_c_sNode]
  with_reducible repeat' (first | apply And.intro | exact zR | (intro; skip))
  all_goals (try simp only [std, inj] at *)
  all_goals with_reducible repeat' apply And.intro
  all_goals (try (first | exact z | grind [nodD, snocI, snocS, rowSnoc])))
abbrev P_c_iNode (k : Int) (n : Int) (t : ByteArray) (i : Int) : Ct := ⟨130, [], [li k, li n, ls t, li i], [], .sv (lb (nodD k n t i))⟩
theorem c_iNode (k n : Int) (t : ByteArray) (i : Int)  : P_c_iNode k n t i := fnOK Tryd.call130 Tryd.func130 (.i (k = 0) (.i (n = 0) (.s (lb (decide (t.data.toList = [])))) (.s (lb
 false))) (.i (k = 1) (.i (n = 0) (.i (i = 0) (.c [.rd] (c_iIsSymbol t) (.s (lb (isSym t)))) (.s (lb false))) (.y false (.s (lb false)))) (.i (k = 2) (.i ((-999999999 : Int) ≤ n)
 (.i (n ≤ 999999999) (.i (t.data.toList = []) (.s (lb (decide (i = 0)))) (.s (lb false))) (.y false (.s (lb false)))) (.y false (.y false (.s (lb false))))) (.i (k = 3) (.i (n = 0)
 (.y true (.i (t.data.toList = []) (.s (lb (decide (i = 0)))) (.s (lb false)))) (.i (n = 1) (.i (t.data.toList = []) (.s (lb (decide (i = 0)))) (.s (lb false))) (.y false (.s (lb
 false))))) (.i (k = 4) (.i (n = 0) (.i (i = 0) (.c [.rd] (c_iString t) (.s (lb (isStr t)))) (.s (lb false))) (.y false (.s (lb false)))) (.s (lb false))))))) (by
  dsimp only [teasy, P_c_iNode]
  with_reducible repeat' (first | apply And.intro | exact zR | (intro; skip))
  all_goals (try simp only [std, inj] at *)
  all_goals with_reducible repeat' apply And.intro
  all_goals (try (first | exact z | grind [nodD, snocI, snocS, rowSnoc])))
mutual
def sizeD : Datum → Nat
  | ⟨_, _, _, l⟩ => sizeDs l + 1
def sizeDs : List Datum → Nat
  | [] => 0
  | c :: r => sizeD c + sizeDs r
end
theorem sizeDs_eq : ∀ l, sizeDs l = sumBy sizeD l
  | [] => by simp [sizeDs, sumBy]
  | c :: r => by rw [sizeDs, sumBy, sizeDs_eq r]
theorem sizeD_eq (c : Datum) : sizeD c = sumBy sizeD c.items + 1 := by cases c; simp only [sizeD, sizeDs_eq]
mutual
def depD : Datum → Nat
  | ⟨_, _, _, l⟩ => depDs l + 1
def depDs : List Datum → Nat
  | [] => 0
  | c :: r => max (depD c) (depDs r)
end
theorem depDs_eq : ∀ l, depDs l = maxBy depD l
  | [] => by simp [depDs, maxBy]
  | c :: r => by rw [depDs, maxBy, depDs_eq r]
theorem depD_eq (c : Datum) : depD c = maxBy depD c.items + 1 := by cases c; simp only [depD, depDs_eq]
theorem depD_le : ∀ c : Datum, depD c ≤ sizeD c := by
  refine Datum.ind fun c ih => ?_
  have := maxBy_sum ih
  rw [sizeD_eq, depD_eq]; omega
mutual
def okD : Datum → Bool
  | ⟨k, n, t, l⟩ => okDs l && nodD k n t l.length
def okDs : List Datum → Bool
  | [] => true
  | c :: r => okD c && okDs r
end
theorem okDs_eq : ∀ l, okDs l = l.all okD
  | [] => by simp [okDs]
  | c :: r => by rw [okDs, okDs_eq r]; rfl
theorem okD_eq (c : Datum) : okD c = (c.items.all okD && nodD c.kind c.number c.text c.items.length) := by cases c; simp only [okD, okDs_eq]
def isDat (d : Datum) : Bool := decide (sizeD d ≤ 600) && decide (depD d ≤ 20) && okD d
mutual
def meaD : Datum → Int → Int → Bool × Int
  | ⟨k, n, t, l⟩, deep, m => if deep ≤ 20 ∧ m + 1 ≤ 600 ∧ nodD k n t l.length = true then meaDs l (deep + 1) (m + 1) else (false, m + 1)
def meaDs : List Datum → Int → Int → Bool × Int
  | [], _, m => (true, m)
  | x :: r, deep, m => if (meaD x deep m).1 then meaDs r deep (meaD x deep m).2 else (false, (meaD x deep m).2)
end
theorem meaDs_eq : ∀ l deep m, meaDs l deep m = scan (fun x m => meaD x deep m) l m
  | [], _, _ => by simp [meaDs, scan]
  | x :: r, deep, m => by simp only [meaDs, scan, meaDs_eq r]
theorem meaD_eq (c : Datum) (deep m : Int) : meaD c deep m = if deep ≤ 20 ∧ m + 1 ≤ 600 ∧ nodD c.kind c.number c.text c.items.length = true then scan (fun x m => meaD x (deep + 1) m) c.items (m + 1) else (false, m + 1) := by cases c; simp only [meaD, meaDs_eq]
theorem meaD_of : ∀ (c : Datum) (deep m : Int), m ≤ 600 → ((meaD c deep m).1 = true ↔ (m + sizeD c ≤ 600 ∧ (deep + depD c ≤ 21 ∧ okD c = true))) ∧ ((meaD c deep m).1 = true → (meaD c deep m).2 = m + sizeD c) := by
  refine Datum.ind fun c ih deep m hm => ?_
  rw [meaD_eq, sizeD_eq, depD_eq, okD_eq, Bool.and_eq_true, List.all_eq_true]
  by_cases h : deep ≤ 20 ∧ m + 1 ≤ 600 ∧ nodD c.kind c.number c.text c.items.length = true
  · rw [if_pos h]
    have h1 := scan_of (fun x m => meaD x (deep + 1) m) sizeD (fun x => deep + 1 + depD x ≤ 21 ∧ okD x = true) 600 c.items (fun x hx m hm => ih x hx (deep + 1) m hm) (m + 1) h.2.1
    have h2 := maxBy_le depD (m := (20 - deep).toNat) (L := c.items)
    constructor
    · rw [h1.1]
      constructor
      · rintro ⟨a, b⟩
        have := h2.2 fun x hx => by have := (b x hx).1; omega
        exact ⟨by omega, by omega, fun x hx => (b x hx).2, h.2.2⟩
      · rintro ⟨a, b, d, e⟩
        have := h2.1 (by omega)
        exact ⟨by omega, fun x hx => ⟨by have := this x hx; omega, d x hx⟩⟩
    · intro ht; rw [h1.2 ht]; omega
  · rw [if_neg h]
    refine ⟨⟨fun e => Bool.noConfusion e, ?_⟩, fun e => Bool.noConfusion e⟩
    rintro ⟨a, b, d, e⟩
    exact absurd ⟨by omega, by omega, e⟩ h
theorem meaD_isDat (d : Datum) : (meaD d 1 0).1 = isDat d := by
  have h := (meaD_of d 1 0 (by decide)).1
  rw [Bool.eq_iff_iff, h]
  simp only [isDat, Bool.and_eq_true, decide_eq_true_eq, and_assoc]
  constructor
  · rintro ⟨a, b, e⟩; exact ⟨by omega, by omega, e⟩
  · rintro ⟨a, b, e⟩; exact ⟨by omega, by omega, e⟩
abbrev P_c_sFewD (d : Datum) (l : Int) : Ct := ⟨100, [.box [vI l]], [datumA d, .one (.ptr 0 0)], [.box [vI (max (l - sizeD d) (-1))]], .sv (lb (decide (sizeD d ≤ l)))⟩
def lc_sFewD_sLa (d : Datum) (l : Int) : Lp Nat := .mk 36 1 (fun x => [(1, SV.one (AC.ptr 0 0)), (2, SV.one (AC.ptr 1 0)), (5, hs x 0)]) (fun x => [Ob.box [ha x 1], Ob.box (vals
 (datumF d))]) (fun k => [.s (li (↑k : Int)), .a (vI (max (l - 1 - (↑(sumBy sizeD (List.take k d.items)) : Int)) (-1 : Int)))]) (fun k => d.items.length ≥ k) (fun k =>
 d.items.length - k) [.mk True (.exit 0) (fun x => [(1, SV.one (AC.ptr 0 0))]) (fun x => [Ob.box [ha x 0]]) [.a (vI (max (l - (↑(sizeD d) : Int)) (-1 : Int)))]]
theorem Sc_sFewD_sLa (d : Datum) (l : Int) (h : 0 ≤ l ∧ l ≤ 1000000) (ih : ∀ (z : Datum), z ∈ d.items → ∀ (l : Int), 0 ≤ l ∧ l ≤ 1000000 → OK (P_c_sFewD z l)) : Lp.Sem Tryd.prog
 (loopAt Tryd.f100 0) (lc_sFewD_sLa d l) := lpOK (fun k => .z datumC d.items (.i ((↑k : Int) < (↑(List.map datumC d.items).length : Int)) (.i (0 ≤ max (l - 1 - (↑(sumBy sizeD
 (List.take k d.items)) : Int)) (-1 : Int)) (.x (↑k : Int) (List.map datumC d.items) (datumF (d.items.getD k default)) (.d [.rd, .ptr] (P_c_sFewD (d.items.getD k default) (max (l -
 1 - (↑(sumBy sizeD (List.take k d.items)) : Int)) (-1 : Int))) (.r ((↑k : Int) + 1) (.g [0, 1] (k + 1) [.s (li ((↑k : Int) + 1)), .a (vI (max (max (l - 1 - (↑(sumBy sizeD
 (List.take k d.items)) : Int)) (-1 : Int) - (↑(sizeD (d.items.getD k default)) : Int)) (-1 : Int)))])))) (.o 0 [0] [.a (vI (max (l - 1 - (↑(sumBy sizeD (List.take k d.items)) :
 Int)) (-1 : Int)))])) (.y false (.o 0 [0] [.a (vI (max (l - 1 - (↑(sumBy sizeD (List.take k d.items)) : Int)) (-1 : Int)))])))) (by
  intro k h; try dsimp only [teasy, nthW, lc_sFewD_sLa] at h ⊢
  have g1 := sizeD_eq d
  have g2 := sumBy_takeLe sizeD d.items k
  have g3 := @sumBy_step _ _ sizeD d.items k
  with_reducible repeat' (first | apply And.intro | exact zR | exact ih | (intro; skip) | apply ih)
  all_goals (try simp only [std, inj] at *)
  all_goals with_reducible repeat' apply And.intro
  all_goals (try (first | with_reducible apply ih | (simp only [← List.map_append]; first | with_reducible apply ih)))
  all_goals (try (first | exact z | grind [getD_mem', snocI, snocS, rowSnoc])))
theorem c_sFewD_s (d : Datum) (l : Int) (h : 0 ≤ l ∧ l ≤ 1000000) (ih : ∀ z ∈ d.items, ∀ (l : Int) (h : 0 ≤ l ∧ l ≤ 1000000), P_c_sFewD z l)  : P_c_sFewD d l := fnOK Tryd.call100
 Tryd.func100 (.r (l - 1) (.l (lc_sFewD_sLa d l) (Sc_sFewD_sLa d l h ih) [0, 1] [.s (li 0), .a (vI (l - 1))] 0 (.t (.f [] [Ob.box [vI (max (l - (↑(sizeD d) : Int)) (-1 : Int))]]
 (AV.sv (lb (decide (0 ≤ max (l - (↑(sizeD d) : Int)) (-1 : Int)))))) .q))) (by
  dsimp only [teasy, P_c_sFewD, nthW, lc_sFewD_sLa]
  have g1 := sizeD_eq d
  have g2 : sumBy sizeD (d.items.take 0) = 0 := rfl
  with_reducible repeat' (first | apply And.intro | exact zR | exact ih | (intro; skip))
  all_goals (try simp only [std, inj] at *)
  all_goals with_reducible repeat' apply And.intro
  all_goals (try (first | with_reducible apply ih | (simp only [← List.map_append]; first | with_reducible apply ih)))
  all_goals (try (first | exact z | grind [snocI, snocS, rowSnoc])))
theorem c_sFewD (d : Datum) : ∀ (l : Int) (h : 0 ≤ l ∧ l ≤ 1000000), P_c_sFewD d l := Datum.ind (P := fun d => ∀ (l : Int) (h : 0 ≤ l ∧ l ≤ 1000000), P_c_sFewD d l) (fun d ih l h => c_sFewD_s d l h ih) d
abbrev P_c_sDepD (d : Datum) : Ct := ⟨101, [], [datumA d], [], .sv (li (depD d))⟩
def lc_sDepD_sLa (d : Datum) : Lp Nat := .mk 20 0 (fun x => [(3, hs x 1), (7, ll (List.map datumC d.items)), (8, li (↑(List.map datumC d.items).length : Int)), (9, hs x 0)]) (fun x
 => []) (fun k => [.s (li (↑k : Int)), .s (li (↑(maxBy depD (List.take k d.items)) : Int))]) (fun k => k ≤ d.items.length ∧ d.items.length ≤ 9223372036854775807) (fun k =>
 d.items.length - k) [.mk True (.exit 0) (fun x => [(3, hs x 0)]) (fun x => []) [.s (li (↑(maxBy depD d.items) : Int))]]
theorem Sc_sDepD_sLa (d : Datum) (h : sizeD d ≤ 2147483647) (ih : ∀ (z : Datum), z ∈ d.items → sizeD z ≤ 2147483647 → OK (P_c_sDepD z)) : Lp.Sem Tryd.prog (loopAt Tryd.f101 0)
 (lc_sDepD_sLa d) := lpOK (fun k => .i ((↑k : Int) < (↑(List.map datumC d.items).length : Int)) (.x (↑k : Int) (List.map datumC d.items) (datumF (d.items.getD k default)) (.d [.rd]
 (P_c_sDepD (d.items.getD k default)) (.r ((↑k : Int) + 1) (.g [] (k + 1) [.s (li ((↑k : Int) + 1)), .s (li (max (↑(maxBy depD (List.take k d.items)) : Int) (↑(depD (d.items.getD k
 default)) : Int)))])))) (.o 0 [] [.s (li (↑(maxBy depD (List.take k d.items)) : Int))])) (by
  intro k h; try dsimp only [teasy, nthW, lc_sDepD_sLa] at h ⊢
  have g1 := sizeD_eq d
  have g2 := @sumBy_mem _ sizeD d.items (d.items.getD k default)
  with_reducible repeat' (first | apply And.intro | exact zR | exact ih | (intro; skip) | apply ih)
  all_goals (try simp only [std, inj] at *)
  all_goals with_reducible repeat' apply And.intro
  all_goals (try (first | with_reducible apply ih | (simp only [← List.map_append]; first | with_reducible apply ih)))
  all_goals (try (first | exact z | grind [maxBy_step, getD_mem', snocI, snocS, rowSnoc])))
theorem c_sDepD_s (d : Datum) (h : sizeD d ≤ 2147483647) (ih : ∀ z ∈ d.items, ∀ (h : sizeD z ≤ 2147483647), P_c_sDepD z)  : P_c_sDepD d := fnOK Tryd.call101 Tryd.func101 (.z datumC
 d.items (.l (lc_sDepD_sLa d) (Sc_sDepD_sLa d h ih) [] [.s (li 0), .s (li 0)] 0 (.t (.r ((↑(maxBy depD d.items) : Int) + 1) (.s (li ((↑(maxBy depD d.items) : Int) + 1)))) .q))) (by
  dsimp only [teasy, P_c_sDepD, nthW, lc_sDepD_sLa]
  have h1 := depD_le d
  have g2 : maxBy depD (d.items.take 0) = 0 := rfl
  with_reducible repeat' (first | apply And.intro | exact zR | exact ih | (intro; skip))
  all_goals (try simp only [std, inj] at *)
  all_goals with_reducible repeat' apply And.intro
  all_goals (try (first | with_reducible apply ih | (simp only [← List.map_append]; first | with_reducible apply ih)))
  all_goals (try (first | exact z | grind [depD_eq, snocI, snocS, rowSnoc])))
theorem c_sDepD (d : Datum) : ∀ (h : sizeD d ≤ 2147483647), P_c_sDepD d := Datum.ind (P := fun d => ∀ (h : sizeD d ≤ 2147483647), P_c_sDepD d) (fun d ih h => c_sDepD_s d h ih) d
abbrev P_c_sOkD (d : Datum) : Ct := ⟨102, [], [datumA d], [], .sv (lb (okD d))⟩
def lc_sOkD_sLa (d : Datum) : Lp Nat := .mk 26 0 (fun x => [(1, SV.one (AC.ptr 0 0)), (6, ll (List.map datumC d.items)), (7, li (↑(List.map datumC d.items).length : Int)), (8, hs x
 0)]) (fun x => [Ob.box (vals (datumF d))]) (fun k => [.s (li (↑k : Int))]) (fun k => k ≤ d.items.length ∧ d.items.length ≤ 9223372036854775807 ∧ (List.take k d.items).all okD =
 true) (fun k => d.items.length - k) [.mk (d.items.all okD = true) (.exit 0) (fun x => [(1, SV.one (AC.ptr 0 0))]) (fun x => [Ob.box (vals (datumF d))]) [], .mk (d.items.all okD =
 false) .ret (fun x => [(2, hs x 0)]) (fun x => []) [.s (lb false)]]
theorem Sc_sOkD_sLa (d : Datum) (ih : ∀ (z : Datum), z ∈ d.items → OK (P_c_sOkD z)) : Lp.Sem Tryd.prog (loopAt Tryd.f102 0) (lc_sOkD_sLa d) := lpOK (fun k => .i ((↑k : Int) <
 (↑(List.map datumC d.items).length : Int)) (.x (↑k : Int) (List.map datumC d.items) (datumF (d.items.getD k default)) (.d [.rd] (P_c_sOkD (d.items.getD k default)) (.b (!okD
 (d.items.getD k default)) (.o 1 [] [.s (lb false)]) (.r ((↑k : Int) + 1) (.g [0] (k + 1) [.s (li ((↑k : Int) + 1))]))))) (.o 0 [0] [])) (by
  intro k h; try dsimp only [teasy, nthW, lc_sOkD_sLa] at h ⊢
  with_reducible repeat' (first | apply And.intro | exact zR | exact ih | (intro; skip) | apply ih)
  all_goals (try simp only [std, inj] at *)
  all_goals with_reducible repeat' apply And.intro
  all_goals (try (first | with_reducible apply ih | (simp only [← List.map_append]; first | with_reducible apply ih)))
  all_goals (try (first | exact z | grind [take_get, getD_mem', snocI, snocS, rowSnoc])))
theorem c_sOkD_s (d : Datum) (ih : ∀ z ∈ d.items, P_c_sOkD z)  : P_c_sOkD d := fnOK Tryd.call102 Tryd.func102 (.z datumC d.items (.l (lc_sOkD_sLa d) (Sc_sOkD_sLa d ih) [0] [.s (li
 0)] 0 (.t (.z datumC d.items (.c [.rd, .rd, .rd, .rd] (c_sNode d.kind d.number d.text (↑(List.map datumC d.items).length : Int)) (.s (lb (nodD d.kind d.number d.text (↑(List.map
 datumC d.items).length : Int)))))) (.t (.s (lb false)) .q)))) (by
  dsimp only [teasy, P_c_sOkD, nthW, lc_sOkD_sLa]
  with_reducible repeat' (first | apply And.intro | exact zR | exact ih | (intro; skip))
  all_goals (try simp only [std, inj] at *)
  all_goals with_reducible repeat' apply And.intro
  all_goals (try (first | with_reducible apply ih | (simp only [← List.map_append]; first | with_reducible apply ih)))
  all_goals (try (first | exact z | grind [okD_eq, snocI, snocS, rowSnoc])))
theorem c_sOkD (d : Datum) : P_c_sOkD d := Datum.ind (P := fun d => P_c_sOkD d) (fun d ih => c_sOkD_s d ih) d
abbrev P_c_sIsDatum (d : Datum) : Ct := ⟨61, [], [datumA d], [], .sv (lb (isDat d))⟩
theorem c_sIsDatum (d : Datum)  : P_c_sIsDatum d := fnOK Tryd.call61 Tryd.func61 (.d [.rd, .ptr] (P_c_sFewD d 600) (.i ((↑(sizeD d) : Int) ≤ 600) (.d [.rd] (P_c_sDepD d) (.i ((↑(depD
 d) : Int) ≤ 20) (.c [.rd] (c_sOkD d) (.s (lb (okD d)))) (.s (lb false)))) (.y false (.s (lb false))))) (by
  dsimp only [teasy, P_c_sIsDatum]
  with_reducible repeat' (first | apply And.intro | exact zR | (intro; skip) | apply c_sFewD | apply c_sDepD)
  all_goals (try simp only [std, inj] at *)
  all_goals with_reducible repeat' apply And.intro
  all_goals (try (first | with_reducible apply c_sFewD | with_reducible apply c_sDepD | (simp only [← List.map_append]; first | with_reducible apply c_sFewD | with_reducible apply c_sDepD)))
  all_goals (try (first | exact z | grind [isDat, snocI, snocS, rowSnoc])))
abbrev P_c_iMeaD (d : Datum) (deep : Int) (q : Int) : Ct := ⟨106, [.box [vI q]], [datumA d, li deep, .one (.ptr 0 0)], [.box [vI (meaD d deep q).2]], .sv (lb (meaD d deep q).1)⟩
def lc_iMeaD_sLa (d : Datum) (deep : Int) (q : Int) : Lp Nat := .mk 49 1 (fun x => [(1, li deep), (2, SV.one (AC.ptr 0 0)), (36, ll (List.map datumC d.items)), (37, li (↑(List.map
 datumC d.items).length : Int)), (38, hs x 0)]) (fun x => [Ob.box [ha x 1]]) (fun k => [.s (li (↑k : Int)), .a (vI (scan (fun x m => meaD x (deep + 1) m) (List.take k d.items) (q +
 1)).snd)]) (fun k => k ≤ d.items.length ∧ d.items.length ≤ 9223372036854775807 ∧ deep ≤ 20 ∧ (scan (fun x m => meaD x (deep + 1) m) (List.take k d.items) (q + 1)).fst = true ∧ q ≤
 (scan (fun x m => meaD x (deep + 1) m) (List.take k d.items) (q + 1)).snd ∧ (scan (fun x m => meaD x (deep + 1) m) (List.take k d.items) (q + 1)).snd ≤ 600) (fun k =>
 d.items.length - k) [.mk ((scan (fun x m => meaD x (deep + 1) m) d.items (q + 1)).fst = true) (.exit 0) (fun x => []) (fun x => [Ob.box [ha x 0]]) [.a (vI (scan (fun x m => meaD x
 (deep + 1) m) d.items (q + 1)).snd)], .mk ((scan (fun x m => meaD x (deep + 1) m) d.items (q + 1)).fst = false) .ret (fun x => [(6, hs x 0)]) (fun x => [Ob.box [ha x 1]]) [.s (lb
 false), .a (vI (scan (fun x m => meaD x (deep + 1) m) d.items (q + 1)).snd)]]
theorem Sc_iMeaD_sLa (d : Datum) (deep : Int) (q : Int) (h : 0 ≤ deep ∧ deep ≤ 21 ∧ 0 ≤ q ∧ q ≤ 600) (ih : ∀ (z : Datum), z ∈ d.items → ∀ (deep q : Int), 0 ≤ deep ∧ deep ≤ 21 ∧ 0 ≤
 q ∧ q ≤ 600 → OK (P_c_iMeaD z deep q)) : Lp.Sem Tryd.prog (loopAt Tryd.f106 0) (lc_iMeaD_sLa d deep q) := lpOK (fun k => .i ((↑k : Int) < (↑(List.map datumC d.items).length :
 Int)) (.x (↑k : Int) (List.map datumC d.items) (datumF (d.items.getD k default)) (.r (deep + 1) (.d [.rd, .rd, .ptr] (P_c_iMeaD (d.items.getD k default) (deep + 1) (scan (fun x m
 => meaD x (deep + 1) m) (List.take k d.items) (q + 1)).snd) (.b (!(meaD (d.items.getD k default) (deep + 1) (scan (fun x m => meaD x (deep + 1) m) (List.take k d.items) (q +
 1)).snd).fst) (.o 1 [0] [.s (lb false), .a (vI (meaD (d.items.getD k default) (deep + 1) (scan (fun x m => meaD x (deep + 1) m) (List.take k d.items) (q + 1)).snd).snd)]) (.r ((↑k
 : Int) + 1) (.g [0] (k + 1) [.s (li ((↑k : Int) + 1)), .a (vI (meaD (d.items.getD k default) (deep + 1) (scan (fun x m => meaD x (deep + 1) m) (List.take k d.items) (q +
 1)).snd).snd)])))))) (.o 0 [0] [.a (vI (scan (fun x m => meaD x (deep + 1) m) (List.take k d.items) (q + 1)).snd)])) (by
  intro k h; try dsimp only [teasy, nthW, lc_iMeaD_sLa] at h ⊢
  have g1 := fun x m => meaD_of x (deep + 1) m
  with_reducible repeat' (first | apply And.intro | exact zR | exact ih | (intro; skip) | apply ih)
  all_goals (try simp only [std, inj] at *)
  all_goals with_reducible repeat' apply And.intro
  all_goals (try (first | with_reducible apply ih | (simp only [← List.map_append]; first | with_reducible apply ih)))
  all_goals (try (first | exact z | grind [scan_step, scan_stop, getD_mem', snocI, snocS, rowSnoc])))
theorem c_iMeaD_s (d : Datum) (deep q : Int) (h : 0 ≤ deep ∧ deep ≤ 21 ∧ 0 ≤ q ∧ q ≤ 600) (ih : ∀ z ∈ d.items, ∀ (deep : Int) (q : Int) (h : 0 ≤ deep ∧ deep ≤ 21 ∧ 0 ≤ q ∧ q ≤
 600), P_c_iMeaD z deep q)  : P_c_iMeaD d deep q := fnOK Tryd.call106 Tryd.func106 (.r (q + 1) (.i (20 < deep) (.y true (.y true (.f [] [Ob.box [vI (q + 1)]] (AV.sv (lb false)))))
 (.i (600 < q + 1) (.y true (.f [] [Ob.box [vI (q + 1)]] (AV.sv (lb false)))) (.z datumC d.items (.c [.rd, .rd, .rd, .rd] (c_iNode d.kind d.number d.text (↑(List.map datumC
 d.items).length : Int)) (.b (!nodD d.kind d.number d.text (↑(List.map datumC d.items).length : Int)) (.f [] [Ob.box [vI (q + 1)]] (AV.sv (lb false))) (.z datumC d.items (.l
 (lc_iMeaD_sLa d deep q) (Sc_iMeaD_sLa d deep q h ih) [0] [.s (li 0), .a (vI (q + 1))] 0 (.t (.f [] [Ob.box [vI (scan (fun x m => meaD x (deep + 1) m) d.items (q + 1)).snd]] (AV.sv
 (lb true))) (.t (.f [] [Ob.box [vI (scan (fun x m => meaD x (deep + 1) m) d.items (q + 1)).snd]] (AV.sv (lb false))) .q)))))))))) (by
  dsimp only [teasy, P_c_iMeaD, nthW, lc_iMeaD_sLa]
  with_reducible repeat' (first | apply And.intro | exact zR | exact ih | (intro; skip))
  all_goals (try simp only [std, inj] at *)
  all_goals with_reducible repeat' apply And.intro
  all_goals (try (first | with_reducible apply ih | (simp only [← List.map_append]; first | with_reducible apply ih)))
  all_goals (try (first | exact z | grind [meaD_eq, scan, snocI, snocS, rowSnoc])))
theorem c_iMeaD (d : Datum) : ∀ (deep : Int) (q : Int) (h : 0 ≤ deep ∧ deep ≤ 21 ∧ 0 ≤ q ∧ q ≤ 600), P_c_iMeaD d deep q := Datum.ind (P := fun d => ∀ (deep : Int) (q : Int) (h : 0 ≤ deep ∧ deep ≤ 21 ∧ 0 ≤ q ∧ q ≤ 600), P_c_iMeaD d deep q) (fun d ih deep q h => c_iMeaD_s d deep q h ih) d
abbrev P_c_iIsDatum (d : Datum) : Ct := ⟨65, [], [datumA d], [], .sv (lb (isDat d))⟩
theorem c_iIsDatum (d : Datum)  : P_c_iIsDatum d := fnOK Tryd.call65 Tryd.func65 (.d [.rd, .rd, .ptr] (P_c_iMeaD d 1 0) (.s (lb (meaD d 1 0).fst))) (by
  dsimp only [teasy, P_c_iIsDatum]
  with_reducible repeat' (first | apply And.intro | exact zR | (intro; skip) | apply c_iMeaD)
  all_goals (try simp only [std, inj] at *)
  all_goals with_reducible repeat' apply And.intro
  all_goals (try (first | with_reducible apply c_iMeaD | (simp only [← List.map_append]; first | with_reducible apply c_iMeaD)))
  all_goals (try (first | exact z | grind [meaD_isDat, snocI, snocS, rowSnoc])))
end Go.Proofs.YtpflccjienojfaaDoor
end
section
namespace Go.Proofs.YtpflccjienojfaaDoor
open Go Go.Proofs.YtpflccjienojfaaDoor.Ab
set_option linter.unusedVariables false
theorem dec_one {u : Nat} (h : u < 10) : Lib.decDigits u = [UInt8.ofNat (48 + u)] := by rw [Lib.decDigits, dif_pos h]
theorem dec_more {u : Nat} (h : ¬ u < 10) : Lib.decDigits u = Lib.decDigits (u / 10) ++ [UInt8.ofNat (48 + u % 10)] := by rw [Lib.decDigits, dif_neg h]
theorem dec_len : ∀ (k u : Nat), u < 10 ^ (k + 1) → (Lib.decDigits u).length ≤ k + 1
  | k, u, h => by
    by_cases hu : u < 10
    · rw [dec_one hu]; simp
    · cases k with
      | zero => exact absurd (by simpa using h) hu
      | succ k =>
        have := dec_len k (u / 10) (by rw [Nat.pow_succ] at h; omega)
        rw [dec_more hu]; simp only [List.length_append, List.length_cons, List.length_nil]; omega
theorem dig_one {d : Nat} (hd : d < 10) : (UInt8.ofNat (48 + d)).toNat = 48 + d := by
  rw [UInt8.toNat_ofNat']; omega
theorem dec_dig (u : Nat) : ∀ b ∈ Lib.decDigits u, 48 ≤ b.toNat ∧ b.toNat ≤ 57 := by
  induction u using Nat.strongRecOn with
  | _ u ih =>
    by_cases hu : u < 10
    · rw [dec_one hu]; intro b hb; rw [List.mem_singleton.1 hb, dig_one hu]; omega
    · rw [dec_more hu]; intro b hb
      rcases List.mem_append.1 hb with hb | hb
      · exact ih (u / 10) (by omega) b hb
      · rw [List.mem_singleton.1 hb, dig_one (by omega)]; omega
def dgs (u : Nat) : List UInt8 := if u = 0 then [] else Lib.decDigits u
theorem dgs_step {u : Nat} (h : u ≠ 0) : dgs u = dgs (u / 10) ++ [UInt8.ofNat (48 + u % 10)] := by
  unfold dgs
  rw [if_neg h]
  by_cases hu : u < 10
  · rw [dec_one hu, if_pos (by omega), Nat.mod_eq_of_lt hu]; rfl
  · rw [dec_more hu, if_neg (by omega)]
theorem dgs_zero : dgs 0 = [] := rfl
theorem dgs_ne {u : Nat} (h : u ≠ 0) : dgs u = Lib.decDigits u := if_neg h
theorem itoa_pos {n : Int} (h : 0 ≤ n) : Lib.itoa n = Lib.decDigits n.natAbs := by
  unfold Lib.itoa; rw [if_neg (by omega)]; congr 1; omega
theorem itoa_neg {n : Int} (h : n < 0) : Lib.itoa n = 45 :: Lib.decDigits n.natAbs := by unfold Lib.itoa; rw [if_pos h]
theorem itoa_zero : Lib.itoa 0 = [48] := by rw [itoa_pos (by decide)]; exact dec_one (by decide)
theorem itoa_len {n : Int} (h : -9223372036854775808 ≤ n ∧ n ≤ 9223372036854775807) : (Lib.itoa n).length ≤ 21 := by
  have e : (10 : Nat) ^ (19 + 1) = 100000000000000000000 := by decide
  have := dec_len 19 n.natAbs (by omega)
  by_cases hn : n < 0
  · rw [itoa_neg hn]; simp only [List.length_cons]; omega
  · rw [itoa_pos (by omega)]; omega
theorem itoa_len9 {n : Int} (h : -999999999 ≤ n ∧ n ≤ 999999999) : (Lib.itoa n).length ≤ 10 := by
  have e : (10 : Nat) ^ (8 + 1) = 1000000000 := by decide
  have := dec_len 8 n.natAbs (by omega)
  by_cases hn : n < 0
  · rw [itoa_neg hn]; simp only [List.length_cons]; omega
  · rw [itoa_pos (by omega)]; omega
theorem dec_ge {n : Int} (h : -9223372036854775808 ≤ n ∧ n ≤ 9223372036854775807) : (Lib.decDigits n.natAbs).length ≤ 20 := by
  have e : (10 : Nat) ^ (19 + 1) = 100000000000000000000 := by decide
  exact dec_len 19 n.natAbs (by omega)
theorem rng_u8 {n : Int} : rng .u8 n ↔ 0 ≤ n ∧ n ≤ 255 := by
  simp [rng, IntKind.min, IntKind.max, IntKind.signed, IntKind.bits]
theorem u8_back {m : Int} (h : 0 ≤ m ∧ m ≤ 255) : ((UInt8.ofNat m.toNat).toNat : Int) = m := by
  rw [UInt8.toNat_ofNat']; omega
end Go.Proofs.YtpflccjienojfaaDoor
end
section
namespace Go.Proofs.YtpflccjienojfaaDoor
open Go Go.Proofs.YtpflccjienojfaaDoor.Ab
set_option linter.unusedVariables false
set_option linter.unusedSimpArgs false
set_option maxHeartbeats 4000000
abbrev P_c_sNum (n : Int) : Ct := ⟨68, [], [li n], [], .sv (ls (mkS (Lib.itoa n)))⟩
def lc_sNumLa (n : Int) : Lp (Int × List UInt8) := .mk 31 0 (fun x => [(0, li n), (3, hs x 1), (4, hs x 0)]) (fun x => []) (fun k => [.s (li k.fst), .s (ls (mkS k.snd))]) (fun k =>
 n ≠ 0 ∧ dgs k.fst.natAbs ++ k.snd = Lib.decDigits n.natAbs ∧ (-9223372036854775808 : Int) ≤ k.fst ∧ k.fst ≤ 9223372036854775807) (fun k => k.fst.natAbs) [.mk True (.exit 0) (fun x
 => [(0, li n), (3, hs x 0)]) (fun x => []) [.s (ls (mkS (Lib.decDigits n.natAbs)))]]
theorem Sc_sNumLa (n : Int) (h : (-9223372036854775808 : Int) ≤ n ∧ n ≤ 9223372036854775807) : Lp.Sem Tryd.prog (loopAt Tryd.f68 0) (lc_sNumLa n) := lpOK (fun k => .i (k.fst ≠ 0)
 (.p ((10 : Int) ≠ 0) (.i (k.fst.tmod (10 : Int) < 0) (.r (0 - k.fst.tmod 10) (.r (48 + (0 - k.fst.tmod 10)) (.p (rng IntKind.u8 (48 + (0 - k.fst.tmod 10))) (.w (.bytes
 [UInt8.ofNat (48 + (0 - k.fst.tmod 10)).toNat]) (.p ([[Cell.lit (Value.int IntKind.u8 (48 + (0 - k.fst.tmod 10)))]] = [[Cell.lit (Value.int IntKind.u8 (↑(UInt8.ofNat (48 + (0 -
 k.fst.tmod 10)).toNat).toNat : Int))]]) (.p (1 + k.snd.length ≤ 9223372036854775807) (.p ((10 : Int) ≠ 0) (.r (k.fst.tdiv 10) (.g [] (k.fst.tdiv 10, [UInt8.ofNat (48 + (0 -
 k.fst.tmod 10)).toNat] ++ k.snd) [.s (li (k.fst.tdiv 10)), .s (ls (ByteArray.mk ([UInt8.ofNat (48 + (0 - k.fst.tmod 10)).toNat] ++ k.snd).toArray))]))))))))) (.r (48 + k.fst.tmod
 10) (.p (rng IntKind.u8 (48 + k.fst.tmod 10)) (.w (.bytes [UInt8.ofNat (48 + k.fst.tmod 10).toNat]) (.p ([[Cell.lit (Value.int IntKind.u8 (48 + k.fst.tmod 10))]] = [[Cell.lit
 (Value.int IntKind.u8 (↑(UInt8.ofNat (48 + k.fst.tmod 10).toNat).toNat : Int))]]) (.p (1 + k.snd.length ≤ 9223372036854775807) (.p ((10 : Int) ≠ 0) (.r (k.fst.tdiv 10) (.g []
 (k.fst.tdiv 10, [UInt8.ofNat (48 + k.fst.tmod 10).toNat] ++ k.snd) [.s (li (k.fst.tdiv 10)), .s (ls (ByteArray.mk ([UInt8.ofNat (48 + k.fst.tmod 10).toNat] ++
 k.snd).toArray))])))))))))) (.o 0 [] [.s (ls (mkS k.snd))])) (by
  intro k h; try dsimp only [teasy, nthW, lc_sNumLa] at h ⊢
  obtain ⟨x, o⟩ := k
  simp only at *
  have g1 := @dgs_step x.natAbs
  have g2 : (x.tdiv 10).natAbs = x.natAbs / 10 := Int.natAbs_tdiv _ _
  have g3 : (x.tmod 10).natAbs = x.natAbs % 10 := Int.natAbs_tmod _ _
  have g4 := congrArg List.length h.2.1
  have g5 := dec_ge (n := n) (by assumption)
  with_reducible repeat' (first | apply And.intro | exact zR | (intro; skip))
  all_goals (try simp only [std, inj] at *)
  all_goals with_reducible repeat' apply And.intro
  all_goals (try (first | exact zw | grind [dgs_zero, snocI, snocS, rowSnoc]))
  all_goals first | (rw [rng_u8]; omega) | (rw [u8_back (by omega)]))
theorem c_sNum (n : Int) (h : -9223372036854775808 ≤ n ∧ n ≤ 9223372036854775807)  : P_c_sNum n := fnOK Tryd.call68 Tryd.func68 (.i (n = 0) (.s (ls (ByteArray.mk #[(48 : UInt8)])))
 (.l (lc_sNumLa n) (Sc_sNumLa n h) [] [.s (li n), .s (ls (ByteArray.mk #[]))] (n, []) (.t (.i (n < 0) (.p (1 + (Lib.decDigits n.natAbs).length ≤ 9223372036854775807) (.s (ls
 (ByteArray.mk ([(45 : UInt8)] ++ Lib.decDigits n.natAbs).toArray)))) (.s (ls (mkS (Lib.decDigits n.natAbs))))) .q))) (by
  dsimp only [teasy, P_c_sNum, nthW, lc_sNumLa]
  have g1 := @itoa_pos n
  have g2 := @itoa_neg n
  have g3 := itoa_zero
  have g4 := dec_ge h
  with_reducible repeat' (first | apply And.intro | exact zR | (intro; skip))
  all_goals (try simp only [std, inj] at *)
  all_goals with_reducible repeat' apply And.intro
  all_goals (try (first | exact zw | grind [dgs_ne, snocI, snocS, rowSnoc])))
end Go.Proofs.YtpflccjienojfaaDoor
end
section
namespace Go.Proofs.YtpflccjienojfaaDoor
open Go Go.Shelf Go.RowKit Go.Proofs.YtpflccjienojfaaDoor.Ab
set_option linter.unusedVariables false
def itoRen : Go.Shelf.Ren := ⟨fun | 171 => 120 | 243 => 135 | 246 => 144 | 283 => 151 | 284 => 152 | 285 => 153 | 286 => 154 | 129 => 161 | 317 => 160 | 318 => 162 | 319 => 163 | 320 => 164 | 337 => 168 | 338 => 169 | n => n, fun | 3 => 3 | 9 => 9 | 2 => 2 | 4 => 4 | 171 => 154 | 0 => 0 | 53 => 155 | 37 => 54 | 5 => 5 | 173 => 158 | 212 => 168 | 51 => 169 | 20 => 20 | 213 => 170 | 46 => 151 | 232 => 185 | 233 => 186 | n => n, fun | 17 => 0 | 18 => 3 | 19 => 4 | n => n⟩
theorem itoLays : Go.Proofs.LaysM.n171 Tryd.prog itoRen := {
  mixed := by kernel_rfl
  f129 := Tryd.func161.trans (congrArg some (by kernel_rfl))
  f171 := Tryd.func120.trans (congrArg some (by kernel_rfl))
  f243 := Tryd.func135.trans (congrArg some (by kernel_rfl))
  f246 := Tryd.func144.trans (congrArg some (by kernel_rfl))
  f283 := Tryd.func151.trans (congrArg some (by kernel_rfl))
  f284 := Tryd.func152.trans (congrArg some (by kernel_rfl))
  f285 := Tryd.func153.trans (congrArg some (by kernel_rfl))
  f286 := Tryd.func154.trans (congrArg some (by kernel_rfl))
  f317 := Tryd.func160.trans (congrArg some (by kernel_rfl))
  f318 := Tryd.func162.trans (congrArg some (by kernel_rfl))
  f319 := Tryd.func163.trans (congrArg some (by kernel_rfl))
  f320 := Tryd.func164.trans (congrArg some (by kernel_rfl))
  f337 := Tryd.func168.trans (congrArg some (by kernel_rfl))
  f338 := Tryd.func169.trans (congrArg some (by kernel_rfl))
  t0 := Tryd.underlying0
  a0 := Tryd.isAgg0
  z0 := Tryd.sizeOf0
  v0 := Tryd.zeroValue0
  t2 := Tryd.underlying2
  a2 := Tryd.isAgg2
  z2 := Tryd.sizeOf2
  v2 := Tryd.zeroValue2
  t3 := Tryd.underlying3
  a3 := Tryd.isAgg3
  z3 := Tryd.sizeOf3
  v3 := Tryd.zeroValue3
  t4 := Tryd.underlying4
  a4 := Tryd.isAgg4
  z4 := Tryd.sizeOf4
  v4 := Tryd.zeroValue4
  t5 := Tryd.underlying5
  a5 := Tryd.isAgg5
  z5 := Tryd.sizeOf5
  v5 := Tryd.zeroValue5
  t9 := Tryd.underlying9
  a9 := Tryd.isAgg9
  z9 := Tryd.sizeOf9
  v9 := Tryd.zeroValue9
  t20 := Tryd.underlying20
  a20 := Tryd.isAgg20
  z20 := Tryd.sizeOf20
  v20 := Tryd.zeroValue20
  t37 := Tryd.underlying54
  a37 := Tryd.isAgg54
  z37 := Tryd.sizeOf54
  v37 := Tryd.zeroValue54
  t46 := Tryd.underlying151
  a46 := Tryd.isAgg151
  z46 := Tryd.sizeOf151
  v46 := Tryd.zeroValue151
  t51 := Tryd.underlying169
  a51 := Tryd.isAgg169
  z51 := Tryd.sizeOf169
  v51 := Tryd.zeroValue169
  t53 := Tryd.underlying155
  a53 := Tryd.isAgg155
  z53 := Tryd.sizeOf155
  v53 := Tryd.zeroValue155
  t171 := Tryd.underlying154
  a171 := Tryd.isAgg154
  z171 := Tryd.sizeOf154
  v171 := Tryd.zeroValue154
  t173 := Tryd.underlying158
  a173 := Tryd.isAgg158
  z173 := Tryd.sizeOf158
  v173 := Tryd.zeroValue158
  t212 := Tryd.underlying168
  a212 := Tryd.isAgg168
  z212 := Tryd.sizeOf168
  v212 := Tryd.zeroValue168
  t213 := Tryd.underlying170
  a213 := Tryd.isAgg170
  z213 := Tryd.sizeOf170
  t232 := Tryd.underlying185
  a232 := Tryd.isAgg185
  z232 := Tryd.sizeOf185
  v232 := Tryd.zeroValue185
  t233 := Tryd.underlying186
  a233 := Tryd.isAgg186
  z233 := Tryd.sizeOf186
  v233 := Tryd.zeroValue186
  g17 := by kernel_rfl
  g18 := by kernel_rfl
  g19 := by kernel_rfl
  i0 := by kernel_rfl
  i2 := by kernel_rfl
  i3 := by kernel_rfl
  i4 := by kernel_rfl
  i5 := by kernel_rfl
  i9 := by kernel_rfl
  i20 := by kernel_rfl
  i37 := by kernel_rfl
  i46 := by kernel_rfl
  i51 := by kernel_rfl
  i53 := by kernel_rfl
  i171 := by kernel_rfl
  i173 := by kernel_rfl
  i212 := by kernel_rfl
  i232 := by kernel_rfl
  i233 := by kernel_rfl
  m17 := by kernel_rfl
  m18 := by kernel_rfl
  m19 := by kernel_rfl }
theorem post_below {w w' : Go.World} {ι : Interp} {args : List SV} {vals : Array Value} {v : Value} {res : AV} (hp : PreRel w ι [] args vals) (hb : Below w.heap.size w w') (hv : AVRel w' ι (obOf []) res v) : PostRel w ι [] [] res w' v ι :=
  { ext := fun j => trivial
    obj := fun j => hp.obj j
    disj := hp.disj
    gfp := hp.gfp
    lt := fun i b h => absurd h (hp.obj i b)
    glt := fun b h => Nat.lt_of_lt_of_le (hp.glt b h) hb.size
    gg := fun _ h => h
    gown := fun _ h => .inl h
    own := fun j b h => absurd h (hp.obj j b)
    frame := fun b h _ => hb.block b h
    size := hb.size
    os := hb.os
    out := hb.output
    val := hv }
theorem kn_tab {w : Go.World} {ι : Interp} (hk : Kn Tryd.prog w ι) : Lib.TabIs Tryd.prog w pow10N .u64 Lib.pow10Tab := by
  cases hg : Tryd.prog.globalNamed pow10N with
  | none => have : (Tryd.prog.globalNamed pow10N).isSome = true := by kernel_rfl
            rw [hg] at this; cases this
  | some g => obtain ⟨_, _, cs, hv, rfl⟩ := hk.1 g hg; exact hv
abbrev P_c_itoa (n : Int) : Ct := ⟨120, [], [li n], [], .sv (ls (mkS (Lib.itoa n)))⟩
theorem c_itoa (n : Int) (h : -9223372036854775808 ≤ n ∧ n ≤ 9223372036854775807) : OK (P_c_itoa n) := by
  refine ⟨Tryd.call120, fun w ι vals hp hk => ?_⟩
  have harg := hp.arg
  rcases vals with ⟨l⟩
  match l, harg with
  | [v0], ⟨h0, _⟩ =>
    obtain ⟨rfl, _⟩ := h0.1.lit_inv
    refine (Any.strconv_Itoa itoLays n h.1 h.2 w (Eq.subst (motive := fun s => Lib.TabIs Tryd.prog w s .u64 Lib.pow10Tab) (by kernel_rfl) (kn_tab hk))).mono fun e w' hh => ?_
    obtain ⟨rfl, k, os, rfl⟩ := hh
    refine ⟨_, ι, rfl, post_below hp ⟨rfl, rfl, rfl, ?_, fun j hj => ?_⟩ ⟨.lit ?_, fun _ => rfl⟩⟩
    · show w.heap.size ≤ (w.heap ++ os).size
      rw [Array.size_append]; omega
    · show (w.heap ++ os)[j]? = w.heap[j]?
      exact Array.getElem?_append_left hj
    · show (Lib.itoa n).toArray.size ≤ maxLen
      rw [List.size_toArray]; have := itoa_len h; unfold maxLen; omega
end Go.Proofs.YtpflccjienojfaaDoor
end
section
namespace Go.Proofs.YtpflccjienojfaaDoor
open Go Go.Proofs.YtpflccjienojfaaDoor.Ab
set_option linter.unusedVariables false
set_option linter.unusedSimpArgs false
set_option maxHeartbeats 4000000
instance memDec (s : ByteArray) (L : List ByteArray) : Decidable (s ∈ L) := @List.instDecidableMemOfLawfulBEq ByteArray instBEqOfDecidableEq _ s L
def symD (s : ByteArray) : Datum := ⟨1, 0, s, []⟩
def lstD (L : List Datum) : Datum := ⟨0, 0, mkS [], L⟩
abbrev lstR (i : Nat) : SV := .agg [vI 0, vI 0, vS (mkS []), .ref i]
theorem isSym_le {s : ByteArray} : isSym s = true → (s.size : Int) ≤ 16 := by
  unfold isSym; simp only [Bool.and_eq_true, decide_eq_true_eq]; intro h; exact h.1.1.1.2
abbrev P_c_iSymbolOf (s : ByteArray) : Ct := ⟨74, [], [ls s], [], .sv (.agg [vI 1, vI 0, vS s, .val (.lit (.slice none 0 0))])⟩
theorem c_iSymbolOf (s : ByteArray)  : P_c_iSymbolOf s := fnOK Tryd.call74 Tryd.func74 (.s (SV.agg [vI 1, vI 0, vS s, AC.val (Cell.lit (Value.slice none 0 0))])) (by
  dsimp only [teasy, P_c_iSymbolOf]
  with_reducible repeat' (first | apply And.intro | exact zR | (intro; skip) | apply mIc | apply mOc | apply mSc | apply mLc)
  all_goals (try simp only [std, inj] at *)
  all_goals with_reducible repeat' apply And.intro
  all_goals (try (first | exact z | exact zM | grind [snocI, snocS, rowSnoc])))
abbrev P_c_iCopyData (L : List Datum) : Ct := ⟨67, [], [ll (L.map datumC)], [.arr true 4 (L.map datumC)], .sv (.one (.ref 0))⟩
abbrev P_c_iCopyDatum (x : Datum) : Ct := ⟨89, [], [datumA x], datumO x, .sv (datumR x 0)⟩
def lc_iCopyDataLa (L : List Datum) : Lp Nat := .mk 19 0 (fun x => [(3, SV.one (AC.ref 0)), (6, ll (List.map datumC L)), (7, li (↑(List.map datumC L).length : Int)), (8, hs x 0)])
 (fun x => [ho x 1]) (fun k => [.s (li (↑k : Int)), .o (Ob.arr true 4 (List.map datumC (List.take k L)))]) (fun k => k ≤ L.length ∧ L.length ≤ 9223372036854775807) (fun k =>
 L.length - k) [.mk True (.exit 0) (fun x => [(3, SV.one (AC.ref 0))]) (fun x => [ho x 0]) [.o (Ob.arr true 4 (List.map datumC L))]]
theorem Sc_iCopyDataLa (L : List Datum) (h : L.length + sumBy wD L ≤ 1048576) (ih : ∀ (x : Datum), x ∈ L → wD x ≤ 1048576 → OK (P_c_iCopyDatum x)) : Lp.Sem Tryd.prog (loopAt
 Tryd.f67 0) (lc_iCopyDataLa L) := lpOK (fun k => .i ((↑k : Int) < (↑(List.map datumC L).length : Int)) (.x (↑k : Int) (List.map datumC L) (datumF (L.getD k default)) (.d [.rd]
 (P_c_iCopyDatum (L.getD k default)) (.p (((List.map datumC (List.take k L)).length + 1) * 56 ≤ 140737488355328) (.r ((↑k : Int) + 1) (.g [4] (k + 1) [.s (li ((↑k : Int) + 1)), .o
 (Ob.arr true 4 (List.map datumC (List.take k L) ++ [datumF (L.getD k default)]))]))))) (.o 0 [0] [.o (Ob.arr true 4 (List.map datumC (List.take k L)))])) (by
  intro k h; try dsimp only [teasy, nthW, lc_iCopyDataLa] at h ⊢
  have g := @sumBy_mem _ wD L (L.getD k default)
  with_reducible repeat' (first | apply And.intro | exact zR | exact ih | (intro; skip) | apply mIc | apply mOc | apply mSc | apply mLc | apply ih)
  all_goals (try simp only [std, inj] at *)
  all_goals with_reducible repeat' apply And.intro
  all_goals (try (first | with_reducible apply ih | (simp only [← List.map_append]; first | with_reducible apply ih)))
  all_goals (try (first | exact z | exact zM | grind [take_get, getD_mem', snocI, snocS, rowSnoc, getD_mem'])))
theorem c_iCopyData (L : List Datum) (h : L.length + sumBy wD L ≤ 1048576) (ih : ∀ x ∈ L, ∀ (h : wD x ≤ 1048576), P_c_iCopyDatum x)  : P_c_iCopyData L := fnOK Tryd.call67 Tryd.func67
 (.z datumC L (.w (.ghost (.nilreg 3 true 4)) (.l (lc_iCopyDataLa L) (Sc_iCopyDataLa L h ih) [0] [.s (li 0), .o (Ob.arr true 4 [])] 0 (.t (.f [0] [Ob.arr true 4 (List.map datumC
 L)] (AV.sv (SV.one (AC.ref 0)))) .q)))) (by
  dsimp only [teasy, P_c_iCopyData, nthW, lc_iCopyDataLa]
  with_reducible repeat' (first | apply And.intro | exact zR | exact ih | (intro; skip) | apply mIc | apply mOc | apply mSc | apply mLc)
  all_goals (try simp only [std, inj] at *)
  all_goals with_reducible repeat' apply And.intro
  all_goals (try (first | with_reducible apply ih | (simp only [← List.map_append]; first | with_reducible apply ih)))
  all_goals (try (first | exact z | exact zM | grind [snocI, snocS, rowSnoc])))
theorem c_iCopyDatum_s (x : Datum) (h : wD x ≤ 1048576) (ih : ∀ z ∈ x.items, ∀ (h : wD z ≤ 1048576), P_c_iCopyDatum z)  : P_c_iCopyDatum x := fnOK Tryd.call89 Tryd.func89 (.d [.rd]
 (P_c_iCopyData x.items) (.f [2] [Ob.arr true 4 (List.map datumC x.items)] (AV.sv (SV.agg [vI x.kind, vI x.number, vS x.text, AC.ref 0])))) (by
  dsimp only [teasy, P_c_iCopyDatum]
  have g := wD_eq x
  with_reducible repeat' (first | apply And.intro | exact zR | exact ih | (intro; skip) | apply mIc | apply mOc | apply mSc | apply mLc | apply c_iCopyData | apply ih)
  all_goals (try simp only [std, inj] at *)
  all_goals with_reducible repeat' apply And.intro
  all_goals (try (first | with_reducible apply c_iCopyData | with_reducible apply ih | (simp only [← List.map_append]; first | with_reducible apply c_iCopyData | with_reducible apply ih)))
  all_goals (try (first | exact z | exact zM | grind [snocI, snocS, rowSnoc])))
theorem c_iCopyDatum (x : Datum) : ∀ (h : wD x ≤ 1048576), P_c_iCopyDatum x := Datum.ind (P := fun x => ∀ (h : wD x ≤ 1048576), P_c_iCopyDatum x) (fun x ih h => c_iCopyDatum_s x h ih) x
end Go.Proofs.YtpflccjienojfaaDoor
end
section
namespace Go.Proofs.YtpflccjienojfaaDoor
open Go Go.Proofs.YtpflccjienojfaaDoor.Ab
set_option linter.unusedVariables false
set_option linter.unusedSimpArgs false
set_option maxHeartbeats 4000000
abbrev P_c_iNum (n : Int) : Ct := ⟨88, [], [li n], [], .sv (ls (mkS (Lib.itoa n)))⟩
theorem c_iNum (n : Int) (h : -9223372036854775808 ≤ n ∧ n ≤ 9223372036854775807)  : P_c_iNum n := fnOK Tryd.call88 Tryd.func88 (.d [.rd] (P_c_itoa n) (.s (ls (mkS (Lib.itoa n)))))
 (by
  dsimp only [teasy, P_c_iNum]
  with_reducible repeat' (first | apply And.intro | exact zR | (intro; skip) | apply c_itoa)
  all_goals (try simp only [std, inj] at *)
  all_goals with_reducible repeat' apply And.intro
  all_goals (try (first | with_reducible apply c_itoa | (simp only [← List.map_append]; first | with_reducible apply c_itoa)))
  all_goals (try (first | exact z | grind [snocI, snocS, rowSnoc])))
mutual
def fmtD : Datum → List UInt8
  | ⟨k, n, t, l⟩ => if k = 1 then tx t else if k = 2 then Lib.itoa n else if k = 3 then (if n = 1 then [35, 116] else [35, 102]) else if k = 4 then [34] ++ (tx t ++ [34]) else [40] ++ (fmtDs l ++ [41])
def fmtDs : List Datum → List UInt8
  | [] => []
  | x :: r => fmtD x ++ fmtDr r
def fmtDr : List Datum → List UInt8
  | [] => []
  | x :: r => ([32] ++ fmtD x) ++ fmtDr r
end
def fmS (x : Datum) : ByteArray := mkS (fmtD x)
def fmJ (L : List Datum) : List UInt8 := jn [32] (L.map fmS)
theorem fmtDr_eq : ∀ l, fmtDr l = (l.map fmS).flatMap fun y => [32] ++ tx y
  | [] => by simp [fmtDr]
  | x :: r => by rw [fmtDr, fmtDr_eq r]; rfl
theorem fmtDs_eq : ∀ l, fmtDs l = fmJ l
  | [] => by simp [fmtDs, fmJ, jn]
  | x :: r => by rw [fmtDs, fmtDr_eq]; rfl
theorem fmtD_eq (d : Datum) : fmtD d = if d.kind = 1 then tx d.text else if d.kind = 2 then Lib.itoa d.number else if d.kind = 3 then (if d.number = 1 then [35, 116] else [35, 102]) else if d.kind = 4 then [34] ++ (tx d.text ++ [34]) else [40] ++ (fmJ d.items ++ [41]) := by
  cases d; simp only [fmtD, fmtDs_eq]
theorem fmJ_step {L : List Datum} {k : Nat} (h : k < L.length) : fmJ (L.take (k + 1)) = if k = 0 then fmtD (L.getD k default) else fmJ (L.take k) ++ ([32] ++ fmtD (L.getD k default)) := by
  rw [take_get h]; unfold fmJ
  rw [List.map_append, List.map_cons, List.map_nil, jn_snoc]
  cases k with
  | zero => simp [fmS]; rfl
  | succ k => rw [if_neg, if_neg (by omega)]; rfl; intro e; have := congrArg List.length e; rw [List.length_map, List.length_take, List.length_nil] at this; omega
theorem jn_le (L : List Datum) {m : Datum → Nat} (h : ∀ x ∈ L, (fmtD x).length + 1 ≤ m x) : (fmJ L).length ≤ sumBy m L := by
  have e : ∀ L : List Datum, (∀ x ∈ L, (fmtD x).length + 1 ≤ m x) → ((L.map fmS).flatMap fun y => [32] ++ tx y).length ≤ sumBy m L := by
    intro L
    induction L with
    | nil => intro _; simp [sumBy]
    | cons x r ih =>
      intro h
      have h1 := ih fun y hy => h y (List.mem_cons_of_mem _ hy)
      have h2 := h x List.mem_cons_self
      have h3 : (tx (fmS x)).length = (fmtD x).length := rfl
      simp only [List.map_cons, List.flatMap_cons, List.length_append, List.length_cons, List.length_nil, sumBy, h3]
      omega
  cases L with
  | nil => simp [fmJ, jn, sumBy]
  | cons x r =>
    have h1 := e r fun y hy => h y (List.mem_cons_of_mem _ hy)
    have h2 := h x List.mem_cons_self
    have h3 : (tx (fmS x)).length = (fmtD x).length := rfl
    simp only [fmJ, jn, List.map_cons, List.length_append, sumBy, h3]
    omega
theorem nod_txt {k n : Int} {t : ByteArray} {i : Int} (h : nodD k n t i = true) : t.size ≤ 20 := by
  have h3 := @isSym_le t
  have e : t.data.toList.length = t.size := rfl
  simp only [nodD, Bool.or_eq_true, decide_eq_true_eq] at h
  rcases h with (((h | h) | h) | h) | h
  · rw [h.2.2] at e; simp at e; omega
  · have := h3 h.2.2.1; omega
  · rw [h.2.2.2.1] at e; simp at e; omega
  · rw [h.2.2.2.1] at e; simp at e; omega
  · have h7 := h.2.2.1; simp only [isStr, Bool.and_eq_true, decide_eq_true_eq] at h7; omega
theorem sum_mul (w : Datum → Nat) (m : Nat) : ∀ L : List Datum, sumBy (fun x => m * w x) L = m * sumBy w L
  | [] => rfl
  | x :: r => by simp only [sumBy, sum_mul w m r, Nat.mul_add]
theorem len_size (L : List Datum) : L.length ≤ sumBy sizeD L := by
  induction L with
  | nil => simp
  | cons x r ih => have := sizeD_eq x; simp only [sumBy, List.length_cons]; omega
theorem fmtD_len : ∀ d : Datum, okD d = true → (fmtD d).length + 1 ≤ 30 * sizeD d := by
  refine Datum.ind fun d ih hd => ?_
  rw [okD_eq, Bool.and_eq_true, List.all_eq_true] at hd
  have h1 := jn_le d.items (m := fun x => 30 * sizeD x) fun x hx => ih x hx (hd.1 x hx)
  rw [sum_mul] at h1
  have h5 := nod_txt hd.2
  have h4 := hd.2
  have h6 : (tx d.text).length = d.text.size := rfl
  rw [fmtD_eq, sizeD_eq]
  simp only [nodD, Bool.or_eq_true, decide_eq_true_eq] at h4
  split
  · omega
  · split
    · have := itoa_len9 (n := d.number) (by omega); omega
    · split
      · split <;> simp <;> omega
      · split
        · simp only [List.length_append, List.length_cons, List.length_nil, h6]; omega
        · simp only [List.length_append, List.length_cons, List.length_nil]; omega
theorem sum_map_size (L : List ByteArray) : (L.map ByteArray.size).sum = sumBy ByteArray.size L := by
  induction L with
  | nil => rfl
  | cons x r ih => simp only [List.map_cons, List.sum_cons, sumBy, ih]
theorem jn_len' (b : List UInt8) (L : List ByteArray) : (jn b L).length ≤ sumBy ByteArray.size L + L.length * b.length := by rw [← sum_map_size]; exact jn_len b L
theorem sumBy_take_le' (L : List ByteArray) (k : Nat) : sumBy ByteArray.size (L.take k) ≤ sumBy ByteArray.size L := by
  have := sumBy_append ByteArray.size (L.take k) (L.drop k)
  rw [List.take_append_drop] at this; omega
theorem jn_take (b : List UInt8) (L : List ByteArray) (k : Nat) : (jn b (L.take k)).length ≤ sumBy ByteArray.size L + L.length * b.length := by
  have h1 := jn_len' b (L.take k)
  have h2 := sumBy_take_le' L k
  have h3 : (L.take k).length ≤ L.length := by rw [List.length_take]; exact Nat.min_le_right _ _
  have h4 := Nat.mul_le_mul_right b.length h3
  omega
theorem jn_step (b : List UInt8) {L : List ByteArray} {k : Nat} (h : k < L.length) : jn b (L.take (k + 1)) = if k = 0 then tx (L.getD k default) else jn b (L.take k) ++ (b ++ tx (L.getD k default)) := by
  rw [take_get h, jn_snoc]
  cases k with
  | zero => simp
  | succ k => rw [if_neg, if_neg (by omega)]; intro e; have := congrArg List.length e; rw [List.length_take, List.length_nil] at this; omega
abbrev P_c_l1Join (L : List ByteArray) (b : ByteArray) : Ct := ⟨69, [], [ll (L.map strC), ls b], [], .sv (ls (mkS (jn (tx b) L)))⟩
def lc_l1JoinLa (L : List ByteArray) (b : ByteArray) : Lp Nat := .mk 25 0 (fun x => [(1, ls b), (5, hs x 1), (8, ll (List.map strC L)), (9, li (↑(List.map strC L).length : Int)),
 (10, hs x 0)]) (fun x => []) (fun k => [.s (li (↑k : Int)), .s (ls (mkS (jn (tx b) (List.take k L))))]) (fun k => k ≤ L.length ∧ L.length ≤ 9223372036854775807) (fun k => L.length
 - k) [.mk True (.exit 0) (fun x => [(5, hs x 0)]) (fun x => []) [.s (ls (mkS (jn (tx b) L)))]]
theorem Sc_l1JoinLa (L : List ByteArray) (b : ByteArray) (h : sumBy ByteArray.size L + L.length * b.size ≤ 1099511627776) (hb : b.size ≤ 1099511627776) : Lp.Sem Tryd.prog (loopAt
 Tryd.f69 0) (lc_l1JoinLa L b) := lpOK (fun k => .i ((↑k : Int) < (↑(List.map strC L).length : Int)) (.x (↑k : Int) (List.map strC L) [cS (L.getD k default)] (.i (0 < (↑k : Int))
 (.p ((jn (tx b) (List.take k L)).length + b.data.toList.length ≤ 9223372036854775807) (.p ((jn (tx b) (List.take k L) ++ b.data.toList).length + (L.getD k
 default).data.toList.length ≤ 9223372036854775807) (.r ((↑k : Int) + 1) (.g [] (k + 1) [.s (li ((↑k : Int) + 1)), .s (ls (ByteArray.mk (jn (tx b) (List.take k L) ++ b.data.toList
 ++ (L.getD k default).data.toList).toArray))])))) (.p ((jn (tx b) (List.take k L)).length + (L.getD k default).data.toList.length ≤ 9223372036854775807) (.r ((↑k : Int) + 1) (.g
 [] (k + 1) [.s (li ((↑k : Int) + 1)), .s (ls (ByteArray.mk (jn (tx b) (List.take k L) ++ (L.getD k default).data.toList).toArray))]))))) (.o 0 [] [.s (ls (mkS (jn (tx b)
 (List.take k L))))])) (by
  intro k h; try dsimp only [teasy, nthW, lc_l1JoinLa] at h ⊢
  have h1 := jn_take (tx b) L k
  have h2 := @sumBy_mem _ ByteArray.size L (L.getD k default)
  rw [tx_len] at h1
  with_reducible repeat' (first | apply And.intro | exact zR | (intro; skip))
  all_goals (try simp only [std, inj] at *)
  all_goals with_reducible repeat' apply And.intro
  all_goals (try (first | exact z | grind [jn_step, getD_mem', jn, List.append_assoc, snocI, snocS, rowSnoc])))
theorem c_l1Join (L : List ByteArray) (b : ByteArray) (h : sumBy ByteArray.size L + L.length * b.size ≤ 1099511627776) (hb : b.size ≤ 1099511627776)  : P_c_l1Join L b := fnOK
 Tryd.call69 Tryd.func69 (.z strC L (.l (lc_l1JoinLa L b) (Sc_l1JoinLa L b h hb) [] [.s (li 0), .s (ls (ByteArray.mk #[]))] 0 (.t (.s (ls (mkS (jn (tx b) L)))) .q))) (by
  dsimp only [teasy, P_c_l1Join, nthW, lc_l1JoinLa]
  with_reducible repeat' (first | apply And.intro | exact zR | (intro; skip))
  all_goals (try simp only [std, inj] at *)
  all_goals with_reducible repeat' apply And.intro
  all_goals (try (first | exact z | grind [jn, snocI, snocS, rowSnoc])))
theorem fmS_size (L : List Datum) (h : L.all okD = true) : sumBy ByteArray.size (L.map fmS) ≤ 30 * sumBy sizeD L := by
  induction L with
  | nil => simp [sumBy]
  | cons x r ih =>
    rw [List.all_cons, Bool.and_eq_true] at h
    have h1 := ih h.2
    have h2 := fmtD_len x h.1
    have h3 : (fmS x).size = (fmtD x).length := rfl
    simp only [List.map_cons, sumBy, h3]; omega
abbrev P_c_sFmt (d : Datum) : Ct := ⟨30, [], [datumA d], [], .sv (ls (mkS (fmtD d)))⟩
def lc_sFmt_sLa (d : Datum) : Lp Nat := .mk 48 0 (fun x => [(3, SV.one (AC.ref 0)), (32, ll (List.map datumC d.items)), (33, li (↑(List.map datumC d.items).length : Int)), (34, hs
 x 0)]) (fun x => [ho x 1]) (fun k => [.s (li (↑k : Int)), .o (Ob.arr true 1 (List.map strC (List.map fmS (List.take k d.items))))]) (fun k => k ≤ d.items.length ∧ d.items.length ≤
 9223372036854775807 ∧ okD d = true ∧ sizeD d ≤ 1073741824) (fun k => d.items.length - k) [.mk True (.exit 1) (fun x => [(3, SV.one (AC.ref 0))]) (fun x => [ho x 0]) [.o (Ob.arr
 true 1 (List.map strC (List.map fmS d.items)))]]
theorem Sc_sFmt_sLa (d : Datum) (h : okD d = true ∧ sizeD d ≤ 1073741824) (ih : ∀ (z : Datum), z ∈ d.items → okD z = true ∧ sizeD z ≤ 1073741824 → OK (P_c_sFmt z)) : Lp.Sem
 Tryd.prog (loopAt Tryd.f30 0) (lc_sFmt_sLa d) := lpOK (fun k => .i ((↑k : Int) < (↑(List.map datumC d.items).length : Int)) (.x (↑k : Int) (List.map datumC d.items) (datumF
 (d.items.getD k default)) (.d [.rd] (P_c_sFmt (d.items.getD k default)) (.p (((List.map strC (List.map fmS (List.take k d.items))).length + 1) * 16 ≤ 140737488355328) (.r ((↑k :
 Int) + 1) (.g [3] (k + 1) [.s (li ((↑k : Int) + 1)), .o (Ob.arr true 1 (List.map strC (List.map fmS (List.take k d.items)) ++ [[cS (mkS (fmtD (d.items.getD k default)))]]))])))))
 (.o 0 [0] [.o (Ob.arr true 1 (List.map strC (List.map fmS (List.take k d.items))))])) (by
  intro k h; try dsimp only [teasy, nthW, lc_sFmt_sLa] at h ⊢
  have g1 := okD_eq d
  have g2 := sizeD_eq d
  have g3 := @sumBy_mem _ sizeD d.items (d.items.getD k default)
  have g4 := len_size d.items
  with_reducible repeat' (first | apply And.intro | exact zR | exact ih | (intro; skip) | apply c_sNum | apply c_l1Join | apply ih)
  all_goals (try simp only [std, inj] at *)
  all_goals with_reducible repeat' apply And.intro
  all_goals (try (first | with_reducible apply c_sNum | with_reducible apply c_l1Join | with_reducible apply ih | (simp only [← List.map_append]; first | with_reducible apply c_sNum | with_reducible apply c_l1Join | with_reducible apply ih)))
  all_goals (try (first | exact z | grind [take_get, fmS, getD_mem', snocI, snocS, rowSnoc, getD_mem'])))
theorem c_sFmt_s (d : Datum) (h : okD d = true ∧ sizeD d ≤ 1073741824) (ih : ∀ z ∈ d.items, ∀ (h : okD z = true ∧ sizeD z ≤ 1073741824), P_c_sFmt z)  : P_c_sFmt d := fnOK
 Tryd.call30 Tryd.func30 (.i (d.kind = 1) (.s (ls d.text)) (.i (d.kind = 2) (.d [.rd] (P_c_sNum d.number) (.s (ls (mkS (Lib.itoa d.number))))) (.i (d.kind = 3) (.p (0 ≤ d.number ∧
 d.number.toNat < 2) (.w (.cells (strC ([ByteArray.mk #[(35 : UInt8), (102 : UInt8)], ByteArray.mk #[(35 : UInt8), (116 : UInt8)]].getD d.number.toNat ByteArray.empty))) (.p ([[cS
 (ByteArray.mk #[(35 : UInt8), (102 : UInt8)])], [cS (ByteArray.mk #[(35 : UInt8), (116 : UInt8)])]][d.number.toNat]? = some [cS ([ByteArray.mk #[(35 : UInt8), (102 : UInt8)],
 ByteArray.mk #[(35 : UInt8), (116 : UInt8)]].getD d.number.toNat ByteArray.empty)]) (.s (ls ([ByteArray.mk #[(35 : UInt8), (102 : UInt8)], ByteArray.mk #[(35 : UInt8), (116 :
 UInt8)]].getD d.number.toNat ByteArray.empty)))))) (.i (d.kind = 4) (.p (1 + d.text.data.toList.length ≤ 9223372036854775807) (.p (([(34 : UInt8)] ++ d.text.data.toList).length +
 1 ≤ 9223372036854775807) (.s (ls (ByteArray.mk ([(34 : UInt8)] ++ d.text.data.toList ++ [(34 : UInt8)]).toArray))))) (.w (.bool false) (.z datumC d.items (.l (lc_sFmt_sLa d)
 (Sc_sFmt_sLa d h ih) [1] [.s (li 0), .o (Ob.arr true 1 [])] 0 (.t (.d [.rd, .rd] (P_c_l1Join (List.map fmS d.items) (ByteArray.mk #[(32 : UInt8)])) (.p (1 + (jn (tx (ByteArray.mk
 #[(32 : UInt8)])) (List.map fmS d.items)).length ≤ 9223372036854775807) (.p (([(40 : UInt8)] ++ jn (tx (ByteArray.mk #[(32 : UInt8)])) (List.map fmS d.items)).length + 1 ≤
 9223372036854775807) (.s (ls (ByteArray.mk ([(40 : UInt8)] ++ jn (tx (ByteArray.mk #[(32 : UInt8)])) (List.map fmS d.items) ++ [(41 : UInt8)]).toArray)))))) .q)))))))) (by
  dsimp only [teasy, P_c_sFmt, nthW, lc_sFmt_sLa]
  have g1 := okD_eq d
  have g2 := sizeD_eq d
  have g3 := fmS_size d.items
  have g4 := len_size d.items
  have g5 := fmtD_eq d
  have g6 := fmtD_len d
  have g7 := @nod_txt d.kind d.number d.text d.items.length
  have g8 := mkS_tx d.text
  with_reducible repeat' (first | apply And.intro | exact zR | exact ih | (intro; skip) | apply c_sNum | apply c_l1Join)
  all_goals (try simp only [std, inj] at *)
  all_goals with_reducible repeat' apply And.intro
  all_goals (try (first | with_reducible apply c_sNum | with_reducible apply c_l1Join | with_reducible apply ih | (simp only [← List.map_append]; first | with_reducible apply c_sNum | with_reducible apply c_l1Join | with_reducible apply ih)))
  all_goals (try (first | exact z | grind [nodD, fmJ, snocI, snocS, rowSnoc])))
theorem c_sFmt (d : Datum) : ∀ (h : okD d = true ∧ sizeD d ≤ 1073741824), P_c_sFmt d := Datum.ind (P := fun d => ∀ (h : okD d = true ∧ sizeD d ≤ 1073741824), P_c_sFmt d) (fun d ih h => c_sFmt_s d h ih) d
def fmO (L : List Datum) : List UInt8 := [40] ++ fmJ L
theorem fmO_nil : [[Cell.lit (.int .u8 40)]] = (fmO []).map byteC := rfl
theorem fmO_go {L : List Datum} {k : Nat} (h : k < L.length) (e : ¬ 0 < (k : Int)) : (fmO (L.take (k + 1))).map byteC = (fmO (L.take k)).map byteC ++ (fmtD (L.getD k default)).map byteC := by
  have : k = 0 := by omega
  subst this; unfold fmO; rw [fmJ_step h]; rfl
theorem fmO_on {L : List Datum} {k : Nat} (h : k < L.length) (e : 0 < (k : Int)) : (fmO (L.take (k + 1))).map byteC = (fmO (L.take k)).map byteC ++ ([[Cell.lit (.int .u8 32)]] ++ (fmtD (L.getD k default)).map byteC) := by
  unfold fmO; rw [fmJ_step h, if_neg (by omega), ← List.append_assoc, List.map_append, List.map_append]; rfl
theorem fmO_len {d : Datum} (k : Nat) (h : okD d = true) : (fmO (d.items.take k)).length ≤ 1 + 30 * sumBy sizeD (d.items.take k) := by
  rw [okD_eq, Bool.and_eq_true, List.all_eq_true] at h
  have h1 := jn_le (d.items.take k) (m := fun x => 30 * sizeD x) fun x hx => fmtD_len x (h.1 x (List.mem_of_mem_take hx))
  rw [sum_mul] at h1
  unfold fmO; simp only [List.length_append, List.length_cons, List.length_nil]; omega
theorem sum_two {w : Datum → Nat} {L : List Datum} {k : Nat} (h : k < L.length) : sumBy w (L.take k) + w (L.getD k default) ≤ sumBy w L := by
  have h1 := sumBy_step w h
  have h2 := sumBy_takeLe w L (k + 1)
  omega
theorem fmtD_list {d : Datum} (h1 : ¬ d.kind = 1) (h2 : ¬ d.kind = 2) (h3 : ¬ d.kind = 3) (h4 : ¬ d.kind = 4) : (fmtD d).map byteC = (fmO d.items).map byteC ++ [[Cell.lit (.int .u8 41)]] := by
  rw [fmtD_eq, if_neg h1, if_neg h2, if_neg h3, if_neg h4]; unfold fmO
  rw [← List.append_assoc, List.map_append]; rfl
theorem fmtD_1 {d : Datum} (h : d.kind = 1) : (fmtD d).map byteC = d.text.data.toList.map (fun b => [Cell.lit (.int .u8 b.toNat)]) := by rw [fmtD_eq, if_pos h]; rfl
theorem fmtD_2 {d : Datum} (h : d.kind = 2) : (fmtD d).map byteC = (Lib.itoa d.number).map (fun b => [Cell.lit (.int .u8 b.toNat)]) := by rw [fmtD_eq, if_neg (by omega), if_pos h]; rfl
theorem fmtD_t {d : Datum} (h : d.kind = 3) (h1 : d.number = 1) : (fmtD d).map byteC = [[Cell.lit (.int .u8 35)], [Cell.lit (.int .u8 116)]] := by rw [fmtD_eq, if_neg (by omega), if_neg (by omega), if_pos h, if_pos h1]; rfl
theorem fmtD_f {d : Datum} (h : d.kind = 3) (h1 : ¬ d.number = 1) : (fmtD d).map byteC = [[Cell.lit (.int .u8 35)], [Cell.lit (.int .u8 102)]] := by rw [fmtD_eq, if_neg (by omega), if_neg (by omega), if_pos h, if_neg h1]; rfl
theorem fmtD_4 {d : Datum} (h4 : d.kind = 4) : (fmtD d).map byteC = [[Cell.lit (.int .u8 34)]] ++ (d.text.data.toList.map (fun b => [Cell.lit (.int .u8 b.toNat)]) ++ [[Cell.lit (.int .u8 34)]]) := by
  rw [fmtD_eq, if_neg (by omega), if_neg (by omega), if_neg (by omega), if_pos h4]
  rw [List.map_append, List.map_append]; rfl
abbrev P_c_iWrite (R : List (List Cell)) (d : Datum) : Ct := ⟨48, [.arr true 1 R], [.one (.ref 0), datumA d], [.dead, .arr true 1 (R ++ (fmtD d).map byteC)], .sv (.one (.ref 1))⟩
def lc_iWrite_sLa (R : List (List Cell)) (d : Datum) : Lp Nat := .mk 66 1 (fun x => [(0, SV.one (AC.ref 1)), (47, ll (List.map datumC d.items)), (48, li (↑(List.map datumC
 d.items).length : Int)), (49, hs x 0)]) (fun x => [Ob.dead, ho x 1]) (fun k => [.s (li (↑k : Int)), .o (Ob.arr true 1 (R ++ List.map byteC (fmO (List.take k d.items))))]) (fun k
 => k ≤ d.items.length ∧ d.items.length ≤ 9223372036854775807 ∧ okD d = true ∧ sizeD d ≤ 1073741824 ∧ R.length + 30 * sizeD d ≤ 70368744177664) (fun k => d.items.length - k) [.mk
 True (.exit 1) (fun x => [(0, SV.one (AC.ref 1))]) (fun x => [Ob.dead, ho x 0]) [.o (Ob.arr true 1 (R ++ List.map byteC (fmO d.items)))]]
theorem Sc_iWrite_sLa (R : List (List Cell)) (d : Datum) (h : okD d = true ∧ sizeD d ≤ 1073741824 ∧ R.length + 30 * sizeD d ≤ 70368744177664) (ih : ∀ (z : Datum), z ∈ d.items → ∀
 (R : List (List Cell)), okD z = true ∧ sizeD z ≤ 1073741824 ∧ R.length + 30 * sizeD z ≤ 70368744177664 → OK (P_c_iWrite R z)) : Lp.Sem Tryd.prog (loopAt Tryd.f48 0) (lc_iWrite_sLa
 R d) := lpOK (fun k => .i ((↑k : Int) < (↑(List.map datumC d.items).length : Int)) (.x (↑k : Int) (List.map datumC d.items) (datumF (d.items.getD k default)) (.i (0 < (↑k : Int))
 (.p (((R ++ List.map byteC (fmO (List.take k d.items))).length + 1) * 1 ≤ 140737488355328) (.d [.own true 1, .rd] (P_c_iWrite (R ++ List.map byteC (fmO (List.take k d.items)) ++
 [[Cell.lit (Value.int IntKind.u8 32)]]) (d.items.getD k default)) (.r ((↑k : Int) + 1) (.g [0, 6] (k + 1) [.s (li ((↑k : Int) + 1)), .o (Ob.arr true 1 (R ++ List.map byteC (fmO
 (List.take k d.items)) ++ [[Cell.lit (Value.int IntKind.u8 32)]] ++ List.map byteC (fmtD (d.items.getD k default))))])))) (.d [.own true 1, .rd] (P_c_iWrite (R ++ List.map byteC
 (fmO (List.take k d.items))) (d.items.getD k default)) (.r ((↑k : Int) + 1) (.g [0, 4] (k + 1) [.s (li ((↑k : Int) + 1)), .o (Ob.arr true 1 (R ++ List.map byteC (fmO (List.take k
 d.items)) ++ List.map byteC (fmtD (d.items.getD k default))))]))))) (.o 0 [0, 1] [.o (Ob.arr true 1 (R ++ List.map byteC (fmO (List.take k d.items))))])) (by
  intro k h; try dsimp only [teasy, nthW, lc_iWrite_sLa] at h ⊢
  have g1 := okD_eq d
  have g2 := sizeD_eq d
  have g3 := @sum_two sizeD d.items k
  have g4 := @fmO_len d k
  have g5 := @fmO_go d.items k
  have g6 := @fmO_on d.items k
  with_reducible repeat' (first | apply And.intro | exact zR | exact ih | (intro; skip) | apply c_iNum | apply ih)
  all_goals (try simp only [std, inj] at *)
  all_goals with_reducible repeat' apply And.intro
  all_goals (try (first | with_reducible apply c_iNum | with_reducible apply ih | (simp only [← List.map_append]; first | with_reducible apply c_iNum | with_reducible apply ih)))
  all_goals (try (first | exact z | grind [getD_mem', snocI, snocS, rowSnoc])))
theorem c_iWrite_s (R : List (List Cell)) (d : Datum) (h : okD d = true ∧ sizeD d ≤ 1073741824 ∧ R.length + 30 * sizeD d ≤ 70368744177664) (ih : ∀ z ∈ d.items, ∀ (R : List (List
 Cell)) (h : okD z = true ∧ sizeD z ≤ 1073741824 ∧ R.length + 30 * sizeD z ≤ 70368744177664), P_c_iWrite R z)  : P_c_iWrite R d := fnOK Tryd.call48 Tryd.func48 (.i (d.kind = 1) (.p
 ((R.length + (List.map (fun b => [Cell.lit (Value.int IntKind.u8 (↑b.toNat : Int))]) d.text.data.toList).length) * 1 ≤ 140737488355328) (.f [2] [Ob.dead, Ob.arr true 1 (R ++
 List.map (fun b => [Cell.lit (Value.int IntKind.u8 (↑b.toNat : Int))]) d.text.data.toList)] (AV.sv (SV.one (AC.ref 1))))) (.i (d.kind = 2) (.d [.rd] (P_c_iNum d.number) (.p
 ((R.length + (List.map (fun b => [Cell.lit (Value.int IntKind.u8 (↑b.toNat : Int))]) (Lib.itoa d.number)).length) * 1 ≤ 140737488355328) (.f [2] [Ob.dead, Ob.arr true 1 (R ++
 List.map (fun b => [Cell.lit (Value.int IntKind.u8 (↑b.toNat : Int))]) (Lib.itoa d.number))] (AV.sv (SV.one (AC.ref 1)))))) (.i (d.kind = 3) (.i (d.number = 1) (.p ((R.length + 2)
 * 1 ≤ 140737488355328) (.f [2] [Ob.dead, Ob.arr true 1 (R ++ [[Cell.lit (Value.int IntKind.u8 35)], [Cell.lit (Value.int IntKind.u8 116)]])] (AV.sv (SV.one (AC.ref 1))))) (.p
 ((R.length + 2) * 1 ≤ 140737488355328) (.f [2] [Ob.dead, Ob.arr true 1 (R ++ [[Cell.lit (Value.int IntKind.u8 35)], [Cell.lit (Value.int IntKind.u8 102)]])] (AV.sv (SV.one (AC.ref
 1)))))) (.i (d.kind = 4) (.p ((R.length + 1) * 1 ≤ 140737488355328) (.p (((R ++ [[Cell.lit (Value.int IntKind.u8 34)]]).length + (List.map (fun b => [Cell.lit (Value.int
 IntKind.u8 (↑b.toNat : Int))]) d.text.data.toList).length) * 1 ≤ 140737488355328) (.p (((R ++ [[Cell.lit (Value.int IntKind.u8 34)]] ++ List.map (fun b => [Cell.lit (Value.int
 IntKind.u8 (↑b.toNat : Int))]) d.text.data.toList).length + 1) * 1 ≤ 140737488355328) (.f [6] [Ob.dead, Ob.arr true 1 (R ++ [[Cell.lit (Value.int IntKind.u8 34)]] ++ List.map (fun
 b => [Cell.lit (Value.int IntKind.u8 (↑b.toNat : Int))]) d.text.data.toList ++ [[Cell.lit (Value.int IntKind.u8 34)]])] (AV.sv (SV.one (AC.ref 1))))))) (.p ((R.length + 1) * 1 ≤
 140737488355328) (.z datumC d.items (.l (lc_iWrite_sLa R d) (Sc_iWrite_sLa R d h ih) [0, 3] [.s (li 0), .o (Ob.arr true 1 (R ++ [[Cell.lit (Value.int IntKind.u8 40)]]))] 0 (.t (.p
 (((R ++ List.map byteC (fmO d.items)).length + 1) * 1 ≤ 140737488355328) (.f [3] [Ob.dead, Ob.arr true 1 (R ++ List.map byteC (fmO d.items) ++ [[Cell.lit (Value.int IntKind.u8
 41)]])] (AV.sv (SV.one (AC.ref 1))))) .q)))))))) (by
  dsimp only [teasy, P_c_iWrite, nthW, lc_iWrite_sLa]
  have g1 := okD_eq d
  have g2 := sizeD_eq d
  have g3 := @fmO_len d d.items.length
  have g4 := fmO_nil
  have g5 := @fmtD_1 d
  have g6 := fmtD_len d
  have g7 := @nod_txt d.kind d.number d.text d.items.length
  have g8 := @fmtD_list d
  have g9 := @fmtD_4 d
  have g10 := @fmtD_2 d
  have g11 := @fmtD_t d
  have g12 := @fmtD_f d
  have g13 := itoa_len9 (n := d.number)
  with_reducible repeat' (first | apply And.intro | exact zR | exact ih | (intro; skip) | apply c_iNum)
  all_goals (try simp only [std, inj] at *)
  all_goals with_reducible repeat' apply And.intro
  all_goals (try (first | with_reducible apply c_iNum | with_reducible apply ih | (simp only [← List.map_append]; first | with_reducible apply c_iNum | with_reducible apply ih)))
  all_goals (try (first | exact z | grind [nodD, snocI, snocS, rowSnoc])))
theorem c_iWrite (d : Datum) : ∀ (R : List (List Cell)) (h : okD d = true ∧ sizeD d ≤ 1073741824 ∧ R.length + 30 * sizeD d ≤ 70368744177664), P_c_iWrite R d := Datum.ind (P := fun d => ∀ (R : List (List Cell)) (h : okD d = true ∧ sizeD d ≤ 1073741824 ∧ R.length + 30 * sizeD d ≤ 70368744177664), P_c_iWrite R d) (fun d ih R h => c_iWrite_s R d h ih) d
end Go.Proofs.YtpflccjienojfaaDoor
end
section
namespace Go.Proofs.YtpflccjienojfaaDoor
open Go Go.Proofs.YtpflccjienojfaaDoor.Ab
set_option linter.unusedVariables false
set_option linter.unusedSimpArgs false
set_option maxHeartbeats 4000000
def addU (L : List Int) (n : Int) : List Int := if n ∈ L then L else L ++ [n]
def memI (S : List Int) (n : Int) : Int := if n ∈ S then 1 else 0
def cntI (b : List Int) (n : Int) : Int := (b.count n : Int)
theorem memI_nil : zI = memI [] := by funext m; simp [zI, memI]
theorem memI_snoc {S : List Int} {n : Int} : upd1 (memI S) n 1 = memI (S ++ [n]) := by
  funext m; simp only [upd1, memI, List.mem_append, List.mem_singleton]; grind
theorem cntI_inc {b : List Int} {n : Int} : upd1 (cntI b) n (cntI b n + 1) = cntI (b ++ [n]) := by
  funext m; simp only [upd1, cntI, List.count_append, List.count_singleton]; grind
theorem cntI_dec {b p : List Int} {n : Int} : upd1 (cntI (b ++ n :: p)) n (cntI (b ++ n :: p) n - 1) = cntI (b ++ p) := by
  funext m; simp only [upd1, cntI, List.count_append, List.count_cons]; grind
theorem cntI_zero {b : List Int} {n : Int} : cntI b n = 0 ↔ n ∉ b := by
  simp only [cntI]; rw [← List.count_eq_zero]; omega
theorem cntI_le {b : List Int} {n : Int} : 0 ≤ cntI b n ∧ cntI b n ≤ b.length := by
  have := List.count_le_length (a := n) (l := b)
  simp only [cntI]; omega
theorem memI_zero {b : List Int} {n : Int} : memI b n = 0 ↔ n ∉ b := by
  simp only [memI]; grind
theorem addU_len (L : List Int) (n : Int) : (addU L n).length ≤ L.length + 1 := by
  unfold addU; split <;> simp
mutual
def fre : Core → List Int → List Int → List Int
  | ⟨k, n, p, _, l⟩, b, o => fres l (b ++ p) (if (k = 2 ∨ k = 4) ∧ n ∉ b then addU o n else o)
def fres : List Core → List Int → List Int → List Int
  | [], _, o => o
  | x :: r, b, o => fres r b (fre x b o)
end
theorem fres_eq : ∀ (l : List Core) (b o : List Int), fres l b o = l.foldl (fun o x => fre x b o) o
  | [], _, _ => by rw [fres]; rfl
  | x :: r, b, o => by rw [fres, fres_eq r]; rfl
def fre0 (c : Core) (b o : List Int) : List Int := if (c.kind = 2 ∨ c.kind = 4) ∧ c.number ∉ b then addU o c.number else o
theorem fre_eq (c : Core) (b o : List Int) : fre c b o = c.kids.foldl (fun o x => fre x (b ++ c.params) o) (fre0 c b o) := by cases c; simp only [fre, fres_eq, fre0]
theorem fre_len : ∀ c b o, (fre c b o).length ≤ o.length + 1 + wC c := by
  refine Core.ind fun c ih b o => ?_
  rw [fre_eq, wC_eq]
  have h : ∀ (L : List Core), (∀ y ∈ L, ∀ b o, (fre y b o).length ≤ o.length + 1 + wC y) → ∀ o, (L.foldl (fun o x => fre x (b ++ c.params) o) o).length ≤ o.length + L.length + sumBy wC L := by
    intro L
    induction L with
    | nil => intro _ o; simp [sumBy]
    | cons x r ihr =>
      intro hL o
      have h1 := hL x List.mem_cons_self (b ++ c.params) o
      have h2 := ihr (fun y hy => hL y (List.mem_cons_of_mem _ hy)) (fre x (b ++ c.params) o)
      simp only [List.foldl_cons, sumBy, List.length_cons]; omega
  have h1 := h c.kids ih (fre0 c b o)
  have h2 : (fre0 c b o).length ≤ o.length + 1 := by
    unfold fre0; split
    · exact addU_len _ _
    · omega
  omega
theorem fre0_len (c : Core) (b o : List Int) : (fre0 c b o).length ≤ o.length + 1 := by
  unfold fre0; split
  · exact addU_len _ _
  · omega
abbrev P_c_addNum (S : List Int) (n : Int) : Ct := ⟨134, [.box [.ref 1, .mref 2], .arr true 1 (S.map intC), .map (decide (S = [])) kI (mI (memI S))], [.one (.ptr 0 0), li n], [.box [.ref 3, .mref 4], .dead, .dead, .arr true 1 ((addU S n).map intC), .map (decide (addU S n = [])) kI (mI (memI (addU S n)))], .tup []⟩
theorem c_addNum (S : List Int) (n : Int) (h : S.length < 2147483647)  : P_c_addNum S n := fnOK Tryd.call134 Tryd.func134 (.i (S = []) (.w (.mkmap kI) (.w (.cells [cI (zI n)]) (.p
 (LookAt (Value.int IntKind.i64 0) (mI zI) (Value.int IntKind.i64 n) (cI 0)) (.y true (.w (.upd (mI (upd1 zI n 1))) (.p (false = false) (.p (UpdF kI.d (mI zI) (mI (upd1 zI n 1))
 (Value.int IntKind.i64 n) (some (cI 1))) (.p (((List.map intC S).length + 1) * 8 ≤ 140737488355328) (.w (.ghost (.move 2)) (.f [5, 3] [Ob.box [AC.ref 3, AC.mref 4], Ob.dead,
 Ob.dead, Ob.arr true 1 (List.map intC S ++ [[cI n]]), Ob.map false kI (mI (upd1 zI n 1))] (AV.tup []))))))))))) (.w (.cells [cI (memI S n)]) (.p (LookAt (Value.int IntKind.i64 0)
 (mI (memI S)) (Value.int IntKind.i64 n) (cI (memI S n))) (.i (memI S n = 0) (.w (.upd (mI (upd1 (memI S) n 1))) (.p (decide (S = []) = false) (.p (UpdF kI.d (mI (memI S)) (mI
 (upd1 (memI S) n 1)) (Value.int IntKind.i64 n) (some (cI 1))) (.p (((List.map intC S).length + 1) * 8 ≤ 140737488355328) (.w (.ghost (.move 2)) (.f [4, 5] [Ob.box [AC.ref 3,
 AC.mref 4], Ob.dead, Ob.dead, Ob.arr true 1 (List.map intC S ++ [[cI n]]), Ob.map (decide (S = [])) kI (mI (upd1 (memI S) n 1))] (AV.tup []))))))) (.w (.ghost (.move 1)) (.w
 (.ghost (.move 2)) (.f [3, 4] [Ob.box [AC.ref 3, AC.mref 4], Ob.dead, Ob.dead, Ob.arr true 1 (List.map intC S), Ob.map (decide (S = [])) kI (mI (memI S))] (AV.tup [])))))))) (by
  dsimp only [teasy, P_c_addNum]
  with_reducible repeat' (first | apply And.intro | exact zR | (intro; skip) | apply mIc | apply mOc | apply mSc | apply mLc)
  all_goals (try simp only [std, inj] at *)
  all_goals with_reducible repeat' apply And.intro
  all_goals (try (first | exact z | exact zM | grind [addU, memI_zero, memI_snoc, memI_nil, List.append_eq_nil_iff, snocI, snocS, rowSnoc])))
abbrev P_c_freeIn (c : Core) (b : List Int) (S : List Int) : Ct := ⟨118, [.map false kI (mI (cntI b)), .box [.ref 2, .mref 3], .arr true 1 (S.map intC), .map (decide (S = [])) kI (mI (memI S))], [coreA c, .one (.mref 0), .one (.ptr 1 0)], [.map false kI (mI (cntI b)), .box [.ref 4, .mref 5], .dead, .dead, .arr true 1 ((fre c b S).map intC), .map (decide (fre c b S = [])) kI (mI (memI (fre c b S)))], .tup []⟩
def lc_freeIn_sLc (c : Core) (b : List Int) (S : List Int) : Lp Nat := .mk 67 4 (fun x => [(1, SV.one (AC.mref 0)), (56, ll (List.map intC c.params)), (57, li (↑(List.map intC
 c.params).length : Int)), (58, hs x 0)]) (fun x => [ho x 1, Ob.box [AC.ref 4, AC.mref 5], Ob.dead, Ob.dead, Ob.arr true 1 (List.map intC (fre c b S)), Ob.map (decide (fre c b S =
 [])) kI (mI (memI (fre c b S)))]) (fun k => [.s (li (↑k : Int)), .o (Ob.map false kI (mI (cntI (b ++ List.drop k c.params))))]) (fun k => k ≤ c.params.length ∧ c.params.length ≤
 9223372036854775807) (fun k => c.params.length - k) [.mk True (.exit 4) (fun x => []) (fun x => [ho x 0, Ob.box [AC.ref 4, AC.mref 5], Ob.dead, Ob.dead, Ob.arr true 1 (List.map
 intC (fre c b S)), Ob.map (decide (fre c b S = [])) kI (mI (memI (fre c b S)))]) [.o (Ob.map false kI (mI (cntI b)))]]
def lc_freeIn_sLb (c : Core) (b : List Int) (S : List Int) : Lp Nat := .mk 67 4 (fun x => [(1, SV.one (AC.mref 0)), (2, SV.one (AC.ptr 1 0)), (3, SV.one (AC.ptr 4 0)), (44, ll
 (List.map coreC c.kids)), (45, li (↑(List.map coreC c.kids).length : Int)), (46, hs x 0)]) (fun x => [Ob.map false kI (mI (cntI (b ++ c.params))), Ob.box [AC.ref 5, AC.mref 6],
 Ob.dead, Ob.dead, Ob.box (vals (coreF c)), ho x 1, ho x 2]) (fun k => [.s (li (↑k : Int)), .o (Ob.arr true 1 (List.map intC (List.foldl (fun o x => fre x (b ++ c.params) o) (fre0
 c b S) (List.take k c.kids)))), .o (Ob.map (decide (List.foldl (fun o x => fre x (b ++ c.params) o) (fre0 c b S) (List.take k c.kids) = [])) kI (mI (memI (List.foldl (fun o x =>
 fre x (b ++ c.params) o) (fre0 c b S) (List.take k c.kids)))))]) (fun k => k ≤ c.kids.length ∧ c.kids.length ≤ 9223372036854775807) (fun k => c.kids.length - k) [.mk True (.exit
 2) (fun x => [(1, SV.one (AC.mref 0)), (3, SV.one (AC.ptr 4 0))]) (fun x => [Ob.map false kI (mI (cntI (b ++ c.params))), Ob.box [AC.ref 5, AC.mref 6], Ob.dead, Ob.dead, Ob.box
 (vals (coreF c)), ho x 0, ho x 1]) [.o (Ob.arr true 1 (List.map intC (fre c b S))), .o (Ob.map (decide (fre c b S = [])) kI (mI (memI (fre c b S))))]]
def lc_freeIn_sLa (c : Core) (b : List Int) (S : List Int) : Lp Nat := .mk 67 4 (fun x => [(1, SV.one (AC.mref 0)), (2, SV.one (AC.ptr 1 0)), (3, SV.one (AC.ptr 4 0)), (32, ll
 (List.map intC c.params)), (33, li (↑(List.map intC c.params).length : Int)), (34, hs x 0)]) (fun x => [ho x 1, Ob.box [AC.ref 5, AC.mref 6], Ob.dead, Ob.dead, Ob.box (vals (coreF
 c)), ho x 2, ho x 3]) (fun k => [.s (li (↑k : Int)), .o (Ob.map false kI (mI (cntI (b ++ List.take k c.params)))), .o (Ob.arr true 1 (List.map intC (fre0 c b S))), .o (Ob.map
 (decide (fre0 c b S = [])) kI (mI (memI (fre0 c b S))))]) (fun k => k ≤ c.params.length ∧ c.params.length ≤ 9223372036854775807) (fun k => c.params.length - k) [.mk True (.exit 0)
 (fun x => [(1, SV.one (AC.mref 0)), (2, SV.one (AC.ptr 1 0)), (3, SV.one (AC.ptr 4 0))]) (fun x => [ho x 0, Ob.box [AC.ref 5, AC.mref 6], Ob.dead, Ob.dead, Ob.box (vals (coreF
 c)), ho x 1, ho x 2]) [.o (Ob.map false kI (mI (cntI (b ++ c.params)))), .o (Ob.arr true 1 (List.map intC (fre0 c b S))), .o (Ob.map (decide (fre0 c b S = [])) kI (mI (memI (fre0
 c b S))))]]
theorem Sc_freeIn_sLc (c : Core) (b : List Int) (S : List Int) (h : b.length + S.length + wC c + 1 ≤ 2147483647) (ih : ∀ (z : Core), z ∈ c.kids → ∀ (b S : List Int), b.length +
 S.length + wC z + 1 ≤ 2147483647 → OK (P_c_freeIn z b S)) : Lp.Sem Tryd.prog (loopAt Tryd.f118 2) (lc_freeIn_sLc c b S) := lpOK (fun k => .i ((↑k : Int) < (↑(List.map intC
 c.params).length : Int)) (.x (↑k : Int) (List.map intC c.params) [cI (c.params.getD k 0)] (.w (.cells [cI (cntI (b ++ List.drop k c.params) (c.params.getD k 0))]) (.p (LookAt
 (Value.int IntKind.i64 0) (mI (cntI (b ++ List.drop k c.params))) (Value.int IntKind.i64 (c.params.getD k 0)) (cI (cntI (b ++ List.drop k c.params) (c.params.getD k 0)))) (.r
 (cntI (b ++ List.drop k c.params) (c.params.getD k 0) - 1) (.w (.upd (mI (upd1 (cntI (b ++ List.drop k c.params)) (c.params.getD k 0) (cntI (b ++ List.drop k c.params)
 (c.params.getD k 0) - 1)))) (.p (false = false) (.p (UpdF kI.d (mI (cntI (b ++ List.drop k c.params))) (mI (upd1 (cntI (b ++ List.drop k c.params)) (c.params.getD k 0) (cntI (b ++
 List.drop k c.params) (c.params.getD k 0) - 1))) (Value.int IntKind.i64 (c.params.getD k 0)) (some (cI (cntI (b ++ List.drop k c.params) (c.params.getD k 0) - 1)))) (.r ((↑k :
 Int) + 1) (.g [0, 1, 2, 3, 4, 5] (k + 1) [.s (li ((↑k : Int) + 1)), .o (Ob.map false kI (mI (upd1 (cntI (b ++ List.drop k c.params)) (c.params.getD k 0) (cntI (b ++ List.drop k
 c.params) (c.params.getD k 0) - 1))))]))))))))) (.o 0 [0, 1, 2, 3, 4, 5] [.o (Ob.map false kI (mI (cntI (b ++ List.drop k c.params))))])) (by
  intro k h; try dsimp only [teasy, nthW, lc_freeIn_sLc] at h ⊢
  have g := fun L n => (cntI_le (b := L) (n := n)).2
  have g' := fun L n => (cntI_le (b := L) (n := n)).1
  have g4 := wC_eq c
  have b1 := g (b ++ c.params.drop k) (c.params.getD k 0)
  have b2 := g' (b ++ c.params.drop k) (c.params.getD k 0)
  have b3 : (b ++ c.params.drop k).length ≤ b.length + c.params.length := by rw [List.length_append, List.length_drop]; omega
  have b4 : -9223372036854775808 ≤ cntI (b ++ c.params.drop k) (c.params.getD k 0) - 1 := by omega
  have b5 : cntI (b ++ c.params.drop k) (c.params.getD k 0) - 1 ≤ 9223372036854775807 := by omega
  with_reducible repeat' (first | apply And.intro | exact zR | exact ih | (intro; skip) | apply mIc | apply mOc | apply mSc | apply mLc | apply c_addNum)
  all_goals (try simp only [std, inj] at *)
  all_goals with_reducible repeat' apply And.intro
  all_goals (try (first | with_reducible apply c_addNum | with_reducible apply ih | (simp only [← List.map_append]; first | with_reducible apply c_addNum | with_reducible apply ih)))
  all_goals (try (first | exact z | exact zM | grind [cntI_dec, drop_get, snocI, snocS, rowSnoc])))
theorem Sc_freeIn_sLb (c : Core) (b : List Int) (S : List Int) (h : b.length + S.length + wC c + 1 ≤ 2147483647) (ih : ∀ (z : Core), z ∈ c.kids → ∀ (b S : List Int), b.length +
 S.length + wC z + 1 ≤ 2147483647 → OK (P_c_freeIn z b S)) : Lp.Sem Tryd.prog (loopAt Tryd.f118 1) (lc_freeIn_sLb c b S) := lpOK (fun k => .i ((↑k : Int) < (↑(List.map coreC
 c.kids).length : Int)) (.x (↑k : Int) (List.map coreC c.kids) (coreF (c.kids.getD k default)) (.d [.rd, .map, .ptr] (P_c_freeIn (c.kids.getD k default) (b ++ c.params) (List.foldl
 (fun o x => fre x (b ++ c.params) o) (fre0 c b S) (List.take k c.kids))) (.r ((↑k : Int) + 1) (.g [0, 1, 2, 3, 4, 12, 13] (k + 1) [.s (li ((↑k : Int) + 1)), .o (Ob.arr true 1
 (List.map intC (fre (c.kids.getD k default) (b ++ c.params) (List.foldl (fun o x => fre x (b ++ c.params) o) (fre0 c b S) (List.take k c.kids))))), .o (Ob.map (decide (fre
 (c.kids.getD k default) (b ++ c.params) (List.foldl (fun o x => fre x (b ++ c.params) o) (fre0 c b S) (List.take k c.kids)) = [])) kI (mI (memI (fre (c.kids.getD k default) (b ++
 c.params) (List.foldl (fun o x => fre x (b ++ c.params) o) (fre0 c b S) (List.take k c.kids))))))])))) (.o 0 [0, 1, 2, 3, 4, 5, 6] [.o (Ob.arr true 1 (List.map intC (List.foldl
 (fun o x => fre x (b ++ c.params) o) (fre0 c b S) (List.take k c.kids)))), .o (Ob.map (decide (List.foldl (fun o x => fre x (b ++ c.params) o) (fre0 c b S) (List.take k c.kids) =
 [])) kI (mI (memI (List.foldl (fun o x => fre x (b ++ c.params) o) (fre0 c b S) (List.take k c.kids)))))])) (by
  intro k h; try dsimp only [teasy, nthW, lc_freeIn_sLb] at h ⊢
  have g1 := foldl_len (fun o x => fre x (b ++ c.params) o) wC (c.kids.take k) (fun y _ o => fre_len y _ o) (fre0 c b S)
  have g2 := fre0_len c b S
  have g3 := sumBy_takeLe wC c.kids (k + 1)
  have g4 := wC_eq c
  with_reducible repeat' (first | apply And.intro | exact zR | exact ih | (intro; skip) | apply mIc | apply mOc | apply mSc | apply mLc | apply c_addNum | apply ih)
  all_goals (try simp only [std, inj] at *)
  all_goals with_reducible repeat' apply And.intro
  all_goals (try (first | with_reducible apply c_addNum | with_reducible apply ih | (simp only [← List.map_append]; first | with_reducible apply c_addNum | with_reducible apply ih)))
  all_goals (try (first | exact z | exact zM | grind [fre_eq, foldl_step, getD_mem', sumBy_step, snocI, snocS, rowSnoc])))
theorem Sc_freeIn_sLa (c : Core) (b : List Int) (S : List Int) (h : b.length + S.length + wC c + 1 ≤ 2147483647) (ih : ∀ (z : Core), z ∈ c.kids → ∀ (b S : List Int), b.length +
 S.length + wC z + 1 ≤ 2147483647 → OK (P_c_freeIn z b S)) : Lp.Sem Tryd.prog (loopAt Tryd.f118 0) (lc_freeIn_sLa c b S) := lpOK (fun k => .i ((↑k : Int) < (↑(List.map intC
 c.params).length : Int)) (.x (↑k : Int) (List.map intC c.params) [cI (c.params.getD k 0)] (.w (.cells [cI (cntI (b ++ List.take k c.params) (c.params.getD k 0))]) (.p (LookAt
 (Value.int IntKind.i64 0) (mI (cntI (b ++ List.take k c.params))) (Value.int IntKind.i64 (c.params.getD k 0)) (cI (cntI (b ++ List.take k c.params) (c.params.getD k 0)))) (.r
 (cntI (b ++ List.take k c.params) (c.params.getD k 0) + 1) (.w (.upd (mI (upd1 (cntI (b ++ List.take k c.params)) (c.params.getD k 0) (cntI (b ++ List.take k c.params)
 (c.params.getD k 0) + 1)))) (.p (false = false) (.p (UpdF kI.d (mI (cntI (b ++ List.take k c.params))) (mI (upd1 (cntI (b ++ List.take k c.params)) (c.params.getD k 0) (cntI (b ++
 List.take k c.params) (c.params.getD k 0) + 1))) (Value.int IntKind.i64 (c.params.getD k 0)) (some (cI (cntI (b ++ List.take k c.params) (c.params.getD k 0) + 1)))) (.r ((↑k :
 Int) + 1) (.g [0, 1, 2, 3, 4, 5, 6] (k + 1) [.s (li ((↑k : Int) + 1)), .o (Ob.map false kI (mI (upd1 (cntI (b ++ List.take k c.params)) (c.params.getD k 0) (cntI (b ++ List.take k
 c.params) (c.params.getD k 0) + 1)))), .o (Ob.arr true 1 (List.map intC (fre0 c b S))), .o (Ob.map (decide (fre0 c b S = [])) kI (mI (memI (fre0 c b S))))]))))))))) (.o 0 [0, 1,
 2, 3, 4, 5, 6] [.o (Ob.map false kI (mI (cntI (b ++ List.take k c.params)))), .o (Ob.arr true 1 (List.map intC (fre0 c b S))), .o (Ob.map (decide (fre0 c b S = [])) kI (mI (memI
 (fre0 c b S))))])) (by
  intro k h; try dsimp only [teasy, nthW, lc_freeIn_sLa] at h ⊢
  have g := fun L n => (cntI_le (b := L) (n := n)).2
  have g' := fun L n => (cntI_le (b := L) (n := n)).1
  have g4 := wC_eq c
  have b1 := g (b ++ c.params.take k) (c.params.getD k 0)
  have b2 := g' (b ++ c.params.take k) (c.params.getD k 0)
  have b3 : (b ++ c.params.take k).length ≤ b.length + c.params.length := by rw [List.length_append, List.length_take]; omega
  have b4 : -9223372036854775808 ≤ cntI (b ++ c.params.take k) (c.params.getD k 0) + 1 := by omega
  have b5 : cntI (b ++ c.params.take k) (c.params.getD k 0) + 1 ≤ 9223372036854775807 := by omega
  with_reducible repeat' (first | apply And.intro | exact zR | exact ih | (intro; skip) | apply mIc | apply mOc | apply mSc | apply mLc | apply c_addNum)
  all_goals (try simp only [std, inj] at *)
  all_goals with_reducible repeat' apply And.intro
  all_goals (try (first | with_reducible apply c_addNum | with_reducible apply ih | (simp only [← List.map_append]; first | with_reducible apply c_addNum | with_reducible apply ih)))
  all_goals (try (first | exact z | exact zM | grind [cntI_inc, take_get, snocI, snocS, rowSnoc])))
theorem c_freeIn_s (c : Core) (b S : List Int) (h : b.length + S.length + wC c + 1 ≤ 2147483647) (ih : ∀ z ∈ c.kids, ∀ (b : List Int) (S : List Int) (h : b.length + S.length + wC z
 + 1 ≤ 2147483647), P_c_freeIn z b S)  : P_c_freeIn c b S := fnOK Tryd.call118 Tryd.func118 (let v1 := [Ob.map false kI (mI (cntI b)), Ob.box [AC.ref 4, AC.mref 5], Ob.dead, Ob.dead,
 Ob.arr true 1 (List.map intC (fre c b S)), Ob.map (decide (fre c b S = [])) kI (mI (memI (fre c b S)))]; let v2 := [0, 1, 2, 3, 4, 5, 6]; let v3 := [0, 1, 2, 3, 5, 6]; let v4 :=
 (Ob.map (decide (fre0 c b S = [])) kI (mI (memI (fre0 c b S)))); let v5 := (Ob.arr true 1 (List.map intC (fre0 c b S))); let v6 := (Ob.map false kI (mI (cntI (b ++ c.params))));
 let v7 := (Ob.map false kI (mI (cntI b))); let v8 := (LookAt (Value.int IntKind.i64 0) (mI (cntI b)) (Value.int IntKind.i64 c.number) (cI (cntI b c.number))); let v9 :=
 (Sc_freeIn_sLc c b S h ih); let v10 := (Sc_freeIn_sLb c b S h ih); let v11 := (Sc_freeIn_sLa c b S h ih); let v12 := (Ob.map (decide (S = [])) kI (mI (memI S))); let v13 :=
 (Ob.arr true 1 (List.map intC S)); .i (c.kind = 2) (.y true (.w (.cells [cI (cntI b c.number)]) (.p v8 (.i (cntI b c.number = 0) (.d [.ptr, .rd] (P_c_addNum S c.number) (.z intC
 c.params (.l (lc_freeIn_sLa c b S) v11 [0, 1, 2, 3, 4, 8, 9] [.s (li 0), .o v7, .o (Ob.arr true 1 (List.map intC (addU S c.number))), .o (Ob.map (decide (addU S c.number = [])) kI
 (mI (memI (addU S c.number))))] 0 (.t (.z coreC c.kids (.l (lc_freeIn_sLb c b S) v10 v2 [.s (li 0), .o v5, .o v4] 0 (.t (.z intC c.params (.l (lc_freeIn_sLc c b S) v9 v3 [.s (li
 0), .o v6] 0 (.t (.f [4, 5] v1 (AV.tup [])) .q))) .q))) .q)))) (.z intC c.params (.w (.ghost (.move 2)) (.w (.ghost (.move 3)) (.l (lc_freeIn_sLa c b S) v11 v2 [.s (li 0), .o v7,
 .o v13, .o v12] 0 (.t (.z coreC c.kids (.l (lc_freeIn_sLb c b S) v10 v2 [.s (li 0), .o v5, .o v4] 0 (.t (.z intC c.params (.l (lc_freeIn_sLc c b S) v9 v3 [.s (li 0), .o v6] 0 (.t
 (.f [4, 5] v1 (AV.tup [])) .q))) .q))) .q))))))))) (.i (c.kind = 4) (.w (.cells [cI (cntI b c.number)]) (.p v8 (.i (cntI b c.number = 0) (.d [.ptr, .rd] (P_c_addNum S c.number)
 (.z intC c.params (.l (lc_freeIn_sLa c b S) v11 [0, 1, 2, 3, 4, 8, 9] [.s (li 0), .o v7, .o (Ob.arr true 1 (List.map intC (addU S c.number))), .o (Ob.map (decide (addU S c.number
 = [])) kI (mI (memI (addU S c.number))))] 0 (.t (.z coreC c.kids (.l (lc_freeIn_sLb c b S) v10 v2 [.s (li 0), .o v5, .o v4] 0 (.t (.z intC c.params (.l (lc_freeIn_sLc c b S) v9 v3
 [.s (li 0), .o v6] 0 (.t (.f [4, 5] v1 (AV.tup [])) .q))) .q))) .q)))) (.z intC c.params (.w (.ghost (.move 2)) (.w (.ghost (.move 3)) (.l (lc_freeIn_sLa c b S) v11 v2 [.s (li 0),
 .o v7, .o v13, .o v12] 0 (.t (.z coreC c.kids (.l (lc_freeIn_sLb c b S) v10 v2 [.s (li 0), .o v5, .o v4] 0 (.t (.z intC c.params (.l (lc_freeIn_sLc c b S) v9 v3 [.s (li 0), .o v6]
 0 (.t (.f [4, 5] v1 (AV.tup [])) .q))) .q))) .q)))))))) (.y false (.z intC c.params (.w (.ghost (.move 2)) (.w (.ghost (.move 3)) (.l (lc_freeIn_sLa c b S) v11 v2 [.s (li 0), .o
 v7, .o v13, .o v12] 0 (.t (.z coreC c.kids (.l (lc_freeIn_sLb c b S) v10 v2 [.s (li 0), .o v5, .o v4] 0 (.t (.z intC c.params (.l (lc_freeIn_sLc c b S) v9 v3 [.s (li 0), .o v6] 0
 (.t (.f [4, 5] v1 (AV.tup [])) .q))) .q))) .q)))))))) (by
  dsimp only [teasy, P_c_freeIn, nthW, lc_freeIn_sLa, lc_freeIn_sLb, lc_freeIn_sLc]
  with_reducible repeat' (first | apply And.intro | exact zR | exact ih | (intro; skip) | apply mIc | apply mOc | apply mSc | apply mLc | apply c_addNum)
  all_goals (try simp only [std, inj] at *)
  all_goals with_reducible repeat' apply And.intro
  all_goals (try (first | with_reducible apply c_addNum | with_reducible apply ih | (simp only [← List.map_append]; first | with_reducible apply c_addNum | with_reducible apply ih)))
  all_goals (try (first | exact z | exact zM | grind [cntI_zero, fre0, snocI, snocS, rowSnoc])))
theorem c_freeIn (c : Core) : ∀ (b : List Int) (S : List Int) (h : b.length + S.length + wC c + 1 ≤ 2147483647), P_c_freeIn c b S := Core.ind (P := fun c => ∀ (b : List Int) (S : List Int) (h : b.length + S.length + wC c + 1 ≤ 2147483647), P_c_freeIn c b S) (fun c ih b S h => c_freeIn_s c b S h ih) c
abbrev P_c_sHas (L : List Int) (n : Int) : Ct := ⟨115, [], [ll (L.map intC), li n], [], .sv (lb (decide (n ∈ L)))⟩
def lc_sHasLa (L : List Int) (n : Int) : Lp Nat := .mk 17 0 (fun x => [(1, li n), (7, ll (List.map intC L)), (8, li (↑(List.map intC L).length : Int)), (9, hs x 0)]) (fun x => [])
 (fun k => [.s (li (↑k : Int))]) (fun k => k ≤ L.length ∧ L.length ≤ 9223372036854775807 ∧ ¬n ∈ List.take k L) (fun k => L.length - k) [.mk (¬n ∈ L) (.exit 0) (fun x => []) (fun x
 => []) [], .mk (n ∈ L) .ret (fun x => [(4, hs x 0)]) (fun x => []) [.s (lb true)]]
theorem Sc_sHasLa (L : List Int) (n : Int) : Lp.Sem Tryd.prog (loopAt Tryd.f115 0) (lc_sHasLa L n) := lpOK (fun k => .i ((↑k : Int) < (↑(List.map intC L).length : Int)) (.x (↑k :
 Int) (List.map intC L) [cI (L.getD k 0)] (.i (L.getD k 0 = n) (.o 1 [] [.s (lb true)]) (.r ((↑k : Int) + 1) (.g [] (k + 1) [.s (li ((↑k : Int) + 1))])))) (.o 0 [] [])) (by
  intro k h; try dsimp only [teasy, nthW, lc_sHasLa] at h ⊢
  with_reducible repeat' (first | apply And.intro | exact zR | (intro; skip) | apply mIc | apply mOc | apply mSc | apply mLc)
  all_goals (try simp only [std, inj] at *)
  all_goals with_reducible repeat' apply And.intro
  all_goals (try (first | exact z | exact zM | grind [take_get, getD_mem', snocI, snocS, rowSnoc])))
theorem c_sHas (L : List Int) (n : Int)  : P_c_sHas L n := fnOK Tryd.call115 Tryd.func115 (.z intC L (.l (lc_sHasLa L n) (Sc_sHasLa L n) [] [.s (li 0)] 0 (.t (.s (lb false)) (.t (.s
 (lb true)) .q)))) (by
  dsimp only [teasy, P_c_sHas, nthW, lc_sHasLa]
  with_reducible repeat' (first | apply And.intro | exact zR | (intro; skip) | apply mIc | apply mOc | apply mSc | apply mLc)
  all_goals (try simp only [std, inj] at *)
  all_goals with_reducible repeat' apply And.intro
  all_goals (try (first | exact z | exact zM | grind [snocI, snocS, rowSnoc])))
abbrev P_c_l2Ints (L : List Int) : Ct := ⟨113, [], [ll (L.map intC)], [.arr true 1 (L.map intC)], .sv (.one (.ref 0))⟩
theorem c_l2Ints (L : List Int) (h : L.length ≤ 2147483647)  : P_c_l2Ints L := fnOK Tryd.call113 Tryd.func113 (.w (.bool false) (.p (∀ (e : List Cell), e ∈ List.map intC L → ∀ (c :
 Cell), c ∈ e → ∃ v, c = Cell.lit v) (.p (∀ (e : List Cell), e ∈ List.map intC L → e.length = 1) (.p ((0 + (List.map intC L).length) * 8 ≤ 140737488355328) (.f [1] [Ob.arr true 1
 (List.map intC L)] (AV.sv (SV.one (AC.ref 0)))))))) (by
  dsimp only [teasy, P_c_l2Ints]
  with_reducible repeat' (first | apply And.intro | exact zR | (intro; skip) | apply mIc | apply mOc | apply mSc | apply mLc)
  all_goals (try simp only [std, inj] at *)
  all_goals with_reducible repeat' apply And.intro
  all_goals (try (first | exact z | exact zM | grind [snocI, snocS, rowSnoc])))
abbrev P_c_l5Names (c : Core) : Ct := ⟨132, [], [coreA c], [], .sv (lb (decide (c.kind = 2 ∨ c.kind = 4)))⟩
theorem c_l5Names (c : Core)  : P_c_l5Names c := fnOK Tryd.call132 Tryd.func132 (.i (c.kind = 2) (.s (lb true)) (.s (lb (decide (c.kind = 4))))) (by
  dsimp only [teasy, P_c_l5Names]
  with_reducible repeat' (first | apply And.intro | exact zR | (intro; skip) | apply mIc | apply mOc | apply mSc | apply mLc)
  all_goals (try simp only [std, inj] at *)
  all_goals with_reducible repeat' apply And.intro
  all_goals (try (first | exact z | exact zM | grind [snocI, snocS, rowSnoc])))
abbrev P_c_l5Free (c : Core) (b : List Int) (S : List Int) : Ct := ⟨116, [.arr true 1 (S.map intC)], [coreA c, ll (b.map intC), .one (.ref 0)], [.dead, .arr true 1 ((fre c b S).map intC)], .sv (.one (.ref 1))⟩
def lc_l5Free_sLa (c : Core) (b : List Int) (S : List Int) : Lp Nat := .mk 48 1 (fun x => [(1, SV.one (AC.ref 1)), (2, SV.one (AC.ref 2)), (36, ll (List.map coreC c.kids)), (37, li
 (↑(List.map coreC c.kids).length : Int)), (38, hs x 0)]) (fun x => [Ob.dead, Ob.arr true 1 (List.map intC b ++ List.map intC c.params), ho x 1]) (fun k => [.s (li (↑k : Int)), .o
 (Ob.arr true 1 (List.map intC (List.foldl (fun o x => fre x (b ++ c.params) o) (fre0 c b S) (List.take k c.kids))))]) (fun k => k ≤ c.kids.length ∧ c.kids.length ≤
 9223372036854775807) (fun k => c.kids.length - k) [.mk True (.exit 0) (fun x => [(2, SV.one (AC.ref 1))]) (fun x => [Ob.dead, ho x 0]) [.o (Ob.arr true 1 (List.map intC (fre c b
 S)))]]
theorem Sc_l5Free_sLa (c : Core) (b : List Int) (S : List Int) (h : b.length + S.length + wC c + 1 ≤ 2147483647) (ih : ∀ (z : Core), z ∈ c.kids → ∀ (b S : List Int), b.length +
 S.length + wC z + 1 ≤ 2147483647 → OK (P_c_l5Free z b S)) : Lp.Sem Tryd.prog (loopAt Tryd.f116 0) (lc_l5Free_sLa c b S) := lpOK (fun k => .i ((↑k : Int) < (↑(List.map coreC
 c.kids).length : Int)) (.x (↑k : Int) (List.map coreC c.kids) (coreF (c.kids.getD k default)) (.u [.rd, .rd, .own true 1] (P_c_l5Free (c.kids.getD k default) (b ++ c.params)
 (List.foldl (fun o x => fre x (b ++ c.params) o) (fre0 c b S) (List.take k c.kids))) (.p (CallOK Tryd.prog 116 [Ob.arr true 1 (List.map intC (List.foldl (fun o x => fre x (b ++
 c.params) o) (fre0 c b S) (List.take k c.kids)))] [SV.agg (vals (coreF (c.kids.getD k default))), ll (List.map intC b ++ List.map intC c.params), SV.one (AC.ref 0)] [Ob.dead,
 Ob.arr true 1 (List.map intC (fre (c.kids.getD k default) (b ++ c.params) (List.foldl (fun o x => fre x (b ++ c.params) o) (fre0 c b S) (List.take k c.kids))))] (AV.sv (SV.one
 (AC.ref 1)))) (.r ((↑k : Int) + 1) (.g [0, 1, 5] (k + 1) [.s (li ((↑k : Int) + 1)), .o (Ob.arr true 1 (List.map intC (fre (c.kids.getD k default) (b ++ c.params) (List.foldl (fun
 o x => fre x (b ++ c.params) o) (fre0 c b S) (List.take k c.kids)))))]))))) (.o 0 [0, 2] [.o (Ob.arr true 1 (List.map intC (List.foldl (fun o x => fre x (b ++ c.params) o) (fre0 c
 b S) (List.take k c.kids))))])) (by
  intro k h; try dsimp only [teasy, nthW, lc_l5Free_sLa] at h ⊢
  have g1 := foldl_len (fun o x => fre x (b ++ c.params) o) wC (c.kids.take k) (fun y _ o => fre_len y _ o) (fre0 c b S)
  have g2 := fre0_len c b S
  have g3 := sumBy_takeLe wC c.kids (k + 1)
  have g4 := wC_eq c
  with_reducible repeat' (first | apply And.intro | exact zR | exact ih | (intro; skip) | apply mIc | apply mOc | apply mSc | apply mLc | apply c_sHas | apply c_l2Ints | apply c_l5Names | apply ih)
  all_goals (try simp only [std, inj] at *)
  all_goals with_reducible repeat' apply And.intro
  all_goals (try (first | with_reducible apply c_sHas | with_reducible apply c_l2Ints | with_reducible apply c_l5Names | with_reducible apply ih | (simp only [← List.map_append]; first | with_reducible apply c_sHas | with_reducible apply c_l2Ints | with_reducible apply c_l5Names | with_reducible apply ih)))
  all_goals (try (first | exact z | exact zM | grind [fre_eq, foldl_step, getD_mem', sumBy_step, snocI, snocS, rowSnoc])))
theorem c_l5Free_s (c : Core) (b S : List Int) (h : b.length + S.length + wC c + 1 ≤ 2147483647) (ih : ∀ z ∈ c.kids, ∀ (b : List Int) (S : List Int) (h : b.length + S.length + wC z
 + 1 ≤ 2147483647), P_c_l5Free z b S)  : P_c_l5Free c b S := fnOK Tryd.call116 Tryd.func116 (.c [.rd] (c_l5Names c) (.i (c.kind = 2 ∨ c.kind = 4) (.c [.rd, .rd] (c_sHas b c.number)
 (.b (!decide (c.number ∈ b)) (.c [.rd, .rd] (c_sHas S c.number) (.b (!decide (c.number ∈ S)) (.p (((List.map intC S).length + 1) * 8 ≤ 140737488355328) (.w (.draw [(4, [4])]) (.d
 [.rd] (P_c_l2Ints b) (.p (∀ (e : List Cell), e ∈ List.map intC c.params → ∀ (c : Cell), c ∈ e → ∃ v, c = Cell.lit v) (.p (∀ (e : List Cell), e ∈ List.map intC c.params → e.length
 = 1) (.p (((List.map intC b).length + (List.map intC c.params).length) * 8 ≤ 140737488355328) (.z coreC c.kids (.l (lc_l5Free_sLa c b S) (Sc_l5Free_sLa c b S h ih) [0, 12, 3] [.s
 (li 0), .o (Ob.arr true 1 (List.map intC S ++ [[cI c.number]]))] 0 (.t (.f [1] [Ob.dead, Ob.arr true 1 (List.map intC (fre c b S))] (AV.sv (SV.one (AC.ref 1)))) .q))))))))) (.w
 (.draw [(4, [2])]) (.d [.rd] (P_c_l2Ints b) (.p (∀ (e : List Cell), e ∈ List.map intC c.params → ∀ (c : Cell), c ∈ e → ∃ v, c = Cell.lit v) (.p (∀ (e : List Cell), e ∈ List.map
 intC c.params → e.length = 1) (.p (((List.map intC b).length + (List.map intC c.params).length) * 8 ≤ 140737488355328) (.z coreC c.kids (.w (.ghost (.move 0)) (.l (lc_l5Free_sLa c
 b S) (Sc_l5Free_sLa c b S h ih) [0, 10, 11] [.s (li 0), .o (Ob.arr true 1 (List.map intC S))] 0 (.t (.f [1] [Ob.dead, Ob.arr true 1 (List.map intC (fre c b S))] (AV.sv (SV.one
 (AC.ref 1)))) .q))))))))))) (.y false (.w (.draw [(4, [2])]) (.d [.rd] (P_c_l2Ints b) (.p (∀ (e : List Cell), e ∈ List.map intC c.params → ∀ (c : Cell), c ∈ e → ∃ v, c = Cell.lit
 v) (.p (∀ (e : List Cell), e ∈ List.map intC c.params → e.length = 1) (.p (((List.map intC b).length + (List.map intC c.params).length) * 8 ≤ 140737488355328) (.z coreC c.kids (.w
 (.ghost (.move 0)) (.l (lc_l5Free_sLa c b S) (Sc_l5Free_sLa c b S h ih) [0, 10, 11] [.s (li 0), .o (Ob.arr true 1 (List.map intC S))] 0 (.t (.f [1] [Ob.dead, Ob.arr true 1
 (List.map intC (fre c b S))] (AV.sv (SV.one (AC.ref 1)))) .q)))))))))))) (.y false (.y false (.w (.draw [(4, [2])]) (.d [.rd] (P_c_l2Ints b) (.p (∀ (e : List Cell), e ∈ List.map
 intC c.params → ∀ (c : Cell), c ∈ e → ∃ v, c = Cell.lit v) (.p (∀ (e : List Cell), e ∈ List.map intC c.params → e.length = 1) (.p (((List.map intC b).length + (List.map intC
 c.params).length) * 8 ≤ 140737488355328) (.z coreC c.kids (.w (.ghost (.move 0)) (.l (lc_l5Free_sLa c b S) (Sc_l5Free_sLa c b S h ih) [0, 10, 11] [.s (li 0), .o (Ob.arr true 1
 (List.map intC S))] 0 (.t (.f [1] [Ob.dead, Ob.arr true 1 (List.map intC (fre c b S))] (AV.sv (SV.one (AC.ref 1)))) .q))))))))))))) (by
  dsimp only [teasy, P_c_l5Free, nthW, lc_l5Free_sLa]
  have g4 := wC_eq c
  with_reducible repeat' (first | apply And.intro | exact zR | exact ih | (intro; skip) | apply mIc | apply mOc | apply mSc | apply mLc | apply c_l2Ints)
  all_goals (try simp only [std, inj] at *)
  all_goals with_reducible repeat' apply And.intro
  all_goals (try (first | with_reducible apply c_l2Ints | with_reducible apply ih | (simp only [← List.map_append]; first | with_reducible apply c_l2Ints | with_reducible apply ih)))
  all_goals (try (first | exact z | exact zM | grind [fre0, addU, snocI, snocS, rowSnoc])))
theorem c_l5Free (c : Core) : ∀ (b : List Int) (S : List Int) (h : b.length + S.length + wC c + 1 ≤ 2147483647), P_c_l5Free c b S := Core.ind (P := fun c => ∀ (b : List Int) (S : List Int) (h : b.length + S.length + wC c + 1 ≤ 2147483647), P_c_l5Free c b S) (fun c ih b S h => c_l5Free_s c b S h ih) c
abbrev P_c_sFree (c : Core) : Ct := ⟨78, [], [coreA c], [.arr true 1 ((fre c [] []).map intC)], .sv (.one (.ref 0))⟩
theorem c_sFree (c : Core) (h : wC c ≤ 2147483600)  : P_c_sFree c := fnOK Tryd.call78 Tryd.func78 (.w (.bool false) (.d [.rd, .rd, .own true 1] (P_c_l5Free c [] []) (.f [3] [Ob.arr
 true 1 (List.map intC (fre c [] []))] (AV.sv (SV.one (AC.ref 0)))))) (by
  dsimp only [teasy, P_c_sFree]
  with_reducible repeat' (first | apply And.intro | exact zR | (intro; skip) | apply mIc | apply mOc | apply mSc | apply mLc | apply c_l5Free)
  all_goals (try simp only [std, inj] at *)
  all_goals with_reducible repeat' apply And.intro
  all_goals (try (first | with_reducible apply c_l5Free | (simp only [← List.map_append]; first | with_reducible apply c_l5Free)))
  all_goals (try (first | exact z | exact zM | grind [snocI, snocS, rowSnoc])))
abbrev P_c_iFree (c : Core) : Ct := ⟨86, [], [coreA c], [.arr true 1 ((fre c [] []).map intC)], .sv (.one (.ref 0))⟩
theorem c_iFree (c : Core) (h : wC c ≤ 2147483600)  : P_c_iFree c := fnOK Tryd.call86 Tryd.func86 (.w (.mkmap kI) (.w (.ghost (.nilbox 1 0 true 1)) (.w (.ghost (.nilmbox 1 1 kI)) (.d
 [.rd, .map, .ptr] (P_c_freeIn c [] []) (.f [9] [Ob.arr true 1 (List.map intC (fre c [] []))] (AV.sv (SV.one (AC.ref 0)))))))) (by
  dsimp only [teasy, P_c_iFree]
  with_reducible repeat' (first | apply And.intro | exact zR | (intro; skip) | apply mIc | apply mOc | apply mSc | apply mLc | apply c_freeIn)
  all_goals (try simp only [std, inj] at *)
  all_goals with_reducible repeat' apply And.intro
  all_goals (try (first | with_reducible apply c_freeIn | (simp only [← List.map_append]; first | with_reducible apply c_freeIn)))
  all_goals (try (first | exact z | exact zM | grind [snocI, snocS, rowSnoc])))
end Go.Proofs.YtpflccjienojfaaDoor
end
section
namespace Go.Proofs.YtpflccjienojfaaDoor
open Go Go.Proofs.YtpflccjienojfaaDoor.Ab
set_option linter.unusedVariables false
set_option linter.unusedSimpArgs false
set_option maxHeartbeats 4000000
def primNames : List ByteArray := [mkS [43], mkS [45], mkS [42], mkS [61], mkS [60], mkS [99, 111, 110, 115], mkS [99, 97, 114], mkS [99, 100, 114], mkS [110, 117, 108, 108, 63], mkS [112, 97, 105, 114, 63], mkS [110, 117, 109, 98, 101, 114, 63], mkS [101, 113, 63], mkS [110, 111, 116], mkS [100, 105, 115, 112, 108, 97, 121]]
abbrev P_c_sPrimitiveNames  : Ct := ⟨81, [], [], [.arr true 1 (primNames.map strC)], .sv (.one (.ref 0))⟩
theorem c_sPrimitiveNames   : P_c_sPrimitiveNames := fnOK Tryd.call81 Tryd.func81 (.f [0] [Ob.arr true 1 [[cS (ByteArray.mk #[(43 : UInt8)])], [cS (ByteArray.mk #[(45 : UInt8)])],
 [cS (ByteArray.mk #[(42 : UInt8)])], [cS (ByteArray.mk #[(61 : UInt8)])], [cS (ByteArray.mk #[(60 : UInt8)])], [cS (ByteArray.mk #[(99 : UInt8), (111 : UInt8), (110 : UInt8), (115
 : UInt8)])], [cS (ByteArray.mk #[(99 : UInt8), (97 : UInt8), (114 : UInt8)])], [cS (ByteArray.mk #[(99 : UInt8), (100 : UInt8), (114 : UInt8)])], [cS (ByteArray.mk #[(110 :
 UInt8), (117 : UInt8), (108 : UInt8), (108 : UInt8), (63 : UInt8)])], [cS (ByteArray.mk #[(112 : UInt8), (97 : UInt8), (105 : UInt8), (114 : UInt8), (63 : UInt8)])], [cS
 (ByteArray.mk #[(110 : UInt8), (117 : UInt8), (109 : UInt8), (98 : UInt8), (101 : UInt8), (114 : UInt8), (63 : UInt8)])], [cS (ByteArray.mk #[(101 : UInt8), (113 : UInt8), (63 :
 UInt8)])], [cS (ByteArray.mk #[(110 : UInt8), (111 : UInt8), (116 : UInt8)])], [cS (ByteArray.mk #[(100 : UInt8), (105 : UInt8), (115 : UInt8), (112 : UInt8), (108 : UInt8), (97 :
 UInt8), (121 : UInt8)])]]] (AV.sv (SV.one (AC.ref 0)))) (by
  dsimp only [teasy, P_c_sPrimitiveNames]
  with_reducible repeat' (first | apply And.intro | exact zR | (intro; skip))
  all_goals (try simp only [std, inj] at *)
  all_goals with_reducible repeat' apply And.intro
  all_goals (try (first | exact z | grind [snocI, snocS, rowSnoc]))
  all_goals rfl)
abbrev P_c_iPrimitiveNames  : Ct := ⟨91, [], [], [.arr true 1 (primNames.map strC)], .sv (.one (.ref 0))⟩
theorem c_iPrimitiveNames   : P_c_iPrimitiveNames := fnOK Tryd.call91 Tryd.func91 (.f [0] [Ob.arr true 1 [[cS (ByteArray.mk #[(43 : UInt8)])], [cS (ByteArray.mk #[(45 : UInt8)])],
 [cS (ByteArray.mk #[(42 : UInt8)])], [cS (ByteArray.mk #[(61 : UInt8)])], [cS (ByteArray.mk #[(60 : UInt8)])], [cS (ByteArray.mk #[(99 : UInt8), (111 : UInt8), (110 : UInt8), (115
 : UInt8)])], [cS (ByteArray.mk #[(99 : UInt8), (97 : UInt8), (114 : UInt8)])], [cS (ByteArray.mk #[(99 : UInt8), (100 : UInt8), (114 : UInt8)])], [cS (ByteArray.mk #[(110 :
 UInt8), (117 : UInt8), (108 : UInt8), (108 : UInt8), (63 : UInt8)])], [cS (ByteArray.mk #[(112 : UInt8), (97 : UInt8), (105 : UInt8), (114 : UInt8), (63 : UInt8)])], [cS
 (ByteArray.mk #[(110 : UInt8), (117 : UInt8), (109 : UInt8), (98 : UInt8), (101 : UInt8), (114 : UInt8), (63 : UInt8)])], [cS (ByteArray.mk #[(101 : UInt8), (113 : UInt8), (63 :
 UInt8)])], [cS (ByteArray.mk #[(110 : UInt8), (111 : UInt8), (116 : UInt8)])], [cS (ByteArray.mk #[(100 : UInt8), (105 : UInt8), (115 : UInt8), (112 : UInt8), (108 : UInt8), (97 :
 UInt8), (121 : UInt8)])]]] (AV.sv (SV.one (AC.ref 0)))) (by
  dsimp only [teasy, P_c_iPrimitiveNames]
  with_reducible repeat' (first | apply And.intro | exact zR | (intro; skip))
  all_goals (try simp only [std, inj] at *)
  all_goals with_reducible repeat' apply And.intro
  all_goals (try (first | exact z | grind [snocI, snocS, rowSnoc]))
  all_goals rfl)
end Go.Proofs.YtpflccjienojfaaDoor
end
section
namespace Go.Proofs.YtpflccjienojfaaDoor
open Go Go.Proofs.YtpflccjienojfaaDoor.Ab
set_option linter.unusedVariables false
set_option linter.unusedSimpArgs false
set_option maxHeartbeats 4000000
def lintC (l : List Int) : List Cell := [.list (l.map intC)]
def lintF (l : List Int) : List Cell := [.list (l.map intC)]
instance : Row (List Int) lintC lintF 1 := ⟨fun _ => rfl, fun _ => rfl⟩
theorem takeI {L : List Int} {k : Nat} (h : k < L.length) : L.take (k + 1) = L.take k ++ [L.getD k 0] := take_get h
theorem takeLs {L : List (List Int)} {k : Nat} (h : k < L.length) : (L.take (k + 1)).flatten = (L.take k).flatten ++ L.getD k [] := by
  rw [take_get h, List.flatten_append]; simp; rfl
theorem okU_flat {L : List (List Int)} {k : Nat} (h : okU L.flatten = true) : okU (L.take k).flatten = true := by
  rw [← List.take_append_drop k L, List.flatten_append] at h; exact okU_left h
theorem okU_part {L : List (List Int)} {k j : Nat} (hk : k < L.length) (h : okU L.flatten = true) : okU ((L.take k).flatten ++ (L.getD k []).take j) = true := by
  have h1 := okU_flat (k := k + 1) h
  rw [takeLs hk] at h1
  have h2 : (L.take k).flatten ++ L.getD k [] = ((L.take k).flatten ++ (L.getD k []).take j) ++ (L.getD k []).drop j := by rw [List.append_assoc, List.take_append_drop]
  rw [h2] at h1; exact okU_left h1
theorem memI_one {S : List Int} {n : Int} : memI S n = 1 ↔ n ∈ S := by simp only [memI]; grind
mutual
def bnd : Core → List Int
  | ⟨_, _, p, _, l⟩ => p ++ bnds l
def bnds : List Core → List Int
  | [] => []
  | x :: r => bnd x ++ bnds r
end
theorem bnds_eq : ∀ l, bnds l = l.flatMap bnd
  | [] => by simp [bnds]
  | x :: r => by rw [bnds, bnds_eq r]; simp
theorem bnd_eq (x : Core) : bnd x = x.params ++ x.kids.flatMap bnd := by cases x; simp only [bnd, bnds_eq]
theorem bnd_le : ∀ c : Core, (bnd c).length ≤ wC c := by
  refine Core.ind fun c ih => ?_
  have h : ∀ L : List Core, (∀ y ∈ L, (bnd y).length ≤ wC y) → (L.flatMap bnd).length ≤ sumBy wC L := by
    intro L
    induction L with
    | nil => intro _; simp
    | cons x r ihr =>
      intro hL
      have h1 := hL x List.mem_cons_self
      have h2 := ihr fun y hy => hL y (List.mem_cons_of_mem _ hy)
      simp only [List.flatMap_cons, List.length_append, sumBy]; omega
  have := h c.kids ih
  rw [bnd_eq, wC_eq, List.length_append]; omega
mutual
def depC : Core → Nat
  | ⟨_, _, _, _, l⟩ => depCs l + 1
def depCs : List Core → Nat
  | [] => 0
  | c :: r => max (depC c) (depCs r)
end
theorem depCs_eq : ∀ l, depCs l = maxBy depC l
  | [] => by simp [depCs, maxBy]
  | c :: r => by rw [depCs, maxBy, depCs_eq r]
theorem depC_eq (c : Core) : depC c = maxBy depC c.kids + 1 := by cases c; simp only [depC, depCs_eq]
mutual
def sizeC : Core → Nat
  | ⟨_, _, _, _, l⟩ => sizeCs l + 1
def sizeCs : List Core → Nat
  | [] => 0
  | c :: r => sizeC c + sizeCs r
end
theorem sizeCs_eq : ∀ l, sizeCs l = sumBy sizeC l
  | [] => by simp [sizeCs, sumBy]
  | c :: r => by rw [sizeCs, sumBy, sizeCs_eq r]
theorem sizeC_eq (c : Core) : sizeC c = sumBy sizeC c.kids + 1 := by cases c; simp only [sizeC, sizeCs_eq]
theorem depC_le : ∀ c : Core, depC c ≤ sizeC c := by
  refine Core.ind fun c ih => ?_
  have := maxBy_sum ih
  rw [sizeC_eq, depC_eq]; omega
def shC (c : Core) : Bool :=
  (decide (c.kind = 1) || decide (c.datum = ⟨0, 0, mkS [], []⟩)) && (decide (c.number = 0) || decide (c.kind = 2 ∨ c.kind = 4) || decide (c.kind = 3)) &&
  (if c.kind = 1 then decide ((c.kids.length : Int) = 0) && decide ((c.params.length : Int) = 0) && isDat c.datum
   else if c.kind = 2 then decide ((c.kids.length : Int) = 0) && decide ((c.params.length : Int) = 0)
   else if c.kind = 3 then decide ((c.kids.length : Int) = 0) && decide ((c.params.length : Int) = 0) && decide (0 ≤ c.number ∧ c.number ≤ 13)
   else if c.kind = 4 then decide ((c.kids.length : Int) = 1) && decide ((c.params.length : Int) = 0)
   else if c.kind = 5 then decide ((c.kids.length : Int) = 1) && decide ((c.params.length : Int) ≤ 8)
   else if c.kind = 6 then decide (1 ≤ (c.kids.length : Int) ∧ (c.kids.length : Int) ≤ 9) && decide ((c.params.length : Int) = 0)
   else if c.kind = 7 then decide ((c.kids.length : Int) = 3) && decide ((c.params.length : Int) = 0)
   else if c.kind = 8 then decide (2 ≤ (c.kids.length : Int) ∧ (c.kids.length : Int) ≤ 60) && decide ((c.params.length : Int) = 0)
   else if c.kind = 9 then decide (1 ≤ (c.kids.length : Int) ∧ (c.kids.length : Int) ≤ 60) && decide (1 ≤ (c.params.length : Int) ∧ (c.params.length : Int) ≤ 60)
   else if c.kind = 10 then decide ((c.kids.length : Int) = 1) && decide ((c.params.length : Int) = 0)
   else if c.kind = 11 then decide ((c.kids.length : Int) = 1) && decide ((c.params.length : Int) = 1)
   else false)
def sqC (c x : Core) : Bool := !(decide (c.kind = 8) && decide (x.kind = 8))
def shI (c : Core) : Bool := shC c && c.kids.all (sqC c)
mutual
def okC : Core → Bool
  | c@⟨_, _, _, _, l⟩ => okCs l && shI c
def okCs : List Core → Bool
  | [] => true
  | c :: r => okC c && okCs r
end
theorem okCs_eq : ∀ l, okCs l = l.all okC
  | [] => by simp [okCs]
  | c :: r => by rw [okCs, okCs_eq r]; rfl
theorem okC_eq (c : Core) : okC c = (c.kids.all okC && shI c) := by cases c; simp only [okC, okCs_eq]
mutual
def meaC : Core → Int → Int → Bool × Int
  | c@⟨_, _, _, _, l⟩, deep, m => if deep ≤ 150 ∧ m + 1 ≤ 3000 ∧ shI c = true then meaCs l (deep + 1) (m + 1) else (false, m + 1)
def meaCs : List Core → Int → Int → Bool × Int
  | [], _, m => (true, m)
  | x :: r, deep, m => if (meaC x deep m).1 then meaCs r deep (meaC x deep m).2 else (false, (meaC x deep m).2)
end
theorem meaCs_eq : ∀ l deep m, meaCs l deep m = scan (fun x m => meaC x deep m) l m
  | [], _, _ => by simp [meaCs, scan]
  | x :: r, deep, m => by simp only [meaCs, scan, meaCs_eq r]
theorem meaC_eq (c : Core) (deep m : Int) : meaC c deep m = if deep ≤ 150 ∧ m + 1 ≤ 3000 ∧ shI c = true then scan (fun x m => meaC x (deep + 1) m) c.kids (m + 1) else (false, m + 1) := by cases c; simp only [meaC, meaCs_eq]
theorem meaC_of : ∀ (c : Core) (deep m : Int), m ≤ 3000 → ((meaC c deep m).1 = true ↔ (m + sizeC c ≤ 3000 ∧ (deep + depC c ≤ 151 ∧ okC c = true))) ∧ ((meaC c deep m).1 = true → (meaC c deep m).2 = m + sizeC c) := by
  refine Core.ind fun c ih deep m hm => ?_
  rw [meaC_eq, sizeC_eq, depC_eq, okC_eq, Bool.and_eq_true, List.all_eq_true]
  by_cases h : deep ≤ 150 ∧ m + 1 ≤ 3000 ∧ shI c = true
  · rw [if_pos h]
    have h1 := scan_of (fun x m => meaC x (deep + 1) m) sizeC (fun x => deep + 1 + depC x ≤ 151 ∧ okC x = true) 3000 c.kids (fun x hx m hm => ih x hx (deep + 1) m hm) (m + 1) h.2.1
    have h2 := maxBy_le depC (m := (150 - deep).toNat) (L := c.kids)
    constructor
    · rw [h1.1]
      constructor
      · rintro ⟨a, b⟩
        have := h2.2 fun x hx => by have := (b x hx).1; omega
        exact ⟨by omega, by omega, fun x hx => (b x hx).2, h.2.2⟩
      · rintro ⟨a, b, d, e⟩
        have := h2.1 (by omega)
        exact ⟨by omega, fun x hx => ⟨by have := this x hx; omega, d x hx⟩⟩
    · intro ht; rw [h1.2 ht]; omega
  · rw [if_neg h]
    refine ⟨⟨fun e => Bool.noConfusion e, ?_⟩, fun e => Bool.noConfusion e⟩
    rintro ⟨a, b, d, e⟩
    exact absurd ⟨by omega, by omega, e⟩ h
def smC (c : Core) : Bool := decide (sizeC c ≤ 3000) && decide (depC c ≤ 150) && okC c
theorem meaC_sm (c : Core) : (meaC c 1 0).1 = smC c := by
  have h := (meaC_of c 1 0 (by decide)).1
  rw [Bool.eq_iff_iff, h]
  simp only [smC, Bool.and_eq_true, decide_eq_true_eq, and_assoc]
  constructor
  · rintro ⟨a, b, e⟩; exact ⟨by omega, by omega, e⟩
  · rintro ⟨a, b, e⟩; exact ⟨by omega, by omega, e⟩
def isCor (c : Core) (G : List Int) : Bool := smC c && okU (G ++ bnd c) && (fre c [] []).all fun n => decide (n ∈ G)
def valC (c : Core) : Bool := smC c && okU (fre c [] [] ++ bnd c)
abbrev P_c_sEqData (a : Datum) (b : Datum) : Ct := ⟨143, [], [datumA a, datumA b], [], .sv (lb (decide (a = b)))⟩
def lc_sEqData_sLa (a : Datum) (b : Datum) : Lp Nat := .mk 53 0 (fun x => [(2, SV.one (AC.ptr 0 0)), (3, SV.one (AC.ptr 1 0)), (36, li (↑(List.map datumC a.items).length : Int)),
 (37, hs x 0)]) (fun x => [Ob.box (vals (datumF a)), Ob.box (vals (datumF b))]) (fun k => [.s (li (↑k : Int))]) (fun k => k ≤ a.items.length ∧ a.items.length ≤ 9223372036854775807
 ∧ a.items.length = b.items.length ∧ List.take k a.items = List.take k b.items) (fun k => a.items.length - k) [.mk (a.items = b.items) (.exit 0) (fun x => []) (fun x => []) [], .mk
 (a.items ≠ b.items) .ret (fun x => [(4, hs x 0)]) (fun x => []) [.s (lb false)]]
theorem Sc_sEqData_sLa (a : Datum) (b : Datum) (ih : ∀ (z : Datum), z ∈ a.items → ∀ (b : Datum), OK (P_c_sEqData z b)) : Lp.Sem Tryd.prog (loopAt Tryd.f143 0) (lc_sEqData_sLa a b)
 := lpOK (fun k => .i ((↑k : Int) < (↑(List.map datumC a.items).length : Int)) (.w (.draw []) (.x (↑k : Int) (List.map datumC a.items) (datumF (a.items.getD k default)) (.x (↑k :
 Int) (List.map datumC b.items) (datumF (b.items.getD k default)) (.d [.rd, .rd] (P_c_sEqData (a.items.getD k default) (b.items.getD k default)) (.b (!decide (a.items.getD k
 default = b.items.getD k default)) (.o 1 [] [.s (lb false)]) (.r ((↑k : Int) + 1) (.g [0, 1] (k + 1) [.s (li ((↑k : Int) + 1))]))))))) (.o 0 [] [])) (by
  intro k h; try dsimp only [teasy, nthW, lc_sEqData_sLa] at h ⊢
  with_reducible repeat' (first | apply And.intro | exact zR | exact ih | (intro; skip) | apply mIc | apply mOc | apply mSc | apply mLc | apply ih)
  all_goals (try simp only [std, inj] at *)
  all_goals with_reducible repeat' apply And.intro
  all_goals (try (first | with_reducible apply ih | (simp only [← List.map_append]; first | with_reducible apply ih)))
  all_goals (try (first | exact z | exact zM | grind [take_eq, getD_mem', snocI, snocS, rowSnoc])))
theorem c_sEqData_s (a b : Datum) (ih : ∀ z ∈ a.items, ∀ (b : Datum), P_c_sEqData z b)  : P_c_sEqData a b := fnOK Tryd.call143 Tryd.func143 (.i (a.kind ≠ b.kind) (.y true (.y true
 (.y true (.s (lb false))))) (.i (a.number ≠ b.number) (.y true (.y true (.s (lb false)))) (.i (a.text.data.toList ≠ b.text.data.toList) (.y true (.s (lb false))) (.z datumC
 a.items (.z datumC b.items (.i ((↑(List.map datumC a.items).length : Int) ≠ (↑(List.map datumC b.items).length : Int)) (.s (lb false)) (.z datumC a.items (.l (lc_sEqData_sLa a b)
 (Sc_sEqData_sLa a b ih) [0, 1] [.s (li 0)] 0 (.t (.s (lb true)) (.t (.s (lb false)) .q)))))))))) (by
  dsimp only [teasy, P_c_sEqData, nthW, lc_sEqData_sLa]
  simp only [datumExt]
  with_reducible repeat' (first | apply And.intro | exact zR | exact ih | (intro; skip) | apply mIc | apply mOc | apply mSc | apply mLc)
  all_goals (try simp only [std, inj] at *)
  all_goals with_reducible repeat' apply And.intro
  all_goals (try (first | with_reducible apply ih | (simp only [← List.map_append]; first | with_reducible apply ih)))
  all_goals (try (first | exact z | exact zM | grind [bytes_ext, snocI, snocS, rowSnoc])))
theorem c_sEqData (a : Datum) : ∀ (b : Datum), P_c_sEqData a b := Datum.ind (P := fun a => ∀ (b : Datum), P_c_sEqData a b) (fun a ih b => c_sEqData_s a b ih) a
abbrev P_c_iEqData (a : Datum) (b : Datum) : Ct := ⟨133, [], [datumA a, datumA b], [], .sv (lb (decide (a = b)))⟩
def lc_iEqData_sLa (a : Datum) (b : Datum) : Lp Nat := .mk 53 0 (fun x => [(2, SV.one (AC.ptr 0 0)), (3, SV.one (AC.ptr 1 0)), (36, li (↑(List.map datumC a.items).length : Int)),
 (37, hs x 0)]) (fun x => [Ob.box (vals (datumF a)), Ob.box (vals (datumF b))]) (fun k => [.s (li (↑k : Int))]) (fun k => k ≤ a.items.length ∧ a.items.length ≤ 9223372036854775807
 ∧ a.items.length = b.items.length ∧ List.take k a.items = List.take k b.items) (fun k => a.items.length - k) [.mk (a.items = b.items) (.exit 0) (fun x => []) (fun x => []) [], .mk
 (a.items ≠ b.items) .ret (fun x => [(4, hs x 0)]) (fun x => []) [.s (lb false)]]
theorem Sc_iEqData_sLa (a : Datum) (b : Datum) (ih : ∀ (z : Datum), z ∈ a.items → ∀ (b : Datum), OK (P_c_iEqData z b)) : Lp.Sem Tryd.prog (loopAt Tryd.f133 0) (lc_iEqData_sLa a b)
 := lpOK (fun k => .i ((↑k : Int) < (↑(List.map datumC a.items).length : Int)) (.w (.draw []) (.x (↑k : Int) (List.map datumC a.items) (datumF (a.items.getD k default)) (.x (↑k :
 Int) (List.map datumC b.items) (datumF (b.items.getD k default)) (.d [.rd, .rd] (P_c_iEqData (a.items.getD k default) (b.items.getD k default)) (.b (!decide (a.items.getD k
 default = b.items.getD k default)) (.o 1 [] [.s (lb false)]) (.r ((↑k : Int) + 1) (.g [0, 1] (k + 1) [.s (li ((↑k : Int) + 1))]))))))) (.o 0 [] [])) (by
  intro k h; try dsimp only [teasy, nthW, lc_iEqData_sLa] at h ⊢
  with_reducible repeat' (first | apply And.intro | exact zR | exact ih | (intro; skip) | apply mIc | apply mOc | apply mSc | apply mLc | apply ih)
  all_goals (try simp only [std, inj] at *)
  all_goals with_reducible repeat' apply And.intro
  all_goals (try (first | with_reducible apply ih | (simp only [← List.map_append]; first | with_reducible apply ih)))
  all_goals (try (first | exact z | exact zM | grind [take_eq, getD_mem', snocI, snocS, rowSnoc])))
theorem c_iEqData_s (a b : Datum) (ih : ∀ z ∈ a.items, ∀ (b : Datum), P_c_iEqData z b)  : P_c_iEqData a b := fnOK Tryd.call133 Tryd.func133 (.i (a.kind ≠ b.kind) (.y true (.y true
 (.y true (.s (lb false))))) (.i (a.number ≠ b.number) (.y true (.y true (.s (lb false)))) (.i (a.text.data.toList ≠ b.text.data.toList) (.y true (.s (lb false))) (.z datumC
 a.items (.z datumC b.items (.i ((↑(List.map datumC a.items).length : Int) ≠ (↑(List.map datumC b.items).length : Int)) (.s (lb false)) (.z datumC a.items (.l (lc_iEqData_sLa a b)
 (Sc_iEqData_sLa a b ih) [0, 1] [.s (li 0)] 0 (.t (.s (lb true)) (.t (.s (lb false)) .q)))))))))) (by
  dsimp only [teasy, P_c_iEqData, nthW, lc_iEqData_sLa]
  simp only [datumExt]
  with_reducible repeat' (first | apply And.intro | exact zR | exact ih | (intro; skip) | apply mIc | apply mOc | apply mSc | apply mLc)
  all_goals (try simp only [std, inj] at *)
  all_goals with_reducible repeat' apply And.intro
  all_goals (try (first | with_reducible apply ih | (simp only [← List.map_append]; first | with_reducible apply ih)))
  all_goals (try (first | exact z | exact zM | grind [bytes_ext, snocI, snocS, rowSnoc])))
theorem c_iEqData (a : Datum) : ∀ (b : Datum), P_c_iEqData a b := Datum.ind (P := fun a => ∀ (b : Datum), P_c_iEqData a b) (fun a ih b => c_iEqData_s a b ih) a
abbrev P_c_sBound (c : Core) (A : List Int) : Ct := ⟨114, [.arr true 1 (A.map intC)], [coreA c, .one (.ref 0)], [.dead, .arr true 1 ((A ++ bnd c).map intC)], .sv (.one (.ref 1))⟩
def lc_sBound_sLa (c : Core) (A : List Int) : Lp Nat := .mk 23 1 (fun x => [(1, SV.one (AC.ref 1)), (12, ll (List.map coreC c.kids)), (13, li (↑(List.map coreC c.kids).length :
 Int)), (14, hs x 0)]) (fun x => [Ob.dead, ho x 1]) (fun k => [.s (li (↑k : Int)), .o (Ob.arr true 1 (List.map intC (A ++ c.params ++ List.flatMap bnd (List.take k c.kids))))])
 (fun k => k ≤ c.kids.length ∧ c.kids.length ≤ 9223372036854775807) (fun k => c.kids.length - k) [.mk True (.exit 0) (fun x => [(1, SV.one (AC.ref 1))]) (fun x => [Ob.dead, ho x
 0]) [.o (Ob.arr true 1 (List.map intC (A ++ bnd c)))]]
theorem Sc_sBound_sLa (c : Core) (A : List Int) (h : A.length + (bnd c).length ≤ 2147483647) (ih : ∀ (z : Core), z ∈ c.kids → ∀ (A : List Int), A.length + (bnd z).length ≤
 2147483647 → OK (P_c_sBound z A)) : Lp.Sem Tryd.prog (loopAt Tryd.f114 0) (lc_sBound_sLa c A) := lpOK (fun k => .i ((↑k : Int) < (↑(List.map coreC c.kids).length : Int)) (.x (↑k :
 Int) (List.map coreC c.kids) (coreF (c.kids.getD k default)) (.d [.rd, .own true 1] (P_c_sBound (c.kids.getD k default) (A ++ c.params ++ List.flatMap bnd (List.take k c.kids)))
 (.r ((↑k : Int) + 1) (.g [0, 4] (k + 1) [.s (li ((↑k : Int) + 1)), .o (Ob.arr true 1 (List.map intC (A ++ c.params ++ List.flatMap bnd (List.take k c.kids) ++ bnd (c.kids.getD k
 default))))])))) (.o 0 [0, 1] [.o (Ob.arr true 1 (List.map intC (A ++ c.params ++ List.flatMap bnd (List.take k c.kids))))])) (by
  intro k h; try dsimp only [teasy, nthW, lc_sBound_sLa] at h ⊢
  have g0 := flat_takeLe bnd c.kids (k + 1)
  with_reducible repeat' (first | apply And.intro | exact zR | exact ih | (intro; skip) | apply mIc | apply mOc | apply mSc | apply mLc | apply ih)
  all_goals (try simp only [std, inj] at *)
  all_goals with_reducible repeat' apply And.intro
  all_goals (try (first | with_reducible apply ih | (simp only [← List.map_append]; first | with_reducible apply ih)))
  all_goals (try (first | exact z | exact zM | grind [flat_take, getD_mem', bnd_eq, snocI, snocS, rowSnoc])))
theorem c_sBound_s (c : Core) (A : List Int) (h : A.length + (bnd c).length ≤ 2147483647) (ih : ∀ z ∈ c.kids, ∀ (A : List Int) (h : A.length + (bnd z).length ≤ 2147483647),
 P_c_sBound z A)  : P_c_sBound c A := fnOK Tryd.call114 Tryd.func114 (.p (∀ (e : List Cell), e ∈ List.map intC c.params → ∀ (c : Cell), c ∈ e → ∃ v, c = Cell.lit v) (.p (∀ (e : List
 Cell), e ∈ List.map intC c.params → e.length = 1) (.p (((List.map intC A).length + (List.map intC c.params).length) * 8 ≤ 140737488355328) (.z coreC c.kids (.l (lc_sBound_sLa c A)
 (Sc_sBound_sLa c A h ih) [0, 2] [.s (li 0), .o (Ob.arr true 1 (List.map intC A ++ List.map intC c.params))] 0 (.t (.f [1] [Ob.dead, Ob.arr true 1 (List.map intC (A ++ bnd c))]
 (AV.sv (SV.one (AC.ref 1)))) .q)))))) (by
  dsimp only [teasy, P_c_sBound, nthW, lc_sBound_sLa]
  with_reducible repeat' (first | apply And.intro | exact zR | exact ih | (intro; skip) | apply mIc | apply mOc | apply mSc | apply mLc)
  all_goals (try simp only [std, inj] at *)
  all_goals with_reducible repeat' apply And.intro
  all_goals (try (first | with_reducible apply ih | (simp only [← List.map_append]; first | with_reducible apply ih)))
  all_goals (try (first | exact z | exact zM | grind [bnd_eq, snocI, snocS, rowSnoc])))
theorem c_sBound (c : Core) : ∀ (A : List Int) (h : A.length + (bnd c).length ≤ 2147483647), P_c_sBound c A := Core.ind (P := fun c => ∀ (A : List Int) (h : A.length + (bnd c).length ≤ 2147483647), P_c_sBound c A) (fun c ih A h => c_sBound_s c A h ih) c
abbrev P_c_iBound (c : Core) (A : List Int) : Ct := ⟨119, [.arr true 1 (A.map intC)], [coreA c, .one (.ref 0)], [.dead, .arr true 1 ((A ++ bnd c).map intC)], .sv (.one (.ref 1))⟩
def lc_iBound_sLa (c : Core) (A : List Int) : Lp Nat := .mk 23 1 (fun x => [(1, SV.one (AC.ref 1)), (12, ll (List.map coreC c.kids)), (13, li (↑(List.map coreC c.kids).length :
 Int)), (14, hs x 0)]) (fun x => [Ob.dead, ho x 1]) (fun k => [.s (li (↑k : Int)), .o (Ob.arr true 1 (List.map intC (A ++ c.params ++ List.flatMap bnd (List.take k c.kids))))])
 (fun k => k ≤ c.kids.length ∧ c.kids.length ≤ 9223372036854775807) (fun k => c.kids.length - k) [.mk True (.exit 0) (fun x => [(1, SV.one (AC.ref 1))]) (fun x => [Ob.dead, ho x
 0]) [.o (Ob.arr true 1 (List.map intC (A ++ bnd c)))]]
theorem Sc_iBound_sLa (c : Core) (A : List Int) (h : A.length + (bnd c).length ≤ 2147483647) (ih : ∀ (z : Core), z ∈ c.kids → ∀ (A : List Int), A.length + (bnd z).length ≤
 2147483647 → OK (P_c_iBound z A)) : Lp.Sem Tryd.prog (loopAt Tryd.f119 0) (lc_iBound_sLa c A) := lpOK (fun k => .i ((↑k : Int) < (↑(List.map coreC c.kids).length : Int)) (.x (↑k :
 Int) (List.map coreC c.kids) (coreF (c.kids.getD k default)) (.d [.rd, .own true 1] (P_c_iBound (c.kids.getD k default) (A ++ c.params ++ List.flatMap bnd (List.take k c.kids)))
 (.r ((↑k : Int) + 1) (.g [0, 4] (k + 1) [.s (li ((↑k : Int) + 1)), .o (Ob.arr true 1 (List.map intC (A ++ c.params ++ List.flatMap bnd (List.take k c.kids) ++ bnd (c.kids.getD k
 default))))])))) (.o 0 [0, 1] [.o (Ob.arr true 1 (List.map intC (A ++ c.params ++ List.flatMap bnd (List.take k c.kids))))])) (by
  intro k h; try dsimp only [teasy, nthW, lc_iBound_sLa] at h ⊢
  have g0 := flat_takeLe bnd c.kids (k + 1)
  with_reducible repeat' (first | apply And.intro | exact zR | exact ih | (intro; skip) | apply mIc | apply mOc | apply mSc | apply mLc | apply ih)
  all_goals (try simp only [std, inj] at *)
  all_goals with_reducible repeat' apply And.intro
  all_goals (try (first | with_reducible apply ih | (simp only [← List.map_append]; first | with_reducible apply ih)))
  all_goals (try (first | exact z | exact zM | grind [flat_take, getD_mem', bnd_eq, snocI, snocS, rowSnoc])))
theorem c_iBound_s (c : Core) (A : List Int) (h : A.length + (bnd c).length ≤ 2147483647) (ih : ∀ z ∈ c.kids, ∀ (A : List Int) (h : A.length + (bnd z).length ≤ 2147483647),
 P_c_iBound z A)  : P_c_iBound c A := fnOK Tryd.call119 Tryd.func119 (.p (∀ (e : List Cell), e ∈ List.map intC c.params → ∀ (c : Cell), c ∈ e → ∃ v, c = Cell.lit v) (.p (∀ (e : List
 Cell), e ∈ List.map intC c.params → e.length = 1) (.p (((List.map intC A).length + (List.map intC c.params).length) * 8 ≤ 140737488355328) (.z coreC c.kids (.l (lc_iBound_sLa c A)
 (Sc_iBound_sLa c A h ih) [0, 2] [.s (li 0), .o (Ob.arr true 1 (List.map intC A ++ List.map intC c.params))] 0 (.t (.f [1] [Ob.dead, Ob.arr true 1 (List.map intC (A ++ bnd c))]
 (AV.sv (SV.one (AC.ref 1)))) .q)))))) (by
  dsimp only [teasy, P_c_iBound, nthW, lc_iBound_sLa]
  with_reducible repeat' (first | apply And.intro | exact zR | exact ih | (intro; skip) | apply mIc | apply mOc | apply mSc | apply mLc)
  all_goals (try simp only [std, inj] at *)
  all_goals with_reducible repeat' apply And.intro
  all_goals (try (first | with_reducible apply ih | (simp only [← List.map_append]; first | with_reducible apply ih)))
  all_goals (try (first | exact z | exact zM | grind [bnd_eq, snocI, snocS, rowSnoc])))
theorem c_iBound (c : Core) : ∀ (A : List Int) (h : A.length + (bnd c).length ≤ 2147483647), P_c_iBound c A := Core.ind (P := fun c => ∀ (A : List Int) (h : A.length + (bnd c).length ≤ 2147483647), P_c_iBound c A) (fun c ih A h => c_iBound_s c A h ih) c
abbrev P_c_iBoundVariables (c : Core) : Ct := ⟨87, [], [coreA c], [.arr true 1 ((bnd c).map intC)], .sv (.one (.ref 0))⟩
theorem c_iBoundVariables (c : Core) (h : (bnd c).length ≤ 2147483647)  : P_c_iBoundVariables c := fnOK Tryd.call87 Tryd.func87 (.d [.rd, .own true 1] (P_c_iBound c []) (.f [2]
 [Ob.arr true 1 (List.map intC (bnd c))] (AV.sv (SV.one (AC.ref 0))))) (by
  dsimp only [teasy, P_c_iBoundVariables]
  with_reducible repeat' (first | apply And.intro | exact zR | (intro; skip) | apply mIc | apply mOc | apply mSc | apply mLc | apply c_iBound)
  all_goals (try simp only [std, inj] at *)
  all_goals with_reducible repeat' apply And.intro
  all_goals (try (first | with_reducible apply c_iBound | (simp only [← List.map_append]; first | with_reducible apply c_iBound)))
  all_goals (try (first | exact z | exact zM | grind [snocI, snocS, rowSnoc])))
abbrev P_c_sUniq (L : List Int) : Ct := ⟨112, [], [ll (L.map intC)], [], .sv (lb (okU L))⟩
def lc_sUniqLa (L : List Int) : Lp Nat := .mk 23 0 (fun x => [(0, ll (List.map intC L)), (5, ll (List.map intC L)), (6, li (↑(List.map intC L).length : Int)), (7, hs x 0)]) (fun x
 => []) (fun k => [.s (li (↑k : Int))]) (fun k => k ≤ L.length ∧ L.length ≤ 9223372036854775807 ∧ okU (List.take k L) = true) (fun k => L.length - k) [.mk (okU L = true) (.exit 0)
 (fun x => []) (fun x => []) [], .mk (okU L = false) .ret (fun x => [(2, hs x 0)]) (fun x => []) [.s (lb false)]]
theorem Sc_sUniqLa (L : List Int) : Lp.Sem Tryd.prog (loopAt Tryd.f112 0) (lc_sUniqLa L) := lpOK (fun k => .i ((↑k : Int) < (↑(List.map intC L).length : Int)) (.x (↑k : Int)
 (List.map intC L) [cI (L.getD k 0)] (.c [.rd, .rd, .rd] (c_l1In (L.getD k 0) 0 99999) (.b (!decide (0 ≤ L.getD k 0 ∧ L.getD k (0 : Int) ≤ 99999)) (.y true (.o 1 [] [.s (lb
 false)])) (.p (0 ≤ (↑k : Int)) (.p (0 ≤ (↑k : Int).toNat ∧ (↑k : Int).toNat ≤ (List.map intC L).length ∧ ∀ (e : List Cell), e ∈ List.map intC L → e.length = 1) (.u [.rd, .rd]
 (P_c_sHas (List.take ((↑k : Int).toNat - 0) (List.drop 0 L)) (L.getD k 0)) (.p (CallOK Tryd.prog 115 [] [ll (List.take ((↑k : Int).toNat - 0) (List.drop 0 (List.map intC L))), li
 (L.getD k 0)] [] (AV.sv (lb (decide (L.getD k 0 ∈ List.take ((↑k : Int).toNat - 0) (List.drop 0 L)))))) (.i (L.getD k 0 ∈ List.take ((↑k : Int).toNat - 0) (List.drop 0 L)) (.o 1
 [] [.s (lb false)]) (.r ((↑k : Int) + 1) (.g [] (k + 1) [.s (li ((↑k : Int) + 1))])))))))))) (.o 0 [] [])) (by
  intro k h; try dsimp only [teasy, nthW, lc_sUniqLa] at h ⊢
  have g1 := @okU_snoc (L.take k) (L.getD k default)
  have g2 := @okU_take L (k + 1)
  with_reducible repeat' (first | apply And.intro | exact zR | (intro; skip) | apply mIc | apply mOc | apply mSc | apply mLc | apply c_l1In | apply c_sHas)
  all_goals (try simp only [std, inj] at *)
  all_goals with_reducible repeat' apply And.intro
  all_goals (try (first | with_reducible apply c_l1In | with_reducible apply c_sHas | (simp only [← List.map_append]; first | with_reducible apply c_l1In | with_reducible apply c_sHas)))
  all_goals (try (first | exact z | exact zM | grind [take_get, snocI, snocS, rowSnoc])))
theorem c_sUniq (L : List Int)  : P_c_sUniq L := fnOK Tryd.call112 Tryd.func112 (.z intC L (.l (lc_sUniqLa L) (Sc_sUniqLa L) [] [.s (li 0)] 0 (.t (.s (lb true)) (.t (.s (lb false))
 .q)))) (by
  dsimp only [teasy, P_c_sUniq, nthW, lc_sUniqLa]
  with_reducible repeat' (first | apply And.intro | exact zR | (intro; skip) | apply mIc | apply mOc | apply mSc | apply mLc)
  all_goals (try simp only [std, inj] at *)
  all_goals with_reducible repeat' apply And.intro
  all_goals (try (first | exact z | exact zM | grind [okU_nil, snocI, snocS, rowSnoc])))
abbrev P_c_sFewC (c : Core) (l : Int) : Ct := ⟨109, [.box [vI l]], [coreA c, .one (.ptr 0 0)], [.box [vI (max (l - sizeC c) (-1))]], .sv (lb (decide (sizeC c ≤ l)))⟩
def lc_sFewC_sLa (c : Core) (l : Int) : Lp Nat := .mk 36 1 (fun x => [(1, SV.one (AC.ptr 0 0)), (2, SV.one (AC.ptr 1 0)), (5, hs x 0)]) (fun x => [Ob.box [ha x 1], Ob.box (vals
 (coreF c))]) (fun k => [.s (li (↑k : Int)), .a (vI (max (l - 1 - (↑(sumBy sizeC (List.take k c.kids)) : Int)) (-1 : Int)))]) (fun k => c.kids.length ≥ k) (fun k => c.kids.length -
 k) [.mk True (.exit 0) (fun x => [(1, SV.one (AC.ptr 0 0))]) (fun x => [Ob.box [ha x 0]]) [.a (vI (max (l - (↑(sizeC c) : Int)) (-1 : Int)))]]
theorem Sc_sFewC_sLa (c : Core) (l : Int) (h : 0 ≤ l ∧ l ≤ 1000000) (ih : ∀ (z : Core), z ∈ c.kids → ∀ (l : Int), 0 ≤ l ∧ l ≤ 1000000 → OK (P_c_sFewC z l)) : Lp.Sem Tryd.prog
 (loopAt Tryd.f109 0) (lc_sFewC_sLa c l) := lpOK (fun k => .z coreC c.kids (.i ((↑k : Int) < (↑(List.map coreC c.kids).length : Int)) (.i (0 ≤ max (l - 1 - (↑(sumBy sizeC
 (List.take k c.kids)) : Int)) (-1 : Int)) (.x (↑k : Int) (List.map coreC c.kids) (coreF (c.kids.getD k default)) (.d [.rd, .ptr] (P_c_sFewC (c.kids.getD k default) (max (l - 1 -
 (↑(sumBy sizeC (List.take k c.kids)) : Int)) (-1 : Int))) (.r ((↑k : Int) + 1) (.g [0, 1] (k + 1) [.s (li ((↑k : Int) + 1)), .a (vI (max (max (l - 1 - (↑(sumBy sizeC (List.take k
 c.kids)) : Int)) (-1 : Int) - (↑(sizeC (c.kids.getD k default)) : Int)) (-1 : Int)))])))) (.o 0 [0] [.a (vI (max (l - 1 - (↑(sumBy sizeC (List.take k c.kids)) : Int)) (-1 :
 Int)))])) (.y false (.o 0 [0] [.a (vI (max (l - 1 - (↑(sumBy sizeC (List.take k c.kids)) : Int)) (-1 : Int)))])))) (by
  intro k h; try dsimp only [teasy, nthW, lc_sFewC_sLa] at h ⊢
  have g1 := sizeC_eq c
  have g2 := sumBy_takeLe sizeC c.kids k
  have g3 := @sumBy_step _ _ sizeC c.kids k
  with_reducible repeat' (first | apply And.intro | exact zR | exact ih | (intro; skip) | apply mIc | apply mOc | apply mSc | apply mLc | apply ih)
  all_goals (try simp only [std, inj] at *)
  all_goals with_reducible repeat' apply And.intro
  all_goals (try (first | with_reducible apply ih | (simp only [← List.map_append]; first | with_reducible apply ih)))
  all_goals (try (first | exact z | exact zM | grind [getD_mem', snocI, snocS, rowSnoc])))
theorem c_sFewC_s (c : Core) (l : Int) (h : 0 ≤ l ∧ l ≤ 1000000) (ih : ∀ z ∈ c.kids, ∀ (l : Int) (h : 0 ≤ l ∧ l ≤ 1000000), P_c_sFewC z l)  : P_c_sFewC c l := fnOK Tryd.call109
 Tryd.func109 (.r (l - 1) (.l (lc_sFewC_sLa c l) (Sc_sFewC_sLa c l h ih) [0, 1] [.s (li 0), .a (vI (l - 1))] 0 (.t (.f [] [Ob.box [vI (max (l - (↑(sizeC c) : Int)) (-1 : Int))]]
 (AV.sv (lb (decide (0 ≤ max (l - (↑(sizeC c) : Int)) (-1 : Int)))))) .q))) (by
  dsimp only [teasy, P_c_sFewC, nthW, lc_sFewC_sLa]
  have g1 := sizeC_eq c
  have g2 : sumBy sizeC (c.kids.take 0) = 0 := rfl
  with_reducible repeat' (first | apply And.intro | exact zR | exact ih | (intro; skip) | apply mIc | apply mOc | apply mSc | apply mLc)
  all_goals (try simp only [std, inj] at *)
  all_goals with_reducible repeat' apply And.intro
  all_goals (try (first | with_reducible apply ih | (simp only [← List.map_append]; first | with_reducible apply ih)))
  all_goals (try (first | exact z | exact zM | grind [snocI, snocS, rowSnoc])))
theorem c_sFewC (c : Core) : ∀ (l : Int) (h : 0 ≤ l ∧ l ≤ 1000000), P_c_sFewC c l := Core.ind (P := fun c => ∀ (l : Int) (h : 0 ≤ l ∧ l ≤ 1000000), P_c_sFewC c l) (fun c ih l h => c_sFewC_s c l h ih) c
abbrev P_c_sSmall (c : Core) : Ct := ⟨76, [], [coreA c], [], .sv (lb (decide (sizeC c ≤ 3000)))⟩
theorem c_sSmall (c : Core)  : P_c_sSmall c := fnOK Tryd.call76 Tryd.func76 (.d [.rd, .ptr] (P_c_sFewC c 3000) (.s (lb (decide ((↑(sizeC c) : Int) ≤ 3000))))) (by
  dsimp only [teasy, P_c_sSmall]
  with_reducible repeat' (first | apply And.intro | exact zR | (intro; skip) | apply mIc | apply mOc | apply mSc | apply mLc | apply c_sFewC)
  all_goals (try simp only [std, inj] at *)
  all_goals with_reducible repeat' apply And.intro
  all_goals (try (first | with_reducible apply c_sFewC | (simp only [← List.map_append]; first | with_reducible apply c_sFewC)))
  all_goals (try (first | exact z | exact zM | grind [snocI, snocS, rowSnoc])))
abbrev P_c_sDepC (c : Core) : Ct := ⟨110, [], [coreA c], [], .sv (li (depC c))⟩
def lc_sDepC_sLa (c : Core) : Lp Nat := .mk 20 0 (fun x => [(3, hs x 1), (7, ll (List.map coreC c.kids)), (8, li (↑(List.map coreC c.kids).length : Int)), (9, hs x 0)]) (fun x =>
 []) (fun k => [.s (li (↑k : Int)), .s (li (↑(maxBy depC (List.take k c.kids)) : Int))]) (fun k => k ≤ c.kids.length ∧ c.kids.length ≤ 9223372036854775807) (fun k => c.kids.length
 - k) [.mk True (.exit 0) (fun x => [(3, hs x 0)]) (fun x => []) [.s (li (↑(maxBy depC c.kids) : Int))]]
theorem Sc_sDepC_sLa (c : Core) (h : sizeC c ≤ 2147483647) (ih : ∀ (z : Core), z ∈ c.kids → sizeC z ≤ 2147483647 → OK (P_c_sDepC z)) : Lp.Sem Tryd.prog (loopAt Tryd.f110 0)
 (lc_sDepC_sLa c) := lpOK (fun k => .i ((↑k : Int) < (↑(List.map coreC c.kids).length : Int)) (.x (↑k : Int) (List.map coreC c.kids) (coreF (c.kids.getD k default)) (.d [.rd]
 (P_c_sDepC (c.kids.getD k default)) (.r ((↑k : Int) + 1) (.g [] (k + 1) [.s (li ((↑k : Int) + 1)), .s (li (max (↑(maxBy depC (List.take k c.kids)) : Int) (↑(depC (c.kids.getD k
 default)) : Int)))])))) (.o 0 [] [.s (li (↑(maxBy depC (List.take k c.kids)) : Int))])) (by
  intro k h; try dsimp only [teasy, nthW, lc_sDepC_sLa] at h ⊢
  have g1 := sizeC_eq c
  have g2 := @sumBy_mem _ sizeC c.kids (c.kids.getD k default)
  with_reducible repeat' (first | apply And.intro | exact zR | exact ih | (intro; skip) | apply mIc | apply mOc | apply mSc | apply mLc | apply ih)
  all_goals (try simp only [std, inj] at *)
  all_goals with_reducible repeat' apply And.intro
  all_goals (try (first | with_reducible apply ih | (simp only [← List.map_append]; first | with_reducible apply ih)))
  all_goals (try (first | exact z | exact zM | grind [maxBy_step, getD_mem', snocI, snocS, rowSnoc])))
theorem c_sDepC_s (c : Core) (h : sizeC c ≤ 2147483647) (ih : ∀ z ∈ c.kids, ∀ (h : sizeC z ≤ 2147483647), P_c_sDepC z)  : P_c_sDepC c := fnOK Tryd.call110 Tryd.func110 (.z coreC
 c.kids (.l (lc_sDepC_sLa c) (Sc_sDepC_sLa c h ih) [] [.s (li 0), .s (li 0)] 0 (.t (.r ((↑(maxBy depC c.kids) : Int) + 1) (.s (li ((↑(maxBy depC c.kids) : Int) + 1)))) .q))) (by
  dsimp only [teasy, P_c_sDepC, nthW, lc_sDepC_sLa]
  have h1 := depC_le c
  have g2 : maxBy depC (c.kids.take 0) = 0 := rfl
  with_reducible repeat' (first | apply And.intro | exact zR | exact ih | (intro; skip) | apply mIc | apply mOc | apply mSc | apply mLc)
  all_goals (try simp only [std, inj] at *)
  all_goals with_reducible repeat' apply And.intro
  all_goals (try (first | with_reducible apply ih | (simp only [← List.map_append]; first | with_reducible apply ih)))
  all_goals (try (first | exact z | exact zM | grind [depC_eq, snocI, snocS, rowSnoc])))
theorem c_sDepC (c : Core) : ∀ (h : sizeC c ≤ 2147483647), P_c_sDepC c := Core.ind (P := fun c => ∀ (h : sizeC c ≤ 2147483647), P_c_sDepC c) (fun c ih h => c_sDepC_s c h ih) c
abbrev P_c_sShape (c : Core) : Ct := ⟨131, [], [coreA c], [], .sv (lb (shC c))⟩
theorem c_sShape (c : Core)  : P_c_sShape c := fnOK Tryd.call131 Tryd.func131 (let v1 := (↑(List.map coreC c.kids).length : Int); let v2 := (↑(List.map intC c.params).length : Int);
 let v3 := (lb (decide (0 ≤ c.number ∧ c.number ≤ 13))); let v4 := (14 ≤ 9223372036854775807); let v5 := (c_l1In c.number 0 13); let v6 := (c.kind = 11); let v14 := (v2 = 0); let
 v7 := (lb (decide v14)); let v8 := (v1 = 1); let v9 := (lb (decide (1 ≤ v2 ∧ v2 ≤ 60))); let v10 := (v1 = 0); let v11 := (2 ≤ v1 ∧ v1 ≤ 60); let v12 := (1 ≤ v1 ∧ v1 ≤ 60); let v13
 := (1 ≤ v1 ∧ v1 ≤ 9); let v15 := (c_l1In v2 1 60); let v16 := (c_l1In v1 2 60); let v17 := (c_l1In v1 1 60); let v18 := (c_l1In v1 1 9); let v19 := (lb (decide (v2 ≤ 8))); let v20
 := (lb (decide (v2 = 1))); let v21 := (c.kind = 10); let v22 := (lb (isDat c.datum)); let v23 := (c_sIsDatum c.datum); let v24 := (c.kind = 9); let v25 := (c.kind = 8); let v26 :=
 (c.kind = 7); let v27 := (c.kind = 6); let v28 := (c.kind = 5); let v29 := (c.kind = 4); let v30 := (c.kind = 3); let v31 := (c.kind = 2); let v32 := (c.kind = 1); .z coreC c.kids
 (.z intC c.params (.i (c.kind ≠ 1) (.c [.rd, .rd] (c_sEqData c.datum (Datum.mk 0 0 (ByteArray.mk #[]) [])) (.b (!decide (c.datum = Datum.mk 0 0 (ByteArray.mk #[]) [])) (.y true
 (.s (lb false))) (.i (c.number ≠ 0) (.c [.rd] (c_l5Names c) (.b (!decide (c.kind = 2 ∨ c.kind = 4)) (.i (c.kind ≠ 3) (.s (lb false)) (.i v32 (.i v10 (.i v14 (.c [.rd] v23 (.s
 v22)) (.s (lb false))) (.y false (.s (lb false)))) (.i v31 (.i v10 (.s v7) (.s (lb false))) (.i v30 (.w (.draw []) (.i v10 (.i v14 (.c [] c_sPrimitiveNames (.r 13 (.c [.rd, .rd,
 .rd] v5 (.h v4 (.s v3))))) (.s (lb false))) (.y false (.s (lb false))))) (.i v29 (.i v8 (.s v7) (.s (lb false))) (.i v28 (.i v8 (.s v19) (.s (lb false))) (.i v27 (.c [.rd, .rd,
 .rd] v18 (.i v13 (.s v7) (.s (lb false)))) (.i v26 (.i (v1 = 3) (.s v7) (.s (lb false))) (.i v25 (.c [.rd, .rd, .rd] v16 (.i v11 (.s v7) (.s (lb false)))) (.i v24 (.c [.rd, .rd,
 .rd] v17 (.i v12 (.c [.rd, .rd, .rd] v15 (.s v9)) (.s (lb false)))) (.i v21 (.i v8 (.s v7) (.s (lb false))) (.i v6 (.i v8 (.s v20) (.s (lb false))) (.s (lb false)))))))))))))) (.y
 false (.i v32 (.i v10 (.i v14 (.c [.rd] v23 (.s v22)) (.s (lb false))) (.y false (.s (lb false)))) (.i v31 (.i v10 (.s v7) (.s (lb false))) (.i v30 (.w (.draw []) (.i v10 (.i v14
 (.c [] c_sPrimitiveNames (.r 13 (.c [.rd, .rd, .rd] v5 (.h v4 (.s v3))))) (.s (lb false))) (.y false (.s (lb false))))) (.i v29 (.i v8 (.s v7) (.s (lb false))) (.i v28 (.i v8 (.s
 v19) (.s (lb false))) (.i v27 (.c [.rd, .rd, .rd] v18 (.i v13 (.s v7) (.s (lb false)))) (.i v26 (.i (v1 = 3) (.s v7) (.s (lb false))) (.i v25 (.c [.rd, .rd, .rd] v16 (.i v11 (.s
 v7) (.s (lb false)))) (.i v24 (.c [.rd, .rd, .rd] v17 (.i v12 (.c [.rd, .rd, .rd] v15 (.s v9)) (.s (lb false)))) (.i v21 (.i v8 (.s v7) (.s (lb false))) (.i v6 (.i v8 (.s v20) (.s
 (lb false))) (.s (lb false)))))))))))))))) (.y false (.y false (.i v32 (.i v10 (.i v14 (.c [.rd] v23 (.s v22)) (.s (lb false))) (.y false (.s (lb false)))) (.i v31 (.i v10 (.s v7)
 (.s (lb false))) (.i v30 (.w (.draw []) (.i v10 (.i v14 (.c [] c_sPrimitiveNames (.r 13 (.c [.rd, .rd, .rd] v5 (.h v4 (.s v3))))) (.s (lb false))) (.y false (.s (lb false))))) (.i
 v29 (.i v8 (.s v7) (.s (lb false))) (.i v28 (.i v8 (.s v19) (.s (lb false))) (.i v27 (.c [.rd, .rd, .rd] v18 (.i v13 (.s v7) (.s (lb false)))) (.i v26 (.i (v1 = 3) (.s v7) (.s (lb
 false))) (.i v25 (.c [.rd, .rd, .rd] v16 (.i v11 (.s v7) (.s (lb false)))) (.i v24 (.c [.rd, .rd, .rd] v17 (.i v12 (.c [.rd, .rd, .rd] v15 (.s v9)) (.s (lb false)))) (.i v21 (.i
 v8 (.s v7) (.s (lb false))) (.i v6 (.i v8 (.s v20) (.s (lb false))) (.s (lb false)))))))))))))))))) (.y false (.i (c.number ≠ 0) (.c [.rd] (c_l5Names c) (.b (!decide (c.kind = 2 ∨
 c.kind = 4)) (.i (c.kind ≠ 3) (.s (lb false)) (.i v32 (.i v10 (.i v14 (.c [.rd] v23 (.s v22)) (.s (lb false))) (.y false (.s (lb false)))) (.i v31 (.i v10 (.s v7) (.s (lb false)))
 (.i v30 (.w (.draw []) (.i v10 (.i v14 (.c [] c_sPrimitiveNames (.r 13 (.c [.rd, .rd, .rd] v5 (.h v4 (.s v3))))) (.s (lb false))) (.y false (.s (lb false))))) (.i v29 (.i v8 (.s
 v7) (.s (lb false))) (.i v28 (.i v8 (.s v19) (.s (lb false))) (.i v27 (.c [.rd, .rd, .rd] v18 (.i v13 (.s v7) (.s (lb false)))) (.i v26 (.i (v1 = 3) (.s v7) (.s (lb false))) (.i
 v25 (.c [.rd, .rd, .rd] v16 (.i v11 (.s v7) (.s (lb false)))) (.i v24 (.c [.rd, .rd, .rd] v17 (.i v12 (.c [.rd, .rd, .rd] v15 (.s v9)) (.s (lb false)))) (.i v21 (.i v8 (.s v7) (.s
 (lb false))) (.i v6 (.i v8 (.s v20) (.s (lb false))) (.s (lb false)))))))))))))) (.y false (.i v32 (.i v10 (.i v14 (.c [.rd] v23 (.s v22)) (.s (lb false))) (.y false (.s (lb
 false)))) (.i v31 (.i v10 (.s v7) (.s (lb false))) (.i v30 (.w (.draw []) (.i v10 (.i v14 (.c [] c_sPrimitiveNames (.r 13 (.c [.rd, .rd, .rd] v5 (.h v4 (.s v3))))) (.s (lb
 false))) (.y false (.s (lb false))))) (.i v29 (.i v8 (.s v7) (.s (lb false))) (.i v28 (.i v8 (.s v19) (.s (lb false))) (.i v27 (.c [.rd, .rd, .rd] v18 (.i v13 (.s v7) (.s (lb
 false)))) (.i v26 (.i (v1 = 3) (.s v7) (.s (lb false))) (.i v25 (.c [.rd, .rd, .rd] v16 (.i v11 (.s v7) (.s (lb false)))) (.i v24 (.c [.rd, .rd, .rd] v17 (.i v12 (.c [.rd, .rd,
 .rd] v15 (.s v9)) (.s (lb false)))) (.i v21 (.i v8 (.s v7) (.s (lb false))) (.i v6 (.i v8 (.s v20) (.s (lb false))) (.s (lb false)))))))))))))))) (.y false (.y false (.i v32 (.i
 v10 (.i v14 (.c [.rd] v23 (.s v22)) (.s (lb false))) (.y false (.s (lb false)))) (.i v31 (.i v10 (.s v7) (.s (lb false))) (.i v30 (.w (.draw []) (.i v10 (.i v14 (.c []
 c_sPrimitiveNames (.r 13 (.c [.rd, .rd, .rd] v5 (.h v4 (.s v3))))) (.s (lb false))) (.y false (.s (lb false))))) (.i v29 (.i v8 (.s v7) (.s (lb false))) (.i v28 (.i v8 (.s v19)
 (.s (lb false))) (.i v27 (.c [.rd, .rd, .rd] v18 (.i v13 (.s v7) (.s (lb false)))) (.i v26 (.i (v1 = 3) (.s v7) (.s (lb false))) (.i v25 (.c [.rd, .rd, .rd] v16 (.i v11 (.s v7)
 (.s (lb false)))) (.i v24 (.c [.rd, .rd, .rd] v17 (.i v12 (.c [.rd, .rd, .rd] v15 (.s v9)) (.s (lb false)))) (.i v21 (.i v8 (.s v7) (.s (lb false))) (.i v6 (.i v8 (.s v20) (.s (lb
 false))) (.s (lb false)))))))))))))))))))) (by
  dsimp only [teasy, P_c_sShape]
  have e : primNames.length = 14 := rfl
  with_reducible repeat' (first | apply And.intro | exact zR | (intro; skip) | apply mIc | apply mOc | apply mSc | apply mLc)
  all_goals (try simp only [std, inj] at *)
  all_goals with_reducible repeat' apply And.intro
  all_goals (try (first | exact z | exact zM | grind [shC, snocI, snocS, rowSnoc])))
abbrev P_c_sNodesC (c : Core) : Ct := ⟨111, [], [coreA c], [], .sv (lb (okC c))⟩
def lc_sNodesC_sLa (c : Core) : Lp Nat := .mk 28 0 (fun x => [(1, SV.one (AC.ptr 0 0)), (6, ll (List.map coreC c.kids)), (7, li (↑(List.map coreC c.kids).length : Int)), (8, hs x
 0)]) (fun x => [Ob.box (vals (coreF c))]) (fun k => [.s (li (↑k : Int))]) (fun k => k ≤ c.kids.length ∧ c.kids.length ≤ 9223372036854775807 ∧ (List.take k c.kids).all okC = true ∧
 (List.take k c.kids).all (sqC c) = true) (fun k => c.kids.length - k) [.mk (c.kids.all okC = true ∧ c.kids.all (sqC c) = true) (.exit 0) (fun x => [(1, SV.one (AC.ptr 0 0))]) (fun
 x => [Ob.box (vals (coreF c))]) [], .mk (¬(c.kids.all okC = true ∧ c.kids.all (sqC c) = true)) .ret (fun x => [(2, hs x 0)]) (fun x => []) [.s (lb false)]]
theorem Sc_sNodesC_sLa (c : Core) (ih : ∀ (z : Core), z ∈ c.kids → OK (P_c_sNodesC z)) : Lp.Sem Tryd.prog (loopAt Tryd.f111 0) (lc_sNodesC_sLa c) := lpOK (fun k => .i ((↑k : Int) <
 (↑(List.map coreC c.kids).length : Int)) (.x (↑k : Int) (List.map coreC c.kids) (coreF (c.kids.getD k default)) (.d [.rd] (P_c_sNodesC (c.kids.getD k default)) (.b (!okC
 (c.kids.getD k default)) (.y true (.o 1 [] [.s (lb false)])) (.i (c.kind = 8) (.i ((c.kids.getD k default).kind = 8) (.o 1 [] [.s (lb false)]) (.r ((↑k : Int) + 1) (.g [0] (k + 1)
 [.s (li ((↑k : Int) + 1))]))) (.y false (.r ((↑k : Int) + 1) (.g [0] (k + 1) [.s (li ((↑k : Int) + 1))]))))))) (.o 0 [0] [])) (by
  intro k h; try dsimp only [teasy, nthW, lc_sNodesC_sLa] at h ⊢
  with_reducible repeat' (first | apply And.intro | exact zR | exact ih | (intro; skip) | apply mIc | apply mOc | apply mSc | apply mLc | apply ih)
  all_goals (try simp only [std, inj] at *)
  all_goals with_reducible repeat' apply And.intro
  all_goals (try (first | with_reducible apply ih | (simp only [← List.map_append]; first | with_reducible apply ih)))
  all_goals (try (first | exact z | exact zM | grind [take_get, getD_mem', sqC, snocI, snocS, rowSnoc])))
theorem c_sNodesC_s (c : Core) (ih : ∀ z ∈ c.kids, P_c_sNodesC z)  : P_c_sNodesC c := fnOK Tryd.call111 Tryd.func111 (.z coreC c.kids (.l (lc_sNodesC_sLa c) (Sc_sNodesC_sLa c ih) [0]
 [.s (li 0)] 0 (.t (.c [.rd] (c_sShape c) (.s (lb (shC c)))) (.t (.s (lb false)) .q)))) (by
  dsimp only [teasy, P_c_sNodesC, nthW, lc_sNodesC_sLa]
  with_reducible repeat' (first | apply And.intro | exact zR | exact ih | (intro; skip) | apply mIc | apply mOc | apply mSc | apply mLc)
  all_goals (try simp only [std, inj] at *)
  all_goals with_reducible repeat' apply And.intro
  all_goals (try (first | with_reducible apply ih | (simp only [← List.map_append]; first | with_reducible apply ih)))
  all_goals (try (first | exact z | exact zM | grind [okC_eq, shI, snocI, snocS, rowSnoc])))
theorem c_sNodesC (c : Core) : P_c_sNodesC c := Core.ind (P := fun c => P_c_sNodesC c) (fun c ih => c_sNodesC_s c ih) c
abbrev P_c_sIsCore (c : Core) (G : List Int) : Ct := ⟨77, [], [coreA c, ll (G.map intC)], [], .sv (lb (isCor c G))⟩
def lc_sIsCoreLa (c : Core) (G : List Int) : Lp Nat := .mk 41 0 (fun x => [(1, ll (List.map intC G)), (30, SV.one (AC.ref 0)), (31, li (↑(List.map intC (fre c [] [])).length :
 Int)), (32, hs x 0)]) (fun x => [Ob.arr true 1 (List.map intC (fre c [] []))]) (fun k => [.s (li (↑k : Int))]) (fun k => k ≤ (fre c [] []).length ∧ (fre c [] []).length ≤
 9223372036854775807 ∧ ((List.take k (fre c [] [])).all fun n => decide (n ∈ G)) = true) (fun k => (fre c [] []).length - k) [.mk (((fre c [] []).all fun n => decide (n ∈ G)) =
 true) (.exit 0) (fun x => []) (fun x => []) [], .mk (((fre c [] []).all fun n => decide (n ∈ G)) = false) .ret (fun x => [(4, hs x 0)]) (fun x => []) [.s (lb false)]]
theorem Sc_sIsCoreLa (c : Core) (G : List Int) (h : wC c ≤ 100000000 ∧ G.length ≤ 100000000) : Lp.Sem Tryd.prog (loopAt Tryd.f77 0) (lc_sIsCoreLa c G) := lpOK (fun k => .i ((↑k :
 Int) < (↑(List.map intC (fre c [] [])).length : Int)) (.p (0 ≤ (↑k : Int) ∧ (↑k : Int).toNat < (List.map intC (fre c [] [])).length) (.w (.cells (intC ((fre c [] []).getD (↑k :
 Int).toNat default))) (.p ((List.map intC (fre c [] []))[(↑k : Int).toNat]? = some [cI ((fre c [] []).getD (↑k : Int).toNat 0)]) (.c [.rd, .rd] (c_sHas G ((fre c [] []).getD (↑k :
 Int).toNat 0)) (.b (!decide ((fre c [] []).getD (↑k : Int).toNat 0 ∈ G)) (.o 1 [] [.s (lb false)]) (.r ((↑k : Int) + 1) (.g [0] (k + 1) [.s (li ((↑k : Int) + 1))]))))))) (.o 0 []
 [])) (by
  intro k h; try dsimp only [teasy, nthW, lc_sIsCoreLa] at h ⊢
  with_reducible repeat' (first | apply And.intro | exact zR | (intro; skip) | apply mIc | apply mOc | apply mSc | apply mLc | apply c_sDepC | apply c_l2Ints | apply c_sBound | apply c_sFree)
  all_goals (try simp only [std, inj] at *)
  all_goals with_reducible repeat' apply And.intro
  all_goals (try (first | with_reducible apply c_sDepC | with_reducible apply c_l2Ints | with_reducible apply c_sBound | with_reducible apply c_sFree | (simp only [← List.map_append]; first | with_reducible apply c_sDepC | with_reducible apply c_l2Ints | with_reducible apply c_sBound | with_reducible apply c_sFree)))
  all_goals (try (first | exact z | exact zM | grind [take_get, snocI, snocS, rowSnoc])))
theorem c_sIsCore (c : Core) (G : List Int) (h : wC c ≤ 100000000 ∧ G.length ≤ 100000000)  : P_c_sIsCore c G := fnOK Tryd.call77 Tryd.func77 (.w (.draw [(18, [25, 34])]) (.c [.rd]
 (c_sSmall c) (.b (!decide (sizeC c ≤ 3000)) (.y true (.y true (.y true (.s (lb false))))) (.d [.rd] (P_c_sDepC c) (.i (150 < (↑(depC c) : Int)) (.y true (.y true (.s (lb false))))
 (.c [.rd] (c_sNodesC c) (.b (!okC c) (.y true (.s (lb false))) (.d [.rd] (P_c_l2Ints G) (.d [.rd, .own true 1] (P_c_sBound c []) (.p (((List.map intC G).length + (List.map intC
 (bnd c)).length) * 8 ≤ 140737488355328) (.u [.rd] (P_c_sUniq (G ++ bnd c)) (.p (CallOK Tryd.prog 112 [] [ll (List.map intC G ++ List.map intC (bnd c))] [] (AV.sv (lb (okU (G ++
 bnd c))))) (.b (!okU (G ++ bnd c)) (.s (lb false)) (.d [.rd] (P_c_sFree c) (.z intC (fre c [] []) (.l (lc_sIsCoreLa c G) (Sc_sIsCoreLa c G h) [42] [.s (li 0)] 0 (.t (.s (lb true))
 (.t (.s (lb false)) .q)))))))))))))))))) (by
  dsimp only [teasy, P_c_sIsCore, nthW, lc_sIsCoreLa]
  have g1 := bnd_le c
  have g2 := fre_len c [] []
  with_reducible repeat' (first | apply And.intro | exact zR | (intro; skip) | apply mIc | apply mOc | apply mSc | apply mLc | apply c_sSmall | apply c_sDepC | apply c_sNodesC | apply c_l2Ints | apply c_sBound | apply c_sUniq | apply c_sFree | apply c_sHas)
  all_goals (try simp only [std, inj] at *)
  all_goals with_reducible repeat' apply And.intro
  all_goals (try (first | with_reducible apply c_sSmall | with_reducible apply c_sDepC | with_reducible apply c_sNodesC | with_reducible apply c_l2Ints | with_reducible apply c_sBound | with_reducible apply c_sUniq | with_reducible apply c_sFree | with_reducible apply c_sHas | (simp only [← List.map_append]; first | with_reducible apply c_sSmall | with_reducible apply c_sDepC | with_reducible apply c_sNodesC | with_reducible apply c_l2Ints | with_reducible apply c_sBound | with_reducible apply c_sUniq | with_reducible apply c_sFree | with_reducible apply c_sHas)))
  all_goals (try (first | exact z | exact zM | grind [isCor, smC, snocI, snocS, rowSnoc])))
abbrev P_c_sValid (c : Core) : Ct := ⟨42, [], [coreA c], [], .sv (lb (valC c))⟩
theorem c_sValid (c : Core) (h : wC c ≤ 90000000)  : P_c_sValid c := fnOK Tryd.call42 Tryd.func42 (.w (.draw []) (.c [.rd] (c_sSmall c) (.i (sizeC c ≤ 3000) (.d [.rd] (P_c_sFree c)
 (.d [.rd, .rd] (P_c_sIsCore c (fre c [] [])) (.s (lb (isCor c (fre c [] [])))))) (.s (lb false))))) (by
  dsimp only [teasy, P_c_sValid]
  have g2 := fre_len c [] []
  with_reducible repeat' (first | apply And.intro | exact zR | (intro; skip) | apply mIc | apply mOc | apply mSc | apply mLc | apply c_sIsCore | apply c_sFree)
  all_goals (try simp only [std, inj] at *)
  all_goals with_reducible repeat' apply And.intro
  all_goals (try (first | with_reducible apply c_sIsCore | with_reducible apply c_sFree | (simp only [← List.map_append]; first | with_reducible apply c_sIsCore | with_reducible apply c_sFree)))
  all_goals (try (first | exact z | exact zM | grind [isCor, smC, valC, snocI, snocS, rowSnoc])))
abbrev P_c_iShape (c : Core) : Ct := ⟨117, [], [coreA c], [], .sv (lb (shI c))⟩
def lc_iShapeLa (c : Core) : Lp Nat := .mk 175 0 (fun x => [(133, ll (List.map coreC c.kids)), (134, li (↑(List.map coreC c.kids).length : Int)), (135, hs x 0)]) (fun x => []) (fun
 k => [.s (li (↑k : Int))]) (fun k => k ≤ c.kids.length ∧ c.kids.length ≤ 9223372036854775807 ∧ ((List.take k c.kids).all fun x => !decide (x.kind = 8)) = true) (fun k =>
 c.kids.length - k) [.mk ((c.kids.all fun x => !decide (x.kind = 8)) = true) (.exit 1) (fun x => []) (fun x => []) [], .mk ((c.kids.all fun x => !decide (x.kind = 8)) = false) .ret
 (fun x => [(2, hs x 0)]) (fun x => []) [.s (lb false)]]
theorem Sc_iShapeLa (c : Core) : Lp.Sem Tryd.prog (loopAt Tryd.f117 0) (lc_iShapeLa c) := lpOK (fun k => .i ((↑k : Int) < (↑(List.map coreC c.kids).length : Int)) (.x (↑k : Int)
 (List.map coreC c.kids) (coreF (c.kids.getD k default)) (.i ((c.kids.getD k default).kind = 8) (.o 1 [] [.s (lb false)]) (.r ((↑k : Int) + 1) (.g [] (k + 1) [.s (li ((↑k : Int) +
 1))])))) (.o 0 [] [])) (by
  intro k h; try dsimp only [teasy, nthW, lc_iShapeLa] at h ⊢
  with_reducible repeat' (first | apply And.intro | exact zR | (intro; skip) | apply mIc | apply mOc | apply mSc | apply mLc)
  all_goals (try simp only [std, inj] at *)
  all_goals with_reducible repeat' apply And.intro
  all_goals (try (first | exact z | exact zM | grind [take_get, snocI, snocS, rowSnoc])))
theorem c_iShape (c : Core)  : P_c_iShape c := fnOK Tryd.call117 Tryd.func117 (let v1 := (↑(List.map coreC c.kids).length : Int); let v2 := (↑(List.map intC c.params).length : Int);
 let v3 := (14 ≤ 9223372036854775807); let v4 := (lb (decide (c.number < 14))); let v5 := (0 ≤ c.number); let v6 := (c.kind = 11); let v7 := (lb (decide (v1 = 1))); let v8 := (v2 =
 0); let v9 := (v1 = 0); let v10 := (lb (decide (v1 ≤ 60))); let v11 := (lb (decide (v1 ≤ 9))); let v12 := (lb (decide (v1 = 3))); let v13 := (1 ≤ v1); let v14 := (c.kind = 10);
 let v15 := (lb (isDat c.datum)); let v16 := (c_iIsDatum c.datum); let v17 := (c.kind = 9); let v18 := (c.kind = 8); let v19 := (c.kind = 7); let v20 := (c.kind = 6); let v21 :=
 (c.kind = 5); let v22 := (c.kind = 4); let v23 := (c.kind = 3); let v24 := (c.kind = 2); let v25 := (c.kind = 1); let v26 := (v2 ≤ 60); let v27 := (60 < v1); let v28 := (v2 ≤ 8);
 let v29 := (v2 ≠ 0); let v30 := (v2 = 1); let v31 := (v1 < 2); let v32 := (lb (decide v9)); let v33 := (1 ≤ v2); .w (.draw []) (.z intC c.params (.z coreC c.kids (.i (c.kind ≠ 1)
 (.c [.rd, .rd] (c_iEqData c.datum (Datum.mk 0 0 (ByteArray.mk #[]) [])) (.b (!decide (c.datum = Datum.mk 0 0 (ByteArray.mk #[]) [])) (.s (lb false)) (.i (c.number ≠ 0) (.i (c.kind
 ≠ 2) (.i (c.kind ≠ 3) (.i (c.kind ≠ 4) (.s (lb false)) (.i v25 (.i v8 (.i v9 (.c [.rd] v16 (.s v15)) (.s (lb false))) (.y false (.s (lb false)))) (.i v24 (.i v8 (.s v32) (.s (lb
 false))) (.i v23 (.w (.draw []) (.i v8 (.i v9 (.i v5 (.c [] c_iPrimitiveNames (.h v3 (.s v4))) (.s (lb false))) (.y false (.s (lb false)))) (.y false (.y false (.s (lb false))))))
 (.i v22 (.i v8 (.s v7) (.s (lb false))) (.i v21 (.i v28 (.s v7) (.s (lb false))) (.i v20 (.i v8 (.i v13 (.s v11) (.s (lb false))) (.y false (.s (lb false)))) (.i v19 (.i v8 (.s
 v12) (.s (lb false))) (.i v18 (.i v29 (.y true (.y true (.s (lb false)))) (.i v31 (.y true (.s (lb false))) (.i v27 (.s (lb false)) (.z coreC c.kids (.l (lc_iShapeLa c)
 (Sc_iShapeLa c) [] [.s (li 0)] 0 (.t (.s (lb true)) (.t (.s (lb false)) .q))))))) (.i v17 (.i v33 (.i v26 (.i v13 (.s v10) (.s (lb false))) (.y false (.s (lb false)))) (.y false
 (.y false (.s (lb false))))) (.i v14 (.i v8 (.s v7) (.s (lb false))) (.i v6 (.i v30 (.s v7) (.s (lb false))) (.s (lb false)))))))))))))) (.y false (.i v25 (.i v8 (.i v9 (.c [.rd]
 v16 (.s v15)) (.s (lb false))) (.y false (.s (lb false)))) (.i v24 (.i v8 (.s v32) (.s (lb false))) (.i v23 (.w (.draw []) (.i v8 (.i v9 (.i v5 (.c [] c_iPrimitiveNames (.h v3 (.s
 v4))) (.s (lb false))) (.y false (.s (lb false)))) (.y false (.y false (.s (lb false)))))) (.i v22 (.i v8 (.s v7) (.s (lb false))) (.i v21 (.i v28 (.s v7) (.s (lb false))) (.i v20
 (.i v8 (.i v13 (.s v11) (.s (lb false))) (.y false (.s (lb false)))) (.i v19 (.i v8 (.s v12) (.s (lb false))) (.i v18 (.i v29 (.y true (.y true (.s (lb false)))) (.i v31 (.y true
 (.s (lb false))) (.i v27 (.s (lb false)) (.z coreC c.kids (.l (lc_iShapeLa c) (Sc_iShapeLa c) [] [.s (li 0)] 0 (.t (.s (lb true)) (.t (.s (lb false)) .q))))))) (.i v17 (.i v33 (.i
 v26 (.i v13 (.s v10) (.s (lb false))) (.y false (.s (lb false)))) (.y false (.y false (.s (lb false))))) (.i v14 (.i v8 (.s v7) (.s (lb false))) (.i v6 (.i v30 (.s v7) (.s (lb
 false))) (.s (lb false))))))))))))))) (.y false (.y false (.i v25 (.i v8 (.i v9 (.c [.rd] v16 (.s v15)) (.s (lb false))) (.y false (.s (lb false)))) (.i v24 (.i v8 (.s v32) (.s
 (lb false))) (.i v23 (.w (.draw []) (.i v8 (.i v9 (.i v5 (.c [] c_iPrimitiveNames (.h v3 (.s v4))) (.s (lb false))) (.y false (.s (lb false)))) (.y false (.y false (.s (lb
 false)))))) (.i v22 (.i v8 (.s v7) (.s (lb false))) (.i v21 (.i v28 (.s v7) (.s (lb false))) (.i v20 (.i v8 (.i v13 (.s v11) (.s (lb false))) (.y false (.s (lb false)))) (.i v19
 (.i v8 (.s v12) (.s (lb false))) (.i v18 (.i v29 (.y true (.y true (.s (lb false)))) (.i v31 (.y true (.s (lb false))) (.i v27 (.s (lb false)) (.z coreC c.kids (.l (lc_iShapeLa c)
 (Sc_iShapeLa c) [] [.s (li 0)] 0 (.t (.s (lb true)) (.t (.s (lb false)) .q))))))) (.i v17 (.i v33 (.i v26 (.i v13 (.s v10) (.s (lb false))) (.y false (.s (lb false)))) (.y false
 (.y false (.s (lb false))))) (.i v14 (.i v8 (.s v7) (.s (lb false))) (.i v6 (.i v30 (.s v7) (.s (lb false))) (.s (lb false)))))))))))))))) (.y false (.y false (.y false (.i v25
 (.i v8 (.i v9 (.c [.rd] v16 (.s v15)) (.s (lb false))) (.y false (.s (lb false)))) (.i v24 (.i v8 (.s v32) (.s (lb false))) (.i v23 (.w (.draw []) (.i v8 (.i v9 (.i v5 (.c []
 c_iPrimitiveNames (.h v3 (.s v4))) (.s (lb false))) (.y false (.s (lb false)))) (.y false (.y false (.s (lb false)))))) (.i v22 (.i v8 (.s v7) (.s (lb false))) (.i v21 (.i v28 (.s
 v7) (.s (lb false))) (.i v20 (.i v8 (.i v13 (.s v11) (.s (lb false))) (.y false (.s (lb false)))) (.i v19 (.i v8 (.s v12) (.s (lb false))) (.i v18 (.i v29 (.y true (.y true (.s
 (lb false)))) (.i v31 (.y true (.s (lb false))) (.i v27 (.s (lb false)) (.z coreC c.kids (.l (lc_iShapeLa c) (Sc_iShapeLa c) [] [.s (li 0)] 0 (.t (.s (lb true)) (.t (.s (lb
 false)) .q))))))) (.i v17 (.i v33 (.i v26 (.i v13 (.s v10) (.s (lb false))) (.y false (.s (lb false)))) (.y false (.y false (.s (lb false))))) (.i v14 (.i v8 (.s v7) (.s (lb
 false))) (.i v6 (.i v30 (.s v7) (.s (lb false))) (.s (lb false))))))))))))))))))) (.y false (.i (c.number ≠ 0) (.i (c.kind ≠ 2) (.i (c.kind ≠ 3) (.i (c.kind ≠ 4) (.s (lb false))
 (.i v25 (.i v8 (.i v9 (.c [.rd] v16 (.s v15)) (.s (lb false))) (.y false (.s (lb false)))) (.i v24 (.i v8 (.s v32) (.s (lb false))) (.i v23 (.w (.draw []) (.i v8 (.i v9 (.i v5 (.c
 [] c_iPrimitiveNames (.h v3 (.s v4))) (.s (lb false))) (.y false (.s (lb false)))) (.y false (.y false (.s (lb false)))))) (.i v22 (.i v8 (.s v7) (.s (lb false))) (.i v21 (.i v28
 (.s v7) (.s (lb false))) (.i v20 (.i v8 (.i v13 (.s v11) (.s (lb false))) (.y false (.s (lb false)))) (.i v19 (.i v8 (.s v12) (.s (lb false))) (.i v18 (.i v29 (.y true (.y true
 (.s (lb false)))) (.i v31 (.y true (.s (lb false))) (.i v27 (.s (lb false)) (.z coreC c.kids (.l (lc_iShapeLa c) (Sc_iShapeLa c) [] [.s (li 0)] 0 (.t (.s (lb true)) (.t (.s (lb
 false)) .q))))))) (.i v17 (.i v33 (.i v26 (.i v13 (.s v10) (.s (lb false))) (.y false (.s (lb false)))) (.y false (.y false (.s (lb false))))) (.i v14 (.i v8 (.s v7) (.s (lb
 false))) (.i v6 (.i v30 (.s v7) (.s (lb false))) (.s (lb false)))))))))))))) (.y false (.i v25 (.i v8 (.i v9 (.c [.rd] v16 (.s v15)) (.s (lb false))) (.y false (.s (lb false))))
 (.i v24 (.i v8 (.s v32) (.s (lb false))) (.i v23 (.w (.draw []) (.i v8 (.i v9 (.i v5 (.c [] c_iPrimitiveNames (.h v3 (.s v4))) (.s (lb false))) (.y false (.s (lb false)))) (.y
 false (.y false (.s (lb false)))))) (.i v22 (.i v8 (.s v7) (.s (lb false))) (.i v21 (.i v28 (.s v7) (.s (lb false))) (.i v20 (.i v8 (.i v13 (.s v11) (.s (lb false))) (.y false (.s
 (lb false)))) (.i v19 (.i v8 (.s v12) (.s (lb false))) (.i v18 (.i v29 (.y true (.y true (.s (lb false)))) (.i v31 (.y true (.s (lb false))) (.i v27 (.s (lb false)) (.z coreC
 c.kids (.l (lc_iShapeLa c) (Sc_iShapeLa c) [] [.s (li 0)] 0 (.t (.s (lb true)) (.t (.s (lb false)) .q))))))) (.i v17 (.i v33 (.i v26 (.i v13 (.s v10) (.s (lb false))) (.y false
 (.s (lb false)))) (.y false (.y false (.s (lb false))))) (.i v14 (.i v8 (.s v7) (.s (lb false))) (.i v6 (.i v30 (.s v7) (.s (lb false))) (.s (lb false))))))))))))))) (.y false (.y
 false (.i v25 (.i v8 (.i v9 (.c [.rd] v16 (.s v15)) (.s (lb false))) (.y false (.s (lb false)))) (.i v24 (.i v8 (.s v32) (.s (lb false))) (.i v23 (.w (.draw []) (.i v8 (.i v9 (.i
 v5 (.c [] c_iPrimitiveNames (.h v3 (.s v4))) (.s (lb false))) (.y false (.s (lb false)))) (.y false (.y false (.s (lb false)))))) (.i v22 (.i v8 (.s v7) (.s (lb false))) (.i v21
 (.i v28 (.s v7) (.s (lb false))) (.i v20 (.i v8 (.i v13 (.s v11) (.s (lb false))) (.y false (.s (lb false)))) (.i v19 (.i v8 (.s v12) (.s (lb false))) (.i v18 (.i v29 (.y true (.y
 true (.s (lb false)))) (.i v31 (.y true (.s (lb false))) (.i v27 (.s (lb false)) (.z coreC c.kids (.l (lc_iShapeLa c) (Sc_iShapeLa c) [] [.s (li 0)] 0 (.t (.s (lb true)) (.t (.s
 (lb false)) .q))))))) (.i v17 (.i v33 (.i v26 (.i v13 (.s v10) (.s (lb false))) (.y false (.s (lb false)))) (.y false (.y false (.s (lb false))))) (.i v14 (.i v8 (.s v7) (.s (lb
 false))) (.i v6 (.i v30 (.s v7) (.s (lb false))) (.s (lb false)))))))))))))))) (.y false (.y false (.y false (.i v25 (.i v8 (.i v9 (.c [.rd] v16 (.s v15)) (.s (lb false))) (.y
 false (.s (lb false)))) (.i v24 (.i v8 (.s v32) (.s (lb false))) (.i v23 (.w (.draw []) (.i v8 (.i v9 (.i v5 (.c [] c_iPrimitiveNames (.h v3 (.s v4))) (.s (lb false))) (.y false
 (.s (lb false)))) (.y false (.y false (.s (lb false)))))) (.i v22 (.i v8 (.s v7) (.s (lb false))) (.i v21 (.i v28 (.s v7) (.s (lb false))) (.i v20 (.i v8 (.i v13 (.s v11) (.s (lb
 false))) (.y false (.s (lb false)))) (.i v19 (.i v8 (.s v12) (.s (lb false))) (.i v18 (.i v29 (.y true (.y true (.s (lb false)))) (.i v31 (.y true (.s (lb false))) (.i v27 (.s (lb
 false)) (.z coreC c.kids (.l (lc_iShapeLa c) (Sc_iShapeLa c) [] [.s (li 0)] 0 (.t (.s (lb true)) (.t (.s (lb false)) .q))))))) (.i v17 (.i v33 (.i v26 (.i v13 (.s v10) (.s (lb
 false))) (.y false (.s (lb false)))) (.y false (.y false (.s (lb false))))) (.i v14 (.i v8 (.s v7) (.s (lb false))) (.i v6 (.i v30 (.s v7) (.s (lb false))) (.s (lb
 false)))))))))))))))))))))) (by
  dsimp only [teasy, P_c_iShape, nthW, lc_iShapeLa]
  have e : primNames.length = 14 := rfl
  with_reducible repeat' (first | apply And.intro | exact zR | (intro; skip) | apply mIc | apply mOc | apply mSc | apply mLc)
  all_goals (try simp only [std, inj] at *)
  all_goals with_reducible repeat' apply And.intro
  all_goals (try (first | exact z | exact zM | grind [shC, shI, sqC, snocI, snocS, rowSnoc])))
abbrev P_c_iMeaC (c : Core) (deep : Int) (q : Int) : Ct := ⟨84, [.box [vI q]], [coreA c, li deep, .one (.ptr 0 0)], [.box [vI (meaC c deep q).2]], .sv (lb (meaC c deep q).1)⟩
def lc_iMeaC_sLa (c : Core) (deep : Int) (q : Int) : Lp Nat := .mk 41 1 (fun x => [(1, li deep), (2, SV.one (AC.ptr 0 0)), (28, ll (List.map coreC c.kids)), (29, li (↑(List.map
 coreC c.kids).length : Int)), (30, hs x 0)]) (fun x => [Ob.box [ha x 1]]) (fun k => [.s (li (↑k : Int)), .a (vI (scan (fun x m => meaC x (deep + 1) m) (List.take k c.kids) (q +
 1)).snd)]) (fun k => k ≤ c.kids.length ∧ c.kids.length ≤ 9223372036854775807 ∧ deep ≤ 150 ∧ (scan (fun x m => meaC x (deep + 1) m) (List.take k c.kids) (q + 1)).fst = true ∧ q ≤
 (scan (fun x m => meaC x (deep + 1) m) (List.take k c.kids) (q + 1)).snd ∧ (scan (fun x m => meaC x (deep + 1) m) (List.take k c.kids) (q + 1)).snd ≤ 3000) (fun k => c.kids.length
 - k) [.mk ((scan (fun x m => meaC x (deep + 1) m) c.kids (q + 1)).fst = true) (.exit 0) (fun x => []) (fun x => [Ob.box [ha x 0]]) [.a (vI (scan (fun x m => meaC x (deep + 1) m)
 c.kids (q + 1)).snd)], .mk ((scan (fun x m => meaC x (deep + 1) m) c.kids (q + 1)).fst = false) .ret (fun x => [(6, hs x 0)]) (fun x => [Ob.box [ha x 1]]) [.s (lb false), .a (vI
 (scan (fun x m => meaC x (deep + 1) m) c.kids (q + 1)).snd)]]
theorem Sc_iMeaC_sLa (c : Core) (deep : Int) (q : Int) (h : 0 ≤ deep ∧ deep ≤ 151 ∧ 0 ≤ q ∧ q ≤ 3000) (ih : ∀ (z : Core), z ∈ c.kids → ∀ (deep q : Int), 0 ≤ deep ∧ deep ≤ 151 ∧ 0 ≤
 q ∧ q ≤ 3000 → OK (P_c_iMeaC z deep q)) : Lp.Sem Tryd.prog (loopAt Tryd.f84 0) (lc_iMeaC_sLa c deep q) := lpOK (fun k => .i ((↑k : Int) < (↑(List.map coreC c.kids).length : Int))
 (.x (↑k : Int) (List.map coreC c.kids) (coreF (c.kids.getD k default)) (.r (deep + 1) (.d [.rd, .rd, .ptr] (P_c_iMeaC (c.kids.getD k default) (deep + 1) (scan (fun x m => meaC x
 (deep + 1) m) (List.take k c.kids) (q + 1)).snd) (.b (!(meaC (c.kids.getD k default) (deep + 1) (scan (fun x m => meaC x (deep + 1) m) (List.take k c.kids) (q + 1)).snd).fst) (.o
 1 [0] [.s (lb false), .a (vI (meaC (c.kids.getD k default) (deep + 1) (scan (fun x m => meaC x (deep + 1) m) (List.take k c.kids) (q + 1)).snd).snd)]) (.r ((↑k : Int) + 1) (.g [0]
 (k + 1) [.s (li ((↑k : Int) + 1)), .a (vI (meaC (c.kids.getD k default) (deep + 1) (scan (fun x m => meaC x (deep + 1) m) (List.take k c.kids) (q + 1)).snd).snd)])))))) (.o 0 [0]
 [.a (vI (scan (fun x m => meaC x (deep + 1) m) (List.take k c.kids) (q + 1)).snd)])) (by
  intro k h; try dsimp only [teasy, nthW, lc_iMeaC_sLa] at h ⊢
  have g1 := fun x m => meaC_of x (deep + 1) m
  with_reducible repeat' (first | apply And.intro | exact zR | exact ih | (intro; skip) | apply mIc | apply mOc | apply mSc | apply mLc | apply ih)
  all_goals (try simp only [std, inj] at *)
  all_goals with_reducible repeat' apply And.intro
  all_goals (try (first | with_reducible apply ih | (simp only [← List.map_append]; first | with_reducible apply ih)))
  all_goals (try (first | exact z | exact zM | grind [scan_step, scan_stop, getD_mem', snocI, snocS, rowSnoc])))
theorem c_iMeaC_s (c : Core) (deep q : Int) (h : 0 ≤ deep ∧ deep ≤ 151 ∧ 0 ≤ q ∧ q ≤ 3000) (ih : ∀ z ∈ c.kids, ∀ (deep : Int) (q : Int) (h : 0 ≤ deep ∧ deep ≤ 151 ∧ 0 ≤ q ∧ q ≤
 3000), P_c_iMeaC z deep q)  : P_c_iMeaC c deep q := fnOK Tryd.call84 Tryd.func84 (.r (q + 1) (.i (150 < deep) (.y true (.y true (.f [] [Ob.box [vI (q + 1)]] (AV.sv (lb false)))))
 (.i (3000 < q + 1) (.y true (.f [] [Ob.box [vI (q + 1)]] (AV.sv (lb false)))) (.c [.rd] (c_iShape c) (.b (!shI c) (.f [] [Ob.box [vI (q + 1)]] (AV.sv (lb false))) (.z coreC c.kids
 (.l (lc_iMeaC_sLa c deep q) (Sc_iMeaC_sLa c deep q h ih) [0] [.s (li 0), .a (vI (q + 1))] 0 (.t (.f [] [Ob.box [vI (scan (fun x m => meaC x (deep + 1) m) c.kids (q + 1)).snd]]
 (AV.sv (lb true))) (.t (.f [] [Ob.box [vI (scan (fun x m => meaC x (deep + 1) m) c.kids (q + 1)).snd]] (AV.sv (lb false))) .q))))))))) (by
  dsimp only [teasy, P_c_iMeaC, nthW, lc_iMeaC_sLa]
  with_reducible repeat' (first | apply And.intro | exact zR | exact ih | (intro; skip) | apply mIc | apply mOc | apply mSc | apply mLc)
  all_goals (try simp only [std, inj] at *)
  all_goals with_reducible repeat' apply And.intro
  all_goals (try (first | with_reducible apply ih | (simp only [← List.map_append]; first | with_reducible apply ih)))
  all_goals (try (first | exact z | exact zM | grind [meaC_eq, scan, snocI, snocS, rowSnoc])))
theorem c_iMeaC (c : Core) : ∀ (deep : Int) (q : Int) (h : 0 ≤ deep ∧ deep ≤ 151 ∧ 0 ≤ q ∧ q ≤ 3000), P_c_iMeaC c deep q := Core.ind (P := fun c => ∀ (deep : Int) (q : Int) (h : 0 ≤ deep ∧ deep ≤ 151 ∧ 0 ≤ q ∧ q ≤ 3000), P_c_iMeaC c deep q) (fun c ih deep q h => c_iMeaC_s c deep q h ih) c
abbrev P_c_iDiff (Ls : List (List Int)) : Ct := ⟨85, [], [ll (Ls.map lintC)], [], .sv (lb (okU Ls.flatten))⟩
def lc_iDiffLb (Ls : List (List Int)) (k : Nat) : Lp Nat := .mk 37 0 (fun x => [(3, SV.one (AC.mref 0)), (9, ll (List.map lintC Ls)), (10, li (↑(List.map lintC Ls).length : Int)),
 (11, li (↑k : Int)), (15, ll (List.map intC (Ls.getD k []))), (16, li (↑(List.map intC (Ls.getD k [])).length : Int)), (17, hs x 0)]) (fun x => [ho x 1]) (fun k1 => [.s (li (↑k1 :
 Int)), .o (Ob.map false kI (mI (memI ((List.take k Ls).flatten ++ List.take k1 (Ls.getD k [])))))]) (fun k1 => k1 ≤ (Ls.getD k []).length ∧ (Ls.getD k []).length ≤
 9223372036854775807 ∧ k < Ls.length ∧ okU ((List.take k Ls).flatten ++ List.take k1 (Ls.getD k [])) = true) (fun k1 => (Ls.getD k []).length - k1) [.mk (okU (List.take (k + 1)
 Ls).flatten = true) (.exit 2) (fun x => [(3, SV.one (AC.mref 0)), (9, ll (List.map lintC Ls)), (10, li (↑(List.map lintC Ls).length : Int)), (11, li (↑k : Int))]) (fun x => [ho x
 0]) [.o (Ob.map false kI (mI (memI (List.take (k + 1) Ls).flatten)))], .mk (okU Ls.flatten = false) .ret (fun x => [(2, hs x 0)]) (fun x => []) [.s (lb false)]]
def lc_iDiffLa (Ls : List (List Int)) : Lp Nat := .mk 37 0 (fun x => [(3, SV.one (AC.mref 0)), (9, ll (List.map lintC Ls)), (10, li (↑(List.map lintC Ls).length : Int)), (11, hs x
 0)]) (fun x => [ho x 1]) (fun k => [.s (li (↑k : Int)), .o (Ob.map false kI (mI (memI (List.take k Ls).flatten)))]) (fun k => k ≤ Ls.length ∧ Ls.length ≤ 9223372036854775807 ∧ okU
 (List.take k Ls).flatten = true) (fun k => Ls.length - k) [.mk (okU Ls.flatten = true) (.exit 0) (fun x => []) (fun x => []) [], .mk (okU Ls.flatten = false) .ret (fun x => [(2,
 hs x 0)]) (fun x => []) [.s (lb false)]]
theorem Sc_iDiffLb (Ls : List (List Int)) (k : Nat) : Lp.Sem Tryd.prog (loopAt Tryd.f85 1) (lc_iDiffLb Ls k) := lpOK (fun k1 => .i ((↑k1 : Int) < (↑(List.map intC (Ls.getD k
 [])).length : Int)) (.x (↑k1 : Int) (List.map intC (Ls.getD k [])) [cI ((Ls.getD k []).getD k1 0)] (.i ((Ls.getD k []).getD k1 (0 : Int) < 0) (.y true (.y true (.o 1 [] [.s (lb
 false)]))) (.i (99999 < (Ls.getD k []).getD k1 0) (.y true (.o 1 [] [.s (lb false)])) (.w (.cells [cI (memI ((List.take k Ls).flatten ++ List.take k1 (Ls.getD k [])) ((Ls.getD k
 []).getD k1 0))]) (.p (LookAt (Value.int IntKind.i64 0) (mI (memI ((List.take k Ls).flatten ++ List.take k1 (Ls.getD k [])))) (Value.int IntKind.i64 ((Ls.getD k []).getD k1 0))
 (cI (memI ((List.take k Ls).flatten ++ List.take k1 (Ls.getD k [])) ((Ls.getD k []).getD k1 0)))) (.i (memI ((List.take k Ls).flatten ++ List.take k1 (Ls.getD k [])) ((Ls.getD k
 []).getD k1 0) = 1) (.o 1 [] [.s (lb false)]) (.w (.upd (mI (upd1 (memI ((List.take k Ls).flatten ++ List.take k1 (Ls.getD k []))) ((Ls.getD k []).getD k1 0) 1))) (.p (false =
 false) (.p (UpdF kI.d (mI (memI ((List.take k Ls).flatten ++ List.take k1 (Ls.getD k [])))) (mI (upd1 (memI ((List.take k Ls).flatten ++ List.take k1 (Ls.getD k []))) ((Ls.getD k
 []).getD k1 0) 1)) (Value.int IntKind.i64 ((Ls.getD k []).getD k1 0)) (some (cI 1))) (.r ((↑k1 : Int) + 1) (.g [0] (k1 + 1) [.s (li ((↑k1 : Int) + 1)), .o (Ob.map false kI (mI
 (upd1 (memI ((List.take k Ls).flatten ++ List.take k1 (Ls.getD k []))) ((Ls.getD k []).getD k1 0) 1)))]))))))))))) (.o 0 [0] [.o (Ob.map false kI (mI (memI ((List.take k
 Ls).flatten ++ List.take k1 (Ls.getD k [])))))])) (by
  intro k1 h; try dsimp only [teasy, nthW, lc_iDiffLb] at h ⊢
  have g1 := @okU_part Ls k (k1 + 1)
  have g2 := @takeI (Ls.getD k []) k1
  have g3 := @okU_snoc ((Ls.take k).flatten ++ (Ls.getD k []).take k1) ((Ls.getD k []).getD k1 0)
  have g4 := @memI_one ((Ls.take k).flatten ++ (Ls.getD k []).take k1) ((Ls.getD k []).getD k1 0)
  have g5 : ∀ j, (Ls.getD k []).length ≤ j → (Ls.getD k []).take j = Ls.getD k [] := fun j h => List.take_of_length_le h
  with_reducible repeat' (first | apply And.intro | exact zR | (intro; skip) | apply mIc | apply mOc | apply mSc | apply mLc)
  all_goals (try simp only [std, inj] at *)
  all_goals with_reducible repeat' apply And.intro
  all_goals (try (first | exact z | exact zM | grind [takeLs, memI_snoc, List.append_assoc, snocI, snocS, rowSnoc])))
theorem Sc_iDiffLa (Ls : List (List Int)) : Lp.Sem Tryd.prog (loopAt Tryd.f85 0) (lc_iDiffLa Ls) := lpOK (fun k => .i ((↑k : Int) < (↑(List.map lintC Ls).length : Int)) (.x (↑k :
 Int) (List.map lintC Ls) [Cell.list (List.map intC (Ls.getD k []))] (.z intC (Ls.getD k []) (.l (lc_iDiffLb Ls k) (Sc_iDiffLb Ls k) [0] [.s (li 0), .o (Ob.map false kI (mI (memI
 (List.take k Ls).flatten)))] 0 (.t (.r ((↑k : Int) + 1) (.g [0] (k + 1) [.s (li ((↑k : Int) + 1)), .o (Ob.map false kI (mI (memI (List.take (k + 1) Ls).flatten)))])) (.t (.o 1 []
 [.s (lb false)]) .q))))) (.o 0 [] [])) (by
  intro k h; try dsimp only [teasy, nthW, lc_iDiffLa, lc_iDiffLb] at h ⊢
  with_reducible repeat' (first | apply And.intro | exact zR | (intro; skip) | apply mIc | apply mOc | apply mSc | apply mLc)
  all_goals (try simp only [std, inj] at *)
  all_goals with_reducible repeat' apply And.intro
  all_goals (try (first | exact z | exact zM | grind [takeLs, snocI, snocS, rowSnoc])))
theorem c_iDiff (Ls : List (List Int))  : P_c_iDiff Ls := fnOK Tryd.call85 Tryd.func85 (.w (.mkmap kI) (.z lintC Ls (.l (lc_iDiffLa Ls) (Sc_iDiffLa Ls) [0] [.s (li 0), .o (Ob.map
 false kI (mI zI))] 0 (.t (.s (lb true)) (.t (.s (lb false)) .q))))) (by
  dsimp only [teasy, P_c_iDiff, nthW, lc_iDiffLa]
  with_reducible repeat' (first | apply And.intro | exact zR | (intro; skip) | apply mIc | apply mOc | apply mSc | apply mLc)
  all_goals (try simp only [std, inj] at *)
  all_goals with_reducible repeat' apply And.intro
  all_goals (try (first | exact z | exact zM | grind [memI_nil, okU_nil, snocI, snocS, rowSnoc])))
abbrev P_c_iValid (c : Core) : Ct := ⟨47, [], [coreA c], [], .sv (lb (valC c))⟩
theorem c_iValid (c : Core) (h : wC c ≤ 90000000)  : P_c_iValid c := fnOK Tryd.call47 Tryd.func47 (.w (.draw [(1, [1]), (7, [10, 18])]) (.d [.rd, .rd, .ptr] (P_c_iMeaC c 1 0) (.b
 (meaC c 1 0).fst (.d [.rd] (P_c_iFree c) (.d [.rd] (P_c_iBoundVariables c) (.c [.rd] (c_iDiff [fre c [] [], bnd c]) (.s (lb (okU [fre c [] [], bnd c].flatten)))))) (.s (lb
 false))))) (by
  dsimp only [teasy, P_c_iValid]
  have g1 := bnd_le c
  have g2 := fre_len c [] []
  with_reducible repeat' (first | apply And.intro | exact zR | (intro; skip) | apply mIc | apply mOc | apply mSc | apply mLc | apply c_iMeaC | apply c_iBoundVariables | apply c_iFree)
  all_goals (try simp only [std, inj] at *)
  all_goals with_reducible repeat' apply And.intro
  all_goals (try (first | with_reducible apply c_iMeaC | with_reducible apply c_iBoundVariables | with_reducible apply c_iFree | (simp only [← List.map_append]; first | with_reducible apply c_iMeaC | with_reducible apply c_iBoundVariables | with_reducible apply c_iFree)))
  all_goals (try (first | exact z | exact zM | grind [valC, meaC_sm, snocI, snocS, rowSnoc])))
end Go.Proofs.YtpflccjienojfaaDoor
end
section
namespace Go.Proofs.YtpflccjienojfaaDoor
open Go Go.Proofs.YtpflccjienojfaaDoor.Ab
set_option linter.unusedVariables false
set_option linter.unusedSimpArgs false
set_option maxHeartbeats 4000000
abbrev P_c_sCopyD (x : Datum) : Ct := ⟨82, [], [datumA x], datumO x, .sv (datumR x 0)⟩
def lc_sCopyD_sLa (x : Datum) : Lp Nat := .mk 29 0 (fun x_1 => [(2, SV.one (AC.ptr 0 0)), (3, SV.one (AC.ptr 1 0)), (14, ll (List.map datumC x.items)), (15, li (↑(List.map datumC
 x.items).length : Int)), (16, hs x_1 0)]) (fun x_1 => [Ob.box [vI 0, vI 0, vS (ByteArray.mk #[]), AC.val (Cell.lit (Value.slice none 0 0))], Ob.box [vI x.kind, vI x.number, vS
 x.text, AC.ref 2], ho x_1 1]) (fun k => [.s (li (↑k : Int)), .o (Ob.arr true 4 (List.map datumC (List.take k x.items)))]) (fun k => k ≤ x.items.length ∧ x.items.length ≤
 9223372036854775807) (fun k => x.items.length - k) [.mk True (.exit 0) (fun x => [(2, SV.one (AC.ptr 0 0)), (3, SV.one (AC.ptr 1 0))]) (fun x_1 => [Ob.box [vI 0, vI 0, vS
 (ByteArray.mk #[]), AC.val (Cell.lit (Value.slice none 0 0))], Ob.box [vI x.kind, vI x.number, vS x.text, AC.ref 2], ho x_1 0]) [.o (Ob.arr true 4 (List.map datumC x.items))]]
theorem Sc_sCopyD_sLa (x : Datum) (h : wD x ≤ 1048576) (ih : ∀ (z : Datum), z ∈ x.items → wD z ≤ 1048576 → OK (P_c_sCopyD z)) : Lp.Sem Tryd.prog (loopAt Tryd.f82 0) (lc_sCopyD_sLa
 x) := lpOK (fun k => .i ((↑k : Int) < (↑(List.map datumC x.items).length : Int)) (.x (↑k : Int) (List.map datumC x.items) (datumF (x.items.getD k default)) (.w (.draw [(4, [4]),
 (5, [2, 12]), (7, [1])]) (.d [.rd] (P_c_sCopyD (x.items.getD k default)) (.p (((List.map datumC (List.take k x.items)).length + 1) * 56 ≤ 140737488355328) (.r ((↑k : Int) + 1) (.g
 [0, 1, 13] (k + 1) [.s (li ((↑k : Int) + 1)), .o (Ob.arr true 4 (List.map datumC (List.take k x.items) ++ [datumF (x.items.getD k default)]))])))))) (.o 0 [0, 1, 2] [.o (Ob.arr
 true 4 (List.map datumC (List.take k x.items)))])) (by
  intro k h; try dsimp only [teasy, nthW, lc_sCopyD_sLa] at h ⊢
  have g1 := wD_eq x
  have g2 := @sumBy_mem _ wD x.items (x.items.getD k default)
  with_reducible repeat' (first | apply And.intro | exact zR | exact ih | (intro; skip) | apply ih)
  all_goals (try simp only [std, inj] at *)
  all_goals with_reducible repeat' apply And.intro
  all_goals (try (first | with_reducible apply ih | (simp only [← List.map_append]; first | with_reducible apply ih)))
  all_goals (try (first | exact z | grind [take_get, getD_mem', snocI, snocS, rowSnoc, getD_mem'])))
theorem c_sCopyD_s (x : Datum) (h : wD x ≤ 1048576) (ih : ∀ z ∈ x.items, ∀ (h : wD z ≤ 1048576), P_c_sCopyD z)  : P_c_sCopyD x := fnOK Tryd.call82 Tryd.func82 (.z datumC x.items (.w
 (.ghost (.nilbox 2 3 true 4)) (.l (lc_sCopyD_sLa x) (Sc_sCopyD_sLa x h ih) [1, 2, 3] [.s (li 0), .o (Ob.arr true 4 [])] 0 (.t (.f [2] [Ob.arr true 4 (List.map datumC x.items)]
 (AV.sv (SV.agg [vI x.kind, vI x.number, vS x.text, AC.ref 0]))) .q)))) (by
  dsimp only [teasy, P_c_sCopyD, nthW, lc_sCopyD_sLa]
  with_reducible repeat' (first | apply And.intro | exact zR | exact ih | (intro; skip))
  all_goals (try simp only [std, inj] at *)
  all_goals with_reducible repeat' apply And.intro
  all_goals (try (first | with_reducible apply ih | (simp only [← List.map_append]; first | with_reducible apply ih)))
  all_goals (try (first | exact z | grind [snocI, snocS, rowSnoc])))
theorem c_sCopyD (x : Datum) : ∀ (h : wD x ≤ 1048576), P_c_sCopyD x := Datum.ind (P := fun x => ∀ (h : wD x ≤ 1048576), P_c_sCopyD x) (fun x ih h => c_sCopyD_s x h ih) x
end Go.Proofs.YtpflccjienojfaaDoor
end
