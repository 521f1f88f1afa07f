/- Modules that are drawn and right are read back from their text: the card of FnModuleText. No condition. -/
import Derived.Test.YtgeegppaaggcjaaDoorMoT1
import Derived.Test.YtgeegppaaggcjaaDoorCards
import Derived.Test.YtgeegppaaggcjaaDoorTie
import Derived.Deep.DeepHandedRow
import Derived.Lib.LaidTab
import Derived.Stop.LaidErr
section
namespace Go.Proofs.YtgeegppaaggcjaaDoor
open Go Go.Proofs.YtgeegppaaggcjaaDoor.Ab
set_option linter.unusedVariables false
set_option linter.unusedSimpArgs false
set_option maxHeartbeats 4000000
abbrev P_c_sBlank (n : Int) : Ct := ⟨61, [], [lu n], [], .sv (lb (isBl n))⟩
theorem c_sBlank (n : Int)  : P_c_sBlank n := fnOK Tryd.call61 Tryd.func61 (.i (n = 32) (.y true (.s (lb true))) (.i (n = 10) (.s (lb true)) (.s (lb (decide (n = 9)))))) (by
  dsimp only [teasy, P_c_sBlank]
  with_reducible repeat' (first | apply And.intro | exact zR | (intro; skip))
  all_goals (try simp only [std, inj] at *)
  all_goals with_reducible repeat' apply And.intro
  all_goals (try (first | exact z | grind [isBl, snocI, snocS, rowSnoc])))
abbrev P_c_sEnds (n : Int) : Ct := ⟨69, [], [lu n], [], .sv (lb (isEn n))⟩
theorem c_sEnds (n : Int)  : P_c_sEnds n := fnOK Tryd.call69 Tryd.func69 (.i (n = 40) (.y true (.y true (.y true (.s (lb true))))) (.i (n = 41) (.y true (.y true (.s (lb true)))) (.i
 (n = 34) (.y true (.s (lb true))) (.i (n = 59) (.s (lb true)) (.s (lb (decide (n = 39)))))))) (by
  dsimp only [teasy, P_c_sEnds]
  with_reducible repeat' (first | apply And.intro | exact zR | (intro; skip))
  all_goals (try simp only [std, inj] at *)
  all_goals with_reducible repeat' apply And.intro
  all_goals (try (first | exact z | grind [isEn, snocI, snocS, rowSnoc])))
abbrev P_c_iEnds (n : Int) : Ct := ⟨43, [], [lu n], [], .sv (lb (!isRu n))⟩
theorem c_iEnds (n : Int)  : P_c_iEnds n := fnOK Tryd.call43 Tryd.func43 (.i (n = 32) (.y true (.s (lb true))) (.i (n = 10) (.y true (.s (lb true))) (.i (n = 9) (.y true (.s (lb
 true))) (.i (n = 40) (.y true (.s (lb true))) (.i (n = 41) (.y true (.s (lb true))) (.i (n = 34) (.y true (.s (lb true))) (.i (n = 59) (.y true (.s (lb true))) (.i (n = 39) (.s
 (lb true)) (.s (lb false)))))))))) (by
  dsimp only [teasy, P_c_iEnds]
  with_reducible repeat' (first | apply And.intro | exact zR | (intro; skip))
  all_goals (try simp only [std, inj] at *)
  all_goals with_reducible repeat' apply And.intro
  all_goals (try (first | exact z | grind [isRu, isEn, isBl, snocI, snocS, rowSnoc])))
theorem sk_go {s : ByteArray} {a : Nat} (h : a < s.size) (hp : isBl (byt s a) = true) : sk s (a + 1) = sk s a := pst_go isBl h hp
theorem sk_stop {s : ByteArray} {a : Nat} (h : a ≤ s.size) (hp : a < s.size → isBl (byt s a) = false) : sk s a = a := pst_stop isBl h hp
theorem noc_no {s : ByteArray} {a k : Nat} (h : k < s.size) (hk : sk s k = sk s a) (hb : byt s k = 59) : noc s a = false := by
  have h1 : sk s k = k := sk_stop (by omega) fun _ => by rw [hb]; decide
  rw [hk] at h1
  unfold noc; rw [h1, hb]; simp [h]
abbrev P_c_sSkip (s : ByteArray) (a : Nat) (b : Bool) : Ct := ⟨48, [.box [vS s, vI (a : Nat), vB b]], [.one (.ptr 0 0)], [.box [vS s, vI (sk s a : Nat), vB b]], .tup []⟩
def lc_sSkipLb (s : ByteArray) (a : Nat) (b : Bool) (k : Nat) : Lp Nat := .mk 82 1 (fun x => [(0, SV.one (AC.ptr 0 0))]) (fun x => [Ob.box [vS s, ha x 0, vB b]]) (fun k1 => [.a (vI
 (↑(k + k1) : Int))]) (fun k1 => k < k ∧ k1 ≤ s.size) (fun k1 => s.size - k1) [.mk True (.exit 2) (fun x => [(0, SV.one (AC.ptr 0 0))]) (fun x => [Ob.box [vS s, ha x 0, vB b]]) [.a
 (vI (↑k : Int))]]
def lc_sSkipLa (s : ByteArray) (a : Nat) (b : Bool) : Lp Nat := .mk 82 1 (fun x => [(0, SV.one (AC.ptr 0 0))]) (fun x => [Ob.box [vS s, ha x 0, vB b]]) (fun k => [.a (vI (↑k :
 Int))]) (fun k => a ≤ k ∧ k ≤ s.size ∧ sk s k = sk s a ∧ noc s a = true) (fun k => s.size - k) [.mk True (.exit 0) (fun x => []) (fun x => [Ob.box [vS s, ha x 0, vB b]]) [.a (vI
 (↑(sk s a) : Int))]]
theorem Sc_sSkipLb (s : ByteArray) (a : Nat) (b : Bool) (h : a ≤ s.size ∧ noc s a = true) (k : Nat) : Lp.Sem Tryd.prog (loopAt Tryd.f48 1) (lc_sSkipLb s a b k) := lpOK (fun k1 =>
 .w (.draw []) (.i ((↑(k + k1) : Int) < (↑s.data.toList.length : Int)) (.p (0 ≤ (↑(k + k1) : Int) ∧ (↑(k + k1) : Int).toNat < s.data.toList.length) (.h (s.data.toList.length ≤
 9223372036854775807) (.i ((↑(s.data.toList.getD (↑(k + k1) : Int).toNat (0 : UInt8)).toNat : Int) ≠ 10) (.r ((↑(k + k1) : Int) + 1) (.g [0] 1 [.a (vI ((↑(k + k1) : Int) + 1))]))
 (.o 0 [0] [.a (vI (↑(k + k1) : Int))])))) (.h (s.data.toList.length ≤ 9223372036854775807) (.y false (.o 0 [0] [.a (vI (↑(k + k1) : Int))]))))) (by
  intro k1 h; try dsimp only [teasy, nthW, lc_sSkipLb] at h ⊢
  with_reducible repeat' (first | apply And.intro | exact zR | (intro; skip))
  all_goals (try simp only [std, inj] at *)
  all_goals with_reducible repeat' apply And.intro
  all_goals (try (first | exact z | grind [snocI, snocS, rowSnoc])))
theorem Sc_sSkipLa (s : ByteArray) (a : Nat) (b : Bool) (h : a ≤ s.size ∧ noc s a = true) : Lp.Sem Tryd.prog (loopAt Tryd.f48 0) (lc_sSkipLa s a b) := lpOK (fun k => .w (.draw [])
 (.i ((↑k : Int) < (↑s.data.toList.length : Int)) (.p (0 ≤ (↑k : Int) ∧ (↑k : Int).toNat < s.data.toList.length) (.c [.rd] (c_sBlank (↑(s.data.toList.getD (↑k : Int).toNat (0 :
 UInt8)).toNat : Int)) (.b (isBl (↑(s.data.toList.getD (↑k : Int).toNat (0 : UInt8)).toNat : Int)) (.h (s.data.toList.length ≤ 9223372036854775807) (.y true (.w (.draw []) (.p (0 ≤
 (↑k : Int) ∧ (↑k : Int).toNat < s.data.toList.length) (.i ((↑(s.data.toList.getD (↑k : Int).toNat (0 : UInt8)).toNat : Int) = 59) (.l (lc_sSkipLb s a b k) (Sc_sSkipLb s a b h k)
 [0] [.a (vI (↑k : Int))] 0 (.t (.g [0] k [.a (vI (↑k : Int))]) .q)) (.r ((↑k : Int) + 1) (.g [0] (k + 1) [.a (vI ((↑k : Int) + 1))]))))))) (.p (0 ≤ (↑k : Int) ∧ (↑k : Int).toNat <
 s.data.toList.length) (.h (s.data.toList.length ≤ 9223372036854775807) (.i ((↑(s.data.toList.getD (↑k : Int).toNat (0 : UInt8)).toNat : Int) = 59) (.w (.draw []) (.p (0 ≤ (↑k :
 Int) ∧ (↑k : Int).toNat < s.data.toList.length) (.i ((↑(s.data.toList.getD (↑k : Int).toNat (0 : UInt8)).toNat : Int) = 59) (.l (lc_sSkipLb s a b k) (Sc_sSkipLb s a b h k) [0] [.a
 (vI (↑k : Int))] 0 (.t (.g [0] k [.a (vI (↑k : Int))]) .q)) (.r ((↑k : Int) + 1) (.g [0] (k + 1) [.a (vI ((↑k : Int) + 1))]))))) (.o 0 [0] [.a (vI (↑k : Int))]))))))) (.h
 (s.data.toList.length ≤ 9223372036854775807) (.y false (.o 0 [0] [.a (vI (↑k : Int))]))))) (by
  intro k h; try dsimp only [teasy, nthW, lc_sSkipLa, lc_sSkipLb] at h ⊢
  have g1 := @sk_go s k
  have g2 := @sk_stop s k
  have g3 := @noc_no s a k
  with_reducible repeat' (first | apply And.intro | exact zR | (intro; skip))
  all_goals (try simp only [std, inj] at *)
  all_goals with_reducible repeat' apply And.intro
  all_goals (try (first | exact z | grind [byt, snocI, snocS, rowSnoc])))
theorem c_sSkip (s : ByteArray) (a : Nat) (b : Bool) (h : a ≤ s.size ∧ noc s a = true)  : P_c_sSkip s a b := fnOK Tryd.call48 Tryd.func48 (.l (lc_sSkipLa s a b) (Sc_sSkipLa s a b h)
 [0] [.a (vI (↑a : Int))] a (.t (.f [] [Ob.box [vS s, vI (↑(sk s a) : Int), vB b]] (AV.tup [])) .q)) (by
  dsimp only [teasy, P_c_sSkip, nthW, lc_sSkipLa]
  with_reducible repeat' (first | apply And.intro | exact zR | (intro; skip))
  all_goals (try simp only [std, inj] at *)
  all_goals with_reducible repeat' apply And.intro
  all_goals (try (first | exact z | grind [snocI, snocS, rowSnoc])))
abbrev P_c_iSkip (s : ByteArray) (a : Nat) (q : Int) : Ct := ⟨20, [.box [vS s, vI (a : Nat), vI q]], [.one (.ptr 0 0)], [.box [vS s, vI (sk s a : Nat), vI q]], .tup []⟩
def lc_iSkipLb (s : ByteArray) (a : Nat) (q : Int) (k : Nat) : Lp Nat := .mk 63 1 (fun x => [(0, SV.one (AC.ptr 0 0))]) (fun x => [Ob.box [vS s, ha x 0, vI q]]) (fun k1 => [.a (vI
 (↑(k + k1) : Int))]) (fun k1 => k < k ∧ k1 ≤ s.size) (fun k1 => s.size - k1) [.mk True (.exit 3) (fun x => [(0, SV.one (AC.ptr 0 0))]) (fun x => [Ob.box [vS s, ha x 0, vI q]]) [.a
 (vI (↑k : Int))]]
def lc_iSkipLa (s : ByteArray) (a : Nat) (q : Int) : Lp Nat := .mk 63 1 (fun x => [(0, SV.one (AC.ptr 0 0))]) (fun x => [Ob.box [vS s, ha x 0, vI q]]) (fun k => [.a (vI (↑k :
 Int))]) (fun k => a ≤ k ∧ k ≤ s.size ∧ sk s k = sk s a ∧ noc s a = true) (fun k => s.size - k) [.mk True (.exit 0) (fun x => []) (fun x => [Ob.box [vS s, ha x 0, vI q]]) [.a (vI
 (↑(sk s a) : Int))], .mk True .ret (fun x => []) (fun x => [Ob.box [vS s, ha x 0, vI q]]) [.a (vI (↑(sk s a) : Int))]]
theorem Sc_iSkipLb (s : ByteArray) (a : Nat) (q : Int) (h : a ≤ s.size ∧ noc s a = true) (k : Nat) : Lp.Sem Tryd.prog (loopAt Tryd.f20 1) (lc_iSkipLb s a q k) := lpOK (fun k1 => .w
 (.draw []) (.i ((↑(k + k1) : Int) < (↑s.data.toList.length : Int)) (.p (0 ≤ (↑(k + k1) : Int) ∧ (↑(k + k1) : Int).toNat < s.data.toList.length) (.h (s.data.toList.length ≤
 9223372036854775807) (.i ((↑(s.data.toList.getD (↑(k + k1) : Int).toNat (0 : UInt8)).toNat : Int) ≠ 10) (.r ((↑(k + k1) : Int) + 1) (.g [0] 1 [.a (vI ((↑(k + k1) : Int) + 1))]))
 (.o 0 [0] [.a (vI (↑(k + k1) : Int))])))) (.h (s.data.toList.length ≤ 9223372036854775807) (.y false (.o 0 [0] [.a (vI (↑(k + k1) : Int))]))))) (by
  intro k1 h; try dsimp only [teasy, nthW, lc_iSkipLb] at h ⊢
  with_reducible repeat' (first | apply And.intro | exact zR | (intro; skip))
  all_goals (try simp only [std, inj] at *)
  all_goals with_reducible repeat' apply And.intro
  all_goals (try (first | exact z | grind [snocI, snocS, rowSnoc])))
theorem Sc_iSkipLa (s : ByteArray) (a : Nat) (q : Int) (h : a ≤ s.size ∧ noc s a = true) : Lp.Sem Tryd.prog (loopAt Tryd.f20 0) (lc_iSkipLa s a q) := lpOK (fun k => .w (.draw [])
 (.h (s.data.toList.length ≤ 9223372036854775807) (.i ((↑k : Int) < (↑s.data.toList.length : Int)) (.w (.draw []) (.p (0 ≤ (↑k : Int) ∧ (↑k : Int).toNat < s.data.toList.length) (.i
 ((↑(s.data.toList.getD (↑k : Int).toNat (0 : UInt8)).toNat : Int) = 32) (.y true (.r ((↑k : Int) + 1) (.g [0] (k + 1) [.a (vI ((↑k : Int) + 1))]))) (.i ((↑(s.data.toList.getD (↑k
 : Int).toNat (0 : UInt8)).toNat : Int) = 10) (.y true (.r ((↑k : Int) + 1) (.g [0] (k + 1) [.a (vI ((↑k : Int) + 1))]))) (.i ((↑(s.data.toList.getD (↑k : Int).toNat (0 :
 UInt8)).toNat : Int) = 9) (.r ((↑k : Int) + 1) (.g [0] (k + 1) [.a (vI ((↑k : Int) + 1))])) (.i ((↑(s.data.toList.getD (↑k : Int).toNat (0 : UInt8)).toNat : Int) = 59) (.l
 (lc_iSkipLb s a q k) (Sc_iSkipLb s a q h k) [0] [.a (vI (↑k : Int))] 0 (.t (.g [0] k [.a (vI (↑k : Int))]) .q)) (.o 1 [0] [.a (vI (↑k : Int))]))))))) (.o 0 [0] [.a (vI (↑k :
 Int))])))) (by
  intro k h; try dsimp only [teasy, nthW, lc_iSkipLa, lc_iSkipLb] at h ⊢
  have g1 := @sk_go s k
  have g2 := @sk_stop s k
  have g3 := @noc_no s a k
  with_reducible repeat' (first | apply And.intro | exact zR | (intro; skip))
  all_goals (try simp only [std, inj] at *)
  all_goals with_reducible repeat' apply And.intro
  all_goals (try (first | exact z | grind [byt, isBl, snocI, snocS, rowSnoc])))
theorem c_iSkip (s : ByteArray) (a : Nat) (q : Int) (h : a ≤ s.size ∧ noc s a = true)  : P_c_iSkip s a q := fnOK Tryd.call20 Tryd.func20 (.l (lc_iSkipLa s a q) (Sc_iSkipLa s a q h)
 [0] [.a (vI (↑a : Int))] a (.t (.f [] [Ob.box [vS s, vI (↑(sk s a) : Int), vI q]] (AV.tup [])) (.t (.f [] [Ob.box [vS s, vI (↑(sk s a) : Int), vI q]] (AV.tup [])) .q))) (by
  dsimp only [teasy, P_c_iSkip, nthW, lc_iSkipLa]
  with_reducible repeat' (first | apply And.intro | exact zR | (intro; skip))
  all_goals (try simp only [std, inj] at *)
  all_goals with_reducible repeat' apply And.intro
  all_goals (try (first | exact z | grind [snocI, snocS, rowSnoc])))
abbrev nilI : AC := .val (.lit (.slice none 0 0))
theorem atm_num {t : ByteArray} {d : Datum} (h : atomO t = some d) (h1 : isNum t = true) : d = ⟨2, numV t, mkS [], []⟩ := by
  unfold atomO at h; rw [if_pos h1] at h; exact (Option.some.inj h).symm
theorem atm_t {t : ByteArray} {d : Datum} (h : atomO t = some d) (h1 : isNum t = false) (h2 : tx t = [35, 116]) : d = ⟨3, 1, mkS [], []⟩ := by
  unfold atomO at h; rw [if_neg (by simp [h1]), if_pos h2] at h; exact (Option.some.inj h).symm
theorem atm_f {t : ByteArray} {d : Datum} (h : atomO t = some d) (h1 : isNum t = false) (h2 : tx t ≠ [35, 116]) (h3 : tx t = [35, 102]) : d = ⟨3, 0, mkS [], []⟩ := by
  unfold atomO at h; rw [if_neg (by simp [h1]), if_neg h2, if_pos h3] at h; exact (Option.some.inj h).symm
theorem atm_s {t : ByteArray} {d : Datum} (h : atomO t = some d) (h1 : isNum t = false) (h2 : tx t ≠ [35, 116]) (h3 : tx t ≠ [35, 102]) : isSym t = true ∧ d = ⟨1, 0, t, []⟩ := by
  unfold atomO at h; rw [if_neg (by simp [h1]), if_neg h2, if_neg h3] at h
  split at h
  · rename_i e; exact ⟨e, (Option.some.inj h).symm⟩
  · cases h
abbrev P_c_sNumD (n : Int) : Ct := ⟨71, [], [li n], [], .sv (.agg [vI 2, vI n, vS (mkS []), nilI])⟩
theorem c_sNumD (n : Int) (h : -999999999 ≤ n ∧ n ≤ 999999999)  : P_c_sNumD n := fnOK Tryd.call71 Tryd.func71 (.c [.rd, .rd, .rd] (c_l1In n (-999999999 : Int) 999999999) (.b (!decide
 ((-999999999 : Int) ≤ n ∧ n ≤ 999999999)) (.s (SV.agg [vI 0, vI 0, vS (ByteArray.mk #[]), AC.val (Cell.lit (Value.slice none 0 0))])) (.s (SV.agg [vI 2, vI n, vS (ByteArray.mk
 #[]), AC.val (Cell.lit (Value.slice none 0 0))])))) (by
  dsimp only [teasy, P_c_sNumD]
  with_reducible repeat' (first | apply And.intro | exact zR | (intro; skip))
  all_goals (try simp only [std, inj] at *)
  all_goals with_reducible repeat' apply And.intro
  all_goals (try (first | exact z | grind [snocI, snocS, rowSnoc])))
abbrev P_c_sBooD (b : Bool) : Ct := ⟨72, [], [lb b], [], .sv (.agg [vI 3, vI (if b = true then 1 else 0), vS (mkS []), nilI])⟩
theorem c_sBooD (b : Bool)  : P_c_sBooD b := fnOK Tryd.call72 Tryd.func72 (.b b (.s (SV.agg [vI 3, vI 1, vS (ByteArray.mk #[]), AC.val (Cell.lit (Value.slice none 0 0))])) (.s
 (SV.agg [vI 3, vI 0, vS (ByteArray.mk #[]), AC.val (Cell.lit (Value.slice none 0 0))]))) (by
  dsimp only [teasy, P_c_sBooD]
  with_reducible repeat' (first | apply And.intro | exact zR | (intro; skip))
  all_goals (try simp only [std, inj] at *)
  all_goals with_reducible repeat' apply And.intro
  all_goals (try (first | exact z | grind [snocI, snocS, rowSnoc])))
abbrev P_c_sSyD (s : ByteArray) : Ct := ⟨62, [], [ls s], [], .sv (.agg [vI 1, vI 0, vS s, nilI])⟩
theorem c_sSyD (s : ByteArray) (h : isSym s = true)  : P_c_sSyD s := fnOK Tryd.call62 Tryd.func62 (.c [.rd] (c_sIsSymbol s) (.b (!isSym s) (.s (SV.agg [vI 0, vI 0, vS (ByteArray.mk
 #[]), AC.val (Cell.lit (Value.slice none 0 0))])) (.s (SV.agg [vI 1, vI 0, vS s, AC.val (Cell.lit (Value.slice none 0 0))])))) (by
  dsimp only [teasy, P_c_sSyD]
  with_reducible repeat' (first | apply And.intro | exact zR | (intro; skip))
  all_goals (try simp only [std, inj] at *)
  all_goals with_reducible repeat' apply And.intro
  all_goals (try (first | exact z | grind [snocI, snocS, rowSnoc])))
abbrev P_c_sStD (s : ByteArray) : Ct := ⟨64, [], [ls s], [], .sv (.agg [vI 4, vI 0, vS s, nilI])⟩
theorem c_sStD (s : ByteArray) (h : isStr s = true)  : P_c_sStD s := fnOK Tryd.call64 Tryd.func64 (.c [.rd] (c_sString s) (.b (!isStr s) (.s (SV.agg [vI 0, vI 0, vS (ByteArray.mk
 #[]), AC.val (Cell.lit (Value.slice none 0 0))])) (.s (SV.agg [vI 4, vI 0, vS s, AC.val (Cell.lit (Value.slice none 0 0))])))) (by
  dsimp only [teasy, P_c_sStD]
  with_reducible repeat' (first | apply And.intro | exact zR | (intro; skip))
  all_goals (try simp only [std, inj] at *)
  all_goals with_reducible repeat' apply And.intro
  all_goals (try (first | exact z | grind [snocI, snocS, rowSnoc])))
def atR (d : Datum) (a : Nat) : Nat := a
theorem pst_goR {s : ByteArray} {a : Nat} (h : a < s.size) (h1 : isBl (byt s a) = false) (h2 : isEn (byt s a) = false) : pst isRu s (a + 1) = pst isRu s a := pst_go isRu h (by show (!isBl (byt s a) && !isEn (byt s a)) = true; rw [h1, h2]; rfl)
theorem pst_stopR {s : ByteArray} {a : Nat} (h : a ≤ s.size) (hp : a < s.size → isBl (byt s a) = true ∨ isEn (byt s a) = true) : pst isRu s a = a := pst_stop isRu h fun e => by
  have := hp e
  show (!isBl (byt s a) && !isEn (byt s a)) = false
  rcases this with e | e <;> rw [e] <;> simp
theorem pst_goQ {s : ByteArray} {a : Nat} (h : a < s.size) (h1 : byt s a ≠ 34) : pst noQ s (a + 1) = pst noQ s a := pst_go noQ h (by show (!decide (byt s a = 34)) = true; simp [h1])
theorem pst_stopQ {s : ByteArray} {a : Nat} (h : a ≤ s.size) (hp : a < s.size → byt s a = 34) : pst noQ s a = a := pst_stop noQ h fun e => by show (!decide (byt s a = 34)) = false; simp [hp e]
def atG (t : ByteArray) : Datum := (atomO t).getD default
abbrev P_c_sAtom (s : ByteArray) (a : Nat) : Ct := ⟨65, [.box [vS s, vI (a : Nat), vB false]], [.one (.ptr 0 0)], .box [vS s, vI (pst isRu s a : Nat), vB false] :: datumO (atG (sbs s a (pst isRu s a))), .sv (datumR (atG (sbs s a (pst isRu s a))) 1)⟩
def lc_sAtomLa (s : ByteArray) (a : Nat) : Lp Nat := .mk 92 1 (fun x => [(0, SV.one (AC.ptr 0 0)), (2, SV.one (AC.ptr 1 0)), (3, li (↑a : Int))]) (fun x => [Ob.box [vS s, ha x 0,
 vB false], Ob.box [vI 0, vI 0, vS (ByteArray.mk #[]), AC.val (Cell.lit (Value.slice none 0 0))]]) (fun k => [.a (vI (↑k : Int))]) (fun k => a ≤ k ∧ k ≤ s.size ∧ pst isRu s k = pst
 isRu s a) (fun k => s.size - k) [.mk True (.exit 0) (fun x => [(0, SV.one (AC.ptr 0 0)), (2, SV.one (AC.ptr 1 0)), (3, li (↑a : Int))]) (fun x => [Ob.box [vS s, ha x 0, vB false],
 Ob.box [vI 0, vI 0, vS (ByteArray.mk #[]), AC.val (Cell.lit (Value.slice none 0 0))]]) [.a (vI (↑(pst isRu s a) : Int))]]
theorem Sc_sAtomLa (s : ByteArray) (a : Nat) (h : a ≤ s.size ∧ s.size ≤ 15000 ∧ (atomO (sbs s a (pst isRu s a))).isSome = true) : Lp.Sem Tryd.prog (loopAt Tryd.f65 0) (lc_sAtomLa s
 a) := lpOK (fun k => .w (.draw []) (.i ((↑k : Int) < (↑s.data.toList.length : Int)) (.p (0 ≤ (↑k : Int) ∧ (↑k : Int).toNat < s.data.toList.length) (.c [.rd] (c_sBlank
 (↑(s.data.toList.getD (↑k : Int).toNat (0 : UInt8)).toNat : Int)) (.b (!isBl (↑(s.data.toList.getD (↑k : Int).toNat (0 : UInt8)).toNat : Int)) (.p (0 ≤ (↑k : Int) ∧ (↑k :
 Int).toNat < s.data.toList.length) (.c [.rd] (c_sEnds (↑(s.data.toList.getD (↑k : Int).toNat (0 : UInt8)).toNat : Int)) (.h (s.data.toList.length ≤ 9223372036854775807) (.b (!isEn
 (↑(s.data.toList.getD (↑k : Int).toNat (0 : UInt8)).toNat : Int)) (.r ((↑k : Int) + 1) (.g [0, 1] (k + 1) [.a (vI ((↑k : Int) + 1))])) (.o 0 [0, 1] [.a (vI (↑k : Int))]))))) (.h
 (s.data.toList.length ≤ 9223372036854775807) (.y false (.o 0 [0, 1] [.a (vI (↑k : Int))])))))) (.y false (.h (s.data.toList.length ≤ 9223372036854775807) (.y false (.o 0 [0, 1]
 [.a (vI (↑k : Int))])))))) (by
  intro k h; try dsimp only [teasy, nthW, lc_sAtomLa] at h ⊢
  have g1 := @pst_goR s k
  have g2 := @pst_stopR s k
  with_reducible repeat' (first | apply And.intro | exact zR | (intro; skip) | apply c_sNumD | apply c_sSyD)
  all_goals (try simp only [std, inj] at *)
  all_goals with_reducible repeat' apply And.intro
  all_goals (try (first | with_reducible apply c_sNumD | with_reducible apply c_sSyD | (simp only [← List.map_append]; first | with_reducible apply c_sNumD | with_reducible apply c_sSyD)))
  all_goals (try (first | exact z | grind [byt, snocI, snocS, rowSnoc])))
theorem c_sAtom (s : ByteArray) (a : Nat) (h : a ≤ s.size ∧ s.size ≤ 15000 ∧ (atomO (sbs s a (pst isRu s a))).isSome = true)  : P_c_sAtom s a := fnOK Tryd.call65 Tryd.func65 (.l
 (lc_sAtomLa s a) (Sc_sAtomLa s a h) [0, 1] [.a (vI (↑a : Int))] a (.t (.w (.draw []) (.p (0 ≤ (↑a : Int)) (.p (0 ≤ (↑(pst isRu s a) : Int)) (.p ((↑a : Int).toNat ≤ (↑(pst isRu s
 a) : Int).toNat ∧ (↑(pst isRu s a) : Int).toNat ≤ s.data.toList.length) (.c [.rd] (c_sPNum (ByteArray.mk (List.take ((↑(pst isRu s a) : Int).toNat - (↑a : Int).toNat) (List.drop
 (↑a : Int).toNat s.data.toList)).toArray)) (.b (isNum (ByteArray.mk (List.take ((↑(pst isRu s a) : Int).toNat - (↑a : Int).toNat) (List.drop (↑a : Int).toNat
 s.data.toList)).toArray)) (.d [.rd] (P_c_sNumD (numV (ByteArray.mk (List.take ((↑(pst isRu s a) : Int).toNat - (↑a : Int).toNat) (List.drop (↑a : Int).toNat
 s.data.toList)).toArray))) (.w (.ghost (.nilbox 1 3 true 4)) (.f [2] [Ob.box [vS s, vI (↑(pst isRu s a) : Int), vB false], Ob.arr true 4 []] (AV.sv (SV.agg [vI 2, vI (numV
 (ByteArray.mk (List.take ((↑(pst isRu s a) : Int).toNat - (↑a : Int).toNat) (List.drop (↑a : Int).toNat s.data.toList)).toArray)), vS (mkS []), AC.ref 1]))))) (.i (List.take
 ((↑(pst isRu s a) : Int).toNat - (↑a : Int).toNat) (List.drop (↑a : Int).toNat s.data.toList) = [(35 : UInt8), (116 : UInt8)]) (.y true (.c [.rd] (c_sBooD (decide (List.take
 ((↑(pst isRu s a) : Int).toNat - (↑a : Int).toNat) (List.drop (↑a : Int).toNat s.data.toList) = [(35 : UInt8), (116 : UInt8)]))) (.w (.ghost (.nilbox 1 3 true 4)) (.f [2] [Ob.box
 [vS s, vI (↑(pst isRu s a) : Int), vB false], Ob.arr true 4 []] (AV.sv (SV.agg [vI 3, vI (if decide (List.take ((↑(pst isRu s a) : Int).toNat - (↑a : Int).toNat) (List.drop (↑a :
 Int).toNat s.data.toList) = [(35 : UInt8), (116 : UInt8)]) = true then 1 else 0), vS (mkS []), AC.ref 1])))))) (.i (List.take ((↑(pst isRu s a) : Int).toNat - (↑a : Int).toNat)
 (List.drop (↑a : Int).toNat s.data.toList) = [(35 : UInt8), (102 : UInt8)]) (.c [.rd] (c_sBooD (decide (List.take ((↑(pst isRu s a) : Int).toNat - (↑a : Int).toNat) (List.drop (↑a
 : Int).toNat s.data.toList) = [(35 : UInt8), (116 : UInt8)]))) (.w (.ghost (.nilbox 1 3 true 4)) (.f [2] [Ob.box [vS s, vI (↑(pst isRu s a) : Int), vB false], Ob.arr true 4 []]
 (AV.sv (SV.agg [vI 3, vI (if decide (List.take ((↑(pst isRu s a) : Int).toNat - (↑a : Int).toNat) (List.drop (↑a : Int).toNat s.data.toList) = [(35 : UInt8), (116 : UInt8)]) =
 true then 1 else 0), vS (mkS []), AC.ref 1]))))) (.c [.rd] (c_sIsSymbol (ByteArray.mk (List.take ((↑(pst isRu s a) : Int).toNat - (↑a : Int).toNat) (List.drop (↑a : Int).toNat
 s.data.toList)).toArray)) (.b (isSym (ByteArray.mk (List.take ((↑(pst isRu s a) : Int).toNat - (↑a : Int).toNat) (List.drop (↑a : Int).toNat s.data.toList)).toArray)) (.d [.rd]
 (P_c_sSyD (ByteArray.mk (List.take ((↑(pst isRu s a) : Int).toNat - (↑a : Int).toNat) (List.drop (↑a : Int).toNat s.data.toList)).toArray)) (.w (.ghost (.nilbox 1 3 true 4)) (.f
 [2] [Ob.box [vS s, vI (↑(pst isRu s a) : Int), vB false], Ob.arr true 4 []] (AV.sv (SV.agg [vI 1, vI 0, vS (ByteArray.mk (List.take ((↑(pst isRu s a) : Int).toNat - (↑a :
 Int).toNat) (List.drop (↑a : Int).toNat s.data.toList)).toArray), AC.ref 1]))))) (.w (.ghost (.nilbox 1 3 true 4)) (.f [2] [Ob.box [vS s, vI (↑(pst isRu s a) : Int), vB true],
 Ob.arr true 4 []] (AV.sv (SV.agg [vI 0, vI 0, vS (ByteArray.mk #[]), AC.ref 1])))))))))))))) .q)) (by
  dsimp only [teasy, P_c_sAtom, nthW, lc_sAtomLa]
  have g0 : atomO (sbs s a (pst isRu s a)) = some (atG (sbs s a (pst isRu s a))) := by obtain ⟨d, e⟩ := Option.isSome_iff_exists.1 h.2.2; unfold atG; rw [e]; rfl
  have g1 := @atm_num (sbs s a (pst isRu s a)) (atG (sbs s a (pst isRu s a))) g0
  have g2 := @atm_t (sbs s a (pst isRu s a)) (atG (sbs s a (pst isRu s a))) g0
  have g3 := @atm_f (sbs s a (pst isRu s a)) (atG (sbs s a (pst isRu s a))) g0
  have g4 := @atm_s (sbs s a (pst isRu s a)) (atG (sbs s a (pst isRu s a))) g0
  have g5 := @num_range (sbs s a (pst isRu s a))
  have g7 := @pst_rs isRu s a
  have g8 := sbs_tx s a (pst isRu s a)
  have g9 := sbs_mk s a (pst isRu s a)
  with_reducible repeat' (first | apply And.intro | exact zR | (intro; skip) | apply c_sNumD | apply c_sSyD)
  all_goals (try simp only [std, inj] at *)
  all_goals with_reducible repeat' apply And.intro
  all_goals (try (first | with_reducible apply c_sNumD | with_reducible apply c_sSyD | (simp only [← List.map_append]; first | with_reducible apply c_sNumD | with_reducible apply c_sSyD)))
  all_goals (try (first | exact z | grind [snocI, snocS, rowSnoc])))
theorem len_sizeD : ∀ L : List Datum, L.length ≤ sumBy sizeD L
  | [] => Nat.le_refl _
  | x :: r => by have := len_sizeD r; have := sizeD_eq x; simp only [List.length_cons, sumBy]; omega
theorem noc0 {d : Datum} {s : ByteArray} {a : Nat} (h : a ≤ s.size) (hd : okR d s a = true) (hb : byt s (sk s a) = 40) : noc s (sk s a + 1) = true := by
  have := (rdl h hd hb (Nat.zero_le _)).2.1
  rwa [rdl0 h hd] at this
theorem atm_items {t : ByteArray} {d : Datum} (h : atomO t = some d) : d.items = [] := by
  unfold atomO at h
  repeat' split at h
  all_goals first | (cases Option.some.inj h; rfl) | cases h
theorem items_one {d : Datum} (h : d.items = []) : sizeD d = 1 := by rw [sizeD_eq, h]; rfl
def dfD : Datum := default
abbrev P_c_sReadX (s : ByteArray) (n : Int) : Ct := ⟨49, [.box [vS s, vI n, vB false]], [.one (.ptr 0 0)], .box [vS s, vI n, vB false] :: datumO dfD, .sv (datumR dfD 1)⟩
theorem c_sReadX (s : ByteArray) (n : Int) (h : n < n) : OK (P_c_sReadX s n) := absurd h (Int.lt_irrefl n)
abbrev P_c_iReadX (s : ByteArray) (n q : Int) : Ct := ⟨21, [.box [vS s, vI n, vI q]], [.one (.ptr 0 0)], .box [vS s, vI n, vI q] :: datumO dfD, .tup [datumR dfD 1, lb true]⟩
theorem c_iReadX (s : ByteArray) (n q : Int) (h : n < n) : OK (P_c_iReadX s n q) := absurd h (Int.lt_irrefl n)
abbrev P_c_sReadD (s : ByteArray) (a : Nat) (d : Datum) : Ct := ⟨49, [.box [vS s, vI (sk s (atR d a) : Nat), vB false]], [.one (.ptr 0 0)], .box [vS s, vI (enR d s a : Nat), vB false] :: datumO d, .sv (datumR d 1)⟩
def lc_sReadD_sLb (s : ByteArray) (a : Nat) (d : Datum) : Lp Nat := .mk 228 1 (fun x => [(0, SV.one (AC.ptr 0 0)), (2, SV.one (AC.ptr 1 0)), (4, SV.one (AC.ptr 2 0))]) (fun x =>
 [Ob.box [vS s, ha x 0, vB false], Ob.box [vI 0, vI 0, vS (ByteArray.mk #[]), AC.val (Cell.lit (Value.slice none 0 0))], Ob.box [vI 0, vI 0, vS (ByteArray.mk #[]), AC.ref 3], ho x
 1]) (fun k => [.a (vI (↑(sk s (atR (d.items.getD k default) (enP (List.take k d.items) s (sk s a + 1)))) : Int)), .o (Ob.arr true 4 (List.map datumC (List.take k d.items)))]) (fun
 k => k ≤ d.items.length ∧ d.items.length ≤ 9223372036854775807 ∧ a ≤ s.size ∧ s.size ≤ 15000 ∧ okR d s a = true ∧ byt s (sk s a) = 40 ∧ sizeD d ≤ 600) (fun k => d.items.length -
 k) [.mk True (.exit 3) (fun x => [(0, SV.one (AC.ptr 0 0)), (2, SV.one (AC.ptr 1 0)), (4, SV.one (AC.ptr 2 0))]) (fun x => [Ob.box [vS s, ha x 0, vB false], Ob.box [vI 0, vI 0, vS
 (ByteArray.mk #[]), AC.val (Cell.lit (Value.slice none 0 0))], Ob.box [vI 0, vI 0, vS (ByteArray.mk #[]), AC.ref 3], ho x 1]) [.a (vI (↑(sk s (enP d.items s (sk s a + 1))) :
 Int)), .o (Ob.arr true 4 (List.map datumC d.items))]]
def lc_sReadD_sLa (s : ByteArray) (a : Nat) (d : Datum) : Lp Nat := .mk 228 1 (fun x => [(0, SV.one (AC.ptr 0 0)), (2, SV.one (AC.ptr 1 0)), (3, hs x 1)]) (fun x => [Ob.box [vS s,
 ha x 0, vB false], Ob.box [vI 0, vI 0, vS (ByteArray.mk #[]), AC.val (Cell.lit (Value.slice none 0 0))]]) (fun k => [.a (vI (↑k : Int)), .s (li (↑(sk s a + 1) : Int))]) (fun k =>
 sk s a + 1 ≤ k ∧ k ≤ s.size ∧ pst noQ s k = pst noQ s (sk s a + 1)) (fun k => s.size - k) [.mk True (.exit 1) (fun x => [(0, SV.one (AC.ptr 0 0)), (2, SV.one (AC.ptr 1 0)), (3, hs
 x 1)]) (fun x => [Ob.box [vS s, ha x 0, vB false], Ob.box [vI 0, vI 0, vS (ByteArray.mk #[]), AC.val (Cell.lit (Value.slice none 0 0))]]) [.a (vI (↑(pst noQ s (sk s a + 1)) :
 Int)), .s (li (↑(sk s a + 1) : Int))]]
theorem Sc_sReadD_sLb (s : ByteArray) (a : Nat) (d : Datum) (h : a ≤ s.size ∧ s.size ≤ 15000 ∧ okR d s a = true ∧ sizeD d ≤ 600) (ih : ∀ (z : Datum), z ∈ d.items → ∀ (s :
 ByteArray) (a : Nat), a ≤ s.size ∧ s.size ≤ 15000 ∧ okR z s a = true ∧ sizeD z ≤ 600 → OK (P_c_sReadD s a z)) : Lp.Sem Tryd.prog (loopAt Tryd.f49 1) (lc_sReadD_sLb s a d) := lpOK
 (fun k => .w (.draw []) (.y true (.i ((↑(sk s (atR (d.items.getD k default) (enP (List.take k d.items) s (sk s a + 1)))) : Int) < (↑s.data.toList.length : Int)) (.p (0 ≤ (↑(sk s
 (atR (d.items.getD k default) (enP (List.take k d.items) s (sk s a + 1)))) : Int) ∧ (↑(sk s (atR (d.items.getD k default) (enP (List.take k d.items) s (sk s a + 1)))) : Int).toNat
 < s.data.toList.length) (.h (s.data.toList.length ≤ 9223372036854775807) (.i ((↑(s.data.toList.getD (↑(sk s (atR (d.items.getD k default) (enP (List.take k d.items) s (sk s a +
 1)))) : Int).toNat (0 : UInt8)).toNat : Int) ≠ 41) (.w (.draw [(3, [0]), (4, [5]), (5, [3, 12]), (7, [2])]) (.d [.ptr] (P_c_sReadD s (enP (List.take k d.items) s (sk s a + 1))
 (d.items.getD k default)) (.p (((List.map datumC (List.take k d.items)).length + 1) * 56 ≤ 140737488355328) (.d [.ptr] (P_c_sSkip s (enR (d.items.getD k default) s (enP (List.take
 k d.items) s (sk s a + 1))) false) (.g [0, 1, 2, 13] (k + 1) [.a (vI (↑(sk s (enR (d.items.getD k default) s (enP (List.take k d.items) s (sk s a + 1)))) : Int)), .o (Ob.arr true
 4 (List.map datumC (List.take k d.items) ++ [datumF (d.items.getD k default)]))]))))) (.o 0 [0, 1, 2, 3] [.a (vI (↑(sk s (atR (d.items.getD k default) (enP (List.take k d.items) s
 (sk s a + 1)))) : Int)), .o (Ob.arr true 4 (List.map datumC (List.take k d.items)))])))) (.h (s.data.toList.length ≤ 9223372036854775807) (.y false (.o 0 [0, 1, 2, 3] [.a (vI
 (↑(sk s (atR (d.items.getD k default) (enP (List.take k d.items) s (sk s a + 1)))) : Int)), .o (Ob.arr true 4 (List.map datumC (List.take k d.items)))])))))) (by
  intro k h; try dsimp only [teasy, nthW, lc_sReadD_sLb] at h ⊢
  have hq := h
  obtain ⟨q1, q2, q3, q4, q5, q6, q7⟩ := hq
  have g7 := sizeD_eq d
  have g8 := len_sizeD d.items
  have g9 := @sumBy_mem _ sizeD d.items (d.items.getD k default)
  have g4 := @rdl d s a q3 q5 q6 k q1
  have g5 : k < d.items.length → _ := fun hk => @rdl d s a q3 q5 q6 (k + 1) hk
  with_reducible repeat' (first | apply And.intro | exact zR | exact ih | (intro; skip) | apply c_sSkip | apply c_sAtom | apply c_sStD | apply c_sSyD | apply c_sReadX | apply ih)
  all_goals (try simp only [std, inj] at *)
  all_goals with_reducible repeat' apply And.intro
  all_goals (try (first | with_reducible apply c_sSkip | with_reducible apply c_sAtom | with_reducible apply c_sStD | with_reducible apply c_sSyD | with_reducible apply c_sReadX | with_reducible apply ih | (simp only [← List.map_append]; first | with_reducible apply c_sSkip | with_reducible apply c_sAtom | with_reducible apply c_sStD | with_reducible apply c_sSyD | with_reducible apply c_sReadX | with_reducible apply ih)))
  all_goals (try (first | exact z | grind [byt, atR, take_get, getD_mem', snocI, snocS, rowSnoc])))
theorem Sc_sReadD_sLa (s : ByteArray) (a : Nat) (d : Datum) (h : a ≤ s.size ∧ s.size ≤ 15000 ∧ okR d s a = true ∧ sizeD d ≤ 600) (ih : ∀ (z : Datum), z ∈ d.items → ∀ (s :
 ByteArray) (a : Nat), a ≤ s.size ∧ s.size ≤ 15000 ∧ okR z s a = true ∧ sizeD z ≤ 600 → OK (P_c_sReadD s a z)) : Lp.Sem Tryd.prog (loopAt Tryd.f49 0) (lc_sReadD_sLa s a d) := lpOK
 (fun k => .w (.draw []) (.i ((↑k : Int) < (↑s.data.toList.length : Int)) (.p (0 ≤ (↑k : Int) ∧ (↑k : Int).toNat < s.data.toList.length) (.h (s.data.toList.length ≤
 9223372036854775807) (.i ((↑(s.data.toList.getD (↑k : Int).toNat (0 : UInt8)).toNat : Int) ≠ 34) (.r ((↑k : Int) + 1) (.g [0, 1] (k + 1) [.a (vI ((↑k : Int) + 1)), .s (li (↑(sk s
 a + 1) : Int))])) (.o 0 [0, 1] [.a (vI (↑k : Int)), .s (li (↑(sk s a + 1) : Int))])))) (.h (s.data.toList.length ≤ 9223372036854775807) (.y false (.o 0 [0, 1] [.a (vI (↑k : Int)),
 .s (li (↑(sk s a + 1) : Int))]))))) (by
  intro k h; try dsimp only [teasy, nthW, lc_sReadD_sLa] at h ⊢
  have g1 := @pst_goQ s k
  have g2 := @pst_stopQ s k
  with_reducible repeat' (first | apply And.intro | exact zR | exact ih | (intro; skip) | apply c_sSkip | apply c_sAtom | apply c_sStD | apply c_sSyD | apply c_sReadX)
  all_goals (try simp only [std, inj] at *)
  all_goals with_reducible repeat' apply And.intro
  all_goals (try (first | with_reducible apply c_sSkip | with_reducible apply c_sAtom | with_reducible apply c_sStD | with_reducible apply c_sSyD | with_reducible apply c_sReadX | with_reducible apply ih | (simp only [← List.map_append]; first | with_reducible apply c_sSkip | with_reducible apply c_sAtom | with_reducible apply c_sStD | with_reducible apply c_sSyD | with_reducible apply c_sReadX | with_reducible apply ih)))
  all_goals (try (first | exact z | grind [byt, snocI, snocS, rowSnoc])))
theorem c_sReadD_s (s : ByteArray) (a : Nat) (d : Datum) (h : a ≤ s.size ∧ s.size ≤ 15000 ∧ okR d s a = true ∧ sizeD d ≤ 600) (ih : ∀ z ∈ d.items, ∀ (s : ByteArray) (a : Nat) (h :
 a ≤ s.size ∧ s.size ≤ 15000 ∧ okR z s a = true ∧ sizeD z ≤ 600), P_c_sReadD s a z)  : P_c_sReadD s a d := fnOK Tryd.call49 Tryd.func49 (let v1 := (↑(pst noQ s (sk s a + 1)) : Int);
 let v12 := (sk s (atR d a)); let v2 := (↑(sk s v12) : Int); let v3 := (AV.sv (SV.agg [vI 0, vI 0, vS (ByteArray.mk #[]), AC.ref 1])); let v4 := (↑(sk s a + 1) : Int); let v5 :=
 (atG (sbs s (sk s v12) (pst isRu s (sk s v12)))); let v6 := (s.data.toList.length ≤ 9223372036854775807); let v7 := (↑(s.data.toList.getD v2.toNat (0 : UInt8)).toNat : Int); let
 v8 := (ByteArray.mk (List.take ((v1 + 1 - 1).toNat - v4.toNat) (List.drop v4.toNat s.data.toList)).toArray); let v9 := (↑(sk s (enP d.items s (sk s a + 1))) : Int); let v10 :=
 (ByteArray.mk (List.take (v1.toNat - v4.toNat) (List.drop v4.toNat s.data.toList)).toArray); let v11 := (ByteArray.mk #[(113 : UInt8), (117 : UInt8), (111 : UInt8), (116 : UInt8),
 (101 : UInt8)]); .d [.ptr] (P_c_sSkip s v12 false) (.w (.draw []) (.y false (.i ((↑s.data.toList.length : Int) ≤ v2) (.h v6 (.y true (.w (.ghost (.nilbox 1 3 true 4)) (.f [2]
 [Ob.box [vS s, vI v2, vB true], Ob.arr true 4 []] v3)))) (.p (0 ≤ v2 ∧ v2.toNat < s.data.toList.length) (.h v6 (.i (v7 = 41) (.w (.ghost (.nilbox 1 3 true 4)) (.f [2] [Ob.box [vS
 s, vI v2, vB true], Ob.arr true 4 []] v3)) (.w (.draw []) (.p (0 ≤ v2 ∧ v2.toNat < s.data.toList.length) (.i (v7 = 39) (.r (v2 + 1) (.d [.rd] (P_c_sSyD v11) (.d [.ptr] (P_c_sReadX
 s (v2 + 1)) (.f [4] [Ob.box [vS s, vI (v2 + 1), vB false], Ob.arr true 4 [[cI 1, cI 0, cS v11, Cell.list []], [cI dfD.kind, cI dfD.number, cS dfD.text, Cell.list []]]] v3)))) (.i
 (v7 = 34) (.r (v2 + 1) (.l (lc_sReadD_sLa s a d) (Sc_sReadD_sLa s a d h ih) [0, 1] [.a (vI (v2 + 1)), .s (li (v2 + 1))] (sk s a + 1) (.t (.w (.draw []) (.i ((↑s.data.toList.length
 : Int) ≤ v1) (.h v6 (.y true (.w (.ghost (.nilbox 1 3 true 4)) (.f [2] [Ob.box [vS s, vI v1, vB true], Ob.arr true 4 []] v3)))) (.p (0 ≤ v4) (.p (0 ≤ v1) (.p (v4.toNat ≤ v1.toNat
 ∧ v1.toNat ≤ s.data.toList.length) (.c [.rd] (c_sString v10) (.h v6 (.b (!isStr v10) (.w (.ghost (.nilbox 1 3 true 4)) (.f [2] [Ob.box [vS s, vI v1, vB true], Ob.arr true 4 []]
 v3)) (.r (v1 + 1) (.w (.draw [(12, [1])]) (.r (v1 + 1 - 1) (.p (0 ≤ v4) (.p (0 ≤ v1 + 1 - 1) (.p (v4.toNat ≤ (v1 + 1 - 1).toNat ∧ (v1 + 1 - 1).toNat ≤ s.data.toList.length) (.d
 [.rd] (P_c_sStD v8) (.w (.ghost (.nilbox 1 3 true 4)) (.f [2] [Ob.box [vS s, vI (v1 + 1), vB false], Ob.arr true 4 []] (AV.sv (SV.agg [vI 4, vI 0, vS v8, AC.ref
 1]))))))))))))))))))) .q))) (.i (v7 = 40) (.r (v2 + 1) (.d [.ptr] (P_c_sSkip s (sk s v12 + 1) false) (.w (.ghost (.nilbox 2 3 true 4)) (.l (lc_sReadD_sLb s a d) (Sc_sReadD_sLb s a
 d h ih) [0, 1, 2, 3] [.a (vI (↑(sk s (sk s v12 + 1)) : Int)), .o (Ob.arr true 4 [])] 0 (.t (.w (.draw [(19, [0])]) (.y false (.h v6 (.r (v9 + 1) (.f [3] [Ob.box [vS s, vI (v9 +
 1), vB (decide ((↑s.data.toList.length : Int) ≤ v9))], Ob.arr true 4 (List.map datumC d.items)] v3))))) .q))))) (.d [.ptr] (P_c_sAtom s (sk s v12)) (.f [3] [Ob.box [vS s, vI
 (↑(pst isRu s (sk s v12)) : Int), vB false], Ob.arr true 4 (List.map datumC v5.items)] (AV.sv (SV.agg [vI v5.kind, vI v5.number, vS v5.text, AC.ref 1])))))))))))))))) (by
  dsimp only [teasy, P_c_sReadD, nthW, lc_sReadD_sLa, lc_sReadD_sLb]
  have g1 := @rd_hd d s a
  have g2 := @rd_list d s a
  have g3 := @rd_str d s a
  have g4 := @rd_atm d s a
  have g5 := @rdl0 d s a
  have g6 := @sk_le s a
  have e0 : sk s (atR d a) = sk s a := rfl
  have g9 := @noc0 d s a
  have g17 : atomO (sbs s (sk s a) (pst isRu s (sk s a))) = some d → atG (sbs s (sk s a) (pst isRu s (sk s a))) = d := fun q => by unfold atG; rw [q]; rfl
  have g10 : enR d s a ≤ s.size := (enR_rs h.1 h.2.2.1).2.2
  have g11 : d.items.length ≤ 600 := by have := sizeD_eq d; have := len_sizeD d.items; have := h.2.2.2; omega
  have e1 : sk s (sk s (atR d a)) = sk s a := sk_idem h.1
  have g7 : sk s a + 1 ≤ s.size → sk s a + 1 ≤ pst noQ s (sk s a + 1) ∧ pst noQ s (sk s a + 1) ≤ s.size := fun q => (pst_rs noQ q).2
  have g8 : sk s a ≤ s.size → sk s a ≤ pst isRu s (sk s a) ∧ pst isRu s (sk s a) ≤ s.size := fun q => (pst_rs isRu q).2
  with_reducible repeat' (first | apply And.intro | exact zR | exact ih | (intro; skip) | apply c_sSkip | apply c_sAtom | apply c_sStD | apply c_sSyD | apply c_sReadX)
  all_goals (try simp only [std, inj] at *)
  all_goals with_reducible repeat' apply And.intro
  all_goals (try (first | with_reducible apply c_sSkip | with_reducible apply c_sAtom | with_reducible apply c_sStD | with_reducible apply c_sSyD | with_reducible apply c_sReadX | with_reducible apply ih | (simp only [← List.map_append]; first | with_reducible apply c_sSkip | with_reducible apply c_sAtom | with_reducible apply c_sStD | with_reducible apply c_sSyD | with_reducible apply c_sReadX | with_reducible apply ih)))
  all_goals (try (first | exact z | grind [byt, atR, snocI, snocS, rowSnoc])))
theorem c_sReadD (d : Datum) : ∀ (s : ByteArray) (a : Nat) (h : a ≤ s.size ∧ s.size ≤ 15000 ∧ okR d s a = true ∧ sizeD d ≤ 600), P_c_sReadD s a d := Datum.ind (P := fun d => ∀ (s : ByteArray) (a : Nat) (h : a ≤ s.size ∧ s.size ≤ 15000 ∧ okR d s a = true ∧ sizeD d ≤ 600), P_c_sReadD s a d) (fun d ih s a h => c_sReadD_s s a d h ih) d
theorem rds_step {L : List Datum} {s : ByteArray} {k : Nat} (h : rdsB L s = true) (hk : k < L.length) :
    okR (L.getD k default) s (enP (L.take k) s 0) = true ∧ enP (L.take (k + 1)) s 0 = enR (L.getD k default) s (enP (L.take k) s 0) ∧ enP (L.take k) s 0 ≤ s.size ∧ sk s (enP (L.take k) s 0) < s.size ∧ noc s (enP (L.take k) s 0) = true := by
  simp only [rdsB, Bool.and_eq_true, decide_eq_true_eq] at h
  have h1 := okP_step (Nat.zero_le _) h.1.1.1.1 hk
  have h2 := (enP_rs (Nat.zero_le _) (okP_take (k := k) (Nat.zero_le _) h.1.1.1.1)).2.2
  have h3 := okR_cases h2 h1.1
  exact ⟨h1.1, h1.2, h2, h3.2.1, h3.1⟩
theorem noc_end {s : ByteArray} {a : Nat} (h : sk s a = s.size) : noc s a = true := by simp [noc, h]
theorem rds_end {L : List Datum} {s : ByteArray} (h : rdsB L s = true) : sk s (enP L s 0) = s.size ∧ enP L s 0 ≤ s.size ∧ noc s (enP L s 0) = true ∧ L.all isDat = true ∧ sumBy sizeD L ≤ 600 ∧ s.size ≤ 15000 ∧ L.length ≤ 600 := by
  simp only [rdsB, Bool.and_eq_true, decide_eq_true_eq] at h
  exact ⟨h.1.1.1.2, (enP_rs (Nat.zero_le _) h.1.1.1.1).2.2, noc_end h.1.1.1.2, h.1.1.2, h.1.2, h.2, Nat.le_trans (len_sizeD L) h.1.2⟩
theorem rds_at {L : List Datum} {s : ByteArray} {k : Nat} (h : rdsB L s = true) (hk : k ≤ L.length) : enP (L.take k) s 0 ≤ s.size ∧ noc s (enP (L.take k) s 0) = true ∧ (k = L.length → sk s (enP (L.take k) s 0) = s.size) := by
  rcases Nat.lt_or_eq_of_le hk with hl | rfl
  · have := rds_step h hl; exact ⟨this.2.2.1, this.2.2.2.2, fun e => by omega⟩
  · have := rds_end h; rw [List.take_length]; exact ⟨this.2.1, this.2.2.1, fun _ => this.1⟩
theorem rds_zero {L : List Datum} {s : ByteArray} : enP (L.take 0) s 0 = 0 := enP_nil s (Nat.zero_le _)
theorem rds_noc0 {L : List Datum} {s : ByteArray} (h : rdsB L s = true) : noc s 0 = true := by
  cases L with
  | nil => have := (rds_end h).2.2.1; rwa [enP_nil s (Nat.zero_le _)] at this
  | cons x l => have := (rds_step (k := 0) h (by simp)).2.2.2.2; rwa [rds_zero] at this
def areD (L : List Datum) : Bool := L.all isDat && decide ((sumBy sizeD L : Int) ≤ 600)
abbrev P_c_sCntD (d : Datum) : Ct := ⟨66, [], [datumA d], [], .sv (li (sizeD d : Nat))⟩
def lc_sCntD_sLa (d : Datum) : Lp Nat := .mk 19 0 (fun x => [(3, hs x 1), (7, ll (List.map datumC d.items)), (8, li (↑(List.map datumC d.items).length : Int)), (9, hs x 0)]) (fun x
 => []) (fun k => [.s (li (↑k : Int)), .s (li (↑(1 + sumBy sizeD (List.take k d.items)) : Int))]) (fun k => k ≤ d.items.length ∧ d.items.length ≤ 9223372036854775807) (fun k =>
 d.items.length - k) [.mk True (.exit 0) (fun x => [(3, hs x 0)]) (fun x => []) [.s (li (↑(1 + sumBy sizeD d.items) : Int))]]
theorem Sc_sCntD_sLa (d : Datum) (h : sizeD d ≤ 2147483647) (ih : ∀ (z : Datum), z ∈ d.items → sizeD z ≤ 2147483647 → OK (P_c_sCntD z)) : Lp.Sem Tryd.prog (loopAt Tryd.f66 0)
 (lc_sCntD_sLa d) := lpOK (fun k => .i ((↑k : Int) < (↑(List.map datumC d.items).length : Int)) (.x (↑k : Int) (List.map datumC d.items) (datumF (d.items.getD k default)) (.d [.rd]
 (P_c_sCntD (d.items.getD k default)) (.r ((↑(1 + sumBy sizeD (List.take k d.items)) : Int) + (↑(sizeD (d.items.getD k default)) : Int)) (.r ((↑k : Int) + 1) (.g [] (k + 1) [.s (li
 ((↑k : Int) + 1)), .s (li ((↑(1 + sumBy sizeD (List.take k d.items)) : Int) + (↑(sizeD (d.items.getD k default)) : Int)))]))))) (.o 0 [] [.s (li (↑(1 + sumBy sizeD (List.take k
 d.items)) : Int))])) (by
  intro k h; try dsimp only [teasy, nthW, lc_sCntD_sLa] at h ⊢
  have g2 := @sumBy_mem _ sizeD d.items (d.items.getD k default)
  have g3 := @sumBy_step _ _ sizeD d.items k
  have g4 := sumBy_takeLe sizeD d.items (k + 1)
  have g6 := sizeD_eq d
  have g7 : d.items.length ≤ k → d.items.take k = d.items := fun h => List.take_of_length_le h
  with_reducible repeat' (first | apply And.intro | exact zR | exact ih | (intro; skip) | apply ih)
  all_goals (try simp only [std, inj] at *)
  all_goals with_reducible repeat' apply And.intro
  all_goals (try (first | with_reducible apply ih | (simp only [← List.map_append]; first | with_reducible apply ih)))
  all_goals (try (first | exact z | grind [getD_mem', snocI, snocS, rowSnoc])))
theorem c_sCntD_s (d : Datum) (h : sizeD d ≤ 2147483647) (ih : ∀ z ∈ d.items, ∀ (h : sizeD z ≤ 2147483647), P_c_sCntD z)  : P_c_sCntD d := fnOK Tryd.call66 Tryd.func66 (.z datumC
 d.items (.l (lc_sCntD_sLa d) (Sc_sCntD_sLa d h ih) [] [.s (li 0), .s (li 1)] 0 (.t (.s (li (↑(1 + sumBy sizeD d.items) : Int))) .q))) (by
  dsimp only [teasy, P_c_sCntD, nthW, lc_sCntD_sLa]
  have g6 := sizeD_eq d
  have g7 : sumBy sizeD (d.items.take 0) = 0 := rfl
  with_reducible repeat' (first | apply And.intro | exact zR | exact ih | (intro; skip))
  all_goals (try simp only [std, inj] at *)
  all_goals with_reducible repeat' apply And.intro
  all_goals (try (first | with_reducible apply ih | (simp only [← List.map_append]; first | with_reducible apply ih)))
  all_goals (try (first | exact z | grind [snocI, snocS, rowSnoc])))
theorem c_sCntD (d : Datum) : ∀ (h : sizeD d ≤ 2147483647), P_c_sCntD d := Datum.ind (P := fun d => ∀ (h : sizeD d ≤ 2147483647), P_c_sCntD d) (fun d ih h => c_sCntD_s d h ih) d
abbrev P_c_sAreD (L : List Datum) : Ct := ⟨50, [], [ll (L.map datumC)], [], .sv (lb (areD L))⟩
def lc_sAreDLa (L : List Datum) : Lp Nat := .mk 22 0 (fun x => [(3, hs x 1), (6, ll (List.map datumC L)), (7, li (↑(List.map datumC L).length : Int)), (8, hs x 0)]) (fun x => [])
 (fun k => [.s (li (↑k : Int)), .s (li (↑(sumBy sizeD (List.take k L)) : Int))]) (fun k => k ≤ L.length ∧ L.length ≤ 9223372036854775807 ∧ L.length ≤ 1000000 ∧ (List.take k L).all
 isDat = true ∧ (↑(sumBy sizeD (List.take k L)) : Int) ≤ 600 * (↑k : Int)) (fun k => L.length - k) [.mk (L.all isDat = true) (.exit 0) (fun x => [(3, hs x 0)]) (fun x => []) [.s
 (li (↑(sumBy sizeD L) : Int))], .mk (L.all isDat = false) .ret (fun x => [(2, hs x 0)]) (fun x => []) [.s (lb false)]]
theorem Sc_sAreDLa (L : List Datum) (h : L.length ≤ 1000000) : Lp.Sem Tryd.prog (loopAt Tryd.f50 0) (lc_sAreDLa L) := lpOK (fun k => .i ((↑k : Int) < (↑(List.map datumC L).length :
 Int)) (.x (↑k : Int) (List.map datumC L) (datumF (L.getD k default)) (.c [.rd] (c_sIsDatum (L.getD k default)) (.b (!isDat (L.getD k default)) (.o 1 [] [.s (lb false)]) (.d [.rd]
 (P_c_sCntD (L.getD k default)) (.r ((↑(sumBy sizeD (List.take k L)) : Int) + (↑(sizeD (L.getD k default)) : Int)) (.r ((↑k : Int) + 1) (.g [] (k + 1) [.s (li ((↑k : Int) + 1)), .s
 (li ((↑(sumBy sizeD (List.take k L)) : Int) + (↑(sizeD (L.getD k default)) : Int)))]))))))) (.o 0 [] [.s (li (↑(sumBy sizeD (List.take k L)) : Int))])) (by
  intro k h; try dsimp only [teasy, nthW, lc_sAreDLa] at h ⊢
  have g3 := @sumBy_step _ _ sizeD L k
  have g4 : isDat (L.getD k default) = true → sizeD (L.getD k default) ≤ 600 := fun h => by simp only [isDat, Bool.and_eq_true, decide_eq_true_eq] at h; exact h.1.1
  with_reducible repeat' (first | apply And.intro | exact zR | (intro; skip) | apply c_sCntD)
  all_goals (try simp only [std, inj] at *)
  all_goals with_reducible repeat' apply And.intro
  all_goals (try (first | with_reducible apply c_sCntD | (simp only [← List.map_append]; first | with_reducible apply c_sCntD)))
  all_goals (try (first | exact z | grind [take_get, snocI, snocS, rowSnoc])))
theorem c_sAreD (L : List Datum) (h : L.length ≤ 1000000)  : P_c_sAreD L := fnOK Tryd.call50 Tryd.func50 (.z datumC L (.l (lc_sAreDLa L) (Sc_sAreDLa L h) [] [.s (li 0), .s (li 0)] 0
 (.t (.s (lb (decide ((↑(sumBy sizeD L) : Int) ≤ 600)))) (.t (.s (lb false)) .q)))) (by
  dsimp only [teasy, P_c_sAreD, nthW, lc_sAreDLa]
  with_reducible repeat' (first | apply And.intro | exact zR | (intro; skip) | apply c_sCntD)
  all_goals (try simp only [std, inj] at *)
  all_goals with_reducible repeat' apply And.intro
  all_goals (try (first | with_reducible apply c_sCntD | (simp only [← List.map_append]; first | with_reducible apply c_sCntD)))
  all_goals (try (first | exact z | grind [areD, sumBy, snocI, snocS, rowSnoc])))
abbrev P_c_sPData (L : List Datum) (s : ByteArray) : Ct := ⟨28, [], [ls s], [.arr true 4 (L.map datumC)], .tup [.one (.ref 0), lb true]⟩
def lc_sPDataLa (L : List Datum) (s : ByteArray) : Lp Nat := .mk 49 0 (fun x => [(4, SV.one (AC.ptr 0 0)), (5, SV.one (AC.ref 1))]) (fun x => [Ob.box [vS s, ha x 0, vB false], ho x
 1]) (fun k => [.a (vI (↑(sk s (atR (L.getD k default) (enP (List.take k L) s 0))) : Int)), .o (Ob.arr true 4 (List.map datumC (List.take k L)))]) (fun k => k ≤ L.length ∧ L.length
 ≤ 9223372036854775807 ∧ rdsB L s = true ∧ L.length ≤ 600) (fun k => L.length - k) [.mk True (.exit 0) (fun x => [(4, SV.one (AC.ptr 0 0)), (5, SV.one (AC.ref 1))]) (fun x =>
 [Ob.box [vS s, ha x 0, vB false], ho x 1]) [.a (vI (↑s.size : Int)), .o (Ob.arr true 4 (List.map datumC L))]]
theorem Sc_sPDataLa (L : List Datum) (s : ByteArray) (h : rdsB L s = true) : Lp.Sem Tryd.prog (loopAt Tryd.f28 0) (lc_sPDataLa L s) := lpOK (fun k => .w (.draw []) (.y true (.h
 (s.data.toList.length ≤ 9223372036854775807) (.i ((↑(sk s (atR (L.getD k default) (enP (List.take k L) s 0))) : Int) < (↑s.data.toList.length : Int)) (.d [.ptr] (P_c_sReadD s (enP
 (List.take k L) s 0) (L.getD k default)) (.p (((List.map datumC (List.take k L)).length + 1) * 56 ≤ 140737488355328) (.d [.ptr] (P_c_sSkip s (enR (L.getD k default) s (enP
 (List.take k L) s 0)) false) (.g [0, 5] (k + 1) [.a (vI (↑(sk s (enR (L.getD k default) s (enP (List.take k L) s 0))) : Int)), .o (Ob.arr true 4 (List.map datumC (List.take k L)
 ++ [datumF (L.getD k default)]))])))) (.o 0 [0, 1] [.a (vI (↑(sk s (atR (L.getD k default) (enP (List.take k L) s 0))) : Int)), .o (Ob.arr true 4 (List.map datumC (List.take k
 L)))]))))) (by
  intro k h; try dsimp only [teasy, nthW, lc_sPDataLa] at h ⊢
  have g1 := @rds_step L s k
  have g0 := @rds_at L s (k + 1)
  have g00 := @rds_at L s k
  have g2 := @rds_end L s
  have g3 := @sumBy_mem _ sizeD L (L.getD k default)
  with_reducible repeat' (first | apply And.intro | exact zR | (intro; skip) | apply c_sSkip | apply c_sReadD | apply c_sAreD)
  all_goals (try simp only [std, inj] at *)
  all_goals with_reducible repeat' apply And.intro
  all_goals (try (first | with_reducible apply c_sSkip | with_reducible apply c_sReadD | with_reducible apply c_sAreD | (simp only [← List.map_append]; first | with_reducible apply c_sSkip | with_reducible apply c_sReadD | with_reducible apply c_sAreD)))
  all_goals (try (first | exact z | grind [atR, take_get, getD_mem', snocI, snocS, rowSnoc])))
theorem c_sPData (L : List Datum) (s : ByteArray) (h : rdsB L s = true)  : P_c_sPData L s := fnOK Tryd.call28 Tryd.func28 (.h (s.data.toList.length ≤ 9223372036854775807) (.i (15000
 < (↑s.data.toList.length : Int)) (.w (.ghost (.nilreg 2 true 4)) (.f [0] [Ob.arr true 4 []] (AV.tup [SV.one (AC.ref 0), lb false]))) (.w (.bool false) (.d [.ptr] (P_c_sSkip s 0
 false) (.l (lc_sPDataLa L s) (Sc_sPDataLa L s h) [0, 1] [.a (vI (↑(sk s 0) : Int)), .o (Ob.arr true 4 [])] 0 (.t (.y false (.d [.rd] (P_c_sAreD L) (.b (!areD L) (.w (.ghost
 (.nilreg 2 true 4)) (.f [2] [Ob.arr true 4 []] (AV.tup [SV.one (AC.ref 0), lb false]))) (.f [1] [Ob.arr true 4 (List.map datumC L)] (AV.tup [SV.one (AC.ref 0), lb true])))))
 .q)))))) (by
  dsimp only [teasy, P_c_sPData, nthW, lc_sPDataLa]
  have g1 := @rds_end L s
  have g2 := @rds_zero L s
  have g3 := @rds_noc0 L s
  with_reducible repeat' (first | apply And.intro | exact zR | (intro; skip) | apply c_sSkip | apply c_sReadD | apply c_sAreD)
  all_goals (try simp only [std, inj] at *)
  all_goals with_reducible repeat' apply And.intro
  all_goals (try (first | with_reducible apply c_sSkip | with_reducible apply c_sReadD | with_reducible apply c_sAreD | (simp only [← List.map_append]; first | with_reducible apply c_sSkip | with_reducible apply c_sReadD | with_reducible apply c_sAreD)))
  all_goals (try (first | exact z | grind [atR, areD, snocI, snocS, rowSnoc])))
abbrev P_c_iAtom (t : ByteArray) : Ct := ⟨44, [], [ls t], datumO (atG t), .tup [datumR (atG t) 0, lb true]⟩
theorem c_iAtom (t : ByteArray) (h : (atomO t).isSome = true)  : P_c_iAtom t := fnOK Tryd.call44 Tryd.func44 (.c [.rd] (c_iPNum t) (.b (isNum t) (.w (.ghost (.nilbox 0 3 true 4)) (.f
 [1] [Ob.arr true 4 []] (AV.tup [SV.agg [vI 2, vI (numV t), vS (ByteArray.mk #[]), AC.ref 0], lb true]))) (.i (t.data.toList = [(35 : UInt8), (116 : UInt8)]) (.w (.ghost (.nilbox 0
 3 true 4)) (.f [1] [Ob.arr true 4 []] (AV.tup [SV.agg [vI 3, vI 1, vS (ByteArray.mk #[]), AC.ref 0], lb true]))) (.i (t.data.toList = [(35 : UInt8), (102 : UInt8)]) (.w (.ghost
 (.nilbox 0 3 true 4)) (.f [1] [Ob.arr true 4 []] (AV.tup [SV.agg [vI 3, vI 0, vS (ByteArray.mk #[]), AC.ref 0], lb true]))) (.c [.rd] (c_iIsSymbol t) (.b (isSym t) (.w (.ghost
 (.nilbox 0 3 true 4)) (.f [1] [Ob.arr true 4 []] (AV.tup [SV.agg [vI 1, vI 0, vS t, AC.ref 0], lb true]))) (.w (.ghost (.nilbox 0 3 true 4)) (.f [1] [Ob.arr true 4 []] (AV.tup
 [SV.agg [vI 0, vI 0, vS (ByteArray.mk #[]), AC.ref 0], lb false]))))))))) (by
  dsimp only [teasy, P_c_iAtom]
  have g0 : atomO t = some (atG t) := by obtain ⟨d, e⟩ := Option.isSome_iff_exists.1 h; unfold atG; rw [e]; rfl
  have g1 := @atm_num t (atG t) g0
  have g2 := @atm_t t (atG t) g0
  have g3 := @atm_f t (atG t) g0
  have g4 := @atm_s t (atG t) g0
  with_reducible repeat' (first | apply And.intro | exact zR | (intro; skip) | apply c_iPNum | apply c_iIsSymbol)
  all_goals (try simp only [std, inj] at *)
  all_goals with_reducible repeat' apply And.intro
  all_goals (try (first | with_reducible apply c_iPNum | with_reducible apply c_iIsSymbol | (simp only [← List.map_append]; first | with_reducible apply c_iPNum | with_reducible apply c_iIsSymbol)))
  all_goals (try (first | exact z | grind [snocI, snocS, rowSnoc])))
abbrev P_c_iReadD (s : ByteArray) (a : Nat) (q : Int) (d : Datum) : Ct := ⟨21, [.box [vS s, vI (sk s (atR d a) : Nat), vI q]], [.one (.ptr 0 0)], .box [vS s, vI (enR d s a : Nat), vI (q + sizeD d)] :: datumO d, .tup [datumR d 1, lb true]⟩
def lc_iReadD_sLc (s : ByteArray) (a : Nat) (q : Int) (d : Datum) : Lp Nat := .mk 225 1 (fun x => [(0, SV.one (AC.ptr 0 0)), (2, SV.one (AC.ptr 1 0)), (11, li (↑(sk s (sk s (atR d
 a))) : Int))]) (fun x => [Ob.box [vS s, ha x 0, vI (q + 1)], Ob.box [vI 0, vI 0, vS (ByteArray.mk #[]), AC.val (Cell.lit (Value.slice none 0 0))]]) (fun k => [.a (vI (↑k : Int))])
 (fun k => sk s a ≤ k ∧ k ≤ s.size ∧ pst isRu s k = pst isRu s (sk s a)) (fun k => s.size - k) [.mk True (.exit 5) (fun x => [(0, SV.one (AC.ptr 0 0)), (2, SV.one (AC.ptr 1 0)),
 (11, li (↑(sk s (sk s (atR d a))) : Int))]) (fun x => [Ob.box [vS s, ha x 0, vI (q + 1)], Ob.box [vI 0, vI 0, vS (ByteArray.mk #[]), AC.val (Cell.lit (Value.slice none 0 0))]])
 [.a (vI (↑(pst isRu s (sk s a)) : Int))]]
def lc_iReadD_sLb (s : ByteArray) (a : Nat) (q : Int) (d : Datum) : Lp Nat := .mk 225 1 (fun x => [(0, SV.one (AC.ptr 0 0)), (2, SV.one (AC.ptr 1 0)), (9, hs x 1), (10, hs x 0)])
 (fun x => [Ob.box [vS s, vI (↑(sk s (sk s (atR d a))) : Int), vI (q + 1)], Ob.box [vI 0, vI 0, vS (ByteArray.mk #[]), AC.val (Cell.lit (Value.slice none 0 0))]]) (fun k => [.s (li
 (↑k : Int)), .s (li (↑(sk s a + 1) : Int))]) (fun k => sk s a + 1 ≤ k ∧ k ≤ s.size ∧ pst noQ s k = pst noQ s (sk s a + 1)) (fun k => s.size - k) [.mk (pst noQ s (sk s a + 1) =
 s.size) (.exit 3) (fun x => [(2, SV.one (AC.ptr 1 0))]) (fun x => [Ob.box [vS s, vI (↑(sk s (sk s (atR d a))) : Int), vI (q + 1)], Ob.box [vI 0, vI 0, vS (ByteArray.mk #[]),
 AC.val (Cell.lit (Value.slice none 0 0))]]) [], .mk (pst noQ s (sk s a + 1) < s.size) .ret (fun x => [(2, SV.one (AC.ptr 1 0)), (3, hs x 4)]) (fun x => [Ob.box [vS s, ha x 0, vI
 (q + 1)], Ob.box [ha x 1, ha x 2, ha x 3, AC.val (Cell.lit (Value.slice none 0 0))]]) [.a (vI (↑(pst noQ s (sk s a + 1) + 1) : Int)), .a (vI 4), .a (vI 0), .a (vS (mkS (List.take
 (pst noQ s (sk s a + 1) - (sk s a + 1)) (List.drop (sk s a + 1) s.data.toList)))), .s (lb (isStr (mkS (List.take (pst noQ s (sk s a + 1) - (sk s a + 1)) (List.drop (sk s a + 1)
 s.data.toList)))))]]
def lc_iReadD_sLa (s : ByteArray) (a : Nat) (q : Int) (d : Datum) : Lp Nat := .mk 225 1 (fun x => [(0, SV.one (AC.ptr 0 0)), (2, SV.one (AC.ptr 1 0)), (4, SV.one (AC.ref 2))]) (fun
 x => [Ob.box [vS s, ha x 0, ha x 1], Ob.box [vI 0, vI 0, vS (ByteArray.mk #[]), AC.val (Cell.lit (Value.slice none 0 0))], ho x 2]) (fun k => [.a (vI (↑(atR (d.items.getD k
 default) (enP (List.take k d.items) s (sk s a + 1))) : Int)), .a (vI (q + 1 + (↑(sumBy sizeD (List.take k d.items)) : Int))), .o (Ob.arr true 4 (List.map datumC (List.take k
 d.items)))]) (fun k => k ≤ d.items.length ∧ d.items.length ≤ 9223372036854775807 ∧ a ≤ s.size ∧ s.size ≤ 15000 ∧ okR d s a = true ∧ byt s (sk s a) = 40 ∧ 0 ≤ q ∧ q + (↑(sizeD d) :
 Int) ≤ 600) (fun k => d.items.length - k) [.mk (byt s (sk s a) = 40) .ret (fun x => [(2, SV.one (AC.ptr 1 0)), (3, hs x 6)]) (fun x => [Ob.box [vS s, ha x 0, ha x 1], Ob.box [ha x
 2, ha x 3, ha x 4, AC.ref 2], ho x 5]) [.a (vI (↑(enR d s a) : Int)), .a (vI (q + (↑(sizeD d) : Int))), .a (vI 0), .a (vI 0), .a (vS (mkS [])), .o (Ob.arr true 4 (List.map datumC
 d.items)), .s (lb true)]]
theorem Sc_iReadD_sLc (s : ByteArray) (a : Nat) (q : Int) (d : Datum) (h : a ≤ s.size ∧ s.size ≤ 15000 ∧ okR d s a = true ∧ 0 ≤ q ∧ q + (↑(sizeD d) : Int) ≤ 600) (ih : ∀ (z :
 Datum), z ∈ d.items → ∀ (s : ByteArray) (a : Nat) (q : Int), a ≤ s.size ∧ s.size ≤ 15000 ∧ okR z s a = true ∧ 0 ≤ q ∧ q + (↑(sizeD z) : Int) ≤ 600 → OK (P_c_iReadD s a q z)) :
 Lp.Sem Tryd.prog (loopAt Tryd.f21 2) (lc_iReadD_sLc s a q d) := lpOK (fun k => .w (.draw []) (.i ((↑k : Int) < (↑s.data.toList.length : Int)) (.p (0 ≤ (↑k : Int) ∧ (↑k :
 Int).toNat < s.data.toList.length) (.c [.rd] (c_iEnds (↑(s.data.toList.getD (↑k : Int).toNat (0 : UInt8)).toNat : Int)) (.h (s.data.toList.length ≤ 9223372036854775807) (.b
 (!!isRu (↑(s.data.toList.getD (↑k : Int).toNat (0 : UInt8)).toNat : Int)) (.r ((↑k : Int) + 1) (.g [0, 1] (k + 1) [.a (vI ((↑k : Int) + 1))])) (.o 0 [0, 1] [.a (vI (↑k :
 Int))]))))) (.h (s.data.toList.length ≤ 9223372036854775807) (.y false (.o 0 [0, 1] [.a (vI (↑k : Int))]))))) (by
  intro k h; try dsimp only [teasy, nthW, lc_iReadD_sLc] at h ⊢
  have g1 := @pst_go isRu s k
  have g2 := @pst_stop isRu s k
  with_reducible repeat' (first | apply And.intro | exact zR | exact ih | (intro; skip) | apply c_iSkip | apply c_iAtom | apply c_iString | apply c_iReadX)
  all_goals (try simp only [std, inj] at *)
  all_goals with_reducible repeat' apply And.intro
  all_goals (try (first | with_reducible apply c_iSkip | with_reducible apply c_iAtom | with_reducible apply c_iString | with_reducible apply c_iReadX | with_reducible apply ih | (simp only [← List.map_append]; first | with_reducible apply c_iSkip | with_reducible apply c_iAtom | with_reducible apply c_iString | with_reducible apply c_iReadX | with_reducible apply ih)))
  all_goals (try (first | exact z | grind [byt, snocI, snocS, rowSnoc])))
theorem Sc_iReadD_sLb (s : ByteArray) (a : Nat) (q : Int) (d : Datum) (h : a ≤ s.size ∧ s.size ≤ 15000 ∧ okR d s a = true ∧ 0 ≤ q ∧ q + (↑(sizeD d) : Int) ≤ 600) (ih : ∀ (z :
 Datum), z ∈ d.items → ∀ (s : ByteArray) (a : Nat) (q : Int), a ≤ s.size ∧ s.size ≤ 15000 ∧ okR z s a = true ∧ 0 ≤ q ∧ q + (↑(sizeD z) : Int) ≤ 600 → OK (P_c_iReadD s a q z)) :
 Lp.Sem Tryd.prog (loopAt Tryd.f21 1) (lc_iReadD_sLb s a q d) := lpOK (fun k => .h (s.data.toList.length ≤ 9223372036854775807) (.i ((↑k : Int) < (↑s.data.toList.length : Int)) (.p
 (0 ≤ (↑k : Int) ∧ (↑k : Int).toNat < s.data.toList.length) (.i ((↑(s.data.toList.getD (↑k : Int).toNat (0 : UInt8)).toNat : Int) = 34) (.r ((↑k : Int) + 1) (.w (.draw [(16, [1])])
 (.p (0 ≤ (↑(sk s a + 1) : Int)) (.p (0 ≤ (↑k : Int)) (.p ((↑(sk s a + 1) : Int).toNat ≤ (↑k : Int).toNat ∧ (↑k : Int).toNat ≤ s.data.toList.length) (.p (0 ≤ (↑(sk s a + 1) : Int))
 (.p (0 ≤ (↑k : Int)) (.p ((↑(sk s a + 1) : Int).toNat ≤ (↑k : Int).toNat ∧ (↑k : Int).toNat ≤ s.data.toList.length) (.c [.rd] (c_iString (ByteArray.mk (List.take ((↑k : Int).toNat
 - (↑(sk s a + 1) : Int).toNat) (List.drop (↑(sk s a + 1) : Int).toNat s.data.toList)).toArray)) (.o 1 [0, 1] [.a (vI ((↑k : Int) + 1)), .a (vI 4), .a (vI 0), .a (vS (ByteArray.mk
 (List.take ((↑k : Int).toNat - (↑(sk s a + 1) : Int).toNat) (List.drop (↑(sk s a + 1) : Int).toNat s.data.toList)).toArray)), .s (lb (isStr (ByteArray.mk (List.take ((↑k :
 Int).toNat - (↑(sk s a + 1) : Int).toNat) (List.drop (↑(sk s a + 1) : Int).toNat s.data.toList)).toArray)))])))))))))) (.r ((↑k : Int) + 1) (.g [0, 1] (k + 1) [.s (li ((↑k : Int)
 + 1)), .s (li (↑(sk s a + 1) : Int))])))) (.o 0 [0, 1] []))) (by
  intro k h; try dsimp only [teasy, nthW, lc_iReadD_sLb] at h ⊢
  have g1 := @pst_goQ s k
  have g2 := @pst_stopQ s k
  with_reducible repeat' (first | apply And.intro | exact zR | exact ih | (intro; skip) | apply c_iSkip | apply c_iAtom | apply c_iString | apply c_iReadX)
  all_goals (try simp only [std, inj] at *)
  all_goals with_reducible repeat' apply And.intro
  all_goals (try (first | with_reducible apply c_iSkip | with_reducible apply c_iAtom | with_reducible apply c_iString | with_reducible apply c_iReadX | with_reducible apply ih | (simp only [← List.map_append]; first | with_reducible apply c_iSkip | with_reducible apply c_iAtom | with_reducible apply c_iString | with_reducible apply c_iReadX | with_reducible apply ih)))
  all_goals (try (first | exact z | grind [byt, snocI, snocS, rowSnoc])))
theorem Sc_iReadD_sLa (s : ByteArray) (a : Nat) (q : Int) (d : Datum) (h : a ≤ s.size ∧ s.size ≤ 15000 ∧ okR d s a = true ∧ 0 ≤ q ∧ q + (↑(sizeD d) : Int) ≤ 600) (ih : ∀ (z :
 Datum), z ∈ d.items → ∀ (s : ByteArray) (a : Nat) (q : Int), a ≤ s.size ∧ s.size ≤ 15000 ∧ okR z s a = true ∧ 0 ≤ q ∧ q + (↑(sizeD z) : Int) ≤ 600 → OK (P_c_iReadD s a q z)) :
 Lp.Sem Tryd.prog (loopAt Tryd.f21 0) (lc_iReadD_sLa s a q d) := lpOK (fun k => .d [.ptr] (P_c_iSkip s (atR (d.items.getD k default) (enP (List.take k d.items) s (sk s a + 1))) (q
 + 1 + (↑(sumBy sizeD (List.take k d.items)) : Int))) (.w (.draw []) (.h (s.data.toList.length ≤ 9223372036854775807) (.i ((↑s.data.toList.length : Int) ≤ (↑(sk s (atR
 (d.items.getD k default) (enP (List.take k d.items) s (sk s a + 1)))) : Int)) (.w (.ghost (.nilbox 1 3 true 4)) (.o 0 [0, 1, 3] [.a (vI (↑(sk s (atR (d.items.getD k default) (enP
 (List.take k d.items) s (sk s a + 1)))) : Int)), .a (vI (q + 1 + (↑(sumBy sizeD (List.take k d.items)) : Int))), .a (vI 0), .a (vI 0), .a (vS (ByteArray.mk #[])), .o (Ob.arr true
 4 []), .s (lb false)])) (.w (.draw []) (.p (0 ≤ (↑(sk s (atR (d.items.getD k default) (enP (List.take k d.items) s (sk s a + 1)))) : Int) ∧ (↑(sk s (atR (d.items.getD k default)
 (enP (List.take k d.items) s (sk s a + 1)))) : Int).toNat < s.data.toList.length) (.i ((↑(s.data.toList.getD (↑(sk s (atR (d.items.getD k default) (enP (List.take k d.items) s (sk
 s a + 1)))) : Int).toNat (0 : UInt8)).toNat : Int) = 41) (.r ((↑(sk s (atR (d.items.getD k default) (enP (List.take k d.items) s (sk s a + 1)))) : Int) + 1) (.o 0 [0, 1, 2] [.a
 (vI ((↑(sk s (atR (d.items.getD k default) (enP (List.take k d.items) s (sk s a + 1)))) : Int) + 1)), .a (vI (q + 1 + (↑(sumBy sizeD (List.take k d.items)) : Int))), .a (vI 0), .a
 (vI 0), .a (vS (ByteArray.mk #[])), .o (Ob.arr true 4 (List.map datumC (List.take k d.items))), .s (lb true)])) (.d [.ptr] (P_c_iReadD s (enP (List.take k d.items) s (sk s a + 1))
 (q + 1 + (↑(sumBy sizeD (List.take k d.items)) : Int)) (d.items.getD k default)) (.y false (.p (((List.map datumC (List.take k d.items)).length + 1) * 56 ≤ 140737488355328) (.g
 [0, 1, 7] (k + 1) [.a (vI (↑(enR (d.items.getD k default) s (enP (List.take k d.items) s (sk s a + 1))) : Int)), .a (vI (q + 1 + (↑(sumBy sizeD (List.take k d.items)) : Int) +
 (↑(sizeD (d.items.getD k default)) : Int))), .o (Ob.arr true 4 (List.map datumC (List.take k d.items) ++ [datumF (d.items.getD k default)]))]))))))))))) (by
  intro k h; try dsimp only [teasy, nthW, lc_iReadD_sLa] at h ⊢
  have hq := h
  obtain ⟨q1, q2, q3, q4, q5, q6, q7, q8⟩ := hq
  have g4 := @rdl d s a q3 q5 q6 k q1
  have g5 : k < d.items.length → _ := fun hk => @rdl d s a q3 q5 q6 (k + 1) hk
  have g6 := @rd_list d s a q3 q5 q6
  have g7 := sizeD_eq d
  have g8 := @sumBy_step _ _ sizeD d.items k
  have g9 := sumBy_takeLe sizeD d.items (k + 1)
  have g10 := len_sizeD d.items
  with_reducible repeat' (first | apply And.intro | exact zR | exact ih | (intro; skip) | apply c_iSkip | apply c_iAtom | apply c_iString | apply c_iReadX | apply ih)
  all_goals (try simp only [std, inj] at *)
  all_goals with_reducible repeat' apply And.intro
  all_goals (try (first | with_reducible apply c_iSkip | with_reducible apply c_iAtom | with_reducible apply c_iString | with_reducible apply c_iReadX | with_reducible apply ih | (simp only [← List.map_append]; first | with_reducible apply c_iSkip | with_reducible apply c_iAtom | with_reducible apply c_iString | with_reducible apply c_iReadX | with_reducible apply ih)))
  all_goals (try (first | exact z | grind [byt, atR, take_get, getD_mem', snocI, snocS, rowSnoc])))
theorem c_iReadD_s (s : ByteArray) (a : Nat) (q : Int) (d : Datum) (h : a ≤ s.size ∧ s.size ≤ 15000 ∧ okR d s a = true ∧ 0 ≤ q ∧ q + sizeD d ≤ 600) (ih : ∀ z ∈ d.items, ∀ (s :
 ByteArray) (a : Nat) (q : Int) (h : a ≤ s.size ∧ s.size ≤ 15000 ∧ okR z s a = true ∧ 0 ≤ q ∧ q + sizeD z ≤ 600), P_c_iReadD s a q z)  : P_c_iReadD s a q d := fnOK Tryd.call21
 Tryd.func21 (.d [.ptr] (P_c_iSkip s (sk s (atR d a)) q) (.r (q + 1) (.w (.draw []) (.i ((↑s.data.toList.length : Int) ≤ (↑(sk s (sk s (atR d a))) : Int)) (.h (s.data.toList.length
 ≤ 9223372036854775807) (.y true (.w (.ghost (.nilbox 1 3 true 4)) (.f [2] [Ob.box [vS s, vI (↑(sk s (sk s (atR d a))) : Int), vI (q + 1)], Ob.arr true 4 []] (AV.tup [SV.agg [vI 0,
 vI 0, vS (ByteArray.mk #[]), AC.ref 1], lb false]))))) (.h (s.data.toList.length ≤ 9223372036854775807) (.i (600 < q + 1) (.w (.ghost (.nilbox 1 3 true 4)) (.f [2] [Ob.box [vS s,
 vI (↑(sk s (sk s (atR d a))) : Int), vI (q + 1)], Ob.arr true 4 []] (AV.tup [SV.agg [vI 0, vI 0, vS (ByteArray.mk #[]), AC.ref 1], lb false]))) (.w (.draw []) (.p (0 ≤ (↑(sk s (sk
 s (atR d a))) : Int) ∧ (↑(sk s (sk s (atR d a))) : Int).toNat < s.data.toList.length) (.i ((↑(s.data.toList.getD (↑(sk s (sk s (atR d a))) : Int).toNat (0 : UInt8)).toNat : Int) =
 40) (.r ((↑(sk s (sk s (atR d a))) : Int) + 1) (.w (.ghost (.nilreg 4 true 4)) (.l (lc_iReadD_sLa s a q d) (Sc_iReadD_sLa s a q d h ih) [0, 1, 2] [.a (vI ((↑(sk s (sk s (atR d
 a))) : Int) + 1)), .a (vI (q + 1)), .o (Ob.arr true 4 [])] 0 (.t (.f [2] [Ob.box [vS s, vI (↑(enR d s a) : Int), vI (q + (↑(sizeD d) : Int))], Ob.arr true 4 (List.map datumC
 d.items)] (AV.tup [SV.agg [vI 0, vI 0, vS (mkS []), AC.ref 1], lb true])) .q)))) (.i ((↑(s.data.toList.getD (↑(sk s (sk s (atR d a))) : Int).toNat (0 : UInt8)).toNat : Int) = 41)
 (.w (.ghost (.nilbox 1 3 true 4)) (.f [2] [Ob.box [vS s, vI (↑(sk s (sk s (atR d a))) : Int), vI (q + 1)], Ob.arr true 4 []] (AV.tup [SV.agg [vI 0, vI 0, vS (ByteArray.mk #[]),
 AC.ref 1], lb false]))) (.i ((↑(s.data.toList.getD (↑(sk s (sk s (atR d a))) : Int).toNat (0 : UInt8)).toNat : Int) = 39) (.r ((↑(sk s (sk s (atR d a))) : Int) + 1) (.r (q + 1 +
 1) (.d [.ptr] (P_c_iReadX s ((↑(sk s (sk s (atR d a))) : Int) + 1) (q + 1 + 1)) (.y false (.f [5] [Ob.box [vS s, vI ((↑(sk s (sk s (atR d a))) : Int) + 1), vI (q + 1 + 1)], Ob.arr
 true 4 [[cI 1, cI 0, cS (ByteArray.mk #[(113 : UInt8), (117 : UInt8), (111 : UInt8), (116 : UInt8), (101 : UInt8)]), Cell.list []], [cI dfD.kind, cI dfD.number, cS dfD.text,
 Cell.list []]]] (AV.tup [SV.agg [vI 0, vI 0, vS (ByteArray.mk #[]), AC.ref 1], lb true])))))) (.i ((↑(s.data.toList.getD (↑(sk s (sk s (atR d a))) : Int).toNat (0 : UInt8)).toNat
 : Int) = 34) (.r ((↑(sk s (sk s (atR d a))) : Int) + 1) (.l (lc_iReadD_sLb s a q d) (Sc_iReadD_sLb s a q d h ih) [0, 1] [.s (li ((↑(sk s (sk s (atR d a))) : Int) + 1)), .s (li
 ((↑(sk s (sk s (atR d a))) : Int) + 1))] (sk s a + 1) (.t (.w (.ghost (.nilbox 1 3 true 4)) (.f [2] [Ob.box [vS s, vI (↑(sk s (sk s (atR d a))) : Int), vI (q + 1)], Ob.arr true 4
 []] (AV.tup [SV.agg [vI 0, vI 0, vS (ByteArray.mk #[]), AC.ref 1], lb false]))) (.t (.w (.ghost (.nilbox 1 3 true 4)) (.f [2] [Ob.box [vS s, vI (↑(pst noQ s (sk s a + 1) + 1) :
 Int), vI (q + 1)], Ob.arr true 4 []] (AV.tup [SV.agg [vI 4, vI 0, vS (mkS (List.take (pst noQ s (sk s a + 1) - (sk s a + 1)) (List.drop (sk s a + 1) s.data.toList))), AC.ref 1],
 lb (isStr (mkS (List.take (pst noQ s (sk s a + 1) - (sk s a + 1)) (List.drop (sk s a + 1) s.data.toList))))]))) .q)))) (.l (lc_iReadD_sLc s a q d) (Sc_iReadD_sLc s a q d h ih) [0,
 1] [.a (vI (↑(sk s (sk s (atR d a))) : Int))] (sk s a) (.t (.w (.draw [(13, [1])]) (.p (0 ≤ (↑(sk s (sk s (atR d a))) : Int)) (.p (0 ≤ (↑(pst isRu s (sk s a)) : Int)) (.p ((↑(sk s
 (sk s (atR d a))) : Int).toNat ≤ (↑(pst isRu s (sk s a)) : Int).toNat ∧ (↑(pst isRu s (sk s a)) : Int).toNat ≤ s.data.toList.length) (.d [.rd] (P_c_iAtom (ByteArray.mk (List.take
 ((↑(pst isRu s (sk s a)) : Int).toNat - (↑(sk s (sk s (atR d a))) : Int).toNat) (List.drop (↑(sk s (sk s (atR d a))) : Int).toNat s.data.toList)).toArray)) (.f [2] [Ob.box [vS s,
 vI (↑(pst isRu s (sk s a)) : Int), vI (q + 1)], Ob.arr true 4 (List.map datumC (atG (ByteArray.mk (List.take ((↑(pst isRu s (sk s a)) : Int).toNat - (↑(sk s (sk s (atR d a))) :
 Int).toNat) (List.drop (↑(sk s (sk s (atR d a))) : Int).toNat s.data.toList)).toArray)).items)] (AV.tup [SV.agg [vI (atG (ByteArray.mk (List.take ((↑(pst isRu s (sk s a)) :
 Int).toNat - (↑(sk s (sk s (atR d a))) : Int).toNat) (List.drop (↑(sk s (sk s (atR d a))) : Int).toNat s.data.toList)).toArray)).kind, vI (atG (ByteArray.mk (List.take ((↑(pst
 isRu s (sk s a)) : Int).toNat - (↑(sk s (sk s (atR d a))) : Int).toNat) (List.drop (↑(sk s (sk s (atR d a))) : Int).toNat s.data.toList)).toArray)).number, vS (atG (ByteArray.mk
 (List.take ((↑(pst isRu s (sk s a)) : Int).toNat - (↑(sk s (sk s (atR d a))) : Int).toNat) (List.drop (↑(sk s (sk s (atR d a))) : Int).toNat s.data.toList)).toArray)).text, AC.ref
 1], lb true]))))))) .q)))))))))))))) (by
  dsimp only [teasy, P_c_iReadD, nthW, lc_iReadD_sLa, lc_iReadD_sLb, lc_iReadD_sLc]
  have g1 := @rd_hd d s a
  have g2 := @rd_list d s a
  have g3 := @rd_str d s a
  have g4 := @rd_atm d s a
  have g5 := @rdl0 d s a
  have g6 := @sk_le s a
  have g7 := sizeD_eq d
  have g8 : sumBy sizeD (d.items.take 0) = 0 := rfl
  have g9 := sbs_mk s (sk s a) (pst isRu s (sk s a))
  have e0 : sk s (atR d a) = sk s a := rfl
  have g12 := @noc0 d s a
  have g13 : enR d s a ≤ s.size := (enR_rs h.1 h.2.2.1).2.2
  have g14 : d.items.length ≤ 600 := by have := len_sizeD d.items; omega
  have g15 := @atm_items (sbs s (sk s a) (pst isRu s (sk s a))) d
  have g16 := @items_one d
  have g17 : atomO (sbs s (sk s a) (pst isRu s (sk s a))) = some d → atG (sbs s (sk s a) (pst isRu s (sk s a))) = d := fun q => by unfold atG; rw [q]; rfl
  have e1 : sk s (sk s (atR d a)) = sk s a := sk_idem h.1
  have g10 : sk s a + 1 ≤ s.size → sk s a + 1 ≤ pst noQ s (sk s a + 1) ∧ pst noQ s (sk s a + 1) ≤ s.size := fun q => (pst_rs noQ q).2
  have g11 : sk s a ≤ s.size → sk s a ≤ pst isRu s (sk s a) ∧ pst isRu s (sk s a) ≤ s.size := fun q => (pst_rs isRu q).2
  with_reducible repeat' (first | apply And.intro | exact zR | exact ih | (intro; skip) | apply c_iSkip | apply c_iAtom | apply c_iString | apply c_iReadX)
  all_goals (try simp only [std, inj] at *)
  all_goals with_reducible repeat' apply And.intro
  all_goals (try (first | with_reducible apply c_iSkip | with_reducible apply c_iAtom | with_reducible apply c_iString | with_reducible apply c_iReadX | with_reducible apply ih | (simp only [← List.map_append]; first | with_reducible apply c_iSkip | with_reducible apply c_iAtom | with_reducible apply c_iString | with_reducible apply c_iReadX | with_reducible apply ih)))
  all_goals (try (first | exact z | grind [byt, atR, snocI, snocS, rowSnoc])))
theorem c_iReadD (d : Datum) : ∀ (s : ByteArray) (a : Nat) (q : Int) (h : a ≤ s.size ∧ s.size ≤ 15000 ∧ okR d s a = true ∧ 0 ≤ q ∧ q + sizeD d ≤ 600), P_c_iReadD s a q d := Datum.ind (P := fun d => ∀ (s : ByteArray) (a : Nat) (q : Int) (h : a ≤ s.size ∧ s.size ≤ 15000 ∧ okR d s a = true ∧ 0 ≤ q ∧ q + sizeD d ≤ 600), P_c_iReadD s a q d) (fun d ih s a q h => c_iReadD_s s a q d h ih) d
def scnA (L : List Datum) : Bool × Int := scan (fun x m => meaD x 1 m) L 0
theorem scnA_of {L : List Datum} (h : L.all isDat = true) (h1 : sumBy sizeD L ≤ 600) : (scnA L).1 = true := by
  refine ((scan_of (fun x m => meaD x 1 m) sizeD (fun x => (1 : Int) + depD x ≤ 21 ∧ okD x = true) 600 L (fun x _ m hm => meaD_of x 1 m hm) 0 (by decide)).1).2 ⟨by omega, fun x hx => ?_⟩
  have := List.all_eq_true.1 h x hx
  simp only [isDat, Bool.and_eq_true, decide_eq_true_eq] at this
  exact ⟨by omega, this.2⟩
abbrev P_c_iAreD (L : List Datum) : Ct := ⟨22, [], [ll (L.map datumC)], [], .sv (lb true)⟩
def lc_iAreDLa (L : List Datum) : Lp Nat := .mk 16 0 (fun x => [(3, SV.one (AC.ptr 0 0)), (6, ll (List.map datumC L)), (7, li (↑(List.map datumC L).length : Int)), (8, hs x 0)])
 (fun x => [Ob.box [ha x 1]]) (fun k => [.s (li (↑k : Int)), .a (vI (scnA (List.take k L)).snd)]) (fun k => k ≤ L.length ∧ L.length ≤ 9223372036854775807 ∧ (scnA (List.take k
 L)).fst = true ∧ 0 ≤ (scnA (List.take k L)).snd ∧ (scnA (List.take k L)).snd ≤ 600 ∧ (scnA L).fst = true) (fun k => L.length - k) [.mk True (.exit 0) (fun x => []) (fun x => [])
 [], .mk True .ret (fun x => [(2, hs x 0)]) (fun x => []) [.s (lb true)]]
theorem Sc_iAreDLa (L : List Datum) (h : L.all isDat = true ∧ sumBy sizeD L ≤ 600) : Lp.Sem Tryd.prog (loopAt Tryd.f22 0) (lc_iAreDLa L) := lpOK (fun k => .i ((↑k : Int) <
 (↑(List.map datumC L).length : Int)) (.x (↑k : Int) (List.map datumC L) (datumF (L.getD k default)) (.d [.rd, .rd, .ptr] (P_c_iMeaD (L.getD k default) 1 (scnA (List.take k
 L)).snd) (.b (!(meaD (L.getD k default) 1 (scnA (List.take k L)).snd).fst) (.o 1 [] [.s (lb false)]) (.r ((↑k : Int) + 1) (.g [0] (k + 1) [.s (li ((↑k : Int) + 1)), .a (vI (meaD
 (L.getD k default) 1 (scnA (List.take k L)).snd).snd)]))))) (.o 0 [] [])) (by
  intro k h; try dsimp only [teasy, nthW, lc_iAreDLa] at h ⊢
  have g1 := fun x m => meaD_of x 1 m
  with_reducible repeat' (first | apply And.intro | exact zR | (intro; skip) | apply c_iMeaD)
  all_goals (try simp only [std, inj] at *)
  all_goals with_reducible repeat' apply And.intro
  all_goals (try (first | with_reducible apply c_iMeaD | (simp only [← List.map_append]; first | with_reducible apply c_iMeaD)))
  all_goals (try (first | exact z | grind [scan_step, scan_stop, scnA, snocI, snocS, rowSnoc])))
theorem c_iAreD (L : List Datum) (h : L.all isDat = true ∧ sumBy sizeD L ≤ 600)  : P_c_iAreD L := fnOK Tryd.call22 Tryd.func22 (.z datumC L (.l (lc_iAreDLa L) (Sc_iAreDLa L h) [0]
 [.s (li 0), .a (vI 0)] 0 (.t (.s (lb true)) (.t (.s (lb true)) .q)))) (by
  dsimp only [teasy, P_c_iAreD, nthW, lc_iAreDLa]
  have g1 := @scnA_of L
  with_reducible repeat' (first | apply And.intro | exact zR | (intro; skip) | apply c_iMeaD)
  all_goals (try simp only [std, inj] at *)
  all_goals with_reducible repeat' apply And.intro
  all_goals (try (first | with_reducible apply c_iMeaD | (simp only [← List.map_append]; first | with_reducible apply c_iMeaD)))
  all_goals (try (first | exact z | grind [scnA, scan, snocI, snocS, rowSnoc])))
abbrev P_c_iPData (L : List Datum) (s : ByteArray) : Ct := ⟨7, [], [ls s], [.arr true 4 (L.map datumC)], .tup [.one (.ref 0), lb true]⟩
def lc_iPDataLa (L : List Datum) (s : ByteArray) : Lp Nat := .mk 33 0 (fun x => [(0, ls s), (4, SV.one (AC.ptr 0 0)), (5, SV.one (AC.ref 1))]) (fun x => [Ob.box [vS s, ha x 0, ha x
 1], ho x 2]) (fun k => [.a (vI (↑(atR (L.getD k default) (enP (List.take k L) s 0)) : Int)), .a (vI (↑(sumBy sizeD (List.take k L)) : Int)), .o (Ob.arr true 4 (List.map datumC
 (List.take k L)))]) (fun k => k ≤ L.length ∧ L.length ≤ 9223372036854775807 ∧ rdsB L s = true ∧ L.length ≤ 600) (fun k => L.length - k) [.mk True (.exit 0) (fun x => [(5, SV.one
 (AC.ref 0))]) (fun x => [ho x 0]) [.o (Ob.arr true 4 (List.map datumC L))]]
theorem Sc_iPDataLa (L : List Datum) (s : ByteArray) (h : rdsB L s = true) : Lp.Sem Tryd.prog (loopAt Tryd.f7 0) (lc_iPDataLa L s) := lpOK (fun k => .d [.ptr] (P_c_iSkip s (atR
 (L.getD k default) (enP (List.take k L) s 0)) (↑(sumBy sizeD (List.take k L)) : Int)) (.h (s.data.toList.length ≤ 9223372036854775807) (.i ((↑s.data.toList.length : Int) ≤ (↑(sk s
 (atR (L.getD k default) (enP (List.take k L) s 0))) : Int)) (.o 0 [1] [.o (Ob.arr true 4 (List.map datumC (List.take k L)))]) (.d [.ptr] (P_c_iReadD s (enP (List.take k L) s 0)
 (↑(sumBy sizeD (List.take k L)) : Int) (L.getD k default)) (.y false (.p (((List.map datumC (List.take k L)).length + 1) * 56 ≤ 140737488355328) (.g [0, 6] (k + 1) [.a (vI (↑(enR
 (L.getD k default) s (enP (List.take k L) s 0)) : Int)), .a (vI ((↑(sumBy sizeD (List.take k L)) : Int) + (↑(sizeD (L.getD k default)) : Int))), .o (Ob.arr true 4 (List.map datumC
 (List.take k L) ++ [datumF (L.getD k default)]))]))))))) (by
  intro k h; try dsimp only [teasy, nthW, lc_iPDataLa] at h ⊢
  have g1 := @rds_step L s k
  have g0 := @rds_at L s (k + 1)
  have g00 := @rds_at L s k
  have g2 := @rds_end L s
  have g3 := @sumBy_step _ _ sizeD L k
  have g4 := sumBy_takeLe sizeD L (k + 1)
  with_reducible repeat' (first | apply And.intro | exact zR | (intro; skip) | apply c_iSkip | apply c_iReadD | apply c_iAreD)
  all_goals (try simp only [std, inj] at *)
  all_goals with_reducible repeat' apply And.intro
  all_goals (try (first | with_reducible apply c_iSkip | with_reducible apply c_iReadD | with_reducible apply c_iAreD | (simp only [← List.map_append]; first | with_reducible apply c_iSkip | with_reducible apply c_iReadD | with_reducible apply c_iAreD)))
  all_goals (try (first | exact z | grind [atR, take_get, snocI, snocS, rowSnoc])))
theorem c_iPData (L : List Datum) (s : ByteArray) (h : rdsB L s = true)  : P_c_iPData L s := fnOK Tryd.call7 Tryd.func7 (.h (s.data.toList.length ≤ 9223372036854775807) (.i (15000 <
 (↑s.data.toList.length : Int)) (.w (.ghost (.nilreg 2 true 4)) (.f [0] [Ob.arr true 4 []] (AV.tup [SV.one (AC.ref 0), lb false]))) (.w (.ghost (.nilreg 5 true 4)) (.l (lc_iPDataLa
 L s) (Sc_iPDataLa L s h) [0, 1] [.a (vI 0), .a (vI 0), .o (Ob.arr true 4 [])] 0 (.t (.d [.rd] (P_c_iAreD L) (.y false (.f [0] [Ob.arr true 4 (List.map datumC L)] (AV.tup [SV.one
 (AC.ref 0), lb true])))) .q))))) (by
  dsimp only [teasy, P_c_iPData, nthW, lc_iPDataLa]
  have g1 := @rds_end L s
  have g2 := @rds_zero L s
  have g3 := @rds_noc0 L s
  with_reducible repeat' (first | apply And.intro | exact zR | (intro; skip) | apply c_iSkip | apply c_iReadD | apply c_iAreD)
  all_goals (try simp only [std, inj] at *)
  all_goals with_reducible repeat' apply And.intro
  all_goals (try (first | with_reducible apply c_iSkip | with_reducible apply c_iReadD | with_reducible apply c_iAreD | (simp only [← List.map_append]; first | with_reducible apply c_iSkip | with_reducible apply c_iReadD | with_reducible apply c_iAreD)))
  all_goals (try (first | exact z | grind [atR, areD, sumBy, snocI, snocS, rowSnoc])))
end Go.Proofs.YtgeegppaaggcjaaDoor
end
section
namespace Go.Proofs.YtgeegppaaggcjaaDoor
open Go Go.Proofs.YtgeegppaaggcjaaDoor.Ab
set_option linter.unusedVariables false
set_option linter.unusedSimpArgs false
set_option maxHeartbeats 4000000
theorem len5 (a b c d e : ByteArray) : (([a, b, c, d, e] : List ByteArray).length : Int) = 5 := rfl
theorem len4 (a b c d : ByteArray) : (([a, b, c, d] : List ByteArray).length : Int) = 4 := rfl
theorem lenB : (bodT.length : Int) = 6 := rfl
theorem lenU : (useT.length : Int) = 9 := rfl
abbrev P_c_dBod  : Ct := ⟨29, [], [], [.arr true 1 (bodT.map strC)], .sv (.one (.ref 0))⟩
theorem c_dBod   : P_c_dBod := fnOK Tryd.call29 Tryd.func29 (.f [0] [Ob.arr true 1 [[cS (ByteArray.mk #[(40 : UInt8), (100 : UInt8), (101 : UInt8), (102 : UInt8), (105 : UInt8), (110
 : UInt8), (101 : UInt8), (32 : UInt8), (97 : UInt8), (32 : UInt8), (51 : UInt8), (41 : UInt8), (32 : UInt8), (40 : UInt8), (100 : UInt8), (101 : UInt8), (102 : UInt8), (105 :
 UInt8), (110 : UInt8), (101 : UInt8), (32 : UInt8), (40 : UInt8), (105 : UInt8), (110 : UInt8), (99 : UInt8), (32 : UInt8), (120 : UInt8), (41 : UInt8), (32 : UInt8), (40 :
 UInt8), (43 : UInt8), (32 : UInt8), (120 : UInt8), (32 : UInt8), (49 : UInt8), (41 : UInt8), (41 : UInt8)])], [cS (ByteArray.mk #[(40 : UInt8), (100 : UInt8), (101 : UInt8), (102
 : UInt8), (105 : UInt8), (110 : UInt8), (101 : UInt8), (45 : UInt8), (115 : UInt8), (121 : UInt8), (110 : UInt8), (116 : UInt8), (97 : UInt8), (120 : UInt8), (32 : UInt8), (116 :
 UInt8), (119 : UInt8), (105 : UInt8), (99 : UInt8), (101 : UInt8), (32 : UInt8), (40 : UInt8), (115 : UInt8), (121 : UInt8), (110 : UInt8), (116 : UInt8), (97 : UInt8), (120 :
 UInt8), (45 : UInt8), (114 : UInt8), (117 : UInt8), (108 : UInt8), (101 : UInt8), (115 : UInt8), (32 : UInt8), (40 : UInt8), (41 : UInt8), (32 : UInt8), (40 : UInt8), (40 :
 UInt8), (95 : UInt8), (32 : UInt8), (101 : UInt8), (41 : UInt8), (32 : UInt8), (40 : UInt8), (98 : UInt8), (101 : UInt8), (103 : UInt8), (105 : UInt8), (110 : UInt8), (32 :
 UInt8), (101 : UInt8), (32 : UInt8), (101 : UInt8), (41 : UInt8), (41 : UInt8), (41 : UInt8), (41 : UInt8), (32 : UInt8), (40 : UInt8), (100 : UInt8), (101 : UInt8), (102 :
 UInt8), (105 : UInt8), (110 : UInt8), (101 : UInt8), (32 : UInt8), (99 : UInt8), (111 : UInt8), (117 : UInt8), (110 : UInt8), (116 : UInt8), (32 : UInt8), (48 : UInt8), (41 :
 UInt8), (32 : UInt8), (40 : UInt8), (100 : UInt8), (101 : UInt8), (102 : UInt8), (105 : UInt8), (110 : UInt8), (101 : UInt8), (32 : UInt8), (40 : UInt8), (98 : UInt8), (117 :
 UInt8), (109 : UInt8), (112 : UInt8), (41 : UInt8), (32 : UInt8), (40 : UInt8), (115 : UInt8), (101 : UInt8), (116 : UInt8), (33 : UInt8), (32 : UInt8), (99 : UInt8), (111 :
 UInt8), (117 : UInt8), (110 : UInt8), (116 : UInt8), (32 : UInt8), (40 : UInt8), (43 : UInt8), (32 : UInt8), (99 : UInt8), (111 : UInt8), (117 : UInt8), (110 : UInt8), (116 :
 UInt8), (32 : UInt8), (49 : UInt8), (41 : UInt8), (41 : UInt8), (41 : UInt8)])], [cS (ByteArray.mk #[(40 : UInt8), (100 : UInt8), (101 : UInt8), (102 : UInt8), (105 : UInt8), (110
 : UInt8), (101 : UInt8), (32 : UInt8), (115 : UInt8), (101 : UInt8), (99 : UInt8), (114 : UInt8), (101 : UInt8), (116 : UInt8), (32 : UInt8), (53 : UInt8), (41 : UInt8), (32 :
 UInt8), (40 : UInt8), (100 : UInt8), (101 : UInt8), (102 : UInt8), (105 : UInt8), (110 : UInt8), (101 : UInt8), (45 : UInt8), (115 : UInt8), (121 : UInt8), (110 : UInt8), (116 :
 UInt8), (97 : UInt8), (120 : UInt8), (32 : UInt8), (112 : UInt8), (101 : UInt8), (101 : UInt8), (107 : UInt8), (32 : UInt8), (40 : UInt8), (115 : UInt8), (121 : UInt8), (110 :
 UInt8), (116 : UInt8), (97 : UInt8), (120 : UInt8), (45 : UInt8), (114 : UInt8), (117 : UInt8), (108 : UInt8), (101 : UInt8), (115 : UInt8), (32 : UInt8), (40 : UInt8), (41 :
 UInt8), (32 : UInt8), (40 : UInt8), (40 : UInt8), (95 : UInt8), (41 : UInt8), (32 : UInt8), (115 : UInt8), (101 : UInt8), (99 : UInt8), (114 : UInt8), (101 : UInt8), (116 :
 UInt8), (41 : UInt8), (41 : UInt8), (41 : UInt8)])], [cS (ByteArray.mk #[(40 : UInt8), (100 : UInt8), (105 : UInt8), (115 : UInt8), (112 : UInt8), (108 : UInt8), (97 : UInt8),
 (121 : UInt8), (32 : UInt8), (49 : UInt8), (41 : UInt8)])], [cS (ByteArray.mk #[(40 : UInt8), (100 : UInt8), (101 : UInt8), (102 : UInt8), (105 : UInt8), (110 : UInt8), (101 :
 UInt8), (45 : UInt8), (115 : UInt8), (121 : UInt8), (110 : UInt8), (116 : UInt8), (97 : UInt8), (120 : UInt8), (32 : UInt8), (100 : UInt8), (101 : UInt8), (102 : UInt8), (32 :
 UInt8), (40 : UInt8), (115 : UInt8), (121 : UInt8), (110 : UInt8), (116 : UInt8), (97 : UInt8), (120 : UInt8), (45 : UInt8), (114 : UInt8), (117 : UInt8), (108 : UInt8), (101 :
 UInt8), (115 : UInt8), (32 : UInt8), (40 : UInt8), (41 : UInt8), (32 : UInt8), (40 : UInt8), (40 : UInt8), (95 : UInt8), (32 : UInt8), (110 : UInt8), (32 : UInt8), (101 : UInt8),
 (41 : UInt8), (32 : UInt8), (40 : UInt8), (100 : UInt8), (101 : UInt8), (102 : UInt8), (105 : UInt8), (110 : UInt8), (101 : UInt8), (32 : UInt8), (110 : UInt8), (32 : UInt8), (101
 : UInt8), (41 : UInt8), (41 : UInt8), (41 : UInt8), (41 : UInt8), (32 : UInt8), (40 : UInt8), (100 : UInt8), (101 : UInt8), (102 : UInt8), (32 : UInt8), (98 : UInt8), (32 :
 UInt8), (52 : UInt8), (41 : UInt8)])], [cS (ByteArray.mk #[])]]] (AV.sv (SV.one (AC.ref 0)))) (by
  dsimp only [teasy, P_c_dBod]
  with_reducible repeat' (first | apply And.intro | exact zR | (intro; skip))
  all_goals (try simp only [std, inj] at *)
  all_goals with_reducible repeat' apply And.intro
  all_goals (try (first | exact z | grind [snocI, snocS, rowSnoc]))
  all_goals rfl)
abbrev P_c_dUse  : Ct := ⟨30, [], [], [.arr true 1 (useT.map strC)], .sv (.one (.ref 0))⟩
theorem c_dUse   : P_c_dUse := fnOK Tryd.call30 Tryd.func30 (.f [0] [Ob.arr true 1 [[cS (ByteArray.mk #[])], [cS (ByteArray.mk #[])], [cS (ByteArray.mk #[(40 : UInt8), (100 : UInt8),
 (105 : UInt8), (115 : UInt8), (112 : UInt8), (108 : UInt8), (97 : UInt8), (121 : UInt8), (32 : UInt8), (40 : UInt8), (105 : UInt8), (110 : UInt8), (99 : UInt8), (32 : UInt8), (97
 : UInt8), (41 : UInt8), (41 : UInt8)])], [cS (ByteArray.mk #[(40 : UInt8), (116 : UInt8), (119 : UInt8), (105 : UInt8), (99 : UInt8), (101 : UInt8), (32 : UInt8), (40 : UInt8),
 (98 : UInt8), (117 : UInt8), (109 : UInt8), (112 : UInt8), (41 : UInt8), (41 : UInt8)])], [cS (ByteArray.mk #[(40 : UInt8), (100 : UInt8), (105 : UInt8), (115 : UInt8), (112 :
 UInt8), (108 : UInt8), (97 : UInt8), (121 : UInt8), (32 : UInt8), (40 : UInt8), (112 : UInt8), (101 : UInt8), (101 : UInt8), (107 : UInt8), (41 : UInt8), (41 : UInt8)])], [cS
 (ByteArray.mk #[(40 : UInt8), (108 : UInt8), (101 : UInt8), (116 : UInt8), (32 : UInt8), (40 : UInt8), (40 : UInt8), (115 : UInt8), (101 : UInt8), (99 : UInt8), (114 : UInt8),
 (101 : UInt8), (116 : UInt8), (32 : UInt8), (57 : UInt8), (41 : UInt8), (41 : UInt8), (32 : UInt8), (40 : UInt8), (100 : UInt8), (105 : UInt8), (115 : UInt8), (112 : UInt8), (108
 : UInt8), (97 : UInt8), (121 : UInt8), (32 : UInt8), (40 : UInt8), (112 : UInt8), (101 : UInt8), (101 : UInt8), (107 : UInt8), (41 : UInt8), (41 : UInt8), (41 : UInt8)])], [cS
 (ByteArray.mk #[(40 : UInt8), (100 : UInt8), (101 : UInt8), (102 : UInt8), (105 : UInt8), (110 : UInt8), (101 : UInt8), (32 : UInt8), (99 : UInt8), (32 : UInt8), (40 : UInt8), (43
 : UInt8), (32 : UInt8), (97 : UInt8), (32 : UInt8), (97 : UInt8), (41 : UInt8), (41 : UInt8)])], [cS (ByteArray.mk #[(40 : UInt8), (115 : UInt8), (101 : UInt8), (116 : UInt8), (33
 : UInt8), (32 : UInt8), (97 : UInt8), (32 : UInt8), (57 : UInt8), (41 : UInt8)])], [cS (ByteArray.mk #[(40 : UInt8), (100 : UInt8), (105 : UInt8), (115 : UInt8), (112 : UInt8),
 (108 : UInt8), (97 : UInt8), (121 : UInt8), (32 : UInt8), (98 : UInt8), (41 : UInt8)])]]] (AV.sv (SV.one (AC.ref 0)))) (by
  dsimp only [teasy, P_c_dUse]
  with_reducible repeat' (first | apply And.intro | exact zR | (intro; skip))
  all_goals (try simp only [std, inj] at *)
  all_goals with_reducible repeat' apply And.intro
  all_goals (try (first | exact z | grind [snocI, snocS, rowSnoc]))
  all_goals rfl)
abbrev P_c_dPD (i j : Nat) : Ct := ⟨28, [], [ls (mkS ((tx (bodT.getD i default) ++ [32]) ++ tx (useT.getD j default)))], [.arr true 4 ((motD i j).map datumC)], .tup [.one (.ref 0), lb true]⟩
theorem c_dPD (i j : Nat) (h : i < 6 ∧ j < 9) : OK (P_c_dPD i j) := c_sPData _ _ (mot_rd' i h.1 j h.2)
abbrev P_c_dRaw (c : Cr) : Ct := ⟨10, [crO c], [.one (.ptr 0 0)], crO (rwC c) :: moduleO (rawM c), .sv (moduleR (rawM c) 1)⟩
theorem c_dRaw (c : Cr) (h : okK c)  : P_c_dRaw c := fnOK Tryd.call10 Tryd.func10 (let v5 := (↑[ByteArray.mk #[(112 : UInt8)], ByteArray.mk #[(113 : UInt8)], ByteArray.mk #[(115 :
 UInt8)], ByteArray.mk #[(116 : UInt8), (111 : UInt8), (111 : UInt8), (108 : UInt8), (111 : UInt8), (110 : UInt8), (103 : UInt8), (110 : UInt8), (97 : UInt8), (109 : UInt8), (101 :
 UInt8)], ByteArray.mk #[]].length : Int); let v12 := (↑[ByteArray.mk #[(97 : UInt8)], ByteArray.mk #[(105 : UInt8), (110 : UInt8), (99 : UInt8)], ByteArray.mk #[(112 : UInt8),
 (101 : UInt8), (101 : UInt8), (107 : UInt8)], ByteArray.mk #[(108 : UInt8), (101 : UInt8), (116 : UInt8)], ByteArray.mk #[(49 : UInt8)]].length : Int); let v1 := (beC (beC c v5)
 v12); let v2 := (↑[ByteArray.mk #[(112 : UInt8)], ByteArray.mk #[(113 : UInt8)], ByteArray.mk #[(109 : UInt8), (97 : UInt8), (105 : UInt8), (110 : UInt8)], ByteArray.mk #[(115 :
 UInt8)]].length : Int); let v11 := [ByteArray.mk #[(112 : UInt8)], ByteArray.mk #[(113 : UInt8)], ByteArray.mk #[(115 : UInt8)], ByteArray.mk #[(116 : UInt8), (111 : UInt8), (111
 : UInt8), (108 : UInt8), (111 : UInt8), (110 : UInt8), (103 : UInt8), (110 : UInt8), (97 : UInt8), (109 : UInt8), (101 : UInt8)], ByteArray.mk #[]]; let v3 := (AV.sv (SV.agg [vS
 (v11.getD (beX c v5).toNat default), AC.ref 1, AC.ref 2, AC.ref 3])); let v17 := [ByteArray.mk #[(97 : UInt8)], ByteArray.mk #[(105 : UInt8), (110 : UInt8), (99 : UInt8)],
 ByteArray.mk #[(112 : UInt8), (101 : UInt8), (101 : UInt8), (107 : UInt8)], ByteArray.mk #[(108 : UInt8), (101 : UInt8), (116 : UInt8)], ByteArray.mk #[(49 : UInt8)]]; let v4 :=
 [[cS (v17.getD (beX (beC c v5) v12).toNat default)]]; let v18 := (beC v1 2); let v6 := (beC (beC v18 v2) (↑bodT.length : Int)); let v7 := (beC v18 (↑bodT.length : Int)); let v8 :=
 (beX (beC v18 v2) (↑bodT.length : Int)); let v9 := [ByteArray.mk #[(112 : UInt8)], ByteArray.mk #[(113 : UInt8)], ByteArray.mk #[(109 : UInt8), (97 : UInt8), (105 : UInt8), (110 :
 UInt8)], ByteArray.mk #[(115 : UInt8)]]; let v10 := (beX v18 (↑bodT.length : Int)); let v13 := (List.map datumC (motD v10.toNat (beX v7 (↑useT.length : Int)).toNat)); let v14 :=
 (List.map datumC (motD v8.toNat (beX v6 (↑useT.length : Int)).toNat)); let v19 := (beC v7 (↑useT.length : Int)); let v15 := [vL (List.map byteC (beC v19 4).b), vI (↑(beC v19 4).i
 : Int), vI (beC v19 4).h]; let v20 := (beC v6 (↑useT.length : Int)); let v16 := [vL (List.map byteC (beC v20 4).b), vI (↑(beC v20 4).i : Int), vI (beC v20 4).h]; .d [.ptr, .own
 true 1] (P_c_dPick c v11) (.d [.ptr, .own true 1] (P_c_dPick (beC c v5) v17) (.d [.ptr, .rd] (P_c_dOnce v1 2) (.i (beX v1 (2 : Int) = 0) (.w (.draw [(4, [0, 6]), (6, [15]), (8,
 [5])]) (.d [.ptr, .own true 1] (P_c_dPick v18 v9) (.w (.bool true) (.p (16 ≤ 140737488355328) (.c [] c_dBod (.d [.ptr, .own true 1] (P_c_dPick (beC v18 v2) bodT) (.p ((bodT.getD
 v8.toNat default).data.toList.length + 1 ≤ 9223372036854775807) (.c [] c_dUse (.d [.ptr, .own true 1] (P_c_dPick v6 useT) (.p (((bodT.getD v8.toNat default).data.toList ++ [(32 :
 UInt8)]).length + (useT.getD (beX v6 (↑useT.length : Int)).toNat default).data.toList.length ≤ 9223372036854775807) (.u [.rd] (P_c_dPD v8.toNat (beX v6 (↑useT.length :
 Int)).toNat) (.p (CallOK Tryd.prog 28 [] [ls (ByteArray.mk ((bodT.getD v8.toNat default).data.toList ++ [(32 : UInt8)] ++ (useT.getD (beX v6 (↑useT.length : Int)).toNat
 default).data.toList).toArray)] [Ob.arr true 4 v14] (AV.tup [SV.one (AC.ref 0), lb true])) (.w (.bool true) (.p ((0 + v14.length) * 56 ≤ 140737488355328) (.d [.ptr, .rd]
 (P_c_dOnce v20 4) (.i (beX v20 (4 : Int) = 0) (.w (.ghost (.nilbox 1 2 true 1)) (.f [16, 21, 20] [Ob.box v16, Ob.arr true 1 [[cS (v9.getD (beX v18 v2).toNat default)]], Ob.arr
 true 1 [], Ob.arr true 4 v14] v3)) (.f [16, 4, 20] [Ob.box v16, Ob.arr true 1 [[cS (v9.getD (beX v18 v2).toNat default)]], Ob.arr true 1 v4, Ob.arr true 4 v14] v3)))))))))))))))))
 (.c [] c_dBod (.d [.ptr, .own true 1] (P_c_dPick v18 bodT) (.p ((bodT.getD v10.toNat default).data.toList.length + 1 ≤ 9223372036854775807) (.c [] c_dUse (.d [.ptr, .own true 1]
 (P_c_dPick v7 useT) (.p (((bodT.getD v10.toNat default).data.toList ++ [(32 : UInt8)]).length + (useT.getD (beX v7 (↑useT.length : Int)).toNat default).data.toList.length ≤
 9223372036854775807) (.u [.rd] (P_c_dPD v10.toNat (beX v7 (↑useT.length : Int)).toNat) (.p (CallOK Tryd.prog 28 [] [ls (ByteArray.mk ((bodT.getD v10.toNat default).data.toList ++
 [(32 : UInt8)] ++ (useT.getD (beX v7 (↑useT.length : Int)).toNat default).data.toList).toArray)] [Ob.arr true 4 v13] (AV.tup [SV.one (AC.ref 0), lb true])) (.w (.bool true) (.p
 ((0 + v13.length) * 56 ≤ 140737488355328) (.d [.ptr, .rd] (P_c_dOnce v19 4) (.i (beX v19 (4 : Int) = 0) (.w (.ghost (.nilbox 1 1 true 1)) (.w (.ghost (.nilbox 1 2 true 1)) (.f
 [10, 11, 9] [Ob.box v15, Ob.arr true 1 [], Ob.arr true 1 [], Ob.arr true 4 v13] v3))) (.w (.ghost (.nilbox 1 1 true 1)) (.f [10, 4, 9] [Ob.box v15, Ob.arr true 1 [], Ob.arr true 1
 v4, Ob.arr true 4 v13] v3)))))))))))))))))) (by
  dsimp only [teasy, P_c_dRaw]
  have g1 := fun c => beX_nat c (n := 6) (by decide)
  have g5 := fun c => beX_nat c (n := 9) (by decide)
  have g2 := @beC_ok
  have g3 := bodT_le
  have g4 := useT_le
  have mw := fun i j hi hj => (mot_w i hi j hj).1
  have iy : beX (beC (beC c 5) 5) 2 = 0 → (rawI c).map strC = [[cS (impL.getD (beX (beC (beC (beC c 5) 5) 2) 4).toNat default)]] := fun e => by show List.map strC (if beX (beC (beC c 5) 5) 2 = 0 then _ else _) = _; rw [if_pos e]; rfl
  have ino : ¬ beX (beC (beC c 5) 5) 2 = 0 → (rawI c).map strC = [] := fun e => by show List.map strC (if beX (beC (beC c 5) 5) 2 = 0 then _ else _) = _; rw [if_neg e]; rfl
  have ey : beX (rw6 c) 4 = 0 → (rawE c).map strC = [] := fun e => by unfold rawE; rw [if_pos e]; rfl
  have eno : ¬ beX (rw6 c) 4 = 0 → (rawE c).map strC = [[cS (expL.getD (beX (beC c 5) 5).toNat default)]] := fun e => by unfold rawE; rw [if_neg e]; rfl
  simp only [impL, expL] at iy eno
  with_reducible repeat' (first | apply And.intro | exact zR | (intro; skip) | apply c_dPick | apply c_dOnce | apply c_dPD | apply c_dBod | apply c_dUse)
  all_goals (try simp only [std, inj] at *)
  all_goals with_reducible repeat' apply And.intro
  all_goals (try (first | with_reducible apply c_dPick | with_reducible apply c_dOnce | with_reducible apply c_dPD | with_reducible apply c_dBod | with_reducible apply c_dUse | (simp only [← List.map_append]; first | with_reducible apply c_dPick | with_reducible apply c_dOnce | with_reducible apply c_dPD | with_reducible apply c_dBod | with_reducible apply c_dUse)))
  all_goals (try (first | exact zw))
  all_goals (try decide)
  all_goals (try simp only [len5, len4, lenB, lenU] at *)
  all_goals (try exact zw)
  all_goals grind [rwC, rw6, rw4, rw2, crO, rawM, rawB, namL])
abbrev P_c_dFmM (b : List UInt8) : Ct := ⟨4, [], [ll (b.map byteC)], moduleO (rawM (newC b)), .sv (moduleR (rawM (newC b)) 0)⟩
theorem c_dFmM (b : List UInt8) (h : b.length ≤ 1048576)  : P_c_dFmM b := fnOK Tryd.call4 Tryd.func4 (.d [.rd] (P_c_dNew b) (.d [.ptr] (P_c_dRaw (newC b)) (.f [3, 4, 5] [Ob.arr true
 1 (List.map strC (rawM (newC b)).imports), Ob.arr true 1 (List.map strC (rawM (newC b)).exports), Ob.arr true 4 (List.map datumC (rawM (newC b)).body)] (AV.sv (SV.agg [vS (rawM
 (newC b)).name, AC.ref 0, AC.ref 1, AC.ref 2]))))) (by
  dsimp only [teasy, P_c_dFmM]
  have g1 := @newC_ok b
  with_reducible repeat' (first | apply And.intro | exact zR | (intro; skip) | apply c_dNew | apply c_dRaw)
  all_goals (try simp only [std, inj] at *)
  all_goals with_reducible repeat' apply And.intro
  all_goals (try (first | with_reducible apply c_dNew | with_reducible apply c_dRaw | (simp only [← List.map_append]; first | with_reducible apply c_dNew | with_reducible apply c_dRaw)))
  all_goals (try (first | exact z | grind [snocI, snocS, rowSnoc])))
end Go.Proofs.YtgeegppaaggcjaaDoor
end
section
namespace Go.Proofs.YtgeegppaaggcjaaDoor
open Go Go.Proofs.YtgeegppaaggcjaaDoor.Ab
set_option linter.unusedVariables false
set_option linter.unusedSimpArgs false
set_option maxHeartbeats 4000000
abbrev P_c_LTexts (a : List ByteArray) (b : List ByteArray) : Ct := ⟨9, [], [ll (a.map strC), ll (b.map strC)], [], .sv (lb (decide (a = b)))⟩
def lc_LTextsLa (a : List ByteArray) (b : List ByteArray) : Lp Nat := .mk 26 0 (fun x => [(0, ll (List.map strC a)), (1, ll (List.map strC b)), (12, li (↑(List.map strC a).length :
 Int)), (13, hs x 0)]) (fun x => []) (fun k => [.s (li (↑k : Int))]) (fun k => k ≤ a.length ∧ a.length ≤ 9223372036854775807 ∧ a.length = b.length ∧ List.take k a = List.take k b)
 (fun k => a.length - k) [.mk (a = b) (.exit 0) (fun x => []) (fun x => []) [], .mk (a ≠ b) .ret (fun x => [(4, hs x 0)]) (fun x => []) [.s (lb false)]]
theorem Sc_LTextsLa (a : List ByteArray) (b : List ByteArray) : Lp.Sem Tryd.prog (loopAt Tryd.f9 0) (lc_LTextsLa a b) := lpOK (fun k => .i ((↑k : Int) < (↑(List.map strC a).length
 : Int)) (.w (.draw []) (.x (↑k : Int) (List.map strC a) [cS (a.getD k default)] (.x (↑k : Int) (List.map strC b) [cS (b.getD k default)] (.i ((a.getD k default).data.toList ≠
 (b.getD k default).data.toList) (.o 1 [] [.s (lb false)]) (.r ((↑k : Int) + 1) (.g [] (k + 1) [.s (li ((↑k : Int) + 1))])))))) (.o 0 [] [])) (by
  intro k h; try dsimp only [teasy, nthW, lc_LTextsLa] at h ⊢
  with_reducible repeat' (first | apply And.intro | exact zR | (intro; skip))
  all_goals (try simp only [std, inj] at *)
  all_goals with_reducible repeat' apply And.intro
  all_goals (try (first | exact z | grind [take_eq, take_self, bytes_ext, snocI, snocS, rowSnoc])))
theorem c_LTexts (a b : List ByteArray)  : P_c_LTexts a b := fnOK Tryd.call9 Tryd.func9 (.z strC a (.z strC b (.i ((↑(List.map strC a).length : Int) ≠ (↑(List.map strC b).length :
 Int)) (.s (lb false)) (.z strC a (.l (lc_LTextsLa a b) (Sc_LTextsLa a b) [] [.s (li 0)] 0 (.t (.s (lb true)) (.t (.s (lb false)) .q))))))) (by
  dsimp only [teasy, P_c_LTexts, nthW, lc_LTextsLa]
  with_reducible repeat' (first | apply And.intro | exact zR | (intro; skip))
  all_goals (try simp only [std, inj] at *)
  all_goals with_reducible repeat' apply And.intro
  all_goals (try (first | exact z | grind [snocI, snocS, rowSnoc])))
def modL (u : Module) : List Datum := held [lstD (modD u)]
theorem modL_eq (u : Module) : modL u = [lstD (modD u)] := held_eq _
abbrev P_c_mRd (u : Module) : Ct := ⟨7, [], [ls (mkS (fmM u))], [.arr true 4 ((modL u).map datumC)], .tup [.one (.ref 0), lb true]⟩
theorem c_mRd (u : Module) (h : modOK u = true ∧ sizeD (lstD (modD u)) ≤ 300) : OK (P_c_mRd u) := by rw [P_c_mRd, modL_eq]; exact c_iPData _ _ (fmM_rd h.1 h.2)
abbrev P_c_LMoT (b : List UInt8) : Ct := ⟨3, [], [ll (b.map byteC)], [], .sv (lb true)⟩
theorem c_LMoT (b : List UInt8)  : P_c_LMoT b := fnOK Tryd.call3 Tryd.func3 (.z byteC b (.i (1048576 < (↑(List.map byteC b).length : Int)) (.s (lb true)) (.d [.rd] (P_c_dFmM b) (.d
 [.rd] (P_c_iFmtM (rawM (newC b))) (.d [.rd] (P_c_sIsModule (rawM (newC b))) (.b (!modOK (rawM (newC b))) (.s (lb (decide (fmM (rawM (newC b)) = [])))) (.d [.rd] (P_c_mRd (rawM
 (newC b))) (.y false (.z datumC (modL (rawM (newC b))) (.i ((↑(List.map datumC (modL (rawM (newC b)))).length : Int) ≠ 1) (.s (lb false)) (.p ((0 : Int) ≤ 0 ∧ 0 < (List.map datumC
 (modL (rawM (newC b)))).length) (.w (.cells (datumF ((modL (rawM (newC b))).getD 0 default))) (.p ((List.map datumC (modL (rawM (newC b))))[0]? = some (datumF ((modL (rawM (newC
 b))).getD 0 default))) (.d [.rd] (P_c_iParse ((modL (rawM (newC b))).getD 0 default)) (.b (parB ((modL (rawM (newC b))).getD 0 default)) (.i ((parR ((modL (rawM (newC b))).getD 0
 default)).name.data.toList = (rawM (newC b)).name.data.toList) (.c [.rd, .rd] (c_LTexts (parR ((modL (rawM (newC b))).getD 0 default)).imports (rawM (newC b)).imports) (.i ((parR
 ((modL (rawM (newC b))).getD 0 default)).imports = (rawM (newC b)).imports) (.c [.rd, .rd] (c_LTexts (parR ((modL (rawM (newC b))).getD 0 default)).exports (rawM (newC
 b)).exports) (.i ((parR ((modL (rawM (newC b))).getD 0 default)).exports = (rawM (newC b)).exports) (.z datumC (parR ((modL (rawM (newC b))).getD 0 default)).body (.z datumC (rawM
 (newC b)).body (.i ((↑(List.map datumC (parR ((modL (rawM (newC b))).getD 0 default)).body).length : Int) = (↑(List.map datumC (rawM (newC b)).body).length : Int)) (.d [.rd]
 (P_c_iFmtM (parR ((modL (rawM (newC b))).getD 0 default))) (.s (lb (decide (fmM (parR ((modL (rawM (newC b))).getD 0 default)) = fmM (rawM (newC b))))))) (.s (lb false))))) (.y
 false (.s (lb false))))) (.y false (.y false (.s (lb false)))))) (.y false (.y false (.y false (.s (lb false)))))) (.y false (.y false (.y false (.y false (.s (lb
 false))))))))))))))))))))) (by
  dsimp only [teasy, P_c_LMoT]
  have g1 := rawM_le (newC b)
  have g0 := modL_eq (rawM (newC b))
  have g6 : (modL (rawM (newC b))).length = 1 := by rw [g0]; rfl
  have g7 : (modL (rawM (newC b))).getD 0 default = lstD (modD (rawM (newC b))) := by rw [g0]; rfl
  have g2 := @parB_mod (rawM (newC b))
  have g3 := @parR_mod (rawM (newC b))
  rw [← g7] at g2 g3
  have g4 := @fmM_no (rawM (newC b))
  have g5 := modD_w (rawM (newC b))
  rw [← g7] at g5
  with_reducible repeat' (first | apply And.intro | exact zR | (intro; skip) | apply c_dFmM | apply c_iFmtM | apply c_sIsModule | apply c_mRd | apply c_iParse)
  all_goals (try simp only [std, inj] at *)
  all_goals with_reducible repeat' apply And.intro
  all_goals (try (first | with_reducible apply c_dFmM | with_reducible apply c_iFmtM | with_reducible apply c_sIsModule | with_reducible apply c_mRd | with_reducible apply c_iParse | (simp only [← List.map_append]; first | with_reducible apply c_dFmM | with_reducible apply c_iFmtM | with_reducible apply c_sIsModule | with_reducible apply c_mRd | with_reducible apply c_iParse)))
  all_goals (try (first | exact z | grind [snocI, snocS, rowSnoc])))
end Go.Proofs.YtgeegppaaggcjaaDoor
end
section
namespace Go.Proofs.YtgeegppaaggcjaaDoor.fnModuleText
open Go Go.ChangeShapes Go.WideShapes Go.ChangeAt Go.RowKit Go.Proofs.YtgeegppaaggcjaaDoor.Ab
set_option linter.unusedVariables false
theorem own : ownKnob Tryd.prog.godebug = none := by kernel_rfl
theorem laidO : laidOutB Tryd.prog = true := by kernel_rfl
theorem rowed : mapsRowed Tryd.prog = true := by kernel_rfl
theorem sized : ((List.range Tryd.prog.types.size).all fun t => match Tryd.prog.underlying t with | some (.slice e) => decide (0 < Tryd.prog.cellsOf e) | _ => true) = true := by kernel_rfl
theorem gTab : Tryd.prog.globalNamed pow10N = some 2 := by kernel_rfl
theorem gTabType : (Tryd.prog.globals[2]?).map (·.type) = some 114 := by kernel_rfl
theorem cellsE : Tryd.prog.cellsOf 101 = 1 := by kernel_rfl
theorem cellsT : Tryd.prog.cellsOf 114 = 20 := by kernel_rfl
theorem rowTab : Rows.fnModuleTextRow.laid.drop 2 = (pow10N, Lib.tabData .u64 Lib.pow10Tab) :: Rows.fnModuleTextRow.laid.drop 3 := by kernel_rfl
theorem laid_drop {W : Go.World} : ∀ (k : Nat) (l : List (String × DataW PUnit.{1})), laidMet Tryd.prog l W → laidMet Tryd.prog (l.drop k) W
  | 0, _, h => h
  | k + 1, [], h => h
  | k + 1, _ :: r, h => laid_drop k r (laidMet.tail h)
theorem tab {W : Go.World} (h : laidMetH Tryd.prog Rows.fnModuleTextRow.laid W) : Lib.TabIs Tryd.prog W pow10N .u64 Lib.pow10Tab := by
  have h1 : laidMet Tryd.prog Rows.fnModuleTextRow.laid W := h
  have h2 := laid_drop 2 _ h1
  rw [rowTab] at h2
  exact Lib.tabIs_of_head gTab gTabType Tryd.underlying114 Tryd.underlying101 cellsE cellsT h2
theorem star : "*" ++ "errors.errorString" = "*errors.errorString" := by decide
theorem rowErr (u : TypeId) (h : Tryd.prog.typeName? 3 u = some "*errors.errorString") : u = 121 :=
  typeName_ptr_named (nm := "errors.errorString") (by rw [star]; kernel_rfl) (by kernel_rfl) (by decide) u (by rw [star]; exact h)
theorem errV {W : Go.World} (h : laidMetH Tryd.prog Rows.fnModuleTextRow.laid W) : ∃ t p, W.var? Tryd.prog "strconv.ErrSyntax" = some #[.iface t p] := by
  have h1 : laidMet Tryd.prog Rows.fnModuleTextRow.laid W := h
  have h2 := laid_drop 4 _ h1
  rw [show Rows.fnModuleTextRow.laid.drop 4 = ("strconv.ErrSyntax", Rows.laid_strconv_ErrSyntax) :: Rows.fnModuleTextRow.laid.drop 5 from by kernel_rfl] at h2
  obtain ⟨a, s, hv, _, _, _⟩ := laid_sentinel h2 (show Tryd.prog.globalNamed "strconv.ErrSyntax" = some 0 by kernel_rfl) (show (Tryd.prog.globals[0]?).map (·.type) = some 86 by kernel_rfl) Tryd.underlying86 rowErr Tryd.underlying121 Tryd.underlying123 rfl rfl Tryd.underlying9 (by kernel_rfl) (by kernel_rfl)
  exact ⟨_, _, hv⟩
theorem known {W : Go.World} (h : laidMetH Tryd.prog Rows.fnModuleTextRow.laid W) : Kn Tryd.prog W (allI W) := by
  have lt : ∀ {n : String} {g : Nat} {cs : Array Value}, Tryd.prog.globalNamed n = some g → W.var? Tryd.prog n = some cs → g < W.heap.size := fun {n g cs} hg hv => by
    rcases Nat.lt_or_ge g W.heap.size with e | e
    · exact e
    · unfold World.var? at hv; rw [hg, Option.bind_some, Array.getElem?_eq_none e] at hv; cases hv
  exact ⟨fun g hg => ⟨lt hg (tab h), fun _ hb => hb, _, tab h, rfl⟩, fun _ g hg => by obtain ⟨t, p, hv⟩ := errV h; exact ⟨lt hg hv, fun _ hb => hb, _, hv, t, p, rfl⟩⟩
set_option maxRecDepth 100000 in
theorem contract (H : Type) (enc : TypeId × Value → H) (W : Go.World) (base : Nat) (args : Array Value) (ds gs : List (DataW H)) (before : List MemPlace)
    (hval0 : ∀ (j : Nat) t v, Tryd.f3.params[j]? = some t → args[j]? = some v → Value.okWide Tryd.prog W .any base t v)
    (hW : DataW.Whole enc Tryd.prog Tryd.f3.params.toList Rows.fnModuleTextSpec.vars false W args.toList ds gs before) (hL : laidMetH Tryd.prog Rows.fnModuleTextRow.laid W) :
    Calls Tryd.prog 3 args W fun e W' => ∃ v, e = .returned v ∧ Rows.fnModuleTextSpec.post enc Tryd.prog Tryd.f3 false true false false W args v W' := by
  have hval : ∀ (j : Nat) t v, Tryd.f3.params[j]? = some t → args[j]? = some v → Value.okWide Tryd.prog W .any base t v := hval0
  have hW' := hW
  obtain ⟨p, q, hA0, hV, rfl, hfz, hnd⟩ := hW
  obtain ⟨rfl, rfl⟩ := trodVars_none hV
  have hA : DataW.TrodAll enc Tryd.prog W 0 (fun _ => true) true Tryd.f3.params.toList args.toList ds p := hA0
  rw [Tryd.params3] at hA hval
  have hA2 := hA
  clear hA0 hval0
  obtain ⟨v0, vs0, d0, ds0, p0, q0, hargs0, rfl, rfl, h0, r0⟩ := trodAll_cons hA
  obtain ⟨rfl, rfl, rfl⟩ := trodAll_nil r0
  obtain rfl : args = #[v0] := by cases args; simp_all
  obtain ⟨a0, c0⟩ := (let ⟨fuel, hf⟩ := h0; rd_slice (C := byteC) Tryd.underlying22 (by rw [show Tryd.prog.cellsOf 5 = 1 from by kernel_rfl]; decide) (fun a => by kernel_rfl) (fun m hm cs x h => rd_byte Tryd.underlying5 h) hf)
  have s0 : SVRel W (allI W) (obOf []) (ll (a0.map byteC)) v0 := one_rel (by obtain ⟨_, _, _, rfl⟩ := okWide_slice Tryd.underlying22 (hval 0 22 v0 rfl rfl); rfl) c0
  refine (CallOK.kept (w := W) (vals := #[v0]) (c_LMoT a0) (known hL) ⟨s0, trivial⟩).mono fun e W' ⟨he, hg, _⟩ => ?_
  subst he
  exact ⟨_, rfl, post_of_kept (pv := []) hW' (fun _ _ _ => (trodAll_cons_mk (shut_bool Tryd.underlying4 _) trodAll_mk0))
    (fun sp hsp => trodAll_kept laidO rowed sized hg (by decide +kernel) hA2 fun y hy => hsp y (by simpa using hy)) (fun _ _ => rfl) rfl
    hg (ok_one (by kernel_rfl) rfl (okWide_bool_mk Tryd.underlying4 _))⟩
def litsV : DataW PUnit.{1} → Array Value
  | .agg l => (l.map fun x => match x with | .lit (.int k n) => Value.int k n | _ => .bool false).toArray
  | _ => #[]
noncomputable def laidWorld (os : Os) : Go.World :=
  { World.holding Tryd.prog os ⟨#[.cells #[.string ⟨#[118, 97, 108, 117, 101, 32, 111, 117, 116, 32, 111, 102, 32, 114, 97, 110, 103, 101]⟩] 123, .cells #[.string ⟨#[105, 110, 118, 97, 108, 105, 100, 32, 115, 121, 110, 116, 97, 120]⟩] 123], #[], []⟩ with heap := ((((((World.holding Tryd.prog os ⟨#[.cells #[.string ⟨#[118, 97, 108, 117, 101, 32, 111, 117, 116, 32, 111, 102, 32, 114, 97, 110, 103, 101]⟩] 123, .cells #[.string ⟨#[105, 110, 118, 97, 108, 105, 100, 32, 115, 121, 110, 116, 97, 120]⟩] 123], #[], []⟩).heap.modify 1 fun | .cells _ t z => .cells #[.iface 121 (.pointer (some ⟨(World.holding Tryd.prog default ⟨#[], #[], []⟩).heap.size + 0, 0, none⟩))] t z | o => o).modify 0 fun | .cells _ t z => .cells #[.iface 121 (.pointer (some ⟨(World.holding Tryd.prog default ⟨#[], #[], []⟩).heap.size + 1, 0, none⟩))] t z | o => o).modify 3 fun | .cells _ t z => .cells (litsV Rows.laid_math_bits_deBruijn32tab) t z | o => o).modify 4 fun | .cells _ t z => .cells (litsV Rows.laid_math_bits_deBruijn64tab) t z | o => o).modify 2 fun | .cells _ t z => .cells (litsV Rows.laid_internal_strconv_uint64pow10) t z | o => o) }
abbrev arg0 : Array Value := #[.slice none 0 0]
theorem laid_met (os : Os) : laidMet Tryd.prog Rows.fnModuleTextRow.laid ((laidWorld os).forCall (fun _ _ => 0) ⟨#[], arg0, []⟩).memory :=
  laidMet_of_run' 8 (by kernel_rfl) (by kernel_rfl)
theorem reads (os : Os) {H : Type} (enc : TypeId × Value → H) : ∃ places, DataW.whole enc Tryd.prog ((laidWorld os).forCall (fun _ _ => 0) ⟨#[], arg0, []⟩).memory Tryd.f3.params.toList Rows.fnModuleTextSpec.vars false arg0.toList 12 = some ([.nil], [], places) :=
  ⟨[], by kernel_rfl⟩
set_option maxRecDepth 100000 in
theorem lifted (os : Os) (started : os.Started) (H : Type) (enc : TypeId × Value → H) (F : Stop.Interp) :
    ReturnsInHanded {} Tryd.checked os 3 .any ((OpenSpec.ofChange Rows.fnModuleTextSpec).preRow enc Tryd.prog Tryd.f3 Rows.fnModuleTextRow.domain false Rows.fnModuleTextRow.laid) (((OpenSpec.ofChange Rows.fnModuleTextSpec).at F).post enc Tryd.prog Tryd.f3 false true false false) := by
  obtain ⟨places, hx⟩ := reads os enc
  refine returnsInHanded_of_row (C := Tryd.checked) (s := OpenSpec.ofChange Rows.fnModuleTextSpec) own started (by kernel_rfl) Tryd.func3
    (witness_row_at (enc := enc) (C := Tryd.checked) false (laidWorld os) arg0 rfl (by kernel_rfl) (by kernel_rfl) (by kernel_rfl)
      (OpenSpec.preRow_of_cond 12 hx (by kernel_rfl) (fun k hk => by cases hk) (by kernel_rfl) (laid_met os))) ?_
  intro W base args ds gs before hval hW _ _ _ hL _ _
  exact contract H enc W base args ds gs before hval hW hL
set_option maxRecDepth 100000 in
set_option maxHeartbeats 0 in
theorem facts : joinedFacts Tryd.pinned.checked.prog 3 Tryd.f3 Rows.fnModuleTextSpec Rows.fnModuleTextRow = true := by
  delta joinedFacts
  with_reducible repeat' apply and_i
  all_goals (first | with_reducible exact enters | (rw [makes]; kernel_rfl) | (rw [lifts]; kernel_rfl) | decide +kernel | kernel_rfl)
theorem said : Rows.FnModuleTextSaid :=
  OpenClaim.holds_of_cond 3 Tryd.f3 rfl rfl rfl rfl rfl rfl rfl ⟨rfl, rfl, rfl, rfl, rfl⟩ rfl rfl rfl rfl rfl (by kernel_rfl) Tryd.func3 facts
    (of_decide_eq_true (by kernel_rfl)) (by unfold Func.isWrapper; first | (rw [if_pos (by decide +kernel)]; kernel_rfl) | (rw [if_neg (by decide +kernel)]; exact ⟨rfl, rfl⟩))
    (fun os started H enc _ F => by rw [OpenClaim.pre_eq_preRow]; exact lifted os started H enc F)
theorem plain (k : FuncId) (fn : Func) (hf : Tryd.pinned.checked.prog.funcNamed Rows.fnModuleTextRow.func = some k) (hfn : Tryd.pinned.checked.prog.funcs[k]? = some fn) :
    true = Tryd.pinned.checked.prog.looks [] ∧ ∀ (j : Nat) t, fn.params[j]? = some t → Tryd.pinned.checked.prog.wantsStandIn t = false := by
  obtain rfl : k = 3 := Option.some.inj ((show Tryd.prog.funcNamed Rows.fnModuleTextRow.func = some 3 by kernel_rfl).symm.trans hf) |>.symm
  obtain rfl : fn = Tryd.f3 := (Option.some.inj (Tryd.func3.symm.trans hfn)).symm
  refine ⟨by kernel_rfl, fun j t ht => ?_⟩
  rw [Tryd.params3] at ht
  have hm := Array.mem_of_getElem? ht
  have hall : ([22].all fun u => !Tryd.prog.wantsStandIn u) = true := by kernel_rfl
  exact (show Tryd.prog.wantsStandIn t = false by simpa using List.all_eq_true.1 hall t (by simpa using hm))
theorem proved : Rows.FnModuleTextCardSaid :=
  Claim7.holds_tied_plain_at .later [] _ _ _ _ said (fun _ h => by cases h) (by kernel_rfl) (fun _ h => by cases h) fnModuleText_row_tie rfl ⟨rfl, rfl⟩ (by kernel_rfl) rfl plain (by kernel_rfl)
end Go.Proofs.YtgeegppaaggcjaaDoor.fnModuleText
end
