/- The program's FormatRules returns what the reference's returns, for all arguments. No condition. -/
import Derived.Test.YtclpofblehlojaaGreatDoorFmR2
import Derived.Test.YtclpofblehlojaaGreatDoorCards
import Derived.Test.YtclpofblehlojaaGreatDoorTie
import Derived.Deep.DeepHandedRow
import Derived.Lib.LaidTab
import Derived.Stop.LaidErr
section
namespace Go.Proofs.YtclpofblehlojaaGreatDoor
open Go Go.Proofs.YtclpofblehlojaaGreatDoor.Ab
set_option linter.unusedVariables false
set_option linter.unusedSimpArgs false
set_option maxHeartbeats 4000000
set_option maxRecDepth 20000
def tlY (s : Syntax) : Syntax := ⟨0, 0, mkS [], [], s.items.drop 1⟩
theorem sizeY_le (s : Syntax) : sizeY s ≤ wY s + 1 := by
  refine Syntax.ind (P := fun s => sizeY s ≤ wY s + 1) (fun s ih => ?_) s
  have : ∀ L : List Syntax, (∀ x ∈ L, sizeY x ≤ wY x + 1) → sumBy sizeY L ≤ L.length + sumBy wY L := by
    intro L
    induction L with
    | nil => intro _; simp [sumBy]
    | cons x r ihr =>
      intro h
      have h1 := h x List.mem_cons_self
      have h2 := ihr fun y hy => h y (List.mem_cons_of_mem _ hy)
      simp only [sumBy, List.length_cons]; omega
  have h1 := this s.items ih
  have h2 := wY_eq s
  rw [sizeY_eq]; omega
theorem tlY_syn {s : Syntax} (h : isSyn s = true) : isSyn (tlY s) = true := by
  simp only [isSyn, Bool.and_eq_true, decide_eq_true_eq] at h ⊢
  have e : s.items = s.items.take 1 ++ s.items.drop 1 := (List.take_append_drop 1 s.items).symm
  have h1 : sumBy sizeY s.items = sumBy sizeY (s.items.take 1) + sumBy sizeY (s.items.drop 1) := by rw [← sumBy_append, ← e]
  have h2 : maxBy depY s.items = max (maxBy depY (s.items.take 1)) (maxBy depY (s.items.drop 1)) := by rw [← maxBy_append, ← e]
  have h3 := sizeY_eq s
  have h4 := depY_eq s
  have h5 := okY_item h.2
  refine ⟨⟨?_, ?_⟩, ?_⟩
  · rw [sizeY_eq]; simp only [tlY]; omega
  · rw [depY_eq]; simp only [tlY]; omega
  · rw [okY_eq, Bool.and_eq_true, List.all_eq_true]
    refine ⟨fun x hx => h5 x (List.mem_of_mem_drop hx), ?_⟩
    simp [tlY, nodY0, nodD, okSc, okScN, mkS]
theorem tlY_w (s : Syntax) : wY (tlY s) ≤ wY s := by
  have e : s.items = s.items.take 1 ++ s.items.drop 1 := (List.take_append_drop 1 s.items).symm
  have h1 : sumBy wY s.items = sumBy wY (s.items.take 1) + sumBy wY (s.items.drop 1) := by rw [← sumBy_append, ← e]
  have h2 := wY_eq s
  have h3 := wY_eq (tlY s)
  have h4 : (tlY s).text.size = 0 := rfl
  have h5 : (s.items.drop 1).length ≤ s.items.length := by rw [List.length_drop]; omega
  simp only [tlY, List.length_nil] at h3 h4
  rw [tlY]; omega
abbrev P_c_sTail (s : Syntax) : Ct := ⟨57, [], [syntaxA s], [], .sv (.agg [vI 0, vI 0, vS (mkS []), .val (.lit (.slice none 0 0)), vL ((s.items.drop 1).map syntaxC)])⟩
theorem c_sTail (s : Syntax) (h : 1 ≤ s.items.length)  : P_c_sTail s := fnOK Tryz.call57 Tryz.func57 (.p ((0 : Int) ≤ 1) (.p (1 ≤ (List.map syntaxC s.items).length ∧ (List.map
 syntaxC s.items).length ≤ (List.map syntaxC s.items).length ∧ ∀ (e : List Cell), e ∈ List.map syntaxC s.items → e.length = 5) (.s (SV.agg [vI 0, vI 0, vS (ByteArray.mk #[]),
 AC.val (Cell.lit (Value.slice none 0 0)), vL (List.take ((List.map syntaxC s.items).length - 1) (List.drop 1 (List.map syntaxC s.items)))])))) (by
  dsimp only [teasy, P_c_sTail]
  have e : (s.items.drop 1).take (s.items.length - 1) = s.items.drop 1 := List.take_of_length_le (by rw [List.length_drop]; omega)
  with_reducible repeat' (first | apply And.intro | exact zR | (intro; skip))
  all_goals (try simp only [std, inj] at *)
  all_goals with_reducible repeat' apply And.intro
  all_goals (try (first | exact z | grind [snocI, snocS, rowSnoc])))
abbrev P_c_iTail (s : Syntax) : Ct := ⟨68, [], [syntaxA s], [], .sv (.agg [vI 0, vI 0, vS (mkS []), .val (.lit (.slice none 0 0)), vL ((s.items.drop 1).map syntaxC)])⟩
theorem c_iTail (s : Syntax) (h : 1 ≤ s.items.length)  : P_c_iTail s := fnOK Tryz.call68 Tryz.func68 (.p ((0 : Int) ≤ 1) (.p (1 ≤ (List.map syntaxC s.items).length ∧ (List.map
 syntaxC s.items).length ≤ (List.map syntaxC s.items).length ∧ ∀ (e : List Cell), e ∈ List.map syntaxC s.items → e.length = 5) (.s (SV.agg [vI 0, vI 0, vS (ByteArray.mk #[]),
 AC.val (Cell.lit (Value.slice none 0 0)), vL (List.take ((List.map syntaxC s.items).length - 1) (List.drop 1 (List.map syntaxC s.items)))])))) (by
  dsimp only [teasy, P_c_iTail]
  have e : (s.items.drop 1).take (s.items.length - 1) = s.items.drop 1 := List.take_of_length_le (by rw [List.length_drop]; omega)
  with_reducible repeat' (first | apply And.intro | exact zR | (intro; skip))
  all_goals (try simp only [std, inj] at *)
  all_goals with_reducible repeat' apply And.intro
  all_goals (try (first | exact z | grind [snocI, snocS, rowSnoc])))
abbrev P_c_sCount (s : Syntax) : Ct := ⟨59, [], [syntaxA s], [], .sv (li (sizeY s))⟩
def lc_sCount_sLa (s : Syntax) : Lp Nat := .mk 19 0 (fun x => [(3, hs x 1), (7, ll (List.map syntaxC s.items)), (8, li (↑(List.map syntaxC s.items).length : Int)), (9, hs x 0)])
 (fun x => []) (fun k => [.s (li (↑k : Int)), .s (li (↑(1 + sumBy sizeY (List.take k s.items)) : Int))]) (fun k => k ≤ s.items.length ∧ s.items.length ≤ 9223372036854775807) (fun k
 => s.items.length - k) [.mk True (.exit 0) (fun x => [(3, hs x 0)]) (fun x => []) [.s (li (↑(1 + sumBy sizeY s.items) : Int))]]
theorem Sc_sCount_sLa (s : Syntax) (h : wY s ≤ 1048576) (ih : ∀ (z : Syntax), z ∈ s.items → wY z ≤ 1048576 → OK (P_c_sCount z)) : Lp.Sem Tryz.prog (loopAt Tryz.f59 0)
 (lc_sCount_sLa s) := lpOK (fun k => .i ((↑k : Int) < (↑(List.map syntaxC s.items).length : Int)) (.x (↑k : Int) (List.map syntaxC s.items) (syntaxF (s.items.getD k default)) (.d
 [.rd] (P_c_sCount (s.items.getD k default)) (.r ((↑(1 + sumBy sizeY (List.take k s.items)) : Int) + (↑(sizeY (s.items.getD k default)) : Int)) (.r ((↑k : Int) + 1) (.g [] (k + 1)
 [.s (li ((↑k : Int) + 1)), .s (li ((↑(1 + sumBy sizeY (List.take k s.items)) : Int) + (↑(sizeY (s.items.getD k default)) : Int)))]))))) (.o 0 [] [.s (li (↑(1 + sumBy sizeY
 (List.take k s.items)) : Int))])) (by
  intro k h; try dsimp only [teasy, nthW, lc_sCount_sLa] at h ⊢
  have g1 := wY_eq s
  have g2 := @sumBy_mem _ wY s.items (s.items.getD k default)
  have g3 := @sumBy_step _ _ sizeY s.items k
  have g4 := sumBy_takeLe sizeY s.items (k + 1)
  have g5 := sizeY_le s
  have g6 := sizeY_eq s
  have g7 : s.items.length ≤ k → s.items.take k = s.items := fun h => List.take_of_length_le h
  with_reducible repeat' (first | apply And.intro | exact zR | exact ih | (intro; skip) | apply ih)
  all_goals (try simp only [std, inj] at *)
  all_goals with_reducible repeat' apply And.intro
  all_goals (try (first | with_reducible apply ih | (simp only [← List.map_append]; first | with_reducible apply ih)))
  all_goals (try (first | exact z | grind [getD_mem', snocI, snocS, rowSnoc])))
theorem c_sCount_s (s : Syntax) (h : wY s ≤ 1048576) (ih : ∀ z ∈ s.items, ∀ (h : wY z ≤ 1048576), P_c_sCount z)  : P_c_sCount s := fnOK Tryz.call59 Tryz.func59 (.z syntaxC s.items
 (.l (lc_sCount_sLa s) (Sc_sCount_sLa s h ih) [] [.s (li 0), .s (li 1)] 0 (.t (.s (li (↑(1 + sumBy sizeY s.items) : Int))) .q))) (by
  dsimp only [teasy, P_c_sCount, nthW, lc_sCount_sLa]
  have g6 := sizeY_eq s
  have g7 : sumBy sizeY (s.items.take 0) = 0 := rfl
  with_reducible repeat' (first | apply And.intro | exact zR | exact ih | (intro; skip))
  all_goals (try simp only [std, inj] at *)
  all_goals with_reducible repeat' apply And.intro
  all_goals (try (first | with_reducible apply ih | (simp only [← List.map_append]; first | with_reducible apply ih)))
  all_goals (try (first | exact z | grind [snocI, snocS, rowSnoc])))
theorem c_sCount (s : Syntax) : ∀ (h : wY s ≤ 1048576), P_c_sCount s := Syntax.ind (P := fun s => ∀ (h : wY s ≤ 1048576), P_c_sCount s) (fun s ih h => c_sCount_s s h ih) s
abbrev P_c_iCount (s : Syntax) : Ct := ⟨70, [], [syntaxA s], [], .sv (li (sizeY s))⟩
def lc_iCount_sLa (s : Syntax) : Lp Nat := .mk 19 0 (fun x => [(3, hs x 1), (7, ll (List.map syntaxC s.items)), (8, li (↑(List.map syntaxC s.items).length : Int)), (9, hs x 0)])
 (fun x => []) (fun k => [.s (li (↑k : Int)), .s (li (↑(1 + sumBy sizeY (List.take k s.items)) : Int))]) (fun k => k ≤ s.items.length ∧ s.items.length ≤ 9223372036854775807) (fun k
 => s.items.length - k) [.mk True (.exit 0) (fun x => [(3, hs x 0)]) (fun x => []) [.s (li (↑(1 + sumBy sizeY s.items) : Int))]]
theorem Sc_iCount_sLa (s : Syntax) (h : wY s ≤ 1048576) (ih : ∀ (z : Syntax), z ∈ s.items → wY z ≤ 1048576 → OK (P_c_iCount z)) : Lp.Sem Tryz.prog (loopAt Tryz.f70 0)
 (lc_iCount_sLa s) := lpOK (fun k => .i ((↑k : Int) < (↑(List.map syntaxC s.items).length : Int)) (.x (↑k : Int) (List.map syntaxC s.items) (syntaxF (s.items.getD k default)) (.d
 [.rd] (P_c_iCount (s.items.getD k default)) (.r ((↑(1 + sumBy sizeY (List.take k s.items)) : Int) + (↑(sizeY (s.items.getD k default)) : Int)) (.r ((↑k : Int) + 1) (.g [] (k + 1)
 [.s (li ((↑k : Int) + 1)), .s (li ((↑(1 + sumBy sizeY (List.take k s.items)) : Int) + (↑(sizeY (s.items.getD k default)) : Int)))]))))) (.o 0 [] [.s (li (↑(1 + sumBy sizeY
 (List.take k s.items)) : Int))])) (by
  intro k h; try dsimp only [teasy, nthW, lc_iCount_sLa] at h ⊢
  have g1 := wY_eq s
  have g2 := @sumBy_mem _ wY s.items (s.items.getD k default)
  have g3 := @sumBy_step _ _ sizeY s.items k
  have g4 := sumBy_takeLe sizeY s.items (k + 1)
  have g5 := sizeY_le s
  have g6 := sizeY_eq s
  have g7 : s.items.length ≤ k → s.items.take k = s.items := fun h => List.take_of_length_le h
  with_reducible repeat' (first | apply And.intro | exact zR | exact ih | (intro; skip) | apply ih)
  all_goals (try simp only [std, inj] at *)
  all_goals with_reducible repeat' apply And.intro
  all_goals (try (first | with_reducible apply ih | (simp only [← List.map_append]; first | with_reducible apply ih)))
  all_goals (try (first | exact z | grind [getD_mem', snocI, snocS, rowSnoc])))
theorem c_iCount_s (s : Syntax) (h : wY s ≤ 1048576) (ih : ∀ z ∈ s.items, ∀ (h : wY z ≤ 1048576), P_c_iCount z)  : P_c_iCount s := fnOK Tryz.call70 Tryz.func70 (.z syntaxC s.items
 (.l (lc_iCount_sLa s) (Sc_iCount_sLa s h ih) [] [.s (li 0), .s (li 1)] 0 (.t (.s (li (↑(1 + sumBy sizeY s.items) : Int))) .q))) (by
  dsimp only [teasy, P_c_iCount, nthW, lc_iCount_sLa]
  have g6 := sizeY_eq s
  have g7 : sumBy sizeY (s.items.take 0) = 0 := rfl
  with_reducible repeat' (first | apply And.intro | exact zR | exact ih | (intro; skip))
  all_goals (try simp only [std, inj] at *)
  all_goals with_reducible repeat' apply And.intro
  all_goals (try (first | with_reducible apply ih | (simp only [← List.map_append]; first | with_reducible apply ih)))
  all_goals (try (first | exact z | grind [snocI, snocS, rowSnoc])))
theorem c_iCount (s : Syntax) : ∀ (h : wY s ≤ 1048576), P_c_iCount s := Syntax.ind (P := fun s => ∀ (h : wY s ≤ 1048576), P_c_iCount s) (fun s ih h => c_iCount_s s h ih) s
def clP (Ls : List Syntax) (p : Syntax) : Bool := isSyn p && decide (p.kind = 0) && !decide ((p.items.length : Int) = 0) && decide ((p.items.getD 0 default).kind = 1) && !isDots (p.items.getD 0 default) && (vrS Ls (tlY p) 0 []).isSome
def clT (Ls : List Syntax) (p t : Syntax) : Bool := clP Ls p && tmF ((vrS Ls (tlY p) 0 []).getD []) t
def clTo (r : Rules) : Nat → Bool
  | 0 => true
  | k + 1 => clTo r k && clT r.literals (r.patterns.getD k default) (r.templates.getD k default)
def clN (r : Rules) : Nat → Nat
  | 0 => 0
  | k + 1 => clN r k + sizeY (r.patterns.getD k default) + sizeY (r.templates.getD k default)
theorem clTo_le (r : Rules) : ∀ (m k : Nat), k ≤ m → clTo r m = true → clTo r k = true
  | 0, k, h, _ => by
    obtain rfl : k = 0 := by omega
    rfl
  | m + 1, k, h, ht => by
    by_cases e : k = m + 1
    · rw [e]; exact ht
    · refine clTo_le r m k (by omega) ?_
      simp only [clTo, Bool.and_eq_true] at ht; exact ht.1
theorem clN_le (r : Rules) : ∀ k, k ≤ r.patterns.length → r.patterns.length = r.templates.length → clN r k ≤ 2 * k + sumBy wY (r.patterns.take k) + sumBy wY (r.templates.take k)
  | 0, _, _ => by simp [clN, sumBy]
  | k + 1, hk, hl => by
    have ih := clN_le r k (by omega) hl
    have h1 := @sumBy_step _ _ wY r.patterns k (by omega)
    have h2 := @sumBy_step _ _ wY r.templates k (by omega)
    have h3 := sizeY_le (r.patterns.getD k default)
    have h4 := sizeY_le (r.templates.getD k default)
    simp only [clN]; omega
def isRul (r : Rules) : Bool := okL r.literals && decide ((r.patterns.length : Int) = r.templates.length) && decide (1 ≤ (r.patterns.length : Int) ∧ (r.patterns.length : Int) ≤ 12) && clTo r r.patterns.length && decide ((clN r r.patterns.length : Int) ≤ 2000)
abbrev P_c_sIsRules (r : Rules) : Ct := ⟨22, [], [rulesA r], [], .sv (lb (isRul r))⟩
def lc_sIsRulesLa (r : Rules) : Lp Nat := .mk 100 0 (fun x => [(1, SV.one (AC.ptr 0 0)), (3, hs x 1), (29, ll (List.map syntaxC r.patterns)), (30, li (↑(List.map syntaxC
 r.patterns).length : Int)), (31, hs x 0)]) (fun x => [Ob.box (vals (rulesF r))]) (fun k => [.s (li (↑k : Int)), .s (li (↑(clN r k) : Int))]) (fun k => k ≤ r.patterns.length ∧
 r.patterns.length ≤ 9223372036854775807 ∧ r.patterns.length = r.templates.length ∧ r.patterns.length ≤ 12 ∧ clTo r k = true) (fun k => r.patterns.length - k) [.mk (clTo r
 r.patterns.length = true) (.exit 0) (fun x => [(3, hs x 0)]) (fun x => []) [.s (li (↑(clN r r.patterns.length) : Int))], .mk (clTo r r.patterns.length = false) .ret (fun x => [(2,
 hs x 0)]) (fun x => []) [.s (lb false)]]
theorem Sc_sIsRulesLa (r : Rules) (h : wR r ≤ 1048576) : Lp.Sem Tryz.prog (loopAt Tryz.f22 0) (lc_sIsRulesLa r) := lpOK (fun k => .i ((↑k : Int) < (↑(List.map syntaxC
 r.patterns).length : Int)) (.x (↑k : Int) (List.map syntaxC r.patterns) (syntaxF (r.patterns.getD k default)) (.c [.rd] (c_sIsSyntax (r.patterns.getD k default)) (.b (!isSyn
 (r.patterns.getD k default)) (.y true (.y true (.y true (.y true (.o 1 [] [.s (lb false)]))))) (.i ((r.patterns.getD k default).kind ≠ 0) (.y true (.y true (.y true (.o 1 [] [.s
 (lb false)])))) (.z syntaxC (r.patterns.getD k default).items (.i ((↑(List.map syntaxC (r.patterns.getD k default).items).length : Int) = 0) (.y true (.y true (.o 1 [] [.s (lb
 false)]))) (.w (.cells (syntaxF ((r.patterns.getD k default).items.getD 0 default))) (.p ((0 : Int) ≤ 0 ∧ (List.map syntaxC (r.patterns.getD k default).items)[0]? = some (syntaxF
 ((r.patterns.getD k default).items.getD 0 default))) (.i (((r.patterns.getD k default).items.getD 0 default).kind ≠ 1) (.y true (.o 1 [] [.s (lb false)])) (.w (.cells (syntaxF
 ((r.patterns.getD k default).items.getD 0 default))) (.p ((0 : Int) ≤ 0 ∧ (List.map syntaxC (r.patterns.getD k default).items)[0]? = some (syntaxF ((r.patterns.getD k
 default).items.getD 0 default))) (.c [.rd] (c_sDots ((r.patterns.getD k default).items.getD 0 default)) (.b (isDots ((r.patterns.getD k default).items.getD 0 default)) (.o 1 []
 [.s (lb false)]) (.w (.draw [(5, [10])]) (.d [.rd] (P_c_sTail (r.patterns.getD k default)) (.w (.bool false) (.d [.rd, .rd, .rd, .own true 12] (P_c_sVars r.literals (Syntax.mk 0 0
 (mkS []) [] (List.drop 1 (r.patterns.getD k default).items)) 0 []) (.b (!(vrS r.literals (Syntax.mk 0 0 (mkS []) [] (List.drop 1 (r.patterns.getD k default).items)) 0 []).isSome)
 (.y true (.o 1 [] [.s (lb false)])) (.x (↑k : Int) (List.map syntaxC r.templates) (syntaxF (r.templates.getD k default)) (.c [.rd, .rd] (c_sTem ((vrS r.literals (Syntax.mk 0 0
 (mkS []) [] (List.drop 1 (r.patterns.getD k default).items)) 0 []).getD []) (r.templates.getD k default)) (.b (!tmF ((vrS r.literals (Syntax.mk 0 0 (mkS []) [] (List.drop 1
 (r.patterns.getD k default).items)) 0 []).getD []) (r.templates.getD k default)) (.o 1 [] [.s (lb false)]) (.w (.draw []) (.d [.rd] (P_c_sCount (r.patterns.getD k default)) (.r
 ((↑(clN r k) : Int) + (↑(sizeY (r.patterns.getD k default)) : Int)) (.x (↑k : Int) (List.map syntaxC r.templates) (syntaxF (r.templates.getD k default)) (.d [.rd] (P_c_sCount
 (r.templates.getD k default)) (.r ((↑(clN r k) : Int) + (↑(sizeY (r.patterns.getD k default)) : Int) + (↑(sizeY (r.templates.getD k default)) : Int)) (.r ((↑k : Int) + 1) (.g [0]
 (k + 1) [.s (li ((↑k : Int) + 1)), .s (li ((↑(clN r k) : Int) + (↑(sizeY (r.patterns.getD k default)) : Int) + (↑(sizeY (r.templates.getD k default)) :
 Int)))]))))))))))))))))))))))))))))) (.o 0 [] [.s (li (↑(clN r k) : Int))])) (by
  intro k h; try dsimp only [teasy, nthW, lc_sIsRulesLa] at h ⊢
  have g1 := clTo_le r r.patterns.length (k + 1)
  have g2 : clTo r (k + 1) = (clTo r k && clT r.literals (r.patterns.getD k default) (r.templates.getD k default)) := rfl
  have g3 : clN r (k + 1) = clN r k + sizeY (r.patterns.getD k default) + sizeY (r.templates.getD k default) := rfl
  have g4 := clN_le r (k + 1)
  have g5 := sumBy_takeLe wY r.patterns (k + 1)
  have g6 := sumBy_takeLe wY r.templates (k + 1)
  have g7 := wR_eq r
  have g8 := @sumBy_mem _ wY r.patterns (r.patterns.getD k default)
  have g9 := @sumBy_mem _ wY r.templates (r.templates.getD k default)
  have g10 := @tlY_syn (r.patterns.getD k default)
  have g11 := tlY_w (r.patterns.getD k default)
  have g12 : ∀ p, isSyn p = true → sizeY p ≤ 2000 ∧ depY p ≤ 40 := fun p h => by simp only [isSyn, Bool.and_eq_true, decide_eq_true_eq] at h; exact ⟨h.1.1, h.1.2⟩
  with_reducible repeat' (first | apply And.intro | exact zR | (intro; skip) | apply c_sTail | apply c_sVars | apply c_sCount)
  all_goals (try simp only [std, inj] at *)
  all_goals with_reducible repeat' apply And.intro
  all_goals (try (first | with_reducible apply c_sTail | with_reducible apply c_sVars | with_reducible apply c_sCount | (simp only [← List.map_append]; first | with_reducible apply c_sTail | with_reducible apply c_sVars | with_reducible apply c_sCount)))
  all_goals (try (first | exact z | grind [clT, clP, tlY, getD_mem', snocI, snocS, rowSnoc])))
theorem c_sIsRules (r : Rules) (h : wR r ≤ 1048576)  : P_c_sIsRules r := fnOK Tryz.call22 Tryz.func22 (.c [.rd] (c_sLits r.literals) (.b (!okL r.literals) (.y true (.y true (.s (lb
 false)))) (.z syntaxC r.patterns (.z syntaxC r.templates (.i ((↑(List.map syntaxC r.patterns).length : Int) ≠ (↑(List.map syntaxC r.templates).length : Int)) (.y true (.s (lb
 false))) (.z syntaxC r.patterns (.c [.rd, .rd, .rd] (c_l1In (↑(List.map syntaxC r.patterns).length : Int) 1 12) (.b (!decide (1 ≤ (↑(List.map syntaxC r.patterns).length : Int) ∧
 (↑(List.map syntaxC r.patterns).length : Int) ≤ 12)) (.s (lb false)) (.z syntaxC r.patterns (.l (lc_sIsRulesLa r) (Sc_sIsRulesLa r h) [0] [.s (li 0), .s (li 0)] 0 (.t (.s (lb
 (decide ((↑(clN r r.patterns.length) : Int) ≤ 2000)))) (.t (.s (lb false)) .q)))))))))))) (by
  dsimp only [teasy, P_c_sIsRules, nthW, lc_sIsRulesLa]
  with_reducible repeat' (first | apply And.intro | exact zR | (intro; skip) | apply c_sTail | apply c_sVars | apply c_sCount)
  all_goals (try simp only [std, inj] at *)
  all_goals with_reducible repeat' apply And.intro
  all_goals (try (first | with_reducible apply c_sTail | with_reducible apply c_sVars | with_reducible apply c_sCount | (simp only [← List.map_append]; first | with_reducible apply c_sTail | with_reducible apply c_sVars | with_reducible apply c_sCount)))
  all_goals (try (first | exact z | grind [isRul, clTo, clN, snocI, snocS, rowSnoc])))
abbrev P_c_iIsRules (r : Rules) : Ct := ⟨26, [], [rulesA r], [], .sv (lb (isRul r))⟩
def lc_iIsRulesLa (r : Rules) : Lp Nat := .mk 104 0 (fun x => [(1, SV.one (AC.ptr 0 0)), (3, hs x 1), (34, ll (List.map syntaxC r.patterns)), (35, li (↑(List.map syntaxC
 r.patterns).length : Int)), (36, hs x 0)]) (fun x => [Ob.box (vals (rulesF r))]) (fun k => [.s (li (↑k : Int)), .s (li (↑(clN r k) : Int))]) (fun k => k ≤ r.patterns.length ∧
 r.patterns.length ≤ 9223372036854775807 ∧ r.patterns.length = r.templates.length ∧ r.patterns.length ≤ 12 ∧ clTo r k = true ∧ okL r.literals = true) (fun k => r.patterns.length -
 k) [.mk (clTo r r.patterns.length = true) (.exit 0) (fun x => [(3, hs x 0)]) (fun x => []) [.s (li (↑(clN r r.patterns.length) : Int))], .mk (clTo r r.patterns.length = false)
 .ret (fun x => [(2, hs x 0)]) (fun x => []) [.s (lb false)]]
theorem Sc_iIsRulesLa (r : Rules) (h : wR r ≤ 1048576) : Lp.Sem Tryz.prog (loopAt Tryz.f26 0) (lc_iIsRulesLa r) := lpOK (fun k => .i ((↑k : Int) < (↑(List.map syntaxC
 r.patterns).length : Int)) (.x (↑k : Int) (List.map syntaxC r.patterns) (syntaxF (r.patterns.getD k default)) (.c [.rd] (c_iIsSyntax (r.patterns.getD k default)) (.b (!isSyn
 (r.patterns.getD k default)) (.y true (.y true (.y true (.y true (.o 1 [] [.s (lb false)]))))) (.i ((r.patterns.getD k default).kind ≠ 0) (.y true (.y true (.y true (.o 1 [] [.s
 (lb false)])))) (.z syntaxC (r.patterns.getD k default).items (.i ((↑(List.map syntaxC (r.patterns.getD k default).items).length : Int) = 0) (.y true (.y true (.o 1 [] [.s (lb
 false)]))) (.w (.cells (syntaxF ((r.patterns.getD k default).items.getD 0 default))) (.p ((0 : Int) ≤ 0 ∧ (List.map syntaxC (r.patterns.getD k default).items)[0]? = some (syntaxF
 ((r.patterns.getD k default).items.getD 0 default))) (.i (((r.patterns.getD k default).items.getD 0 default).kind ≠ 1) (.y true (.o 1 [] [.s (lb false)])) (.w (.cells (syntaxF
 ((r.patterns.getD k default).items.getD 0 default))) (.p ((0 : Int) ≤ 0 ∧ (List.map syntaxC (r.patterns.getD k default).items)[0]? = some (syntaxF ((r.patterns.getD k
 default).items.getD 0 default))) (.c [.rd] (c_iDots ((r.patterns.getD k default).items.getD 0 default)) (.b (isDots ((r.patterns.getD k default).items.getD 0 default)) (.o 1 []
 [.s (lb false)]) (.w (.draw []) (.d [.rd] (P_c_iTail (r.patterns.getD k default)) (.d [.rd, .rd] (P_c_iPat r.literals (Syntax.mk 0 0 (mkS []) [] (List.drop 1 (r.patterns.getD k
 default).items))) (.b (!(okL r.literals && isSyn (Syntax.mk 0 0 (mkS []) [] (List.drop 1 (r.patterns.getD k default).items)) && (vrS r.literals (Syntax.mk 0 0 (mkS []) []
 (List.drop 1 (r.patterns.getD k default).items)) 0 []).isSome)) (.y true (.o 1 [] [.s (lb false)])) (.x (↑k : Int) (List.map syntaxC r.templates) (syntaxF (r.templates.getD k
 default)) (.c [.rd, .rd] (c_iTem (if okL r.literals = true ∧ isSyn (Syntax.mk 0 0 (mkS []) [] (List.drop 1 (r.patterns.getD k default).items)) = true then (vrS r.literals
 (Syntax.mk 0 0 (mkS []) [] (List.drop 1 (r.patterns.getD k default).items)) 0 []).getD [] else []) (r.templates.getD k default)) (.b (!tmF (if okL r.literals = true ∧ isSyn
 (Syntax.mk 0 0 (mkS []) [] (List.drop 1 (r.patterns.getD k default).items)) = true then (vrS r.literals (Syntax.mk 0 0 (mkS []) [] (List.drop 1 (r.patterns.getD k default).items))
 0 []).getD [] else []) (r.templates.getD k default)) (.o 1 [] [.s (lb false)]) (.w (.draw []) (.d [.rd] (P_c_iCount (r.patterns.getD k default)) (.x (↑k : Int) (List.map syntaxC
 r.templates) (syntaxF (r.templates.getD k default)) (.d [.rd] (P_c_iCount (r.templates.getD k default)) (.r ((↑(sizeY (r.patterns.getD k default)) : Int) + (↑(sizeY
 (r.templates.getD k default)) : Int)) (.r ((↑(clN r k) : Int) + ((↑(sizeY (r.patterns.getD k default)) : Int) + (↑(sizeY (r.templates.getD k default)) : Int))) (.r ((↑k : Int) +
 1) (.g [0] (k + 1) [.s (li ((↑k : Int) + 1)), .s (li ((↑(clN r k) : Int) + ((↑(sizeY (r.patterns.getD k default)) : Int) + (↑(sizeY (r.templates.getD k default)) :
 Int))))])))))))))))))))))))))))))))) (.o 0 [] [.s (li (↑(clN r k) : Int))])) (by
  intro k h; try dsimp only [teasy, nthW, lc_iIsRulesLa] at h ⊢
  have g1 := clTo_le r r.patterns.length (k + 1)
  have g2 : clTo r (k + 1) = (clTo r k && clT r.literals (r.patterns.getD k default) (r.templates.getD k default)) := rfl
  have g3 : clN r (k + 1) = clN r k + sizeY (r.patterns.getD k default) + sizeY (r.templates.getD k default) := rfl
  have g4 := clN_le r (k + 1)
  have g5 := sumBy_takeLe wY r.patterns (k + 1)
  have g6 := sumBy_takeLe wY r.templates (k + 1)
  have g7 := wR_eq r
  have g8 := @sumBy_mem _ wY r.patterns (r.patterns.getD k default)
  have g9 := @sumBy_mem _ wY r.templates (r.templates.getD k default)
  have g10 := @tlY_syn (r.patterns.getD k default)
  have g11 := tlY_w (r.patterns.getD k default)
  have g12 : ∀ p, isSyn p = true → sizeY p ≤ 2000 ∧ depY p ≤ 40 := fun p h => by simp only [isSyn, Bool.and_eq_true, decide_eq_true_eq] at h; exact ⟨h.1.1, h.1.2⟩
  with_reducible repeat' (first | apply And.intro | exact zR | (intro; skip) | apply c_iDots | apply c_iTail | apply c_iPat | apply c_iCount)
  all_goals (try simp only [std, inj] at *)
  all_goals with_reducible repeat' apply And.intro
  all_goals (try (first | with_reducible apply c_iDots | with_reducible apply c_iTail | with_reducible apply c_iPat | with_reducible apply c_iCount | (simp only [← List.map_append]; first | with_reducible apply c_iDots | with_reducible apply c_iTail | with_reducible apply c_iPat | with_reducible apply c_iCount)))
  all_goals (try (first | exact z | grind [clT, clP, tlY, getD_mem', snocI, snocS, rowSnoc])))
theorem c_iIsRules (r : Rules) (h : wR r ≤ 1048576)  : P_c_iIsRules r := fnOK Tryz.call26 Tryz.func26 (.c [.rd] (c_iLits r.literals) (.b (!okL r.literals) (.y true (.y true (.y true
 (.s (lb false))))) (.z syntaxC r.patterns (.z syntaxC r.templates (.i ((↑(List.map syntaxC r.patterns).length : Int) ≠ (↑(List.map syntaxC r.templates).length : Int)) (.y true (.y
 true (.s (lb false)))) (.z syntaxC r.patterns (.i ((↑(List.map syntaxC r.patterns).length : Int) < 1) (.y true (.s (lb false))) (.z syntaxC r.patterns (.i (12 < (↑(List.map
 syntaxC r.patterns).length : Int)) (.s (lb false)) (.z syntaxC r.patterns (.l (lc_iIsRulesLa r) (Sc_iIsRulesLa r h) [0] [.s (li 0), .s (li 0)] 0 (.t (.s (lb (decide ((↑(clN r
 r.patterns.length) : Int) ≤ 2000)))) (.t (.s (lb false)) .q))))))))))))) (by
  dsimp only [teasy, P_c_iIsRules, nthW, lc_iIsRulesLa]
  with_reducible repeat' (first | apply And.intro | exact zR | (intro; skip) | apply c_iDots | apply c_iTail | apply c_iPat | apply c_iCount)
  all_goals (try simp only [std, inj] at *)
  all_goals with_reducible repeat' apply And.intro
  all_goals (try (first | with_reducible apply c_iDots | with_reducible apply c_iTail | with_reducible apply c_iPat | with_reducible apply c_iCount | (simp only [← List.map_append]; first | with_reducible apply c_iDots | with_reducible apply c_iTail | with_reducible apply c_iPat | with_reducible apply c_iCount)))
  all_goals (try (first | exact z | grind [isRul, clTo, clN, snocI, snocS, rowSnoc])))
end Go.Proofs.YtclpofblehlojaaGreatDoor
end
section
namespace Go.Proofs.YtclpofblehlojaaGreatDoor
open Go Go.Shelf Go.RowKit Go.Proofs.YtclpofblehlojaaGreatDoor.Ab
set_option linter.unusedVariables false
def apiRen : Go.Shelf.Ren := ⟨fun | 176 => 120 | 249 => 165 | 288 => 204 | 283 => 227 | 284 => 228 | 285 => 229 | 286 => 230 | 129 => 250 | 317 => 249 | 318 => 251 | 319 => 252 | 320 => 253 | 337 => 262 | 338 => 263 | n => n, fun | 37 => 33 | 2 => 2 | 3 => 3 | 53 => 210 | 4 => 4 | 9 => 9 | 171 => 228 | 0 => 0 | 173 => 231 | 212 => 254 | 51 => 255 | 5 => 5 | 20 => 20 | 213 => 256 | 46 => 204 | 232 => 277 | 233 => 278 | n => n, fun | 17 => 0 | 18 => 3 | 19 => 4 | n => n⟩
theorem apiLays : Go.Proofs.LaysM.n176 Tryz.prog apiRen := {
  mixed := by kernel_rfl
  f129 := Tryz.func250.trans (congrArg some (by kernel_rfl))
  f176 := Tryz.func120.trans (congrArg some (by kernel_rfl))
  f249 := Tryz.func165.trans (congrArg some (by kernel_rfl))
  f283 := Tryz.func227.trans (congrArg some (by kernel_rfl))
  f284 := Tryz.func228.trans (congrArg some (by kernel_rfl))
  f285 := Tryz.func229.trans (congrArg some (by kernel_rfl))
  f286 := Tryz.func230.trans (congrArg some (by kernel_rfl))
  f288 := Tryz.func204.trans (congrArg some (by kernel_rfl))
  f317 := Tryz.func249.trans (congrArg some (by kernel_rfl))
  f318 := Tryz.func251.trans (congrArg some (by kernel_rfl))
  f319 := Tryz.func252.trans (congrArg some (by kernel_rfl))
  f320 := Tryz.func253.trans (congrArg some (by kernel_rfl))
  f337 := Tryz.func262.trans (congrArg some (by kernel_rfl))
  f338 := Tryz.func263.trans (congrArg some (by kernel_rfl))
  t0 := Tryz.underlying0
  a0 := Tryz.isAgg0
  z0 := Tryz.sizeOf0
  v0 := Tryz.zeroValue0
  t2 := Tryz.underlying2
  a2 := Tryz.isAgg2
  z2 := Tryz.sizeOf2
  v2 := Tryz.zeroValue2
  t3 := Tryz.underlying3
  a3 := Tryz.isAgg3
  z3 := Tryz.sizeOf3
  v3 := Tryz.zeroValue3
  t4 := Tryz.underlying4
  a4 := Tryz.isAgg4
  z4 := Tryz.sizeOf4
  v4 := Tryz.zeroValue4
  t5 := Tryz.underlying5
  a5 := Tryz.isAgg5
  z5 := Tryz.sizeOf5
  v5 := Tryz.zeroValue5
  t9 := Tryz.underlying9
  a9 := Tryz.isAgg9
  z9 := Tryz.sizeOf9
  v9 := Tryz.zeroValue9
  t20 := Tryz.underlying20
  a20 := Tryz.isAgg20
  z20 := Tryz.sizeOf20
  v20 := Tryz.zeroValue20
  t37 := Tryz.underlying33
  a37 := Tryz.isAgg33
  z37 := Tryz.sizeOf33
  v37 := Tryz.zeroValue33
  t46 := Tryz.underlying204
  a46 := Tryz.isAgg204
  z46 := Tryz.sizeOf204
  v46 := Tryz.zeroValue204
  t51 := Tryz.underlying255
  a51 := Tryz.isAgg255
  z51 := Tryz.sizeOf255
  v51 := Tryz.zeroValue255
  t53 := Tryz.underlying210
  a53 := Tryz.isAgg210
  z53 := Tryz.sizeOf210
  v53 := Tryz.zeroValue210
  t171 := Tryz.underlying228
  a171 := Tryz.isAgg228
  z171 := Tryz.sizeOf228
  v171 := Tryz.zeroValue228
  t173 := Tryz.underlying231
  a173 := Tryz.isAgg231
  z173 := Tryz.sizeOf231
  v173 := Tryz.zeroValue231
  t212 := Tryz.underlying254
  a212 := Tryz.isAgg254
  z212 := Tryz.sizeOf254
  v212 := Tryz.zeroValue254
  t213 := Tryz.underlying256
  a213 := Tryz.isAgg256
  z213 := Tryz.sizeOf256
  t232 := Tryz.underlying277
  a232 := Tryz.isAgg277
  z232 := Tryz.sizeOf277
  v232 := Tryz.zeroValue277
  t233 := Tryz.underlying278
  a233 := Tryz.isAgg278
  z233 := Tryz.sizeOf278
  v233 := Tryz.zeroValue278
  g17 := by kernel_rfl
  g18 := by kernel_rfl
  g19 := by kernel_rfl
  i0 := by kernel_rfl
  i2 := by kernel_rfl
  i3 := by kernel_rfl
  i4 := by kernel_rfl
  i5 := by kernel_rfl
  i9 := by kernel_rfl
  i20 := by kernel_rfl
  i37 := by kernel_rfl
  i46 := by kernel_rfl
  i51 := by kernel_rfl
  i53 := by kernel_rfl
  i171 := by kernel_rfl
  i173 := by kernel_rfl
  i212 := by kernel_rfl
  i232 := by kernel_rfl
  i233 := by kernel_rfl
  m17 := by kernel_rfl
  m18 := by kernel_rfl
  m19 := by kernel_rfl }
abbrev P_c_apI (R : List (List Cell)) (n : Int) : Ct := ⟨120, [.arr true 1 R], [.one (.ref 0), li n, li 10], [.dead, .arr true 1 (R ++ (Lib.itoa n).map byteC)], .sv (.one (.ref 1))⟩
theorem c_apI (R : List (List Cell)) (n : Int) (h : (-9223372036854775808 ≤ n ∧ n ≤ 9223372036854775807) ∧ R.length + 21 ≤ 140737488355328) : OK (P_c_apI R n) := by
  refine ⟨Tryz.call120, fun w ι vals hp hk => ?_⟩
  have harg := hp.arg
  rcases vals with ⟨l⟩
  match l, harg with
  | [v0, v1, v2], ⟨a0, a1, a2, _⟩ =>
    obtain ⟨rfl, _⟩ := a1.1.lit_inv
    obtain ⟨rfl, _⟩ := a2.1.lit_inv
    have hv0 : v0 = ι.sl 0 := a0.1.2 true 1 R rfl
    obtain ⟨e, xs, Fs, h1, h2, h3, h4, h5, h6, h7, h0⟩ := (show ArrRel w (Nest w ι.G true) 1 (ι.fp 0) (ι.sl 0) R from hp.obj 0)
    subst hv0
    refine (appP apiLays R.length n h.1.1 h.1.2 (ι.sl 0) xs e w h1 (fun hl => h0 (List.eq_nil_of_length_eq_zero hl)) h.2 (fun w1 v1 hg => ?_)).mono fun e' w' hh => ?_
    · cases hn : Tryz.prog.globalNamed pow10N with
      | none => have : (Tryz.prog.globalNamed pow10N).isSome = true := by kernel_rfl
                rw [hn] at this; cases this
      | some g =>
        obtain ⟨hlt, hfp, cs, hv, rfl⟩ := hk.1 g hn
        show w1.var? Tryz.prog pow10N = _
        unfold Go.World.var? at hv ⊢
        rw [hn, Option.bind_some] at hv ⊢
        rw [hg.1.block g hlt (fun e => hfp 0 (h3 g e.symm))]
        exact hv
    · obtain ⟨v', e2, rfl, g1, g2, g3⟩ := hh
      exact ⟨v', _, rfl, post_app hp h1 h2 h3 h4 h5 h6 h7 g1 g2 g3⟩
end Go.Proofs.YtclpofblehlojaaGreatDoor
end
section
namespace Go.Proofs.YtclpofblehlojaaGreatDoor
open Go Go.Proofs.YtclpofblehlojaaGreatDoor.Ab
set_option linter.unusedVariables false
def itoS (n : Int) : ByteArray := mkS (Lib.itoa n)
def scT (S : List Int) : List UInt8 := if S.length = 0 then [] else [123] ++ (jn [44] (S.map itoS) ++ [125])
def scP (S : List Int) : List UInt8 := if S.length = 0 then [] else [123] ++ jn [44] (S.map itoS)
theorem scP_zero (S : List Int) : scP (S.take 0) = [] := rfl
theorem scP_step {S : List Int} {k : Nat} (h : k < S.length) : scP (S.take (k + 1)) = if k = 0 then [123] ++ Lib.itoa (S.getD k default) else scP (S.take k) ++ ([44] ++ Lib.itoa (S.getD k default)) := by
  have e : ¬ (S.take (k + 1)).length = 0 := by rw [List.length_take]; omega
  unfold scP
  rw [if_neg e, take_get h, List.map_append, List.map_cons, List.map_nil, jn_snoc]
  cases k with
  | zero => simp [itoS]; rfl
  | succ k =>
    have e2 : ¬ (S.take (k + 1)).length = 0 := by rw [List.length_take]; omega
    rw [if_neg (by intro c; have := congrArg List.length c; rw [List.length_map, List.length_take, List.length_nil] at this; omega), if_neg (by omega), if_neg e2, List.append_assoc]; rfl
theorem itoa_small {n : Int} (h : 1 ≤ n ∧ n ≤ 99999) : (Lib.itoa n).length ≤ 20 := by have := itoa_len9 (n := n) (by omega); omega
theorem scP_len {S : List Int} (h : ∀ n ∈ S, 1 ≤ n ∧ n ≤ 99999) : ∀ k, (scP (S.take k)).length ≤ 1 + 21 * k := by
  intro k
  induction k with
  | zero => simp [scP]
  | succ k ih =>
    by_cases hk : k < S.length
    · have h1 := itoa_small (h _ (getD_mem' (L := S) hk))
      rw [scP_step hk]
      split
      · simp only [List.length_append, List.length_cons, List.length_nil]; omega
      · simp only [List.length_append, List.length_cons, List.length_nil]; omega
    · have e : S.take (k + 1) = S.take k := by rw [List.take_of_length_le (by omega), List.take_of_length_le (by omega)]
      rw [e]; omega
theorem scT_P (S : List Int) : scT S = if S.length = 0 then [] else scP S ++ [125] := by
  unfold scT scP; split
  · rfl
  · rw [List.append_assoc]
theorem scT_len {S : List Int} (h : ∀ n ∈ S, 1 ≤ n ∧ n ≤ 99999) : (scT S).length ≤ 2 + 21 * S.length := by
  have := scP_len h S.length
  rw [List.take_length] at this
  rw [scT_P]; split
  · simp
  · rw [List.length_append, List.length_singleton]; omega
theorem okSc_in {S : List Int} (h : okSc S = true) : ∀ n ∈ S, 1 ≤ n ∧ n ≤ 99999 := by
  intro n hn
  obtain ⟨k, hk, rfl⟩ := List.getElem_of_mem hn
  have h1 := okScN_le S S.length (k + 1) hk h
  simp only [okScN, Bool.and_eq_true, decide_eq_true_eq] at h1
  have e : S.getD k default = S[k] := by simp [hk]
  rw [e] at h1; exact h1.1.2
mutual
def fmtY : Syntax → List UInt8
  | ⟨k, n, t, s, l⟩ => if k = 0 then [40] ++ (fmtYs l ++ [41]) else fmtD ⟨k, n, t, []⟩ ++ scT s
def fmtYs : List Syntax → List UInt8
  | [] => []
  | x :: r => fmtY x ++ fmtYr r
def fmtYr : List Syntax → List UInt8
  | [] => []
  | x :: r => ([32] ++ fmtY x) ++ fmtYr r
end
def fyS (x : Syntax) : ByteArray := mkS (fmtY x)
def fyJ (L : List Syntax) : List UInt8 := jn [32] (L.map fyS)
theorem fmtYr_eq : ∀ l, fmtYr l = (l.map fyS).flatMap fun y => [32] ++ tx y
  | [] => by simp [fmtYr]
  | x :: r => by rw [fmtYr, fmtYr_eq r]; rfl
theorem fmtYs_eq : ∀ l, fmtYs l = fyJ l
  | [] => by simp [fmtYs, fyJ, jn]
  | x :: r => by rw [fmtYs, fmtYr_eq]; rfl
theorem fmtY_eq (x : Syntax) : fmtY x = if x.kind = 0 then [40] ++ (fyJ x.items ++ [41]) else fmtD ⟨x.kind, x.number, x.text, []⟩ ++ scT x.scopes := by
  cases x; simp only [fmtY, fmtYs_eq]
theorem fyJ_step {L : List Syntax} {k : Nat} (h : k < L.length) : fyJ (L.take (k + 1)) = if k = 0 then fmtY (L.getD k default) else fyJ (L.take k) ++ ([32] ++ fmtY (L.getD k default)) := by
  rw [take_get h]; unfold fyJ
  rw [List.map_append, List.map_cons, List.map_nil, jn_snoc]
  cases k with
  | zero => simp [fyS]; rfl
  | succ k => rw [if_neg, if_neg (by omega)]; rfl; intro e; have := congrArg List.length e; rw [List.length_map, List.length_take, List.length_nil] at this; omega
theorem fyJ_le (L : List Syntax) {m : Syntax → Nat} (h : ∀ x ∈ L, (fmtY x).length + 1 ≤ m x) : (fyJ L).length ≤ sumBy m L := by
  have e : ∀ L : List Syntax, (∀ x ∈ L, (fmtY x).length + 1 ≤ m x) → ((L.map fyS).flatMap fun y => [32] ++ tx y).length ≤ sumBy m L := by
    intro L
    induction L with
    | nil => intro _; simp [sumBy]
    | cons x r ih =>
      intro h
      have h1 := ih fun y hy => h y (List.mem_cons_of_mem _ hy)
      have h2 := h x List.mem_cons_self
      have h3 : (tx (fyS x)).length = (fmtY x).length := rfl
      simp only [List.map_cons, List.flatMap_cons, List.length_append, List.length_cons, List.length_nil, sumBy, h3]
      omega
  cases L with
  | nil => simp [fyJ, jn, sumBy]
  | cons x r =>
    have h1 := e r fun y hy => h y (List.mem_cons_of_mem _ hy)
    have h2 := h x List.mem_cons_self
    have h3 : (tx (fyS x)).length = (fmtY x).length := rfl
    simp only [fyJ, jn, List.map_cons, List.length_append, sumBy, h3]
    omega
theorem nodY_atom {x : Syntax} (h : okY x = true) (hk : ¬ x.kind = 0) : okD ⟨x.kind, x.number, x.text, []⟩ = true ∧ x.items = [] := by
  rw [okY_eq, Bool.and_eq_true] at h
  have h2 := h.2
  simp only [nodY0, Bool.and_eq_true] at h2
  have h3 := h2.1.1
  have h4 : x.items = [] := by
    have h3' := h3
    simp only [nodD, Bool.or_eq_true, decide_eq_true_eq] at h3'
    refine List.length_eq_zero_iff.1 ?_
    omega
  refine ⟨?_, h4⟩
  rw [okD_eq, Bool.and_eq_true]
  rw [h4] at h3
  exact ⟨rfl, h3⟩
theorem okY_sc {x : Syntax} (h : okY x = true) : ∀ n ∈ x.scopes, 1 ≤ n ∧ n ≤ 99999 := by
  rw [okY_eq, Bool.and_eq_true] at h
  have h2 := h.2
  simp only [nodY0, Bool.and_eq_true] at h2
  exact okSc_in h2.1.2
theorem okY_it {x : Syntax} (h : okY x = true) : ∀ y ∈ x.items, okY y = true := by
  rw [okY_eq, Bool.and_eq_true, List.all_eq_true] at h; exact h.1
def bY (x : Syntax) : Nat := 40 + 60 * wY x
theorem bY_sum : ∀ L : List Syntax, sumBy bY L = 40 * L.length + 60 * sumBy wY L
  | [] => rfl
  | x :: r => by simp only [sumBy, bY_sum r, bY, List.length_cons]; omega
theorem fmtY_len : ∀ x : Syntax, okY x = true → (fmtY x).length + 1 ≤ bY x := by
  refine Syntax.ind fun x ih hx => ?_
  have hw := wY_eq x
  rw [fmtY_eq]
  split
  · have h1 := fyJ_le x.items (m := bY) fun y hy => ih y hy (okY_it hx y hy)
    rw [bY_sum] at h1
    simp only [List.length_append, List.length_cons, List.length_nil]; unfold bY; omega
  · rename_i hk
    have h1 := nodY_atom hx hk
    have h2 := fmtD_len _ h1.1
    have h3 := scT_len (okY_sc hx)
    have h4 : sizeD ⟨x.kind, x.number, x.text, []⟩ = 1 := by rw [sizeD_eq]; rfl
    rw [h4] at h2
    rw [List.length_append]; unfold bY; omega
def fyO (L : List Syntax) : List UInt8 := [40] ++ fyJ L
theorem fyO_nil : [[Cell.lit (.int .u8 40)]] = (fyO []).map byteC := rfl
theorem fyO_go {L : List Syntax} {k : Nat} (h : k < L.length) (e : ¬ 0 < (k : Int)) : (fyO (L.take (k + 1))).map byteC = (fyO (L.take k)).map byteC ++ (fmtY (L.getD k default)).map byteC := by
  have : k = 0 := by omega
  subst this; unfold fyO; rw [fyJ_step h]; rfl
theorem fyO_on {L : List Syntax} {k : Nat} (h : k < L.length) (e : 0 < (k : Int)) : (fyO (L.take (k + 1))).map byteC = (fyO (L.take k)).map byteC ++ ([[Cell.lit (.int .u8 32)]] ++ (fmtY (L.getD k default)).map byteC) := by
  unfold fyO; rw [fyJ_step h, if_neg (by omega), ← List.append_assoc, List.map_append, List.map_append]; rfl
theorem fyO_len {x : Syntax} (k : Nat) (h : okY x = true) : (fyO (x.items.take k)).length ≤ 1 + sumBy bY (x.items.take k) := by
  have h1 := fyJ_le (x.items.take k) (m := bY) fun y hy => fmtY_len y (okY_it h y (List.mem_of_mem_take hy))
  unfold fyO; simp only [List.length_append, List.length_cons, List.length_nil]; omega
theorem sumY_two {w : Syntax → Nat} {L : List Syntax} {k : Nat} (h : k < L.length) : sumBy w (L.take k) + w (L.getD k default) ≤ sumBy w L := by
  have h1 := sumBy_step w h
  have h2 := sumBy_takeLe w L (k + 1)
  omega
theorem fmtY_list {x : Syntax} (h : x.kind = 0) : (fmtY x).map byteC = (fyO x.items).map byteC ++ [[Cell.lit (.int .u8 41)]] := by
  rw [fmtY_eq, if_pos h]; unfold fyO
  rw [← List.append_assoc, List.map_append]; rfl
theorem fmtY_atom {x : Syntax} (h : ¬ x.kind = 0) : (fmtY x).map byteC = (fmtD ⟨x.kind, x.number, x.text, []⟩).map byteC ++ (scT x.scopes).map byteC := by
  rw [fmtY_eq, if_neg h, List.map_append]
end Go.Proofs.YtclpofblehlojaaGreatDoor
end
section
namespace Go.Proofs.YtclpofblehlojaaGreatDoor
open Go Go.Proofs.YtclpofblehlojaaGreatDoor.Ab
set_option linter.unusedVariables false
set_option linter.unusedSimpArgs false
set_option maxHeartbeats 4000000
abbrev P_c_iWSc (R : List (List Cell)) (S : List Int) : Ct := ⟨71, [.arr true 1 R], [.one (.ref 0), ll (S.map intC)], [.dead, .arr true 1 (R ++ (scT S).map byteC)], .sv (.one (.ref 1))⟩
def lc_iWScLa (R : List (List Cell)) (S : List Int) : Lp Nat := .mk 33 1 (fun x => [(0, SV.one (AC.ref 1)), (1, ll (List.map intC S)), (7, ll (List.map intC S)), (8, li (↑(List.map
 intC S).length : Int)), (9, hs x 0)]) (fun x => [Ob.dead, ho x 1]) (fun k => [.s (li (↑k : Int)), .o (Ob.arr true 1 (R ++ List.map byteC (scP (List.take k S))))]) (fun k => k ≤
 S.length ∧ S.length ≤ 9223372036854775807 ∧ S.length ≤ 1048576 ∧ R.length ≤ 35184372088832) (fun k => S.length - k) [.mk True (.exit 0) (fun x => [(0, SV.one (AC.ref 1)), (1, ll
 (List.map intC S))]) (fun x => [Ob.dead, ho x 0]) [.o (Ob.arr true 1 (R ++ List.map byteC (scP S)))]]
theorem Sc_iWScLa (R : List (List Cell)) (S : List Int) (h : (∀ (n : Int), n ∈ S → 1 ≤ n ∧ n ≤ 99999) ∧ S.length ≤ 1048576 ∧ R.length ≤ 35184372088832) : Lp.Sem Tryz.prog (loopAt
 Tryz.f71 0) (lc_iWScLa R S) := lpOK (fun k => .i ((↑k : Int) < (↑(List.map intC S).length : Int)) (.x (↑k : Int) (List.map intC S) [cI (S.getD k 0)] (.i ((↑k : Int) = 0) (.p (((R
 ++ List.map byteC (scP (List.take k S))).length + 1) * 1 ≤ 140737488355328) (.d [.own true 1, .rd, .rd] (P_c_apI (R ++ List.map byteC (scP (List.take k S)) ++ [[Cell.lit
 (Value.int IntKind.u8 123)]]) (S.getD k 0)) (.r ((↑k : Int) + 1) (.g [0, 5] (k + 1) [.s (li ((↑k : Int) + 1)), .o (Ob.arr true 1 (R ++ List.map byteC (scP (List.take k S)) ++
 [[Cell.lit (Value.int IntKind.u8 123)]] ++ List.map byteC (Lib.itoa (S.getD k 0))))])))) (.p (((R ++ List.map byteC (scP (List.take k S))).length + 1) * 1 ≤ 140737488355328) (.d
 [.own true 1, .rd, .rd] (P_c_apI (R ++ List.map byteC (scP (List.take k S)) ++ [[Cell.lit (Value.int IntKind.u8 44)]]) (S.getD k 0)) (.r ((↑k : Int) + 1) (.g [0, 5] (k + 1) [.s
 (li ((↑k : Int) + 1)), .o (Ob.arr true 1 (R ++ List.map byteC (scP (List.take k S)) ++ [[Cell.lit (Value.int IntKind.u8 44)]] ++ List.map byteC (Lib.itoa (S.getD k 0))))]))))))
 (.o 0 [0, 1] [.o (Ob.arr true 1 (R ++ List.map byteC (scP (List.take k S))))])) (by
  intro k h; try dsimp only [teasy, nthW, lc_iWScLa] at h ⊢
  have hh := ‹(∀ n ∈ S, 1 ≤ n ∧ n ≤ 99999) ∧ _›
  have l1 := scP_len hh.1 k
  have st := @scP_step S k
  have mm : k < S.length → 1 ≤ S.getD k 0 ∧ S.getD k 0 ≤ 99999 := fun hk => hh.1 _ (getD_mem' (L := S) hk)
  have rg : k < S.length → (S.map intC)[k]? = some [cI (S.getD k 0)] := fun a => getC a rfl
  with_reducible repeat' (first | apply And.intro | exact zR | (intro; skip) | apply c_apI)
  all_goals (try simp only [std, inj] at *)
  all_goals with_reducible repeat' apply And.intro
  all_goals (try (first | with_reducible apply c_apI | (simp only [← List.map_append]; first | with_reducible apply c_apI)))
  all_goals first
    | exact True.intro | with_reducible rfl | omega | exact rg (by omega)
    | (have := mm (by omega); exact ⟨by first | exact And.intro (by omega) (by omega) | omega, by omega⟩)
    | (have := mm (by omega); simp only [List.length_cons, List.length_nil]; omega)
    | (have := mm (by omega); show _ ≤ _; omega)
    | (rw [st (by omega)]; first
        | (rw [if_pos (by omega), show k = 0 by omega, scP_zero, List.map_nil, List.append_nil, List.map_append, ← List.append_assoc]; rfl)
        | (rw [if_neg (by omega), List.map_append, List.map_append, ← List.append_assoc, ← List.append_assoc]; rfl))
    | (rw [show S.take k = S from List.take_of_length_le (by omega)])
    | skip)
theorem c_iWSc (R : List (List Cell)) (S : List Int) (h : (∀ n ∈ S, 1 ≤ n ∧ n ≤ 99999) ∧ S.length ≤ 1048576 ∧ R.length ≤ 35184372088832)  : P_c_iWSc R S := fnOK Tryz.call71
 Tryz.func71 (.z intC S (.w (.ghost (.move 0)) (.l (lc_iWScLa R S) (Sc_iWScLa R S h) [0, 1] [.s (li 0), .o (Ob.arr true 1 R)] 0 (.t (.z intC S (.i (0 < (↑(List.map intC S).length :
 Int)) (.p (((R ++ List.map byteC (scP S)).length + 1) * 1 ≤ 140737488355328) (.f [3] [Ob.dead, Ob.arr true 1 (R ++ List.map byteC (scP S) ++ [[Cell.lit (Value.int IntKind.u8
 125)]])] (AV.sv (SV.one (AC.ref 1))))) (.f [1] [Ob.dead, Ob.arr true 1 (R ++ List.map byteC (scP S))] (AV.sv (SV.one (AC.ref 1)))))) .q)))) (by
  dsimp only [teasy, P_c_iWSc, nthW, lc_iWScLa]
  have l1 := scP_len h.1 S.length
  rw [List.take_length] at l1
  with_reducible repeat' (first | apply And.intro | exact zR | (intro; skip) | apply c_apI)
  all_goals (try simp only [std, inj] at *)
  all_goals with_reducible repeat' apply And.intro
  all_goals (try (first | with_reducible apply c_apI | (simp only [← List.map_append]; first | with_reducible apply c_apI)))
  all_goals first
    | exact True.intro | with_reducible rfl | omega
    | (rw [scP_zero, List.map_nil, List.append_nil])
    | (rw [scT_P, if_neg (by omega), List.map_append, ← List.append_assoc]; rfl)
    | (rw [scT_P, if_pos (by omega)]; unfold scP; rw [if_pos (by omega)])
    | skip)
abbrev P_c_iWSy (R : List (List Cell)) (x : Syntax) : Ct := ⟨27, [.arr true 1 R], [.one (.ref 0), syntaxA x], [.dead, .arr true 1 (R ++ (fmtY x).map byteC)], .sv (.one (.ref 1))⟩
def lc_iWSy_sLa (R : List (List Cell)) (x : Syntax) : Lp Nat := .mk 45 1 (fun x_1 => [(0, SV.one (AC.ref 1)), (26, ll (List.map syntaxC x.items)), (27, li (↑(List.map syntaxC
 x.items).length : Int)), (28, hs x_1 0)]) (fun x => [Ob.dead, ho x 1]) (fun k => [.s (li (↑k : Int)), .o (Ob.arr true 1 (R ++ List.map byteC (fyO (List.take k x.items))))]) (fun k
 => k ≤ x.items.length ∧ x.items.length ≤ 9223372036854775807 ∧ okY x = true ∧ wY x ≤ 1048576 ∧ R.length + bY x ≤ 17592186044416) (fun k => x.items.length - k) [.mk True (.exit 0)
 (fun x => [(0, SV.one (AC.ref 1))]) (fun x => [Ob.dead, ho x 0]) [.o (Ob.arr true 1 (R ++ List.map byteC (fyO x.items)))]]
theorem Sc_iWSy_sLa (R : List (List Cell)) (x : Syntax) (h : okY x = true ∧ wY x ≤ 1048576 ∧ R.length + bY x ≤ 17592186044416) (ih : ∀ (z : Syntax), z ∈ x.items → ∀ (R : List (List
 Cell)), okY z = true ∧ wY z ≤ 1048576 ∧ R.length + bY z ≤ 17592186044416 → OK (P_c_iWSy R z)) : Lp.Sem Tryz.prog (loopAt Tryz.f27 0) (lc_iWSy_sLa R x) := lpOK (fun k => .i ((↑k :
 Int) < (↑(List.map syntaxC x.items).length : Int)) (.x (↑k : Int) (List.map syntaxC x.items) (syntaxF (x.items.getD k default)) (.i (0 < (↑k : Int)) (.p (((R ++ List.map byteC
 (fyO (List.take k x.items))).length + 1) * 1 ≤ 140737488355328) (.d [.own true 1, .rd] (P_c_iWSy (R ++ List.map byteC (fyO (List.take k x.items)) ++ [[Cell.lit (Value.int
 IntKind.u8 32)]]) (x.items.getD k default)) (.r ((↑k : Int) + 1) (.g [0, 6] (k + 1) [.s (li ((↑k : Int) + 1)), .o (Ob.arr true 1 (R ++ List.map byteC (fyO (List.take k x.items))
 ++ [[Cell.lit (Value.int IntKind.u8 32)]] ++ List.map byteC (fmtY (x.items.getD k default))))])))) (.d [.own true 1, .rd] (P_c_iWSy (R ++ List.map byteC (fyO (List.take k
 x.items))) (x.items.getD k default)) (.r ((↑k : Int) + 1) (.g [0, 4] (k + 1) [.s (li ((↑k : Int) + 1)), .o (Ob.arr true 1 (R ++ List.map byteC (fyO (List.take k x.items)) ++
 List.map byteC (fmtY (x.items.getD k default))))]))))) (.o 0 [0, 1] [.o (Ob.arr true 1 (R ++ List.map byteC (fyO (List.take k x.items))))])) (by
  intro k h; try dsimp only [teasy, nthW, lc_iWSy_sLa] at h ⊢
  have g1 := @okY_it x
  have g2 := wY_eq x
  have g3 := @sumY_two bY x.items k
  have g4 := @fyO_len x k
  have g5 := @fyO_go x.items k
  have g6 := @fyO_on x.items k
  have g7 := bY_sum x.items
  with_reducible repeat' (first | apply And.intro | exact zR | exact ih | (intro; skip) | apply c_iWrite | apply c_iWSc | apply ih)
  all_goals (try simp only [std, inj] at *)
  all_goals with_reducible repeat' apply And.intro
  all_goals (try (first | with_reducible apply c_iWrite | with_reducible apply c_iWSc | with_reducible apply ih | (simp only [← List.map_append]; first | with_reducible apply c_iWrite | with_reducible apply c_iWSc | with_reducible apply ih)))
  all_goals (try (first | exact z | grind [getD_mem', bY, snocI, snocS, rowSnoc])))
theorem c_iWSy_s (R : List (List Cell)) (x : Syntax) (h : okY x = true ∧ wY x ≤ 1048576 ∧ R.length + bY x ≤ 17592186044416) (ih : ∀ z ∈ x.items, ∀ (R : List (List Cell)) (h : okY z
 = true ∧ wY z ≤ 1048576 ∧ R.length + bY z ≤ 17592186044416), P_c_iWSy R z)  : P_c_iWSy R x := fnOK Tryz.call27 Tryz.func27 (.i (x.kind ≠ 0) (.w (.draw [(8, [0]), (11, [3])]) (.d
 [.own true 1, .rd] (P_c_iWrite R (Datum.mk x.kind x.number x.text [])) (.d [.own true 1, .rd] (P_c_iWSc (R ++ List.map byteC (fmtD (Datum.mk x.kind x.number x.text []))) x.scopes)
 (.f [11] [Ob.dead, Ob.arr true 1 (R ++ List.map byteC (fmtD (Datum.mk x.kind x.number x.text [])) ++ List.map byteC (scT x.scopes))] (AV.sv (SV.one (AC.ref 1))))))) (.p ((R.length
 + 1) * 1 ≤ 140737488355328) (.z syntaxC x.items (.l (lc_iWSy_sLa R x) (Sc_iWSy_sLa R x h ih) [0, 3] [.s (li 0), .o (Ob.arr true 1 (R ++ [[Cell.lit (Value.int IntKind.u8 40)]]))] 0
 (.t (.p (((R ++ List.map byteC (fyO x.items)).length + 1) * 1 ≤ 140737488355328) (.f [3] [Ob.dead, Ob.arr true 1 (R ++ List.map byteC (fyO x.items) ++ [[Cell.lit (Value.int
 IntKind.u8 41)]])] (AV.sv (SV.one (AC.ref 1))))) .q))))) (by
  dsimp only [teasy, P_c_iWSy, nthW, lc_iWSy_sLa]
  have g2 := wY_eq x
  have g3 := @fyO_len x x.items.length
  have g4 := fyO_nil
  have g5 := @fmtY_list x
  have g6 := @fmtY_atom x
  have g7 := @nodY_atom x
  have g8 := @okY_sc x
  have g9 := fmtY_len x
  have g10 : sizeD ⟨x.kind, x.number, x.text, []⟩ = 1 := by rw [sizeD_eq]; rfl
  have g11 := fmtD_len ⟨x.kind, x.number, x.text, []⟩
  with_reducible repeat' (first | apply And.intro | exact zR | exact ih | (intro; skip) | apply c_iWrite | apply c_iWSc)
  all_goals (try simp only [std, inj] at *)
  all_goals with_reducible repeat' apply And.intro
  all_goals (try (first | with_reducible apply c_iWrite | with_reducible apply c_iWSc | with_reducible apply ih | (simp only [← List.map_append]; first | with_reducible apply c_iWrite | with_reducible apply c_iWSc | with_reducible apply ih)))
  all_goals (try (first | exact z | grind [bY, snocI, snocS, rowSnoc])))
theorem c_iWSy (x : Syntax) : ∀ (R : List (List Cell)) (h : okY x = true ∧ wY x ≤ 1048576 ∧ R.length + bY x ≤ 17592186044416), P_c_iWSy R x := Syntax.ind (P := fun x => ∀ (R : List (List Cell)) (h : okY x = true ∧ wY x ≤ 1048576 ∧ R.length + bY x ≤ 17592186044416), P_c_iWSy R x) (fun x ih R h => c_iWSy_s R x h ih) x
end Go.Proofs.YtclpofblehlojaaGreatDoor
end
section
namespace Go.Proofs.YtclpofblehlojaaGreatDoor
open Go Go.Proofs.YtclpofblehlojaaGreatDoor.Ab
set_option linter.unusedVariables false
set_option linter.unusedSimpArgs false
set_option maxHeartbeats 4000000
def hdR : List UInt8 := [40, 115, 121, 110, 116, 97, 120, 45, 114, 117, 108, 101, 115, 32, 40]
def clX (p t : Syntax) : List UInt8 := [32, 40] ++ (fmtY p ++ ([32] ++ (fmtY t ++ [41])))
def clsX (r : Rules) : Nat → List UInt8
  | 0 => []
  | k + 1 => clsX r k ++ clX (r.patterns.getD k default) (r.templates.getD k default)
def hld (x : List UInt8) : List UInt8 := if System.Platform.numBits = 64 then x else x
theorem hld_eq (x : List UInt8) : hld x = x := by unfold hld; split <;> rfl
def liK (r : Rules) (k : Nat) : List UInt8 := hld (hdR ++ fyJ (r.literals.take k))
theorem liK_eq (r : Rules) (k : Nat) : liK r k = hdR ++ fyJ (r.literals.take k) := hld_eq _
def liR (r : Rules) : List UInt8 := hld (hdR ++ fyJ r.literals)
theorem liR_eq (r : Rules) : liR r = hdR ++ fyJ r.literals := hld_eq _
def foR (r : Rules) (k : Nat) : List UInt8 := hld (liR r ++ ([41] ++ clsX r k))
theorem foR_eq (r : Rules) (k : Nat) : foR r k = liR r ++ ([41] ++ clsX r k) := hld_eq _
def fmtRu (r : Rules) : List UInt8 := foR r r.patterns.length ++ [41]
def fmR (r : Rules) : List UInt8 := if isRul r then fmtRu r else []
theorem clsX_step (r : Rules) (k : Nat) : clsX r (k + 1) = clsX r k ++ clX (r.patterns.getD k default) (r.templates.getD k default) := rfl
theorem isSyn_ok {x : Syntax} (h : isSyn x = true) : okY x = true := by simp only [isSyn, Bool.and_eq_true] at h; exact h.2
theorem ru_len {r : Rules} (h : isRul r = true) : r.templates.length = r.patterns.length ∧ r.patterns.length ≤ 12 ∧ r.literals.length ≤ 8 := by
  simp only [isRul, okL, Bool.and_eq_true, decide_eq_true_eq] at h
  omega
theorem ru_pt {r : Rules} (h : isRul r = true) {k : Nat} (hk : k < r.patterns.length) : okY (r.patterns.getD k default) = true ∧ okY (r.templates.getD k default) = true := by
  simp only [isRul, Bool.and_eq_true] at h
  have h1 := clTo_le r r.patterns.length (k + 1) hk h.1.2
  simp only [clTo, clT, clP, tmF, Bool.and_eq_true] at h1
  exact ⟨isSyn_ok h1.2.1.1.1.1.1.1, isSyn_ok h1.2.2.1.2⟩
theorem ru_li {r : Rules} (h : isRul r = true) {k : Nat} (hk : k < r.literals.length) : okY (r.literals.getD k default) = true := by
  simp only [isRul, okL, Bool.and_eq_true, List.all_eq_true] at h
  have h1 := h.1.1.1.1.1 _ (getD_mem' (L := r.literals) hk)
  simp only [litP, isId, Bool.and_eq_true] at h1
  exact isSyn_ok h1.1.1.2
theorem bY_le {x : Syntax} (h : wY x ≤ 1048576) : bY x ≤ 62914600 := by unfold bY; omega
theorem clsX_len {r : Rules} (h : isRul r = true) (hw : wR r ≤ 1048576) : ∀ k, k ≤ r.patterns.length → (clsX r k).length ≤ k * 125829300
  | 0, _ => by simp [clsX]
  | k + 1, hk => by
    have ih := clsX_len h hw k (by omega)
    have h1 := ru_pt h (k := k) hk
    have h2 := fmtY_len _ h1.1
    have h3 := fmtY_len _ h1.2
    have g7 := wR_eq r
    have l := ru_len h
    have h4 := bY_le (x := r.patterns.getD k default) (by have := @sumBy_mem _ wY r.patterns _ (getD_mem' (L := r.patterns) hk); omega)
    have h5 := bY_le (x := r.templates.getD k default) (by have := @sumBy_mem _ wY r.templates _ (getD_mem' (L := r.templates) (k := k) (by omega)); omega)
    rw [clsX_step, List.length_append]
    simp only [clX, List.length_append, List.length_cons, List.length_nil]
    omega
theorem liK_len {r : Rules} (h : isRul r = true) (hw : wR r ≤ 1048576) (k : Nat) : (liK r k).length ≤ 62914900 := by
  rw [liK_eq]
  have h1 := fyJ_le (r.literals.take k) (m := bY) fun y hy => by
    obtain ⟨j, hj, rfl⟩ := List.getElem_of_mem (List.mem_of_mem_take hy)
    have := ru_li h hj
    rw [show r.literals.getD j default = r.literals[j] by simp [hj]] at this
    exact fmtY_len _ this
  have h2 := sumBy_takeLe bY r.literals k
  have h3 := bY_sum r.literals
  have g7 := wR_eq r
  have l := ru_len h
  have e : hdR.length = 15 := rfl
  rw [List.length_append]; omega
theorem foR_len {r : Rules} (h : isRul r = true) (hw : wR r ≤ 1048576) (k : Nat) (hk : k ≤ r.patterns.length) : (foR r k).length ≤ 2000000000 := by
  have h1 := liK_len h hw r.literals.length
  rw [liK_eq, List.take_length] at h1
  have h2 := clsX_len h hw k hk
  have l := ru_len h
  simp only [foR_eq, liR_eq, List.length_append, List.length_cons, List.length_nil] at h1 ⊢
  omega
theorem b32 : byteC 32 = [Cell.lit (Value.int IntKind.u8 32)] := rfl
theorem b40 : byteC 40 = [Cell.lit (Value.int IntKind.u8 40)] := rfl
theorem b41 : byteC 41 = [Cell.lit (Value.int IntKind.u8 41)] := rfl
theorem foR_step (r : Rules) (k : Nat) : List.map byteC (foR r k) ++ [[Cell.lit (Value.int IntKind.u8 32)], [Cell.lit (Value.int IntKind.u8 40)]] ++ List.map byteC (fmtY (r.patterns.getD k default)) ++ [[Cell.lit (Value.int IntKind.u8 32)]] ++
    List.map byteC (fmtY (r.templates.getD k default)) ++ [[Cell.lit (Value.int IntKind.u8 41)]] = List.map byteC (foR r (k + 1)) := by
  rw [foR_eq, foR_eq, clsX_step]; unfold clX; simp only [List.map_append, List.append_assoc, List.map_cons, List.map_nil, List.cons_append, List.nil_append, b32, b40, b41]
theorem liK_0 (r : Rules) : [[Cell.lit (.int .u8 40)], [Cell.lit (.int .u8 115)], [Cell.lit (.int .u8 121)], [Cell.lit (.int .u8 110)], [Cell.lit (.int .u8 116)], [Cell.lit (.int .u8 97)], [Cell.lit (.int .u8 120)], [Cell.lit (.int .u8 45)], [Cell.lit (.int .u8 114)], [Cell.lit (.int .u8 117)], [Cell.lit (.int .u8 108)], [Cell.lit (.int .u8 101)], [Cell.lit (.int .u8 115)], [Cell.lit (.int .u8 32)], [Cell.lit (.int .u8 40)]] = List.map byteC (liK r 0) := by rw [liK_eq]; rfl
theorem liK_all (r : Rules) {k : Nat} (h : r.literals.length ≤ k) : liK r k = liR r := by rw [liK_eq, liR_eq, List.take_of_length_le h]
theorem foR_0 (r : Rules) : List.map byteC (liR r) ++ [[Cell.lit (.int .u8 41)]] = List.map byteC (foR r 0) := by
  rw [foR_eq]; simp only [clsX, List.append_nil, List.map_append]; rfl
theorem fmtRu_map (r : Rules) : List.map byteC (foR r r.patterns.length) ++ [[Cell.lit (.int .u8 41)]] = List.map byteC (fmtRu r) := by
  unfold fmtRu; rw [List.map_append]; rfl
theorem liR_step {r : Rules} {k : Nat} (h : k < r.literals.length) (e : 0 < (k : Int)) : List.map byteC (liK r (k + 1)) = List.map byteC (liK r k) ++ [[Cell.lit (.int .u8 32)]] ++ List.map byteC (fmtY (r.literals.getD k default)) := by
  rw [liK_eq, liK_eq, fyJ_step h, if_neg (by omega)]; simp only [List.map_append, List.append_assoc, List.map_cons, List.map_nil, List.cons_append, List.nil_append, b32]
theorem liR_first {r : Rules} {k : Nat} (h : k < r.literals.length) (e : ¬ 0 < (k : Int)) : List.map byteC (liK r (k + 1)) = List.map byteC (liK r k) ++ List.map byteC (fmtY (r.literals.getD k default)) := by
  have : k = 0 := by omega
  subst this; rw [liK_eq, liK_eq, fyJ_step h, if_pos rfl, List.map_append, List.map_append]; simp [fyJ, jn]
abbrev P_c_iFmR (r : Rules) : Ct := ⟨8, [], [rulesA r], [], .sv (ls (mkS (fmR r)))⟩
def lc_iFmRLb (r : Rules) : Lp Nat := .mk 65 0 (fun x => [(1, SV.one (AC.ptr 0 0)), (3, SV.one (AC.ref 1)), (34, li (↑(List.map syntaxC r.patterns).length : Int)), (35, hs x 0)])
 (fun x => [Ob.box (vals (rulesF r)), ho x 1]) (fun k => [.s (li (↑k : Int)), .o (Ob.arr true 1 (List.map byteC (foR r k)))]) (fun k => k ≤ r.patterns.length ∧ r.patterns.length ≤
 9223372036854775807 ∧ isRul r = true ∧ wR r ≤ 1048576) (fun k => r.patterns.length - k) [.mk True (.exit 2) (fun x => [(3, SV.one (AC.ref 0))]) (fun x => [ho x 0]) [.o (Ob.arr
 true 1 (List.map byteC (foR r r.patterns.length)))]]
def lc_iFmRLa (r : Rules) : Lp Nat := .mk 65 0 (fun x => [(1, SV.one (AC.ptr 0 0)), (3, SV.one (AC.ref 1)), (13, ll (List.map syntaxC r.literals)), (14, li (↑(List.map syntaxC
 r.literals).length : Int)), (15, hs x 0)]) (fun x => [Ob.box (vals (rulesF r)), ho x 1]) (fun k => [.s (li (↑k : Int)), .o (Ob.arr true 1 (List.map byteC (liK r k)))]) (fun k => k
 ≤ r.literals.length ∧ r.literals.length ≤ 9223372036854775807 ∧ isRul r = true ∧ wR r ≤ 1048576) (fun k => r.literals.length - k) [.mk True (.exit 0) (fun x => [(1, SV.one (AC.ptr
 0 0)), (3, SV.one (AC.ref 1))]) (fun x => [Ob.box (vals (rulesF r)), ho x 0]) [.o (Ob.arr true 1 (List.map byteC (liR r)))]]
theorem Sc_iFmRLb (r : Rules) (h : wR r ≤ 1048576) : Lp.Sem Tryz.prog (loopAt Tryz.f8 1) (lc_iFmRLb r) := lpOK (fun k => .i ((↑k : Int) < (↑(List.map syntaxC r.patterns).length :
 Int)) (.p (((List.map byteC (foR r k)).length + 2) * 1 ≤ 140737488355328) (.x (↑k : Int) (List.map syntaxC r.patterns) (syntaxF (r.patterns.getD k default)) (.d [.own true 1, .rd]
 (P_c_iWSy (List.map byteC (foR r k) ++ [[Cell.lit (Value.int IntKind.u8 32)], [Cell.lit (Value.int IntKind.u8 40)]]) (r.patterns.getD k default)) (.p (((List.map byteC (foR r k)
 ++ [[Cell.lit (Value.int IntKind.u8 32)], [Cell.lit (Value.int IntKind.u8 40)]] ++ List.map byteC (fmtY (r.patterns.getD k default))).length + 1) * 1 ≤ 140737488355328) (.x (↑k :
 Int) (List.map syntaxC r.templates) (syntaxF (r.templates.getD k default)) (.d [.own true 1, .rd] (P_c_iWSy (List.map byteC (foR r k) ++ [[Cell.lit (Value.int IntKind.u8 32)],
 [Cell.lit (Value.int IntKind.u8 40)]] ++ List.map byteC (fmtY (r.patterns.getD k default)) ++ [[Cell.lit (Value.int IntKind.u8 32)]]) (r.templates.getD k default)) (.p (((List.map
 byteC (foR r k) ++ [[Cell.lit (Value.int IntKind.u8 32)], [Cell.lit (Value.int IntKind.u8 40)]] ++ List.map byteC (fmtY (r.patterns.getD k default)) ++ [[Cell.lit (Value.int
 IntKind.u8 32)]] ++ List.map byteC (fmtY (r.templates.getD k default))).length + 1) * 1 ≤ 140737488355328) (.r ((↑k : Int) + 1) (.g [0, 10] (k + 1) [.s (li ((↑k : Int) + 1)), .o
 (Ob.arr true 1 (List.map byteC (foR r k) ++ [[Cell.lit (Value.int IntKind.u8 32)], [Cell.lit (Value.int IntKind.u8 40)]] ++ List.map byteC (fmtY (r.patterns.getD k default)) ++
 [[Cell.lit (Value.int IntKind.u8 32)]] ++ List.map byteC (fmtY (r.templates.getD k default)) ++ [[Cell.lit (Value.int IntKind.u8 41)]]))]))))))))) (.o 0 [1] [.o (Ob.arr true 1
 (List.map byteC (foR r k)))])) (by
  intro k h; try dsimp only [teasy, nthW, lc_iFmRLb] at h ⊢
  have g1 := @ru_pt r
  have g2 := ru_len h.2.2.1
  have g4 := foR_len h.2.2.1 h.2.2.2 k h.1
  have g5 := @sumBy_mem _ wY r.patterns (r.patterns.getD k default)
  have g6 := @sumBy_mem _ wY r.templates (r.templates.getD k default)
  have g7 := @bY_le (r.patterns.getD k default)
  have g8 := @bY_le (r.templates.getD k default)
  have g9 := fmtY_len (r.patterns.getD k default)
  have g11 := fmtY_len (r.templates.getD k default)
  have g12 := foR_step r k
  have g3 := wR_eq r
  with_reducible repeat' (first | apply And.intro | exact zR | (intro; skip) | apply c_iIsRules | apply c_iWSy)
  all_goals (try simp only [std, inj] at *)
  all_goals with_reducible repeat' apply And.intro
  all_goals (try (first | with_reducible apply c_iIsRules | with_reducible apply c_iWSy | (simp only [← List.map_append]; first | with_reducible apply c_iIsRules | with_reducible apply c_iWSy)))
  all_goals (try (first | exact z | grind [getD_mem', snocI, snocS, rowSnoc])))
theorem Sc_iFmRLa (r : Rules) (h : wR r ≤ 1048576) : Lp.Sem Tryz.prog (loopAt Tryz.f8 0) (lc_iFmRLa r) := lpOK (fun k => .i ((↑k : Int) < (↑(List.map syntaxC r.literals).length :
 Int)) (.x (↑k : Int) (List.map syntaxC r.literals) (syntaxF (r.literals.getD k default)) (.i (0 < (↑k : Int)) (.p (((List.map byteC (liK r k)).length + 1) * 1 ≤ 140737488355328)
 (.d [.own true 1, .rd] (P_c_iWSy (List.map byteC (liK r k) ++ [[Cell.lit (Value.int IntKind.u8 32)]]) (r.literals.getD k default)) (.r ((↑k : Int) + 1) (.g [0, 6] (k + 1) [.s (li
 ((↑k : Int) + 1)), .o (Ob.arr true 1 (List.map byteC (liK r k) ++ [[Cell.lit (Value.int IntKind.u8 32)]] ++ List.map byteC (fmtY (r.literals.getD k default))))])))) (.d [.own true
 1, .rd] (P_c_iWSy (List.map byteC (liK r k)) (r.literals.getD k default)) (.r ((↑k : Int) + 1) (.g [0, 4] (k + 1) [.s (li ((↑k : Int) + 1)), .o (Ob.arr true 1 (List.map byteC (liK
 r k) ++ List.map byteC (fmtY (r.literals.getD k default))))]))))) (.o 0 [0, 1] [.o (Ob.arr true 1 (List.map byteC (liK r k)))])) (by
  intro k h; try dsimp only [teasy, nthW, lc_iFmRLa] at h ⊢
  have g1 := @ru_li r h.2.2.1 k
  have g2 := ru_len h.2.2.1
  have g3 := wR_eq r
  have g4 := liK_len h.2.2.1 h.2.2.2 k
  have g5 := @sumBy_mem _ wY r.literals (r.literals.getD k default)
  have g6 := @bY_le (r.literals.getD k default)
  have g7 := @liR_step r k
  have g8 := @liR_first r k
  have g9 := @liK_all r k
  have g10 := fmtY_len (r.literals.getD k default)
  with_reducible repeat' (first | apply And.intro | exact zR | (intro; skip) | apply c_iIsRules | apply c_iWSy)
  all_goals (try simp only [std, inj] at *)
  all_goals with_reducible repeat' apply And.intro
  all_goals (try (first | with_reducible apply c_iIsRules | with_reducible apply c_iWSy | (simp only [← List.map_append]; first | with_reducible apply c_iIsRules | with_reducible apply c_iWSy)))
  all_goals (try (first | exact z | grind [getD_mem', snocI, snocS, rowSnoc])))
theorem c_iFmR (r : Rules) (h : wR r ≤ 1048576)  : P_c_iFmR r := fnOK Tryz.call8 Tryz.func8 (.d [.rd] (P_c_iIsRules r) (.b (!isRul r) (.s (ls (ByteArray.mk #[]))) (.z syntaxC
 r.literals (.l (lc_iFmRLa r) (Sc_iFmRLa r h) [0, 1] [.s (li 0), .o (Ob.arr true 1 [[Cell.lit (Value.int IntKind.u8 40)], [Cell.lit (Value.int IntKind.u8 115)], [Cell.lit
 (Value.int IntKind.u8 121)], [Cell.lit (Value.int IntKind.u8 110)], [Cell.lit (Value.int IntKind.u8 116)], [Cell.lit (Value.int IntKind.u8 97)], [Cell.lit (Value.int IntKind.u8
 120)], [Cell.lit (Value.int IntKind.u8 45)], [Cell.lit (Value.int IntKind.u8 114)], [Cell.lit (Value.int IntKind.u8 117)], [Cell.lit (Value.int IntKind.u8 108)], [Cell.lit
 (Value.int IntKind.u8 101)], [Cell.lit (Value.int IntKind.u8 115)], [Cell.lit (Value.int IntKind.u8 32)], [Cell.lit (Value.int IntKind.u8 40)]])] 0 (.t (.p (((List.map byteC (liR
 r)).length + 1) * 1 ≤ 140737488355328) (.z syntaxC r.patterns (.l (lc_iFmRLb r) (Sc_iFmRLb r h) [0, 3] [.s (li 0), .o (Ob.arr true 1 (List.map byteC (liR r) ++ [[Cell.lit
 (Value.int IntKind.u8 41)]]))] 0 (.t (.p (((List.map byteC (foR r r.patterns.length)).length + 1) * 1 ≤ 140737488355328) (.w (.bytes (foR r r.patterns.length ++ [UInt8.ofNat
 (Int.toNat 41)])) (.p (List.map byteC (foR r r.patterns.length) ++ [[Cell.lit (Value.int IntKind.u8 41)]] = List.map byteC (foR r r.patterns.length ++ [UInt8.ofNat 41])) (.s (ls
 (ByteArray.mk (foR r r.patterns.length ++ [UInt8.ofNat 41]).toArray)))))) .q)))) .q))))) (by
  dsimp only [teasy, P_c_iFmR, nthW, lc_iFmRLa, lc_iFmRLb]
  have g1 := liK_0 r
  have g2 := foR_0 r
  have g3 := fmtRu_map r
  have g4 := fun hh => foR_len (r := r) hh h r.patterns.length (Nat.le_refl _)
  have g5 := fun hh => liK_len (r := r) hh h r.literals.length
  rw [liK_all r (Nat.le_refl _)] at g5
  with_reducible repeat' (first | apply And.intro | exact zR | (intro; skip) | apply c_iIsRules | apply c_iWSy)
  all_goals (try simp only [std, inj] at *)
  all_goals with_reducible repeat' apply And.intro
  all_goals (try (first | with_reducible apply c_iIsRules | with_reducible apply c_iWSy | (simp only [← List.map_append]; first | with_reducible apply c_iIsRules | with_reducible apply c_iWSy)))
  all_goals (try (first | exact z | grind [fmR, fmtRu, snocI, snocS, rowSnoc])))
end Go.Proofs.YtclpofblehlojaaGreatDoor
end
section
namespace Go.Proofs.YtclpofblehlojaaGreatDoor
open Go Go.Proofs.YtclpofblehlojaaGreatDoor.Ab
set_option linter.unusedVariables false
set_option linter.unusedSimpArgs false
set_option maxHeartbeats 4000000
abbrev P_c_szIntS (L : List Int) (left : Int) : Ct := ⟨102, [], [ll (L.map intC), li left], [], .sv (li (sz L.length left))⟩
theorem c_szIntS (L : List Int) (left : Int) (h0 : 0 ≤ left) (h : left ≤ 2147483647)  : P_c_szIntS L left := fnOK Tryz.call102 Tryz.func102 (.z intC L (.r (left - (↑(List.map intC
 L).length : Int)) (.i (left - (↑(List.map intC L).length : Int) < 0) (.s (li (-1 : Int))) (.s (li (left - (↑(List.map intC L).length : Int))))))) (by
  dsimp only [teasy, P_c_szIntS]
  with_reducible repeat' (first | apply And.intro | exact zR | (intro; skip))
  all_goals (try simp only [std, inj] at *)
  all_goals with_reducible repeat' apply And.intro
  all_goals (try (first | exact z | grind [sz, snocI, snocS, rowSnoc])))
abbrev P_c_szSyntaxS (L : List Syntax) (left : Int) : Ct := ⟨21, [], [ll (L.map syntaxC), li left], [], .sv (li (sz (L.length + sumBy wY L) left))⟩
abbrev P_c_szSyntax (x : Syntax) (left : Int) : Ct := ⟨51, [], [syntaxA x, li left], [], .sv (li (sz (wY x) left))⟩
def lc_szSyntaxSLa (L : List Syntax) (left : Int) : Lp (Nat × Int) := .mk 27 0 (fun x => [(0, ll (List.map syntaxC L)), (1, hs x 1), (5, hs x 0)]) (fun x => []) (fun k => [.s (li
 (↑k.fst : Int)), .s (li k.snd)]) (fun k => k.fst ≤ L.length ∧ L.length ≤ 9223372036854775807 ∧ 0 ≤ k.snd ∧ k.snd ≤ left ∧ sz (sumBy wY (List.drop k.fst L)) k.snd = sz (L.length +
 sumBy wY L) left) (fun k => L.length - k.fst) [.mk (0 ≤ sz (L.length + sumBy wY L) left) (.exit 0) (fun x => [(1, hs x 0)]) (fun x => []) [.s (li (sz (L.length + sumBy wY L)
 left))], .mk (sz (L.length + sumBy wY L) left = (-1 : Int)) .ret (fun x => [(4, hs x 0)]) (fun x => []) [.s (li (-1 : Int))]]
theorem Sc_szSyntaxSLa (L : List Syntax) (left : Int) (h0 : 0 ≤ left) (h : left ≤ 2147483647) (ih : ∀ (x : Syntax), x ∈ L → ∀ (left : Int), 0 ≤ left → left ≤ 2147483647 → OK
 (P_c_szSyntax x left)) : Lp.Sem Tryz.prog (loopAt Tryz.f21 0) (lc_szSyntaxSLa L left) := lpOK (fun k => .z syntaxC L (.i ((↑k.fst : Int) < (↑(List.map syntaxC L).length : Int))
 (.x (↑k.fst : Int) (List.map syntaxC L) (syntaxF (L.getD k.fst default)) (.d [.rd, .rd] (P_c_szSyntax (L.getD k.fst default) k.snd) (.i (sz (wY (L.getD k.fst default)) k.snd < 0)
 (.o 1 [] [.s (li (-1 : Int))]) (.r ((↑k.fst : Int) + 1) (.g [] (k.fst + 1, sz (wY (L.getD k.fst default)) k.snd) [.s (li ((↑k.fst : Int) + 1)), .s (li (sz (wY (L.getD k.fst
 default)) k.snd))]))))) (.o 0 [] [.s (li k.snd)]))) (by
  intro k h; try dsimp only [teasy, nthW, lc_szSyntaxSLa] at h ⊢
  obtain ⟨i, n⟩ := k
  simp only at *
  with_reducible repeat' (first | apply And.intro | exact zR | exact ih | (intro; skip) | apply ih)
  all_goals (try simp only [std, inj] at *)
  all_goals with_reducible repeat' apply And.intro
  all_goals (try (first | with_reducible apply ih | (simp only [← List.map_append]; first | with_reducible apply ih)))
  all_goals (try (first | exact z | grind [drop_get, sumBy, sz, getD_mem', snocI, snocS, rowSnoc])))
theorem c_szSyntaxS (L : List Syntax) (left : Int) (h0 : 0 ≤ left) (h : left ≤ 2147483647) (ih : ∀ x ∈ L, ∀ (left : Int) (h0 : 0 ≤ left) (h : left ≤ 2147483647), P_c_szSyntax x
 left)  : P_c_szSyntaxS L left := fnOK Tryz.call21 Tryz.func21 (.z syntaxC L (.r (left - (↑(List.map syntaxC L).length : Int)) (.i (left - (↑(List.map syntaxC L).length : Int) < 0)
 (.s (li (-1 : Int))) (.l (lc_szSyntaxSLa L left) (Sc_szSyntaxSLa L left h0 h ih) [] [.s (li 0), .s (li (left - (↑(List.map syntaxC L).length : Int)))] (0, left - (↑L.length :
 Int)) (.t (.s (li (sz (L.length + sumBy wY L) left))) (.t (.s (li (-1 : Int))) .q)))))) (by
  dsimp only [teasy, P_c_szSyntaxS, nthW, lc_szSyntaxSLa]
  with_reducible repeat' (first | apply And.intro | exact zR | exact ih | (intro; skip))
  all_goals (try simp only [std, inj] at *)
  all_goals with_reducible repeat' apply And.intro
  all_goals (try (first | with_reducible apply ih | (simp only [← List.map_append]; first | with_reducible apply ih)))
  all_goals (try (first | exact z | grind [sz, snocI, snocS, rowSnoc])))
theorem c_szSyntax_s (x : Syntax) (left : Int) (h0 : 0 ≤ left) (h : left ≤ 2147483647) (ih : ∀ z ∈ x.items, ∀ (left : Int) (h0 : 0 ≤ left) (h : left ≤ 2147483647), P_c_szSyntax z
 left)  : P_c_szSyntax x left := fnOK Tryz.call51 Tryz.func51 (.h (x.text.data.toList.length ≤ 9223372036854775807) (.r (left - (↑x.text.data.toList.length : Int)) (.i (left -
 (↑x.text.data.toList.length : Int) < 0) (.s (li (-1 : Int))) (.d [.rd, .rd] (P_c_szIntS x.scopes (left - (↑x.text.data.toList.length : Int))) (.i (sz x.scopes.length (left -
 (↑x.text.data.toList.length : Int)) < 0) (.s (li (-1 : Int))) (.d [.rd, .rd] (P_c_szSyntaxS x.items (sz x.scopes.length (left - (↑x.text.data.toList.length : Int)))) (.i (sz
 (x.items.length + sumBy wY x.items) (sz x.scopes.length (left - (↑x.text.data.toList.length : Int))) < 0) (.s (li (-1 : Int))) (.s (li (sz (x.items.length + sumBy wY x.items) (sz
 x.scopes.length (left - (↑x.text.data.toList.length : Int))))))))))))) (by
  dsimp only [teasy, P_c_szSyntax]
  with_reducible repeat' (first | apply And.intro | exact zR | exact ih | (intro; skip) | apply c_szIntS | apply c_szSyntaxS | apply ih)
  all_goals (try simp only [std, inj] at *)
  all_goals with_reducible repeat' apply And.intro
  all_goals (try (first | with_reducible apply c_szIntS | with_reducible apply c_szSyntaxS | with_reducible apply ih | (simp only [← List.map_append]; first | with_reducible apply c_szIntS | with_reducible apply c_szSyntaxS | with_reducible apply ih)))
  all_goals (try (first | exact z | grind [wY_eq, sz, wS, snocI, snocS, rowSnoc])))
theorem c_szSyntax (x : Syntax) : ∀ (left : Int) (h0 : 0 ≤ left) (h : left ≤ 2147483647), P_c_szSyntax x left := Syntax.ind (P := fun x => ∀ (left : Int) (h0 : 0 ≤ left) (h : left ≤ 2147483647), P_c_szSyntax x left) (fun x ih left h0 h => c_szSyntax_s x left h0 h ih) x
abbrev P_c_szRules (x : Rules) (left : Int) : Ct := ⟨5, [], [rulesA x, li left], [], .sv (li (sz (wR x) left))⟩
theorem c_szRules (x : Rules) (left : Int) (h0 : 0 ≤ left) (h : left ≤ 2147483647)  : P_c_szRules x left := fnOK Tryz.call5 Tryz.func5 (.d [.rd, .rd] (P_c_szSyntaxS x.literals left)
 (.i (sz (x.literals.length + sumBy wY x.literals) left < 0) (.s (li (-1 : Int))) (.d [.rd, .rd] (P_c_szSyntaxS x.patterns (sz (x.literals.length + sumBy wY x.literals) left)) (.i
 (sz (x.patterns.length + sumBy wY x.patterns) (sz (x.literals.length + sumBy wY x.literals) left) < 0) (.s (li (-1 : Int))) (.d [.rd, .rd] (P_c_szSyntaxS x.templates (sz
 (x.patterns.length + sumBy wY x.patterns) (sz (x.literals.length + sumBy wY x.literals) left))) (.i (sz (x.templates.length + sumBy wY x.templates) (sz (x.patterns.length + sumBy
 wY x.patterns) (sz (x.literals.length + sumBy wY x.literals) left)) < 0) (.s (li (-1 : Int))) (.s (li (sz (x.templates.length + sumBy wY x.templates) (sz (x.patterns.length +
 sumBy wY x.patterns) (sz (x.literals.length + sumBy wY x.literals) left))))))))))) (by
  dsimp only [teasy, P_c_szRules]
  with_reducible repeat' (first | apply And.intro | exact zR | (intro; skip) | apply c_szSyntaxS | apply c_szSyntax)
  all_goals (try simp only [std, inj] at *)
  all_goals with_reducible repeat' apply And.intro
  all_goals (try (first | with_reducible apply c_szSyntaxS | with_reducible apply c_szSyntax | (simp only [← List.map_append]; first | with_reducible apply c_szSyntaxS | with_reducible apply c_szSyntax)))
  all_goals (try (first | exact z | grind [wR_eq, sz, wS, snocI, snocS, rowSnoc])))
end Go.Proofs.YtclpofblehlojaaGreatDoor
end
section
namespace Go.Proofs.YtclpofblehlojaaGreatDoor
open Go Go.Proofs.YtclpofblehlojaaGreatDoor.Ab
set_option linter.unusedVariables false
set_option linter.unusedSimpArgs false
set_option maxHeartbeats 4000000
abbrev P_c_toIntS (L : List Int) : Ct := ⟨113, [], [ll (L.map intC)], [.arr true 1 (L.map intC)], .sv (.one (.ref 0))⟩
def lc_toIntSLa (L : List Int) : Lp Nat := .mk 22 0 (fun x => [(0, ll (List.map intC L)), (3, SV.one (AC.ref 0)), (4, hs x 0)]) (fun x => [ho x 1]) (fun k => [.s (li (↑k : Int)),
 .o (Ob.arr true 1 (List.map intC (fillTo L k)))]) (fun k => k ≤ L.length ∧ L.length ≤ 9223372036854775807) (fun k => L.length - k) [.mk True (.exit 0) (fun x => [(3, SV.one
 (AC.ref 0))]) (fun x => [ho x 0]) [.o (Ob.arr true 1 (List.map intC L))]]
theorem Sc_toIntSLa (L : List Int) (h : L.length ≤ 1048576) : Lp.Sem Tryz.prog (loopAt Tryz.f113 0) (lc_toIntSLa L) := lpOK (fun k => .z intC L (.i ((↑k : Int) < (↑(List.map intC
 L).length : Int)) (.x (↑k : Int) (List.map intC L) [cI (L.getD k 0)] (.p (0 ≤ (↑k : Int) ∧ (↑k : Int).toNat < (List.map intC (fillTo L k)).length) (.w (.cells (intC ((fillTo L
 k).getD (↑k : Int).toNat default))) (.p ((List.map intC (fillTo L k))[(↑k : Int).toNat]? = some [cI ((fillTo L k).getD (↑k : Int).toNat 0)]) (.r ((↑k : Int) + 1) (.g [0] (k + 1)
 [.s (li ((↑k : Int) + 1)), .o (Ob.arr true 1 ((List.map intC (fillTo L k)).set (↑k : Int).toNat [cI (L.getD k 0)]))])))))) (.o 0 [0] [.o (Ob.arr true 1 (List.map intC (fillTo L
 k)))]))) (by
  intro k h; try dsimp only [teasy, nthW, lc_toIntSLa] at h ⊢
  with_reducible repeat' (first | apply And.intro | exact zR | (intro; skip))
  all_goals (try simp only [std, inj] at *)
  all_goals with_reducible repeat' apply And.intro
  all_goals (try (first | exact z | exact zF | grind [fillTo_all, snocI, snocS, rowSnoc])))
theorem c_toIntS (L : List Int) (h : L.length ≤ 1048576)  : P_c_toIntS L := fnOK Tryz.call113 Tryz.func113 (.z intC L (.p (0 ≤ (↑(List.map intC L).length : Int) ∧ 8 * (↑(List.map
 intC L).length : Int).toNat ≤ 281474976710656) (.l (lc_toIntSLa L) (Sc_toIntSLa L h) [0] [.s (li 0), .o (Ob.arr true 1 (List.replicate (↑(List.map intC L).length : Int).toNat [cI
 0]))] 0 (.t (.f [0] [Ob.arr true 1 (List.map intC L)] (AV.sv (SV.one (AC.ref 0)))) .q)))) (by
  dsimp only [teasy, P_c_toIntS, nthW, lc_toIntSLa]
  with_reducible repeat' (first | apply And.intro | exact zR | (intro; skip))
  all_goals (try simp only [std, inj] at *)
  all_goals with_reducible repeat' apply And.intro
  all_goals (try (first | exact z | exact zF | grind [snocI, snocS, rowSnoc])))
abbrev P_c_toSyntaxS (L : List Syntax) : Ct := ⟨25, [], [ll (L.map syntaxC)], [.arr true 5 (L.map syntaxC)], .sv (.one (.ref 0))⟩
abbrev P_c_toSyntax (x : Syntax) : Ct := ⟨63, [], [syntaxA x], syntaxO x, .sv (syntaxR x 0)⟩
def lc_toSyntaxSLa (L : List Syntax) : Lp Nat := .mk 23 0 (fun x => [(0, ll (List.map syntaxC L)), (3, SV.one (AC.ref 0)), (4, hs x 0)]) (fun x => [ho x 1]) (fun k => [.s (li (↑k :
 Int)), .o (Ob.arr true 5 (List.map syntaxC (fillTo L k)))]) (fun k => k ≤ L.length ∧ L.length ≤ 9223372036854775807) (fun k => L.length - k) [.mk True (.exit 0) (fun x => [(3,
 SV.one (AC.ref 0))]) (fun x => [ho x 0]) [.o (Ob.arr true 5 (List.map syntaxC L))]]
theorem Sc_toSyntaxSLa (L : List Syntax) (h : L.length + sumBy wY L ≤ 1048576) (ih : ∀ (x : Syntax), x ∈ L → wY x ≤ 1048576 → OK (P_c_toSyntax x)) : Lp.Sem Tryz.prog (loopAt
 Tryz.f25 0) (lc_toSyntaxSLa L) := lpOK (fun k => .z syntaxC L (.i ((↑k : Int) < (↑(List.map syntaxC L).length : Int)) (.x (↑k : Int) (List.map syntaxC L) (syntaxF (L.getD k
 default)) (.d [.rd] (P_c_toSyntax (L.getD k default)) (.p (0 ≤ (↑k : Int) ∧ (↑k : Int).toNat < (List.map syntaxC (fillTo L k)).length) (.w (.cells (syntaxF ((fillTo L k).getD (↑k
 : Int).toNat default))) (.p ((List.map syntaxC (fillTo L k))[(↑k : Int).toNat]? = some (syntaxF ((fillTo L k).getD (↑k : Int).toNat default))) (.r ((↑k : Int) + 1) (.g [0] (k + 1)
 [.s (li ((↑k : Int) + 1)), .o (Ob.arr true 5 ((List.map syntaxC (fillTo L k)).set (↑k : Int).toNat (syntaxF (L.getD k default))))]))))))) (.o 0 [0] [.o (Ob.arr true 5 (List.map
 syntaxC (fillTo L k)))]))) (by
  intro k h; try dsimp only [teasy, nthW, lc_toSyntaxSLa] at h ⊢
  with_reducible repeat' (first | apply And.intro | exact zR | exact ih | (intro; skip) | apply ih)
  all_goals (try simp only [std, inj] at *)
  all_goals with_reducible repeat' apply And.intro
  all_goals (try (first | with_reducible apply ih | (simp only [← List.map_append]; first | with_reducible apply ih)))
  all_goals (try (first | exact z | exact zF | grind [fillTo_all, getD_mem', sumBy_mem, snocI, snocS, rowSnoc])))
theorem c_toSyntaxS (L : List Syntax) (h : L.length + sumBy wY L ≤ 1048576) (ih : ∀ x ∈ L, ∀ (h : wY x ≤ 1048576), P_c_toSyntax x)  : P_c_toSyntaxS L := fnOK Tryz.call25 Tryz.func25
 (.z syntaxC L (.p (0 ≤ (↑(List.map syntaxC L).length : Int) ∧ 80 * (↑(List.map syntaxC L).length : Int).toNat ≤ 281474976710656) (.l (lc_toSyntaxSLa L) (Sc_toSyntaxSLa L h ih) [0]
 [.s (li 0), .o (Ob.arr true 5 (List.replicate (↑(List.map syntaxC L).length : Int).toNat [cI 0, cI 0, cS (ByteArray.mk #[]), Cell.list [], Cell.list []]))] 0 (.t (.f [0] [Ob.arr
 true 5 (List.map syntaxC L)] (AV.sv (SV.one (AC.ref 0)))) .q)))) (by
  dsimp only [teasy, P_c_toSyntaxS, nthW, lc_toSyntaxSLa]
  with_reducible repeat' (first | apply And.intro | exact zR | exact ih | (intro; skip))
  all_goals (try simp only [std, inj] at *)
  all_goals with_reducible repeat' apply And.intro
  all_goals (try (first | with_reducible apply ih | (simp only [← List.map_append]; first | with_reducible apply ih)))
  all_goals (try (first | exact z | exact zF | grind [snocI, snocS, rowSnoc])))
theorem c_toSyntax_s (x : Syntax) (h : wY x ≤ 1048576) (ih : ∀ z ∈ x.items, ∀ (h : wY z ≤ 1048576), P_c_toSyntax z)  : P_c_toSyntax x := fnOK Tryz.call63 Tryz.func63 (.d [.rd]
 (P_c_toIntS x.scopes) (.d [.rd] (P_c_toSyntaxS x.items) (.f [3, 4] [Ob.arr true 1 (List.map intC x.scopes), Ob.arr true 5 (List.map syntaxC x.items)] (AV.sv (SV.agg [vI x.kind, vI
 x.number, vS x.text, AC.ref 0, AC.ref 1]))))) (by
  dsimp only [teasy, P_c_toSyntax]
  with_reducible repeat' (first | apply And.intro | exact zR | exact ih | (intro; skip) | apply c_toIntS | apply c_toSyntaxS | apply ih)
  all_goals (try simp only [std, inj] at *)
  all_goals with_reducible repeat' apply And.intro
  all_goals (try (first | with_reducible apply c_toIntS | with_reducible apply c_toSyntaxS | with_reducible apply ih | (simp only [← List.map_append]; first | with_reducible apply c_toIntS | with_reducible apply c_toSyntaxS | with_reducible apply ih)))
  all_goals (try (first | exact z | exact zF | grind [wY_eq, wS, snocI, snocS, rowSnoc])))
theorem c_toSyntax (x : Syntax) : ∀ (h : wY x ≤ 1048576), P_c_toSyntax x := Syntax.ind (P := fun x => ∀ (h : wY x ≤ 1048576), P_c_toSyntax x) (fun x ih h => c_toSyntax_s x h ih) x
abbrev P_c_toRules (x : Rules) : Ct := ⟨7, [], [rulesA x], rulesO x, .sv (rulesR x 0)⟩
theorem c_toRules (x : Rules) (h : wR x ≤ 1048576)  : P_c_toRules x := fnOK Tryz.call7 Tryz.func7 (.d [.rd] (P_c_toSyntaxS x.literals) (.d [.rd] (P_c_toSyntaxS x.patterns) (.d [.rd]
 (P_c_toSyntaxS x.templates) (.f [3, 4, 5] [Ob.arr true 5 (List.map syntaxC x.literals), Ob.arr true 5 (List.map syntaxC x.patterns), Ob.arr true 5 (List.map syntaxC x.templates)]
 (AV.sv (SV.agg [AC.ref 0, AC.ref 1, AC.ref 2])))))) (by
  dsimp only [teasy, P_c_toRules]
  with_reducible repeat' (first | apply And.intro | exact zR | (intro; skip) | apply c_toSyntaxS | apply c_toSyntax)
  all_goals (try simp only [std, inj] at *)
  all_goals with_reducible repeat' apply And.intro
  all_goals (try (first | with_reducible apply c_toSyntaxS | with_reducible apply c_toSyntax | (simp only [← List.map_append]; first | with_reducible apply c_toSyntaxS | with_reducible apply c_toSyntax)))
  all_goals (try (first | exact z | exact zF | grind [wR_eq, wS, snocI, snocS, rowSnoc])))
end Go.Proofs.YtclpofblehlojaaGreatDoor
end
section
namespace Go.Proofs.YtclpofblehlojaaGreatDoor
open Go Go.Proofs.YtclpofblehlojaaGreatDoor.Ab
set_option linter.unusedVariables false
set_option linter.unusedSimpArgs false
set_option maxHeartbeats 4000000
abbrev P_c_eqIntS (A : List Int) (B : List Int) : Ct := ⟨122, [], [ll (A.map intC), ll (B.map intC)], [], .sv (lb (decide (A = B)))⟩
def lc_eqIntSLa (A : List Int) (B : List Int) : Lp Nat := .mk 26 0 (fun x => [(0, ll (List.map intC A)), (1, ll (List.map intC B)), (5, hs x 0)]) (fun x => []) (fun k => [.s (li
 (↑k : Int))]) (fun k => k ≤ A.length ∧ A.length ≤ 9223372036854775807 ∧ A.length = B.length ∧ List.take k A = List.take k B) (fun k => A.length - k) [.mk (A = B) (.exit 0) (fun x
 => []) (fun x => []) [], .mk (A ≠ B) .ret (fun x => [(4, hs x 0)]) (fun x => []) [.s (lb false)]]
theorem Sc_eqIntSLa (A : List Int) (B : List Int) : Lp.Sem Tryz.prog (loopAt Tryz.f122 0) (lc_eqIntSLa A B) := lpOK (fun k => .z intC A (.i ((↑k : Int) < (↑(List.map intC A).length
 : Int)) (.w (.draw []) (.x (↑k : Int) (List.map intC A) [cI (A.getD k 0)] (.x (↑k : Int) (List.map intC B) [cI (B.getD k 0)] (.i (A.getD k (0 : Int) ≠ B.getD k 0) (.o 1 [] [.s (lb
 false)]) (.r ((↑k : Int) + 1) (.g [] (k + 1) [.s (li ((↑k : Int) + 1))])))))) (.o 0 [] []))) (by
  intro k h; try dsimp only [teasy, nthW, lc_eqIntSLa] at h ⊢
  with_reducible repeat' (first | apply And.intro | exact zR | (intro; skip))
  all_goals (try simp only [std, inj] at *)
  all_goals with_reducible repeat' apply And.intro
  all_goals (try (first | exact z | grind [take_eq, snocI, snocS, rowSnoc])))
theorem c_eqIntS (A B : List Int)  : P_c_eqIntS A B := fnOK Tryz.call122 Tryz.func122 (.z intC A (.z intC B (.i ((↑(List.map intC A).length : Int) ≠ (↑(List.map intC B).length :
 Int)) (.s (lb false)) (.l (lc_eqIntSLa A B) (Sc_eqIntSLa A B) [] [.s (li 0)] 0 (.t (.s (lb true)) (.t (.s (lb false)) .q)))))) (by
  dsimp only [teasy, P_c_eqIntS, nthW, lc_eqIntSLa]
  with_reducible repeat' (first | apply And.intro | exact zR | (intro; skip))
  all_goals (try simp only [std, inj] at *)
  all_goals with_reducible repeat' apply And.intro
  all_goals (try (first | exact z | grind [snocI, snocS, rowSnoc])))
abbrev P_c_eqSyntaxS (A : List Syntax) (B : List Syntax) : Ct := ⟨28, [], [ll (A.map syntaxC), ll (B.map syntaxC)], [], .sv (lb (decide (A = B)))⟩
abbrev P_c_eqSyntax (x : Syntax) (y : Syntax) : Ct := ⟨73, [], [syntaxA x, syntaxA y], [], .sv (lb (decide (x = y)))⟩
def lc_eqSyntaxSLa (A : List Syntax) (B : List Syntax) : Lp Nat := .mk 27 0 (fun x => [(0, ll (List.map syntaxC A)), (1, ll (List.map syntaxC B)), (5, hs x 0)]) (fun x => []) (fun
 k => [.s (li (↑k : Int))]) (fun k => k ≤ A.length ∧ A.length ≤ 9223372036854775807 ∧ A.length = B.length ∧ List.take k A = List.take k B) (fun k => A.length - k) [.mk (A = B)
 (.exit 0) (fun x => []) (fun x => []) [], .mk (A ≠ B) .ret (fun x => [(4, hs x 0)]) (fun x => []) [.s (lb false)]]
theorem Sc_eqSyntaxSLa (A : List Syntax) (B : List Syntax) (ih : ∀ (x : Syntax), x ∈ A → ∀ (y : Syntax), OK (P_c_eqSyntax x y)) : Lp.Sem Tryz.prog (loopAt Tryz.f28 0)
 (lc_eqSyntaxSLa A B) := lpOK (fun k => .z syntaxC A (.i ((↑k : Int) < (↑(List.map syntaxC A).length : Int)) (.w (.draw []) (.x (↑k : Int) (List.map syntaxC A) (syntaxF (A.getD k
 default)) (.x (↑k : Int) (List.map syntaxC B) (syntaxF (B.getD k default)) (.d [.rd, .rd] (P_c_eqSyntax (A.getD k default) (B.getD k default)) (.b (!decide (A.getD k default =
 B.getD k default)) (.o 1 [] [.s (lb false)]) (.r ((↑k : Int) + 1) (.g [] (k + 1) [.s (li ((↑k : Int) + 1))]))))))) (.o 0 [] []))) (by
  intro k h; try dsimp only [teasy, nthW, lc_eqSyntaxSLa] at h ⊢
  with_reducible repeat' (first | apply And.intro | exact zR | exact ih | (intro; skip) | apply ih)
  all_goals (try simp only [std, inj] at *)
  all_goals with_reducible repeat' apply And.intro
  all_goals (try (first | with_reducible apply ih | (simp only [← List.map_append]; first | with_reducible apply ih)))
  all_goals (try (first | exact z | grind [take_eq, getD_mem', snocI, snocS, rowSnoc])))
theorem c_eqSyntaxS (A B : List Syntax) (ih : ∀ x ∈ A, ∀ (y : Syntax), P_c_eqSyntax x y)  : P_c_eqSyntaxS A B := fnOK Tryz.call28 Tryz.func28 (.z syntaxC A (.z syntaxC B (.i
 ((↑(List.map syntaxC A).length : Int) ≠ (↑(List.map syntaxC B).length : Int)) (.s (lb false)) (.l (lc_eqSyntaxSLa A B) (Sc_eqSyntaxSLa A B ih) [] [.s (li 0)] 0 (.t (.s (lb true))
 (.t (.s (lb false)) .q)))))) (by
  dsimp only [teasy, P_c_eqSyntaxS, nthW, lc_eqSyntaxSLa]
  with_reducible repeat' (first | apply And.intro | exact zR | exact ih | (intro; skip))
  all_goals (try simp only [std, inj] at *)
  all_goals with_reducible repeat' apply And.intro
  all_goals (try (first | with_reducible apply ih | (simp only [← List.map_append]; first | with_reducible apply ih)))
  all_goals (try (first | exact z | grind [snocI, snocS, rowSnoc])))
theorem c_eqSyntax_s (x y : Syntax) (ih : ∀ z ∈ x.items, ∀ (y : Syntax), P_c_eqSyntax z y)  : P_c_eqSyntax x y := fnOK Tryz.call73 Tryz.func73 (.i (x.kind ≠ y.kind) (.s (lb false))
 (.i (x.number ≠ y.number) (.s (lb false)) (.i (x.text.data.toList ≠ y.text.data.toList) (.s (lb false)) (.c [.rd, .rd] (c_eqIntS x.scopes y.scopes) (.b (!decide (x.scopes =
 y.scopes)) (.s (lb false)) (.d [.rd, .rd] (P_c_eqSyntaxS x.items y.items) (.b (!decide (x.items = y.items)) (.s (lb false)) (.s (lb true))))))))) (by
  dsimp only [teasy, P_c_eqSyntax]
  simp only [syntaxExt]
  with_reducible repeat' (first | apply And.intro | exact zR | exact ih | (intro; skip) | apply c_eqIntS | apply c_eqSyntaxS | apply ih)
  all_goals (try simp only [std, inj] at *)
  all_goals with_reducible repeat' apply And.intro
  all_goals (try (first | with_reducible apply c_eqIntS | with_reducible apply c_eqSyntaxS | with_reducible apply ih | (simp only [← List.map_append]; first | with_reducible apply c_eqIntS | with_reducible apply c_eqSyntaxS | with_reducible apply ih)))
  all_goals (try (first | exact z | grind [bytes_ext, snocI, snocS, rowSnoc])))
theorem c_eqSyntax (x : Syntax) : ∀ (y : Syntax), P_c_eqSyntax x y := Syntax.ind (P := fun x => ∀ (y : Syntax), P_c_eqSyntax x y) (fun x ih y => c_eqSyntax_s x y ih) x
abbrev P_c_eqRules (x : Rules) (y : Rules) : Ct := ⟨9, [], [rulesA x, rulesA y], [], .sv (lb (decide (x = y)))⟩
theorem c_eqRules (x y : Rules)  : P_c_eqRules x y := fnOK Tryz.call9 Tryz.func9 (.d [.rd, .rd] (P_c_eqSyntaxS x.literals y.literals) (.b (!decide (x.literals = y.literals)) (.s (lb
 false)) (.d [.rd, .rd] (P_c_eqSyntaxS x.patterns y.patterns) (.b (!decide (x.patterns = y.patterns)) (.s (lb false)) (.d [.rd, .rd] (P_c_eqSyntaxS x.templates y.templates) (.b
 (!decide (x.templates = y.templates)) (.s (lb false)) (.s (lb true)))))))) (by
  dsimp only [teasy, P_c_eqRules]
  simp only [rulesExt]
  with_reducible repeat' (first | apply And.intro | exact zR | (intro; skip) | apply c_eqSyntaxS | apply c_eqSyntax)
  all_goals (try simp only [std, inj] at *)
  all_goals with_reducible repeat' apply And.intro
  all_goals (try (first | with_reducible apply c_eqSyntaxS | with_reducible apply c_eqSyntax | (simp only [← List.map_append]; first | with_reducible apply c_eqSyntaxS | with_reducible apply c_eqSyntax)))
  all_goals (try (first | exact z | grind [bytes_ext, snocI, snocS, rowSnoc])))
end Go.Proofs.YtclpofblehlojaaGreatDoor
end
section
namespace Go.Proofs.YtclpofblehlojaaGreatDoor
open Go Go.Proofs.YtclpofblehlojaaGreatDoor.Ab
set_option linter.unusedVariables false
set_option linter.unusedSimpArgs false
set_option maxHeartbeats 4000000
theorem itoS_size {S : List Int} (h : ∀ n ∈ S, 1 ≤ n ∧ n ≤ 99999) : sumBy ByteArray.size (S.map itoS) ≤ 20 * S.length := by
  induction S with
  | nil => simp [sumBy]
  | cons x r ih =>
    have h1 := itoa_small (h x List.mem_cons_self)
    have h2 := ih fun n hn => h n (List.mem_cons_of_mem _ hn)
    have h3 : (itoS x).size = (Lib.itoa x).length := rfl
    simp only [List.map_cons, sumBy, List.length_cons, h3]; omega
abbrev P_c_l2Sc (S : List Int) : Ct := ⟨62, [], [ll (S.map intC)], [], .sv (ls (mkS (scT S)))⟩
def lc_l2ScLa (S : List Int) : Lp Nat := .mk 26 0 (fun x => [(3, SV.one (AC.ref 0)), (10, ll (List.map intC S)), (11, li (↑(List.map intC S).length : Int)), (12, hs x 0)]) (fun x
 => [ho x 1]) (fun k => [.s (li (↑k : Int)), .o (Ob.arr true 1 (List.map strC (List.map itoS (List.take k S))))]) (fun k => k ≤ S.length ∧ S.length ≤ 9223372036854775807 ∧ (∀ (n :
 Int), n ∈ S → 1 ≤ n ∧ n ≤ 99999) ∧ S.length ≤ 2097152) (fun k => S.length - k) [.mk True (.exit 0) (fun x => [(3, SV.one (AC.ref 0))]) (fun x => [ho x 0]) [.o (Ob.arr true 1
 (List.map strC (List.map itoS S)))]]
theorem Sc_l2ScLa (S : List Int) (h : (∀ (n : Int), n ∈ S → 1 ≤ n ∧ n ≤ 99999) ∧ S.length ≤ 2097152) : Lp.Sem Tryz.prog (loopAt Tryz.f62 0) (lc_l2ScLa S) := lpOK (fun k => .i ((↑k
 : Int) < (↑(List.map intC S).length : Int)) (.x (↑k : Int) (List.map intC S) [cI (S.getD k 0)] (.d [.rd] (P_c_sNum (S.getD k 0)) (.p (((List.map strC (List.map itoS (List.take k
 S))).length + 1) * 16 ≤ 140737488355328) (.r ((↑k : Int) + 1) (.g [2] (k + 1) [.s (li ((↑k : Int) + 1)), .o (Ob.arr true 1 (List.map strC (List.map itoS (List.take k S)) ++ [[cS
 (mkS (Lib.itoa (S.getD k 0)))]]))]))))) (.o 0 [0] [.o (Ob.arr true 1 (List.map strC (List.map itoS (List.take k S))))])) (by
  intro k h; try dsimp only [teasy, nthW, lc_l2ScLa] at h ⊢
  have hh := ‹(∀ n ∈ S, 1 ≤ n ∧ n ≤ 99999) ∧ _›
  have mm : k < S.length → 1 ≤ S.getD k default ∧ S.getD k default ≤ 99999 := fun hk => hh.1 _ (getD_mem' (L := S) hk)
  with_reducible repeat' (first | apply And.intro | exact zR | (intro; skip) | apply c_sNum | apply c_l1Join)
  all_goals (try simp only [std, inj] at *)
  all_goals with_reducible repeat' apply And.intro
  all_goals (try (first | with_reducible apply c_sNum | with_reducible apply c_l1Join | (simp only [← List.map_append]; first | with_reducible apply c_sNum | with_reducible apply c_l1Join)))
  all_goals (try (first | exact z | grind [take_get, itoS, snocI, snocS, rowSnoc, getD_mem'])))
theorem c_l2Sc (S : List Int) (h : (∀ n ∈ S, 1 ≤ n ∧ n ≤ 99999) ∧ S.length ≤ 2097152)  : P_c_l2Sc S := fnOK Tryz.call62 Tryz.func62 (.z intC S (.i ((↑(List.map intC S).length : Int)
 = 0) (.s (ls (ByteArray.mk #[]))) (.w (.bool false) (.z intC S (.l (lc_l2ScLa S) (Sc_l2ScLa S h) [0] [.s (li 0), .o (Ob.arr true 1 [])] 0 (.t (.d [.rd, .rd] (P_c_l1Join (List.map
 itoS S) (ByteArray.mk #[(44 : UInt8)])) (.p (1 + (jn (tx (ByteArray.mk #[(44 : UInt8)])) (List.map itoS S)).length ≤ 9223372036854775807) (.p (([(123 : UInt8)] ++ jn (tx
 (ByteArray.mk #[(44 : UInt8)])) (List.map itoS S)).length + 1 ≤ 9223372036854775807) (.s (ls (ByteArray.mk ([(123 : UInt8)] ++ jn (tx (ByteArray.mk #[(44 : UInt8)])) (List.map
 itoS S) ++ [(125 : UInt8)]).toArray)))))) .q)))))) (by
  dsimp only [teasy, P_c_l2Sc, nthW, lc_l2ScLa]
  have g1 := itoS_size h.1
  have g2 := scT_len h.1
  with_reducible repeat' (first | apply And.intro | exact zR | (intro; skip) | apply c_sNum | apply c_l1Join)
  all_goals (try simp only [std, inj] at *)
  all_goals with_reducible repeat' apply And.intro
  all_goals (try (first | with_reducible apply c_sNum | with_reducible apply c_l1Join | (simp only [← List.map_append]; first | with_reducible apply c_sNum | with_reducible apply c_l1Join)))
  all_goals (try (first | exact z | grind [scT, snocI, snocS, rowSnoc])))
mutual
def datY : Syntax → Datum
  | ⟨k, n, t, s, l⟩ => ⟨k, n, t, datYs l⟩
def datYs : List Syntax → List Datum
  | [] => []
  | x :: r => datY x :: datYs r
end
theorem datYs_eq : ∀ l, datYs l = l.map datY
  | [] => by simp [datYs]
  | x :: r => by rw [datYs, datYs_eq r]; rfl
theorem datY_eq (x : Syntax) : datY x = ⟨x.kind, x.number, x.text, x.items.map datY⟩ := by cases x; simp only [datY, datYs_eq]
theorem datY_atom {x : Syntax} (h : x.items = []) : datY x = ⟨x.kind, x.number, x.text, []⟩ := by rw [datY_eq, h]; rfl
theorem datM_step {L : List Syntax} {k : Nat} (h : k < L.length) : List.map datumC (List.map datY (L.take k)) ++ [[cI (L.getD k default).kind, cI (L.getD k default).number, cS (L.getD k default).text, Cell.list (List.map datumC (List.map datY (L.getD k default).items))]] = List.map datumC (List.map datY (L.take (k + 1))) := by
  rw [take_get h, List.map_append, List.map_append]
  congr 1
  simp only [List.map_cons, List.map_nil, datumC_eq, datumF, datY_eq]
abbrev P_c_l2Dat (x : Syntax) : Ct := ⟨61, [], [syntaxA x], [.arr true 4 ((x.items.map datY).map datumC)], .sv (.agg [vI x.kind, vI x.number, vS x.text, .ref 0])⟩
def lc_l2Dat_sLa (x : Syntax) : Lp Nat := .mk 29 0 (fun x_1 => [(2, SV.one (AC.ptr 0 0)), (3, SV.one (AC.ptr 1 0)), (14, ll (List.map syntaxC x.items)), (15, li (↑(List.map syntaxC
 x.items).length : Int)), (16, hs x_1 0)]) (fun x_1 => [Ob.box [vI 0, vI 0, vS (ByteArray.mk #[]), AC.val (Cell.lit (Value.slice none 0 0))], Ob.box [vI x.kind, vI x.number, vS
 x.text, AC.ref 2], ho x_1 1]) (fun k => [.s (li (↑k : Int)), .o (Ob.arr true 4 (List.map datumC (List.map datY (List.take k x.items))))]) (fun k => k ≤ x.items.length ∧
 x.items.length ≤ 9223372036854775807 ∧ wY x ≤ 1000000000) (fun k => x.items.length - k) [.mk True (.exit 0) (fun x => [(2, SV.one (AC.ptr 0 0)), (3, SV.one (AC.ptr 1 0))]) (fun
 x_1 => [Ob.box [vI 0, vI 0, vS (ByteArray.mk #[]), AC.val (Cell.lit (Value.slice none 0 0))], Ob.box [vI x.kind, vI x.number, vS x.text, AC.ref 2], ho x_1 0]) [.o (Ob.arr true 4
 (List.map datumC (List.map datY x.items)))]]
theorem Sc_l2Dat_sLa (x : Syntax) (h : wY x ≤ 1000000000) (ih : ∀ (z : Syntax), z ∈ x.items → wY z ≤ 1000000000 → OK (P_c_l2Dat z)) : Lp.Sem Tryz.prog (loopAt Tryz.f61 0)
 (lc_l2Dat_sLa x) := lpOK (fun k => .i ((↑k : Int) < (↑(List.map syntaxC x.items).length : Int)) (.x (↑k : Int) (List.map syntaxC x.items) (syntaxF (x.items.getD k default)) (.w
 (.draw [(4, [4]), (5, [2, 12]), (7, [1])]) (.d [.rd] (P_c_l2Dat (x.items.getD k default)) (.p (((List.map datumC (List.map datY (List.take k x.items))).length + 1) * 56 ≤
 140737488355328) (.r ((↑k : Int) + 1) (.g [0, 1, 13] (k + 1) [.s (li ((↑k : Int) + 1)), .o (Ob.arr true 4 (List.map datumC (List.map datY (List.take k x.items)) ++ [[cI
 (x.items.getD k default).kind, cI (x.items.getD k default).number, cS (x.items.getD k default).text, Cell.list (List.map datumC (List.map datY (x.items.getD k
 default).items))]]))])))))) (.o 0 [0, 1, 2] [.o (Ob.arr true 4 (List.map datumC (List.map datY (List.take k x.items))))])) (by
  intro k h; try dsimp only [teasy, nthW, lc_l2Dat_sLa] at h ⊢
  have g1 := wY_eq x
  have g2 := @sumBy_mem _ wY x.items (x.items.getD k default)
  have g3 := @datM_step x.items k
  with_reducible repeat' (first | apply And.intro | exact zR | exact ih | (intro; skip) | apply ih)
  all_goals (try simp only [std, inj] at *)
  all_goals with_reducible repeat' apply And.intro
  all_goals (try (first | with_reducible apply ih | (simp only [← List.map_append]; first | with_reducible apply ih)))
  all_goals (try (first | exact z | grind [getD_mem', snocI, snocS, rowSnoc, getD_mem'])))
theorem c_l2Dat_s (x : Syntax) (h : wY x ≤ 1000000000) (ih : ∀ z ∈ x.items, ∀ (h : wY z ≤ 1000000000), P_c_l2Dat z)  : P_c_l2Dat x := fnOK Tryz.call61 Tryz.func61 (.z syntaxC x.items
 (.w (.ghost (.nilbox 2 3 true 4)) (.l (lc_l2Dat_sLa x) (Sc_l2Dat_sLa x h ih) [1, 2, 3] [.s (li 0), .o (Ob.arr true 4 [])] 0 (.t (.f [2] [Ob.arr true 4 (List.map datumC (List.map
 datY x.items))] (AV.sv (SV.agg [vI x.kind, vI x.number, vS x.text, AC.ref 0]))) .q)))) (by
  dsimp only [teasy, P_c_l2Dat, nthW, lc_l2Dat_sLa]
  with_reducible repeat' (first | apply And.intro | exact zR | exact ih | (intro; skip))
  all_goals (try simp only [std, inj] at *)
  all_goals with_reducible repeat' apply And.intro
  all_goals (try (first | with_reducible apply ih | (simp only [← List.map_append]; first | with_reducible apply ih)))
  all_goals (try (first | exact z | grind [snocI, snocS, rowSnoc])))
theorem c_l2Dat (x : Syntax) : ∀ (h : wY x ≤ 1000000000), P_c_l2Dat x := Syntax.ind (P := fun x => ∀ (h : wY x ≤ 1000000000), P_c_l2Dat x) (fun x ih h => c_l2Dat_s x h ih) x
theorem fyS_size (L : List Syntax) (h : ∀ y ∈ L, okY y = true) : sumBy ByteArray.size (L.map fyS) ≤ sumBy bY L := by
  induction L with
  | nil => simp [sumBy]
  | cons x r ih =>
    have h1 := ih fun y hy => h y (List.mem_cons_of_mem _ hy)
    have h2 := fmtY_len x (h x List.mem_cons_self)
    have h3 : (fyS x).size = (fmtY x).length := rfl
    simp only [List.map_cons, sumBy, h3]; omega
abbrev P_c_l2Fmt (x : Syntax) : Ct := ⟨23, [], [syntaxA x], [], .sv (ls (mkS (fmtY x)))⟩
def lc_l2Fmt_sLa (x : Syntax) : Lp Nat := .mk 34 0 (fun x_1 => [(3, SV.one (AC.ref 0)), (18, ll (List.map syntaxC x.items)), (19, li (↑(List.map syntaxC x.items).length : Int)),
 (20, hs x_1 0)]) (fun x => [ho x 1]) (fun k => [.s (li (↑k : Int)), .o (Ob.arr true 1 (List.map strC (List.map fyS (List.take k x.items))))]) (fun k => k ≤ x.items.length ∧
 x.items.length ≤ 9223372036854775807 ∧ okY x = true ∧ wY x ≤ 2097152) (fun k => x.items.length - k) [.mk True (.exit 0) (fun x => [(3, SV.one (AC.ref 0))]) (fun x => [ho x 0]) [.o
 (Ob.arr true 1 (List.map strC (List.map fyS x.items)))]]
theorem Sc_l2Fmt_sLa (x : Syntax) (h : okY x = true ∧ wY x ≤ 2097152) (ih : ∀ (z : Syntax), z ∈ x.items → okY z = true ∧ wY z ≤ 2097152 → OK (P_c_l2Fmt z)) : Lp.Sem Tryz.prog
 (loopAt Tryz.f23 0) (lc_l2Fmt_sLa x) := lpOK (fun k => .i ((↑k : Int) < (↑(List.map syntaxC x.items).length : Int)) (.x (↑k : Int) (List.map syntaxC x.items) (syntaxF
 (x.items.getD k default)) (.d [.rd] (P_c_l2Fmt (x.items.getD k default)) (.p (((List.map strC (List.map fyS (List.take k x.items))).length + 1) * 16 ≤ 140737488355328) (.r ((↑k :
 Int) + 1) (.g [3] (k + 1) [.s (li ((↑k : Int) + 1)), .o (Ob.arr true 1 (List.map strC (List.map fyS (List.take k x.items)) ++ [[cS (mkS (fmtY (x.items.getD k default)))]]))])))))
 (.o 0 [0] [.o (Ob.arr true 1 (List.map strC (List.map fyS (List.take k x.items))))])) (by
  intro k h; try dsimp only [teasy, nthW, lc_l2Fmt_sLa] at h ⊢
  have g1 := @okY_it x
  have g2 := wY_eq x
  have g3 := @sumBy_mem _ wY x.items (x.items.getD k default)
  with_reducible repeat' (first | apply And.intro | exact zR | exact ih | (intro; skip) | apply c_l2Dat | apply c_l2Sc | apply c_sFmt | apply c_l1Join | apply ih)
  all_goals (try simp only [std, inj] at *)
  all_goals with_reducible repeat' apply And.intro
  all_goals (try (first | with_reducible apply c_l2Dat | with_reducible apply c_l2Sc | with_reducible apply c_sFmt | with_reducible apply c_l1Join | with_reducible apply ih | (simp only [← List.map_append]; first | with_reducible apply c_l2Dat | with_reducible apply c_l2Sc | with_reducible apply c_sFmt | with_reducible apply c_l1Join | with_reducible apply ih)))
  all_goals (try (first | exact z | grind [take_get, fyS, getD_mem', snocI, snocS, rowSnoc, getD_mem'])))
theorem c_l2Fmt_s (x : Syntax) (h : okY x = true ∧ wY x ≤ 2097152) (ih : ∀ z ∈ x.items, ∀ (h : okY z = true ∧ wY z ≤ 2097152), P_c_l2Fmt z)  : P_c_l2Fmt x := fnOK Tryz.call23
 Tryz.func23 (.i (x.kind ≠ 0) (.w (.draw []) (.d [.rd] (P_c_l2Dat x) (.d [.rd] (P_c_sFmt (Datum.mk x.kind x.number x.text (List.map datY x.items))) (.d [.rd] (P_c_l2Sc x.scopes) (.p
 ((fmtD (Datum.mk x.kind x.number x.text (List.map datY x.items))).length + (scT x.scopes).length ≤ 9223372036854775807) (.s (ls (ByteArray.mk (fmtD (Datum.mk x.kind x.number
 x.text (List.map datY x.items)) ++ scT x.scopes).toArray)))))))) (.w (.bool false) (.z syntaxC x.items (.l (lc_l2Fmt_sLa x) (Sc_l2Fmt_sLa x h ih) [1] [.s (li 0), .o (Ob.arr true 1
 [])] 0 (.t (.d [.rd, .rd] (P_c_l1Join (List.map fyS x.items) (ByteArray.mk #[(32 : UInt8)])) (.p (1 + (jn (tx (ByteArray.mk #[(32 : UInt8)])) (List.map fyS x.items)).length ≤
 9223372036854775807) (.p (([(40 : UInt8)] ++ jn (tx (ByteArray.mk #[(32 : UInt8)])) (List.map fyS x.items)).length + 1 ≤ 9223372036854775807) (.s (ls (ByteArray.mk ([(40 : UInt8)]
 ++ jn (tx (ByteArray.mk #[(32 : UInt8)])) (List.map fyS x.items) ++ [(41 : UInt8)]).toArray)))))) .q))))) (by
  dsimp only [teasy, P_c_l2Fmt, nthW, lc_l2Fmt_sLa]
  have g1 := @okY_it x
  have g2 := wY_eq x
  have g3 := @fyS_size x.items
  have g4 := bY_sum x.items
  have g5 := fmtY_eq x
  have g6 := @nodY_atom x
  have g7 := @okY_sc x
  have g8 := fmtY_len x
  have g9 := @datY_atom x
  have g10 : sizeD ⟨x.kind, x.number, x.text, []⟩ = 1 := by rw [sizeD_eq]; rfl
  have g11 := fmtD_len ⟨x.kind, x.number, x.text, []⟩
  with_reducible repeat' (first | apply And.intro | exact zR | exact ih | (intro; skip) | apply c_l2Dat | apply c_l2Sc | apply c_sFmt | apply c_l1Join)
  all_goals (try simp only [std, inj] at *)
  all_goals with_reducible repeat' apply And.intro
  all_goals (try (first | with_reducible apply c_l2Dat | with_reducible apply c_l2Sc | with_reducible apply c_sFmt | with_reducible apply c_l1Join | with_reducible apply ih | (simp only [← List.map_append]; first | with_reducible apply c_l2Dat | with_reducible apply c_l2Sc | with_reducible apply c_sFmt | with_reducible apply c_l1Join | with_reducible apply ih)))
  all_goals (try (first | exact z | grind [fyJ, bY, snocI, snocS, rowSnoc])))
theorem c_l2Fmt (x : Syntax) : ∀ (h : okY x = true ∧ wY x ≤ 2097152), P_c_l2Fmt x := Syntax.ind (P := fun x => ∀ (h : okY x = true ∧ wY x ≤ 2097152), P_c_l2Fmt x) (fun x ih h => c_l2Fmt_s x h ih) x
def srT : List UInt8 := [115, 121, 110, 116, 97, 120, 45, 114, 117, 108, 101, 115]
def litY (r : Rules) : Syntax := ⟨0, 0, mkS [], [], r.literals⟩
def cpX (p t : Syntax) : ByteArray := mkS ([40] ++ (fmtY p ++ ([32] ++ (fmtY t ++ [41]))))
def paS (r : Rules) (k : Nat) : List ByteArray := [mkS srT, mkS (fmtY (litY r))] ++ (List.range k).map fun j => cpX (r.patterns.getD j default) (r.templates.getD j default)
theorem paS_len (r : Rules) (k : Nat) : (paS r k).length = k + 2 := by simp [paS]
theorem paS_step (r : Rules) (k : Nat) : paS r (k + 1) = paS r k ++ [cpX (r.patterns.getD k default) (r.templates.getD k default)] := by
  unfold paS; rw [List.range_succ, List.map_append, ← List.append_assoc]; rfl
theorem litY_ok {r : Rules} (h : isRul r = true) : okY (litY r) = true := by
  rw [okY_eq, Bool.and_eq_true, List.all_eq_true]
  refine ⟨fun y hy => ?_, by simp [litY, nodY0, nodD, okSc, okScN, mkS]⟩
  have hy' : y ∈ r.literals := hy
  obtain ⟨j, hj, e⟩ := List.getElem_of_mem hy'
  have := ru_li h hj
  have e2 : r.literals.getD j default = y := by simp [hj, e]
  rw [e2] at this; exact this
theorem litY_w (r : Rules) : wY (litY r) ≤ wR r + 100 := by
  have h1 := wY_eq (litY r)
  have h2 := wR_eq r
  have h3 : (litY r).text.size = 0 := rfl
  have h4 : (litY r).scopes = [] := rfl
  have h5 : (litY r).items = r.literals := rfl
  rw [h3, h4, h5] at h1
  simp only [List.length_nil] at h1
  omega
theorem litY_fmt (r : Rules) : fmtY (litY r) = [40] ++ (fyJ r.literals ++ [41]) := by rw [fmtY_eq]; rfl
theorem jn_paS (r : Rules) : ∀ k, jn [32] (paS r k) = srT ++ ([32] ++ ([40] ++ (fyJ r.literals ++ [41]))) ++ clsX r k
  | 0 => by simp [paS, jn, clsX, litY_fmt, mkS]
  | k + 1 => by
    rw [paS_step, jn_snoc, if_neg (by intro e; have := congrArg List.length e; rw [paS_len, List.length_nil] at this; omega), jn_paS r k, clsX_step]
    simp only [cpX, clX, tx_mkS, List.append_assoc, List.cons_append, List.nil_append]
theorem fmtRu_jn (r : Rules) : fmtRu r = [40] ++ (jn [32] (paS r r.patterns.length) ++ [41]) := by
  rw [jn_paS]; unfold fmtRu; rw [foR_eq, liR_eq]; unfold hdR srT
  simp only [List.append_assoc, List.cons_append, List.nil_append]
theorem paS_size {r : Rules} (h : isRul r = true) (hw : wR r ≤ 1048576) : ∀ k, k ≤ r.patterns.length → sumBy ByteArray.size (paS r k) ≤ 200000000 + k * 125829300
  | 0, _ => by
    have h1 := fmtY_len _ (litY_ok h)
    have h2 := litY_w r
    have h3 : (mkS (fmtY (litY r))).size = (fmtY (litY r)).length := rfl
    have h4 : (mkS srT).size = 12 := rfl
    unfold bY at h1
    simp only [paS, List.range_zero, List.map_nil, List.append_nil, sumBy, h3, h4]; omega
  | k + 1, hk => by
    have ih := paS_size h hw k (by omega)
    have h1 := ru_pt h (k := k) hk
    have h2 := fmtY_len _ h1.1
    have h3 := fmtY_len _ h1.2
    have g7 := wR_eq r
    have l := ru_len h
    have h4 := bY_le (x := r.patterns.getD k default) (by have := @sumBy_mem _ wY r.patterns _ (getD_mem' (L := r.patterns) hk); omega)
    have h5 := bY_le (x := r.templates.getD k default) (by have := @sumBy_mem _ wY r.templates _ (getD_mem' (L := r.templates) (k := k) (by omega)); omega)
    rw [paS_step, sumBy_append]
    simp only [sumBy, cpX, size_mkS, List.length_append, List.length_cons, List.length_nil]
    omega
abbrev P_c_sFmR (r : Rules) : Ct := ⟨6, [], [rulesA r], [], .sv (ls (mkS (fmR r)))⟩
def lc_sFmRLa (r : Rules) : Lp Nat := .mk 43 0 (fun x => [(1, SV.one (AC.ptr 0 0)), (3, SV.one (AC.ref 1)), (15, li (↑(List.map syntaxC r.patterns).length : Int)), (16, hs x 0)])
 (fun x => [Ob.box (vals (rulesF r)), ho x 1]) (fun k => [.s (li (↑k : Int)), .o (Ob.arr true 1 (List.map strC (paS r k)))]) (fun k => k ≤ r.patterns.length ∧ r.patterns.length ≤
 9223372036854775807 ∧ isRul r = true ∧ wR r ≤ 1048576) (fun k => r.patterns.length - k) [.mk True (.exit 0) (fun x => [(3, SV.one (AC.ref 0))]) (fun x => [ho x 0]) [.o (Ob.arr
 true 1 (List.map strC (paS r r.patterns.length)))]]
theorem Sc_sFmRLa (r : Rules) (h : wR r ≤ 1048576) : Lp.Sem Tryz.prog (loopAt Tryz.f6 0) (lc_sFmRLa r) := lpOK (fun k => .i ((↑k : Int) < (↑(List.map syntaxC r.patterns).length :
 Int)) (.w (.draw [(18, [1, 18])]) (.x (↑k : Int) (List.map syntaxC r.patterns) (syntaxF (r.patterns.getD k default)) (.d [.rd] (P_c_l2Fmt (r.patterns.getD k default)) (.p (1 +
 (fmtY (r.patterns.getD k default)).length ≤ 9223372036854775807) (.p (([(40 : UInt8)] ++ fmtY (r.patterns.getD k default)).length + 1 ≤ 9223372036854775807) (.x (↑k : Int)
 (List.map syntaxC r.templates) (syntaxF (r.templates.getD k default)) (.d [.rd] (P_c_l2Fmt (r.templates.getD k default)) (.p (([(40 : UInt8)] ++ fmtY (r.patterns.getD k default)
 ++ [(32 : UInt8)]).length + (fmtY (r.templates.getD k default)).length ≤ 9223372036854775807) (.p (([(40 : UInt8)] ++ fmtY (r.patterns.getD k default) ++ [(32 : UInt8)] ++ fmtY
 (r.templates.getD k default)).length + 1 ≤ 9223372036854775807) (.p (((List.map strC (paS r k)).length + 1) * 16 ≤ 140737488355328) (.r ((↑k : Int) + 1) (.g [0, 19] (k + 1) [.s
 (li ((↑k : Int) + 1)), .o (Ob.arr true 1 (List.map strC (paS r k) ++ [[cS (ByteArray.mk ([(40 : UInt8)] ++ fmtY (r.patterns.getD k default) ++ [(32 : UInt8)] ++ fmtY
 (r.templates.getD k default) ++ [(41 : UInt8)]).toArray)]]))])))))))))))) (.o 0 [1] [.o (Ob.arr true 1 (List.map strC (paS r k)))])) (by
  intro k h; try dsimp only [teasy, nthW, lc_sFmRLa] at h ⊢
  have g1 := @ru_pt r
  have g2 := ru_len h.2.2.1
  have g5 := @sumBy_mem _ wY r.patterns (r.patterns.getD k default)
  have g6 := @sumBy_mem _ wY r.templates (r.templates.getD k default)
  have g7 := @bY_le (r.patterns.getD k default)
  have g8 := @bY_le (r.templates.getD k default)
  have g9 := fmtY_len (r.patterns.getD k default)
  have g10 := paS_step r k
  have g11 := fmtY_len (r.templates.getD k default)
  have g12 := paS_len r k
  have g3 := wR_eq r
  with_reducible repeat' (first | apply And.intro | exact zR | (intro; skip) | apply c_sIsRules | apply c_l2Fmt | apply c_l1Join)
  all_goals (try simp only [std, inj] at *)
  all_goals with_reducible repeat' apply And.intro
  all_goals (try (first | with_reducible apply c_sIsRules | with_reducible apply c_l2Fmt | with_reducible apply c_l1Join | (simp only [← List.map_append]; first | with_reducible apply c_sIsRules | with_reducible apply c_l2Fmt | with_reducible apply c_l1Join)))
  all_goals (try (first | exact z | grind [getD_mem', cpX, snocI, snocS, rowSnoc])))
theorem c_sFmR (r : Rules) (h : wR r ≤ 1048576)  : P_c_sFmR r := fnOK Tryz.call6 Tryz.func6 (.d [.rd] (P_c_sIsRules r) (.b (!isRul r) (.s (ls (ByteArray.mk #[]))) (.d [.rd]
 (P_c_l2Fmt (Syntax.mk 0 0 (ByteArray.mk #[]) [] r.literals)) (.z syntaxC r.patterns (.l (lc_sFmRLa r) (Sc_sFmRLa r h) [0, 1] [.s (li 0), .o (Ob.arr true 1 [[cS (ByteArray.mk
 #[(115 : UInt8), (121 : UInt8), (110 : UInt8), (116 : UInt8), (97 : UInt8), (120 : UInt8), (45 : UInt8), (114 : UInt8), (117 : UInt8), (108 : UInt8), (101 : UInt8), (115 :
 UInt8)])], [cS (mkS (fmtY (Syntax.mk 0 0 (ByteArray.mk #[]) [] r.literals)))]])] 0 (.t (.d [.rd, .rd] (P_c_l1Join (paS r r.patterns.length) (ByteArray.mk #[(32 : UInt8)])) (.p (1
 + (jn (tx (ByteArray.mk #[(32 : UInt8)])) (paS r r.patterns.length)).length ≤ 9223372036854775807) (.p (([(40 : UInt8)] ++ jn (tx (ByteArray.mk #[(32 : UInt8)])) (paS r
 r.patterns.length)).length + 1 ≤ 9223372036854775807) (.s (ls (ByteArray.mk ([(40 : UInt8)] ++ jn (tx (ByteArray.mk #[(32 : UInt8)])) (paS r r.patterns.length) ++ [(41 :
 UInt8)]).toArray)))))) .q)))))) (by
  dsimp only [teasy, P_c_sFmR, nthW, lc_sFmRLa]
  have g1 : isRul r = true → okY ⟨0, 0, mkS [], [], r.literals⟩ = true := litY_ok
  have g2 : wY ⟨0, 0, mkS [], [], r.literals⟩ ≤ wR r + 100 := litY_w r
  have g7 : [[cS (mkS [115, 121, 110, 116, 97, 120, 45, 114, 117, 108, 101, 115])], [cS (mkS (fmtY ⟨0, 0, mkS [], [], r.literals⟩))]] = List.map strC (paS r 0) := rfl
  have g3 := fmtRu_jn r
  have g4 := fun hh => paS_size (r := r) hh h r.patterns.length (Nat.le_refl _)
  have g5 := paS_len r r.patterns.length
  have g6 := @ru_len r
  have g8 := jn_len' [32] (paS r r.patterns.length)
  rw [show [(32 : UInt8)].length = 1 from rfl] at g8
  with_reducible repeat' (first | apply And.intro | exact zR | (intro; skip) | apply c_sIsRules | apply c_l2Fmt | apply c_l1Join)
  all_goals (try simp only [std, inj] at *)
  all_goals with_reducible repeat' apply And.intro
  all_goals (try (first | with_reducible apply c_sIsRules | with_reducible apply c_l2Fmt | with_reducible apply c_l1Join | (simp only [← List.map_append]; first | with_reducible apply c_sIsRules | with_reducible apply c_l2Fmt | with_reducible apply c_l1Join)))
  all_goals (try (first | exact z | grind [fmR, snocI, snocS, rowSnoc])))
abbrev P_c_LFmR (a : Rules) : Ct := ⟨3, [], [rulesA a], [], .sv (lb true)⟩
theorem c_LFmR (a : Rules)  : P_c_LFmR a := fnOK Tryz.call3 Tryz.func3 (.d [.rd, .rd] (P_c_szRules a 1048576) (.i (sz (wR a) (1048576 : Int) < 0) (.s (lb true)) (.d [.rd]
 (P_c_toRules a) (.d [.rd] (P_c_sFmR a) (.d [.rd] (P_c_toRules a) (.d [.rd] (P_c_iFmR a) (.i (fmR a ≠ fmR a) (.s (lb false)) (.w (.draw []) (.d [.rd] (P_c_toRules a) (.c [.rd, .rd]
 (c_eqRules a a) (.b (!decide (a = a)) (.s (lb false)) (.s (lb true))))))))))))) (by
  dsimp only [teasy, P_c_LFmR]
  with_reducible repeat' (first | apply And.intro | exact zR | (intro; skip) | apply c_szRules | apply c_toRules | apply c_sFmR | apply c_iFmR)
  all_goals (try simp only [std, inj] at *)
  all_goals with_reducible repeat' apply And.intro
  all_goals (try (first | with_reducible apply c_szRules | with_reducible apply c_toRules | with_reducible apply c_sFmR | with_reducible apply c_iFmR | (simp only [← List.map_append]; first | with_reducible apply c_szRules | with_reducible apply c_toRules | with_reducible apply c_sFmR | with_reducible apply c_iFmR)))
  all_goals (try (first | exact z | grind [sz, snocI, snocS, rowSnoc])))
end Go.Proofs.YtclpofblehlojaaGreatDoor
end
section
namespace Go.Proofs.YtclpofblehlojaaGreatDoor.fnExactFormatRules
open Go Go.ChangeShapes Go.WideShapes Go.ChangeAt Go.RowKit Go.Proofs.YtclpofblehlojaaGreatDoor.Ab
set_option linter.unusedVariables false
theorem own : ownKnob Tryz.prog.godebug = none := by kernel_rfl
theorem laidO : laidOutB Tryz.prog = true := by kernel_rfl
theorem rowed : mapsRowed Tryz.prog = true := by kernel_rfl
theorem sized : ((List.range Tryz.prog.types.size).all fun t => match Tryz.prog.underlying t with | some (.slice e) => decide (0 < Tryz.prog.cellsOf e) | _ => true) = true := by kernel_rfl
theorem gTab : Tryz.prog.globalNamed pow10N = some 0 := by kernel_rfl
theorem gTabType : (Tryz.prog.globals[0]?).map (·.type) = some 254 := by kernel_rfl
theorem cellsE : Tryz.prog.cellsOf 210 = 1 := by kernel_rfl
theorem cellsT : Tryz.prog.cellsOf 254 = 20 := by kernel_rfl
theorem rowTab : Rows.fnExactFormatRulesRow.laid.drop 2 = (pow10N, Lib.tabData .u64 Lib.pow10Tab) :: Rows.fnExactFormatRulesRow.laid.drop 3 := by kernel_rfl
theorem laid_drop {W : Go.World} : ∀ (k : Nat) (l : List (String × DataW PUnit.{1})), laidMet Tryz.prog l W → laidMet Tryz.prog (l.drop k) W
  | 0, _, h => h
  | k + 1, [], h => h
  | k + 1, _ :: r, h => laid_drop k r (laidMet.tail h)
theorem tab {W : Go.World} (h : laidMetH Tryz.prog Rows.fnExactFormatRulesRow.laid W) : Lib.TabIs Tryz.prog W pow10N .u64 Lib.pow10Tab := by
  have h1 : laidMet Tryz.prog Rows.fnExactFormatRulesRow.laid W := h
  have h2 := laid_drop 2 _ h1
  rw [rowTab] at h2
  exact Lib.tabIs_of_head gTab gTabType Tryz.underlying254 Tryz.underlying210 cellsE cellsT h2
theorem known {W : Go.World} (h : laidMetH Tryz.prog Rows.fnExactFormatRulesRow.laid W) : Kn Tryz.prog W (allI W) := by
  have lt : ∀ {n : String} {g : Nat} {cs : Array Value}, Tryz.prog.globalNamed n = some g → W.var? Tryz.prog n = some cs → g < W.heap.size := fun {n g cs} hg hv => by
    rcases Nat.lt_or_ge g W.heap.size with e | e
    · exact e
    · unfold World.var? at hv; rw [hg, Option.bind_some, Array.getElem?_eq_none e] at hv; cases hv
  exact ⟨fun g hg => ⟨lt hg (tab h), fun _ hb => hb, _, tab h, rfl⟩, fun e => absurd e (by decide)⟩
set_option maxRecDepth 100000 in
theorem contract (H : Type) (enc : TypeId × Value → H) (W : Go.World) (base : Nat) (args : Array Value) (ds gs : List (DataW H)) (before : List MemPlace)
    (hval0 : ∀ (j : Nat) t v, Tryz.f3.params[j]? = some t → args[j]? = some v → Value.okWide Tryz.prog W .any base t v)
    (hW : DataW.Whole enc Tryz.prog Tryz.f3.params.toList Rows.fnExactFormatRulesSpec.vars false W args.toList ds gs before) (hL : laidMetH Tryz.prog Rows.fnExactFormatRulesRow.laid W) :
    Calls Tryz.prog 3 args W fun e W' => ∃ v, e = .returned v ∧ Rows.fnExactFormatRulesSpec.post enc Tryz.prog Tryz.f3 false true false false W args v W' := by
  have hval : ∀ (j : Nat) t v, Tryz.f3.params[j]? = some t → args[j]? = some v → Value.okWide Tryz.prog W .any base t v := hval0
  have hW' := hW
  obtain ⟨p, q, hA0, hV, rfl, hfz, hnd⟩ := hW
  obtain ⟨rfl, rfl⟩ := trodVars_none hV
  have hA : DataW.TrodAll enc Tryz.prog W 0 (fun _ => true) true Tryz.f3.params.toList args.toList ds p := hA0
  rw [Tryz.params3] at hA hval
  have hA2 := hA
  clear hA0 hval0
  obtain ⟨v0, vs0, d0, ds0, p0, q0, hargs0, rfl, rfl, h0, r0⟩ := trodAll_cons hA
  obtain ⟨rfl, rfl, rfl⟩ := trodAll_nil r0
  obtain rfl : args = #[v0] := by cases args; simp_all
  obtain ⟨a0, c0⟩ := (let ⟨fuel, hf⟩ := h0; rd_rules fuel _ _ hf)
  have s0 : SVRel W (allI W) (obOf []) (rulesA a0) v0 := agg_rel (let ⟨cs, h, _⟩ := okWide_struct Tryz.underlying24 (hval 0 24 v0 rfl rfl); ⟨cs, h⟩) c0
  refine (CallOK.kept (w := W) (vals := #[v0]) (c_LFmR a0) (known hL) ⟨s0, trivial⟩).mono fun e W' ⟨he, hg, _⟩ => ?_
  subst he
  exact ⟨_, rfl, post_of_kept (pv := []) hW' (fun _ _ _ => (trodAll_cons_mk (shut_bool Tryz.underlying4 _) trodAll_mk0))
    (fun sp hsp => trodAll_kept laidO rowed sized hg (by decide +kernel) hA2 fun y hy => hsp y (by simpa using hy)) (fun _ _ => rfl) rfl
    hg (ok_one (by kernel_rfl) rfl (okWide_bool_mk Tryz.underlying4 _))⟩
def litsV : DataW PUnit.{1} → Array Value
  | .agg l => (l.map fun x => match x with | .lit (.int k n) => Value.int k n | _ => .bool false).toArray
  | _ => #[]
noncomputable def laidWorld (os : Os) : Go.World :=
  { World.holding Tryz.prog os ⟨#[], #[], []⟩ with heap := ((((World.holding Tryz.prog os ⟨#[], #[], []⟩).heap.modify 3 fun | .cells _ t z => .cells (litsV Rows.laid_math_bits_deBruijn32tab) t z | o => o).modify 4 fun | .cells _ t z => .cells (litsV Rows.laid_math_bits_deBruijn64tab) t z | o => o).modify 0 fun | .cells _ t z => .cells (litsV Rows.laid_internal_strconv_uint64pow10) t z | o => o) }
abbrev arg0 : Array Value := #[.agg #[.slice none 0 0, .slice none 0 0, .slice none 0 0]]
theorem laid_met (os : Os) : laidMet Tryz.prog Rows.fnExactFormatRulesRow.laid ((laidWorld os).forCall (fun _ _ => 0) ⟨#[], arg0, []⟩).memory :=
  laidMet_of_run' 8 (by kernel_rfl) (by kernel_rfl)
theorem reads (os : Os) {H : Type} (enc : TypeId × Value → H) : ∃ places, DataW.whole enc Tryz.prog ((laidWorld os).forCall (fun _ _ => 0) ⟨#[], arg0, []⟩).memory Tryz.f3.params.toList Rows.fnExactFormatRulesSpec.vars false arg0.toList 12 = some ([.agg [.nil, .nil, .nil]], [], places) :=
  ⟨[], by kernel_rfl⟩
set_option maxRecDepth 100000 in
theorem lifted (os : Os) (started : os.Started) (H : Type) (enc : TypeId × Value → H) (F : Stop.Interp) :
    ReturnsInHanded {} Tryz.checked os 3 .any ((OpenSpec.ofChange Rows.fnExactFormatRulesSpec).preRow enc Tryz.prog Tryz.f3 Rows.fnExactFormatRulesRow.domain false Rows.fnExactFormatRulesRow.laid) (((OpenSpec.ofChange Rows.fnExactFormatRulesSpec).at F).post enc Tryz.prog Tryz.f3 false true false false) := by
  obtain ⟨places, hx⟩ := reads os enc
  refine returnsInHanded_of_row (C := Tryz.checked) (s := OpenSpec.ofChange Rows.fnExactFormatRulesSpec) own started (by kernel_rfl) Tryz.func3
    (witness_row_at (enc := enc) (C := Tryz.checked) false (laidWorld os) arg0 rfl (by kernel_rfl) (by kernel_rfl) (by kernel_rfl)
      (OpenSpec.preRow_of_cond 12 hx (by kernel_rfl) (fun k hk => by cases hk) (by kernel_rfl) (laid_met os))) ?_
  intro W base args ds gs before hval hW _ _ _ hL _ _
  exact contract H enc W base args ds gs before hval hW hL
set_option maxRecDepth 100000 in
set_option maxHeartbeats 0 in
theorem facts : joinedFacts Tryz.pinned.checked.prog 3 Tryz.f3 Rows.fnExactFormatRulesSpec Rows.fnExactFormatRulesRow = true := by
  delta joinedFacts
  with_reducible repeat' apply and_i
  all_goals (first | with_reducible exact enters | (rw [makes]; kernel_rfl) | (rw [lifts]; kernel_rfl) | decide +kernel | kernel_rfl)
theorem said : Rows.FnExactFormatRulesSaid :=
  OpenClaim.holds_of_cond 3 Tryz.f3 rfl rfl rfl rfl rfl rfl rfl ⟨rfl, rfl, rfl, rfl, rfl⟩ rfl rfl rfl rfl rfl (by kernel_rfl) Tryz.func3 facts
    (of_decide_eq_true (by kernel_rfl)) (by unfold Func.isWrapper; first | (rw [if_pos (by decide +kernel)]; kernel_rfl) | (rw [if_neg (by decide +kernel)]; exact ⟨rfl, rfl⟩))
    (fun os started H enc _ F => by rw [OpenClaim.pre_eq_preRow]; exact lifted os started H enc F)
theorem plain (k : FuncId) (fn : Func) (hf : Tryz.pinned.checked.prog.funcNamed Rows.fnExactFormatRulesRow.func = some k) (hfn : Tryz.pinned.checked.prog.funcs[k]? = some fn) :
    true = Tryz.pinned.checked.prog.looks [] ∧ ∀ (j : Nat) t, fn.params[j]? = some t → Tryz.pinned.checked.prog.wantsStandIn t = false := by
  obtain rfl : k = 3 := Option.some.inj ((show Tryz.prog.funcNamed Rows.fnExactFormatRulesRow.func = some 3 by kernel_rfl).symm.trans hf) |>.symm
  obtain rfl : fn = Tryz.f3 := (Option.some.inj (Tryz.func3.symm.trans hfn)).symm
  refine ⟨by kernel_rfl, fun j t ht => ?_⟩
  rw [Tryz.params3] at ht
  have hm := Array.mem_of_getElem? ht
  have hall : ([24].all fun u => !Tryz.prog.wantsStandIn u) = true := by kernel_rfl
  exact (show Tryz.prog.wantsStandIn t = false by simpa using List.all_eq_true.1 hall t (by simpa using hm))
theorem proved : Rows.FnExactFormatRulesCardSaid :=
  Claim7.holds_tied_plain_at .later [] _ _ _ _ said (fun _ h => by cases h) (by kernel_rfl) (fun _ h => by cases h) fnExactFormatRules_row_tie rfl ⟨rfl, rfl⟩ (by kernel_rfl) rfl plain (by kernel_rfl)
end Go.Proofs.YtclpofblehlojaaGreatDoor.fnExactFormatRules
end
