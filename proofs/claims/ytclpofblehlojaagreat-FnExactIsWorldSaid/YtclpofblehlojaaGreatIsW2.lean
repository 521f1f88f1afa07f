/- Part 2 of the proof: The program's IsWorld returns what the reference's returns, for all arguments. No condition. -/
import Derived.Test.YtclpofblehlojaaGreatIsW1
section
namespace Go.Proofs.YtclpofblehlojaaGreat
open Go Go.Proofs.YtclpofblehlojaaGreat.Ab
set_option linter.unusedVariables false
set_option linter.unusedSimpArgs false
set_option maxHeartbeats 4000000
def kindS (n : Int) : Int := if 1 ≤ n ∧ n ≤ 99999 then (if n % 3 = 0 then 3 else n % 3) else 0
theorem kindS_zero {n : Int} : kindS n = 0 ↔ ¬ (1 ≤ n ∧ n ≤ 99999) := by unfold kindS; split <;> (try split) <;> omega
def okScN (L : List Int) : Nat → Bool
  | 0 => true
  | k + 1 => okScN L k && decide (1 ≤ L.getD k default ∧ L.getD k default ≤ 99999) && (decide (k = 0) || decide (L.getD (k - 1) default < L.getD k default))
def okSc (L : List Int) : Bool := okScN L L.length
theorem okScN_le (L : List Int) : ∀ (m k : Nat), k ≤ m → okScN L m = true → okScN L k = true
  | 0, k, h, _ => by
    obtain rfl : k = 0 := by omega
    rfl
  | m + 1, k, h, ht => by
    by_cases e : k = m + 1
    · rw [e]; exact ht
    · refine okScN_le L m k (by omega) ?_
      simp only [okScN, Bool.and_eq_true] at ht; exact ht.1.1
abbrev P_c_sKind (n : Int) : Ct := ⟨201, [], [li n], [], .sv (li (kindS n))⟩
theorem c_sKind (n : Int)  : P_c_sKind n := fnOK Tryz.call201 Tryz.func201 (.c [.rd, .rd, .rd] (c_l1In n 1 99999) (.b (!decide (1 ≤ n ∧ n ≤ 99999)) (.s (li 0)) (.p ((3 : Int) ≠ 0)
 (.p (0 ≤ n.tmod 3 ∧ (n.tmod 3).toNat < 3) (.w (.cells (intC ([3, 1, 2].getD (n.tmod 3).toNat 0))) (.p ([[cI 3], [cI 1], [cI 2]][(n.tmod 3).toNat]? = some [cI ([3, 1, 2].getD
 (n.tmod 3).toNat 0)]) (.s (li ([3, 1, 2].getD (n.tmod 3).toNat 0))))))))) (by
  dsimp only [teasy, P_c_sKind]
  with_reducible repeat' (first | apply And.intro | exact zR | (intro; skip))
  all_goals (try simp only [std, inj] at *)
  all_goals with_reducible repeat' apply And.intro
  all_goals (try (first | exact z | grind [kindS, snocI, snocS, rowSnoc])))
abbrev P_c_iKind (n : Int) : Ct := ⟨177, [], [li n], [], .sv (li (kindS n))⟩
theorem c_iKind (n : Int)  : P_c_iKind n := fnOK Tryz.call177 Tryz.func177 (.i (n < 1) (.y true (.s (li 0))) (.i (99999 < n) (.s (li 0)) (.p ((3 : Int) ≠ 0) (.i (n.tmod (3 : Int) =
 1) (.s (li 1)) (.i (n.tmod (3 : Int) = 2) (.s (li 2)) (.s (li 3))))))) (by
  dsimp only [teasy, P_c_iKind]
  with_reducible repeat' (first | apply And.intro | exact zR | (intro; skip))
  all_goals (try simp only [std, inj] at *)
  all_goals with_reducible repeat' apply And.intro
  all_goals (try (first | exact z | grind [kindS, snocI, snocS, rowSnoc])))
abbrev P_c_sScopes (L : List Int) : Ct := ⟨158, [], [ll (L.map intC)], [], .sv (lb (okSc L))⟩
def lc_sScopesLa (L : List Int) : Lp Nat := .mk 29 0 (fun x => [(0, ll (List.map intC L)), (5, ll (List.map intC L)), (6, li (↑(List.map intC L).length : Int)), (7, hs x 0)]) (fun
 x => []) (fun k => [.s (li (↑k : Int))]) (fun k => k ≤ L.length ∧ L.length ≤ 9223372036854775807 ∧ okScN L k = true) (fun k => L.length - k) [.mk (okSc L = true) (.exit 0) (fun x
 => []) (fun x => []) [], .mk (okSc L = false) .ret (fun x => [(2, hs x 0)]) (fun x => []) [.s (lb false)]]
theorem Sc_sScopesLa (L : List Int) : Lp.Sem Tryz.prog (loopAt Tryz.f158 0) (lc_sScopesLa L) := lpOK (fun k => .i ((↑k : Int) < (↑(List.map intC L).length : Int)) (.x (↑k : Int)
 (List.map intC L) [cI (L.getD k 0)] (.c [.rd] (c_sKind (L.getD k 0)) (.i (kindS (L.getD k 0) = 0) (.y true (.o 1 [] [.s (lb false)])) (.i (0 < (↑k : Int)) (.r ((↑k : Int) - 1) (.x
 ((↑k : Int) - 1) (List.map intC L) [cI (L.getD ((↑k : Int) - 1).toNat 0)] (.i (L.getD k 0 ≤ L.getD ((↑k : Int) - 1).toNat 0) (.o 1 [] [.s (lb false)]) (.r ((↑k : Int) + 1) (.g []
 (k + 1) [.s (li ((↑k : Int) + 1))]))))) (.y false (.r ((↑k : Int) + 1) (.g [] (k + 1) [.s (li ((↑k : Int) + 1))]))))))) (.o 0 [] [])) (by
  intro k h; try dsimp only [teasy, nthW, lc_sScopesLa] at h ⊢
  have g1 := okScN_le L L.length (k + 1)
  have g2 := @kindS_zero (L.getD k 0)
  have e : ((k : Int) - 1).toNat = k - 1 := by omega
  have g3 : okScN L (k + 1) = (okScN L k && decide (1 ≤ L.getD k 0 ∧ L.getD k 0 ≤ 99999) && (decide (k = 0) || decide (L.getD (k - 1) 0 < L.getD k 0))) := rfl
  with_reducible repeat' (first | apply And.intro | exact zR | (intro; skip))
  all_goals (try simp only [std, inj] at *)
  all_goals with_reducible repeat' apply And.intro
  all_goals (try (first | exact z | grind [okSc, snocI, snocS, rowSnoc])))
theorem c_sScopes (L : List Int)  : P_c_sScopes L := fnOK Tryz.call158 Tryz.func158 (.z intC L (.l (lc_sScopesLa L) (Sc_sScopesLa L) [] [.s (li 0)] 0 (.t (.s (lb true)) (.t (.s (lb
 false)) .q)))) (by
  dsimp only [teasy, P_c_sScopes, nthW, lc_sScopesLa]
  with_reducible repeat' (first | apply And.intro | exact zR | (intro; skip))
  all_goals (try simp only [std, inj] at *)
  all_goals with_reducible repeat' apply And.intro
  all_goals (try (first | exact z | grind [okScN, snocI, snocS, rowSnoc])))
abbrev P_c_iScopes (L : List Int) : Ct := ⟨119, [], [ll (L.map intC)], [], .sv (lb (okSc L))⟩
def lc_iScopesLa (L : List Int) : Lp Nat := .mk 29 0 (fun x => [(0, ll (List.map intC L)), (5, ll (List.map intC L)), (6, li (↑(List.map intC L).length : Int)), (7, hs x 0)]) (fun
 x => []) (fun k => [.s (li (↑k : Int))]) (fun k => k ≤ L.length ∧ L.length ≤ 9223372036854775807 ∧ okScN L k = true) (fun k => L.length - k) [.mk (okSc L = true) (.exit 0) (fun x
 => []) (fun x => []) [], .mk (okSc L = false) .ret (fun x => [(2, hs x 0)]) (fun x => []) [.s (lb false)]]
theorem Sc_iScopesLa (L : List Int) : Lp.Sem Tryz.prog (loopAt Tryz.f119 0) (lc_iScopesLa L) := lpOK (fun k => .i ((↑k : Int) < (↑(List.map intC L).length : Int)) (.x (↑k : Int)
 (List.map intC L) [cI (L.getD k 0)] (.c [.rd] (c_iKind (L.getD k 0)) (.i (kindS (L.getD k 0) = 0) (.y true (.o 1 [] [.s (lb false)])) (.i (0 < (↑k : Int)) (.r ((↑k : Int) - 1) (.x
 ((↑k : Int) - 1) (List.map intC L) [cI (L.getD ((↑k : Int) - 1).toNat 0)] (.i (L.getD k 0 ≤ L.getD ((↑k : Int) - 1).toNat 0) (.o 1 [] [.s (lb false)]) (.r ((↑k : Int) + 1) (.g []
 (k + 1) [.s (li ((↑k : Int) + 1))]))))) (.y false (.r ((↑k : Int) + 1) (.g [] (k + 1) [.s (li ((↑k : Int) + 1))]))))))) (.o 0 [] [])) (by
  intro k h; try dsimp only [teasy, nthW, lc_iScopesLa] at h ⊢
  have g1 := okScN_le L L.length (k + 1)
  have g2 := @kindS_zero (L.getD k 0)
  have e : ((k : Int) - 1).toNat = k - 1 := by omega
  have g3 : okScN L (k + 1) = (okScN L k && decide (1 ≤ L.getD k 0 ∧ L.getD k 0 ≤ 99999) && (decide (k = 0) || decide (L.getD (k - 1) 0 < L.getD k 0))) := rfl
  with_reducible repeat' (first | apply And.intro | exact zR | (intro; skip))
  all_goals (try simp only [std, inj] at *)
  all_goals with_reducible repeat' apply And.intro
  all_goals (try (first | exact z | grind [okSc, snocI, snocS, rowSnoc])))
theorem c_iScopes (L : List Int)  : P_c_iScopes L := fnOK Tryz.call119 Tryz.func119 (.z intC L (.l (lc_iScopesLa L) (Sc_iScopesLa L) [] [.s (li 0)] 0 (.t (.s (lb true)) (.t (.s (lb
 false)) .q)))) (by
  dsimp only [teasy, P_c_iScopes, nthW, lc_iScopesLa]
  with_reducible repeat' (first | apply And.intro | exact zR | (intro; skip))
  all_goals (try simp only [std, inj] at *)
  all_goals with_reducible repeat' apply And.intro
  all_goals (try (first | exact z | grind [okScN, snocI, snocS, rowSnoc])))
def nodY0 (k n : Int) (t : ByteArray) (s : List Int) (i : Int) : Bool := nodD k n t i && okSc s && (decide ((s.length : Int) = 0) || decide (k = 1))
mutual
def sizeY : Syntax → Nat
  | ⟨_, _, _, _, l⟩ => sizeYs l + 1
def sizeYs : List Syntax → Nat
  | [] => 0
  | c :: r => sizeY c + sizeYs r
end
theorem sizeYs_eq : ∀ l, sizeYs l = sumBy sizeY l
  | [] => by simp [sizeYs, sumBy]
  | c :: r => by rw [sizeYs, sumBy, sizeYs_eq r]
theorem sizeY_eq (c : Syntax) : sizeY c = sumBy sizeY c.items + 1 := by cases c; simp only [sizeY, sizeYs_eq]
mutual
def depY : Syntax → Nat
  | ⟨_, _, _, _, l⟩ => depYs l + 1
def depYs : List Syntax → Nat
  | [] => 0
  | c :: r => max (depY c) (depYs r)
end
theorem depYs_eq : ∀ l, depYs l = maxBy depY l
  | [] => by simp [depYs, maxBy]
  | c :: r => by rw [depYs, maxBy, depYs_eq r]
theorem depY_eq (c : Syntax) : depY c = maxBy depY c.items + 1 := by cases c; simp only [depY, depYs_eq]
theorem depY_le : ∀ c : Syntax, depY c ≤ sizeY c := by
  refine Syntax.ind fun c ih => ?_
  have := maxBy_sum ih
  rw [sizeY_eq, depY_eq]; omega
mutual
def okY : Syntax → Bool
  | ⟨k, n, t, s, l⟩ => okYs l && nodY0 k n t s l.length
def okYs : List Syntax → Bool
  | [] => true
  | c :: r => okY c && okYs r
end
theorem okYs_eq : ∀ l, okYs l = l.all okY
  | [] => by simp [okYs]
  | c :: r => by rw [okYs, okYs_eq r]; rfl
theorem okY_eq (c : Syntax) : okY c = (c.items.all okY && nodY0 c.kind c.number c.text c.scopes c.items.length) := by cases c; simp only [okY, okYs_eq]
def isSyn (d : Syntax) : Bool := decide (sizeY d ≤ 2000) && decide (depY d ≤ 40) && okY d
mutual
def meaY : Syntax → Int → Int → Bool × Int
  | ⟨k, n, t, s, l⟩, deep, m => if deep ≤ 40 ∧ m + 1 ≤ 2000 ∧ nodY0 k n t s l.length = true then meaYs l (deep + 1) (m + 1) else (false, m + 1)
def meaYs : List Syntax → Int → Int → Bool × Int
  | [], _, m => (true, m)
  | x :: r, deep, m => if (meaY x deep m).1 then meaYs r deep (meaY x deep m).2 else (false, (meaY x deep m).2)
end
theorem meaYs_eq : ∀ l deep m, meaYs l deep m = scan (fun x m => meaY x deep m) l m
  | [], _, _ => by simp [meaYs, scan]
  | x :: r, deep, m => by simp only [meaYs, scan, meaYs_eq r]
theorem meaY_eq (c : Syntax) (deep m : Int) : meaY c deep m = if deep ≤ 40 ∧ m + 1 ≤ 2000 ∧ nodY0 c.kind c.number c.text c.scopes c.items.length = true then scan (fun x m => meaY x (deep + 1) m) c.items (m + 1) else (false, m + 1) := by cases c; simp only [meaY, meaYs_eq]
theorem meaY_of : ∀ (c : Syntax) (deep m : Int), m ≤ 2000 → ((meaY c deep m).1 = true ↔ (m + sizeY c ≤ 2000 ∧ (deep + depY c ≤ 41 ∧ okY c = true))) ∧ ((meaY c deep m).1 = true → (meaY c deep m).2 = m + sizeY c) := by
  refine Syntax.ind fun c ih deep m hm => ?_
  rw [meaY_eq, sizeY_eq, depY_eq, okY_eq, Bool.and_eq_true, List.all_eq_true]
  by_cases h : deep ≤ 40 ∧ m + 1 ≤ 2000 ∧ nodY0 c.kind c.number c.text c.scopes c.items.length = true
  · rw [if_pos h]
    have h1 := scan_of (fun x m => meaY x (deep + 1) m) sizeY (fun x => deep + 1 + depY x ≤ 41 ∧ okY x = true) 2000 c.items (fun x hx m hm => ih x hx (deep + 1) m hm) (m + 1) h.2.1
    have h2 := maxBy_le depY (m := (40 - deep).toNat) (L := c.items)
    constructor
    · rw [h1.1]
      constructor
      · rintro ⟨a, b⟩
        have := h2.2 fun x hx => by have := (b x hx).1; omega
        exact ⟨by omega, by omega, fun x hx => (b x hx).2, h.2.2⟩
      · rintro ⟨a, b, d, e⟩
        have := h2.1 (by omega)
        exact ⟨by omega, fun x hx => ⟨by have := this x hx; omega, d x hx⟩⟩
    · intro ht; rw [h1.2 ht]; omega
  · rw [if_neg h]
    refine ⟨⟨fun e => Bool.noConfusion e, ?_⟩, fun e => Bool.noConfusion e⟩
    rintro ⟨a, b, d, e⟩
    exact absurd ⟨by omega, by omega, e⟩ h
theorem meaY_isSyn (d : Syntax) : (meaY d 1 0).1 = isSyn d := by
  have h := (meaY_of d 1 0 (by decide)).1
  rw [Bool.eq_iff_iff, h]
  simp only [isSyn, Bool.and_eq_true, decide_eq_true_eq, and_assoc]
  constructor
  · rintro ⟨a, b, e⟩; exact ⟨by omega, by omega, e⟩
  · rintro ⟨a, b, e⟩; exact ⟨by omega, by omega, e⟩
abbrev P_c_sFewY (d : Syntax) (l : Int) : Ct := ⟨94, [.box [vI l]], [syntaxA d, .one (.ptr 0 0)], [.box [vI (max (l - sizeY d) (-1))]], .sv (lb (decide (sizeY d ≤ l)))⟩
def lc_sFewY_sLa (d : Syntax) (l : Int) : Lp Nat := .mk 36 1 (fun x => [(1, SV.one (AC.ptr 0 0)), (2, SV.one (AC.ptr 1 0)), (5, hs x 0)]) (fun x => [Ob.box [ha x 1], Ob.box (vals
 (syntaxF d))]) (fun k => [.s (li (↑k : Int)), .a (vI (max (l - 1 - (↑(sumBy sizeY (List.take k d.items)) : Int)) (-1 : Int)))]) (fun k => d.items.length ≥ k) (fun k =>
 d.items.length - k) [.mk True (.exit 0) (fun x => [(1, SV.one (AC.ptr 0 0))]) (fun x => [Ob.box [ha x 0]]) [.a (vI (max (l - (↑(sizeY d) : Int)) (-1 : Int)))]]
theorem Sc_sFewY_sLa (d : Syntax) (l : Int) (h : 0 ≤ l ∧ l ≤ 1000000) (ih : ∀ (z : Syntax), z ∈ d.items → ∀ (l : Int), 0 ≤ l ∧ l ≤ 1000000 → OK (P_c_sFewY z l)) : Lp.Sem Tryz.prog
 (loopAt Tryz.f94 0) (lc_sFewY_sLa d l) := lpOK (fun k => .z syntaxC d.items (.i ((↑k : Int) < (↑(List.map syntaxC d.items).length : Int)) (.i (0 ≤ max (l - 1 - (↑(sumBy sizeY
 (List.take k d.items)) : Int)) (-1 : Int)) (.x (↑k : Int) (List.map syntaxC d.items) (syntaxF (d.items.getD k default)) (.d [.rd, .ptr] (P_c_sFewY (d.items.getD k default) (max (l
 - 1 - (↑(sumBy sizeY (List.take k d.items)) : Int)) (-1 : Int))) (.r ((↑k : Int) + 1) (.g [0, 1] (k + 1) [.s (li ((↑k : Int) + 1)), .a (vI (max (max (l - 1 - (↑(sumBy sizeY
 (List.take k d.items)) : Int)) (-1 : Int) - (↑(sizeY (d.items.getD k default)) : Int)) (-1 : Int)))])))) (.o 0 [0] [.a (vI (max (l - 1 - (↑(sumBy sizeY (List.take k d.items)) :
 Int)) (-1 : Int)))])) (.y false (.o 0 [0] [.a (vI (max (l - 1 - (↑(sumBy sizeY (List.take k d.items)) : Int)) (-1 : Int)))])))) (by
  intro k h; try dsimp only [teasy, nthW, lc_sFewY_sLa] at h ⊢
  have g1 := sizeY_eq d
  have g2 := sumBy_takeLe sizeY d.items k
  have g3 := @sumBy_step _ _ sizeY d.items k
  with_reducible repeat' (first | apply And.intro | exact zR | exact ih | (intro; skip) | apply ih)
  all_goals (try simp only [std, inj] at *)
  all_goals with_reducible repeat' apply And.intro
  all_goals (try (first | with_reducible apply ih | (simp only [← List.map_append]; first | with_reducible apply ih)))
  all_goals (try (first | exact z | grind [getD_mem', snocI, snocS, rowSnoc])))
theorem c_sFewY_s (d : Syntax) (l : Int) (h : 0 ≤ l ∧ l ≤ 1000000) (ih : ∀ z ∈ d.items, ∀ (l : Int) (h : 0 ≤ l ∧ l ≤ 1000000), P_c_sFewY z l)  : P_c_sFewY d l := fnOK Tryz.call94
 Tryz.func94 (.r (l - 1) (.l (lc_sFewY_sLa d l) (Sc_sFewY_sLa d l h ih) [0, 1] [.s (li 0), .a (vI (l - 1))] 0 (.t (.f [] [Ob.box [vI (max (l - (↑(sizeY d) : Int)) (-1 : Int))]]
 (AV.sv (lb (decide (0 ≤ max (l - (↑(sizeY d) : Int)) (-1 : Int)))))) .q))) (by
  dsimp only [teasy, P_c_sFewY, nthW, lc_sFewY_sLa]
  have g1 := sizeY_eq d
  have g2 : sumBy sizeY (d.items.take 0) = 0 := rfl
  with_reducible repeat' (first | apply And.intro | exact zR | exact ih | (intro; skip))
  all_goals (try simp only [std, inj] at *)
  all_goals with_reducible repeat' apply And.intro
  all_goals (try (first | with_reducible apply ih | (simp only [← List.map_append]; first | with_reducible apply ih)))
  all_goals (try (first | exact z | grind [snocI, snocS, rowSnoc])))
theorem c_sFewY (d : Syntax) : ∀ (l : Int) (h : 0 ≤ l ∧ l ≤ 1000000), P_c_sFewY d l := Syntax.ind (P := fun d => ∀ (l : Int) (h : 0 ≤ l ∧ l ≤ 1000000), P_c_sFewY d l) (fun d ih l h => c_sFewY_s d l h ih) d
abbrev P_c_sDepY (d : Syntax) : Ct := ⟨95, [], [syntaxA d], [], .sv (li (depY d))⟩
def lc_sDepY_sLa (d : Syntax) : Lp Nat := .mk 20 0 (fun x => [(3, hs x 1), (7, ll (List.map syntaxC d.items)), (8, li (↑(List.map syntaxC d.items).length : Int)), (9, hs x 0)])
 (fun x => []) (fun k => [.s (li (↑k : Int)), .s (li (↑(maxBy depY (List.take k d.items)) : Int))]) (fun k => k ≤ d.items.length ∧ d.items.length ≤ 9223372036854775807) (fun k =>
 d.items.length - k) [.mk True (.exit 0) (fun x => [(3, hs x 0)]) (fun x => []) [.s (li (↑(maxBy depY d.items) : Int))]]
theorem Sc_sDepY_sLa (d : Syntax) (h : sizeY d ≤ 2147483647) (ih : ∀ (z : Syntax), z ∈ d.items → sizeY z ≤ 2147483647 → OK (P_c_sDepY z)) : Lp.Sem Tryz.prog (loopAt Tryz.f95 0)
 (lc_sDepY_sLa d) := lpOK (fun k => .i ((↑k : Int) < (↑(List.map syntaxC d.items).length : Int)) (.x (↑k : Int) (List.map syntaxC d.items) (syntaxF (d.items.getD k default)) (.d
 [.rd] (P_c_sDepY (d.items.getD k default)) (.r ((↑k : Int) + 1) (.g [] (k + 1) [.s (li ((↑k : Int) + 1)), .s (li (max (↑(maxBy depY (List.take k d.items)) : Int) (↑(depY
 (d.items.getD k default)) : Int)))])))) (.o 0 [] [.s (li (↑(maxBy depY (List.take k d.items)) : Int))])) (by
  intro k h; try dsimp only [teasy, nthW, lc_sDepY_sLa] at h ⊢
  have g1 := sizeY_eq d
  have g2 := @sumBy_mem _ sizeY d.items (d.items.getD k default)
  with_reducible repeat' (first | apply And.intro | exact zR | exact ih | (intro; skip) | apply ih)
  all_goals (try simp only [std, inj] at *)
  all_goals with_reducible repeat' apply And.intro
  all_goals (try (first | with_reducible apply ih | (simp only [← List.map_append]; first | with_reducible apply ih)))
  all_goals (try (first | exact z | grind [maxBy_step, getD_mem', snocI, snocS, rowSnoc])))
theorem c_sDepY_s (d : Syntax) (h : sizeY d ≤ 2147483647) (ih : ∀ z ∈ d.items, ∀ (h : sizeY z ≤ 2147483647), P_c_sDepY z)  : P_c_sDepY d := fnOK Tryz.call95 Tryz.func95 (.z syntaxC
 d.items (.l (lc_sDepY_sLa d) (Sc_sDepY_sLa d h ih) [] [.s (li 0), .s (li 0)] 0 (.t (.r ((↑(maxBy depY d.items) : Int) + 1) (.s (li ((↑(maxBy depY d.items) : Int) + 1)))) .q))) (by
  dsimp only [teasy, P_c_sDepY, nthW, lc_sDepY_sLa]
  have h1 := depY_le d
  have g2 : maxBy depY (d.items.take 0) = 0 := rfl
  with_reducible repeat' (first | apply And.intro | exact zR | exact ih | (intro; skip))
  all_goals (try simp only [std, inj] at *)
  all_goals with_reducible repeat' apply And.intro
  all_goals (try (first | with_reducible apply ih | (simp only [← List.map_append]; first | with_reducible apply ih)))
  all_goals (try (first | exact z | grind [depY_eq, snocI, snocS, rowSnoc])))
theorem c_sDepY (d : Syntax) : ∀ (h : sizeY d ≤ 2147483647), P_c_sDepY d := Syntax.ind (P := fun d => ∀ (h : sizeY d ≤ 2147483647), P_c_sDepY d) (fun d ih h => c_sDepY_s d h ih) d
abbrev P_c_sOkY (d : Syntax) : Ct := ⟨96, [], [syntaxA d], [], .sv (lb (okY d))⟩
def lc_sOkY_sLa (d : Syntax) : Lp Nat := .mk 42 0 (fun x => [(1, SV.one (AC.ptr 0 0)), (6, ll (List.map syntaxC d.items)), (7, li (↑(List.map syntaxC d.items).length : Int)), (8,
 hs x 0)]) (fun x => [Ob.box (vals (syntaxF d))]) (fun k => [.s (li (↑k : Int))]) (fun k => k ≤ d.items.length ∧ d.items.length ≤ 9223372036854775807 ∧ (List.take k d.items).all
 okY = true) (fun k => d.items.length - k) [.mk (d.items.all okY = true) (.exit 0) (fun x => [(1, SV.one (AC.ptr 0 0))]) (fun x => [Ob.box (vals (syntaxF d))]) [], .mk (d.items.all
 okY = false) .ret (fun x => [(2, hs x 0)]) (fun x => []) [.s (lb false)]]
theorem Sc_sOkY_sLa (d : Syntax) (ih : ∀ (z : Syntax), z ∈ d.items → OK (P_c_sOkY z)) : Lp.Sem Tryz.prog (loopAt Tryz.f96 0) (lc_sOkY_sLa d) := lpOK (fun k => .i ((↑k : Int) <
 (↑(List.map syntaxC d.items).length : Int)) (.x (↑k : Int) (List.map syntaxC d.items) (syntaxF (d.items.getD k default)) (.d [.rd] (P_c_sOkY (d.items.getD k default)) (.b (!okY
 (d.items.getD k default)) (.o 1 [] [.s (lb false)]) (.r ((↑k : Int) + 1) (.g [0] (k + 1) [.s (li ((↑k : Int) + 1))]))))) (.o 0 [0] [])) (by
  intro k h; try dsimp only [teasy, nthW, lc_sOkY_sLa] at h ⊢
  with_reducible repeat' (first | apply And.intro | exact zR | exact ih | (intro; skip) | apply ih)
  all_goals (try simp only [std, inj] at *)
  all_goals with_reducible repeat' apply And.intro
  all_goals (try (first | with_reducible apply ih | (simp only [← List.map_append]; first | with_reducible apply ih)))
  all_goals (try (first | exact z | grind [take_get, getD_mem', snocI, snocS, rowSnoc])))
theorem c_sOkY_s (d : Syntax) (ih : ∀ z ∈ d.items, P_c_sOkY z)  : P_c_sOkY d := fnOK Tryz.call96 Tryz.func96 (.z syntaxC d.items (.l (lc_sOkY_sLa d) (Sc_sOkY_sLa d ih) [0] [.s (li
 0)] 0 (.t (.z syntaxC d.items (.c [.rd, .rd, .rd, .rd] (c_sNode d.kind d.number d.text (↑(List.map syntaxC d.items).length : Int)) (.b (nodD d.kind d.number d.text (↑(List.map
 syntaxC d.items).length : Int)) (.c [.rd] (c_sScopes d.scopes) (.b (okSc d.scopes) (.z intC d.scopes (.i ((↑(List.map intC d.scopes).length : Int) = 0) (.s (lb true)) (.s (lb
 (decide (d.kind = 1)))))) (.s (lb false)))) (.y false (.s (lb false)))))) (.t (.s (lb false)) .q)))) (by
  dsimp only [teasy, P_c_sOkY, nthW, lc_sOkY_sLa]
  with_reducible repeat' (first | apply And.intro | exact zR | exact ih | (intro; skip))
  all_goals (try simp only [std, inj] at *)
  all_goals with_reducible repeat' apply And.intro
  all_goals (try (first | with_reducible apply ih | (simp only [← List.map_append]; first | with_reducible apply ih)))
  all_goals (try (first | exact z | grind [okY_eq, nodY0, snocI, snocS, rowSnoc])))
theorem c_sOkY (d : Syntax) : P_c_sOkY d := Syntax.ind (P := fun d => P_c_sOkY d) (fun d ih => c_sOkY_s d ih) d
abbrev P_c_sIsSyntax (d : Syntax) : Ct := ⟨37, [], [syntaxA d], [], .sv (lb (isSyn d))⟩
theorem c_sIsSyntax (d : Syntax)  : P_c_sIsSyntax d := fnOK Tryz.call37 Tryz.func37 (.d [.rd, .ptr] (P_c_sFewY d 2000) (.i ((↑(sizeY d) : Int) ≤ 2000) (.d [.rd] (P_c_sDepY d) (.i
 ((↑(depY d) : Int) ≤ 40) (.c [.rd] (c_sOkY d) (.s (lb (okY d)))) (.s (lb false)))) (.y false (.s (lb false))))) (by
  dsimp only [teasy, P_c_sIsSyntax]
  with_reducible repeat' (first | apply And.intro | exact zR | (intro; skip) | apply c_sFewY | apply c_sDepY)
  all_goals (try simp only [std, inj] at *)
  all_goals with_reducible repeat' apply And.intro
  all_goals (try (first | with_reducible apply c_sFewY | with_reducible apply c_sDepY | (simp only [← List.map_append]; first | with_reducible apply c_sFewY | with_reducible apply c_sDepY)))
  all_goals (try (first | exact z | grind [isSyn, snocI, snocS, rowSnoc])))
abbrev P_c_iMeaY (d : Syntax) (deep : Int) (q : Int) : Ct := ⟨54, [.box [vI q]], [syntaxA d, li deep, .one (.ptr 0 0)], [.box [vI (meaY d deep q).2]], .sv (lb (meaY d deep q).1)⟩
def lc_iMeaY_sLa (d : Syntax) (deep : Int) (q : Int) : Lp Nat := .mk 64 1 (fun x => [(1, li deep), (2, SV.one (AC.ptr 0 0)), (51, ll (List.map syntaxC d.items)), (52, li
 (↑(List.map syntaxC d.items).length : Int)), (53, hs x 0)]) (fun x => [Ob.box [ha x 1]]) (fun k => [.s (li (↑k : Int)), .a (vI (scan (fun x m => meaY x (deep + 1) m) (List.take k
 d.items) (q + 1)).snd)]) (fun k => k ≤ d.items.length ∧ d.items.length ≤ 9223372036854775807 ∧ deep ≤ 40 ∧ (scan (fun x m => meaY x (deep + 1) m) (List.take k d.items) (q +
 1)).fst = true ∧ q ≤ (scan (fun x m => meaY x (deep + 1) m) (List.take k d.items) (q + 1)).snd ∧ (scan (fun x m => meaY x (deep + 1) m) (List.take k d.items) (q + 1)).snd ≤ 2000)
 (fun k => d.items.length - k) [.mk ((scan (fun x m => meaY x (deep + 1) m) d.items (q + 1)).fst = true) (.exit 0) (fun x => []) (fun x => [Ob.box [ha x 0]]) [.a (vI (scan (fun x m
 => meaY x (deep + 1) m) d.items (q + 1)).snd)], .mk ((scan (fun x m => meaY x (deep + 1) m) d.items (q + 1)).fst = false) .ret (fun x => [(6, hs x 0)]) (fun x => [Ob.box [ha x
 1]]) [.s (lb false), .a (vI (scan (fun x m => meaY x (deep + 1) m) d.items (q + 1)).snd)]]
theorem Sc_iMeaY_sLa (d : Syntax) (deep : Int) (q : Int) (h : 0 ≤ deep ∧ deep ≤ 41 ∧ 0 ≤ q ∧ q ≤ 2000) (ih : ∀ (z : Syntax), z ∈ d.items → ∀ (deep q : Int), 0 ≤ deep ∧ deep ≤ 41 ∧
 0 ≤ q ∧ q ≤ 2000 → OK (P_c_iMeaY z deep q)) : Lp.Sem Tryz.prog (loopAt Tryz.f54 0) (lc_iMeaY_sLa d deep q) := lpOK (fun k => .i ((↑k : Int) < (↑(List.map syntaxC d.items).length :
 Int)) (.x (↑k : Int) (List.map syntaxC d.items) (syntaxF (d.items.getD k default)) (.r (deep + 1) (.d [.rd, .rd, .ptr] (P_c_iMeaY (d.items.getD k default) (deep + 1) (scan (fun x
 m => meaY x (deep + 1) m) (List.take k d.items) (q + 1)).snd) (.b (!(meaY (d.items.getD k default) (deep + 1) (scan (fun x m => meaY x (deep + 1) m) (List.take k d.items) (q +
 1)).snd).fst) (.o 1 [0] [.s (lb false), .a (vI (meaY (d.items.getD k default) (deep + 1) (scan (fun x m => meaY x (deep + 1) m) (List.take k d.items) (q + 1)).snd).snd)]) (.r ((↑k
 : Int) + 1) (.g [0] (k + 1) [.s (li ((↑k : Int) + 1)), .a (vI (meaY (d.items.getD k default) (deep + 1) (scan (fun x m => meaY x (deep + 1) m) (List.take k d.items) (q +
 1)).snd).snd)])))))) (.o 0 [0] [.a (vI (scan (fun x m => meaY x (deep + 1) m) (List.take k d.items) (q + 1)).snd)])) (by
  intro k h; try dsimp only [teasy, nthW, lc_iMeaY_sLa] at h ⊢
  have g1 := fun x m => meaY_of x (deep + 1) m
  with_reducible repeat' (first | apply And.intro | exact zR | exact ih | (intro; skip) | apply ih)
  all_goals (try simp only [std, inj] at *)
  all_goals with_reducible repeat' apply And.intro
  all_goals (try (first | with_reducible apply ih | (simp only [← List.map_append]; first | with_reducible apply ih)))
  all_goals (try (first | exact z | grind [scan_step, scan_stop, getD_mem', snocI, snocS, rowSnoc])))
theorem c_iMeaY_s (d : Syntax) (deep q : Int) (h : 0 ≤ deep ∧ deep ≤ 41 ∧ 0 ≤ q ∧ q ≤ 2000) (ih : ∀ z ∈ d.items, ∀ (deep : Int) (q : Int) (h : 0 ≤ deep ∧ deep ≤ 41 ∧ 0 ≤ q ∧ q ≤
 2000), P_c_iMeaY z deep q)  : P_c_iMeaY d deep q := fnOK Tryz.call54 Tryz.func54 (.r (q + 1) (.i (40 < deep) (.y true (.y true (.f [] [Ob.box [vI (q + 1)]] (AV.sv (lb false))))) (.i
 (2000 < q + 1) (.y true (.f [] [Ob.box [vI (q + 1)]] (AV.sv (lb false)))) (.z syntaxC d.items (.c [.rd, .rd, .rd, .rd] (c_iNode d.kind d.number d.text (↑(List.map syntaxC
 d.items).length : Int)) (.b (!nodD d.kind d.number d.text (↑(List.map syntaxC d.items).length : Int)) (.f [] [Ob.box [vI (q + 1)]] (AV.sv (lb false))) (.i (d.kind ≠ 1) (.z intC
 d.scopes (.i (0 < (↑(List.map intC d.scopes).length : Int)) (.y true (.f [] [Ob.box [vI (q + 1)]] (AV.sv (lb false)))) (.c [.rd] (c_iScopes d.scopes) (.b (!okSc d.scopes) (.f []
 [Ob.box [vI (q + 1)]] (AV.sv (lb false))) (.z syntaxC d.items (.l (lc_iMeaY_sLa d deep q) (Sc_iMeaY_sLa d deep q h ih) [0] [.s (li 0), .a (vI (q + 1))] 0 (.t (.f [] [Ob.box [vI
 (scan (fun x m => meaY x (deep + 1) m) d.items (q + 1)).snd]] (AV.sv (lb true))) (.t (.f [] [Ob.box [vI (scan (fun x m => meaY x (deep + 1) m) d.items (q + 1)).snd]] (AV.sv (lb
 false))) .q)))))))) (.y false (.c [.rd] (c_iScopes d.scopes) (.b (!okSc d.scopes) (.f [] [Ob.box [vI (q + 1)]] (AV.sv (lb false))) (.z syntaxC d.items (.l (lc_iMeaY_sLa d deep q)
 (Sc_iMeaY_sLa d deep q h ih) [0] [.s (li 0), .a (vI (q + 1))] 0 (.t (.f [] [Ob.box [vI (scan (fun x m => meaY x (deep + 1) m) d.items (q + 1)).snd]] (AV.sv (lb true))) (.t (.f []
 [Ob.box [vI (scan (fun x m => meaY x (deep + 1) m) d.items (q + 1)).snd]] (AV.sv (lb false))) .q)))))))))))))) (by
  dsimp only [teasy, P_c_iMeaY, nthW, lc_iMeaY_sLa]
  with_reducible repeat' (first | apply And.intro | exact zR | exact ih | (intro; skip))
  all_goals (try simp only [std, inj] at *)
  all_goals with_reducible repeat' apply And.intro
  all_goals (try (first | with_reducible apply ih | (simp only [← List.map_append]; first | with_reducible apply ih)))
  all_goals (try (first | exact z | grind [meaY_eq, scan, nodY0, snocI, snocS, rowSnoc])))
theorem c_iMeaY (d : Syntax) : ∀ (deep : Int) (q : Int) (h : 0 ≤ deep ∧ deep ≤ 41 ∧ 0 ≤ q ∧ q ≤ 2000), P_c_iMeaY d deep q := Syntax.ind (P := fun d => ∀ (deep : Int) (q : Int) (h : 0 ≤ deep ∧ deep ≤ 41 ∧ 0 ≤ q ∧ q ≤ 2000), P_c_iMeaY d deep q) (fun d ih deep q h => c_iMeaY_s d deep q h ih) d
abbrev P_c_iIsSyntax (d : Syntax) : Ct := ⟨19, [], [syntaxA d], [], .sv (lb (isSyn d))⟩
theorem c_iIsSyntax (d : Syntax)  : P_c_iIsSyntax d := fnOK Tryz.call19 Tryz.func19 (.d [.rd, .rd, .ptr] (P_c_iMeaY d 1 0) (.s (lb (meaY d 1 0).fst))) (by
  dsimp only [teasy, P_c_iIsSyntax]
  with_reducible repeat' (first | apply And.intro | exact zR | (intro; skip) | apply c_iMeaY)
  all_goals (try simp only [std, inj] at *)
  all_goals with_reducible repeat' apply And.intro
  all_goals (try (first | with_reducible apply c_iMeaY | (simp only [← List.map_append]; first | with_reducible apply c_iMeaY)))
  all_goals (try (first | exact z | grind [meaY_isSyn, snocI, snocS, rowSnoc])))
abbrev P_c_sIsId (s : Syntax) : Ct := ⟨41, [], [syntaxA s], [], .sv (lb (decide (s.kind = 1) && isSyn s))⟩
theorem c_sIsId (s : Syntax)  : P_c_sIsId s := fnOK Tryz.call41 Tryz.func41 (.i (s.kind = 1) (.c [.rd] (c_sIsSyntax s) (.s (lb (isSyn s)))) (.s (lb false))) (by
  dsimp only [teasy, P_c_sIsId]
  with_reducible repeat' (first | apply And.intro | exact zR | (intro; skip))
  all_goals (try simp only [std, inj] at *)
  all_goals with_reducible repeat' apply And.intro
  all_goals (try (first | exact z | grind [snocI, snocS, rowSnoc])))
abbrev P_c_iIsId (s : Syntax) : Ct := ⟨166, [], [syntaxA s], [], .sv (lb (decide (s.kind = 1) && isSyn s))⟩
theorem c_iIsId (s : Syntax)  : P_c_iIsId s := fnOK Tryz.call166 Tryz.func166 (.i (s.kind = 1) (.c [.rd] (c_iIsSyntax s) (.s (lb (isSyn s)))) (.s (lb false))) (by
  dsimp only [teasy, P_c_iIsId]
  with_reducible repeat' (first | apply And.intro | exact zR | (intro; skip))
  all_goals (try simp only [std, inj] at *)
  all_goals with_reducible repeat' apply And.intro
  all_goals (try (first | exact z | grind [snocI, snocS, rowSnoc])))
end Go.Proofs.YtclpofblehlojaaGreat
end
section
namespace Go.Proofs.YtclpofblehlojaaGreat
open Go Go.Proofs.YtclpofblehlojaaGreat.Ab
set_option linter.unusedVariables false
set_option linter.unusedSimpArgs false
set_option maxHeartbeats 4000000
abbrev P_c_sSameInts (A : List Int) (B : List Int) : Ct := ⟨117, [], [ll (A.map intC), ll (B.map intC)], [], .sv (lb (decide (A = B)))⟩
def lc_sSameIntsLa (A : List Int) (B : List Int) : Lp Nat := .mk 26 0 (fun x => [(0, ll (List.map intC A)), (1, ll (List.map intC B)), (12, li (↑(List.map intC A).length : Int)),
 (13, hs x 0)]) (fun x => []) (fun k => [.s (li (↑k : Int))]) (fun k => k ≤ A.length ∧ A.length ≤ 9223372036854775807 ∧ A.length = B.length ∧ List.take k A = List.take k B) (fun k
 => A.length - k) [.mk (A = B) (.exit 0) (fun x => []) (fun x => []) [], .mk (A ≠ B) .ret (fun x => [(4, hs x 0)]) (fun x => []) [.s (lb false)]]
theorem Sc_sSameIntsLa (A : List Int) (B : List Int) : Lp.Sem Tryz.prog (loopAt Tryz.f117 0) (lc_sSameIntsLa A B) := lpOK (fun k => .i ((↑k : Int) < (↑(List.map intC A).length :
 Int)) (.w (.draw []) (.x (↑k : Int) (List.map intC A) [cI (A.getD k 0)] (.x (↑k : Int) (List.map intC B) [cI (B.getD k 0)] (.i (A.getD k (0 : Int) ≠ B.getD k 0) (.o 1 [] [.s (lb
 false)]) (.r ((↑k : Int) + 1) (.g [] (k + 1) [.s (li ((↑k : Int) + 1))])))))) (.o 0 [] [])) (by
  intro k h; try dsimp only [teasy, nthW, lc_sSameIntsLa] at h ⊢
  with_reducible repeat' (first | apply And.intro | exact zR | (intro; skip))
  all_goals (try simp only [std, inj] at *)
  all_goals with_reducible repeat' apply And.intro
  all_goals (try (first | exact z | grind [take_eq, snocI, snocS, rowSnoc])))
theorem c_sSameInts (A B : List Int)  : P_c_sSameInts A B := fnOK Tryz.call117 Tryz.func117 (.z intC A (.z intC B (.i ((↑(List.map intC A).length : Int) ≠ (↑(List.map intC B).length
 : Int)) (.s (lb false)) (.z intC A (.l (lc_sSameIntsLa A B) (Sc_sSameIntsLa A B) [] [.s (li 0)] 0 (.t (.s (lb true)) (.t (.s (lb false)) .q))))))) (by
  dsimp only [teasy, P_c_sSameInts, nthW, lc_sSameIntsLa]
  with_reducible repeat' (first | apply And.intro | exact zR | (intro; skip))
  all_goals (try simp only [std, inj] at *)
  all_goals with_reducible repeat' apply And.intro
  all_goals (try (first | exact z | grind [snocI, snocS, rowSnoc])))
abbrev P_c_iSameInts (A : List Int) (B : List Int) : Ct := ⟨46, [], [ll (A.map intC), ll (B.map intC)], [], .sv (lb (decide (A = B)))⟩
def lc_iSameIntsLa (A : List Int) (B : List Int) : Lp Nat := .mk 26 0 (fun x => [(0, ll (List.map intC A)), (1, ll (List.map intC B)), (12, li (↑(List.map intC A).length : Int)),
 (13, hs x 0)]) (fun x => []) (fun k => [.s (li (↑k : Int))]) (fun k => k ≤ A.length ∧ A.length ≤ 9223372036854775807 ∧ A.length = B.length ∧ List.take k A = List.take k B) (fun k
 => A.length - k) [.mk (A = B) (.exit 0) (fun x => []) (fun x => []) [], .mk (A ≠ B) .ret (fun x => [(4, hs x 0)]) (fun x => []) [.s (lb false)]]
theorem Sc_iSameIntsLa (A : List Int) (B : List Int) : Lp.Sem Tryz.prog (loopAt Tryz.f46 0) (lc_iSameIntsLa A B) := lpOK (fun k => .i ((↑k : Int) < (↑(List.map intC A).length :
 Int)) (.w (.draw []) (.x (↑k : Int) (List.map intC A) [cI (A.getD k 0)] (.x (↑k : Int) (List.map intC B) [cI (B.getD k 0)] (.i (A.getD k (0 : Int) ≠ B.getD k 0) (.o 1 [] [.s (lb
 false)]) (.r ((↑k : Int) + 1) (.g [] (k + 1) [.s (li ((↑k : Int) + 1))])))))) (.o 0 [] [])) (by
  intro k h; try dsimp only [teasy, nthW, lc_iSameIntsLa] at h ⊢
  with_reducible repeat' (first | apply And.intro | exact zR | (intro; skip))
  all_goals (try simp only [std, inj] at *)
  all_goals with_reducible repeat' apply And.intro
  all_goals (try (first | exact z | grind [take_eq, snocI, snocS, rowSnoc])))
theorem c_iSameInts (A B : List Int)  : P_c_iSameInts A B := fnOK Tryz.call46 Tryz.func46 (.z intC A (.z intC B (.i ((↑(List.map intC A).length : Int) ≠ (↑(List.map intC B).length :
 Int)) (.s (lb false)) (.z intC A (.l (lc_iSameIntsLa A B) (Sc_iSameIntsLa A B) [] [.s (li 0)] 0 (.t (.s (lb true)) (.t (.s (lb false)) .q))))))) (by
  dsimp only [teasy, P_c_iSameInts, nthW, lc_iSameIntsLa]
  with_reducible repeat' (first | apply And.intro | exact zR | (intro; skip))
  all_goals (try simp only [std, inj] at *)
  all_goals with_reducible repeat' apply And.intro
  all_goals (try (first | exact z | grind [snocI, snocS, rowSnoc])))
end Go.Proofs.YtclpofblehlojaaGreat
end
section
namespace Go.Proofs.YtclpofblehlojaaGreat
open Go Go.Proofs.YtclpofblehlojaaGreat.Ab
set_option linter.unusedVariables false
set_option linter.unusedSimpArgs false
set_option maxHeartbeats 4000000
def dotsB : List UInt8 := [46, 46, 46]
def isDots (s : Syntax) : Bool := decide (s.kind = 1) && decide (s.text.data.toList = dotsB)
def isId (s : Syntax) : Bool := decide (s.kind = 1) && isSyn s
def capFor (s : Syntax) (x : Capture) : Bool := decide (x.name.text = s.text) && decide (x.name.scopes = s.scopes) && isId x.name
def fndN (L : List Capture) (s : Syntax) : Nat := L.findIdx (capFor s)
def fnd (L : List Capture) (s : Syntax) : Int := if isDots s = false ∧ fndN L s < L.length then fndN L s else -1
theorem fndN_at {L : List Capture} {s : Syntax} {k : Nat} (hk : k < L.length) (hb : k ≤ fndN L s) (h : capFor s (L.getD k default) = true) : fndN L s = k := by
  have h1 : L.getD k default = L[k] := by simp [hk]
  rw [h1] at h
  rcases Nat.lt_or_ge k (fndN L s) with h2 | h2
  · have := List.not_of_lt_findIdx h2
    simp [h] at this
  · omega
theorem fndN_next {L : List Capture} {s : Syntax} {k : Nat} (hk : k < L.length) (hb : k ≤ fndN L s) (h : capFor s (L.getD k default) = false) : k + 1 ≤ fndN L s := by
  have h1 : L.getD k default = L[k] := by simp [hk]
  rw [h1] at h
  rcases Nat.lt_or_ge k (fndN L s) with h2 | h2
  · exact h2
  · have e : fndN L s = k := by omega
    have := List.findIdx_getElem (p := capFor s) (xs := L) (w := by show fndN L s < _; omega)
    have h3 : capFor s (L[fndN L s]'(by omega)) = true := this
    simp only [e, h] at h3
    exact absurd h3 (by decide)
theorem fndN_le (L : List Capture) (s : Syntax) : fndN L s ≤ L.length := List.findIdx_le_length
theorem fnd_lt (L : List Capture) (s : Syntax) : -1 ≤ fnd L s ∧ fnd L s < L.length := by
  unfold fnd; split <;> omega
abbrev P_c_sDots (s : Syntax) : Ct := ⟨101, [], [syntaxA s], [], .sv (lb (isDots s))⟩
theorem c_sDots (s : Syntax)  : P_c_sDots s := fnOK Tryz.call101 Tryz.func101 (.i (s.kind = 1) (.s (lb (decide (s.text.data.toList = [(46 : UInt8), (46 : UInt8), (46 : UInt8)]))))
 (.s (lb false))) (by
  dsimp only [teasy, P_c_sDots]
  with_reducible repeat' (first | apply And.intro | exact zR | (intro; skip))
  all_goals (try simp only [std, inj] at *)
  all_goals with_reducible repeat' apply And.intro
  all_goals (try (first | exact z | grind [isDots, dotsB, snocI, snocS, rowSnoc])))
abbrev P_c_iDots (s : Syntax) : Ct := ⟨105, [], [syntaxA s], [], .sv (lb (isDots s))⟩
theorem c_iDots (s : Syntax)  : P_c_iDots s := fnOK Tryz.call105 Tryz.func105 (.i (s.kind = 1) (.s (lb (decide (s.text.data.toList = [(46 : UInt8), (46 : UInt8), (46 : UInt8)]))))
 (.s (lb false))) (by
  dsimp only [teasy, P_c_iDots]
  with_reducible repeat' (first | apply And.intro | exact zR | (intro; skip))
  all_goals (try simp only [std, inj] at *)
  all_goals with_reducible repeat' apply And.intro
  all_goals (try (first | exact z | grind [isDots, dotsB, snocI, snocS, rowSnoc])))
abbrev P_c_sSame (a : Syntax) (b : Syntax) : Ct := ⟨53, [], [syntaxA a, syntaxA b], [], .sv (lb (decide (a.text = b.text) && decide (a.scopes = b.scopes)))⟩
theorem c_sSame (a b : Syntax)  : P_c_sSame a b := fnOK Tryz.call53 Tryz.func53 (.i (a.text.data.toList = b.text.data.toList) (.c [.rd, .rd] (c_sSameInts a.scopes b.scopes) (.s (lb
 (decide (a.scopes = b.scopes))))) (.s (lb false))) (by
  dsimp only [teasy, P_c_sSame]
  with_reducible repeat' (first | apply And.intro | exact zR | (intro; skip))
  all_goals (try simp only [std, inj] at *)
  all_goals with_reducible repeat' apply And.intro
  all_goals (try (first | exact z | grind [bytes_ext, snocI, snocS, rowSnoc])))
abbrev P_c_iSame (a : Syntax) (b : Syntax) : Ct := ⟨116, [], [syntaxA a, syntaxA b], [], .sv (lb (decide (a.kind = 1) && decide (b.kind = 1) && decide (a.text = b.text) && decide (a.scopes = b.scopes)))⟩
theorem c_iSame (a b : Syntax)  : P_c_iSame a b := fnOK Tryz.call116 Tryz.func116 (.i (a.kind = 1) (.i (b.kind = 1) (.i (a.text.data.toList = b.text.data.toList) (.c [.rd, .rd]
 (c_iSameInts a.scopes b.scopes) (.s (lb (decide (a.scopes = b.scopes))))) (.s (lb false))) (.y false (.s (lb false)))) (.y false (.y false (.s (lb false))))) (by
  dsimp only [teasy, P_c_iSame]
  with_reducible repeat' (first | apply And.intro | exact zR | (intro; skip))
  all_goals (try simp only [std, inj] at *)
  all_goals with_reducible repeat' apply And.intro
  all_goals (try (first | exact z | grind [bytes_ext, snocI, snocS, rowSnoc])))
abbrev P_c_sFind (L : List Capture) (s : Syntax) : Ct := ⟨102, [], [ll (L.map captureC), syntaxA s], [], .sv (li (fnd L s))⟩
def lc_sFindLa (L : List Capture) (s : Syntax) : Lp Nat := .mk 30 0 (fun x => [(3, SV.one (AC.ptr 0 0)), (7, ll (List.map captureC L)), (8, li (↑(List.map captureC L).length :
 Int)), (9, hs x 0)]) (fun x => [Ob.box (vals (syntaxF s))]) (fun k => [.s (li (↑k : Int))]) (fun k => k ≤ L.length ∧ L.length ≤ 9223372036854775807 ∧ (isDots s = true ∨ k ≤ fndN L
 s)) (fun k => L.length - k) [.mk (fnd L s = (-1 : Int)) (.exit 0) (fun x => []) (fun x => []) [], .mk True .ret (fun x => [(4, hs x 0)]) (fun x => []) [.s (li (fnd L s))]]
theorem Sc_sFindLa (L : List Capture) (s : Syntax) : Lp.Sem Tryz.prog (loopAt Tryz.f102 0) (lc_sFindLa L s) := lpOK (fun k => .i ((↑k : Int) < (↑(List.map captureC L).length :
 Int)) (.x (↑k : Int) (List.map captureC L) (captureF (L.getD k default)) (.c [.rd, .rd] (c_sSame (L.getD k default).name s) (.b (decide ((L.getD k default).name.text = s.text) &&
 decide ((L.getD k default).name.scopes = s.scopes)) (.c [.rd] (c_sDots s) (.b (!isDots s) (.c [.rd] (c_sIsId (L.getD k default).name) (.b (decide ((L.getD k default).name.kind =
 1) && isSyn (L.getD k default).name) (.o 1 [] [.s (li (↑k : Int))]) (.r ((↑k : Int) + 1) (.g [0] (k + 1) [.s (li ((↑k : Int) + 1))])))) (.y false (.r ((↑k : Int) + 1) (.g [0] (k +
 1) [.s (li ((↑k : Int) + 1))]))))) (.y false (.y false (.r ((↑k : Int) + 1) (.g [0] (k + 1) [.s (li ((↑k : Int) + 1))]))))))) (.o 0 [] [])) (by
  intro k h; try dsimp only [teasy, nthW, lc_sFindLa] at h ⊢
  have g1 := @fndN_at L s k
  have g2 := @fndN_next L s k
  have g3 := fndN_le L s
  with_reducible repeat' (first | apply And.intro | exact zR | (intro; skip))
  all_goals (try simp only [std, inj] at *)
  all_goals with_reducible repeat' apply And.intro
  all_goals (try (first | exact z | grind [fnd, capFor, isId, snocI, snocS, rowSnoc])))
theorem c_sFind (L : List Capture) (s : Syntax)  : P_c_sFind L s := fnOK Tryz.call102 Tryz.func102 (.z captureC L (.l (lc_sFindLa L s) (Sc_sFindLa L s) [0] [.s (li 0)] 0 (.t (.s (li
 (-1 : Int))) (.t (.s (li (fnd L s))) .q)))) (by
  dsimp only [teasy, P_c_sFind, nthW, lc_sFindLa]
  with_reducible repeat' (first | apply And.intro | exact zR | (intro; skip))
  all_goals (try simp only [std, inj] at *)
  all_goals with_reducible repeat' apply And.intro
  all_goals (try (first | exact z | grind [snocI, snocS, rowSnoc])))
abbrev P_c_iFind (L : List Capture) (s : Syntax) : Ct := ⟨106, [], [ll (L.map captureC), syntaxA s], [], .sv (li (if s.kind = 1 then fnd L s else -1))⟩
def lc_iFindLa (L : List Capture) (s : Syntax) : Lp Nat := .mk 32 0 (fun x => [(3, SV.one (AC.ptr 0 0)), (14, ll (List.map captureC L)), (15, li (↑(List.map captureC L).length :
 Int)), (16, hs x 0)]) (fun x => [Ob.box (vals (syntaxF s))]) (fun k => [.s (li (↑k : Int))]) (fun k => k ≤ L.length ∧ L.length ≤ 9223372036854775807 ∧ k ≤ fndN L s ∧ s.kind = 1 ∧
 isDots s = false) (fun k => L.length - k) [.mk (fnd L s = (-1 : Int)) (.exit 0) (fun x => []) (fun x => []) [], .mk True .ret (fun x => [(4, hs x 0)]) (fun x => []) [.s (li (fnd L
 s))]]
theorem Sc_iFindLa (L : List Capture) (s : Syntax) : Lp.Sem Tryz.prog (loopAt Tryz.f106 0) (lc_iFindLa L s) := lpOK (fun k => .i ((↑k : Int) < (↑(List.map captureC L).length :
 Int)) (.x (↑k : Int) (List.map captureC L) (captureF (L.getD k default)) (.c [.rd] (c_iIsId (L.getD k default).name) (.b (decide ((L.getD k default).name.kind = 1) && isSyn
 (L.getD k default).name) (.c [.rd, .rd] (c_iSame (L.getD k default).name s) (.b (decide ((L.getD k default).name.kind = 1) && decide (s.kind = 1) && decide ((L.getD k
 default).name.text = s.text) && decide ((L.getD k default).name.scopes = s.scopes)) (.o 1 [] [.s (li (↑k : Int))]) (.r ((↑k : Int) + 1) (.g [0] (k + 1) [.s (li ((↑k : Int) +
 1))])))) (.y false (.r ((↑k : Int) + 1) (.g [0] (k + 1) [.s (li ((↑k : Int) + 1))])))))) (.o 0 [] [])) (by
  intro k h; try dsimp only [teasy, nthW, lc_iFindLa] at h ⊢
  have g1 := @fndN_at L s k
  have g2 := @fndN_next L s k
  have g3 := fndN_le L s
  with_reducible repeat' (first | apply And.intro | exact zR | (intro; skip) | apply c_iIsId)
  all_goals (try simp only [std, inj] at *)
  all_goals with_reducible repeat' apply And.intro
  all_goals (try (first | with_reducible apply c_iIsId | (simp only [← List.map_append]; first | with_reducible apply c_iIsId)))
  all_goals (try (first | exact z | grind [fnd, capFor, isId, snocI, snocS, rowSnoc])))
theorem c_iFind (L : List Capture) (s : Syntax)  : P_c_iFind L s := fnOK Tryz.call106 Tryz.func106 (.i (s.kind ≠ 1) (.y true (.s (li (-1 : Int)))) (.c [.rd] (c_iDots s) (.b (isDots
 s) (.s (li (-1 : Int))) (.z captureC L (.l (lc_iFindLa L s) (Sc_iFindLa L s) [0] [.s (li 0)] 0 (.t (.s (li (-1 : Int))) (.t (.s (li (fnd L s))) .q))))))) (by
  dsimp only [teasy, P_c_iFind, nthW, lc_iFindLa]
  with_reducible repeat' (first | apply And.intro | exact zR | (intro; skip) | apply c_iIsId)
  all_goals (try simp only [std, inj] at *)
  all_goals with_reducible repeat' apply And.intro
  all_goals (try (first | with_reducible apply c_iIsId | (simp only [← List.map_append]; first | with_reducible apply c_iIsId)))
  all_goals (try (first | exact z | grind [fnd, snocI, snocS, rowSnoc])))
def capD (L : List Capture) (s : Syntax) : Int := (L.getD (fnd L s).toNat default).depth
mutual
/-- is there a name of a deeper capture? -/
def drv (L : List Capture) (v : Int) : Syntax → Bool
  | ⟨k, n, t, s, l⟩ => if k = 1 then decide (0 ≤ fnd L ⟨k, n, t, s, l⟩) && decide (v < capD L ⟨k, n, t, s, l⟩) else drvs L v l
def drvs (L : List Capture) (v : Int) : List Syntax → Bool
  | [] => false
  | x :: r => drv L v x || drvs L v r
end
theorem drvs_eq (L : List Capture) (v : Int) : ∀ l, drvs L v l = l.any (drv L v)
  | [] => by simp [drvs]
  | x :: r => by rw [drvs, drvs_eq L v r]; rfl
theorem drv_eq (L : List Capture) (v : Int) (t : Syntax) : drv L v t = if t.kind = 1 then decide (0 ≤ fnd L t) && decide (v < capD L t) else t.items.any (drv L v) := by cases t; simp only [drv, drvs_eq]
mutual
/-- the reference's test of a template -/
def fit (L : List Capture) : Syntax → Int → Bool
  | ⟨k, n, t, s, l⟩, v => if k = 1 then !isDots ⟨k, n, t, s, l⟩ && (decide (fnd L ⟨k, n, t, s, l⟩ < 0) || decide (capD L ⟨k, n, t, s, l⟩ ≤ v)) else fits L l v
def fits (L : List Capture) : List Syntax → Int → Bool
  | [], _ => true
  | [x], v => fit L x v
  | x :: y :: r, v => if isDots y then !isDots x && drv L v x && fit L x (v + 1) && fits L r v else fit L x v && fits L (y :: r) v
end
theorem fit_eq (L : List Capture) (t : Syntax) (v : Int) : fit L t v = if t.kind = 1 then !isDots t && (decide (fnd L t < 0) || decide (capD L t ≤ v)) else fits L t.items v := by cases t; simp only [fit]
theorem fits_last {L : List Capture} {l : List Syntax} {k : Nat} {v : Int} (h : k + 1 = l.length) : fits L (l.drop k) v = fit L (l.getD k default) v := by
  rw [drop_get (by omega), List.drop_eq_nil_of_le (by omega), fits]
theorem fits_plain {L : List Capture} {l : List Syntax} {k : Nat} {v : Int} (h : k + 1 < l.length) (hd : isDots (l.getD (k + 1) default) = false) : fits L (l.drop k) v = (fit L (l.getD k default) v && fits L (l.drop (k + 1)) v) := by
  rw [drop_get (by omega : k < l.length), drop_get h, fits, hd]; rfl
theorem fits_dots {L : List Capture} {l : List Syntax} {k : Nat} {v : Int} (h : k + 1 < l.length) (hd : isDots (l.getD (k + 1) default) = true) : fits L (l.drop k) v = (!isDots (l.getD k default) && drv L v (l.getD k default) && fit L (l.getD k default) (v + 1) && fits L (l.drop (k + 1 + 1)) v) := by
  rw [drop_get (by omega : k < l.length), drop_get h, fits, hd]; rfl
theorem fits_end {L : List Capture} {l : List Syntax} {k : Nat} {v : Int} (h : l.length ≤ k) : fits L (l.drop k) v = true := by
  rw [List.drop_eq_nil_of_le h, fits]
theorem depY_item {t : Syntax} {k : Nat} (h : k < t.items.length) : depY (t.items.getD k default) + 1 ≤ depY t := by
  have := maxBy_mem depY (getD_mem' h)
  rw [depY_eq t]; omega
abbrev P_c_sDrv (L : List Capture) (t : Syntax) (v : Int) : Ct := ⟨104, [], [ll (L.map captureC), syntaxA t, li v], [], .sv (lb (drv L v t))⟩
def lc_sDrv_sLa (L : List Capture) (t : Syntax) (v : Int) : Lp Nat := .mk 39 0 (fun x => [(0, ll (List.map captureC L)), (2, li v), (28, ll (List.map syntaxC t.items)), (29, li
 (↑(List.map syntaxC t.items).length : Int)), (30, hs x 0)]) (fun x => []) (fun k => [.s (li (↑k : Int))]) (fun k => k ≤ t.items.length ∧ t.items.length ≤ 9223372036854775807 ∧
 (List.take k t.items).any (drv L v) = false) (fun k => t.items.length - k) [.mk (t.items.any (drv L v) = false) (.exit 0) (fun x => []) (fun x => []) [], .mk (t.items.any (drv L
 v) = true) .ret (fun x => [(6, hs x 0)]) (fun x => []) [.s (lb true)]]
theorem Sc_sDrv_sLa (L : List Capture) (t : Syntax) (v : Int) (ih : ∀ (z : Syntax), z ∈ t.items → ∀ (L : List Capture) (v : Int), OK (P_c_sDrv L z v)) : Lp.Sem Tryz.prog (loopAt
 Tryz.f104 0) (lc_sDrv_sLa L t v) := lpOK (fun k => .i ((↑k : Int) < (↑(List.map syntaxC t.items).length : Int)) (.x (↑k : Int) (List.map syntaxC t.items) (syntaxF (t.items.getD k
 default)) (.d [.rd, .rd, .rd] (P_c_sDrv L (t.items.getD k default) v) (.b (drv L v (t.items.getD k default)) (.o 1 [] [.s (lb true)]) (.r ((↑k : Int) + 1) (.g [] (k + 1) [.s (li
 ((↑k : Int) + 1))]))))) (.o 0 [] [])) (by
  intro k h; try dsimp only [teasy, nthW, lc_sDrv_sLa] at h ⊢
  with_reducible repeat' (first | apply And.intro | exact zR | exact ih | (intro; skip) | apply ih)
  all_goals (try simp only [std, inj] at *)
  all_goals with_reducible repeat' apply And.intro
  all_goals (try (first | with_reducible apply ih | (simp only [← List.map_append]; first | with_reducible apply ih)))
  all_goals (try (first | exact z | grind [take_get, getD_mem', snocI, snocS, rowSnoc])))
theorem c_sDrv_s (L : List Capture) (t : Syntax) (v : Int) (ih : ∀ z ∈ t.items, ∀ (L : List Capture) (v : Int), P_c_sDrv L z v)  : P_c_sDrv L t v := fnOK Tryz.call104 Tryz.func104
 (.i (t.kind = 1) (.c [.rd, .rd] (c_sFind L t) (.i (0 ≤ fnd L t) (.x (fnd L t) (List.map captureC L) (captureF (L.getD (fnd L t).toNat default)) (.s (lb (decide (v < (L.getD (fnd L
 t).toNat default).depth))))) (.s (lb false)))) (.z syntaxC t.items (.l (lc_sDrv_sLa L t v) (Sc_sDrv_sLa L t v ih) [] [.s (li 0)] 0 (.t (.s (lb false)) (.t (.s (lb true)) .q)))))
 (by
  dsimp only [teasy, P_c_sDrv, nthW, lc_sDrv_sLa]
  have g := fnd_lt L t
  with_reducible repeat' (first | apply And.intro | exact zR | exact ih | (intro; skip))
  all_goals (try simp only [std, inj] at *)
  all_goals with_reducible repeat' apply And.intro
  all_goals (try (first | with_reducible apply ih | (simp only [← List.map_append]; first | with_reducible apply ih)))
  all_goals (try (first | exact z | grind [drv_eq, capD, snocI, snocS, rowSnoc])))
theorem c_sDrv (t : Syntax) : ∀ (L : List Capture) (v : Int), P_c_sDrv L t v := Syntax.ind (P := fun t => ∀ (L : List Capture) (v : Int), P_c_sDrv L t v) (fun t ih L v => c_sDrv_s L t v ih) t
abbrev P_c_sFit (L : List Capture) (t : Syntax) (v : Int) : Ct := ⟨42, [], [ll (L.map captureC), syntaxA t, li v], [], .sv (lb (fit L t v))⟩
def lc_sFit_sLa (L : List Capture) (t : Syntax) (v : Int) : Lp Nat := .mk 79 0 (fun x => [(0, ll (List.map captureC L)), (2, li v), (4, SV.one (AC.ptr 0 0)), (8, hs x 0)]) (fun x
 => [Ob.box (vals (syntaxF t))]) (fun k => [.s (li (↑k : Int))]) (fun k => t.items.length ≥ k ∧ fits L t.items v = fits L (List.drop k t.items) v) (fun k => t.items.length - k)
 [.mk (fits L t.items v = true) (.exit 0) (fun x => []) (fun x => []) [], .mk (fits L t.items v = false) .ret (fun x => [(6, hs x 0)]) (fun x => []) [.s (lb false)]]
theorem Sc_sFit_sLa (L : List Capture) (t : Syntax) (v : Int) (h : 0 ≤ v ∧ v + (↑(depY t) : Int) ≤ 1000) (ih : ∀ (z : Syntax), z ∈ t.items → ∀ (L : List Capture) (v : Int), 0 ≤ v ∧
 v + (↑(depY z) : Int) ≤ 1000 → OK (P_c_sFit L z v)) : Lp.Sem Tryz.prog (loopAt Tryz.f42 0) (lc_sFit_sLa L t v) := lpOK (fun k => .z syntaxC t.items (.i ((↑k : Int) < (↑(List.map
 syntaxC t.items).length : Int)) (.x (↑k : Int) (List.map syntaxC t.items) (syntaxF (t.items.getD k default)) (.r ((↑k : Int) + 1) (.z syntaxC t.items (.i ((↑k : Int) + 1 <
 (↑(List.map syntaxC t.items).length : Int)) (.r ((↑k : Int) + 1) (.x ((↑k : Int) + 1) (List.map syntaxC t.items) (syntaxF (t.items.getD (k + 1) default)) (.c [.rd] (c_sDots
 (t.items.getD (k + 1) default)) (.b (isDots (t.items.getD (k + 1) default)) (.c [.rd] (c_sDots (t.items.getD k default)) (.b (isDots (t.items.getD k default)) (.y true (.o 1 []
 [.s (lb false)])) (.c [.rd, .rd, .rd] (c_sDrv (t.items.getD k default) L v) (.b (!drv L v (t.items.getD k default)) (.o 1 [] [.s (lb false)]) (.r (v + 1) (.r ((↑k : Int) + 1) (.d
 [.rd, .rd, .rd] (P_c_sFit L (t.items.getD k default) (v + 1)) (.b (!fit L (t.items.getD k default) (v + 1)) (.o 1 [] [.s (lb false)]) (.r ((↑k : Int) + 1 + 1) (.g [0] (k + 1 + 1)
 [.s (li ((↑k : Int) + 1 + 1))])))))))))) (.d [.rd, .rd, .rd] (P_c_sFit L (t.items.getD k default) v) (.b (!fit L (t.items.getD k default) v) (.o 1 [] [.s (lb false)]) (.r ((↑k :
 Int) + 1) (.g [0] (k + 1) [.s (li ((↑k : Int) + 1))])))))))) (.y false (.d [.rd, .rd, .rd] (P_c_sFit L (t.items.getD k default) v) (.b (!fit L (t.items.getD k default) v) (.o 1 []
 [.s (lb false)]) (.r ((↑k : Int) + 1) (.g [0] (k + 1) [.s (li ((↑k : Int) + 1))]))))))))) (.o 0 [] []))) (by
  intro k h; try dsimp only [teasy, nthW, lc_sFit_sLa] at h ⊢
  have g1 := @fits_last L t.items k v
  have g2 := @fits_plain L t.items k v
  have g3 := @fits_dots L t.items k v
  have g4 := @fits_end L t.items k v
  have g5 := @depY_item t k
  have g6 := @fits_end L t.items (k + 1) v
  with_reducible repeat' (first | apply And.intro | exact zR | exact ih | (intro; skip) | apply ih)
  all_goals (try simp only [std, inj] at *)
  all_goals with_reducible repeat' apply And.intro
  all_goals (try (first | with_reducible apply ih | (simp only [← List.map_append]; first | with_reducible apply ih)))
  all_goals (try (first | exact z | grind [getD_mem', snocI, snocS, rowSnoc])))
theorem c_sFit_s (L : List Capture) (t : Syntax) (v : Int) (h : 0 ≤ v ∧ v + depY t ≤ 1000) (ih : ∀ z ∈ t.items, ∀ (L : List Capture) (v : Int) (h : 0 ≤ v ∧ v + depY z ≤ 1000),
 P_c_sFit L z v)  : P_c_sFit L t v := fnOK Tryz.call42 Tryz.func42 (.i (t.kind = 1) (.c [.rd, .rd] (c_sFind L t) (.c [.rd] (c_sDots t) (.b (!isDots t) (.i (fnd L t < 0) (.s (lb
 true)) (.x (fnd L t) (List.map captureC L) (captureF (L.getD (fnd L t).toNat default)) (.s (lb (decide ((L.getD (fnd L t).toNat default).depth ≤ v)))))) (.s (lb false))))) (.l
 (lc_sFit_sLa L t v) (Sc_sFit_sLa L t v h ih) [0] [.s (li 0)] 0 (.t (.s (lb true)) (.t (.s (lb false)) .q)))) (by
  dsimp only [teasy, P_c_sFit, nthW, lc_sFit_sLa]
  have g := fnd_lt L t
  with_reducible repeat' (first | apply And.intro | exact zR | exact ih | (intro; skip))
  all_goals (try simp only [std, inj] at *)
  all_goals with_reducible repeat' apply And.intro
  all_goals (try (first | with_reducible apply ih | (simp only [← List.map_append]; first | with_reducible apply ih)))
  all_goals (try (first | exact z | grind [fit_eq, capD, snocI, snocS, rowSnoc])))
theorem c_sFit (t : Syntax) : ∀ (L : List Capture) (v : Int) (h : 0 ≤ v ∧ v + depY t ≤ 1000), P_c_sFit L t v := Syntax.ind (P := fun t => ∀ (L : List Capture) (v : Int) (h : 0 ≤ v ∧ v + depY t ≤ 1000), P_c_sFit L t v) (fun t ih L v h => c_sFit_s L t v h ih) t
def tmF (L : List Capture) (t : Syntax) : Bool := L.all (fun x => isId x.name && decide (0 ≤ x.depth)) && isSyn t && fit L t 0
abbrev P_c_sTem (L : List Capture) (t : Syntax) : Ct := ⟨10, [], [ll (L.map captureC), syntaxA t], [], .sv (lb (tmF L t))⟩
def lc_sTemLa (L : List Capture) (t : Syntax) : Lp Nat := .mk 30 0 (fun x => [(0, ll (List.map captureC L)), (3, SV.one (AC.ptr 0 0)), (7, ll (List.map captureC L)), (8, li
 (↑(List.map captureC L).length : Int)), (9, hs x 0)]) (fun x => [Ob.box (vals (syntaxF t))]) (fun k => [.s (li (↑k : Int))]) (fun k => k ≤ L.length ∧ L.length ≤
 9223372036854775807 ∧ ((List.take k L).all fun x => isId x.name && decide (0 ≤ x.depth)) = true) (fun k => L.length - k) [.mk ((L.all fun x => isId x.name && decide (0 ≤ x.depth))
 = true) (.exit 0) (fun x => [(0, ll (List.map captureC L)), (3, SV.one (AC.ptr 0 0))]) (fun x => [Ob.box (vals (syntaxF t))]) [], .mk ((L.all fun x => isId x.name && decide (0 ≤
 x.depth)) = false) .ret (fun x => [(4, hs x 0)]) (fun x => []) [.s (lb false)]]
theorem Sc_sTemLa (L : List Capture) (t : Syntax) : Lp.Sem Tryz.prog (loopAt Tryz.f10 0) (lc_sTemLa L t) := lpOK (fun k => .i ((↑k : Int) < (↑(List.map captureC L).length : Int))
 (.x (↑k : Int) (List.map captureC L) (captureF (L.getD k default)) (.c [.rd] (c_sIsId (L.getD k default).name) (.b (!(decide ((L.getD k default).name.kind = 1) && isSyn (L.getD k
 default).name)) (.y true (.o 1 [] [.s (lb false)])) (.i ((L.getD k default).depth < 0) (.o 1 [] [.s (lb false)]) (.r ((↑k : Int) + 1) (.g [0] (k + 1) [.s (li ((↑k : Int) +
 1))])))))) (.o 0 [0] [])) (by
  intro k h; try dsimp only [teasy, nthW, lc_sTemLa] at h ⊢
  with_reducible repeat' (first | apply And.intro | exact zR | (intro; skip) | apply c_sFit)
  all_goals (try simp only [std, inj] at *)
  all_goals with_reducible repeat' apply And.intro
  all_goals (try (first | with_reducible apply c_sFit | (simp only [← List.map_append]; first | with_reducible apply c_sFit)))
  all_goals (try (first | exact z | grind [take_get, isId, getD_mem', snocI, snocS, rowSnoc])))
theorem c_sTem (L : List Capture) (t : Syntax)  : P_c_sTem L t := fnOK Tryz.call10 Tryz.func10 (.z captureC L (.l (lc_sTemLa L t) (Sc_sTemLa L t) [0] [.s (li 0)] 0 (.t (.c [.rd]
 (c_sIsSyntax t) (.b (isSyn t) (.d [.rd, .rd, .rd] (P_c_sFit L t 0) (.s (lb (fit L t 0)))) (.s (lb false)))) (.t (.s (lb false)) .q)))) (by
  dsimp only [teasy, P_c_sTem, nthW, lc_sTemLa]
  with_reducible repeat' (first | apply And.intro | exact zR | (intro; skip) | apply c_sFit)
  all_goals (try simp only [std, inj] at *)
  all_goals with_reducible repeat' apply And.intro
  all_goals (try (first | with_reducible apply c_sFit | (simp only [← List.map_append]; first | with_reducible apply c_sFit)))
  all_goals (try (first | exact z | grind [tmF, isSyn, snocI, snocS, rowSnoc])))
mutual
def dotf : Syntax → Bool
  | ⟨k, n, t, s, l⟩ => !isDots ⟨k, n, t, s, l⟩ && dotfs true l
def dotfs : Bool → List Syntax → Bool
  | _, [] => true
  | b, x :: r => if isDots x then !b && dotfs true r else dotf x && dotfs false r
end
theorem dotf_eq (t : Syntax) : dotf t = (!isDots t && dotfs true t.items) := by cases t; simp only [dotf]
def barred (l : List Syntax) (k : Nat) : Bool := decide (k = 0) || isDots (l.getD (k - 1) default)
theorem dotfs_step {l : List Syntax} {b : Bool} {k : Nat} (h : k < l.length) : dotfs b (l.drop k) = if isDots (l.getD k default) then !b && dotfs true (l.drop (k + 1)) else dotf (l.getD k default) && dotfs false (l.drop (k + 1)) := by
  rw [drop_get h, dotfs]
theorem dotfs_end {l : List Syntax} {b : Bool} {k : Nat} (h : l.length ≤ k) : dotfs b (l.drop k) = true := by
  rw [List.drop_eq_nil_of_le h, dotfs]
abbrev P_c_iDotsFit (t : Syntax) : Ct := ⟨44, [], [syntaxA t], [], .sv (lb (dotf t))⟩
def lc_iDotsFit_sLa (t : Syntax) : Lp Nat := .mk 32 0 (fun x => [(1, SV.one (AC.ptr 0 0)), (8, ll (List.map syntaxC t.items)), (9, li (↑(List.map syntaxC t.items).length : Int)),
 (10, hs x 0)]) (fun x => [Ob.box (vals (syntaxF t))]) (fun k => [.s (li (↑k : Int))]) (fun k => k ≤ t.items.length ∧ t.items.length ≤ 9223372036854775807 ∧ dotfs true t.items =
 dotfs (barred t.items k) (List.drop k t.items)) (fun k => t.items.length - k) [.mk (dotfs true t.items = true) (.exit 0) (fun x => []) (fun x => []) [], .mk (dotfs true t.items =
 false) .ret (fun x => [(2, hs x 0)]) (fun x => []) [.s (lb false)]]
theorem Sc_iDotsFit_sLa (t : Syntax) (ih : ∀ (z : Syntax), z ∈ t.items → OK (P_c_iDotsFit z)) : Lp.Sem Tryz.prog (loopAt Tryz.f44 0) (lc_iDotsFit_sLa t) := lpOK (fun k => .i ((↑k :
 Int) < (↑(List.map syntaxC t.items).length : Int)) (.x (↑k : Int) (List.map syntaxC t.items) (syntaxF (t.items.getD k default)) (.c [.rd] (c_iDots (t.items.getD k default)) (.b
 (isDots (t.items.getD k default)) (.i ((↑k : Int) = 0) (.y true (.o 1 [] [.s (lb false)])) (.r ((↑k : Int) - 1) (.x ((↑k : Int) - 1) (List.map syntaxC t.items) (syntaxF
 (t.items.getD ((↑k : Int) - 1).toNat default)) (.c [.rd] (c_iDots (t.items.getD ((↑k : Int) - 1).toNat default)) (.b (isDots (t.items.getD ((↑k : Int) - 1).toNat default)) (.o 1
 [] [.s (lb false)]) (.r ((↑k : Int) + 1) (.g [0] (k + 1) [.s (li ((↑k : Int) + 1))]))))))) (.d [.rd] (P_c_iDotsFit (t.items.getD k default)) (.b (!dotf (t.items.getD k default))
 (.o 1 [] [.s (lb false)]) (.r ((↑k : Int) + 1) (.g [0] (k + 1) [.s (li ((↑k : Int) + 1))]))))))) (.o 0 [] [])) (by
  intro k h; try dsimp only [teasy, nthW, lc_iDotsFit_sLa] at h ⊢
  have g1 := @dotfs_step t.items (barred t.items k) k
  have g2 := @dotfs_end t.items (barred t.items k) k
  have e : ((k : Int) - 1).toNat = k - 1 := by omega
  have g3 : barred t.items k = (decide (k = 0) || isDots (t.items.getD (k - 1) default)) := rfl
  have g4 : barred t.items (k + 1) = isDots (t.items.getD k default) := by simp [barred]
  with_reducible repeat' (first | apply And.intro | exact zR | exact ih | (intro; skip) | apply ih)
  all_goals (try simp only [std, inj] at *)
  all_goals with_reducible repeat' apply And.intro
  all_goals (try (first | with_reducible apply ih | (simp only [← List.map_append]; first | with_reducible apply ih)))
  all_goals (try (first | exact z | grind [getD_mem', snocI, snocS, rowSnoc])))
theorem c_iDotsFit_s (t : Syntax) (ih : ∀ z ∈ t.items, P_c_iDotsFit z)  : P_c_iDotsFit t := fnOK Tryz.call44 Tryz.func44 (.c [.rd] (c_iDots t) (.b (isDots t) (.s (lb false)) (.z
 syntaxC t.items (.l (lc_iDotsFit_sLa t) (Sc_iDotsFit_sLa t ih) [0] [.s (li 0)] 0 (.t (.s (lb true)) (.t (.s (lb false)) .q)))))) (by
  dsimp only [teasy, P_c_iDotsFit, nthW, lc_iDotsFit_sLa]
  with_reducible repeat' (first | apply And.intro | exact zR | exact ih | (intro; skip))
  all_goals (try simp only [std, inj] at *)
  all_goals with_reducible repeat' apply And.intro
  all_goals (try (first | with_reducible apply ih | (simp only [← List.map_append]; first | with_reducible apply ih)))
  all_goals (try (first | exact z | grind [dotf_eq, barred, snocI, snocS, rowSnoc])))
theorem c_iDotsFit (t : Syntax) : P_c_iDotsFit t := Syntax.ind (P := fun t => P_c_iDotsFit t) (fun t ih => c_iDotsFit_s t ih) t
mutual
def dee (L : List Capture) : Syntax → Int
  | ⟨k, n, t, s, l⟩ => dees L l (if k = 1 ∧ 0 ≤ fnd L ⟨k, n, t, s, l⟩ then capD L ⟨k, n, t, s, l⟩ else -1)
def dees (L : List Capture) : List Syntax → Int → Int
  | [], b => b
  | x :: r, b => dees L r (max b (dee L x))
end
theorem dees_eq (L : List Capture) : ∀ l b, dees L l b = l.foldl (fun b x => max b (dee L x)) b
  | [], _ => by rw [dees]; rfl
  | x :: r, b => by rw [dees, dees_eq L r]; rfl
def dee0 (L : List Capture) (t : Syntax) : Int := if t.kind = 1 ∧ 0 ≤ fnd L t then capD L t else -1
theorem dee_eq (L : List Capture) (t : Syntax) : dee L t = t.items.foldl (fun b x => max b (dee L x)) (dee0 L t) := by cases t; simp only [dee, dees_eq, dee0]
abbrev P_c_iDeep (L : List Capture) (t : Syntax) : Ct := ⟨218, [], [ll (L.map captureC), syntaxA t], [], .sv (li (dee L t))⟩
def lc_iDeep_sLa (L : List Capture) (t : Syntax) : Lp Nat := .mk 33 0 (fun x => [(0, ll (List.map captureC L)), (5, hs x 1), (20, ll (List.map syntaxC t.items)), (21, li
 (↑(List.map syntaxC t.items).length : Int)), (22, hs x 0)]) (fun x => []) (fun k => [.s (li (↑k : Int)), .s (li (List.foldl (fun b x => max b (dee L x)) (dee0 L t) (List.take k
 t.items)))]) (fun k => k ≤ t.items.length ∧ t.items.length ≤ 9223372036854775807) (fun k => t.items.length - k) [.mk True (.exit 0) (fun x => [(5, hs x 0)]) (fun x => []) [.s (li
 (dee L t))]]
theorem Sc_iDeep_sLa (L : List Capture) (t : Syntax) (ih : ∀ (z : Syntax), z ∈ t.items → ∀ (L : List Capture), OK (P_c_iDeep L z)) : Lp.Sem Tryz.prog (loopAt Tryz.f218 0)
 (lc_iDeep_sLa L t) := lpOK (fun k => .i ((↑k : Int) < (↑(List.map syntaxC t.items).length : Int)) (.x (↑k : Int) (List.map syntaxC t.items) (syntaxF (t.items.getD k default)) (.d
 [.rd, .rd] (P_c_iDeep L (t.items.getD k default)) (.r ((↑k : Int) + 1) (.g [] (k + 1) [.s (li ((↑k : Int) + 1)), .s (li (max (List.foldl (fun b x => max b (dee L x)) (dee0 L t)
 (List.take k t.items)) (dee L (t.items.getD k default))))])))) (.o 0 [] [.s (li (List.foldl (fun b x => max b (dee L x)) (dee0 L t) (List.take k t.items)))])) (by
  intro k h; try dsimp only [teasy, nthW, lc_iDeep_sLa] at h ⊢
  with_reducible repeat' (first | apply And.intro | exact zR | exact ih | (intro; skip) | apply ih)
  all_goals (try simp only [std, inj] at *)
  all_goals with_reducible repeat' apply And.intro
  all_goals (try (first | with_reducible apply ih | (simp only [← List.map_append]; first | with_reducible apply ih)))
  all_goals (try (first | exact z | grind [foldl_step, getD_mem', dee_eq, snocI, snocS, rowSnoc])))
theorem c_iDeep_s (L : List Capture) (t : Syntax) (ih : ∀ z ∈ t.items, ∀ (L : List Capture), P_c_iDeep L z)  : P_c_iDeep L t := fnOK Tryz.call218 Tryz.func218 (.c [.rd, .rd] (c_iFind
 L t) (.i (0 ≤ if t.kind = 1 then fnd L t else (-1 : Int)) (.x (if t.kind = 1 then fnd L t else (-1 : Int)) (List.map captureC L) (captureF (L.getD (if t.kind = 1 then fnd L t else
 (-1 : Int)).toNat default)) (.z syntaxC t.items (.l (lc_iDeep_sLa L t) (Sc_iDeep_sLa L t ih) [] [.s (li 0), .s (li (L.getD (if t.kind = 1 then fnd L t else (-1 : Int)).toNat
 default).depth)] 0 (.t (.s (li (dee L t))) .q)))) (.z syntaxC t.items (.l (lc_iDeep_sLa L t) (Sc_iDeep_sLa L t ih) [] [.s (li 0), .s (li (-1 : Int))] 0 (.t (.s (li (dee L t)))
 .q))))) (by
  dsimp only [teasy, P_c_iDeep, nthW, lc_iDeep_sLa]
  have g := fnd_lt L t
  with_reducible repeat' (first | apply And.intro | exact zR | exact ih | (intro; skip))
  all_goals (try simp only [std, inj] at *)
  all_goals with_reducible repeat' apply And.intro
  all_goals (try (first | with_reducible apply ih | (simp only [← List.map_append]; first | with_reducible apply ih)))
  all_goals (try (first | exact z | grind [dee0, capD, snocI, snocS, rowSnoc])))
theorem c_iDeep (t : Syntax) : ∀ (L : List Capture), P_c_iDeep L t := Syntax.ind (P := fun t => ∀ (L : List Capture), P_c_iDeep L t) (fun t ih L => c_iDeep_s L t ih) t
mutual
def tfit (L : List Capture) : Syntax → Int → Bool
  | ⟨k, n, t, s, l⟩, v => if k = 1 ∧ 0 ≤ fnd L ⟨k, n, t, s, l⟩ then decide (capD L ⟨k, n, t, s, l⟩ ≤ v) else tfits L l v
def tfits (L : List Capture) : List Syntax → Int → Bool
  | [], _ => true
  | [x], v => if isDots x then true else tfit L x v
  | x :: y :: r, v => if isDots x then tfits L (y :: r) v else if isDots y then decide (v < dee L x) && tfit L x (v + 1) && tfits L (y :: r) v else tfit L x v && tfits L (y :: r) v
end
theorem tfit_eq (L : List Capture) (t : Syntax) (v : Int) : tfit L t v = if t.kind = 1 ∧ 0 ≤ fnd L t then decide (capD L t ≤ v) else tfits L t.items v := by cases t; simp only [tfit]
theorem tfits_last {L : List Capture} {l : List Syntax} {k : Nat} {v : Int} (h : k + 1 = l.length) : tfits L (l.drop k) v = if isDots (l.getD k default) then true else tfit L (l.getD k default) v := by
  rw [drop_get (by omega), List.drop_eq_nil_of_le (by omega), tfits]
theorem tfits_step {L : List Capture} {l : List Syntax} {k : Nat} {v : Int} (h : k + 1 < l.length) : tfits L (l.drop k) v = if isDots (l.getD k default) then tfits L (l.drop (k + 1)) v else
    if isDots (l.getD (k + 1) default) then decide (v < dee L (l.getD k default)) && tfit L (l.getD k default) (v + 1) && tfits L (l.drop (k + 1)) v else tfit L (l.getD k default) v && tfits L (l.drop (k + 1)) v := by
  rw [drop_get (by omega : k < l.length), drop_get h, tfits]
theorem tfits_end {L : List Capture} {l : List Syntax} {k : Nat} {v : Int} (h : l.length ≤ k) : tfits L (l.drop k) v = true := by
  rw [List.drop_eq_nil_of_le h, tfits]
abbrev P_c_iTFit (L : List Capture) (t : Syntax) (v : Int) : Ct := ⟨173, [], [ll (L.map captureC), syntaxA t, li v], [], .sv (lb (tfit L t v))⟩
def lc_iTFit_sLa (L : List Capture) (t : Syntax) (v : Int) : Lp Nat := .mk 62 0 (fun x => [(0, ll (List.map captureC L)), (2, li v), (4, SV.one (AC.ptr 0 0)), (24, ll (List.map
 syntaxC t.items)), (25, li (↑(List.map syntaxC t.items).length : Int)), (26, hs x 0)]) (fun x => [Ob.box (vals (syntaxF t))]) (fun k => [.s (li (↑k : Int))]) (fun k => k ≤
 t.items.length ∧ t.items.length ≤ 9223372036854775807 ∧ tfits L t.items v = tfits L (List.drop k t.items) v) (fun k => t.items.length - k) [.mk (tfits L t.items v = true) (.exit
 0) (fun x => []) (fun x => []) [], .mk (tfits L t.items v = false) .ret (fun x => [(6, hs x 0)]) (fun x => []) [.s (lb false)]]
theorem Sc_iTFit_sLa (L : List Capture) (t : Syntax) (v : Int) (h : 0 ≤ v ∧ v + (↑(depY t) : Int) ≤ 1000) (ih : ∀ (z : Syntax), z ∈ t.items → ∀ (L : List Capture) (v : Int), 0 ≤ v
 ∧ v + (↑(depY z) : Int) ≤ 1000 → OK (P_c_iTFit L z v)) : Lp.Sem Tryz.prog (loopAt Tryz.f173 0) (lc_iTFit_sLa L t v) := lpOK (fun k => .i ((↑k : Int) < (↑(List.map syntaxC
 t.items).length : Int)) (.x (↑k : Int) (List.map syntaxC t.items) (syntaxF (t.items.getD k default)) (.c [.rd] (c_iDots (t.items.getD k default)) (.b (isDots (t.items.getD k
 default)) (.r ((↑k : Int) + 1) (.g [0] (k + 1) [.s (li ((↑k : Int) + 1))])) (.r ((↑k : Int) + 1) (.z syntaxC t.items (.i ((↑k : Int) + 1 < (↑(List.map syntaxC t.items).length :
 Int)) (.r ((↑k : Int) + 1) (.x ((↑k : Int) + 1) (List.map syntaxC t.items) (syntaxF (t.items.getD (k + 1) default)) (.c [.rd] (c_iDots (t.items.getD (k + 1) default)) (.b (isDots
 (t.items.getD (k + 1) default)) (.c [.rd, .rd] (c_iDeep (t.items.getD k default) L) (.i (dee L (t.items.getD k default) ≤ v) (.o 1 [] [.s (lb false)]) (.r (v + 1) (.d [.rd, .rd,
 .rd] (P_c_iTFit L (t.items.getD k default) (v + 1)) (.b (!tfit L (t.items.getD k default) (v + 1)) (.o 1 [] [.s (lb false)]) (.r ((↑k : Int) + 1) (.g [0] (k + 1) [.s (li ((↑k :
 Int) + 1))]))))))) (.d [.rd, .rd, .rd] (P_c_iTFit L (t.items.getD k default) v) (.b (!tfit L (t.items.getD k default) v) (.o 1 [] [.s (lb false)]) (.r ((↑k : Int) + 1) (.g [0] (k
 + 1) [.s (li ((↑k : Int) + 1))])))))))) (.y false (.d [.rd, .rd, .rd] (P_c_iTFit L (t.items.getD k default) v) (.b (!tfit L (t.items.getD k default) v) (.o 1 [] [.s (lb false)])
 (.r ((↑k : Int) + 1) (.g [0] (k + 1) [.s (li ((↑k : Int) + 1))]))))))))))) (.o 0 [] [])) (by
  intro k h; try dsimp only [teasy, nthW, lc_iTFit_sLa] at h ⊢
  have g1 := @tfits_last L t.items k v
  have g2 := @tfits_step L t.items k v
  have g3 := @tfits_end L t.items (k + 1) v
  have g4 := @tfits_end L t.items k v
  have g5 := @depY_item t k
  with_reducible repeat' (first | apply And.intro | exact zR | exact ih | (intro; skip) | apply ih)
  all_goals (try simp only [std, inj] at *)
  all_goals with_reducible repeat' apply And.intro
  all_goals (try (first | with_reducible apply ih | (simp only [← List.map_append]; first | with_reducible apply ih)))
  all_goals (try (first | exact z | grind [getD_mem', snocI, snocS, rowSnoc])))
theorem c_iTFit_s (L : List Capture) (t : Syntax) (v : Int) (h : 0 ≤ v ∧ v + depY t ≤ 1000) (ih : ∀ z ∈ t.items, ∀ (L : List Capture) (v : Int) (h : 0 ≤ v ∧ v + depY z ≤ 1000),
 P_c_iTFit L z v)  : P_c_iTFit L t v := fnOK Tryz.call173 Tryz.func173 (.c [.rd, .rd] (c_iFind L t) (.i (0 ≤ if t.kind = 1 then fnd L t else (-1 : Int)) (.x (if t.kind = 1 then fnd L
 t else (-1 : Int)) (List.map captureC L) (captureF (L.getD (if t.kind = 1 then fnd L t else (-1 : Int)).toNat default)) (.s (lb (decide ((L.getD (if t.kind = 1 then fnd L t else
 (-1 : Int)).toNat default).depth ≤ v))))) (.z syntaxC t.items (.l (lc_iTFit_sLa L t v) (Sc_iTFit_sLa L t v h ih) [0] [.s (li 0)] 0 (.t (.s (lb true)) (.t (.s (lb false)) .q))))))
 (by
  dsimp only [teasy, P_c_iTFit, nthW, lc_iTFit_sLa]
  have g := fnd_lt L t
  with_reducible repeat' (first | apply And.intro | exact zR | exact ih | (intro; skip))
  all_goals (try simp only [std, inj] at *)
  all_goals with_reducible repeat' apply And.intro
  all_goals (try (first | with_reducible apply ih | (simp only [← List.map_append]; first | with_reducible apply ih)))
  all_goals (try (first | exact z | grind [tfit_eq, capD, snocI, snocS, rowSnoc])))
theorem c_iTFit (t : Syntax) : ∀ (L : List Capture) (v : Int) (h : 0 ≤ v ∧ v + depY t ≤ 1000), P_c_iTFit L t v := Syntax.ind (P := fun t => ∀ (L : List Capture) (v : Int) (h : 0 ≤ v ∧ v + depY t ≤ 1000), P_c_iTFit L t v) (fun t ih L v h => c_iTFit_s L t v h ih) t
theorem foldl_max (f : Syntax → Int) (v : Int) : ∀ (l : List Syntax) (b : Int), v < l.foldl (fun b x => max b (f x)) b ↔ v < b ∨ ∃ x ∈ l, v < f x
  | [], b => by simp
  | x :: r, b => by
    rw [List.foldl_cons, foldl_max f v r]
    have e : v < max b (f x) ↔ v < b ∨ v < f x := by omega
    simp only [List.mem_cons, exists_eq_or_imp, e, or_assoc]
theorem okY_sym {t : Syntax} (h : okY t = true) (hk : t.kind = 1) : t.items = [] := by
  rw [okY_eq] at h
  simp only [nodY0, nodD, Bool.and_eq_true, Bool.or_eq_true, decide_eq_true_eq] at h
  have : t.items.length = 0 := by omega
  exact List.length_eq_zero_iff.1 this
theorem okY_item {t : Syntax} (h : okY t = true) : ∀ x ∈ t.items, okY x = true := by
  rw [okY_eq, Bool.and_eq_true, List.all_eq_true] at h; exact h.1
theorem drv_dee (L : List Capture) (v : Int) (hv : 0 ≤ v) : ∀ t : Syntax, okY t = true → (drv L v t = decide (v < dee L t)) := by
  refine Syntax.ind fun t ih h => ?_
  rw [Bool.eq_iff_iff, decide_eq_true_eq, drv_eq, dee_eq, foldl_max]
  by_cases hk : t.kind = 1
  · rw [if_pos hk, okY_sym h hk]
    simp only [Bool.and_eq_true, decide_eq_true_eq, List.not_mem_nil, false_and, exists_false, or_false, dee0, hk, true_and]
    split <;> omega
  · rw [if_neg hk, List.any_eq_true]
    have : ¬ v < dee0 L t := by unfold dee0; rw [if_neg (by omega)]; omega
    constructor
    · rintro ⟨x, hx, e⟩
      exact .inr ⟨x, hx, by have := ih x hx (okY_item h x hx); rw [e] at this; exact of_decide_eq_true this.symm⟩
    · rintro (e | ⟨x, hx, e⟩)
      · exact absurd e this
      · exact ⟨x, hx, by rw [ih x hx (okY_item h x hx)]; exact decide_eq_true e⟩
theorem fit_dots {L : List Capture} {x : Syntax} {v : Int} (h : isDots x = true) : fit L x v = false := by
  have hk : x.kind = 1 := by simp only [isDots, Bool.and_eq_true, decide_eq_true_eq] at h; exact h.1
  rw [fit_eq, if_pos hk, h]; rfl
theorem dotfs_flag {x : Syntax} {r : List Syntax} {b : Bool} (h : isDots x = false) : dotfs b (x :: r) = dotfs true (x :: r) := by simp only [dotfs, h]; rfl
theorem fits_all (L : List Capture) : ∀ (l : List Syntax), (∀ x ∈ l, okY x = true ∧ ∀ v, 0 ≤ v → fit L x v = (dotf x && tfit L x v)) → ∀ v, 0 ≤ v → fits L l v = (dotfs true l && tfits L l v)
  | [], _, v, _ => by simp [fits, dotfs, tfits]
  | [x], h, v, hv => by
    rw [fits, tfits, dotfs]
    have h1 := (h x List.mem_cons_self).2 v hv
    by_cases e : isDots x = true
    · rw [if_pos e, if_pos e, fit_dots e]; rfl
    · rw [if_neg e, if_neg e, h1]; simp [dotfs]
  | x :: y :: r, h, v, hv => by
    have hx := h x List.mem_cons_self
    have h1 := hx.2 v hv
    have h2 := hx.2 (v + 1) (by omega)
    have ihr := fits_all L r (fun z hz => h z (List.mem_cons_of_mem _ (List.mem_cons_of_mem _ hz))) v hv
    have ihy := fits_all L (y :: r) (fun z hz => h z (List.mem_cons_of_mem _ hz)) v hv
    have hd := drv_dee L v hv x hx.1
    rw [fits, tfits]
    by_cases ey : isDots y = true
    · rw [if_pos ey]
      by_cases ex : isDots x = true
      · rw [ex, dotfs, if_pos ex]; simp
      · have ex' : isDots x = false := by simpa using ex
        have hy : dotfs false (y :: r) = dotfs true r := by rw [dotfs, if_pos ey]; rfl
        have hyt : tfits L (y :: r) v = tfits L r v := by
          cases r with
          | nil => simp only [tfits, if_pos ey]
          | cons z r => rw [tfits, if_pos ey]
        rw [if_neg ex, if_pos ey, dotfs, if_neg ex, hy, hyt, ihr, hd, h2, ex']
        cases dotf x <;> cases dotfs true r <;> cases decide (v < dee L x) <;> cases tfit L x (v + 1) <;> cases tfits L r v <;> rfl
    · have ey' : isDots y = false := by simpa using ey
      rw [if_neg ey]
      by_cases ex : isDots x = true
      · rw [fit_dots ex, dotfs, if_pos ex]; simp
      · rw [if_neg ex, if_neg ey, dotfs, if_neg ex, dotfs_flag ey', ihy, h1]
        cases dotf x <;> cases dotfs true (y :: r) <;> cases tfit L x v <;> cases tfits L (y :: r) v <;> rfl
theorem fit_all (L : List Capture) : ∀ t : Syntax, okY t = true → ∀ v, 0 ≤ v → fit L t v = (dotf t && tfit L t v) := by
  refine Syntax.ind fun t ih h v hv => ?_
  rw [fit_eq, dotf_eq, tfit_eq]
  by_cases hk : t.kind = 1
  · rw [if_pos hk, okY_sym h hk]
    by_cases h0 : 0 ≤ fnd L t
    · rw [if_pos ⟨hk, h0⟩, decide_eq_false (by omega : ¬ fnd L t < 0)]; simp [dotfs]
    · rw [if_neg (fun e => h0 e.2), decide_eq_true (by omega : fnd L t < 0)]; simp [dotfs, tfits]
  · have hd : isDots t = false := by simp [isDots, hk]
    rw [if_neg hk, if_neg (fun e => hk e.1), hd, fits_all L t.items (fun x hx => ⟨okY_item h x hx, fun v hv => ih x hx (okY_item h x hx) v hv⟩) v hv]
    simp
theorem tmF_eq (L : List Capture) (t : Syntax) : tmF L t = (L.all (fun x => isId x.name && decide (0 ≤ x.depth)) && (isSyn t && (dotf t && tfit L t 0))) := by
  unfold tmF
  by_cases h : isSyn t = true
  · have h2 : okY t = true := by simp only [isSyn, Bool.and_eq_true] at h; exact h.2
    rw [fit_all L t h2 0 (Int.le_refl _), Bool.and_assoc]
  · have : isSyn t = false := by simpa using h
    rw [this]; simp
abbrev P_c_iTem (L : List Capture) (t : Syntax) : Ct := ⟨110, [], [ll (L.map captureC), syntaxA t], [], .sv (lb (tmF L t))⟩
def lc_iTemLa (L : List Capture) (t : Syntax) : Lp Nat := .mk 34 0 (fun x => [(0, ll (List.map captureC L)), (3, SV.one (AC.ptr 0 0)), (7, ll (List.map captureC L)), (8, li
 (↑(List.map captureC L).length : Int)), (9, hs x 0)]) (fun x => [Ob.box (vals (syntaxF t))]) (fun k => [.s (li (↑k : Int))]) (fun k => k ≤ L.length ∧ L.length ≤
 9223372036854775807 ∧ ((List.take k L).all fun x => isId x.name && decide (0 ≤ x.depth)) = true) (fun k => L.length - k) [.mk ((L.all fun x => isId x.name && decide (0 ≤ x.depth))
 = true) (.exit 0) (fun x => [(0, ll (List.map captureC L)), (3, SV.one (AC.ptr 0 0))]) (fun x => [Ob.box (vals (syntaxF t))]) [], .mk ((L.all fun x => isId x.name && decide (0 ≤
 x.depth)) = false) .ret (fun x => [(4, hs x 0)]) (fun x => []) [.s (lb false)]]
theorem Sc_iTemLa (L : List Capture) (t : Syntax) : Lp.Sem Tryz.prog (loopAt Tryz.f110 0) (lc_iTemLa L t) := lpOK (fun k => .i ((↑k : Int) < (↑(List.map captureC L).length : Int))
 (.x (↑k : Int) (List.map captureC L) (captureF (L.getD k default)) (.c [.rd] (c_iIsId (L.getD k default).name) (.b (!(decide ((L.getD k default).name.kind = 1) && isSyn (L.getD k
 default).name)) (.y true (.o 1 [] [.s (lb false)])) (.i ((L.getD k default).depth < 0) (.o 1 [] [.s (lb false)]) (.r ((↑k : Int) + 1) (.g [0] (k + 1) [.s (li ((↑k : Int) +
 1))])))))) (.o 0 [0] [])) (by
  intro k h; try dsimp only [teasy, nthW, lc_iTemLa] at h ⊢
  with_reducible repeat' (first | apply And.intro | exact zR | (intro; skip) | apply c_iIsId | apply c_iTFit)
  all_goals (try simp only [std, inj] at *)
  all_goals with_reducible repeat' apply And.intro
  all_goals (try (first | with_reducible apply c_iIsId | with_reducible apply c_iTFit | (simp only [← List.map_append]; first | with_reducible apply c_iIsId | with_reducible apply c_iTFit)))
  all_goals (try (first | exact z | grind [take_get, isId, getD_mem', snocI, snocS, rowSnoc])))
theorem c_iTem (L : List Capture) (t : Syntax)  : P_c_iTem L t := fnOK Tryz.call110 Tryz.func110 (.z captureC L (.l (lc_iTemLa L t) (Sc_iTemLa L t) [0] [.s (li 0)] 0 (.t (.c [.rd]
 (c_iIsSyntax t) (.b (isSyn t) (.c [.rd] (c_iDotsFit t) (.b (dotf t) (.d [.rd, .rd, .rd] (P_c_iTFit L t 0) (.s (lb (tfit L t 0)))) (.s (lb false)))) (.y false (.s (lb false)))))
 (.t (.s (lb false)) .q)))) (by
  dsimp only [teasy, P_c_iTem, nthW, lc_iTemLa]
  with_reducible repeat' (first | apply And.intro | exact zR | (intro; skip) | apply c_iIsId | apply c_iTFit)
  all_goals (try simp only [std, inj] at *)
  all_goals with_reducible repeat' apply And.intro
  all_goals (try (first | with_reducible apply c_iIsId | with_reducible apply c_iTFit | (simp only [← List.map_append]; first | with_reducible apply c_iIsId | with_reducible apply c_iTFit)))
  all_goals (try (first | exact z | grind [tmF_eq, isSyn, snocI, snocS, rowSnoc])))
end Go.Proofs.YtclpofblehlojaaGreat
end
section
namespace Go.Proofs.YtclpofblehlojaaGreat
open Go Go.Proofs.YtclpofblehlojaaGreat.Ab
set_option linter.unusedVariables false
set_option linter.unusedSimpArgs false
set_option maxHeartbeats 4000000
theorem fx_at {α : Type} [Inhabited α] {p : α → Bool} {L : List α} {k : Nat} (hk : k < L.length) (hb : k ≤ L.findIdx p) (h : p (L.getD k default) = true) : L.findIdx p = k := by
  have h1 : L.getD k default = L[k] := by simp [hk]
  rw [h1] at h
  rcases Nat.lt_or_ge k (L.findIdx p) with h2 | h2
  · have := List.not_of_lt_findIdx h2
    simp [h] at this
  · omega
theorem fx_next {α : Type} [Inhabited α] {p : α → Bool} {L : List α} {k : Nat} (hk : k < L.length) (hb : k ≤ L.findIdx p) (h : p (L.getD k default) = false) : k + 1 ≤ L.findIdx p := by
  have h1 : L.getD k default = L[k] := by simp [hk]
  rw [h1] at h
  rcases Nat.lt_or_ge k (L.findIdx p) with h2 | h2
  · exact h2
  · have e : L.findIdx p = k := by omega
    have h3 := List.findIdx_getElem (p := p) (xs := L) (w := by omega)
    simp only [e, h] at h3
    exact absurd h3 (by decide)
abbrev P_c_yInts (L : List Int) : Ct := ⟨61, [], [ll (L.map intC)], [.arr true 1 (L.map intC)], .sv (.one (.ref 0))⟩
theorem c_yInts (L : List Int) (h : L.length ≤ 2147483647)  : P_c_yInts L := fnOK Tryz.call61 Tryz.func61 (.w (.bool false) (.p (∀ (e : List Cell), e ∈ List.map intC L → ∀ (c :
 Cell), c ∈ e → ∃ v, c = Cell.lit v) (.p (∀ (e : List Cell), e ∈ List.map intC L → e.length = 1) (.p ((0 + (List.map intC L).length) * 8 ≤ 140737488355328) (.f [1] [Ob.arr true 1
 (List.map intC L)] (AV.sv (SV.one (AC.ref 0)))))))) (by
  dsimp only [teasy, P_c_yInts]
  with_reducible repeat' (first | apply And.intro | exact zR | (intro; skip))
  all_goals (try simp only [std, inj] at *)
  all_goals with_reducible repeat' apply And.intro
  all_goals (try (first | exact z | grind [snocI, snocS, rowSnoc])))
abbrev P_c_yIInts (L : List Int) : Ct := ⟨68, [], [ll (L.map intC)], [.arr true 1 (L.map intC)], .sv (.one (.ref 0))⟩
theorem c_yIInts (L : List Int) (h : L.length ≤ 2147483647)  : P_c_yIInts L := fnOK Tryz.call68 Tryz.func68 (.w (.bool true) (.p (∀ (e : List Cell), e ∈ List.map intC L → ∀ (c :
 Cell), c ∈ e → ∃ v, c = Cell.lit v) (.p (∀ (e : List Cell), e ∈ List.map intC L → e.length = 1) (.p ((0 + (List.map intC L).length) * 8 ≤ 140737488355328) (.f [0] [Ob.arr true 1
 (List.map intC L)] (AV.sv (SV.one (AC.ref 0)))))))) (by
  dsimp only [teasy, P_c_yIInts]
  with_reducible repeat' (first | apply And.intro | exact zR | (intro; skip))
  all_goals (try simp only [std, inj] at *)
  all_goals with_reducible repeat' apply And.intro
  all_goals (try (first | exact z | grind [snocI, snocS, rowSnoc])))
abbrev P_c_sMap (s : Syntax) : Ct := ⟨171, [], [syntaxA s, li 0, li 0], syntaxO s, .sv (syntaxR s 0)⟩
def lc_sMap_sLa (s : Syntax) : Lp Nat := .mk 62 0 (fun x => [(1, li 0), (2, li 0), (6, SV.one (AC.ptr 0 0)), (7, SV.one (AC.ptr 1 0)), (45, ll (List.map syntaxC s.items)), (46, li
 (↑(List.map syntaxC s.items).length : Int)), (47, hs x 0)]) (fun x => [Ob.box [vI 0, vI 0, vS (ByteArray.mk #[]), AC.val (Cell.lit (Value.slice none 0 0)), AC.val (Cell.lit
 (Value.slice none 0 0))], Ob.box [vI s.kind, vI s.number, vS s.text, AC.ref 2, AC.ref 3], Ob.arr true 1 (List.map intC s.scopes), ho x 1]) (fun k => [.s (li (↑k : Int)), .o
 (Ob.arr true 5 (List.map syntaxC (List.take k s.items)))]) (fun k => k ≤ s.items.length ∧ s.items.length ≤ 9223372036854775807) (fun k => s.items.length - k) [.mk True (.exit 1)
 (fun x => [(6, SV.one (AC.ptr 0 0)), (7, SV.one (AC.ptr 1 0))]) (fun x => [Ob.box [vI 0, vI 0, vS (ByteArray.mk #[]), AC.val (Cell.lit (Value.slice none 0 0)), AC.val (Cell.lit
 (Value.slice none 0 0))], Ob.box [vI s.kind, vI s.number, vS s.text, AC.ref 2, AC.ref 3], Ob.arr true 1 (List.map intC s.scopes), ho x 0]) [.o (Ob.arr true 5 (List.map syntaxC
 s.items))]]
theorem Sc_sMap_sLa (s : Syntax) (h : wY s ≤ 1000000000) (ih : ∀ (z : Syntax), z ∈ s.items → wY z ≤ 1000000000 → OK (P_c_sMap z)) : Lp.Sem Tryz.prog (loopAt Tryz.f171 0)
 (lc_sMap_sLa s) := lpOK (fun k => .i ((↑k : Int) < (↑(List.map syntaxC s.items).length : Int)) (.x (↑k : Int) (List.map syntaxC s.items) (syntaxF (s.items.getD k default)) (.w
 (.draw [(6, [5, 6]), (7, [3, 13]), (9, [1])]) (.d [.rd, .rd, .rd] (P_c_sMap (s.items.getD k default)) (.p (((List.map syntaxC (List.take k s.items)).length + 1) * 80 ≤
 140737488355328) (.r ((↑k : Int) + 1) (.g [0, 1, 2, 14] (k + 1) [.s (li ((↑k : Int) + 1)), .o (Ob.arr true 5 (List.map syntaxC (List.take k s.items) ++ [syntaxF (s.items.getD k
 default)]))])))))) (.o 0 [0, 1, 2, 3] [.o (Ob.arr true 5 (List.map syntaxC (List.take k s.items)))])) (by
  intro k h; try dsimp only [teasy, nthW, lc_sMap_sLa] at h ⊢
  have g1 := wY_eq s
  have g2 := @sumBy_mem _ wY s.items (s.items.getD k default)
  with_reducible repeat' (first | apply And.intro | exact zR | exact ih | (intro; skip) | apply c_yInts | apply ih)
  all_goals (try simp only [std, inj] at *)
  all_goals with_reducible repeat' apply And.intro
  all_goals (try (first | with_reducible apply c_yInts | with_reducible apply ih | (simp only [← List.map_append]; first | with_reducible apply c_yInts | with_reducible apply ih)))
  all_goals (try (first | exact z | grind [take_get, getD_mem', snocI, snocS, rowSnoc, getD_mem'])))
theorem c_sMap_s (s : Syntax) (h : wY s ≤ 1000000000) (ih : ∀ z ∈ s.items, ∀ (h : wY z ≤ 1000000000), P_c_sMap z)  : P_c_sMap s := fnOK Tryz.call171 Tryz.func171 (.w (.draw [(11,
 [10])]) (.d [.rd] (P_c_yInts s.scopes) (.i (s.kind = 1) (.y false (.y false (.y false (.z syntaxC s.items (.w (.ghost (.nilbox 10 4 true 5)) (.l (lc_sMap_sLa s) (Sc_sMap_sLa s h
 ih) [1, 10, 2, 11] [.s (li 0), .o (Ob.arr true 5 [])] 0 (.t (.f [2, 3] [Ob.arr true 1 (List.map intC s.scopes), Ob.arr true 5 (List.map syntaxC s.items)] (AV.sv (SV.agg [vI
 s.kind, vI s.number, vS s.text, AC.ref 0, AC.ref 1]))) .q))))))) (.z syntaxC s.items (.w (.ghost (.nilbox 10 4 true 5)) (.l (lc_sMap_sLa s) (Sc_sMap_sLa s h ih) [1, 10, 2, 11] [.s
 (li 0), .o (Ob.arr true 5 [])] 0 (.t (.f [2, 3] [Ob.arr true 1 (List.map intC s.scopes), Ob.arr true 5 (List.map syntaxC s.items)] (AV.sv (SV.agg [vI s.kind, vI s.number, vS
 s.text, AC.ref 0, AC.ref 1]))) .q))))))) (by
  dsimp only [teasy, P_c_sMap, nthW, lc_sMap_sLa]
  have g1 := wY_eq s
  with_reducible repeat' (first | apply And.intro | exact zR | exact ih | (intro; skip) | apply c_yInts)
  all_goals (try simp only [std, inj] at *)
  all_goals with_reducible repeat' apply And.intro
  all_goals (try (first | with_reducible apply c_yInts | with_reducible apply ih | (simp only [← List.map_append]; first | with_reducible apply c_yInts | with_reducible apply ih)))
  all_goals (try (first | exact z | grind [snocI, snocS, rowSnoc])))
theorem c_sMap (s : Syntax) : ∀ (h : wY s ≤ 1000000000), P_c_sMap s := Syntax.ind (P := fun s => ∀ (h : wY s ≤ 1000000000), P_c_sMap s) (fun s ih h => c_sMap_s s h ih) s
abbrev P_c_sCopyY (s : Syntax) : Ct := ⟨99, [], [syntaxA s], syntaxO s, .sv (syntaxR s 0)⟩
theorem c_sCopyY (s : Syntax) (h : wY s ≤ 1000000000)  : P_c_sCopyY s := fnOK Tryz.call99 Tryz.func99 (.d [.rd, .rd, .rd] (P_c_sMap s) (.f [2, 3] [Ob.arr true 1 (List.map intC
 s.scopes), Ob.arr true 5 (List.map syntaxC s.items)] (AV.sv (SV.agg [vI s.kind, vI s.number, vS s.text, AC.ref 0, AC.ref 1])))) (by
  dsimp only [teasy, P_c_sCopyY]
  with_reducible repeat' (first | apply And.intro | exact zR | (intro; skip) | apply c_sMap)
  all_goals (try simp only [std, inj] at *)
  all_goals with_reducible repeat' apply And.intro
  all_goals (try (first | with_reducible apply c_sMap | (simp only [← List.map_append]; first | with_reducible apply c_sMap)))
  all_goals (try (first | exact z | grind [snocI, snocS, rowSnoc])))
def fnA (f : FuncId) : SV := .one (.val (.lit (.func (.func f) #[] #[])))
abbrev P_c_iMap (s : Syntax) : Ct := ⟨168, [], [syntaxA s, fnA 68], syntaxO s, .sv (syntaxR s 0)⟩
def lc_iMap_sLa (s : Syntax) : Lp Nat := .mk 43 0 (fun x => [(1, SV.one (AC.val (Cell.lit (Value.func (Fn.func 68) #[] #[])))), (4, SV.one (AC.ptr 0 0)), (5, SV.one (AC.ptr 1 0)),
 (27, ll (List.map syntaxC s.items)), (28, li (↑(List.map syntaxC s.items).length : Int)), (29, hs x 0)]) (fun x => [Ob.box [vI 0, vI 0, vS (ByteArray.mk #[]), AC.val (Cell.lit
 (Value.slice none 0 0)), AC.val (Cell.lit (Value.slice none 0 0))], Ob.box [vI s.kind, vI s.number, vS s.text, AC.ref 2, AC.ref 3], Ob.arr true 1 (List.map intC s.scopes), ho x
 1]) (fun k => [.s (li (↑k : Int)), .o (Ob.arr true 5 (List.map syntaxC (List.take k s.items)))]) (fun k => k ≤ s.items.length ∧ s.items.length ≤ 9223372036854775807) (fun k =>
 s.items.length - k) [.mk True (.exit 0) (fun x => [(4, SV.one (AC.ptr 0 0)), (5, SV.one (AC.ptr 1 0))]) (fun x => [Ob.box [vI 0, vI 0, vS (ByteArray.mk #[]), AC.val (Cell.lit
 (Value.slice none 0 0)), AC.val (Cell.lit (Value.slice none 0 0))], Ob.box [vI s.kind, vI s.number, vS s.text, AC.ref 2, AC.ref 3], Ob.arr true 1 (List.map intC s.scopes), ho x
 0]) [.o (Ob.arr true 5 (List.map syntaxC s.items))]]
theorem Sc_iMap_sLa (s : Syntax) (h : wY s ≤ 1000000000) (ih : ∀ (z : Syntax), z ∈ s.items → wY z ≤ 1000000000 → OK (P_c_iMap z)) : Lp.Sem Tryz.prog (loopAt Tryz.f168 0)
 (lc_iMap_sLa s) := lpOK (fun k => .i ((↑k : Int) < (↑(List.map syntaxC s.items).length : Int)) (.x (↑k : Int) (List.map syntaxC s.items) (syntaxF (s.items.getD k default)) (.w
 (.draw [(5, [5, 6]), (6, [3, 13]), (8, [1])]) (.d [.rd, .rd] (P_c_iMap (s.items.getD k default)) (.p (((List.map syntaxC (List.take k s.items)).length + 1) * 80 ≤ 140737488355328)
 (.r ((↑k : Int) + 1) (.g [0, 1, 2, 14] (k + 1) [.s (li ((↑k : Int) + 1)), .o (Ob.arr true 5 (List.map syntaxC (List.take k s.items) ++ [syntaxF (s.items.getD k default)]))]))))))
 (.o 0 [0, 1, 2, 3] [.o (Ob.arr true 5 (List.map syntaxC (List.take k s.items)))])) (by
  intro k h; try dsimp only [teasy, nthW, lc_iMap_sLa] at h ⊢
  have g1 := wY_eq s
  have g2 := @sumBy_mem _ wY s.items (s.items.getD k default)
  with_reducible repeat' (first | apply And.intro | exact zR | exact ih | (intro; skip) | apply c_yIInts | apply ih)
  all_goals (try simp only [std, inj] at *)
  all_goals with_reducible repeat' apply And.intro
  all_goals (try (first | with_reducible apply c_yIInts | with_reducible apply ih | (simp only [← List.map_append]; first | with_reducible apply c_yIInts | with_reducible apply ih)))
  all_goals (try (first | exact z | grind [take_get, getD_mem', snocI, snocS, rowSnoc, getD_mem'])))
theorem c_iMap_s (s : Syntax) (h : wY s ≤ 1000000000) (ih : ∀ z ∈ s.items, ∀ (h : wY z ≤ 1000000000), P_c_iMap z)  : P_c_iMap s := fnOK Tryz.call168 Tryz.func168 (.w (.draw [(11,
 [10])]) (.d [.rd] (P_c_yIInts s.scopes) (.i (s.kind = 1) (.d [.rd] (P_c_yIInts s.scopes) (.z syntaxC s.items (.w (.ghost (.nilbox 10 4 true 5)) (.l (lc_iMap_sLa s) (Sc_iMap_sLa s
 h ih) [1, 10, 11, 12] [.s (li 0), .o (Ob.arr true 5 [])] 0 (.t (.f [2, 3] [Ob.arr true 1 (List.map intC s.scopes), Ob.arr true 5 (List.map syntaxC s.items)] (AV.sv (SV.agg [vI
 s.kind, vI s.number, vS s.text, AC.ref 0, AC.ref 1]))) .q))))) (.z syntaxC s.items (.w (.ghost (.nilbox 10 4 true 5)) (.l (lc_iMap_sLa s) (Sc_iMap_sLa s h ih) [1, 10, 2, 11] [.s
 (li 0), .o (Ob.arr true 5 [])] 0 (.t (.f [2, 3] [Ob.arr true 1 (List.map intC s.scopes), Ob.arr true 5 (List.map syntaxC s.items)] (AV.sv (SV.agg [vI s.kind, vI s.number, vS
 s.text, AC.ref 0, AC.ref 1]))) .q))))))) (by
  dsimp only [teasy, P_c_iMap, nthW, lc_iMap_sLa]
  have g1 := wY_eq s
  with_reducible repeat' (first | apply And.intro | exact zR | exact ih | (intro; skip) | apply c_yIInts)
  all_goals (try simp only [std, inj] at *)
  all_goals with_reducible repeat' apply And.intro
  all_goals (try (first | with_reducible apply c_yIInts | with_reducible apply ih | (simp only [← List.map_append]; first | with_reducible apply c_yIInts | with_reducible apply ih)))
  all_goals (try (first | exact z | grind [snocI, snocS, rowSnoc])))
theorem c_iMap (s : Syntax) : ∀ (h : wY s ≤ 1000000000), P_c_iMap s := Syntax.ind (P := fun s => ∀ (h : wY s ≤ 1000000000), P_c_iMap s) (fun s ih h => c_iMap_s s h ih) s
abbrev P_c_iCopyY (s : Syntax) : Ct := ⟨91, [], [syntaxA s], syntaxO s, .sv (syntaxR s 0)⟩
theorem c_iCopyY (s : Syntax) (h : wY s ≤ 1000000000)  : P_c_iCopyY s := fnOK Tryz.call91 Tryz.func91 (.d [.rd, .rd] (P_c_iMap s) (.f [2, 3] [Ob.arr true 1 (List.map intC s.scopes),
 Ob.arr true 5 (List.map syntaxC s.items)] (AV.sv (SV.agg [vI s.kind, vI s.number, vS s.text, AC.ref 0, AC.ref 1])))) (by
  dsimp only [teasy, P_c_iCopyY]
  with_reducible repeat' (first | apply And.intro | exact zR | (intro; skip) | apply c_iMap)
  all_goals (try simp only [std, inj] at *)
  all_goals with_reducible repeat' apply And.intro
  all_goals (try (first | with_reducible apply c_iMap | (simp only [← List.map_append]; first | with_reducible apply c_iMap)))
  all_goals (try (first | exact z | grind [snocI, snocS, rowSnoc])))
def isUnd (s : Syntax) : Bool := decide (s.text.data.toList = [95])
def litP (x : Syntax) : Bool := isId x && !isDots x && !isUnd x
def okL (L : List Syntax) : Bool := L.all litP && decide ((L.length : Int) ≤ 8)
def hasI (L : List Syntax) (s : Syntax) : Bool := L.any fun x => decide (x.text = s.text) && decide (x.scopes = s.scopes)
def sameB (x s : Syntax) : Bool := decide (x.kind = 1) && decide (s.kind = 1) && decide (x.text = s.text) && decide (x.scopes = s.scopes)
def hasJ (L : List Syntax) (s : Syntax) : Bool := L.any fun x => sameB x s
theorem allS_stop {α : Type} [Inhabited α] {L : List α} {p : α → Bool} {k : Nat} (h : k < L.length) (hp : p (L.getD k default) = false) : L.all p = false := by
  rw [List.all_eq_false]; exact ⟨_, getD_mem' h, by rw [hp]; decide⟩
theorem litP_at (x : Syntax) : litP x = ((decide (x.kind = 1) && isSyn x) && !isDots x && !decide (x.text.data.toList = [95])) := rfl
abbrev P_c_sLits (L : List Syntax) : Ct := ⟨39, [], [ll (L.map syntaxC)], [], .sv (lb (okL L))⟩
def lc_sLitsLa (L : List Syntax) : Lp Nat := .mk 27 0 (fun x => [(0, ll (List.map syntaxC L)), (5, ll (List.map syntaxC L)), (6, li (↑(List.map syntaxC L).length : Int)), (7, hs x
 0)]) (fun x => []) (fun k => [.s (li (↑k : Int))]) (fun k => k ≤ L.length ∧ L.length ≤ 9223372036854775807 ∧ (List.take k L).all litP = true) (fun k => L.length - k) [.mk (L.all
 litP = true) (.exit 0) (fun x => [(0, ll (List.map syntaxC L))]) (fun x => []) [], .mk (L.all litP = false) .ret (fun x => [(2, hs x 0)]) (fun x => []) [.s (lb false)]]
theorem Sc_sLitsLa (L : List Syntax) : Lp.Sem Tryz.prog (loopAt Tryz.f39 0) (lc_sLitsLa L) := lpOK (fun k => .i ((↑k : Int) < (↑(List.map syntaxC L).length : Int)) (.x (↑k : Int)
 (List.map syntaxC L) (syntaxF (L.getD k default)) (.c [.rd] (c_sIsId (L.getD k default)) (.b (!(decide ((L.getD k default).kind = 1) && isSyn (L.getD k default))) (.y true (.y
 true (.o 1 [] [.s (lb false)]))) (.c [.rd] (c_sDots (L.getD k default)) (.b (isDots (L.getD k default)) (.y true (.o 1 [] [.s (lb false)])) (.i ((L.getD k
 default).text.data.toList = [(95 : UInt8)]) (.o 1 [] [.s (lb false)]) (.r ((↑k : Int) + 1) (.g [] (k + 1) [.s (li ((↑k : Int) + 1))])))))))) (.o 0 [] [])) (by
  intro k h; try dsimp only [teasy, nthW, lc_sLitsLa] at h ⊢
  have g1 := @allS_stop _ _ L litP k
  have g2 := litP_at (L.getD k default)
  with_reducible repeat' (first | apply And.intro | exact zR | (intro; skip))
  all_goals (try simp only [std, inj] at *)
  all_goals with_reducible repeat' apply And.intro
  all_goals (try (first | exact z | grind [take_get, snocI, snocS, rowSnoc])))
theorem c_sLits (L : List Syntax)  : P_c_sLits L := fnOK Tryz.call39 Tryz.func39 (.z syntaxC L (.l (lc_sLitsLa L) (Sc_sLitsLa L) [] [.s (li 0)] 0 (.t (.z syntaxC L (.s (lb (decide
 ((↑(List.map syntaxC L).length : Int) ≤ 8))))) (.t (.s (lb false)) .q)))) (by
  dsimp only [teasy, P_c_sLits, nthW, lc_sLitsLa]
  with_reducible repeat' (first | apply And.intro | exact zR | (intro; skip))
  all_goals (try simp only [std, inj] at *)
  all_goals with_reducible repeat' apply And.intro
  all_goals (try (first | exact z | grind [okL, snocI, snocS, rowSnoc])))
abbrev P_c_iWild (s : Syntax) : Ct := ⟨88, [], [syntaxA s], [], .sv (lb (decide (s.kind = 1) && isUnd s))⟩
theorem c_iWild (s : Syntax)  : P_c_iWild s := fnOK Tryz.call88 Tryz.func88 (.i (s.kind = 1) (.s (lb (decide (s.text.data.toList = [(95 : UInt8)])))) (.s (lb false))) (by
  dsimp only [teasy, P_c_iWild]
  with_reducible repeat' (first | apply And.intro | exact zR | (intro; skip))
  all_goals (try simp only [std, inj] at *)
  all_goals with_reducible repeat' apply And.intro
  all_goals (try (first | exact z | grind [isUnd, snocI, snocS, rowSnoc])))
abbrev P_c_iLits (L : List Syntax) : Ct := ⟨86, [], [ll (L.map syntaxC)], [], .sv (lb (okL L))⟩
def lc_iLitsLa (L : List Syntax) : Lp Nat := .mk 26 0 (fun x => [(8, ll (List.map syntaxC L)), (9, li (↑(List.map syntaxC L).length : Int)), (10, hs x 0)]) (fun x => []) (fun k =>
 [.s (li (↑k : Int))]) (fun k => k ≤ L.length ∧ L.length ≤ 9223372036854775807 ∧ (List.take k L).all litP = true) (fun k => L.length - k) [.mk (L.all litP = true) (.exit 0) (fun x
 => []) (fun x => []) [], .mk (L.all litP = false) .ret (fun x => [(2, hs x 0)]) (fun x => []) [.s (lb false)]]
theorem Sc_iLitsLa (L : List Syntax) : Lp.Sem Tryz.prog (loopAt Tryz.f86 0) (lc_iLitsLa L) := lpOK (fun k => .i ((↑k : Int) < (↑(List.map syntaxC L).length : Int)) (.x (↑k : Int)
 (List.map syntaxC L) (syntaxF (L.getD k default)) (.c [.rd] (c_iIsId (L.getD k default)) (.b (!(decide ((L.getD k default).kind = 1) && isSyn (L.getD k default))) (.y true (.y
 true (.o 1 [] [.s (lb false)]))) (.c [.rd] (c_iDots (L.getD k default)) (.b (isDots (L.getD k default)) (.y true (.o 1 [] [.s (lb false)])) (.c [.rd] (c_iWild (L.getD k default))
 (.b (decide ((L.getD k default).kind = 1) && isUnd (L.getD k default)) (.o 1 [] [.s (lb false)]) (.r ((↑k : Int) + 1) (.g [] (k + 1) [.s (li ((↑k : Int) + 1))]))))))))) (.o 0 []
 [])) (by
  intro k h; try dsimp only [teasy, nthW, lc_iLitsLa] at h ⊢
  with_reducible repeat' (first | apply And.intro | exact zR | (intro; skip) | apply c_iIsId | apply c_iDots)
  all_goals (try simp only [std, inj] at *)
  all_goals with_reducible repeat' apply And.intro
  all_goals (try (first | with_reducible apply c_iIsId | with_reducible apply c_iDots | (simp only [← List.map_append]; first | with_reducible apply c_iIsId | with_reducible apply c_iDots)))
  all_goals (try (first | exact z | grind [take_get, litP, isId, getD_mem', snocI, snocS, rowSnoc])))
theorem c_iLits (L : List Syntax)  : P_c_iLits L := fnOK Tryz.call86 Tryz.func86 (.z syntaxC L (.i (8 < (↑(List.map syntaxC L).length : Int)) (.s (lb false)) (.z syntaxC L (.l
 (lc_iLitsLa L) (Sc_iLitsLa L) [] [.s (li 0)] 0 (.t (.s (lb true)) (.t (.s (lb false)) .q)))))) (by
  dsimp only [teasy, P_c_iLits, nthW, lc_iLitsLa]
  with_reducible repeat' (first | apply And.intro | exact zR | (intro; skip) | apply c_iIsId | apply c_iDots)
  all_goals (try simp only [std, inj] at *)
  all_goals with_reducible repeat' apply And.intro
  all_goals (try (first | with_reducible apply c_iIsId | with_reducible apply c_iDots | (simp only [← List.map_append]; first | with_reducible apply c_iIsId | with_reducible apply c_iDots)))
  all_goals (try (first | exact z | grind [okL, snocI, snocS, rowSnoc])))
abbrev P_c_sHasI (L : List Syntax) (s : Syntax) : Ct := ⟨97, [], [ll (L.map syntaxC), syntaxA s], [], .sv (lb (hasI L s))⟩
def lc_sHasILa (L : List Syntax) (s : Syntax) : Lp Nat := .mk 17 0 (fun x => [(3, SV.one (AC.ptr 0 0)), (7, ll (List.map syntaxC L)), (8, li (↑(List.map syntaxC L).length : Int)),
 (9, hs x 0)]) (fun x => [Ob.box (vals (syntaxF s))]) (fun k => [.s (li (↑k : Int))]) (fun k => k ≤ L.length ∧ L.length ≤ 9223372036854775807 ∧ hasI (List.take k L) s = false) (fun
 k => L.length - k) [.mk (hasI L s = false) (.exit 0) (fun x => []) (fun x => []) [], .mk (hasI L s = true) .ret (fun x => [(4, hs x 0)]) (fun x => []) [.s (lb true)]]
theorem Sc_sHasILa (L : List Syntax) (s : Syntax) : Lp.Sem Tryz.prog (loopAt Tryz.f97 0) (lc_sHasILa L s) := lpOK (fun k => .i ((↑k : Int) < (↑(List.map syntaxC L).length : Int))
 (.x (↑k : Int) (List.map syntaxC L) (syntaxF (L.getD k default)) (.c [.rd, .rd] (c_sSame (L.getD k default) s) (.b (decide ((L.getD k default).text = s.text) && decide ((L.getD k
 default).scopes = s.scopes)) (.o 1 [] [.s (lb true)]) (.r ((↑k : Int) + 1) (.g [0] (k + 1) [.s (li ((↑k : Int) + 1))]))))) (.o 0 [] [])) (by
  intro k h; try dsimp only [teasy, nthW, lc_sHasILa] at h ⊢
  with_reducible repeat' (first | apply And.intro | exact zR | (intro; skip))
  all_goals (try simp only [std, inj] at *)
  all_goals with_reducible repeat' apply And.intro
  all_goals (try (first | exact z | grind [take_get, hasI, getD_mem', snocI, snocS, rowSnoc])))
theorem c_sHasI (L : List Syntax) (s : Syntax)  : P_c_sHasI L s := fnOK Tryz.call97 Tryz.func97 (.z syntaxC L (.l (lc_sHasILa L s) (Sc_sHasILa L s) [0] [.s (li 0)] 0 (.t (.s (lb
 false)) (.t (.s (lb true)) .q)))) (by
  dsimp only [teasy, P_c_sHasI, nthW, lc_sHasILa]
  with_reducible repeat' (first | apply And.intro | exact zR | (intro; skip))
  all_goals (try simp only [std, inj] at *)
  all_goals with_reducible repeat' apply And.intro
  all_goals (try (first | exact z | grind [hasI, snocI, snocS, rowSnoc])))
abbrev P_c_iHasJ (L : List Syntax) (s : Syntax) : Ct := ⟨89, [], [ll (L.map syntaxC), syntaxA s], [], .sv (lb (hasJ L s))⟩
def lc_iHasJLa (L : List Syntax) (s : Syntax) : Lp Nat := .mk 17 0 (fun x => [(3, SV.one (AC.ptr 0 0)), (7, ll (List.map syntaxC L)), (8, li (↑(List.map syntaxC L).length : Int)),
 (9, hs x 0)]) (fun x => [Ob.box (vals (syntaxF s))]) (fun k => [.s (li (↑k : Int))]) (fun k => k ≤ L.length ∧ L.length ≤ 9223372036854775807 ∧ hasJ (List.take k L) s = false) (fun
 k => L.length - k) [.mk (hasJ L s = false) (.exit 0) (fun x => []) (fun x => []) [], .mk (hasJ L s = true) .ret (fun x => [(4, hs x 0)]) (fun x => []) [.s (lb true)]]
theorem Sc_iHasJLa (L : List Syntax) (s : Syntax) : Lp.Sem Tryz.prog (loopAt Tryz.f89 0) (lc_iHasJLa L s) := lpOK (fun k => .i ((↑k : Int) < (↑(List.map syntaxC L).length : Int))
 (.x (↑k : Int) (List.map syntaxC L) (syntaxF (L.getD k default)) (.c [.rd, .rd] (c_iSame (L.getD k default) s) (.b (decide ((L.getD k default).kind = 1) && decide (s.kind = 1) &&
 decide ((L.getD k default).text = s.text) && decide ((L.getD k default).scopes = s.scopes)) (.o 1 [] [.s (lb true)]) (.r ((↑k : Int) + 1) (.g [0] (k + 1) [.s (li ((↑k : Int) +
 1))]))))) (.o 0 [] [])) (by
  intro k h; try dsimp only [teasy, nthW, lc_iHasJLa] at h ⊢
  with_reducible repeat' (first | apply And.intro | exact zR | (intro; skip))
  all_goals (try simp only [std, inj] at *)
  all_goals with_reducible repeat' apply And.intro
  all_goals (try (first | exact z | grind [take_get, hasJ, sameB, getD_mem', snocI, snocS, rowSnoc])))
theorem c_iHasJ (L : List Syntax) (s : Syntax)  : P_c_iHasJ L s := fnOK Tryz.call89 Tryz.func89 (.z syntaxC L (.l (lc_iHasJLa L s) (Sc_iHasJLa L s) [0] [.s (li 0)] 0 (.t (.s (lb
 false)) (.t (.s (lb true)) .q)))) (by
  dsimp only [teasy, P_c_iHasJ, nthW, lc_iHasJLa]
  with_reducible repeat' (first | apply And.intro | exact zR | (intro; skip))
  all_goals (try simp only [std, inj] at *)
  all_goals with_reducible repeat' apply And.intro
  all_goals (try (first | exact z | grind [hasJ, snocI, snocS, rowSnoc])))
def atF (l : List Syntax) : Nat → Int
  | 0 => -1
  | k + 1 => if isDots (l.getD k default) = true then (k : Int) else atF l k
def okA (l : List Syntax) : Nat → Bool
  | 0 => true
  | k + 1 => okA l k && (!isDots (l.getD k default) || (decide (k ≠ 0) && decide (atF l k < 0)))
def atS (l : List Syntax) : Int := atF l l.length
def okS (l : List Syntax) : Bool := okA l l.length
theorem okA_le (l : List Syntax) : ∀ (m k : Nat), k ≤ m → okA l m = true → okA l k = true
  | 0, k, h, _ => by
    obtain rfl : k = 0 := by omega
    rfl
  | m + 1, k, h, ht => by
    by_cases e : k = m + 1
    · rw [e]; exact ht
    · refine okA_le l m k (by omega) ?_
      simp only [okA, Bool.and_eq_true] at ht; exact ht.1
def atI (l : List Syntax) : Int := if l.findIdx isDots < l.length then (l.findIdx isDots : Int) else -1
abbrev P_c_sAt (l : List Syntax) : Ct := ⟨103, [], [ll (l.map syntaxC)], [], .tup [li (if okS l = true then atS l else -1), lb (okS l)]⟩
def lc_sAtLa (l : List Syntax) : Lp Nat := .mk 26 0 (fun x => [(4, hs x 1), (7, ll (List.map syntaxC l)), (8, li (↑(List.map syntaxC l).length : Int)), (9, hs x 0)]) (fun x => [])
 (fun k => [.s (li (↑k : Int)), .s (li (atF l k))]) (fun k => k ≤ l.length ∧ l.length ≤ 9223372036854775807 ∧ okA l k = true) (fun k => l.length - k) [.mk (okS l = true) (.exit 0)
 (fun x => [(4, hs x 0)]) (fun x => []) [.s (li (atS l))], .mk (okS l = false) .ret (fun x => [(2, hs x 0), (3, hs x 1)]) (fun x => []) [.s (li (-1 : Int)), .s (lb false)]]
theorem Sc_sAtLa (l : List Syntax) : Lp.Sem Tryz.prog (loopAt Tryz.f103 0) (lc_sAtLa l) := lpOK (fun k => .i ((↑k : Int) < (↑(List.map syntaxC l).length : Int)) (.x (↑k : Int)
 (List.map syntaxC l) (syntaxF (l.getD k default)) (.c [.rd] (c_sDots (l.getD k default)) (.b (!isDots (l.getD k default)) (.r ((↑k : Int) + 1) (.g [] (k + 1) [.s (li ((↑k : Int) +
 1)), .s (li (atF l k))])) (.i ((↑k : Int) = 0) (.y true (.o 1 [] [.s (li (-1 : Int)), .s (lb false)])) (.i (0 ≤ atF l k) (.o 1 [] [.s (li (-1 : Int)), .s (lb false)]) (.r ((↑k :
 Int) + 1) (.g [] (k + 1) [.s (li ((↑k : Int) + 1)), .s (li (↑k : Int))]))))))) (.o 0 [] [.s (li (atF l k))])) (by
  intro k h; try dsimp only [teasy, nthW, lc_sAtLa] at h ⊢
  have g1 := okA_le l l.length (k + 1)
  have g2 : okA l (k + 1) = (okA l k && (!isDots (l.getD k default) || (decide (k ≠ 0) && decide (atF l k < 0)))) := rfl
  have g3 : atF l (k + 1) = if isDots (l.getD k default) = true then (k : Int) else atF l k := rfl
  with_reducible repeat' (first | apply And.intro | exact zR | (intro; skip))
  all_goals (try simp only [std, inj] at *)
  all_goals with_reducible repeat' apply And.intro
  all_goals (try (first | exact z | grind [okS, atS, snocI, snocS, rowSnoc])))
theorem c_sAt (l : List Syntax)  : P_c_sAt l := fnOK Tryz.call103 Tryz.func103 (.z syntaxC l (.l (lc_sAtLa l) (Sc_sAtLa l) [] [.s (li 0), .s (li (-1 : Int))] 0 (.t (.f [] [] (AV.tup
 [li (atS l), lb true])) (.t (.f [] [] (AV.tup [li (-1 : Int), lb false])) .q)))) (by
  dsimp only [teasy, P_c_sAt, nthW, lc_sAtLa]
  with_reducible repeat' (first | apply And.intro | exact zR | (intro; skip))
  all_goals (try simp only [std, inj] at *)
  all_goals with_reducible repeat' apply And.intro
  all_goals (try (first | exact z | grind [okA, atF, snocI, snocS, rowSnoc])))
abbrev P_c_iAt (l : List Syntax) : Ct := ⟨92, [], [ll (l.map syntaxC)], [], .sv (li (atI l))⟩
def lc_iAtLa (l : List Syntax) : Lp Nat := .mk 16 0 (fun x => [(5, ll (List.map syntaxC l)), (6, li (↑(List.map syntaxC l).length : Int)), (7, hs x 0)]) (fun x => []) (fun k => [.s
 (li (↑k : Int))]) (fun k => k ≤ l.length ∧ l.length ≤ 9223372036854775807 ∧ k ≤ List.findIdx isDots l) (fun k => l.length - k) [.mk (atI l = (-1 : Int)) (.exit 0) (fun x => [])
 (fun x => []) [], .mk True .ret (fun x => [(2, hs x 0)]) (fun x => []) [.s (li (atI l))]]
theorem Sc_iAtLa (l : List Syntax) : Lp.Sem Tryz.prog (loopAt Tryz.f92 0) (lc_iAtLa l) := lpOK (fun k => .i ((↑k : Int) < (↑(List.map syntaxC l).length : Int)) (.x (↑k : Int)
 (List.map syntaxC l) (syntaxF (l.getD k default)) (.c [.rd] (c_iDots (l.getD k default)) (.b (isDots (l.getD k default)) (.o 1 [] [.s (li (↑k : Int))]) (.r ((↑k : Int) + 1) (.g []
 (k + 1) [.s (li ((↑k : Int) + 1))]))))) (.o 0 [] [])) (by
  intro k h; try dsimp only [teasy, nthW, lc_iAtLa] at h ⊢
  have g1 := @fx_at _ _ isDots l k
  have g2 := @fx_next _ _ isDots l k
  with_reducible repeat' (first | apply And.intro | exact zR | (intro; skip) | apply c_iDots)
  all_goals (try simp only [std, inj] at *)
  all_goals with_reducible repeat' apply And.intro
  all_goals (try (first | with_reducible apply c_iDots | (simp only [← List.map_append]; first | with_reducible apply c_iDots)))
  all_goals (try (first | exact z | grind [atI, snocI, snocS, rowSnoc])))
theorem c_iAt (l : List Syntax)  : P_c_iAt l := fnOK Tryz.call92 Tryz.func92 (.z syntaxC l (.l (lc_iAtLa l) (Sc_iAtLa l) [] [.s (li 0)] 0 (.t (.s (li (-1 : Int))) (.t (.s (li (atI
 l))) .q)))) (by
  dsimp only [teasy, P_c_iAt, nthW, lc_iAtLa]
  with_reducible repeat' (first | apply And.intro | exact zR | (intro; skip) | apply c_iDots)
  all_goals (try simp only [std, inj] at *)
  all_goals with_reducible repeat' apply And.intro
  all_goals (try (first | with_reducible apply c_iDots | (simp only [← List.map_append]; first | with_reducible apply c_iDots)))
  all_goals (try (first | exact z | grind [snocI, snocS, rowSnoc])))
def wlk (f : Syntax → Int → List Capture → Option (List Capture)) : List Syntax → Int → Int → Int → List Capture → Option (List Capture)
  | [], _, _, _, o => some o
  | x :: r, i, a, d, o => if i = a then wlk f r (i + 1) a d o else match f x (if i + 1 = a then d + 1 else d) o with
    | none => none
    | some o' => wlk f r (i + 1) a d o'
theorem wlk_append (f : Syntax → Int → List Capture → Option (List Capture)) : ∀ (A B : List Syntax) (i a d : Int) (o : List Capture), wlk f (A ++ B) i a d o = match wlk f A i a d o with
    | none => none
    | some o' => wlk f B (i + (A.length : Int)) a d o'
  | [], B, i, a, d, o => by simp [wlk]
  | x :: A, B, i, a, d, o => by
    have e : i + ((x :: A).length : Int) = i + 1 + (A.length : Int) := by simp only [List.length_cons]; omega
    simp only [List.cons_append, wlk, e]
    split
    · exact wlk_append f A B _ a d o
    · split
      · rfl
      · exact wlk_append f A B _ a d _
theorem wlk_step {f : Syntax → Int → List Capture → Option (List Capture)} {l : List Syntax} {k : Nat} {a d : Int} {o o' : List Capture} (h : k < l.length) (e : wlk f (l.take k) 0 a d o = some o') :
    wlk f (l.take (k + 1)) 0 a d o = if (k : Int) = a then some o' else f (l.getD k default) (if (k : Int) + 1 = a then d + 1 else d) o' := by
  rw [take_get h, wlk_append, e]
  have : (0 : Int) + ((l.take k).length : Int) = (k : Int) := by simp; omega
  simp only [this, wlk]
  split
  · rfl
  · cases f (l.getD k default) (if (k : Int) + 1 = a then d + 1 else d) o' <;> rfl
theorem wlk_none {f : Syntax → Int → List Capture → Option (List Capture)} {l : List Syntax} {k : Nat} {a d : Int} {o : List Capture} (e : wlk f (l.take k) 0 a d o = none) : wlk f l 0 a d o = none := by
  have := wlk_append f (l.take k) (l.drop k) 0 a d o
  rw [List.take_append_drop, e] at this; exact this
def cap1 (p : Syntax) (d : Int) : Capture := ⟨p, d, ⟨0, 0, mkS [], [], []⟩, []⟩
mutual
def vrS (Ls : List Syntax) : Syntax → Int → List Capture → Option (List Capture)
  | ⟨k, n, t, s, l⟩, d, o => if k = 1 then (if isUnd ⟨k, n, t, s, l⟩ = true ∨ hasI Ls ⟨k, n, t, s, l⟩ = true then some o else
      if isDots ⟨k, n, t, s, l⟩ = true ∨ 0 ≤ fnd o ⟨k, n, t, s, l⟩ ∨ 3 < d then none else some (o ++ [cap1 ⟨k, n, t, s, l⟩ d]))
    else if okS l = true then vrSs Ls l 0 (atS l) d o else none
def vrSs (Ls : List Syntax) : List Syntax → Int → Int → Int → List Capture → Option (List Capture)
  | [], _, _, _, o => some o
  | x :: r, i, a, d, o => if i = a then vrSs Ls r (i + 1) a d o else match vrS Ls x (if i + 1 = a then d + 1 else d) o with
    | none => none
    | some o' => vrSs Ls r (i + 1) a d o'
end
theorem vrSs_eq (Ls : List Syntax) : ∀ l i a d o, vrSs Ls l i a d o = wlk (vrS Ls) l i a d o
  | [], i, a, d, o => by simp [vrSs, wlk]
  | x :: r, i, a, d, o => by
    simp only [vrSs, wlk, vrSs_eq Ls r]
theorem vrS_eq (Ls : List Syntax) (p : Syntax) (d : Int) (o : List Capture) : vrS Ls p d o = if p.kind = 1 then (if isUnd p = true ∨ hasI Ls p = true then some o else
      if isDots p = true ∨ 0 ≤ fnd o p ∨ 3 < d then none else some (o ++ [cap1 p d]))
    else if okS p.items = true then wlk (vrS Ls) p.items 0 (atS p.items) d o else none := by cases p; simp only [vrS, vrSs_eq]
theorem wlk_len (f : Syntax → Int → List Capture → Option (List Capture)) : ∀ (l : List Syntax), (∀ x ∈ l, ∀ d o o', f x d o = some o' → o'.length ≤ o.length + sizeY x) → ∀ i a d o o', wlk f l i a d o = some o' → o'.length ≤ o.length + sumBy sizeY l
  | [], _, i, a, d, o, o', e => by simp only [wlk, Option.some.injEq] at e; subst e; simp [sumBy]
  | x :: r, h, i, a, d, o, o', e => by
    have ih := wlk_len f r fun y hy => h y (List.mem_cons_of_mem _ hy)
    simp only [wlk] at e
    simp only [sumBy]
    split at e
    · have := ih _ _ _ _ _ e; omega
    · split at e
      · cases e
      · rename_i o1 h1
        have h2 := ih _ _ _ _ _ e
        have h3 := h x List.mem_cons_self _ _ _ h1
        omega
theorem vrS_len (Ls : List Syntax) : ∀ (p : Syntax) (d : Int) (o o' : List Capture), vrS Ls p d o = some o' → o'.length ≤ o.length + sizeY p := by
  refine Syntax.ind fun p ih d o o' e => ?_
  rw [vrS_eq] at e
  rw [sizeY_eq]
  split at e
  · split at e
    · simp only [Option.some.injEq] at e; subst e; omega
    · split at e
      · cases e
      · simp only [Option.some.injEq] at e; subst e; simp
  · split at e
    · have := wlk_len (vrS Ls) p.items (fun x hx d o o' h => ih x hx d o o' h) _ _ _ _ _ e; omega
    · cases e
def vaS (Ls : List Syntax) (p : Syntax) (d : Int) (o : List Capture) (k : Nat) : List Capture := if okS p.items = true then (wlk (vrS Ls) (p.items.take k) 0 (atS p.items) d o).getD [] else o
def vbS (Ls : List Syntax) (p : Syntax) (d : Int) (o : List Capture) (k : Nat) : Bool := okS p.items && (wlk (vrS Ls) (p.items.take k) 0 (atS p.items) d o).isSome
theorem vS_stop {Ls : List Syntax} {p : Syntax} {d : Int} {o : List Capture} {k : Nat} (hk : k ≤ p.items.length) (h : vbS Ls p d o k = false) : vaS Ls p d o k = vaS Ls p d o p.items.length ∧ vbS Ls p d o p.items.length = false := by
  unfold vaS vbS at *
  by_cases e : okS p.items = true
  · rw [e] at h
    cases e2 : wlk (vrS Ls) (p.items.take k) 0 (atS p.items) d o with
    | none => rw [if_pos e, if_pos e, List.take_length, wlk_none e2]; simp
    | some v => rw [e2] at h; cases h
  · have e' : okS p.items = false := by simpa using e
    rw [if_neg e, if_neg e, e']; simp
theorem vS_skip {Ls : List Syntax} {p : Syntax} {d : Int} {o : List Capture} {k : Nat} (hk : k < p.items.length) (h : vbS Ls p d o k = true) (e : (k : Int) = atS p.items) : vaS Ls p d o (k + 1) = vaS Ls p d o k ∧ vbS Ls p d o (k + 1) = true := by
  unfold vaS vbS at *
  simp only [Bool.and_eq_true] at h
  obtain ⟨v, hv⟩ := Option.isSome_iff_exists.1 h.2
  rw [if_pos h.1, if_pos h.1, wlk_step hk hv, if_pos e, hv, h.1]; simp
theorem vS_go {Ls : List Syntax} {p : Syntax} {d : Int} {o : List Capture} {k : Nat} (hk : k < p.items.length) (h : vbS Ls p d o k = true) (e : ¬ (k : Int) = atS p.items) :
    vaS Ls p d o (k + 1) = (vrS Ls (p.items.getD k default) (if (k : Int) + 1 = atS p.items then d + 1 else d) (vaS Ls p d o k)).getD [] ∧ vbS Ls p d o (k + 1) = (vrS Ls (p.items.getD k default) (if (k : Int) + 1 = atS p.items then d + 1 else d) (vaS Ls p d o k)).isSome := by
  unfold vaS vbS at *
  simp only [Bool.and_eq_true] at h
  obtain ⟨v, hv⟩ := Option.isSome_iff_exists.1 h.2
  rw [if_pos h.1, if_pos h.1, wlk_step hk hv, if_neg e, hv, h.1]; simp
theorem vS_len {Ls : List Syntax} {p : Syntax} {d : Int} {o : List Capture} {k : Nat} (h : vbS Ls p d o k = true) : (vaS Ls p d o k).length ≤ o.length + sumBy sizeY (p.items.take k) := by
  unfold vaS vbS at *
  simp only [Bool.and_eq_true] at h
  obtain ⟨v, hv⟩ := Option.isSome_iff_exists.1 h.2
  rw [if_pos h.1, hv]
  exact wlk_len (vrS Ls) _ (fun x _ d o o' h => vrS_len Ls x d o o' h) _ _ _ _ _ hv
theorem vS_ok {Ls : List Syntax} {p : Syntax} {d : Int} {o : List Capture} {k : Nat} (h : vbS Ls p d o k = true) : okS p.items = true := by
  unfold vbS at h; simp only [Bool.and_eq_true] at h; exact h.1
theorem vS_end (Ls : List Syntax) (p : Syntax) (d : Int) (o : List Capture) (hk : ¬ p.kind = 1) : (vrS Ls p d o).isSome = vbS Ls p d o p.items.length ∧ (vbS Ls p d o p.items.length = true → (vrS Ls p d o).getD [] = vaS Ls p d o p.items.length) ∧ (vbS Ls p d o p.items.length = false → (vrS Ls p d o).getD [] = []) := by
  rw [vrS_eq, if_neg hk]
  unfold vaS vbS
  rw [List.take_length]
  by_cases e : okS p.items = true
  · rw [if_pos e, if_pos e, e]
    cases wlk (vrS Ls) p.items 0 (atS p.items) d o <;> simp
  · have e' : okS p.items = false := by simpa using e
    rw [if_neg e, if_neg e, e']; simp
theorem size_item {p : Syntax} {k : Nat} (h : k < p.items.length) : sumBy sizeY (p.items.take k) + sizeY (p.items.getD k default) + 1 ≤ sizeY p ∧ wY (p.items.getD k default) ≤ wY p := by
  have g1 := sizeY_eq p
  have g2 := @sumBy_step _ _ sizeY p.items k h
  have g3 := sumBy_takeLe sizeY p.items (k + 1)
  have g4 := @sumBy_mem _ wY p.items _ (getD_mem' h)
  have g5 := wY_eq p
  omega
theorem cap_snoc (o : List Capture) (p : Syntax) (d : Int) : o.map captureC ++ [[cI p.kind, cI p.number, cS p.text, Cell.list (List.map intC p.scopes), Cell.list (List.map syntaxC p.items), cI d, cI 0, cI 0, cS (mkS []), Cell.list [], Cell.list [], Cell.list []]] = (o ++ [cap1 p d]).map captureC :=
  rowSnoc (C := captureC) o (cap1 p d)
theorem vrS_out (Ls : List Syntax) (p : Syntax) (d : Int) (o : List Capture) (hk : p.kind = 1) (h : isUnd p = true ∨ hasI Ls p = true) : vrS Ls p d o = some o := by
  rw [vrS_eq, if_pos hk, if_pos h]
theorem vrS_bad (Ls : List Syntax) (p : Syntax) (d : Int) (o : List Capture) (hk : p.kind = 1) (h : isUnd p = false) (h2 : hasI Ls p = false) (h3 : isDots p = true ∨ 0 ≤ fnd o p ∨ 3 < d) : vrS Ls p d o = none := by
  rw [vrS_eq, if_pos hk, if_neg (by rw [h, h2]; simp), if_pos h3]
theorem vrS_new (Ls : List Syntax) (p : Syntax) (d : Int) (o : List Capture) (hk : p.kind = 1) (h : isUnd p = false) (h2 : hasI Ls p = false) (h3 : isDots p = false) (h4 : fnd o p < 0) (h5 : d ≤ 3) : vrS Ls p d o = some (o ++ [cap1 p d]) := by
  rw [vrS_eq, if_pos hk, if_neg (by rw [h, h2]; simp), if_neg (by rw [h3]; simp; omega)]
abbrev P_c_sVars (Ls : List Syntax) (p : Syntax) (d : Int) (o : List Capture) : Ct := ⟨40, [.arr true 12 (o.map captureC)], [ll (Ls.map syntaxC), syntaxA p, li d, .one (.ref 0)], [.dead, .arr true 12 (((vrS Ls p d o).getD []).map captureC)], .tup [.one (.ref 1), lb (vrS Ls p d o).isSome]⟩
def lc_sVars_sLa (Ls : List Syntax) (p : Syntax) (d : Int) (o : List Capture) : Lp Nat := .mk 84 1 (fun x => [(0, ll (List.map syntaxC Ls)), (2, li d), (3, SV.one (AC.ref 1)), (10,
 li (if okS p.items = true then atS p.items else (-1 : Int))), (11, hs x 1), (53, ll (List.map syntaxC p.items)), (54, li (↑(List.map syntaxC p.items).length : Int)), (55, hs x
 0)]) (fun x => [Ob.dead, ho x 2]) (fun k => [.s (li (↑k : Int)), .s (lb (vbS Ls p d o k)), .o (Ob.arr true 12 (List.map captureC (vaS Ls p d o k)))]) (fun k => k ≤ p.items.length
 ∧ p.items.length ≤ 9223372036854775807) (fun k => p.items.length - k) [.mk True (.exit 0) (fun x => [(3, SV.one (AC.ref 1)), (11, hs x 0)]) (fun x => [Ob.dead, ho x 1]) [.s (lb
 (vbS Ls p d o p.items.length)), .o (Ob.arr true 12 (List.map captureC (vaS Ls p d o p.items.length)))]]
theorem Sc_sVars_sLa (Ls : List Syntax) (p : Syntax) (d : Int) (o : List Capture) (h : 0 ≤ d ∧ d + (↑(depY p) : Int) ≤ 1000 ∧ wY p ≤ 1048576 ∧ o.length + sizeY p ≤ 2147483647) (ih
 : ∀ (z : Syntax), z ∈ p.items → ∀ (Ls : List Syntax) (d : Int) (o : List Capture), 0 ≤ d ∧ d + (↑(depY z) : Int) ≤ 1000 ∧ wY z ≤ 1048576 ∧ o.length + sizeY z ≤ 2147483647 → OK
 (P_c_sVars Ls z d o)) : Lp.Sem Tryz.prog (loopAt Tryz.f40 0) (lc_sVars_sLa Ls p d o) := lpOK (fun k => .i ((↑k : Int) < (↑(List.map syntaxC p.items).length : Int)) (.x (↑k : Int)
 (List.map syntaxC p.items) (syntaxF (p.items.getD k default)) (.b (!vbS Ls p d o k) (.o 0 [0, 1] [.s (lb (vbS Ls p d o k)), .o (Ob.arr true 12 (List.map captureC (vaS Ls p d o
 k)))]) (.i ((↑k : Int) = if okS p.items = true then atS p.items else (-1 : Int)) (.r ((↑k : Int) + 1) (.g [0, 1] (k + 1) [.s (li ((↑k : Int) + 1)), .s (lb (vbS Ls p d o k)), .o
 (Ob.arr true 12 (List.map captureC (vaS Ls p d o k)))])) (.r ((↑k : Int) + 1) (.i ((↑k : Int) + 1 = if okS p.items = true then atS p.items else (-1 : Int)) (.r (d + 1) (.d [.rd,
 .rd, .rd, .own true 12] (P_c_sVars Ls (p.items.getD k default) (d + 1) (vaS Ls p d o k)) (.r ((↑k : Int) + 1) (.g [0, 4] (k + 1) [.s (li ((↑k : Int) + 1)), .s (lb (vrS Ls
 (p.items.getD k default) (d + 1) (vaS Ls p d o k)).isSome), .o (Ob.arr true 12 (List.map captureC ((vrS Ls (p.items.getD k default) (d + 1) (vaS Ls p d o k)).getD [])))])))) (.d
 [.rd, .rd, .rd, .own true 12] (P_c_sVars Ls (p.items.getD k default) d (vaS Ls p d o k)) (.r ((↑k : Int) + 1) (.g [0, 4] (k + 1) [.s (li ((↑k : Int) + 1)), .s (lb (vrS Ls
 (p.items.getD k default) d (vaS Ls p d o k)).isSome), .o (Ob.arr true 12 (List.map captureC ((vrS Ls (p.items.getD k default) d (vaS Ls p d o k)).getD [])))])))))))) (.o 0 [0, 1]
 [.s (lb (vbS Ls p d o k)), .o (Ob.arr true 12 (List.map captureC (vaS Ls p d o k)))])) (by
  intro k h; try dsimp only [teasy, nthW, lc_sVars_sLa] at h ⊢
  have g1 := @vS_stop Ls p d o k
  have g2 := @vS_skip Ls p d o k
  have g3 := @vS_go Ls p d o k
  have g4 := @vS_len Ls p d o k
  have g5 := @vS_ok Ls p d o k
  have g6 := @depY_item p k
  have g7 := @size_item p k
  have g8 : k < p.items.length ∨ k = p.items.length ∨ p.items.length < k := by omega
  with_reducible repeat' (first | apply And.intro | exact zR | exact ih | (intro; skip) | apply c_sCopyY | apply ih)
  all_goals (try simp only [std, inj] at *)
  all_goals with_reducible repeat' apply And.intro
  all_goals (try (first | with_reducible apply c_sCopyY | with_reducible apply ih | (simp only [← List.map_append]; first | with_reducible apply c_sCopyY | with_reducible apply ih)))
  all_goals (try (first | exact z | grind [getD_mem', snocI, snocS, rowSnoc])))
theorem c_sVars_s (Ls : List Syntax) (p : Syntax) (d : Int) (o : List Capture) (h : 0 ≤ d ∧ d + depY p ≤ 1000 ∧ wY p ≤ 1048576 ∧ o.length + sizeY p ≤ 2147483647) (ih : ∀ z ∈
 p.items, ∀ (Ls : List Syntax) (d : Int) (o : List Capture) (h : 0 ≤ d ∧ d + depY z ≤ 1000 ∧ wY z ≤ 1048576 ∧ o.length + sizeY z ≤ 2147483647), P_c_sVars Ls z d o)  : P_c_sVars Ls
 p d o := fnOK Tryz.call40 Tryz.func40 (.i (p.kind = 1) (.i (p.text.data.toList = [(95 : UInt8)]) (.y true (.w (.ghost (.move 0)) (.f [2] [Ob.dead, Ob.arr true 12 (List.map captureC
 o)] (AV.tup [SV.one (AC.ref 1), lb true])))) (.c [.rd, .rd] (c_sHasI Ls p) (.b (hasI Ls p) (.w (.ghost (.move 0)) (.f [2] [Ob.dead, Ob.arr true 12 (List.map captureC o)] (AV.tup
 [SV.one (AC.ref 1), lb true]))) (.c [.rd] (c_sDots p) (.b (isDots p) (.y true (.y true (.w (.ghost (.nilreg 8 true 12)) (.w (.ghost (.move 0)) (.f [2] [Ob.dead, Ob.arr true 12 []]
 (AV.tup [SV.one (AC.ref 1), lb false])))))) (.c [.rd, .rd] (c_sFind o p) (.i (0 ≤ fnd o p) (.y true (.w (.ghost (.nilreg 8 true 12)) (.w (.ghost (.move 0)) (.f [2] [Ob.dead,
 Ob.arr true 12 []] (AV.tup [SV.one (AC.ref 1), lb false]))))) (.i (3 < d) (.w (.ghost (.nilreg 8 true 12)) (.w (.ghost (.move 0)) (.f [2] [Ob.dead, Ob.arr true 12 []] (AV.tup
 [SV.one (AC.ref 1), lb false])))) (.d [.rd] (P_c_sCopyY p) (.p (((List.map captureC o).length + 1) * 192 ≤ 140737488355328) (.f [5] [Ob.dead, Ob.arr true 12 (List.map captureC o
 ++ [[cI p.kind, cI p.number, cS p.text, Cell.list (List.map intC p.scopes), Cell.list (List.map syntaxC p.items), cI d, cI 0, cI 0, cS (ByteArray.mk #[]), Cell.list [], Cell.list
 [], Cell.list []]])] (AV.tup [SV.one (AC.ref 1), lb true])))))))))))) (.c [.rd] (c_sAt p.items) (.z syntaxC p.items (.w (.ghost (.move 0)) (.l (lc_sVars_sLa Ls p d o)
 (Sc_sVars_sLa Ls p d o h ih) [0, 2] [.s (li 0), .s (lb (okS p.items)), .o (Ob.arr true 12 (List.map captureC o))] 0 (.t (.b (!vbS Ls p d o p.items.length) (.w (.ghost (.nilreg 8
 true 12)) (.f [2] [Ob.dead, Ob.arr true 12 []] (AV.tup [SV.one (AC.ref 1), lb false]))) (.f [1] [Ob.dead, Ob.arr true 12 (List.map captureC (vaS Ls p d o p.items.length))] (AV.tup
 [SV.one (AC.ref 1), lb true]))) .q)))))) (by
  dsimp only [teasy, P_c_sVars, nthW, lc_sVars_sLa]
  have g1 := vS_end Ls p d o
  have g2 := sizeY_eq p
  have g3 : isUnd p = decide (p.text.data.toList = [95]) := rfl
  have g4 := vrS_out Ls p d o
  have g5 := vrS_bad Ls p d o
  have g6 := vrS_new Ls p d o
  have g7 : ¬p.kind = 1 → okS p.items = false → vbS Ls p d o 0 = false := fun _ h => by unfold vbS; rw [h]; rfl
  have g8 : okS p.items = true → vbS Ls p d o 0 = true := fun h => by unfold vbS; rw [h]; simp [wlk]
  have g9 : vaS Ls p d o 0 = o := by unfold vaS; split <;> simp [wlk]
  have g10 : okS p.items = vbS Ls p d o 0 := by unfold vbS; simp [wlk]
  have g11 := cap_snoc o p d
  have g12 : p.kind = 1 → isUnd p = false → hasI Ls p = false → isDots p = false → fnd o p < 0 → d ≤ 3 → (vrS Ls p d o).getD [] = o ++ [cap1 p d] := fun a b c e f g => by rw [g6 a b c e f g]; rfl
  with_reducible repeat' (first | apply And.intro | exact zR | exact ih | (intro; skip) | apply c_sCopyY)
  all_goals (try simp only [std, inj] at *)
  all_goals with_reducible repeat' apply And.intro
  all_goals (try (first | with_reducible apply c_sCopyY | with_reducible apply ih | (simp only [← List.map_append]; first | with_reducible apply c_sCopyY | with_reducible apply ih)))
  all_goals (try (first | exact z | grind [snocI, snocS, rowSnoc])))
theorem c_sVars (p : Syntax) : ∀ (Ls : List Syntax) (d : Int) (o : List Capture) (h : 0 ≤ d ∧ d + depY p ≤ 1000 ∧ wY p ≤ 1048576 ∧ o.length + sizeY p ≤ 2147483647), P_c_sVars Ls p d o := Syntax.ind (P := fun p => ∀ (Ls : List Syntax) (d : Int) (o : List Capture) (h : 0 ≤ d ∧ d + depY p ≤ 1000 ∧ wY p ≤ 1048576 ∧ o.length + sizeY p ≤ 2147483647), P_c_sVars Ls p d o) (fun p ih Ls d o h => c_sVars_s Ls p d o h ih) p
mutual
def vrI (Ls : List Syntax) : Syntax → Int → List Capture → Option (List Capture)
  | ⟨k, n, t, s, l⟩, d, o => if k = 1 then (if isDots ⟨k, n, t, s, l⟩ = true then none else if isUnd ⟨k, n, t, s, l⟩ = true ∨ hasJ Ls ⟨k, n, t, s, l⟩ = true then some o else
      if 3 < d then none else if (o.any fun c => sameB c.name ⟨k, n, t, s, l⟩) = true then none else some (o ++ [cap1 ⟨k, n, t, s, l⟩ d]))
    else if k ≠ 0 then some o else if atI l = 0 then none else vrIs Ls l 0 (atI l) d o
def vrIs (Ls : List Syntax) : List Syntax → Int → Int → Int → List Capture → Option (List Capture)
  | [], _, _, _, o => some o
  | x :: r, i, a, d, o => if i = a then vrIs Ls r (i + 1) a d o else match vrI Ls x (if i + 1 = a then d + 1 else d) o with
    | none => none
    | some o' => vrIs Ls r (i + 1) a d o'
end
theorem vrIs_eq (Ls : List Syntax) : ∀ l i a d o, vrIs Ls l i a d o = wlk (vrI Ls) l i a d o
  | [], i, a, d, o => by simp [vrIs, wlk]
  | x :: r, i, a, d, o => by
    simp only [vrIs, wlk, vrIs_eq Ls r]
theorem vrI_eq (Ls : List Syntax) (p : Syntax) (d : Int) (o : List Capture) : vrI Ls p d o = if p.kind = 1 then (if isDots p = true then none else if isUnd p = true ∨ hasJ Ls p = true then some o else
      if 3 < d then none else if (o.any fun c => sameB c.name p) = true then none else some (o ++ [cap1 p d]))
    else if p.kind ≠ 0 then some o else if atI p.items = 0 then none else wlk (vrI Ls) p.items 0 (atI p.items) d o := by cases p; simp only [vrI, vrIs_eq]
theorem vrI_len (Ls : List Syntax) : ∀ (p : Syntax) (d : Int) (o o' : List Capture), vrI Ls p d o = some o' → o'.length ≤ o.length + sizeY p := by
  refine Syntax.ind fun p ih d o o' e => ?_
  rw [vrI_eq] at e
  rw [sizeY_eq]
  split at e
  · split at e
    · cases e
    · split at e
      · simp only [Option.some.injEq] at e; subst e; omega
      · split at e
        · cases e
        · split at e
          · cases e
          · simp only [Option.some.injEq] at e; subst e; simp
  · split at e
    · simp only [Option.some.injEq] at e; subst e; omega
    · split at e
      · cases e
      · have := wlk_len (vrI Ls) p.items (fun x hx d o o' h => ih x hx d o o' h) _ _ _ _ _ e; omega
def wI (Ls : List Syntax) (p : Syntax) (d : Int) (o : List Capture) (k : Nat) : Option (List Capture) := wlk (vrI Ls) (p.items.take k) 0 (atI p.items) d o
def vaI (Ls : List Syntax) (p : Syntax) (d : Int) (o : List Capture) (k : Nat) : List Capture := (wI Ls p d o k).getD []
def vbI (Ls : List Syntax) (p : Syntax) (d : Int) (o : List Capture) (k : Nat) : Bool := (wI Ls p d o k).isSome
theorem vI_skip {Ls : List Syntax} {p : Syntax} {d : Int} {o : List Capture} {k : Nat} (hk : k < p.items.length) (h : vbI Ls p d o k = true) (e : (k : Int) = atI p.items) : vaI Ls p d o (k + 1) = vaI Ls p d o k ∧ vbI Ls p d o (k + 1) = true := by
  unfold vaI vbI wI at *
  obtain ⟨v, hv⟩ := Option.isSome_iff_exists.1 h
  rw [wlk_step hk hv, if_pos e, hv]; simp
theorem vI_go {Ls : List Syntax} {p : Syntax} {d : Int} {o : List Capture} {k : Nat} (hk : k < p.items.length) (h : vbI Ls p d o k = true) (e : ¬ (k : Int) = atI p.items) :
    vaI Ls p d o (k + 1) = (vrI Ls (p.items.getD k default) (if (k : Int) + 1 = atI p.items then d + 1 else d) (vaI Ls p d o k)).getD [] ∧ vbI Ls p d o (k + 1) = (vrI Ls (p.items.getD k default) (if (k : Int) + 1 = atI p.items then d + 1 else d) (vaI Ls p d o k)).isSome := by
  unfold vaI vbI wI at *
  obtain ⟨v, hv⟩ := Option.isSome_iff_exists.1 h
  rw [wlk_step hk hv, if_neg e, hv]; simp
theorem vI_stop {Ls : List Syntax} {p : Syntax} {d : Int} {o : List Capture} {k : Nat} (h : vbI Ls p d o k = false) : vbI Ls p d o p.items.length = false := by
  unfold vbI wI at *
  cases e2 : wlk (vrI Ls) (p.items.take k) 0 (atI p.items) d o with
  | none => rw [List.take_length, wlk_none e2]; rfl
  | some v => rw [e2] at h; cases h
theorem vI_len {Ls : List Syntax} {p : Syntax} {d : Int} {o : List Capture} {k : Nat} (h : vbI Ls p d o k = true) : (vaI Ls p d o k).length ≤ o.length + sumBy sizeY (p.items.take k) := by
  unfold vaI vbI wI at *
  obtain ⟨v, hv⟩ := Option.isSome_iff_exists.1 h
  rw [hv]
  exact wlk_len (vrI Ls) _ (fun x _ d o o' h => vrI_len Ls x d o o' h) _ _ _ _ _ hv
theorem vI_end (Ls : List Syntax) (p : Syntax) (d : Int) (o : List Capture) (hk : ¬ p.kind = 1) (h0 : p.kind = 0) (ha : ¬ atI p.items = 0) : (vrI Ls p d o).isSome = vbI Ls p d o p.items.length ∧ (vrI Ls p d o).getD [] = vaI Ls p d o p.items.length := by
  rw [vrI_eq, if_neg hk, if_neg (by simp [h0]), if_neg ha]
  unfold vaI vbI wI
  rw [List.take_length]; exact ⟨rfl, rfl⟩
theorem vrI_dots {Ls : List Syntax} {p : Syntax} {d : Int} {o : List Capture} (hk : p.kind = 1) (h : isDots p = true) : vrI Ls p d o = none := by
  rw [vrI_eq, if_pos hk, if_pos h]
theorem vrI_out {Ls : List Syntax} {p : Syntax} {d : Int} {o : List Capture} (hk : p.kind = 1) (h : isDots p = false) (h2 : isUnd p = true ∨ hasJ Ls p = true) : vrI Ls p d o = some o := by
  rw [vrI_eq, if_pos hk, if_neg (by simp [h]), if_pos h2]
theorem vrI_deep {Ls : List Syntax} {p : Syntax} {d : Int} {o : List Capture} (hk : p.kind = 1) (h : isDots p = false) (h2 : isUnd p = false) (h3 : hasJ Ls p = false) (h4 : 3 < d) : vrI Ls p d o = none := by
  rw [vrI_eq, if_pos hk, if_neg (by simp [h]), if_neg (by simp [h2, h3]), if_pos h4]
theorem vrI_twice {Ls : List Syntax} {p : Syntax} {d : Int} {o : List Capture} (hk : p.kind = 1) (h : isDots p = false) (h2 : isUnd p = false) (h3 : hasJ Ls p = false) (h5 : (o.any fun c => sameB c.name p) = true) : vrI Ls p d o = none := by
  rw [vrI_eq, if_pos hk, if_neg (by simp [h]), if_neg (by simp [h2, h3])]
  split
  · rfl
  · first | rfl | rw [if_pos h5]
theorem vrI_new {Ls : List Syntax} {p : Syntax} {d : Int} {o : List Capture} (hk : p.kind = 1) (h : isDots p = false) (h2 : isUnd p = false) (h3 : hasJ Ls p = false) (h4 : d ≤ 3) (h5 : (o.any fun c => sameB c.name p) = false) : vrI Ls p d o = some (o ++ [cap1 p d]) := by
  rw [vrI_eq, if_pos hk, if_neg (by simp [h]), if_neg (by simp [h2, h3]), if_neg (by omega), if_neg (by simp [h5])]
theorem vrI_other {Ls : List Syntax} {p : Syntax} {d : Int} {o : List Capture} (hk : ¬ p.kind = 1) (h0 : ¬ p.kind = 0) : vrI Ls p d o = some o := by
  rw [vrI_eq, if_neg hk, if_pos h0]
theorem vrI_front {Ls : List Syntax} {p : Syntax} {d : Int} {o : List Capture} (hk : ¬ p.kind = 1) (h0 : p.kind = 0) (ha : atI p.items = 0) : vrI Ls p d o = none := by
  rw [vrI_eq, if_neg hk, if_neg (by simp [h0]), if_pos ha]
abbrev P_c_iVars (Ls : List Syntax) (p : Syntax) (d : Int) (o : List Capture) : Ct := ⟨87, [.arr true 12 (o.map captureC)], [ll (Ls.map syntaxC), syntaxA p, li d, .one (.ref 0)], [.dead, .arr true 12 (((vrI Ls p d o).getD []).map captureC)], .tup [.one (.ref 1), lb (vrI Ls p d o).isSome]⟩
def lc_iVars_sLb (Ls : List Syntax) (p : Syntax) (d : Int) (o : List Capture) : Lp Nat := .mk 93 1 (fun x => [(0, ll (List.map syntaxC Ls)), (2, li d), (3, SV.one (AC.ref 1)), (12,
 li (atI p.items)), (63, ll (List.map syntaxC p.items)), (64, li (↑(List.map syntaxC p.items).length : Int)), (65, hs x 0)]) (fun x => [Ob.dead, ho x 1]) (fun k => [.s (li (↑k :
 Int)), .o (Ob.arr true 12 (List.map captureC (vaI Ls p d o k)))]) (fun k => k ≤ p.items.length ∧ p.items.length ≤ 9223372036854775807 ∧ vbI Ls p d o k = true) (fun k =>
 p.items.length - k) [.mk (vbI Ls p d o p.items.length = true) (.exit 3) (fun x => [(3, SV.one (AC.ref 1))]) (fun x => [Ob.dead, ho x 0]) [.o (Ob.arr true 12 (List.map captureC
 (vaI Ls p d o p.items.length)))], .mk (vbI Ls p d o p.items.length = false) .ret (fun x => [(8, hs x 0), (9, hs x 1)]) (fun x => [Ob.dead]) [.s (SV.one (AC.val (Cell.lit
 (Value.slice none 0 0)))), .s (lb false)]]
def lc_iVars_sLa (Ls : List Syntax) (p : Syntax) (d : Int) (o : List Capture) : Lp Nat := .mk 93 1 (fun x => [(2, li d), (3, SV.one (AC.ref 1)), (5, SV.one (AC.ptr 2 0)), (34,
 SV.one (AC.ref 1)), (35, li (↑(List.map captureC o).length : Int)), (36, hs x 0)]) (fun x => [Ob.dead, Ob.arr true 12 (List.map captureC o), Ob.box (vals (syntaxF p))]) (fun k =>
 [.s (li (↑k : Int))]) (fun k => k ≤ o.length ∧ o.length ≤ 9223372036854775807 ∧ ((List.take k o).any fun c => sameB c.name p) = false) (fun k => o.length - k) [.mk ((o.any fun c
 => sameB c.name p) = false) (.exit 1) (fun x => [(2, li d), (3, SV.one (AC.ref 1)), (5, SV.one (AC.ptr 2 0))]) (fun x => [Ob.dead, Ob.arr true 12 (List.map captureC o), Ob.box
 (vals (syntaxF p))]) [], .mk ((o.any fun c => sameB c.name p) = true) .ret (fun x => [(8, hs x 0), (9, hs x 1)]) (fun x => [Ob.dead]) [.s (SV.one (AC.val (Cell.lit (Value.slice
 none 0 0)))), .s (lb false)]]
theorem Sc_iVars_sLb (Ls : List Syntax) (p : Syntax) (d : Int) (o : List Capture) (h : 0 ≤ d ∧ d + (↑(depY p) : Int) ≤ 1000 ∧ wY p ≤ 1048576 ∧ o.length + sizeY p ≤ 2147483647) (ih
 : ∀ (z : Syntax), z ∈ p.items → ∀ (Ls : List Syntax) (d : Int) (o : List Capture), 0 ≤ d ∧ d + (↑(depY z) : Int) ≤ 1000 ∧ wY z ≤ 1048576 ∧ o.length + sizeY z ≤ 2147483647 → OK
 (P_c_iVars Ls z d o)) : Lp.Sem Tryz.prog (loopAt Tryz.f87 1) (lc_iVars_sLb Ls p d o) := lpOK (fun k => .i ((↑k : Int) < (↑(List.map syntaxC p.items).length : Int)) (.x (↑k : Int)
 (List.map syntaxC p.items) (syntaxF (p.items.getD k default)) (.i ((↑k : Int) = atI p.items) (.r ((↑k : Int) + 1) (.g [0, 1] (k + 1) [.s (li ((↑k : Int) + 1)), .o (Ob.arr true 12
 (List.map captureC (vaI Ls p d o k)))])) (.r ((↑k : Int) + 1) (.i ((↑k : Int) + 1 = atI p.items) (.r (d + 1) (.d [.rd, .rd, .rd, .own true 12] (P_c_iVars Ls (p.items.getD k
 default) (d + 1) (vaI Ls p d o k)) (.b (!(vrI Ls (p.items.getD k default) (d + 1) (vaI Ls p d o k)).isSome) (.o 1 [0] [.s (SV.one (AC.val (Cell.lit (Value.slice none 0 0)))), .s
 (lb false)]) (.r ((↑k : Int) + 1) (.g [0, 4] (k + 1) [.s (li ((↑k : Int) + 1)), .o (Ob.arr true 12 (List.map captureC ((vrI Ls (p.items.getD k default) (d + 1) (vaI Ls p d o
 k)).getD [])))]))))) (.d [.rd, .rd, .rd, .own true 12] (P_c_iVars Ls (p.items.getD k default) d (vaI Ls p d o k)) (.b (!(vrI Ls (p.items.getD k default) d (vaI Ls p d o
 k)).isSome) (.o 1 [0] [.s (SV.one (AC.val (Cell.lit (Value.slice none 0 0)))), .s (lb false)]) (.r ((↑k : Int) + 1) (.g [0, 4] (k + 1) [.s (li ((↑k : Int) + 1)), .o (Ob.arr true
 12 (List.map captureC ((vrI Ls (p.items.getD k default) d (vaI Ls p d o k)).getD [])))])))))))) (.o 0 [0, 1] [.o (Ob.arr true 12 (List.map captureC (vaI Ls p d o k)))])) (by
  intro k h; try dsimp only [teasy, nthW, lc_iVars_sLb] at h ⊢
  have g1 := @vI_stop Ls p d o (k + 1)
  have g2 := @vI_skip Ls p d o k
  have g3 := @vI_go Ls p d o k
  have g4 := @vI_len Ls p d o k
  have g6 := @depY_item p k
  have g7 := @size_item p k
  have g8 : k < p.items.length ∨ k = p.items.length ∨ p.items.length < k := by omega
  with_reducible repeat' (first | apply And.intro | exact zR | exact ih | (intro; skip) | apply c_iDots | apply c_iCopyY | apply ih)
  all_goals (try simp only [std, inj] at *)
  all_goals with_reducible repeat' apply And.intro
  all_goals (try (first | with_reducible apply c_iDots | with_reducible apply c_iCopyY | with_reducible apply ih | (simp only [← List.map_append]; first | with_reducible apply c_iDots | with_reducible apply c_iCopyY | with_reducible apply ih)))
  all_goals (try (first | exact z | grind [getD_mem', snocI, snocS, rowSnoc])))
theorem Sc_iVars_sLa (Ls : List Syntax) (p : Syntax) (d : Int) (o : List Capture) (h : 0 ≤ d ∧ d + (↑(depY p) : Int) ≤ 1000 ∧ wY p ≤ 1048576 ∧ o.length + sizeY p ≤ 2147483647) (ih
 : ∀ (z : Syntax), z ∈ p.items → ∀ (Ls : List Syntax) (d : Int) (o : List Capture), 0 ≤ d ∧ d + (↑(depY z) : Int) ≤ 1000 ∧ wY z ≤ 1048576 ∧ o.length + sizeY z ≤ 2147483647 → OK
 (P_c_iVars Ls z d o)) : Lp.Sem Tryz.prog (loopAt Tryz.f87 0) (lc_iVars_sLa Ls p d o) := lpOK (fun k => .i ((↑k : Int) < (↑(List.map captureC o).length : Int)) (.p (0 ≤ (↑k : Int)
 ∧ (↑k : Int).toNat < (List.map captureC o).length) (.w (.cells (captureF (o.getD (↑k : Int).toNat default))) (.p ((List.map captureC o)[(↑k : Int).toNat]? = some (captureF (o.getD
 (↑k : Int).toNat default))) (.c [.rd, .rd] (c_iSame (o.getD (↑k : Int).toNat default).name p) (.b (decide ((o.getD (↑k : Int).toNat default).name.kind = 1) && decide (p.kind = 1)
 && decide ((o.getD (↑k : Int).toNat default).name.text = p.text) && decide ((o.getD (↑k : Int).toNat default).name.scopes = p.scopes)) (.o 1 [0] [.s (SV.one (AC.val (Cell.lit
 (Value.slice none 0 0)))), .s (lb false)]) (.r ((↑k : Int) + 1) (.g [0, 1, 2] (k + 1) [.s (li ((↑k : Int) + 1))]))))))) (.o 0 [0, 1, 2] [])) (by
  intro k h; try dsimp only [teasy, nthW, lc_iVars_sLa] at h ⊢
  have g : k < o.length → sameB (o.getD k default).name p = true → (o.any fun c => sameB c.name p) = true := fun h1 h2 => by
    rw [List.any_eq_true]; exact ⟨_, getD_mem' h1, h2⟩
  have g2 : sameB (o.getD k default).name p = (decide ((o.getD k default).name.kind = 1) && decide (p.kind = 1) && decide ((o.getD k default).name.text = p.text) && decide ((o.getD k default).name.scopes = p.scopes)) := rfl
  with_reducible repeat' (first | apply And.intro | exact zR | exact ih | (intro; skip) | apply c_iDots | apply c_iCopyY)
  all_goals (try simp only [std, inj] at *)
  all_goals with_reducible repeat' apply And.intro
  all_goals (try (first | with_reducible apply c_iDots | with_reducible apply c_iCopyY | with_reducible apply ih | (simp only [← List.map_append]; first | with_reducible apply c_iDots | with_reducible apply c_iCopyY | with_reducible apply ih)))
  all_goals (try (first | exact z | grind [take_get, snocI, snocS, rowSnoc])))
theorem c_iVars_s (Ls : List Syntax) (p : Syntax) (d : Int) (o : List Capture) (h : 0 ≤ d ∧ d + depY p ≤ 1000 ∧ wY p ≤ 1048576 ∧ o.length + sizeY p ≤ 2147483647) (ih : ∀ z ∈
 p.items, ∀ (Ls : List Syntax) (d : Int) (o : List Capture) (h : 0 ≤ d ∧ d + depY z ≤ 1000 ∧ wY z ≤ 1048576 ∧ o.length + sizeY z ≤ 2147483647), P_c_iVars Ls z d o)  : P_c_iVars Ls
 p d o := fnOK Tryz.call87 Tryz.func87 (.i (p.kind = 1) (.c [.rd] (c_iDots p) (.b (isDots p) (.w (.ghost (.nilreg 8 true 12)) (.w (.ghost (.move 0)) (.f [2] [Ob.dead, Ob.arr true 12
 []] (AV.tup [SV.one (AC.ref 1), lb false])))) (.c [.rd] (c_iWild p) (.b (decide (p.kind = 1) && isUnd p) (.y true (.w (.ghost (.move 0)) (.f [2] [Ob.dead, Ob.arr true 12 (List.map
 captureC o)] (AV.tup [SV.one (AC.ref 1), lb true])))) (.c [.rd, .rd] (c_iHasJ Ls p) (.b (hasJ Ls p) (.w (.ghost (.move 0)) (.f [2] [Ob.dead, Ob.arr true 12 (List.map captureC o)]
 (AV.tup [SV.one (AC.ref 1), lb true]))) (.i (3 < d) (.w (.ghost (.nilreg 8 true 12)) (.w (.ghost (.move 0)) (.f [2] [Ob.dead, Ob.arr true 12 []] (AV.tup [SV.one (AC.ref 1), lb
 false])))) (.z captureC o (.w (.ghost (.move 0)) (.l (lc_iVars_sLa Ls p d o) (Sc_iVars_sLa Ls p d o h ih) [0, 2, 1] [.s (li 0)] 0 (.t (.d [.rd] (P_c_iCopyY p) (.p (((List.map
 captureC o).length + 1) * 192 ≤ 140737488355328) (.f [6] [Ob.dead, Ob.arr true 12 (List.map captureC o ++ [[cI p.kind, cI p.number, cS p.text, Cell.list (List.map intC p.scopes),
 Cell.list (List.map syntaxC p.items), cI d, cI 0, cI 0, cS (ByteArray.mk #[]), Cell.list [], Cell.list [], Cell.list []]])] (AV.tup [SV.one (AC.ref 1), lb true])))) (.t (.w
 (.ghost (.nilreg 8 true 12)) (.f [1] [Ob.dead, Ob.arr true 12 []] (AV.tup [SV.one (AC.ref 1), lb false]))) .q)))))))))))) (.i (p.kind ≠ 0) (.w (.ghost (.move 0)) (.f [2] [Ob.dead,
 Ob.arr true 12 (List.map captureC o)] (AV.tup [SV.one (AC.ref 1), lb true]))) (.c [.rd] (c_iAt p.items) (.i (atI p.items = 0) (.w (.ghost (.nilreg 8 true 12)) (.w (.ghost (.move
 0)) (.f [2] [Ob.dead, Ob.arr true 12 []] (AV.tup [SV.one (AC.ref 1), lb false])))) (.z syntaxC p.items (.w (.ghost (.move 0)) (.l (lc_iVars_sLb Ls p d o) (Sc_iVars_sLb Ls p d o h
 ih) [0, 2] [.s (li 0), .o (Ob.arr true 12 (List.map captureC o))] 0 (.t (.f [1] [Ob.dead, Ob.arr true 12 (List.map captureC (vaI Ls p d o p.items.length))] (AV.tup [SV.one (AC.ref
 1), lb true])) (.t (.w (.ghost (.nilreg 8 true 12)) (.f [1] [Ob.dead, Ob.arr true 12 []] (AV.tup [SV.one (AC.ref 1), lb false]))) .q))))))))) (by
  dsimp only [teasy, P_c_iVars, nthW, lc_iVars_sLa, lc_iVars_sLb]
  have g1 := vI_end Ls p d o
  have g2 := sizeY_eq p
  have g3 := @vrI_dots Ls p d o
  have g4 := @vrI_out Ls p d o
  have g5 := @vrI_deep Ls p d o
  have g6 := @vrI_twice Ls p d o
  have g7 := @vrI_new Ls p d o
  have g8 := @vrI_other Ls p d o
  have g9 := @vrI_front Ls p d o
  have g10 : vbI Ls p d o 0 = true := by unfold vbI wI; simp [wlk]
  have g11 : vaI Ls p d o 0 = o := by unfold vaI wI; simp [wlk]
  have g12 := cap_snoc o p d
  have g13 : isUnd p = decide (p.text.data.toList = [95]) := rfl
  have g14 : p.kind = 1 → isDots p = false → isUnd p = false → hasJ Ls p = false → d ≤ 3 → (o.any fun c => sameB c.name p) = false → (vrI Ls p d o).getD [] = o ++ [cap1 p d] := fun a b c e f g => by rw [g7 a b c e f g]; rfl
  have g15 : (vrI Ls p d o).isSome = false → (vrI Ls p d o).getD [] = [] := fun h => by cases e : vrI Ls p d o <;> simp_all
  with_reducible repeat' (first | apply And.intro | exact zR | exact ih | (intro; skip) | apply c_iDots | apply c_iCopyY)
  all_goals (try simp only [std, inj] at *)
  all_goals with_reducible repeat' apply And.intro
  all_goals (try (first | with_reducible apply c_iDots | with_reducible apply c_iCopyY | with_reducible apply ih | (simp only [← List.map_append]; first | with_reducible apply c_iDots | with_reducible apply c_iCopyY | with_reducible apply ih)))
  all_goals (try (first | exact z | grind [snocI, snocS, rowSnoc])))
theorem c_iVars (p : Syntax) : ∀ (Ls : List Syntax) (d : Int) (o : List Capture) (h : 0 ≤ d ∧ d + depY p ≤ 1000 ∧ wY p ≤ 1048576 ∧ o.length + sizeY p ≤ 2147483647), P_c_iVars Ls p d o := Syntax.ind (P := fun p => ∀ (Ls : List Syntax) (d : Int) (o : List Capture) (h : 0 ≤ d ∧ d + depY p ≤ 1000 ∧ wY p ≤ 1048576 ∧ o.length + sizeY p ≤ 2147483647), P_c_iVars Ls p d o) (fun p ih Ls d o h => c_iVars_s Ls p d o h ih) p
theorem hasI_hasJ {Ls : List Syntax} {p : Syntax} (hL : ∀ x ∈ Ls, litP x = true) (hk : p.kind = 1) : hasI Ls p = hasJ Ls p := by
  unfold hasI hasJ
  rw [Bool.eq_iff_iff]; simp only [List.any_eq_true]
  constructor
  · rintro ⟨x, hx, e⟩
    have := hL x hx
    simp only [litP_at, Bool.and_eq_true, decide_eq_true_eq] at this e
    exact ⟨x, hx, by simp only [sameB, Bool.and_eq_true, decide_eq_true_eq]; exact ⟨⟨⟨this.1.1.1, hk⟩, e.1⟩, e.2⟩⟩
  · rintro ⟨x, hx, e⟩
    simp only [sameB, Bool.and_eq_true, decide_eq_true_eq] at e
    exact ⟨x, hx, by simp only [Bool.and_eq_true, decide_eq_true_eq]; exact ⟨e.1.2, e.2⟩⟩
theorem lit_dots {Ls : List Syntax} {p : Syntax} (hL : ∀ x ∈ Ls, litP x = true) (hd : isDots p = true) : hasI Ls p = false ∧ isUnd p = false := by
  simp only [isDots, Bool.and_eq_true, decide_eq_true_eq] at hd
  constructor
  · unfold hasI; rw [List.any_eq_false]
    intro x hx e
    have := hL x hx
    simp only [litP_at, Bool.and_eq_true, decide_eq_true_eq, Bool.not_eq_true', isDots, Bool.and_eq_false_iff, decide_eq_false_iff_not] at this e
    rcases this.1.2 with h | h
    · exact h this.1.1.1
    · exact h (by rw [e.1]; exact hd.2)
  · unfold isUnd; rw [hd.2]; rfl
theorem fnd_any {o : List Capture} {p : Syntax} (ho : ∀ x ∈ o, isId x.name = true) (hk : p.kind = 1) (hd : isDots p = false) : (o.any fun c => sameB c.name p) = true ↔ 0 ≤ fnd o p := by
  have h1 : fndN o p < o.length ↔ ∃ x ∈ o, capFor p x = true := List.findIdx_lt_length
  have h2 : (o.any fun c => sameB c.name p) = true ↔ fndN o p < o.length := by
    rw [h1, List.any_eq_true]
    constructor
    · rintro ⟨x, hx, e⟩
      refine ⟨x, hx, ?_⟩
      simp only [sameB, Bool.and_eq_true, decide_eq_true_eq] at e
      simp only [capFor, Bool.and_eq_true, decide_eq_true_eq]
      exact ⟨⟨e.1.2, e.2⟩, ho x hx⟩
    · rintro ⟨x, hx, e⟩
      refine ⟨x, hx, ?_⟩
      simp only [capFor, isId, Bool.and_eq_true, decide_eq_true_eq] at e
      simp only [sameB, Bool.and_eq_true, decide_eq_true_eq]
      exact ⟨⟨⟨e.2.1, hk⟩, e.1.1⟩, e.1.2⟩
  rw [h2]; unfold fnd; rw [hd]
  simp only [true_and]
  split <;> omega
theorem fx_ge {α : Type} [Inhabited α] {p : α → Bool} {L : List α} : ∀ k, k ≤ L.length → (∀ j, j < k → p (L.getD j default) = false) → k ≤ L.findIdx p
  | 0, _, _ => Nat.zero_le _
  | k + 1, hk, h => fx_next (by omega) (fx_ge k (by omega) fun j hj => h j (by omega)) (h k (by omega))
theorem okA_at (l : List Syntax) : ∀ k, k ≤ l.length → okA l k = true → (atF l k = -1 ∧ ∀ j, j < k → isDots (l.getD j default) = false) ∨ ∃ m : Nat, 0 < m ∧ m < k ∧ atF l k = m ∧ isDots (l.getD m default) = true ∧ ∀ j, j < k → j ≠ m → isDots (l.getD j default) = false
  | 0, _, _ => .inl ⟨rfl, fun j h => absurd h (by omega)⟩
  | k + 1, hk, h => by
    simp only [okA, Bool.and_eq_true, Bool.or_eq_true, Bool.not_eq_true', decide_eq_true_eq] at h
    have ih := okA_at l k (by omega) h.1
    cases e : isDots (l.getD k default) with
    | false =>
      have e2 : atF l (k + 1) = atF l k := by simp only [atF, e]; rfl
      rcases ih with ⟨h1, h2⟩ | ⟨m, h1, h2, h3, h4, h5⟩
      · exact .inl ⟨by rw [e2]; exact h1, fun j hj => by
          by_cases ej : j = k
          · rw [ej]; exact e
          · exact h2 j (by omega)⟩
      · exact .inr ⟨m, h1, by omega, by rw [e2]; exact h3, h4, fun j hj hm => by
          by_cases ej : j = k
          · rw [ej]; exact e
          · exact h5 j (by omega) hm⟩
    | true =>
      have e2 : atF l (k + 1) = (k : Int) := by simp only [atF, e]; rfl
      rcases h.2 with h0 | ⟨h0, h0'⟩
      · rw [e] at h0; cases h0
      · rcases ih with ⟨h1, h2⟩ | ⟨m, h1, h2, h3, h4, h5⟩
        · exact .inr ⟨k, by omega, by omega, e2, e, fun j hj hm => h2 j (by omega)⟩
        · omega
theorem atI_at {l : List Syntax} {m : Nat} (hm : m < l.length) (h : isDots (l.getD m default) = true) (h2 : ∀ j, j < m → isDots (l.getD j default) = false) : atI l = m := by
  have := fx_at hm (fx_ge m (by omega) h2) h
  unfold atI; rw [this, if_pos hm]
theorem atI_ok {l : List Syntax} (h : okS l = true) : atI l = atS l ∧ atI l ≠ 0 := by
  rcases okA_at l l.length (Nat.le_refl _) h with ⟨h1, h2⟩ | ⟨m, h1, h2, h3, h4, h5⟩
  · have := fx_ge (p := isDots) l.length (Nat.le_refl _) h2
    have e : atI l = -1 := by unfold atI; rw [if_neg (by omega)]
    exact ⟨by rw [e]; exact h1.symm, by omega⟩
  · have e := atI_at h2 h4 fun j hj => h5 j (by omega) (by omega)
    exact ⟨by rw [e]; exact h3.symm, by omega⟩
theorem atI_bad {l : List Syntax} (h : okS l = false) : atI l = 0 ∨ ∃ j, j < l.length ∧ (j : Int) ≠ atI l ∧ isDots (l.getD j default) = true := by
  have : ∃ k, k < l.length ∧ okA l k = true ∧ okA l (k + 1) = false := by
    have : ∀ m, m ≤ l.length → okA l m = false → ∃ k, k < m ∧ okA l k = true ∧ okA l (k + 1) = false := by
      intro m
      induction m with
      | zero => intro _ e; cases e
      | succ m ih =>
        intro hm e
        cases e2 : okA l m with
        | true => exact ⟨m, by omega, e2, e⟩
        | false => obtain ⟨k, h1, h2⟩ := ih (by omega) e2; exact ⟨k, by omega, h2⟩
    obtain ⟨k, h1, h2⟩ := this l.length (Nat.le_refl _) h
    exact ⟨k, h1, h2⟩
  obtain ⟨k, hk, h1, h2⟩ := this
  have hd : isDots (l.getD k default) = true ∧ (k = 0 ∨ 0 ≤ atF l k) := by
    simp only [okA, h1, Bool.true_and, Bool.or_eq_false_iff, Bool.not_eq_false', Bool.and_eq_false_iff, decide_eq_false_iff_not] at h2
    exact ⟨h2.1, h2.2.elim (fun h => .inl (by omega)) fun h => .inr (by omega)⟩
  rcases hd.2 with e | e
  · subst e
    exact .inl (atI_at hk hd.1 fun j hj => absurd hj (Nat.not_lt_zero j))
  · rcases okA_at l k (by omega) h1 with ⟨h3, _⟩ | ⟨m, h3, h4, h5, h6, h7⟩
    · omega
    · have e := atI_at (by omega) h6 fun j hj => h7 j (by omega) (by omega)
      exact .inr ⟨k, hk, by omega, hd.1⟩
theorem wlk_same {f g : Syntax → Int → List Capture → Option (List Capture)} {good : List Capture → Prop} : ∀ (l : List Syntax), (∀ x ∈ l, ∀ d o, good o → f x d o = g x d o ∧ ∀ o', g x d o = some o' → good o') → ∀ i a d o, good o → wlk f l i a d o = wlk g l i a d o ∧ ∀ o', wlk g l i a d o = some o' → good o'
  | [], _, i, a, d, o, ho => ⟨rfl, fun o' e => by simp only [wlk, Option.some.injEq] at e; subst e; exact ho⟩
  | x :: r, h, i, a, d, o, ho => by
    have ih := wlk_same r fun y hy => h y (List.mem_cons_of_mem _ hy)
    simp only [wlk]
    by_cases e : i = a
    · rw [if_pos e, if_pos e]; exact ih _ _ _ _ ho
    · rw [if_neg e, if_neg e]
      have hx := h x List.mem_cons_self (if i + 1 = a then d + 1 else d) o ho
      rw [hx.1]
      cases e2 : g x (if i + 1 = a then d + 1 else d) o with
      | none => exact ⟨rfl, fun o' e => by cases e⟩
      | some o1 => exact ih _ _ _ _ (hx.2 o1 e2)
theorem wlk_bad {f : Syntax → Int → List Capture → Option (List Capture)} : ∀ (l : List Syntax) (j : Nat) (i a d : Int) (o : List Capture), j < l.length → i + (j : Int) ≠ a → (∀ d o, f (l.getD j default) d o = none) → wlk f l i a d o = none
  | [], j, _, _, _, _, h, _, _ => absurd h (by simp)
  | x :: r, 0, i, a, d, o, _, h1, h2 => by
    simp only [wlk]
    rw [if_neg (by omega)]
    have := h2 (if i + 1 = a then d + 1 else d) o
    simp only [List.getD_cons_zero] at this
    rw [this]
  | x :: r, j + 1, i, a, d, o, h, h1, h2 => by
    have ih := fun d o => wlk_bad r j (i + 1) a d o (by simpa using h) (by omega) (by simpa using h2)
    simp only [wlk]
    split
    · exact ih d o
    · split
      · rfl
      · exact ih d _
theorem isId_sym {p : Syntax} (h : okY p = true) (hk : p.kind = 1) : isId p = true := by
  have hi := okY_sym h hk
  simp only [isId, isSyn, Bool.and_eq_true, decide_eq_true_eq]
  refine ⟨hk, ⟨?_, ?_⟩, h⟩
  · rw [sizeY_eq, hi]; simp [sumBy]
  · rw [depY_eq, hi]; simp [maxBy]
theorem okY_kind {p : Syntax} (h : okY p = true) (h1 : ¬ p.kind = 1) (h0 : ¬ p.kind = 0) : p.items = [] := by
  rw [okY_eq] at h
  simp only [nodY0, nodD, Bool.and_eq_true, Bool.or_eq_true, decide_eq_true_eq] at h
  have : p.items.length = 0 := by omega
  exact List.length_eq_zero_iff.1 this
theorem vr_same {Ls : List Syntax} (hL : ∀ x ∈ Ls, litP x = true) : ∀ p : Syntax, okY p = true → ∀ d o, (∀ x ∈ o, isId x.name = true) → vrI Ls p d o = vrS Ls p d o ∧ ∀ o', vrS Ls p d o = some o' → ∀ x ∈ o', isId x.name = true := by
  refine Syntax.ind fun p ih h d o ho => ?_
  by_cases hk : p.kind = 1
  · have hn : ∀ x ∈ o ++ [cap1 p d], isId x.name = true := by
      intro x hx
      rcases List.mem_append.1 hx with hx | hx
      · exact ho x hx
      · rw [List.mem_singleton.1 hx]; exact isId_sym h hk
    cases hd : isDots p with
    | true =>
      have h1 := lit_dots hL hd
      rw [vrI_dots hk hd, vrS_bad Ls p d o hk h1.2 h1.1 (.inl hd)]
      exact ⟨rfl, fun o' e => by cases e⟩
    | false =>
      have hj := hasI_hasJ hL hk
      by_cases h1 : isUnd p = true ∨ hasI Ls p = true
      · rw [vrI_out hk hd (hj ▸ h1), vrS_out Ls p d o hk h1]
        exact ⟨rfl, fun o' e => by simp only [Option.some.injEq] at e; subst e; exact ho⟩
      · have hu : isUnd p = false := by cases e : isUnd p <;> simp_all
        have hI : hasI Ls p = false := by cases e : hasI Ls p <;> simp_all
        have hJ : hasJ Ls p = false := by rw [← hj]; exact hI
        by_cases h3 : 3 < d
        · rw [vrI_deep hk hd hu hJ h3, vrS_bad Ls p d o hk hu hI (.inr (.inr h3))]
          exact ⟨rfl, fun o' e => by cases e⟩
        · have hf := fnd_any ho hk hd
          cases h5 : (o.any fun c => sameB c.name p) with
          | true =>
            rw [vrI_twice hk hd hu hJ h5, vrS_bad Ls p d o hk hu hI (.inr (.inl (hf.1 h5)))]
            exact ⟨rfl, fun o' e => by cases e⟩
          | false =>
            have h6 : fnd o p < 0 := by
              by_cases h6 : fnd o p < 0
              · exact h6
              · rw [hf.2 (by omega)] at h5; cases h5
            rw [vrI_new hk hd hu hJ (by omega) h5, vrS_new Ls p d o hk hu hI hd h6 (by omega)]
            exact ⟨rfl, fun o' e => by simp only [Option.some.injEq] at e; subst e; exact hn⟩
  · by_cases h0 : p.kind = 0
    · rw [vrS_eq, if_neg hk]
      cases hs : okS p.items with
      | true =>
        have ha := atI_ok hs
        rw [vrI_eq, if_neg hk, if_neg (by simp [h0]), if_neg ha.2, if_pos rfl, ha.1]
        exact wlk_same (good := fun o => ∀ x ∈ o, isId x.name = true) p.items (fun x hx d o ho => ih x hx (okY_item h x hx) d o ho) _ _ _ _ ho
      | false =>
        refine ⟨?_, fun o' e => by simp at e⟩
        rw [if_neg (by simp)]
        rcases atI_bad hs with ha | ⟨j, hj, hja, hjd⟩
        · exact vrI_front hk h0 ha
        · rw [vrI_eq, if_neg hk, if_neg (by simp [h0])]
          split
          · rfl
          · refine wlk_bad p.items j _ _ _ _ hj (by omega) fun d o => vrI_dots ?_ hjd
            simp only [isDots, Bool.and_eq_true, decide_eq_true_eq] at hjd; exact hjd.1
    · have hi := okY_kind h hk h0
      rw [vrI_other hk h0, vrS_eq, if_neg hk, hi]
      simp only [okS, List.length_nil, okA, if_true, wlk]
      exact ⟨trivial, fun o' e => by simp only [Option.some.injEq] at e; subst e; exact ho⟩
theorem vr_top {Ls : List Syntax} {p : Syntax} (hL : okL Ls = true) (hp : isSyn p = true) : vrI Ls p 0 [] = vrS Ls p 0 [] := by
  simp only [okL, Bool.and_eq_true, List.all_eq_true] at hL
  simp only [isSyn, Bool.and_eq_true] at hp
  exact (vr_same hL.1 p hp.2 0 [] (fun x hx => by cases hx)).1
abbrev P_c_iPat (Ls : List Syntax) (p : Syntax) : Ct := ⟨34, [], [ll (Ls.map syntaxC), syntaxA p], [.arr true 12 ((if okL Ls = true ∧ isSyn p = true then (vrS Ls p 0 []).getD [] else []).map captureC)], .tup [.one (.ref 0), lb (okL Ls && isSyn p && (vrS Ls p 0 []).isSome)]⟩
theorem c_iPat (Ls : List Syntax) (p : Syntax) (h : wY p ≤ 1048576)  : P_c_iPat Ls p := fnOK Tryz.call34 Tryz.func34 (.c [.rd] (c_iLits Ls) (.b (!okL Ls) (.y true (.w (.ghost
 (.nilreg 4 true 12)) (.f [1] [Ob.arr true 12 []] (AV.tup [SV.one (AC.ref 0), lb false])))) (.c [.rd] (c_iIsSyntax p) (.b (!isSyn p) (.w (.ghost (.nilreg 4 true 12)) (.f [1]
 [Ob.arr true 12 []] (AV.tup [SV.one (AC.ref 0), lb false]))) (.d [.rd, .rd, .rd, .own true 12] (P_c_iVars Ls p 0 []) (.f [2] [Ob.arr true 12 (List.map captureC ((vrI Ls p 0
 []).getD []))] (AV.tup [SV.one (AC.ref 0), lb (vrI Ls p 0 []).isSome]))))))) (by
  dsimp only [teasy, P_c_iPat]
  have g : isSyn p = true → sizeY p ≤ 2000 ∧ depY p ≤ 40 := fun h => by simp only [isSyn, Bool.and_eq_true, decide_eq_true_eq] at h; exact ⟨h.1.1, h.1.2⟩
  have g2 := @vr_top Ls p
  with_reducible repeat' (first | apply And.intro | exact zR | (intro; skip) | apply c_iVars)
  all_goals (try simp only [std, inj] at *)
  all_goals with_reducible repeat' apply And.intro
  all_goals (try (first | with_reducible apply c_iVars | (simp only [← List.map_append]; first | with_reducible apply c_iVars)))
  all_goals (try (first | exact z | grind [snocI, snocS, rowSnoc])))
end Go.Proofs.YtclpofblehlojaaGreat
end
section
namespace Go.Proofs.YtclpofblehlojaaGreat
open Go Go.Proofs.YtclpofblehlojaaGreat.Ab
set_option linter.unusedVariables false
set_option linter.unusedSimpArgs false
set_option maxHeartbeats 4000000
set_option maxRecDepth 20000
def tlY (s : Syntax) : Syntax := ⟨0, 0, mkS [], [], s.items.drop 1⟩
theorem sizeY_le (s : Syntax) : sizeY s ≤ wY s + 1 := by
  refine Syntax.ind (P := fun s => sizeY s ≤ wY s + 1) (fun s ih => ?_) s
  have : ∀ L : List Syntax, (∀ x ∈ L, sizeY x ≤ wY x + 1) → sumBy sizeY L ≤ L.length + sumBy wY L := by
    intro L
    induction L with
    | nil => intro _; simp [sumBy]
    | cons x r ihr =>
      intro h
      have h1 := h x List.mem_cons_self
      have h2 := ihr fun y hy => h y (List.mem_cons_of_mem _ hy)
      simp only [sumBy, List.length_cons]; omega
  have h1 := this s.items ih
  have h2 := wY_eq s
  rw [sizeY_eq]; omega
theorem tlY_syn {s : Syntax} (h : isSyn s = true) : isSyn (tlY s) = true := by
  simp only [isSyn, Bool.and_eq_true, decide_eq_true_eq] at h ⊢
  have e : s.items = s.items.take 1 ++ s.items.drop 1 := (List.take_append_drop 1 s.items).symm
  have h1 : sumBy sizeY s.items = sumBy sizeY (s.items.take 1) + sumBy sizeY (s.items.drop 1) := by rw [← sumBy_append, ← e]
  have h2 : maxBy depY s.items = max (maxBy depY (s.items.take 1)) (maxBy depY (s.items.drop 1)) := by rw [← maxBy_append, ← e]
  have h3 := sizeY_eq s
  have h4 := depY_eq s
  have h5 := okY_item h.2
  refine ⟨⟨?_, ?_⟩, ?_⟩
  · rw [sizeY_eq]; simp only [tlY]; omega
  · rw [depY_eq]; simp only [tlY]; omega
  · rw [okY_eq, Bool.and_eq_true, List.all_eq_true]
    refine ⟨fun x hx => h5 x (List.mem_of_mem_drop hx), ?_⟩
    simp [tlY, nodY0, nodD, okSc, okScN, mkS]
theorem tlY_w (s : Syntax) : wY (tlY s) ≤ wY s := by
  have e : s.items = s.items.take 1 ++ s.items.drop 1 := (List.take_append_drop 1 s.items).symm
  have h1 : sumBy wY s.items = sumBy wY (s.items.take 1) + sumBy wY (s.items.drop 1) := by rw [← sumBy_append, ← e]
  have h2 := wY_eq s
  have h3 := wY_eq (tlY s)
  have h4 : (tlY s).text.size = 0 := rfl
  have h5 : (s.items.drop 1).length ≤ s.items.length := by rw [List.length_drop]; omega
  simp only [tlY, List.length_nil] at h3 h4
  rw [tlY]; omega
abbrev P_c_sTail (s : Syntax) : Ct := ⟨113, [], [syntaxA s], [], .sv (.agg [vI 0, vI 0, vS (mkS []), .val (.lit (.slice none 0 0)), vL ((s.items.drop 1).map syntaxC)])⟩
theorem c_sTail (s : Syntax) (h : 1 ≤ s.items.length)  : P_c_sTail s := fnOK Tryz.call113 Tryz.func113 (.p ((0 : Int) ≤ 1) (.p (1 ≤ (List.map syntaxC s.items).length ∧ (List.map
 syntaxC s.items).length ≤ (List.map syntaxC s.items).length ∧ ∀ (e : List Cell), e ∈ List.map syntaxC s.items → e.length = 5) (.s (SV.agg [vI 0, vI 0, vS (ByteArray.mk #[]),
 AC.val (Cell.lit (Value.slice none 0 0)), vL (List.take ((List.map syntaxC s.items).length - 1) (List.drop 1 (List.map syntaxC s.items)))])))) (by
  dsimp only [teasy, P_c_sTail]
  have e : (s.items.drop 1).take (s.items.length - 1) = s.items.drop 1 := List.take_of_length_le (by rw [List.length_drop]; omega)
  with_reducible repeat' (first | apply And.intro | exact zR | (intro; skip))
  all_goals (try simp only [std, inj] at *)
  all_goals with_reducible repeat' apply And.intro
  all_goals (try (first | exact z | grind [snocI, snocS, rowSnoc])))
abbrev P_c_iTail (s : Syntax) : Ct := ⟨109, [], [syntaxA s], [], .sv (.agg [vI 0, vI 0, vS (mkS []), .val (.lit (.slice none 0 0)), vL ((s.items.drop 1).map syntaxC)])⟩
theorem c_iTail (s : Syntax) (h : 1 ≤ s.items.length)  : P_c_iTail s := fnOK Tryz.call109 Tryz.func109 (.p ((0 : Int) ≤ 1) (.p (1 ≤ (List.map syntaxC s.items).length ∧ (List.map
 syntaxC s.items).length ≤ (List.map syntaxC s.items).length ∧ ∀ (e : List Cell), e ∈ List.map syntaxC s.items → e.length = 5) (.s (SV.agg [vI 0, vI 0, vS (ByteArray.mk #[]),
 AC.val (Cell.lit (Value.slice none 0 0)), vL (List.take ((List.map syntaxC s.items).length - 1) (List.drop 1 (List.map syntaxC s.items)))])))) (by
  dsimp only [teasy, P_c_iTail]
  have e : (s.items.drop 1).take (s.items.length - 1) = s.items.drop 1 := List.take_of_length_le (by rw [List.length_drop]; omega)
  with_reducible repeat' (first | apply And.intro | exact zR | (intro; skip))
  all_goals (try simp only [std, inj] at *)
  all_goals with_reducible repeat' apply And.intro
  all_goals (try (first | exact z | grind [snocI, snocS, rowSnoc])))
abbrev P_c_sCount (s : Syntax) : Ct := ⟨114, [], [syntaxA s], [], .sv (li (sizeY s))⟩
def lc_sCount_sLa (s : Syntax) : Lp Nat := .mk 19 0 (fun x => [(3, hs x 1), (7, ll (List.map syntaxC s.items)), (8, li (↑(List.map syntaxC s.items).length : Int)), (9, hs x 0)])
 (fun x => []) (fun k => [.s (li (↑k : Int)), .s (li (↑(1 + sumBy sizeY (List.take k s.items)) : Int))]) (fun k => k ≤ s.items.length ∧ s.items.length ≤ 9223372036854775807) (fun k
 => s.items.length - k) [.mk True (.exit 0) (fun x => [(3, hs x 0)]) (fun x => []) [.s (li (↑(1 + sumBy sizeY s.items) : Int))]]
theorem Sc_sCount_sLa (s : Syntax) (h : wY s ≤ 1048576) (ih : ∀ (z : Syntax), z ∈ s.items → wY z ≤ 1048576 → OK (P_c_sCount z)) : Lp.Sem Tryz.prog (loopAt Tryz.f114 0)
 (lc_sCount_sLa s) := lpOK (fun k => .i ((↑k : Int) < (↑(List.map syntaxC s.items).length : Int)) (.x (↑k : Int) (List.map syntaxC s.items) (syntaxF (s.items.getD k default)) (.d
 [.rd] (P_c_sCount (s.items.getD k default)) (.r ((↑(1 + sumBy sizeY (List.take k s.items)) : Int) + (↑(sizeY (s.items.getD k default)) : Int)) (.r ((↑k : Int) + 1) (.g [] (k + 1)
 [.s (li ((↑k : Int) + 1)), .s (li ((↑(1 + sumBy sizeY (List.take k s.items)) : Int) + (↑(sizeY (s.items.getD k default)) : Int)))]))))) (.o 0 [] [.s (li (↑(1 + sumBy sizeY
 (List.take k s.items)) : Int))])) (by
  intro k h; try dsimp only [teasy, nthW, lc_sCount_sLa] at h ⊢
  have g1 := wY_eq s
  have g2 := @sumBy_mem _ wY s.items (s.items.getD k default)
  have g3 := @sumBy_step _ _ sizeY s.items k
  have g4 := sumBy_takeLe sizeY s.items (k + 1)
  have g5 := sizeY_le s
  have g6 := sizeY_eq s
  have g7 : s.items.length ≤ k → s.items.take k = s.items := fun h => List.take_of_length_le h
  with_reducible repeat' (first | apply And.intro | exact zR | exact ih | (intro; skip) | apply ih)
  all_goals (try simp only [std, inj] at *)
  all_goals with_reducible repeat' apply And.intro
  all_goals (try (first | with_reducible apply ih | (simp only [← List.map_append]; first | with_reducible apply ih)))
  all_goals (try (first | exact z | grind [getD_mem', snocI, snocS, rowSnoc])))
theorem c_sCount_s (s : Syntax) (h : wY s ≤ 1048576) (ih : ∀ z ∈ s.items, ∀ (h : wY z ≤ 1048576), P_c_sCount z)  : P_c_sCount s := fnOK Tryz.call114 Tryz.func114 (.z syntaxC s.items
 (.l (lc_sCount_sLa s) (Sc_sCount_sLa s h ih) [] [.s (li 0), .s (li 1)] 0 (.t (.s (li (↑(1 + sumBy sizeY s.items) : Int))) .q))) (by
  dsimp only [teasy, P_c_sCount, nthW, lc_sCount_sLa]
  have g6 := sizeY_eq s
  have g7 : sumBy sizeY (s.items.take 0) = 0 := rfl
  with_reducible repeat' (first | apply And.intro | exact zR | exact ih | (intro; skip))
  all_goals (try simp only [std, inj] at *)
  all_goals with_reducible repeat' apply And.intro
  all_goals (try (first | with_reducible apply ih | (simp only [← List.map_append]; first | with_reducible apply ih)))
  all_goals (try (first | exact z | grind [snocI, snocS, rowSnoc])))
theorem c_sCount (s : Syntax) : ∀ (h : wY s ≤ 1048576), P_c_sCount s := Syntax.ind (P := fun s => ∀ (h : wY s ≤ 1048576), P_c_sCount s) (fun s ih h => c_sCount_s s h ih) s
abbrev P_c_iCount (s : Syntax) : Ct := ⟨111, [], [syntaxA s], [], .sv (li (sizeY s))⟩
def lc_iCount_sLa (s : Syntax) : Lp Nat := .mk 19 0 (fun x => [(3, hs x 1), (7, ll (List.map syntaxC s.items)), (8, li (↑(List.map syntaxC s.items).length : Int)), (9, hs x 0)])
 (fun x => []) (fun k => [.s (li (↑k : Int)), .s (li (↑(1 + sumBy sizeY (List.take k s.items)) : Int))]) (fun k => k ≤ s.items.length ∧ s.items.length ≤ 9223372036854775807) (fun k
 => s.items.length - k) [.mk True (.exit 0) (fun x => [(3, hs x 0)]) (fun x => []) [.s (li (↑(1 + sumBy sizeY s.items) : Int))]]
theorem Sc_iCount_sLa (s : Syntax) (h : wY s ≤ 1048576) (ih : ∀ (z : Syntax), z ∈ s.items → wY z ≤ 1048576 → OK (P_c_iCount z)) : Lp.Sem Tryz.prog (loopAt Tryz.f111 0)
 (lc_iCount_sLa s) := lpOK (fun k => .i ((↑k : Int) < (↑(List.map syntaxC s.items).length : Int)) (.x (↑k : Int) (List.map syntaxC s.items) (syntaxF (s.items.getD k default)) (.d
 [.rd] (P_c_iCount (s.items.getD k default)) (.r ((↑(1 + sumBy sizeY (List.take k s.items)) : Int) + (↑(sizeY (s.items.getD k default)) : Int)) (.r ((↑k : Int) + 1) (.g [] (k + 1)
 [.s (li ((↑k : Int) + 1)), .s (li ((↑(1 + sumBy sizeY (List.take k s.items)) : Int) + (↑(sizeY (s.items.getD k default)) : Int)))]))))) (.o 0 [] [.s (li (↑(1 + sumBy sizeY
 (List.take k s.items)) : Int))])) (by
  intro k h; try dsimp only [teasy, nthW, lc_iCount_sLa] at h ⊢
  have g1 := wY_eq s
  have g2 := @sumBy_mem _ wY s.items (s.items.getD k default)
  have g3 := @sumBy_step _ _ sizeY s.items k
  have g4 := sumBy_takeLe sizeY s.items (k + 1)
  have g5 := sizeY_le s
  have g6 := sizeY_eq s
  have g7 : s.items.length ≤ k → s.items.take k = s.items := fun h => List.take_of_length_le h
  with_reducible repeat' (first | apply And.intro | exact zR | exact ih | (intro; skip) | apply ih)
  all_goals (try simp only [std, inj] at *)
  all_goals with_reducible repeat' apply And.intro
  all_goals (try (first | with_reducible apply ih | (simp only [← List.map_append]; first | with_reducible apply ih)))
  all_goals (try (first | exact z | grind [getD_mem', snocI, snocS, rowSnoc])))
theorem c_iCount_s (s : Syntax) (h : wY s ≤ 1048576) (ih : ∀ z ∈ s.items, ∀ (h : wY z ≤ 1048576), P_c_iCount z)  : P_c_iCount s := fnOK Tryz.call111 Tryz.func111 (.z syntaxC s.items
 (.l (lc_iCount_sLa s) (Sc_iCount_sLa s h ih) [] [.s (li 0), .s (li 1)] 0 (.t (.s (li (↑(1 + sumBy sizeY s.items) : Int))) .q))) (by
  dsimp only [teasy, P_c_iCount, nthW, lc_iCount_sLa]
  have g6 := sizeY_eq s
  have g7 : sumBy sizeY (s.items.take 0) = 0 := rfl
  with_reducible repeat' (first | apply And.intro | exact zR | exact ih | (intro; skip))
  all_goals (try simp only [std, inj] at *)
  all_goals with_reducible repeat' apply And.intro
  all_goals (try (first | with_reducible apply ih | (simp only [← List.map_append]; first | with_reducible apply ih)))
  all_goals (try (first | exact z | grind [snocI, snocS, rowSnoc])))
theorem c_iCount (s : Syntax) : ∀ (h : wY s ≤ 1048576), P_c_iCount s := Syntax.ind (P := fun s => ∀ (h : wY s ≤ 1048576), P_c_iCount s) (fun s ih h => c_iCount_s s h ih) s
def clP (Ls : List Syntax) (p : Syntax) : Bool := isSyn p && decide (p.kind = 0) && !decide ((p.items.length : Int) = 0) && decide ((p.items.getD 0 default).kind = 1) && !isDots (p.items.getD 0 default) && (vrS Ls (tlY p) 0 []).isSome
def clT (Ls : List Syntax) (p t : Syntax) : Bool := clP Ls p && tmF ((vrS Ls (tlY p) 0 []).getD []) t
def clTo (r : Rules) : Nat → Bool
  | 0 => true
  | k + 1 => clTo r k && clT r.literals (r.patterns.getD k default) (r.templates.getD k default)
def clN (r : Rules) : Nat → Nat
  | 0 => 0
  | k + 1 => clN r k + sizeY (r.patterns.getD k default) + sizeY (r.templates.getD k default)
theorem clTo_le (r : Rules) : ∀ (m k : Nat), k ≤ m → clTo r m = true → clTo r k = true
  | 0, k, h, _ => by
    obtain rfl : k = 0 := by omega
    rfl
  | m + 1, k, h, ht => by
    by_cases e : k = m + 1
    · rw [e]; exact ht
    · refine clTo_le r m k (by omega) ?_
      simp only [clTo, Bool.and_eq_true] at ht; exact ht.1
theorem clN_le (r : Rules) : ∀ k, k ≤ r.patterns.length → r.patterns.length = r.templates.length → clN r k ≤ 2 * k + sumBy wY (r.patterns.take k) + sumBy wY (r.templates.take k)
  | 0, _, _ => by simp [clN, sumBy]
  | k + 1, hk, hl => by
    have ih := clN_le r k (by omega) hl
    have h1 := @sumBy_step _ _ wY r.patterns k (by omega)
    have h2 := @sumBy_step _ _ wY r.templates k (by omega)
    have h3 := sizeY_le (r.patterns.getD k default)
    have h4 := sizeY_le (r.templates.getD k default)
    simp only [clN]; omega
def isRul (r : Rules) : Bool := okL r.literals && decide ((r.patterns.length : Int) = r.templates.length) && decide (1 ≤ (r.patterns.length : Int) ∧ (r.patterns.length : Int) ≤ 12) && clTo r r.patterns.length && decide ((clN r r.patterns.length : Int) ≤ 2000)
abbrev P_c_sIsRules (r : Rules) : Ct := ⟨50, [], [rulesA r], [], .sv (lb (isRul r))⟩
def lc_sIsRulesLa (r : Rules) : Lp Nat := .mk 100 0 (fun x => [(1, SV.one (AC.ptr 0 0)), (3, hs x 1), (29, ll (List.map syntaxC r.patterns)), (30, li (↑(List.map syntaxC
 r.patterns).length : Int)), (31, hs x 0)]) (fun x => [Ob.box (vals (rulesF r))]) (fun k => [.s (li (↑k : Int)), .s (li (↑(clN r k) : Int))]) (fun k => k ≤ r.patterns.length ∧
 r.patterns.length ≤ 9223372036854775807 ∧ r.patterns.length = r.templates.length ∧ r.patterns.length ≤ 12 ∧ clTo r k = true) (fun k => r.patterns.length - k) [.mk (clTo r
 r.patterns.length = true) (.exit 0) (fun x => [(3, hs x 0)]) (fun x => []) [.s (li (↑(clN r r.patterns.length) : Int))], .mk (clTo r r.patterns.length = false) .ret (fun x => [(2,
 hs x 0)]) (fun x => []) [.s (lb false)]]
theorem Sc_sIsRulesLa (r : Rules) (h : wR r ≤ 1048576) : Lp.Sem Tryz.prog (loopAt Tryz.f50 0) (lc_sIsRulesLa r) := lpOK (fun k => .i ((↑k : Int) < (↑(List.map syntaxC
 r.patterns).length : Int)) (.x (↑k : Int) (List.map syntaxC r.patterns) (syntaxF (r.patterns.getD k default)) (.c [.rd] (c_sIsSyntax (r.patterns.getD k default)) (.b (!isSyn
 (r.patterns.getD k default)) (.y true (.y true (.y true (.y true (.o 1 [] [.s (lb false)]))))) (.i ((r.patterns.getD k default).kind ≠ 0) (.y true (.y true (.y true (.o 1 [] [.s
 (lb false)])))) (.z syntaxC (r.patterns.getD k default).items (.i ((↑(List.map syntaxC (r.patterns.getD k default).items).length : Int) = 0) (.y true (.y true (.o 1 [] [.s (lb
 false)]))) (.w (.cells (syntaxF ((r.patterns.getD k default).items.getD 0 default))) (.p ((0 : Int) ≤ 0 ∧ (List.map syntaxC (r.patterns.getD k default).items)[0]? = some (syntaxF
 ((r.patterns.getD k default).items.getD 0 default))) (.i (((r.patterns.getD k default).items.getD 0 default).kind ≠ 1) (.y true (.o 1 [] [.s (lb false)])) (.w (.cells (syntaxF
 ((r.patterns.getD k default).items.getD 0 default))) (.p ((0 : Int) ≤ 0 ∧ (List.map syntaxC (r.patterns.getD k default).items)[0]? = some (syntaxF ((r.patterns.getD k
 default).items.getD 0 default))) (.c [.rd] (c_sDots ((r.patterns.getD k default).items.getD 0 default)) (.b (isDots ((r.patterns.getD k default).items.getD 0 default)) (.o 1 []
 [.s (lb false)]) (.w (.draw [(5, [10])]) (.d [.rd] (P_c_sTail (r.patterns.getD k default)) (.w (.bool false) (.d [.rd, .rd, .rd, .own true 12] (P_c_sVars r.literals (Syntax.mk 0 0
 (mkS []) [] (List.drop 1 (r.patterns.getD k default).items)) 0 []) (.b (!(vrS r.literals (Syntax.mk 0 0 (mkS []) [] (List.drop 1 (r.patterns.getD k default).items)) 0 []).isSome)
 (.y true (.o 1 [] [.s (lb false)])) (.x (↑k : Int) (List.map syntaxC r.templates) (syntaxF (r.templates.getD k default)) (.c [.rd, .rd] (c_sTem ((vrS r.literals (Syntax.mk 0 0
 (mkS []) [] (List.drop 1 (r.patterns.getD k default).items)) 0 []).getD []) (r.templates.getD k default)) (.b (!tmF ((vrS r.literals (Syntax.mk 0 0 (mkS []) [] (List.drop 1
 (r.patterns.getD k default).items)) 0 []).getD []) (r.templates.getD k default)) (.o 1 [] [.s (lb false)]) (.w (.draw []) (.d [.rd] (P_c_sCount (r.patterns.getD k default)) (.r
 ((↑(clN r k) : Int) + (↑(sizeY (r.patterns.getD k default)) : Int)) (.x (↑k : Int) (List.map syntaxC r.templates) (syntaxF (r.templates.getD k default)) (.d [.rd] (P_c_sCount
 (r.templates.getD k default)) (.r ((↑(clN r k) : Int) + (↑(sizeY (r.patterns.getD k default)) : Int) + (↑(sizeY (r.templates.getD k default)) : Int)) (.r ((↑k : Int) + 1) (.g [0]
 (k + 1) [.s (li ((↑k : Int) + 1)), .s (li ((↑(clN r k) : Int) + (↑(sizeY (r.patterns.getD k default)) : Int) + (↑(sizeY (r.templates.getD k default)) :
 Int)))]))))))))))))))))))))))))))))) (.o 0 [] [.s (li (↑(clN r k) : Int))])) (by
  intro k h; try dsimp only [teasy, nthW, lc_sIsRulesLa] at h ⊢
  have g1 := clTo_le r r.patterns.length (k + 1)
  have g2 : clTo r (k + 1) = (clTo r k && clT r.literals (r.patterns.getD k default) (r.templates.getD k default)) := rfl
  have g3 : clN r (k + 1) = clN r k + sizeY (r.patterns.getD k default) + sizeY (r.templates.getD k default) := rfl
  have g4 := clN_le r (k + 1)
  have g5 := sumBy_takeLe wY r.patterns (k + 1)
  have g6 := sumBy_takeLe wY r.templates (k + 1)
  have g7 := wR_eq r
  have g8 := @sumBy_mem _ wY r.patterns (r.patterns.getD k default)
  have g9 := @sumBy_mem _ wY r.templates (r.templates.getD k default)
  have g10 := @tlY_syn (r.patterns.getD k default)
  have g11 := tlY_w (r.patterns.getD k default)
  have g12 : ∀ p, isSyn p = true → sizeY p ≤ 2000 ∧ depY p ≤ 40 := fun p h => by simp only [isSyn, Bool.and_eq_true, decide_eq_true_eq] at h; exact ⟨h.1.1, h.1.2⟩
  with_reducible repeat' (first | apply And.intro | exact zR | (intro; skip) | apply c_sTail | apply c_sVars | apply c_sCount)
  all_goals (try simp only [std, inj] at *)
  all_goals with_reducible repeat' apply And.intro
  all_goals (try (first | with_reducible apply c_sTail | with_reducible apply c_sVars | with_reducible apply c_sCount | (simp only [← List.map_append]; first | with_reducible apply c_sTail | with_reducible apply c_sVars | with_reducible apply c_sCount)))
  all_goals (try (first | exact z | grind [clT, clP, tlY, getD_mem', snocI, snocS, rowSnoc])))
theorem c_sIsRules (r : Rules) (h : wR r ≤ 1048576)  : P_c_sIsRules r := fnOK Tryz.call50 Tryz.func50 (.c [.rd] (c_sLits r.literals) (.b (!okL r.literals) (.y true (.y true (.s (lb
 false)))) (.z syntaxC r.patterns (.z syntaxC r.templates (.i ((↑(List.map syntaxC r.patterns).length : Int) ≠ (↑(List.map syntaxC r.templates).length : Int)) (.y true (.s (lb
 false))) (.z syntaxC r.patterns (.c [.rd, .rd, .rd] (c_l1In (↑(List.map syntaxC r.patterns).length : Int) 1 12) (.b (!decide (1 ≤ (↑(List.map syntaxC r.patterns).length : Int) ∧
 (↑(List.map syntaxC r.patterns).length : Int) ≤ 12)) (.s (lb false)) (.z syntaxC r.patterns (.l (lc_sIsRulesLa r) (Sc_sIsRulesLa r h) [0] [.s (li 0), .s (li 0)] 0 (.t (.s (lb
 (decide ((↑(clN r r.patterns.length) : Int) ≤ 2000)))) (.t (.s (lb false)) .q)))))))))))) (by
  dsimp only [teasy, P_c_sIsRules, nthW, lc_sIsRulesLa]
  with_reducible repeat' (first | apply And.intro | exact zR | (intro; skip) | apply c_sTail | apply c_sVars | apply c_sCount)
  all_goals (try simp only [std, inj] at *)
  all_goals with_reducible repeat' apply And.intro
  all_goals (try (first | with_reducible apply c_sTail | with_reducible apply c_sVars | with_reducible apply c_sCount | (simp only [← List.map_append]; first | with_reducible apply c_sTail | with_reducible apply c_sVars | with_reducible apply c_sCount)))
  all_goals (try (first | exact z | grind [isRul, clTo, clN, snocI, snocS, rowSnoc])))
abbrev P_c_iIsRules (r : Rules) : Ct := ⟨48, [], [rulesA r], [], .sv (lb (isRul r))⟩
def lc_iIsRulesLa (r : Rules) : Lp Nat := .mk 104 0 (fun x => [(1, SV.one (AC.ptr 0 0)), (3, hs x 1), (34, ll (List.map syntaxC r.patterns)), (35, li (↑(List.map syntaxC
 r.patterns).length : Int)), (36, hs x 0)]) (fun x => [Ob.box (vals (rulesF r))]) (fun k => [.s (li (↑k : Int)), .s (li (↑(clN r k) : Int))]) (fun k => k ≤ r.patterns.length ∧
 r.patterns.length ≤ 9223372036854775807 ∧ r.patterns.length = r.templates.length ∧ r.patterns.length ≤ 12 ∧ clTo r k = true ∧ okL r.literals = true) (fun k => r.patterns.length -
 k) [.mk (clTo r r.patterns.length = true) (.exit 0) (fun x => [(3, hs x 0)]) (fun x => []) [.s (li (↑(clN r r.patterns.length) : Int))], .mk (clTo r r.patterns.length = false)
 .ret (fun x => [(2, hs x 0)]) (fun x => []) [.s (lb false)]]
theorem Sc_iIsRulesLa (r : Rules) (h : wR r ≤ 1048576) : Lp.Sem Tryz.prog (loopAt Tryz.f48 0) (lc_iIsRulesLa r) := lpOK (fun k => .i ((↑k : Int) < (↑(List.map syntaxC
 r.patterns).length : Int)) (.x (↑k : Int) (List.map syntaxC r.patterns) (syntaxF (r.patterns.getD k default)) (.c [.rd] (c_iIsSyntax (r.patterns.getD k default)) (.b (!isSyn
 (r.patterns.getD k default)) (.y true (.y true (.y true (.y true (.o 1 [] [.s (lb false)]))))) (.i ((r.patterns.getD k default).kind ≠ 0) (.y true (.y true (.y true (.o 1 [] [.s
 (lb false)])))) (.z syntaxC (r.patterns.getD k default).items (.i ((↑(List.map syntaxC (r.patterns.getD k default).items).length : Int) = 0) (.y true (.y true (.o 1 [] [.s (lb
 false)]))) (.w (.cells (syntaxF ((r.patterns.getD k default).items.getD 0 default))) (.p ((0 : Int) ≤ 0 ∧ (List.map syntaxC (r.patterns.getD k default).items)[0]? = some (syntaxF
 ((r.patterns.getD k default).items.getD 0 default))) (.i (((r.patterns.getD k default).items.getD 0 default).kind ≠ 1) (.y true (.o 1 [] [.s (lb false)])) (.w (.cells (syntaxF
 ((r.patterns.getD k default).items.getD 0 default))) (.p ((0 : Int) ≤ 0 ∧ (List.map syntaxC (r.patterns.getD k default).items)[0]? = some (syntaxF ((r.patterns.getD k
 default).items.getD 0 default))) (.c [.rd] (c_iDots ((r.patterns.getD k default).items.getD 0 default)) (.b (isDots ((r.patterns.getD k default).items.getD 0 default)) (.o 1 []
 [.s (lb false)]) (.w (.draw []) (.d [.rd] (P_c_iTail (r.patterns.getD k default)) (.d [.rd, .rd] (P_c_iPat r.literals (Syntax.mk 0 0 (mkS []) [] (List.drop 1 (r.patterns.getD k
 default).items))) (.b (!(okL r.literals && isSyn (Syntax.mk 0 0 (mkS []) [] (List.drop 1 (r.patterns.getD k default).items)) && (vrS r.literals (Syntax.mk 0 0 (mkS []) []
 (List.drop 1 (r.patterns.getD k default).items)) 0 []).isSome)) (.y true (.o 1 [] [.s (lb false)])) (.x (↑k : Int) (List.map syntaxC r.templates) (syntaxF (r.templates.getD k
 default)) (.c [.rd, .rd] (c_iTem (if okL r.literals = true ∧ isSyn (Syntax.mk 0 0 (mkS []) [] (List.drop 1 (r.patterns.getD k default).items)) = true then (vrS r.literals
 (Syntax.mk 0 0 (mkS []) [] (List.drop 1 (r.patterns.getD k default).items)) 0 []).getD [] else []) (r.templates.getD k default)) (.b (!tmF (if okL r.literals = true ∧ isSyn
 (Syntax.mk 0 0 (mkS []) [] (List.drop 1 (r.patterns.getD k default).items)) = true then (vrS r.literals (Syntax.mk 0 0 (mkS []) [] (List.drop 1 (r.patterns.getD k default).items))
 0 []).getD [] else []) (r.templates.getD k default)) (.o 1 [] [.s (lb false)]) (.w (.draw []) (.d [.rd] (P_c_iCount (r.patterns.getD k default)) (.x (↑k : Int) (List.map syntaxC
 r.templates) (syntaxF (r.templates.getD k default)) (.d [.rd] (P_c_iCount (r.templates.getD k default)) (.r ((↑(sizeY (r.patterns.getD k default)) : Int) + (↑(sizeY
 (r.templates.getD k default)) : Int)) (.r ((↑(clN r k) : Int) + ((↑(sizeY (r.patterns.getD k default)) : Int) + (↑(sizeY (r.templates.getD k default)) : Int))) (.r ((↑k : Int) +
 1) (.g [0] (k + 1) [.s (li ((↑k : Int) + 1)), .s (li ((↑(clN r k) : Int) + ((↑(sizeY (r.patterns.getD k default)) : Int) + (↑(sizeY (r.templates.getD k default)) :
 Int))))])))))))))))))))))))))))))))) (.o 0 [] [.s (li (↑(clN r k) : Int))])) (by
  intro k h; try dsimp only [teasy, nthW, lc_iIsRulesLa] at h ⊢
  have g1 := clTo_le r r.patterns.length (k + 1)
  have g2 : clTo r (k + 1) = (clTo r k && clT r.literals (r.patterns.getD k default) (r.templates.getD k default)) := rfl
  have g3 : clN r (k + 1) = clN r k + sizeY (r.patterns.getD k default) + sizeY (r.templates.getD k default) := rfl
  have g4 := clN_le r (k + 1)
  have g5 := sumBy_takeLe wY r.patterns (k + 1)
  have g6 := sumBy_takeLe wY r.templates (k + 1)
  have g7 := wR_eq r
  have g8 := @sumBy_mem _ wY r.patterns (r.patterns.getD k default)
  have g9 := @sumBy_mem _ wY r.templates (r.templates.getD k default)
  have g10 := @tlY_syn (r.patterns.getD k default)
  have g11 := tlY_w (r.patterns.getD k default)
  have g12 : ∀ p, isSyn p = true → sizeY p ≤ 2000 ∧ depY p ≤ 40 := fun p h => by simp only [isSyn, Bool.and_eq_true, decide_eq_true_eq] at h; exact ⟨h.1.1, h.1.2⟩
  with_reducible repeat' (first | apply And.intro | exact zR | (intro; skip) | apply c_iDots | apply c_iTail | apply c_iPat | apply c_iCount)
  all_goals (try simp only [std, inj] at *)
  all_goals with_reducible repeat' apply And.intro
  all_goals (try (first | with_reducible apply c_iDots | with_reducible apply c_iTail | with_reducible apply c_iPat | with_reducible apply c_iCount | (simp only [← List.map_append]; first | with_reducible apply c_iDots | with_reducible apply c_iTail | with_reducible apply c_iPat | with_reducible apply c_iCount)))
  all_goals (try (first | exact z | grind [clT, clP, tlY, getD_mem', snocI, snocS, rowSnoc])))
theorem c_iIsRules (r : Rules) (h : wR r ≤ 1048576)  : P_c_iIsRules r := fnOK Tryz.call48 Tryz.func48 (.c [.rd] (c_iLits r.literals) (.b (!okL r.literals) (.y true (.y true (.y true
 (.s (lb false))))) (.z syntaxC r.patterns (.z syntaxC r.templates (.i ((↑(List.map syntaxC r.patterns).length : Int) ≠ (↑(List.map syntaxC r.templates).length : Int)) (.y true (.y
 true (.s (lb false)))) (.z syntaxC r.patterns (.i ((↑(List.map syntaxC r.patterns).length : Int) < 1) (.y true (.s (lb false))) (.z syntaxC r.patterns (.i (12 < (↑(List.map
 syntaxC r.patterns).length : Int)) (.s (lb false)) (.z syntaxC r.patterns (.l (lc_iIsRulesLa r) (Sc_iIsRulesLa r h) [0] [.s (li 0), .s (li 0)] 0 (.t (.s (lb (decide ((↑(clN r
 r.patterns.length) : Int) ≤ 2000)))) (.t (.s (lb false)) .q))))))))))))) (by
  dsimp only [teasy, P_c_iIsRules, nthW, lc_iIsRulesLa]
  with_reducible repeat' (first | apply And.intro | exact zR | (intro; skip) | apply c_iDots | apply c_iTail | apply c_iPat | apply c_iCount)
  all_goals (try simp only [std, inj] at *)
  all_goals with_reducible repeat' apply And.intro
  all_goals (try (first | with_reducible apply c_iDots | with_reducible apply c_iTail | with_reducible apply c_iPat | with_reducible apply c_iCount | (simp only [← List.map_append]; first | with_reducible apply c_iDots | with_reducible apply c_iTail | with_reducible apply c_iPat | with_reducible apply c_iCount)))
  all_goals (try (first | exact z | grind [isRul, clTo, clN, snocI, snocS, rowSnoc])))
end Go.Proofs.YtclpofblehlojaaGreat
end
