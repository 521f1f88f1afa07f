/- The program's IsWorld returns what the reference's returns, for all arguments. No condition. -/
import Derived.Test.YtclpofblehlojaaGreatIsW2
section
namespace Go.Proofs.YtclpofblehlojaaGreat
open Go Go.Proofs.YtclpofblehlojaaGreat.Ab
set_option linter.unusedVariables false
set_option linter.unusedSimpArgs false
set_option maxHeartbeats 4000000
def bndM (k : Int) : Int := if k = 1 then 11 else if k = 2 then 13 else if k = 3 then 99999 else if k = 4 then 99999 else -1
def isBnd (b : Binding) : Bool := isSym b.text && okSc b.scopes && decide (0 ≤ b.number ∧ b.number ≤ bndM b.kind)
abbrev P_c_sIsBnd (b : Binding) : Ct := ⟨77, [], [bindingA b], [], .sv (lb (isBnd b))⟩
theorem c_sIsBnd (b : Binding)  : P_c_sIsBnd b := fnOK Tryz.call77 Tryz.func77 (.i (b.kind = 1) (.c [] c_sFormNames (.h (12 ≤ 9223372036854775807) (.r 11 (.c [.rd] (c_sIsSymbol
 b.text) (.b (isSym b.text) (.c [.rd] (c_sScopes b.scopes) (.b (okSc b.scopes) (.c [.rd, .rd, .rd] (c_l1In b.number 0 11) (.s (lb (decide (0 ≤ b.number ∧ b.number ≤ 11))))) (.s (lb
 false)))) (.y false (.s (lb false)))))))) (.i (b.kind = 2) (.c [] c_sPrimitiveNames (.h (14 ≤ 9223372036854775807) (.r 13 (.c [.rd] (c_sIsSymbol b.text) (.b (isSym b.text) (.c
 [.rd] (c_sScopes b.scopes) (.b (okSc b.scopes) (.c [.rd, .rd, .rd] (c_l1In b.number 0 13) (.s (lb (decide (0 ≤ b.number ∧ b.number ≤ 13))))) (.s (lb false)))) (.y false (.s (lb
 false)))))))) (.i (b.kind = 3) (.y true (.c [.rd] (c_sIsSymbol b.text) (.b (isSym b.text) (.c [.rd] (c_sScopes b.scopes) (.b (okSc b.scopes) (.c [.rd, .rd, .rd] (c_l1In b.number 0
 99999) (.s (lb (decide (0 ≤ b.number ∧ b.number ≤ 99999))))) (.s (lb false)))) (.y false (.s (lb false)))))) (.i (b.kind = 4) (.c [.rd] (c_sIsSymbol b.text) (.b (isSym b.text) (.c
 [.rd] (c_sScopes b.scopes) (.b (okSc b.scopes) (.c [.rd, .rd, .rd] (c_l1In b.number 0 99999) (.s (lb (decide (0 ≤ b.number ∧ b.number ≤ 99999))))) (.s (lb false)))) (.y false (.s
 (lb false))))) (.c [.rd] (c_sIsSymbol b.text) (.b (isSym b.text) (.c [.rd] (c_sScopes b.scopes) (.b (okSc b.scopes) (.c [.rd, .rd, .rd] (c_l1In b.number 0 (-1 : Int)) (.s (lb
 (decide (0 ≤ b.number ∧ b.number ≤ (-1 : Int)))))) (.s (lb false)))) (.y false (.s (lb false))))))))) (by
  dsimp only [teasy, P_c_sIsBnd]
  have e1 : formNames.length = 12 := rfl
  have e2 : primNames.length = 14 := rfl
  with_reducible repeat' (first | apply And.intro | exact zR | (intro; skip) | apply mIc | apply mOc | apply mSc | apply mLc)
  all_goals (try simp only [std, inj] at *)
  all_goals with_reducible repeat' apply And.intro
  all_goals (try (first | exact z | exact zM | grind [isBnd, bndM, snocI, snocS, rowSnoc])))
abbrev P_c_iIsBnd (b : Binding) : Ct := ⟨85, [], [bindingA b], [], .sv (lb (isBnd b))⟩
theorem c_iIsBnd (b : Binding)  : P_c_iIsBnd b := fnOK Tryz.call85 Tryz.func85 (.c [.rd] (c_iIsSymbol b.text) (.b (!isSym b.text) (.y true (.y true (.s (lb false)))) (.c [.rd]
 (c_iScopes b.scopes) (.b (!okSc b.scopes) (.y true (.s (lb false))) (.i (b.number < 0) (.s (lb false)) (.i (b.kind = 1) (.w (.draw []) (.c [] c_iFormNames (.h (12 ≤
 9223372036854775807) (.s (lb (decide (b.number < 12))))))) (.i (b.kind = 2) (.w (.draw []) (.c [] c_iPrimitiveNames (.h (14 ≤ 9223372036854775807) (.s (lb (decide (b.number <
 14))))))) (.i (b.kind = 3) (.y true (.s (lb (decide (b.number ≤ 99999))))) (.i (b.kind = 4) (.s (lb (decide (b.number ≤ 99999)))) (.s (lb false))))))))))) (by
  dsimp only [teasy, P_c_iIsBnd]
  have e1 : formNames.length = 12 := rfl
  have e2 : primNames.length = 14 := rfl
  with_reducible repeat' (first | apply And.intro | exact zR | (intro; skip) | apply mIc | apply mOc | apply mSc | apply mLc | apply c_iIsSymbol | apply c_iScopes)
  all_goals (try simp only [std, inj] at *)
  all_goals with_reducible repeat' apply And.intro
  all_goals (try (first | with_reducible apply c_iIsSymbol | with_reducible apply c_iScopes | (simp only [← List.map_append]; first | with_reducible apply c_iIsSymbol | with_reducible apply c_iScopes)))
  all_goals (try (first | exact z | exact zM | grind [isBnd, bndM, snocI, snocS, rowSnoc])))
def clB (t : ByteArray) (s : List Int) (x : Binding) : Bool := decide (x.text = t) && decide (x.scopes = s)
def clash (L : List Binding) (t : ByteArray) (s : List Int) : Bool := L.any (clB t s)
abbrev P_c_sClash (L : List Binding) (b : Binding) : Ct := ⟨78, [], [ll (L.map bindingC), bindingA b], [], .sv (lb (clash L b.text b.scopes))⟩
def lc_sClashLa (L : List Binding) (b : Binding) : Lp Nat := .mk 26 0 (fun x => [(3, SV.one (AC.ptr 0 0)), (7, ll (List.map bindingC L)), (8, li (↑(List.map bindingC L).length :
 Int)), (9, hs x 0)]) (fun x => [Ob.box (vals (bindingF b))]) (fun k => [.s (li (↑k : Int))]) (fun k => k ≤ L.length ∧ L.length ≤ 9223372036854775807 ∧ clash (List.take k L) b.text
 b.scopes = false) (fun k => L.length - k) [.mk (clash L b.text b.scopes = false) (.exit 0) (fun x => []) (fun x => []) [], .mk (clash L b.text b.scopes = true) .ret (fun x => [(4,
 hs x 0)]) (fun x => []) [.s (lb true)]]
theorem Sc_sClashLa (L : List Binding) (b : Binding) : Lp.Sem Tryz.prog (loopAt Tryz.f78 0) (lc_sClashLa L b) := lpOK (fun k => .i ((↑k : Int) < (↑(List.map bindingC L).length :
 Int)) (.x (↑k : Int) (List.map bindingC L) (bindingF (L.getD k default)) (.i ((L.getD k default).text.data.toList = b.text.data.toList) (.c [.rd, .rd] (c_sSameInts (L.getD k
 default).scopes b.scopes) (.i ((L.getD k default).scopes = b.scopes) (.o 1 [] [.s (lb true)]) (.r ((↑k : Int) + 1) (.g [0] (k + 1) [.s (li ((↑k : Int) + 1))])))) (.y false (.r
 ((↑k : Int) + 1) (.g [0] (k + 1) [.s (li ((↑k : Int) + 1))]))))) (.o 0 [] [])) (by
  intro k h; try dsimp only [teasy, nthW, lc_sClashLa] at h ⊢
  with_reducible repeat' (first | apply And.intro | exact zR | (intro; skip) | apply mIc | apply mOc | apply mSc | apply mLc)
  all_goals (try simp only [std, inj] at *)
  all_goals with_reducible repeat' apply And.intro
  all_goals (try (first | exact z | exact zM | grind [take_get, clash, clB, getD_mem', bytes_ext, snocI, snocS, rowSnoc])))
theorem c_sClash (L : List Binding) (b : Binding)  : P_c_sClash L b := fnOK Tryz.call78 Tryz.func78 (.z bindingC L (.l (lc_sClashLa L b) (Sc_sClashLa L b) [0] [.s (li 0)] 0 (.t (.s
 (lb false)) (.t (.s (lb true)) .q)))) (by
  dsimp only [teasy, P_c_sClash, nthW, lc_sClashLa]
  with_reducible repeat' (first | apply And.intro | exact zR | (intro; skip) | apply mIc | apply mOc | apply mSc | apply mLc)
  all_goals (try simp only [std, inj] at *)
  all_goals with_reducible repeat' apply And.intro
  all_goals (try (first | exact z | exact zM | grind [clash, snocI, snocS, rowSnoc])))
def areTo (L : List Binding) : Nat → Bool
  | 0 => true
  | k + 1 => areTo L k && (isBnd (L.getD k default) && !clash (L.take k) (L.getD k default).text (L.getD k default).scopes)
theorem areTo_le (L : List Binding) : ∀ (m k : Nat), k ≤ m → areTo L m = true → areTo L k = true
  | 0, k, h, _ => by
    obtain rfl : k = 0 := by omega
    rfl
  | m + 1, k, h, ht => by
    by_cases e : k = m + 1
    · rw [e]; exact ht
    · refine areTo_le L m k (by omega) ?_
      simp only [areTo, Bool.and_eq_true] at ht; exact ht.1
def areB (L : List Binding) : Bool := areTo L L.length && decide ((L.length : Int) ≤ 1000)
abbrev P_c_sAre (L : List Binding) : Ct := ⟨36, [], [ll (L.map bindingC)], [], .sv (lb (areB L))⟩
def lc_sAreLa (L : List Binding) : Lp Nat := .mk 26 0 (fun x => [(0, ll (List.map bindingC L)), (5, ll (List.map bindingC L)), (6, li (↑(List.map bindingC L).length : Int)), (7, hs
 x 0)]) (fun x => []) (fun k => [.s (li (↑k : Int))]) (fun k => k ≤ L.length ∧ L.length ≤ 9223372036854775807 ∧ areTo L k = true) (fun k => L.length - k) [.mk (areTo L L.length =
 true) (.exit 0) (fun x => [(0, ll (List.map bindingC L))]) (fun x => []) [], .mk (areTo L L.length = false) .ret (fun x => [(2, hs x 0)]) (fun x => []) [.s (lb false)]]
theorem Sc_sAreLa (L : List Binding) : Lp.Sem Tryz.prog (loopAt Tryz.f36 0) (lc_sAreLa L) := lpOK (fun k => .i ((↑k : Int) < (↑(List.map bindingC L).length : Int)) (.x (↑k : Int)
 (List.map bindingC L) (bindingF (L.getD k default)) (.w (.draw []) (.c [.rd] (c_sIsBnd (L.getD k default)) (.b (!isBnd (L.getD k default)) (.y true (.o 1 [] [.s (lb false)])) (.p
 (0 ≤ (↑k : Int)) (.p (0 ≤ (↑k : Int).toNat ∧ (↑k : Int).toNat ≤ (List.map bindingC L).length ∧ ∀ (e : List Cell), e ∈ List.map bindingC L → e.length = 4) (.u [.rd, .rd]
 (P_c_sClash (List.take ((↑k : Int).toNat - 0) (List.drop 0 L)) (L.getD k default)) (.p (CallOK Tryz.prog 78 [] [ll (List.take ((↑k : Int).toNat - 0) (List.drop 0 (List.map
 bindingC L))), SV.agg (vals (bindingF (L.getD k default)))] [] (AV.sv (lb (clash (List.take ((↑k : Int).toNat - 0) (List.drop 0 L)) (L.getD k default).text (L.getD k
 default).scopes)))) (.b (clash (List.take ((↑k : Int).toNat - 0) (List.drop 0 L)) (L.getD k default).text (L.getD k default).scopes) (.o 1 [] [.s (lb false)]) (.r ((↑k : Int) + 1)
 (.g [] (k + 1) [.s (li ((↑k : Int) + 1))]))))))))))) (.o 0 [] [])) (by
  intro k h; try dsimp only [teasy, nthW, lc_sAreLa] at h ⊢
  have g1 := areTo_le L L.length (k + 1)
  have g2 : areTo L (k + 1) = (areTo L k && (isBnd (L.getD k default) && !clash (L.take k) (L.getD k default).text (L.getD k default).scopes)) := rfl
  with_reducible repeat' (first | apply And.intro | exact zR | (intro; skip) | apply mIc | apply mOc | apply mSc | apply mLc | apply c_sIsBnd | apply c_sClash)
  all_goals (try simp only [std, inj] at *)
  all_goals with_reducible repeat' apply And.intro
  all_goals (try (first | with_reducible apply c_sIsBnd | with_reducible apply c_sClash | (simp only [← List.map_append]; first | with_reducible apply c_sIsBnd | with_reducible apply c_sClash)))
  all_goals (try (first | exact z | exact zM | grind [getD_mem', snocI, snocS, rowSnoc])))
theorem c_sAre (L : List Binding)  : P_c_sAre L := fnOK Tryz.call36 Tryz.func36 (.z bindingC L (.l (lc_sAreLa L) (Sc_sAreLa L) [] [.s (li 0)] 0 (.t (.z bindingC L (.s (lb (decide
 ((↑(List.map bindingC L).length : Int) ≤ 1000))))) (.t (.s (lb false)) .q)))) (by
  dsimp only [teasy, P_c_sAre, nthW, lc_sAreLa]
  with_reducible repeat' (first | apply And.intro | exact zR | (intro; skip) | apply mIc | apply mOc | apply mSc | apply mLc)
  all_goals (try simp only [std, inj] at *)
  all_goals with_reducible repeat' apply And.intro
  all_goals (try (first | exact z | exact zM | grind [areB, areTo, snocI, snocS, rowSnoc])))
def plc (L : List Binding) : Nat → ByteArray → List Int
  | 0, _ => []
  | k + 1, s => if s = (L.getD k default).text then plc L k s ++ [(k : Int)] else plc L k s
theorem plc_upd {L : List Binding} {k : Nat} : upd1 (plc L k) (L.getD k default).text (plc L k (L.getD k default).text ++ [(k : Int)]) = plc L (k + 1) := by
  funext s; simp only [upd1, plc]; split
  · rename_i h; rw [h]
  · rfl
theorem plc_zero {L : List Binding} : zL = plc L 0 := rfl
theorem plc_len (L : List Binding) (s : ByteArray) : ∀ k, (plc L k s).length ≤ k
  | 0 => Nat.le_refl _
  | k + 1 => by
    have := plc_len L s k
    simp only [plc]; split
    · simp; omega
    · omega
theorem plc_mem (L : List Binding) (s : ByteArray) : ∀ k (i : Int), i ∈ plc L k s ↔ (0 ≤ i ∧ i < k ∧ (L.getD i.toNat default).text = s)
  | 0, i => by simp [plc]; omega
  | k + 1, i => by
    have ih := plc_mem L s k i
    simp only [plc]; split
    · rename_i h
      rw [List.mem_append, ih, List.mem_singleton]
      constructor
      · rintro (⟨a, b, c⟩ | rfl)
        · exact ⟨a, by omega, c⟩
        · exact ⟨by omega, by omega, by rw [Int.toNat_natCast]; exact h.symm⟩
      · rintro ⟨a, b, c⟩
        by_cases e : i = k
        · exact .inr e
        · exact .inl ⟨a, by omega, c⟩
    · rename_i h
      rw [ih]
      constructor
      · rintro ⟨a, b, c⟩; exact ⟨a, by omega, c⟩
      · rintro ⟨a, b, c⟩
        refine ⟨a, ?_, c⟩
        by_cases e : i = k
        · subst e; rw [Int.toNat_natCast] at c; exact absurd c.symm h
        · omega
def plOK (L : List Binding) (s : List Int) (P : List Int) : Bool := P.all fun i => !decide ((L.getD i.toNat default).scopes = s)
theorem plOK_clash {L : List Binding} {k : Nat} {t : ByteArray} {s : List Int} (hk : k ≤ L.length) : plOK L s (plc L k t) = !clash (L.take k) t s := by
  rw [Bool.eq_iff_iff]
  simp only [plOK, clash, clB, List.all_eq_true, Bool.not_eq_true', decide_eq_false_iff_not, List.any_eq_false, Bool.and_eq_true, decide_eq_true_eq, not_and]
  constructor
  · intro h x hx e
    obtain ⟨j, hj, rfl⟩ := List.getElem_of_mem hx
    rw [List.length_take] at hj
    have e2 : (L.take k)[j]'(by rw [List.length_take]; exact hj) = L.getD j default := by simp [show j < L.length by omega]
    rw [e2] at e ⊢
    have := h (j : Int) ((plc_mem L t k j).2 ⟨by omega, by omega, by rw [Int.toNat_natCast]; exact e⟩)
    rwa [Int.toNat_natCast] at this
  · intro h i hi
    obtain ⟨a, b, c⟩ := (plc_mem L t k i).1 hi
    refine h _ ?_ c
    have e : L.getD i.toNat default = (L.take k)[i.toNat]'(by rw [List.length_take]; omega) := by simp [show i.toNat < L.length by omega]
    rw [e]; exact List.getElem_mem _
theorem plOK_at {L : List Binding} {s : List Int} {P : List Int} {j : Nat} (h : j < P.length) (e : (L.getD (P.getD j default).toNat default).scopes = s) : plOK L s P = false := by
  unfold plOK; rw [List.all_eq_false]; exact ⟨_, getD_mem' h, by rw [decide_eq_true e]; decide⟩
theorem plOK_step {L : List Binding} {s : List Int} {P : List Int} {j : Nat} (h : j < P.length) (h0 : plOK L s (P.take j) = true) (e : (L.getD (P.getD j default).toNat default).scopes ≠ s) : plOK L s (P.take (j + 1)) = true := by
  unfold plOK at *; rw [take_get h, List.all_append, h0]; simpa using e
abbrev P_c_iAre (L : List Binding) : Ct := ⟨33, [], [ll (L.map bindingC)], [], .sv (lb (areB L))⟩
def lc_iAreLb (L : List Binding) (k : Nat) : Lp Nat := .mk 51 0 (fun x => [(0, ll (List.map bindingC L)), (3, SV.one (AC.mref 0)), (4, li (↑k : Int)), (5, SV.one (AC.ptr 1 0)),
 (12, ll (List.map bindingC L)), (13, li (↑(List.map bindingC L).length : Int)), (14, li (↑k : Int)), (25, SV.one (AC.bor 0 (Cell.list (List.map intC (plc L k (L.getD k
 default).text))))), (26, li (↑(List.map intC (plc L k (L.getD k default).text)).length : Int)), (27, hs x 0)]) (fun x => [Ob.map false kL (mL (plc L k)), Ob.box (vals (bindingF
 (L.getD k default)))]) (fun k1 => [.s (li (↑k1 : Int))]) (fun k1 => k1 ≤ (plc L k (L.getD k default).text).length ∧ (plc L k (L.getD k default).text).length ≤ 9223372036854775807
 ∧ k < L.length ∧ areTo L k = true ∧ isBnd (L.getD k default) = true ∧ plOK L (L.getD k default).scopes (List.take k1 (plc L k (L.getD k default).text)) = true) (fun k1 => (plc L k
 (L.getD k default).text).length - k1) [.mk (areTo L (k + 1) = true) (.exit 2) (fun x => [(0, ll (List.map bindingC L)), (3, SV.one (AC.mref 0)), (4, li (↑k : Int)), (5, SV.one
 (AC.ptr 1 0)), (12, ll (List.map bindingC L)), (13, li (↑(List.map bindingC L).length : Int)), (14, li (↑k : Int))]) (fun x => [Ob.map false kL (mL (plc L k)), Ob.box (vals
 (bindingF (L.getD k default)))]) [], .mk (areTo L L.length = false) .ret (fun x => [(2, hs x 0)]) (fun x => []) [.s (lb false)]]
def lc_iAreLa (L : List Binding) : Lp Nat := .mk 51 0 (fun x => [(0, ll (List.map bindingC L)), (3, SV.one (AC.mref 0)), (12, ll (List.map bindingC L)), (13, li (↑(List.map
 bindingC L).length : Int)), (14, hs x 0)]) (fun x => [ho x 1]) (fun k => [.s (li (↑k : Int)), .o (Ob.map false kL (mL (plc L k)))]) (fun k => k ≤ L.length ∧ L.length ≤
 9223372036854775807 ∧ L.length ≤ 1000 ∧ areTo L k = true) (fun k => L.length - k) [.mk (areTo L L.length = true) (.exit 0) (fun x => []) (fun x => []) [], .mk (areTo L L.length =
 false) .ret (fun x => [(2, hs x 0)]) (fun x => []) [.s (lb false)]]
theorem Sc_iAreLb (L : List Binding) (k : Nat) : Lp.Sem Tryz.prog (loopAt Tryz.f33 1) (lc_iAreLb L k) := lpOK (fun k1 => .i ((↑k1 : Int) < (↑(List.map intC (plc L k (L.getD k
 default).text)).length : Int)) (.x (↑k1 : Int) (List.map intC (plc L k (L.getD k default).text)) [cI ((plc L k (L.getD k default).text).getD k1 0)] (.w (.draw []) (.x ((plc L k
 (L.getD k default).text).getD k1 0) (List.map bindingC L) (bindingF (L.getD ((plc L k (L.getD k default).text).getD k1 0).toNat default)) (.c [.rd, .rd] (c_iSameInts (L.getD ((plc
 L k (L.getD k default).text).getD k1 0).toNat default).scopes (L.getD k default).scopes) (.i ((L.getD ((plc L k (L.getD k default).text).getD k1 0).toNat default).scopes = (L.getD
 k default).scopes) (.o 1 [] [.s (lb false)]) (.r ((↑k1 : Int) + 1) (.g [0, 1] (k1 + 1) [.s (li ((↑k1 : Int) + 1))]))))))) (.o 0 [0, 1] [])) (by
  intro k1 h; try dsimp only [teasy, nthW, lc_iAreLb] at h ⊢
  have g1 := areTo_le L L.length (k + 1)
  have g2 : areTo L (k + 1) = (areTo L k && (isBnd (L.getD k default) && !clash (L.take k) (L.getD k default).text (L.getD k default).scopes)) := rfl
  have g3 := @plOK_clash L k (L.getD k default).text (L.getD k default).scopes
  have g4 := @plOK_at L (L.getD k default).scopes (plc L k (L.getD k default).text) k1
  have g5 := @plOK_step L (L.getD k default).scopes (plc L k (L.getD k default).text) k1
  have g6 := plc_mem L (L.getD k default).text k ((plc L k (L.getD k default).text).getD k1 default)
  have g7 : ∀ j, (plc L k (L.getD k default).text).length ≤ j → (plc L k (L.getD k default).text).take j = plc L k (L.getD k default).text := fun j h => List.take_of_length_le h
  with_reducible repeat' (first | apply And.intro | exact zR | (intro; skip) | apply mIc | apply mOc | apply mSc | apply mLc)
  all_goals (try simp only [std, inj] at *)
  all_goals with_reducible repeat' apply And.intro
  all_goals (try (first | exact z | exact zM | grind [getD_mem', snocI, snocS, rowSnoc])))
theorem Sc_iAreLa (L : List Binding) : Lp.Sem Tryz.prog (loopAt Tryz.f33 0) (lc_iAreLa L) := lpOK (fun k => .i ((↑k : Int) < (↑(List.map bindingC L).length : Int)) (.x (↑k : Int)
 (List.map bindingC L) (bindingF (L.getD k default)) (.c [.rd] (c_iIsBnd (L.getD k default)) (.b (!isBnd (L.getD k default)) (.o 1 [] [.s (lb false)]) (.w (.cells [Cell.list
 (List.map intC (plc L k (L.getD k default).text))]) (.p (LookAt (Value.slice none 0 0) (mL (plc L k)) (Value.string (L.getD k default).text) (Cell.list (List.map intC (plc L k
 (L.getD k default).text)))) (.z intC (plc L k (L.getD k default).text) (.l (lc_iAreLb L k) (Sc_iAreLb L k) [0, 1] [.s (li 0)] 0 (.t (.w (.draw [(6, [0]), (9, [2, 3]), (10, [4,
 0])]) (.w (.taken (List.map intC (plc L k (L.getD k default).text)) 1 (mLt (plc L k) (L.getD k default).text)) (.p (LookAt (Value.slice none 0 0) (mL (plc L k)) (Value.string
 (L.getD k default).text) (Cell.list (List.map intC (plc L k (L.getD k default).text)))) (.p (UpdF kL.d (mL (plc L k)) (mLt (plc L k) (L.getD k default).text) (Value.string (L.getD
 k default).text) (some Cell.any)) (.p (some (Value.slice none 0 0) = some (Value.slice none 0 0)) (.p (∀ (x : List Cell), x ∈ List.map intC (plc L k (L.getD k default).text) →
 x.length = 1) (.p (((List.map intC (plc L k (L.getD k default).text)).length + 1) * 8 ≤ 140737488355328) (.w (.upd (mL (upd1 (plc L k) (L.getD k default).text (plc L k (L.getD k
 default).text ++ [(↑k : Int)])))) (.p (false = false) (.p (UpdF kL.d (mLt (plc L k) (L.getD k default).text) (mL (upd1 (plc L k) (L.getD k default).text (plc L k (L.getD k
 default).text ++ [(↑k : Int)]))) (Value.string (L.getD k default).text) (some (Cell.list (List.map intC (plc L k (L.getD k default).text) ++ [[cI (↑k : Int)]])))) (.r ((↑k : Int)
 + 1) (.g [0] (k + 1) [.s (li ((↑k : Int) + 1)), .o (Ob.map false kL (mL (upd1 (plc L k) (L.getD k default).text (plc L k (L.getD k default).text ++ [(↑k : Int)]))))]))))))))))))
 (.t (.o 1 [] [.s (lb false)]) .q))))))))) (.o 0 [] [])) (by
  intro k h; try dsimp only [teasy, nthW, lc_iAreLa, lc_iAreLb] at h ⊢
  have g1 := areTo_le L L.length (k + 1)
  have g2 : areTo L (k + 1) = (areTo L k && (isBnd (L.getD k default) && !clash (L.take k) (L.getD k default).text (L.getD k default).scopes)) := rfl
  have g3 := plc_len L (L.getD k default).text k
  have g4 := @plc_upd L k
  have g5 : plOK L (L.getD k default).scopes ((plc L k (L.getD k default).text).take 0) = true := rfl
  with_reducible repeat' (first | apply And.intro | exact zR | (intro; skip) | apply mIc | apply mOc | apply mSc | apply mLc)
  all_goals (try simp only [std, inj] at *)
  all_goals with_reducible repeat' apply And.intro
  all_goals (try (first | exact z | exact zM | grind [getD_mem', snocI, snocS, rowSnoc]))
  all_goals (try (exact upd_mL (by simp [intC]))))
theorem c_iAre (L : List Binding)  : P_c_iAre L := fnOK Tryz.call33 Tryz.func33 (.z bindingC L (.i (1000 < (↑(List.map bindingC L).length : Int)) (.s (lb false)) (.w (.mkmap kL) (.z
 bindingC L (.l (lc_iAreLa L) (Sc_iAreLa L) [0] [.s (li 0), .o (Ob.map false kL (mL zL))] 0 (.t (.s (lb true)) (.t (.s (lb false)) .q))))))) (by
  dsimp only [teasy, P_c_iAre, nthW, lc_iAreLa]
  with_reducible repeat' (first | apply And.intro | exact zR | (intro; skip) | apply mIc | apply mOc | apply mSc | apply mLc)
  all_goals (try simp only [std, inj] at *)
  all_goals with_reducible repeat' apply And.intro
  all_goals (try (first | exact z | exact zM | grind [areB, areTo, plc_zero, snocI, snocS, rowSnoc])))
mutual
/-- is no scope greater than a number? -/
def blw (n : Int) : Syntax → Bool
  | ⟨_, _, _, s, l⟩ => s.all (fun x => decide (x ≤ n)) && blws n l
def blws (n : Int) : List Syntax → Bool
  | [] => true
  | x :: r => blw n x && blws n r
end
theorem blws_eq (n : Int) : ∀ l, blws n l = l.all (blw n)
  | [] => by simp [blws]
  | x :: r => by rw [blws, blws_eq n r]; rfl
def scB (n : Int) (L : List Int) : Bool := L.all fun x => decide (x ≤ n)
theorem blw_eq (n : Int) (s : Syntax) : blw n s = (scB n s.scopes && s.items.all (blw n)) := by cases s; simp only [blw, blws_eq, scB]
theorem scB_stop {n : Int} {L : List Int} {k : Nat} (h : k < L.length) (e : n < L.getD k 0) : scB n L = false := by
  unfold scB; rw [List.all_eq_false]; exact ⟨L.getD k 0, getD_mem' h, by rw [decide_eq_false (by omega)]; decide⟩
abbrev P_c_sBelow (s : Syntax) (n : Int) : Ct := ⟨182, [], [syntaxA s, li n], [], .sv (lb (blw n s))⟩
def lc_sBelow_sLb (s : Syntax) (n : Int) : Lp Nat := .mk 32 0 (fun x => [(1, li n), (21, ll (List.map syntaxC s.items)), (22, li (↑(List.map syntaxC s.items).length : Int)), (23,
 hs x 0)]) (fun x => []) (fun k => [.s (li (↑k : Int))]) (fun k => k ≤ s.items.length ∧ s.items.length ≤ 9223372036854775807 ∧ (List.take k s.items).all (blw n) = true) (fun k =>
 s.items.length - k) [.mk (s.items.all (blw n) = true) (.exit 2) (fun x => []) (fun x => []) [], .mk (s.items.all (blw n) = false) .ret (fun x => [(4, hs x 0)]) (fun x => []) [.s
 (lb false)]]
def lc_sBelow_sLa (s : Syntax) (n : Int) : Lp Nat := .mk 32 0 (fun x => [(1, li n), (2, SV.one (AC.ptr 0 0)), (10, ll (List.map intC s.scopes)), (11, li (↑(List.map intC
 s.scopes).length : Int)), (12, hs x 0)]) (fun x => [Ob.box (vals (syntaxF s))]) (fun k => [.s (li (↑k : Int))]) (fun k => k ≤ s.scopes.length ∧ s.scopes.length ≤
 9223372036854775807 ∧ scB n (List.take k s.scopes) = true) (fun k => s.scopes.length - k) [.mk (scB n s.scopes = true) (.exit 0) (fun x => [(1, li n), (2, SV.one (AC.ptr 0 0))])
 (fun x => [Ob.box (vals (syntaxF s))]) [], .mk (blw n s = false) .ret (fun x => [(4, hs x 0)]) (fun x => []) [.s (lb false)]]
theorem Sc_sBelow_sLb (s : Syntax) (n : Int) (ih : ∀ (z : Syntax), z ∈ s.items → ∀ (n : Int), OK (P_c_sBelow z n)) : Lp.Sem Tryz.prog (loopAt Tryz.f182 1) (lc_sBelow_sLb s n) :=
 lpOK (fun k => .i ((↑k : Int) < (↑(List.map syntaxC s.items).length : Int)) (.x (↑k : Int) (List.map syntaxC s.items) (syntaxF (s.items.getD k default)) (.d [.rd, .rd] (P_c_sBelow
 (s.items.getD k default) n) (.b (!blw n (s.items.getD k default)) (.o 1 [] [.s (lb false)]) (.r ((↑k : Int) + 1) (.g [] (k + 1) [.s (li ((↑k : Int) + 1))]))))) (.o 0 [] [])) (by
  intro k h; try dsimp only [teasy, nthW, lc_sBelow_sLb] at h ⊢
  with_reducible repeat' (first | apply And.intro | exact zR | exact ih | (intro; skip) | apply mIc | apply mOc | apply mSc | apply mLc | apply ih)
  all_goals (try simp only [std, inj] at *)
  all_goals with_reducible repeat' apply And.intro
  all_goals (try (first | with_reducible apply ih | (simp only [← List.map_append]; first | with_reducible apply ih)))
  all_goals (try (first | exact z | exact zM | grind [take_get, getD_mem', snocI, snocS, rowSnoc])))
theorem Sc_sBelow_sLa (s : Syntax) (n : Int) (ih : ∀ (z : Syntax), z ∈ s.items → ∀ (n : Int), OK (P_c_sBelow z n)) : Lp.Sem Tryz.prog (loopAt Tryz.f182 0) (lc_sBelow_sLa s n) :=
 lpOK (fun k => .i ((↑k : Int) < (↑(List.map intC s.scopes).length : Int)) (.x (↑k : Int) (List.map intC s.scopes) [cI (s.scopes.getD k 0)] (.i (n < s.scopes.getD k 0) (.o 1 [] [.s
 (lb false)]) (.r ((↑k : Int) + 1) (.g [0] (k + 1) [.s (li ((↑k : Int) + 1))])))) (.o 0 [0] [])) (by
  intro k h; try dsimp only [teasy, nthW, lc_sBelow_sLa] at h ⊢
  have g1 := blw_eq n s
  have g2 := @scB_stop n s.scopes k
  with_reducible repeat' (first | apply And.intro | exact zR | exact ih | (intro; skip) | apply mIc | apply mOc | apply mSc | apply mLc | apply ih)
  all_goals (try simp only [std, inj] at *)
  all_goals with_reducible repeat' apply And.intro
  all_goals (try (first | with_reducible apply ih | (simp only [← List.map_append]; first | with_reducible apply ih)))
  all_goals (try (first | exact z | exact zM | grind [take_get, getD_mem', scB, snocI, snocS, rowSnoc])))
theorem c_sBelow_s (s : Syntax) (n : Int) (ih : ∀ z ∈ s.items, ∀ (n : Int), P_c_sBelow z n)  : P_c_sBelow s n := fnOK Tryz.call182 Tryz.func182 (.z intC s.scopes (.l (lc_sBelow_sLa s
 n) (Sc_sBelow_sLa s n ih) [0] [.s (li 0)] 0 (.t (.z syntaxC s.items (.l (lc_sBelow_sLb s n) (Sc_sBelow_sLb s n ih) [] [.s (li 0)] 0 (.t (.s (lb true)) (.t (.s (lb false)) .q))))
 (.t (.s (lb false)) .q)))) (by
  dsimp only [teasy, P_c_sBelow, nthW, lc_sBelow_sLa, lc_sBelow_sLb]
  have g1 := blw_eq n s
  with_reducible repeat' (first | apply And.intro | exact zR | exact ih | (intro; skip) | apply mIc | apply mOc | apply mSc | apply mLc)
  all_goals (try simp only [std, inj] at *)
  all_goals with_reducible repeat' apply And.intro
  all_goals (try (first | with_reducible apply ih | (simp only [← List.map_append]; first | with_reducible apply ih)))
  all_goals (try (first | exact z | exact zM | grind [scB, snocI, snocS, rowSnoc])))
theorem c_sBelow (s : Syntax) : ∀ (n : Int), P_c_sBelow s n := Syntax.ind (P := fun s => ∀ (n : Int), P_c_sBelow s n) (fun s ih n => c_sBelow_s s n ih) s
abbrev P_c_iBelow (s : Syntax) (n : Int) : Ct := ⟨229, [], [syntaxA s, li n], [], .sv (lb (blw n s))⟩
def lc_iBelow_sLb (s : Syntax) (n : Int) : Lp Nat := .mk 32 0 (fun x => [(1, li n), (21, ll (List.map syntaxC s.items)), (22, li (↑(List.map syntaxC s.items).length : Int)), (23,
 hs x 0)]) (fun x => []) (fun k => [.s (li (↑k : Int))]) (fun k => k ≤ s.items.length ∧ s.items.length ≤ 9223372036854775807 ∧ (List.take k s.items).all (blw n) = true) (fun k =>
 s.items.length - k) [.mk (s.items.all (blw n) = true) (.exit 2) (fun x => []) (fun x => []) [], .mk (s.items.all (blw n) = false) .ret (fun x => [(4, hs x 0)]) (fun x => []) [.s
 (lb false)]]
def lc_iBelow_sLa (s : Syntax) (n : Int) : Lp Nat := .mk 32 0 (fun x => [(1, li n), (2, SV.one (AC.ptr 0 0)), (10, ll (List.map intC s.scopes)), (11, li (↑(List.map intC
 s.scopes).length : Int)), (12, hs x 0)]) (fun x => [Ob.box (vals (syntaxF s))]) (fun k => [.s (li (↑k : Int))]) (fun k => k ≤ s.scopes.length ∧ s.scopes.length ≤
 9223372036854775807 ∧ scB n (List.take k s.scopes) = true) (fun k => s.scopes.length - k) [.mk (scB n s.scopes = true) (.exit 0) (fun x => [(1, li n), (2, SV.one (AC.ptr 0 0))])
 (fun x => [Ob.box (vals (syntaxF s))]) [], .mk (blw n s = false) .ret (fun x => [(4, hs x 0)]) (fun x => []) [.s (lb false)]]
theorem Sc_iBelow_sLb (s : Syntax) (n : Int) (ih : ∀ (z : Syntax), z ∈ s.items → ∀ (n : Int), OK (P_c_iBelow z n)) : Lp.Sem Tryz.prog (loopAt Tryz.f229 1) (lc_iBelow_sLb s n) :=
 lpOK (fun k => .i ((↑k : Int) < (↑(List.map syntaxC s.items).length : Int)) (.x (↑k : Int) (List.map syntaxC s.items) (syntaxF (s.items.getD k default)) (.d [.rd, .rd] (P_c_iBelow
 (s.items.getD k default) n) (.b (!blw n (s.items.getD k default)) (.o 1 [] [.s (lb false)]) (.r ((↑k : Int) + 1) (.g [] (k + 1) [.s (li ((↑k : Int) + 1))]))))) (.o 0 [] [])) (by
  intro k h; try dsimp only [teasy, nthW, lc_iBelow_sLb] at h ⊢
  with_reducible repeat' (first | apply And.intro | exact zR | exact ih | (intro; skip) | apply mIc | apply mOc | apply mSc | apply mLc | apply ih)
  all_goals (try simp only [std, inj] at *)
  all_goals with_reducible repeat' apply And.intro
  all_goals (try (first | with_reducible apply ih | (simp only [← List.map_append]; first | with_reducible apply ih)))
  all_goals (try (first | exact z | exact zM | grind [take_get, getD_mem', snocI, snocS, rowSnoc])))
theorem Sc_iBelow_sLa (s : Syntax) (n : Int) (ih : ∀ (z : Syntax), z ∈ s.items → ∀ (n : Int), OK (P_c_iBelow z n)) : Lp.Sem Tryz.prog (loopAt Tryz.f229 0) (lc_iBelow_sLa s n) :=
 lpOK (fun k => .i ((↑k : Int) < (↑(List.map intC s.scopes).length : Int)) (.x (↑k : Int) (List.map intC s.scopes) [cI (s.scopes.getD k 0)] (.i (n < s.scopes.getD k 0) (.o 1 [] [.s
 (lb false)]) (.r ((↑k : Int) + 1) (.g [0] (k + 1) [.s (li ((↑k : Int) + 1))])))) (.o 0 [0] [])) (by
  intro k h; try dsimp only [teasy, nthW, lc_iBelow_sLa] at h ⊢
  have g1 := blw_eq n s
  have g2 := @scB_stop n s.scopes k
  with_reducible repeat' (first | apply And.intro | exact zR | exact ih | (intro; skip) | apply mIc | apply mOc | apply mSc | apply mLc | apply ih)
  all_goals (try simp only [std, inj] at *)
  all_goals with_reducible repeat' apply And.intro
  all_goals (try (first | with_reducible apply ih | (simp only [← List.map_append]; first | with_reducible apply ih)))
  all_goals (try (first | exact z | exact zM | grind [take_get, getD_mem', scB, snocI, snocS, rowSnoc])))
theorem c_iBelow_s (s : Syntax) (n : Int) (ih : ∀ z ∈ s.items, ∀ (n : Int), P_c_iBelow z n)  : P_c_iBelow s n := fnOK Tryz.call229 Tryz.func229 (.z intC s.scopes (.l (lc_iBelow_sLa s
 n) (Sc_iBelow_sLa s n ih) [0] [.s (li 0)] 0 (.t (.z syntaxC s.items (.l (lc_iBelow_sLb s n) (Sc_iBelow_sLb s n ih) [] [.s (li 0)] 0 (.t (.s (lb true)) (.t (.s (lb false)) .q))))
 (.t (.s (lb false)) .q)))) (by
  dsimp only [teasy, P_c_iBelow, nthW, lc_iBelow_sLa, lc_iBelow_sLb]
  have g1 := blw_eq n s
  with_reducible repeat' (first | apply And.intro | exact zR | exact ih | (intro; skip) | apply mIc | apply mOc | apply mSc | apply mLc)
  all_goals (try simp only [std, inj] at *)
  all_goals with_reducible repeat' apply And.intro
  all_goals (try (first | with_reducible apply ih | (simp only [← List.map_append]; first | with_reducible apply ih)))
  all_goals (try (first | exact z | exact zM | grind [scB, snocI, snocS, rowSnoc])))
theorem c_iBelow (s : Syntax) : ∀ (n : Int), P_c_iBelow s n := Syntax.ind (P := fun s => ∀ (n : Int), P_c_iBelow s n) (fun s ih n => c_iBelow_s s n ih) s
def ruL (r : Rules) : List (List Syntax) := [r.literals, r.patterns, r.templates]
def allB (n : Int) (L : List Syntax) : Bool := L.all (blw n)
def rulB (n : Int) (r : Rules) : Bool := (ruL r).all (allB n)
theorem rulB_eq (n : Int) (r : Rules) : rulB n r = (allB n r.literals && allB n r.patterns && allB n r.templates) := by
  simp only [rulB, ruL, List.all_cons, List.all_nil, Bool.and_true, Bool.and_assoc]
def lsynC (l : List Syntax) : List Cell := [.list (l.map syntaxC)]
def lsynF (l : List Syntax) : List Cell := [.list (l.map syntaxC)]
instance : Row (List Syntax) lsynC lsynF 1 := ⟨fun _ => rfl, fun _ => rfl⟩
theorem ruL_cells (r : Rules) : [[Cell.list (r.literals.map syntaxC)], [Cell.list (r.patterns.map syntaxC)], [Cell.list (r.templates.map syntaxC)]] = (ruL r).map lsynC := rfl
abbrev P_c_iAllB (L : List Syntax) (n : Int) : Ct := ⟨193, [], [ll (L.map syntaxC), li n], [], .sv (lb (allB n L))⟩
def lc_iAllBLa (L : List Syntax) (n : Int) : Lp Nat := .mk 18 0 (fun x => [(1, li n), (7, ll (List.map syntaxC L)), (8, li (↑(List.map syntaxC L).length : Int)), (9, hs x 0)]) (fun
 x => []) (fun k => [.s (li (↑k : Int))]) (fun k => k ≤ L.length ∧ L.length ≤ 9223372036854775807 ∧ (List.take k L).all (blw n) = true) (fun k => L.length - k) [.mk (allB n L =
 true) (.exit 0) (fun x => []) (fun x => []) [], .mk (allB n L = false) .ret (fun x => [(4, hs x 0)]) (fun x => []) [.s (lb false)]]
theorem Sc_iAllBLa (L : List Syntax) (n : Int) : Lp.Sem Tryz.prog (loopAt Tryz.f193 0) (lc_iAllBLa L n) := lpOK (fun k => .i ((↑k : Int) < (↑(List.map syntaxC L).length : Int)) (.x
 (↑k : Int) (List.map syntaxC L) (syntaxF (L.getD k default)) (.c [.rd, .rd] (c_iBelow (L.getD k default) n) (.b (!blw n (L.getD k default)) (.o 1 [] [.s (lb false)]) (.r ((↑k :
 Int) + 1) (.g [] (k + 1) [.s (li ((↑k : Int) + 1))]))))) (.o 0 [] [])) (by
  intro k h; try dsimp only [teasy, nthW, lc_iAllBLa] at h ⊢
  with_reducible repeat' (first | apply And.intro | exact zR | (intro; skip) | apply mIc | apply mOc | apply mSc | apply mLc)
  all_goals (try simp only [std, inj] at *)
  all_goals with_reducible repeat' apply And.intro
  all_goals (try (first | exact z | exact zM | grind [take_get, getD_mem', allB, snocI, snocS, rowSnoc])))
theorem c_iAllB (L : List Syntax) (n : Int)  : P_c_iAllB L n := fnOK Tryz.call193 Tryz.func193 (.z syntaxC L (.l (lc_iAllBLa L n) (Sc_iAllBLa L n) [] [.s (li 0)] 0 (.t (.s (lb true))
 (.t (.s (lb false)) .q)))) (by
  dsimp only [teasy, P_c_iAllB, nthW, lc_iAllBLa]
  with_reducible repeat' (first | apply And.intro | exact zR | (intro; skip) | apply mIc | apply mOc | apply mSc | apply mLc)
  all_goals (try simp only [std, inj] at *)
  all_goals with_reducible repeat' apply And.intro
  all_goals (try (first | exact z | exact zM | grind [allB, snocI, snocS, rowSnoc])))
abbrev P_c_iRulB (r : Rules) (n : Int) : Ct := ⟨140, [], [rulesA r, li n], [], .sv (lb (rulB n r))⟩
theorem c_iRulB (r : Rules) (n : Int)  : P_c_iRulB r n := fnOK Tryz.call140 Tryz.func140 (.c [.rd, .rd] (c_iAllB r.literals n) (.b (allB n r.literals) (.c [.rd, .rd] (c_iAllB
 r.patterns n) (.b (allB n r.patterns) (.c [.rd, .rd] (c_iAllB r.templates n) (.s (lb (allB n r.templates)))) (.s (lb false)))) (.y false (.s (lb false))))) (by
  dsimp only [teasy, P_c_iRulB]
  have g1 := rulB_eq n r
  with_reducible repeat' (first | apply And.intro | exact zR | (intro; skip) | apply mIc | apply mOc | apply mSc | apply mLc)
  all_goals (try simp only [std, inj] at *)
  all_goals with_reducible repeat' apply And.intro
  all_goals (try (first | exact z | exact zM | grind [snocI, snocS, rowSnoc])))
abbrev P_c_sRulB (r : Rules) (n : Int) : Ct := ⟨124, [], [rulesA r, li n], [], .sv (lb (rulB n r))⟩
def lc_sRulBLb (r : Rules) (n : Int) (k : Nat) : Lp Nat := .mk 33 0 (fun x => [(1, li n), (15, SV.one (AC.ref 0)), (16, li 3), (17, li (↑k : Int)), (21, ll (List.map syntaxC ((ruL
 r).getD (↑k : Int).toNat []))), (22, li (↑(List.map syntaxC ((ruL r).getD (↑k : Int).toNat [])).length : Int)), (23, hs x 0)]) (fun x => [Ob.arr false 1 (List.map lsynC (ruL r))])
 (fun k1 => [.s (li (↑k1 : Int))]) (fun k1 => k1 ≤ ((ruL r).getD k []).length ∧ ((ruL r).getD k []).length ≤ 9223372036854775807 ∧ k < 3 ∧ (List.take k1 ((ruL r).getD k [])).all
 (blw n) = true) (fun k1 => ((ruL r).getD k []).length - k1) [.mk (allB n ((ruL r).getD k []) = true) (.exit 2) (fun x => [(1, li n), (15, SV.one (AC.ref 0)), (16, li 3), (17, li
 (↑k : Int))]) (fun x => [Ob.arr false 1 (List.map lsynC (ruL r))]) [], .mk (rulB n r = false) .ret (fun x => [(4, hs x 0)]) (fun x => []) [.s (lb false)]]
def lc_sRulBLa (r : Rules) (n : Int) : Lp Nat := .mk 33 0 (fun x => [(1, li n), (15, SV.one (AC.ref 0)), (16, li 3), (17, hs x 0)]) (fun x => [ho x 1]) (fun k => [.s (li (↑k :
 Int)), .o (Ob.arr false 1 (List.map lsynC (ruL r)))]) (fun k => k ≤ 3 ∧ (List.take k (ruL r)).all (allB n) = true) (fun k => 3 - k) [.mk (rulB n r = true) (.exit 0) (fun x => [])
 (fun x => []) [], .mk (rulB n r = false) .ret (fun x => [(4, hs x 0)]) (fun x => []) [.s (lb false)]]
theorem Sc_sRulBLb (r : Rules) (n : Int) (k : Nat) : Lp.Sem Tryz.prog (loopAt Tryz.f124 1) (lc_sRulBLb r n k) := lpOK (fun k1 => .i ((↑k1 : Int) < (↑(List.map syntaxC ((ruL r).getD
 (↑k : Int).toNat [])).length : Int)) (.x (↑k1 : Int) (List.map syntaxC ((ruL r).getD (↑k : Int).toNat [])) (syntaxF (((ruL r).getD (↑k : Int).toNat []).getD k1 default)) (.c [.rd,
 .rd] (c_sBelow (((ruL r).getD (↑k : Int).toNat []).getD k1 default) n) (.b (!blw n (((ruL r).getD (↑k : Int).toNat []).getD k1 default)) (.o 1 [] [.s (lb false)]) (.r ((↑k1 : Int)
 + 1) (.g [0] (k1 + 1) [.s (li ((↑k1 : Int) + 1))]))))) (.o 0 [0] [])) (by
  intro k1 h; try dsimp only [teasy, nthW, lc_sRulBLb] at h ⊢
  have e : (ruL r).length = 3 := rfl
  have g1 := @take_get _ _ ((ruL r).getD k []) k1
  have g2 : (ruL r).getD k default = (ruL r).getD k [] := rfl
  have g3 : k < (ruL r).length → (ruL r).getD k [] ∈ ruL r := fun h => getD_mem' h
  with_reducible repeat' (first | apply And.intro | exact zR | (intro; skip) | apply mIc | apply mOc | apply mSc | apply mLc)
  all_goals (try simp only [std, inj] at *)
  all_goals with_reducible repeat' apply And.intro
  all_goals (try (first | exact z | exact zM | grind [ruL_cells, rulB, allB, getD_mem', snocI, snocS, rowSnoc])))
theorem Sc_sRulBLa (r : Rules) (n : Int) : Lp.Sem Tryz.prog (loopAt Tryz.f124 0) (lc_sRulBLa r n) := lpOK (fun k => .i ((↑k : Int) < 3) (.p (0 ≤ (↑k : Int) ∧ (↑k : Int).toNat < 3)
 (.w (.cells (lsynF ((ruL r).getD (↑k : Int).toNat default))) (.p ((List.map lsynC (ruL r))[(↑k : Int).toNat]? = some [Cell.list (List.map syntaxC ((ruL r).getD (↑k : Int).toNat
 []))]) (.z syntaxC ((ruL r).getD (↑k : Int).toNat []) (.l (lc_sRulBLb r n k) (Sc_sRulBLb r n k) [0] [.s (li 0)] 0 (.t (.r ((↑k : Int) + 1) (.g [0] (k + 1) [.s (li ((↑k : Int) +
 1)), .o (Ob.arr false 1 (List.map lsynC (ruL r)))])) (.t (.o 1 [] [.s (lb false)]) .q))))))) (.o 0 [] [])) (by
  intro k h; try dsimp only [teasy, nthW, lc_sRulBLa, lc_sRulBLb] at h ⊢
  have e : (ruL r).length = 3 := rfl
  have g1 := @take_get _ _ (ruL r) k
  have g2 : (ruL r).getD k default = (ruL r).getD k [] := rfl
  with_reducible repeat' (first | apply And.intro | exact zR | (intro; skip) | apply mIc | apply mOc | apply mSc | apply mLc)
  all_goals (try simp only [std, inj] at *)
  all_goals with_reducible repeat' apply And.intro
  all_goals (try (first | exact z | exact zM | grind [ruL_cells, rulB, snocI, snocS, rowSnoc])))
theorem c_sRulB (r : Rules) (n : Int)  : P_c_sRulB r n := fnOK Tryz.call124 Tryz.func124 (.h (3 ≤ 9223372036854775807) (.l (lc_sRulBLa r n) (Sc_sRulBLa r n) [1] [.s (li 0), .o
 (Ob.arr false 1 [[Cell.list (List.map syntaxC r.literals)], [Cell.list (List.map syntaxC r.patterns)], [Cell.list (List.map syntaxC r.templates)]])] 0 (.t (.s (lb true)) (.t (.s
 (lb false)) .q)))) (by
  dsimp only [teasy, P_c_sRulB, nthW, lc_sRulBLa]
  with_reducible repeat' (first | apply And.intro | exact zR | (intro; skip) | apply mIc | apply mOc | apply mSc | apply mLc)
  all_goals (try simp only [std, inj] at *)
  all_goals with_reducible repeat' apply And.intro
  all_goals (try (first | exact z | exact zM | grind [rulB, snocI, snocS, rowSnoc]))
  all_goals rfl)
def bndX (x : Expander) (b : Binding) : Bool := !(decide (0 < (b.scopes.length : Int)) && decide (x.scope < b.scopes.getD ((b.scopes.length : Int) - 1).toNat 0)) && !(decide (b.kind = 3) && decide (x.vari < b.number)) && !(decide (b.kind = 4) && decide ((x.macros.length : Int) ≤ b.number))
def ruX (x : Expander) (r : Rules) : Bool := isRul r && rulB x.scope r
def isExp (x : Expander) : Bool := areB x.bindings && decide ((x.macros.length : Int) ≤ 200) && decide (0 ≤ x.scope ∧ x.scope ≤ 99999) && decide (0 ≤ x.vari ∧ x.vari ≤ 99999) && decide (0 ≤ x.steps ∧ x.steps ≤ 200) && x.macros.all (ruX x) && x.bindings.all (bndX x)
theorem bndX_stop {x : Expander} {k : Nat} (hk : k < x.bindings.length) (h : bndX x (x.bindings.getD k default) = false) : x.bindings.all (bndX x) = false := by
  rw [List.all_eq_false]; exact ⟨_, getD_mem' hk, by rw [h]; decide⟩
theorem ruX_stop {x : Expander} {k : Nat} (hk : k < x.macros.length) (h : ruX x (x.macros.getD k default) = false) : x.macros.all (ruX x) = false := by
  rw [List.all_eq_false]; exact ⟨_, getD_mem' hk, by rw [h]; decide⟩
theorem bndX_go {x : Expander} {k : Nat} (hk : k < x.bindings.length) (h0 : (x.bindings.take k).all (bndX x) = true) (h : bndX x (x.bindings.getD k default) = true) : (x.bindings.take (k + 1)).all (bndX x) = true := by
  rw [take_get hk, List.all_append, h0]; simpa using h
theorem ruX_go {x : Expander} {k : Nat} (hk : k < x.macros.length) (h0 : (x.macros.take k).all (ruX x) = true) (h : ruX x (x.macros.getD k default) = true) : (x.macros.take (k + 1)).all (ruX x) = true := by
  rw [take_get hk, List.all_append, h0]; simpa using h
abbrev P_c_sIsExp (x : Expander) : Ct := ⟨58, [], [expanderA x], [], .sv (lb (isExp x))⟩
def lc_sIsExpLb (x : Expander) : Lp Nat := .mk 103 0 (fun x_1 => [(1, SV.one (AC.ptr 0 0)), (55, ll (List.map bindingC x.bindings)), (56, li (↑(List.map bindingC x.bindings).length
 : Int)), (57, hs x_1 0)]) (fun x_1 => [Ob.box (vals (expanderF x))]) (fun k => [.s (li (↑k : Int))]) (fun k => k ≤ x.bindings.length ∧ x.bindings.length ≤ 9223372036854775807 ∧
 (List.take k x.bindings).all (bndX x) = true) (fun k => x.bindings.length - k) [.mk (x.bindings.all (bndX x) = true) (.exit 2) (fun x => []) (fun x => []) [], .mk (x.bindings.all
 (bndX x) = false) .ret (fun x => [(2, hs x 0)]) (fun x => []) [.s (lb false)]]
def lc_sIsExpLa (x : Expander) : Lp Nat := .mk 103 0 (fun x_1 => [(1, SV.one (AC.ptr 0 0)), (37, ll (List.map rulesC x.macros)), (38, li (↑(List.map rulesC x.macros).length :
 Int)), (39, hs x_1 0)]) (fun x_1 => [Ob.box (vals (expanderF x))]) (fun k => [.s (li (↑k : Int))]) (fun k => k ≤ x.macros.length ∧ x.macros.length ≤ 9223372036854775807 ∧
 (List.take k x.macros).all (ruX x) = true) (fun k => x.macros.length - k) [.mk (x.macros.all (ruX x) = true) (.exit 0) (fun x => [(1, SV.one (AC.ptr 0 0))]) (fun x_1 => [Ob.box
 (vals (expanderF x))]) [], .mk (x.macros.all (ruX x) = false) .ret (fun x => [(2, hs x 0)]) (fun x => []) [.s (lb false)]]
theorem Sc_sIsExpLb (x : Expander) (h : wX x ≤ 1048576) : Lp.Sem Tryz.prog (loopAt Tryz.f58 1) (lc_sIsExpLb x) := lpOK (fun k => .i ((↑k : Int) < (↑(List.map bindingC
 x.bindings).length : Int)) (.x (↑k : Int) (List.map bindingC x.bindings) (bindingF (x.bindings.getD k default)) (.z intC (x.bindings.getD k default).scopes (.w (.draw []) (.i (0 <
 (↑(List.map intC (x.bindings.getD k default).scopes).length : Int)) (.r ((↑(List.map intC (x.bindings.getD k default).scopes).length : Int) - 1) (.x ((↑(List.map intC
 (x.bindings.getD k default).scopes).length : Int) - 1) (List.map intC (x.bindings.getD k default).scopes) [cI ((x.bindings.getD k default).scopes.getD ((↑(List.map intC
 (x.bindings.getD k default).scopes).length : Int) - 1).toNat 0)] (.i (x.scope < (x.bindings.getD k default).scopes.getD ((↑(List.map intC (x.bindings.getD k
 default).scopes).length : Int) - 1).toNat 0) (.y true (.y true (.o 1 [] [.s (lb false)]))) (.i ((x.bindings.getD k default).kind = 3) (.i (x.vari < (x.bindings.getD k
 default).number) (.y true (.o 1 [] [.s (lb false)])) (.i ((x.bindings.getD k default).kind = 4) (.z rulesC x.macros (.i ((↑(List.map rulesC x.macros).length : Int) ≤
 (x.bindings.getD k default).number) (.o 1 [] [.s (lb false)]) (.r ((↑k : Int) + 1) (.g [0] (k + 1) [.s (li ((↑k : Int) + 1))])))) (.y false (.r ((↑k : Int) + 1) (.g [0] (k + 1)
 [.s (li ((↑k : Int) + 1))]))))) (.y false (.i ((x.bindings.getD k default).kind = 4) (.z rulesC x.macros (.i ((↑(List.map rulesC x.macros).length : Int) ≤ (x.bindings.getD k
 default).number) (.o 1 [] [.s (lb false)]) (.r ((↑k : Int) + 1) (.g [0] (k + 1) [.s (li ((↑k : Int) + 1))])))) (.y false (.r ((↑k : Int) + 1) (.g [0] (k + 1) [.s (li ((↑k : Int) +
 1))]))))))))) (.y false (.i ((x.bindings.getD k default).kind = 3) (.i (x.vari < (x.bindings.getD k default).number) (.y true (.o 1 [] [.s (lb false)])) (.i ((x.bindings.getD k
 default).kind = 4) (.z rulesC x.macros (.i ((↑(List.map rulesC x.macros).length : Int) ≤ (x.bindings.getD k default).number) (.o 1 [] [.s (lb false)]) (.r ((↑k : Int) + 1) (.g [0]
 (k + 1) [.s (li ((↑k : Int) + 1))])))) (.y false (.r ((↑k : Int) + 1) (.g [0] (k + 1) [.s (li ((↑k : Int) + 1))]))))) (.y false (.i ((x.bindings.getD k default).kind = 4) (.z
 rulesC x.macros (.i ((↑(List.map rulesC x.macros).length : Int) ≤ (x.bindings.getD k default).number) (.o 1 [] [.s (lb false)]) (.r ((↑k : Int) + 1) (.g [0] (k + 1) [.s (li ((↑k :
 Int) + 1))])))) (.y false (.r ((↑k : Int) + 1) (.g [0] (k + 1) [.s (li ((↑k : Int) + 1))]))))))))))) (.o 0 [] [])) (by
  intro k h; try dsimp only [teasy, nthW, lc_sIsExpLb] at h ⊢
  have g1 := wX_eq x
  have g2 := @sumBy_mem _ wB x.bindings (x.bindings.getD k default)
  have g3 := @bndX_stop x k
  have g4 := @bndX_go x k
  have g5 : bndX x (x.bindings.getD k default) = (!(decide (0 < ((x.bindings.getD k default).scopes.length : Int)) && decide (x.scope < (x.bindings.getD k default).scopes.getD (((x.bindings.getD k default).scopes.length : Int) - 1).toNat 0)) && !(decide ((x.bindings.getD k default).kind = 3) && decide (x.vari < (x.bindings.getD k default).number)) && !(decide ((x.bindings.getD k default).kind = 4) && decide ((x.macros.length : Int) ≤ (x.bindings.getD k default).number))) := rfl
  have g6 : x.bindings.length ≤ k → x.bindings.take k = x.bindings := fun h => List.take_of_length_le h
  have g7 := wB_eq (x.bindings.getD k default)
  with_reducible repeat' (first | apply And.intro | exact zR | (intro; skip) | apply mIc | apply mOc | apply mSc | apply mLc | apply c_sIsRules)
  all_goals (try simp only [std, inj] at *)
  all_goals with_reducible repeat' apply And.intro
  all_goals (try (first | with_reducible apply c_sIsRules | (simp only [← List.map_append]; first | with_reducible apply c_sIsRules)))
  all_goals (try (first | exact z | exact zM | grind [getD_mem', snocI, snocS, rowSnoc])))
theorem Sc_sIsExpLa (x : Expander) (h : wX x ≤ 1048576) : Lp.Sem Tryz.prog (loopAt Tryz.f58 0) (lc_sIsExpLa x) := lpOK (fun k => .i ((↑k : Int) < (↑(List.map rulesC
 x.macros).length : Int)) (.x (↑k : Int) (List.map rulesC x.macros) (rulesF (x.macros.getD k default)) (.d [.rd] (P_c_sIsRules (x.macros.getD k default)) (.b (!isRul (x.macros.getD
 k default)) (.y true (.o 1 [] [.s (lb false)])) (.c [.rd, .rd] (c_sRulB (x.macros.getD k default) x.scope) (.b (!rulB x.scope (x.macros.getD k default)) (.o 1 [] [.s (lb false)])
 (.r ((↑k : Int) + 1) (.g [0] (k + 1) [.s (li ((↑k : Int) + 1))]))))))) (.o 0 [0] [])) (by
  intro k h; try dsimp only [teasy, nthW, lc_sIsExpLa] at h ⊢
  have g1 := wX_eq x
  have g2 := @sumBy_mem _ wR x.macros (x.macros.getD k default)
  have g3 := @ruX_stop x k
  have g4 := @ruX_go x k
  have g5 : ruX x (x.macros.getD k default) = (isRul (x.macros.getD k default) && rulB x.scope (x.macros.getD k default)) := rfl
  have g6 : x.macros.length ≤ k → x.macros.take k = x.macros := fun h => List.take_of_length_le h
  with_reducible repeat' (first | apply And.intro | exact zR | (intro; skip) | apply mIc | apply mOc | apply mSc | apply mLc | apply c_sIsRules)
  all_goals (try simp only [std, inj] at *)
  all_goals with_reducible repeat' apply And.intro
  all_goals (try (first | with_reducible apply c_sIsRules | (simp only [← List.map_append]; first | with_reducible apply c_sIsRules)))
  all_goals (try (first | exact z | exact zM | grind [getD_mem', snocI, snocS, rowSnoc])))
theorem c_sIsExp (x : Expander) (h : wX x ≤ 1048576)  : P_c_sIsExp x := fnOK Tryz.call58 Tryz.func58 (.c [.rd] (c_sAre x.bindings) (.b (!areB x.bindings) (.y true (.y true (.y true
 (.y true (.s (lb false)))))) (.z rulesC x.macros (.i (200 < (↑(List.map rulesC x.macros).length : Int)) (.y true (.y true (.y true (.s (lb false))))) (.c [.rd, .rd, .rd] (c_l1In
 x.scope 0 99999) (.b (!decide (0 ≤ x.scope ∧ x.scope ≤ 99999)) (.y true (.y true (.s (lb false)))) (.c [.rd, .rd, .rd] (c_l1In x.vari 0 99999) (.b (!decide (0 ≤ x.vari ∧ x.vari ≤
 99999)) (.y true (.s (lb false))) (.c [.rd, .rd, .rd] (c_l1In x.steps 0 200) (.b (!decide (0 ≤ x.steps ∧ x.steps ≤ 200)) (.s (lb false)) (.z rulesC x.macros (.l (lc_sIsExpLa x)
 (Sc_sIsExpLa x h) [0] [.s (li 0)] 0 (.t (.z bindingC x.bindings (.l (lc_sIsExpLb x) (Sc_sIsExpLb x h) [0] [.s (li 0)] 0 (.t (.s (lb true)) (.t (.s (lb false)) .q)))) (.t (.s (lb
 false)) .q)))))))))))))) (by
  dsimp only [teasy, P_c_sIsExp, nthW, lc_sIsExpLa, lc_sIsExpLb]
  with_reducible repeat' (first | apply And.intro | exact zR | (intro; skip) | apply mIc | apply mOc | apply mSc | apply mLc | apply c_sIsRules)
  all_goals (try simp only [std, inj] at *)
  all_goals with_reducible repeat' apply And.intro
  all_goals (try (first | with_reducible apply c_sIsRules | (simp only [← List.map_append]; first | with_reducible apply c_sIsRules)))
  all_goals (try (first | exact z | exact zM | grind [isExp, snocI, snocS, rowSnoc])))
abbrev P_c_iIsExp (x : Expander) : Ct := ⟨66, [], [expanderA x], [], .sv (lb (isExp x))⟩
def lc_iIsExpLb (x : Expander) : Lp Nat := .mk 115 0 (fun x_1 => [(1, SV.one (AC.ptr 0 0)), (66, ll (List.map bindingC x.bindings)), (67, li (↑(List.map bindingC x.bindings).length
 : Int)), (68, hs x_1 0)]) (fun x_1 => [Ob.box (vals (expanderF x))]) (fun k => [.s (li (↑k : Int))]) (fun k => k ≤ x.bindings.length ∧ x.bindings.length ≤ 9223372036854775807 ∧
 (List.take k x.bindings).all (bndX x) = true) (fun k => x.bindings.length - k) [.mk (x.bindings.all (bndX x) = true) (.exit 2) (fun x => []) (fun x => []) [], .mk (x.bindings.all
 (bndX x) = false) .ret (fun x => [(2, hs x 0)]) (fun x => []) [.s (lb false)]]
def lc_iIsExpLa (x : Expander) : Lp Nat := .mk 115 0 (fun x_1 => [(1, SV.one (AC.ptr 0 0)), (48, ll (List.map rulesC x.macros)), (49, li (↑(List.map rulesC x.macros).length :
 Int)), (50, hs x_1 0)]) (fun x_1 => [Ob.box (vals (expanderF x))]) (fun k => [.s (li (↑k : Int))]) (fun k => k ≤ x.macros.length ∧ x.macros.length ≤ 9223372036854775807 ∧
 (List.take k x.macros).all (ruX x) = true) (fun k => x.macros.length - k) [.mk (x.macros.all (ruX x) = true) (.exit 0) (fun x => [(1, SV.one (AC.ptr 0 0))]) (fun x_1 => [Ob.box
 (vals (expanderF x))]) [], .mk (x.macros.all (ruX x) = false) .ret (fun x => [(2, hs x 0)]) (fun x => []) [.s (lb false)]]
theorem Sc_iIsExpLb (x : Expander) (h : wX x ≤ 1048576) : Lp.Sem Tryz.prog (loopAt Tryz.f66 1) (lc_iIsExpLb x) := lpOK (fun k => .i ((↑k : Int) < (↑(List.map bindingC
 x.bindings).length : Int)) (.x (↑k : Int) (List.map bindingC x.bindings) (bindingF (x.bindings.getD k default)) (.w (.draw []) (.i (0 < (↑(List.map intC (x.bindings.getD k
 default).scopes).length : Int)) (.r ((↑(List.map intC (x.bindings.getD k default).scopes).length : Int) - 1) (.x ((↑(List.map intC (x.bindings.getD k default).scopes).length :
 Int) - 1) (List.map intC (x.bindings.getD k default).scopes) [cI ((x.bindings.getD k default).scopes.getD ((↑(List.map intC (x.bindings.getD k default).scopes).length : Int) -
 1).toNat 0)] (.i (x.scope < (x.bindings.getD k default).scopes.getD ((↑(List.map intC (x.bindings.getD k default).scopes).length : Int) - 1).toNat 0) (.y true (.z intC
 (x.bindings.getD k default).scopes (.z intC (x.bindings.getD k default).scopes (.y true (.o 1 [] [.s (lb false)]))))) (.i ((x.bindings.getD k default).kind = 3) (.i (x.vari <
 (x.bindings.getD k default).number) (.z intC (x.bindings.getD k default).scopes (.z intC (x.bindings.getD k default).scopes (.y true (.o 1 [] [.s (lb false)])))) (.i
 ((x.bindings.getD k default).kind = 4) (.z intC (x.bindings.getD k default).scopes (.z intC (x.bindings.getD k default).scopes (.z rulesC x.macros (.i ((↑(List.map rulesC
 x.macros).length : Int) ≤ (x.bindings.getD k default).number) (.o 1 [] [.s (lb false)]) (.r ((↑k : Int) + 1) (.g [0] (k + 1) [.s (li ((↑k : Int) + 1))])))))) (.z intC
 (x.bindings.getD k default).scopes (.z intC (x.bindings.getD k default).scopes (.y false (.r ((↑k : Int) + 1) (.g [0] (k + 1) [.s (li ((↑k : Int) + 1))]))))))) (.y false (.i
 ((x.bindings.getD k default).kind = 4) (.z intC (x.bindings.getD k default).scopes (.z intC (x.bindings.getD k default).scopes (.z rulesC x.macros (.i ((↑(List.map rulesC
 x.macros).length : Int) ≤ (x.bindings.getD k default).number) (.o 1 [] [.s (lb false)]) (.r ((↑k : Int) + 1) (.g [0] (k + 1) [.s (li ((↑k : Int) + 1))])))))) (.z intC
 (x.bindings.getD k default).scopes (.z intC (x.bindings.getD k default).scopes (.y false (.r ((↑k : Int) + 1) (.g [0] (k + 1) [.s (li ((↑k : Int) + 1))]))))))))))) (.y false (.i
 ((x.bindings.getD k default).kind = 3) (.i (x.vari < (x.bindings.getD k default).number) (.z intC (x.bindings.getD k default).scopes (.y true (.o 1 [] [.s (lb false)]))) (.i
 ((x.bindings.getD k default).kind = 4) (.z intC (x.bindings.getD k default).scopes (.z rulesC x.macros (.i ((↑(List.map rulesC x.macros).length : Int) ≤ (x.bindings.getD k
 default).number) (.o 1 [] [.s (lb false)]) (.r ((↑k : Int) + 1) (.g [0] (k + 1) [.s (li ((↑k : Int) + 1))]))))) (.z intC (x.bindings.getD k default).scopes (.y false (.r ((↑k :
 Int) + 1) (.g [0] (k + 1) [.s (li ((↑k : Int) + 1))])))))) (.y false (.i ((x.bindings.getD k default).kind = 4) (.z intC (x.bindings.getD k default).scopes (.z rulesC x.macros (.i
 ((↑(List.map rulesC x.macros).length : Int) ≤ (x.bindings.getD k default).number) (.o 1 [] [.s (lb false)]) (.r ((↑k : Int) + 1) (.g [0] (k + 1) [.s (li ((↑k : Int) + 1))])))))
 (.z intC (x.bindings.getD k default).scopes (.y false (.r ((↑k : Int) + 1) (.g [0] (k + 1) [.s (li ((↑k : Int) + 1))]))))))))))) (.o 0 [] [])) (by
  intro k h; try dsimp only [teasy, nthW, lc_iIsExpLb] at h ⊢
  have g1 := wX_eq x
  have g2 := @sumBy_mem _ wB x.bindings (x.bindings.getD k default)
  have g3 := @bndX_stop x k
  have g4 := @bndX_go x k
  have g5 : bndX x (x.bindings.getD k default) = (!(decide (0 < ((x.bindings.getD k default).scopes.length : Int)) && decide (x.scope < (x.bindings.getD k default).scopes.getD (((x.bindings.getD k default).scopes.length : Int) - 1).toNat 0)) && !(decide ((x.bindings.getD k default).kind = 3) && decide (x.vari < (x.bindings.getD k default).number)) && !(decide ((x.bindings.getD k default).kind = 4) && decide ((x.macros.length : Int) ≤ (x.bindings.getD k default).number))) := rfl
  have g6 : x.bindings.length ≤ k → x.bindings.take k = x.bindings := fun h => List.take_of_length_le h
  have g7 := wB_eq (x.bindings.getD k default)
  with_reducible repeat' (first | apply And.intro | exact zR | (intro; skip) | apply mIc | apply mOc | apply mSc | apply mLc | apply c_iIsRules)
  all_goals (try simp only [std, inj] at *)
  all_goals with_reducible repeat' apply And.intro
  all_goals (try (first | with_reducible apply c_iIsRules | (simp only [← List.map_append]; first | with_reducible apply c_iIsRules)))
  all_goals (try (first | exact z | exact zM | grind [getD_mem', snocI, snocS, rowSnoc])))
theorem Sc_iIsExpLa (x : Expander) (h : wX x ≤ 1048576) : Lp.Sem Tryz.prog (loopAt Tryz.f66 0) (lc_iIsExpLa x) := lpOK (fun k => .i ((↑k : Int) < (↑(List.map rulesC
 x.macros).length : Int)) (.x (↑k : Int) (List.map rulesC x.macros) (rulesF (x.macros.getD k default)) (.d [.rd] (P_c_iIsRules (x.macros.getD k default)) (.b (!isRul (x.macros.getD
 k default)) (.y true (.o 1 [] [.s (lb false)])) (.c [.rd, .rd] (c_iRulB (x.macros.getD k default) x.scope) (.b (!rulB x.scope (x.macros.getD k default)) (.o 1 [] [.s (lb false)])
 (.r ((↑k : Int) + 1) (.g [0] (k + 1) [.s (li ((↑k : Int) + 1))]))))))) (.o 0 [0] [])) (by
  intro k h; try dsimp only [teasy, nthW, lc_iIsExpLa] at h ⊢
  have g1 := wX_eq x
  have g2 := @sumBy_mem _ wR x.macros (x.macros.getD k default)
  have g3 := @ruX_stop x k
  have g4 := @ruX_go x k
  have g5 : ruX x (x.macros.getD k default) = (isRul (x.macros.getD k default) && rulB x.scope (x.macros.getD k default)) := rfl
  have g6 : x.macros.length ≤ k → x.macros.take k = x.macros := fun h => List.take_of_length_le h
  with_reducible repeat' (first | apply And.intro | exact zR | (intro; skip) | apply mIc | apply mOc | apply mSc | apply mLc | apply c_iIsRules)
  all_goals (try simp only [std, inj] at *)
  all_goals with_reducible repeat' apply And.intro
  all_goals (try (first | with_reducible apply c_iIsRules | (simp only [← List.map_append]; first | with_reducible apply c_iIsRules)))
  all_goals (try (first | exact z | exact zM | grind [getD_mem', snocI, snocS, rowSnoc])))
theorem c_iIsExp (x : Expander) (h : wX x ≤ 1048576)  : P_c_iIsExp x := fnOK Tryz.call66 Tryz.func66 (.c [.rd] (c_iAre x.bindings) (.b (!areB x.bindings) (.y true (.y true (.y true
 (.y true (.y true (.y true (.y true (.s (lb false))))))))) (.z rulesC x.macros (.i (200 < (↑(List.map rulesC x.macros).length : Int)) (.y true (.y true (.y true (.y true (.y true
 (.y true (.s (lb false)))))))) (.i (x.scope < 0) (.y true (.y true (.y true (.y true (.y true (.s (lb false))))))) (.i (99999 < x.scope) (.y true (.y true (.y true (.y true (.s
 (lb false)))))) (.i (x.vari < 0) (.y true (.y true (.y true (.s (lb false))))) (.i (99999 < x.vari) (.y true (.y true (.s (lb false)))) (.i (x.steps < 0) (.y true (.s (lb false)))
 (.i (200 < x.steps) (.s (lb false)) (.z rulesC x.macros (.l (lc_iIsExpLa x) (Sc_iIsExpLa x h) [0] [.s (li 0)] 0 (.t (.z bindingC x.bindings (.l (lc_iIsExpLb x) (Sc_iIsExpLb x h)
 [0] [.s (li 0)] 0 (.t (.s (lb true)) (.t (.s (lb false)) .q)))) (.t (.s (lb false)) .q)))))))))))))) (by
  dsimp only [teasy, P_c_iIsExp, nthW, lc_iIsExpLa, lc_iIsExpLb]
  with_reducible repeat' (first | apply And.intro | exact zR | (intro; skip) | apply mIc | apply mOc | apply mSc | apply mLc | apply c_iIsRules)
  all_goals (try simp only [std, inj] at *)
  all_goals with_reducible repeat' apply And.intro
  all_goals (try (first | with_reducible apply c_iIsRules | (simp only [← List.map_append]; first | with_reducible apply c_iIsRules)))
  all_goals (try (first | exact z | exact zM | grind [isExp, snocI, snocS, rowSnoc])))
end Go.Proofs.YtclpofblehlojaaGreat
end
section
namespace Go.Proofs.YtclpofblehlojaaGreat
open Go Go.Proofs.YtclpofblehlojaaGreat.Ab
set_option linter.unusedVariables false
set_option linter.unusedSimpArgs false
set_option maxHeartbeats 4000000
abbrev BP := ByteArray × ByteArray
instance memDecP (x : BP) (L : List BP) : Decidable (x ∈ L) := @List.instDecidableMemOfLawfulBEq BP instBEqOfDecidableEq _ x L
def memP (S : List BP) (n : BP) : Int := if n ∈ S then 1 else 0
theorem memP_nil : zP = memP [] := by funext m; simp [zP, memP]
theorem memP_snoc {S : List BP} {n : BP} : upd1 (memP S) n 1 = memP (S ++ [n]) := by
  funext m; simp only [upd1, memP, List.mem_append, List.mem_singleton]; grind
theorem memP_one {S : List BP} {n : BP} : memP S n = 1 ↔ n ∈ S := by simp only [memP]; grind
theorem memS_zero {S : List ByteArray} {n : ByteArray} : memS S n = 0 ↔ n ∉ S := by simp only [memS]; grind
def expK (w : World) (e : Export) : Bool := decide (e.kind = 3 ∧ e.number ∈ globals w.units) || decide (e.kind = 4 ∧ 0 ≤ e.number ∧ e.number ≤ (w.expander.macros.length : Int) - 1)
def keyE (e : Export) : BP := (e.modul, e.text)
def prE (L : List Export) : List BP := L.map keyE
def expP (w : World) (k : Nat) : Bool := isSym (w.exports.getD k default).text && !decide (keyE (w.exports.getD k default) ∈ prE (w.exports.take k)) && inS (namesU w.units) (w.exports.getD k default).modul && expK w (w.exports.getD k default)
def exT (w : World) (k : Nat) : Bool := (List.range k).all (expP w)
def exA (w : World) : Bool := exT w w.exports.length
theorem exT_zero (w : World) : exT w 0 = true := rfl
theorem exT_step (w : World) (k : Nat) : exT w (k + 1) = (exT w k && expP w k) := by simp [exT, List.range_succ]
theorem exT_stop {w : World} {k : Nat} (hk : k < w.exports.length) (h : expP w k = false) : exA w = false := by
  cases e : exA w with
  | false => rfl
  | true => simp only [exA, exT, List.all_eq_true, List.mem_range] at e; rw [e k hk] at h; cases h
theorem prE_step {L : List Export} {k : Nat} (hk : k < L.length) : prE (L.take (k + 1)) = prE (L.take k) ++ [keyE (L.getD k default)] := by
  unfold prE; rw [take_get hk, List.map_append]; rfl
theorem prE_at {L : List Export} {k : Nat} {a b : ByteArray} (hk : k ≤ L.length) : expAt (L.take k) a b < (L.take k).length ↔ (a, b) ∈ prE (L.take k) := by
  unfold expAt prE
  rw [List.findIdx_lt_length]
  simp only [List.mem_map, decide_eq_true_eq, keyE, Prod.mk.injEq]
def ugb (u : Unit) : List Int := u.globals ++ bnd u.body
def valU (w : World) (u : Unit) : Bool := (ugb u).all fun n => decide (n ≤ w.expander.vari)
def valT (w : World) : Bool := w.units.all (valU w)
theorem valT_stop {w : World} {k : Nat} (hk : k < w.units.length) (h : valU w (w.units.getD k default) = false) : valT w = false := allS_stop hk h
theorem valU_stop {w : World} {u : Unit} {j : Nat} (hj : j < (ugb u).length) (h : ¬ (ugb u).getD j default ≤ w.expander.vari) : valU w u = false := allS_stop hj (by simpa using h)
theorem ugb_len (u : Unit) : (ugb u).length ≤ wU u := by
  have h1 := bnd_le u.body
  have h2 := wU_eq u
  unfold ugb; rw [List.length_append]; omega
def isWld (w : World) : Bool := isExp w.expander && areU w.units && exA w && valT w
def unAt (L : List Unit) (s : ByteArray) : Nat := L.findIdx (fun u => decide (u.name = s))
theorem unAt_at {L : List Unit} {s : ByteArray} {k : Nat} (hk : k < L.length) (hb : k ≤ unAt L s) (h : (L.getD k default).name = s) : unAt L s = k := by
  have h1 : L.getD k default = L[k] := by simp [hk]
  rw [h1] at h
  rcases Nat.lt_or_ge k (unAt L s) with h2 | h2
  · have := List.not_of_lt_findIdx h2
    simp [h] at this
  · omega
theorem unAt_next {L : List Unit} {s : ByteArray} {k : Nat} (hk : k < L.length) (hb : k ≤ unAt L s) (h : ¬ (L.getD k default).name = s) : k + 1 ≤ unAt L s := by
  have h1 : L.getD k default = L[k] := by simp [hk]
  rw [h1] at h
  rcases Nat.lt_or_ge k (unAt L s) with h2 | h2
  · exact h2
  · have e : unAt L s = k := by omega
    have := List.findIdx_getElem (p := fun u : Unit => decide (u.name = s)) (xs := L) (w := by show unAt L s < _; omega)
    simp only [decide_eq_true_eq] at this
    have h3 : L[unAt L s]'(by omega) = L[k] := by simp only [e]
    exact absurd ((congrArg Unit.name h3).symm.trans this) h
theorem unAt_in {L : List Unit} {s : ByteArray} : unAt L s < L.length ↔ s ∈ namesU L := by
  unfold unAt namesU
  rw [List.findIdx_lt_length]
  simp only [List.mem_map, decide_eq_true_eq]
abbrev P_c_l7Unit (L : List Unit) (s : ByteArray) : Ct := ⟨135, [], [ll (L.map unitC), ls s], [], .sv (li (if unAt L s < L.length then unAt L s else -1))⟩
def lc_l7UnitLa (L : List Unit) (s : ByteArray) : Lp Nat := .mk 20 0 (fun x => [(1, ls s), (7, ll (List.map unitC L)), (8, li (↑(List.map unitC L).length : Int)), (9, hs x 0)])
 (fun x => []) (fun k => [.s (li (↑k : Int))]) (fun k => k ≤ L.length ∧ L.length ≤ 9223372036854775807 ∧ k ≤ unAt L s) (fun k => L.length - k) [.mk (¬unAt L s < L.length) (.exit 0)
 (fun x => []) (fun x => []) [], .mk (unAt L s < L.length) .ret (fun x => [(4, hs x 0)]) (fun x => []) [.s (li (↑(unAt L s) : Int))]]
theorem Sc_l7UnitLa (L : List Unit) (s : ByteArray) : Lp.Sem Tryz.prog (loopAt Tryz.f135 0) (lc_l7UnitLa L s) := lpOK (fun k => .i ((↑k : Int) < (↑(List.map unitC L).length : Int))
 (.x (↑k : Int) (List.map unitC L) (unitF (L.getD k default)) (.i ((L.getD k default).name.data.toList = s.data.toList) (.o 1 [] [.s (li (↑k : Int))]) (.r ((↑k : Int) + 1) (.g []
 (k + 1) [.s (li ((↑k : Int) + 1))])))) (.o 0 [] [])) (by
  intro k h; try dsimp only [teasy, nthW, lc_l7UnitLa] at h ⊢
  have g1 := @unAt_at L s k
  have g2 := @unAt_next L s k
  with_reducible repeat' (first | apply And.intro | exact zR | (intro; skip) | apply mIc | apply mOc | apply mSc | apply mLc)
  all_goals (try simp only [std, inj] at *)
  all_goals with_reducible repeat' apply And.intro
  all_goals (try (first | exact z | exact zM | grind [bytes_ext, snocI, snocS, rowSnoc])))
theorem c_l7Unit (L : List Unit) (s : ByteArray)  : P_c_l7Unit L s := fnOK Tryz.call135 Tryz.func135 (.z unitC L (.l (lc_l7UnitLa L s) (Sc_l7UnitLa L s) [] [.s (li 0)] 0 (.t (.s (li
 (-1 : Int))) (.t (.s (li (↑(unAt L s) : Int))) .q)))) (by
  dsimp only [teasy, P_c_l7Unit, nthW, lc_l7UnitLa]
  with_reducible repeat' (first | apply And.intro | exact zR | (intro; skip) | apply mIc | apply mOc | apply mSc | apply mLc)
  all_goals (try simp only [std, inj] at *)
  all_goals with_reducible repeat' apply And.intro
  all_goals (try (first | exact z | exact zM | grind [snocI, snocS, rowSnoc])))
abbrev P_c_l7Exps (w : World) : Ct := ⟨60, [], [worldA w], [], .sv (lb (exA w))⟩
def lc_l7ExpsLa (w : World) : Lp Nat := .mk 67 0 (fun x => [(1, SV.one (AC.ptr 0 0)), (3, SV.one (AC.ref 1)), (10, ll (List.map exportC w.exports)), (11, li (↑(List.map exportC
 w.exports).length : Int)), (12, hs x 0)]) (fun x => [Ob.box (vals (worldF w)), Ob.arr true 1 (List.map intC (globals w.units))]) (fun k => [.s (li (↑k : Int))]) (fun k => k ≤
 w.exports.length ∧ w.exports.length ≤ 9223372036854775807 ∧ exT w k = true ∧ wW w ≤ 1048576) (fun k => w.exports.length - k) [.mk (exA w = true) (.exit 0) (fun x => []) (fun x =>
 []) [], .mk (exA w = false) .ret (fun x => [(2, hs x 0)]) (fun x => []) [.s (lb false)]]
theorem Sc_l7ExpsLa (w : World) (h : wW w ≤ 1048576) : Lp.Sem Tryz.prog (loopAt Tryz.f60 0) (lc_l7ExpsLa w) := lpOK (fun k => .i ((↑k : Int) < (↑(List.map exportC w.exports).length
 : Int)) (.x (↑k : Int) (List.map exportC w.exports) (exportF (w.exports.getD k default)) (.w (.draw []) (.c [.rd] (c_sIsSymbol (w.exports.getD k default).text) (.b (!isSym
 (w.exports.getD k default).text) (.y true (.y true (.o 1 [] [.s (lb false)]))) (.p (0 ≤ (↑k : Int)) (.p (0 ≤ (↑k : Int).toNat ∧ (↑k : Int).toNat ≤ (List.map exportC
 w.exports).length ∧ ∀ (e : List Cell), e ∈ List.map exportC w.exports → e.length = 4) (.u [.rd, .rd, .rd] (P_c_l7Find (List.take ((↑k : Int).toNat - 0) (List.drop 0 w.exports))
 (w.exports.getD k default).modul (w.exports.getD k default).text) (.p (CallOK Tryz.prog 134 [] [ll (List.take ((↑k : Int).toNat - 0) (List.drop 0 (List.map exportC w.exports))),
 ls (w.exports.getD k default).modul, ls (w.exports.getD k default).text] [] (AV.sv (li (if expAt (List.take ((↑k : Int).toNat - 0) (List.drop 0 w.exports)) (w.exports.getD k
 default).modul (w.exports.getD k default).text < (List.take ((↑k : Int).toNat - 0) (List.drop 0 w.exports)).length then (↑(expAt (List.take ((↑k : Int).toNat - 0) (List.drop 0
 w.exports)) (w.exports.getD k default).modul (w.exports.getD k default).text) : Int) else (-1 : Int))))) (.i (0 ≤ if expAt (List.take ((↑k : Int).toNat - 0) (List.drop 0
 w.exports)) (w.exports.getD k default).modul (w.exports.getD k default).text < (List.take ((↑k : Int).toNat - 0) (List.drop 0 w.exports)).length then (↑(expAt (List.take ((↑k :
 Int).toNat - 0) (List.drop 0 w.exports)) (w.exports.getD k default).modul (w.exports.getD k default).text) : Int) else (-1 : Int)) (.y true (.o 1 [] [.s (lb false)])) (.c [.rd,
 .rd] (c_l7Unit w.units (w.exports.getD k default).modul) (.i ((if unAt w.units (w.exports.getD k default).modul < w.units.length then (↑(unAt w.units (w.exports.getD k
 default).modul) : Int) else (-1 : Int)) < 0) (.o 1 [] [.s (lb false)]) (.i ((w.exports.getD k default).kind = 3) (.c [.rd, .rd] (c_sHas (globals w.units) (w.exports.getD k
 default).number) (.i ((w.exports.getD k default).number ∈ globals w.units) (.y false (.r ((↑k : Int) + 1) (.g [0, 1] (k + 1) [.s (li ((↑k : Int) + 1))]))) (.i ((w.exports.getD k
 default).kind = 4) (.z rulesC w.expander.macros (.r ((↑(List.map rulesC w.expander.macros).length : Int) - 1) (.c [.rd, .rd, .rd] (c_l1In (w.exports.getD k default).number 0
 ((↑(List.map rulesC w.expander.macros).length : Int) - 1)) (.b (!decide (0 ≤ (w.exports.getD k default).number ∧ (w.exports.getD k default).number ≤ (↑(List.map rulesC
 w.expander.macros).length : Int) - 1)) (.o 1 [] [.s (lb false)]) (.r ((↑k : Int) + 1) (.g [0, 1] (k + 1) [.s (li ((↑k : Int) + 1))])))))) (.y true (.o 1 [] [.s (lb false)])))))
 (.y false (.i ((w.exports.getD k default).kind = 4) (.z rulesC w.expander.macros (.r ((↑(List.map rulesC w.expander.macros).length : Int) - 1) (.c [.rd, .rd, .rd] (c_l1In
 (w.exports.getD k default).number 0 ((↑(List.map rulesC w.expander.macros).length : Int) - 1)) (.b (!decide (0 ≤ (w.exports.getD k default).number ∧ (w.exports.getD k
 default).number ≤ (↑(List.map rulesC w.expander.macros).length : Int) - 1)) (.o 1 [] [.s (lb false)]) (.r ((↑k : Int) + 1) (.g [0, 1] (k + 1) [.s (li ((↑k : Int) + 1))])))))) (.y
 true (.o 1 [] [.s (lb false)])))))))))))))))) (.o 0 [] [])) (by
  intro k h; try dsimp only [teasy, nthW, lc_l7ExpsLa] at h ⊢
  have g1 := exT_step w k
  have g2 := @exT_stop w k
  have g3 := @prE_at w.exports k (w.exports.getD k default).modul (w.exports.getD k default).text
  have g4 := @unAt_in w.units (w.exports.getD k default).modul
  have g5 : expP w k = (isSym (w.exports.getD k default).text && !decide (((w.exports.getD k default).modul, (w.exports.getD k default).text) ∈ prE (w.exports.take k)) && inS (namesU w.units) (w.exports.getD k default).modul && expK w (w.exports.getD k default)) := rfl
  have g6 := wW_eq w
  with_reducible repeat' (first | apply And.intro | exact zR | (intro; skip) | apply mIc | apply mOc | apply mSc | apply mLc | apply c_l7Globals | apply c_sIsSymbol | apply c_l7Find | apply c_l7Unit | apply c_sHas | apply c_l1In)
  all_goals (try simp only [std, inj] at *)
  all_goals with_reducible repeat' apply And.intro
  all_goals (try (first | with_reducible apply c_l7Globals | with_reducible apply c_sIsSymbol | with_reducible apply c_l7Find | with_reducible apply c_l7Unit | with_reducible apply c_sHas | with_reducible apply c_l1In | (simp only [← List.map_append]; first | with_reducible apply c_l7Globals | with_reducible apply c_sIsSymbol | with_reducible apply c_l7Find | with_reducible apply c_l7Unit | with_reducible apply c_sHas | with_reducible apply c_l1In)))
  all_goals (try (first | exact z | exact zM | grind [inS, expK, exA, snocI, snocS, rowSnoc])))
theorem c_l7Exps (w : World) (h : wW w ≤ 1048576)  : P_c_l7Exps w := fnOK Tryz.call60 Tryz.func60 (.d [.rd] (P_c_l7Globals w.units) (.z exportC w.exports (.l (lc_l7ExpsLa w)
 (Sc_l7ExpsLa w h) [0, 1] [.s (li 0)] 0 (.t (.s (lb true)) (.t (.s (lb false)) .q))))) (by
  dsimp only [teasy, P_c_l7Exps, nthW, lc_l7ExpsLa]
  have g6 := wW_eq w
  have g7 := globals_wU w.units
  with_reducible repeat' (first | apply And.intro | exact zR | (intro; skip) | apply mIc | apply mOc | apply mSc | apply mLc | apply c_l7Globals)
  all_goals (try simp only [std, inj] at *)
  all_goals with_reducible repeat' apply And.intro
  all_goals (try (first | with_reducible apply c_l7Globals | (simp only [← List.map_append]; first | with_reducible apply c_l7Globals)))
  all_goals (try (first | exact z | exact zM | grind [exT_zero, snocI, snocS, rowSnoc])))
abbrev P_c_sIsWld (w : World) : Ct := ⟨21, [], [worldA w], [], .sv (lb (isWld w))⟩
def lc_sIsWldLb (w : World) (k : Nat) : Lp Nat := .mk 48 0 (fun x => [(1, SV.one (AC.ptr 0 0)), (23, ll (List.map unitC w.units)), (24, li (↑(List.map unitC w.units).length :
 Int)), (25, li (↑k : Int)), (35, SV.one (AC.ref 1)), (36, hs x 2), (37, hs x 0)]) (fun x => [Ob.box (vals (worldF w)), ho x 1]) (fun k1 => [.s (li (↑k1 : Int)), .o (Ob.arr true 1
 (List.map intC (ugb (w.units.getD k default)))), .s (li (↑(ugb (w.units.getD k default)).length : Int))]) (fun k1 => k1 ≤ (ugb (w.units.getD k default)).length ∧ k <
 w.units.length ∧ ((List.take k1 (ugb (w.units.getD k default))).all fun n => decide (n ≤ w.expander.vari)) = true ∧ wW w ≤ 1048576) (fun k1 => (ugb (w.units.getD k
 default)).length - k1) [.mk (valU w (w.units.getD k default) = true) (.exit 2) (fun x => [(1, SV.one (AC.ptr 0 0)), (23, ll (List.map unitC w.units)), (24, li (↑(List.map unitC
 w.units).length : Int)), (25, li (↑k : Int))]) (fun x => [Ob.box (vals (worldF w))]) [], .mk (valT w = false) .ret (fun x => [(2, hs x 0)]) (fun x => []) [.s (lb false)]]
def lc_sIsWldLa (w : World) : Lp Nat := .mk 48 0 (fun x => [(1, SV.one (AC.ptr 0 0)), (23, ll (List.map unitC w.units)), (24, li (↑(List.map unitC w.units).length : Int)), (25, hs
 x 0)]) (fun x => [Ob.box (vals (worldF w))]) (fun k => [.s (li (↑k : Int))]) (fun k => k ≤ w.units.length ∧ w.units.length ≤ 9223372036854775807 ∧ (List.take k w.units).all (valU
 w) = true ∧ wW w ≤ 1048576) (fun k => w.units.length - k) [.mk (valT w = true) (.exit 0) (fun x => []) (fun x => []) [], .mk (valT w = false) .ret (fun x => [(2, hs x 0)]) (fun x
 => []) [.s (lb false)]]
theorem Sc_sIsWldLb (w : World) (h : wW w ≤ 1048576) (k : Nat) : Lp.Sem Tryz.prog (loopAt Tryz.f21 1) (lc_sIsWldLb w k) := lpOK (fun k1 => .i ((↑k1 : Int) < (↑(ugb (w.units.getD k
 default)).length : Int)) (.p (0 ≤ (↑k1 : Int) ∧ (↑k1 : Int).toNat < (List.map intC (ugb (w.units.getD k default))).length) (.w (.cells (intC ((ugb (w.units.getD k default)).getD
 (↑k1 : Int).toNat default))) (.p ((List.map intC (ugb (w.units.getD k default)))[(↑k1 : Int).toNat]? = some [cI ((ugb (w.units.getD k default)).getD (↑k1 : Int).toNat 0)]) (.i
 (w.expander.vari < (ugb (w.units.getD k default)).getD (↑k1 : Int).toNat 0) (.o 1 [] [.s (lb false)]) (.r ((↑k1 : Int) + 1) (.g [0, 1] (k1 + 1) [.s (li ((↑k1 : Int) + 1)), .o
 (Ob.arr true 1 (List.map intC (ugb (w.units.getD k default)))), .s (li (↑(ugb (w.units.getD k default)).length : Int))])))))) (.o 0 [0] [])) (by
  intro k1 h; try dsimp only [teasy, nthW, lc_sIsWldLb] at h ⊢
  have g1 := @valT_stop w k
  have g2 := @valU_stop w (w.units.getD k default) k1
  have g3 := @unit_w w.units k
  have g4 := ugb_len (w.units.getD k default)
  have g6 := wW_eq w
  have g7 : k1 < (ugb (w.units.getD k default)).length → (List.map intC (ugb (w.units.getD k default)))[k1]? = some [cI ((ugb (w.units.getD k default)).getD k1 0)] := fun h => getC h rfl
  with_reducible repeat' (first | apply And.intro | exact zR | (intro; skip) | apply mIc | apply mOc | apply mSc | apply mLc | apply c_sIsExp | apply c_sUnits | apply c_l7Exps | apply c_l2Ints | apply c_sBound)
  all_goals (try simp only [std, inj] at *)
  all_goals with_reducible repeat' apply And.intro
  all_goals (try (first | with_reducible apply c_sIsExp | with_reducible apply c_sUnits | with_reducible apply c_l7Exps | with_reducible apply c_l2Ints | with_reducible apply c_sBound | (simp only [← List.map_append]; first | with_reducible apply c_sIsExp | with_reducible apply c_sUnits | with_reducible apply c_l7Exps | with_reducible apply c_l2Ints | with_reducible apply c_sBound)))
  all_goals (try (first | exact zw | exact zM | grind [take_get, ugb, valU, snocI, snocS, rowSnoc])))
theorem Sc_sIsWldLa (w : World) (h : wW w ≤ 1048576) : Lp.Sem Tryz.prog (loopAt Tryz.f21 0) (lc_sIsWldLa w) := lpOK (fun k => .i ((↑k : Int) < (↑(List.map unitC w.units).length :
 Int)) (.x (↑k : Int) (List.map unitC w.units) (unitF (w.units.getD k default)) (.w (.draw [(6, [2, 11])]) (.d [.rd] (P_c_l2Ints (w.units.getD k default).globals) (.d [.rd, .own
 true 1] (P_c_sBound (w.units.getD k default).body []) (.p (((List.map intC (w.units.getD k default).globals).length + (List.map intC (bnd (w.units.getD k default).body)).length) *
 8 ≤ 140737488355328) (.h ((List.map intC (w.units.getD k default).globals ++ List.map intC (bnd (w.units.getD k default).body)).length ≤ 9223372036854775807) (.l (lc_sIsWldLb w k)
 (Sc_sIsWldLb w h k) [0, 18] [.s (li 0), .o (Ob.arr true 1 (List.map intC (w.units.getD k default).globals ++ List.map intC (bnd (w.units.getD k default).body))), .s (li
 (↑(List.map intC (w.units.getD k default).globals ++ List.map intC (bnd (w.units.getD k default).body)).length : Int))] 0 (.t (.r ((↑k : Int) + 1) (.g [0] (k + 1) [.s (li ((↑k :
 Int) + 1))])) (.t (.o 1 [] [.s (lb false)]) .q))))))))) (.o 0 [] [])) (by
  intro k h; try dsimp only [teasy, nthW, lc_sIsWldLa, lc_sIsWldLb] at h ⊢
  have g1 := @unit_w w.units k
  have g2 := bnd_le (w.units.getD k default).body
  have g0 := @unitGet w.units k
  have g3 := ugb_len (w.units.getD k default)
  have g6 := wW_eq w
  with_reducible repeat' (first | apply And.intro | exact zR | (intro; skip) | apply mIc | apply mOc | apply mSc | apply mLc | apply c_sIsExp | apply c_sUnits | apply c_l7Exps | apply c_l2Ints | apply c_sBound)
  all_goals (try simp only [std, inj] at *)
  all_goals with_reducible repeat' apply And.intro
  all_goals (try (first | with_reducible apply c_sIsExp | with_reducible apply c_sUnits | with_reducible apply c_l7Exps | with_reducible apply c_l2Ints | with_reducible apply c_sBound | (simp only [← List.map_append]; first | with_reducible apply c_sIsExp | with_reducible apply c_sUnits | with_reducible apply c_l7Exps | with_reducible apply c_l2Ints | with_reducible apply c_sBound)))
  all_goals (try (first | exact zw | exact zM | grind [take_get, ugb, valT, snocI, snocS, rowSnoc])))
theorem c_sIsWld (w : World) (h : wW w ≤ 1048576)  : P_c_sIsWld w := fnOK Tryz.call21 Tryz.func21 (.d [.rd] (P_c_sIsExp w.expander) (.b (!isExp w.expander) (.y true (.y true (.s (lb
 false)))) (.d [.rd] (P_c_sUnits w.units) (.b (!areU w.units) (.y true (.s (lb false))) (.d [.rd] (P_c_l7Exps w) (.b (!exA w) (.s (lb false)) (.z unitC w.units (.l (lc_sIsWldLa w)
 (Sc_sIsWldLa w h) [0] [.s (li 0)] 0 (.t (.s (lb true)) (.t (.s (lb false)) .q)))))))))) (by
  dsimp only [teasy, P_c_sIsWld, nthW, lc_sIsWldLa]
  have g6 := wW_eq w
  with_reducible repeat' (first | apply And.intro | exact zR | (intro; skip) | apply mIc | apply mOc | apply mSc | apply mLc | apply c_sIsExp | apply c_sUnits | apply c_l7Exps | apply c_l2Ints | apply c_sBound)
  all_goals (try simp only [std, inj] at *)
  all_goals with_reducible repeat' apply And.intro
  all_goals (try (first | with_reducible apply c_sIsExp | with_reducible apply c_sUnits | with_reducible apply c_l7Exps | with_reducible apply c_l2Ints | with_reducible apply c_sBound | (simp only [← List.map_append]; first | with_reducible apply c_sIsExp | with_reducible apply c_sUnits | with_reducible apply c_l7Exps | with_reducible apply c_l2Ints | with_reducible apply c_sBound)))
  all_goals (try (first | exact zw | exact zM | grind [isWld, valT, snocI, snocS, rowSnoc])))
abbrev P_c_iIsWld (w : World) : Ct := ⟨23, [], [worldA w], [], .sv (lb (isWld w))⟩
def lc_iIsWldLd (w : World) : Lp Nat := .mk 122 0 (fun x => [(1, SV.one (AC.ptr 0 0)), (3, SV.one (AC.mref 1)), (4, SV.one (AC.mref 2)), (11, SV.one (AC.mref 3)), (68, ll (List.map
 exportC w.exports)), (69, li (↑(List.map exportC w.exports).length : Int)), (70, hs x 0)]) (fun x => [Ob.box (vals (worldF w)), Ob.map false kS (mS (memS (namesU w.units))),
 Ob.map false kI (mI (memI (globals w.units))), ho x 1]) (fun k => [.s (li (↑k : Int)), .o (Ob.map false (kP (9 : TypeId)) (mP (memP (prE (List.take k w.exports)))))]) (fun k => k
 ≤ w.exports.length ∧ w.exports.length ≤ 9223372036854775807 ∧ exT w k = true ∧ wW w ≤ 1048576) (fun k => w.exports.length - k) [.mk (exA w = true) (.exit 6) (fun x => []) (fun x
 => []) [], .mk (exA w = false) .ret (fun x => [(2, hs x 0)]) (fun x => []) [.s (lb false)]]
def lc_iIsWldLc (w : World) (k : Nat) : Lp Nat := .mk 122 0 (fun x => [(1, SV.one (AC.ptr 0 0)), (3, SV.one (AC.mref 1)), (4, SV.one (AC.mref 2)), (28, ll (List.map unitC
 w.units)), (29, li (↑(List.map unitC w.units).length : Int)), (30, li (↑k : Int)), (56, ll (List.map intC (w.units.getD k default).globals)), (57, li (↑(List.map intC
 (w.units.getD k default).globals).length : Int)), (58, hs x 0)]) (fun x => [Ob.box (vals (worldF w)), Ob.map false kS (mS (upd1 (memS (namesU (List.take k w.units))) (w.units.getD
 k default).name 1)), ho x 1]) (fun k1 => [.s (li (↑k1 : Int)), .o (Ob.map false kI (mI (memI (globals (List.take k w.units) ++ List.take k1 (w.units.getD k default).globals))))])
 (fun k1 => k1 ≤ (w.units.getD k default).globals.length ∧ k < w.units.length ∧ wW w ≤ 1048576) (fun k1 => (w.units.getD k default).globals.length - k1) [.mk True (.exit 4) (fun x
 => [(1, SV.one (AC.ptr 0 0)), (3, SV.one (AC.mref 1)), (4, SV.one (AC.mref 2)), (28, ll (List.map unitC w.units)), (29, li (↑(List.map unitC w.units).length : Int)), (30, li (↑k :
 Int))]) (fun x => [Ob.box (vals (worldF w)), Ob.map false kS (mS (upd1 (memS (namesU (List.take k w.units))) (w.units.getD k default).name 1)), ho x 0]) [.o (Ob.map false kI (mI
 (memI (globals (List.take (k + 1) w.units)))))]]
def lc_iIsWldLb (w : World) (k : Nat) : Lp Nat := .mk 122 0 (fun x => [(1, SV.one (AC.ptr 0 0)), (3, SV.one (AC.mref 1)), (4, SV.one (AC.mref 2)), (6, SV.one (AC.ptr 3 0)), (28, ll
 (List.map unitC w.units)), (29, li (↑(List.map unitC w.units).length : Int)), (30, li (↑k : Int)), (43, SV.one (AC.ref 4)), (44, hs x 2), (45, hs x 0)]) (fun x => [Ob.box (vals
 (worldF w)), Ob.map false kS (mS (upd1 (memS (namesU (List.take k w.units))) (w.units.getD k default).name 1)), Ob.map false kI (mI (memI (globals (List.take k w.units)))), Ob.box
 (vals (unitF (w.units.getD k default))), ho x 1]) (fun k1 => [.s (li (↑k1 : Int)), .o (Ob.arr true 1 (List.map intC (ugb (w.units.getD k default)))), .s (li (↑(ugb (w.units.getD k
 default)).length : Int))]) (fun k1 => k1 ≤ (ugb (w.units.getD k default)).length ∧ k < w.units.length ∧ ((List.take k1 (ugb (w.units.getD k default))).all fun n => decide (n ≤
 w.expander.vari)) = true ∧ wW w ≤ 1048576) (fun k1 => (ugb (w.units.getD k default)).length - k1) [.mk (valU w (w.units.getD k default) = true) (.exit 2) (fun x => [(1, SV.one
 (AC.ptr 0 0)), (3, SV.one (AC.mref 1)), (4, SV.one (AC.mref 2)), (6, SV.one (AC.ptr 3 0)), (28, ll (List.map unitC w.units)), (29, li (↑(List.map unitC w.units).length : Int)),
 (30, li (↑k : Int))]) (fun x => [Ob.box (vals (worldF w)), Ob.map false kS (mS (upd1 (memS (namesU (List.take k w.units))) (w.units.getD k default).name 1)), Ob.map false kI (mI
 (memI (globals (List.take k w.units)))), Ob.box (vals (unitF (w.units.getD k default)))]) [], .mk (valT w = false) .ret (fun x => [(2, hs x 0)]) (fun x => []) [.s (lb false)]]
def lc_iIsWldLa (w : World) : Lp Nat := .mk 122 0 (fun x => [(1, SV.one (AC.ptr 0 0)), (3, SV.one (AC.mref 1)), (4, SV.one (AC.mref 2)), (28, ll (List.map unitC w.units)), (29, li
 (↑(List.map unitC w.units).length : Int)), (30, hs x 0)]) (fun x => [Ob.box (vals (worldF w)), ho x 1, ho x 2]) (fun k => [.s (li (↑k : Int)), .o (Ob.map false kS (mS (memS
 (namesU (List.take k w.units))))), .o (Ob.map false kI (mI (memI (globals (List.take k w.units)))))]) (fun k => k ≤ w.units.length ∧ w.units.length ≤ 9223372036854775807 ∧
 (List.take k w.units).all (valU w) = true ∧ wW w ≤ 1048576) (fun k => w.units.length - k) [.mk (valT w = true) (.exit 0) (fun x => [(1, SV.one (AC.ptr 0 0)), (3, SV.one (AC.mref
 1)), (4, SV.one (AC.mref 2))]) (fun x => [Ob.box (vals (worldF w)), ho x 0, ho x 1]) [.o (Ob.map false kS (mS (memS (namesU w.units)))), .o (Ob.map false kI (mI (memI (globals
 w.units))))], .mk (valT w = false) .ret (fun x => [(2, hs x 0)]) (fun x => []) [.s (lb false)]]
theorem Sc_iIsWldLd (w : World) (h : wW w ≤ 1048576) : Lp.Sem Tryz.prog (loopAt Tryz.f23 3) (lc_iIsWldLd w) := lpOK (fun k => .i ((↑k : Int) < (↑(List.map exportC w.exports).length
 : Int)) (.x (↑k : Int) (List.map exportC w.exports) (exportF (w.exports.getD k default)) (.c [.rd] (c_iIsSymbol (w.exports.getD k default).text) (.b (!isSym (w.exports.getD k
 default).text) (.y true (.y true (.o 1 [] [.s (lb false)]))) (.w (.cells [cI (memS (namesU w.units) (w.exports.getD k default).modul)]) (.p (LookAt (Value.int IntKind.i64 0) (mS
 (memS (namesU w.units))) (Value.string (w.exports.getD k default).modul) (cI (memS (namesU w.units) (w.exports.getD k default).modul))) (.i (memS (namesU w.units) (w.exports.getD
 k default).modul = 0) (.y true (.o 1 [] [.s (lb false)])) (.w (.cells [cI (memP (prE (List.take k w.exports)) ((w.exports.getD k default).modul, (w.exports.getD k
 default).text))]) (.p (LookAt (Value.int IntKind.i64 0) (mP (memP (prE (List.take k w.exports)))) (Value.agg #[Value.string (w.exports.getD k default).modul, Value.string
 (w.exports.getD k default).text]) (cI (memP (prE (List.take k w.exports)) ((w.exports.getD k default).modul, (w.exports.getD k default).text)))) (.i (memP (prE (List.take k
 w.exports)) ((w.exports.getD k default).modul, (w.exports.getD k default).text) = 1) (.o 1 [] [.s (lb false)]) (.w (.upd (mP (upd1 (memP (prE (List.take k w.exports)))
 ((w.exports.getD k default).modul, (w.exports.getD k default).text) 1))) (.p (false = false) (.p (UpdF (kP 9).d (mP (memP (prE (List.take k w.exports)))) (mP (upd1 (memP (prE
 (List.take k w.exports))) ((w.exports.getD k default).modul, (w.exports.getD k default).text) 1)) (Value.agg #[Value.string (w.exports.getD k default).modul, Value.string
 (w.exports.getD k default).text]) (some (cI 1))) (.i ((w.exports.getD k default).kind = 3) (.w (.cells [cI (memI (globals w.units) (w.exports.getD k default).number)]) (.p (LookAt
 (Value.int IntKind.i64 0) (mI (memI (globals w.units))) (Value.int IntKind.i64 (w.exports.getD k default).number) (cI (memI (globals w.units) (w.exports.getD k default).number)))
 (.i (memI (globals w.units) (w.exports.getD k default).number = 0) (.o 1 [] [.s (lb false)]) (.r ((↑k : Int) + 1) (.g [0, 1, 2, 3] (k + 1) [.s (li ((↑k : Int) + 1)), .o (Ob.map
 false (kP 9) (mP (upd1 (memP (prE (List.take k w.exports))) ((w.exports.getD k default).modul, (w.exports.getD k default).text) 1)))]))))) (.i ((w.exports.getD k default).kind =
 4) (.i ((w.exports.getD k default).number < 0) (.y true (.o 1 [] [.s (lb false)])) (.z rulesC w.expander.macros (.i ((↑(List.map rulesC w.expander.macros).length : Int) ≤
 (w.exports.getD k default).number) (.o 1 [] [.s (lb false)]) (.r ((↑k : Int) + 1) (.g [0, 1, 2, 3] (k + 1) [.s (li ((↑k : Int) + 1)), .o (Ob.map false (kP 9) (mP (upd1 (memP (prE
 (List.take k w.exports))) ((w.exports.getD k default).modul, (w.exports.getD k default).text) 1)))]))))) (.o 1 [] [.s (lb false)]))))))))))))))) (.o 0 [] [])) (by
  intro k h; try dsimp only [teasy, nthW, lc_iIsWldLd] at h ⊢
  have g1 := exT_step w k
  have g2 := @exT_stop w k
  have g3 := @prE_step w.exports k
  have g5 : expP w k = (isSym (w.exports.getD k default).text && !decide (((w.exports.getD k default).modul, (w.exports.getD k default).text) ∈ prE (w.exports.take k)) && inS (namesU w.units) (w.exports.getD k default).modul && expK w (w.exports.getD k default)) := rfl
  have g6 := wW_eq w
  have g0 := @exportGet w.exports k
  have g7 : keyE (w.exports.getD k default) = ((w.exports.getD k default).modul, (w.exports.getD k default).text) := rfl
  with_reducible repeat' (first | apply And.intro | exact zR | (intro; skip) | apply mIc | apply mOc | apply mSc | apply mLc | apply c_iIsExp | apply c_iUnits | apply c_iInts | apply c_iBoundVariables | apply c_iIsSymbol)
  all_goals (try simp only [std, inj] at *)
  all_goals with_reducible repeat' apply And.intro
  all_goals (try (first | with_reducible apply c_iIsExp | with_reducible apply c_iUnits | with_reducible apply c_iInts | with_reducible apply c_iBoundVariables | with_reducible apply c_iIsSymbol | (simp only [← List.map_append]; first | with_reducible apply c_iIsExp | with_reducible apply c_iUnits | with_reducible apply c_iInts | with_reducible apply c_iBoundVariables | with_reducible apply c_iIsSymbol)))
  all_goals (try (first | exact zw | exact zM | grind [memP_one, memP_snoc, memS_zero, memI_zero, inS, expK, exA, snocI, snocS, rowSnoc])))
theorem Sc_iIsWldLc (w : World) (h : wW w ≤ 1048576) (k : Nat) : Lp.Sem Tryz.prog (loopAt Tryz.f23 2) (lc_iIsWldLc w k) := lpOK (fun k1 => .i ((↑k1 : Int) < (↑(List.map intC
 (w.units.getD k default).globals).length : Int)) (.x (↑k1 : Int) (List.map intC (w.units.getD k default).globals) [cI ((w.units.getD k default).globals.getD k1 0)] (.w (.upd (mI
 (upd1 (memI (globals (List.take k w.units) ++ List.take k1 (w.units.getD k default).globals)) ((w.units.getD k default).globals.getD k1 0) 1))) (.p (false = false) (.p (UpdF kI.d
 (mI (memI (globals (List.take k w.units) ++ List.take k1 (w.units.getD k default).globals))) (mI (upd1 (memI (globals (List.take k w.units) ++ List.take k1 (w.units.getD k
 default).globals)) ((w.units.getD k default).globals.getD k1 0) 1)) (Value.int IntKind.i64 ((w.units.getD k default).globals.getD k1 0)) (some (cI 1))) (.r ((↑k1 : Int) + 1) (.g
 [0, 1, 2] (k1 + 1) [.s (li ((↑k1 : Int) + 1)), .o (Ob.map false kI (mI (upd1 (memI (globals (List.take k w.units) ++ List.take k1 (w.units.getD k default).globals)) ((w.units.getD
 k default).globals.getD k1 0) 1)))])))))) (.o 0 [0, 1, 2] [.o (Ob.map false kI (mI (memI (globals (List.take k w.units) ++ List.take k1 (w.units.getD k default).globals))))])) (by
  intro k1 h; try dsimp only [teasy, nthW, lc_iIsWldLc] at h ⊢
  have g1 := @globals_step w.units k
  have g2 := @unit_w w.units k
  have g6 := wW_eq w
  have g7 : k1 < (w.units.getD k default).globals.length → (List.map intC (w.units.getD k default).globals)[k1]? = some [cI ((w.units.getD k default).globals.getD k1 0)] := fun h => getC h rfl
  have g8 := @takeI (w.units.getD k default).globals k1
  with_reducible repeat' (first | apply And.intro | exact zR | (intro; skip) | apply mIc | apply mOc | apply mSc | apply mLc | apply c_iIsExp | apply c_iUnits | apply c_iInts | apply c_iBoundVariables | apply c_iIsSymbol)
  all_goals (try simp only [std, inj] at *)
  all_goals with_reducible repeat' apply And.intro
  all_goals (try (first | with_reducible apply c_iIsExp | with_reducible apply c_iUnits | with_reducible apply c_iInts | with_reducible apply c_iBoundVariables | with_reducible apply c_iIsSymbol | (simp only [← List.map_append]; first | with_reducible apply c_iIsExp | with_reducible apply c_iUnits | with_reducible apply c_iInts | with_reducible apply c_iBoundVariables | with_reducible apply c_iIsSymbol)))
  all_goals (try (first | exact zw | exact zM | grind [take_get, memI_snoc, snocI, snocS, rowSnoc])))
theorem Sc_iIsWldLb (w : World) (h : wW w ≤ 1048576) (k : Nat) : Lp.Sem Tryz.prog (loopAt Tryz.f23 1) (lc_iIsWldLb w k) := lpOK (fun k1 => .i ((↑k1 : Int) < (↑(ugb (w.units.getD k
 default)).length : Int)) (.p (0 ≤ (↑k1 : Int) ∧ (↑k1 : Int).toNat < (List.map intC (ugb (w.units.getD k default))).length) (.w (.cells (intC ((ugb (w.units.getD k default)).getD
 (↑k1 : Int).toNat default))) (.p ((List.map intC (ugb (w.units.getD k default)))[(↑k1 : Int).toNat]? = some [cI ((ugb (w.units.getD k default)).getD (↑k1 : Int).toNat 0)]) (.i
 (w.expander.vari < (ugb (w.units.getD k default)).getD (↑k1 : Int).toNat 0) (.o 1 [] [.s (lb false)]) (.r ((↑k1 : Int) + 1) (.g [0, 1, 2, 3, 4] (k1 + 1) [.s (li ((↑k1 : Int) +
 1)), .o (Ob.arr true 1 (List.map intC (ugb (w.units.getD k default)))), .s (li (↑(ugb (w.units.getD k default)).length : Int))])))))) (.o 0 [0, 1, 2, 3] [])) (by
  intro k1 h; try dsimp only [teasy, nthW, lc_iIsWldLb] at h ⊢
  have g1 := @valT_stop w k
  have g2 := @valU_stop w (w.units.getD k default) k1
  have g3 := @unit_w w.units k
  have g4 := ugb_len (w.units.getD k default)
  have g6 := wW_eq w
  have g7 : k1 < (ugb (w.units.getD k default)).length → (List.map intC (ugb (w.units.getD k default)))[k1]? = some [cI ((ugb (w.units.getD k default)).getD k1 0)] := fun h => getC h rfl
  with_reducible repeat' (first | apply And.intro | exact zR | (intro; skip) | apply mIc | apply mOc | apply mSc | apply mLc | apply c_iIsExp | apply c_iUnits | apply c_iInts | apply c_iBoundVariables | apply c_iIsSymbol)
  all_goals (try simp only [std, inj] at *)
  all_goals with_reducible repeat' apply And.intro
  all_goals (try (first | with_reducible apply c_iIsExp | with_reducible apply c_iUnits | with_reducible apply c_iInts | with_reducible apply c_iBoundVariables | with_reducible apply c_iIsSymbol | (simp only [← List.map_append]; first | with_reducible apply c_iIsExp | with_reducible apply c_iUnits | with_reducible apply c_iInts | with_reducible apply c_iBoundVariables | with_reducible apply c_iIsSymbol)))
  all_goals (try (first | exact zw | exact zM | grind [take_get, ugb, valU, snocI, snocS, rowSnoc])))
theorem Sc_iIsWldLa (w : World) (h : wW w ≤ 1048576) : Lp.Sem Tryz.prog (loopAt Tryz.f23 0) (lc_iIsWldLa w) := lpOK (fun k => .i ((↑k : Int) < (↑(List.map unitC w.units).length :
 Int)) (.x (↑k : Int) (List.map unitC w.units) (unitF (w.units.getD k default)) (.w (.upd (mS (upd1 (memS (namesU (List.take k w.units))) (w.units.getD k default).name 1))) (.p
 (false = false) (.p (UpdF kS.d (mS (memS (namesU (List.take k w.units)))) (mS (upd1 (memS (namesU (List.take k w.units))) (w.units.getD k default).name 1)) (Value.string
 (w.units.getD k default).name) (some (cI 1))) (.w (.draw [(6, [4, 12])]) (.d [.rd] (P_c_iInts (w.units.getD k default).globals) (.d [.rd] (P_c_iBoundVariables (w.units.getD k
 default).body) (.p (((List.map intC (w.units.getD k default).globals).length + (List.map intC (bnd (w.units.getD k default).body)).length) * 8 ≤ 140737488355328) (.h ((List.map
 intC (w.units.getD k default).globals ++ List.map intC (bnd (w.units.getD k default).body)).length ≤ 9223372036854775807) (.l (lc_iIsWldLb w k) (Sc_iIsWldLb w h k) [0, 1, 2, 3,
 20] [.s (li 0), .o (Ob.arr true 1 (List.map intC (w.units.getD k default).globals ++ List.map intC (bnd (w.units.getD k default).body))), .s (li (↑(List.map intC (w.units.getD k
 default).globals ++ List.map intC (bnd (w.units.getD k default).body)).length : Int))] 0 (.t (.z intC (w.units.getD k default).globals (.l (lc_iIsWldLc w k) (Sc_iIsWldLc w h k)
 [0, 1, 2] [.s (li 0), .o (Ob.map false kI (mI (memI (globals (List.take k w.units)))))] 0 (.t (.r ((↑k : Int) + 1) (.g [0, 1, 2] (k + 1) [.s (li ((↑k : Int) + 1)), .o (Ob.map
 false kS (mS (upd1 (memS (namesU (List.take k w.units))) (w.units.getD k default).name 1))), .o (Ob.map false kI (mI (memI (globals (List.take (k + 1) w.units)))))])) .q))) (.t
 (.o 1 [] [.s (lb false)]) .q)))))))))))) (.o 0 [0, 1, 2] [.o (Ob.map false kS (mS (memS (namesU (List.take k w.units))))), .o (Ob.map false kI (mI (memI (globals (List.take k
 w.units)))))])) (by
  intro k h; try dsimp only [teasy, nthW, lc_iIsWldLa, lc_iIsWldLc, lc_iIsWldLb] at h ⊢
  have g1 := @unit_w w.units k
  have g2 := bnd_le (w.units.getD k default).body
  have g0 := @unitGet w.units k
  have g3 := ugb_len (w.units.getD k default)
  have g4 := @names_step w.units k
  have g5 := @globals_step w.units k
  have g6 := wW_eq w
  with_reducible repeat' (first | apply And.intro | exact zR | (intro; skip) | apply mIc | apply mOc | apply mSc | apply mLc | apply c_iIsExp | apply c_iUnits | apply c_iInts | apply c_iBoundVariables | apply c_iIsSymbol)
  all_goals (try simp only [std, inj] at *)
  all_goals with_reducible repeat' apply And.intro
  all_goals (try (first | with_reducible apply c_iIsExp | with_reducible apply c_iUnits | with_reducible apply c_iInts | with_reducible apply c_iBoundVariables | with_reducible apply c_iIsSymbol | (simp only [← List.map_append]; first | with_reducible apply c_iIsExp | with_reducible apply c_iUnits | with_reducible apply c_iInts | with_reducible apply c_iBoundVariables | with_reducible apply c_iIsSymbol)))
  all_goals (try (first | exact zw | exact zM | grind [take_get, ugb, valT, memS_snoc, snocI, snocS, rowSnoc])))
theorem c_iIsWld (w : World) (h : wW w ≤ 1048576)  : P_c_iIsWld w := fnOK Tryz.call23 Tryz.func23 (.d [.rd] (P_c_iIsExp w.expander) (.b (!isExp w.expander) (.y true (.s (lb false)))
 (.d [.rd] (P_c_iUnits w.units) (.b (!areU w.units) (.s (lb false)) (.w (.mkmap kS) (.w (.mkmap kI) (.z unitC w.units (.l (lc_iIsWldLa w) (Sc_iIsWldLa w h) [0, 1, 2] [.s (li 0), .o
 (Ob.map false kS (mS zS)), .o (Ob.map false kI (mI zI))] 0 (.t (.w (.mkmap (kP 9)) (.z exportC w.exports (.l (lc_iIsWldLd w) (Sc_iIsWldLd w h) [0, 1, 2, 3] [.s (li 0), .o (Ob.map
 false (kP 9) (mP zP))] 0 (.t (.s (lb true)) (.t (.s (lb false)) .q))))) (.t (.s (lb false)) .q)))))))))) (by
  dsimp only [teasy, P_c_iIsWld, nthW, lc_iIsWldLa, lc_iIsWldLd]
  have g6 := wW_eq w
  have g1 : zS = memS (namesU (w.units.take 0)) := memS_nil
  have g2 : zP = memP (prE (w.exports.take 0)) := memP_nil
  have g3 : zI = memI (globals (w.units.take 0)) := memI_nil
  with_reducible repeat' (first | apply And.intro | exact zR | (intro; skip) | apply mIc | apply mOc | apply mSc | apply mLc | apply c_iIsExp | apply c_iUnits | apply c_iInts | apply c_iBoundVariables | apply c_iIsSymbol)
  all_goals (try simp only [std, inj] at *)
  all_goals with_reducible repeat' apply And.intro
  all_goals (try (first | with_reducible apply c_iIsExp | with_reducible apply c_iUnits | with_reducible apply c_iInts | with_reducible apply c_iBoundVariables | with_reducible apply c_iIsSymbol | (simp only [← List.map_append]; first | with_reducible apply c_iIsExp | with_reducible apply c_iUnits | with_reducible apply c_iInts | with_reducible apply c_iBoundVariables | with_reducible apply c_iIsSymbol)))
  all_goals (try (first | exact zw | exact zM | grind [isWld, valT, exT_zero, snocI, snocS, rowSnoc])))
end Go.Proofs.YtclpofblehlojaaGreat
end
section
namespace Go.Proofs.YtclpofblehlojaaGreat
open Go Go.Proofs.YtclpofblehlojaaGreat.Ab
set_option linter.unusedVariables false
set_option linter.unusedSimpArgs false
set_option maxHeartbeats 4000000
abbrev P_c_szIntS (L : List Int) (left : Int) : Ct := ⟨180, [], [ll (L.map intC), li left], [], .sv (li (sz L.length left))⟩
theorem c_szIntS (L : List Int) (left : Int) (h0 : 0 ≤ left) (h : left ≤ 2147483647)  : P_c_szIntS L left := fnOK Tryz.call180 Tryz.func180 (.z intC L (.r (left - (↑(List.map intC
 L).length : Int)) (.i (left - (↑(List.map intC L).length : Int) < 0) (.s (li (-1 : Int))) (.s (li (left - (↑(List.map intC L).length : Int))))))) (by
  dsimp only [teasy, P_c_szIntS]
  with_reducible repeat' (first | apply And.intro | exact zR | (intro; skip))
  all_goals (try simp only [std, inj] at *)
  all_goals with_reducible repeat' apply And.intro
  all_goals (try (first | exact z | grind [sz, snocI, snocS, rowSnoc])))
abbrev P_c_szDatumS (L : List Datum) (left : Int) : Ct := ⟨241, [], [ll (L.map datumC), li left], [], .sv (li (sz (L.length + sumBy wD L) left))⟩
abbrev P_c_szDatum (x : Datum) (left : Int) : Ct := ⟨222, [], [datumA x, li left], [], .sv (li (sz (wD x) left))⟩
def lc_szDatumSLa (L : List Datum) (left : Int) : Lp (Nat × Int) := .mk 27 0 (fun x => [(0, ll (List.map datumC L)), (1, hs x 1), (5, hs x 0)]) (fun x => []) (fun k => [.s (li
 (↑k.fst : Int)), .s (li k.snd)]) (fun k => k.fst ≤ L.length ∧ L.length ≤ 9223372036854775807 ∧ 0 ≤ k.snd ∧ k.snd ≤ left ∧ sz (sumBy wD (List.drop k.fst L)) k.snd = sz (L.length +
 sumBy wD L) left) (fun k => L.length - k.fst) [.mk (0 ≤ sz (L.length + sumBy wD L) left) (.exit 0) (fun x => [(1, hs x 0)]) (fun x => []) [.s (li (sz (L.length + sumBy wD L)
 left))], .mk (sz (L.length + sumBy wD L) left = (-1 : Int)) .ret (fun x => [(4, hs x 0)]) (fun x => []) [.s (li (-1 : Int))]]
theorem Sc_szDatumSLa (L : List Datum) (left : Int) (h0 : 0 ≤ left) (h : left ≤ 2147483647) (ih : ∀ (x : Datum), x ∈ L → ∀ (left : Int), 0 ≤ left → left ≤ 2147483647 → OK
 (P_c_szDatum x left)) : Lp.Sem Tryz.prog (loopAt Tryz.f241 0) (lc_szDatumSLa L left) := lpOK (fun k => .z datumC L (.i ((↑k.fst : Int) < (↑(List.map datumC L).length : Int)) (.x
 (↑k.fst : Int) (List.map datumC L) (datumF (L.getD k.fst default)) (.d [.rd, .rd] (P_c_szDatum (L.getD k.fst default) k.snd) (.i (sz (wD (L.getD k.fst default)) k.snd < 0) (.o 1
 [] [.s (li (-1 : Int))]) (.r ((↑k.fst : Int) + 1) (.g [] (k.fst + 1, sz (wD (L.getD k.fst default)) k.snd) [.s (li ((↑k.fst : Int) + 1)), .s (li (sz (wD (L.getD k.fst default))
 k.snd))]))))) (.o 0 [] [.s (li k.snd)]))) (by
  intro k h; try dsimp only [teasy, nthW, lc_szDatumSLa] at h ⊢
  obtain ⟨i, n⟩ := k
  simp only at *
  with_reducible repeat' (first | apply And.intro | exact zR | exact ih | (intro; skip) | apply ih)
  all_goals (try simp only [std, inj] at *)
  all_goals with_reducible repeat' apply And.intro
  all_goals (try (first | with_reducible apply ih | (simp only [← List.map_append]; first | with_reducible apply ih)))
  all_goals (try (first | exact z | grind [drop_get, sumBy, sz, getD_mem', snocI, snocS, rowSnoc])))
theorem c_szDatumS (L : List Datum) (left : Int) (h0 : 0 ≤ left) (h : left ≤ 2147483647) (ih : ∀ x ∈ L, ∀ (left : Int) (h0 : 0 ≤ left) (h : left ≤ 2147483647), P_c_szDatum x left) 
 : P_c_szDatumS L left := fnOK Tryz.call241 Tryz.func241 (.z datumC L (.r (left - (↑(List.map datumC L).length : Int)) (.i (left - (↑(List.map datumC L).length : Int) < 0) (.s (li
 (-1 : Int))) (.l (lc_szDatumSLa L left) (Sc_szDatumSLa L left h0 h ih) [] [.s (li 0), .s (li (left - (↑(List.map datumC L).length : Int)))] (0, left - (↑L.length : Int)) (.t (.s
 (li (sz (L.length + sumBy wD L) left))) (.t (.s (li (-1 : Int))) .q)))))) (by
  dsimp only [teasy, P_c_szDatumS, nthW, lc_szDatumSLa]
  with_reducible repeat' (first | apply And.intro | exact zR | exact ih | (intro; skip))
  all_goals (try simp only [std, inj] at *)
  all_goals with_reducible repeat' apply And.intro
  all_goals (try (first | with_reducible apply ih | (simp only [← List.map_append]; first | with_reducible apply ih)))
  all_goals (try (first | exact z | grind [sz, snocI, snocS, rowSnoc])))
theorem c_szDatum_s (x : Datum) (left : Int) (h0 : 0 ≤ left) (h : left ≤ 2147483647) (ih : ∀ z ∈ x.items, ∀ (left : Int) (h0 : 0 ≤ left) (h : left ≤ 2147483647), P_c_szDatum z
 left)  : P_c_szDatum x left := fnOK Tryz.call222 Tryz.func222 (.h (x.text.data.toList.length ≤ 9223372036854775807) (.r (left - (↑x.text.data.toList.length : Int)) (.i (left -
 (↑x.text.data.toList.length : Int) < 0) (.s (li (-1 : Int))) (.d [.rd, .rd] (P_c_szDatumS x.items (left - (↑x.text.data.toList.length : Int))) (.i (sz (x.items.length + sumBy wD
 x.items) (left - (↑x.text.data.toList.length : Int)) < 0) (.s (li (-1 : Int))) (.s (li (sz (x.items.length + sumBy wD x.items) (left - (↑x.text.data.toList.length : Int))))))))))
 (by
  dsimp only [teasy, P_c_szDatum]
  with_reducible repeat' (first | apply And.intro | exact zR | exact ih | (intro; skip) | apply c_szDatumS | apply ih)
  all_goals (try simp only [std, inj] at *)
  all_goals with_reducible repeat' apply And.intro
  all_goals (try (first | with_reducible apply c_szDatumS | with_reducible apply ih | (simp only [← List.map_append]; first | with_reducible apply c_szDatumS | with_reducible apply ih)))
  all_goals (try (first | exact z | grind [wD_eq, sz, wS, snocI, snocS, rowSnoc])))
theorem c_szDatum (x : Datum) : ∀ (left : Int) (h0 : 0 ≤ left) (h : left ≤ 2147483647), P_c_szDatum x left := Datum.ind (P := fun x => ∀ (left : Int) (h0 : 0 ≤ left) (h : left ≤ 2147483647), P_c_szDatum x left) (fun x ih left h0 h => c_szDatum_s x left h0 h ih) x
abbrev P_c_szCoreS (L : List Core) (left : Int) : Ct := ⟨223, [], [ll (L.map coreC), li left], [], .sv (li (sz (L.length + sumBy wC L) left))⟩
abbrev P_c_szCore (x : Core) (left : Int) : Ct := ⟨181, [], [coreA x, li left], [], .sv (li (sz (wC x) left))⟩
def lc_szCoreSLa (L : List Core) (left : Int) : Lp (Nat × Int) := .mk 27 0 (fun x => [(0, ll (List.map coreC L)), (1, hs x 1), (5, hs x 0)]) (fun x => []) (fun k => [.s (li (↑k.fst
 : Int)), .s (li k.snd)]) (fun k => k.fst ≤ L.length ∧ L.length ≤ 9223372036854775807 ∧ 0 ≤ k.snd ∧ k.snd ≤ left ∧ sz (sumBy wC (List.drop k.fst L)) k.snd = sz (L.length + sumBy wC
 L) left) (fun k => L.length - k.fst) [.mk (0 ≤ sz (L.length + sumBy wC L) left) (.exit 0) (fun x => [(1, hs x 0)]) (fun x => []) [.s (li (sz (L.length + sumBy wC L) left))], .mk
 (sz (L.length + sumBy wC L) left = (-1 : Int)) .ret (fun x => [(4, hs x 0)]) (fun x => []) [.s (li (-1 : Int))]]
theorem Sc_szCoreSLa (L : List Core) (left : Int) (h0 : 0 ≤ left) (h : left ≤ 2147483647) (ih : ∀ (x : Core), x ∈ L → ∀ (left : Int), 0 ≤ left → left ≤ 2147483647 → OK (P_c_szCore
 x left)) : Lp.Sem Tryz.prog (loopAt Tryz.f223 0) (lc_szCoreSLa L left) := lpOK (fun k => .z coreC L (.i ((↑k.fst : Int) < (↑(List.map coreC L).length : Int)) (.x (↑k.fst : Int)
 (List.map coreC L) (coreF (L.getD k.fst default)) (.d [.rd, .rd] (P_c_szCore (L.getD k.fst default) k.snd) (.i (sz (wC (L.getD k.fst default)) k.snd < 0) (.o 1 [] [.s (li (-1 :
 Int))]) (.r ((↑k.fst : Int) + 1) (.g [] (k.fst + 1, sz (wC (L.getD k.fst default)) k.snd) [.s (li ((↑k.fst : Int) + 1)), .s (li (sz (wC (L.getD k.fst default)) k.snd))]))))) (.o 0
 [] [.s (li k.snd)]))) (by
  intro k h; try dsimp only [teasy, nthW, lc_szCoreSLa] at h ⊢
  obtain ⟨i, n⟩ := k
  simp only at *
  with_reducible repeat' (first | apply And.intro | exact zR | exact ih | (intro; skip) | apply ih)
  all_goals (try simp only [std, inj] at *)
  all_goals with_reducible repeat' apply And.intro
  all_goals (try (first | with_reducible apply ih | (simp only [← List.map_append]; first | with_reducible apply ih)))
  all_goals (try (first | exact z | grind [drop_get, sumBy, sz, getD_mem', snocI, snocS, rowSnoc])))
theorem c_szCoreS (L : List Core) (left : Int) (h0 : 0 ≤ left) (h : left ≤ 2147483647) (ih : ∀ x ∈ L, ∀ (left : Int) (h0 : 0 ≤ left) (h : left ≤ 2147483647), P_c_szCore x left)  :
 P_c_szCoreS L left := fnOK Tryz.call223 Tryz.func223 (.z coreC L (.r (left - (↑(List.map coreC L).length : Int)) (.i (left - (↑(List.map coreC L).length : Int) < 0) (.s (li (-1 :
 Int))) (.l (lc_szCoreSLa L left) (Sc_szCoreSLa L left h0 h ih) [] [.s (li 0), .s (li (left - (↑(List.map coreC L).length : Int)))] (0, left - (↑L.length : Int)) (.t (.s (li (sz
 (L.length + sumBy wC L) left))) (.t (.s (li (-1 : Int))) .q)))))) (by
  dsimp only [teasy, P_c_szCoreS, nthW, lc_szCoreSLa]
  with_reducible repeat' (first | apply And.intro | exact zR | exact ih | (intro; skip))
  all_goals (try simp only [std, inj] at *)
  all_goals with_reducible repeat' apply And.intro
  all_goals (try (first | with_reducible apply ih | (simp only [← List.map_append]; first | with_reducible apply ih)))
  all_goals (try (first | exact z | grind [sz, snocI, snocS, rowSnoc])))
theorem c_szCore_s (x : Core) (left : Int) (h0 : 0 ≤ left) (h : left ≤ 2147483647) (ih : ∀ z ∈ x.kids, ∀ (left : Int) (h0 : 0 ≤ left) (h : left ≤ 2147483647), P_c_szCore z left)  :
 P_c_szCore x left := fnOK Tryz.call181 Tryz.func181 (.d [.rd, .rd] (P_c_szIntS x.params left) (.i (sz x.params.length left < 0) (.s (li (-1 : Int))) (.d [.rd, .rd] (P_c_szDatum
 x.datum (sz x.params.length left)) (.i (sz (wD x.datum) (sz x.params.length left) < 0) (.s (li (-1 : Int))) (.d [.rd, .rd] (P_c_szCoreS x.kids (sz (wD x.datum) (sz x.params.length
 left))) (.i (sz (x.kids.length + sumBy wC x.kids) (sz (wD x.datum) (sz x.params.length left)) < 0) (.s (li (-1 : Int))) (.s (li (sz (x.kids.length + sumBy wC x.kids) (sz (wD
 x.datum) (sz x.params.length left))))))))))) (by
  dsimp only [teasy, P_c_szCore]
  with_reducible repeat' (first | apply And.intro | exact zR | exact ih | (intro; skip) | apply c_szIntS | apply c_szDatum | apply c_szCoreS | apply ih)
  all_goals (try simp only [std, inj] at *)
  all_goals with_reducible repeat' apply And.intro
  all_goals (try (first | with_reducible apply c_szIntS | with_reducible apply c_szDatum | with_reducible apply c_szCoreS | with_reducible apply ih | (simp only [← List.map_append]; first | with_reducible apply c_szIntS | with_reducible apply c_szDatum | with_reducible apply c_szCoreS | with_reducible apply ih)))
  all_goals (try (first | exact z | grind [wC_eq, sz, wS, snocI, snocS, rowSnoc])))
theorem c_szCore (x : Core) : ∀ (left : Int) (h0 : 0 ≤ left) (h : left ≤ 2147483647), P_c_szCore x left := Core.ind (P := fun x => ∀ (left : Int) (h0 : 0 ≤ left) (h : left ≤ 2147483647), P_c_szCore x left) (fun x ih left h0 h => c_szCore_s x left h0 h ih) x
abbrev P_c_szSyntaxS (L : List Syntax) (left : Int) : Ct := ⟨221, [], [ll (L.map syntaxC), li left], [], .sv (li (sz (L.length + sumBy wY L) left))⟩
abbrev P_c_szSyntax (x : Syntax) (left : Int) : Ct := ⟨240, [], [syntaxA x, li left], [], .sv (li (sz (wY x) left))⟩
def lc_szSyntaxSLa (L : List Syntax) (left : Int) : Lp (Nat × Int) := .mk 27 0 (fun x => [(0, ll (List.map syntaxC L)), (1, hs x 1), (5, hs x 0)]) (fun x => []) (fun k => [.s (li
 (↑k.fst : Int)), .s (li k.snd)]) (fun k => k.fst ≤ L.length ∧ L.length ≤ 9223372036854775807 ∧ 0 ≤ k.snd ∧ k.snd ≤ left ∧ sz (sumBy wY (List.drop k.fst L)) k.snd = sz (L.length +
 sumBy wY L) left) (fun k => L.length - k.fst) [.mk (0 ≤ sz (L.length + sumBy wY L) left) (.exit 0) (fun x => [(1, hs x 0)]) (fun x => []) [.s (li (sz (L.length + sumBy wY L)
 left))], .mk (sz (L.length + sumBy wY L) left = (-1 : Int)) .ret (fun x => [(4, hs x 0)]) (fun x => []) [.s (li (-1 : Int))]]
theorem Sc_szSyntaxSLa (L : List Syntax) (left : Int) (h0 : 0 ≤ left) (h : left ≤ 2147483647) (ih : ∀ (x : Syntax), x ∈ L → ∀ (left : Int), 0 ≤ left → left ≤ 2147483647 → OK
 (P_c_szSyntax x left)) : Lp.Sem Tryz.prog (loopAt Tryz.f221 0) (lc_szSyntaxSLa L left) := lpOK (fun k => .z syntaxC L (.i ((↑k.fst : Int) < (↑(List.map syntaxC L).length : Int))
 (.x (↑k.fst : Int) (List.map syntaxC L) (syntaxF (L.getD k.fst default)) (.d [.rd, .rd] (P_c_szSyntax (L.getD k.fst default) k.snd) (.i (sz (wY (L.getD k.fst default)) k.snd < 0)
 (.o 1 [] [.s (li (-1 : Int))]) (.r ((↑k.fst : Int) + 1) (.g [] (k.fst + 1, sz (wY (L.getD k.fst default)) k.snd) [.s (li ((↑k.fst : Int) + 1)), .s (li (sz (wY (L.getD k.fst
 default)) k.snd))]))))) (.o 0 [] [.s (li k.snd)]))) (by
  intro k h; try dsimp only [teasy, nthW, lc_szSyntaxSLa] at h ⊢
  obtain ⟨i, n⟩ := k
  simp only at *
  with_reducible repeat' (first | apply And.intro | exact zR | exact ih | (intro; skip) | apply ih)
  all_goals (try simp only [std, inj] at *)
  all_goals with_reducible repeat' apply And.intro
  all_goals (try (first | with_reducible apply ih | (simp only [← List.map_append]; first | with_reducible apply ih)))
  all_goals (try (first | exact z | grind [drop_get, sumBy, sz, getD_mem', snocI, snocS, rowSnoc])))
theorem c_szSyntaxS (L : List Syntax) (left : Int) (h0 : 0 ≤ left) (h : left ≤ 2147483647) (ih : ∀ x ∈ L, ∀ (left : Int) (h0 : 0 ≤ left) (h : left ≤ 2147483647), P_c_szSyntax x
 left)  : P_c_szSyntaxS L left := fnOK Tryz.call221 Tryz.func221 (.z syntaxC L (.r (left - (↑(List.map syntaxC L).length : Int)) (.i (left - (↑(List.map syntaxC L).length : Int) < 0)
 (.s (li (-1 : Int))) (.l (lc_szSyntaxSLa L left) (Sc_szSyntaxSLa L left h0 h ih) [] [.s (li 0), .s (li (left - (↑(List.map syntaxC L).length : Int)))] (0, left - (↑L.length :
 Int)) (.t (.s (li (sz (L.length + sumBy wY L) left))) (.t (.s (li (-1 : Int))) .q)))))) (by
  dsimp only [teasy, P_c_szSyntaxS, nthW, lc_szSyntaxSLa]
  with_reducible repeat' (first | apply And.intro | exact zR | exact ih | (intro; skip))
  all_goals (try simp only [std, inj] at *)
  all_goals with_reducible repeat' apply And.intro
  all_goals (try (first | with_reducible apply ih | (simp only [← List.map_append]; first | with_reducible apply ih)))
  all_goals (try (first | exact z | grind [sz, snocI, snocS, rowSnoc])))
theorem c_szSyntax_s (x : Syntax) (left : Int) (h0 : 0 ≤ left) (h : left ≤ 2147483647) (ih : ∀ z ∈ x.items, ∀ (left : Int) (h0 : 0 ≤ left) (h : left ≤ 2147483647), P_c_szSyntax z
 left)  : P_c_szSyntax x left := fnOK Tryz.call240 Tryz.func240 (.h (x.text.data.toList.length ≤ 9223372036854775807) (.r (left - (↑x.text.data.toList.length : Int)) (.i (left -
 (↑x.text.data.toList.length : Int) < 0) (.s (li (-1 : Int))) (.d [.rd, .rd] (P_c_szIntS x.scopes (left - (↑x.text.data.toList.length : Int))) (.i (sz x.scopes.length (left -
 (↑x.text.data.toList.length : Int)) < 0) (.s (li (-1 : Int))) (.d [.rd, .rd] (P_c_szSyntaxS x.items (sz x.scopes.length (left - (↑x.text.data.toList.length : Int)))) (.i (sz
 (x.items.length + sumBy wY x.items) (sz x.scopes.length (left - (↑x.text.data.toList.length : Int))) < 0) (.s (li (-1 : Int))) (.s (li (sz (x.items.length + sumBy wY x.items) (sz
 x.scopes.length (left - (↑x.text.data.toList.length : Int))))))))))))) (by
  dsimp only [teasy, P_c_szSyntax]
  with_reducible repeat' (first | apply And.intro | exact zR | exact ih | (intro; skip) | apply c_szIntS | apply c_szSyntaxS | apply ih)
  all_goals (try simp only [std, inj] at *)
  all_goals with_reducible repeat' apply And.intro
  all_goals (try (first | with_reducible apply c_szIntS | with_reducible apply c_szSyntaxS | with_reducible apply ih | (simp only [← List.map_append]; first | with_reducible apply c_szIntS | with_reducible apply c_szSyntaxS | with_reducible apply ih)))
  all_goals (try (first | exact z | grind [wY_eq, sz, wS, snocI, snocS, rowSnoc])))
theorem c_szSyntax (x : Syntax) : ∀ (left : Int) (h0 : 0 ≤ left) (h : left ≤ 2147483647), P_c_szSyntax x left := Syntax.ind (P := fun x => ∀ (left : Int) (h0 : 0 ≤ left) (h : left ≤ 2147483647), P_c_szSyntax x left) (fun x ih left h0 h => c_szSyntax_s x left h0 h ih) x
abbrev P_c_szBinding (x : Binding) (left : Int) : Ct := ⟨178, [], [bindingA x, li left], [], .sv (li (sz (wB x) left))⟩
theorem c_szBinding (x : Binding) (left : Int) (h0 : 0 ≤ left) (h : left ≤ 2147483647)  : P_c_szBinding x left := fnOK Tryz.call178 Tryz.func178 (.h (x.text.data.toList.length ≤
 9223372036854775807) (.r (left - (↑x.text.data.toList.length : Int)) (.i (left - (↑x.text.data.toList.length : Int) < 0) (.s (li (-1 : Int))) (.d [.rd, .rd] (P_c_szIntS x.scopes
 (left - (↑x.text.data.toList.length : Int))) (.i (sz x.scopes.length (left - (↑x.text.data.toList.length : Int)) < 0) (.s (li (-1 : Int))) (.s (li (sz x.scopes.length (left -
 (↑x.text.data.toList.length : Int)))))))))) (by
  dsimp only [teasy, P_c_szBinding]
  with_reducible repeat' (first | apply And.intro | exact zR | (intro; skip) | apply c_szIntS)
  all_goals (try simp only [std, inj] at *)
  all_goals with_reducible repeat' apply And.intro
  all_goals (try (first | with_reducible apply c_szIntS | (simp only [← List.map_append]; first | with_reducible apply c_szIntS)))
  all_goals (try (first | exact z | grind [wB_eq, sz, wS, snocI, snocS, rowSnoc])))
abbrev P_c_szBindingS (L : List Binding) (left : Int) : Ct := ⟨120, [], [ll (L.map bindingC), li left], [], .sv (li (sz (L.length + sumBy wB L) left))⟩
def lc_szBindingSLa (L : List Binding) (left : Int) : Lp (Nat × Int) := .mk 27 0 (fun x => [(0, ll (List.map bindingC L)), (1, hs x 1), (5, hs x 0)]) (fun x => []) (fun k => [.s
 (li (↑k.fst : Int)), .s (li k.snd)]) (fun k => k.fst ≤ L.length ∧ L.length ≤ 9223372036854775807 ∧ 0 ≤ k.snd ∧ k.snd ≤ left ∧ sz (sumBy wB (List.drop k.fst L)) k.snd = sz
 (L.length + sumBy wB L) left) (fun k => L.length - k.fst) [.mk (0 ≤ sz (L.length + sumBy wB L) left) (.exit 0) (fun x => [(1, hs x 0)]) (fun x => []) [.s (li (sz (L.length + sumBy
 wB L) left))], .mk (sz (L.length + sumBy wB L) left = (-1 : Int)) .ret (fun x => [(4, hs x 0)]) (fun x => []) [.s (li (-1 : Int))]]
theorem Sc_szBindingSLa (L : List Binding) (left : Int) (h0 : 0 ≤ left) (h : left ≤ 2147483647) : Lp.Sem Tryz.prog (loopAt Tryz.f120 0) (lc_szBindingSLa L left) := lpOK (fun k =>
 .z bindingC L (.i ((↑k.fst : Int) < (↑(List.map bindingC L).length : Int)) (.x (↑k.fst : Int) (List.map bindingC L) (bindingF (L.getD k.fst default)) (.d [.rd, .rd] (P_c_szBinding
 (L.getD k.fst default) k.snd) (.i (sz (wB (L.getD k.fst default)) k.snd < 0) (.o 1 [] [.s (li (-1 : Int))]) (.r ((↑k.fst : Int) + 1) (.g [] (k.fst + 1, sz (wB (L.getD k.fst
 default)) k.snd) [.s (li ((↑k.fst : Int) + 1)), .s (li (sz (wB (L.getD k.fst default)) k.snd))]))))) (.o 0 [] [.s (li k.snd)]))) (by
  intro k h; try dsimp only [teasy, nthW, lc_szBindingSLa] at h ⊢
  obtain ⟨i, n⟩ := k
  simp only at *
  with_reducible repeat' (first | apply And.intro | exact zR | (intro; skip) | apply c_szBinding)
  all_goals (try simp only [std, inj] at *)
  all_goals with_reducible repeat' apply And.intro
  all_goals (try (first | with_reducible apply c_szBinding | (simp only [← List.map_append]; first | with_reducible apply c_szBinding)))
  all_goals (try (first | exact z | grind [drop_get, sumBy, sz, getD_mem', snocI, snocS, rowSnoc])))
theorem c_szBindingS (L : List Binding) (left : Int) (h0 : 0 ≤ left) (h : left ≤ 2147483647)  : P_c_szBindingS L left := fnOK Tryz.call120 Tryz.func120 (.z bindingC L (.r (left -
 (↑(List.map bindingC L).length : Int)) (.i (left - (↑(List.map bindingC L).length : Int) < 0) (.s (li (-1 : Int))) (.l (lc_szBindingSLa L left) (Sc_szBindingSLa L left h0 h) []
 [.s (li 0), .s (li (left - (↑(List.map bindingC L).length : Int)))] (0, left - (↑L.length : Int)) (.t (.s (li (sz (L.length + sumBy wB L) left))) (.t (.s (li (-1 : Int))) .q))))))
 (by
  dsimp only [teasy, P_c_szBindingS, nthW, lc_szBindingSLa]
  with_reducible repeat' (first | apply And.intro | exact zR | (intro; skip) | apply c_szBinding)
  all_goals (try simp only [std, inj] at *)
  all_goals with_reducible repeat' apply And.intro
  all_goals (try (first | with_reducible apply c_szBinding | (simp only [← List.map_append]; first | with_reducible apply c_szBinding)))
  all_goals (try (first | exact z | grind [sz, snocI, snocS, rowSnoc])))
abbrev P_c_szRules (x : Rules) (left : Int) : Ct := ⟨179, [], [rulesA x, li left], [], .sv (li (sz (wR x) left))⟩
theorem c_szRules (x : Rules) (left : Int) (h0 : 0 ≤ left) (h : left ≤ 2147483647)  : P_c_szRules x left := fnOK Tryz.call179 Tryz.func179 (.d [.rd, .rd] (P_c_szSyntaxS x.literals
 left) (.i (sz (x.literals.length + sumBy wY x.literals) left < 0) (.s (li (-1 : Int))) (.d [.rd, .rd] (P_c_szSyntaxS x.patterns (sz (x.literals.length + sumBy wY x.literals)
 left)) (.i (sz (x.patterns.length + sumBy wY x.patterns) (sz (x.literals.length + sumBy wY x.literals) left) < 0) (.s (li (-1 : Int))) (.d [.rd, .rd] (P_c_szSyntaxS x.templates
 (sz (x.patterns.length + sumBy wY x.patterns) (sz (x.literals.length + sumBy wY x.literals) left))) (.i (sz (x.templates.length + sumBy wY x.templates) (sz (x.patterns.length +
 sumBy wY x.patterns) (sz (x.literals.length + sumBy wY x.literals) left)) < 0) (.s (li (-1 : Int))) (.s (li (sz (x.templates.length + sumBy wY x.templates) (sz (x.patterns.length
 + sumBy wY x.patterns) (sz (x.literals.length + sumBy wY x.literals) left))))))))))) (by
  dsimp only [teasy, P_c_szRules]
  with_reducible repeat' (first | apply And.intro | exact zR | (intro; skip) | apply c_szSyntaxS | apply c_szSyntax)
  all_goals (try simp only [std, inj] at *)
  all_goals with_reducible repeat' apply And.intro
  all_goals (try (first | with_reducible apply c_szSyntaxS | with_reducible apply c_szSyntax | (simp only [← List.map_append]; first | with_reducible apply c_szSyntaxS | with_reducible apply c_szSyntax)))
  all_goals (try (first | exact z | grind [wR_eq, sz, wS, snocI, snocS, rowSnoc])))
abbrev P_c_szRulesS (L : List Rules) (left : Int) : Ct := ⟨121, [], [ll (L.map rulesC), li left], [], .sv (li (sz (L.length + sumBy wR L) left))⟩
def lc_szRulesSLa (L : List Rules) (left : Int) : Lp (Nat × Int) := .mk 27 0 (fun x => [(0, ll (List.map rulesC L)), (1, hs x 1), (5, hs x 0)]) (fun x => []) (fun k => [.s (li
 (↑k.fst : Int)), .s (li k.snd)]) (fun k => k.fst ≤ L.length ∧ L.length ≤ 9223372036854775807 ∧ 0 ≤ k.snd ∧ k.snd ≤ left ∧ sz (sumBy wR (List.drop k.fst L)) k.snd = sz (L.length +
 sumBy wR L) left) (fun k => L.length - k.fst) [.mk (0 ≤ sz (L.length + sumBy wR L) left) (.exit 0) (fun x => [(1, hs x 0)]) (fun x => []) [.s (li (sz (L.length + sumBy wR L)
 left))], .mk (sz (L.length + sumBy wR L) left = (-1 : Int)) .ret (fun x => [(4, hs x 0)]) (fun x => []) [.s (li (-1 : Int))]]
theorem Sc_szRulesSLa (L : List Rules) (left : Int) (h0 : 0 ≤ left) (h : left ≤ 2147483647) : Lp.Sem Tryz.prog (loopAt Tryz.f121 0) (lc_szRulesSLa L left) := lpOK (fun k => .z
 rulesC L (.i ((↑k.fst : Int) < (↑(List.map rulesC L).length : Int)) (.x (↑k.fst : Int) (List.map rulesC L) (rulesF (L.getD k.fst default)) (.d [.rd, .rd] (P_c_szRules (L.getD
 k.fst default) k.snd) (.i (sz (wR (L.getD k.fst default)) k.snd < 0) (.o 1 [] [.s (li (-1 : Int))]) (.r ((↑k.fst : Int) + 1) (.g [] (k.fst + 1, sz (wR (L.getD k.fst default))
 k.snd) [.s (li ((↑k.fst : Int) + 1)), .s (li (sz (wR (L.getD k.fst default)) k.snd))]))))) (.o 0 [] [.s (li k.snd)]))) (by
  intro k h; try dsimp only [teasy, nthW, lc_szRulesSLa] at h ⊢
  obtain ⟨i, n⟩ := k
  simp only at *
  with_reducible repeat' (first | apply And.intro | exact zR | (intro; skip) | apply c_szRules)
  all_goals (try simp only [std, inj] at *)
  all_goals with_reducible repeat' apply And.intro
  all_goals (try (first | with_reducible apply c_szRules | (simp only [← List.map_append]; first | with_reducible apply c_szRules)))
  all_goals (try (first | exact z | grind [drop_get, sumBy, sz, getD_mem', snocI, snocS, rowSnoc])))
theorem c_szRulesS (L : List Rules) (left : Int) (h0 : 0 ≤ left) (h : left ≤ 2147483647)  : P_c_szRulesS L left := fnOK Tryz.call121 Tryz.func121 (.z rulesC L (.r (left - (↑(List.map
 rulesC L).length : Int)) (.i (left - (↑(List.map rulesC L).length : Int) < 0) (.s (li (-1 : Int))) (.l (lc_szRulesSLa L left) (Sc_szRulesSLa L left h0 h) [] [.s (li 0), .s (li
 (left - (↑(List.map rulesC L).length : Int)))] (0, left - (↑L.length : Int)) (.t (.s (li (sz (L.length + sumBy wR L) left))) (.t (.s (li (-1 : Int))) .q)))))) (by
  dsimp only [teasy, P_c_szRulesS, nthW, lc_szRulesSLa]
  with_reducible repeat' (first | apply And.intro | exact zR | (intro; skip) | apply c_szRules)
  all_goals (try simp only [std, inj] at *)
  all_goals with_reducible repeat' apply And.intro
  all_goals (try (first | with_reducible apply c_szRules | (simp only [← List.map_append]; first | with_reducible apply c_szRules)))
  all_goals (try (first | exact z | grind [sz, snocI, snocS, rowSnoc])))
abbrev P_c_szExpander (x : Expander) (left : Int) : Ct := ⟨55, [], [expanderA x, li left], [], .sv (li (sz (wX x) left))⟩
theorem c_szExpander (x : Expander) (left : Int) (h0 : 0 ≤ left) (h : left ≤ 2147483647)  : P_c_szExpander x left := fnOK Tryz.call55 Tryz.func55 (.d [.rd, .rd] (P_c_szBindingS
 x.bindings left) (.i (sz (x.bindings.length + sumBy wB x.bindings) left < 0) (.s (li (-1 : Int))) (.d [.rd, .rd] (P_c_szRulesS x.macros (sz (x.bindings.length + sumBy wB
 x.bindings) left)) (.i (sz (x.macros.length + sumBy wR x.macros) (sz (x.bindings.length + sumBy wB x.bindings) left) < 0) (.s (li (-1 : Int))) (.s (li (sz (x.macros.length + sumBy
 wR x.macros) (sz (x.bindings.length + sumBy wB x.bindings) left)))))))) (by
  dsimp only [teasy, P_c_szExpander]
  with_reducible repeat' (first | apply And.intro | exact zR | (intro; skip) | apply c_szBindingS | apply c_szRulesS)
  all_goals (try simp only [std, inj] at *)
  all_goals with_reducible repeat' apply And.intro
  all_goals (try (first | with_reducible apply c_szBindingS | with_reducible apply c_szRulesS | (simp only [← List.map_append]; first | with_reducible apply c_szBindingS | with_reducible apply c_szRulesS)))
  all_goals (try (first | exact z | grind [wX_eq, sz, wS, snocI, snocS, rowSnoc])))
abbrev P_c_szExport (x : Export) (left : Int) : Ct := ⟨123, [], [exportA x, li left], [], .sv (li (sz (wE x) left))⟩
theorem c_szExport (x : Export) (left : Int) (h0 : 0 ≤ left) (h : left ≤ 2147483647)  : P_c_szExport x left := fnOK Tryz.call123 Tryz.func123 (.h (x.modul.data.toList.length ≤
 9223372036854775807) (.r (left - (↑x.modul.data.toList.length : Int)) (.i (left - (↑x.modul.data.toList.length : Int) < 0) (.s (li (-1 : Int))) (.h (x.text.data.toList.length ≤
 9223372036854775807) (.r (left - (↑x.modul.data.toList.length : Int) - (↑x.text.data.toList.length : Int)) (.i (left - (↑x.modul.data.toList.length : Int) -
 (↑x.text.data.toList.length : Int) < 0) (.s (li (-1 : Int))) (.s (li (left - (↑x.modul.data.toList.length : Int) - (↑x.text.data.toList.length : Int)))))))))) (by
  dsimp only [teasy, P_c_szExport]
  with_reducible repeat' (first | apply And.intro | exact zR | (intro; skip))
  all_goals (try simp only [std, inj] at *)
  all_goals with_reducible repeat' apply And.intro
  all_goals (try (first | exact z | grind [wE_eq, sz, wS, snocI, snocS, rowSnoc])))
abbrev P_c_szExportS (L : List Export) (left : Int) : Ct := ⟨57, [], [ll (L.map exportC), li left], [], .sv (li (sz (L.length + sumBy wE L) left))⟩
def lc_szExportSLa (L : List Export) (left : Int) : Lp (Nat × Int) := .mk 27 0 (fun x => [(0, ll (List.map exportC L)), (1, hs x 1), (5, hs x 0)]) (fun x => []) (fun k => [.s (li
 (↑k.fst : Int)), .s (li k.snd)]) (fun k => k.fst ≤ L.length ∧ L.length ≤ 9223372036854775807 ∧ 0 ≤ k.snd ∧ k.snd ≤ left ∧ sz (sumBy wE (List.drop k.fst L)) k.snd = sz (L.length +
 sumBy wE L) left) (fun k => L.length - k.fst) [.mk (0 ≤ sz (L.length + sumBy wE L) left) (.exit 0) (fun x => [(1, hs x 0)]) (fun x => []) [.s (li (sz (L.length + sumBy wE L)
 left))], .mk (sz (L.length + sumBy wE L) left = (-1 : Int)) .ret (fun x => [(4, hs x 0)]) (fun x => []) [.s (li (-1 : Int))]]
theorem Sc_szExportSLa (L : List Export) (left : Int) (h0 : 0 ≤ left) (h : left ≤ 2147483647) : Lp.Sem Tryz.prog (loopAt Tryz.f57 0) (lc_szExportSLa L left) := lpOK (fun k => .z
 exportC L (.i ((↑k.fst : Int) < (↑(List.map exportC L).length : Int)) (.x (↑k.fst : Int) (List.map exportC L) (exportF (L.getD k.fst default)) (.d [.rd, .rd] (P_c_szExport (L.getD
 k.fst default) k.snd) (.i (sz (wE (L.getD k.fst default)) k.snd < 0) (.o 1 [] [.s (li (-1 : Int))]) (.r ((↑k.fst : Int) + 1) (.g [] (k.fst + 1, sz (wE (L.getD k.fst default))
 k.snd) [.s (li ((↑k.fst : Int) + 1)), .s (li (sz (wE (L.getD k.fst default)) k.snd))]))))) (.o 0 [] [.s (li k.snd)]))) (by
  intro k h; try dsimp only [teasy, nthW, lc_szExportSLa] at h ⊢
  obtain ⟨i, n⟩ := k
  simp only at *
  with_reducible repeat' (first | apply And.intro | exact zR | (intro; skip) | apply c_szExport)
  all_goals (try simp only [std, inj] at *)
  all_goals with_reducible repeat' apply And.intro
  all_goals (try (first | with_reducible apply c_szExport | (simp only [← List.map_append]; first | with_reducible apply c_szExport)))
  all_goals (try (first | exact z | grind [drop_get, sumBy, sz, getD_mem', snocI, snocS, rowSnoc])))
theorem c_szExportS (L : List Export) (left : Int) (h0 : 0 ≤ left) (h : left ≤ 2147483647)  : P_c_szExportS L left := fnOK Tryz.call57 Tryz.func57 (.z exportC L (.r (left -
 (↑(List.map exportC L).length : Int)) (.i (left - (↑(List.map exportC L).length : Int) < 0) (.s (li (-1 : Int))) (.l (lc_szExportSLa L left) (Sc_szExportSLa L left h0 h) [] [.s
 (li 0), .s (li (left - (↑(List.map exportC L).length : Int)))] (0, left - (↑L.length : Int)) (.t (.s (li (sz (L.length + sumBy wE L) left))) (.t (.s (li (-1 : Int))) .q)))))) (by
  dsimp only [teasy, P_c_szExportS, nthW, lc_szExportSLa]
  with_reducible repeat' (first | apply And.intro | exact zR | (intro; skip) | apply c_szExport)
  all_goals (try simp only [std, inj] at *)
  all_goals with_reducible repeat' apply And.intro
  all_goals (try (first | with_reducible apply c_szExport | (simp only [← List.map_append]; first | with_reducible apply c_szExport)))
  all_goals (try (first | exact z | grind [sz, snocI, snocS, rowSnoc])))
abbrev P_c_szUnit (x : Unit) (left : Int) : Ct := ⟨122, [], [unitA x, li left], [], .sv (li (sz (wU x) left))⟩
theorem c_szUnit (x : Unit) (left : Int) (h0 : 0 ≤ left) (h : left ≤ 2147483647)  : P_c_szUnit x left := fnOK Tryz.call122 Tryz.func122 (.h (x.name.data.toList.length ≤
 9223372036854775807) (.r (left - (↑x.name.data.toList.length : Int)) (.i (left - (↑x.name.data.toList.length : Int) < 0) (.s (li (-1 : Int))) (.d [.rd, .rd] (P_c_szIntS x.globals
 (left - (↑x.name.data.toList.length : Int))) (.i (sz x.globals.length (left - (↑x.name.data.toList.length : Int)) < 0) (.s (li (-1 : Int))) (.d [.rd, .rd] (P_c_szCore x.body (sz
 x.globals.length (left - (↑x.name.data.toList.length : Int)))) (.i (sz (wC x.body) (sz x.globals.length (left - (↑x.name.data.toList.length : Int))) < 0) (.s (li (-1 : Int))) (.s
 (li (sz (wC x.body) (sz x.globals.length (left - (↑x.name.data.toList.length : Int))))))))))))) (by
  dsimp only [teasy, P_c_szUnit]
  with_reducible repeat' (first | apply And.intro | exact zR | (intro; skip) | apply c_szIntS | apply c_szCore)
  all_goals (try simp only [std, inj] at *)
  all_goals with_reducible repeat' apply And.intro
  all_goals (try (first | with_reducible apply c_szIntS | with_reducible apply c_szCore | (simp only [← List.map_append]; first | with_reducible apply c_szIntS | with_reducible apply c_szCore)))
  all_goals (try (first | exact z | grind [wU_eq, sz, wS, snocI, snocS, rowSnoc])))
abbrev P_c_szUnitS (L : List Unit) (left : Int) : Ct := ⟨56, [], [ll (L.map unitC), li left], [], .sv (li (sz (L.length + sumBy wU L) left))⟩
def lc_szUnitSLa (L : List Unit) (left : Int) : Lp (Nat × Int) := .mk 27 0 (fun x => [(0, ll (List.map unitC L)), (1, hs x 1), (5, hs x 0)]) (fun x => []) (fun k => [.s (li (↑k.fst
 : Int)), .s (li k.snd)]) (fun k => k.fst ≤ L.length ∧ L.length ≤ 9223372036854775807 ∧ 0 ≤ k.snd ∧ k.snd ≤ left ∧ sz (sumBy wU (List.drop k.fst L)) k.snd = sz (L.length + sumBy wU
 L) left) (fun k => L.length - k.fst) [.mk (0 ≤ sz (L.length + sumBy wU L) left) (.exit 0) (fun x => [(1, hs x 0)]) (fun x => []) [.s (li (sz (L.length + sumBy wU L) left))], .mk
 (sz (L.length + sumBy wU L) left = (-1 : Int)) .ret (fun x => [(4, hs x 0)]) (fun x => []) [.s (li (-1 : Int))]]
theorem Sc_szUnitSLa (L : List Unit) (left : Int) (h0 : 0 ≤ left) (h : left ≤ 2147483647) : Lp.Sem Tryz.prog (loopAt Tryz.f56 0) (lc_szUnitSLa L left) := lpOK (fun k => .z unitC L
 (.i ((↑k.fst : Int) < (↑(List.map unitC L).length : Int)) (.x (↑k.fst : Int) (List.map unitC L) (unitF (L.getD k.fst default)) (.d [.rd, .rd] (P_c_szUnit (L.getD k.fst default)
 k.snd) (.i (sz (wU (L.getD k.fst default)) k.snd < 0) (.o 1 [] [.s (li (-1 : Int))]) (.r ((↑k.fst : Int) + 1) (.g [] (k.fst + 1, sz (wU (L.getD k.fst default)) k.snd) [.s (li
 ((↑k.fst : Int) + 1)), .s (li (sz (wU (L.getD k.fst default)) k.snd))]))))) (.o 0 [] [.s (li k.snd)]))) (by
  intro k h; try dsimp only [teasy, nthW, lc_szUnitSLa] at h ⊢
  obtain ⟨i, n⟩ := k
  simp only at *
  with_reducible repeat' (first | apply And.intro | exact zR | (intro; skip) | apply c_szUnit)
  all_goals (try simp only [std, inj] at *)
  all_goals with_reducible repeat' apply And.intro
  all_goals (try (first | with_reducible apply c_szUnit | (simp only [← List.map_append]; first | with_reducible apply c_szUnit)))
  all_goals (try (first | exact z | grind [drop_get, sumBy, sz, getD_mem', snocI, snocS, rowSnoc])))
theorem c_szUnitS (L : List Unit) (left : Int) (h0 : 0 ≤ left) (h : left ≤ 2147483647)  : P_c_szUnitS L left := fnOK Tryz.call56 Tryz.func56 (.z unitC L (.r (left - (↑(List.map unitC
 L).length : Int)) (.i (left - (↑(List.map unitC L).length : Int) < 0) (.s (li (-1 : Int))) (.l (lc_szUnitSLa L left) (Sc_szUnitSLa L left h0 h) [] [.s (li 0), .s (li (left -
 (↑(List.map unitC L).length : Int)))] (0, left - (↑L.length : Int)) (.t (.s (li (sz (L.length + sumBy wU L) left))) (.t (.s (li (-1 : Int))) .q)))))) (by
  dsimp only [teasy, P_c_szUnitS, nthW, lc_szUnitSLa]
  with_reducible repeat' (first | apply And.intro | exact zR | (intro; skip) | apply c_szUnit)
  all_goals (try simp only [std, inj] at *)
  all_goals with_reducible repeat' apply And.intro
  all_goals (try (first | with_reducible apply c_szUnit | (simp only [← List.map_append]; first | with_reducible apply c_szUnit)))
  all_goals (try (first | exact z | grind [sz, snocI, snocS, rowSnoc])))
abbrev P_c_szWorld (x : World) (left : Int) : Ct := ⟨20, [], [worldA x, li left], [], .sv (li (sz (wW x) left))⟩
theorem c_szWorld (x : World) (left : Int) (h0 : 0 ≤ left) (h : left ≤ 2147483647)  : P_c_szWorld x left := fnOK Tryz.call20 Tryz.func20 (.d [.rd, .rd] (P_c_szExpander x.expander
 left) (.i (sz (wX x.expander) left < 0) (.s (li (-1 : Int))) (.d [.rd, .rd] (P_c_szUnitS x.units (sz (wX x.expander) left)) (.i (sz (x.units.length + sumBy wU x.units) (sz (wX
 x.expander) left) < 0) (.s (li (-1 : Int))) (.d [.rd, .rd] (P_c_szExportS x.exports (sz (x.units.length + sumBy wU x.units) (sz (wX x.expander) left))) (.i (sz (x.exports.length +
 sumBy wE x.exports) (sz (x.units.length + sumBy wU x.units) (sz (wX x.expander) left)) < 0) (.s (li (-1 : Int))) (.s (li (sz (x.exports.length + sumBy wE x.exports) (sz
 (x.units.length + sumBy wU x.units) (sz (wX x.expander) left))))))))))) (by
  dsimp only [teasy, P_c_szWorld]
  with_reducible repeat' (first | apply And.intro | exact zR | (intro; skip) | apply c_szExpander | apply c_szUnitS | apply c_szExportS)
  all_goals (try simp only [std, inj] at *)
  all_goals with_reducible repeat' apply And.intro
  all_goals (try (first | with_reducible apply c_szExpander | with_reducible apply c_szUnitS | with_reducible apply c_szExportS | (simp only [← List.map_append]; first | with_reducible apply c_szExpander | with_reducible apply c_szUnitS | with_reducible apply c_szExportS)))
  all_goals (try (first | exact z | grind [wW_eq, sz, wS, snocI, snocS, rowSnoc])))
end Go.Proofs.YtclpofblehlojaaGreat
end
section
namespace Go.Proofs.YtclpofblehlojaaGreat
open Go Go.Proofs.YtclpofblehlojaaGreat.Ab
set_option linter.unusedVariables false
set_option linter.unusedSimpArgs false
set_option maxHeartbeats 4000000
abbrev P_c_toIntS (L : List Int) : Ct := ⟨191, [], [ll (L.map intC)], [.arr true 1 (L.map intC)], .sv (.one (.ref 0))⟩
def lc_toIntSLa (L : List Int) : Lp Nat := .mk 22 0 (fun x => [(0, ll (List.map intC L)), (3, SV.one (AC.ref 0)), (4, hs x 0)]) (fun x => [ho x 1]) (fun k => [.s (li (↑k : Int)),
 .o (Ob.arr true 1 (List.map intC (fillTo L k)))]) (fun k => k ≤ L.length ∧ L.length ≤ 9223372036854775807) (fun k => L.length - k) [.mk True (.exit 0) (fun x => [(3, SV.one
 (AC.ref 0))]) (fun x => [ho x 0]) [.o (Ob.arr true 1 (List.map intC L))]]
theorem Sc_toIntSLa (L : List Int) (h : L.length ≤ 1048576) : Lp.Sem Tryz.prog (loopAt Tryz.f191 0) (lc_toIntSLa L) := lpOK (fun k => .z intC L (.i ((↑k : Int) < (↑(List.map intC
 L).length : Int)) (.x (↑k : Int) (List.map intC L) [cI (L.getD k 0)] (.p (0 ≤ (↑k : Int) ∧ (↑k : Int).toNat < (List.map intC (fillTo L k)).length) (.w (.cells (intC ((fillTo L
 k).getD (↑k : Int).toNat default))) (.p ((List.map intC (fillTo L k))[(↑k : Int).toNat]? = some [cI ((fillTo L k).getD (↑k : Int).toNat 0)]) (.r ((↑k : Int) + 1) (.g [0] (k + 1)
 [.s (li ((↑k : Int) + 1)), .o (Ob.arr true 1 ((List.map intC (fillTo L k)).set (↑k : Int).toNat [cI (L.getD k 0)]))])))))) (.o 0 [0] [.o (Ob.arr true 1 (List.map intC (fillTo L
 k)))]))) (by
  intro k h; try dsimp only [teasy, nthW, lc_toIntSLa] at h ⊢
  with_reducible repeat' (first | apply And.intro | exact zR | (intro; skip))
  all_goals (try simp only [std, inj] at *)
  all_goals with_reducible repeat' apply And.intro
  all_goals (try (first | exact z | exact zF | grind [fillTo_all, snocI, snocS, rowSnoc])))
theorem c_toIntS (L : List Int) (h : L.length ≤ 1048576)  : P_c_toIntS L := fnOK Tryz.call191 Tryz.func191 (.z intC L (.p (0 ≤ (↑(List.map intC L).length : Int) ∧ 8 * (↑(List.map
 intC L).length : Int).toNat ≤ 281474976710656) (.l (lc_toIntSLa L) (Sc_toIntSLa L h) [0] [.s (li 0), .o (Ob.arr true 1 (List.replicate (↑(List.map intC L).length : Int).toNat [cI
 0]))] 0 (.t (.f [0] [Ob.arr true 1 (List.map intC L)] (AV.sv (SV.one (AC.ref 0)))) .q)))) (by
  dsimp only [teasy, P_c_toIntS, nthW, lc_toIntSLa]
  with_reducible repeat' (first | apply And.intro | exact zR | (intro; skip))
  all_goals (try simp only [std, inj] at *)
  all_goals with_reducible repeat' apply And.intro
  all_goals (try (first | exact z | exact zF | grind [snocI, snocS, rowSnoc])))
abbrev P_c_toDatumS (L : List Datum) : Ct := ⟨245, [], [ll (L.map datumC)], [.arr true 4 (L.map datumC)], .sv (.one (.ref 0))⟩
abbrev P_c_toDatum (x : Datum) : Ct := ⟨227, [], [datumA x], datumO x, .sv (datumR x 0)⟩
def lc_toDatumSLa (L : List Datum) : Lp Nat := .mk 23 0 (fun x => [(0, ll (List.map datumC L)), (3, SV.one (AC.ref 0)), (4, hs x 0)]) (fun x => [ho x 1]) (fun k => [.s (li (↑k :
 Int)), .o (Ob.arr true 4 (List.map datumC (fillTo L k)))]) (fun k => k ≤ L.length ∧ L.length ≤ 9223372036854775807) (fun k => L.length - k) [.mk True (.exit 0) (fun x => [(3,
 SV.one (AC.ref 0))]) (fun x => [ho x 0]) [.o (Ob.arr true 4 (List.map datumC L))]]
theorem Sc_toDatumSLa (L : List Datum) (h : L.length + sumBy wD L ≤ 1048576) (ih : ∀ (x : Datum), x ∈ L → wD x ≤ 1048576 → OK (P_c_toDatum x)) : Lp.Sem Tryz.prog (loopAt Tryz.f245
 0) (lc_toDatumSLa L) := lpOK (fun k => .z datumC L (.i ((↑k : Int) < (↑(List.map datumC L).length : Int)) (.x (↑k : Int) (List.map datumC L) (datumF (L.getD k default)) (.d [.rd]
 (P_c_toDatum (L.getD k default)) (.p (0 ≤ (↑k : Int) ∧ (↑k : Int).toNat < (List.map datumC (fillTo L k)).length) (.w (.cells (datumF ((fillTo L k).getD (↑k : Int).toNat default)))
 (.p ((List.map datumC (fillTo L k))[(↑k : Int).toNat]? = some (datumF ((fillTo L k).getD (↑k : Int).toNat default))) (.r ((↑k : Int) + 1) (.g [0] (k + 1) [.s (li ((↑k : Int) +
 1)), .o (Ob.arr true 4 ((List.map datumC (fillTo L k)).set (↑k : Int).toNat (datumF (L.getD k default))))]))))))) (.o 0 [0] [.o (Ob.arr true 4 (List.map datumC (fillTo L k)))])))
 (by
  intro k h; try dsimp only [teasy, nthW, lc_toDatumSLa] at h ⊢
  with_reducible repeat' (first | apply And.intro | exact zR | exact ih | (intro; skip) | apply ih)
  all_goals (try simp only [std, inj] at *)
  all_goals with_reducible repeat' apply And.intro
  all_goals (try (first | with_reducible apply ih | (simp only [← List.map_append]; first | with_reducible apply ih)))
  all_goals (try (first | exact z | exact zF | grind [fillTo_all, getD_mem', sumBy_mem, snocI, snocS, rowSnoc])))
theorem c_toDatumS (L : List Datum) (h : L.length + sumBy wD L ≤ 1048576) (ih : ∀ x ∈ L, ∀ (h : wD x ≤ 1048576), P_c_toDatum x)  : P_c_toDatumS L := fnOK Tryz.call245 Tryz.func245
 (.z datumC L (.p (0 ≤ (↑(List.map datumC L).length : Int) ∧ 56 * (↑(List.map datumC L).length : Int).toNat ≤ 281474976710656) (.l (lc_toDatumSLa L) (Sc_toDatumSLa L h ih) [0] [.s
 (li 0), .o (Ob.arr true 4 (List.replicate (↑(List.map datumC L).length : Int).toNat [cI 0, cI 0, cS (ByteArray.mk #[]), Cell.list []]))] 0 (.t (.f [0] [Ob.arr true 4 (List.map
 datumC L)] (AV.sv (SV.one (AC.ref 0)))) .q)))) (by
  dsimp only [teasy, P_c_toDatumS, nthW, lc_toDatumSLa]
  with_reducible repeat' (first | apply And.intro | exact zR | exact ih | (intro; skip))
  all_goals (try simp only [std, inj] at *)
  all_goals with_reducible repeat' apply And.intro
  all_goals (try (first | with_reducible apply ih | (simp only [← List.map_append]; first | with_reducible apply ih)))
  all_goals (try (first | exact z | exact zF | grind [snocI, snocS, rowSnoc])))
theorem c_toDatum_s (x : Datum) (h : wD x ≤ 1048576) (ih : ∀ z ∈ x.items, ∀ (h : wD z ≤ 1048576), P_c_toDatum z)  : P_c_toDatum x := fnOK Tryz.call227 Tryz.func227 (.d [.rd]
 (P_c_toDatumS x.items) (.f [3] [Ob.arr true 4 (List.map datumC x.items)] (AV.sv (SV.agg [vI x.kind, vI x.number, vS x.text, AC.ref 0])))) (by
  dsimp only [teasy, P_c_toDatum]
  with_reducible repeat' (first | apply And.intro | exact zR | exact ih | (intro; skip) | apply c_toDatumS | apply ih)
  all_goals (try simp only [std, inj] at *)
  all_goals with_reducible repeat' apply And.intro
  all_goals (try (first | with_reducible apply c_toDatumS | with_reducible apply ih | (simp only [← List.map_append]; first | with_reducible apply c_toDatumS | with_reducible apply ih)))
  all_goals (try (first | exact z | exact zF | grind [wD_eq, wS, snocI, snocS, rowSnoc])))
theorem c_toDatum (x : Datum) : ∀ (h : wD x ≤ 1048576), P_c_toDatum x := Datum.ind (P := fun x => ∀ (h : wD x ≤ 1048576), P_c_toDatum x) (fun x ih h => c_toDatum_s x h ih) x
abbrev P_c_toCoreS (L : List Core) : Ct := ⟨228, [], [ll (L.map coreC)], [.arr true 8 (L.map coreC)], .sv (.one (.ref 0))⟩
abbrev P_c_toCore (x : Core) : Ct := ⟨192, [], [coreA x], coreO x, .sv (coreR x 0)⟩
def lc_toCoreSLa (L : List Core) : Lp Nat := .mk 23 0 (fun x => [(0, ll (List.map coreC L)), (3, SV.one (AC.ref 0)), (4, hs x 0)]) (fun x => [ho x 1]) (fun k => [.s (li (↑k :
 Int)), .o (Ob.arr true 8 (List.map coreC (fillTo L k)))]) (fun k => k ≤ L.length ∧ L.length ≤ 9223372036854775807) (fun k => L.length - k) [.mk True (.exit 0) (fun x => [(3,
 SV.one (AC.ref 0))]) (fun x => [ho x 0]) [.o (Ob.arr true 8 (List.map coreC L))]]
theorem Sc_toCoreSLa (L : List Core) (h : L.length + sumBy wC L ≤ 1048576) (ih : ∀ (x : Core), x ∈ L → wC x ≤ 1048576 → OK (P_c_toCore x)) : Lp.Sem Tryz.prog (loopAt Tryz.f228 0)
 (lc_toCoreSLa L) := lpOK (fun k => .z coreC L (.i ((↑k : Int) < (↑(List.map coreC L).length : Int)) (.x (↑k : Int) (List.map coreC L) (coreF (L.getD k default)) (.d [.rd]
 (P_c_toCore (L.getD k default)) (.p (0 ≤ (↑k : Int) ∧ (↑k : Int).toNat < (List.map coreC (fillTo L k)).length) (.w (.cells (coreF ((fillTo L k).getD (↑k : Int).toNat default)))
 (.p ((List.map coreC (fillTo L k))[(↑k : Int).toNat]? = some (coreF ((fillTo L k).getD (↑k : Int).toNat default))) (.r ((↑k : Int) + 1) (.g [0] (k + 1) [.s (li ((↑k : Int) + 1)),
 .o (Ob.arr true 8 ((List.map coreC (fillTo L k)).set (↑k : Int).toNat (coreF (L.getD k default))))]))))))) (.o 0 [0] [.o (Ob.arr true 8 (List.map coreC (fillTo L k)))]))) (by
  intro k h; try dsimp only [teasy, nthW, lc_toCoreSLa] at h ⊢
  with_reducible repeat' (first | apply And.intro | exact zR | exact ih | (intro; skip) | apply ih)
  all_goals (try simp only [std, inj] at *)
  all_goals with_reducible repeat' apply And.intro
  all_goals (try (first | with_reducible apply ih | (simp only [← List.map_append]; first | with_reducible apply ih)))
  all_goals (try (first | exact z | exact zF | grind [fillTo_all, getD_mem', sumBy_mem, snocI, snocS, rowSnoc])))
theorem c_toCoreS (L : List Core) (h : L.length + sumBy wC L ≤ 1048576) (ih : ∀ x ∈ L, ∀ (h : wC x ≤ 1048576), P_c_toCore x)  : P_c_toCoreS L := fnOK Tryz.call228 Tryz.func228 (.z
 coreC L (.p (0 ≤ (↑(List.map coreC L).length : Int) ∧ 120 * (↑(List.map coreC L).length : Int).toNat ≤ 281474976710656) (.l (lc_toCoreSLa L) (Sc_toCoreSLa L h ih) [0] [.s (li 0),
 .o (Ob.arr true 8 (List.replicate (↑(List.map coreC L).length : Int).toNat [cI 0, cI 0, Cell.list [], cI 0, cI 0, cS (ByteArray.mk #[]), Cell.list [], Cell.list []]))] 0 (.t (.f
 [0] [Ob.arr true 8 (List.map coreC L)] (AV.sv (SV.one (AC.ref 0)))) .q)))) (by
  dsimp only [teasy, P_c_toCoreS, nthW, lc_toCoreSLa]
  with_reducible repeat' (first | apply And.intro | exact zR | exact ih | (intro; skip))
  all_goals (try simp only [std, inj] at *)
  all_goals with_reducible repeat' apply And.intro
  all_goals (try (first | with_reducible apply ih | (simp only [← List.map_append]; first | with_reducible apply ih)))
  all_goals (try (first | exact z | exact zF | grind [snocI, snocS, rowSnoc])))
theorem c_toCore_s (x : Core) (h : wC x ≤ 1048576) (ih : ∀ z ∈ x.kids, ∀ (h : wC z ≤ 1048576), P_c_toCore z)  : P_c_toCore x := fnOK Tryz.call192 Tryz.func192 (.d [.rd] (P_c_toIntS
 x.params) (.d [.rd] (P_c_toDatum x.datum) (.d [.rd] (P_c_toCoreS x.kids) (.f [3, 4, 5] [Ob.arr true 1 (List.map intC x.params), Ob.arr true 4 (List.map datumC x.datum.items),
 Ob.arr true 8 (List.map coreC x.kids)] (AV.sv (SV.agg [vI x.kind, vI x.number, AC.ref 0, vI x.datum.kind, vI x.datum.number, vS x.datum.text, AC.ref 1, AC.ref 2])))))) (by
  dsimp only [teasy, P_c_toCore]
  with_reducible repeat' (first | apply And.intro | exact zR | exact ih | (intro; skip) | apply c_toIntS | apply c_toDatum | apply c_toCoreS | apply ih)
  all_goals (try simp only [std, inj] at *)
  all_goals with_reducible repeat' apply And.intro
  all_goals (try (first | with_reducible apply c_toIntS | with_reducible apply c_toDatum | with_reducible apply c_toCoreS | with_reducible apply ih | (simp only [← List.map_append]; first | with_reducible apply c_toIntS | with_reducible apply c_toDatum | with_reducible apply c_toCoreS | with_reducible apply ih)))
  all_goals (try (first | exact z | exact zF | grind [wC_eq, wS, snocI, snocS, rowSnoc])))
theorem c_toCore (x : Core) : ∀ (h : wC x ≤ 1048576), P_c_toCore x := Core.ind (P := fun x => ∀ (h : wC x ≤ 1048576), P_c_toCore x) (fun x ih h => c_toCore_s x h ih) x
abbrev P_c_toSyntaxS (L : List Syntax) : Ct := ⟨226, [], [ll (L.map syntaxC)], [.arr true 5 (L.map syntaxC)], .sv (.one (.ref 0))⟩
abbrev P_c_toSyntax (x : Syntax) : Ct := ⟨244, [], [syntaxA x], syntaxO x, .sv (syntaxR x 0)⟩
def lc_toSyntaxSLa (L : List Syntax) : Lp Nat := .mk 23 0 (fun x => [(0, ll (List.map syntaxC L)), (3, SV.one (AC.ref 0)), (4, hs x 0)]) (fun x => [ho x 1]) (fun k => [.s (li (↑k :
 Int)), .o (Ob.arr true 5 (List.map syntaxC (fillTo L k)))]) (fun k => k ≤ L.length ∧ L.length ≤ 9223372036854775807) (fun k => L.length - k) [.mk True (.exit 0) (fun x => [(3,
 SV.one (AC.ref 0))]) (fun x => [ho x 0]) [.o (Ob.arr true 5 (List.map syntaxC L))]]
theorem Sc_toSyntaxSLa (L : List Syntax) (h : L.length + sumBy wY L ≤ 1048576) (ih : ∀ (x : Syntax), x ∈ L → wY x ≤ 1048576 → OK (P_c_toSyntax x)) : Lp.Sem Tryz.prog (loopAt
 Tryz.f226 0) (lc_toSyntaxSLa L) := lpOK (fun k => .z syntaxC L (.i ((↑k : Int) < (↑(List.map syntaxC L).length : Int)) (.x (↑k : Int) (List.map syntaxC L) (syntaxF (L.getD k
 default)) (.d [.rd] (P_c_toSyntax (L.getD k default)) (.p (0 ≤ (↑k : Int) ∧ (↑k : Int).toNat < (List.map syntaxC (fillTo L k)).length) (.w (.cells (syntaxF ((fillTo L k).getD (↑k
 : Int).toNat default))) (.p ((List.map syntaxC (fillTo L k))[(↑k : Int).toNat]? = some (syntaxF ((fillTo L k).getD (↑k : Int).toNat default))) (.r ((↑k : Int) + 1) (.g [0] (k + 1)
 [.s (li ((↑k : Int) + 1)), .o (Ob.arr true 5 ((List.map syntaxC (fillTo L k)).set (↑k : Int).toNat (syntaxF (L.getD k default))))]))))))) (.o 0 [0] [.o (Ob.arr true 5 (List.map
 syntaxC (fillTo L k)))]))) (by
  intro k h; try dsimp only [teasy, nthW, lc_toSyntaxSLa] at h ⊢
  with_reducible repeat' (first | apply And.intro | exact zR | exact ih | (intro; skip) | apply ih)
  all_goals (try simp only [std, inj] at *)
  all_goals with_reducible repeat' apply And.intro
  all_goals (try (first | with_reducible apply ih | (simp only [← List.map_append]; first | with_reducible apply ih)))
  all_goals (try (first | exact z | exact zF | grind [fillTo_all, getD_mem', sumBy_mem, snocI, snocS, rowSnoc])))
theorem c_toSyntaxS (L : List Syntax) (h : L.length + sumBy wY L ≤ 1048576) (ih : ∀ x ∈ L, ∀ (h : wY x ≤ 1048576), P_c_toSyntax x)  : P_c_toSyntaxS L := fnOK Tryz.call226
 Tryz.func226 (.z syntaxC L (.p (0 ≤ (↑(List.map syntaxC L).length : Int) ∧ 80 * (↑(List.map syntaxC L).length : Int).toNat ≤ 281474976710656) (.l (lc_toSyntaxSLa L) (Sc_toSyntaxSLa
 L h ih) [0] [.s (li 0), .o (Ob.arr true 5 (List.replicate (↑(List.map syntaxC L).length : Int).toNat [cI 0, cI 0, cS (ByteArray.mk #[]), Cell.list [], Cell.list []]))] 0 (.t (.f
 [0] [Ob.arr true 5 (List.map syntaxC L)] (AV.sv (SV.one (AC.ref 0)))) .q)))) (by
  dsimp only [teasy, P_c_toSyntaxS, nthW, lc_toSyntaxSLa]
  with_reducible repeat' (first | apply And.intro | exact zR | exact ih | (intro; skip))
  all_goals (try simp only [std, inj] at *)
  all_goals with_reducible repeat' apply And.intro
  all_goals (try (first | with_reducible apply ih | (simp only [← List.map_append]; first | with_reducible apply ih)))
  all_goals (try (first | exact z | exact zF | grind [snocI, snocS, rowSnoc])))
theorem c_toSyntax_s (x : Syntax) (h : wY x ≤ 1048576) (ih : ∀ z ∈ x.items, ∀ (h : wY z ≤ 1048576), P_c_toSyntax z)  : P_c_toSyntax x := fnOK Tryz.call244 Tryz.func244 (.d [.rd]
 (P_c_toIntS x.scopes) (.d [.rd] (P_c_toSyntaxS x.items) (.f [3, 4] [Ob.arr true 1 (List.map intC x.scopes), Ob.arr true 5 (List.map syntaxC x.items)] (AV.sv (SV.agg [vI x.kind, vI
 x.number, vS x.text, AC.ref 0, AC.ref 1]))))) (by
  dsimp only [teasy, P_c_toSyntax]
  with_reducible repeat' (first | apply And.intro | exact zR | exact ih | (intro; skip) | apply c_toIntS | apply c_toSyntaxS | apply ih)
  all_goals (try simp only [std, inj] at *)
  all_goals with_reducible repeat' apply And.intro
  all_goals (try (first | with_reducible apply c_toIntS | with_reducible apply c_toSyntaxS | with_reducible apply ih | (simp only [← List.map_append]; first | with_reducible apply c_toIntS | with_reducible apply c_toSyntaxS | with_reducible apply ih)))
  all_goals (try (first | exact z | exact zF | grind [wY_eq, wS, snocI, snocS, rowSnoc])))
theorem c_toSyntax (x : Syntax) : ∀ (h : wY x ≤ 1048576), P_c_toSyntax x := Syntax.ind (P := fun x => ∀ (h : wY x ≤ 1048576), P_c_toSyntax x) (fun x ih h => c_toSyntax_s x h ih) x
abbrev P_c_toBinding (x : Binding) : Ct := ⟨189, [], [bindingA x], bindingO x, .sv (bindingR x 0)⟩
theorem c_toBinding (x : Binding) (h : wB x ≤ 1048576)  : P_c_toBinding x := fnOK Tryz.call189 Tryz.func189 (.d [.rd] (P_c_toIntS x.scopes) (.f [3] [Ob.arr true 1 (List.map intC
 x.scopes)] (AV.sv (SV.agg [vS x.text, AC.ref 0, vI x.kind, vI x.number])))) (by
  dsimp only [teasy, P_c_toBinding]
  with_reducible repeat' (first | apply And.intro | exact zR | (intro; skip) | apply c_toIntS)
  all_goals (try simp only [std, inj] at *)
  all_goals with_reducible repeat' apply And.intro
  all_goals (try (first | with_reducible apply c_toIntS | (simp only [← List.map_append]; first | with_reducible apply c_toIntS)))
  all_goals (try (first | exact z | exact zF | grind [wB_eq, wS, snocI, snocS, rowSnoc])))
abbrev P_c_toBindingS (L : List Binding) : Ct := ⟨136, [], [ll (L.map bindingC)], [.arr true 4 (L.map bindingC)], .sv (.one (.ref 0))⟩
def lc_toBindingSLa (L : List Binding) : Lp Nat := .mk 23 0 (fun x => [(0, ll (List.map bindingC L)), (3, SV.one (AC.ref 0)), (4, hs x 0)]) (fun x => [ho x 1]) (fun k => [.s (li
 (↑k : Int)), .o (Ob.arr true 4 (List.map bindingC (fillTo L k)))]) (fun k => k ≤ L.length ∧ L.length ≤ 9223372036854775807) (fun k => L.length - k) [.mk True (.exit 0) (fun x =>
 [(3, SV.one (AC.ref 0))]) (fun x => [ho x 0]) [.o (Ob.arr true 4 (List.map bindingC L))]]
theorem Sc_toBindingSLa (L : List Binding) (h : L.length + sumBy wB L ≤ 1048576) : Lp.Sem Tryz.prog (loopAt Tryz.f136 0) (lc_toBindingSLa L) := lpOK (fun k => .z bindingC L (.i
 ((↑k : Int) < (↑(List.map bindingC L).length : Int)) (.x (↑k : Int) (List.map bindingC L) (bindingF (L.getD k default)) (.d [.rd] (P_c_toBinding (L.getD k default)) (.p (0 ≤ (↑k :
 Int) ∧ (↑k : Int).toNat < (List.map bindingC (fillTo L k)).length) (.w (.cells (bindingF ((fillTo L k).getD (↑k : Int).toNat default))) (.p ((List.map bindingC (fillTo L k))[(↑k :
 Int).toNat]? = some (bindingF ((fillTo L k).getD (↑k : Int).toNat default))) (.r ((↑k : Int) + 1) (.g [0] (k + 1) [.s (li ((↑k : Int) + 1)), .o (Ob.arr true 4 ((List.map bindingC
 (fillTo L k)).set (↑k : Int).toNat (bindingF (L.getD k default))))]))))))) (.o 0 [0] [.o (Ob.arr true 4 (List.map bindingC (fillTo L k)))]))) (by
  intro k h; try dsimp only [teasy, nthW, lc_toBindingSLa] at h ⊢
  with_reducible repeat' (first | apply And.intro | exact zR | (intro; skip) | apply c_toBinding)
  all_goals (try simp only [std, inj] at *)
  all_goals with_reducible repeat' apply And.intro
  all_goals (try (first | with_reducible apply c_toBinding | (simp only [← List.map_append]; first | with_reducible apply c_toBinding)))
  all_goals (try (first | exact z | exact zF | grind [fillTo_all, getD_mem', sumBy_mem, snocI, snocS, rowSnoc])))
theorem c_toBindingS (L : List Binding) (h : L.length + sumBy wB L ≤ 1048576)  : P_c_toBindingS L := fnOK Tryz.call136 Tryz.func136 (.z bindingC L (.p (0 ≤ (↑(List.map bindingC
 L).length : Int) ∧ 56 * (↑(List.map bindingC L).length : Int).toNat ≤ 281474976710656) (.l (lc_toBindingSLa L) (Sc_toBindingSLa L h) [0] [.s (li 0), .o (Ob.arr true 4
 (List.replicate (↑(List.map bindingC L).length : Int).toNat [cS (ByteArray.mk #[]), Cell.list [], cI 0, cI 0]))] 0 (.t (.f [0] [Ob.arr true 4 (List.map bindingC L)] (AV.sv (SV.one
 (AC.ref 0)))) .q)))) (by
  dsimp only [teasy, P_c_toBindingS, nthW, lc_toBindingSLa]
  with_reducible repeat' (first | apply And.intro | exact zR | (intro; skip) | apply c_toBinding)
  all_goals (try simp only [std, inj] at *)
  all_goals with_reducible repeat' apply And.intro
  all_goals (try (first | with_reducible apply c_toBinding | (simp only [← List.map_append]; first | with_reducible apply c_toBinding)))
  all_goals (try (first | exact z | exact zF | grind [snocI, snocS, rowSnoc])))
abbrev P_c_toRules (x : Rules) : Ct := ⟨190, [], [rulesA x], rulesO x, .sv (rulesR x 0)⟩
theorem c_toRules (x : Rules) (h : wR x ≤ 1048576)  : P_c_toRules x := fnOK Tryz.call190 Tryz.func190 (.d [.rd] (P_c_toSyntaxS x.literals) (.d [.rd] (P_c_toSyntaxS x.patterns) (.d
 [.rd] (P_c_toSyntaxS x.templates) (.f [3, 4, 5] [Ob.arr true 5 (List.map syntaxC x.literals), Ob.arr true 5 (List.map syntaxC x.patterns), Ob.arr true 5 (List.map syntaxC
 x.templates)] (AV.sv (SV.agg [AC.ref 0, AC.ref 1, AC.ref 2])))))) (by
  dsimp only [teasy, P_c_toRules]
  with_reducible repeat' (first | apply And.intro | exact zR | (intro; skip) | apply c_toSyntaxS | apply c_toSyntax)
  all_goals (try simp only [std, inj] at *)
  all_goals with_reducible repeat' apply And.intro
  all_goals (try (first | with_reducible apply c_toSyntaxS | with_reducible apply c_toSyntax | (simp only [← List.map_append]; first | with_reducible apply c_toSyntaxS | with_reducible apply c_toSyntax)))
  all_goals (try (first | exact z | exact zF | grind [wR_eq, wS, snocI, snocS, rowSnoc])))
abbrev P_c_toRulesS (L : List Rules) : Ct := ⟨137, [], [ll (L.map rulesC)], [.arr true 3 (L.map rulesC)], .sv (.one (.ref 0))⟩
def lc_toRulesSLa (L : List Rules) : Lp Nat := .mk 23 0 (fun x => [(0, ll (List.map rulesC L)), (3, SV.one (AC.ref 0)), (4, hs x 0)]) (fun x => [ho x 1]) (fun k => [.s (li (↑k :
 Int)), .o (Ob.arr true 3 (List.map rulesC (fillTo L k)))]) (fun k => k ≤ L.length ∧ L.length ≤ 9223372036854775807) (fun k => L.length - k) [.mk True (.exit 0) (fun x => [(3,
 SV.one (AC.ref 0))]) (fun x => [ho x 0]) [.o (Ob.arr true 3 (List.map rulesC L))]]
theorem Sc_toRulesSLa (L : List Rules) (h : L.length + sumBy wR L ≤ 1048576) : Lp.Sem Tryz.prog (loopAt Tryz.f137 0) (lc_toRulesSLa L) := lpOK (fun k => .z rulesC L (.i ((↑k : Int)
 < (↑(List.map rulesC L).length : Int)) (.x (↑k : Int) (List.map rulesC L) (rulesF (L.getD k default)) (.d [.rd] (P_c_toRules (L.getD k default)) (.p (0 ≤ (↑k : Int) ∧ (↑k :
 Int).toNat < (List.map rulesC (fillTo L k)).length) (.w (.cells (rulesF ((fillTo L k).getD (↑k : Int).toNat default))) (.p ((List.map rulesC (fillTo L k))[(↑k : Int).toNat]? =
 some (rulesF ((fillTo L k).getD (↑k : Int).toNat default))) (.r ((↑k : Int) + 1) (.g [0] (k + 1) [.s (li ((↑k : Int) + 1)), .o (Ob.arr true 3 ((List.map rulesC (fillTo L k)).set
 (↑k : Int).toNat (rulesF (L.getD k default))))]))))))) (.o 0 [0] [.o (Ob.arr true 3 (List.map rulesC (fillTo L k)))]))) (by
  intro k h; try dsimp only [teasy, nthW, lc_toRulesSLa] at h ⊢
  with_reducible repeat' (first | apply And.intro | exact zR | (intro; skip) | apply c_toRules)
  all_goals (try simp only [std, inj] at *)
  all_goals with_reducible repeat' apply And.intro
  all_goals (try (first | with_reducible apply c_toRules | (simp only [← List.map_append]; first | with_reducible apply c_toRules)))
  all_goals (try (first | exact z | exact zF | grind [fillTo_all, getD_mem', sumBy_mem, snocI, snocS, rowSnoc])))
theorem c_toRulesS (L : List Rules) (h : L.length + sumBy wR L ≤ 1048576)  : P_c_toRulesS L := fnOK Tryz.call137 Tryz.func137 (.z rulesC L (.p (0 ≤ (↑(List.map rulesC L).length :
 Int) ∧ 72 * (↑(List.map rulesC L).length : Int).toNat ≤ 281474976710656) (.l (lc_toRulesSLa L) (Sc_toRulesSLa L h) [0] [.s (li 0), .o (Ob.arr true 3 (List.replicate (↑(List.map
 rulesC L).length : Int).toNat [Cell.list [], Cell.list [], Cell.list []]))] 0 (.t (.f [0] [Ob.arr true 3 (List.map rulesC L)] (AV.sv (SV.one (AC.ref 0)))) .q)))) (by
  dsimp only [teasy, P_c_toRulesS, nthW, lc_toRulesSLa]
  with_reducible repeat' (first | apply And.intro | exact zR | (intro; skip) | apply c_toRules)
  all_goals (try simp only [std, inj] at *)
  all_goals with_reducible repeat' apply And.intro
  all_goals (try (first | with_reducible apply c_toRules | (simp only [← List.map_append]; first | with_reducible apply c_toRules)))
  all_goals (try (first | exact z | exact zF | grind [snocI, snocS, rowSnoc])))
abbrev P_c_toExpander (x : Expander) : Ct := ⟨63, [], [expanderA x], expanderO x, .sv (expanderR x 0)⟩
theorem c_toExpander (x : Expander) (h : wX x ≤ 1048576)  : P_c_toExpander x := fnOK Tryz.call63 Tryz.func63 (.d [.rd] (P_c_toBindingS x.bindings) (.d [.rd] (P_c_toRulesS x.macros)
 (.f [3, 4] [Ob.arr true 4 (List.map bindingC x.bindings), Ob.arr true 3 (List.map rulesC x.macros)] (AV.sv (SV.agg [AC.ref 0, AC.ref 1, vI x.scope, vI x.vari, vI x.steps]))))) (by
  dsimp only [teasy, P_c_toExpander]
  with_reducible repeat' (first | apply And.intro | exact zR | (intro; skip) | apply c_toBindingS | apply c_toRulesS)
  all_goals (try simp only [std, inj] at *)
  all_goals with_reducible repeat' apply And.intro
  all_goals (try (first | with_reducible apply c_toBindingS | with_reducible apply c_toRulesS | (simp only [← List.map_append]; first | with_reducible apply c_toBindingS | with_reducible apply c_toRulesS)))
  all_goals (try (first | exact z | exact zF | grind [wX_eq, wS, snocI, snocS, rowSnoc])))
abbrev P_c_toExport (x : Export) : Ct := ⟨139, [], [exportA x], exportO x, .sv (exportR x 0)⟩
theorem c_toExport (x : Export) (h : wE x ≤ 1048576)  : P_c_toExport x := fnOK Tryz.call139 Tryz.func139 (.s (SV.agg (vals (exportF x)))) (by
  dsimp only [teasy, P_c_toExport]
  with_reducible repeat' (first | apply And.intro | exact zR | (intro; skip))
  all_goals (try simp only [std, inj] at *)
  all_goals with_reducible repeat' apply And.intro
  all_goals (try (first | exact z | exact zF | grind [wE_eq, wS, snocI, snocS, rowSnoc]))
  all_goals rfl)
abbrev P_c_toExportS (L : List Export) : Ct := ⟨65, [], [ll (L.map exportC)], [.arr true 4 (L.map exportC)], .sv (.one (.ref 0))⟩
def lc_toExportSLa (L : List Export) : Lp Nat := .mk 23 0 (fun x => [(0, ll (List.map exportC L)), (3, SV.one (AC.ref 0)), (4, hs x 0)]) (fun x => [ho x 1]) (fun k => [.s (li (↑k :
 Int)), .o (Ob.arr true 4 (List.map exportC (fillTo L k)))]) (fun k => k ≤ L.length ∧ L.length ≤ 9223372036854775807) (fun k => L.length - k) [.mk True (.exit 0) (fun x => [(3,
 SV.one (AC.ref 0))]) (fun x => [ho x 0]) [.o (Ob.arr true 4 (List.map exportC L))]]
theorem Sc_toExportSLa (L : List Export) (h : L.length + sumBy wE L ≤ 1048576) : Lp.Sem Tryz.prog (loopAt Tryz.f65 0) (lc_toExportSLa L) := lpOK (fun k => .z exportC L (.i ((↑k :
 Int) < (↑(List.map exportC L).length : Int)) (.x (↑k : Int) (List.map exportC L) (exportF (L.getD k default)) (.d [.rd] (P_c_toExport (L.getD k default)) (.p (0 ≤ (↑k : Int) ∧ (↑k
 : Int).toNat < (List.map exportC (fillTo L k)).length) (.w (.cells (exportF ((fillTo L k).getD (↑k : Int).toNat default))) (.p ((List.map exportC (fillTo L k))[(↑k : Int).toNat]?
 = some (exportF ((fillTo L k).getD (↑k : Int).toNat default))) (.r ((↑k : Int) + 1) (.g [0] (k + 1) [.s (li ((↑k : Int) + 1)), .o (Ob.arr true 4 ((List.map exportC (fillTo L
 k)).set (↑k : Int).toNat (exportF (L.getD k default))))]))))))) (.o 0 [0] [.o (Ob.arr true 4 (List.map exportC (fillTo L k)))]))) (by
  intro k h; try dsimp only [teasy, nthW, lc_toExportSLa] at h ⊢
  with_reducible repeat' (first | apply And.intro | exact zR | (intro; skip) | apply c_toExport)
  all_goals (try simp only [std, inj] at *)
  all_goals with_reducible repeat' apply And.intro
  all_goals (try (first | with_reducible apply c_toExport | (simp only [← List.map_append]; first | with_reducible apply c_toExport)))
  all_goals (try (first | exact z | exact zF | grind [fillTo_all, getD_mem', sumBy_mem, snocI, snocS, rowSnoc])))
theorem c_toExportS (L : List Export) (h : L.length + sumBy wE L ≤ 1048576)  : P_c_toExportS L := fnOK Tryz.call65 Tryz.func65 (.z exportC L (.p (0 ≤ (↑(List.map exportC L).length :
 Int) ∧ 48 * (↑(List.map exportC L).length : Int).toNat ≤ 281474976710656) (.l (lc_toExportSLa L) (Sc_toExportSLa L h) [0] [.s (li 0), .o (Ob.arr true 4 (List.replicate (↑(List.map
 exportC L).length : Int).toNat [cS (ByteArray.mk #[]), cS (ByteArray.mk #[]), cI 0, cI 0]))] 0 (.t (.f [0] [Ob.arr true 4 (List.map exportC L)] (AV.sv (SV.one (AC.ref 0)))) .q))))
 (by
  dsimp only [teasy, P_c_toExportS, nthW, lc_toExportSLa]
  with_reducible repeat' (first | apply And.intro | exact zR | (intro; skip) | apply c_toExport)
  all_goals (try simp only [std, inj] at *)
  all_goals with_reducible repeat' apply And.intro
  all_goals (try (first | with_reducible apply c_toExport | (simp only [← List.map_append]; first | with_reducible apply c_toExport)))
  all_goals (try (first | exact z | exact zF | grind [snocI, snocS, rowSnoc])))
abbrev P_c_toUnit (x : Unit) : Ct := ⟨138, [], [unitA x], unitO x, .sv (unitR x 0)⟩
theorem c_toUnit (x : Unit) (h : wU x ≤ 1048576)  : P_c_toUnit x := fnOK Tryz.call138 Tryz.func138 (.d [.rd] (P_c_toIntS x.globals) (.d [.rd] (P_c_toCore x.body) (.f [3, 4, 5, 6]
 [Ob.arr true 1 (List.map intC x.globals), Ob.arr true 1 (List.map intC x.body.params), Ob.arr true 4 (List.map datumC x.body.datum.items), Ob.arr true 8 (List.map coreC
 x.body.kids)] (AV.sv (SV.agg [vS x.name, AC.ref 0, vI x.body.kind, vI x.body.number, AC.ref 1, vI x.body.datum.kind, vI x.body.datum.number, vS x.body.datum.text, AC.ref 2, AC.ref
 3]))))) (by
  dsimp only [teasy, P_c_toUnit]
  with_reducible repeat' (first | apply And.intro | exact zR | (intro; skip) | apply c_toIntS | apply c_toCore)
  all_goals (try simp only [std, inj] at *)
  all_goals with_reducible repeat' apply And.intro
  all_goals (try (first | with_reducible apply c_toIntS | with_reducible apply c_toCore | (simp only [← List.map_append]; first | with_reducible apply c_toIntS | with_reducible apply c_toCore)))
  all_goals (try (first | exact z | exact zF | grind [wU_eq, wS, snocI, snocS, rowSnoc])))
abbrev P_c_toUnitS (L : List Unit) : Ct := ⟨64, [], [ll (L.map unitC)], [.arr true 10 (L.map unitC)], .sv (.one (.ref 0))⟩
def lc_toUnitSLa (L : List Unit) : Lp Nat := .mk 23 0 (fun x => [(0, ll (List.map unitC L)), (3, SV.one (AC.ref 0)), (4, hs x 0)]) (fun x => [ho x 1]) (fun k => [.s (li (↑k :
 Int)), .o (Ob.arr true 10 (List.map unitC (fillTo L k)))]) (fun k => k ≤ L.length ∧ L.length ≤ 9223372036854775807) (fun k => L.length - k) [.mk True (.exit 0) (fun x => [(3,
 SV.one (AC.ref 0))]) (fun x => [ho x 0]) [.o (Ob.arr true 10 (List.map unitC L))]]
theorem Sc_toUnitSLa (L : List Unit) (h : L.length + sumBy wU L ≤ 1048576) : Lp.Sem Tryz.prog (loopAt Tryz.f64 0) (lc_toUnitSLa L) := lpOK (fun k => .z unitC L (.i ((↑k : Int) <
 (↑(List.map unitC L).length : Int)) (.x (↑k : Int) (List.map unitC L) (unitF (L.getD k default)) (.d [.rd] (P_c_toUnit (L.getD k default)) (.p (0 ≤ (↑k : Int) ∧ (↑k : Int).toNat <
 (List.map unitC (fillTo L k)).length) (.w (.cells (unitF ((fillTo L k).getD (↑k : Int).toNat default))) (.p ((List.map unitC (fillTo L k))[(↑k : Int).toNat]? = some (unitF
 ((fillTo L k).getD (↑k : Int).toNat default))) (.r ((↑k : Int) + 1) (.g [0] (k + 1) [.s (li ((↑k : Int) + 1)), .o (Ob.arr true 10 ((List.map unitC (fillTo L k)).set (↑k :
 Int).toNat (unitF (L.getD k default))))]))))))) (.o 0 [0] [.o (Ob.arr true 10 (List.map unitC (fillTo L k)))]))) (by
  intro k h; try dsimp only [teasy, nthW, lc_toUnitSLa] at h ⊢
  with_reducible repeat' (first | apply And.intro | exact zR | (intro; skip) | apply c_toUnit)
  all_goals (try simp only [std, inj] at *)
  all_goals with_reducible repeat' apply And.intro
  all_goals (try (first | with_reducible apply c_toUnit | (simp only [← List.map_append]; first | with_reducible apply c_toUnit)))
  all_goals (try (first | exact z | exact zF | grind [fillTo_all, getD_mem', sumBy_mem, snocI, snocS, rowSnoc])))
theorem c_toUnitS (L : List Unit) (h : L.length + sumBy wU L ≤ 1048576)  : P_c_toUnitS L := fnOK Tryz.call64 Tryz.func64 (.z unitC L (.p (0 ≤ (↑(List.map unitC L).length : Int) ∧ 160
 * (↑(List.map unitC L).length : Int).toNat ≤ 281474976710656) (.l (lc_toUnitSLa L) (Sc_toUnitSLa L h) [0] [.s (li 0), .o (Ob.arr true 10 (List.replicate (↑(List.map unitC
 L).length : Int).toNat [cS (ByteArray.mk #[]), Cell.list [], cI 0, cI 0, Cell.list [], cI 0, cI 0, cS (ByteArray.mk #[]), Cell.list [], Cell.list []]))] 0 (.t (.f [0] [Ob.arr true
 10 (List.map unitC L)] (AV.sv (SV.one (AC.ref 0)))) .q)))) (by
  dsimp only [teasy, P_c_toUnitS, nthW, lc_toUnitSLa]
  with_reducible repeat' (first | apply And.intro | exact zR | (intro; skip) | apply c_toUnit)
  all_goals (try simp only [std, inj] at *)
  all_goals with_reducible repeat' apply And.intro
  all_goals (try (first | with_reducible apply c_toUnit | (simp only [← List.map_append]; first | with_reducible apply c_toUnit)))
  all_goals (try (first | exact z | exact zF | grind [snocI, snocS, rowSnoc])))
abbrev P_c_toWorld (x : World) : Ct := ⟨22, [], [worldA x], worldO x, .sv (worldR x 0)⟩
theorem c_toWorld (x : World) (h : wW x ≤ 1048576)  : P_c_toWorld x := fnOK Tryz.call22 Tryz.func22 (.d [.rd] (P_c_toExpander x.expander) (.d [.rd] (P_c_toUnitS x.units) (.d [.rd]
 (P_c_toExportS x.exports) (.f [3, 4, 5, 6] [Ob.arr true 4 (List.map bindingC x.expander.bindings), Ob.arr true 3 (List.map rulesC x.expander.macros), Ob.arr true 10 (List.map
 unitC x.units), Ob.arr true 4 (List.map exportC x.exports)] (AV.sv (SV.agg [AC.ref 0, AC.ref 1, vI x.expander.scope, vI x.expander.vari, vI x.expander.steps, AC.ref 2, AC.ref
 3])))))) (by
  dsimp only [teasy, P_c_toWorld]
  with_reducible repeat' (first | apply And.intro | exact zR | (intro; skip) | apply c_toExpander | apply c_toUnitS | apply c_toExportS)
  all_goals (try simp only [std, inj] at *)
  all_goals with_reducible repeat' apply And.intro
  all_goals (try (first | with_reducible apply c_toExpander | with_reducible apply c_toUnitS | with_reducible apply c_toExportS | (simp only [← List.map_append]; first | with_reducible apply c_toExpander | with_reducible apply c_toUnitS | with_reducible apply c_toExportS)))
  all_goals (try (first | exact z | exact zF | grind [wW_eq, wS, snocI, snocS, rowSnoc])))
end Go.Proofs.YtclpofblehlojaaGreat
end
section
namespace Go.Proofs.YtclpofblehlojaaGreat
open Go Go.Proofs.YtclpofblehlojaaGreat.Ab
set_option linter.unusedVariables false
set_option linter.unusedSimpArgs false
set_option maxHeartbeats 4000000
abbrev P_c_eqIntS (A : List Int) (B : List Int) : Ct := ⟨198, [], [ll (A.map intC), ll (B.map intC)], [], .sv (lb (decide (A = B)))⟩
def lc_eqIntSLa (A : List Int) (B : List Int) : Lp Nat := .mk 26 0 (fun x => [(0, ll (List.map intC A)), (1, ll (List.map intC B)), (5, hs x 0)]) (fun x => []) (fun k => [.s (li
 (↑k : Int))]) (fun k => k ≤ A.length ∧ A.length ≤ 9223372036854775807 ∧ A.length = B.length ∧ List.take k A = List.take k B) (fun k => A.length - k) [.mk (A = B) (.exit 0) (fun x
 => []) (fun x => []) [], .mk (A ≠ B) .ret (fun x => [(4, hs x 0)]) (fun x => []) [.s (lb false)]]
theorem Sc_eqIntSLa (A : List Int) (B : List Int) : Lp.Sem Tryz.prog (loopAt Tryz.f198 0) (lc_eqIntSLa A B) := lpOK (fun k => .z intC A (.i ((↑k : Int) < (↑(List.map intC A).length
 : Int)) (.w (.draw []) (.x (↑k : Int) (List.map intC A) [cI (A.getD k 0)] (.x (↑k : Int) (List.map intC B) [cI (B.getD k 0)] (.i (A.getD k (0 : Int) ≠ B.getD k 0) (.o 1 [] [.s (lb
 false)]) (.r ((↑k : Int) + 1) (.g [] (k + 1) [.s (li ((↑k : Int) + 1))])))))) (.o 0 [] []))) (by
  intro k h; try dsimp only [teasy, nthW, lc_eqIntSLa] at h ⊢
  with_reducible repeat' (first | apply And.intro | exact zR | (intro; skip))
  all_goals (try simp only [std, inj] at *)
  all_goals with_reducible repeat' apply And.intro
  all_goals (try (first | exact z | grind [take_eq, snocI, snocS, rowSnoc])))
theorem c_eqIntS (A B : List Int)  : P_c_eqIntS A B := fnOK Tryz.call198 Tryz.func198 (.z intC A (.z intC B (.i ((↑(List.map intC A).length : Int) ≠ (↑(List.map intC B).length :
 Int)) (.s (lb false)) (.l (lc_eqIntSLa A B) (Sc_eqIntSLa A B) [] [.s (li 0)] 0 (.t (.s (lb true)) (.t (.s (lb false)) .q)))))) (by
  dsimp only [teasy, P_c_eqIntS, nthW, lc_eqIntSLa]
  with_reducible repeat' (first | apply And.intro | exact zR | (intro; skip))
  all_goals (try simp only [std, inj] at *)
  all_goals with_reducible repeat' apply And.intro
  all_goals (try (first | exact z | grind [snocI, snocS, rowSnoc])))
abbrev P_c_eqDatumS (A : List Datum) (B : List Datum) : Ct := ⟨249, [], [ll (A.map datumC), ll (B.map datumC)], [], .sv (lb (decide (A = B)))⟩
abbrev P_c_eqDatum (x : Datum) (y : Datum) : Ct := ⟨233, [], [datumA x, datumA y], [], .sv (lb (decide (x = y)))⟩
def lc_eqDatumSLa (A : List Datum) (B : List Datum) : Lp Nat := .mk 27 0 (fun x => [(0, ll (List.map datumC A)), (1, ll (List.map datumC B)), (5, hs x 0)]) (fun x => []) (fun k =>
 [.s (li (↑k : Int))]) (fun k => k ≤ A.length ∧ A.length ≤ 9223372036854775807 ∧ A.length = B.length ∧ List.take k A = List.take k B) (fun k => A.length - k) [.mk (A = B) (.exit 0)
 (fun x => []) (fun x => []) [], .mk (A ≠ B) .ret (fun x => [(4, hs x 0)]) (fun x => []) [.s (lb false)]]
theorem Sc_eqDatumSLa (A : List Datum) (B : List Datum) (ih : ∀ (x : Datum), x ∈ A → ∀ (y : Datum), OK (P_c_eqDatum x y)) : Lp.Sem Tryz.prog (loopAt Tryz.f249 0) (lc_eqDatumSLa A
 B) := lpOK (fun k => .z datumC A (.i ((↑k : Int) < (↑(List.map datumC A).length : Int)) (.w (.draw []) (.x (↑k : Int) (List.map datumC A) (datumF (A.getD k default)) (.x (↑k :
 Int) (List.map datumC B) (datumF (B.getD k default)) (.d [.rd, .rd] (P_c_eqDatum (A.getD k default) (B.getD k default)) (.b (!decide (A.getD k default = B.getD k default)) (.o 1
 [] [.s (lb false)]) (.r ((↑k : Int) + 1) (.g [] (k + 1) [.s (li ((↑k : Int) + 1))]))))))) (.o 0 [] []))) (by
  intro k h; try dsimp only [teasy, nthW, lc_eqDatumSLa] at h ⊢
  with_reducible repeat' (first | apply And.intro | exact zR | exact ih | (intro; skip) | apply ih)
  all_goals (try simp only [std, inj] at *)
  all_goals with_reducible repeat' apply And.intro
  all_goals (try (first | with_reducible apply ih | (simp only [← List.map_append]; first | with_reducible apply ih)))
  all_goals (try (first | exact z | grind [take_eq, getD_mem', snocI, snocS, rowSnoc])))
theorem c_eqDatumS (A B : List Datum) (ih : ∀ x ∈ A, ∀ (y : Datum), P_c_eqDatum x y)  : P_c_eqDatumS A B := fnOK Tryz.call249 Tryz.func249 (.z datumC A (.z datumC B (.i ((↑(List.map
 datumC A).length : Int) ≠ (↑(List.map datumC B).length : Int)) (.s (lb false)) (.l (lc_eqDatumSLa A B) (Sc_eqDatumSLa A B ih) [] [.s (li 0)] 0 (.t (.s (lb true)) (.t (.s (lb
 false)) .q)))))) (by
  dsimp only [teasy, P_c_eqDatumS, nthW, lc_eqDatumSLa]
  with_reducible repeat' (first | apply And.intro | exact zR | exact ih | (intro; skip))
  all_goals (try simp only [std, inj] at *)
  all_goals with_reducible repeat' apply And.intro
  all_goals (try (first | with_reducible apply ih | (simp only [← List.map_append]; first | with_reducible apply ih)))
  all_goals (try (first | exact z | grind [snocI, snocS, rowSnoc])))
theorem c_eqDatum_s (x y : Datum) (ih : ∀ z ∈ x.items, ∀ (y : Datum), P_c_eqDatum z y)  : P_c_eqDatum x y := fnOK Tryz.call233 Tryz.func233 (.i (x.kind ≠ y.kind) (.s (lb false)) (.i
 (x.number ≠ y.number) (.s (lb false)) (.i (x.text.data.toList ≠ y.text.data.toList) (.s (lb false)) (.d [.rd, .rd] (P_c_eqDatumS x.items y.items) (.b (!decide (x.items = y.items))
 (.s (lb false)) (.s (lb true))))))) (by
  dsimp only [teasy, P_c_eqDatum]
  simp only [datumExt]
  with_reducible repeat' (first | apply And.intro | exact zR | exact ih | (intro; skip) | apply c_eqDatumS | apply ih)
  all_goals (try simp only [std, inj] at *)
  all_goals with_reducible repeat' apply And.intro
  all_goals (try (first | with_reducible apply c_eqDatumS | with_reducible apply ih | (simp only [← List.map_append]; first | with_reducible apply c_eqDatumS | with_reducible apply ih)))
  all_goals (try (first | exact z | grind [bytes_ext, snocI, snocS, rowSnoc])))
theorem c_eqDatum (x : Datum) : ∀ (y : Datum), P_c_eqDatum x y := Datum.ind (P := fun x => ∀ (y : Datum), P_c_eqDatum x y) (fun x ih y => c_eqDatum_s x y ih) x
abbrev P_c_eqCoreS (A : List Core) (B : List Core) : Ct := ⟨234, [], [ll (A.map coreC), ll (B.map coreC)], [], .sv (lb (decide (A = B)))⟩
abbrev P_c_eqCore (x : Core) (y : Core) : Ct := ⟨199, [], [coreA x, coreA y], [], .sv (lb (decide (x = y)))⟩
def lc_eqCoreSLa (A : List Core) (B : List Core) : Lp Nat := .mk 27 0 (fun x => [(0, ll (List.map coreC A)), (1, ll (List.map coreC B)), (5, hs x 0)]) (fun x => []) (fun k => [.s
 (li (↑k : Int))]) (fun k => k ≤ A.length ∧ A.length ≤ 9223372036854775807 ∧ A.length = B.length ∧ List.take k A = List.take k B) (fun k => A.length - k) [.mk (A = B) (.exit 0)
 (fun x => []) (fun x => []) [], .mk (A ≠ B) .ret (fun x => [(4, hs x 0)]) (fun x => []) [.s (lb false)]]
theorem Sc_eqCoreSLa (A : List Core) (B : List Core) (ih : ∀ (x : Core), x ∈ A → ∀ (y : Core), OK (P_c_eqCore x y)) : Lp.Sem Tryz.prog (loopAt Tryz.f234 0) (lc_eqCoreSLa A B) :=
 lpOK (fun k => .z coreC A (.i ((↑k : Int) < (↑(List.map coreC A).length : Int)) (.w (.draw []) (.x (↑k : Int) (List.map coreC A) (coreF (A.getD k default)) (.x (↑k : Int)
 (List.map coreC B) (coreF (B.getD k default)) (.d [.rd, .rd] (P_c_eqCore (A.getD k default) (B.getD k default)) (.b (!decide (A.getD k default = B.getD k default)) (.o 1 [] [.s
 (lb false)]) (.r ((↑k : Int) + 1) (.g [] (k + 1) [.s (li ((↑k : Int) + 1))]))))))) (.o 0 [] []))) (by
  intro k h; try dsimp only [teasy, nthW, lc_eqCoreSLa] at h ⊢
  with_reducible repeat' (first | apply And.intro | exact zR | exact ih | (intro; skip) | apply ih)
  all_goals (try simp only [std, inj] at *)
  all_goals with_reducible repeat' apply And.intro
  all_goals (try (first | with_reducible apply ih | (simp only [← List.map_append]; first | with_reducible apply ih)))
  all_goals (try (first | exact z | grind [take_eq, getD_mem', snocI, snocS, rowSnoc])))
theorem c_eqCoreS (A B : List Core) (ih : ∀ x ∈ A, ∀ (y : Core), P_c_eqCore x y)  : P_c_eqCoreS A B := fnOK Tryz.call234 Tryz.func234 (.z coreC A (.z coreC B (.i ((↑(List.map coreC
 A).length : Int) ≠ (↑(List.map coreC B).length : Int)) (.s (lb false)) (.l (lc_eqCoreSLa A B) (Sc_eqCoreSLa A B ih) [] [.s (li 0)] 0 (.t (.s (lb true)) (.t (.s (lb false))
 .q)))))) (by
  dsimp only [teasy, P_c_eqCoreS, nthW, lc_eqCoreSLa]
  with_reducible repeat' (first | apply And.intro | exact zR | exact ih | (intro; skip))
  all_goals (try simp only [std, inj] at *)
  all_goals with_reducible repeat' apply And.intro
  all_goals (try (first | with_reducible apply ih | (simp only [← List.map_append]; first | with_reducible apply ih)))
  all_goals (try (first | exact z | grind [snocI, snocS, rowSnoc])))
theorem c_eqCore_s (x y : Core) (ih : ∀ z ∈ x.kids, ∀ (y : Core), P_c_eqCore z y)  : P_c_eqCore x y := fnOK Tryz.call199 Tryz.func199 (.i (x.kind ≠ y.kind) (.s (lb false)) (.i
 (x.number ≠ y.number) (.s (lb false)) (.c [.rd, .rd] (c_eqIntS x.params y.params) (.b (!decide (x.params = y.params)) (.s (lb false)) (.c [.rd, .rd] (c_eqDatum x.datum y.datum)
 (.b (!decide (x.datum = y.datum)) (.s (lb false)) (.d [.rd, .rd] (P_c_eqCoreS x.kids y.kids) (.b (!decide (x.kids = y.kids)) (.s (lb false)) (.s (lb true)))))))))) (by
  dsimp only [teasy, P_c_eqCore]
  simp only [coreExt]
  with_reducible repeat' (first | apply And.intro | exact zR | exact ih | (intro; skip) | apply c_eqIntS | apply c_eqDatum | apply c_eqCoreS | apply ih)
  all_goals (try simp only [std, inj] at *)
  all_goals with_reducible repeat' apply And.intro
  all_goals (try (first | with_reducible apply c_eqIntS | with_reducible apply c_eqDatum | with_reducible apply c_eqCoreS | with_reducible apply ih | (simp only [← List.map_append]; first | with_reducible apply c_eqIntS | with_reducible apply c_eqDatum | with_reducible apply c_eqCoreS | with_reducible apply ih)))
  all_goals (try (first | exact z | grind [bytes_ext, snocI, snocS, rowSnoc])))
theorem c_eqCore (x : Core) : ∀ (y : Core), P_c_eqCore x y := Core.ind (P := fun x => ∀ (y : Core), P_c_eqCore x y) (fun x ih y => c_eqCore_s x y ih) x
abbrev P_c_eqSyntaxS (A : List Syntax) (B : List Syntax) : Ct := ⟨232, [], [ll (A.map syntaxC), ll (B.map syntaxC)], [], .sv (lb (decide (A = B)))⟩
abbrev P_c_eqSyntax (x : Syntax) (y : Syntax) : Ct := ⟨248, [], [syntaxA x, syntaxA y], [], .sv (lb (decide (x = y)))⟩
def lc_eqSyntaxSLa (A : List Syntax) (B : List Syntax) : Lp Nat := .mk 27 0 (fun x => [(0, ll (List.map syntaxC A)), (1, ll (List.map syntaxC B)), (5, hs x 0)]) (fun x => []) (fun
 k => [.s (li (↑k : Int))]) (fun k => k ≤ A.length ∧ A.length ≤ 9223372036854775807 ∧ A.length = B.length ∧ List.take k A = List.take k B) (fun k => A.length - k) [.mk (A = B)
 (.exit 0) (fun x => []) (fun x => []) [], .mk (A ≠ B) .ret (fun x => [(4, hs x 0)]) (fun x => []) [.s (lb false)]]
theorem Sc_eqSyntaxSLa (A : List Syntax) (B : List Syntax) (ih : ∀ (x : Syntax), x ∈ A → ∀ (y : Syntax), OK (P_c_eqSyntax x y)) : Lp.Sem Tryz.prog (loopAt Tryz.f232 0)
 (lc_eqSyntaxSLa A B) := lpOK (fun k => .z syntaxC A (.i ((↑k : Int) < (↑(List.map syntaxC A).length : Int)) (.w (.draw []) (.x (↑k : Int) (List.map syntaxC A) (syntaxF (A.getD k
 default)) (.x (↑k : Int) (List.map syntaxC B) (syntaxF (B.getD k default)) (.d [.rd, .rd] (P_c_eqSyntax (A.getD k default) (B.getD k default)) (.b (!decide (A.getD k default =
 B.getD k default)) (.o 1 [] [.s (lb false)]) (.r ((↑k : Int) + 1) (.g [] (k + 1) [.s (li ((↑k : Int) + 1))]))))))) (.o 0 [] []))) (by
  intro k h; try dsimp only [teasy, nthW, lc_eqSyntaxSLa] at h ⊢
  with_reducible repeat' (first | apply And.intro | exact zR | exact ih | (intro; skip) | apply ih)
  all_goals (try simp only [std, inj] at *)
  all_goals with_reducible repeat' apply And.intro
  all_goals (try (first | with_reducible apply ih | (simp only [← List.map_append]; first | with_reducible apply ih)))
  all_goals (try (first | exact z | grind [take_eq, getD_mem', snocI, snocS, rowSnoc])))
theorem c_eqSyntaxS (A B : List Syntax) (ih : ∀ x ∈ A, ∀ (y : Syntax), P_c_eqSyntax x y)  : P_c_eqSyntaxS A B := fnOK Tryz.call232 Tryz.func232 (.z syntaxC A (.z syntaxC B (.i
 ((↑(List.map syntaxC A).length : Int) ≠ (↑(List.map syntaxC B).length : Int)) (.s (lb false)) (.l (lc_eqSyntaxSLa A B) (Sc_eqSyntaxSLa A B ih) [] [.s (li 0)] 0 (.t (.s (lb true))
 (.t (.s (lb false)) .q)))))) (by
  dsimp only [teasy, P_c_eqSyntaxS, nthW, lc_eqSyntaxSLa]
  with_reducible repeat' (first | apply And.intro | exact zR | exact ih | (intro; skip))
  all_goals (try simp only [std, inj] at *)
  all_goals with_reducible repeat' apply And.intro
  all_goals (try (first | with_reducible apply ih | (simp only [← List.map_append]; first | with_reducible apply ih)))
  all_goals (try (first | exact z | grind [snocI, snocS, rowSnoc])))
theorem c_eqSyntax_s (x y : Syntax) (ih : ∀ z ∈ x.items, ∀ (y : Syntax), P_c_eqSyntax z y)  : P_c_eqSyntax x y := fnOK Tryz.call248 Tryz.func248 (.i (x.kind ≠ y.kind) (.s (lb false))
 (.i (x.number ≠ y.number) (.s (lb false)) (.i (x.text.data.toList ≠ y.text.data.toList) (.s (lb false)) (.c [.rd, .rd] (c_eqIntS x.scopes y.scopes) (.b (!decide (x.scopes =
 y.scopes)) (.s (lb false)) (.d [.rd, .rd] (P_c_eqSyntaxS x.items y.items) (.b (!decide (x.items = y.items)) (.s (lb false)) (.s (lb true))))))))) (by
  dsimp only [teasy, P_c_eqSyntax]
  simp only [syntaxExt]
  with_reducible repeat' (first | apply And.intro | exact zR | exact ih | (intro; skip) | apply c_eqIntS | apply c_eqSyntaxS | apply ih)
  all_goals (try simp only [std, inj] at *)
  all_goals with_reducible repeat' apply And.intro
  all_goals (try (first | with_reducible apply c_eqIntS | with_reducible apply c_eqSyntaxS | with_reducible apply ih | (simp only [← List.map_append]; first | with_reducible apply c_eqIntS | with_reducible apply c_eqSyntaxS | with_reducible apply ih)))
  all_goals (try (first | exact z | grind [bytes_ext, snocI, snocS, rowSnoc])))
theorem c_eqSyntax (x : Syntax) : ∀ (y : Syntax), P_c_eqSyntax x y := Syntax.ind (P := fun x => ∀ (y : Syntax), P_c_eqSyntax x y) (fun x ih y => c_eqSyntax_s x y ih) x
abbrev P_c_eqBinding (x : Binding) (y : Binding) : Ct := ⟨196, [], [bindingA x, bindingA y], [], .sv (lb (decide (x = y)))⟩
theorem c_eqBinding (x y : Binding)  : P_c_eqBinding x y := fnOK Tryz.call196 Tryz.func196 (.i (x.text.data.toList ≠ y.text.data.toList) (.s (lb false)) (.c [.rd, .rd] (c_eqIntS
 x.scopes y.scopes) (.b (!decide (x.scopes = y.scopes)) (.s (lb false)) (.i (x.kind ≠ y.kind) (.s (lb false)) (.i (x.number ≠ y.number) (.s (lb false)) (.s (lb true))))))) (by
  dsimp only [teasy, P_c_eqBinding]
  simp only [bindingExt]
  with_reducible repeat' (first | apply And.intro | exact zR | (intro; skip))
  all_goals (try simp only [std, inj] at *)
  all_goals with_reducible repeat' apply And.intro
  all_goals (try (first | exact z | grind [bytes_ext, snocI, snocS, rowSnoc])))
abbrev P_c_eqBindingS (A : List Binding) (B : List Binding) : Ct := ⟨149, [], [ll (A.map bindingC), ll (B.map bindingC)], [], .sv (lb (decide (A = B)))⟩
def lc_eqBindingSLa (A : List Binding) (B : List Binding) : Lp Nat := .mk 27 0 (fun x => [(0, ll (List.map bindingC A)), (1, ll (List.map bindingC B)), (5, hs x 0)]) (fun x => [])
 (fun k => [.s (li (↑k : Int))]) (fun k => k ≤ A.length ∧ A.length ≤ 9223372036854775807 ∧ A.length = B.length ∧ List.take k A = List.take k B) (fun k => A.length - k) [.mk (A = B)
 (.exit 0) (fun x => []) (fun x => []) [], .mk (A ≠ B) .ret (fun x => [(4, hs x 0)]) (fun x => []) [.s (lb false)]]
theorem Sc_eqBindingSLa (A : List Binding) (B : List Binding) : Lp.Sem Tryz.prog (loopAt Tryz.f149 0) (lc_eqBindingSLa A B) := lpOK (fun k => .z bindingC A (.i ((↑k : Int) <
 (↑(List.map bindingC A).length : Int)) (.w (.draw []) (.x (↑k : Int) (List.map bindingC A) (bindingF (A.getD k default)) (.x (↑k : Int) (List.map bindingC B) (bindingF (B.getD k
 default)) (.c [.rd, .rd] (c_eqBinding (A.getD k default) (B.getD k default)) (.b (!decide (A.getD k default = B.getD k default)) (.o 1 [] [.s (lb false)]) (.r ((↑k : Int) + 1) (.g
 [] (k + 1) [.s (li ((↑k : Int) + 1))]))))))) (.o 0 [] []))) (by
  intro k h; try dsimp only [teasy, nthW, lc_eqBindingSLa] at h ⊢
  with_reducible repeat' (first | apply And.intro | exact zR | (intro; skip))
  all_goals (try simp only [std, inj] at *)
  all_goals with_reducible repeat' apply And.intro
  all_goals (try (first | exact z | grind [take_eq, getD_mem', snocI, snocS, rowSnoc])))
theorem c_eqBindingS (A B : List Binding)  : P_c_eqBindingS A B := fnOK Tryz.call149 Tryz.func149 (.z bindingC A (.z bindingC B (.i ((↑(List.map bindingC A).length : Int) ≠
 (↑(List.map bindingC B).length : Int)) (.s (lb false)) (.l (lc_eqBindingSLa A B) (Sc_eqBindingSLa A B) [] [.s (li 0)] 0 (.t (.s (lb true)) (.t (.s (lb false)) .q)))))) (by
  dsimp only [teasy, P_c_eqBindingS, nthW, lc_eqBindingSLa]
  with_reducible repeat' (first | apply And.intro | exact zR | (intro; skip))
  all_goals (try simp only [std, inj] at *)
  all_goals with_reducible repeat' apply And.intro
  all_goals (try (first | exact z | grind [snocI, snocS, rowSnoc])))
abbrev P_c_eqRules (x : Rules) (y : Rules) : Ct := ⟨197, [], [rulesA x, rulesA y], [], .sv (lb (decide (x = y)))⟩
theorem c_eqRules (x y : Rules)  : P_c_eqRules x y := fnOK Tryz.call197 Tryz.func197 (.d [.rd, .rd] (P_c_eqSyntaxS x.literals y.literals) (.b (!decide (x.literals = y.literals)) (.s
 (lb false)) (.d [.rd, .rd] (P_c_eqSyntaxS x.patterns y.patterns) (.b (!decide (x.patterns = y.patterns)) (.s (lb false)) (.d [.rd, .rd] (P_c_eqSyntaxS x.templates y.templates) (.b
 (!decide (x.templates = y.templates)) (.s (lb false)) (.s (lb true)))))))) (by
  dsimp only [teasy, P_c_eqRules]
  simp only [rulesExt]
  with_reducible repeat' (first | apply And.intro | exact zR | (intro; skip) | apply c_eqSyntaxS | apply c_eqSyntax)
  all_goals (try simp only [std, inj] at *)
  all_goals with_reducible repeat' apply And.intro
  all_goals (try (first | with_reducible apply c_eqSyntaxS | with_reducible apply c_eqSyntax | (simp only [← List.map_append]; first | with_reducible apply c_eqSyntaxS | with_reducible apply c_eqSyntax)))
  all_goals (try (first | exact z | grind [bytes_ext, snocI, snocS, rowSnoc])))
abbrev P_c_eqRulesS (A : List Rules) (B : List Rules) : Ct := ⟨150, [], [ll (A.map rulesC), ll (B.map rulesC)], [], .sv (lb (decide (A = B)))⟩
def lc_eqRulesSLa (A : List Rules) (B : List Rules) : Lp Nat := .mk 27 0 (fun x => [(0, ll (List.map rulesC A)), (1, ll (List.map rulesC B)), (5, hs x 0)]) (fun x => []) (fun k =>
 [.s (li (↑k : Int))]) (fun k => k ≤ A.length ∧ A.length ≤ 9223372036854775807 ∧ A.length = B.length ∧ List.take k A = List.take k B) (fun k => A.length - k) [.mk (A = B) (.exit 0)
 (fun x => []) (fun x => []) [], .mk (A ≠ B) .ret (fun x => [(4, hs x 0)]) (fun x => []) [.s (lb false)]]
theorem Sc_eqRulesSLa (A : List Rules) (B : List Rules) : Lp.Sem Tryz.prog (loopAt Tryz.f150 0) (lc_eqRulesSLa A B) := lpOK (fun k => .z rulesC A (.i ((↑k : Int) < (↑(List.map
 rulesC A).length : Int)) (.w (.draw []) (.x (↑k : Int) (List.map rulesC A) (rulesF (A.getD k default)) (.x (↑k : Int) (List.map rulesC B) (rulesF (B.getD k default)) (.c [.rd,
 .rd] (c_eqRules (A.getD k default) (B.getD k default)) (.b (!decide (A.getD k default = B.getD k default)) (.o 1 [] [.s (lb false)]) (.r ((↑k : Int) + 1) (.g [] (k + 1) [.s (li
 ((↑k : Int) + 1))]))))))) (.o 0 [] []))) (by
  intro k h; try dsimp only [teasy, nthW, lc_eqRulesSLa] at h ⊢
  with_reducible repeat' (first | apply And.intro | exact zR | (intro; skip))
  all_goals (try simp only [std, inj] at *)
  all_goals with_reducible repeat' apply And.intro
  all_goals (try (first | exact z | grind [take_eq, getD_mem', snocI, snocS, rowSnoc])))
theorem c_eqRulesS (A B : List Rules)  : P_c_eqRulesS A B := fnOK Tryz.call150 Tryz.func150 (.z rulesC A (.z rulesC B (.i ((↑(List.map rulesC A).length : Int) ≠ (↑(List.map rulesC
 B).length : Int)) (.s (lb false)) (.l (lc_eqRulesSLa A B) (Sc_eqRulesSLa A B) [] [.s (li 0)] 0 (.t (.s (lb true)) (.t (.s (lb false)) .q)))))) (by
  dsimp only [teasy, P_c_eqRulesS, nthW, lc_eqRulesSLa]
  with_reducible repeat' (first | apply And.intro | exact zR | (intro; skip))
  all_goals (try simp only [std, inj] at *)
  all_goals with_reducible repeat' apply And.intro
  all_goals (try (first | exact z | grind [snocI, snocS, rowSnoc])))
abbrev P_c_eqExpander (x : Expander) (y : Expander) : Ct := ⟨71, [], [expanderA x, expanderA y], [], .sv (lb (decide (x = y)))⟩
theorem c_eqExpander (x y : Expander)  : P_c_eqExpander x y := fnOK Tryz.call71 Tryz.func71 (.c [.rd, .rd] (c_eqBindingS x.bindings y.bindings) (.b (!decide (x.bindings =
 y.bindings)) (.s (lb false)) (.c [.rd, .rd] (c_eqRulesS x.macros y.macros) (.b (!decide (x.macros = y.macros)) (.s (lb false)) (.i (x.scope ≠ y.scope) (.s (lb false)) (.i (x.vari
 ≠ y.vari) (.s (lb false)) (.i (x.steps ≠ y.steps) (.s (lb false)) (.s (lb true))))))))) (by
  dsimp only [teasy, P_c_eqExpander]
  simp only [expanderExt]
  with_reducible repeat' (first | apply And.intro | exact zR | (intro; skip))
  all_goals (try simp only [std, inj] at *)
  all_goals with_reducible repeat' apply And.intro
  all_goals (try (first | exact z | grind [bytes_ext, snocI, snocS, rowSnoc])))
abbrev P_c_eqExport (x : Export) (y : Export) : Ct := ⟨152, [], [exportA x, exportA y], [], .sv (lb (decide (x = y)))⟩
theorem c_eqExport (x y : Export)  : P_c_eqExport x y := fnOK Tryz.call152 Tryz.func152 (.i (x.modul.data.toList ≠ y.modul.data.toList) (.s (lb false)) (.i (x.text.data.toList ≠
 y.text.data.toList) (.s (lb false)) (.i (x.kind ≠ y.kind) (.s (lb false)) (.i (x.number ≠ y.number) (.s (lb false)) (.s (lb true)))))) (by
  dsimp only [teasy, P_c_eqExport]
  simp only [exportExt]
  with_reducible repeat' (first | apply And.intro | exact zR | (intro; skip))
  all_goals (try simp only [std, inj] at *)
  all_goals with_reducible repeat' apply And.intro
  all_goals (try (first | exact z | grind [bytes_ext, snocI, snocS, rowSnoc])))
abbrev P_c_eqExportS (A : List Export) (B : List Export) : Ct := ⟨73, [], [ll (A.map exportC), ll (B.map exportC)], [], .sv (lb (decide (A = B)))⟩
def lc_eqExportSLa (A : List Export) (B : List Export) : Lp Nat := .mk 27 0 (fun x => [(0, ll (List.map exportC A)), (1, ll (List.map exportC B)), (5, hs x 0)]) (fun x => []) (fun
 k => [.s (li (↑k : Int))]) (fun k => k ≤ A.length ∧ A.length ≤ 9223372036854775807 ∧ A.length = B.length ∧ List.take k A = List.take k B) (fun k => A.length - k) [.mk (A = B)
 (.exit 0) (fun x => []) (fun x => []) [], .mk (A ≠ B) .ret (fun x => [(4, hs x 0)]) (fun x => []) [.s (lb false)]]
theorem Sc_eqExportSLa (A : List Export) (B : List Export) : Lp.Sem Tryz.prog (loopAt Tryz.f73 0) (lc_eqExportSLa A B) := lpOK (fun k => .z exportC A (.i ((↑k : Int) < (↑(List.map
 exportC A).length : Int)) (.w (.draw []) (.x (↑k : Int) (List.map exportC A) (exportF (A.getD k default)) (.x (↑k : Int) (List.map exportC B) (exportF (B.getD k default)) (.c
 [.rd, .rd] (c_eqExport (A.getD k default) (B.getD k default)) (.b (!decide (A.getD k default = B.getD k default)) (.o 1 [] [.s (lb false)]) (.r ((↑k : Int) + 1) (.g [] (k + 1) [.s
 (li ((↑k : Int) + 1))]))))))) (.o 0 [] []))) (by
  intro k h; try dsimp only [teasy, nthW, lc_eqExportSLa] at h ⊢
  with_reducible repeat' (first | apply And.intro | exact zR | (intro; skip))
  all_goals (try simp only [std, inj] at *)
  all_goals with_reducible repeat' apply And.intro
  all_goals (try (first | exact z | grind [take_eq, getD_mem', snocI, snocS, rowSnoc])))
theorem c_eqExportS (A B : List Export)  : P_c_eqExportS A B := fnOK Tryz.call73 Tryz.func73 (.z exportC A (.z exportC B (.i ((↑(List.map exportC A).length : Int) ≠ (↑(List.map
 exportC B).length : Int)) (.s (lb false)) (.l (lc_eqExportSLa A B) (Sc_eqExportSLa A B) [] [.s (li 0)] 0 (.t (.s (lb true)) (.t (.s (lb false)) .q)))))) (by
  dsimp only [teasy, P_c_eqExportS, nthW, lc_eqExportSLa]
  with_reducible repeat' (first | apply And.intro | exact zR | (intro; skip))
  all_goals (try simp only [std, inj] at *)
  all_goals with_reducible repeat' apply And.intro
  all_goals (try (first | exact z | grind [snocI, snocS, rowSnoc])))
abbrev P_c_eqUnit (x : Unit) (y : Unit) : Ct := ⟨151, [], [unitA x, unitA y], [], .sv (lb (decide (x = y)))⟩
theorem c_eqUnit (x y : Unit)  : P_c_eqUnit x y := fnOK Tryz.call151 Tryz.func151 (.i (x.name.data.toList ≠ y.name.data.toList) (.s (lb false)) (.c [.rd, .rd] (c_eqIntS x.globals
 y.globals) (.b (!decide (x.globals = y.globals)) (.s (lb false)) (.c [.rd, .rd] (c_eqCore x.body y.body) (.b (!decide (x.body = y.body)) (.s (lb false)) (.s (lb true))))))) (by
  dsimp only [teasy, P_c_eqUnit]
  simp only [unitExt]
  with_reducible repeat' (first | apply And.intro | exact zR | (intro; skip))
  all_goals (try simp only [std, inj] at *)
  all_goals with_reducible repeat' apply And.intro
  all_goals (try (first | exact z | grind [bytes_ext, snocI, snocS, rowSnoc])))
abbrev P_c_eqUnitS (A : List Unit) (B : List Unit) : Ct := ⟨72, [], [ll (A.map unitC), ll (B.map unitC)], [], .sv (lb (decide (A = B)))⟩
def lc_eqUnitSLa (A : List Unit) (B : List Unit) : Lp Nat := .mk 27 0 (fun x => [(0, ll (List.map unitC A)), (1, ll (List.map unitC B)), (5, hs x 0)]) (fun x => []) (fun k => [.s
 (li (↑k : Int))]) (fun k => k ≤ A.length ∧ A.length ≤ 9223372036854775807 ∧ A.length = B.length ∧ List.take k A = List.take k B) (fun k => A.length - k) [.mk (A = B) (.exit 0)
 (fun x => []) (fun x => []) [], .mk (A ≠ B) .ret (fun x => [(4, hs x 0)]) (fun x => []) [.s (lb false)]]
theorem Sc_eqUnitSLa (A : List Unit) (B : List Unit) : Lp.Sem Tryz.prog (loopAt Tryz.f72 0) (lc_eqUnitSLa A B) := lpOK (fun k => .z unitC A (.i ((↑k : Int) < (↑(List.map unitC
 A).length : Int)) (.w (.draw []) (.x (↑k : Int) (List.map unitC A) (unitF (A.getD k default)) (.x (↑k : Int) (List.map unitC B) (unitF (B.getD k default)) (.c [.rd, .rd] (c_eqUnit
 (A.getD k default) (B.getD k default)) (.b (!decide (A.getD k default = B.getD k default)) (.o 1 [] [.s (lb false)]) (.r ((↑k : Int) + 1) (.g [] (k + 1) [.s (li ((↑k : Int) +
 1))]))))))) (.o 0 [] []))) (by
  intro k h; try dsimp only [teasy, nthW, lc_eqUnitSLa] at h ⊢
  with_reducible repeat' (first | apply And.intro | exact zR | (intro; skip))
  all_goals (try simp only [std, inj] at *)
  all_goals with_reducible repeat' apply And.intro
  all_goals (try (first | exact z | grind [take_eq, getD_mem', snocI, snocS, rowSnoc])))
theorem c_eqUnitS (A B : List Unit)  : P_c_eqUnitS A B := fnOK Tryz.call72 Tryz.func72 (.z unitC A (.z unitC B (.i ((↑(List.map unitC A).length : Int) ≠ (↑(List.map unitC B).length :
 Int)) (.s (lb false)) (.l (lc_eqUnitSLa A B) (Sc_eqUnitSLa A B) [] [.s (li 0)] 0 (.t (.s (lb true)) (.t (.s (lb false)) .q)))))) (by
  dsimp only [teasy, P_c_eqUnitS, nthW, lc_eqUnitSLa]
  with_reducible repeat' (first | apply And.intro | exact zR | (intro; skip))
  all_goals (try simp only [std, inj] at *)
  all_goals with_reducible repeat' apply And.intro
  all_goals (try (first | exact z | grind [snocI, snocS, rowSnoc])))
abbrev P_c_eqWorld (x : World) (y : World) : Ct := ⟨24, [], [worldA x, worldA y], [], .sv (lb (decide (x = y)))⟩
theorem c_eqWorld (x y : World)  : P_c_eqWorld x y := fnOK Tryz.call24 Tryz.func24 (.c [.rd, .rd] (c_eqExpander x.expander y.expander) (.b (!decide (x.expander = y.expander)) (.s (lb
 false)) (.c [.rd, .rd] (c_eqUnitS x.units y.units) (.b (!decide (x.units = y.units)) (.s (lb false)) (.c [.rd, .rd] (c_eqExportS x.exports y.exports) (.b (!decide (x.exports =
 y.exports)) (.s (lb false)) (.s (lb true)))))))) (by
  dsimp only [teasy, P_c_eqWorld]
  simp only [worldExt]
  with_reducible repeat' (first | apply And.intro | exact zR | (intro; skip))
  all_goals (try simp only [std, inj] at *)
  all_goals with_reducible repeat' apply And.intro
  all_goals (try (first | exact z | grind [bytes_ext, snocI, snocS, rowSnoc])))
end Go.Proofs.YtclpofblehlojaaGreat
end
section
namespace Go.Proofs.YtclpofblehlojaaGreat
open Go Go.Proofs.YtclpofblehlojaaGreat.Ab
set_option linter.unusedVariables false
set_option linter.unusedSimpArgs false
set_option maxHeartbeats 4000000
abbrev P_c_LWor (w : World) : Ct := ⟨5, [], [worldA w], [], .sv (lb true)⟩
theorem c_LWor (w : World)  : P_c_LWor w := fnOK Tryz.call5 Tryz.func5 (.d [.rd, .rd] (P_c_szWorld w 1048576) (.i (sz (wW w) (1048576 : Int) < 0) (.s (lb true)) (.d [.rd]
 (P_c_toWorld w) (.d [.rd] (P_c_sIsWld w) (.d [.rd] (P_c_toWorld w) (.d [.rd] (P_c_iIsWld w) (.i (isWld w ≠ isWld w) (.s (lb false)) (.w (.draw []) (.d [.rd] (P_c_toWorld w) (.c
 [.rd, .rd] (c_eqWorld w w) (.b (!decide (w = w)) (.s (lb false)) (.s (lb true))))))))))))) (by
  dsimp only [teasy, P_c_LWor]
  with_reducible repeat' (first | apply And.intro | exact zR | (intro; skip) | apply c_szWorld | apply c_toWorld | apply c_sIsWld | apply c_iIsWld)
  all_goals (try simp only [std, inj] at *)
  all_goals with_reducible repeat' apply And.intro
  all_goals (try (first | with_reducible apply c_szWorld | with_reducible apply c_toWorld | with_reducible apply c_sIsWld | with_reducible apply c_iIsWld | (simp only [← List.map_append]; first | with_reducible apply c_szWorld | with_reducible apply c_toWorld | with_reducible apply c_sIsWld | with_reducible apply c_iIsWld)))
  all_goals (try (first | exact z | grind [sz, snocI, snocS, rowSnoc])))
end Go.Proofs.YtclpofblehlojaaGreat
end
section
namespace Go.Proofs.YtclpofblehlojaaGreat.fnExactIsWorld
open Go Go.ChangeShapes Go.WideShapes Go.ChangeAt Go.RowKit Go.Proofs.YtclpofblehlojaaGreat.Ab
set_option linter.unusedVariables false
theorem own : ownKnob Tryz.prog.godebug = none := by kernel_rfl
theorem laid : laidOutB Tryz.prog = true := by kernel_rfl
theorem rowed : mapsRowed Tryz.prog = true := by kernel_rfl
theorem sized : ((List.range Tryz.prog.types.size).all fun t => match Tryz.prog.underlying t with | some (.slice e) => decide (0 < Tryz.prog.cellsOf e) | _ => true) = true := by kernel_rfl
set_option maxRecDepth 100000 in
theorem lifted (os : Os) (started : os.Started) (H : Type) (enc : TypeId × Value → H) :
    ReturnsInHanded {} Tryz.checked os 5 .any (Rows.fnExactIsWorldSpec.pre6 enc Tryz.prog Tryz.f5 Rows.fnExactIsWorldRow.domain false) (Rows.fnExactIsWorldSpec.post enc Tryz.prog Tryz.f5 false true false false) := by
  refine returnsInHanded_of_change (C := Tryz.checked) own started (by kernel_rfl) Tryz.func5
    (ChangeSpec.witness6 (enc := enc) (C := Tryz.checked) false ⟨#[], #[.agg #[.slice none 0 0, .slice none 0 0, .int .i64 0, .int .i64 0, .int .i64 0, .slice none 0 0, .slice none 0 0]], []⟩ 12 (by kernel_rfl) (by kernel_rfl) (by kernel_rfl) (by kernel_rfl)) ?_
  intro W base args ds gs before hval0 hW hcnd _
  have hval : ∀ (j : Nat) t v, Tryz.f5.params[j]? = some t → args[j]? = some v → Value.okWide Tryz.prog W .any base t v := hval0
  have hW' := hW
  obtain ⟨p, q, hA0, hV, rfl, hfz, hnd⟩ := hW
  obtain ⟨rfl, rfl⟩ := trodVars_none hV
  have hA : DataW.TrodAll enc Tryz.prog W 0 (fun _ => true) true Tryz.f5.params.toList args.toList ds p := hA0
  rw [Tryz.params5] at hA hval
  have hA2 := hA
  clear hA0 hval0
  obtain ⟨v0, vs0, d0, ds0, p0, q0, hargs0, rfl, rfl, h0, r0⟩ := trodAll_cons hA
  obtain ⟨rfl, rfl, rfl⟩ := trodAll_nil r0
  obtain rfl : args = #[v0] := by cases args; simp_all
  obtain ⟨a0, c0⟩ := (let ⟨fuel, hf⟩ := h0; rd_world fuel _ _ hf)
  have s0 : SVRel W (allI W) (obOf []) (worldA a0) v0 := agg_rel (let ⟨cs, h, _⟩ := okWide_struct Tryz.underlying53 (hval 0 53 v0 rfl rfl); ⟨cs, h⟩) c0
  refine (CallOK.kept (w := W) (vals := #[v0]) (c_LWor a0) (Kn.none (by kernel_rfl) (by kernel_rfl)) ⟨s0, trivial⟩).mono fun e W' ⟨he, hg, _⟩ => ?_
  subst he
  exact ⟨_, rfl, post_of_kept (pv := []) hW' (fun _ _ _ => (trodAll_cons_mk (shut_bool Tryz.underlying4 _) trodAll_mk0))
    (fun sp hsp => trodAll_kept laid rowed sized hg (by decide +kernel) hA2 fun y hy => hsp y (by simpa using hy)) (fun _ _ => rfl) rfl
    hg (ok_one (by kernel_rfl) rfl (okWide_bool_mk Tryz.underlying4 _))⟩
set_option maxRecDepth 100000 in
set_option maxHeartbeats 0 in
theorem facts : joinedFacts Tryz.pinned.checked.prog 5 Tryz.f5 Rows.fnExactIsWorldSpec Rows.fnExactIsWorldRow = true := by
  delta joinedFacts
  with_reducible repeat' apply and_i
  all_goals (first | with_reducible exact enters | (rw [makes]; kernel_rfl) | (rw [lifts]; kernel_rfl) | decide +kernel)
theorem over : Rows.fnExactIsWorldRow.holds Tryz.pinned (OpenSpec.ofChange Rows.fnExactIsWorldSpec) :=
  OpenClaim.holds_of_wide 5 Tryz.f5 rfl rfl rfl rfl rfl rfl rfl ⟨rfl, rfl, rfl, rfl, rfl⟩ rfl rfl rfl rfl rfl (by kernel_rfl) Tryz.func5 facts
    (of_decide_eq_true (by kernel_rfl)) (by unfold Func.isWrapper; first | (rw [if_pos (by decide +kernel)]; kernel_rfl) | (rw [if_neg (by decide +kernel)]; exact ⟨rfl, rfl⟩))
    (fun os started H enc _ => lifted os started H enc)
theorem proved : Rows.FnExactIsWorldSaid :=
  over
end Go.Proofs.YtclpofblehlojaaGreat.fnExactIsWorld
end
