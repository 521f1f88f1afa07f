/- Part 2 of the proof: The program's ApplyRules returns what the reference's returns, for all arguments. No condition. -/
import Derived.Test.YtpnaoendfpaodaaGreatApR1
section
namespace Go.Proofs.YtpnaoendfpaodaaGreat
open Go Go.Proofs.YtpnaoendfpaodaaGreat.Ab
set_option linter.unusedVariables false
set_option linter.unusedSimpArgs false
set_option maxHeartbeats 4000000
def bndM (k : Int) : Int := if k = 1 then 11 else if k = 2 then 13 else if k = 3 then 99999 else if k = 4 then 99999 else -1
def isBnd (b : Binding) : Bool := isSym b.text && okSc b.scopes && decide (0 ≤ b.number ∧ b.number ≤ bndM b.kind)
abbrev P_c_sIsBnd (b : Binding) : Ct := ⟨178, [], [bindingA b], [], .sv (lb (isBnd b))⟩
theorem c_sIsBnd (b : Binding)  : P_c_sIsBnd b := fnOK Tryz.call178 Tryz.func178 (.i (b.kind = 1) (.c [] c_sFormNames (.h (12 ≤ 9223372036854775807) (.r 11 (.c [.rd] (c_sIsSymbol
 b.text) (.b (isSym b.text) (.c [.rd] (c_sScopes b.scopes) (.b (okSc b.scopes) (.c [.rd, .rd, .rd] (c_l1In b.number 0 11) (.s (lb (decide (0 ≤ b.number ∧ b.number ≤ 11))))) (.s (lb
 false)))) (.y false (.s (lb false)))))))) (.i (b.kind = 2) (.c [] c_sPrimitiveNames (.h (14 ≤ 9223372036854775807) (.r 13 (.c [.rd] (c_sIsSymbol b.text) (.b (isSym b.text) (.c
 [.rd] (c_sScopes b.scopes) (.b (okSc b.scopes) (.c [.rd, .rd, .rd] (c_l1In b.number 0 13) (.s (lb (decide (0 ≤ b.number ∧ b.number ≤ 13))))) (.s (lb false)))) (.y false (.s (lb
 false)))))))) (.i (b.kind = 3) (.y true (.c [.rd] (c_sIsSymbol b.text) (.b (isSym b.text) (.c [.rd] (c_sScopes b.scopes) (.b (okSc b.scopes) (.c [.rd, .rd, .rd] (c_l1In b.number 0
 99999) (.s (lb (decide (0 ≤ b.number ∧ b.number ≤ 99999))))) (.s (lb false)))) (.y false (.s (lb false)))))) (.i (b.kind = 4) (.c [.rd] (c_sIsSymbol b.text) (.b (isSym b.text) (.c
 [.rd] (c_sScopes b.scopes) (.b (okSc b.scopes) (.c [.rd, .rd, .rd] (c_l1In b.number 0 99999) (.s (lb (decide (0 ≤ b.number ∧ b.number ≤ 99999))))) (.s (lb false)))) (.y false (.s
 (lb false))))) (.c [.rd] (c_sIsSymbol b.text) (.b (isSym b.text) (.c [.rd] (c_sScopes b.scopes) (.b (okSc b.scopes) (.c [.rd, .rd, .rd] (c_l1In b.number 0 (-1 : Int)) (.s (lb
 (decide (0 ≤ b.number ∧ b.number ≤ (-1 : Int)))))) (.s (lb false)))) (.y false (.s (lb false))))))))) (by
  dsimp only [teasy, P_c_sIsBnd]
  have e1 : formNames.length = 12 := rfl
  have e2 : primNames.length = 14 := rfl
  with_reducible repeat' (first | apply And.intro | exact zR | (intro; skip) | apply mIc | apply mOc | apply mSc | apply mLc)
  all_goals (try simp only [std, inj] at *)
  all_goals with_reducible repeat' apply And.intro
  all_goals (try (first | exact z | exact zM | grind [isBnd, bndM, snocI, snocS, rowSnoc])))
abbrev P_c_iIsBnd (b : Binding) : Ct := ⟨186, [], [bindingA b], [], .sv (lb (isBnd b))⟩
theorem c_iIsBnd (b : Binding)  : P_c_iIsBnd b := fnOK Tryz.call186 Tryz.func186 (.c [.rd] (c_iIsSymbol b.text) (.b (!isSym b.text) (.y true (.y true (.s (lb false)))) (.c [.rd]
 (c_iScopes b.scopes) (.b (!okSc b.scopes) (.y true (.s (lb false))) (.i (b.number < 0) (.s (lb false)) (.i (b.kind = 1) (.w (.draw []) (.c [] c_iFormNames (.h (12 ≤
 9223372036854775807) (.s (lb (decide (b.number < 12))))))) (.i (b.kind = 2) (.w (.draw []) (.c [] c_iPrimitiveNames (.h (14 ≤ 9223372036854775807) (.s (lb (decide (b.number <
 14))))))) (.i (b.kind = 3) (.y true (.s (lb (decide (b.number ≤ 99999))))) (.i (b.kind = 4) (.s (lb (decide (b.number ≤ 99999)))) (.s (lb false))))))))))) (by
  dsimp only [teasy, P_c_iIsBnd]
  have e1 : formNames.length = 12 := rfl
  have e2 : primNames.length = 14 := rfl
  with_reducible repeat' (first | apply And.intro | exact zR | (intro; skip) | apply mIc | apply mOc | apply mSc | apply mLc | apply c_iIsSymbol | apply c_iScopes)
  all_goals (try simp only [std, inj] at *)
  all_goals with_reducible repeat' apply And.intro
  all_goals (try (first | with_reducible apply c_iIsSymbol | with_reducible apply c_iScopes | (simp only [← List.map_append]; first | with_reducible apply c_iIsSymbol | with_reducible apply c_iScopes)))
  all_goals (try (first | exact z | exact zM | grind [isBnd, bndM, snocI, snocS, rowSnoc])))
def clB (t : ByteArray) (s : List Int) (x : Binding) : Bool := decide (x.text = t) && decide (x.scopes = s)
def clash (L : List Binding) (t : ByteArray) (s : List Int) : Bool := L.any (clB t s)
abbrev P_c_sClash (L : List Binding) (b : Binding) : Ct := ⟨179, [], [ll (L.map bindingC), bindingA b], [], .sv (lb (clash L b.text b.scopes))⟩
def lc_sClashLa (L : List Binding) (b : Binding) : Lp Nat := .mk 26 0 (fun x => [(3, SV.one (AC.ptr 0 0)), (7, ll (List.map bindingC L)), (8, li (↑(List.map bindingC L).length :
 Int)), (9, hs x 0)]) (fun x => [Ob.box (vals (bindingF b))]) (fun k => [.s (li (↑k : Int))]) (fun k => k ≤ L.length ∧ L.length ≤ 9223372036854775807 ∧ clash (List.take k L) b.text
 b.scopes = false) (fun k => L.length - k) [.mk (clash L b.text b.scopes = false) (.exit 0) (fun x => []) (fun x => []) [], .mk (clash L b.text b.scopes = true) .ret (fun x => [(4,
 hs x 0)]) (fun x => []) [.s (lb true)]]
theorem Sc_sClashLa (L : List Binding) (b : Binding) : Lp.Sem Tryz.prog (loopAt Tryz.f179 0) (lc_sClashLa L b) := lpOK (fun k => .i ((↑k : Int) < (↑(List.map bindingC L).length :
 Int)) (.x (↑k : Int) (List.map bindingC L) (bindingF (L.getD k default)) (.i ((L.getD k default).text.data.toList = b.text.data.toList) (.c [.rd, .rd] (c_sSameInts (L.getD k
 default).scopes b.scopes) (.i ((L.getD k default).scopes = b.scopes) (.o 1 [] [.s (lb true)]) (.r ((↑k : Int) + 1) (.g [0] (k + 1) [.s (li ((↑k : Int) + 1))])))) (.y false (.r
 ((↑k : Int) + 1) (.g [0] (k + 1) [.s (li ((↑k : Int) + 1))]))))) (.o 0 [] [])) (by
  intro k h; try dsimp only [teasy, nthW, lc_sClashLa] at h ⊢
  with_reducible repeat' (first | apply And.intro | exact zR | (intro; skip) | apply mIc | apply mOc | apply mSc | apply mLc)
  all_goals (try simp only [std, inj] at *)
  all_goals with_reducible repeat' apply And.intro
  all_goals (try (first | exact z | exact zM | grind [take_get, clash, clB, getD_mem', bytes_ext, snocI, snocS, rowSnoc])))
theorem c_sClash (L : List Binding) (b : Binding)  : P_c_sClash L b := fnOK Tryz.call179 Tryz.func179 (.z bindingC L (.l (lc_sClashLa L b) (Sc_sClashLa L b) [0] [.s (li 0)] 0 (.t (.s
 (lb false)) (.t (.s (lb true)) .q)))) (by
  dsimp only [teasy, P_c_sClash, nthW, lc_sClashLa]
  with_reducible repeat' (first | apply And.intro | exact zR | (intro; skip) | apply mIc | apply mOc | apply mSc | apply mLc)
  all_goals (try simp only [std, inj] at *)
  all_goals with_reducible repeat' apply And.intro
  all_goals (try (first | exact z | exact zM | grind [clash, snocI, snocS, rowSnoc])))
def areTo (L : List Binding) : Nat → Bool
  | 0 => true
  | k + 1 => areTo L k && (isBnd (L.getD k default) && !clash (L.take k) (L.getD k default).text (L.getD k default).scopes)
theorem areTo_le (L : List Binding) : ∀ (m k : Nat), k ≤ m → areTo L m = true → areTo L k = true
  | 0, k, h, _ => by
    obtain rfl : k = 0 := by omega
    rfl
  | m + 1, k, h, ht => by
    by_cases e : k = m + 1
    · rw [e]; exact ht
    · refine areTo_le L m k (by omega) ?_
      simp only [areTo, Bool.and_eq_true] at ht; exact ht.1
def areB (L : List Binding) : Bool := areTo L L.length && decide ((L.length : Int) ≤ 1000)
abbrev P_c_sAre (L : List Binding) : Ct := ⟨104, [], [ll (L.map bindingC)], [], .sv (lb (areB L))⟩
def lc_sAreLa (L : List Binding) : Lp Nat := .mk 26 0 (fun x => [(0, ll (List.map bindingC L)), (5, ll (List.map bindingC L)), (6, li (↑(List.map bindingC L).length : Int)), (7, hs
 x 0)]) (fun x => []) (fun k => [.s (li (↑k : Int))]) (fun k => k ≤ L.length ∧ L.length ≤ 9223372036854775807 ∧ areTo L k = true) (fun k => L.length - k) [.mk (areTo L L.length =
 true) (.exit 0) (fun x => [(0, ll (List.map bindingC L))]) (fun x => []) [], .mk (areTo L L.length = false) .ret (fun x => [(2, hs x 0)]) (fun x => []) [.s (lb false)]]
theorem Sc_sAreLa (L : List Binding) : Lp.Sem Tryz.prog (loopAt Tryz.f104 0) (lc_sAreLa L) := lpOK (fun k => .i ((↑k : Int) < (↑(List.map bindingC L).length : Int)) (.x (↑k : Int)
 (List.map bindingC L) (bindingF (L.getD k default)) (.w (.draw []) (.c [.rd] (c_sIsBnd (L.getD k default)) (.b (!isBnd (L.getD k default)) (.y true (.o 1 [] [.s (lb false)])) (.p
 (0 ≤ (↑k : Int)) (.p (0 ≤ (↑k : Int).toNat ∧ (↑k : Int).toNat ≤ (List.map bindingC L).length ∧ ∀ (e : List Cell), e ∈ List.map bindingC L → e.length = 4) (.u [.rd, .rd]
 (P_c_sClash (List.take ((↑k : Int).toNat - 0) (List.drop 0 L)) (L.getD k default)) (.p (CallOK Tryz.prog 179 [] [ll (List.take ((↑k : Int).toNat - 0) (List.drop 0 (List.map
 bindingC L))), SV.agg (vals (bindingF (L.getD k default)))] [] (AV.sv (lb (clash (List.take ((↑k : Int).toNat - 0) (List.drop 0 L)) (L.getD k default).text (L.getD k
 default).scopes)))) (.b (clash (List.take ((↑k : Int).toNat - 0) (List.drop 0 L)) (L.getD k default).text (L.getD k default).scopes) (.o 1 [] [.s (lb false)]) (.r ((↑k : Int) + 1)
 (.g [] (k + 1) [.s (li ((↑k : Int) + 1))]))))))))))) (.o 0 [] [])) (by
  intro k h; try dsimp only [teasy, nthW, lc_sAreLa] at h ⊢
  have g1 := areTo_le L L.length (k + 1)
  have g2 : areTo L (k + 1) = (areTo L k && (isBnd (L.getD k default) && !clash (L.take k) (L.getD k default).text (L.getD k default).scopes)) := rfl
  with_reducible repeat' (first | apply And.intro | exact zR | (intro; skip) | apply mIc | apply mOc | apply mSc | apply mLc | apply c_sIsBnd | apply c_sClash)
  all_goals (try simp only [std, inj] at *)
  all_goals with_reducible repeat' apply And.intro
  all_goals (try (first | with_reducible apply c_sIsBnd | with_reducible apply c_sClash | (simp only [← List.map_append]; first | with_reducible apply c_sIsBnd | with_reducible apply c_sClash)))
  all_goals (try (first | exact z | exact zM | grind [getD_mem', snocI, snocS, rowSnoc])))
theorem c_sAre (L : List Binding)  : P_c_sAre L := fnOK Tryz.call104 Tryz.func104 (.z bindingC L (.l (lc_sAreLa L) (Sc_sAreLa L) [] [.s (li 0)] 0 (.t (.z bindingC L (.s (lb (decide
 ((↑(List.map bindingC L).length : Int) ≤ 1000))))) (.t (.s (lb false)) .q)))) (by
  dsimp only [teasy, P_c_sAre, nthW, lc_sAreLa]
  with_reducible repeat' (first | apply And.intro | exact zR | (intro; skip) | apply mIc | apply mOc | apply mSc | apply mLc)
  all_goals (try simp only [std, inj] at *)
  all_goals with_reducible repeat' apply And.intro
  all_goals (try (first | exact z | exact zM | grind [areB, areTo, snocI, snocS, rowSnoc])))
def plc (L : List Binding) : Nat → ByteArray → List Int
  | 0, _ => []
  | k + 1, s => if s = (L.getD k default).text then plc L k s ++ [(k : Int)] else plc L k s
theorem plc_upd {L : List Binding} {k : Nat} : upd1 (plc L k) (L.getD k default).text (plc L k (L.getD k default).text ++ [(k : Int)]) = plc L (k + 1) := by
  funext s; simp only [upd1, plc]; split
  · rename_i h; rw [h]
  · rfl
theorem plc_zero {L : List Binding} : zL = plc L 0 := rfl
theorem plc_len (L : List Binding) (s : ByteArray) : ∀ k, (plc L k s).length ≤ k
  | 0 => Nat.le_refl _
  | k + 1 => by
    have := plc_len L s k
    simp only [plc]; split
    · simp; omega
    · omega
theorem plc_mem (L : List Binding) (s : ByteArray) : ∀ k (i : Int), i ∈ plc L k s ↔ (0 ≤ i ∧ i < k ∧ (L.getD i.toNat default).text = s)
  | 0, i => by simp [plc]; omega
  | k + 1, i => by
    have ih := plc_mem L s k i
    simp only [plc]; split
    · rename_i h
      rw [List.mem_append, ih, List.mem_singleton]
      constructor
      · rintro (⟨a, b, c⟩ | rfl)
        · exact ⟨a, by omega, c⟩
        · exact ⟨by omega, by omega, by rw [Int.toNat_natCast]; exact h.symm⟩
      · rintro ⟨a, b, c⟩
        by_cases e : i = k
        · exact .inr e
        · exact .inl ⟨a, by omega, c⟩
    · rename_i h
      rw [ih]
      constructor
      · rintro ⟨a, b, c⟩; exact ⟨a, by omega, c⟩
      · rintro ⟨a, b, c⟩
        refine ⟨a, ?_, c⟩
        by_cases e : i = k
        · subst e; rw [Int.toNat_natCast] at c; exact absurd c.symm h
        · omega
def plOK (L : List Binding) (s : List Int) (P : List Int) : Bool := P.all fun i => !decide ((L.getD i.toNat default).scopes = s)
theorem plOK_clash {L : List Binding} {k : Nat} {t : ByteArray} {s : List Int} (hk : k ≤ L.length) : plOK L s (plc L k t) = !clash (L.take k) t s := by
  rw [Bool.eq_iff_iff]
  simp only [plOK, clash, clB, List.all_eq_true, Bool.not_eq_true', decide_eq_false_iff_not, List.any_eq_false, Bool.and_eq_true, decide_eq_true_eq, not_and]
  constructor
  · intro h x hx e
    obtain ⟨j, hj, rfl⟩ := List.getElem_of_mem hx
    rw [List.length_take] at hj
    have e2 : (L.take k)[j]'(by rw [List.length_take]; exact hj) = L.getD j default := by simp [show j < L.length by omega]
    rw [e2] at e ⊢
    have := h (j : Int) ((plc_mem L t k j).2 ⟨by omega, by omega, by rw [Int.toNat_natCast]; exact e⟩)
    rwa [Int.toNat_natCast] at this
  · intro h i hi
    obtain ⟨a, b, c⟩ := (plc_mem L t k i).1 hi
    refine h _ ?_ c
    have e : L.getD i.toNat default = (L.take k)[i.toNat]'(by rw [List.length_take]; omega) := by simp [show i.toNat < L.length by omega]
    rw [e]; exact List.getElem_mem _
theorem plOK_at {L : List Binding} {s : List Int} {P : List Int} {j : Nat} (h : j < P.length) (e : (L.getD (P.getD j default).toNat default).scopes = s) : plOK L s P = false := by
  unfold plOK; rw [List.all_eq_false]; exact ⟨_, getD_mem' h, by rw [decide_eq_true e]; decide⟩
theorem plOK_step {L : List Binding} {s : List Int} {P : List Int} {j : Nat} (h : j < P.length) (h0 : plOK L s (P.take j) = true) (e : (L.getD (P.getD j default).toNat default).scopes ≠ s) : plOK L s (P.take (j + 1)) = true := by
  unfold plOK at *; rw [take_get h, List.all_append, h0]; simpa using e
abbrev P_c_iAre (L : List Binding) : Ct := ⟨108, [], [ll (L.map bindingC)], [], .sv (lb (areB L))⟩
def lc_iAreLb (L : List Binding) (k : Nat) : Lp Nat := .mk 51 0 (fun x => [(0, ll (List.map bindingC L)), (3, SV.one (AC.mref 0)), (4, li (↑k : Int)), (5, SV.one (AC.ptr 1 0)),
 (12, ll (List.map bindingC L)), (13, li (↑(List.map bindingC L).length : Int)), (14, li (↑k : Int)), (25, SV.one (AC.bor 0 (Cell.list (List.map intC (plc L k (L.getD k
 default).text))))), (26, li (↑(List.map intC (plc L k (L.getD k default).text)).length : Int)), (27, hs x 0)]) (fun x => [Ob.map false kL (mL (plc L k)), Ob.box (vals (bindingF
 (L.getD k default)))]) (fun k1 => [.s (li (↑k1 : Int))]) (fun k1 => k1 ≤ (plc L k (L.getD k default).text).length ∧ (plc L k (L.getD k default).text).length ≤ 9223372036854775807
 ∧ k < L.length ∧ areTo L k = true ∧ isBnd (L.getD k default) = true ∧ plOK L (L.getD k default).scopes (List.take k1 (plc L k (L.getD k default).text)) = true) (fun k1 => (plc L k
 (L.getD k default).text).length - k1) [.mk (areTo L (k + 1) = true) (.exit 2) (fun x => [(0, ll (List.map bindingC L)), (3, SV.one (AC.mref 0)), (4, li (↑k : Int)), (5, SV.one
 (AC.ptr 1 0)), (12, ll (List.map bindingC L)), (13, li (↑(List.map bindingC L).length : Int)), (14, li (↑k : Int))]) (fun x => [Ob.map false kL (mL (plc L k)), Ob.box (vals
 (bindingF (L.getD k default)))]) [], .mk (areTo L L.length = false) .ret (fun x => [(2, hs x 0)]) (fun x => []) [.s (lb false)]]
def lc_iAreLa (L : List Binding) : Lp Nat := .mk 51 0 (fun x => [(0, ll (List.map bindingC L)), (3, SV.one (AC.mref 0)), (12, ll (List.map bindingC L)), (13, li (↑(List.map
 bindingC L).length : Int)), (14, hs x 0)]) (fun x => [ho x 1]) (fun k => [.s (li (↑k : Int)), .o (Ob.map false kL (mL (plc L k)))]) (fun k => k ≤ L.length ∧ L.length ≤
 9223372036854775807 ∧ L.length ≤ 1000 ∧ areTo L k = true) (fun k => L.length - k) [.mk (areTo L L.length = true) (.exit 0) (fun x => []) (fun x => []) [], .mk (areTo L L.length =
 false) .ret (fun x => [(2, hs x 0)]) (fun x => []) [.s (lb false)]]
theorem Sc_iAreLb (L : List Binding) (k : Nat) : Lp.Sem Tryz.prog (loopAt Tryz.f108 1) (lc_iAreLb L k) := lpOK (fun k1 => .i ((↑k1 : Int) < (↑(List.map intC (plc L k (L.getD k
 default).text)).length : Int)) (.x (↑k1 : Int) (List.map intC (plc L k (L.getD k default).text)) [cI ((plc L k (L.getD k default).text).getD k1 0)] (.w (.draw []) (.x ((plc L k
 (L.getD k default).text).getD k1 0) (List.map bindingC L) (bindingF (L.getD ((plc L k (L.getD k default).text).getD k1 0).toNat default)) (.c [.rd, .rd] (c_iSameInts (L.getD ((plc
 L k (L.getD k default).text).getD k1 0).toNat default).scopes (L.getD k default).scopes) (.i ((L.getD ((plc L k (L.getD k default).text).getD k1 0).toNat default).scopes = (L.getD
 k default).scopes) (.o 1 [] [.s (lb false)]) (.r ((↑k1 : Int) + 1) (.g [0, 1] (k1 + 1) [.s (li ((↑k1 : Int) + 1))]))))))) (.o 0 [0, 1] [])) (by
  intro k1 h; try dsimp only [teasy, nthW, lc_iAreLb] at h ⊢
  have g1 := areTo_le L L.length (k + 1)
  have g2 : areTo L (k + 1) = (areTo L k && (isBnd (L.getD k default) && !clash (L.take k) (L.getD k default).text (L.getD k default).scopes)) := rfl
  have g3 := @plOK_clash L k (L.getD k default).text (L.getD k default).scopes
  have g4 := @plOK_at L (L.getD k default).scopes (plc L k (L.getD k default).text) k1
  have g5 := @plOK_step L (L.getD k default).scopes (plc L k (L.getD k default).text) k1
  have g6 := plc_mem L (L.getD k default).text k ((plc L k (L.getD k default).text).getD k1 default)
  have g7 : ∀ j, (plc L k (L.getD k default).text).length ≤ j → (plc L k (L.getD k default).text).take j = plc L k (L.getD k default).text := fun j h => List.take_of_length_le h
  with_reducible repeat' (first | apply And.intro | exact zR | (intro; skip) | apply mIc | apply mOc | apply mSc | apply mLc)
  all_goals (try simp only [std, inj] at *)
  all_goals with_reducible repeat' apply And.intro
  all_goals (try (first | exact z | exact zM | grind [getD_mem', snocI, snocS, rowSnoc])))
theorem Sc_iAreLa (L : List Binding) : Lp.Sem Tryz.prog (loopAt Tryz.f108 0) (lc_iAreLa L) := lpOK (fun k => .i ((↑k : Int) < (↑(List.map bindingC L).length : Int)) (.x (↑k : Int)
 (List.map bindingC L) (bindingF (L.getD k default)) (.c [.rd] (c_iIsBnd (L.getD k default)) (.b (!isBnd (L.getD k default)) (.o 1 [] [.s (lb false)]) (.w (.cells [Cell.list
 (List.map intC (plc L k (L.getD k default).text))]) (.p (LookAt (Value.slice none 0 0) (mL (plc L k)) (Value.string (L.getD k default).text) (Cell.list (List.map intC (plc L k
 (L.getD k default).text)))) (.z intC (plc L k (L.getD k default).text) (.l (lc_iAreLb L k) (Sc_iAreLb L k) [0, 1] [.s (li 0)] 0 (.t (.w (.draw [(6, [0]), (9, [2, 3]), (10, [4,
 0])]) (.w (.taken (List.map intC (plc L k (L.getD k default).text)) 1 (mLt (plc L k) (L.getD k default).text)) (.p (LookAt (Value.slice none 0 0) (mL (plc L k)) (Value.string
 (L.getD k default).text) (Cell.list (List.map intC (plc L k (L.getD k default).text)))) (.p (UpdF kL.d (mL (plc L k)) (mLt (plc L k) (L.getD k default).text) (Value.string (L.getD
 k default).text) (some Cell.any)) (.p (some (Value.slice none 0 0) = some (Value.slice none 0 0)) (.p (∀ (x : List Cell), x ∈ List.map intC (plc L k (L.getD k default).text) →
 x.length = 1) (.p (((List.map intC (plc L k (L.getD k default).text)).length + 1) * 8 ≤ 140737488355328) (.w (.upd (mL (upd1 (plc L k) (L.getD k default).text (plc L k (L.getD k
 default).text ++ [(↑k : Int)])))) (.p (false = false) (.p (UpdF kL.d (mLt (plc L k) (L.getD k default).text) (mL (upd1 (plc L k) (L.getD k default).text (plc L k (L.getD k
 default).text ++ [(↑k : Int)]))) (Value.string (L.getD k default).text) (some (Cell.list (List.map intC (plc L k (L.getD k default).text) ++ [[cI (↑k : Int)]])))) (.r ((↑k : Int)
 + 1) (.g [0] (k + 1) [.s (li ((↑k : Int) + 1)), .o (Ob.map false kL (mL (upd1 (plc L k) (L.getD k default).text (plc L k (L.getD k default).text ++ [(↑k : Int)]))))]))))))))))))
 (.t (.o 1 [] [.s (lb false)]) .q))))))))) (.o 0 [] [])) (by
  intro k h; try dsimp only [teasy, nthW, lc_iAreLa, lc_iAreLb] at h ⊢
  have g1 := areTo_le L L.length (k + 1)
  have g2 : areTo L (k + 1) = (areTo L k && (isBnd (L.getD k default) && !clash (L.take k) (L.getD k default).text (L.getD k default).scopes)) := rfl
  have g3 := plc_len L (L.getD k default).text k
  have g4 := @plc_upd L k
  have g5 : plOK L (L.getD k default).scopes ((plc L k (L.getD k default).text).take 0) = true := rfl
  with_reducible repeat' (first | apply And.intro | exact zR | (intro; skip) | apply mIc | apply mOc | apply mSc | apply mLc)
  all_goals (try simp only [std, inj] at *)
  all_goals with_reducible repeat' apply And.intro
  all_goals (try (first | exact z | exact zM | grind [getD_mem', snocI, snocS, rowSnoc]))
  all_goals (try (exact upd_mL (by simp [intC]))))
theorem c_iAre (L : List Binding)  : P_c_iAre L := fnOK Tryz.call108 Tryz.func108 (.z bindingC L (.i (1000 < (↑(List.map bindingC L).length : Int)) (.s (lb false)) (.w (.mkmap kL)
 (.z bindingC L (.l (lc_iAreLa L) (Sc_iAreLa L) [0] [.s (li 0), .o (Ob.map false kL (mL zL))] 0 (.t (.s (lb true)) (.t (.s (lb false)) .q))))))) (by
  dsimp only [teasy, P_c_iAre, nthW, lc_iAreLa]
  with_reducible repeat' (first | apply And.intro | exact zR | (intro; skip) | apply mIc | apply mOc | apply mSc | apply mLc)
  all_goals (try simp only [std, inj] at *)
  all_goals with_reducible repeat' apply And.intro
  all_goals (try (first | exact z | exact zM | grind [areB, areTo, plc_zero, snocI, snocS, rowSnoc])))
def lsynC (l : List Syntax) : List Cell := [.list (l.map syntaxC)]
def lsynF (l : List Syntax) : List Cell := [.list (l.map syntaxC)]
instance : Row (List Syntax) lsynC lsynF 1 := ⟨fun _ => rfl, fun _ => rfl⟩
end Go.Proofs.YtpnaoendfpaodaaGreat
end
section
namespace Go.Proofs.YtpnaoendfpaodaaGreat
open Go Go.Proofs.YtpnaoendfpaodaaGreat.Ab
set_option linter.unusedVariables false
set_option linter.unusedSimpArgs false
set_option maxHeartbeats 4000000
abbrev P_c_sCopyB (L : List Binding) : Ct := ⟨138, [], [ll (L.map bindingC)], [.arr true 4 (L.map bindingC)], .sv (.one (.ref 0))⟩
def lc_sCopyBLa (L : List Binding) : Lp Nat := .mk 28 0 (fun x => [(3, SV.one (AC.ref 0)), (7, ll (List.map bindingC L)), (8, li (↑(List.map bindingC L).length : Int)), (9, hs x
 0)]) (fun x => [ho x 1]) (fun k => [.s (li (↑k : Int)), .o (Ob.arr true 4 (List.map bindingC (List.take k L)))]) (fun k => k ≤ L.length ∧ L.length ≤ 9223372036854775807) (fun k =>
 L.length - k) [.mk True (.exit 0) (fun x => [(3, SV.one (AC.ref 0))]) (fun x => [ho x 0]) [.o (Ob.arr true 4 (List.map bindingC L))]]
theorem Sc_sCopyBLa (L : List Binding) (h : L.length ≤ 1048577 ∧ sumBy wB L ≤ 1048577) : Lp.Sem Tryz.prog (loopAt Tryz.f138 0) (lc_sCopyBLa L) := lpOK (fun k => .i ((↑k : Int) <
 (↑(List.map bindingC L).length : Int)) (.x (↑k : Int) (List.map bindingC L) (bindingF (L.getD k default)) (.w (.draw [(11, [2]), (12, [0, 10])]) (.d [.rd] (P_c_yInts (L.getD k
 default).scopes) (.p (((List.map bindingC (List.take k L)).length + 1) * 56 ≤ 140737488355328) (.r ((↑k : Int) + 1) (.g [11] (k + 1) [.s (li ((↑k : Int) + 1)), .o (Ob.arr true 4
 (List.map bindingC (List.take k L) ++ [bindingF (L.getD k default)]))])))))) (.o 0 [0] [.o (Ob.arr true 4 (List.map bindingC (List.take k L)))])) (by
  intro k h; try dsimp only [teasy, nthW, lc_sCopyBLa] at h ⊢
  have g2 := @sumBy_mem _ wB L (L.getD k default)
  have g3 := wB_eq (L.getD k default)
  with_reducible repeat' (first | apply And.intro | exact zR | (intro; skip) | apply c_yInts)
  all_goals (try simp only [std, inj] at *)
  all_goals with_reducible repeat' apply And.intro
  all_goals (try (first | with_reducible apply c_yInts | (simp only [← List.map_append]; first | with_reducible apply c_yInts)))
  all_goals (try (first | exact z | grind [take_get, snocI, snocS, rowSnoc, getD_mem'])))
theorem c_sCopyB (L : List Binding) (h : L.length ≤ 1048577 ∧ sumBy wB L ≤ 1048577)  : P_c_sCopyB L := fnOK Tryz.call138 Tryz.func138 (.w (.bool false) (.z bindingC L (.l
 (lc_sCopyBLa L) (Sc_sCopyBLa L h) [0] [.s (li 0), .o (Ob.arr true 4 [])] 0 (.t (.f [0] [Ob.arr true 4 (List.map bindingC L)] (AV.sv (SV.one (AC.ref 0)))) .q)))) (by
  dsimp only [teasy, P_c_sCopyB, nthW, lc_sCopyBLa]
  with_reducible repeat' (first | apply And.intro | exact zR | (intro; skip) | apply c_yInts)
  all_goals (try simp only [std, inj] at *)
  all_goals with_reducible repeat' apply And.intro
  all_goals (try (first | with_reducible apply c_yInts | (simp only [← List.map_append]; first | with_reducible apply c_yInts)))
  all_goals (try (first | exact z | grind [snocI, snocS, rowSnoc])))
abbrev P_c_iCopyB1 (b : Binding) : Ct := ⟨227, [], [bindingA b], bindingO b, .sv (bindingR b 0)⟩
theorem c_iCopyB1 (b : Binding) (h : wB b ≤ 1048577)  : P_c_iCopyB1 b := fnOK Tryz.call227 Tryz.func227 (.d [.rd] (P_c_yIInts b.scopes) (.f [2] [Ob.arr true 1 (List.map intC
 b.scopes)] (AV.sv (SV.agg [vS b.text, AC.ref 0, vI b.kind, vI b.number])))) (by
  dsimp only [teasy, P_c_iCopyB1]
  have g3 := wB_eq b
  with_reducible repeat' (first | apply And.intro | exact zR | (intro; skip) | apply c_yIInts)
  all_goals (try simp only [std, inj] at *)
  all_goals with_reducible repeat' apply And.intro
  all_goals (try (first | with_reducible apply c_yIInts | (simp only [← List.map_append]; first | with_reducible apply c_yIInts)))
  all_goals (try (first | exact z | grind [snocI, snocS, rowSnoc])))
end Go.Proofs.YtpnaoendfpaodaaGreat
end
section
namespace Go.Proofs.YtpnaoendfpaodaaGreat
open Go Go.Proofs.YtpnaoendfpaodaaGreat.Ab
set_option linter.unusedVariables false
set_option linter.unusedSimpArgs false
set_option maxHeartbeats 4000000
abbrev P_c_rHas (L : List Int) (n : Int) : Ct := ⟨158, [], [ll (L.map intC), li n], [], .sv (lb (decide (n ∈ L)))⟩
def lc_rHasLa (L : List Int) (n : Int) : Lp Nat := .mk 17 0 (fun x => [(1, li n), (7, ll (List.map intC L)), (8, li (↑(List.map intC L).length : Int)), (9, hs x 0)]) (fun x => [])
 (fun k => [.s (li (↑k : Int))]) (fun k => k ≤ L.length ∧ L.length ≤ 9223372036854775807 ∧ decide (n ∈ List.take k L) = false) (fun k => L.length - k) [.mk (decide (n ∈ L) = false)
 (.exit 0) (fun x => []) (fun x => []) [], .mk (decide (n ∈ L) = true) .ret (fun x => [(4, hs x 0)]) (fun x => []) [.s (lb true)]]
theorem Sc_rHasLa (L : List Int) (n : Int) : Lp.Sem Tryz.prog (loopAt Tryz.f158 0) (lc_rHasLa L n) := lpOK (fun k => .i ((↑k : Int) < (↑(List.map intC L).length : Int)) (.x (↑k :
 Int) (List.map intC L) [cI (L.getD k 0)] (.i (L.getD k 0 = n) (.o 1 [] [.s (lb true)]) (.r ((↑k : Int) + 1) (.g [] (k + 1) [.s (li ((↑k : Int) + 1))])))) (.o 0 [] [])) (by
  intro k h; try dsimp only [teasy, nthW, lc_rHasLa] at h ⊢
  with_reducible repeat' (first | apply And.intro | exact zR | (intro; skip))
  all_goals (try simp only [std, inj] at *)
  all_goals with_reducible repeat' apply And.intro
  all_goals (try (first | exact z | grind [take_get, getD_mem', snocI, snocS, rowSnoc])))
theorem c_rHas (L : List Int) (n : Int)  : P_c_rHas L n := fnOK Tryz.call158 Tryz.func158 (.z intC L (.l (lc_rHasLa L n) (Sc_rHasLa L n) [] [.s (li 0)] 0 (.t (.s (lb false)) (.t (.s
 (lb true)) .q)))) (by
  dsimp only [teasy, P_c_rHas, nthW, lc_rHasLa]
  with_reducible repeat' (first | apply And.intro | exact zR | (intro; skip))
  all_goals (try simp only [std, inj] at *)
  all_goals with_reducible repeat' apply And.intro
  all_goals (try (first | exact z | grind [snocI, snocS, rowSnoc])))
abbrev P_c_rIHas (L : List Int) (n : Int) : Ct := ⟨306, [], [ll (L.map intC), li n], [], .sv (lb (decide (n ∈ L)))⟩
def lc_rIHasLa (L : List Int) (n : Int) : Lp Nat := .mk 17 0 (fun x => [(1, li n), (7, ll (List.map intC L)), (8, li (↑(List.map intC L).length : Int)), (9, hs x 0)]) (fun x => [])
 (fun k => [.s (li (↑k : Int))]) (fun k => k ≤ L.length ∧ L.length ≤ 9223372036854775807 ∧ decide (n ∈ List.take k L) = false) (fun k => L.length - k) [.mk (decide (n ∈ L) = false)
 (.exit 0) (fun x => []) (fun x => []) [], .mk (decide (n ∈ L) = true) .ret (fun x => [(4, hs x 0)]) (fun x => []) [.s (lb true)]]
theorem Sc_rIHasLa (L : List Int) (n : Int) : Lp.Sem Tryz.prog (loopAt Tryz.f306 0) (lc_rIHasLa L n) := lpOK (fun k => .i ((↑k : Int) < (↑(List.map intC L).length : Int)) (.x (↑k :
 Int) (List.map intC L) [cI (L.getD k 0)] (.i (L.getD k 0 = n) (.o 1 [] [.s (lb true)]) (.r ((↑k : Int) + 1) (.g [] (k + 1) [.s (li ((↑k : Int) + 1))])))) (.o 0 [] [])) (by
  intro k h; try dsimp only [teasy, nthW, lc_rIHasLa] at h ⊢
  with_reducible repeat' (first | apply And.intro | exact zR | (intro; skip))
  all_goals (try simp only [std, inj] at *)
  all_goals with_reducible repeat' apply And.intro
  all_goals (try (first | exact z | grind [take_get, getD_mem', snocI, snocS, rowSnoc])))
theorem c_rIHas (L : List Int) (n : Int)  : P_c_rIHas L n := fnOK Tryz.call306 Tryz.func306 (.z intC L (.l (lc_rIHasLa L n) (Sc_rIHasLa L n) [] [.s (li 0)] 0 (.t (.s (lb false)) (.t
 (.s (lb true)) .q)))) (by
  dsimp only [teasy, P_c_rIHas, nthW, lc_rIHasLa]
  with_reducible repeat' (first | apply And.intro | exact zR | (intro; skip))
  all_goals (try simp only [std, inj] at *)
  all_goals with_reducible repeat' apply And.intro
  all_goals (try (first | exact z | grind [snocI, snocS, rowSnoc])))
def subI (A B : List Int) : Bool := A.all fun n => decide (n ∈ B)
abbrev P_c_sSub (A : List Int) (B : List Int) : Ct := ⟨261, [], [ll (A.map intC), ll (B.map intC)], [], .sv (lb (subI A B))⟩
def lc_sSubLa (A : List Int) (B : List Int) : Lp Nat := .mk 18 0 (fun x => [(1, ll (List.map intC B)), (7, ll (List.map intC A)), (8, li (↑(List.map intC A).length : Int)), (9, hs
 x 0)]) (fun x => []) (fun k => [.s (li (↑k : Int))]) (fun k => k ≤ A.length ∧ A.length ≤ 9223372036854775807 ∧ subI (List.take k A) B = true) (fun k => A.length - k) [.mk (subI A
 B = true) (.exit 0) (fun x => []) (fun x => []) [], .mk (subI A B = false) .ret (fun x => [(4, hs x 0)]) (fun x => []) [.s (lb false)]]
theorem Sc_sSubLa (A : List Int) (B : List Int) : Lp.Sem Tryz.prog (loopAt Tryz.f261 0) (lc_sSubLa A B) := lpOK (fun k => .i ((↑k : Int) < (↑(List.map intC A).length : Int)) (.x
 (↑k : Int) (List.map intC A) [cI (A.getD k 0)] (.c [.rd, .rd] (c_rHas B (A.getD k 0)) (.b (!decide (A.getD k 0 ∈ B)) (.o 1 [] [.s (lb false)]) (.r ((↑k : Int) + 1) (.g [] (k + 1)
 [.s (li ((↑k : Int) + 1))]))))) (.o 0 [] [])) (by
  intro k h; try dsimp only [teasy, nthW, lc_sSubLa] at h ⊢
  with_reducible repeat' (first | apply And.intro | exact zR | (intro; skip))
  all_goals (try simp only [std, inj] at *)
  all_goals with_reducible repeat' apply And.intro
  all_goals (try (first | exact z | grind [take_get, getD_mem', subI, snocI, snocS, rowSnoc])))
theorem c_sSub (A B : List Int)  : P_c_sSub A B := fnOK Tryz.call261 Tryz.func261 (.z intC A (.l (lc_sSubLa A B) (Sc_sSubLa A B) [] [.s (li 0)] 0 (.t (.s (lb true)) (.t (.s (lb
 false)) .q)))) (by
  dsimp only [teasy, P_c_sSub, nthW, lc_sSubLa]
  with_reducible repeat' (first | apply And.intro | exact zR | (intro; skip))
  all_goals (try simp only [std, inj] at *)
  all_goals with_reducible repeat' apply And.intro
  all_goals (try (first | exact z | grind [subI, snocI, snocS, rowSnoc])))
abbrev P_c_iSub (A : List Int) (B : List Int) : Ct := ⟨266, [], [ll (A.map intC), ll (B.map intC)], [], .sv (lb (subI A B))⟩
def lc_iSubLa (A : List Int) (B : List Int) : Lp Nat := .mk 18 0 (fun x => [(1, ll (List.map intC B)), (7, ll (List.map intC A)), (8, li (↑(List.map intC A).length : Int)), (9, hs
 x 0)]) (fun x => []) (fun k => [.s (li (↑k : Int))]) (fun k => k ≤ A.length ∧ A.length ≤ 9223372036854775807 ∧ subI (List.take k A) B = true) (fun k => A.length - k) [.mk (subI A
 B = true) (.exit 0) (fun x => []) (fun x => []) [], .mk (subI A B = false) .ret (fun x => [(4, hs x 0)]) (fun x => []) [.s (lb false)]]
theorem Sc_iSubLa (A : List Int) (B : List Int) : Lp.Sem Tryz.prog (loopAt Tryz.f266 0) (lc_iSubLa A B) := lpOK (fun k => .i ((↑k : Int) < (↑(List.map intC A).length : Int)) (.x
 (↑k : Int) (List.map intC A) [cI (A.getD k 0)] (.c [.rd, .rd] (c_rIHas B (A.getD k 0)) (.b (!decide (A.getD k 0 ∈ B)) (.o 1 [] [.s (lb false)]) (.r ((↑k : Int) + 1) (.g [] (k + 1)
 [.s (li ((↑k : Int) + 1))]))))) (.o 0 [] [])) (by
  intro k h; try dsimp only [teasy, nthW, lc_iSubLa] at h ⊢
  with_reducible repeat' (first | apply And.intro | exact zR | (intro; skip))
  all_goals (try simp only [std, inj] at *)
  all_goals with_reducible repeat' apply And.intro
  all_goals (try (first | exact z | grind [take_get, getD_mem', subI, snocI, snocS, rowSnoc])))
theorem c_iSub (A B : List Int)  : P_c_iSub A B := fnOK Tryz.call266 Tryz.func266 (.z intC A (.l (lc_iSubLa A B) (Sc_iSubLa A B) [] [.s (li 0)] 0 (.t (.s (lb true)) (.t (.s (lb
 false)) .q)))) (by
  dsimp only [teasy, P_c_iSub, nthW, lc_iSubLa]
  with_reducible repeat' (first | apply And.intro | exact zR | (intro; skip))
  all_goals (try simp only [std, inj] at *)
  all_goals with_reducible repeat' apply And.intro
  all_goals (try (first | exact z | grind [subI, snocI, snocS, rowSnoc])))
def cndP (t : ByteArray) (s : List Int) (b : Binding) : Bool := decide (b.text = t) && subI b.scopes s
def cnd (L : List Binding) (t : ByteArray) (s : List Int) : List Binding := L.filter (cndP t s)
theorem cnd_step {L : List Binding} {t : ByteArray} {s : List Int} {k : Nat} (h : k < L.length) : cnd (L.take (k + 1)) t s = if cndP t s (L.getD k default) = true then cnd (L.take k) t s ++ [L.getD k default] else cnd (L.take k) t s := by
  unfold cnd; rw [take_get h, List.filter_append]
  by_cases e : cndP t s (L.getD k default) = true
  · rw [if_pos e, List.filter_cons_of_pos e]; rfl
  · rw [if_neg e, List.filter_cons_of_neg e]; simp
theorem cnd_len (L : List Binding) (t : ByteArray) (s : List Int) (k : Nat) : (cnd (L.take k) t s).length ≤ k := by
  have h1 := List.length_filter_le (cndP t s) (L.take k)
  have h2 : (L.take k).length ≤ k := by rw [List.length_take]; exact Nat.min_le_left _ _
  unfold cnd; omega
abbrev P_c_sCand (L : List Binding) (y : Syntax) : Ct := ⟨260, [], [ll (L.map bindingC), syntaxA y], [], .sv (ll ((cnd L y.text y.scopes).map bindingC))⟩
def lc_sCandLa (L : List Binding) (y : Syntax) : Lp Nat := .mk 33 0 (fun x => [(3, SV.one (AC.ptr 0 0)), (5, SV.one (AC.ref 1)), (9, ll (List.map bindingC L)), (10, li (↑(List.map
 bindingC L).length : Int)), (11, hs x 0)]) (fun x => [Ob.box (vals (syntaxF y)), ho x 1]) (fun k => [.s (li (↑k : Int)), .o (Ob.arr false 4 (List.map bindingC (cnd (List.take k L)
 y.text y.scopes)))]) (fun k => k ≤ L.length ∧ L.length ≤ 9223372036854775807) (fun k => L.length - k) [.mk True (.exit 0) (fun x => [(5, SV.one (AC.ref 0))]) (fun x => [ho x 0])
 [.o (Ob.arr false 4 (List.map bindingC (cnd L y.text y.scopes)))]]
theorem Sc_sCandLa (L : List Binding) (y : Syntax) (h : L.length ≤ 1048577) : Lp.Sem Tryz.prog (loopAt Tryz.f260 0) (lc_sCandLa L y) := lpOK (fun k => .i ((↑k : Int) < (↑(List.map
 bindingC L).length : Int)) (.x (↑k : Int) (List.map bindingC L) (bindingF (L.getD k default)) (.i ((L.getD k default).text.data.toList = y.text.data.toList) (.c [.rd, .rd] (c_sSub
 (L.getD k default).scopes y.scopes) (.b (subI (L.getD k default).scopes y.scopes) (.p (((List.map bindingC (cnd (List.take k L) y.text y.scopes)).length + 1) * 56 ≤
 140737488355328) (.r ((↑k : Int) + 1) (.g [0, 4] (k + 1) [.s (li ((↑k : Int) + 1)), .o (Ob.arr false 4 (List.map bindingC (cnd (List.take k L) y.text y.scopes) ++ [bindingF
 (L.getD k default)]))]))) (.r ((↑k : Int) + 1) (.g [0, 1] (k + 1) [.s (li ((↑k : Int) + 1)), .o (Ob.arr false 4 (List.map bindingC (cnd (List.take k L) y.text y.scopes)))])))) (.y
 false (.r ((↑k : Int) + 1) (.g [0, 1] (k + 1) [.s (li ((↑k : Int) + 1)), .o (Ob.arr false 4 (List.map bindingC (cnd (List.take k L) y.text y.scopes)))]))))) (.o 0 [1] [.o (Ob.arr
 false 4 (List.map bindingC (cnd (List.take k L) y.text y.scopes)))])) (by
  intro k h; try dsimp only [teasy, nthW, lc_sCandLa] at h ⊢
  have g1 := @cnd_step L y.text y.scopes k
  have g2 := cnd_len L y.text y.scopes k
  have g3 : L.length ≤ k → L.take k = L := fun h => List.take_of_length_le h
  with_reducible repeat' (first | apply And.intro | exact zR | (intro; skip))
  all_goals (try simp only [std, inj] at *)
  all_goals with_reducible repeat' apply And.intro
  all_goals (try (first | exact z | grind [cndP, bytes_ext, snocI, snocS, rowSnoc])))
theorem c_sCand (L : List Binding) (y : Syntax) (h : L.length ≤ 1048577)  : P_c_sCand L y := fnOK Tryz.call260 Tryz.func260 (.w (.bool true) (.z bindingC L (.l (lc_sCandLa L y)
 (Sc_sCandLa L y h) [0, 1] [.s (li 0), .o (Ob.arr false 4 [])] 0 (.t (.w (.ghost (.lock 0)) (.s (ll (List.map bindingC (cnd L y.text y.scopes))))) .q)))) (by
  dsimp only [teasy, P_c_sCand, nthW, lc_sCandLa]
  have g1 : cnd (L.take 0) y.text y.scopes = [] := rfl
  with_reducible repeat' (first | apply And.intro | exact zR | (intro; skip))
  all_goals (try simp only [std, inj] at *)
  all_goals with_reducible repeat' apply And.intro
  all_goals (try (first | exact z | grind [snocI, snocS, rowSnoc])))
def bstG (a b : Binding) : Binding := if a.scopes.length < b.scopes.length then b else a
def bstC (C : List Binding) : Binding := C.foldl bstG (C.getD 0 default)
theorem bstC_one (x : Binding) : bstC [x] = x := by simp [bstC, bstG]
theorem bstC_snoc {C : List Binding} (x : Binding) (h : C ≠ []) : bstC (C ++ [x]) = bstG (bstC C) x := by
  cases C with
  | nil => exact absurd rfl h
  | cons a r => simp only [bstC, List.foldl_append]; rfl
def amb (C : List Binding) : Bool := C.all fun b => subI b.scopes (bstC C).scopes
def rsC (L : List Binding) (t : ByteArray) (s : List Int) : Int := if cnd L t s = [] then 0 else if amb (cnd L t s) = true then 1 else 2
def rsB (L : List Binding) (t : ByteArray) (s : List Int) : Binding := if rsC L t s = 1 then bstC (cnd L t s) else ⟨mkS [], [], 0, 0⟩
theorem bstG_mem {C : List Binding} : ∀ (a : Binding), C.foldl bstG a = a ∨ C.foldl bstG a ∈ C := by
  induction C with
  | nil => intro a; exact .inl rfl
  | cons x r ih =>
    intro a
    rw [List.foldl_cons]
    rcases ih (bstG a x) with h | h
    · rw [h]; unfold bstG; split
      · exact .inr List.mem_cons_self
      · exact .inl rfl
    · exact .inr (List.mem_cons_of_mem _ h)
theorem bstC_mem {C : List Binding} (h : C ≠ []) : bstC C ∈ C := by
  cases C with
  | nil => exact absurd rfl h
  | cons a r =>
    rcases bstG_mem (C := a :: r) ((a :: r).getD 0 default) with h | h
    · unfold bstC; rw [h]; exact List.mem_cons_self
    · exact h
theorem cnd_w (L : List Binding) (t : ByteArray) (s : List Int) : sumBy wB (cnd L t s) ≤ sumBy wB L := by
  induction L with
  | nil => exact Nat.le_refl _
  | cons x r ih =>
    unfold cnd at ih ⊢
    by_cases e : cndP t s x = true
    · rw [List.filter_cons_of_pos e]; simp only [sumBy]; omega
    · rw [List.filter_cons_of_neg e]; simp only [sumBy]; omega
theorem bstC_w {L : List Binding} {t : ByteArray} {s : List Int} (h : cnd L t s ≠ []) : wB (bstC (cnd L t s)) ≤ sumBy wB L := by
  have h1 := sumBy_mem wB (bstC_mem h)
  have h2 := cnd_w L t s
  omega
theorem amb_stop {C : List Binding} {k : Nat} (hk : k < C.length) (h : subI (C.getD k default).scopes (bstC C).scopes = false) : amb C = false := by
  unfold amb; rw [List.all_eq_false]; exact ⟨_, getD_mem' hk, by rw [h]; decide⟩
def ambN (C : List Binding) (k : Nat) : Bool := (C.take k).all fun b => subI b.scopes (bstC C).scopes
theorem ambN_step {C : List Binding} {k : Nat} (hk : k < C.length) (h0 : ambN C k = true) (h : subI (C.getD k default).scopes (bstC C).scopes = true) : ambN C (k + 1) = true := by
  unfold ambN at *; rw [take_get hk, List.all_append, h0]; simpa using h
theorem ambN_end {C : List Binding} {k : Nat} (hk : C.length ≤ k) (h0 : ambN C k = true) : amb C = true := by
  unfold ambN at h0; rwa [List.take_of_length_le hk] at h0
abbrev P_c_sRes (L : List Binding) (y : Syntax) : Ct := ⟨197, [], [ll (L.map bindingC), syntaxA y], [], .tup [bindingA (rsB L y.text y.scopes), li (rsC L y.text y.scopes)]⟩
def lc_sResLb (L : List Binding) (y : Syntax) : Lp Nat := .mk 56 0 (fun x => [(4, SV.one (AC.ptr 0 0)), (7, SV.one (AC.ptr 1 0)), (37, ll (List.map bindingC (cnd L y.text
 y.scopes))), (38, li (↑(List.map bindingC (cnd L y.text y.scopes)).length : Int)), (39, hs x 0)]) (fun x => [Ob.box [vS (ByteArray.mk #[]), AC.val (Cell.lit (Value.slice none 0
 0)), vI 0, vI 0], Ob.box (vals (bindingF (bstC (cnd L y.text y.scopes))))]) (fun k => [.s (li (↑k : Int))]) (fun k => k ≤ (cnd L y.text y.scopes).length ∧ (cnd L y.text
 y.scopes).length ≤ 9223372036854775807 ∧ 0 < (cnd L y.text y.scopes).length ∧ ambN (cnd L y.text y.scopes) k = true) (fun k => (cnd L y.text y.scopes).length - k) [.mk (amb (cnd L
 y.text y.scopes) = true) (.exit 2) (fun x => [(4, SV.one (AC.ptr 0 0)), (7, SV.one (AC.ptr 1 0))]) (fun x => [Ob.box [vS (ByteArray.mk #[]), AC.val (Cell.lit (Value.slice none 0
 0)), vI 0, vI 0], Ob.box (vals (bindingF (bstC (cnd L y.text y.scopes))))]) [], .mk (amb (cnd L y.text y.scopes) = false) .ret (fun x => [(4, SV.one (AC.ptr 0 0)), (5, hs x 1)])
 (fun x => [ho x 0]) [.o (Ob.box [vS (mkS []), AC.val (Cell.lit (Value.slice none 0 0)), vI 0, vI 0]), .s (li 2)]]
def lc_sResLa (L : List Binding) (y : Syntax) : Lp Nat := .mk 56 0 (fun x => [(4, SV.one (AC.ptr 0 0)), (6, ll (List.map bindingC (cnd L y.text y.scopes))), (7, SV.one (AC.ptr 1
 0)), (22, ll (List.map bindingC (cnd L y.text y.scopes))), (23, li (↑(List.map bindingC (cnd L y.text y.scopes)).length : Int)), (24, hs x 0)]) (fun x => [Ob.box [vS (ByteArray.mk
 #[]), AC.val (Cell.lit (Value.slice none 0 0)), vI 0, vI 0], ho x 1]) (fun k => [.s (li (↑k : Int)), .o (Ob.box (vals (bindingF (List.foldl bstG ((cnd L y.text y.scopes).getD 0
 default) (List.take k (cnd L y.text y.scopes))))))]) (fun k => k ≤ (cnd L y.text y.scopes).length ∧ (cnd L y.text y.scopes).length ≤ 9223372036854775807 ∧ 0 < (cnd L y.text
 y.scopes).length) (fun k => (cnd L y.text y.scopes).length - k) [.mk True (.exit 0) (fun x => [(4, SV.one (AC.ptr 0 0)), (6, ll (List.map bindingC (cnd L y.text y.scopes))), (7,
 SV.one (AC.ptr 1 0))]) (fun x => [Ob.box [vS (ByteArray.mk #[]), AC.val (Cell.lit (Value.slice none 0 0)), vI 0, vI 0], ho x 0]) [.o (Ob.box (vals (bindingF (bstC (cnd L y.text
 y.scopes)))))]]
theorem Sc_sResLb (L : List Binding) (y : Syntax) (h : L.length ≤ 1048577 ∧ sumBy wB L ≤ 1048577) : Lp.Sem Tryz.prog (loopAt Tryz.f197 1) (lc_sResLb L y) := lpOK (fun k => .i ((↑k
 : Int) < (↑(List.map bindingC (cnd L y.text y.scopes)).length : Int)) (.x (↑k : Int) (List.map bindingC (cnd L y.text y.scopes)) (bindingF ((cnd L y.text y.scopes).getD k
 default)) (.c [.rd, .rd] (c_sSub ((cnd L y.text y.scopes).getD k default).scopes (bstC (cnd L y.text y.scopes)).scopes) (.b (!subI ((cnd L y.text y.scopes).getD k default).scopes
 (bstC (cnd L y.text y.scopes)).scopes) (.o 1 [0] [.o (Ob.box [vS (ByteArray.mk #[]), AC.val (Cell.lit (Value.slice none 0 0)), vI 0, vI 0]), .s (li 2)]) (.r ((↑k : Int) + 1) (.g
 [0, 1] (k + 1) [.s (li ((↑k : Int) + 1))]))))) (.o 0 [0, 1] [])) (by
  intro k h; try dsimp only [teasy, nthW, lc_sResLb] at h ⊢
  have g1 := @amb_stop (cnd L y.text y.scopes) k
  have g2 := @ambN_step (cnd L y.text y.scopes) k
  have g3 := @ambN_end (cnd L y.text y.scopes) k
  with_reducible repeat' (first | apply And.intro | exact zR | (intro; skip) | apply c_sCand | apply c_sCopyB)
  all_goals (try simp only [std, inj] at *)
  all_goals with_reducible repeat' apply And.intro
  all_goals (try (first | with_reducible apply c_sCand | with_reducible apply c_sCopyB | (simp only [← List.map_append]; first | with_reducible apply c_sCand | with_reducible apply c_sCopyB)))
  all_goals (try (first | exact z | grind [snocI, snocS, rowSnoc])))
theorem Sc_sResLa (L : List Binding) (y : Syntax) (h : L.length ≤ 1048577 ∧ sumBy wB L ≤ 1048577) : Lp.Sem Tryz.prog (loopAt Tryz.f197 0) (lc_sResLa L y) := lpOK (fun k => .i ((↑k
 : Int) < (↑(List.map bindingC (cnd L y.text y.scopes)).length : Int)) (.x (↑k : Int) (List.map bindingC (cnd L y.text y.scopes)) (bindingF ((cnd L y.text y.scopes).getD k
 default)) (.z intC ((cnd L y.text y.scopes).getD k default).scopes (.z intC (List.foldl bstG ((cnd L y.text y.scopes).getD 0 default) (List.take k (cnd L y.text y.scopes))).scopes
 (.i ((↑(List.map intC (List.foldl bstG ((cnd L y.text y.scopes).getD 0 default) (List.take k (cnd L y.text y.scopes))).scopes).length : Int) < (↑(List.map intC ((cnd L y.text
 y.scopes).getD k default).scopes).length : Int)) (.r ((↑k : Int) + 1) (.g [0, 1] (k + 1) [.s (li ((↑k : Int) + 1)), .o (Ob.box (vals (bindingF ((cnd L y.text y.scopes).getD k
 default))))])) (.r ((↑k : Int) + 1) (.g [0, 1] (k + 1) [.s (li ((↑k : Int) + 1)), .o (Ob.box (vals (bindingF (List.foldl bstG ((cnd L y.text y.scopes).getD 0 default) (List.take k
 (cnd L y.text y.scopes))))))])))))) (.o 0 [0, 1] [.o (Ob.box (vals (bindingF (List.foldl bstG ((cnd L y.text y.scopes).getD 0 default) (List.take k (cnd L y.text y.scopes))))))]))
 (by
  intro k h; try dsimp only [teasy, nthW, lc_sResLa] at h ⊢
  have g1 := @foldl_step _ _ _ bstG ((cnd L y.text y.scopes).getD 0 default) (cnd L y.text y.scopes) k
  have g2 : ∀ a b, bstG a b = if a.scopes.length < b.scopes.length then b else a := fun _ _ => rfl
  have g3 : (cnd L y.text y.scopes).length ≤ k → (cnd L y.text y.scopes).take k = cnd L y.text y.scopes := fun h => List.take_of_length_le h
  have g4 : bstC (cnd L y.text y.scopes) = (cnd L y.text y.scopes).foldl bstG ((cnd L y.text y.scopes).getD 0 default) := rfl
  with_reducible repeat' (first | apply And.intro | exact zR | (intro; skip) | apply c_sCand | apply c_sCopyB)
  all_goals (try simp only [std, inj] at *)
  all_goals with_reducible repeat' apply And.intro
  all_goals (try (first | with_reducible apply c_sCand | with_reducible apply c_sCopyB | (simp only [← List.map_append]; first | with_reducible apply c_sCand | with_reducible apply c_sCopyB)))
  all_goals (try (first | exact z | grind [snocI, snocS, rowSnoc])))
theorem c_sRes (L : List Binding) (y : Syntax) (h : L.length ≤ 1048577 ∧ sumBy wB L ≤ 1048577)  : P_c_sRes L y := fnOK Tryz.call197 Tryz.func197 (.d [.rd, .rd] (P_c_sCand L y) (.z
 bindingC (cnd L y.text y.scopes) (.i ((↑(List.map bindingC (cnd L y.text y.scopes)).length : Int) = 0) (.w (.ghost (.nilbox 1 1 true 1)) (.w (.ghost (.lock 2)) (.f [] [] (AV.tup
 [SV.agg [vS (ByteArray.mk #[]), vL [], vI 0, vI 0], li 0])))) (.w (.cells (bindingF ((cnd L y.text y.scopes).getD 0 default))) (.p ((0 : Int) ≤ 0 ∧ (List.map bindingC (cnd L
 y.text y.scopes))[0]? = some (bindingF ((cnd L y.text y.scopes).getD 0 default))) (.z bindingC (cnd L y.text y.scopes) (.l (lc_sResLa L y) (Sc_sResLa L y h) [1, 2] [.s (li 0), .o
 (Ob.box (vals (bindingF ((cnd L y.text y.scopes).getD 0 default))))] 0 (.t (.z bindingC (cnd L y.text y.scopes) (.l (lc_sResLb L y) (Sc_sResLb L y h) [0, 1] [.s (li 0)] 0 (.t (.d
 [.rd] (P_c_sCopyB [bstC (cnd L y.text y.scopes)]) (.p ((0 : Int) ≤ 0 ∧ 0 < 1) (.w (.cells (bindingF (bstC (cnd L y.text y.scopes)))) (.p (some (bindingF (bstC (cnd L y.text
 y.scopes))) = some (bindingF (bstC (cnd L y.text y.scopes)))) (.w (.ghost (.lock 3)) (.f [] [] (AV.tup [SV.agg (vals (bindingF (bstC (cnd L y.text y.scopes)))), li 1]))))))) (.t
 (.w (.ghost (.nilbox 0 1 true 1)) (.w (.ghost (.lock 1)) (.f [] [] (AV.tup [SV.agg [vS (mkS []), vL [], vI 0, vI 0], li 2])))) .q)))) .q)))))))) (by
  dsimp only [teasy, P_c_sRes, nthW, lc_sResLa, lc_sResLb]
  have g1 : 0 < (cnd L y.text y.scopes).length → cnd L y.text y.scopes ≠ [] := fun h => List.length_pos_iff.1 h
  have g2 : (cnd L y.text y.scopes).length = 0 → cnd L y.text y.scopes = [] := fun h => List.length_eq_zero_iff.1 h
  have g3 := @bstC_w L y.text y.scopes
  have g4 : rsC L y.text y.scopes = if cnd L y.text y.scopes = [] then 0 else if amb (cnd L y.text y.scopes) = true then 1 else 2 := rfl
  have g5 : rsC L y.text y.scopes = 1 → rsB L y.text y.scopes = bstC (cnd L y.text y.scopes) := fun h => if_pos h
  have g6 : ¬ rsC L y.text y.scopes = 1 → rsB L y.text y.scopes = ⟨mkS [], [], 0, 0⟩ := fun h => if_neg h
  have g7 : ambN (cnd L y.text y.scopes) 0 = true := rfl
  have g8 : ∀ b : Binding, [b].getD 0 default = b := fun b => rfl
  have g9 : sumBy wB [bstC (cnd L y.text y.scopes)] = wB (bstC (cnd L y.text y.scopes)) := rfl
  have p1 : ¬ rsC L y.text y.scopes = 1 → SV.agg [vS (mkS []), vL [], vI 0, vI 0] = SV.agg (vals (bindingF (rsB L y.text y.scopes))) := fun h => by rw [g6 h]; rfl
  have p2 : rsC L y.text y.scopes = 1 → SV.agg [vS (bstC (cnd L y.text y.scopes)).text, vL ((bstC (cnd L y.text y.scopes)).scopes.map intC), vI (bstC (cnd L y.text y.scopes)).kind, vI (bstC (cnd L y.text y.scopes)).number] = SV.agg (vals (bindingF (rsB L y.text y.scopes))) := fun h => by rw [g5 h]; rfl
  with_reducible repeat' (first | apply And.intro | exact zR | (intro; skip) | apply c_sCand | apply c_sCopyB)
  all_goals (try simp only [std, inj] at *)
  all_goals with_reducible repeat' apply And.intro
  all_goals (try (first | with_reducible apply c_sCand | with_reducible apply c_sCopyB | (simp only [← List.map_append]; first | with_reducible apply c_sCand | with_reducible apply c_sCopyB)))
  all_goals (try (first | exact z | grind [snocI, snocS, rowSnoc])))
def bsI (L : List Binding) (t : ByteArray) (s : List Int) : Nat → Int
  | 0 => -1
  | k + 1 => if cndP t s (L.getD k default) = true ∧ (bsI L t s k < 0 ∨ (L.getD (bsI L t s k).toNat default).scopes.length < (L.getD k default).scopes.length) then (k : Int) else bsI L t s k
theorem bsI_of (L : List Binding) (t : ByteArray) (s : List Int) : ∀ k, k ≤ L.length → -1 ≤ bsI L t s k ∧ bsI L t s k < k ∧ (bsI L t s k < 0 ↔ cnd (L.take k) t s = []) ∧ (0 ≤ bsI L t s k → L.getD (bsI L t s k).toNat default = bstC (cnd (L.take k) t s))
  | 0, _ => by simp [bsI, cnd]
  | k + 1, hk => by
    obtain ⟨h1, h2, h3, h4⟩ := bsI_of L t s k (by omega)
    have e := @cnd_step L t s k (by omega)
    simp only [bsI]
    by_cases c : cndP t s (L.getD k default) = true
    · rw [if_pos c] at e
      by_cases c2 : bsI L t s k < 0
      · rw [if_pos ⟨c, .inl c2⟩, e, h3.1 c2]
        refine ⟨by omega, by omega, ⟨fun h => by omega, fun h => by simp at h⟩, fun _ => ?_⟩
        rw [Int.toNat_natCast, List.nil_append, bstC_one]
      · have hne : cnd (L.take k) t s ≠ [] := fun h => c2 (h3.2 h)
        have hb := h4 (by omega)
        by_cases c3 : (L.getD (bsI L t s k).toNat default).scopes.length < (L.getD k default).scopes.length
        · rw [if_pos ⟨c, .inr c3⟩, e]
          refine ⟨by omega, by omega, ⟨fun h => by omega, fun h => by simp at h⟩, fun _ => ?_⟩
          rw [Int.toNat_natCast, bstC_snoc _ hne, bstG, if_pos (by rw [← hb]; exact c3)]
        · rw [if_neg (by rintro ⟨_, h | h⟩ <;> contradiction), e]
          refine ⟨h1, by omega, ⟨fun h => absurd h c2, fun h => by simp at h⟩, fun _ => ?_⟩
          rw [bstC_snoc _ hne, bstG, if_neg (by rw [← hb]; exact c3)]; exact hb
    · rw [if_neg (fun h => c h.1), e, if_neg c]
      exact ⟨h1, by omega, h3, h4⟩
def ambL (L : List Binding) (t : ByteArray) (s : List Int) (k : Nat) : Bool := (L.take k).all fun b => !cndP t s b || subI b.scopes (bstC (cnd L t s)).scopes
theorem ambL_step {L : List Binding} {t : ByteArray} {s : List Int} {k : Nat} (hk : k < L.length) (h0 : ambL L t s k = true) (h : cndP t s (L.getD k default) = false ∨ subI (L.getD k default).scopes (bstC (cnd L t s)).scopes = true) : ambL L t s (k + 1) = true := by
  unfold ambL at *; rw [take_get hk, List.all_append, h0]; simpa using h
theorem ambL_end {L : List Binding} {t : ByteArray} {s : List Int} {k : Nat} (hk : L.length ≤ k) (h0 : ambL L t s k = true) : amb (cnd L t s) = true := by
  unfold ambL at h0; rw [List.take_of_length_le hk, List.all_eq_true] at h0
  unfold amb; rw [List.all_eq_true]
  intro x hx
  have h1 := List.mem_filter.1 hx
  have := h0 x h1.1
  rw [h1.2] at this; simpa using this
theorem ambL_stop {L : List Binding} {t : ByteArray} {s : List Int} {k : Nat} (hk : k < L.length) (h1 : cndP t s (L.getD k default) = true) (h : subI (L.getD k default).scopes (bstC (cnd L t s)).scopes = false) : amb (cnd L t s) = false := by
  unfold amb; rw [List.all_eq_false]; exact ⟨_, List.mem_filter.2 ⟨getD_mem' hk, h1⟩, by rw [h]; decide⟩
abbrev P_c_iRes (L : List Binding) (y : Syntax) : Ct := ⟨200, [], [ll (L.map bindingC), syntaxA y], bindingO (rsB L y.text y.scopes), .tup [bindingR (rsB L y.text y.scopes) 0, li (rsC L y.text y.scopes)]⟩
def lc_iResLb (L : List Binding) (y : Syntax) : Lp Nat := .mk 87 0 (fun x => [(0, ll (List.map bindingC L)), (3, SV.one (AC.ptr 0 0)), (4, SV.one (AC.ptr 1 0)), (6, li (bsI L
 y.text y.scopes L.length)), (51, ll (List.map bindingC L)), (52, li (↑(List.map bindingC L).length : Int)), (53, hs x 0)]) (fun x => [Ob.box (vals (syntaxF y)), Ob.box [vS
 (ByteArray.mk #[]), AC.val (Cell.lit (Value.slice none 0 0)), vI 0, vI 0]]) (fun k => [.s (li (↑k : Int))]) (fun k => k ≤ L.length ∧ L.length ≤ 9223372036854775807 ∧ 0 ≤ bsI L
 y.text y.scopes L.length ∧ ambL L y.text y.scopes k = true) (fun k => L.length - k) [.mk (amb (cnd L y.text y.scopes) = true) (.exit 2) (fun x => [(0, ll (List.map bindingC L)),
 (4, SV.one (AC.ptr 0 0)), (6, li (bsI L y.text y.scopes L.length))]) (fun x => [Ob.box [vS (ByteArray.mk #[]), AC.val (Cell.lit (Value.slice none 0 0)), vI 0, vI 0]]) [], .mk (amb
 (cnd L y.text y.scopes) = false) .ret (fun x => [(4, SV.one (AC.ptr 0 0)), (5, hs x 1)]) (fun x => [ho x 0]) [.o (Ob.box [vS (mkS []), AC.val (Cell.lit (Value.slice none 0 0)), vI
 0, vI 0]), .s (li 2)]]
def lc_iResLa (L : List Binding) (y : Syntax) : Lp Nat := .mk 87 0 (fun x => [(0, ll (List.map bindingC L)), (3, SV.one (AC.ptr 0 0)), (4, SV.one (AC.ptr 1 0)), (6, hs x 1), (11,
 ll (List.map bindingC L)), (12, li (↑(List.map bindingC L).length : Int)), (13, hs x 0)]) (fun x => [Ob.box (vals (syntaxF y)), Ob.box [vS (ByteArray.mk #[]), AC.val (Cell.lit
 (Value.slice none 0 0)), vI 0, vI 0]]) (fun k => [.s (li (↑k : Int)), .s (li (bsI L y.text y.scopes k))]) (fun k => k ≤ L.length ∧ L.length ≤ 9223372036854775807) (fun k =>
 L.length - k) [.mk True (.exit 0) (fun x => [(0, ll (List.map bindingC L)), (3, SV.one (AC.ptr 0 0)), (4, SV.one (AC.ptr 1 0)), (6, hs x 0)]) (fun x => [Ob.box (vals (syntaxF y)),
 Ob.box [vS (ByteArray.mk #[]), AC.val (Cell.lit (Value.slice none 0 0)), vI 0, vI 0]]) [.s (li (bsI L y.text y.scopes L.length))]]
theorem Sc_iResLb (L : List Binding) (y : Syntax) (h : L.length ≤ 1048577 ∧ sumBy wB L ≤ 1048577) : Lp.Sem Tryz.prog (loopAt Tryz.f200 1) (lc_iResLb L y) := lpOK (fun k => .i ((↑k
 : Int) < (↑(List.map bindingC L).length : Int)) (.x (↑k : Int) (List.map bindingC L) (bindingF (L.getD k default)) (.w (.draw []) (.i ((L.getD k default).text.data.toList =
 y.text.data.toList) (.c [.rd, .rd] (c_iSub (L.getD k default).scopes y.scopes) (.b (subI (L.getD k default).scopes y.scopes) (.x (bsI L y.text y.scopes L.length) (List.map
 bindingC L) (bindingF (L.getD (bsI L y.text y.scopes L.length).toNat default)) (.c [.rd, .rd] (c_iSub (L.getD k default).scopes (L.getD (bsI L y.text y.scopes L.length).toNat
 default).scopes) (.b (!subI (L.getD k default).scopes (L.getD (bsI L y.text y.scopes L.length).toNat default).scopes) (.o 1 [1] [.o (Ob.box [vS (ByteArray.mk #[]), AC.val
 (Cell.lit (Value.slice none 0 0)), vI 0, vI 0]), .s (li 2)]) (.r ((↑k : Int) + 1) (.g [0, 1] (k + 1) [.s (li ((↑k : Int) + 1))]))))) (.y false (.r ((↑k : Int) + 1) (.g [0, 1] (k +
 1) [.s (li ((↑k : Int) + 1))]))))) (.y false (.y false (.r ((↑k : Int) + 1) (.g [0, 1] (k + 1) [.s (li ((↑k : Int) + 1))]))))))) (.o 0 [1] [])) (by
  intro k h; try dsimp only [teasy, nthW, lc_iResLb] at h ⊢
  have g1 := bsI_of L y.text y.scopes L.length
  have g2 : L.take L.length = L := List.take_length
  have g3 := @ambL_step L y.text y.scopes k
  have g4 := @ambL_end L y.text y.scopes k
  have g5 := @ambL_stop L y.text y.scopes k
  with_reducible repeat' (first | apply And.intro | exact zR | (intro; skip) | apply c_iCopyB1)
  all_goals (try simp only [std, inj] at *)
  all_goals with_reducible repeat' apply And.intro
  all_goals (try (first | with_reducible apply c_iCopyB1 | (simp only [← List.map_append]; first | with_reducible apply c_iCopyB1)))
  all_goals (try (first | exact z | grind [cndP, bytes_ext, snocI, snocS, rowSnoc])))
theorem Sc_iResLa (L : List Binding) (y : Syntax) (h : L.length ≤ 1048577 ∧ sumBy wB L ≤ 1048577) : Lp.Sem Tryz.prog (loopAt Tryz.f200 0) (lc_iResLa L y) := lpOK (fun k => .i ((↑k
 : Int) < (↑(List.map bindingC L).length : Int)) (.x (↑k : Int) (List.map bindingC L) (bindingF (L.getD k default)) (.w (.draw []) (.i ((L.getD k default).text.data.toList =
 y.text.data.toList) (.c [.rd, .rd] (c_iSub (L.getD k default).scopes y.scopes) (.b (subI (L.getD k default).scopes y.scopes) (.i (bsI L y.text y.scopes k < 0) (.y true (.r ((↑k :
 Int) + 1) (.g [0, 1] (k + 1) [.s (li ((↑k : Int) + 1)), .s (li (↑k : Int))]))) (.x (bsI L y.text y.scopes k) (List.map bindingC L) (bindingF (L.getD (bsI L y.text y.scopes
 k).toNat default)) (.z intC (L.getD k default).scopes (.z intC (L.getD (bsI L y.text y.scopes k).toNat default).scopes (.i ((↑(List.map intC (L.getD (bsI L y.text y.scopes
 k).toNat default).scopes).length : Int) < (↑(List.map intC (L.getD k default).scopes).length : Int)) (.r ((↑k : Int) + 1) (.g [0, 1] (k + 1) [.s (li ((↑k : Int) + 1)), .s (li (↑k
 : Int))])) (.r ((↑k : Int) + 1) (.g [0, 1] (k + 1) [.s (li ((↑k : Int) + 1)), .s (li (bsI L y.text y.scopes k))]))))))) (.y false (.r ((↑k : Int) + 1) (.g [0, 1] (k + 1) [.s (li
 ((↑k : Int) + 1)), .s (li (bsI L y.text y.scopes k))]))))) (.y false (.y false (.r ((↑k : Int) + 1) (.g [0, 1] (k + 1) [.s (li ((↑k : Int) + 1)), .s (li (bsI L y.text y.scopes
 k))]))))))) (.o 0 [0, 1] [.s (li (bsI L y.text y.scopes k))])) (by
  intro k h; try dsimp only [teasy, nthW, lc_iResLa] at h ⊢
  have g1 := bsI_of L y.text y.scopes k
  have g2 : bsI L y.text y.scopes (k + 1) = if cndP y.text y.scopes (L.getD k default) = true ∧ (bsI L y.text y.scopes k < 0 ∨ (L.getD (bsI L y.text y.scopes k).toNat default).scopes.length < (L.getD k default).scopes.length) then (k : Int) else bsI L y.text y.scopes k := rfl
  with_reducible repeat' (first | apply And.intro | exact zR | (intro; skip) | apply c_iCopyB1)
  all_goals (try simp only [std, inj] at *)
  all_goals with_reducible repeat' apply And.intro
  all_goals (try (first | with_reducible apply c_iCopyB1 | (simp only [← List.map_append]; first | with_reducible apply c_iCopyB1)))
  all_goals (try (first | exact z | grind [cndP, bytes_ext, snocI, snocS, rowSnoc])))
theorem c_iRes (L : List Binding) (y : Syntax) (h : L.length ≤ 1048577 ∧ sumBy wB L ≤ 1048577)  : P_c_iRes L y := fnOK Tryz.call200 Tryz.func200 (.z bindingC L (.l (lc_iResLa L y)
 (Sc_iResLa L y h) [0, 1] [.s (li 0), .s (li (-1 : Int))] 0 (.t (.i (bsI L y.text y.scopes L.length < 0) (.w (.ghost (.nilbox 1 1 true 1)) (.f [2] [Ob.arr true 1 []] (AV.tup
 [SV.agg [vS (ByteArray.mk #[]), AC.ref 0, vI 0, vI 0], li 0]))) (.z bindingC L (.l (lc_iResLb L y) (Sc_iResLb L y h) [0, 1] [.s (li 0)] 0 (.t (.x (bsI L y.text y.scopes L.length)
 (List.map bindingC L) (bindingF (L.getD (bsI L y.text y.scopes L.length).toNat default)) (.d [.rd] (P_c_iCopyB1 (L.getD (bsI L y.text y.scopes L.length).toNat default)) (.f [1]
 [Ob.arr true 1 (List.map intC (L.getD (bsI L y.text y.scopes L.length).toNat default).scopes)] (AV.tup [SV.agg [vS (L.getD (bsI L y.text y.scopes L.length).toNat default).text,
 AC.ref 0, vI (L.getD (bsI L y.text y.scopes L.length).toNat default).kind, vI (L.getD (bsI L y.text y.scopes L.length).toNat default).number], li 1])))) (.t (.w (.ghost (.nilbox 0
 1 true 1)) (.f [1] [Ob.arr true 1 []] (AV.tup [SV.agg [vS (mkS []), AC.ref 0, vI 0, vI 0], li 2]))) .q))))) .q))) (by
  dsimp only [teasy, P_c_iRes, nthW, lc_iResLa, lc_iResLb]
  have g1 := bsI_of L y.text y.scopes L.length
  have g2 : L.take L.length = L := List.take_length
  have g3 := @bstC_w L y.text y.scopes
  have g4 : rsC L y.text y.scopes = if cnd L y.text y.scopes = [] then 0 else if amb (cnd L y.text y.scopes) = true then 1 else 2 := rfl
  have g5 : rsC L y.text y.scopes = 1 → rsB L y.text y.scopes = bstC (cnd L y.text y.scopes) := fun h => if_pos h
  have g6 : ¬ rsC L y.text y.scopes = 1 → rsB L y.text y.scopes = ⟨mkS [], [], 0, 0⟩ := fun h => if_neg h
  have g7 : ambL L y.text y.scopes 0 = true := rfl
  have g8 : bsI L y.text y.scopes 0 = -1 := rfl
  with_reducible repeat' (first | apply And.intro | exact zR | (intro; skip) | apply c_iCopyB1)
  all_goals (try simp only [std, inj] at *)
  all_goals with_reducible repeat' apply And.intro
  all_goals (try (first | with_reducible apply c_iCopyB1 | (simp only [← List.map_append]; first | with_reducible apply c_iCopyB1)))
  all_goals (try (first | exact z | grind [snocI, snocS, rowSnoc])))
def mng (L : List Binding) (a b : Syntax) : Bool := if rsC L a.text a.scopes = 0 ∧ rsC L b.text b.scopes = 0 then decide (a.text = b.text) else decide (rsC L a.text a.scopes = 1) && decide (rsC L b.text b.scopes = 1) && decide ((rsB L a.text a.scopes).kind = (rsB L b.text b.scopes).kind) && decide ((rsB L a.text a.scopes).number = (rsB L b.text b.scopes).number)
abbrev P_c_sMean (L : List Binding) (a : Syntax) (b : Syntax) : Ct := ⟨184, [], [ll (L.map bindingC), syntaxA a, syntaxA b], [], .sv (lb (mng L a b))⟩
theorem c_sMean (L : List Binding) (a b : Syntax) (h : L.length ≤ 1048577 ∧ sumBy wB L ≤ 1048577)  : P_c_sMean L a b := fnOK Tryz.call184 Tryz.func184 (.d [.rd, .rd] (P_c_sRes L a)
 (.d [.rd, .rd] (P_c_sRes L b) (.i (rsC L a.text a.scopes = 0) (.i (rsC L b.text b.scopes = 0) (.s (lb (decide (a.text.data.toList = b.text.data.toList)))) (.i (rsC L a.text
 a.scopes = 1) (.i (rsC L b.text b.scopes = 1) (.i ((rsB L a.text a.scopes).kind = (rsB L b.text b.scopes).kind) (.s (lb (decide ((rsB L a.text a.scopes).number = (rsB L b.text
 b.scopes).number)))) (.s (lb false))) (.y false (.s (lb false)))) (.y false (.y false (.s (lb false)))))) (.y false (.i (rsC L a.text a.scopes = 1) (.i (rsC L b.text b.scopes = 1)
 (.i ((rsB L a.text a.scopes).kind = (rsB L b.text b.scopes).kind) (.s (lb (decide ((rsB L a.text a.scopes).number = (rsB L b.text b.scopes).number)))) (.s (lb false))) (.y false
 (.s (lb false)))) (.y false (.y false (.s (lb false))))))))) (by
  dsimp only [teasy, P_c_sMean]
  with_reducible repeat' (first | apply And.intro | exact zR | (intro; skip) | apply c_sRes)
  all_goals (try simp only [std, inj] at *)
  all_goals with_reducible repeat' apply And.intro
  all_goals (try (first | with_reducible apply c_sRes | (simp only [← List.map_append]; first | with_reducible apply c_sRes)))
  all_goals (try (first | exact z | grind [mng, bytes_ext, snocI, snocS, rowSnoc])))
abbrev P_c_iMean (L : List Binding) (a : Syntax) (b : Syntax) : Ct := ⟨192, [], [ll (L.map bindingC), syntaxA a, syntaxA b], [], .sv (lb (mng L a b))⟩
theorem c_iMean (L : List Binding) (a b : Syntax) (h : L.length ≤ 1048577 ∧ sumBy wB L ≤ 1048577)  : P_c_iMean L a b := fnOK Tryz.call192 Tryz.func192 (.d [.rd, .rd] (P_c_iRes L a)
 (.d [.rd, .rd] (P_c_iRes L b) (.i (rsC L a.text a.scopes = 1) (.i (rsC L b.text b.scopes = 1) (.i ((rsB L a.text a.scopes).kind = (rsB L b.text b.scopes).kind) (.s (lb (decide
 ((rsB L a.text a.scopes).number = (rsB L b.text b.scopes).number)))) (.s (lb false))) (.i (rsC L a.text a.scopes = 0) (.i (rsC L b.text b.scopes = 0) (.s (lb (decide
 (a.text.data.toList = b.text.data.toList)))) (.s (lb false))) (.y false (.s (lb false))))) (.y false (.i (rsC L a.text a.scopes = 0) (.i (rsC L b.text b.scopes = 0) (.s (lb
 (decide (a.text.data.toList = b.text.data.toList)))) (.s (lb false))) (.y false (.s (lb false)))))))) (by
  dsimp only [teasy, P_c_iMean]
  with_reducible repeat' (first | apply And.intro | exact zR | (intro; skip) | apply c_iRes)
  all_goals (try simp only [std, inj] at *)
  all_goals with_reducible repeat' apply And.intro
  all_goals (try (first | with_reducible apply c_iRes | (simp only [← List.map_append]; first | with_reducible apply c_iRes)))
  all_goals (try (first | exact z | grind [mng, bytes_ext, snocI, snocS, rowSnoc])))
end Go.Proofs.YtpnaoendfpaodaaGreat
end
section
namespace Go.Proofs.YtpnaoendfpaodaaGreat
open Go Go.Proofs.YtpnaoendfpaodaaGreat.Ab
set_option linter.unusedVariables false
set_option linter.unusedSimpArgs false
def capF (p f : Syntax) : Capture := ⟨p, 0, f, []⟩
mutual
/-- the variables of a pattern, in their order -/
def nm (H : Syntax → Bool) (A : List Syntax → Int) : Syntax → Int → List Capture
  | ⟨k, n, t, s, l⟩, d => if k = 1 then (if isUnd ⟨k, n, t, s, l⟩ = true ∨ H ⟨k, n, t, s, l⟩ = true then [] else [cap1 ⟨k, n, t, s, l⟩ d]) else if k = 0 then nms H A l 0 (A l) d else []
def nms (H : Syntax → Bool) (A : List Syntax → Int) : List Syntax → Int → Int → Int → List Capture
  | [], _, _, _ => []
  | x :: r, i, a, d => (if i = a then [] else nm H A x (if i + 1 = a then d + 1 else d)) ++ nms H A r (i + 1) a d
end
theorem nm_eq (H : Syntax → Bool) (A : List Syntax → Int) (p : Syntax) (d : Int) : nm H A p d = if p.kind = 1 then (if isUnd p = true ∨ H p = true then [] else [cap1 p d]) else if p.kind = 0 then nms H A p.items 0 (A p.items) d else [] := by cases p; simp only [nm]
def upC (x : Capture) : Capture := ⟨x.name, x.depth + 1, x.form, x.each⟩
def rp (V : List Capture) (R : List (List Capture)) : List Capture := (List.range V.length).map fun i => ⟨(V.getD i default).name, (V.getD i default).depth, (V.getD i default).form, (V.getD i default).each ++ R.map fun c => c.getD i default⟩
theorem rp_len (V : List Capture) (R : List (List Capture)) : (rp V R).length = V.length := by simp [rp]
def mtr (g : Syntax → Option (List Capture)) : List Syntax → Option (List (List Capture))
  | [] => some []
  | f :: r => match g f with
    | none => none
    | some c => match mtr g r with
      | none => none
      | some R => some (c :: R)
def many (a : Int) (n m : Nat) : Int := if 0 ≤ a then (m : Int) - ((n : Int) - 2) else 0
def fitM (a : Int) (l : List Syntax) (f : Syntax) : Bool := decide (f.kind = 0) && decide (0 ≤ many a l.length f.items.length) && (decide (0 ≤ a) || decide (f.items.length = l.length))
mutual
/-- a match: what is captured -/
def mt (M : Syntax → Syntax → Bool) (H : Syntax → Bool) (A : List Syntax → Int) : Syntax → Syntax → Option (List Capture)
  | ⟨k, n, t, s, l⟩, f => if k = 1 then (if isUnd ⟨k, n, t, s, l⟩ = true then some [] else if H ⟨k, n, t, s, l⟩ = true then (if f.kind = 1 ∧ M ⟨k, n, t, s, l⟩ f = true then some [] else none) else some [capF ⟨k, n, t, s, l⟩ f])
    else if k = 0 then (if fitM (A l) l f = true then mts M H A l 0 (A l) (many (A l) l.length f.items.length).toNat f.items else none)
    else if f.kind = k ∧ f.number = n ∧ f.text = t then some [] else none
def mts (M : Syntax → Syntax → Bool) (H : Syntax → Bool) (A : List Syntax → Int) : List Syntax → Int → Int → Nat → List Syntax → Option (List Capture)
  | [], _, _, _, _ => some []
  | x :: r, i, a, m, fs => if i = a then mts M H A r (i + 1) a m fs
    else if i + 1 = a then (match mtr (mt M H A x) (fs.take m) with
      | none => none
      | some R => match mts M H A r (i + 1) a m (fs.drop m) with
        | none => none
        | some c => some (rp (nm H A x 1) R ++ c))
    else match mt M H A x (fs.getD 0 default) with
      | none => none
      | some c => match mts M H A r (i + 1) a m (fs.drop 1) with
        | none => none
        | some d => some (c ++ d)
end
theorem mt_eq (M : Syntax → Syntax → Bool) (H : Syntax → Bool) (A : List Syntax → Int) (p f : Syntax) : mt M H A p f = if p.kind = 1 then (if isUnd p = true then some [] else if H p = true then (if f.kind = 1 ∧ M p f = true then some [] else none) else some [capF p f])
    else if p.kind = 0 then (if fitM (A p.items) p.items f = true then mts M H A p.items 0 (A p.items) (many (A p.items) p.items.length f.items.length).toNat f.items else none)
    else if f.kind = p.kind ∧ f.number = p.number ∧ f.text = p.text then some [] else none := by cases p; simp only [mt]
theorem nms_dep (H : Syntax → Bool) (A : List Syntax → Int) : ∀ (l : List Syntax), (∀ x ∈ l, ∀ d, nm H A x (d + 1) = (nm H A x d).map upC) → ∀ i a d, nms H A l i a (d + 1) = (nms H A l i a d).map upC
  | [], _, i, a, d => by simp [nms]
  | x :: r, h, i, a, d => by
    simp only [nms, List.map_append, nms_dep H A r (fun y hy => h y (List.mem_cons_of_mem _ hy))]
    congr 1
    split
    · rfl
    · split
      · exact h x List.mem_cons_self (d + 1)
      · exact h x List.mem_cons_self d
theorem nm_dep (H : Syntax → Bool) (A : List Syntax → Int) : ∀ (p : Syntax) (d : Int), nm H A p (d + 1) = (nm H A p d).map upC := by
  intro p
  refine Syntax.ind (P := fun p => ∀ d, nm H A p (d + 1) = (nm H A p d).map upC) (fun p ih d => ?_) p
  rw [nm_eq, nm_eq]
  split
  · split
    · rfl
    · rfl
  · split
    · exact nms_dep H A p.items ih 0 _ d
    · rfl
theorem mts_len {M : Syntax → Syntax → Bool} {H : Syntax → Bool} {A : List Syntax → Int} : ∀ (l : List Syntax), (∀ x ∈ l, ∀ f c, mt M H A x f = some c → c.length = (nm H A x 0).length) → ∀ i a m fs c, mts M H A l i a m fs = some c → c.length = (nms H A l i a 0).length
  | [], _, i, a, m, fs, c, e => by simp only [mts, Option.some.injEq] at e; subst e; simp [nms]
  | x :: r, h, i, a, m, fs, c, e => by
    have ih := mts_len r (fun y hy => h y (List.mem_cons_of_mem _ hy)) (i + 1) a m
    simp only [mts] at e
    simp only [nms]
    split at e
    · rename_i hi; rw [if_pos hi]; simpa using ih _ _ e
    · rename_i hi
      rw [if_neg hi]
      split at e
      · rename_i hi2
        rw [if_pos hi2]
        split at e
        · cases e
        · split at e
          · cases e
          · rename_i c' hc
            simp only [Option.some.injEq] at e; subst e
            rw [List.length_append, List.length_append, rp_len, ih _ _ hc]; rfl
      · rename_i hi2
        rw [if_neg hi2]
        split at e
        · cases e
        · rename_i c1 h1
          split at e
          · cases e
          · rename_i c' hc
            simp only [Option.some.injEq] at e; subst e
            rw [List.length_append, List.length_append, h x List.mem_cons_self _ _ h1, ih _ _ hc]
theorem mt_len {M : Syntax → Syntax → Bool} {H : Syntax → Bool} {A : List Syntax → Int} : ∀ (p f : Syntax) (c : List Capture), mt M H A p f = some c → c.length = (nm H A p 0).length := by
  intro p
  refine Syntax.ind (P := fun p => ∀ f c, mt M H A p f = some c → c.length = (nm H A p 0).length) (fun p ih f c e => ?_) p
  rw [mt_eq] at e
  rw [nm_eq]
  split at e
  · rename_i hk
    rw [if_pos hk]
    split at e
    · rename_i hu; simp only [Option.some.injEq] at e; subst e; rw [if_pos (.inl hu)]
    · rename_i hu
      split at e
      · rename_i hh
        split at e
        · simp only [Option.some.injEq] at e; subst e; rw [if_pos (.inr hh)]
        · cases e
      · rename_i hh
        simp only [Option.some.injEq] at e; subst e
        rw [if_neg (by simp [hu, hh])]; rfl
  · rename_i hk
    rw [if_neg hk]
    split at e
    · rename_i h0
      rw [if_pos h0]
      split at e
      · exact mts_len p.items ih _ _ _ _ _ e
      · cases e
    · rename_i h0
      rw [if_neg h0]
      split at e
      · simp only [Option.some.injEq] at e; subst e; rfl
      · cases e
theorem nm_len1 (H : Syntax → Bool) (A : List Syntax → Int) (p : Syntax) : (nm H A p 1).length = (nm H A p 0).length := by
  have := nm_dep H A p 0
  rw [show (0 : Int) + 1 = 1 from rfl] at this
  rw [this, List.length_map]
def aS (l : List Syntax) : Int := if okS l = true then atS l else -1
theorem wlk_nm {Ls : List Syntax} : ∀ (l : List Syntax), (∀ x ∈ l, ∀ d o r, vrS Ls x d o = some r → r = o ++ nm (hasI Ls) aS x d) → ∀ i a d o r, wlk (vrS Ls) l i a d o = some r → r = o ++ nms (hasI Ls) aS l i a d
  | [], _, i, a, d, o, r, e => by simp only [wlk, Option.some.injEq] at e; subst e; simp [nms]
  | x :: l, h, i, a, d, o, r, e => by
    have ih := wlk_nm l fun y hy => h y (List.mem_cons_of_mem _ hy)
    simp only [wlk] at e
    simp only [nms]
    split at e
    · rename_i hi; rw [if_pos hi, ih _ _ _ _ _ e]; rfl
    · rename_i hi
      rw [if_neg hi]
      split at e
      · cases e
      · rename_i o1 h1
        rw [ih _ _ _ _ _ e, h x List.mem_cons_self _ _ _ h1, List.append_assoc]
theorem vrS_nm {Ls : List Syntax} : ∀ (p : Syntax), okY p = true → ∀ d o r, vrS Ls p d o = some r → r = o ++ nm (hasI Ls) aS p d := by
  refine Syntax.ind fun p ih h d o r e => ?_
  rw [vrS_eq] at e
  rw [nm_eq]
  split at e
  · rename_i hk
    rw [if_pos hk]
    split at e
    · rename_i hu; simp only [Option.some.injEq] at e; subst e; rw [if_pos hu]; simp
    · rename_i hu
      rw [if_neg hu]
      split at e
      · cases e
      · simp only [Option.some.injEq] at e; exact e.symm
  · rename_i hk
    rw [if_neg hk]
    split at e
    · rename_i hs
      by_cases h0 : p.kind = 0
      · rw [if_pos h0]
        have ha : aS p.items = atS p.items := if_pos hs
        rw [ha]
        exact wlk_nm p.items (fun x hx => ih x hx (okY_item h x hx)) _ _ _ _ _ e
      · rw [if_neg h0]
        rw [okY_kind h hk h0] at e
        simp only [wlk, Option.some.injEq] at e; subst e; simp
    · cases e
theorem fnd_iff (L : List Capture) (q : Syntax) : 0 ≤ fnd L q ↔ isDots q = false ∧ L.any (capFor q) = true := by
  have h1 : fndN L q < L.length ↔ L.any (capFor q) = true := by
    unfold fndN
    rw [List.findIdx_lt_length, List.any_eq_true]
  unfold fnd
  constructor
  · intro h
    split at h
    · rename_i hc; exact ⟨hc.1, h1.1 hc.2⟩
    · omega
  · rintro ⟨h2, h3⟩
    rw [if_pos ⟨h2, h1.2 h3⟩]; omega
theorem wlk_mono {Ls : List Syntax} : ∀ (l : List Syntax), (∀ x ∈ l, ∀ d o r, vrS Ls x d o = some r → ∀ d' o', d' ≤ d → (∀ q, 0 ≤ fnd o' q → 0 ≤ fnd o q) → ∃ r', vrS Ls x d' o' = some r' ∧ ∀ q, 0 ≤ fnd r' q → 0 ≤ fnd r q) →
    ∀ i a d o r, wlk (vrS Ls) l i a d o = some r → ∀ d' o', d' ≤ d → (∀ q, 0 ≤ fnd o' q → 0 ≤ fnd o q) → ∃ r', wlk (vrS Ls) l i a d' o' = some r' ∧ ∀ q, 0 ≤ fnd r' q → 0 ≤ fnd r q
  | [], _, i, a, d, o, r, e, d', o', hd, ho => by simp only [wlk, Option.some.injEq] at e ⊢; subst e; exact ⟨o', rfl, ho⟩
  | x :: l, h, i, a, d, o, r, e, d', o', hd, ho => by
    have ih := wlk_mono l fun y hy => h y (List.mem_cons_of_mem _ hy)
    simp only [wlk] at e ⊢
    split at e
    · rename_i hi; rw [if_pos hi]; exact ih _ _ _ _ _ e _ _ hd ho
    · rename_i hi
      rw [if_neg hi]
      split at e
      · cases e
      · rename_i o1 h1
        obtain ⟨r1, e1, e2⟩ := h x List.mem_cons_self _ _ _ h1 (if i + 1 = a then d' + 1 else d') o' (by split <;> omega) ho
        rw [e1]
        exact ih _ _ _ _ _ e _ _ hd e2
theorem vrS_mono {Ls : List Syntax} : ∀ (p : Syntax) (d : Int) (o r : List Capture), vrS Ls p d o = some r → ∀ d' o', d' ≤ d → (∀ q, 0 ≤ fnd o' q → 0 ≤ fnd o q) → ∃ r', vrS Ls p d' o' = some r' ∧ ∀ q, 0 ≤ fnd r' q → 0 ≤ fnd r q := by
  refine Syntax.ind fun p ih d o r e d' o' hd ho => ?_
  rw [vrS_eq] at e ⊢
  split at e
  · rename_i hk
    rw [if_pos hk]
    split at e
    · rename_i hu; simp only [Option.some.injEq] at e; subst e; rw [if_pos hu]; exact ⟨o', rfl, ho⟩
    · rename_i hu
      rw [if_neg hu]
      split at e
      · cases e
      · rename_i hb
        simp only [Option.some.injEq] at e; subst e
        rw [if_neg (fun hc => hb (hc.imp id (Or.imp (ho p) (fun h => by omega))))]
        refine ⟨_, rfl, fun q hq => ?_⟩
        rw [fnd_iff] at hq ⊢
        refine ⟨hq.1, ?_⟩
        rw [List.any_append, Bool.or_eq_true] at hq ⊢
        rcases hq.2 with h1 | h1
        · exact .inl ((fnd_iff o q).1 (ho q ((fnd_iff o' q).2 ⟨hq.1, h1⟩))).2
        · exact .inr h1
  · rename_i hk
    rw [if_neg hk]
    split at e
    · rename_i hs
      rw [if_pos hs]
      exact wlk_mono p.items ih _ _ _ _ _ e _ _ hd ho
    · cases e
theorem wlk_item {f : Syntax → Int → List Capture → Option (List Capture)} : ∀ (l : List Syntax) (i a d : Int) (o r : List Capture), wlk f l i a d o = some r → ∀ k : Nat, k < l.length → i + k ≠ a →
    ∃ o' r', f (l.getD k default) (if i + k + 1 = a then d + 1 else d) o' = some r'
  | [], i, a, d, o, r, e, k, hk, _ => by simp at hk
  | x :: l, i, a, d, o, r, e, k, hk, hne => by
    simp only [wlk] at e
    cases k with
    | zero =>
      split at e
      · rename_i hi; exact absurd hi (by simpa using hne)
      · split at e
        · cases e
        · rename_i o1 h1
          exact ⟨o, o1, by simpa using h1⟩
    | succ k =>
      have hk' : k < l.length := by simpa using hk
      have e1 : i + ((k + 1 : Nat) : Int) = i + 1 + (k : Int) := by omega
      have : ∃ o2 r2, wlk f l (i + 1) a d o2 = some r2 := by
        split at e
        · exact ⟨_, _, e⟩
        · split at e
          · cases e
          · exact ⟨_, _, e⟩
      obtain ⟨o2, r2, e2⟩ := this
      rw [e1] at hne ⊢
      simpa using wlk_item l (i + 1) a d o2 r2 e2 k hk' hne
def good (Ls : List Syntax) (p : Syntax) : Prop := okY p = true ∧ ∃ d o r, 0 ≤ d ∧ vrS Ls p d o = some r
theorem good_okS {Ls : List Syntax} {p : Syntax} (h : good Ls p) (h0 : p.kind = 0) : okS p.items = true := by
  obtain ⟨_, d, o, r, _, e⟩ := h
  rw [vrS_eq, if_neg (by omega)] at e
  cases hs : okS p.items with
  | true => rfl
  | false => rw [hs, if_neg (by simp)] at e; cases e
theorem good_item {Ls : List Syntax} {p : Syntax} (h : good Ls p) (h0 : p.kind = 0) {k : Nat} (hk : k < p.items.length) (hne : (k : Int) ≠ aS p.items) : good Ls (p.items.getD k default) := by
  have hs := good_okS h h0
  obtain ⟨hy, d, o, r, hd, e⟩ := h
  refine ⟨okY_item hy _ (getD_mem' hk), ?_⟩
  rw [vrS_eq, if_neg (by omega), if_pos hs] at e
  have ha : aS p.items = atS p.items := if_pos hs
  rw [ha] at hne
  obtain ⟨o', r', e'⟩ := wlk_item p.items 0 _ d o r e k hk (by omega)
  exact ⟨_, o', r', by split <;> omega, e'⟩
theorem good_rep {Ls : List Syntax} {p : Syntax} (h : good Ls p) (h0 : p.kind = 0) {k : Nat} (hk : k < p.items.length) (ha : (k : Int) + 1 = aS p.items) :
    vrS Ls (p.items.getD k default) 0 [] = some (nm (hasI Ls) aS (p.items.getD k default) 0) ∧ vrS Ls (p.items.getD k default) 1 [] = some (nm (hasI Ls) aS (p.items.getD k default) 1) := by
  have hs := good_okS h h0
  obtain ⟨hy, d, o, r, hd, e⟩ := h
  have hy' := okY_item hy _ (getD_mem' hk)
  rw [vrS_eq, if_neg (by omega), if_pos hs] at e
  have ha' : aS p.items = atS p.items := if_pos hs
  rw [ha'] at ha
  obtain ⟨o', r', e'⟩ := wlk_item p.items 0 _ d o r e k hk (by omega)
  rw [if_pos (by omega)] at e'
  have hn : ∀ q, 0 ≤ fnd [] q → 0 ≤ fnd o' q := fun q hq => by rw [fnd_iff] at hq; simp at hq
  obtain ⟨r0, e0, _⟩ := vrS_mono _ _ _ _ e' 0 [] (by omega) hn
  obtain ⟨r1, e1, _⟩ := vrS_mono _ _ _ _ e' 1 [] (by omega) hn
  refine ⟨?_, ?_⟩
  · rw [e0]; exact congrArg some (by simpa using vrS_nm _ hy' _ _ _ e0)
  · rw [e1]; exact congrArg some (by simpa using vrS_nm _ hy' _ _ _ e1)
theorem mtr_congr {g g' : Syntax → Option (List Capture)} (h : ∀ f, g f = g' f) (L : List Syntax) : mtr g L = mtr g' L := by rw [funext h]
theorem mts_same {M : Syntax → Syntax → Bool} {H H' : Syntax → Bool} {A A' : List Syntax → Int} {a : Int} : ∀ (l : List Syntax) (i : Int), (∀ k : Nat, k < l.length → i + k ≠ a → (∀ f, mt M H A (l.getD k default) f = mt M H' A' (l.getD k default) f) ∧
      nm H A (l.getD k default) 1 = nm H' A' (l.getD k default) 1) → ∀ m fs, mts M H A l i a m fs = mts M H' A' l i a m fs
  | [], i, _, m, fs => by simp only [mts]
  | x :: r, i, h, m, fs => by
    have ih := mts_same (a := a) r (i + 1) (fun k hk hne => by
      have := h (k + 1) (by simpa using hk) (by omega)
      simpa using this)
    simp only [mts, ih]
    by_cases hi : i = a
    · rw [if_pos hi, if_pos hi]
    · obtain ⟨h1, h2⟩ := h 0 (by simp) (by simpa using hi)
      simp only [List.getD_cons_zero] at h1 h2
      rw [if_neg hi, if_neg hi, mtr_congr h1, h2, h1]
theorem nms_same {H H' : Syntax → Bool} {A A' : List Syntax → Int} {a : Int} : ∀ (l : List Syntax) (i : Int), (∀ k : Nat, k < l.length → i + k ≠ a → ∀ d, nm H A (l.getD k default) d = nm H' A' (l.getD k default) d) → ∀ d, nms H A l i a d = nms H' A' l i a d
  | [], i, _, d => by simp only [nms]
  | x :: r, i, h, d => by
    have ih := nms_same (a := a) r (i + 1) (fun k hk hne => by
      have := h (k + 1) (by simpa using hk) (by omega)
      simpa using this)
    simp only [nms, ih]
    by_cases hi : i = a
    · rw [if_pos hi, if_pos hi]
    · have h1 := h 0 (by simp) (by simpa using hi)
      simp only [List.getD_cons_zero] at h1
      rw [if_neg hi, if_neg hi, h1]
theorem mt_same {M : Syntax → Syntax → Bool} {Ls : List Syntax} (hL : ∀ x ∈ Ls, litP x = true) : ∀ p : Syntax, good Ls p → (∀ f, mt M (hasI Ls) aS p f = mt M (hasJ Ls) atI p f) ∧ ∀ d, nm (hasI Ls) aS p d = nm (hasJ Ls) atI p d := by
  refine Syntax.ind fun p ih hg => ?_
  by_cases hk : p.kind = 1
  · have hh := hasI_hasJ hL hk
    refine ⟨fun f => ?_, fun d => ?_⟩
    · rw [mt_eq, mt_eq, if_pos hk, if_pos hk, hh]
    · rw [nm_eq, nm_eq, if_pos hk, if_pos hk, hh]
  · by_cases h0 : p.kind = 0
    · have hs := good_okS hg h0
      have e1 : aS p.items = atI p.items := by rw [(atI_ok hs).1]; exact if_pos hs
      have hit : ∀ k : Nat, k < p.items.length → (0 : Int) + k ≠ atI p.items → (∀ f, mt M (hasI Ls) aS (p.items.getD k default) f = mt M (hasJ Ls) atI (p.items.getD k default) f) ∧ ∀ d, nm (hasI Ls) aS (p.items.getD k default) d = nm (hasJ Ls) atI (p.items.getD k default) d :=
        fun k hk' hne => ih _ (getD_mem' hk') (good_item hg h0 hk' (by rw [e1]; omega))
      refine ⟨fun f => ?_, fun d => ?_⟩
      · rw [mt_eq, mt_eq, if_neg hk, if_neg hk, if_pos h0, if_pos h0, e1, mts_same p.items 0 fun k hk' hne => ⟨(hit k hk' hne).1, (hit k hk' hne).2 1⟩]
      · rw [nm_eq, nm_eq, if_neg hk, if_neg hk, if_pos h0, if_pos h0, e1, nms_same p.items 0 fun k hk' hne => (hit k hk' hne).2]
    · refine ⟨fun f => ?_, fun d => ?_⟩
      · rw [mt_eq, mt_eq, if_neg hk, if_neg hk, if_neg h0, if_neg h0]
      · rw [nm_eq, nm_eq, if_neg hk, if_neg hk, if_neg h0, if_neg h0]
theorem nms_size {H : Syntax → Bool} {A : List Syntax → Int} : ∀ (l : List Syntax), (∀ x ∈ l, ∀ d, (nm H A x d).length ≤ sizeY x) → ∀ i a d, (nms H A l i a d).length ≤ sumBy sizeY l
  | [], _, i, a, d => by simp [nms]
  | x :: r, h, i, a, d => by
    have ih := nms_size r (fun y hy => h y (List.mem_cons_of_mem _ hy)) (i + 1) a d
    simp only [nms, List.length_append, sumBy]
    split
    · simp only [List.length_nil]; omega
    · have := h x List.mem_cons_self (if i + 1 = a then d + 1 else d); omega
theorem nm_size (H : Syntax → Bool) (A : List Syntax → Int) : ∀ (p : Syntax) (d : Int), (nm H A p d).length ≤ sizeY p := by
  intro p
  refine Syntax.ind (P := fun p => ∀ d, (nm H A p d).length ≤ sizeY p) (fun p ih d => ?_) p
  have hz := sizeY_eq p
  rw [nm_eq]
  split
  · split
    · simp
    · simp only [List.length_singleton]; omega
  · split
    · have := nms_size p.items ih 0 (A p.items) d; omega
    · simp
def rws (g : Syntax → Option (List Capture)) (fs : List Syntax) (k : Nat) : Nat → List (List Capture) × Bool
  | 0 => ([], true)
  | j + 1 => if (rws g fs k j).2 = true then (match g (fs.getD (k + j) default) with | some c => ((rws g fs k j).1 ++ [c], true) | none => ((rws g fs k j).1, false)) else rws g fs k j
theorem rws_len {g : Syntax → Option (List Capture)} {fs : List Syntax} {k : Nat} : ∀ j, (rws g fs k j).2 = true → (rws g fs k j).1.length = j
  | 0, _ => rfl
  | j + 1, h => by
    simp only [rws] at h ⊢
    split at h
    · rename_i hj
      rw [if_pos hj]
      split at h
      · rename_i c hc; rw [List.length_append, rws_len j hj, List.length_singleton]
      · cases h
    · rename_i hj; exact absurd h hj
theorem rws_stop {g : Syntax → Option (List Capture)} {fs : List Syntax} {k j : Nat} (h : (rws g fs k j).2 = false) : ∀ n, rws g fs k (j + n) = rws g fs k j
  | 0 => rfl
  | n + 1 => by
    have ih := rws_stop h n
    rw [← Nat.add_assoc]
    simp only [rws, ih, h]
    simp
theorem rws_some {g : Syntax → Option (List Capture)} {fs : List Syntax} {k j : Nat} {c : List Capture} (h : (rws g fs k j).2 = true) (hc : g (fs.getD (k + j) default) = some c) : rws g fs k (j + 1) = ((rws g fs k j).1 ++ [c], true) := by
  simp only [rws]; rw [if_pos h, hc]
theorem rws_none {g : Syntax → Option (List Capture)} {fs : List Syntax} {k j : Nat} (h : (rws g fs k j).2 = true) (hc : g (fs.getD (k + j) default) = none) : rws g fs k (j + 1) = ((rws g fs k j).1, false) := by
  simp only [rws]; rw [if_pos h, hc]
theorem mtr_snoc (g : Syntax → Option (List Capture)) : ∀ (L : List Syntax) (x : Syntax), mtr g (L ++ [x]) = match mtr g L with | none => none | some R => match g x with | none => none | some c => some (R ++ [c])
  | [], x => by cases h : g x <;> simp [mtr, h]
  | y :: L, x => by
    simp only [List.cons_append, mtr, mtr_snoc g L x]
    cases g y with
    | none => rfl
    | some c =>
      cases mtr g L with
      | none => rfl
      | some R => cases g x <;> rfl
theorem rws_mtr {g : Syntax → Option (List Capture)} {fs : List Syntax} {k : Nat} : ∀ j, k + j ≤ fs.length → mtr g ((fs.drop k).take j) = if (rws g fs k j).2 = true then some (rws g fs k j).1 else none
  | 0, _ => by simp [mtr, rws]
  | j + 1, h => by
    have hj : j < (fs.drop k).length := by rw [List.length_drop]; omega
    have e : (fs.drop k).getD j default = fs.getD (k + j) default := by simp [List.getD_eq_getElem?_getD, List.getElem?_drop]
    rw [take_get hj, mtr_snoc, rws_mtr j (by omega), e]
    by_cases hr : (rws g fs k j).2 = true
    · rw [if_pos hr]
      cases hg : g (fs.getD (k + j) default) with
      | none => rw [rws_none hr hg]; rfl
      | some c => rw [rws_some hr hg]; rfl
    · have hr' : (rws g fs k j).2 = false := by simpa using hr
      rw [if_neg hr, rws_stop hr' 1, if_neg hr]
def flM (x : Syntax) (L : List Capture) : List Capture := if x.kind = 0 then [] else L
def sA (g : Syntax → Syntax → Option (List Capture)) (N : Syntax → List Capture) (l fs : List Syntax) (a : Int) (m : Nat) (o : List Capture) : Nat → List Capture × Nat × Bool
  | 0 => (o, 0, true)
  | i + 1 => if (sA g N l fs a m o i).2.2 = true then (if (i : Int) = a then sA g N l fs a m o i
      else if (i : Int) + 1 = a then ((sA g N l fs a m o i).1 ++ rp (N (l.getD i default)) (rws (g (l.getD i default)) fs (sA g N l fs a m o i).2.1 m).1,
        (sA g N l fs a m o i).2.1 + (if (rws (g (l.getD i default)) fs (sA g N l fs a m o i).2.1 m).2 = true then m else (rws (g (l.getD i default)) fs (sA g N l fs a m o i).2.1 m).1.length + 1),
        (rws (g (l.getD i default)) fs (sA g N l fs a m o i).2.1 m).2)
      else match g (l.getD i default) (fs.getD (sA g N l fs a m o i).2.1 default) with
        | some c => ((sA g N l fs a m o i).1 ++ c, (sA g N l fs a m o i).2.1 + 1, true)
        | none => (flM (l.getD i default) (sA g N l fs a m o i).1, (sA g N l fs a m o i).2.1 + 1, false))
    else sA g N l fs a m o i
section
variable {g : Syntax → Syntax → Option (List Capture)} {N : Syntax → List Capture} {l fs : List Syntax} {a : Int} {m : Nat} {o : List Capture}
def oA (g : Syntax → Syntax → Option (List Capture)) (N : Syntax → List Capture) (l fs : List Syntax) (a : Int) (m : Nat) (o : List Capture) (i : Nat) : List Capture := (sA g N l fs a m o i).1
def kA (g : Syntax → Syntax → Option (List Capture)) (N : Syntax → List Capture) (l fs : List Syntax) (a : Int) (m : Nat) (o : List Capture) (i : Nat) : Nat := (sA g N l fs a m o i).2.1
def bA (g : Syntax → Syntax → Option (List Capture)) (N : Syntax → List Capture) (l fs : List Syntax) (a : Int) (m : Nat) (o : List Capture) (i : Nat) : Bool := (sA g N l fs a m o i).2.2
theorem sA_zero : oA g N l fs a m o 0 = o ∧ kA g N l fs a m o 0 = 0 ∧ bA g N l fs a m o 0 = true := ⟨rfl, rfl, rfl⟩
theorem sA_skip {i : Nat} (h : bA g N l fs a m o i = true) (e : (i : Int) = a) : oA g N l fs a m o (i + 1) = oA g N l fs a m o i ∧ kA g N l fs a m o (i + 1) = kA g N l fs a m o i ∧ bA g N l fs a m o (i + 1) = true := by
  have e1 : sA g N l fs a m o (i + 1) = sA g N l fs a m o i := by
    have h' : (sA g N l fs a m o i).2.2 = true := h
    simp only [sA]; rw [if_pos h', if_pos e]
  unfold oA kA bA at *; rw [e1]; exact ⟨rfl, rfl, h⟩
theorem sA_one {i : Nat} (h : bA g N l fs a m o i = true) (e : ¬ (i : Int) = a) (e2 : ¬ (i : Int) + 1 = a) {c : Option (List Capture)} (hc : g (l.getD i default) (fs.getD (kA g N l fs a m o i) default) = c) :
    oA g N l fs a m o (i + 1) = c.elim (flM (l.getD i default) (oA g N l fs a m o i)) (fun c => oA g N l fs a m o i ++ c) ∧ kA g N l fs a m o (i + 1) = kA g N l fs a m o i + 1 ∧ bA g N l fs a m o (i + 1) = c.isSome := by
  have h' : (sA g N l fs a m o i).2.2 = true := h
  have hc' : g (l.getD i default) (fs.getD (sA g N l fs a m o i).2.1 default) = c := hc
  cases c with
  | some c =>
    have e1 : sA g N l fs a m o (i + 1) = ((sA g N l fs a m o i).1 ++ c, (sA g N l fs a m o i).2.1 + 1, true) := by
      simp only [sA]; rw [if_pos h', if_neg e, if_neg e2, hc']
    unfold oA kA bA; rw [e1]; exact ⟨rfl, rfl, rfl⟩
  | none =>
    have e1 : sA g N l fs a m o (i + 1) = (flM (l.getD i default) (sA g N l fs a m o i).1, (sA g N l fs a m o i).2.1 + 1, false) := by
      simp only [sA]; rw [if_pos h', if_neg e, if_neg e2, hc']
    unfold oA kA bA; rw [e1]; exact ⟨rfl, rfl, rfl⟩
theorem sA_rep {i : Nat} (h : bA g N l fs a m o i = true) (e2 : (i : Int) + 1 = a) {k : Nat} (hk : kA g N l fs a m o i = k) {R : List (List Capture) × Bool} (hR : rws (g (l.getD i default)) fs k m = R) :
    oA g N l fs a m o (i + 1) = oA g N l fs a m o i ++ rp (N (l.getD i default)) R.1 ∧ kA g N l fs a m o (i + 1) = k + (if R.2 = true then m else R.1.length + 1) ∧ bA g N l fs a m o (i + 1) = R.2 := by
  subst hk; subst hR
  have e1 : sA g N l fs a m o (i + 1) = ((sA g N l fs a m o i).1 ++ rp (N (l.getD i default)) (rws (g (l.getD i default)) fs (sA g N l fs a m o i).2.1 m).1,
        (sA g N l fs a m o i).2.1 + (if (rws (g (l.getD i default)) fs (sA g N l fs a m o i).2.1 m).2 = true then m else (rws (g (l.getD i default)) fs (sA g N l fs a m o i).2.1 m).1.length + 1),
        (rws (g (l.getD i default)) fs (sA g N l fs a m o i).2.1 m).2) := by
    have h' : (sA g N l fs a m o i).2.2 = true := h
    simp only [sA]; rw [if_pos h', if_neg (by omega), if_pos e2]
  unfold oA kA bA; rw [e1]; exact ⟨rfl, rfl, rfl⟩
theorem sA_stop {i : Nat} (h : bA g N l fs a m o i = false) : ∀ n, sA g N l fs a m o (i + n) = sA g N l fs a m o i
  | 0 => rfl
  | n + 1 => by
    have ih := sA_stop h n
    rw [← Nat.add_assoc]
    have h' : (sA g N l fs a m o i).2.2 = false := h
    simp only [sA, ih, h']
    simp
theorem sA_end {i n : Nat} (h : bA g N l fs a m o i = false) (hn : i ≤ n) : oA g N l fs a m o n = oA g N l fs a m o i ∧ kA g N l fs a m o n = kA g N l fs a m o i ∧ bA g N l fs a m o n = false := by
  have := sA_stop h (n - i)
  rw [show i + (n - i) = n by omega] at this
  unfold oA kA bA at *; rw [this]; exact ⟨rfl, rfl, h⟩
end
def kF (a : Int) (m i : Nat) : Int := if a < 0 ∨ (i : Int) < a then i else if (i : Int) = a then a - 1 + m else (i : Int) - 2 + m
section
variable {M : Syntax → Syntax → Bool} {H : Syntax → Bool} {A : List Syntax → Int} {l fs : List Syntax} {a : Int} {m : Nat} {o : List Capture}
theorem sA_main (ha : 0 ≤ a → 1 ≤ a ∧ a < l.length ∧ (fs.length : Int) = l.length - 2 + m) (hb : a < 0 → fs.length = l.length) : ∀ i, i ≤ l.length → (bA (mt M H A) (fun x => nm H A x 1) l fs a m o i = true →
      (kA (mt M H A) (fun x => nm H A x 1) l fs a m o i : Int) = kF a m i ∧ ∃ c, oA (mt M H A) (fun x => nm H A x 1) l fs a m o i = o ++ c ∧ c.length ≤ sumBy sizeY (l.take i) ∧
        mts M H A l 0 a m fs = (mts M H A (l.drop i) i a m (fs.drop (kA (mt M H A) (fun x => nm H A x 1) l fs a m o i))).map (c ++ ·)) ∧
    (bA (mt M H A) (fun x => nm H A x 1) l fs a m o i = false → mts M H A l 0 a m fs = none)
  | 0, _ => ⟨fun _ => ⟨by simp [kF, kA, sA]; omega, [], by simp [oA, sA], by simp, by simp [kA, sA]⟩, fun h => by cases h⟩
  | i + 1, hi => by
    obtain ⟨ih1, ih2⟩ := sA_main ha hb i (by omega)
    have hil : i < l.length := by omega
    have hdrop := drop_get hil
    have hsum : sumBy sizeY (l.take (i + 1)) = sumBy sizeY (l.take i) + sizeY (l.getD i default) := by rw [take_get hil, sumBy_append]; rfl
    cases hbi : bA (mt M H A) (fun x => nm H A x 1) l fs a m o i with
    | false =>
      have e := sA_end hbi (Nat.le_succ i)
      refine ⟨fun h => ?_, fun _ => ih2 hbi⟩
      rw [e.2.2] at h; cases h
    | true =>
      obtain ⟨hk, c, hc1, hc2, hc3⟩ := ih1 hbi
      by_cases e : (i : Int) = a
      · obtain ⟨s1, s2, s3⟩ := sA_skip hbi e
        refine ⟨fun _ => ⟨?_, c, ?_, ?_, ?_⟩, fun h => by rw [s3] at h; cases h⟩
        · rw [s2, hk]; unfold kF; rw [if_neg (by omega), if_pos e, if_neg (by omega), if_neg (by omega)]; omega
        · rw [s1, hc1]
        · omega
        · rw [hc3, s2, hdrop]
          simp only [mts, if_pos e]
          congr 1
      · by_cases e2 : (i : Int) + 1 = a
        · obtain ⟨s1, s2, s3⟩ := sA_rep hbi e2 rfl rfl
          have hkl : kA (mt M H A) (fun x => nm H A x 1) l fs a m o i + m ≤ fs.length := by
            have := ha (by omega)
            unfold kF at hk; rw [if_pos (by omega)] at hk; omega
          have hr := rws_mtr (g := mt M H A (l.getD i default)) m hkl
          have hstep : mts M H A (l.drop i) i a m (fs.drop (kA (mt M H A) (fun x => nm H A x 1) l fs a m o i)) = match mtr (mt M H A (l.getD i default)) ((fs.drop (kA (mt M H A) (fun x => nm H A x 1) l fs a m o i)).take m) with
              | none => none
              | some R => match mts M H A (l.drop (i + 1)) (i + 1) a m (fs.drop (kA (mt M H A) (fun x => nm H A x 1) l fs a m o i + m)) with
                | none => none
                | some c => some (rp (nm H A (l.getD i default) 1) R ++ c) := by
            rw [hdrop]
            simp only [mts, if_neg e, if_pos e2, List.drop_drop]
          refine ⟨fun h => ?_, fun h => ?_⟩
          · rw [s3] at h
            rw [if_pos h] at hr s2
            refine ⟨?_, c ++ rp (nm H A (l.getD i default) 1) _, by rw [s1, hc1, List.append_assoc], ?_, ?_⟩
            · rw [s2]; unfold kF at hk ⊢; rw [if_pos (by omega)] at hk; rw [if_neg (by omega), if_pos (by omega)]; omega
            · rw [List.length_append, rp_len, hsum]
              have := nm_size H A (l.getD i default) 1
              omega
            · rw [hc3, hstep, hr, s2]
              simp only [Int.natCast_add, Int.natCast_one]
              cases mts M H A (l.drop (i + 1)) ((i : Int) + 1) a m (fs.drop (kA (mt M H A) (fun x => nm H A x 1) l fs a m o i + m)) <;> simp
          · rw [s3] at h
            rw [if_neg (by rw [h]; simp)] at hr
            rw [hc3, hstep, hr]; rfl
        · have hstep : mts M H A (l.drop i) i a m (fs.drop (kA (mt M H A) (fun x => nm H A x 1) l fs a m o i)) = match mt M H A (l.getD i default) (fs.getD (kA (mt M H A) (fun x => nm H A x 1) l fs a m o i) default) with
              | none => none
              | some c => match mts M H A (l.drop (i + 1)) (i + 1) a m (fs.drop (kA (mt M H A) (fun x => nm H A x 1) l fs a m o i + 1)) with
                | none => none
                | some d => some (c ++ d) := by
            rw [hdrop]
            have eg : (fs.drop (kA (mt M H A) (fun x => nm H A x 1) l fs a m o i)).getD 0 default = fs.getD (kA (mt M H A) (fun x => nm H A x 1) l fs a m o i) default := by simp [List.getD_eq_getElem?_getD, List.getElem?_drop]
            simp only [mts, if_neg e, if_neg e2, List.drop_drop, eg]
          cases hg : mt M H A (l.getD i default) (fs.getD (kA (mt M H A) (fun x => nm H A x 1) l fs a m o i) default) with
          | none =>
            obtain ⟨s1, s2, s3⟩ := sA_one hbi e e2 hg
            refine ⟨fun h => ?_, fun h => ?_⟩
            · rw [s3] at h; cases h
            · rw [hc3, hstep, hg]; rfl
          | some c' =>
            obtain ⟨s1, s2, s3⟩ := sA_one hbi e e2 hg
            refine ⟨fun _ => ⟨?_, c ++ c', by rw [s1]; simp only [Option.elim]; rw [hc1, List.append_assoc], ?_, ?_⟩, fun h => by rw [s3] at h; cases h⟩
            · rw [s2]; unfold kF at hk ⊢
              by_cases ea : a < 0 ∨ (i : Int) < a
              · rw [if_pos ea] at hk; rw [if_pos (by omega)]; omega
              · rw [if_neg ea, if_neg e] at hk; rw [if_neg (by omega), if_neg (by omega)]; omega
            · rw [List.length_append, hsum, mt_len _ _ _ hg]
              have := nm_size H A (l.getD i default) 0
              omega
            · rw [hc3, hstep, hg, s2]
              simp only [Int.natCast_add, Int.natCast_one]
              cases mts M H A (l.drop (i + 1)) ((i : Int) + 1) a m (fs.drop (kA (mt M H A) (fun x => nm H A x 1) l fs a m o i + 1)) <;> simp
end
end Go.Proofs.YtpnaoendfpaodaaGreat
end
section
namespace Go.Proofs.YtpnaoendfpaodaaGreat
open Go Go.Proofs.YtpnaoendfpaodaaGreat.Ab
set_option linter.unusedVariables false
set_option linter.unusedSimpArgs false
abbrev gS (B : List Binding) (Ls : List Syntax) : Syntax → Syntax → Option (List Capture) := mt (mng B) (hasI Ls) aS
def nS (Ls : List Syntax) (x : Syntax) : List Capture := nm (hasI Ls) aS x 1
def eV (Ls : List Syntax) (x : Syntax) : List Capture := (vrS Ls x 0 []).getD []
def smO (p : Syntax) (o : List Capture) (r : Option (List Capture)) : List Capture := match r with | some c => o ++ c | none => flM p o
def mS (p f : Syntax) : Nat := (many (aS p.items) p.items.length f.items.length).toNat
def oS (B : List Binding) (Ls : List Syntax) (p f : Syntax) (o : List Capture) (i : Nat) : List Capture := oA (gS B Ls) (fun x => nm (hasI Ls) aS x 1) p.items f.items (aS p.items) (mS p f) o i
def kS (B : List Binding) (Ls : List Syntax) (p f : Syntax) (o : List Capture) (i : Nat) : Nat := kA (gS B Ls) (fun x => nm (hasI Ls) aS x 1) p.items f.items (aS p.items) (mS p f) o i
def bS (B : List Binding) (Ls : List Syntax) (p f : Syntax) (o : List Capture) (i : Nat) : Bool := bA (gS B Ls) (fun x => nm (hasI Ls) aS x 1) p.items f.items (aS p.items) (mS p f) o i
def rS (B : List Binding) (Ls : List Syntax) (p f : Syntax) (o : List Capture) (i t : Nat) : List (List Capture) := (rws (gS B Ls (p.items.getD i default)) f.items (kS B Ls p f o i) t).1
def qS (B : List Binding) (Ls : List Syntax) (p f : Syntax) (o : List Capture) (i t : Nat) : Bool := (rws (gS B Ls (p.items.getD i default)) f.items (kS B Ls p f o i) t).2
def fS (p f : Syntax) : Bool := fitM (aS p.items) p.items f
def upTo (V : List Capture) (i : Nat) : List Capture := (V.take i).map upC ++ V.drop i
abbrev capX (x : Capture) : List Cell := [cI x.name.kind, cI x.name.number, cS x.name.text, .any, .any, cI x.depth, cI x.form.kind, cI x.form.number, cS x.form.text, .any, .any, .any]
def rpTo (V : List Capture) (R : List (List Capture)) (c : List Capture) (u : Nat) : List Capture := (rp V (R ++ [c])).take u ++ (rp V R).drop u
theorem aS_at (l : List Syntax) : aS l = -1 ∨ ∃ a : Nat, aS l = a ∧ 1 ≤ a ∧ a < l.length := by
  unfold aS
  split
  · rename_i h
    rcases okA_at l l.length (Nat.le_refl _) h with h1 | ⟨m, h1, h2, h3, _⟩
    · exact .inl h1.1
    · exact .inr ⟨m, h3, h1, h2⟩
  · exact .inl rfl
theorem fS_eq (p f : Syntax) : fS p f = (decide (f.kind = 0) && decide (0 ≤ many (aS p.items) p.items.length f.items.length) && (decide (0 ≤ aS p.items) || decide (f.items.length = p.items.length))) := rfl
theorem fS_at {p f : Syntax} (h : fS p f = true) : f.kind = 0 ∧ (aS p.items = -1 ∧ f.items.length = p.items.length ∧ mS p f = 0 ∨ ∃ a : Nat, aS p.items = a ∧ 1 ≤ a ∧ a < p.items.length ∧ (f.items.length : Int) = p.items.length - 2 + mS p f) := by
  rw [fS_eq] at h
  simp only [Bool.and_eq_true, Bool.or_eq_true, decide_eq_true_eq] at h
  obtain ⟨⟨h1, h2⟩, h3⟩ := h
  refine ⟨h1, ?_⟩
  rcases aS_at p.items with ha | ⟨a, ha, ha1, ha2⟩
  · refine .inl ⟨ha, by rcases h3 with h3 | h3 <;> omega, ?_⟩
    unfold mS many; rw [ha, if_neg (by omega)]; rfl
  · refine .inr ⟨a, ha, ha1, ha2, ?_⟩
    have e : many (aS p.items) p.items.length f.items.length = (f.items.length : Int) - ((p.items.length : Int) - 2) := if_pos (by omega)
    rw [e] at h2
    unfold mS; rw [e]; omega
section
variable {B : List Binding} {Ls : List Syntax} {p f : Syntax} {o : List Capture}
theorem sM_zero : oS B Ls p f o 0 = o ∧ kS B Ls p f o 0 = 0 ∧ bS B Ls p f o 0 = true := sA_zero
theorem sM_skip {i : Nat} (h : bS B Ls p f o i = true) (e : (i : Int) = aS p.items) : oS B Ls p f o (i + 1) = oS B Ls p f o i ∧ kS B Ls p f o (i + 1) = kS B Ls p f o i ∧ bS B Ls p f o (i + 1) = true := sA_skip h e
theorem sM_one {i : Nat} (h : bS B Ls p f o i = true) (e : ¬ (i : Int) = aS p.items) (e2 : ¬ (i : Int) + 1 = aS p.items) :
    oS B Ls p f o (i + 1) = smO (p.items.getD i default) (oS B Ls p f o i) (gS B Ls (p.items.getD i default) (f.items.getD (kS B Ls p f o i) default)) ∧ kS B Ls p f o (i + 1) = kS B Ls p f o i + 1 ∧ bS B Ls p f o (i + 1) = (gS B Ls (p.items.getD i default) (f.items.getD (kS B Ls p f o i) default)).isSome := by
  obtain ⟨h1, h2, h3⟩ := sA_one (N := fun x => nm (hasI Ls) aS x 1) h e e2 rfl
  refine ⟨?_, h2, h3⟩
  have e3 : oS B Ls p f o (i + 1) = _ := h1
  rw [e3]
  unfold smO
  cases hg : gS B Ls (p.items.getD i default) (f.items.getD (kS B Ls p f o i) default) with
  | none => have hg' : gS B Ls (p.items.getD i default) (f.items.getD (kA (gS B Ls) (fun x => nm (hasI Ls) aS x 1) p.items f.items (aS p.items) (mS p f) o i) default) = none := hg
            rw [hg']; rfl
  | some c => have hg' : gS B Ls (p.items.getD i default) (f.items.getD (kA (gS B Ls) (fun x => nm (hasI Ls) aS x 1) p.items f.items (aS p.items) (mS p f) o i) default) = some c := hg
              rw [hg']; rfl
theorem sM_rep {i : Nat} (h : bS B Ls p f o i = true) (e2 : (i : Int) + 1 = aS p.items) :
    oS B Ls p f o (i + 1) = oS B Ls p f o i ++ rp (nS Ls (p.items.getD i default)) (rS B Ls p f o i (mS p f)) ∧ kS B Ls p f o (i + 1) = kS B Ls p f o i + (if qS B Ls p f o i (mS p f) = true then mS p f else (rS B Ls p f o i (mS p f)).length + 1) ∧ bS B Ls p f o (i + 1) = qS B Ls p f o i (mS p f) :=
  sA_rep (N := fun x => nm (hasI Ls) aS x 1) h e2 rfl rfl
theorem sM_stop {i n : Nat} (h : bS B Ls p f o i = false) (hn : i ≤ n) : oS B Ls p f o n = oS B Ls p f o i ∧ bS B Ls p f o n = false :=
  have t := sA_end (N := fun x => nm (hasI Ls) aS x 1) h hn
  ⟨t.1, t.2.2⟩
theorem sM_main (hf : fS p f = true) (i : Nat) (hi : i ≤ p.items.length) : (bS B Ls p f o i = true → (kS B Ls p f o i : Int) = kF (aS p.items) (mS p f) i ∧ ∃ c, oS B Ls p f o i = o ++ c ∧ c.length ≤ sumBy sizeY (p.items.take i) ∧
        mts (mng B) (hasI Ls) aS p.items 0 (aS p.items) (mS p f) f.items = (mts (mng B) (hasI Ls) aS (p.items.drop i) i (aS p.items) (mS p f) (f.items.drop (kS B Ls p f o i))).map (c ++ ·)) ∧
    (bS B Ls p f o i = false → mts (mng B) (hasI Ls) aS p.items 0 (aS p.items) (mS p f) f.items = none) := by
  have h := fS_at hf
  refine sA_main (fun ha => ?_) (fun ha => ?_) i hi
  · rcases h.2 with h | ⟨a, h⟩ <;> omega
  · rcases h.2 with h | ⟨a, h⟩ <;> omega
theorem sM_at (hf : fS p f = true) {i : Nat} (hi : i < p.items.length) (h : bS B Ls p f o i = true) : (oS B Ls p f o i).length + sizeY (p.items.getD i default) + 1 ≤ o.length + sizeY p ∧
    (¬ (i : Int) = aS p.items → ¬ (i : Int) + 1 = aS p.items → kS B Ls p f o i < f.items.length) ∧ ((i : Int) + 1 = aS p.items → kS B Ls p f o i + mS p f ≤ f.items.length) := by
  obtain ⟨hk, c, hc, hl, _⟩ := (sM_main (B := B) (Ls := Ls) (o := o) hf i (by omega)).1 h
  have hs := size_item hi
  have hfs := fS_at hf
  refine ⟨by rw [hc, List.length_append]; omega, fun h1 h2 => ?_, fun h1 => ?_⟩
  · unfold kF at hk
    rcases hfs.2 with h3 | ⟨a, h3⟩
    · rw [if_pos (by omega)] at hk; omega
    · split at hk
      · omega
      · first | omega | (rw [if_neg h1] at hk; omega)
  · unfold kF at hk
    rcases hfs.2 with h3 | ⟨a, h3⟩
    · omega
    · rw [if_pos (by omega)] at hk; omega
theorem gS_list (h0 : p.kind = 0) : gS B Ls p f = if fS p f = true then mts (mng B) (hasI Ls) aS p.items 0 (aS p.items) (mS p f) f.items else none := by
  unfold gS; rw [mt_eq, if_neg (by omega), if_pos h0]; rfl
theorem gS_out (h0 : p.kind = 0) (hf : fS p f = false) : gS B Ls p f = none := by rw [gS_list h0, hf]; rfl
theorem sM_end (h0 : p.kind = 0) (hf : fS p f = true) : (gS B Ls p f).isSome = bS B Ls p f o p.items.length ∧ smO p o (gS B Ls p f) = if bS B Ls p f o p.items.length = true then oS B Ls p f o p.items.length else [] := by
  rw [gS_list h0, if_pos hf]
  have hm := sM_main (B := B) (Ls := Ls) (o := o) hf _ (Nat.le_refl _)
  cases hb : bS B Ls p f o p.items.length with
  | false => rw [hm.2 hb]; exact ⟨rfl, by unfold smO flM; rw [if_pos h0]; rfl⟩
  | true =>
    obtain ⟨_, c, hc, _, he⟩ := hm.1 hb
    rw [he, hc, List.drop_length]
    simp only [mts, Option.map, smO, List.append_nil]
    exact ⟨rfl, rfl⟩
theorem smO_nil (x : Syntax) (r : Option (List Capture)) : smO x [] r = r.getD [] := by cases r <;> simp [smO, flM]
theorem smO_list {x : Syntax} (h : x.kind = 0) : smO x o none = [] := if_pos h
theorem gS_len {x y : Syntax} {c : List Capture} (h : gS B Ls x y = some c) : c.length = (nS Ls x).length := by
  rw [nS, nm_len1]; exact mt_len _ _ _ h
theorem nS_size (x : Syntax) : (nS Ls x).length ≤ sizeY x := nm_size _ _ _ _
theorem eV_of (hg : good Ls p) (h0 : p.kind = 0) {i : Nat} (hi : i < p.items.length) (ha : (i : Int) + 1 = aS p.items) : nS Ls (p.items.getD i default) = (eV Ls (p.items.getD i default)).map upC ∧ (vrS Ls (p.items.getD i default) 0 []) = some (eV Ls (p.items.getD i default)) := by
  obtain ⟨h1, _⟩ := good_rep hg h0 hi ha
  have e : eV Ls (p.items.getD i default) = nm (hasI Ls) aS (p.items.getD i default) 0 := by unfold eV; rw [h1]; rfl
  refine ⟨?_, by rw [e, h1]⟩
  rw [e]
  exact nm_dep _ _ _ 0
theorem upTo_zero (V : List Capture) : upTo V 0 = V := by simp [upTo]
theorem upTo_all {V : List Capture} {i : Nat} (h : V.length ≤ i) : upTo V i = V.map upC := by simp [upTo, List.take_of_length_le h, List.drop_eq_nil_of_le h]
theorem upTo_len (V : List Capture) (i : Nat) : (upTo V i).length = V.length := by simp [upTo, List.length_take, List.length_drop]; omega
theorem upTo_get {V : List Capture} {i : Nat} (h : i < V.length) : (upTo V i).getD i default = V.getD i default := by
  simp [upTo, List.getD_eq_getElem?_getD, List.getElem?_append, List.length_take, List.getElem?_drop, Nat.min_eq_left (Nat.le_of_lt h)]
theorem upTo_step {V : List Capture} {i : Nat} (h : i < V.length) : (upTo V i).set i (upC (V.getD i default)) = upTo V (i + 1) := by
  apply List.ext_getElem?
  intro j
  simp only [upTo, List.getElem?_set, List.getElem?_append, List.length_map, List.length_take, List.length_append, List.length_drop, List.getElem?_map, List.getElem?_take, List.getElem?_drop, List.getD_eq_getElem?_getD, Nat.min_eq_left (Nat.le_of_lt h), Nat.min_eq_left (show i + 1 ≤ V.length from h)]
  by_cases h1 : i = j
  · subst h1; simp [h]; omega
  · rw [if_neg h1]
    by_cases h2 : j < i
    · rw [if_pos h2, if_pos h2, if_pos (by omega), if_pos (by omega)]
    · rw [if_neg h2, if_neg (by omega)]; congr 1; omega
theorem etaP (x : Capture) : (⟨x.name, x.depth, x.form, x.each⟩ : Capture) = x := by cases x; rfl
theorem rp_nil (V : List Capture) : rp V [] = V := by
  apply List.ext_getElem?
  intro j
  simp only [rp, List.getElem?_map, List.getElem?_range', List.map_nil, List.append_nil, List.range_eq_range']
  by_cases h : j < V.length
  · simp [h]; exact etaP _
  · simp [h]
theorem rp_get {V : List Capture} {R : List (List Capture)} {i : Nat} (h : i < V.length) : (rp V R).getD i default = ⟨(V.getD i default).name, (V.getD i default).depth, (V.getD i default).form, (V.getD i default).each ++ R.map fun c => c.getD i default⟩ := by
  simp [rp, List.getD_eq_getElem?_getD, List.getElem?_range, h]
theorem rpTo_zero (V : List Capture) (R : List (List Capture)) (c : List Capture) : rpTo V R c 0 = rp V R := by simp [rpTo]
theorem rpTo_all {V : List Capture} {R : List (List Capture)} {c : List Capture} {u : Nat} (h : V.length ≤ u) : rpTo V R c u = rp V (R ++ [c]) := by
  unfold rpTo; rw [List.take_of_length_le (by rw [rp_len]; exact h), List.drop_eq_nil_of_le (by rw [rp_len]; exact h), List.append_nil]
theorem rpTo_len (V : List Capture) (R : List (List Capture)) (c : List Capture) (u : Nat) : (rpTo V R c u).length = V.length := by
  simp only [rpTo, List.length_append, List.length_take, List.length_drop, rp_len]; omega
theorem rpTo_get {V : List Capture} {R : List (List Capture)} {c : List Capture} {u : Nat} (h : u < V.length) : (rpTo V R c u).getD u default = (rp V R).getD u default := by
  simp [rpTo, List.getD_eq_getElem?_getD, List.getElem?_append, List.length_take, List.getElem?_drop, rp_len, Nat.min_eq_left (Nat.le_of_lt h)]
theorem rpTo_step {V : List Capture} {R : List (List Capture)} {c : List Capture} {u : Nat} (h : u < V.length) : (rpTo V R c u).set u ⟨((rp V R).getD u default).name, ((rp V R).getD u default).depth, ((rp V R).getD u default).form, ((rp V R).getD u default).each ++ [c.getD u default]⟩ = rpTo V R c (u + 1) := by
  have e : (⟨((rp V R).getD u default).name, ((rp V R).getD u default).depth, ((rp V R).getD u default).form, ((rp V R).getD u default).each ++ [c.getD u default]⟩ : Capture) = (rp V (R ++ [c])).getD u default := by
    rw [rp_get h, rp_get h]; simp
  rw [e]
  apply List.ext_getElem?
  intro j
  have hl := rp_len V R
  have hl2 := rp_len V (R ++ [c])
  simp only [rpTo, List.getElem?_set, List.getElem?_append, List.length_take, List.length_append, List.length_drop, List.getElem?_take, List.getElem?_drop, List.getD_eq_getElem?_getD, hl, hl2, Nat.min_eq_left (Nat.le_of_lt h), Nat.min_eq_left (show u + 1 ≤ V.length from h)]
  by_cases h1 : u = j
  · subst h1
    rw [if_pos rfl, if_pos (by omega), if_pos (by omega)]
    have : (rp V (R ++ [c]))[u]? = some ((rp V (R ++ [c]))[u]'(by omega)) := List.getElem?_eq_getElem _
    rw [this, if_pos (Nat.lt_succ_self u)]; rfl
  · rw [if_neg h1]
    by_cases h2 : j < u
    · rw [if_pos h2, if_pos h2, if_pos (by omega), if_pos (by omega)]
    · rw [if_neg h2, if_neg (by omega)]; congr 1; omega
abbrev outTo (L : List Capture) (u : Nat) : List (List Cell) := (L.take u).map capX ++ (L.drop u).map captureC
theorem outTo_get {L : List Capture} {u : Nat} (h : u < L.length) : (outTo L u)[u]? = some (captureC (L.getD u default)) := by
  simp [outTo, List.getD_eq_getElem?_getD, List.getElem?_append, List.length_take, List.getElem?_drop, h, Nat.min_eq_left (Nat.le_of_lt h)]
theorem outTo_step {L : List Capture} {u : Nat} (h : u < L.length) : (outTo L u).set u (capX (L.getD u default)) = outTo L (u + 1) := by
  apply List.ext_getElem?
  intro j
  simp only [outTo, List.getElem?_set, List.getElem?_append, List.length_map, List.length_take, List.length_append, List.length_drop, List.getElem?_map, List.getElem?_take, List.getElem?_drop, List.getD_eq_getElem?_getD, Nat.min_eq_left (Nat.le_of_lt h), Nat.min_eq_left (show u + 1 ≤ L.length from h)]
  by_cases h1 : u = j
  · subst h1; simp [h]; omega
  · rw [if_neg h1]
    by_cases h2 : j < u
    · rw [if_pos h2, if_pos h2, if_pos (by omega), if_pos (by omega)]
    · rw [if_neg h2, if_neg (by omega)]; congr 2; omega
theorem rS_zero (i : Nat) : rS B Ls p f o i 0 = [] ∧ qS B Ls p f o i 0 = true := ⟨rfl, rfl⟩
theorem rS_some {i t : Nat} {c : List Capture} (h : qS B Ls p f o i t = true) (hc : gS B Ls (p.items.getD i default) (f.items.getD (kS B Ls p f o i + t) default) = some c) : rS B Ls p f o i (t + 1) = rS B Ls p f o i t ++ [c] ∧ qS B Ls p f o i (t + 1) = true := by
  unfold rS qS; rw [rws_some h hc]; exact ⟨rfl, rfl⟩
theorem rS_none {i t : Nat} (h : qS B Ls p f o i t = true) (hc : gS B Ls (p.items.getD i default) (f.items.getD (kS B Ls p f o i + t) default) = none) : rS B Ls p f o i (t + 1) = rS B Ls p f o i t ∧ qS B Ls p f o i (t + 1) = false := by
  unfold rS qS; rw [rws_none h hc]; exact ⟨rfl, rfl⟩
theorem rS_len {i t : Nat} (h : qS B Ls p f o i t = true) : (rS B Ls p f o i t).length = t := rws_len t h
theorem rS_stop {i t : Nat} (h : qS B Ls p f o i t = false) {n : Nat} (hn : t ≤ n) : rS B Ls p f o i n = rS B Ls p f o i t ∧ qS B Ls p f o i n = false := by
  have e := rws_stop h (n - t)
  rw [show t + (n - t) = n by omega] at e
  unfold rS qS at *; rw [e]; exact ⟨rfl, h⟩
end
def oneS (B : List Binding) (Ls : List Syntax) (p f : Syntax) (o : List Capture) (s t : Nat) : List Capture := (gS B Ls (p.items.getD s default) (f.items.getD (kS B Ls p f o s + t) default)).getD []
theorem gS_wild {B : List Binding} {Ls : List Syntax} {p f : Syntax} {o : List Capture} (hk : p.kind = 1) (h : isUnd p = true) : gS B Ls p f = some [] ∧ smO p o (gS B Ls p f) = o := by
  have e : gS B Ls p f = some [] := by unfold gS; rw [mt_eq, if_pos hk, if_pos h]
  rw [e]; exact ⟨rfl, List.append_nil o⟩
theorem gS_lit {B : List Binding} {Ls : List Syntax} {p f : Syntax} {o : List Capture} (hk : p.kind = 1) (h : isUnd p = false) (h2 : hasI Ls p = true) : (gS B Ls p f).isSome = (decide (f.kind = 1) && mng B p f) ∧ smO p o (gS B Ls p f) = o := by
  have e : gS B Ls p f = if f.kind = 1 ∧ mng B p f = true then some [] else none := by unfold gS; rw [mt_eq, if_pos hk, if_neg (by simp [h]), if_pos h2]
  rw [e]
  by_cases hc : f.kind = 1 ∧ mng B p f = true
  · rw [if_pos hc]; exact ⟨by simp [hc.1, hc.2], List.append_nil o⟩
  · rw [if_neg hc]
    refine ⟨?_, by unfold smO flM; simp only; rw [if_neg (by omega)]⟩
    cases h3 : decide (f.kind = 1) <;> cases h4 : mng B p f <;> simp_all
theorem gS_sym {B : List Binding} {Ls : List Syntax} {p f : Syntax} {o : List Capture} (hk : p.kind = 1) (h : isUnd p = false) (h2 : hasI Ls p = false) : gS B Ls p f = some [capF p f] ∧ smO p o (gS B Ls p f) = o ++ [capF p f] := by
  have e : gS B Ls p f = some [capF p f] := by unfold gS; rw [mt_eq, if_pos hk, if_neg (by simp [h]), if_neg (by simp [h2])]
  rw [e]; exact ⟨rfl, rfl⟩
theorem gS_other {B : List Binding} {Ls : List Syntax} {p f : Syntax} {o : List Capture} (hk : ¬ p.kind = 1) (h0 : ¬ p.kind = 0) : (gS B Ls p f).isSome = (decide (f.kind = p.kind) && decide (f.number = p.number) && decide (f.text = p.text)) ∧ smO p o (gS B Ls p f) = o := by
  have e : gS B Ls p f = if f.kind = p.kind ∧ f.number = p.number ∧ f.text = p.text then some [] else none := by unfold gS; rw [mt_eq, if_neg hk, if_neg h0]
  rw [e]
  by_cases hc : f.kind = p.kind ∧ f.number = p.number ∧ f.text = p.text
  · rw [if_pos hc]; exact ⟨by simp [hc.1, hc.2.1, hc.2.2], List.append_nil o⟩
  · rw [if_neg hc]
    refine ⟨?_, by unfold smO flM; simp only; rw [if_neg h0]⟩
    symm; simp only [Option.isSome]; rw [Bool.eq_false_iff]; simp only [ne_eq, Bool.and_eq_true, decide_eq_true_eq]; rintro ⟨⟨a, b⟩, c⟩; exact hc ⟨a, b, c⟩
theorem capF_snoc (o : List Capture) (p f : Syntax) : o.map captureC ++ [[cI p.kind, cI p.number, cS p.text, Cell.list (List.map intC p.scopes), Cell.list (List.map syntaxC p.items), cI 0, cI f.kind, cI f.number, cS f.text, Cell.list (List.map intC f.scopes), Cell.list (List.map syntaxC f.items), Cell.list []]] = (o ++ [capF p f]).map captureC :=
  rowSnoc (C := captureC) o (capF p f)
theorem mt_good {Ls : List Syntax} {p : Syntax} (hp : isSyn p = true) (hv : (vrS Ls p 0 []).isSome = true) : good Ls p ∧ sizeY p ≤ 2000 ∧ depY p ≤ 40 := by
  simp only [isSyn, Bool.and_eq_true, decide_eq_true_eq] at hp
  obtain ⟨r, hr⟩ := Option.isSome_iff_exists.1 hv
  exact ⟨⟨hp.2, 0, [], r, by omega, hr⟩, hp.1.1, hp.1.2⟩
end Go.Proofs.YtpnaoendfpaodaaGreat
end
section
namespace Go.Proofs.YtpnaoendfpaodaaGreat
open Go Go.Proofs.YtpnaoendfpaodaaGreat.Ab
set_option linter.unusedVariables false
set_option linter.unusedSimpArgs false
def alM (g : Syntax → Syntax → Option (List Capture)) : List Syntax → List Syntax → Option (List Capture)
  | [], _ => some []
  | x :: r, fs => match g x (fs.getD 0 default) with
    | none => none
    | some c => match alM g r (fs.drop 1) with
      | none => none
      | some d => some (c ++ d)
def alO (o : List Capture) (r : Option (List Capture)) : List Capture := match r with | none => [] | some c => o ++ c
theorem alM_append (g : Syntax → Syntax → Option (List Capture)) : ∀ (A C : List Syntax) (fs : List Syntax), alM g (A ++ C) fs = match alM g A fs with | none => none | some c => match alM g C (fs.drop A.length) with | none => none | some d => some (c ++ d)
  | [], C, fs => by
    simp only [List.nil_append, alM, List.length_nil, List.drop_zero]
    cases alM g C fs <;> rfl
  | y :: A, C, fs => by
    have e : (fs.drop 1).drop A.length = fs.drop (y :: A).length := by rw [List.drop_drop, List.length_cons, Nat.add_comm]
    simp only [List.cons_append, alM, alM_append g A C, e]
    cases g y (fs.getD 0 default) with
    | none => rfl
    | some c =>
      cases alM g A (fs.drop 1) with
      | none => rfl
      | some d =>
        cases alM g C (fs.drop (y :: A).length) with
        | none => rfl
        | some d2 => simp [List.append_assoc]
theorem alM_step {g : Syntax → Syntax → Option (List Capture)} {ps fs : List Syntax} {k : Nat} (h : k < ps.length) : alM g (ps.take (k + 1)) fs = match alM g (ps.take k) fs with | none => none | some c => (match g (ps.getD k default) (fs.getD k default) with | none => none | some d => some (c ++ d)) := by
  have e : (fs.drop k).getD 0 default = fs.getD k default := by simp [List.getD_eq_getElem?_getD]
  rw [take_get h, alM_append, List.length_take, Nat.min_eq_left (Nat.le_of_lt h)]
  simp only [alM, e]
  cases alM g (ps.take k) fs with
  | none => rfl
  | some c => cases g (ps.getD k default) (fs.getD k default) <;> simp
theorem al_zero {g : Syntax → Syntax → Option (List Capture)} {ps fs : List Syntax} {o : List Capture} : alO o (alM g (ps.take 0) fs) = o ∧ (alM g (ps.take 0) fs).isSome = true := by
  simp [alM, alO]
theorem al_go {g : Syntax → Syntax → Option (List Capture)} {ps fs : List Syntax} {o : List Capture} {k : Nat} (h : k < ps.length) (hs : (alM g (ps.take k) fs).isSome = true) :
    (alM g (ps.take (k + 1)) fs).isSome = (g (ps.getD k default) (fs.getD k default)).isSome ∧ ((g (ps.getD k default) (fs.getD k default)).isSome = true → alO o (alM g (ps.take (k + 1)) fs) = smO (ps.getD k default) (alO o (alM g (ps.take k) fs)) (g (ps.getD k default) (fs.getD k default))) := by
  obtain ⟨c, hc⟩ := Option.isSome_iff_exists.1 hs
  rw [alM_step h, hc]
  cases g (ps.getD k default) (fs.getD k default) with
  | none => exact ⟨rfl, fun h => by cases h⟩
  | some d => exact ⟨rfl, fun _ => by simp [alO, smO, List.append_assoc]⟩
theorem al_stop {g : Syntax → Syntax → Option (List Capture)} {ps fs : List Syntax} {k : Nat} (h : (alM g (ps.take k) fs).isSome = false) : alM g ps fs = none := by
  have e := alM_append g (ps.take k) (ps.drop k) fs
  rw [List.take_append_drop] at e
  cases h2 : alM g (ps.take k) fs with
  | none => rw [h2] at e; exact e
  | some c => rw [h2] at h; cases h
theorem al_all {g : Syntax → Syntax → Option (List Capture)} {ps fs : List Syntax} {k : Nat} (h : ps.length ≤ k) : alM g (ps.take k) fs = alM g ps fs := by rw [List.take_of_length_le h]
theorem alM_len {g : Syntax → Syntax → Option (List Capture)} : ∀ (ps : List Syntax) (fs : List Syntax) (c : List Capture), (∀ x ∈ ps, ∀ f c, g x f = some c → c.length ≤ sizeY x) → alM g ps fs = some c → c.length ≤ sumBy sizeY ps
  | [], fs, c, _, e => by simp only [alM, Option.some.injEq] at e; subst e; simp [sumBy]
  | x :: r, fs, c, h, e => by
    simp only [alM] at e
    simp only [sumBy]
    split at e
    · cases e
    · rename_i c1 h1
      split at e
      · cases e
      · rename_i c2 h2
        simp only [Option.some.injEq] at e; subst e
        have := alM_len r _ _ (fun y hy => h y (List.mem_cons_of_mem _ hy)) h2
        have := h x List.mem_cons_self _ _ h1
        rw [List.length_append]; omega
theorem alM_take (g : Syntax → Syntax → Option (List Capture)) : ∀ (ps fs : List Syntax) (n : Nat), ps.length ≤ n → alM g ps (fs.take n) = alM g ps fs
  | [], _, _, _ => rfl
  | x :: r, fs, n, h => by
    cases n with
    | zero => simp at h
    | succ n =>
      have h' : r.length ≤ n := by simpa using h
      cases fs with
      | nil => simp [alM]
      | cons f fs => simp only [alM, List.take_succ_cons, List.drop_succ_cons, List.drop_zero, List.getD_cons_zero, alM_take g r fs n h']
theorem mts_plain {M : Syntax → Syntax → Bool} {H : Syntax → Bool} {A : List Syntax → Int} {a : Int} {m : Nat} : ∀ (l : List Syntax) (i : Int) (fs : List Syntax), (∀ k : Nat, k < l.length → i + k ≠ a ∧ i + k + 1 ≠ a) → mts M H A l i a m fs = alM (mt M H A) l fs
  | [], _, _, _ => by simp [mts, alM]
  | x :: r, i, fs, h => by
    have h0 := h 0 (by simp)
    have ih := mts_plain (M := M) (H := H) (A := A) (a := a) (m := m) r (i + 1) (fs.drop 1) (fun k hk => by
      have := h (k + 1) (by simp; omega)
      rw [show i + ((k + 1 : Nat) : Int) = i + 1 + (k : Int) by omega] at this; exact this)
    simp only [mts, alM]
    rw [if_neg (by simpa using h0.1), if_neg (by simpa using h0.2), ih]
    all_goals rfl
theorem mts_rep {M : Syntax → Syntax → Bool} {H : Syntax → Bool} {A : List Syntax → Int} {a : Int} {m : Nat} {x y : Syntax} {post : List Syntax} : ∀ (pre : List Syntax) (i : Int) (fs : List Syntax), i + pre.length + 1 = a →
    mts M H A (pre ++ x :: y :: post) i a m fs = match alM (mt M H A) pre fs with | none => none | some c1 => (match mtr (mt M H A x) ((fs.drop pre.length).take m) with | none => none | some R => (match alM (mt M H A) post (fs.drop (pre.length + m)) with | none => none | some c2 => some (c1 ++ (rp (nm H A x 1) R ++ c2))))
  | [], i, fs, h => by
    have h1 : ¬ i = a := by simp at h; omega
    have h2 : i + 1 = a := by simpa using h
    have e := mts_plain (M := M) (H := H) (A := A) (a := a) (m := m) post (i + 1 + 1) (fs.drop m) (fun k _ => by omega)
    simp only [List.nil_append, mts, alM, List.length_nil, List.drop_zero, Nat.zero_add]
    rw [if_neg h1, if_pos h2, if_pos h2, e]
    all_goals rfl
  | z :: pre, i, fs, h => by
    have hl : ((z :: pre).length : Int) = pre.length + 1 := by simp
    have h1 : ¬ i = a := by omega
    have h2 : ¬ i + 1 = a := by omega
    have ih := mts_rep (M := M) (H := H) (A := A) (a := a) (m := m) (x := x) (y := y) (post := post) pre (i + 1) (fs.drop 1) (by omega)
    have e1 : (fs.drop 1).drop pre.length = fs.drop (z :: pre).length := by rw [List.drop_drop, List.length_cons, Nat.add_comm]
    have e2 : (fs.drop 1).drop (pre.length + m) = fs.drop ((z :: pre).length + m) := by rw [List.drop_drop, List.length_cons]; congr 1; omega
    simp only [List.cons_append, mts, alM]
    rw [if_neg h1, if_neg h2, ih, e1, e2]
    cases mt M H A z (fs.getD 0 default) with
    | none => rfl
    | some c =>
      simp only
      cases alM (mt M H A) pre (fs.drop 1) with
      | none => rfl
      | some c1 =>
        simp only
        cases mtr (mt M H A x) ((fs.drop (z :: pre).length).take m) with
        | none => rfl
        | some R =>
          simp only
          cases alM (mt M H A) post (fs.drop ((z :: pre).length + m)) with
          | none => rfl
          | some c2 => simp [List.append_assoc]
def gI (B : List Binding) (Ls : List Syntax) : Syntax → Syntax → Option (List Capture) := mt (mng B) (hasJ Ls) atI
def nI (Ls : List Syntax) (x : Syntax) : List Capture := nm (hasJ Ls) atI x 1
def aT (p : Syntax) : Nat := (atI p.items - 1).toNat
def xI (p : Syntax) : Syntax := p.items.getD (aT p) default
def mI2 (p f : Syntax) : Nat := ((f.items.length : Int) - ((p.items.length : Int) - 2)).toNat
def rI (B : List Binding) (Ls : List Syntax) (p f : Syntax) (t : Nat) : List (List Capture) := (rws (gI B Ls (xI p)) f.items (aT p) t).1
def qI (B : List Binding) (Ls : List Syntax) (p f : Syntax) (t : Nat) : Bool := (rws (gI B Ls (xI p)) f.items (aT p) t).2
section
variable {B : List Binding} {Ls : List Syntax} {p f : Syntax} {o : List Capture}
theorem gI_len {x y : Syntax} {c : List Capture} (h : gI B Ls x y = some c) : c.length = (nI Ls x).length := by
  rw [nI, nm_len1]; exact mt_len _ _ _ h
theorem nI_size (x : Syntax) : (nI Ls x).length ≤ sizeY x := nm_size _ _ _ _
theorem alI_len {ps fs : List Syntax} {c : List Capture} (h : alM (gI B Ls) ps fs = some c) : c.length ≤ sumBy sizeY ps :=
  alM_len ps fs c (fun x _ f c e => by have := gI_len e; have := nI_size (Ls := Ls) x; omega) h
theorem alO_len {ps fs : List Syntax} : (alO o (alM (gI B Ls) ps fs)).length ≤ o.length + sumBy sizeY ps := by
  cases h : alM (gI B Ls) ps fs with
  | none => simp [alO]
  | some c => have := alI_len h; simp only [alO, List.length_append]; omega
theorem gI_list (h0 : p.kind = 0) : gI B Ls p f = if fitM (atI p.items) p.items f = true then mts (mng B) (hasJ Ls) atI p.items 0 (atI p.items) (many (atI p.items) p.items.length f.items.length).toNat f.items else none := by
  unfold gI; rw [mt_eq, if_neg (by omega), if_pos h0]
theorem gI_kind (h0 : p.kind = 0) (hf : ¬ f.kind = 0) : gI B Ls p f = none := by
  rw [gI_list h0, if_neg (by simp [fitM, hf])]
theorem gI_flat (h0 : p.kind = 0) (hf : f.kind = 0) (ha : atI p.items < 0) : gI B Ls p f = if p.items.length = f.items.length then alM (gI B Ls) p.items f.items else none := by
  have e : fitM (atI p.items) p.items f = decide (f.items.length = p.items.length) := by
    simp only [fitM, many, if_neg (show ¬ 0 ≤ atI p.items by omega), hf]; simp; omega
  rw [gI_list h0, e, mts_plain _ _ _ (fun k _ => by omega)]
  by_cases h : p.items.length = f.items.length
  · rw [if_pos h, if_pos (by simp [h])]; rfl
  · rw [if_neg h, if_neg (by simp; omega)]
theorem gI_few (h0 : p.kind = 0) (hf : f.kind = 0) (ha : 0 ≤ atI p.items) (hm : (f.items.length : Int) - ((p.items.length : Int) - 2) < 0) : gI B Ls p f = none := by
  have e : fitM (atI p.items) p.items f = false := by
    simp only [fitM, many, if_pos ha]; simp; omega
  rw [gI_list h0, e]; rfl
theorem gI_many (h0 : p.kind = 0) (hf : f.kind = 0) (ha : 1 ≤ atI p.items) (hl : atI p.items < p.items.length) (hm : 0 ≤ (f.items.length : Int) - ((p.items.length : Int) - 2)) :
    gI B Ls p f = match alM (gI B Ls) (p.items.take (aT p)) (f.items.take (aT p)) with | none => none | some c1 => if qI B Ls p f (mI2 p f) = true then (match alM (gI B Ls) (p.items.drop (aT p + 2)) (f.items.drop (aT p + mI2 p f)) with | none => none | some c2 => some (c1 ++ (rp (nI Ls (xI p)) (rI B Ls p f (mI2 p f)) ++ c2))) else none := by
  have e : fitM (atI p.items) p.items f = true := by
    simp only [fitM, many, if_pos (show 0 ≤ atI p.items by omega), hf]; simp; omega
  have ea : (aT p : Int) + 1 = atI p.items := by unfold aT; omega
  have em : (many (atI p.items) p.items.length f.items.length).toNat = mI2 p f := by unfold many mI2; rw [if_pos (by omega)]
  have h1 : aT p < p.items.length := by omega
  have h2 : aT p + 1 < p.items.length := by omega
  have es : p.items = p.items.take (aT p) ++ (xI p :: p.items.getD (aT p + 1) default :: p.items.drop (aT p + 2)) := by
    have e1 : p.items.drop (aT p) = xI p :: p.items.drop (aT p + 1) := by
      rw [List.drop_eq_getElem_cons h1]; simp [xI, h1]
    have e2 : p.items.drop (aT p + 1) = p.items.getD (aT p + 1) default :: p.items.drop (aT p + 2) := by
      rw [List.drop_eq_getElem_cons h2]; simp [h2]
    rw [← e2, ← e1, List.take_append_drop]
  have el : (p.items.take (aT p)).length = aT p := by rw [List.length_take, Nat.min_eq_left (by omega)]
  have er : aT p + mI2 p f ≤ f.items.length := by unfold mI2; omega
  rw [gI_list h0, e, if_pos rfl, em]
  have k := mts_rep (M := mng B) (H := hasJ Ls) (A := atI) (a := atI p.items) (m := mI2 p f) (x := xI p) (y := p.items.getD (aT p + 1) default) (post := p.items.drop (aT p + 2)) (p.items.take (aT p)) 0 f.items (by rw [el]; omega)
  rw [← es, el] at k
  rw [k, rws_mtr (mI2 p f) er, alM_take _ _ _ _ (by rw [el]; exact Nat.le_refl _)]
  show (match alM (gI B Ls) _ _ with | none => none | some c1 => _) = _
  cases alM (gI B Ls) (p.items.take (aT p)) f.items with
  | none => rfl
  | some c1 =>
    show (match (if qI B Ls p f (mI2 p f) = true then some (rI B Ls p f (mI2 p f)) else none) with | none => none | some R => _) = _
    by_cases hq : qI B Ls p f (mI2 p f) = true
    · rw [if_pos hq]; simp only [hq, if_pos]; rfl
    · rw [if_neg hq]; simp only; rw [if_neg hq]
theorem gI_pre (h0 : p.kind = 0) (hf : f.kind = 0) (ha : 1 ≤ atI p.items) (hl : atI p.items < p.items.length) (hm : 0 ≤ (f.items.length : Int) - ((p.items.length : Int) - 2)) (h : (alM (gI B Ls) (p.items.take (aT p)) (f.items.take (aT p))).isSome = false) : gI B Ls p f = none := by
  rw [gI_many h0 hf ha hl hm]
  cases h2 : alM (gI B Ls) (p.items.take (aT p)) (f.items.take (aT p)) with
  | none => rfl
  | some c => rw [h2] at h; cases h
theorem rI_stop {t : Nat} (h : qI B Ls p f t = false) {n : Nat} (hn : t ≤ n) : qI B Ls p f n = false := by
  have e := rws_stop h (n - t)
  rw [show t + (n - t) = n by omega] at e
  unfold qI at *; rw [e]; exact h
theorem gI_round (h0 : p.kind = 0) (hf : f.kind = 0) (ha : 1 ≤ atI p.items) (hl : atI p.items < p.items.length) (hm : 0 ≤ (f.items.length : Int) - ((p.items.length : Int) - 2)) {t : Nat} (ht : t ≤ mI2 p f) (h : qI B Ls p f t = false) : gI B Ls p f = none := by
  rw [gI_many h0 hf ha hl hm, rI_stop h ht]
  cases alM (gI B Ls) (p.items.take (aT p)) (f.items.take (aT p)) <;> rfl
theorem gI_done (h0 : p.kind = 0) (hf : f.kind = 0) (ha : 1 ≤ atI p.items) (hl : atI p.items < p.items.length) (hm : 0 ≤ (f.items.length : Int) - ((p.items.length : Int) - 2)) (h : (alM (gI B Ls) (p.items.take (aT p)) (f.items.take (aT p))).isSome = true) (hq : qI B Ls p f (mI2 p f) = true) :
    (gI B Ls p f).isSome = (alM (gI B Ls) (p.items.drop (aT p + 2)) (f.items.drop (aT p + mI2 p f))).isSome ∧ smO p o (gI B Ls p f) = alO (alO o (alM (gI B Ls) (p.items.take (aT p)) (f.items.take (aT p))) ++ rp (nI Ls (xI p)) (rI B Ls p f (mI2 p f))) (alM (gI B Ls) (p.items.drop (aT p + 2)) (f.items.drop (aT p + mI2 p f))) := by
  obtain ⟨c, hc⟩ := Option.isSome_iff_exists.1 h
  rw [gI_many h0 hf ha hl hm, hc]
  simp only [hq, ↓reduceIte]
  cases alM (gI B Ls) (p.items.drop (aT p + 2)) (f.items.drop (aT p + mI2 p f)) with
  | none => exact ⟨rfl, by simp [smO, flM, h0, alO]⟩
  | some d => exact ⟨rfl, by simp [smO, alO, List.append_assoc]⟩
theorem gI_flat2 (h0 : p.kind = 0) (hf : f.kind = 0) (ha : atI p.items < 0) (hl : p.items.length = f.items.length) : (gI B Ls p f).isSome = (alM (gI B Ls) p.items f.items).isSome ∧ smO p o (gI B Ls p f) = alO o (alM (gI B Ls) p.items f.items) := by
  rw [gI_flat h0 hf ha, if_pos hl]
  cases alM (gI B Ls) p.items f.items with
  | none => exact ⟨rfl, by simp [smO, flM, h0, alO]⟩
  | some d => exact ⟨rfl, rfl⟩
theorem rI_some {t : Nat} {c : List Capture} (h : qI B Ls p f t = true) (hc : gI B Ls (xI p) (f.items.getD (aT p + t) default) = some c) : rI B Ls p f (t + 1) = rI B Ls p f t ++ [c] ∧ qI B Ls p f (t + 1) = true := by
  unfold rI qI; rw [rws_some h hc]; exact ⟨rfl, rfl⟩
theorem rI_none {t : Nat} (h : qI B Ls p f t = true) (hc : gI B Ls (xI p) (f.items.getD (aT p + t) default) = none) : qI B Ls p f (t + 1) = false := by
  unfold qI; rw [rws_none h hc]
theorem rI_len {t : Nat} (h : qI B Ls p f t = true) : (rI B Ls p f t).length = t := rws_len t h
def oneI (B : List Binding) (Ls : List Syntax) (p f : Syntax) (t : Nat) : List Capture := (gI B Ls (xI p) (f.items.getD (aT p + t) default)).getD []
theorem atI_of (hg : good Ls p) (h0 : p.kind = 0) : atI p.items = aS p.items ∧ (atI p.items = -1 ∨ 1 ≤ atI p.items ∧ atI p.items < p.items.length) := by
  have hs := good_okS hg h0
  have e1 : aS p.items = atI p.items := by rw [(atI_ok hs).1]; exact if_pos hs
  refine ⟨e1.symm, ?_⟩
  rcases aS_at p.items with h | ⟨a, h1, h2, h3⟩
  · exact .inl (by rw [← e1]; exact h)
  · exact .inr ⟨by omega, by omega⟩
theorem aT_of (ha : 1 ≤ atI p.items) (hl : atI p.items < p.items.length) : (aT p : Int) = atI p.items - 1 ∧ aT p + 2 ≤ p.items.length := by
  unfold aT; omega
theorem xI_good (hg : good Ls p) (h0 : p.kind = 0) (ha : 1 ≤ atI p.items) (hl : atI p.items < p.items.length) : good Ls (xI p) ∧ xI p ∈ p.items := by
  have h := aT_of ha hl
  have e := atI_of hg h0
  exact ⟨good_item hg h0 (k := aT p) (by omega) (by omega), getD_mem' (by omega)⟩
theorem nI_of (hL : Ls.all litP = true) (hg : good Ls p) (h0 : p.kind = 0) (ha : 1 ≤ atI p.items) (hl : atI p.items < p.items.length) : vrI Ls (xI p) 1 [] = some (nI Ls (xI p)) := by
  have h := aT_of ha hl
  have e := atI_of hg h0
  have hL' := List.all_eq_true.1 hL
  have hx := xI_good hg h0 ha hl
  have h1 := (good_rep hg h0 (k := aT p) (by omega) (by omega)).2
  have h2 := (vr_same hL' (xI p) hx.1.1 1 [] (by simp)).1
  have h3 := (mt_same (M := fun _ _ => true) hL' (xI p) hx.1).2 1
  rw [h2]
  show vrS Ls (p.items.getD (aT p) default) 1 [] = some (nm (hasJ Ls) atI (xI p) 1)
  rw [h1]; exact congrArg some h3
theorem mem_getD {L : List Syntax} {z : Syntax} (h : z ∈ L) : ∃ k, k < L.length ∧ L.getD k default = z := by
  obtain ⟨k, hk, e⟩ := List.mem_iff_getElem.1 h
  exact ⟨k, hk, by simp [hk, e]⟩
theorem good_pre (hg : good Ls p) (h0 : p.kind = 0) (ha : 1 ≤ atI p.items) (hl : atI p.items < p.items.length) (hd : depY p ≤ 40) : ∀ z ∈ p.items.take (aT p), good Ls z ∧ depY z ≤ 40 := by
  intro z hz
  have h := aT_of ha hl
  have e := atI_of hg h0
  obtain ⟨k, hk, rfl⟩ := mem_getD hz
  rw [List.length_take] at hk
  have e2 : (p.items.take (aT p)).getD k default = p.items.getD k default := by
    simp only [List.getD_eq_getElem?_getD, List.getElem?_take]; rw [if_pos (by omega)]
  rw [e2]
  have := depY_item (t := p) (k := k) (by omega)
  exact ⟨good_item hg h0 (by omega) (by omega), by omega⟩
theorem good_post (hg : good Ls p) (h0 : p.kind = 0) (ha : 1 ≤ atI p.items) (hl : atI p.items < p.items.length) (hd : depY p ≤ 40) : ∀ z ∈ p.items.drop (aT p + 2), good Ls z ∧ depY z ≤ 40 := by
  intro z hz
  have h := aT_of ha hl
  have e := atI_of hg h0
  obtain ⟨k, hk, rfl⟩ := mem_getD hz
  rw [List.length_drop] at hk
  have e2 : (p.items.drop (aT p + 2)).getD k default = p.items.getD (aT p + 2 + k) default := by
    simp only [List.getD_eq_getElem?_getD, List.getElem?_drop]
  rw [e2]
  have := depY_item (t := p) (k := aT p + 2 + k) (by omega)
  exact ⟨good_item hg h0 (by omega) (by omega), by omega⟩
theorem good_flat (hg : good Ls p) (h0 : p.kind = 0) (ha : atI p.items < 0) (hd : depY p ≤ 40) : ∀ z ∈ p.items, good Ls z ∧ depY z ≤ 40 := by
  intro z hz
  have e := atI_of hg h0
  obtain ⟨k, hk, rfl⟩ := mem_getD hz
  have := depY_item (t := p) (k := k) hk
  exact ⟨good_item hg h0 hk (by omega), by omega⟩
theorem sumBy_dropLe {α : Type} (c : α → Nat) (L : List α) (i : Nat) : sumBy c (L.drop i) ≤ sumBy c L := by
  have e : sumBy c (L.take i ++ L.drop i) = sumBy c L := by rw [List.take_append_drop]
  rw [sumBy_append] at e; omega
theorem parts_le (ha : 1 ≤ atI p.items) (hl : atI p.items < p.items.length) : sumBy sizeY (p.items.take (aT p)) + sizeY (xI p) + sumBy sizeY (p.items.drop (aT p + 2)) + 1 ≤ sizeY p ∧ sumBy wY (p.items.take (aT p)) ≤ wY p ∧ wY (xI p) ≤ wY p ∧ sumBy wY (p.items.drop (aT p + 2)) ≤ wY p ∧ sumBy wY p.items ≤ wY p := by
  have h := aT_of ha hl
  have g1 := sizeY_eq p
  have g2 := wY_eq p
  have g3 := sumBy_takeLe wY p.items (aT p)
  have g4 := sumBy_dropLe wY p.items (aT p + 2)
  have g5 := sumBy_mem wY (getD_mem' (L := p.items) (k := aT p) (by omega))
  have g6 := sumBy_drop sizeY (L := p.items) (k := aT p) (by omega)
  have g7 := sumBy_drop sizeY (L := p.items) (k := aT p + 1) (by omega)
  have e : sumBy sizeY (p.items.take (aT p) ++ p.items.drop (aT p)) = sumBy sizeY p.items := by rw [List.take_append_drop]
  rw [sumBy_append] at e
  refine ⟨?_, by omega, ?_, by omega, by omega⟩
  · show _ + sizeY (p.items.getD (aT p) default) + _ + 1 ≤ _
    rw [show aT p + 1 + 1 = aT p + 2 by omega] at g7; omega
  · show wY (p.items.getD (aT p) default) ≤ _
    omega
def fI (p f : Syntax) : Bool := decide (p.kind = 0) && decide (f.kind = 0) && decide (1 ≤ atI p.items) && decide (atI p.items < p.items.length) && decide (0 ≤ (f.items.length : Int) - ((p.items.length : Int) - 2))
theorem fI_at (h : fI p f = true) : p.kind = 0 ∧ f.kind = 0 ∧ 1 ≤ atI p.items ∧ atI p.items < p.items.length ∧ 0 ≤ (f.items.length : Int) - ((p.items.length : Int) - 2) := by
  simp only [fI, Bool.and_eq_true, decide_eq_true_eq] at h; exact ⟨h.1.1.1.1, h.1.1.1.2, h.1.1.2, h.1.2, h.2⟩
theorem fI_of (h0 : p.kind = 0) (hf : f.kind = 0) (ha : 0 ≤ atI p.items) (hg : good Ls p) (hm : 0 ≤ (f.items.length : Int) - ((p.items.length : Int) - 2)) : fI p f = true := by
  have e := (atI_of hg h0).2
  simp only [fI, Bool.and_eq_true, decide_eq_true_eq]; omega
theorem fI_nums (h : fI p f = true) : (aT p : Int) = atI p.items - 1 ∧ aT p + 2 ≤ p.items.length ∧ (mI2 p f : Int) = (f.items.length : Int) - ((p.items.length : Int) - 2) ∧ aT p + mI2 p f ≤ f.items.length := by
  obtain ⟨_, _, ha, hl, hm⟩ := fI_at h
  have := aT_of ha hl
  unfold mI2; omega
theorem fI_x (h : fI p f = true) (hg : good Ls p) : good Ls (xI p) ∧ xI p ∈ p.items ∧ depY (xI p) + 1 ≤ depY p ∧ sizeY (xI p) ≤ sizeY p ∧ wY (xI p) ≤ wY p := by
  obtain ⟨h0, _, ha, hl, _⟩ := fI_at h
  have h1 := xI_good hg h0 ha hl
  have h2 := parts_le ha hl
  have h3 := depY_item (t := p) (k := aT p) (by have := aT_of ha hl; omega)
  refine ⟨h1.1, h1.2, ?_, by omega, by omega⟩
  show depY (p.items.getD (aT p) default) + 1 ≤ _
  omega
theorem fI_pre (h : fI p f = true) (hn : (alM (gI B Ls) (p.items.take (aT p)) (f.items.take (aT p))).isSome = false) : gI B Ls p f = none := by
  obtain ⟨h0, hf, ha, hl, hm⟩ := fI_at h
  exact gI_pre h0 hf ha hl hm hn
theorem fI_round (h : fI p f = true) {t : Nat} (ht : t ≤ mI2 p f) (hq : qI B Ls p f t = false) : gI B Ls p f = none := by
  obtain ⟨h0, hf, ha, hl, hm⟩ := fI_at h
  exact gI_round h0 hf ha hl hm ht hq
theorem fI_done (h : fI p f = true) (hn : (alM (gI B Ls) (p.items.take (aT p)) (f.items.take (aT p))).isSome = true) (hq : qI B Ls p f (mI2 p f) = true) :
    (gI B Ls p f).isSome = (alM (gI B Ls) (p.items.drop (aT p + 2)) (f.items.drop (aT p + mI2 p f))).isSome ∧ smO p o (gI B Ls p f) = alO (alO o (alM (gI B Ls) (p.items.take (aT p)) (f.items.take (aT p))) ++ rp (nI Ls (xI p)) (rI B Ls p f (mI2 p f))) (alM (gI B Ls) (p.items.drop (aT p + 2)) (f.items.drop (aT p + mI2 p f))) := by
  obtain ⟨h0, hf, ha, hl, hm⟩ := fI_at h
  exact gI_done h0 hf ha hl hm hn hq
theorem fI_few (h0 : p.kind = 0) (hf : f.kind = 0) (ha : 0 ≤ atI p.items) (hm : (f.items.length : Int) - ((p.items.length : Int) - 2) < 0) : gI B Ls p f = none := gI_few h0 hf ha hm
theorem fI_nI (hL : Ls.all litP = true) (hg : good Ls p) (h : fI p f = true) : vrI Ls (xI p) 1 [] = some (nI Ls (xI p)) := by
  obtain ⟨h0, _, ha, hl, _⟩ := fI_at h
  exact nI_of hL hg h0 ha hl
theorem gI_flatN (h0 : p.kind = 0) (hf : f.kind = 0) (ha : atI p.items < 0) (hl : ¬ p.items.length = f.items.length) : gI B Ls p f = none := by rw [gI_flat h0 hf ha, if_neg hl]
theorem oneI_len {t : Nat} (h : (gI B Ls (xI p) (f.items.getD (aT p + t) default)).isSome = true) : (oneI B Ls p f t).length = (nI Ls (xI p)).length := by
  obtain ⟨c, hc⟩ := Option.isSome_iff_exists.1 h
  unfold oneI; rw [hc]; exact gI_len hc
theorem rI_next {t : Nat} (hq : qI B Ls p f t = true) (h : (gI B Ls (xI p) (f.items.getD (aT p + t) default)).isSome = true) : rI B Ls p f t ++ [oneI B Ls p f t] = rI B Ls p f (t + 1) ∧ qI B Ls p f (t + 1) = true := by
  obtain ⟨c, hc⟩ := Option.isSome_iff_exists.1 h
  have e := rI_some hq hc
  have e2 : oneI B Ls p f t = c := by unfold oneI; rw [hc]; rfl
  rw [e2]; exact ⟨e.1.symm, e.2⟩
theorem gI_wild (hk : p.kind = 1) (h : isUnd p = true) : gI B Ls p f = some [] ∧ smO p o (gI B Ls p f) = o := by
  have e : gI B Ls p f = some [] := by unfold gI; rw [mt_eq, if_pos hk, if_pos h]
  rw [e]; exact ⟨rfl, List.append_nil o⟩
theorem gI_lit (hk : p.kind = 1) (h : isUnd p = false) (h2 : hasJ Ls p = true) : (gI B Ls p f).isSome = (decide (f.kind = 1) && mng B p f) ∧ smO p o (gI B Ls p f) = o := by
  have e : gI B Ls p f = if f.kind = 1 ∧ mng B p f = true then some [] else none := by unfold gI; rw [mt_eq, if_pos hk, if_neg (by simp [h]), if_pos h2]
  rw [e]
  by_cases hc : f.kind = 1 ∧ mng B p f = true
  · rw [if_pos hc]; exact ⟨by simp [hc.1, hc.2], List.append_nil o⟩
  · rw [if_neg hc]
    refine ⟨?_, by unfold smO flM; simp only; rw [if_neg (by omega)]⟩
    cases h3 : decide (f.kind = 1) <;> cases h4 : mng B p f <;> simp_all
theorem gI_sym (hk : p.kind = 1) (h : isUnd p = false) (h2 : hasJ Ls p = false) : gI B Ls p f = some [capF p f] ∧ smO p o (gI B Ls p f) = o ++ [capF p f] := by
  have e : gI B Ls p f = some [capF p f] := by unfold gI; rw [mt_eq, if_pos hk, if_neg (by simp [h]), if_neg (by simp [h2])]
  rw [e]; exact ⟨rfl, rfl⟩
theorem gI_other (hk : ¬ p.kind = 1) (h0 : ¬ p.kind = 0) : (gI B Ls p f).isSome = (decide (f.kind = p.kind) && decide (f.number = p.number) && decide (f.text = p.text)) ∧ smO p o (gI B Ls p f) = o := by
  have e : gI B Ls p f = if f.kind = p.kind ∧ f.number = p.number ∧ f.text = p.text then some [] else none := by unfold gI; rw [mt_eq, if_neg hk, if_neg h0]
  rw [e]
  by_cases hc : f.kind = p.kind ∧ f.number = p.number ∧ f.text = p.text
  · rw [if_pos hc]; exact ⟨by simp [hc.1, hc.2.1, hc.2.2], List.append_nil o⟩
  · rw [if_neg hc]
    refine ⟨?_, by unfold smO flM; simp only; rw [if_neg h0]⟩
    symm; simp only [Option.isSome]; rw [Bool.eq_false_iff]; simp only [ne_eq, Bool.and_eq_true, decide_eq_true_eq]; rintro ⟨⟨a, b⟩, c⟩; exact hc ⟨a, b, c⟩
end
end Go.Proofs.YtpnaoendfpaodaaGreat
end
section
namespace Go.Proofs.YtpnaoendfpaodaaGreat
open Go Go.Proofs.YtpnaoendfpaodaaGreat.Ab
theorem zw {p : Prop} (h : p := by first | with_reducible rfl | exact True.intro | omega | with_reducible assumption | with_reducible exact dT ‹_› | with_reducible exact dF ‹_› | ((first | refine rowGet ?_ | refine getC ?_ rfl); (first | omega | (simp only [std]; omega) | grind))) : p := h
end Go.Proofs.YtpnaoendfpaodaaGreat
end
section
namespace Go.Proofs.YtpnaoendfpaodaaGreat
open Go Go.Proofs.YtpnaoendfpaodaaGreat.Ab
set_option linter.unusedVariables false
set_option linter.unusedSimpArgs false
theorem one_getF {c : List Capture} {u : Nat} (h : u < c.length) : ((c.take u).map capX ++ (c.drop u).map captureC)[u]? = some (captureF (c.getD u default)) := by
  rw [← Row.eq (C := captureC) (F := captureF)]; exact outTo_get h
theorem one_step {c : List Capture} {u : Nat} (h : u < c.length) : ((c.take u).map capX ++ (c.drop u).map captureC).set u (capX (c.getD u default)) = (c.take (u + 1)).map capX ++ (c.drop (u + 1)).map captureC := outTo_step h
theorem one_len {c : List Capture} {u : Nat} (h : u < c.length) : u < (c.take u).length + (c.drop u).length := by
  rw [List.length_take, List.length_drop]; omega
theorem capM_set (L : List Capture) (u : Nat) (x : Capture) (y : List Cell) (h : captureF x = y) : (L.map captureC).set u y = (L.set u x).map captureC := by
  subst h; rw [List.map_set, Row.eq (C := captureC) (F := captureF)]
theorem snoc_set {α : Type} (l : List α) (z v : α) : (l ++ [z]).set l.length v = l ++ [v] := by
  rw [List.set_append_right _ _ (Nat.le_refl _)]; simp
theorem snoc_cap (E : List Capture) (z : List Cell) (x : Capture) : (E.map captureC ++ [z]).set E.length (captureF x) = (E ++ [x]).map captureC := by
  have := snoc_set (E.map captureC) z (captureF x)
  rw [List.length_map] at this
  rw [this]; exact rowSnoc (C := captureC) E x
theorem each_step {V : List Capture} {R : List (List Capture)} {c : List Capture} {u : Nat} (z : List Cell) (h : u < V.length) :
    ((rpTo V R c u).map captureC).set u [cI ((rpTo V R c u).getD u default).name.kind, cI ((rpTo V R c u).getD u default).name.number, cS ((rpTo V R c u).getD u default).name.text,
      Cell.list (List.map intC ((rpTo V R c u).getD u default).name.scopes), Cell.list (List.map syntaxC ((rpTo V R c u).getD u default).name.items), cI ((rpTo V R c u).getD u default).depth,
      cI ((rpTo V R c u).getD u default).form.kind, cI ((rpTo V R c u).getD u default).form.number, cS ((rpTo V R c u).getD u default).form.text,
      Cell.list (List.map intC ((rpTo V R c u).getD u default).form.scopes), Cell.list (List.map syntaxC ((rpTo V R c u).getD u default).form.items),
      Cell.list ((List.map captureC ((rpTo V R c u).getD u default).each ++ [z]).set ((rpTo V R c u).getD u default).each.length (captureF (c.getD u default)))] = (rpTo V R c (u + 1)).map captureC := by
  rw [snoc_cap]
  have e := capM_set (rpTo V R c u) u ⟨((rpTo V R c u).getD u default).name, ((rpTo V R c u).getD u default).depth, ((rpTo V R c u).getD u default).form, ((rpTo V R c u).getD u default).each ++ [c.getD u default]⟩ _ rfl
  refine Eq.trans e ?_
  rw [rpTo_get h, rpTo_step h]
theorem nmV_each (H : Syntax → Bool) (A : List Syntax → Int) : ∀ (p : Syntax) (d : Int), ∀ y ∈ nm H A p d, y.each = [] := by
  intro p
  refine Syntax.ind (P := fun p => ∀ d, ∀ y ∈ nm H A p d, y.each = []) (fun p ih d y hy => ?_) p
  rw [nm_eq] at hy
  split at hy
  · split at hy
    · cases hy
    · rw [List.mem_singleton] at hy; subst hy; rfl
  · split at hy
    · have go : ∀ (l : List Syntax) (i a e : Int), (∀ x ∈ l, ∀ d, ∀ y ∈ nm H A x d, y.each = []) → ∀ y ∈ nms H A l i a e, y.each = [] := by
        intro l
        induction l with
        | nil => intro i a e _ y hy; simp [nms] at hy
        | cons x r ihr =>
          intro i a e hl y hy
          rw [nms] at hy
          rcases List.mem_append.1 hy with hy | hy
          · revert hy; repeat' split
            all_goals (intro hy; first | cases hy | exact hl x List.mem_cons_self _ y hy)
          · exact ihr _ _ _ (fun z hz => hl z (List.mem_cons_of_mem _ hz)) y hy
      exact go p.items _ _ _ ih y hy
    · cases hy
theorem each_len {V : List Capture} {R : List (List Capture)} {c : List Capture} {u : Nat} (hV : ∀ y ∈ V, y.each = []) (h : u < V.length) : ((rpTo V R c u).getD u default).each.length = R.length := by
  rw [rpTo_get h, rp_get h]
  simp only [List.length_append, List.length_map]
  rw [hV _ (getD_mem' h)]; simp
section
variable {B : List Binding} {Ls : List Syntax} {p f : Syntax} {o : List Capture} {s t u : Nat}
theorem oneS_len (h : (gS B Ls (p.items.getD s default) (f.items.getD (kS B Ls p f o s + t) default)).isSome = true) : (oneS B Ls p f o s t).length = (nS Ls (p.items.getD s default)).length := by
  obtain ⟨c, hc⟩ := Option.isSome_iff_exists.1 h
  unfold oneS; rw [hc]; exact gS_len hc
theorem eachS_end (hq : qS B Ls p f o s t = true) (h : ((gS B Ls (p.items.getD s default) (f.items.getD (kS B Ls p f o s + t) default)).isSome || decide (u = 0)) = true)
    (hc : (gS B Ls (p.items.getD s default) (f.items.getD (kS B Ls p f o s + t) default)).isSome = false ∨ (nS Ls (p.items.getD s default)).length ≤ u) :
    (rpTo (nS Ls (p.items.getD s default)) (rS B Ls p f o s t) (oneS B Ls p f o s t) u).map captureC = (rp (nS Ls (p.items.getD s default)) (rS B Ls p f o s (t + 1))).map captureC := by
  cases hg : gS B Ls (p.items.getD s default) (f.items.getD (kS B Ls p f o s + t) default) with
  | none =>
    rw [hg] at h
    have hu : u = 0 := by simpa using h
    rw [hu, rpTo_zero, (rS_none hq hg).1]
  | some c =>
    rw [hg] at hc
    have hu : (nS Ls (p.items.getD s default)).length ≤ u := by simpa using hc
    have e1 : oneS B Ls p f o s t = c := by unfold oneS; rw [hg]; rfl
    rw [rpTo_all hu, e1, (rS_some hq hg).1]
theorem eachS_len (hu : u < (nS Ls (p.items.getD s default)).length) : ((rpTo (nS Ls (p.items.getD s default)) (rS B Ls p f o s t) (oneS B Ls p f o s t) u).getD u default).each.length = (rS B Ls p f o s t).length :=
  each_len (nmV_each _ _ _ _) hu
end
section
variable {B : List Binding} {Ls : List Syntax} {p f : Syntax} {o : List Capture}
theorem mS_of (ha : 0 ≤ aS p.items) (hm : 0 ≤ (f.items.length : Int) - ((p.items.length : Int) - 2)) : (mS p f : Int) = (f.items.length : Int) - ((p.items.length : Int) - 2) := by
  unfold mS many; rw [if_pos ha]; omega
theorem mS_no (ha : aS p.items < 0) : mS p f = 0 := by
  unfold mS many; rw [if_neg (by omega)]; rfl
theorem fS_a (hk : f.kind = 0) (ha : 0 ≤ aS p.items) (hm : 0 ≤ (f.items.length : Int) - ((p.items.length : Int) - 2)) : fS p f = true := by
  rw [fS_eq]; unfold many; rw [if_pos ha]; simp only [hk, ha, hm, decide_true, Bool.true_or, Bool.and_true]
theorem fS_b (hk : f.kind = 0) (ha : aS p.items < 0) (hm : f.items.length = p.items.length) : fS p f = true := by
  rw [fS_eq]; unfold many; rw [if_neg (by omega)]; simp [hk, hm]
theorem out_of (h0 : p.kind = 0) (h : fS p f = false) : smO p o (gS B Ls p f) = [] ∧ (gS B Ls p f).isSome = false := by
  rw [gS_out h0 h]; exact ⟨smO_list h0, rfl⟩
theorem out_a (h0 : p.kind = 0) (hk : ¬ f.kind = 0) : smO p o (gS B Ls p f) = [] ∧ (gS B Ls p f).isSome = false := by
  refine out_of h0 ?_
  rw [fS_eq]; simp [hk]
theorem out_b (h0 : p.kind = 0) (ha : 0 ≤ aS p.items) (hm : (f.items.length : Int) - ((p.items.length : Int) - 2) < 0) : smO p o (gS B Ls p f) = [] ∧ (gS B Ls p f).isSome = false := by
  refine out_of h0 ?_
  rw [fS_eq]; unfold many; rw [if_pos ha]
  have : ¬ 0 ≤ (f.items.length : Int) - ((p.items.length : Int) - 2) := by omega
  simp only [this, decide_false, Bool.and_false, Bool.false_and]
theorem out_c (h0 : p.kind = 0) (ha : aS p.items < 0) (hm : ¬ f.items.length = p.items.length) : smO p o (gS B Ls p f) = [] ∧ (gS B Ls p f).isSome = false := by
  refine out_of h0 ?_
  rw [fS_eq]
  have : ¬ 0 ≤ aS p.items := by omega
  simp only [this, hm, decide_false, Bool.or_false, Bool.and_false]
theorem out_d (h0 : p.kind = 0) (hf : fS p f = true) (hb : bS B Ls p f o p.items.length = true) : smO p o (gS B Ls p f) = oS B Ls p f o p.items.length ∧ (gS B Ls p f).isSome = true := by
  have h := @sM_end B Ls p f o h0 hf
  rw [if_pos hb] at h; exact ⟨h.2, h.1.trans hb⟩
theorem out_e (h0 : p.kind = 0) (hf : fS p f = true) (hb : bS B Ls p f o p.items.length = false) : smO p o (gS B Ls p f) = [] ∧ (gS B Ls p f).isSome = false := by
  have h := @sM_end B Ls p f o h0 hf
  rw [if_neg (by rw [hb]; simp)] at h; exact ⟨h.2, h.1.trans hb⟩
end
section
variable {B : List Binding} {Ls : List Syntax} {p f : Syntax} {t u : Nat}
theorem eachI_end (hq : qI B Ls p f t = true) (h : (gI B Ls (xI p) (f.items.getD (aT p + t) default)).isSome = true) (hc : (nI Ls (xI p)).length ≤ u) :
    (rpTo (nI Ls (xI p)) (rI B Ls p f t) (oneI B Ls p f t) u).map captureC = (rp (nI Ls (xI p)) (rI B Ls p f (t + 1))).map captureC := by
  rw [rpTo_all hc, (rI_next hq h).1]
theorem eachI_len (hu : u < (nI Ls (xI p)).length) : ((rpTo (nI Ls (xI p)) (rI B Ls p f t) (oneI B Ls p f t) u).getD u default).each.length = (rI B Ls p f t).length :=
  each_len (nmV_each _ _ _ _) hu
end
def atB (p : Syntax) (s : Nat) : Bool := decide (s < p.items.length) && decide ((s : Int) + 1 = aS p.items)
theorem atB_of {p : Syntax} {s : Nat} (h : atB p s = true) : s < p.items.length ∧ (s : Int) + 1 = aS p.items := by
  simpa [atB] using h
theorem atB_mk {p : Syntax} {s : Nat} (h : s < p.items.length) (h2 : (s : Int) + 1 = aS p.items) : atB p s = true := by
  simp [atB, h, h2]
theorem eV_def (Ls : List Syntax) (x : Syntax) : (vrS Ls x 0 []).getD [] = eV Ls x := rfl
theorem aS_def (l : List Syntax) : (if okS l = true then atS l else (-1 : Int)) = aS l := rfl
theorem nm_depth (H : Syntax → Bool) (A : List Syntax → Int) : ∀ (p : Syntax) (d : Int), ∀ y ∈ nm H A p d, d ≤ y.depth ∧ y.depth ≤ d + depY p := by
  intro p
  refine Syntax.ind (P := fun p => ∀ d, ∀ y ∈ nm H A p d, d ≤ y.depth ∧ y.depth ≤ d + depY p) (fun p ih d y hy => ?_) p
  rw [nm_eq] at hy
  split at hy
  · split at hy
    · cases hy
    · rw [List.mem_singleton] at hy; subst hy
      have : (cap1 p d).depth = d := rfl
      omega
  · split at hy
    · have go : ∀ (l : List Syntax) (i a e : Int) (n : Nat), (∀ x ∈ l, depY x + 1 ≤ n ∧ ∀ d, ∀ y ∈ nm H A x d, d ≤ y.depth ∧ y.depth ≤ d + depY x) → ∀ y ∈ nms H A l i a e, e ≤ y.depth ∧ y.depth ≤ e + n := by
        intro l
        induction l with
        | nil => intro i a e n _ y hy; simp [nms] at hy
        | cons x r ihr =>
          intro i a e n hl y hy
          rw [nms] at hy
          have hx := hl x List.mem_cons_self
          rcases List.mem_append.1 hy with hy | hy
          · revert hy; repeat' split
            all_goals (intro hy; first | cases hy | (have := hx.2 _ y hy; omega))
          · exact ihr _ _ _ n (fun z hz => hl z (List.mem_cons_of_mem _ hz)) y hy
      refine go p.items _ _ _ _ (fun x hx => ⟨?_, ih x hx⟩) y hy
      obtain ⟨k, hk, e⟩ := mem_getD hx
      rw [← e]; exact depY_item hk
    · cases hy
section
variable {B : List Binding} {Ls : List Syntax} {p f : Syntax} {o : List Capture} {s t u k1 : Nat}
theorem item_ok {x : Syntax} (h : s < x.items.length) : wY (x.items.getD s default) ≤ wY x ∧ sizeY (x.items.getD s default) ≤ sizeY x ∧ depY (x.items.getD s default) ≤ depY x ∧ x.items.length ≤ wY x ∧ x.items.getD s default ∈ x.items := by
  have h1 := size_item h
  have h2 := depY_item h
  have h3 := wY_eq x
  exact ⟨h1.2, by omega, by omega, by omega, getD_mem' h⟩
theorem len_w (x : Syntax) : x.items.length ≤ wY x := by have := wY_eq x; omega
theorem rep_good (hg : good Ls p) (h0 : p.kind = 0) (h : atB p s = true) : good Ls (p.items.getD s default) := by
  have h := atB_of h
  have h1 := good_rep hg h0 h.1 h.2
  exact ⟨okY_item hg.1 _ (getD_mem' h.1), 0, [], _, Int.le_refl _, h1.1⟩
theorem eV_nm (hg : good Ls p) (h0 : p.kind = 0) (h : atB p s = true) : eV Ls (p.items.getD s default) = nm (hasI Ls) aS (p.items.getD s default) 0 := by
  have h := atB_of h
  unfold eV; rw [(good_rep hg h0 h.1 h.2).1]; rfl
theorem eV_size (hg : good Ls p) (h0 : p.kind = 0) (h : atB p s = true) : (eV Ls (p.items.getD s default)).length ≤ sizeY p := by
  have h1 := atB_of h
  rw [eV_nm hg h0 h]
  have h2 := nm_size (hasI Ls) aS (p.items.getD s default) 0
  have h3 := item_ok h1.1
  omega
theorem eV_depth (hg : good Ls p) (h0 : p.kind = 0) (h : atB p s = true) (hd : depY p ≤ 40) (hu : u < (eV Ls (p.items.getD s default)).length) : 0 ≤ ((upTo (eV Ls (p.items.getD s default)) u).getD u default).depth ∧ ((upTo (eV Ls (p.items.getD s default)) u).getD u default).depth ≤ 40 := by
  have h1 := atB_of h
  have h3 := item_ok h1.1
  rw [upTo_get hu]
  have hm := getD_mem' hu
  rw [eV_nm hg h0 h] at hm ⊢
  have := nm_depth (hasI Ls) aS (p.items.getD s default) 0 _ hm
  omega
theorem up_step {V : List Capture} (h : u < V.length) :
    ((upTo V u).map captureC).set u [cI ((upTo V u).getD u default).name.kind, cI ((upTo V u).getD u default).name.number, cS ((upTo V u).getD u default).name.text,
      Cell.list (List.map intC ((upTo V u).getD u default).name.scopes), Cell.list (List.map syntaxC ((upTo V u).getD u default).name.items), cI (((upTo V u).getD u default).depth + 1),
      cI ((upTo V u).getD u default).form.kind, cI ((upTo V u).getD u default).form.number, cS ((upTo V u).getD u default).form.text,
      Cell.list (List.map intC ((upTo V u).getD u default).form.scopes), Cell.list (List.map syntaxC ((upTo V u).getD u default).form.items),
      Cell.list (List.map captureC ((upTo V u).getD u default).each)] = (upTo V (u + 1)).map captureC := by
  have e := capM_set (upTo V u) u (upC ((upTo V u).getD u default)) _ rfl
  refine Eq.trans e ?_
  rw [upTo_get h, upTo_step h]
theorem up_end (hg : good Ls p) (h0 : p.kind = 0) (h : atB p s = true) (hu : (eV Ls (p.items.getD s default)).length ≤ u) : (upTo (eV Ls (p.items.getD s default)) u).map captureC = (nS Ls (p.items.getD s default)).map captureC := by
  have h1 := atB_of h
  rw [upTo_all hu, (eV_of hg h0 h1.1 h1.2).1]
theorem one_zero : (smO (p.items.getD s default) [] (gS B Ls (p.items.getD s default) (f.items.getD (kS B Ls p f o s + t) default))).map captureC = ((oneS B Ls p f o s t).take 0).map capX ++ (oneS B Ls p f o s t).map captureC := by
  rw [smO_nil]; rfl
theorem q_next (hq : qS B Ls p f o s t = true) : (gS B Ls (p.items.getD s default) (f.items.getD (kS B Ls p f o s + t) default)).isSome = qS B Ls p f o s (t + 1) := by
  cases e : gS B Ls (p.items.getD s default) (f.items.getD (kS B Ls p f o s + t) default) with
  | none => rw [(rS_none hq e).2]; rfl
  | some c => rw [(rS_some hq e).2]; rfl
theorem q_or (hq : qS B Ls p f o s t = true) : (qS B Ls p f o s (t + 1) || decide (t + 1 = (rS B Ls p f o s (t + 1)).length + 1)) = true := by
  cases e : gS B Ls (p.items.getD s default) (f.items.getD (kS B Ls p f o s + t) default) with
  | none => rw [(rS_none hq e).1, rS_len hq]; simp
  | some c => rw [(rS_some hq e).2]; rfl
end
section
variable {B : List Binding} {Ls : List Syntax} {p f : Syntax}
theorem und_no (h : ¬ p.text.data.toList = [95]) : isUnd p = false := decide_eq_false h
theorem sm_lit1 (hk : p.kind = 1) (hu : ¬ p.text.data.toList = [95]) (hl : hasI Ls p = true) (hf : f.kind = 1) : mng B p f = (gS B Ls p f).isSome := by
  rw [(gS_lit (o := []) hk (und_no hu) hl).1]; simp [hf]
theorem sm_lit2 (hk : p.kind = 1) (hu : ¬ p.text.data.toList = [95]) (hl : hasI Ls p = true) (hf : ¬ f.kind = 1) : false = (gS B Ls p f).isSome := by
  rw [(gS_lit (o := []) hk (und_no hu) hl).1]; simp [hf]
theorem sm_sym (hk : p.kind = 1) (hu : ¬ p.text.data.toList = [95]) (hl : hasI Ls p = false) : true = (gS B Ls p f).isSome := by
  rw [(gS_sym (o := []) hk (und_no hu) hl).1]; rfl
theorem text_eq {a b : ByteArray} : b = a ↔ a.data.toList = b.data.toList :=
  ⟨fun h => by rw [h], fun h => by cases a; cases b; congr 1; exact (Array.toList_inj.1 h).symm⟩
theorem sm_o1 (h1 : ¬ p.kind = 1) (h0 : ¬ p.kind = 0) (hk : p.kind = f.kind) (hn : p.number = f.number) : decide (p.text.data.toList = f.text.data.toList) = (gS B Ls p f).isSome := by
  rw [(gS_other (o := []) h1 h0).1]; simp [hk, hn, text_eq]
theorem sm_o2 (h1 : ¬ p.kind = 1) (h0 : ¬ p.kind = 0) (hk : p.kind = f.kind) (hn : ¬ p.number = f.number) : false = (gS B Ls p f).isSome := by
  rw [(gS_other (o := []) h1 h0).1]; simp [hk.symm, show ¬ f.number = p.number from fun h => hn h.symm]
theorem sm_o3 (h1 : ¬ p.kind = 1) (h0 : ¬ p.kind = 0) (hk : ¬ p.kind = f.kind) : false = (gS B Ls p f).isSome := by
  rw [(gS_other (o := []) h1 h0).1]; simp [show ¬ f.kind = p.kind from fun h => hk h.symm]
end
section
variable {B : List Binding} {Ls : List Syntax} {p f : Syntax} {o : List Capture} {k : Nat}
theorem not_f {b : Bool} (h : (!b) = false) : b = true := by simpa using h
theorem not_t {b : Bool} (h : (!b) = true) : b = false := by simpa using h
theorem xI_def (p : Syntax) : p.items.getD (atI p.items - 1).toNat default = xI p := rfl
theorem pre_len (h : fI p f = true) : (List.take (atI p.items - 1).toNat p.items).length = aT p := by
  have := fI_nums h
  have e : (atI p.items - 1).toNat = aT p := rfl
  rw [e, List.length_take]; omega
theorem post_nat (h : fI p f = true) : (atI p.items + 1).toNat = aT p + 2 := by
  have := fI_nums h; omega
theorem take_drop_len {α : Type} (L : List α) (n : Nat) : List.take (L.length - n) (List.drop n L) = List.drop n L := by
  apply List.take_of_length_le; rw [List.length_drop]; exact Nat.le_refl _
theorem post_len (h : fI p f = true) : ((List.take (p.items.length - (atI p.items + 1).toNat) (List.drop (atI p.items + 1).toNat p.items)).length : Int) = p.items.length - (aT p + 2) := by
  have := fI_nums h
  rw [take_drop_len, List.length_drop]; omega
theorem round_none (h : fI p f = true) (hk : k < mI2 p f) (hq : qI B Ls p f k = true) (hn : (gI B Ls (xI p) (f.items.getD (aT p + k) default)).isSome = false) : (gI B Ls p f).isSome = false := by
  cases e : gI B Ls (xI p) (f.items.getD (aT p + k) default) with
  | none => rw [fI_round h hk (rI_none hq e)]; rfl
  | some c => rw [e] at hn; cases hn
theorem oneI_zero : (smO (xI p) [] (gI B Ls (xI p) (f.items.getD (aT p + k) default))).map captureC = ((oneI B Ls p f k).take 0).map capX ++ (oneI B Ls p f k).map captureC := by
  rw [smO_nil]; rfl
theorem rI_end (h : k = mI2 p f) : (rp (nI Ls (xI p)) (rI B Ls p f k)).map captureC = (rp (nI Ls (xI p)) (rI B Ls p f (mI2 p f))).map captureC := by rw [h]
theorem qI_end (h : k = mI2 p f) (hq : qI B Ls p f k = true) : qI B Ls p f (mI2 p f) = true := by rw [← h]; exact hq
end
section
variable {B : List Binding} {Ls : List Syntax} {p f : Syntax} {o : List Capture}
theorem xI_def2 (p : Syntax) : p.items.getD (aT p) default = xI p := rfl
theorem aT_def (p : Syntax) : (atI p.items - 1).toNat = aT p := rfl
theorem cnt_of (hg : good Ls p) (h0 : p.kind = 0) (ha : ¬ atI p.items < 0) : ((f.items.length : Int) - ((List.take (atI p.items - 1).toNat p.items).length : Nat) - ((List.take (p.items.length - (atI p.items + 1).toNat) (List.drop (atI p.items + 1).toNat p.items)).length : Nat)) = (f.items.length : Int) - ((p.items.length : Int) - 2) := by
  have h := (atI_of hg h0).2
  rw [take_drop_len, List.length_drop, List.length_take]; omega
theorem fI_mk (hg : good Ls p) (h0 : ¬¬p.kind = 0) (hf : ¬¬f.kind = 0) (ha : ¬ atI p.items < 0) (hc : ¬ ((f.items.length : Int) - ((List.take (atI p.items - 1).toNat p.items).length : Nat) - ((List.take (p.items.length - (atI p.items + 1).toNat) (List.drop (atI p.items + 1).toNat p.items)).length : Nat)) < 0) : fI p f = true := by
  have h0 := Decidable.not_not.1 h0
  have := cnt_of (f := f) hg h0 ha
  exact fI_of h0 (Decidable.not_not.1 hf) (by omega) hg (by omega)
theorem few_of (hg : good Ls p) (h0 : ¬¬p.kind = 0) (hf : ¬¬f.kind = 0) (ha : ¬ atI p.items < 0) (hc : ((f.items.length : Int) - ((List.take (atI p.items - 1).toNat p.items).length : Nat) - ((List.take (p.items.length - (atI p.items + 1).toNat) (List.drop (atI p.items + 1).toNat p.items)).length : Nat)) < 0) : [] = (smO p o (gI B Ls p f)).map captureC ∧ false = (gI B Ls p f).isSome := by
  have h0 := Decidable.not_not.1 h0
  have := cnt_of (f := f) hg h0 ha
  rw [fI_few h0 (Decidable.not_not.1 hf) (by omega) (by omega), smO_list h0]; exact ⟨rfl, rfl⟩
theorem kind_of (h0 : ¬¬p.kind = 0) (hf : ¬f.kind = 0) : [] = (smO p o (gI B Ls p f)).map captureC ∧ false = (gI B Ls p f).isSome := by
  have h0 := Decidable.not_not.1 h0
  rw [gI_kind h0 hf, smO_list h0]; exact ⟨rfl, rfl⟩
theorem flat_no (h0 : ¬¬p.kind = 0) (hf : ¬¬f.kind = 0) (ha : atI p.items < 0) (hl : ¬ (p.items.length : Int) = (f.items.length : Int)) : [] = (smO p o (gI B Ls p f)).map captureC ∧ false = (gI B Ls p f).isSome := by
  have h0 := Decidable.not_not.1 h0
  rw [gI_flatN h0 (Decidable.not_not.1 hf) ha (by omega), smO_list h0]; exact ⟨rfl, rfl⟩
theorem pre_no (hf : fI p f = true) (h : (!(alM (gI B Ls) (List.take (aT p) p.items) (List.take (aT p) f.items)).isSome) = true) : [] = (smO p o (gI B Ls p f)).map captureC ∧ false = (gI B Ls p f).isSome := by
  rw [fI_pre hf (not_t h), smO_list (fI_at hf).1]; exact ⟨rfl, rfl⟩
theorem some_no (h0 : ¬¬p.kind = 0) (h : (gI B Ls p f).isSome = false) : [] = (smO p o (gI B Ls p f)).map captureC ∧ false = (gI B Ls p f).isSome := by
  have h0 := Decidable.not_not.1 h0
  cases e : gI B Ls p f with
  | none => rw [smO_list h0]; exact ⟨rfl, rfl⟩
  | some c => rw [e] at h; cases h
theorem all_do (hf : fI p f = true) (h : (!(alM (gI B Ls) (List.take (aT p) p.items) (List.take (aT p) f.items)).isSome) = false) (hq : qI B Ls p f (mI2 p f) = true) :
    (alO (alO o (alM (gI B Ls) (List.take (aT p) p.items) (List.take (aT p) f.items)) ++ rp (nI Ls (xI p)) (rI B Ls p f (mI2 p f))) (alM (gI B Ls) (List.drop (aT p + 2) p.items) (List.drop (aT p + mI2 p f) f.items))).map captureC = (smO p o (gI B Ls p f)).map captureC ∧
    (alM (gI B Ls) (List.drop (aT p + 2) p.items) (List.drop (aT p + mI2 p f) f.items)).isSome = (gI B Ls p f).isSome := by
  have h1 := @fI_done B Ls p f o hf (not_f h) hq
  rw [h1.2]; exact ⟨rfl, h1.1.symm⟩
theorem vr_start (hl : Ls.all litP = true) (hg : good Ls p) (hf : fI p f = true) : ((vrI Ls (xI p) 1 []).getD []).map captureC = (rp (nI Ls (xI p)) (rI B Ls p f 0)).map captureC := by
  rw [fI_nI hl hg hf]
  have e : rI B Ls p f 0 = [] := rfl
  rw [e, rp_nil]; rfl
theorem pre_len' (hf : fI p f = true) : (List.take (aT p) p.items).length = aT p := pre_len hf
theorem cnt_eq (hf : fI p f = true) : ((f.items.length : Int) - (aT p : Nat) - ((List.drop (aT p + 2) p.items).length : Nat)) = (mI2 p f : Nat) := by
  have := fI_nums hf
  rw [List.length_drop]; omega
theorem add_nat (a b : Nat) : ((a : Int) + (b : Int)).toNat = a + b := by omega
theorem sumf (f : Syntax) (n : Nat) : sumBy wY (List.take n f.items) ≤ wY f ∧ sumBy wY (List.drop n f.items) ≤ wY f := by
  have h1 := sumBy_takeLe wY f.items n
  have h2 := sumBy_dropLe wY f.items n
  have h3 := wY_eq f
  omega
theorem iI_o1 (h1 : ¬p.kind = 1) (h0 : ¬p.kind = 0) (hk : f.kind = p.kind) (hn : f.number = p.number) : decide (f.text.data.toList = p.text.data.toList) = (gI B Ls p f).isSome := by
  rw [(gI_other (o := []) h1 h0).1]
  have : (f.text = p.text) ↔ f.text.data.toList = p.text.data.toList := by rw [text_eq]; exact eq_comm
  simp [hk, hn, this]
end
end Go.Proofs.YtpnaoendfpaodaaGreat
end
section
namespace Go.Proofs.YtpnaoendfpaodaaGreat
open Go Go.Proofs.YtpnaoendfpaodaaGreat.Ab
set_option linter.unusedVariables false
set_option linter.unusedSimpArgs false
set_option maxHeartbeats 4000000
abbrev P_c_sMatL (B : List Binding) (Ls : List Syntax) (p : Syntax) (f : Syntax) (o : List Capture) : Ct := ⟨185, [.arr true 12 (o.map captureC)], [ll (B.map bindingC), ll (Ls.map syntaxC), ll (p.items.map syntaxC), syntaxA f, .one (.ref 0)], [.dead, .arr true 12 ((smO p o (gS B Ls p f)).map captureC)], .tup [.one (.ref 1), lb (gS B Ls p f).isSome]⟩
abbrev P_c_sMat (B : List Binding) (Ls : List Syntax) (p : Syntax) (f : Syntax) (o : List Capture) : Ct := ⟨106, [.arr true 12 (o.map captureC)], [ll (B.map bindingC), ll (Ls.map syntaxC), syntaxA p, syntaxA f, .one (.ref 0)], [.dead, .arr true 12 ((smO p o (gS B Ls p f)).map captureC)], .tup [.one (.ref 1), lb (gS B Ls p f).isSome]⟩
def lc_sMatLLd (B : List Binding) (Ls : List Syntax) (p : Syntax) (f : Syntax) (o : List Capture) (k : Nat) (k1 : Nat) : Lp Nat := .mk 174 1 (fun x => [(0, ll (List.map bindingC
 B)), (1, ll (List.map syntaxC Ls)), (2, ll (List.map syntaxC p.items)), (4, SV.one (AC.ref 1)), (8, SV.one (AC.ptr 2 0)), (12, li (if okS p.items = true then atS p.items else (-1
 : Int))), (14, li (↑(List.map syntaxC p.items).length : Int)), (15, li (↑(mS p f) : Int)), (16, lb (gS B Ls (p.items.getD k default) (f.items.getD (kS B Ls p f o k + k1)
 default)).isSome), (17, li ((↑(kS B Ls p f o k) : Int) + (↑k1 : Int) + 1)), (18, li (↑k : Int)), (19, SV.one (AC.ref 3)), (22, li (↑k1 : Int)), (23, SV.one (AC.ref 4)), (24, hs x
 0)]) (fun x => [Ob.dead, Ob.arr true 12 (List.map captureC (oS B Ls p f o k)), Ob.box (vals (syntaxF f)), ho x 1, ho x 2]) (fun k2 => [.s (li (↑k2 : Int)), .o (Ob.arr true 12
 (List.map captureC (rpTo (nS Ls (p.items.getD k default)) (rS B Ls p f o k k1) (oneS B Ls p f o k k1) k2))), .o (Ob.arr true 12 (List.map capX (List.take k2 (oneS B Ls p f o k
 k1)) ++ List.map captureC (List.drop k2 (oneS B Ls p f o k k1))))]) (fun k2 => k2 ≤ (nS Ls (p.items.getD k default)).length ∧ (nS Ls (p.items.getD k default)).length ≤
 9223372036854775807 ∧ ((gS B Ls (p.items.getD k default) (f.items.getD (kS B Ls p f o k + k1) default)).isSome || decide (k2 = 0)) = true ∧ qS B Ls p f o k k1 = true ∧ (rS B Ls p
 f o k k1).length ≤ 1000000000) (fun k2 => (nS Ls (p.items.getD k default)).length - k2) [.mk True (.exit 6) (fun x => [(0, ll (List.map bindingC B)), (1, ll (List.map syntaxC
 Ls)), (2, ll (List.map syntaxC p.items)), (4, SV.one (AC.ref 1)), (8, SV.one (AC.ptr 2 0)), (12, li (if okS p.items = true then atS p.items else (-1 : Int))), (14, li (↑(List.map
 syntaxC p.items).length : Int)), (15, li (↑(mS p f) : Int)), (16, lb (gS B Ls (p.items.getD k default) (f.items.getD (kS B Ls p f o k + k1) default)).isSome), (17, li ((↑(kS B Ls
 p f o k) : Int) + (↑k1 : Int) + 1)), (18, li (↑k : Int)), (19, SV.one (AC.ref 3)), (22, li (↑k1 : Int))]) (fun x => [Ob.dead, Ob.arr true 12 (List.map captureC (oS B Ls p f o k)),
 Ob.box (vals (syntaxF f)), ho x 0]) [.o (Ob.arr true 12 (List.map captureC (rp (nS Ls (p.items.getD k default)) (rS B Ls p f o k (k1 + 1)))))]]
def lc_sMatLLc (B : List Binding) (Ls : List Syntax) (p : Syntax) (f : Syntax) (o : List Capture) (k : Nat) : Lp Nat := .mk 174 1 (fun x => [(0, ll (List.map bindingC B)), (1, ll
 (List.map syntaxC Ls)), (2, ll (List.map syntaxC p.items)), (4, SV.one (AC.ref 1)), (8, SV.one (AC.ptr 2 0)), (12, li (if okS p.items = true then atS p.items else (-1 : Int))),
 (14, li (↑(List.map syntaxC p.items).length : Int)), (15, li (↑(mS p f) : Int)), (16, hs x 2), (17, hs x 1), (18, li (↑k : Int)), (19, SV.one (AC.ref 3)), (22, hs x 0)]) (fun x =>
 [Ob.dead, Ob.arr true 12 (List.map captureC (oS B Ls p f o k)), Ob.box (vals (syntaxF f)), ho x 3]) (fun k1 => [.s (li (↑k1 : Int)), .s (li ((↑(kS B Ls p f o k) : Int) + (↑k1 :
 Int))), .s (lb (qS B Ls p f o k k1)), .o (Ob.arr true 12 (List.map captureC (rp (nS Ls (p.items.getD k default)) (rS B Ls p f o k k1))))]) (fun k1 => k1 ≤ mS p f ∧ kS B Ls p f o k
 + mS p f ≤ f.items.length ∧ (qS B Ls p f o k k1 || decide (k1 = (rS B Ls p f o k k1).length + 1)) = true ∧ atB p k = true ∧ wY p ≤ 1048576 ∧ sizeY p ≤ 2147483647 ∧ depY p ≤ 40 ∧
 wY f ≤ 1000000000) (fun k1 => mS p f - k1) [.mk True (.exit 4) (fun x => [(0, ll (List.map bindingC B)), (1, ll (List.map syntaxC Ls)), (2, ll (List.map syntaxC p.items)), (4,
 SV.one (AC.ref 1)), (8, SV.one (AC.ptr 2 0)), (12, li (if okS p.items = true then atS p.items else (-1 : Int))), (14, li (↑(List.map syntaxC p.items).length : Int)), (15, li (↑(mS
 p f) : Int)), (16, hs x 1), (17, hs x 0), (18, li (↑k : Int)), (19, SV.one (AC.ref 3))]) (fun x => [Ob.dead, Ob.arr true 12 (List.map captureC (oS B Ls p f o k)), Ob.box (vals
 (syntaxF f)), ho x 2]) [.s (li ((↑(kS B Ls p f o k) : Int) + (↑(if qS B Ls p f o k (mS p f) = true then mS p f else (rS B Ls p f o k (mS p f)).length + 1) : Int))), .s (lb (qS B
 Ls p f o k (mS p f))), .o (Ob.arr true 12 (List.map captureC (rp (nS Ls (p.items.getD k default)) (rS B Ls p f o k (mS p f)))))]]
def lc_sMatLLb (B : List Binding) (Ls : List Syntax) (p : Syntax) (f : Syntax) (o : List Capture) (k : Nat) : Lp Nat := .mk 174 1 (fun x => [(0, ll (List.map bindingC B)), (1, ll
 (List.map syntaxC Ls)), (2, ll (List.map syntaxC p.items)), (4, SV.one (AC.ref 1)), (8, SV.one (AC.ptr 2 0)), (12, li (if okS p.items = true then atS p.items else (-1 : Int))),
 (14, li (↑(List.map syntaxC p.items).length : Int)), (15, li (↑(mS p f) : Int)), (16, lb (bS B Ls p f o k)), (17, li (↑(kS B Ls p f o k) : Int)), (18, li (↑k : Int)), (19, SV.one
 (AC.ref 3)), (102, li (↑(List.map captureC ((vrS Ls (p.items.getD k default) 0 []).getD [])).length : Int)), (103, hs x 0)]) (fun x => [Ob.dead, Ob.arr true 12 (List.map captureC
 (oS B Ls p f o k)), Ob.box (vals (syntaxF f)), ho x 1]) (fun k1 => [.s (li (↑k1 : Int)), .o (Ob.arr true 12 (List.map captureC (upTo (eV Ls (p.items.getD k default)) k1)))]) (fun
 k1 => k1 ≤ (eV Ls (p.items.getD k default)).length ∧ (eV Ls (p.items.getD k default)).length ≤ 1000000000 ∧ atB p k = true ∧ depY p ≤ 40) (fun k1 => (eV Ls (p.items.getD k
 default)).length - k1) [.mk True (.exit 2) (fun x => [(0, ll (List.map bindingC B)), (1, ll (List.map syntaxC Ls)), (2, ll (List.map syntaxC p.items)), (4, SV.one (AC.ref 1)), (8,
 SV.one (AC.ptr 2 0)), (12, li (if okS p.items = true then atS p.items else (-1 : Int))), (14, li (↑(List.map syntaxC p.items).length : Int)), (15, li (↑(mS p f) : Int)), (16, lb
 (bS B Ls p f o k)), (17, li (↑(kS B Ls p f o k) : Int)), (18, li (↑k : Int)), (19, SV.one (AC.ref 3))]) (fun x => [Ob.dead, Ob.arr true 12 (List.map captureC (oS B Ls p f o k)),
 Ob.box (vals (syntaxF f)), ho x 0]) [.o (Ob.arr true 12 (List.map captureC (nS Ls (p.items.getD k default))))]]
def lc_sMatLLa (B : List Binding) (Ls : List Syntax) (p : Syntax) (f : Syntax) (o : List Capture) : Lp Nat := .mk 174 1 (fun x => [(0, ll (List.map bindingC B)), (1, ll (List.map
 syntaxC Ls)), (2, ll (List.map syntaxC p.items)), (4, SV.one (AC.ref 1)), (8, SV.one (AC.ptr 2 0)), (12, li (if okS p.items = true then atS p.items else (-1 : Int))), (14, li
 (↑(List.map syntaxC p.items).length : Int)), (15, hs x 1), (16, hs x 3), (17, hs x 2), (18, hs x 0)]) (fun x => [Ob.dead, ho x 4, Ob.box (vals (syntaxF f))]) (fun k => [.s (li (↑k
 : Int)), .s (li (↑(mS p f) : Int)), .s (li (↑(kS B Ls p f o k) : Int)), .s (lb (bS B Ls p f o k)), .o (Ob.arr true 12 (List.map captureC (oS B Ls p f o k)))]) (fun k => k ≤
 p.items.length ∧ p.items.length ≤ 9223372036854775807 ∧ fS p f = true) (fun k => p.items.length - k) [.mk True (.exit 0) (fun x => [(4, SV.one (AC.ref 1)), (16, hs x 0)]) (fun x
 => [Ob.dead, ho x 1]) [.s (lb (bS B Ls p f o p.items.length)), .o (Ob.arr true 12 (List.map captureC (oS B Ls p f o p.items.length)))]]
theorem Sc_sMatLLd (B : List Binding) (Ls : List Syntax) (p : Syntax) (f : Syntax) (o : List Capture) (h : B.length ≤ 1048577 ∧ sumBy wB B ≤ 1048577 ∧ wY p ≤ 1048576 ∧ wY f ≤
 1000000000 ∧ o.length + sizeY p ≤ 2147483647 ∧ depY p ≤ 40) (hg : good Ls p ∧ p.kind = 0) (ih : ∀ (z : Syntax), z ∈ p.items → ∀ (B : List Binding) (Ls : List Syntax) (f : Syntax)
 (o : List Capture), B.length ≤ 1048577 ∧ sumBy wB B ≤ 1048577 ∧ wY z ≤ 1048576 ∧ wY f ≤ 1000000000 ∧ o.length + sizeY z ≤ 2147483647 ∧ depY z ≤ 40 → good Ls z → OK (P_c_sMat B Ls
 z f o)) (k : Nat) (k1 : Nat) : Lp.Sem Tryz.prog (loopAt Tryz.f185 3) (lc_sMatLLd B Ls p f o k k1) := lpOK (fun k2 => let v9 := (rpTo (nS Ls (p.items.getD k default)) (rS B Ls p f
 o k k1) (oneS B Ls p f o k k1) k2); let v1 := (v9.getD (↑k2 : Int).toNat default); let v2 := [cI 0, cI 0, cS (ByteArray.mk #[]), Cell.list [], Cell.list [], cI 0, cI 0, cI 0, cS
 (ByteArray.mk #[]), Cell.list [], Cell.list [], Cell.list []]; let v3 := (List.map captureC v9); let v4 := ((oneS B Ls p f o k k1).getD k2 default); let v5 := (List.map capX
 (List.take k2 (oneS B Ls p f o k k1)) ++ List.map captureC (List.drop k2 (oneS B Ls p f o k k1))); let v6 := [(↑k2 : Int).toNat, (↑k2 : Int).toNat, (↑k2 : Int).toNat, (↑k2 :
 Int).toNat, (↑k2 : Int).toNat]; let v7 := [cI v1.name.kind, cI v1.name.number, cS v1.name.text, Cell.list (List.map intC v1.name.scopes), Cell.list (List.map syntaxC
 v1.name.items), cI v1.depth, cI v1.form.kind, cI v1.form.number, cS v1.form.text, Cell.list (List.map intC v1.form.scopes), Cell.list (List.map syntaxC v1.form.items), Cell.any];
 let v11 := (List.map captureC v1.each ++ [v2]); let v10 := (↑(List.map captureC v1.each).length : Int); let v8 := [cI v1.name.kind, cI v1.name.number, cS v1.name.text, Cell.list
 (List.map intC v1.name.scopes), Cell.list (List.map syntaxC v1.name.items), cI v1.depth, cI v1.form.kind, cI v1.form.number, cS v1.form.text, Cell.list (List.map intC
 v1.form.scopes), Cell.list (List.map syntaxC v1.form.items), Cell.list (v11.set v10.toNat (captureF v4))]; .z captureC v9 (.i ((↑k2 : Int) < (↑(List.map captureC v9).length :
 Int)) (.b (gS B Ls (p.items.getD k default) (f.items.getD (kS B Ls p f o k + k1) default)).isSome (.w (.drawT 13 16 12 [(11, [3, 5]), (13, [4, 7]), (16, [7, 3])]) (.p (0 ≤ (↑k2 :
 Int) ∧ (↑k2 : Int).toNat < v3.length) (.w .sub (.p ((↑k2 : Int).toNat < v3.length) (.p (0 ≤ (↑k2 : Int) ∧ (↑k2 : Int).toNat < v5.length) (.w (.subs (captureF v4)) (.p (v5[(↑k2 :
 Int).toNat]? = some (captureF v4)) (.w (.cells (captureF v1)) (.p (v3[(↑k2 : Int).toNat]? = some (captureF v1)) (.w (.subcall (captureF v1) (List.map captureC v1.each) 12) (.p
 (v3[(↑k2 : Int).toNat]? = some (captureF v1)) (.p (some (Cell.list (List.map captureC v1.each)) = some (Cell.list (List.map captureC v1.each))) (.p (∀ (x : List Cell), x ∈
 List.map captureC v1.each → x.length = 12) (.p (((List.map captureC v1.each).length + 1) * 192 ≤ 140737488355328) (.p (0 ≤ v10 ∧ v10.toNat < v11.length) (.w (.subs (captureF v4))
 (.w (.cells v2) (.p (v6 = v6) (.p (v5[(↑k2 : Int).toNat]? = some (captureF v4)) (.p (v11[v10.toNat]? = some v2) (.p (0 ≤ (↑k2 : Int) ∧ (↑k2 : Int).toNat < (v3.set (↑k2 :
 Int).toNat v7).length) (.w (.take v7 (v3.set (↑k2 : Int).toNat v8) 0) (.p ((v3.set (↑k2 : Int).toNat v7)[(↑k2 : Int).toNat]? = some v7) (.p ((v3.set (↑k2 : Int).toNat v7).set (↑k2
 : Int).toNat v8 = v3.set (↑k2 : Int).toNat v8) (.p (v10.toNat < v11.length) (.p ((↑k2 : Int).toNat < (v3.set (↑k2 : Int).toNat v7).length) (.z captureC v1.each (.r ((↑k2 : Int) +
 1) (.g [0, 1, 2, 3, 4] (k2 + 1) [.s (li ((↑k2 : Int) + 1)), .o (Ob.arr true 12 (v3.set (↑k2 : Int).toNat v8)), .o (Ob.arr true 12 (v5.set (↑k2 : Int).toNat [cI v4.name.kind, cI
 v4.name.number, cS v4.name.text, Cell.any, Cell.any, cI v4.depth, cI v4.form.kind, cI v4.form.number, cS v4.form.text, Cell.any, Cell.any,
 Cell.any]))]))))))))))))))))))))))))))))) (.o 0 [0, 1, 2, 3] [.o (Ob.arr true 12 v3)])) (.y false (.o 0 [0, 1, 2, 3] [.o (Ob.arr true 12 v3)])))) (by
  intro k2 h; try dsimp only [teasy, nthW, lc_sMatLLd] at h ⊢
  have g3 := rpTo_len (nS Ls (p.items.getD k default)) (rS B Ls p f o k k1) (oneS B Ls p f o k k1) k2
  have gc := @oneS_len B Ls p f o k k1
  have ge := @eachS_len B Ls p f o k k1 k2
  have gz := @eachS_end B Ls p f o k k1 k2
  with_reducible repeat' (first | apply And.intro | exact zR | (intro; skip))
  all_goals (try simp only [std, inj] at *)
  all_goals with_reducible repeat' apply And.intro
  all_goals (try (first | exact z | exact List.set_set .. | exact one_getF (by grind) | exact one_step (by grind) | exact one_len (by grind) | exact each_step _ (by omega) | exact gz h.2.2.2.1 h.2.2.1 (.inl ‹_›) | exact gz h.2.2.2.1 h.2.2.1 (.inr (by omega)) | grind)))
theorem Sc_sMatLLc (B : List Binding) (Ls : List Syntax) (p : Syntax) (f : Syntax) (o : List Capture) (h : B.length ≤ 1048577 ∧ sumBy wB B ≤ 1048577 ∧ wY p ≤ 1048576 ∧ wY f ≤
 1000000000 ∧ o.length + sizeY p ≤ 2147483647 ∧ depY p ≤ 40) (hg : good Ls p ∧ p.kind = 0) (ih : ∀ (z : Syntax), z ∈ p.items → ∀ (B : List Binding) (Ls : List Syntax) (f : Syntax)
 (o : List Capture), B.length ≤ 1048577 ∧ sumBy wB B ≤ 1048577 ∧ wY z ≤ 1048576 ∧ wY f ≤ 1000000000 ∧ o.length + sizeY z ≤ 2147483647 ∧ depY z ≤ 40 → good Ls z → OK (P_c_sMat B Ls
 z f o)) (k : Nat) : Lp.Sem Tryz.prog (loopAt Tryz.f185 2) (lc_sMatLLc B Ls p f o k) := lpOK (fun k1 => .i ((↑k1 : Int) < (↑(mS p f) : Int)) (.b (qS B Ls p f o k k1) (.w (.bool
 false) (.w (.draw [(12, [4])]) (.x (↑k : Int) (List.map syntaxC p.items) (syntaxF (p.items.getD k default)) (.x ((↑(kS B Ls p f o k) : Int) + (↑k1 : Int)) (List.map syntaxC
 f.items) (syntaxF (f.items.getD (kS B Ls p f o k + k1) default)) (.d [.rd, .rd, .rd, .rd, .own true 12] (P_c_sMat B Ls (p.items.getD k default) (f.items.getD (kS B Ls p f o k +
 k1) default) []) (.r ((↑(kS B Ls p f o k) : Int) + (↑k1 : Int) + 1) (.l (lc_sMatLLd B Ls p f o k k1) (Sc_sMatLLd B Ls p f o h hg ih k k1) [0, 1, 2, 3, 6] [.s (li 0), .o (Ob.arr
 true 12 (List.map captureC (rp (nS Ls (p.items.getD k default)) (rS B Ls p f o k k1)))), .o (Ob.arr true 12 (List.map captureC (smO (p.items.getD k default) [] (gS B Ls
 (p.items.getD k default) (f.items.getD (kS B Ls p f o k + k1) default)))))] 0 (.t (.r ((↑k1 : Int) + 1) (.g [0, 1, 2, 3] (k1 + 1) [.s (li ((↑k1 : Int) + 1)), .s (li ((↑(kS B Ls p
 f o k) : Int) + (↑k1 : Int) + 1)), .s (lb (gS B Ls (p.items.getD k default) (f.items.getD (kS B Ls p f o k + k1) default)).isSome), .o (Ob.arr true 12 (List.map captureC (rp (nS
 Ls (p.items.getD k default)) (rS B Ls p f o k (k1 + 1)))))])) .q)))))))) (.o 0 [0, 1, 2, 3] [.s (li ((↑(kS B Ls p f o k) : Int) + (↑k1 : Int))), .s (lb (qS B Ls p f o k k1)), .o
 (Ob.arr true 12 (List.map captureC (rp (nS Ls (p.items.getD k default)) (rS B Ls p f o k k1))))])) (.y false (.o 0 [0, 1, 2, 3] [.s (li ((↑(kS B Ls p f o k) : Int) + (↑k1 :
 Int))), .s (lb (qS B Ls p f o k k1)), .o (Ob.arr true 12 (List.map captureC (rp (nS Ls (p.items.getD k default)) (rS B Ls p f o k k1))))]))) (by
  intro k1 h; try dsimp only [teasy, nthW, lc_sMatLLc, lc_sMatLLd] at h ⊢
  have ga := atB_of h.2.2.2.1
  have gi := item_ok ga.1
  have gl := len_w f
  have gf := @item_ok (kS B Ls p f o k + k1) f
  have g3 := @rS_len B Ls p f o k k1
  have g4 := @rS_stop B Ls p f o k k1
  have g5 := nS_size (Ls := Ls) (p.items.getD k default)
  have g6 := sizeY_le (p.items.getD k default)
  have g7 := @rpTo_zero (nS Ls (p.items.getD k default)) (rS B Ls p f o k k1) (oneS B Ls p f o k k1)
  have gr := @rep_good Ls p k hg.1 hg.2
  with_reducible repeat' (first | apply And.intro | exact zR | exact ih | (intro; skip))
  all_goals (try simp only [std, inj, eV_def, aS_def] at *)
  all_goals with_reducible repeat' apply And.intro
  all_goals (try (first | with_reducible apply ih))
  all_goals (try (first | exact zw | exact gi.2.2.2.2 | exact gr h.2.2.2.1 | exact one_zero | exact q_next ‹_› | exact q_or ‹_› | (have q := gf (by omega); omega) | (have q := g3 ‹_›; omega) | (simp only [List.length_nil]; omega) | grind)))
theorem Sc_sMatLLb (B : List Binding) (Ls : List Syntax) (p : Syntax) (f : Syntax) (o : List Capture) (h : B.length ≤ 1048577 ∧ sumBy wB B ≤ 1048577 ∧ wY p ≤ 1048576 ∧ wY f ≤
 1000000000 ∧ o.length + sizeY p ≤ 2147483647 ∧ depY p ≤ 40) (hg : good Ls p ∧ p.kind = 0) (ih : ∀ (z : Syntax), z ∈ p.items → ∀ (B : List Binding) (Ls : List Syntax) (f : Syntax)
 (o : List Capture), B.length ≤ 1048577 ∧ sumBy wB B ≤ 1048577 ∧ wY z ≤ 1048576 ∧ wY f ≤ 1000000000 ∧ o.length + sizeY z ≤ 2147483647 ∧ depY z ≤ 40 → good Ls z → OK (P_c_sMat B Ls
 z f o)) (k : Nat) : Lp.Sem Tryz.prog (loopAt Tryz.f185 1) (lc_sMatLLb B Ls p f o k) := lpOK (fun k1 => .i ((↑k1 : Int) < (↑(List.map captureC ((vrS Ls (p.items.getD k default) 0
 []).getD [])).length : Int)) (.p (0 ≤ (↑k1 : Int) ∧ (↑k1 : Int).toNat < (List.map captureC (upTo (eV Ls (p.items.getD k default)) k1)).length) (.w (.cells (captureF ((upTo (eV Ls
 (p.items.getD k default)) k1).getD (↑k1 : Int).toNat default))) (.p ((List.map captureC (upTo (eV Ls (p.items.getD k default)) k1))[(↑k1 : Int).toNat]? = some (captureF ((upTo (eV
 Ls (p.items.getD k default)) k1).getD (↑k1 : Int).toNat default))) (.r (((upTo (eV Ls (p.items.getD k default)) k1).getD (↑k1 : Int).toNat default).depth + 1) (.p (0 ≤ (↑k1 : Int)
 ∧ (↑k1 : Int).toNat < (List.map captureC (upTo (eV Ls (p.items.getD k default)) k1)).length) (.w (.cells (captureF ((upTo (eV Ls (p.items.getD k default)) k1).getD (↑k1 :
 Int).toNat default))) (.p ((List.map captureC (upTo (eV Ls (p.items.getD k default)) k1))[(↑k1 : Int).toNat]? = some (captureF ((upTo (eV Ls (p.items.getD k default)) k1).getD
 (↑k1 : Int).toNat default))) (.r ((↑k1 : Int) + 1) (.g [0, 1, 2, 3] (k1 + 1) [.s (li ((↑k1 : Int) + 1)), .o (Ob.arr true 12 ((List.map captureC (upTo (eV Ls (p.items.getD k
 default)) k1)).set (↑k1 : Int).toNat [cI ((upTo (eV Ls (p.items.getD k default)) k1).getD (↑k1 : Int).toNat default).name.kind, cI ((upTo (eV Ls (p.items.getD k default)) k1).getD
 (↑k1 : Int).toNat default).name.number, cS ((upTo (eV Ls (p.items.getD k default)) k1).getD (↑k1 : Int).toNat default).name.text, Cell.list (List.map intC ((upTo (eV Ls
 (p.items.getD k default)) k1).getD (↑k1 : Int).toNat default).name.scopes), Cell.list (List.map syntaxC ((upTo (eV Ls (p.items.getD k default)) k1).getD (↑k1 : Int).toNat
 default).name.items), cI (((upTo (eV Ls (p.items.getD k default)) k1).getD (↑k1 : Int).toNat default).depth + 1), cI ((upTo (eV Ls (p.items.getD k default)) k1).getD (↑k1 :
 Int).toNat default).form.kind, cI ((upTo (eV Ls (p.items.getD k default)) k1).getD (↑k1 : Int).toNat default).form.number, cS ((upTo (eV Ls (p.items.getD k default)) k1).getD (↑k1
 : Int).toNat default).form.text, Cell.list (List.map intC ((upTo (eV Ls (p.items.getD k default)) k1).getD (↑k1 : Int).toNat default).form.scopes), Cell.list (List.map syntaxC
 ((upTo (eV Ls (p.items.getD k default)) k1).getD (↑k1 : Int).toNat default).form.items), Cell.list (List.map captureC ((upTo (eV Ls (p.items.getD k default)) k1).getD (↑k1 :
 Int).toNat default).each)]))]))))))))) (.o 0 [0, 1, 2, 3] [.o (Ob.arr true 12 (List.map captureC (upTo (eV Ls (p.items.getD k default)) k1)))])) (by
  intro k1 h; try dsimp only [teasy, nthW, lc_sMatLLb] at h ⊢
  have g3 := upTo_len (eV Ls (p.items.getD k default)) k1
  have gd := @eV_depth Ls p k k1 hg.1 hg.2
  have ge := @up_end Ls p k k1 hg.1 hg.2
  with_reducible repeat' (first | apply And.intro | exact zR | (intro; skip))
  all_goals (try simp only [std, inj, eV_def, aS_def] at *)
  all_goals with_reducible repeat' apply And.intro
  all_goals (try (first | exact zw | exact up_step (by omega) | (have q := gd h.2.2.1 h.2.2.2 (by omega); omega) | exact ge h.2.2.1 (by omega) | grind)))
theorem Sc_sMatLLa (B : List Binding) (Ls : List Syntax) (p : Syntax) (f : Syntax) (o : List Capture) (h : B.length ≤ 1048577 ∧ sumBy wB B ≤ 1048577 ∧ wY p ≤ 1048576 ∧ wY f ≤
 1000000000 ∧ o.length + sizeY p ≤ 2147483647 ∧ depY p ≤ 40) (hg : good Ls p ∧ p.kind = 0) (ih : ∀ (z : Syntax), z ∈ p.items → ∀ (B : List Binding) (Ls : List Syntax) (f : Syntax)
 (o : List Capture), B.length ≤ 1048577 ∧ sumBy wB B ≤ 1048577 ∧ wY z ≤ 1048576 ∧ wY f ≤ 1000000000 ∧ o.length + sizeY z ≤ 2147483647 ∧ depY z ≤ 40 → good Ls z → OK (P_c_sMat B Ls
 z f o)) : Lp.Sem Tryz.prog (loopAt Tryz.f185 0) (lc_sMatLLa B Ls p f o) := lpOK (fun k => .i ((↑k : Int) < (↑(List.map syntaxC p.items).length : Int)) (.b (bS B Ls p f o k) (.i
 ((↑k : Int) = if okS p.items = true then atS p.items else (-1 : Int)) (.r ((↑k : Int) + 1) (.g [0, 1, 2] (k + 1) [.s (li ((↑k : Int) + 1)), .s (li (↑(mS p f) : Int)), .s (li (↑(kS
 B Ls p f o k) : Int)), .s (lb (bS B Ls p f o k)), .o (Ob.arr true 12 (List.map captureC (oS B Ls p f o k)))])) (.r ((↑k : Int) + 1) (.i ((↑k : Int) + (1 : Int) ≠ if okS p.items =
 true then atS p.items else (-1 : Int)) (.w (.draw [(12, [1])]) (.x (↑k : Int) (List.map syntaxC p.items) (syntaxF (p.items.getD k default)) (.x (↑(kS B Ls p f o k) : Int)
 (List.map syntaxC f.items) (syntaxF (f.items.getD (kS B Ls p f o k) default)) (.d [.rd, .rd, .rd, .rd, .own true 12] (P_c_sMat B Ls (p.items.getD k default) (f.items.getD (kS B Ls
 p f o k) default) (oS B Ls p f o k)) (.r ((↑(kS B Ls p f o k) : Int) + 1) (.r ((↑k : Int) + 1) (.g [0, 4, 2] (k + 1) [.s (li ((↑k : Int) + 1)), .s (li (↑(mS p f) : Int)), .s (li
 ((↑(kS B Ls p f o k) : Int) + 1)), .s (lb (gS B Ls (p.items.getD k default) (f.items.getD (kS B Ls p f o k) default)).isSome), .o (Ob.arr true 12 (List.map captureC (smO
 (p.items.getD k default) (oS B Ls p f o k) (gS B Ls (p.items.getD k default) (f.items.getD (kS B Ls p f o k) default)))))]))))))) (.x (↑k : Int) (List.map syntaxC p.items)
 (syntaxF (p.items.getD k default)) (.w (.bool false) (.d [.rd, .rd, .rd, .own true 12] (P_c_sVars Ls (p.items.getD k default) 0 []) (.z captureC ((vrS Ls (p.items.getD k default)
 0 []).getD []) (.l (lc_sMatLLb B Ls p f o k) (Sc_sMatLLb B Ls p f o h hg ih k) [0, 1, 2, 5] [.s (li 0), .o (Ob.arr true 12 (List.map captureC ((vrS Ls (p.items.getD k default) 0
 []).getD [])))] 0 (.t (.l (lc_sMatLLc B Ls p f o k) (Sc_sMatLLc B Ls p f o h hg ih k) [0, 1, 2, 3] [.s (li 0), .s (li (↑(kS B Ls p f o k) : Int)), .s (lb (bS B Ls p f o k)), .o
 (Ob.arr true 12 (List.map captureC (nS Ls (p.items.getD k default))))] 0 (.t (.p (((List.map captureC (oS B Ls p f o k)).length + (List.map captureC (rp (nS Ls (p.items.getD k
 default)) (rS B Ls p f o k (mS p f)))).length) * 192 ≤ 140737488355328) (.r ((↑k : Int) + 1) (.g [0, 4, 2] (k + 1) [.s (li ((↑k : Int) + 1)), .s (li (↑(mS p f) : Int)), .s (li
 ((↑(kS B Ls p f o k) : Int) + (↑(if qS B Ls p f o k (mS p f) = true then mS p f else (rS B Ls p f o k (mS p f)).length + 1) : Int))), .s (lb (qS B Ls p f o k (mS p f))), .o
 (Ob.arr true 12 (List.map captureC (oS B Ls p f o k) ++ List.map captureC (rp (nS Ls (p.items.getD k default)) (rS B Ls p f o k (mS p f)))))]))) .q)) .q))))))))) (.o 0 [0, 1] [.s
 (lb (bS B Ls p f o k)), .o (Ob.arr true 12 (List.map captureC (oS B Ls p f o k)))])) (.y false (.o 0 [0, 1] [.s (lb (bS B Ls p f o k)), .o (Ob.arr true 12 (List.map captureC (oS B
 Ls p f o k)))]))) (by
  intro k h; try dsimp only [teasy, nthW, lc_sMatLLa, lc_sMatLLc, lc_sMatLLb] at h ⊢
  rename_i hh
  have gs := @sM_skip B Ls p f o k
  have g1 := @sM_one B Ls p f o k
  have gr := @sM_rep B Ls p f o k
  have gst := @sM_stop B Ls p f o k p.items.length
  have gat := fun a => @sM_at B Ls p f o h.2.2 k a
  have gi := @item_ok k p
  have gf := @item_ok (kS B Ls p f o k) f
  have gl := len_w f
  have gg := @good_item Ls p hg.1 hg.2 k
  have gn := nS_size (Ls := Ls) (p.items.getD k default)
  have g11 := rp_nil (nS Ls (p.items.getD k default))
  have g12 := upTo_zero (eV Ls (p.items.getD k default))
  have g13 := @rS_zero B Ls p f o k
  have ge := @eV_size Ls p k hg.1 hg.2
  have ga := @atB_mk p k
  have gc := rp_len (nS Ls (p.items.getD k default)) (rS B Ls p f o k (mS p f))
  have gz := sizeY_le p
  with_reducible repeat' (first | apply And.intro | exact zR | exact ih | (intro; skip) | apply c_sVars)
  all_goals (try simp only [std, inj, eV_def, aS_def, ne_eq, Decidable.not_not] at *)
  all_goals with_reducible repeat' apply And.intro
  all_goals (try (first | with_reducible apply ih))
  all_goals (try (first | exact zw | exact (gi (by omega)).2.2.2.2 | (have q := gi (by omega); omega) | (have q := gat (by omega) ‹_›; have q2 := gi (by omega); omega) | (have q := gat (by omega) ‹_›; have q2 := gf (by omega); omega) | grind)))
theorem c_sMatL (B : List Binding) (Ls : List Syntax) (p f : Syntax) (o : List Capture) (h : B.length ≤ 1048577 ∧ sumBy wB B ≤ 1048577 ∧ wY p ≤ 1048576 ∧ wY f ≤ 1000000000 ∧
 o.length + sizeY p ≤ 2147483647 ∧ depY p ≤ 40) (hg : good Ls p ∧ p.kind = 0) (ih : ∀ z ∈ p.items, ∀ (B : List Binding) (Ls : List Syntax) (f : Syntax) (o : List Capture) (h :
 B.length ≤ 1048577 ∧ sumBy wB B ≤ 1048577 ∧ wY z ≤ 1048576 ∧ wY f ≤ 1000000000 ∧ o.length + sizeY z ≤ 2147483647 ∧ depY z ≤ 40) (hg : good Ls z), P_c_sMat B Ls z f o)  : P_c_sMatL
 B Ls p f o := fnOK Tryz.call185 Tryz.func185 (.c [.rd] (c_sAt p.items) (.z syntaxC p.items (.i (0 ≤ if okS p.items = true then atS p.items else (-1 : Int)) (.z syntaxC f.items (.r
 ((↑(List.map syntaxC p.items).length : Int) - 2) (.r ((↑(List.map syntaxC f.items).length : Int) - ((↑(List.map syntaxC p.items).length : Int) - 2)) (.i (f.kind ≠ 0) (.y true (.y
 true (.w (.ghost (.nilreg 10 true 12)) (.w (.ghost (.move 0)) (.f [2] [Ob.dead, Ob.arr true 12 []] (AV.tup [SV.one (AC.ref 1), lb false])))))) (.i ((↑(List.map syntaxC
 f.items).length : Int) - ((↑(List.map syntaxC p.items).length : Int) - 2) < 0) (.y true (.w (.ghost (.nilreg 10 true 12)) (.w (.ghost (.move 0)) (.f [2] [Ob.dead, Ob.arr true 12
 []] (AV.tup [SV.one (AC.ref 1), lb false]))))) (.i ((if okS p.items = true then atS p.items else (-1 : Int)) < 0) (.z syntaxC f.items (.i ((↑(List.map syntaxC f.items).length :
 Int) ≠ (↑(List.map syntaxC p.items).length : Int)) (.w (.ghost (.nilreg 10 true 12)) (.w (.ghost (.move 0)) (.f [2] [Ob.dead, Ob.arr true 12 []] (AV.tup [SV.one (AC.ref 1), lb
 false])))) (.w (.ghost (.move 0)) (.l (lc_sMatLLa B Ls p f o) (Sc_sMatLLa B Ls p f o h hg ih) [0, 2, 1] [.s (li 0), .s (li ((↑(List.map syntaxC f.items).length : Int) -
 ((↑(List.map syntaxC p.items).length : Int) - 2))), .s (li 0), .s (lb true), .o (Ob.arr true 12 (List.map captureC o))] 0 (.t (.b (!bS B Ls p f o p.items.length) (.w (.ghost
 (.nilreg 10 true 12)) (.f [2] [Ob.dead, Ob.arr true 12 []] (AV.tup [SV.one (AC.ref 1), lb false]))) (.f [1] [Ob.dead, Ob.arr true 12 (List.map captureC (oS B Ls p f o
 p.items.length))] (AV.tup [SV.one (AC.ref 1), lb true]))) .q))))) (.y false (.w (.ghost (.move 0)) (.l (lc_sMatLLa B Ls p f o) (Sc_sMatLLa B Ls p f o h hg ih) [0, 2, 1] [.s (li
 0), .s (li ((↑(List.map syntaxC f.items).length : Int) - ((↑(List.map syntaxC p.items).length : Int) - 2))), .s (li 0), .s (lb true), .o (Ob.arr true 12 (List.map captureC o))] 0
 (.t (.b (!bS B Ls p f o p.items.length) (.w (.ghost (.nilreg 10 true 12)) (.f [2] [Ob.dead, Ob.arr true 12 []] (AV.tup [SV.one (AC.ref 1), lb false]))) (.f [1] [Ob.dead, Ob.arr
 true 12 (List.map captureC (oS B Ls p f o p.items.length))] (AV.tup [SV.one (AC.ref 1), lb true]))) .q)))))))))) (.i (f.kind ≠ 0) (.y true (.y true (.w (.ghost (.nilreg 10 true
 12)) (.w (.ghost (.move 0)) (.f [2] [Ob.dead, Ob.arr true 12 []] (AV.tup [SV.one (AC.ref 1), lb false])))))) (.y false (.i ((if okS p.items = true then atS p.items else (-1 :
 Int)) < 0) (.z syntaxC f.items (.i ((↑(List.map syntaxC f.items).length : Int) ≠ (↑(List.map syntaxC p.items).length : Int)) (.w (.ghost (.nilreg 10 true 12)) (.w (.ghost (.move
 0)) (.f [2] [Ob.dead, Ob.arr true 12 []] (AV.tup [SV.one (AC.ref 1), lb false])))) (.w (.ghost (.move 0)) (.l (lc_sMatLLa B Ls p f o) (Sc_sMatLLa B Ls p f o h hg ih) [0, 2, 1] [.s
 (li 0), .s (li 0), .s (li 0), .s (lb true), .o (Ob.arr true 12 (List.map captureC o))] 0 (.t (.b (!bS B Ls p f o p.items.length) (.w (.ghost (.nilreg 10 true 12)) (.f [2]
 [Ob.dead, Ob.arr true 12 []] (AV.tup [SV.one (AC.ref 1), lb false]))) (.f [1] [Ob.dead, Ob.arr true 12 (List.map captureC (oS B Ls p f o p.items.length))] (AV.tup [SV.one (AC.ref
 1), lb true]))) .q))))) (.y false (.w (.ghost (.move 0)) (.l (lc_sMatLLa B Ls p f o) (Sc_sMatLLa B Ls p f o h hg ih) [0, 2, 1] [.s (li 0), .s (li 0), .s (li 0), .s (lb true), .o
 (Ob.arr true 12 (List.map captureC o))] 0 (.t (.b (!bS B Ls p f o p.items.length) (.w (.ghost (.nilreg 10 true 12)) (.f [2] [Ob.dead, Ob.arr true 12 []] (AV.tup [SV.one (AC.ref
 1), lb false]))) (.f [1] [Ob.dead, Ob.arr true 12 (List.map captureC (oS B Ls p f o p.items.length))] (AV.tup [SV.one (AC.ref 1), lb true]))) .q)))))))))) (by
  dsimp only [teasy, P_c_sMatL, nthW, lc_sMatLLa]
  have g1 := @sM_zero B Ls p f o
  have g2 := @mS_of p f
  have g3 := @mS_no p f
  have g4 := @fS_a p f
  have g5 := @fS_b p f
  have g6 := @out_a B Ls p f o hg.2
  have g7 := @out_b B Ls p f o hg.2
  have g8 := @out_c B Ls p f o hg.2
  have g9 := @out_d B Ls p f o hg.2
  have g10 := @out_e B Ls p f o hg.2
  have g11 := wY_eq f
  with_reducible repeat' (first | apply And.intro | exact zR | (intro; skip))
  all_goals (try simp only [std, inj, aS_def, Decidable.not_not] at *)
  all_goals with_reducible repeat' apply And.intro
  all_goals (try (first | exact zw | grind)))
theorem c_sMat_s (B : List Binding) (Ls : List Syntax) (p f : Syntax) (o : List Capture) (h : B.length ≤ 1048577 ∧ sumBy wB B ≤ 1048577 ∧ wY p ≤ 1048576 ∧ wY f ≤ 1000000000 ∧
 o.length + sizeY p ≤ 2147483647 ∧ depY p ≤ 40) (hg : good Ls p) (ih : ∀ z ∈ p.items, ∀ (B : List Binding) (Ls : List Syntax) (f : Syntax) (o : List Capture) (h : B.length ≤
 1048577 ∧ sumBy wB B ≤ 1048577 ∧ wY z ≤ 1048576 ∧ wY f ≤ 1000000000 ∧ o.length + sizeY z ≤ 2147483647 ∧ depY z ≤ 40) (hg : good Ls z), P_c_sMat B Ls z f o)  : P_c_sMat B Ls p f o
 := fnOK Tryz.call106 Tryz.func106 (.i (p.kind = 1) (.i (p.text.data.toList = [(95 : UInt8)]) (.w (.ghost (.move 0)) (.f [3] [Ob.dead, Ob.arr true 12 (List.map captureC o)] (AV.tup
 [SV.one (AC.ref 1), lb true]))) (.c [.rd, .rd] (c_sHasI Ls p) (.b (hasI Ls p) (.i (f.kind = 1) (.d [.rd, .rd, .rd] (P_c_sMean B p f) (.w (.ghost (.move 0)) (.f [3] [Ob.dead,
 Ob.arr true 12 (List.map captureC o)] (AV.tup [SV.one (AC.ref 1), lb (mng B p f)])))) (.w (.ghost (.move 0)) (.f [3] [Ob.dead, Ob.arr true 12 (List.map captureC o)] (AV.tup
 [SV.one (AC.ref 1), lb false])))) (.w (.draw [(6, [3, 4, 11, 12]), (7, [0, 19])]) (.d [.rd] (P_c_sCopyY p) (.d [.rd] (P_c_sCopyY f) (.p (((List.map captureC o).length + 1) * 192 ≤
 140737488355328) (.f [20] [Ob.dead, Ob.arr true 12 (List.map captureC o ++ [[cI p.kind, cI p.number, cS p.text, Cell.list (List.map intC p.scopes), Cell.list (List.map syntaxC
 p.items), cI 0, cI f.kind, cI f.number, cS f.text, Cell.list (List.map intC f.scopes), Cell.list (List.map syntaxC f.items), Cell.list []]])] (AV.tup [SV.one (AC.ref 1), lb
 true]))))))))) (.i (p.kind = 0) (.d [.rd, .rd, .rd, .rd, .own true 12] (P_c_sMatL B Ls p f o) (.f [4] [Ob.dead, Ob.arr true 12 (List.map captureC (smO p o (gS B Ls p f)))] (AV.tup
 [SV.one (AC.ref 1), lb (gS B Ls p f).isSome]))) (.w (.draw []) (.i (p.kind = f.kind) (.i (p.number = f.number) (.w (.ghost (.move 0)) (.f [3] [Ob.dead, Ob.arr true 12 (List.map
 captureC o)] (AV.tup [SV.one (AC.ref 1), lb (decide (p.text.data.toList = f.text.data.toList))]))) (.w (.ghost (.move 0)) (.f [3] [Ob.dead, Ob.arr true 12 (List.map captureC o)]
 (AV.tup [SV.one (AC.ref 1), lb false])))) (.y false (.w (.ghost (.move 0)) (.f [3] [Ob.dead, Ob.arr true 12 (List.map captureC o)] (AV.tup [SV.one (AC.ref 1), lb false]))))))))
 (by
  dsimp only [teasy, P_c_sMat]
  have g1 := @gS_sym B Ls p f o
  have g2 := @gS_wild B Ls p f o
  have g3 := @gS_lit B Ls p f o
  have g4 := @gS_other B Ls p f o
  have g5 := capF_snoc o p f
  have g6 : isUnd p = decide (p.text.data.toList = [95]) := rfl
  have g7 : p.kind = 1 → isUnd p = true → (gS B Ls p f).isSome = true := fun a b => by rw [(g2 a b).1]; rfl
  with_reducible repeat' (first | apply And.intro | exact zR | exact ih | (intro; skip) | apply mIc | apply mOc | apply mSc | apply mLc | apply c_sHasI | apply c_sMean | apply c_sCopyY | apply c_sMatL)
  all_goals (try simp only [std, inj] at *)
  all_goals with_reducible repeat' apply And.intro
  all_goals (try (first | with_reducible apply c_sHasI | with_reducible apply c_sMean | with_reducible apply c_sCopyY | with_reducible apply c_sMatL | with_reducible apply ih | (simp only [← List.map_append]; first | with_reducible apply c_sHasI | with_reducible apply c_sMean | with_reducible apply c_sCopyY | with_reducible apply c_sMatL | with_reducible apply ih)))
  all_goals (try (first | exact zw | exact zM | grind [snocI, snocS, rowSnoc]))
  all_goals (first | exact sm_lit1 ‹_› ‹_› ‹_› ‹_› | exact sm_lit2 ‹_› ‹_› ‹_› ‹_› | exact sm_sym ‹_› ‹_› ‹_› | exact sm_o1 ‹_› ‹_› ‹_› ‹_› | exact sm_o2 ‹_› ‹_› ‹_› ‹_› | exact sm_o3 ‹_› ‹_› ‹_›))
theorem c_sMat (p : Syntax) : ∀ (B : List Binding) (Ls : List Syntax) (f : Syntax) (o : List Capture) (h : B.length ≤ 1048577 ∧ sumBy wB B ≤ 1048577 ∧ wY p ≤ 1048576 ∧ wY f ≤ 1000000000 ∧ o.length + sizeY p ≤ 2147483647 ∧ depY p ≤ 40) (hg : good Ls p), P_c_sMat B Ls p f o := Syntax.ind (P := fun p => ∀ (B : List Binding) (Ls : List Syntax) (f : Syntax) (o : List Capture) (h : B.length ≤ 1048577 ∧ sumBy wB B ≤ 1048577 ∧ wY p ≤ 1048576 ∧ wY f ≤ 1000000000 ∧ o.length + sizeY p ≤ 2147483647 ∧ depY p ≤ 40) (hg : good Ls p), P_c_sMat B Ls p f o) (fun p ih B Ls f o h hg => c_sMat_s B Ls p f o h hg ih) p
end Go.Proofs.YtpnaoendfpaodaaGreat
end
