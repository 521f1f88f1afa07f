/- The program's BindMacro returns what the reference's returns, for all arguments. No condition. -/
import Derived.Test.YtpnaoendfpaodaaGreatBiM1
section
namespace Go.Proofs.YtpnaoendfpaodaaGreat
open Go Go.Proofs.YtpnaoendfpaodaaGreat.Ab
set_option linter.unusedVariables false
set_option linter.unusedSimpArgs false
set_option maxHeartbeats 4000000
def bndM (k : Int) : Int := if k = 1 then 11 else if k = 2 then 13 else if k = 3 then 99999 else if k = 4 then 99999 else -1
def isBnd (b : Binding) : Bool := isSym b.text && okSc b.scopes && decide (0 ≤ b.number ∧ b.number ≤ bndM b.kind)
abbrev P_c_sIsBnd (b : Binding) : Ct := ⟨178, [], [bindingA b], [], .sv (lb (isBnd b))⟩
theorem c_sIsBnd (b : Binding)  : P_c_sIsBnd b := fnOK Tryz.call178 Tryz.func178 (.i (b.kind = 1) (.c [] c_sFormNames (.h (12 ≤ 9223372036854775807) (.r 11 (.c [.rd] (c_sIsSymbol
 b.text) (.b (isSym b.text) (.c [.rd] (c_sScopes b.scopes) (.b (okSc b.scopes) (.c [.rd, .rd, .rd] (c_l1In b.number 0 11) (.s (lb (decide (0 ≤ b.number ∧ b.number ≤ 11))))) (.s (lb
 false)))) (.y false (.s (lb false)))))))) (.i (b.kind = 2) (.c [] c_sPrimitiveNames (.h (14 ≤ 9223372036854775807) (.r 13 (.c [.rd] (c_sIsSymbol b.text) (.b (isSym b.text) (.c
 [.rd] (c_sScopes b.scopes) (.b (okSc b.scopes) (.c [.rd, .rd, .rd] (c_l1In b.number 0 13) (.s (lb (decide (0 ≤ b.number ∧ b.number ≤ 13))))) (.s (lb false)))) (.y false (.s (lb
 false)))))))) (.i (b.kind = 3) (.y true (.c [.rd] (c_sIsSymbol b.text) (.b (isSym b.text) (.c [.rd] (c_sScopes b.scopes) (.b (okSc b.scopes) (.c [.rd, .rd, .rd] (c_l1In b.number 0
 99999) (.s (lb (decide (0 ≤ b.number ∧ b.number ≤ 99999))))) (.s (lb false)))) (.y false (.s (lb false)))))) (.i (b.kind = 4) (.c [.rd] (c_sIsSymbol b.text) (.b (isSym b.text) (.c
 [.rd] (c_sScopes b.scopes) (.b (okSc b.scopes) (.c [.rd, .rd, .rd] (c_l1In b.number 0 99999) (.s (lb (decide (0 ≤ b.number ∧ b.number ≤ 99999))))) (.s (lb false)))) (.y false (.s
 (lb false))))) (.c [.rd] (c_sIsSymbol b.text) (.b (isSym b.text) (.c [.rd] (c_sScopes b.scopes) (.b (okSc b.scopes) (.c [.rd, .rd, .rd] (c_l1In b.number 0 (-1 : Int)) (.s (lb
 (decide (0 ≤ b.number ∧ b.number ≤ (-1 : Int)))))) (.s (lb false)))) (.y false (.s (lb false))))))))) (by
  dsimp only [teasy, P_c_sIsBnd]
  have e1 : formNames.length = 12 := rfl
  have e2 : primNames.length = 14 := rfl
  with_reducible repeat' (first | apply And.intro | exact zR | (intro; skip) | apply mIc | apply mOc | apply mSc | apply mLc)
  all_goals (try simp only [std, inj] at *)
  all_goals with_reducible repeat' apply And.intro
  all_goals (try (first | exact z | exact zM | grind [isBnd, bndM, snocI, snocS, rowSnoc])))
abbrev P_c_iIsBnd (b : Binding) : Ct := ⟨186, [], [bindingA b], [], .sv (lb (isBnd b))⟩
theorem c_iIsBnd (b : Binding)  : P_c_iIsBnd b := fnOK Tryz.call186 Tryz.func186 (.c [.rd] (c_iIsSymbol b.text) (.b (!isSym b.text) (.y true (.y true (.s (lb false)))) (.c [.rd]
 (c_iScopes b.scopes) (.b (!okSc b.scopes) (.y true (.s (lb false))) (.i (b.number < 0) (.s (lb false)) (.i (b.kind = 1) (.w (.draw []) (.c [] c_iFormNames (.h (12 ≤
 9223372036854775807) (.s (lb (decide (b.number < 12))))))) (.i (b.kind = 2) (.w (.draw []) (.c [] c_iPrimitiveNames (.h (14 ≤ 9223372036854775807) (.s (lb (decide (b.number <
 14))))))) (.i (b.kind = 3) (.y true (.s (lb (decide (b.number ≤ 99999))))) (.i (b.kind = 4) (.s (lb (decide (b.number ≤ 99999)))) (.s (lb false))))))))))) (by
  dsimp only [teasy, P_c_iIsBnd]
  have e1 : formNames.length = 12 := rfl
  have e2 : primNames.length = 14 := rfl
  with_reducible repeat' (first | apply And.intro | exact zR | (intro; skip) | apply mIc | apply mOc | apply mSc | apply mLc | apply c_iIsSymbol | apply c_iScopes)
  all_goals (try simp only [std, inj] at *)
  all_goals with_reducible repeat' apply And.intro
  all_goals (try (first | with_reducible apply c_iIsSymbol | with_reducible apply c_iScopes | (simp only [← List.map_append]; first | with_reducible apply c_iIsSymbol | with_reducible apply c_iScopes)))
  all_goals (try (first | exact z | exact zM | grind [isBnd, bndM, snocI, snocS, rowSnoc])))
def clB (t : ByteArray) (s : List Int) (x : Binding) : Bool := decide (x.text = t) && decide (x.scopes = s)
def clash (L : List Binding) (t : ByteArray) (s : List Int) : Bool := L.any (clB t s)
abbrev P_c_sClash (L : List Binding) (b : Binding) : Ct := ⟨179, [], [ll (L.map bindingC), bindingA b], [], .sv (lb (clash L b.text b.scopes))⟩
def lc_sClashLa (L : List Binding) (b : Binding) : Lp Nat := .mk 26 0 (fun x => [(3, SV.one (AC.ptr 0 0)), (7, ll (List.map bindingC L)), (8, li (↑(List.map bindingC L).length :
 Int)), (9, hs x 0)]) (fun x => [Ob.box (vals (bindingF b))]) (fun k => [.s (li (↑k : Int))]) (fun k => k ≤ L.length ∧ L.length ≤ 9223372036854775807 ∧ clash (List.take k L) b.text
 b.scopes = false) (fun k => L.length - k) [.mk (clash L b.text b.scopes = false) (.exit 0) (fun x => []) (fun x => []) [], .mk (clash L b.text b.scopes = true) .ret (fun x => [(4,
 hs x 0)]) (fun x => []) [.s (lb true)]]
theorem Sc_sClashLa (L : List Binding) (b : Binding) : Lp.Sem Tryz.prog (loopAt Tryz.f179 0) (lc_sClashLa L b) := lpOK (fun k => .i ((↑k : Int) < (↑(List.map bindingC L).length :
 Int)) (.x (↑k : Int) (List.map bindingC L) (bindingF (L.getD k default)) (.i ((L.getD k default).text.data.toList = b.text.data.toList) (.c [.rd, .rd] (c_sSameInts (L.getD k
 default).scopes b.scopes) (.i ((L.getD k default).scopes = b.scopes) (.o 1 [] [.s (lb true)]) (.r ((↑k : Int) + 1) (.g [0] (k + 1) [.s (li ((↑k : Int) + 1))])))) (.y false (.r
 ((↑k : Int) + 1) (.g [0] (k + 1) [.s (li ((↑k : Int) + 1))]))))) (.o 0 [] [])) (by
  intro k h; try dsimp only [teasy, nthW, lc_sClashLa] at h ⊢
  with_reducible repeat' (first | apply And.intro | exact zR | (intro; skip) | apply mIc | apply mOc | apply mSc | apply mLc)
  all_goals (try simp only [std, inj] at *)
  all_goals with_reducible repeat' apply And.intro
  all_goals (try (first | exact z | exact zM | grind [take_get, clash, clB, getD_mem', bytes_ext, snocI, snocS, rowSnoc])))
theorem c_sClash (L : List Binding) (b : Binding)  : P_c_sClash L b := fnOK Tryz.call179 Tryz.func179 (.z bindingC L (.l (lc_sClashLa L b) (Sc_sClashLa L b) [0] [.s (li 0)] 0 (.t (.s
 (lb false)) (.t (.s (lb true)) .q)))) (by
  dsimp only [teasy, P_c_sClash, nthW, lc_sClashLa]
  with_reducible repeat' (first | apply And.intro | exact zR | (intro; skip) | apply mIc | apply mOc | apply mSc | apply mLc)
  all_goals (try simp only [std, inj] at *)
  all_goals with_reducible repeat' apply And.intro
  all_goals (try (first | exact z | exact zM | grind [clash, snocI, snocS, rowSnoc])))
abbrev P_c_iClash (L : List Binding) (t : ByteArray) (s : List Int) : Ct := ⟨150, [], [ll (L.map bindingC), ls t, ll (s.map intC)], [], .sv (lb (clash L t s))⟩
def lc_iClashLa (L : List Binding) (t : ByteArray) (s : List Int) : Lp Nat := .mk 26 0 (fun x => [(1, ls t), (2, ll (List.map intC s)), (9, ll (List.map bindingC L)), (10, li
 (↑(List.map bindingC L).length : Int)), (11, hs x 0)]) (fun x => []) (fun k => [.s (li (↑k : Int))]) (fun k => k ≤ L.length ∧ L.length ≤ 9223372036854775807 ∧ clash (List.take k
 L) t s = false) (fun k => L.length - k) [.mk (clash L t s = false) (.exit 0) (fun x => []) (fun x => []) [], .mk (clash L t s = true) .ret (fun x => [(6, hs x 0)]) (fun x => [])
 [.s (lb true)]]
theorem Sc_iClashLa (L : List Binding) (t : ByteArray) (s : List Int) : Lp.Sem Tryz.prog (loopAt Tryz.f150 0) (lc_iClashLa L t s) := lpOK (fun k => .i ((↑k : Int) < (↑(List.map
 bindingC L).length : Int)) (.x (↑k : Int) (List.map bindingC L) (bindingF (L.getD k default)) (.i ((L.getD k default).text.data.toList = t.data.toList) (.c [.rd, .rd] (c_iSameInts
 (L.getD k default).scopes s) (.i ((L.getD k default).scopes = s) (.o 1 [] [.s (lb true)]) (.r ((↑k : Int) + 1) (.g [] (k + 1) [.s (li ((↑k : Int) + 1))])))) (.y false (.r ((↑k :
 Int) + 1) (.g [] (k + 1) [.s (li ((↑k : Int) + 1))]))))) (.o 0 [] [])) (by
  intro k h; try dsimp only [teasy, nthW, lc_iClashLa] at h ⊢
  with_reducible repeat' (first | apply And.intro | exact zR | (intro; skip) | apply mIc | apply mOc | apply mSc | apply mLc)
  all_goals (try simp only [std, inj] at *)
  all_goals with_reducible repeat' apply And.intro
  all_goals (try (first | exact z | exact zM | grind [take_get, clash, clB, getD_mem', bytes_ext, snocI, snocS, rowSnoc])))
theorem c_iClash (L : List Binding) (t : ByteArray) (s : List Int)  : P_c_iClash L t s := fnOK Tryz.call150 Tryz.func150 (.z bindingC L (.l (lc_iClashLa L t s) (Sc_iClashLa L t s) []
 [.s (li 0)] 0 (.t (.s (lb false)) (.t (.s (lb true)) .q)))) (by
  dsimp only [teasy, P_c_iClash, nthW, lc_iClashLa]
  with_reducible repeat' (first | apply And.intro | exact zR | (intro; skip) | apply mIc | apply mOc | apply mSc | apply mLc)
  all_goals (try simp only [std, inj] at *)
  all_goals with_reducible repeat' apply And.intro
  all_goals (try (first | exact z | exact zM | grind [clash, snocI, snocS, rowSnoc])))
def areTo (L : List Binding) : Nat → Bool
  | 0 => true
  | k + 1 => areTo L k && (isBnd (L.getD k default) && !clash (L.take k) (L.getD k default).text (L.getD k default).scopes)
theorem areTo_le (L : List Binding) : ∀ (m k : Nat), k ≤ m → areTo L m = true → areTo L k = true
  | 0, k, h, _ => by
    obtain rfl : k = 0 := by omega
    rfl
  | m + 1, k, h, ht => by
    by_cases e : k = m + 1
    · rw [e]; exact ht
    · refine areTo_le L m k (by omega) ?_
      simp only [areTo, Bool.and_eq_true] at ht; exact ht.1
def areB (L : List Binding) : Bool := areTo L L.length && decide ((L.length : Int) ≤ 1000)
abbrev P_c_sAre (L : List Binding) : Ct := ⟨104, [], [ll (L.map bindingC)], [], .sv (lb (areB L))⟩
def lc_sAreLa (L : List Binding) : Lp Nat := .mk 26 0 (fun x => [(0, ll (List.map bindingC L)), (5, ll (List.map bindingC L)), (6, li (↑(List.map bindingC L).length : Int)), (7, hs
 x 0)]) (fun x => []) (fun k => [.s (li (↑k : Int))]) (fun k => k ≤ L.length ∧ L.length ≤ 9223372036854775807 ∧ areTo L k = true) (fun k => L.length - k) [.mk (areTo L L.length =
 true) (.exit 0) (fun x => [(0, ll (List.map bindingC L))]) (fun x => []) [], .mk (areTo L L.length = false) .ret (fun x => [(2, hs x 0)]) (fun x => []) [.s (lb false)]]
theorem Sc_sAreLa (L : List Binding) : Lp.Sem Tryz.prog (loopAt Tryz.f104 0) (lc_sAreLa L) := lpOK (fun k => .i ((↑k : Int) < (↑(List.map bindingC L).length : Int)) (.x (↑k : Int)
 (List.map bindingC L) (bindingF (L.getD k default)) (.w (.draw []) (.c [.rd] (c_sIsBnd (L.getD k default)) (.b (!isBnd (L.getD k default)) (.y true (.o 1 [] [.s (lb false)])) (.p
 (0 ≤ (↑k : Int)) (.p (0 ≤ (↑k : Int).toNat ∧ (↑k : Int).toNat ≤ (List.map bindingC L).length ∧ ∀ (e : List Cell), e ∈ List.map bindingC L → e.length = 4) (.u [.rd, .rd]
 (P_c_sClash (List.take ((↑k : Int).toNat - 0) (List.drop 0 L)) (L.getD k default)) (.p (CallOK Tryz.prog 179 [] [ll (List.take ((↑k : Int).toNat - 0) (List.drop 0 (List.map
 bindingC L))), SV.agg (vals (bindingF (L.getD k default)))] [] (AV.sv (lb (clash (List.take ((↑k : Int).toNat - 0) (List.drop 0 L)) (L.getD k default).text (L.getD k
 default).scopes)))) (.b (clash (List.take ((↑k : Int).toNat - 0) (List.drop 0 L)) (L.getD k default).text (L.getD k default).scopes) (.o 1 [] [.s (lb false)]) (.r ((↑k : Int) + 1)
 (.g [] (k + 1) [.s (li ((↑k : Int) + 1))]))))))))))) (.o 0 [] [])) (by
  intro k h; try dsimp only [teasy, nthW, lc_sAreLa] at h ⊢
  have g1 := areTo_le L L.length (k + 1)
  have g2 : areTo L (k + 1) = (areTo L k && (isBnd (L.getD k default) && !clash (L.take k) (L.getD k default).text (L.getD k default).scopes)) := rfl
  with_reducible repeat' (first | apply And.intro | exact zR | (intro; skip) | apply mIc | apply mOc | apply mSc | apply mLc | apply c_sIsBnd | apply c_sClash)
  all_goals (try simp only [std, inj] at *)
  all_goals with_reducible repeat' apply And.intro
  all_goals (try (first | with_reducible apply c_sIsBnd | with_reducible apply c_sClash | (simp only [← List.map_append]; first | with_reducible apply c_sIsBnd | with_reducible apply c_sClash)))
  all_goals (try (first | exact z | exact zM | grind [getD_mem', snocI, snocS, rowSnoc])))
theorem c_sAre (L : List Binding)  : P_c_sAre L := fnOK Tryz.call104 Tryz.func104 (.z bindingC L (.l (lc_sAreLa L) (Sc_sAreLa L) [] [.s (li 0)] 0 (.t (.z bindingC L (.s (lb (decide
 ((↑(List.map bindingC L).length : Int) ≤ 1000))))) (.t (.s (lb false)) .q)))) (by
  dsimp only [teasy, P_c_sAre, nthW, lc_sAreLa]
  with_reducible repeat' (first | apply And.intro | exact zR | (intro; skip) | apply mIc | apply mOc | apply mSc | apply mLc)
  all_goals (try simp only [std, inj] at *)
  all_goals with_reducible repeat' apply And.intro
  all_goals (try (first | exact z | exact zM | grind [areB, areTo, snocI, snocS, rowSnoc])))
def plc (L : List Binding) : Nat → ByteArray → List Int
  | 0, _ => []
  | k + 1, s => if s = (L.getD k default).text then plc L k s ++ [(k : Int)] else plc L k s
theorem plc_upd {L : List Binding} {k : Nat} : upd1 (plc L k) (L.getD k default).text (plc L k (L.getD k default).text ++ [(k : Int)]) = plc L (k + 1) := by
  funext s; simp only [upd1, plc]; split
  · rename_i h; rw [h]
  · rfl
theorem plc_zero {L : List Binding} : zL = plc L 0 := rfl
theorem plc_len (L : List Binding) (s : ByteArray) : ∀ k, (plc L k s).length ≤ k
  | 0 => Nat.le_refl _
  | k + 1 => by
    have := plc_len L s k
    simp only [plc]; split
    · simp; omega
    · omega
theorem plc_mem (L : List Binding) (s : ByteArray) : ∀ k (i : Int), i ∈ plc L k s ↔ (0 ≤ i ∧ i < k ∧ (L.getD i.toNat default).text = s)
  | 0, i => by simp [plc]; omega
  | k + 1, i => by
    have ih := plc_mem L s k i
    simp only [plc]; split
    · rename_i h
      rw [List.mem_append, ih, List.mem_singleton]
      constructor
      · rintro (⟨a, b, c⟩ | rfl)
        · exact ⟨a, by omega, c⟩
        · exact ⟨by omega, by omega, by rw [Int.toNat_natCast]; exact h.symm⟩
      · rintro ⟨a, b, c⟩
        by_cases e : i = k
        · exact .inr e
        · exact .inl ⟨a, by omega, c⟩
    · rename_i h
      rw [ih]
      constructor
      · rintro ⟨a, b, c⟩; exact ⟨a, by omega, c⟩
      · rintro ⟨a, b, c⟩
        refine ⟨a, ?_, c⟩
        by_cases e : i = k
        · subst e; rw [Int.toNat_natCast] at c; exact absurd c.symm h
        · omega
def plOK (L : List Binding) (s : List Int) (P : List Int) : Bool := P.all fun i => !decide ((L.getD i.toNat default).scopes = s)
theorem plOK_clash {L : List Binding} {k : Nat} {t : ByteArray} {s : List Int} (hk : k ≤ L.length) : plOK L s (plc L k t) = !clash (L.take k) t s := by
  rw [Bool.eq_iff_iff]
  simp only [plOK, clash, clB, List.all_eq_true, Bool.not_eq_true', decide_eq_false_iff_not, List.any_eq_false, Bool.and_eq_true, decide_eq_true_eq, not_and]
  constructor
  · intro h x hx e
    obtain ⟨j, hj, rfl⟩ := List.getElem_of_mem hx
    rw [List.length_take] at hj
    have e2 : (L.take k)[j]'(by rw [List.length_take]; exact hj) = L.getD j default := by simp [show j < L.length by omega]
    rw [e2] at e ⊢
    have := h (j : Int) ((plc_mem L t k j).2 ⟨by omega, by omega, by rw [Int.toNat_natCast]; exact e⟩)
    rwa [Int.toNat_natCast] at this
  · intro h i hi
    obtain ⟨a, b, c⟩ := (plc_mem L t k i).1 hi
    refine h _ ?_ c
    have e : L.getD i.toNat default = (L.take k)[i.toNat]'(by rw [List.length_take]; omega) := by simp [show i.toNat < L.length by omega]
    rw [e]; exact List.getElem_mem _
theorem plOK_at {L : List Binding} {s : List Int} {P : List Int} {j : Nat} (h : j < P.length) (e : (L.getD (P.getD j default).toNat default).scopes = s) : plOK L s P = false := by
  unfold plOK; rw [List.all_eq_false]; exact ⟨_, getD_mem' h, by rw [decide_eq_true e]; decide⟩
theorem plOK_step {L : List Binding} {s : List Int} {P : List Int} {j : Nat} (h : j < P.length) (h0 : plOK L s (P.take j) = true) (e : (L.getD (P.getD j default).toNat default).scopes ≠ s) : plOK L s (P.take (j + 1)) = true := by
  unfold plOK at *; rw [take_get h, List.all_append, h0]; simpa using e
abbrev P_c_iAre (L : List Binding) : Ct := ⟨108, [], [ll (L.map bindingC)], [], .sv (lb (areB L))⟩
def lc_iAreLb (L : List Binding) (k : Nat) : Lp Nat := .mk 51 0 (fun x => [(0, ll (List.map bindingC L)), (3, SV.one (AC.mref 0)), (4, li (↑k : Int)), (5, SV.one (AC.ptr 1 0)),
 (12, ll (List.map bindingC L)), (13, li (↑(List.map bindingC L).length : Int)), (14, li (↑k : Int)), (25, SV.one (AC.bor 0 (Cell.list (List.map intC (plc L k (L.getD k
 default).text))))), (26, li (↑(List.map intC (plc L k (L.getD k default).text)).length : Int)), (27, hs x 0)]) (fun x => [Ob.map false kL (mL (plc L k)), Ob.box (vals (bindingF
 (L.getD k default)))]) (fun k1 => [.s (li (↑k1 : Int))]) (fun k1 => k1 ≤ (plc L k (L.getD k default).text).length ∧ (plc L k (L.getD k default).text).length ≤ 9223372036854775807
 ∧ k < L.length ∧ areTo L k = true ∧ isBnd (L.getD k default) = true ∧ plOK L (L.getD k default).scopes (List.take k1 (plc L k (L.getD k default).text)) = true) (fun k1 => (plc L k
 (L.getD k default).text).length - k1) [.mk (areTo L (k + 1) = true) (.exit 2) (fun x => [(0, ll (List.map bindingC L)), (3, SV.one (AC.mref 0)), (4, li (↑k : Int)), (5, SV.one
 (AC.ptr 1 0)), (12, ll (List.map bindingC L)), (13, li (↑(List.map bindingC L).length : Int)), (14, li (↑k : Int))]) (fun x => [Ob.map false kL (mL (plc L k)), Ob.box (vals
 (bindingF (L.getD k default)))]) [], .mk (areTo L L.length = false) .ret (fun x => [(2, hs x 0)]) (fun x => []) [.s (lb false)]]
def lc_iAreLa (L : List Binding) : Lp Nat := .mk 51 0 (fun x => [(0, ll (List.map bindingC L)), (3, SV.one (AC.mref 0)), (12, ll (List.map bindingC L)), (13, li (↑(List.map
 bindingC L).length : Int)), (14, hs x 0)]) (fun x => [ho x 1]) (fun k => [.s (li (↑k : Int)), .o (Ob.map false kL (mL (plc L k)))]) (fun k => k ≤ L.length ∧ L.length ≤
 9223372036854775807 ∧ L.length ≤ 1000 ∧ areTo L k = true) (fun k => L.length - k) [.mk (areTo L L.length = true) (.exit 0) (fun x => []) (fun x => []) [], .mk (areTo L L.length =
 false) .ret (fun x => [(2, hs x 0)]) (fun x => []) [.s (lb false)]]
theorem Sc_iAreLb (L : List Binding) (k : Nat) : Lp.Sem Tryz.prog (loopAt Tryz.f108 1) (lc_iAreLb L k) := lpOK (fun k1 => .i ((↑k1 : Int) < (↑(List.map intC (plc L k (L.getD k
 default).text)).length : Int)) (.x (↑k1 : Int) (List.map intC (plc L k (L.getD k default).text)) [cI ((plc L k (L.getD k default).text).getD k1 0)] (.w (.draw []) (.x ((plc L k
 (L.getD k default).text).getD k1 0) (List.map bindingC L) (bindingF (L.getD ((plc L k (L.getD k default).text).getD k1 0).toNat default)) (.c [.rd, .rd] (c_iSameInts (L.getD ((plc
 L k (L.getD k default).text).getD k1 0).toNat default).scopes (L.getD k default).scopes) (.i ((L.getD ((plc L k (L.getD k default).text).getD k1 0).toNat default).scopes = (L.getD
 k default).scopes) (.o 1 [] [.s (lb false)]) (.r ((↑k1 : Int) + 1) (.g [0, 1] (k1 + 1) [.s (li ((↑k1 : Int) + 1))]))))))) (.o 0 [0, 1] [])) (by
  intro k1 h; try dsimp only [teasy, nthW, lc_iAreLb] at h ⊢
  have g1 := areTo_le L L.length (k + 1)
  have g2 : areTo L (k + 1) = (areTo L k && (isBnd (L.getD k default) && !clash (L.take k) (L.getD k default).text (L.getD k default).scopes)) := rfl
  have g3 := @plOK_clash L k (L.getD k default).text (L.getD k default).scopes
  have g4 := @plOK_at L (L.getD k default).scopes (plc L k (L.getD k default).text) k1
  have g5 := @plOK_step L (L.getD k default).scopes (plc L k (L.getD k default).text) k1
  have g6 := plc_mem L (L.getD k default).text k ((plc L k (L.getD k default).text).getD k1 default)
  have g7 : ∀ j, (plc L k (L.getD k default).text).length ≤ j → (plc L k (L.getD k default).text).take j = plc L k (L.getD k default).text := fun j h => List.take_of_length_le h
  with_reducible repeat' (first | apply And.intro | exact zR | (intro; skip) | apply mIc | apply mOc | apply mSc | apply mLc)
  all_goals (try simp only [std, inj] at *)
  all_goals with_reducible repeat' apply And.intro
  all_goals (try (first | exact z | exact zM | grind [getD_mem', snocI, snocS, rowSnoc])))
theorem Sc_iAreLa (L : List Binding) : Lp.Sem Tryz.prog (loopAt Tryz.f108 0) (lc_iAreLa L) := lpOK (fun k => .i ((↑k : Int) < (↑(List.map bindingC L).length : Int)) (.x (↑k : Int)
 (List.map bindingC L) (bindingF (L.getD k default)) (.c [.rd] (c_iIsBnd (L.getD k default)) (.b (!isBnd (L.getD k default)) (.o 1 [] [.s (lb false)]) (.w (.cells [Cell.list
 (List.map intC (plc L k (L.getD k default).text))]) (.p (LookAt (Value.slice none 0 0) (mL (plc L k)) (Value.string (L.getD k default).text) (Cell.list (List.map intC (plc L k
 (L.getD k default).text)))) (.z intC (plc L k (L.getD k default).text) (.l (lc_iAreLb L k) (Sc_iAreLb L k) [0, 1] [.s (li 0)] 0 (.t (.w (.draw [(6, [0]), (9, [2, 3]), (10, [4,
 0])]) (.w (.taken (List.map intC (plc L k (L.getD k default).text)) 1 (mLt (plc L k) (L.getD k default).text)) (.p (LookAt (Value.slice none 0 0) (mL (plc L k)) (Value.string
 (L.getD k default).text) (Cell.list (List.map intC (plc L k (L.getD k default).text)))) (.p (UpdF kL.d (mL (plc L k)) (mLt (plc L k) (L.getD k default).text) (Value.string (L.getD
 k default).text) (some Cell.any)) (.p (some (Value.slice none 0 0) = some (Value.slice none 0 0)) (.p (∀ (x : List Cell), x ∈ List.map intC (plc L k (L.getD k default).text) →
 x.length = 1) (.p (((List.map intC (plc L k (L.getD k default).text)).length + 1) * 8 ≤ 140737488355328) (.w (.upd (mL (upd1 (plc L k) (L.getD k default).text (plc L k (L.getD k
 default).text ++ [(↑k : Int)])))) (.p (false = false) (.p (UpdF kL.d (mLt (plc L k) (L.getD k default).text) (mL (upd1 (plc L k) (L.getD k default).text (plc L k (L.getD k
 default).text ++ [(↑k : Int)]))) (Value.string (L.getD k default).text) (some (Cell.list (List.map intC (plc L k (L.getD k default).text) ++ [[cI (↑k : Int)]])))) (.r ((↑k : Int)
 + 1) (.g [0] (k + 1) [.s (li ((↑k : Int) + 1)), .o (Ob.map false kL (mL (upd1 (plc L k) (L.getD k default).text (plc L k (L.getD k default).text ++ [(↑k : Int)]))))]))))))))))))
 (.t (.o 1 [] [.s (lb false)]) .q))))))))) (.o 0 [] [])) (by
  intro k h; try dsimp only [teasy, nthW, lc_iAreLa, lc_iAreLb] at h ⊢
  have g1 := areTo_le L L.length (k + 1)
  have g2 : areTo L (k + 1) = (areTo L k && (isBnd (L.getD k default) && !clash (L.take k) (L.getD k default).text (L.getD k default).scopes)) := rfl
  have g3 := plc_len L (L.getD k default).text k
  have g4 := @plc_upd L k
  have g5 : plOK L (L.getD k default).scopes ((plc L k (L.getD k default).text).take 0) = true := rfl
  with_reducible repeat' (first | apply And.intro | exact zR | (intro; skip) | apply mIc | apply mOc | apply mSc | apply mLc)
  all_goals (try simp only [std, inj] at *)
  all_goals with_reducible repeat' apply And.intro
  all_goals (try (first | exact z | exact zM | grind [getD_mem', snocI, snocS, rowSnoc]))
  all_goals (try (exact upd_mL (by simp [intC]))))
theorem c_iAre (L : List Binding)  : P_c_iAre L := fnOK Tryz.call108 Tryz.func108 (.z bindingC L (.i (1000 < (↑(List.map bindingC L).length : Int)) (.s (lb false)) (.w (.mkmap kL)
 (.z bindingC L (.l (lc_iAreLa L) (Sc_iAreLa L) [0] [.s (li 0), .o (Ob.map false kL (mL zL))] 0 (.t (.s (lb true)) (.t (.s (lb false)) .q))))))) (by
  dsimp only [teasy, P_c_iAre, nthW, lc_iAreLa]
  with_reducible repeat' (first | apply And.intro | exact zR | (intro; skip) | apply mIc | apply mOc | apply mSc | apply mLc)
  all_goals (try simp only [std, inj] at *)
  all_goals with_reducible repeat' apply And.intro
  all_goals (try (first | exact z | exact zM | grind [areB, areTo, plc_zero, snocI, snocS, rowSnoc])))
mutual
/-- is no scope greater than a number? -/
def blw (n : Int) : Syntax → Bool
  | ⟨_, _, _, s, l⟩ => s.all (fun x => decide (x ≤ n)) && blws n l
def blws (n : Int) : List Syntax → Bool
  | [] => true
  | x :: r => blw n x && blws n r
end
theorem blws_eq (n : Int) : ∀ l, blws n l = l.all (blw n)
  | [] => by simp [blws]
  | x :: r => by rw [blws, blws_eq n r]; rfl
def scB (n : Int) (L : List Int) : Bool := L.all fun x => decide (x ≤ n)
theorem blw_eq (n : Int) (s : Syntax) : blw n s = (scB n s.scopes && s.items.all (blw n)) := by cases s; simp only [blw, blws_eq, scB]
theorem scB_stop {n : Int} {L : List Int} {k : Nat} (h : k < L.length) (e : n < L.getD k 0) : scB n L = false := by
  unfold scB; rw [List.all_eq_false]; exact ⟨L.getD k 0, getD_mem' h, by rw [decide_eq_false (by omega)]; decide⟩
abbrev P_c_sBelow (s : Syntax) (n : Int) : Ct := ⟨117, [], [syntaxA s, li n], [], .sv (lb (blw n s))⟩
def lc_sBelow_sLb (s : Syntax) (n : Int) : Lp Nat := .mk 32 0 (fun x => [(1, li n), (21, ll (List.map syntaxC s.items)), (22, li (↑(List.map syntaxC s.items).length : Int)), (23,
 hs x 0)]) (fun x => []) (fun k => [.s (li (↑k : Int))]) (fun k => k ≤ s.items.length ∧ s.items.length ≤ 9223372036854775807 ∧ (List.take k s.items).all (blw n) = true) (fun k =>
 s.items.length - k) [.mk (s.items.all (blw n) = true) (.exit 2) (fun x => []) (fun x => []) [], .mk (s.items.all (blw n) = false) .ret (fun x => [(4, hs x 0)]) (fun x => []) [.s
 (lb false)]]
def lc_sBelow_sLa (s : Syntax) (n : Int) : Lp Nat := .mk 32 0 (fun x => [(1, li n), (2, SV.one (AC.ptr 0 0)), (10, ll (List.map intC s.scopes)), (11, li (↑(List.map intC
 s.scopes).length : Int)), (12, hs x 0)]) (fun x => [Ob.box (vals (syntaxF s))]) (fun k => [.s (li (↑k : Int))]) (fun k => k ≤ s.scopes.length ∧ s.scopes.length ≤
 9223372036854775807 ∧ scB n (List.take k s.scopes) = true) (fun k => s.scopes.length - k) [.mk (scB n s.scopes = true) (.exit 0) (fun x => [(1, li n), (2, SV.one (AC.ptr 0 0))])
 (fun x => [Ob.box (vals (syntaxF s))]) [], .mk (blw n s = false) .ret (fun x => [(4, hs x 0)]) (fun x => []) [.s (lb false)]]
theorem Sc_sBelow_sLb (s : Syntax) (n : Int) (ih : ∀ (z : Syntax), z ∈ s.items → ∀ (n : Int), OK (P_c_sBelow z n)) : Lp.Sem Tryz.prog (loopAt Tryz.f117 1) (lc_sBelow_sLb s n) :=
 lpOK (fun k => .i ((↑k : Int) < (↑(List.map syntaxC s.items).length : Int)) (.x (↑k : Int) (List.map syntaxC s.items) (syntaxF (s.items.getD k default)) (.d [.rd, .rd] (P_c_sBelow
 (s.items.getD k default) n) (.b (!blw n (s.items.getD k default)) (.o 1 [] [.s (lb false)]) (.r ((↑k : Int) + 1) (.g [] (k + 1) [.s (li ((↑k : Int) + 1))]))))) (.o 0 [] [])) (by
  intro k h; try dsimp only [teasy, nthW, lc_sBelow_sLb] at h ⊢
  with_reducible repeat' (first | apply And.intro | exact zR | exact ih | (intro; skip) | apply mIc | apply mOc | apply mSc | apply mLc | apply ih)
  all_goals (try simp only [std, inj] at *)
  all_goals with_reducible repeat' apply And.intro
  all_goals (try (first | with_reducible apply ih | (simp only [← List.map_append]; first | with_reducible apply ih)))
  all_goals (try (first | exact z | exact zM | grind [take_get, getD_mem', snocI, snocS, rowSnoc])))
theorem Sc_sBelow_sLa (s : Syntax) (n : Int) (ih : ∀ (z : Syntax), z ∈ s.items → ∀ (n : Int), OK (P_c_sBelow z n)) : Lp.Sem Tryz.prog (loopAt Tryz.f117 0) (lc_sBelow_sLa s n) :=
 lpOK (fun k => .i ((↑k : Int) < (↑(List.map intC s.scopes).length : Int)) (.x (↑k : Int) (List.map intC s.scopes) [cI (s.scopes.getD k 0)] (.i (n < s.scopes.getD k 0) (.o 1 [] [.s
 (lb false)]) (.r ((↑k : Int) + 1) (.g [0] (k + 1) [.s (li ((↑k : Int) + 1))])))) (.o 0 [0] [])) (by
  intro k h; try dsimp only [teasy, nthW, lc_sBelow_sLa] at h ⊢
  have g1 := blw_eq n s
  have g2 := @scB_stop n s.scopes k
  with_reducible repeat' (first | apply And.intro | exact zR | exact ih | (intro; skip) | apply mIc | apply mOc | apply mSc | apply mLc | apply ih)
  all_goals (try simp only [std, inj] at *)
  all_goals with_reducible repeat' apply And.intro
  all_goals (try (first | with_reducible apply ih | (simp only [← List.map_append]; first | with_reducible apply ih)))
  all_goals (try (first | exact z | exact zM | grind [take_get, getD_mem', scB, snocI, snocS, rowSnoc])))
theorem c_sBelow_s (s : Syntax) (n : Int) (ih : ∀ z ∈ s.items, ∀ (n : Int), P_c_sBelow z n)  : P_c_sBelow s n := fnOK Tryz.call117 Tryz.func117 (.z intC s.scopes (.l (lc_sBelow_sLa s
 n) (Sc_sBelow_sLa s n ih) [0] [.s (li 0)] 0 (.t (.z syntaxC s.items (.l (lc_sBelow_sLb s n) (Sc_sBelow_sLb s n ih) [] [.s (li 0)] 0 (.t (.s (lb true)) (.t (.s (lb false)) .q))))
 (.t (.s (lb false)) .q)))) (by
  dsimp only [teasy, P_c_sBelow, nthW, lc_sBelow_sLa, lc_sBelow_sLb]
  have g1 := blw_eq n s
  with_reducible repeat' (first | apply And.intro | exact zR | exact ih | (intro; skip) | apply mIc | apply mOc | apply mSc | apply mLc)
  all_goals (try simp only [std, inj] at *)
  all_goals with_reducible repeat' apply And.intro
  all_goals (try (first | with_reducible apply ih | (simp only [← List.map_append]; first | with_reducible apply ih)))
  all_goals (try (first | exact z | exact zM | grind [scB, snocI, snocS, rowSnoc])))
theorem c_sBelow (s : Syntax) : ∀ (n : Int), P_c_sBelow s n := Syntax.ind (P := fun s => ∀ (n : Int), P_c_sBelow s n) (fun s ih n => c_sBelow_s s n ih) s
abbrev P_c_iBelow (s : Syntax) (n : Int) : Ct := ⟨73, [], [syntaxA s, li n], [], .sv (lb (blw n s))⟩
def lc_iBelow_sLb (s : Syntax) (n : Int) : Lp Nat := .mk 32 0 (fun x => [(1, li n), (21, ll (List.map syntaxC s.items)), (22, li (↑(List.map syntaxC s.items).length : Int)), (23,
 hs x 0)]) (fun x => []) (fun k => [.s (li (↑k : Int))]) (fun k => k ≤ s.items.length ∧ s.items.length ≤ 9223372036854775807 ∧ (List.take k s.items).all (blw n) = true) (fun k =>
 s.items.length - k) [.mk (s.items.all (blw n) = true) (.exit 2) (fun x => []) (fun x => []) [], .mk (s.items.all (blw n) = false) .ret (fun x => [(4, hs x 0)]) (fun x => []) [.s
 (lb false)]]
def lc_iBelow_sLa (s : Syntax) (n : Int) : Lp Nat := .mk 32 0 (fun x => [(1, li n), (2, SV.one (AC.ptr 0 0)), (10, ll (List.map intC s.scopes)), (11, li (↑(List.map intC
 s.scopes).length : Int)), (12, hs x 0)]) (fun x => [Ob.box (vals (syntaxF s))]) (fun k => [.s (li (↑k : Int))]) (fun k => k ≤ s.scopes.length ∧ s.scopes.length ≤
 9223372036854775807 ∧ scB n (List.take k s.scopes) = true) (fun k => s.scopes.length - k) [.mk (scB n s.scopes = true) (.exit 0) (fun x => [(1, li n), (2, SV.one (AC.ptr 0 0))])
 (fun x => [Ob.box (vals (syntaxF s))]) [], .mk (blw n s = false) .ret (fun x => [(4, hs x 0)]) (fun x => []) [.s (lb false)]]
theorem Sc_iBelow_sLb (s : Syntax) (n : Int) (ih : ∀ (z : Syntax), z ∈ s.items → ∀ (n : Int), OK (P_c_iBelow z n)) : Lp.Sem Tryz.prog (loopAt Tryz.f73 1) (lc_iBelow_sLb s n) :=
 lpOK (fun k => .i ((↑k : Int) < (↑(List.map syntaxC s.items).length : Int)) (.x (↑k : Int) (List.map syntaxC s.items) (syntaxF (s.items.getD k default)) (.d [.rd, .rd] (P_c_iBelow
 (s.items.getD k default) n) (.b (!blw n (s.items.getD k default)) (.o 1 [] [.s (lb false)]) (.r ((↑k : Int) + 1) (.g [] (k + 1) [.s (li ((↑k : Int) + 1))]))))) (.o 0 [] [])) (by
  intro k h; try dsimp only [teasy, nthW, lc_iBelow_sLb] at h ⊢
  with_reducible repeat' (first | apply And.intro | exact zR | exact ih | (intro; skip) | apply mIc | apply mOc | apply mSc | apply mLc | apply ih)
  all_goals (try simp only [std, inj] at *)
  all_goals with_reducible repeat' apply And.intro
  all_goals (try (first | with_reducible apply ih | (simp only [← List.map_append]; first | with_reducible apply ih)))
  all_goals (try (first | exact z | exact zM | grind [take_get, getD_mem', snocI, snocS, rowSnoc])))
theorem Sc_iBelow_sLa (s : Syntax) (n : Int) (ih : ∀ (z : Syntax), z ∈ s.items → ∀ (n : Int), OK (P_c_iBelow z n)) : Lp.Sem Tryz.prog (loopAt Tryz.f73 0) (lc_iBelow_sLa s n) :=
 lpOK (fun k => .i ((↑k : Int) < (↑(List.map intC s.scopes).length : Int)) (.x (↑k : Int) (List.map intC s.scopes) [cI (s.scopes.getD k 0)] (.i (n < s.scopes.getD k 0) (.o 1 [] [.s
 (lb false)]) (.r ((↑k : Int) + 1) (.g [0] (k + 1) [.s (li ((↑k : Int) + 1))])))) (.o 0 [0] [])) (by
  intro k h; try dsimp only [teasy, nthW, lc_iBelow_sLa] at h ⊢
  have g1 := blw_eq n s
  have g2 := @scB_stop n s.scopes k
  with_reducible repeat' (first | apply And.intro | exact zR | exact ih | (intro; skip) | apply mIc | apply mOc | apply mSc | apply mLc | apply ih)
  all_goals (try simp only [std, inj] at *)
  all_goals with_reducible repeat' apply And.intro
  all_goals (try (first | with_reducible apply ih | (simp only [← List.map_append]; first | with_reducible apply ih)))
  all_goals (try (first | exact z | exact zM | grind [take_get, getD_mem', scB, snocI, snocS, rowSnoc])))
theorem c_iBelow_s (s : Syntax) (n : Int) (ih : ∀ z ∈ s.items, ∀ (n : Int), P_c_iBelow z n)  : P_c_iBelow s n := fnOK Tryz.call73 Tryz.func73 (.z intC s.scopes (.l (lc_iBelow_sLa s
 n) (Sc_iBelow_sLa s n ih) [0] [.s (li 0)] 0 (.t (.z syntaxC s.items (.l (lc_iBelow_sLb s n) (Sc_iBelow_sLb s n ih) [] [.s (li 0)] 0 (.t (.s (lb true)) (.t (.s (lb false)) .q))))
 (.t (.s (lb false)) .q)))) (by
  dsimp only [teasy, P_c_iBelow, nthW, lc_iBelow_sLa, lc_iBelow_sLb]
  have g1 := blw_eq n s
  with_reducible repeat' (first | apply And.intro | exact zR | exact ih | (intro; skip) | apply mIc | apply mOc | apply mSc | apply mLc)
  all_goals (try simp only [std, inj] at *)
  all_goals with_reducible repeat' apply And.intro
  all_goals (try (first | with_reducible apply ih | (simp only [← List.map_append]; first | with_reducible apply ih)))
  all_goals (try (first | exact z | exact zM | grind [scB, snocI, snocS, rowSnoc])))
theorem c_iBelow (s : Syntax) : ∀ (n : Int), P_c_iBelow s n := Syntax.ind (P := fun s => ∀ (n : Int), P_c_iBelow s n) (fun s ih n => c_iBelow_s s n ih) s
def ruL (r : Rules) : List (List Syntax) := [r.literals, r.patterns, r.templates]
def allB (n : Int) (L : List Syntax) : Bool := L.all (blw n)
def rulB (n : Int) (r : Rules) : Bool := (ruL r).all (allB n)
theorem rulB_eq (n : Int) (r : Rules) : rulB n r = (allB n r.literals && allB n r.patterns && allB n r.templates) := by
  simp only [rulB, ruL, List.all_cons, List.all_nil, Bool.and_true, Bool.and_assoc]
def lsynC (l : List Syntax) : List Cell := [.list (l.map syntaxC)]
def lsynF (l : List Syntax) : List Cell := [.list (l.map syntaxC)]
instance : Row (List Syntax) lsynC lsynF 1 := ⟨fun _ => rfl, fun _ => rfl⟩
theorem ruL_cells (r : Rules) : [[Cell.list (r.literals.map syntaxC)], [Cell.list (r.patterns.map syntaxC)], [Cell.list (r.templates.map syntaxC)]] = (ruL r).map lsynC := rfl
abbrev P_c_iAllB (L : List Syntax) (n : Int) : Ct := ⟨149, [], [ll (L.map syntaxC), li n], [], .sv (lb (allB n L))⟩
def lc_iAllBLa (L : List Syntax) (n : Int) : Lp Nat := .mk 18 0 (fun x => [(1, li n), (7, ll (List.map syntaxC L)), (8, li (↑(List.map syntaxC L).length : Int)), (9, hs x 0)]) (fun
 x => []) (fun k => [.s (li (↑k : Int))]) (fun k => k ≤ L.length ∧ L.length ≤ 9223372036854775807 ∧ (List.take k L).all (blw n) = true) (fun k => L.length - k) [.mk (allB n L =
 true) (.exit 0) (fun x => []) (fun x => []) [], .mk (allB n L = false) .ret (fun x => [(4, hs x 0)]) (fun x => []) [.s (lb false)]]
theorem Sc_iAllBLa (L : List Syntax) (n : Int) : Lp.Sem Tryz.prog (loopAt Tryz.f149 0) (lc_iAllBLa L n) := lpOK (fun k => .i ((↑k : Int) < (↑(List.map syntaxC L).length : Int)) (.x
 (↑k : Int) (List.map syntaxC L) (syntaxF (L.getD k default)) (.c [.rd, .rd] (c_iBelow (L.getD k default) n) (.b (!blw n (L.getD k default)) (.o 1 [] [.s (lb false)]) (.r ((↑k :
 Int) + 1) (.g [] (k + 1) [.s (li ((↑k : Int) + 1))]))))) (.o 0 [] [])) (by
  intro k h; try dsimp only [teasy, nthW, lc_iAllBLa] at h ⊢
  with_reducible repeat' (first | apply And.intro | exact zR | (intro; skip) | apply mIc | apply mOc | apply mSc | apply mLc)
  all_goals (try simp only [std, inj] at *)
  all_goals with_reducible repeat' apply And.intro
  all_goals (try (first | exact z | exact zM | grind [take_get, getD_mem', allB, snocI, snocS, rowSnoc])))
theorem c_iAllB (L : List Syntax) (n : Int)  : P_c_iAllB L n := fnOK Tryz.call149 Tryz.func149 (.z syntaxC L (.l (lc_iAllBLa L n) (Sc_iAllBLa L n) [] [.s (li 0)] 0 (.t (.s (lb true))
 (.t (.s (lb false)) .q)))) (by
  dsimp only [teasy, P_c_iAllB, nthW, lc_iAllBLa]
  with_reducible repeat' (first | apply And.intro | exact zR | (intro; skip) | apply mIc | apply mOc | apply mSc | apply mLc)
  all_goals (try simp only [std, inj] at *)
  all_goals with_reducible repeat' apply And.intro
  all_goals (try (first | exact z | exact zM | grind [allB, snocI, snocS, rowSnoc])))
abbrev P_c_iRulB (r : Rules) (n : Int) : Ct := ⟨75, [], [rulesA r, li n], [], .sv (lb (rulB n r))⟩
theorem c_iRulB (r : Rules) (n : Int)  : P_c_iRulB r n := fnOK Tryz.call75 Tryz.func75 (.c [.rd, .rd] (c_iAllB r.literals n) (.b (allB n r.literals) (.c [.rd, .rd] (c_iAllB
 r.patterns n) (.b (allB n r.patterns) (.c [.rd, .rd] (c_iAllB r.templates n) (.s (lb (allB n r.templates)))) (.s (lb false)))) (.y false (.s (lb false))))) (by
  dsimp only [teasy, P_c_iRulB]
  have g1 := rulB_eq n r
  with_reducible repeat' (first | apply And.intro | exact zR | (intro; skip) | apply mIc | apply mOc | apply mSc | apply mLc)
  all_goals (try simp only [std, inj] at *)
  all_goals with_reducible repeat' apply And.intro
  all_goals (try (first | exact z | exact zM | grind [snocI, snocS, rowSnoc])))
abbrev P_c_sRulB (r : Rules) (n : Int) : Ct := ⟨64, [], [rulesA r, li n], [], .sv (lb (rulB n r))⟩
def lc_sRulBLb (r : Rules) (n : Int) (k : Nat) : Lp Nat := .mk 33 0 (fun x => [(1, li n), (15, SV.one (AC.ref 0)), (16, li 3), (17, li (↑k : Int)), (21, ll (List.map syntaxC ((ruL
 r).getD (↑k : Int).toNat []))), (22, li (↑(List.map syntaxC ((ruL r).getD (↑k : Int).toNat [])).length : Int)), (23, hs x 0)]) (fun x => [Ob.arr false 1 (List.map lsynC (ruL r))])
 (fun k1 => [.s (li (↑k1 : Int))]) (fun k1 => k1 ≤ ((ruL r).getD k []).length ∧ ((ruL r).getD k []).length ≤ 9223372036854775807 ∧ k < 3 ∧ (List.take k1 ((ruL r).getD k [])).all
 (blw n) = true) (fun k1 => ((ruL r).getD k []).length - k1) [.mk (allB n ((ruL r).getD k []) = true) (.exit 2) (fun x => [(1, li n), (15, SV.one (AC.ref 0)), (16, li 3), (17, li
 (↑k : Int))]) (fun x => [Ob.arr false 1 (List.map lsynC (ruL r))]) [], .mk (rulB n r = false) .ret (fun x => [(4, hs x 0)]) (fun x => []) [.s (lb false)]]
def lc_sRulBLa (r : Rules) (n : Int) : Lp Nat := .mk 33 0 (fun x => [(1, li n), (15, SV.one (AC.ref 0)), (16, li 3), (17, hs x 0)]) (fun x => [ho x 1]) (fun k => [.s (li (↑k :
 Int)), .o (Ob.arr false 1 (List.map lsynC (ruL r)))]) (fun k => k ≤ 3 ∧ (List.take k (ruL r)).all (allB n) = true) (fun k => 3 - k) [.mk (rulB n r = true) (.exit 0) (fun x => [])
 (fun x => []) [], .mk (rulB n r = false) .ret (fun x => [(4, hs x 0)]) (fun x => []) [.s (lb false)]]
theorem Sc_sRulBLb (r : Rules) (n : Int) (k : Nat) : Lp.Sem Tryz.prog (loopAt Tryz.f64 1) (lc_sRulBLb r n k) := lpOK (fun k1 => .i ((↑k1 : Int) < (↑(List.map syntaxC ((ruL r).getD
 (↑k : Int).toNat [])).length : Int)) (.x (↑k1 : Int) (List.map syntaxC ((ruL r).getD (↑k : Int).toNat [])) (syntaxF (((ruL r).getD (↑k : Int).toNat []).getD k1 default)) (.c [.rd,
 .rd] (c_sBelow (((ruL r).getD (↑k : Int).toNat []).getD k1 default) n) (.b (!blw n (((ruL r).getD (↑k : Int).toNat []).getD k1 default)) (.o 1 [] [.s (lb false)]) (.r ((↑k1 : Int)
 + 1) (.g [0] (k1 + 1) [.s (li ((↑k1 : Int) + 1))]))))) (.o 0 [0] [])) (by
  intro k1 h; try dsimp only [teasy, nthW, lc_sRulBLb] at h ⊢
  have e : (ruL r).length = 3 := rfl
  have g1 := @take_get _ _ ((ruL r).getD k []) k1
  have g2 : (ruL r).getD k default = (ruL r).getD k [] := rfl
  have g3 : k < (ruL r).length → (ruL r).getD k [] ∈ ruL r := fun h => getD_mem' h
  with_reducible repeat' (first | apply And.intro | exact zR | (intro; skip) | apply mIc | apply mOc | apply mSc | apply mLc)
  all_goals (try simp only [std, inj] at *)
  all_goals with_reducible repeat' apply And.intro
  all_goals (try (first | exact z | exact zM | grind [ruL_cells, rulB, allB, getD_mem', snocI, snocS, rowSnoc])))
theorem Sc_sRulBLa (r : Rules) (n : Int) : Lp.Sem Tryz.prog (loopAt Tryz.f64 0) (lc_sRulBLa r n) := lpOK (fun k => .i ((↑k : Int) < 3) (.p (0 ≤ (↑k : Int) ∧ (↑k : Int).toNat < 3)
 (.w (.cells (lsynF ((ruL r).getD (↑k : Int).toNat default))) (.p ((List.map lsynC (ruL r))[(↑k : Int).toNat]? = some [Cell.list (List.map syntaxC ((ruL r).getD (↑k : Int).toNat
 []))]) (.z syntaxC ((ruL r).getD (↑k : Int).toNat []) (.l (lc_sRulBLb r n k) (Sc_sRulBLb r n k) [0] [.s (li 0)] 0 (.t (.r ((↑k : Int) + 1) (.g [0] (k + 1) [.s (li ((↑k : Int) +
 1)), .o (Ob.arr false 1 (List.map lsynC (ruL r)))])) (.t (.o 1 [] [.s (lb false)]) .q))))))) (.o 0 [] [])) (by
  intro k h; try dsimp only [teasy, nthW, lc_sRulBLa, lc_sRulBLb] at h ⊢
  have e : (ruL r).length = 3 := rfl
  have g1 := @take_get _ _ (ruL r) k
  have g2 : (ruL r).getD k default = (ruL r).getD k [] := rfl
  with_reducible repeat' (first | apply And.intro | exact zR | (intro; skip) | apply mIc | apply mOc | apply mSc | apply mLc)
  all_goals (try simp only [std, inj] at *)
  all_goals with_reducible repeat' apply And.intro
  all_goals (try (first | exact z | exact zM | grind [ruL_cells, rulB, snocI, snocS, rowSnoc])))
theorem c_sRulB (r : Rules) (n : Int)  : P_c_sRulB r n := fnOK Tryz.call64 Tryz.func64 (.h (3 ≤ 9223372036854775807) (.l (lc_sRulBLa r n) (Sc_sRulBLa r n) [1] [.s (li 0), .o (Ob.arr
 false 1 [[Cell.list (List.map syntaxC r.literals)], [Cell.list (List.map syntaxC r.patterns)], [Cell.list (List.map syntaxC r.templates)]])] 0 (.t (.s (lb true)) (.t (.s (lb
 false)) .q)))) (by
  dsimp only [teasy, P_c_sRulB, nthW, lc_sRulBLa]
  with_reducible repeat' (first | apply And.intro | exact zR | (intro; skip) | apply mIc | apply mOc | apply mSc | apply mLc)
  all_goals (try simp only [std, inj] at *)
  all_goals with_reducible repeat' apply And.intro
  all_goals (try (first | exact z | exact zM | grind [rulB, snocI, snocS, rowSnoc]))
  all_goals rfl)
def bndX (x : Expander) (b : Binding) : Bool := !(decide (0 < (b.scopes.length : Int)) && decide (x.scope < b.scopes.getD ((b.scopes.length : Int) - 1).toNat 0)) && !(decide (b.kind = 3) && decide (x.vari < b.number)) && !(decide (b.kind = 4) && decide ((x.macros.length : Int) ≤ b.number))
def ruX (x : Expander) (r : Rules) : Bool := isRul r && rulB x.scope r
def isExp (x : Expander) : Bool := areB x.bindings && decide ((x.macros.length : Int) ≤ 200) && decide (0 ≤ x.scope ∧ x.scope ≤ 99999) && decide (0 ≤ x.vari ∧ x.vari ≤ 99999) && decide (0 ≤ x.steps ∧ x.steps ≤ 200) && x.macros.all (ruX x) && x.bindings.all (bndX x)
theorem bndX_stop {x : Expander} {k : Nat} (hk : k < x.bindings.length) (h : bndX x (x.bindings.getD k default) = false) : x.bindings.all (bndX x) = false := by
  rw [List.all_eq_false]; exact ⟨_, getD_mem' hk, by rw [h]; decide⟩
theorem ruX_stop {x : Expander} {k : Nat} (hk : k < x.macros.length) (h : ruX x (x.macros.getD k default) = false) : x.macros.all (ruX x) = false := by
  rw [List.all_eq_false]; exact ⟨_, getD_mem' hk, by rw [h]; decide⟩
theorem bndX_go {x : Expander} {k : Nat} (hk : k < x.bindings.length) (h0 : (x.bindings.take k).all (bndX x) = true) (h : bndX x (x.bindings.getD k default) = true) : (x.bindings.take (k + 1)).all (bndX x) = true := by
  rw [take_get hk, List.all_append, h0]; simpa using h
theorem ruX_go {x : Expander} {k : Nat} (hk : k < x.macros.length) (h0 : (x.macros.take k).all (ruX x) = true) (h : ruX x (x.macros.getD k default) = true) : (x.macros.take (k + 1)).all (ruX x) = true := by
  rw [take_get hk, List.all_append, h0]; simpa using h
abbrev P_c_sIsExp (x : Expander) : Ct := ⟨116, [], [expanderA x], [], .sv (lb (isExp x))⟩
def lc_sIsExpLb (x : Expander) : Lp Nat := .mk 103 0 (fun x_1 => [(1, SV.one (AC.ptr 0 0)), (55, ll (List.map bindingC x.bindings)), (56, li (↑(List.map bindingC x.bindings).length
 : Int)), (57, hs x_1 0)]) (fun x_1 => [Ob.box (vals (expanderF x))]) (fun k => [.s (li (↑k : Int))]) (fun k => k ≤ x.bindings.length ∧ x.bindings.length ≤ 9223372036854775807 ∧
 (List.take k x.bindings).all (bndX x) = true) (fun k => x.bindings.length - k) [.mk (x.bindings.all (bndX x) = true) (.exit 2) (fun x => []) (fun x => []) [], .mk (x.bindings.all
 (bndX x) = false) .ret (fun x => [(2, hs x 0)]) (fun x => []) [.s (lb false)]]
def lc_sIsExpLa (x : Expander) : Lp Nat := .mk 103 0 (fun x_1 => [(1, SV.one (AC.ptr 0 0)), (37, ll (List.map rulesC x.macros)), (38, li (↑(List.map rulesC x.macros).length :
 Int)), (39, hs x_1 0)]) (fun x_1 => [Ob.box (vals (expanderF x))]) (fun k => [.s (li (↑k : Int))]) (fun k => k ≤ x.macros.length ∧ x.macros.length ≤ 9223372036854775807 ∧
 (List.take k x.macros).all (ruX x) = true) (fun k => x.macros.length - k) [.mk (x.macros.all (ruX x) = true) (.exit 0) (fun x => [(1, SV.one (AC.ptr 0 0))]) (fun x_1 => [Ob.box
 (vals (expanderF x))]) [], .mk (x.macros.all (ruX x) = false) .ret (fun x => [(2, hs x 0)]) (fun x => []) [.s (lb false)]]
theorem Sc_sIsExpLb (x : Expander) (h : wX x ≤ 1048576) : Lp.Sem Tryz.prog (loopAt Tryz.f116 1) (lc_sIsExpLb x) := lpOK (fun k => .i ((↑k : Int) < (↑(List.map bindingC
 x.bindings).length : Int)) (.x (↑k : Int) (List.map bindingC x.bindings) (bindingF (x.bindings.getD k default)) (.z intC (x.bindings.getD k default).scopes (.w (.draw []) (.i (0 <
 (↑(List.map intC (x.bindings.getD k default).scopes).length : Int)) (.r ((↑(List.map intC (x.bindings.getD k default).scopes).length : Int) - 1) (.x ((↑(List.map intC
 (x.bindings.getD k default).scopes).length : Int) - 1) (List.map intC (x.bindings.getD k default).scopes) [cI ((x.bindings.getD k default).scopes.getD ((↑(List.map intC
 (x.bindings.getD k default).scopes).length : Int) - 1).toNat 0)] (.i (x.scope < (x.bindings.getD k default).scopes.getD ((↑(List.map intC (x.bindings.getD k
 default).scopes).length : Int) - 1).toNat 0) (.y true (.y true (.o 1 [] [.s (lb false)]))) (.i ((x.bindings.getD k default).kind = 3) (.i (x.vari < (x.bindings.getD k
 default).number) (.y true (.o 1 [] [.s (lb false)])) (.i ((x.bindings.getD k default).kind = 4) (.z rulesC x.macros (.i ((↑(List.map rulesC x.macros).length : Int) ≤
 (x.bindings.getD k default).number) (.o 1 [] [.s (lb false)]) (.r ((↑k : Int) + 1) (.g [0] (k + 1) [.s (li ((↑k : Int) + 1))])))) (.y false (.r ((↑k : Int) + 1) (.g [0] (k + 1)
 [.s (li ((↑k : Int) + 1))]))))) (.y false (.i ((x.bindings.getD k default).kind = 4) (.z rulesC x.macros (.i ((↑(List.map rulesC x.macros).length : Int) ≤ (x.bindings.getD k
 default).number) (.o 1 [] [.s (lb false)]) (.r ((↑k : Int) + 1) (.g [0] (k + 1) [.s (li ((↑k : Int) + 1))])))) (.y false (.r ((↑k : Int) + 1) (.g [0] (k + 1) [.s (li ((↑k : Int) +
 1))]))))))))) (.y false (.i ((x.bindings.getD k default).kind = 3) (.i (x.vari < (x.bindings.getD k default).number) (.y true (.o 1 [] [.s (lb false)])) (.i ((x.bindings.getD k
 default).kind = 4) (.z rulesC x.macros (.i ((↑(List.map rulesC x.macros).length : Int) ≤ (x.bindings.getD k default).number) (.o 1 [] [.s (lb false)]) (.r ((↑k : Int) + 1) (.g [0]
 (k + 1) [.s (li ((↑k : Int) + 1))])))) (.y false (.r ((↑k : Int) + 1) (.g [0] (k + 1) [.s (li ((↑k : Int) + 1))]))))) (.y false (.i ((x.bindings.getD k default).kind = 4) (.z
 rulesC x.macros (.i ((↑(List.map rulesC x.macros).length : Int) ≤ (x.bindings.getD k default).number) (.o 1 [] [.s (lb false)]) (.r ((↑k : Int) + 1) (.g [0] (k + 1) [.s (li ((↑k :
 Int) + 1))])))) (.y false (.r ((↑k : Int) + 1) (.g [0] (k + 1) [.s (li ((↑k : Int) + 1))]))))))))))) (.o 0 [] [])) (by
  intro k h; try dsimp only [teasy, nthW, lc_sIsExpLb] at h ⊢
  have g1 := wX_eq x
  have g2 := @sumBy_mem _ wB x.bindings (x.bindings.getD k default)
  have g3 := @bndX_stop x k
  have g4 := @bndX_go x k
  have g5 : bndX x (x.bindings.getD k default) = (!(decide (0 < ((x.bindings.getD k default).scopes.length : Int)) && decide (x.scope < (x.bindings.getD k default).scopes.getD (((x.bindings.getD k default).scopes.length : Int) - 1).toNat 0)) && !(decide ((x.bindings.getD k default).kind = 3) && decide (x.vari < (x.bindings.getD k default).number)) && !(decide ((x.bindings.getD k default).kind = 4) && decide ((x.macros.length : Int) ≤ (x.bindings.getD k default).number))) := rfl
  have g6 : x.bindings.length ≤ k → x.bindings.take k = x.bindings := fun h => List.take_of_length_le h
  have g7 := wB_eq (x.bindings.getD k default)
  with_reducible repeat' (first | apply And.intro | exact zR | (intro; skip) | apply mIc | apply mOc | apply mSc | apply mLc | apply c_sIsRules)
  all_goals (try simp only [std, inj] at *)
  all_goals with_reducible repeat' apply And.intro
  all_goals (try (first | with_reducible apply c_sIsRules | (simp only [← List.map_append]; first | with_reducible apply c_sIsRules)))
  all_goals (try (first | exact z | exact zM | grind [getD_mem', snocI, snocS, rowSnoc])))
theorem Sc_sIsExpLa (x : Expander) (h : wX x ≤ 1048576) : Lp.Sem Tryz.prog (loopAt Tryz.f116 0) (lc_sIsExpLa x) := lpOK (fun k => .i ((↑k : Int) < (↑(List.map rulesC
 x.macros).length : Int)) (.x (↑k : Int) (List.map rulesC x.macros) (rulesF (x.macros.getD k default)) (.d [.rd] (P_c_sIsRules (x.macros.getD k default)) (.b (!isRul (x.macros.getD
 k default)) (.y true (.o 1 [] [.s (lb false)])) (.c [.rd, .rd] (c_sRulB (x.macros.getD k default) x.scope) (.b (!rulB x.scope (x.macros.getD k default)) (.o 1 [] [.s (lb false)])
 (.r ((↑k : Int) + 1) (.g [0] (k + 1) [.s (li ((↑k : Int) + 1))]))))))) (.o 0 [0] [])) (by
  intro k h; try dsimp only [teasy, nthW, lc_sIsExpLa] at h ⊢
  have g1 := wX_eq x
  have g2 := @sumBy_mem _ wR x.macros (x.macros.getD k default)
  have g3 := @ruX_stop x k
  have g4 := @ruX_go x k
  have g5 : ruX x (x.macros.getD k default) = (isRul (x.macros.getD k default) && rulB x.scope (x.macros.getD k default)) := rfl
  have g6 : x.macros.length ≤ k → x.macros.take k = x.macros := fun h => List.take_of_length_le h
  with_reducible repeat' (first | apply And.intro | exact zR | (intro; skip) | apply mIc | apply mOc | apply mSc | apply mLc | apply c_sIsRules)
  all_goals (try simp only [std, inj] at *)
  all_goals with_reducible repeat' apply And.intro
  all_goals (try (first | with_reducible apply c_sIsRules | (simp only [← List.map_append]; first | with_reducible apply c_sIsRules)))
  all_goals (try (first | exact z | exact zM | grind [getD_mem', snocI, snocS, rowSnoc])))
theorem c_sIsExp (x : Expander) (h : wX x ≤ 1048576)  : P_c_sIsExp x := fnOK Tryz.call116 Tryz.func116 (.c [.rd] (c_sAre x.bindings) (.b (!areB x.bindings) (.y true (.y true (.y true
 (.y true (.s (lb false)))))) (.z rulesC x.macros (.i (200 < (↑(List.map rulesC x.macros).length : Int)) (.y true (.y true (.y true (.s (lb false))))) (.c [.rd, .rd, .rd] (c_l1In
 x.scope 0 99999) (.b (!decide (0 ≤ x.scope ∧ x.scope ≤ 99999)) (.y true (.y true (.s (lb false)))) (.c [.rd, .rd, .rd] (c_l1In x.vari 0 99999) (.b (!decide (0 ≤ x.vari ∧ x.vari ≤
 99999)) (.y true (.s (lb false))) (.c [.rd, .rd, .rd] (c_l1In x.steps 0 200) (.b (!decide (0 ≤ x.steps ∧ x.steps ≤ 200)) (.s (lb false)) (.z rulesC x.macros (.l (lc_sIsExpLa x)
 (Sc_sIsExpLa x h) [0] [.s (li 0)] 0 (.t (.z bindingC x.bindings (.l (lc_sIsExpLb x) (Sc_sIsExpLb x h) [0] [.s (li 0)] 0 (.t (.s (lb true)) (.t (.s (lb false)) .q)))) (.t (.s (lb
 false)) .q)))))))))))))) (by
  dsimp only [teasy, P_c_sIsExp, nthW, lc_sIsExpLa, lc_sIsExpLb]
  with_reducible repeat' (first | apply And.intro | exact zR | (intro; skip) | apply mIc | apply mOc | apply mSc | apply mLc | apply c_sIsRules)
  all_goals (try simp only [std, inj] at *)
  all_goals with_reducible repeat' apply And.intro
  all_goals (try (first | with_reducible apply c_sIsRules | (simp only [← List.map_append]; first | with_reducible apply c_sIsRules)))
  all_goals (try (first | exact z | exact zM | grind [isExp, snocI, snocS, rowSnoc])))
abbrev P_c_iIsExp (x : Expander) : Ct := ⟨71, [], [expanderA x], [], .sv (lb (isExp x))⟩
def lc_iIsExpLb (x : Expander) : Lp Nat := .mk 115 0 (fun x_1 => [(1, SV.one (AC.ptr 0 0)), (66, ll (List.map bindingC x.bindings)), (67, li (↑(List.map bindingC x.bindings).length
 : Int)), (68, hs x_1 0)]) (fun x_1 => [Ob.box (vals (expanderF x))]) (fun k => [.s (li (↑k : Int))]) (fun k => k ≤ x.bindings.length ∧ x.bindings.length ≤ 9223372036854775807 ∧
 (List.take k x.bindings).all (bndX x) = true) (fun k => x.bindings.length - k) [.mk (x.bindings.all (bndX x) = true) (.exit 2) (fun x => []) (fun x => []) [], .mk (x.bindings.all
 (bndX x) = false) .ret (fun x => [(2, hs x 0)]) (fun x => []) [.s (lb false)]]
def lc_iIsExpLa (x : Expander) : Lp Nat := .mk 115 0 (fun x_1 => [(1, SV.one (AC.ptr 0 0)), (48, ll (List.map rulesC x.macros)), (49, li (↑(List.map rulesC x.macros).length :
 Int)), (50, hs x_1 0)]) (fun x_1 => [Ob.box (vals (expanderF x))]) (fun k => [.s (li (↑k : Int))]) (fun k => k ≤ x.macros.length ∧ x.macros.length ≤ 9223372036854775807 ∧
 (List.take k x.macros).all (ruX x) = true) (fun k => x.macros.length - k) [.mk (x.macros.all (ruX x) = true) (.exit 0) (fun x => [(1, SV.one (AC.ptr 0 0))]) (fun x_1 => [Ob.box
 (vals (expanderF x))]) [], .mk (x.macros.all (ruX x) = false) .ret (fun x => [(2, hs x 0)]) (fun x => []) [.s (lb false)]]
theorem Sc_iIsExpLb (x : Expander) (h : wX x ≤ 1048576) : Lp.Sem Tryz.prog (loopAt Tryz.f71 1) (lc_iIsExpLb x) := lpOK (fun k => .i ((↑k : Int) < (↑(List.map bindingC
 x.bindings).length : Int)) (.x (↑k : Int) (List.map bindingC x.bindings) (bindingF (x.bindings.getD k default)) (.w (.draw []) (.i (0 < (↑(List.map intC (x.bindings.getD k
 default).scopes).length : Int)) (.r ((↑(List.map intC (x.bindings.getD k default).scopes).length : Int) - 1) (.x ((↑(List.map intC (x.bindings.getD k default).scopes).length :
 Int) - 1) (List.map intC (x.bindings.getD k default).scopes) [cI ((x.bindings.getD k default).scopes.getD ((↑(List.map intC (x.bindings.getD k default).scopes).length : Int) -
 1).toNat 0)] (.i (x.scope < (x.bindings.getD k default).scopes.getD ((↑(List.map intC (x.bindings.getD k default).scopes).length : Int) - 1).toNat 0) (.y true (.z intC
 (x.bindings.getD k default).scopes (.z intC (x.bindings.getD k default).scopes (.y true (.o 1 [] [.s (lb false)]))))) (.i ((x.bindings.getD k default).kind = 3) (.i (x.vari <
 (x.bindings.getD k default).number) (.z intC (x.bindings.getD k default).scopes (.z intC (x.bindings.getD k default).scopes (.y true (.o 1 [] [.s (lb false)])))) (.i
 ((x.bindings.getD k default).kind = 4) (.z intC (x.bindings.getD k default).scopes (.z intC (x.bindings.getD k default).scopes (.z rulesC x.macros (.i ((↑(List.map rulesC
 x.macros).length : Int) ≤ (x.bindings.getD k default).number) (.o 1 [] [.s (lb false)]) (.r ((↑k : Int) + 1) (.g [0] (k + 1) [.s (li ((↑k : Int) + 1))])))))) (.z intC
 (x.bindings.getD k default).scopes (.z intC (x.bindings.getD k default).scopes (.y false (.r ((↑k : Int) + 1) (.g [0] (k + 1) [.s (li ((↑k : Int) + 1))]))))))) (.y false (.i
 ((x.bindings.getD k default).kind = 4) (.z intC (x.bindings.getD k default).scopes (.z intC (x.bindings.getD k default).scopes (.z rulesC x.macros (.i ((↑(List.map rulesC
 x.macros).length : Int) ≤ (x.bindings.getD k default).number) (.o 1 [] [.s (lb false)]) (.r ((↑k : Int) + 1) (.g [0] (k + 1) [.s (li ((↑k : Int) + 1))])))))) (.z intC
 (x.bindings.getD k default).scopes (.z intC (x.bindings.getD k default).scopes (.y false (.r ((↑k : Int) + 1) (.g [0] (k + 1) [.s (li ((↑k : Int) + 1))]))))))))))) (.y false (.i
 ((x.bindings.getD k default).kind = 3) (.i (x.vari < (x.bindings.getD k default).number) (.z intC (x.bindings.getD k default).scopes (.y true (.o 1 [] [.s (lb false)]))) (.i
 ((x.bindings.getD k default).kind = 4) (.z intC (x.bindings.getD k default).scopes (.z rulesC x.macros (.i ((↑(List.map rulesC x.macros).length : Int) ≤ (x.bindings.getD k
 default).number) (.o 1 [] [.s (lb false)]) (.r ((↑k : Int) + 1) (.g [0] (k + 1) [.s (li ((↑k : Int) + 1))]))))) (.z intC (x.bindings.getD k default).scopes (.y false (.r ((↑k :
 Int) + 1) (.g [0] (k + 1) [.s (li ((↑k : Int) + 1))])))))) (.y false (.i ((x.bindings.getD k default).kind = 4) (.z intC (x.bindings.getD k default).scopes (.z rulesC x.macros (.i
 ((↑(List.map rulesC x.macros).length : Int) ≤ (x.bindings.getD k default).number) (.o 1 [] [.s (lb false)]) (.r ((↑k : Int) + 1) (.g [0] (k + 1) [.s (li ((↑k : Int) + 1))])))))
 (.z intC (x.bindings.getD k default).scopes (.y false (.r ((↑k : Int) + 1) (.g [0] (k + 1) [.s (li ((↑k : Int) + 1))]))))))))))) (.o 0 [] [])) (by
  intro k h; try dsimp only [teasy, nthW, lc_iIsExpLb] at h ⊢
  have g1 := wX_eq x
  have g2 := @sumBy_mem _ wB x.bindings (x.bindings.getD k default)
  have g3 := @bndX_stop x k
  have g4 := @bndX_go x k
  have g5 : bndX x (x.bindings.getD k default) = (!(decide (0 < ((x.bindings.getD k default).scopes.length : Int)) && decide (x.scope < (x.bindings.getD k default).scopes.getD (((x.bindings.getD k default).scopes.length : Int) - 1).toNat 0)) && !(decide ((x.bindings.getD k default).kind = 3) && decide (x.vari < (x.bindings.getD k default).number)) && !(decide ((x.bindings.getD k default).kind = 4) && decide ((x.macros.length : Int) ≤ (x.bindings.getD k default).number))) := rfl
  have g6 : x.bindings.length ≤ k → x.bindings.take k = x.bindings := fun h => List.take_of_length_le h
  have g7 := wB_eq (x.bindings.getD k default)
  with_reducible repeat' (first | apply And.intro | exact zR | (intro; skip) | apply mIc | apply mOc | apply mSc | apply mLc | apply c_iIsRules)
  all_goals (try simp only [std, inj] at *)
  all_goals with_reducible repeat' apply And.intro
  all_goals (try (first | with_reducible apply c_iIsRules | (simp only [← List.map_append]; first | with_reducible apply c_iIsRules)))
  all_goals (try (first | exact z | exact zM | grind [getD_mem', snocI, snocS, rowSnoc])))
theorem Sc_iIsExpLa (x : Expander) (h : wX x ≤ 1048576) : Lp.Sem Tryz.prog (loopAt Tryz.f71 0) (lc_iIsExpLa x) := lpOK (fun k => .i ((↑k : Int) < (↑(List.map rulesC
 x.macros).length : Int)) (.x (↑k : Int) (List.map rulesC x.macros) (rulesF (x.macros.getD k default)) (.d [.rd] (P_c_iIsRules (x.macros.getD k default)) (.b (!isRul (x.macros.getD
 k default)) (.y true (.o 1 [] [.s (lb false)])) (.c [.rd, .rd] (c_iRulB (x.macros.getD k default) x.scope) (.b (!rulB x.scope (x.macros.getD k default)) (.o 1 [] [.s (lb false)])
 (.r ((↑k : Int) + 1) (.g [0] (k + 1) [.s (li ((↑k : Int) + 1))]))))))) (.o 0 [0] [])) (by
  intro k h; try dsimp only [teasy, nthW, lc_iIsExpLa] at h ⊢
  have g1 := wX_eq x
  have g2 := @sumBy_mem _ wR x.macros (x.macros.getD k default)
  have g3 := @ruX_stop x k
  have g4 := @ruX_go x k
  have g5 : ruX x (x.macros.getD k default) = (isRul (x.macros.getD k default) && rulB x.scope (x.macros.getD k default)) := rfl
  have g6 : x.macros.length ≤ k → x.macros.take k = x.macros := fun h => List.take_of_length_le h
  with_reducible repeat' (first | apply And.intro | exact zR | (intro; skip) | apply mIc | apply mOc | apply mSc | apply mLc | apply c_iIsRules)
  all_goals (try simp only [std, inj] at *)
  all_goals with_reducible repeat' apply And.intro
  all_goals (try (first | with_reducible apply c_iIsRules | (simp only [← List.map_append]; first | with_reducible apply c_iIsRules)))
  all_goals (try (first | exact z | exact zM | grind [getD_mem', snocI, snocS, rowSnoc])))
theorem c_iIsExp (x : Expander) (h : wX x ≤ 1048576)  : P_c_iIsExp x := fnOK Tryz.call71 Tryz.func71 (.c [.rd] (c_iAre x.bindings) (.b (!areB x.bindings) (.y true (.y true (.y true
 (.y true (.y true (.y true (.y true (.s (lb false))))))))) (.z rulesC x.macros (.i (200 < (↑(List.map rulesC x.macros).length : Int)) (.y true (.y true (.y true (.y true (.y true
 (.y true (.s (lb false)))))))) (.i (x.scope < 0) (.y true (.y true (.y true (.y true (.y true (.s (lb false))))))) (.i (99999 < x.scope) (.y true (.y true (.y true (.y true (.s
 (lb false)))))) (.i (x.vari < 0) (.y true (.y true (.y true (.s (lb false))))) (.i (99999 < x.vari) (.y true (.y true (.s (lb false)))) (.i (x.steps < 0) (.y true (.s (lb false)))
 (.i (200 < x.steps) (.s (lb false)) (.z rulesC x.macros (.l (lc_iIsExpLa x) (Sc_iIsExpLa x h) [0] [.s (li 0)] 0 (.t (.z bindingC x.bindings (.l (lc_iIsExpLb x) (Sc_iIsExpLb x h)
 [0] [.s (li 0)] 0 (.t (.s (lb true)) (.t (.s (lb false)) .q)))) (.t (.s (lb false)) .q)))))))))))))) (by
  dsimp only [teasy, P_c_iIsExp, nthW, lc_iIsExpLa, lc_iIsExpLb]
  with_reducible repeat' (first | apply And.intro | exact zR | (intro; skip) | apply mIc | apply mOc | apply mSc | apply mLc | apply c_iIsRules)
  all_goals (try simp only [std, inj] at *)
  all_goals with_reducible repeat' apply And.intro
  all_goals (try (first | with_reducible apply c_iIsRules | (simp only [← List.map_append]; first | with_reducible apply c_iIsRules)))
  all_goals (try (first | exact z | exact zM | grind [isExp, snocI, snocS, rowSnoc])))
end Go.Proofs.YtpnaoendfpaodaaGreat
end
section
namespace Go.Proofs.YtpnaoendfpaodaaGreat
open Go Go.Proofs.YtpnaoendfpaodaaGreat.Ab
set_option linter.unusedVariables false
set_option linter.unusedSimpArgs false
set_option maxHeartbeats 4000000
abbrev P_c_sCopyB (L : List Binding) : Ct := ⟨138, [], [ll (L.map bindingC)], [.arr true 4 (L.map bindingC)], .sv (.one (.ref 0))⟩
def lc_sCopyBLa (L : List Binding) : Lp Nat := .mk 28 0 (fun x => [(3, SV.one (AC.ref 0)), (7, ll (List.map bindingC L)), (8, li (↑(List.map bindingC L).length : Int)), (9, hs x
 0)]) (fun x => [ho x 1]) (fun k => [.s (li (↑k : Int)), .o (Ob.arr true 4 (List.map bindingC (List.take k L)))]) (fun k => k ≤ L.length ∧ L.length ≤ 9223372036854775807) (fun k =>
 L.length - k) [.mk True (.exit 0) (fun x => [(3, SV.one (AC.ref 0))]) (fun x => [ho x 0]) [.o (Ob.arr true 4 (List.map bindingC L))]]
theorem Sc_sCopyBLa (L : List Binding) (h : L.length ≤ 1048577 ∧ sumBy wB L ≤ 1048577) : Lp.Sem Tryz.prog (loopAt Tryz.f138 0) (lc_sCopyBLa L) := lpOK (fun k => .i ((↑k : Int) <
 (↑(List.map bindingC L).length : Int)) (.x (↑k : Int) (List.map bindingC L) (bindingF (L.getD k default)) (.w (.draw [(11, [2]), (12, [0, 10])]) (.d [.rd] (P_c_yInts (L.getD k
 default).scopes) (.p (((List.map bindingC (List.take k L)).length + 1) * 56 ≤ 140737488355328) (.r ((↑k : Int) + 1) (.g [11] (k + 1) [.s (li ((↑k : Int) + 1)), .o (Ob.arr true 4
 (List.map bindingC (List.take k L) ++ [bindingF (L.getD k default)]))])))))) (.o 0 [0] [.o (Ob.arr true 4 (List.map bindingC (List.take k L)))])) (by
  intro k h; try dsimp only [teasy, nthW, lc_sCopyBLa] at h ⊢
  have g2 := @sumBy_mem _ wB L (L.getD k default)
  have g3 := wB_eq (L.getD k default)
  with_reducible repeat' (first | apply And.intro | exact zR | (intro; skip) | apply c_yInts)
  all_goals (try simp only [std, inj] at *)
  all_goals with_reducible repeat' apply And.intro
  all_goals (try (first | with_reducible apply c_yInts | (simp only [← List.map_append]; first | with_reducible apply c_yInts)))
  all_goals (try (first | exact z | grind [take_get, snocI, snocS, rowSnoc, getD_mem'])))
theorem c_sCopyB (L : List Binding) (h : L.length ≤ 1048577 ∧ sumBy wB L ≤ 1048577)  : P_c_sCopyB L := fnOK Tryz.call138 Tryz.func138 (.w (.bool false) (.z bindingC L (.l
 (lc_sCopyBLa L) (Sc_sCopyBLa L h) [0] [.s (li 0), .o (Ob.arr true 4 [])] 0 (.t (.f [0] [Ob.arr true 4 (List.map bindingC L)] (AV.sv (SV.one (AC.ref 0)))) .q)))) (by
  dsimp only [teasy, P_c_sCopyB, nthW, lc_sCopyBLa]
  with_reducible repeat' (first | apply And.intro | exact zR | (intro; skip) | apply c_yInts)
  all_goals (try simp only [std, inj] at *)
  all_goals with_reducible repeat' apply And.intro
  all_goals (try (first | with_reducible apply c_yInts | (simp only [← List.map_append]; first | with_reducible apply c_yInts)))
  all_goals (try (first | exact z | grind [snocI, snocS, rowSnoc])))
abbrev P_c_iCopyB1 (b : Binding) : Ct := ⟨227, [], [bindingA b], bindingO b, .sv (bindingR b 0)⟩
theorem c_iCopyB1 (b : Binding) (h : wB b ≤ 1048577)  : P_c_iCopyB1 b := fnOK Tryz.call227 Tryz.func227 (.d [.rd] (P_c_yIInts b.scopes) (.f [2] [Ob.arr true 1 (List.map intC
 b.scopes)] (AV.sv (SV.agg [vS b.text, AC.ref 0, vI b.kind, vI b.number])))) (by
  dsimp only [teasy, P_c_iCopyB1]
  have g3 := wB_eq b
  with_reducible repeat' (first | apply And.intro | exact zR | (intro; skip) | apply c_yIInts)
  all_goals (try simp only [std, inj] at *)
  all_goals with_reducible repeat' apply And.intro
  all_goals (try (first | with_reducible apply c_yIInts | (simp only [← List.map_append]; first | with_reducible apply c_yIInts)))
  all_goals (try (first | exact z | grind [snocI, snocS, rowSnoc])))
abbrev P_c_iCopyB (L : List Binding) : Ct := ⟨142, [], [ll (L.map bindingC)], [.arr true 4 (L.map bindingC)], .sv (.one (.ref 0))⟩
def lc_iCopyBLa (L : List Binding) : Lp Nat := .mk 19 0 (fun x => [(3, SV.one (AC.ref 0)), (6, ll (List.map bindingC L)), (7, li (↑(List.map bindingC L).length : Int)), (8, hs x
 0)]) (fun x => [ho x 1]) (fun k => [.s (li (↑k : Int)), .o (Ob.arr true 4 (List.map bindingC (List.take k L)))]) (fun k => k ≤ L.length ∧ L.length ≤ 9223372036854775807) (fun k =>
 L.length - k) [.mk True (.exit 0) (fun x => [(3, SV.one (AC.ref 0))]) (fun x => [ho x 0]) [.o (Ob.arr true 4 (List.map bindingC L))]]
theorem Sc_iCopyBLa (L : List Binding) (h : L.length ≤ 1048577 ∧ sumBy wB L ≤ 1048577) : Lp.Sem Tryz.prog (loopAt Tryz.f142 0) (lc_iCopyBLa L) := lpOK (fun k => .i ((↑k : Int) <
 (↑(List.map bindingC L).length : Int)) (.x (↑k : Int) (List.map bindingC L) (bindingF (L.getD k default)) (.d [.rd] (P_c_iCopyB1 (L.getD k default)) (.p (((List.map bindingC
 (List.take k L)).length + 1) * 56 ≤ 140737488355328) (.r ((↑k : Int) + 1) (.g [4] (k + 1) [.s (li ((↑k : Int) + 1)), .o (Ob.arr true 4 (List.map bindingC (List.take k L) ++
 [bindingF (L.getD k default)]))]))))) (.o 0 [0] [.o (Ob.arr true 4 (List.map bindingC (List.take k L)))])) (by
  intro k h; try dsimp only [teasy, nthW, lc_iCopyBLa] at h ⊢
  have g2 := @sumBy_mem _ wB L (L.getD k default)
  with_reducible repeat' (first | apply And.intro | exact zR | (intro; skip) | apply c_iCopyB1)
  all_goals (try simp only [std, inj] at *)
  all_goals with_reducible repeat' apply And.intro
  all_goals (try (first | with_reducible apply c_iCopyB1 | (simp only [← List.map_append]; first | with_reducible apply c_iCopyB1)))
  all_goals (try (first | exact z | grind [take_get, snocI, snocS, rowSnoc, getD_mem'])))
theorem c_iCopyB (L : List Binding) (h : L.length ≤ 1048577 ∧ sumBy wB L ≤ 1048577)  : P_c_iCopyB L := fnOK Tryz.call142 Tryz.func142 (.z bindingC L (.w (.ghost (.nilreg 3 true 4))
 (.l (lc_iCopyBLa L) (Sc_iCopyBLa L h) [0] [.s (li 0), .o (Ob.arr true 4 [])] 0 (.t (.f [0] [Ob.arr true 4 (List.map bindingC L)] (AV.sv (SV.one (AC.ref 0)))) .q)))) (by
  dsimp only [teasy, P_c_iCopyB, nthW, lc_iCopyBLa]
  with_reducible repeat' (first | apply And.intro | exact zR | (intro; skip) | apply c_iCopyB1)
  all_goals (try simp only [std, inj] at *)
  all_goals with_reducible repeat' apply And.intro
  all_goals (try (first | with_reducible apply c_iCopyB1 | (simp only [← List.map_append]; first | with_reducible apply c_iCopyB1)))
  all_goals (try (first | exact z | grind [snocI, snocS, rowSnoc])))
abbrev P_c_iCopyYs (L : List Syntax) : Ct := ⟨228, [], [ll (L.map syntaxC)], [.arr true 5 (L.map syntaxC)], .sv (.one (.ref 0))⟩
def lc_iCopyYsLa (L : List Syntax) : Lp Nat := .mk 19 0 (fun x => [(3, SV.one (AC.ref 0)), (6, ll (List.map syntaxC L)), (7, li (↑(List.map syntaxC L).length : Int)), (8, hs x 0)])
 (fun x => [ho x 1]) (fun k => [.s (li (↑k : Int)), .o (Ob.arr true 5 (List.map syntaxC (List.take k L)))]) (fun k => k ≤ L.length ∧ L.length ≤ 9223372036854775807) (fun k =>
 L.length - k) [.mk True (.exit 0) (fun x => [(3, SV.one (AC.ref 0))]) (fun x => [ho x 0]) [.o (Ob.arr true 5 (List.map syntaxC L))]]
theorem Sc_iCopyYsLa (L : List Syntax) (h : L.length ≤ 1048576 ∧ sumBy wY L ≤ 1048576) : Lp.Sem Tryz.prog (loopAt Tryz.f228 0) (lc_iCopyYsLa L) := lpOK (fun k => .i ((↑k : Int) <
 (↑(List.map syntaxC L).length : Int)) (.x (↑k : Int) (List.map syntaxC L) (syntaxF (L.getD k default)) (.d [.rd] (P_c_iCopyY (L.getD k default)) (.p (((List.map syntaxC (List.take
 k L)).length + 1) * 80 ≤ 140737488355328) (.r ((↑k : Int) + 1) (.g [5] (k + 1) [.s (li ((↑k : Int) + 1)), .o (Ob.arr true 5 (List.map syntaxC (List.take k L) ++ [syntaxF (L.getD k
 default)]))]))))) (.o 0 [0] [.o (Ob.arr true 5 (List.map syntaxC (List.take k L)))])) (by
  intro k h; try dsimp only [teasy, nthW, lc_iCopyYsLa] at h ⊢
  have g2 := @sumBy_mem _ wY L (L.getD k default)
  with_reducible repeat' (first | apply And.intro | exact zR | (intro; skip) | apply c_iCopyY)
  all_goals (try simp only [std, inj] at *)
  all_goals with_reducible repeat' apply And.intro
  all_goals (try (first | with_reducible apply c_iCopyY | (simp only [← List.map_append]; first | with_reducible apply c_iCopyY)))
  all_goals (try (first | exact z | grind [take_get, snocI, snocS, rowSnoc, getD_mem'])))
theorem c_iCopyYs (L : List Syntax) (h : L.length ≤ 1048576 ∧ sumBy wY L ≤ 1048576)  : P_c_iCopyYs L := fnOK Tryz.call228 Tryz.func228 (.z syntaxC L (.w (.ghost (.nilreg 3 true 5))
 (.l (lc_iCopyYsLa L) (Sc_iCopyYsLa L h) [0] [.s (li 0), .o (Ob.arr true 5 [])] 0 (.t (.f [0] [Ob.arr true 5 (List.map syntaxC L)] (AV.sv (SV.one (AC.ref 0)))) .q)))) (by
  dsimp only [teasy, P_c_iCopyYs, nthW, lc_iCopyYsLa]
  with_reducible repeat' (first | apply And.intro | exact zR | (intro; skip) | apply c_iCopyY)
  all_goals (try simp only [std, inj] at *)
  all_goals with_reducible repeat' apply And.intro
  all_goals (try (first | with_reducible apply c_iCopyY | (simp only [← List.map_append]; first | with_reducible apply c_iCopyY)))
  all_goals (try (first | exact z | grind [snocI, snocS, rowSnoc])))
abbrev P_c_iCopyR (r : Rules) : Ct := ⟨143, [], [rulesA r], rulesO r, .sv (rulesR r 0)⟩
theorem c_iCopyR (r : Rules) (h : wR r ≤ 1048576)  : P_c_iCopyR r := fnOK Tryz.call143 Tryz.func143 (.w (.draw [(10, [1])]) (.d [.rd] (P_c_iCopyYs r.literals) (.d [.rd] (P_c_iCopyYs
 r.patterns) (.d [.rd] (P_c_iCopyYs r.templates) (.f [2, 10, 18] [Ob.arr true 5 (List.map syntaxC r.literals), Ob.arr true 5 (List.map syntaxC r.patterns), Ob.arr true 5 (List.map
 syntaxC r.templates)] (AV.sv (SV.agg [AC.ref 0, AC.ref 1, AC.ref 2]))))))) (by
  dsimp only [teasy, P_c_iCopyR]
  have g := wR_eq r
  with_reducible repeat' (first | apply And.intro | exact zR | (intro; skip) | apply c_iCopyYs)
  all_goals (try simp only [std, inj] at *)
  all_goals with_reducible repeat' apply And.intro
  all_goals (try (first | with_reducible apply c_iCopyYs | (simp only [← List.map_append]; first | with_reducible apply c_iCopyYs)))
  all_goals (try (first | exact z | grind [snocI, snocS, rowSnoc])))
abbrev P_c_sCopyR (r : Rules) : Ct := ⟨67, [], [rulesA r], rulesO r, .sv (rulesR r 0)⟩
def lc_sCopyRLc (r : Rules) : Lp Nat := .mk 57 0 (fun x => [(2, SV.one (AC.ptr 0 0)), (3, SV.one (AC.ptr 1 0)), (42, ll (List.map syntaxC r.templates)), (43, li (↑(List.map syntaxC
 r.templates).length : Int)), (44, hs x 0)]) (fun x => [Ob.box [AC.val (Cell.lit (Value.slice none 0 0)), AC.val (Cell.lit (Value.slice none 0 0)), AC.val (Cell.lit (Value.slice
 none 0 0))], Ob.box [AC.ref 2, AC.ref 3, AC.ref 4], Ob.arr true 5 (List.map syntaxC r.literals), Ob.arr true 5 (List.map syntaxC r.patterns), ho x 1]) (fun k => [.s (li (↑k :
 Int)), .o (Ob.arr true 5 (List.map syntaxC (List.take k r.templates)))]) (fun k => k ≤ r.templates.length ∧ r.templates.length ≤ 9223372036854775807) (fun k => r.templates.length
 - k) [.mk True (.exit 4) (fun x => [(2, SV.one (AC.ptr 0 0)), (3, SV.one (AC.ptr 1 0))]) (fun x => [Ob.box [AC.val (Cell.lit (Value.slice none 0 0)), AC.val (Cell.lit (Value.slice
 none 0 0)), AC.val (Cell.lit (Value.slice none 0 0))], Ob.box [AC.ref 2, AC.ref 3, AC.ref 4], Ob.arr true 5 (List.map syntaxC r.literals), Ob.arr true 5 (List.map syntaxC
 r.patterns), ho x 0]) [.o (Ob.arr true 5 (List.map syntaxC r.templates))]]
def lc_sCopyRLb (r : Rules) : Lp Nat := .mk 57 0 (fun x => [(1, SV.one (AC.ptr 0 0)), (2, SV.one (AC.ptr 1 0)), (3, SV.one (AC.ptr 2 0)), (27, ll (List.map syntaxC r.patterns)),
 (28, li (↑(List.map syntaxC r.patterns).length : Int)), (29, hs x 0)]) (fun x => [Ob.box (vals (rulesF r)), Ob.box [AC.val (Cell.lit (Value.slice none 0 0)), AC.val (Cell.lit
 (Value.slice none 0 0)), AC.val (Cell.lit (Value.slice none 0 0))], Ob.box [AC.ref 3, AC.ref 4, AC.val (Cell.lit (Value.slice none 0 0))], Ob.arr true 5 (List.map syntaxC
 r.literals), ho x 1]) (fun k => [.s (li (↑k : Int)), .o (Ob.arr true 5 (List.map syntaxC (List.take k r.patterns)))]) (fun k => k ≤ r.patterns.length ∧ r.patterns.length ≤
 9223372036854775807) (fun k => r.patterns.length - k) [.mk True (.exit 2) (fun x => [(1, SV.one (AC.ptr 0 0)), (2, SV.one (AC.ptr 1 0)), (3, SV.one (AC.ptr 2 0))]) (fun x =>
 [Ob.box (vals (rulesF r)), Ob.box [AC.val (Cell.lit (Value.slice none 0 0)), AC.val (Cell.lit (Value.slice none 0 0)), AC.val (Cell.lit (Value.slice none 0 0))], Ob.box [AC.ref 3,
 AC.ref 4, AC.val (Cell.lit (Value.slice none 0 0))], Ob.arr true 5 (List.map syntaxC r.literals), ho x 0]) [.o (Ob.arr true 5 (List.map syntaxC r.patterns))]]
def lc_sCopyRLa (r : Rules) : Lp Nat := .mk 57 0 (fun x => [(1, SV.one (AC.ptr 0 0)), (2, SV.one (AC.ptr 1 0)), (3, SV.one (AC.ptr 2 0)), (12, ll (List.map syntaxC r.literals)),
 (13, li (↑(List.map syntaxC r.literals).length : Int)), (14, hs x 0)]) (fun x => [Ob.box (vals (rulesF r)), Ob.box [AC.val (Cell.lit (Value.slice none 0 0)), AC.val (Cell.lit
 (Value.slice none 0 0)), AC.val (Cell.lit (Value.slice none 0 0))], Ob.box [AC.ref 3, AC.val (Cell.lit (Value.slice none 0 0)), AC.val (Cell.lit (Value.slice none 0 0))], ho x 1])
 (fun k => [.s (li (↑k : Int)), .o (Ob.arr true 5 (List.map syntaxC (List.take k r.literals)))]) (fun k => k ≤ r.literals.length ∧ r.literals.length ≤ 9223372036854775807) (fun k
 => r.literals.length - k) [.mk True (.exit 0) (fun x => [(1, SV.one (AC.ptr 0 0)), (2, SV.one (AC.ptr 1 0)), (3, SV.one (AC.ptr 2 0))]) (fun x => [Ob.box (vals (rulesF r)), Ob.box
 [AC.val (Cell.lit (Value.slice none 0 0)), AC.val (Cell.lit (Value.slice none 0 0)), AC.val (Cell.lit (Value.slice none 0 0))], Ob.box [AC.ref 3, AC.val (Cell.lit (Value.slice
 none 0 0)), AC.val (Cell.lit (Value.slice none 0 0))], ho x 0]) [.o (Ob.arr true 5 (List.map syntaxC r.literals))]]
theorem Sc_sCopyRLc (r : Rules) (h : wR r ≤ 1048576) : Lp.Sem Tryz.prog (loopAt Tryz.f67 2) (lc_sCopyRLc r) := lpOK (fun k => .i ((↑k : Int) < (↑(List.map syntaxC
 r.templates).length : Int)) (.x (↑k : Int) (List.map syntaxC r.templates) (syntaxF (r.templates.getD k default)) (.w (.draw [(4, [6, 7]), (5, [4, 14]), (7, [1])]) (.d [.rd]
 (P_c_sCopyY (r.templates.getD k default)) (.p (((List.map syntaxC (List.take k r.templates)).length + 1) * 80 ≤ 140737488355328) (.r ((↑k : Int) + 1) (.g [0, 1, 2, 3, 15] (k + 1)
 [.s (li ((↑k : Int) + 1)), .o (Ob.arr true 5 (List.map syntaxC (List.take k r.templates) ++ [syntaxF (r.templates.getD k default)]))])))))) (.o 0 [0, 1, 2, 3, 4] [.o (Ob.arr true
 5 (List.map syntaxC (List.take k r.templates)))])) (by
  intro k h; try dsimp only [teasy, nthW, lc_sCopyRLc] at h ⊢
  have g := wR_eq r
  have g2 := @sumBy_mem _ wY r.templates (r.templates.getD k default)
  with_reducible repeat' (first | apply And.intro | exact zR | (intro; skip) | apply c_sCopyY)
  all_goals (try simp only [std, inj] at *)
  all_goals with_reducible repeat' apply And.intro
  all_goals (try (first | with_reducible apply c_sCopyY | (simp only [← List.map_append]; first | with_reducible apply c_sCopyY)))
  all_goals (try (first | exact z | grind [take_get, snocI, snocS, rowSnoc, getD_mem'])))
theorem Sc_sCopyRLb (r : Rules) (h : wR r ≤ 1048576) : Lp.Sem Tryz.prog (loopAt Tryz.f67 1) (lc_sCopyRLb r) := lpOK (fun k => .i ((↑k : Int) < (↑(List.map syntaxC
 r.patterns).length : Int)) (.x (↑k : Int) (List.map syntaxC r.patterns) (syntaxF (r.patterns.getD k default)) (.w (.draw [(4, [6, 7]), (5, [4, 14]), (7, [2])]) (.d [.rd]
 (P_c_sCopyY (r.patterns.getD k default)) (.p (((List.map syntaxC (List.take k r.patterns)).length + 1) * 80 ≤ 140737488355328) (.r ((↑k : Int) + 1) (.g [0, 1, 2, 3, 15] (k + 1)
 [.s (li ((↑k : Int) + 1)), .o (Ob.arr true 5 (List.map syntaxC (List.take k r.patterns) ++ [syntaxF (r.patterns.getD k default)]))])))))) (.o 0 [0, 1, 2, 3, 4] [.o (Ob.arr true 5
 (List.map syntaxC (List.take k r.patterns)))])) (by
  intro k h; try dsimp only [teasy, nthW, lc_sCopyRLb] at h ⊢
  have g := wR_eq r
  have g2 := @sumBy_mem _ wY r.patterns (r.patterns.getD k default)
  with_reducible repeat' (first | apply And.intro | exact zR | (intro; skip) | apply c_sCopyY)
  all_goals (try simp only [std, inj] at *)
  all_goals with_reducible repeat' apply And.intro
  all_goals (try (first | with_reducible apply c_sCopyY | (simp only [← List.map_append]; first | with_reducible apply c_sCopyY)))
  all_goals (try (first | exact z | grind [take_get, snocI, snocS, rowSnoc, getD_mem'])))
theorem Sc_sCopyRLa (r : Rules) (h : wR r ≤ 1048576) : Lp.Sem Tryz.prog (loopAt Tryz.f67 0) (lc_sCopyRLa r) := lpOK (fun k => .i ((↑k : Int) < (↑(List.map syntaxC
 r.literals).length : Int)) (.x (↑k : Int) (List.map syntaxC r.literals) (syntaxF (r.literals.getD k default)) (.w (.draw [(4, [5, 6]), (5, [3, 13]), (7, [2])]) (.d [.rd]
 (P_c_sCopyY (r.literals.getD k default)) (.p (((List.map syntaxC (List.take k r.literals)).length + 1) * 80 ≤ 140737488355328) (.r ((↑k : Int) + 1) (.g [0, 1, 2, 14] (k + 1) [.s
 (li ((↑k : Int) + 1)), .o (Ob.arr true 5 (List.map syntaxC (List.take k r.literals) ++ [syntaxF (r.literals.getD k default)]))])))))) (.o 0 [0, 1, 2, 3] [.o (Ob.arr true 5
 (List.map syntaxC (List.take k r.literals)))])) (by
  intro k h; try dsimp only [teasy, nthW, lc_sCopyRLa] at h ⊢
  have g := wR_eq r
  have g2 := @sumBy_mem _ wY r.literals (r.literals.getD k default)
  with_reducible repeat' (first | apply And.intro | exact zR | (intro; skip) | apply c_sCopyY)
  all_goals (try simp only [std, inj] at *)
  all_goals with_reducible repeat' apply And.intro
  all_goals (try (first | with_reducible apply c_sCopyY | (simp only [← List.map_append]; first | with_reducible apply c_sCopyY)))
  all_goals (try (first | exact z | grind [take_get, snocI, snocS, rowSnoc, getD_mem'])))
theorem c_sCopyR (r : Rules) (h : wR r ≤ 1048576)  : P_c_sCopyR r := fnOK Tryz.call67 Tryz.func67 (.z syntaxC r.literals (.w (.ghost (.nilbox 2 0 true 5)) (.l (lc_sCopyRLa r)
 (Sc_sCopyRLa r h) [0, 1, 2, 3] [.s (li 0), .o (Ob.arr true 5 [])] 0 (.t (.z syntaxC r.patterns (.w (.ghost (.nilbox 2 1 true 5)) (.l (lc_sCopyRLb r) (Sc_sCopyRLb r h) [0, 1, 2, 3,
 4] [.s (li 0), .o (Ob.arr true 5 [])] 0 (.t (.z syntaxC r.templates (.w (.ghost (.nilbox 2 2 true 5)) (.l (lc_sCopyRLc r) (Sc_sCopyRLc r h) [1, 2, 3, 4, 5] [.s (li 0), .o (Ob.arr
 true 5 [])] 0 (.t (.f [2, 3, 4] [Ob.arr true 5 (List.map syntaxC r.literals), Ob.arr true 5 (List.map syntaxC r.patterns), Ob.arr true 5 (List.map syntaxC r.templates)] (AV.sv
 (SV.agg [AC.ref 0, AC.ref 1, AC.ref 2]))) .q)))) .q)))) .q)))) (by
  dsimp only [teasy, P_c_sCopyR, nthW, lc_sCopyRLa, lc_sCopyRLb, lc_sCopyRLc]
  have g := wR_eq r
  with_reducible repeat' (first | apply And.intro | exact zR | (intro; skip) | apply c_sCopyY)
  all_goals (try simp only [std, inj] at *)
  all_goals with_reducible repeat' apply And.intro
  all_goals (try (first | with_reducible apply c_sCopyY | (simp only [← List.map_append]; first | with_reducible apply c_sCopyY)))
  all_goals (try (first | exact z | grind [snocI, snocS, rowSnoc])))
abbrev P_c_sCopyX (x : Expander) : Ct := ⟨65, [], [expanderA x], expanderO x, .sv (expanderR x 0)⟩
def lc_sCopyXLa (x : Expander) : Lp Nat := .mk 32 0 (fun x_1 => [(2, SV.one (AC.ptr 0 0)), (3, SV.one (AC.ptr 1 0)), (17, ll (List.map rulesC x.macros)), (18, li (↑(List.map rulesC
 x.macros).length : Int)), (19, hs x_1 0)]) (fun x_1 => [Ob.box [AC.val (Cell.lit (Value.slice none 0 0)), AC.val (Cell.lit (Value.slice none 0 0)), vI 0, vI 0, vI 0], Ob.box
 [AC.ref 2, AC.ref 3, vI x.scope, vI x.vari, vI x.steps], Ob.arr true 4 (List.map bindingC x.bindings), ho x_1 1]) (fun k => [.s (li (↑k : Int)), .o (Ob.arr true 3 (List.map rulesC
 (List.take k x.macros)))]) (fun k => k ≤ x.macros.length ∧ x.macros.length ≤ 9223372036854775807) (fun k => x.macros.length - k) [.mk True (.exit 0) (fun x => [(2, SV.one (AC.ptr
 0 0)), (3, SV.one (AC.ptr 1 0))]) (fun x_1 => [Ob.box [AC.val (Cell.lit (Value.slice none 0 0)), AC.val (Cell.lit (Value.slice none 0 0)), vI 0, vI 0, vI 0], Ob.box [AC.ref 2,
 AC.ref 3, vI x.scope, vI x.vari, vI x.steps], Ob.arr true 4 (List.map bindingC x.bindings), ho x_1 0]) [.o (Ob.arr true 3 (List.map rulesC x.macros))]]
theorem Sc_sCopyXLa (x : Expander) (h : wX x ≤ 1048576) : Lp.Sem Tryz.prog (loopAt Tryz.f65 0) (lc_sCopyXLa x) := lpOK (fun k => .i ((↑k : Int) < (↑(List.map rulesC
 x.macros).length : Int)) (.x (↑k : Int) (List.map rulesC x.macros) (rulesF (x.macros.getD k default)) (.w (.draw [(4, [5, 6, 7]), (5, [3, 13]), (7, [1])]) (.d [.rd] (P_c_sCopyR
 (x.macros.getD k default)) (.p (((List.map rulesC (List.take k x.macros)).length + 1) * 72 ≤ 140737488355328) (.r ((↑k : Int) + 1) (.g [0, 1, 2, 14] (k + 1) [.s (li ((↑k : Int) +
 1)), .o (Ob.arr true 3 (List.map rulesC (List.take k x.macros) ++ [rulesF (x.macros.getD k default)]))])))))) (.o 0 [0, 1, 2, 3] [.o (Ob.arr true 3 (List.map rulesC (List.take k
 x.macros)))])) (by
  intro k h; try dsimp only [teasy, nthW, lc_sCopyXLa] at h ⊢
  have g := wX_eq x
  have g2 := @sumBy_mem _ wR x.macros (x.macros.getD k default)
  with_reducible repeat' (first | apply And.intro | exact zR | (intro; skip) | apply c_sCopyB | apply c_sCopyR)
  all_goals (try simp only [std, inj] at *)
  all_goals with_reducible repeat' apply And.intro
  all_goals (try (first | with_reducible apply c_sCopyB | with_reducible apply c_sCopyR | (simp only [← List.map_append]; first | with_reducible apply c_sCopyB | with_reducible apply c_sCopyR)))
  all_goals (try (first | exact z | grind [take_get, snocI, snocS, rowSnoc, getD_mem'])))
theorem c_sCopyX (x : Expander) (h : wX x ≤ 1048576)  : P_c_sCopyX x := fnOK Tryz.call65 Tryz.func65 (.w (.draw [(11, [10])]) (.d [.rd] (P_c_sCopyB x.bindings) (.z rulesC x.macros
 (.w (.ghost (.nilbox 10 1 true 3)) (.l (lc_sCopyXLa x) (Sc_sCopyXLa x h) [1, 10, 2, 11] [.s (li 0), .o (Ob.arr true 3 [])] 0 (.t (.f [2, 3] [Ob.arr true 4 (List.map bindingC
 x.bindings), Ob.arr true 3 (List.map rulesC x.macros)] (AV.sv (SV.agg [AC.ref 0, AC.ref 1, vI x.scope, vI x.vari, vI x.steps]))) .q)))))) (by
  dsimp only [teasy, P_c_sCopyX, nthW, lc_sCopyXLa]
  have g := wX_eq x
  with_reducible repeat' (first | apply And.intro | exact zR | (intro; skip) | apply c_sCopyB | apply c_sCopyR)
  all_goals (try simp only [std, inj] at *)
  all_goals with_reducible repeat' apply And.intro
  all_goals (try (first | with_reducible apply c_sCopyB | with_reducible apply c_sCopyR | (simp only [← List.map_append]; first | with_reducible apply c_sCopyB | with_reducible apply c_sCopyR)))
  all_goals (try (first | exact z | grind [snocI, snocS, rowSnoc])))
abbrev P_c_iCopyX (x : Expander) : Ct := ⟨70, [], [expanderA x], expanderO x, .sv (expanderR x 0)⟩
def lc_iCopyXLa (x : Expander) : Lp Nat := .mk 32 0 (fun x_1 => [(2, SV.one (AC.ptr 0 0)), (3, SV.one (AC.ptr 1 0)), (17, ll (List.map rulesC x.macros)), (18, li (↑(List.map rulesC
 x.macros).length : Int)), (19, hs x_1 0)]) (fun x_1 => [Ob.box [AC.val (Cell.lit (Value.slice none 0 0)), AC.val (Cell.lit (Value.slice none 0 0)), vI 0, vI 0, vI 0], Ob.box
 [AC.ref 2, AC.ref 3, vI x.scope, vI x.vari, vI x.steps], Ob.arr true 4 (List.map bindingC x.bindings), ho x_1 1]) (fun k => [.s (li (↑k : Int)), .o (Ob.arr true 3 (List.map rulesC
 (List.take k x.macros)))]) (fun k => k ≤ x.macros.length ∧ x.macros.length ≤ 9223372036854775807) (fun k => x.macros.length - k) [.mk True (.exit 0) (fun x => [(2, SV.one (AC.ptr
 0 0)), (3, SV.one (AC.ptr 1 0))]) (fun x_1 => [Ob.box [AC.val (Cell.lit (Value.slice none 0 0)), AC.val (Cell.lit (Value.slice none 0 0)), vI 0, vI 0, vI 0], Ob.box [AC.ref 2,
 AC.ref 3, vI x.scope, vI x.vari, vI x.steps], Ob.arr true 4 (List.map bindingC x.bindings), ho x_1 0]) [.o (Ob.arr true 3 (List.map rulesC x.macros))]]
theorem Sc_iCopyXLa (x : Expander) (h : wX x ≤ 1048576) : Lp.Sem Tryz.prog (loopAt Tryz.f70 0) (lc_iCopyXLa x) := lpOK (fun k => .i ((↑k : Int) < (↑(List.map rulesC
 x.macros).length : Int)) (.x (↑k : Int) (List.map rulesC x.macros) (rulesF (x.macros.getD k default)) (.w (.draw [(4, [5, 6, 7]), (5, [3, 13]), (7, [1])]) (.d [.rd] (P_c_iCopyR
 (x.macros.getD k default)) (.p (((List.map rulesC (List.take k x.macros)).length + 1) * 72 ≤ 140737488355328) (.r ((↑k : Int) + 1) (.g [0, 1, 2, 14] (k + 1) [.s (li ((↑k : Int) +
 1)), .o (Ob.arr true 3 (List.map rulesC (List.take k x.macros) ++ [rulesF (x.macros.getD k default)]))])))))) (.o 0 [0, 1, 2, 3] [.o (Ob.arr true 3 (List.map rulesC (List.take k
 x.macros)))])) (by
  intro k h; try dsimp only [teasy, nthW, lc_iCopyXLa] at h ⊢
  have g := wX_eq x
  have g2 := @sumBy_mem _ wR x.macros (x.macros.getD k default)
  with_reducible repeat' (first | apply And.intro | exact zR | (intro; skip) | apply c_iCopyB | apply c_iCopyR)
  all_goals (try simp only [std, inj] at *)
  all_goals with_reducible repeat' apply And.intro
  all_goals (try (first | with_reducible apply c_iCopyB | with_reducible apply c_iCopyR | (simp only [← List.map_append]; first | with_reducible apply c_iCopyB | with_reducible apply c_iCopyR)))
  all_goals (try (first | exact z | grind [take_get, snocI, snocS, rowSnoc, getD_mem'])))
theorem c_iCopyX (x : Expander) (h : wX x ≤ 1048576)  : P_c_iCopyX x := fnOK Tryz.call70 Tryz.func70 (.w (.draw [(11, [10])]) (.d [.rd] (P_c_iCopyB x.bindings) (.z rulesC x.macros
 (.w (.ghost (.nilbox 10 1 true 3)) (.l (lc_iCopyXLa x) (Sc_iCopyXLa x h) [1, 10, 2, 11] [.s (li 0), .o (Ob.arr true 3 [])] 0 (.t (.f [2, 3] [Ob.arr true 4 (List.map bindingC
 x.bindings), Ob.arr true 3 (List.map rulesC x.macros)] (AV.sv (SV.agg [AC.ref 0, AC.ref 1, vI x.scope, vI x.vari, vI x.steps]))) .q)))))) (by
  dsimp only [teasy, P_c_iCopyX, nthW, lc_iCopyXLa]
  have g := wX_eq x
  with_reducible repeat' (first | apply And.intro | exact zR | (intro; skip) | apply c_iCopyB | apply c_iCopyR)
  all_goals (try simp only [std, inj] at *)
  all_goals with_reducible repeat' apply And.intro
  all_goals (try (first | with_reducible apply c_iCopyB | with_reducible apply c_iCopyR | (simp only [← List.map_append]; first | with_reducible apply c_iCopyB | with_reducible apply c_iCopyR)))
  all_goals (try (first | exact z | grind [snocI, snocS, rowSnoc])))
def cdF (c e : Int) : Int := if c = 0 then e else c
abbrev stO (x : Expander) (z c : Int) : List Ob := [.box [.ref 1, .ref 2, vI x.scope, vI x.vari, vI x.steps, vI z, vI c], .arr true 4 (x.bindings.map bindingC), .arr true 3 (x.macros.map rulesC)]
abbrev stI (x : Expander) (z : Int) : List Ob := [.box [.ref 1, .ref 2, vI x.scope, vI x.vari, vI x.steps, vI z], .arr true 4 (x.bindings.map bindingC), .arr true 3 (x.macros.map rulesC)]
abbrev P_c_sFail (x : Expander) (z : Int) (c : Int) (e : Int) : Ct := ⟨139, stO x z c, [.one (.ptr 0 0), li e], stO x z (cdF c e), .sv (.agg [vI 0, vI 0, .val (.lit (.slice none 0 0)), vI 0, vI 0, vS (mkS []), .val (.lit (.slice none 0 0)), .val (.lit (.slice none 0 0))])⟩
theorem c_sFail (x : Expander) (z c e : Int)  : P_c_sFail x z c e := fnOK Tryz.call139 Tryz.func139 (.i (c = 0) (.f [] [Ob.box [AC.ref 1, AC.ref 2, vI x.scope, vI x.vari, vI x.steps,
 vI z, vI e], Ob.arr true 4 (List.map bindingC x.bindings), Ob.arr true 3 (List.map rulesC x.macros)] (AV.sv (SV.agg [vI 0, vI 0, AC.val (Cell.lit (Value.slice none 0 0)), vI 0, vI
 0, vS (ByteArray.mk #[]), AC.val (Cell.lit (Value.slice none 0 0)), AC.val (Cell.lit (Value.slice none 0 0))]))) (.f [] [Ob.box [AC.ref 1, AC.ref 2, vI x.scope, vI x.vari, vI
 x.steps, vI z, vI c], Ob.arr true 4 (List.map bindingC x.bindings), Ob.arr true 3 (List.map rulesC x.macros)] (AV.sv (SV.agg [vI 0, vI 0, AC.val (Cell.lit (Value.slice none 0 0)),
 vI 0, vI 0, vS (ByteArray.mk #[]), AC.val (Cell.lit (Value.slice none 0 0)), AC.val (Cell.lit (Value.slice none 0 0))])))) (by
  dsimp only [teasy, P_c_sFail]
  with_reducible repeat' (first | apply And.intro | exact zR | (intro; skip))
  all_goals (try simp only [std, inj] at *)
  all_goals with_reducible repeat' apply And.intro
  all_goals (try (first | exact z | grind [cdF, snocI, snocS, rowSnoc])))
theorem isExp_scope {x : Expander} (h : isExp x = true) : 0 ≤ x.scope ∧ x.scope ≤ 99999 ∧ 0 ≤ x.vari ∧ x.vari ≤ 99999 ∧ 0 ≤ x.steps ∧ x.steps ≤ 200 ∧ (x.macros.length : Int) ≤ 200 ∧ (x.bindings.length : Int) ≤ 1000 := by
  simp only [isExp, areB, Bool.and_eq_true, decide_eq_true_eq] at h
  omega
def bdE (x : Expander) (t : ByteArray) (s : List Int) : Int := if clash x.bindings t s = true then 4 else if 1000 ≤ (x.bindings.length : Int) then 8 else 0
def bdL (x : Expander) (id : Syntax) (kind n : Int) : List Binding := if bdE x id.text id.scopes = 0 then x.bindings ++ [⟨id.text, id.scopes, kind, n⟩] else x.bindings
theorem bdL_yes {x : Expander} {id : Syntax} {kind n : Int} (h : bdE x id.text id.scopes = 0) : bdL x id kind n = x.bindings ++ [⟨id.text, id.scopes, kind, n⟩] := if_pos h
def addB (L : List Binding) (b : Binding) : List Binding := if 1000 ≤ (L.length : Int) ∨ clash L b.text b.scopes = true then L else L ++ [b]
theorem addB_no {L : List Binding} {b : Binding} (h : 1000 ≤ (L.length : Int) ∨ clash L b.text b.scopes = true) : addB L b = L := if_pos h
theorem addB_yes {L : List Binding} {b : Binding} (h : ¬ (1000 ≤ (L.length : Int) ∨ clash L b.text b.scopes = true)) : addB L b = L ++ [b] := if_neg h
def idX (x : Expander) (id : Syntax) : Bool := isExp x && isId id && blw x.scope id
abbrev P_c_sIdX (x : Expander) (id : Syntax) : Ct := ⟨62, [], [expanderA x, syntaxA id], [], .sv (lb (idX x id))⟩
theorem c_sIdX (x : Expander) (id : Syntax) (h : wX x ≤ 1048576)  : P_c_sIdX x id := fnOK Tryz.call62 Tryz.func62 (.d [.rd] (P_c_sIsExp x) (.b (isExp x) (.c [.rd] (c_sIsId id) (.b
 (decide (id.kind = 1) && isSyn id) (.c [.rd, .rd] (c_sBelow id x.scope) (.s (lb (blw x.scope id)))) (.s (lb false)))) (.y false (.s (lb false))))) (by
  dsimp only [teasy, P_c_sIdX]
  with_reducible repeat' (first | apply And.intro | exact zR | (intro; skip) | apply c_sIsExp)
  all_goals (try simp only [std, inj] at *)
  all_goals with_reducible repeat' apply And.intro
  all_goals (try (first | with_reducible apply c_sIsExp | (simp only [← List.map_append]; first | with_reducible apply c_sIsExp)))
  all_goals (try (first | exact z | grind [idX, isId, snocI, snocS, rowSnoc])))
def bmE (x : Expander) (id : Syntax) : Int := if 200 ≤ (x.macros.length : Int) then 8 else bdE x id.text id.scopes
def bmL (x : Expander) (r : Rules) : List Rules := if 200 ≤ (x.macros.length : Int) then x.macros else x.macros ++ [r]
def bmB (x : Expander) (id : Syntax) (r : Rules) : Bool := idX x id && isRul r && rulB x.scope r && decide (bmE x id = 0)
def bmBs (x : Expander) (id : Syntax) (r : Rules) : List Binding := if bmB x id r = true then x.bindings ++ [⟨id.text, id.scopes, 4, (x.macros.length : Int)⟩] else x.bindings
def bmMs (x : Expander) (id : Syntax) (r : Rules) : List Rules := if bmB x id r = true then x.macros ++ [r] else x.macros
abbrev P_c_iMac (x : Expander) (z : Int) (id : Syntax) (r : Rules) : Ct := ⟨76, stI x z, [.one (.ptr 0 0), syntaxA id, rulesA r], [.box [.ref 3, .ref 4, vI x.scope, vI x.vari, vI x.steps, vI z], .dead, .dead, .arr true 4 ((if bmE x id = 0 then x.bindings ++ [⟨id.text, id.scopes, 4, (x.macros.length : Int)⟩] else x.bindings).map bindingC), .arr true 3 ((if bmE x id = 0 then x.macros ++ [r] else x.macros).map rulesC)], .sv (li (bmE x id))⟩
theorem c_iMac (x : Expander) (z : Int) (id : Syntax) (r : Rules) (h : wX x ≤ 1048576 ∧ wY id ≤ 1048576 ∧ wR r ≤ 1048576)  : P_c_iMac x z id r := fnOK Tryz.call76 Tryz.func76 (.z
 rulesC x.macros (.i (200 ≤ (↑(List.map rulesC x.macros).length : Int)) (.w (.ghost (.move 1)) (.w (.ghost (.move 2)) (.f [5, 6] [Ob.box [AC.ref 3, AC.ref 4, vI x.scope, vI x.vari,
 vI x.steps, vI z], Ob.dead, Ob.dead, Ob.arr true 4 (List.map bindingC x.bindings), Ob.arr true 3 (List.map rulesC x.macros)] (AV.sv (li 8))))) (.w (.draw []) (.c [.rd, .rd, .rd]
 (c_iClash x.bindings id.text id.scopes) (.b (clash x.bindings id.text id.scopes) (.w (.ghost (.move 1)) (.w (.ghost (.move 2)) (.f [5, 6] [Ob.box [AC.ref 3, AC.ref 4, vI x.scope,
 vI x.vari, vI x.steps, vI z], Ob.dead, Ob.dead, Ob.arr true 4 (List.map bindingC x.bindings), Ob.arr true 3 (List.map rulesC x.macros)] (AV.sv (li 4))))) (.z bindingC x.bindings
 (.i (1000 ≤ (↑(List.map bindingC x.bindings).length : Int)) (.w (.ghost (.move 1)) (.w (.ghost (.move 2)) (.f [5, 6] [Ob.box [AC.ref 3, AC.ref 4, vI x.scope, vI x.vari, vI
 x.steps, vI z], Ob.dead, Ob.dead, Ob.arr true 4 (List.map bindingC x.bindings), Ob.arr true 3 (List.map rulesC x.macros)] (AV.sv (li 8))))) (.w (.draw [(18, [5]), (19, [1, 13]),
 (23, [0])]) (.d [.rd] (P_c_yIInts id.scopes) (.p (((List.map bindingC x.bindings).length + 1) * 56 ≤ 140737488355328) (.z rulesC x.macros (.w (.draw [(8, [15, 16, 17]), (9, [2,
 23]), (13, [0])]) (.d [.rd] (P_c_iCopyR r) (.p (((List.map rulesC x.macros).length + 1) * 72 ≤ 140737488355328) (.f [14, 24] [Ob.box [AC.ref 3, AC.ref 4, vI x.scope, vI x.vari, vI
 x.steps, vI z], Ob.dead, Ob.dead, Ob.arr true 4 (List.map bindingC x.bindings ++ [[cS id.text, Cell.list (List.map intC id.scopes), cI 4, cI (↑(List.map rulesC x.macros).length :
 Int)]]), Ob.arr true 3 (List.map rulesC x.macros ++ [rulesF r])] (AV.sv (li 0))))))))))))))))) (by
  dsimp only [teasy, P_c_iMac]
  have g1 := wX_eq x
  have g2 := wY_eq id
  have g3 : x.bindings.map bindingC ++ [[cS id.text, Cell.list (id.scopes.map intC), cI 4, cI (x.macros.length : Int)]] = (x.bindings ++ [(⟨id.text, id.scopes, 4, (x.macros.length : Int)⟩ : Binding)]).map bindingC := rowSnoc (C := bindingC) x.bindings ⟨id.text, id.scopes, 4, (x.macros.length : Int)⟩
  with_reducible repeat' (first | apply And.intro | exact zR | (intro; skip) | apply c_yIInts | apply c_iCopyR)
  all_goals (try simp only [std, inj] at *)
  all_goals with_reducible repeat' apply And.intro
  all_goals (try (first | with_reducible apply c_yIInts | with_reducible apply c_iCopyR | (simp only [← List.map_append]; first | with_reducible apply c_yIInts | with_reducible apply c_iCopyR)))
  all_goals (try (first | exact z | grind [bmE, bdE, snocI, snocS, rowSnoc])))
abbrev P_c_iBindM (x : Expander) (id : Syntax) (r : Rules) : Ct := ⟨18, [], [expanderA x, syntaxA id, rulesA r], [.arr true 4 ((bmBs x id r).map bindingC), .arr true 3 ((bmMs x id r).map rulesC)], .tup [.agg [.ref 0, .ref 1, vI x.scope, vI x.vari, vI x.steps], lb (bmB x id r)]⟩
theorem c_iBindM (x : Expander) (id : Syntax) (r : Rules) (h : wX x ≤ 1048576 ∧ wY id ≤ 1048576 ∧ wR r ≤ 1048576)  : P_c_iBindM x id r := fnOK Tryz.call18 Tryz.func18 (.d [.rd]
 (P_c_iCopyX x) (.d [.rd] (P_c_iIsExp x) (.b (!isExp x) (.y true (.y true (.y true (.y true (.f [4, 5] [Ob.arr true 4 (List.map bindingC x.bindings), Ob.arr true 3 (List.map rulesC
 x.macros)] (AV.tup [SV.agg [AC.ref 0, AC.ref 1, vI x.scope, vI x.vari, vI x.steps], lb false])))))) (.c [.rd] (c_iIsId id) (.b (!(decide (id.kind = 1) && isSyn id)) (.y true (.y
 true (.y true (.f [4, 5] [Ob.arr true 4 (List.map bindingC x.bindings), Ob.arr true 3 (List.map rulesC x.macros)] (AV.tup [SV.agg [AC.ref 0, AC.ref 1, vI x.scope, vI x.vari, vI
 x.steps], lb false]))))) (.c [.rd, .rd] (c_iBelow id x.scope) (.b (!blw x.scope id) (.y true (.y true (.f [4, 5] [Ob.arr true 4 (List.map bindingC x.bindings), Ob.arr true 3
 (List.map rulesC x.macros)] (AV.tup [SV.agg [AC.ref 0, AC.ref 1, vI x.scope, vI x.vari, vI x.steps], lb false])))) (.d [.rd] (P_c_iIsRules r) (.b (!isRul r) (.y true (.f [4, 5]
 [Ob.arr true 4 (List.map bindingC x.bindings), Ob.arr true 3 (List.map rulesC x.macros)] (AV.tup [SV.agg [AC.ref 0, AC.ref 1, vI x.scope, vI x.vari, vI x.steps], lb false]))) (.c
 [.rd, .rd] (c_iRulB r x.scope) (.b (!rulB x.scope r) (.f [4, 5] [Ob.arr true 4 (List.map bindingC x.bindings), Ob.arr true 3 (List.map rulesC x.macros)] (AV.tup [SV.agg [AC.ref 0,
 AC.ref 1, vI x.scope, vI x.vari, vI x.steps], lb false])) (.d [.ptr, .rd, .rd] (P_c_iMac x 0 id r) (.f [10, 11] [Ob.arr true 4 (List.map bindingC (if bmE x id = 0 then x.bindings
 ++ [Binding.mk id.text id.scopes 4 (↑x.macros.length : Int)] else x.bindings)), Ob.arr true 3 (List.map rulesC (if bmE x id = 0 then x.macros ++ [r] else x.macros))] (AV.tup
 [SV.agg [AC.ref 0, AC.ref 1, vI x.scope, vI x.vari, vI x.steps], lb (decide (bmE x id = 0))])))))))))))))) (by
  dsimp only [teasy, P_c_iBindM]
  have g1 := @isExp_scope x
  with_reducible repeat' (first | apply And.intro | exact zR | (intro; skip) | apply c_iIsExp | apply c_iIsId | apply c_iBelow | apply c_iIsRules | apply c_iCopyX | apply c_iMac)
  all_goals (try simp only [std, inj] at *)
  all_goals with_reducible repeat' apply And.intro
  all_goals (try (first | with_reducible apply c_iIsExp | with_reducible apply c_iIsId | with_reducible apply c_iBelow | with_reducible apply c_iIsRules | with_reducible apply c_iCopyX | with_reducible apply c_iMac | (simp only [← List.map_append]; first | with_reducible apply c_iIsExp | with_reducible apply c_iIsId | with_reducible apply c_iBelow | with_reducible apply c_iIsRules | with_reducible apply c_iCopyX | with_reducible apply c_iMac)))
  all_goals (try (first | exact z | grind [bmBs, bmMs, bmB, idX, isId, snocI, snocS, rowSnoc])))
end Go.Proofs.YtpnaoendfpaodaaGreat
end
section
namespace Go.Proofs.YtpnaoendfpaodaaGreat
open Go Go.Proofs.YtpnaoendfpaodaaGreat.Ab
set_option linter.unusedVariables false
set_option linter.unusedSimpArgs false
set_option maxHeartbeats 4000000
abbrev P_c_sAddC (L : List Binding) (b : Binding) : Ct := ⟨226, [.arr true 4 (L.map bindingC)], [.one (.ref 0), bindingA b], [.dead, .arr true 4 ((addB L b).map bindingC)], .tup [.one (.ref 1), lb (!(decide (1000 ≤ (L.length : Int)) || clash L b.text b.scopes))]⟩
theorem c_sAddC (L : List Binding) (b : Binding) (h : L.length ≤ 1048577 ∧ sumBy wB L ≤ 1048577 ∧ wB b ≤ 1048577)  : P_c_sAddC L b := fnOK Tryz.call226 Tryz.func226 (.z bindingC L
 (.i (1000 ≤ (↑(List.map bindingC L).length : Int)) (.y true (.w (.ghost (.move 0)) (.f [2] [Ob.dead, Ob.arr true 4 (List.map bindingC L)] (AV.tup [SV.one (AC.ref 1), lb false]))))
 (.c [.rd, .rd] (c_sClash L b) (.b (clash L b.text b.scopes) (.w (.ghost (.move 0)) (.f [2] [Ob.dead, Ob.arr true 4 (List.map bindingC L)] (AV.tup [SV.one (AC.ref 1), lb false])))
 (.w (.draw [(5, [2, 11])]) (.d [.rd] (P_c_sCopyB L) (.d [.rd] (P_c_sCopyB [b]) (.p (((List.map bindingC L).length + 1) * 56 ≤ 140737488355328) (.w (.ghost (.move 0)) (.f [19]
 [Ob.dead, Ob.arr true 4 (List.map bindingC L ++ [bindingF b])] (AV.tup [SV.one (AC.ref 1), lb true]))))))))))) (by
  dsimp only [teasy, P_c_sAddC]
  have g : sumBy wB [b] = wB b := rfl
  have g2 : [b].length = 1 := rfl
  have g3 := @addB_no L b
  have g4 := @addB_yes L b
  with_reducible repeat' (first | apply And.intro | exact zR | (intro; skip) | apply c_sCopyB)
  all_goals (try simp only [std, inj] at *)
  all_goals with_reducible repeat' apply And.intro
  all_goals (try (first | with_reducible apply c_sCopyB | (simp only [← List.map_append]; first | with_reducible apply c_sCopyB)))
  all_goals (try (first | exact z | grind [snocI, snocS, rowSnoc])))
end Go.Proofs.YtpnaoendfpaodaaGreat
end
section
namespace Go.Proofs.YtpnaoendfpaodaaGreat
open Go Go.Proofs.YtpnaoendfpaodaaGreat.Ab
set_option linter.unusedVariables false
set_option linter.unusedSimpArgs false
set_option maxHeartbeats 4000000
abbrev stT (M : List Rules) (sc va st z c : Int) : List Ob := [.box [.top, .ref 1, vI sc, vI va, vI st, vI z, vI c], .arr true 3 (M.map rulesC)]
abbrev P_c_sFailT (M : List Rules) (sc : Int) (va : Int) (st : Int) (z : Int) (c : Int) (e : Int) : Ct := ⟨139, stT M sc va st z c, [.one (.ptr 0 0), li e], stT M sc va st z (cdF c e), .sv (.agg [vI 0, vI 0, .val (.lit (.slice none 0 0)), vI 0, vI 0, vS (mkS []), .val (.lit (.slice none 0 0)), .val (.lit (.slice none 0 0))])⟩
theorem c_sFailT (M : List Rules) (sc va st z c e : Int)  : P_c_sFailT M sc va st z c e := fnOK Tryz.call139 Tryz.func139 (.i (c = 0) (.f [] [Ob.box [AC.top, AC.ref 1, vI sc, vI va,
 vI st, vI z, vI e], Ob.arr true 3 (List.map rulesC M)] (AV.sv (SV.agg [vI 0, vI 0, AC.val (Cell.lit (Value.slice none 0 0)), vI 0, vI 0, vS (ByteArray.mk #[]), AC.val (Cell.lit
 (Value.slice none 0 0)), AC.val (Cell.lit (Value.slice none 0 0))]))) (.f [] [Ob.box [AC.top, AC.ref 1, vI sc, vI va, vI st, vI z, vI c], Ob.arr true 3 (List.map rulesC M)] (AV.sv
 (SV.agg [vI 0, vI 0, AC.val (Cell.lit (Value.slice none 0 0)), vI 0, vI 0, vS (ByteArray.mk #[]), AC.val (Cell.lit (Value.slice none 0 0)), AC.val (Cell.lit (Value.slice none 0
 0))])))) (by
  dsimp only [teasy, P_c_sFailT]
  with_reducible repeat' (first | apply And.intro | exact zR | (intro; skip))
  all_goals (try simp only [std, inj] at *)
  all_goals with_reducible repeat' apply And.intro
  all_goals (try (first | exact z | grind [cdF, snocI, snocS, rowSnoc])))
abbrev P_c_sBind1 (x : Expander) (z : Int) (c : Int) (id : Syntax) (kind : Int) (n : Int) : Ct := ⟨140, stO x z c, [.one (.ptr 0 0), syntaxA id, li kind, li n], [.box [.ref 3, .ref 2, vI x.scope, vI x.vari, vI x.steps, vI z, vI (if bdE x id.text id.scopes = 0 then c else cdF c (bdE x id.text id.scopes))], .dead, .arr true 3 (x.macros.map rulesC), .arr true 4 ((bdL x id kind n).map bindingC)], .tup []⟩
theorem c_sBind1 (x : Expander) (z c : Int) (id : Syntax) (kind n : Int) (h : wX x ≤ 1048576 ∧ wY id ≤ 1048576)  : P_c_sBind1 x z c id kind n := fnOK Tryz.call140 Tryz.func140 (.w
 (.draw []) (.c [.rd, .rd] (c_sClash x.bindings (Binding.mk id.text id.scopes kind n)) (.b (clash x.bindings id.text id.scopes) (.c [.ptr, .rd] (c_sFail x z c 4) (.w (.ghost (.move
 1)) (.f [5] [Ob.box [AC.ref 3, AC.ref 2, vI x.scope, vI x.vari, vI x.steps, vI z, vI (cdF c 4)], Ob.dead, Ob.arr true 3 (List.map rulesC x.macros), Ob.arr true 4 (List.map
 bindingC x.bindings)] (AV.tup [])))) (.w (.draw [(6, [1])]) (.d [.own true 4, .rd] (P_c_sAddC x.bindings (Binding.mk id.text id.scopes kind n)) (.b (!!(decide (1000 ≤
 (↑x.bindings.length : Int)) || clash x.bindings id.text id.scopes)) (.w (.ghost (.blank 0 0)) (.c [.ptr, .rd] (c_sFailT x.macros x.scope x.vari x.steps z c 8) (.f [6] [Ob.box
 [AC.ref 3, AC.ref 2, vI x.scope, vI x.vari, vI x.steps, vI z, vI (cdF c 8)], Ob.dead, Ob.arr true 3 (List.map rulesC x.macros), Ob.arr true 4 (List.map bindingC (addB x.bindings
 (Binding.mk id.text id.scopes kind n)))] (AV.tup [])))) (.f [6] [Ob.box [AC.ref 3, AC.ref 2, vI x.scope, vI x.vari, vI x.steps, vI z, vI c], Ob.dead, Ob.arr true 3 (List.map
 rulesC x.macros), Ob.arr true 4 (List.map bindingC (addB x.bindings (Binding.mk id.text id.scopes kind n)))] (AV.tup [])))))))) (by
  dsimp only [teasy, P_c_sBind1]
  have g1 := wX_eq x
  have g2 := wY_eq id
  have g3 : wB ⟨id.text, id.scopes, kind, n⟩ = id.text.size + id.scopes.length := rfl
  have g4 := @addB_no x.bindings ⟨id.text, id.scopes, kind, n⟩
  have g5 := @addB_yes x.bindings ⟨id.text, id.scopes, kind, n⟩
  with_reducible repeat' (first | apply And.intro | exact zR | (intro; skip) | apply c_sAddC)
  all_goals (try simp only [std, inj] at *)
  all_goals with_reducible repeat' apply And.intro
  all_goals (try (first | with_reducible apply c_sAddC | (simp only [← List.map_append]; first | with_reducible apply c_sAddC)))
  all_goals (try (first | exact z | grind [bdE, bdL, snocI, snocS, rowSnoc])))
abbrev P_c_sMac1 (x : Expander) (z : Int) (c : Int) (id : Syntax) (r : Rules) : Ct := ⟨66, [.box [.ref 1, .ref 2, vI x.scope, vI x.vari, vI x.steps, vI z, vI c], .arr true 4 (x.bindings.map bindingC), .arr true 3 (x.macros.map rulesC), .arr true 5 (r.literals.map syntaxC), .arr true 5 (r.patterns.map syntaxC), .arr true 5 (r.templates.map syntaxC)], [.one (.ptr 0 0), syntaxA id, .agg [.ref 3, .ref 4, .ref 5]], [.box [.ref 6, .ref 7, vI x.scope, vI x.vari, vI x.steps, vI z, vI (if bmE x id = 0 then c else cdF c (bmE x id))], .dead, .dead, .dead, .dead, .dead, .arr true 4 ((if 200 ≤ (x.macros.length : Int) then x.bindings else bdL x id 4 (x.macros.length : Int)).map bindingC), .arr true 3 ((bmL x r).map rulesC)], .tup []⟩
theorem c_sMac1 (x : Expander) (z c : Int) (id : Syntax) (r : Rules) (h : wX x ≤ 1048576 ∧ wY id ≤ 1048576)  : P_c_sMac1 x z c id r := fnOK Tryz.call66 Tryz.func66 (.z rulesC
 x.macros (.i (200 ≤ (↑(List.map rulesC x.macros).length : Int)) (.c [.ptr, .rd] (c_sFail x z c 8) (.w (.ghost (.move 1)) (.w (.ghost (.move 2)) (.w (.ghost (.move 3)) (.w (.ghost
 (.move 4)) (.w (.ghost (.move 5)) (.f [8, 9] [Ob.box [AC.ref 6, AC.ref 7, vI x.scope, vI x.vari, vI x.steps, vI z, vI (cdF c 8)], Ob.dead, Ob.dead, Ob.dead, Ob.dead, Ob.dead,
 Ob.arr true 4 (List.map bindingC x.bindings), Ob.arr true 3 (List.map rulesC x.macros)] (AV.tup [])))))))) (.w (.draw [(8, [0, 1, 2])]) (.d [.ptr, .rd, .rd, .rd] (P_c_sBind1 x z c
 id 4 (↑(List.map rulesC x.macros).length : Int)) (.z rulesC x.macros (.w (.draw [(7, [3, 4, 5]), (8, [2, 12]), (12, [0])]) (.p (((List.map rulesC x.macros).length + 1) * 72 ≤
 140737488355328) (.f [11, 13] [Ob.box [AC.ref 6, AC.ref 7, vI x.scope, vI x.vari, vI x.steps, vI z, vI (if bdE x id.text id.scopes = 0 then c else cdF c (bdE x id.text
 id.scopes))], Ob.dead, Ob.dead, Ob.dead, Ob.dead, Ob.dead, Ob.arr true 4 (List.map bindingC (bdL x id 4 (↑(List.map rulesC x.macros).length : Int))), Ob.arr true 3 (List.map
 rulesC x.macros ++ [rulesF r])] (AV.tup []))))))))) (by
  dsimp only [teasy, P_c_sMac1]
  have g1 := wX_eq x
  have g2 : bmE x id = if 200 ≤ (x.macros.length : Int) then 8 else bdE x id.text id.scopes := rfl
  with_reducible repeat' (first | apply And.intro | exact zR | (intro; skip) | apply c_sBind1)
  all_goals (try simp only [std, inj] at *)
  all_goals with_reducible repeat' apply And.intro
  all_goals (try (first | with_reducible apply c_sBind1 | (simp only [← List.map_append]; first | with_reducible apply c_sBind1)))
  all_goals (try (first | exact z | grind [bmL, snocI, snocS, rowSnoc])))
abbrev P_c_sBMac (x : Expander) (id : Syntax) (r : Rules) : Ct := ⟨14, [], [expanderA x, syntaxA id, rulesA r], [.arr true 4 ((bmBs x id r).map bindingC), .arr true 3 ((bmMs x id r).map rulesC)], .tup [.agg [.ref 0, .ref 1, vI x.scope, vI x.vari, vI x.steps], lb (bmB x id r)]⟩
theorem c_sBMac (x : Expander) (id : Syntax) (r : Rules) (h : wX x ≤ 1048576 ∧ wY id ≤ 1048576 ∧ wR r ≤ 1048576)  : P_c_sBMac x id r := fnOK Tryz.call14 Tryz.func14 (.d [.rd, .rd]
 (P_c_sIdX x id) (.b (!idX x id) (.y true (.y true (.d [.rd] (P_c_sCopyX x) (.f [4, 5] [Ob.arr true 4 (List.map bindingC x.bindings), Ob.arr true 3 (List.map rulesC x.macros)]
 (AV.tup [SV.agg [AC.ref 0, AC.ref 1, vI x.scope, vI x.vari, vI x.steps], lb false]))))) (.d [.rd] (P_c_sIsRules r) (.b (!isRul r) (.y true (.d [.rd] (P_c_sCopyX x) (.f [4, 5]
 [Ob.arr true 4 (List.map bindingC x.bindings), Ob.arr true 3 (List.map rulesC x.macros)] (AV.tup [SV.agg [AC.ref 0, AC.ref 1, vI x.scope, vI x.vari, vI x.steps], lb false])))) (.c
 [.rd, .rd] (c_sRulB r x.scope) (.b (!rulB x.scope r) (.d [.rd] (P_c_sCopyX x) (.f [4, 5] [Ob.arr true 4 (List.map bindingC x.bindings), Ob.arr true 3 (List.map rulesC x.macros)]
 (AV.tup [SV.agg [AC.ref 0, AC.ref 1, vI x.scope, vI x.vari, vI x.steps], lb false]))) (.d [.rd] (P_c_sCopyX x) (.w (.draw [(4, [6, 4, 5, 7, 8, 9])]) (.d [.rd] (P_c_sCopyR r) (.d
 [.ptr, .rd, .agg [some (true, 5), some (true, 5), some (true, 5)]] (P_c_sMac1 x 0 0 id r) (.i ((if bmE x id = 0 then 0 else cdF 0 (bmE x id)) ≠ 0) (.d [.rd] (P_c_sCopyX x) (.f
 [23, 24] [Ob.arr true 4 (List.map bindingC x.bindings), Ob.arr true 3 (List.map rulesC x.macros)] (AV.tup [SV.agg [AC.ref 0, AC.ref 1, vI x.scope, vI x.vari, vI x.steps], lb
 false]))) (.f [21, 22] [Ob.arr true 4 (List.map bindingC (if 200 ≤ (↑x.macros.length : Int) then x.bindings else bdL x id 4 (↑x.macros.length : Int))), Ob.arr true 3 (List.map
 rulesC (bmL x r))] (AV.tup [SV.agg [AC.ref 0, AC.ref 1, vI x.scope, vI x.vari, vI x.steps], lb true]))))))))))))) (by
  dsimp only [teasy, P_c_sBMac]
  have g1 := @isExp_scope x
  have g2 : bmE x id = if 200 ≤ (x.macros.length : Int) then 8 else bdE x id.text id.scopes := rfl
  have g3 := @bdL_yes x id 4 (x.macros.length : Int)
  have g5 : idX x id = true → isExp x = true := fun h => by simp only [idX, Bool.and_eq_true] at h; exact h.1.1
  with_reducible repeat' (first | apply And.intro | exact zR | (intro; skip) | apply c_sIdX | apply c_sIsRules | apply c_sCopyX | apply c_sCopyR | apply c_sMac1)
  all_goals (try simp only [std, inj] at *)
  all_goals with_reducible repeat' apply And.intro
  all_goals (try (first | with_reducible apply c_sIdX | with_reducible apply c_sIsRules | with_reducible apply c_sCopyX | with_reducible apply c_sCopyR | with_reducible apply c_sMac1 | (simp only [← List.map_append]; first | with_reducible apply c_sIdX | with_reducible apply c_sIsRules | with_reducible apply c_sCopyX | with_reducible apply c_sCopyR | with_reducible apply c_sMac1)))
  all_goals (try (first | exact z | grind [bmBs, bmMs, bmB, bmL, cdF, snocI, snocS, rowSnoc])))
end Go.Proofs.YtpnaoendfpaodaaGreat
end
section
namespace Go.Proofs.YtpnaoendfpaodaaGreat
open Go Go.Proofs.YtpnaoendfpaodaaGreat.Ab
set_option linter.unusedVariables false
set_option linter.unusedSimpArgs false
set_option maxHeartbeats 4000000
abbrev P_c_markIntS (L : List Int) (n : Int) : Ct := ⟨80, [.arr true 1 (L.map intC)], [.one (.ref 0), li n], [.arr true 1 ((seqM mkI cOne L n).map intC)], .sv (li (n + L.length))⟩
def lc_markIntSLa (L : List Int) (n : Int) : Lp Nat := .mk 19 1 (fun x => [(0, SV.one (AC.ref 0)), (1, hs x 1), (5, hs x 0)]) (fun x => [ho x 2]) (fun k => [.s (li (↑k : Int)), .s
 (li (n + (↑k : Int))), .o (Ob.arr true 1 (List.map intC (mkTo mkI cOne L n k)))]) (fun k => k ≤ L.length ∧ L.length ≤ 9223372036854775807) (fun k => L.length - k) [.mk True (.exit
 0) (fun x => [(1, hs x 0)]) (fun x => [ho x 1]) [.s (li (n + (↑L.length : Int))), .o (Ob.arr true 1 (List.map intC (seqM mkI cOne L n)))]]
theorem Sc_markIntSLa (L : List Int) (n : Int) (h0 : 0 ≤ n) (h : n + (↑L.length : Int) ≤ 2147483647) : Lp.Sem Tryz.prog (loopAt Tryz.f80 0) (lc_markIntSLa L n) := lpOK (fun k => .z
 intC (mkTo mkI cOne L n k) (.i ((↑k : Int) < (↑(List.map intC (mkTo mkI cOne L n k)).length : Int)) (.p (0 ≤ (↑k : Int) ∧ (↑k : Int).toNat < (List.map intC (mkTo mkI cOne L n
 k)).length) (.w (.cells (intC (L.getD (↑k : Int).toNat default))) (.p ((List.map intC (mkTo mkI cOne L n k))[(↑k : Int).toNat]? = some [cI (L.getD (↑k : Int).toNat 0)]) (.r (n +
 (↑k : Int) + 1) (.r ((↑k : Int) + 1) (.g [0] (k + 1) [.s (li ((↑k : Int) + 1)), .s (li (n + (↑k : Int) + 1)), .o (Ob.arr true 1 ((List.map intC (mkTo mkI cOne L n k)).set (↑k :
 Int).toNat [cI (n + (↑k : Int))]))])))))) (.o 0 [0] [.s (li (n + (↑k : Int))), .o (Ob.arr true 1 (List.map intC (mkTo mkI cOne L n k)))]))) (by
  intro k h; try dsimp only [teasy, nthW, lc_markIntSLa] at h ⊢
  with_reducible repeat' (first | apply And.intro | exact zR | (intro; skip))
  all_goals (try simp only [std, stdM, inj] at *)
  all_goals with_reducible repeat' apply And.intro
  all_goals (try (first | exact z | ((first | refine rowGet ?_ | refine getC ?_ rfl); (first | omega | (simp only [std, stdM]; omega) | grind)) | (refine set_row ?_; (simp only [List.length_map, List.length_set, mkTo_len]; omega)) | (refine mkToRow ?_; (first | omega | (simp only [std, stdM]; omega) | grind)) | (refine mkTo_row ?_ rfl; (first | omega | (simp only [std, stdM]; omega) | grind)) | (refine mkTo_step ?_ ?_; (first | omega | (simp only [std, stdM]; omega) | grind); (first | grind [mkTo_all, mkI, cOne_take, intC, mkTo_get, snocI, snocS, rowSnoc])) | grind [mkTo_all, mkI, cOne_take, intC, mkTo_get, snocI, snocS, rowSnoc])))
theorem c_markIntS (L : List Int) (n : Int) (h0 : 0 ≤ n) (h : n + L.length ≤ 2147483647)  : P_c_markIntS L n := fnOK Tryz.call80 Tryz.func80 (.l (lc_markIntSLa L n) (Sc_markIntSLa L
 n h0 h) [0] [.s (li 0), .s (li n), .o (Ob.arr true 1 (List.map intC L))] 0 (.t (.f [] [Ob.arr true 1 (List.map intC (seqM mkI cOne L n))] (AV.sv (li (n + (↑L.length : Int)))))
 .q)) (by
  dsimp only [teasy, P_c_markIntS, nthW, lc_markIntSLa]
  with_reducible repeat' (first | apply And.intro | exact zR | (intro; skip))
  all_goals (try simp only [std, stdM, inj] at *)
  all_goals with_reducible repeat' apply And.intro
  all_goals (try (first | exact z | ((first | refine rowGet ?_ | refine getC ?_ rfl); (first | omega | (simp only [std, stdM]; omega) | grind)) | (refine set_row ?_; (simp only [List.length_map, List.length_set, mkTo_len]; omega)) | (refine mkToRow ?_; (first | omega | (simp only [std, stdM]; omega) | grind)) | (refine mkTo_row ?_ rfl; (first | omega | (simp only [std, stdM]; omega) | grind)) | (refine mkTo_step ?_ ?_; (first | omega | (simp only [std, stdM]; omega) | grind); (first | grind [mkTo_zero, snocI, snocS, rowSnoc])) | grind [mkTo_zero, snocI, snocS, rowSnoc])))
abbrev P_c_markText (n : Int) : Ct := ⟨95, [], [li n], [], .sv (ls (mText n))⟩
def lc_markTextLa (n : Int) : Lp (Int × List UInt8) := .mk 20 0 (fun x => [(0, hs x 0), (3, hs x 1)]) (fun x => []) (fun k => [.s (li k.fst), .s (ls (mkS k.snd))]) (fun k => 0 ≤
 k.fst ∧ k.fst ≤ n ∧ digs k.fst.toNat ++ k.snd = digs n.toNat) (fun k => k.fst.toNat) [.mk True (.exit 0) (fun x => [(3, hs x 0)]) (fun x => []) [.s (ls (mkS (digs n.toNat)))]]
theorem Sc_markTextLa (n : Int) (h0 : 0 ≤ n) (h : n ≤ 2147483647) : Lp.Sem Tryz.prog (loopAt Tryz.f95 0) (lc_markTextLa n) := lpOK (fun k => .i (0 < k.fst) (.p ((10 : Int) ≠ 0) (.r
 (48 + k.fst.tmod 10) (.p (rng IntKind.u8 (48 + k.fst.tmod 10)) (.w (.bytes [UInt8.ofNat (48 + k.fst.tmod 10).toNat]) (.p ([[Cell.lit (Value.int IntKind.u8 (48 + k.fst.tmod 10))]]
 = [[Cell.lit (Value.int IntKind.u8 (↑(UInt8.ofNat (48 + k.fst.tmod 10).toNat).toNat : Int))]]) (.p (1 + k.snd.length ≤ 9223372036854775807) (.p ((10 : Int) ≠ 0) (.r (k.fst.tdiv
 10) (.g [] (k.fst.tdiv 10, [UInt8.ofNat (48 + k.fst.tmod 10).toNat] ++ k.snd) [.s (li (k.fst.tdiv 10)), .s (ls (ByteArray.mk ([UInt8.ofNat (48 + k.fst.tmod 10).toNat] ++
 k.snd).toArray))]))))))))) (.o 0 [] [.s (ls (mkS k.snd))])) (by
  intro k h; try dsimp only [teasy, nthW, lc_markTextLa] at h ⊢
  obtain ⟨i, l⟩ := k
  simp only at *
  obtain ⟨g1, g2, g3⟩ := h
  have g4 : l.length ≤ 2147483647 := by
    have := congrArg List.length g3
    have := digs_len n.toNat
    simp only [List.length_append] at *
    omega
  simp only [Int.tmod_eq_emod_of_nonneg g1, Int.tdiv_eq_ediv_of_nonneg g1]
  refine ⟨fun g => ?_, fun g => ?_⟩
  · refine ⟨by decide, by rw [rng64]; omega, by rw [rngu8]; omega, by rw [u8_int (by omega) (by omega)], by omega, by decide, by rw [rng64]; omega, by omega, rfl, ?_⟩
    exact ⟨by show 0 ≤ i / 10; omega, by show i / 10 ≤ n; omega, by show digs (i / 10).toNat ++ ([_] ++ l) = _; rw [← g3, digs_int g, List.append_assoc]⟩
  · refine ⟨trivial, ?_⟩
    have e : i = 0 := by omega
    subst e
    rw [show digs (0 : Int).toNat = [] from digs_zero] at g3
    rw [← g3]; rfl)
theorem c_markText (n : Int) (h0 : 0 ≤ n) (h : n ≤ 2147483647)  : P_c_markText n := fnOK Tryz.call95 Tryz.func95 (.i (n ≤ 0) (.s (ls (ByteArray.mk #[(109 : UInt8), (48 : UInt8)])))
 (.l (lc_markTextLa n) (Sc_markTextLa n h0 h) [] [.s (li n), .s (ls (ByteArray.mk #[]))] (n, []) (.t (.p (1 + (digs n.toNat).length ≤ 9223372036854775807) (.s (ls (ByteArray.mk
 ([(109 : UInt8)] ++ digs n.toNat).toArray)))) .q))) (by
  dsimp only [teasy, P_c_markText, nthW, lc_markTextLa]
  have g := digs_len n.toNat
  simp only [mText]
  with_reducible repeat' (first | apply And.intro | exact zR | (intro; skip))
  all_goals (try simp only [std, stdM, inj] at *)
  all_goals with_reducible repeat' apply And.intro
  all_goals (try (first | exact z | ((first | refine rowGet ?_ | refine getC ?_ rfl); (first | omega | (simp only [std, stdM]; omega) | grind)) | (refine set_row ?_; (simp only [List.length_map, List.length_set, mkTo_len]; omega)) | (refine mkToRow ?_; (first | omega | (simp only [std, stdM]; omega) | grind)) | (refine mkTo_row ?_ rfl; (first | omega | (simp only [std, stdM]; omega) | grind)) | (refine mkTo_step ?_ ?_; (first | omega | (simp only [std, stdM]; omega) | grind); (first | grind [mkS, snocI, snocS, rowSnoc])) | grind [mkS, snocI, snocS, rowSnoc])))
abbrev P_c_markSyntaxS (x : Syntax) (n : Int) : Ct := ⟨45, [.arr true 5 (x.items.map syntaxC)], [.one (.ref 0), li n], [.arr true 5 ((seqM mkY cY x.items n).map syntaxC)], .sv (li (n + sumBy cY x.items))⟩
def lc_markSyntaxS_sLa (x : Syntax) (n : Int) : Lp Nat := .mk 49 1 (fun x => [(0, SV.one (AC.ref 0)), (1, hs x 1), (5, hs x 0)]) (fun x => [ho x 2]) (fun k => [.s (li (↑k : Int)),
 .s (li (n + (↑(sumBy cY (List.take k x.items)) : Int))), .o (Ob.arr true 5 (List.map syntaxC (mkTo mkY cY x.items n k)))]) (fun k => k ≤ x.items.length ∧ x.items.length ≤
 9223372036854775807) (fun k => x.items.length - k) [.mk True (.exit 0) (fun x => [(1, hs x 0)]) (fun x => [ho x 1]) [.s (li (n + (↑(sumBy cY x.items) : Int))), .o (Ob.arr true 5
 (List.map syntaxC (seqM mkY cY x.items n)))]]
theorem Sc_markSyntaxS_sLa (x : Syntax) (n : Int) (h0 : 0 ≤ n) (h : n + (↑(sumBy cY x.items) : Int) ≤ 2147483647) (ih : ∀ (z : Syntax), z ∈ x.items → ∀ (n : Int), 0 ≤ n → n +
 (↑(sumBy cY z.items) : Int) ≤ 2147483647 → OK (P_c_markSyntaxS z n)) : Lp.Sem Tryz.prog (loopAt Tryz.f45 0) (lc_markSyntaxS_sLa x n) := lpOK (fun k => let v8 := (↑(sumBy cY
 (List.take k x.items)) : Int); let v12 := (n + v8 + 1 + 1); let v7 := (x.items.getD (↑k : Int).toNat default); let v13 := (List.map intC v7.scopes); let v11 := (List.map syntaxC
 v7.items); let v1 := [cI (n + v8), cI (n + v8 + 1), cS (mText v12), Cell.list v13, Cell.list v11]; let v10 := (n + v8 + 1 + 1 + 1); let v2 := [cI (n + v8), cI (n + v8 + 1), cS
 (mText v12), Cell.list (List.map intC (seqM mkI cOne v7.scopes v10)), Cell.list v11]; let v3 := [cI (n + v8), cI (n + v8 + 1), cS v7.text, Cell.list v13, Cell.list v11]; let v4 :=
 [cI (n + v8), cI v7.number, cS v7.text, Cell.list v13, Cell.list v11]; let v5 := (List.map syntaxC (mkTo mkY cY x.items n k)); let v6 := (n + v8 + 1 + 1 + 1 + (↑(x.items.getD (↑k
 : Int).toNat default).scopes.length : Int)); let v9 := (v5.set (↑k : Int).toNat v1); .z syntaxC (mkTo mkY cY x.items n k) (.i ((↑k : Int) < (↑(List.map syntaxC (mkTo mkY cY
 x.items n k)).length : Int)) (.p (0 ≤ (↑k : Int) ∧ (↑k : Int).toNat < v5.length) (.w (.cells (syntaxF v7)) (.p (v5[(↑k : Int).toNat]? = some (syntaxF v7)) (.r (n + v8 + 1) (.p (0
 ≤ (↑k : Int) ∧ (↑k : Int).toNat < (v5.set (↑k : Int).toNat v4).length) (.w (.take v4 (v5.set (↑k : Int).toNat v3) 0) (.p ((v5.set (↑k : Int).toNat v4)[(↑k : Int).toNat]? = some
 v4) (.p ((v5.set (↑k : Int).toNat v4).set (↑k : Int).toNat v3 = v5.set (↑k : Int).toNat v3) (.r v12 (.d [.rd] (P_c_markText v12) (.p (0 ≤ (↑k : Int) ∧ (↑k : Int).toNat < (v5.set
 (↑k : Int).toNat v3).length) (.w (.take v3 v9 0) (.p ((v5.set (↑k : Int).toNat v3)[(↑k : Int).toNat]? = some v3) (.p ((v5.set (↑k : Int).toNat v3).set (↑k : Int).toNat v1 = v5.set
 (↑k : Int).toNat v1) (.r v10 (.p (0 ≤ (↑k : Int) ∧ (↑k : Int).toNat < v9.length) (.w .sub (.p ((↑k : Int).toNat < v9.length) (.w (.subcall v1 v13 1) (.u [.own true 1, .rd]
 (P_c_markIntS v7.scopes v10) (.p (v9[(↑k : Int).toNat]? = some v1) (.p (some (Cell.list v13) = some (Cell.list v13)) (.p (∀ (x_1 : List Cell), x_1 ∈ List.map intC v7.scopes →
 x_1.length = 1) (.p (OK (P_c_markIntS v7.scopes v10)) (.p (0 ≤ (↑k : Int) ∧ (↑k : Int).toNat < (v9.set (↑k : Int).toNat v2).length) (.w .sub (.p ((↑k : Int).toNat < (v9.set (↑k :
 Int).toNat v2).length) (.w (.subcall v2 v11 5) (.u [.own true 5, .rd] (P_c_markSyntaxS v7 v6) (.p ((v9.set (↑k : Int).toNat v2)[(↑k : Int).toNat]? = some v2) (.p (some (Cell.list
 v11) = some (Cell.list v11)) (.p (∀ (x_1 : List Cell), x_1 ∈ List.map syntaxC v7.items → x_1.length = 5) (.p (OK (P_c_markSyntaxS v7 v6)) (.r ((↑k : Int) + 1) (.g [0] (k + 1) [.s
 (li ((↑k : Int) + 1)), .s (li (n + v8 + 1 + 1 + 1 + (↑(x.items.getD (↑k : Int).toNat default).scopes.length : Int) + (↑(sumBy cY v7.items) : Int))), .o (Ob.arr true 5 ((v9.set (↑k
 : Int).toNat v2).set (↑k : Int).toNat [cI (n + v8), cI (n + v8 + 1), cS (mText v12), Cell.list (List.map intC (seqM mkI cOne v7.scopes v10)), Cell.list (List.map syntaxC (seqM mkY
 cY v7.items v6))]))]))))))))))))))))))))))))))))))))))) (.o 0 [0] [.s (li (n + v8)), .o (Ob.arr true 5 v5)]))) (by
  intro k h; try dsimp only [teasy, nthW, lc_markSyntaxS_sLa] at h ⊢
  have g0 := sumBy_takeLe cY x.items (k + 1)
  with_reducible repeat' (first | apply And.intro | exact zR | exact ih | (intro; skip) | apply c_markText | apply c_markIntS | apply ih)
  all_goals (try simp only [std, stdM, inj] at *)
  all_goals with_reducible repeat' apply And.intro
  all_goals (try (first | with_reducible apply c_markText | with_reducible apply c_markIntS | with_reducible apply ih | (simp only [← List.map_append]; first | with_reducible apply c_markText | with_reducible apply c_markIntS | with_reducible apply ih)))
  all_goals (try (first | exact z | ((first | refine rowGet ?_ | refine getC ?_ rfl); (first | omega | (simp only [std, stdM]; omega) | grind)) | (refine set_row ?_; (simp only [List.length_map, List.length_set, mkTo_len]; omega)) | (refine mkToRow ?_; (first | omega | (simp only [std, stdM]; omega) | grind)) | (refine mkTo_row ?_ rfl; (first | omega | (simp only [std, stdM]; omega) | grind)) | (refine mkTo_step ?_ ?_; (first | omega | (simp only [std, stdM]; omega) | grind); (first | exact mkY_C _ _ | grind [sumBy_step, getD_mem', cY_eq, mkY_C, mkTo_all, snocI, snocS, rowSnoc])) | grind [sumBy_step, getD_mem', cY_eq, mkY_C, mkTo_all, snocI, snocS, rowSnoc])))
theorem c_markSyntaxS_s (x : Syntax) (n : Int) (h0 : 0 ≤ n) (h : n + sumBy cY x.items ≤ 2147483647) (ih : ∀ z ∈ x.items, ∀ (n : Int) (h0 : 0 ≤ n) (h : n + sumBy cY z.items ≤
 2147483647), P_c_markSyntaxS z n)  : P_c_markSyntaxS x n := fnOK Tryz.call45 Tryz.func45 (.l (lc_markSyntaxS_sLa x n) (Sc_markSyntaxS_sLa x n h0 h ih) [0] [.s (li 0), .s (li n), .o
 (Ob.arr true 5 (List.map syntaxC x.items))] 0 (.t (.f [] [Ob.arr true 5 (List.map syntaxC (seqM mkY cY x.items n))] (AV.sv (li (n + (↑(sumBy cY x.items) : Int))))) .q)) (by
  dsimp only [teasy, P_c_markSyntaxS, nthW, lc_markSyntaxS_sLa]
  have gl := cY_len x.items
  with_reducible repeat' (first | apply And.intro | exact zR | exact ih | (intro; skip) | apply c_markText | apply c_markIntS)
  all_goals (try simp only [std, stdM, inj] at *)
  all_goals with_reducible repeat' apply And.intro
  all_goals (try (first | with_reducible apply c_markText | with_reducible apply c_markIntS | with_reducible apply ih | (simp only [← List.map_append]; first | with_reducible apply c_markText | with_reducible apply c_markIntS | with_reducible apply ih)))
  all_goals (try (first | exact z | ((first | refine rowGet ?_ | refine getC ?_ rfl); (first | omega | (simp only [std, stdM]; omega) | grind)) | (refine set_row ?_; (simp only [List.length_map, List.length_set, mkTo_len]; omega)) | (refine mkToRow ?_; (first | omega | (simp only [std, stdM]; omega) | grind)) | (refine mkTo_row ?_ rfl; (first | omega | (simp only [std, stdM]; omega) | grind)) | (refine mkTo_step ?_ ?_; (first | omega | (simp only [std, stdM]; omega) | grind); (first | grind [mkTo_all, snocI, snocS, rowSnoc])) | grind [mkTo_all, snocI, snocS, rowSnoc])))
theorem c_markSyntaxS (x : Syntax) : ∀ (n : Int) (h0 : 0 ≤ n) (h : n + sumBy cY x.items ≤ 2147483647), P_c_markSyntaxS x n := Syntax.ind (P := fun x => ∀ (n : Int) (h0 : 0 ≤ n) (h : n + sumBy cY x.items ≤ 2147483647), P_c_markSyntaxS x n) (fun x ih n h0 h => c_markSyntaxS_s x n h0 h ih) x
theorem c_markSyntaxSL (L : List Syntax) (n : Int) (h0 : 0 ≤ n) (h : n + sumBy cY L ≤ 2147483647) : P_c_markSyntaxS { (default : Syntax) with items := L } n := c_markSyntaxS { (default : Syntax) with items := L } n h0 h
abbrev P_c_markSyntax (x : Syntax) (n : Int) : Ct := ⟨23, [.arr true 1 (x.scopes.map intC), .arr true 5 (x.items.map syntaxC)], [.agg [vI x.kind, vI x.number, vS x.text, .ref 0, .ref 1], li n], [.arr true 1 ((seqM mkI cOne x.scopes (n)).map intC), .arr true 5 ((seqM mkY cY x.items (n + x.scopes.length)).map syntaxC)], .sv (li (n + x.scopes.length + sumBy cY x.items))⟩
theorem c_markSyntax (x : Syntax) (n : Int) (h0 : 0 ≤ n) (h : n + (x.scopes.length + sumBy cY x.items : Nat) ≤ 2147483647)  : P_c_markSyntax x n := fnOK Tryz.call23 Tryz.func23 (.d
 [.own true 1, .rd] (P_c_markIntS x.scopes n) (.d [.own true 5, .rd] (P_c_markSyntaxS x (n + (↑x.scopes.length : Int))) (.f [] [Ob.arr true 1 (List.map intC (seqM mkI cOne x.scopes
 n)), Ob.arr true 5 (List.map syntaxC (seqM mkY cY x.items (n + (↑x.scopes.length : Int))))] (AV.sv (li (n + (↑x.scopes.length : Int) + (↑(sumBy cY x.items) : Int))))))) (by
  dsimp only [teasy, P_c_markSyntax]
  with_reducible repeat' (first | apply And.intro | exact zR | (intro; skip) | apply c_markIntS | apply c_markSyntaxS | apply c_markSyntaxSL)
  all_goals (try simp only [std, stdM, inj] at *)
  all_goals with_reducible repeat' apply And.intro
  all_goals (try (first | with_reducible apply c_markIntS | with_reducible apply c_markSyntaxS | with_reducible apply c_markSyntaxSL | (simp only [← List.map_append]; first | with_reducible apply c_markIntS | with_reducible apply c_markSyntaxS | with_reducible apply c_markSyntaxSL)))
  all_goals (try (first | exact z | ((first | refine rowGet ?_ | refine getC ?_ rfl); (first | omega | (simp only [std, stdM]; omega) | grind)) | (refine set_row ?_; (simp only [List.length_map, List.length_set, mkTo_len]; omega)) | (refine mkToRow ?_; (first | omega | (simp only [std, stdM]; omega) | grind)) | (refine mkTo_row ?_ rfl; (first | omega | (simp only [std, stdM]; omega) | grind)) | (refine mkTo_step ?_ ?_; (first | omega | (simp only [std, stdM]; omega) | grind); (first | grind [snocI, snocS, rowSnoc])) | grind [snocI, snocS, rowSnoc])))
abbrev P_c_markBindingS (L : List Binding) (n : Int) : Ct := ⟨44, [.arr true 4 (L.map bindingC)], [.one (.ref 0), li n], [.arr true 4 ((seqM mkB cB L n).map bindingC)], .sv (li (n + sumBy cB L))⟩
def lc_markBindingSLa (L : List Binding) (n : Int) : Lp Nat := .mk 42 1 (fun x => [(0, SV.one (AC.ref 0)), (1, hs x 1), (5, hs x 0)]) (fun x => [ho x 2]) (fun k => [.s (li (↑k :
 Int)), .s (li (n + (↑(sumBy cB (List.take k L)) : Int))), .o (Ob.arr true 4 (List.map bindingC (mkTo mkB cB L n k)))]) (fun k => k ≤ L.length ∧ L.length ≤ 9223372036854775807)
 (fun k => L.length - k) [.mk True (.exit 0) (fun x => [(1, hs x 0)]) (fun x => [ho x 1]) [.s (li (n + (↑(sumBy cB L) : Int))), .o (Ob.arr true 4 (List.map bindingC (seqM mkB cB L
 n)))]]
theorem Sc_markBindingSLa (L : List Binding) (n : Int) (h0 : 0 ≤ n) (h : n + (↑(sumBy cB L) : Int) ≤ 2147483647) : Lp.Sem Tryz.prog (loopAt Tryz.f44 0) (lc_markBindingSLa L n) :=
 lpOK (fun k => let v9 := (List.map bindingC (mkTo mkB cB L n k)); let v8 := (↑(sumBy cB (List.take k L)) : Int); let v7 := (L.getD (↑k : Int).toNat default); let v11 := [cS (mText
 (n + v8)), Cell.list (List.map intC v7.scopes), cI v7.kind, cI v7.number]; let v1 := (v9.set (↑k : Int).toNat v11); let v12 := (List.map intC (seqM mkI cOne v7.scopes (n + v8 +
 1))); let v10 := (↑(L.getD (↑k : Int).toNat default).scopes.length : Int); let v2 := [cS (mText (n + v8)), Cell.list v12, cI (n + v8 + 1 + v10), cI v7.number]; let v3 := [cS
 (mText (n + v8)), Cell.list v12, cI (n + v8 + 1 + v10), cI (n + v8 + 1 + v10 + 1)]; let v4 := [cS (mText (n + v8)), Cell.list v12, cI v7.kind, cI v7.number]; let v5 := (n + v8 + 1
 + v10 + 1 + 1); let v6 := (P_c_markIntS v7.scopes (n + v8 + 1)); .z bindingC (mkTo mkB cB L n k) (.i ((↑k : Int) < (↑(List.map bindingC (mkTo mkB cB L n k)).length : Int)) (.d
 [.rd] (P_c_markText (n + v8)) (.p (0 ≤ (↑k : Int) ∧ (↑k : Int).toNat < v9.length) (.w (.cells (bindingF v7)) (.p (v9[(↑k : Int).toNat]? = some (bindingF v7)) (.r (n + v8 + 1) (.p
 (0 ≤ (↑k : Int) ∧ (↑k : Int).toNat < v1.length) (.w .sub (.p ((↑k : Int).toNat < v1.length) (.w (.subcall v11 (List.map intC v7.scopes) 1) (.u [.own true 1, .rd] v6 (.p (v1[(↑k :
 Int).toNat]? = some v11) (.p (some (Cell.list (List.map intC v7.scopes)) = some (Cell.list (List.map intC v7.scopes))) (.p (∀ (x : List Cell), x ∈ List.map intC v7.scopes →
 x.length = 1) (.p (OK v6) (.p (0 ≤ (↑k : Int) ∧ (↑k : Int).toNat < (v1.set (↑k : Int).toNat v4).length) (.w (.take v4 (v1.set (↑k : Int).toNat v2) 0) (.p ((v1.set (↑k : Int).toNat
 v4)[(↑k : Int).toNat]? = some v4) (.p ((v1.set (↑k : Int).toNat v4).set (↑k : Int).toNat v2 = v1.set (↑k : Int).toNat v2) (.r (n + v8 + 1 + v10 + 1) (.p (0 ≤ (↑k : Int) ∧ (↑k :
 Int).toNat < (v1.set (↑k : Int).toNat v2).length) (.w (.take v2 (v1.set (↑k : Int).toNat v3) 0) (.p ((v1.set (↑k : Int).toNat v2)[(↑k : Int).toNat]? = some v2) (.p ((v1.set (↑k :
 Int).toNat v2).set (↑k : Int).toNat v3 = v1.set (↑k : Int).toNat v3) (.r v5 (.r ((↑k : Int) + 1) (.g [0] (k + 1) [.s (li ((↑k : Int) + 1)), .s (li v5), .o (Ob.arr true 4 (v1.set
 (↑k : Int).toNat v3))])))))))))))))))))))))))))) (.o 0 [0] [.s (li (n + v8)), .o (Ob.arr true 4 v9)]))) (by
  intro k h; try dsimp only [teasy, nthW, lc_markBindingSLa] at h ⊢
  have g0 := sumBy_takeLe cB L (k + 1)
  with_reducible repeat' (first | apply And.intro | exact zR | (intro; skip) | apply c_markText | apply c_markIntS)
  all_goals (try simp only [std, stdM, inj] at *)
  all_goals with_reducible repeat' apply And.intro
  all_goals (try (first | with_reducible apply c_markText | with_reducible apply c_markIntS | (simp only [← List.map_append]; first | with_reducible apply c_markText | with_reducible apply c_markIntS)))
  all_goals (try (first | exact z | ((first | refine rowGet ?_ | refine getC ?_ rfl); (first | omega | (simp only [std, stdM]; omega) | grind)) | (refine set_row ?_; (simp only [List.length_map, List.length_set, mkTo_len]; omega)) | (refine mkToRow ?_; (first | omega | (simp only [std, stdM]; omega) | grind)) | (refine mkTo_row ?_ rfl; (first | omega | (simp only [std, stdM]; omega) | grind)) | (refine mkTo_step ?_ ?_; (first | omega | (simp only [std, stdM]; omega) | grind); (first | exact mkB_C _ _ | grind [sumBy_step, getD_mem', cB_eq, mkB_C, mkTo_all, snocI, snocS, rowSnoc])) | grind [sumBy_step, getD_mem', cB_eq, mkB_C, mkTo_all, snocI, snocS, rowSnoc])))
theorem c_markBindingS (L : List Binding) (n : Int) (h0 : 0 ≤ n) (h : n + sumBy cB L ≤ 2147483647)  : P_c_markBindingS L n := fnOK Tryz.call44 Tryz.func44 (.l (lc_markBindingSLa L n)
 (Sc_markBindingSLa L n h0 h) [0] [.s (li 0), .s (li n), .o (Ob.arr true 4 (List.map bindingC L))] 0 (.t (.f [] [Ob.arr true 4 (List.map bindingC (seqM mkB cB L n))] (AV.sv (li (n
 + (↑(sumBy cB L) : Int))))) .q)) (by
  dsimp only [teasy, P_c_markBindingS, nthW, lc_markBindingSLa]
  have gl := cB_len L
  with_reducible repeat' (first | apply And.intro | exact zR | (intro; skip) | apply c_markText | apply c_markIntS)
  all_goals (try simp only [std, stdM, inj] at *)
  all_goals with_reducible repeat' apply And.intro
  all_goals (try (first | with_reducible apply c_markText | with_reducible apply c_markIntS | (simp only [← List.map_append]; first | with_reducible apply c_markText | with_reducible apply c_markIntS)))
  all_goals (try (first | exact z | ((first | refine rowGet ?_ | refine getC ?_ rfl); (first | omega | (simp only [std, stdM]; omega) | grind)) | (refine set_row ?_; (simp only [List.length_map, List.length_set, mkTo_len]; omega)) | (refine mkToRow ?_; (first | omega | (simp only [std, stdM]; omega) | grind)) | (refine mkTo_row ?_ rfl; (first | omega | (simp only [std, stdM]; omega) | grind)) | (refine mkTo_step ?_ ?_; (first | omega | (simp only [std, stdM]; omega) | grind); (first | grind [mkTo_all, snocI, snocS, rowSnoc])) | grind [mkTo_all, snocI, snocS, rowSnoc])))
abbrev P_c_markRulesS (L : List Rules) (n : Int) : Ct := ⟨79, [.arr true 3 (L.map rulesC)], [.one (.ref 0), li n], [.arr true 3 ((seqM mkR cR L n).map rulesC)], .sv (li (n + sumBy cR L))⟩
def lc_markRulesSLa (L : List Rules) (n : Int) : Lp Nat := .mk 34 1 (fun x => [(0, SV.one (AC.ref 0)), (1, hs x 1), (5, hs x 0)]) (fun x => [ho x 2]) (fun k => [.s (li (↑k : Int)),
 .s (li (n + (↑(sumBy cR (List.take k L)) : Int))), .o (Ob.arr true 3 (List.map rulesC (mkTo mkR cR L n k)))]) (fun k => k ≤ L.length ∧ L.length ≤ 9223372036854775807) (fun k =>
 L.length - k) [.mk True (.exit 0) (fun x => [(1, hs x 0)]) (fun x => [ho x 1]) [.s (li (n + (↑(sumBy cR L) : Int))), .o (Ob.arr true 3 (List.map rulesC (seqM mkR cR L n)))]]
theorem Sc_markRulesSLa (L : List Rules) (n : Int) (h0 : 0 ≤ n) (h : n + (↑(sumBy cR L) : Int) ≤ 2147483647) (h2 : L.length ≤ 2147483647) : Lp.Sem Tryz.prog (loopAt Tryz.f79 0)
 (lc_markRulesSLa L n) := lpOK (fun k => let v8 := (List.map rulesC (mkTo mkR cR L n k)); let v10 := (L.getD k default); let v11 := (↑(sumBy cR (List.take k L)) : Int); let v14 :=
 (List.map syntaxC (seqM mkY cY v10.literals (n + v11))); let v15 := (List.map syntaxC v10.patterns); let v13 := (List.map syntaxC v10.templates); let v6 := [Cell.list v14,
 Cell.list v15, Cell.list v13]; let v12 := (↑(sumBy cY v10.literals) : Int); let v7 := [Cell.list v14, Cell.list (List.map syntaxC (seqM mkY cY v10.patterns (n + v11 + v12))),
 Cell.list v13]; let v1 := ((v8.set (↑k : Int).toNat v6).set (↑k : Int).toNat v7); let v2 := (n + v11 + v12 + (↑(sumBy cY v10.patterns) : Int)); let v3 := (P_c_markSyntaxS
 (Syntax.mk 0 0 default [] v10.patterns) (n + v11 + v12)); let v4 := (P_c_markSyntaxS (Syntax.mk 0 0 default [] v10.literals) (n + v11)); let v5 := (List.map syntaxC v10.literals);
 let v9 := (P_c_markSyntaxS (Syntax.mk 0 0 default [] v10.templates) v2); .z rulesC (mkTo mkR cR L n k) (.i ((↑k : Int) < (↑(List.map rulesC (mkTo mkR cR L n k)).length : Int)) (.p
 (0 ≤ (↑k : Int) ∧ (↑k : Int).toNat < v8.length) (.w .sub (.p ((↑k : Int).toNat < v8.length) (.w (.subcall (rulesF v10) v5 5) (.u [.own true 5, .rd] v4 (.p (v8[(↑k : Int).toNat]? =
 some (rulesF v10)) (.p (some (Cell.list v5) = some (Cell.list v5)) (.p (∀ (x : List Cell), x ∈ List.map syntaxC v10.literals → x.length = 5) (.p (OK v4) (.p (0 ≤ (↑k : Int) ∧ (↑k
 : Int).toNat < (v8.set (↑k : Int).toNat v6).length) (.w .sub (.p ((↑k : Int).toNat < (v8.set (↑k : Int).toNat v6).length) (.w (.subcall v6 v15 5) (.u [.own true 5, .rd] v3 (.p
 ((v8.set (↑k : Int).toNat v6)[(↑k : Int).toNat]? = some v6) (.p (some (Cell.list v15) = some (Cell.list v15)) (.p (∀ (x : List Cell), x ∈ List.map syntaxC v10.patterns → x.length
 = 5) (.p (OK v3) (.p (0 ≤ (↑k : Int) ∧ (↑k : Int).toNat < v1.length) (.w .sub (.p ((↑k : Int).toNat < v1.length) (.w (.subcall v7 v13 5) (.u [.own true 5, .rd] v9 (.p (v1[(↑k :
 Int).toNat]? = some v7) (.p (some (Cell.list v13) = some (Cell.list v13)) (.p (∀ (x : List Cell), x ∈ List.map syntaxC v10.templates → x.length = 5) (.p (OK v9) (.r ((↑k : Int) +
 1) (.g [0] (k + 1) [.s (li ((↑k : Int) + 1)), .s (li (n + v11 + v12 + (↑(sumBy cY v10.patterns) : Int) + (↑(sumBy cY v10.templates) : Int))), .o (Ob.arr true 3 (v1.set (↑k :
 Int).toNat [Cell.list v14, Cell.list (List.map syntaxC (seqM mkY cY v10.patterns (n + v11 + v12))), Cell.list (List.map syntaxC (seqM mkY cY v10.templates
 v2))]))]))))))))))))))))))))))))))))) (.o 0 [0] [.s (li (n + v11)), .o (Ob.arr true 3 v8)]))) (by
  intro k h; try dsimp only [teasy, nthW, lc_markRulesSLa] at h ⊢
  have g0 := sumBy_takeLe cR L (k + 1)
  with_reducible repeat' (first | apply And.intro | exact zR | (intro; skip) | apply c_markSyntaxS | apply c_markSyntaxSL)
  all_goals (try simp only [std, stdM, inj] at *)
  all_goals with_reducible repeat' apply And.intro
  all_goals (try (first | with_reducible apply c_markSyntaxS | with_reducible apply c_markSyntaxSL | (simp only [← List.map_append]; first | with_reducible apply c_markSyntaxS | with_reducible apply c_markSyntaxSL)))
  all_goals (try (first | exact z | ((first | refine rowGet ?_ | refine getC ?_ rfl); (first | omega | (simp only [std, stdM]; omega) | grind)) | (refine set_row ?_; (simp only [List.length_map, List.length_set, mkTo_len]; omega)) | (refine mkToRow ?_; (first | omega | (simp only [std, stdM]; omega) | grind)) | (refine mkTo_row ?_ rfl; (first | omega | (simp only [std, stdM]; omega) | grind)) | (refine mkTo_step ?_ ?_; (first | omega | (simp only [std, stdM]; omega) | grind); (first | exact mkR_C _ _ | grind [sumBy_step, getD_mem', cR_eq, mkR_C, mkTo_all, snocI, snocS, rowSnoc])) | grind [sumBy_step, getD_mem', cR_eq, mkR_C, mkTo_all, snocI, snocS, rowSnoc])))
theorem c_markRulesS (L : List Rules) (n : Int) (h0 : 0 ≤ n) (h : n + sumBy cR L ≤ 2147483647) (h2 : L.length ≤ 2147483647)  : P_c_markRulesS L n := fnOK Tryz.call79 Tryz.func79 (.l
 (lc_markRulesSLa L n) (Sc_markRulesSLa L n h0 h h2) [0] [.s (li 0), .s (li n), .o (Ob.arr true 3 (List.map rulesC L))] 0 (.t (.f [] [Ob.arr true 3 (List.map rulesC (seqM mkR cR L
 n))] (AV.sv (li (n + (↑(sumBy cR L) : Int))))) .q)) (by
  dsimp only [teasy, P_c_markRulesS, nthW, lc_markRulesSLa]
  with_reducible repeat' (first | apply And.intro | exact zR | (intro; skip) | apply c_markSyntaxS | apply c_markSyntaxSL)
  all_goals (try simp only [std, stdM, inj] at *)
  all_goals with_reducible repeat' apply And.intro
  all_goals (try (first | with_reducible apply c_markSyntaxS | with_reducible apply c_markSyntaxSL | (simp only [← List.map_append]; first | with_reducible apply c_markSyntaxS | with_reducible apply c_markSyntaxSL)))
  all_goals (try (first | exact z | ((first | refine rowGet ?_ | refine getC ?_ rfl); (first | omega | (simp only [std, stdM]; omega) | grind)) | (refine set_row ?_; (simp only [List.length_map, List.length_set, mkTo_len]; omega)) | (refine mkToRow ?_; (first | omega | (simp only [std, stdM]; omega) | grind)) | (refine mkTo_row ?_ rfl; (first | omega | (simp only [std, stdM]; omega) | grind)) | (refine mkTo_step ?_ ?_; (first | omega | (simp only [std, stdM]; omega) | grind); (first | grind [mkTo_all, snocI, snocS, rowSnoc])) | grind [mkTo_all, snocI, snocS, rowSnoc])))
abbrev P_c_markRules (x : Rules) (n : Int) : Ct := ⟨24, [.arr true 5 (x.literals.map syntaxC), .arr true 5 (x.patterns.map syntaxC), .arr true 5 (x.templates.map syntaxC)], [.agg [.ref 0, .ref 1, .ref 2], li n], [.arr true 5 ((seqM mkY cY x.literals (n)).map syntaxC), .arr true 5 ((seqM mkY cY x.patterns (n + sumBy cY x.literals)).map syntaxC), .arr true 5 ((seqM mkY cY x.templates (n + sumBy cY x.literals + sumBy cY x.patterns)).map syntaxC)], .sv (li (n + sumBy cY x.literals + sumBy cY x.patterns + sumBy cY x.templates))⟩
theorem c_markRules (x : Rules) (n : Int) (h0 : 0 ≤ n) (h : n + (sumBy cY x.literals + sumBy cY x.patterns + sumBy cY x.templates : Nat) ≤ 2147483647)  : P_c_markRules x n := fnOK
 Tryz.call24 Tryz.func24 (.d [.own true 5, .rd] (P_c_markSyntaxS (Syntax.mk 0 0 default [] x.literals) n) (.d [.own true 5, .rd] (P_c_markSyntaxS (Syntax.mk 0 0 default []
 x.patterns) (n + (↑(sumBy cY x.literals) : Int))) (.d [.own true 5, .rd] (P_c_markSyntaxS (Syntax.mk 0 0 default [] x.templates) (n + (↑(sumBy cY x.literals) : Int) + (↑(sumBy cY
 x.patterns) : Int))) (.f [] [Ob.arr true 5 (List.map syntaxC (seqM mkY cY x.literals n)), Ob.arr true 5 (List.map syntaxC (seqM mkY cY x.patterns (n + (↑(sumBy cY x.literals) :
 Int)))), Ob.arr true 5 (List.map syntaxC (seqM mkY cY x.templates (n + (↑(sumBy cY x.literals) : Int) + (↑(sumBy cY x.patterns) : Int))))] (AV.sv (li (n + (↑(sumBy cY x.literals)
 : Int) + (↑(sumBy cY x.patterns) : Int) + (↑(sumBy cY x.templates) : Int)))))))) (by
  dsimp only [teasy, P_c_markRules]
  with_reducible repeat' (first | apply And.intro | exact zR | (intro; skip) | apply c_markSyntaxS | apply c_markSyntaxSL)
  all_goals (try simp only [std, stdM, inj] at *)
  all_goals with_reducible repeat' apply And.intro
  all_goals (try (first | with_reducible apply c_markSyntaxS | with_reducible apply c_markSyntaxSL | (simp only [← List.map_append]; first | with_reducible apply c_markSyntaxS | with_reducible apply c_markSyntaxSL)))
  all_goals (try (first | exact z | ((first | refine rowGet ?_ | refine getC ?_ rfl); (first | omega | (simp only [std, stdM]; omega) | grind)) | (refine set_row ?_; (simp only [List.length_map, List.length_set, mkTo_len]; omega)) | (refine mkToRow ?_; (first | omega | (simp only [std, stdM]; omega) | grind)) | (refine mkTo_row ?_ rfl; (first | omega | (simp only [std, stdM]; omega) | grind)) | (refine mkTo_step ?_ ?_; (first | omega | (simp only [std, stdM]; omega) | grind); (first | grind [snocI, snocS, rowSnoc])) | grind [snocI, snocS, rowSnoc])))
abbrev P_c_markExpander (x : Expander) (n : Int) : Ct := ⟨22, [.arr true 4 (x.bindings.map bindingC), .arr true 3 (x.macros.map rulesC)], [.agg [.ref 0, .ref 1, vI x.scope, vI x.vari, vI x.steps], li n], [.arr true 4 ((seqM mkB cB x.bindings (n)).map bindingC), .arr true 3 ((seqM mkR cR x.macros (n + sumBy cB x.bindings)).map rulesC)], .sv (li (n + sumBy cB x.bindings + sumBy cR x.macros))⟩
theorem c_markExpander (x : Expander) (n : Int) (h0 : 0 ≤ n) (h : n + (sumBy cB x.bindings + sumBy cR x.macros : Nat) ≤ 2147483647) (h21 : x.macros.length ≤ 2147483647)  :
 P_c_markExpander x n := fnOK Tryz.call22 Tryz.func22 (.d [.own true 4, .rd] (P_c_markBindingS x.bindings n) (.d [.own true 3, .rd] (P_c_markRulesS x.macros (n + (↑(sumBy cB
 x.bindings) : Int))) (.f [] [Ob.arr true 4 (List.map bindingC (seqM mkB cB x.bindings n)), Ob.arr true 3 (List.map rulesC (seqM mkR cR x.macros (n + (↑(sumBy cB x.bindings) :
 Int))))] (AV.sv (li (n + (↑(sumBy cB x.bindings) : Int) + (↑(sumBy cR x.macros) : Int))))))) (by
  dsimp only [teasy, P_c_markExpander]
  with_reducible repeat' (first | apply And.intro | exact zR | (intro; skip) | apply c_markBindingS | apply c_markRulesS)
  all_goals (try simp only [std, stdM, inj] at *)
  all_goals with_reducible repeat' apply And.intro
  all_goals (try (first | with_reducible apply c_markBindingS | with_reducible apply c_markRulesS | (simp only [← List.map_append]; first | with_reducible apply c_markBindingS | with_reducible apply c_markRulesS)))
  all_goals (try (first | exact z | ((first | refine rowGet ?_ | refine getC ?_ rfl); (first | omega | (simp only [std, stdM]; omega) | grind)) | (refine set_row ?_; (simp only [List.length_map, List.length_set, mkTo_len]; omega)) | (refine mkToRow ?_; (first | omega | (simp only [std, stdM]; omega) | grind)) | (refine mkTo_row ?_ rfl; (first | omega | (simp only [std, stdM]; omega) | grind)) | (refine mkTo_step ?_ ?_; (first | omega | (simp only [std, stdM]; omega) | grind); (first | grind [snocI, snocS, rowSnoc])) | grind [snocI, snocS, rowSnoc])))
end Go.Proofs.YtpnaoendfpaodaaGreat
end
section
namespace Go.Proofs.YtpnaoendfpaodaaGreat
open Go Go.Proofs.YtpnaoendfpaodaaGreat.Ab
set_option linter.unusedVariables false
set_option linter.unusedSimpArgs false
set_option maxHeartbeats 4000000
abbrev P_c_heldIntS (L : List Int) (n : Int) : Ct := ⟨99, [], [ll (L.map intC), li n], [], .sv (li (n + L.length))⟩
def lc_heldIntSLa (L : List Int) (n : Int) : Lp Nat := .mk 21 0 (fun x => [(0, ll (List.map intC L)), (1, hs x 1), (5, hs x 0)]) (fun x => []) (fun k => [.s (li (↑k : Int)), .s (li
 (n + (↑k : Int)))]) (fun k => k ≤ L.length ∧ L.length ≤ 9223372036854775807) (fun k => L.length - k) [.mk True (.exit 0) (fun x => [(1, hs x 0)]) (fun x => []) [.s (li (n +
 (↑L.length : Int)))], .mk False .ret (fun x => [(4, hs x 0)]) (fun x => []) [.s (li (-1 : Int))]]
theorem Sc_heldIntSLa (L : List Int) (n : Int) (h0 : 0 ≤ n) (h : n + (↑L.length : Int) ≤ 2147483647) (hm : seqM mkI cOne L n = L) : Lp.Sem Tryz.prog (loopAt Tryz.f99 0)
 (lc_heldIntSLa L n) := lpOK (fun k => .z intC L (.i ((↑k : Int) < (↑(List.map intC L).length : Int)) (.x (↑k : Int) (List.map intC L) [cI (L.getD k 0)] (.i (L.getD k (0 : Int) ≠ n
 + (↑k : Int)) (.o 1 [] [.s (li (-1 : Int))]) (.r (n + (↑k : Int) + 1) (.r ((↑k : Int) + 1) (.g [] (k + 1) [.s (li ((↑k : Int) + 1)), .s (li (n + (↑k : Int) + 1))]))))) (.o 0 []
 [.s (li (n + (↑k : Int)))]))) (by
  intro k h; try dsimp only [teasy, nthW, lc_heldIntSLa] at h ⊢
  with_reducible repeat' (first | apply And.intro | exact zR | (intro; skip))
  all_goals (try simp only [std, stdM, inj] at *)
  all_goals with_reducible repeat' apply And.intro
  all_goals (try (first | exact z | ((first | refine rowGet ?_ | refine getC ?_ rfl); (first | omega | (simp only [std, stdM]; omega) | grind)) | (refine set_row ?_; (simp only [List.length_map, List.length_set, mkTo_len]; omega)) | (refine mkToRow ?_; (first | omega | (simp only [std, stdM]; omega) | grind)) | (refine mkTo_row ?_ rfl; (first | omega | (simp only [std, stdM]; omega) | grind)) | (refine mkTo_step ?_ ?_; (first | omega | (simp only [std, stdM]; omega) | grind); (first | grind [seqI_get hm, snocI, snocS, rowSnoc])) | grind [seqI_get hm, snocI, snocS, rowSnoc])))
theorem c_heldIntS (L : List Int) (n : Int) (h0 : 0 ≤ n) (h : n + L.length ≤ 2147483647) (hm : seqM mkI cOne L n = L)  : P_c_heldIntS L n := fnOK Tryz.call99 Tryz.func99 (.l
 (lc_heldIntSLa L n) (Sc_heldIntSLa L n h0 h hm) [] [.s (li 0), .s (li n)] 0 (.t (.s (li (n + (↑L.length : Int)))) (.t (.s (li (-1 : Int))) .q))) (by
  dsimp only [teasy, P_c_heldIntS, nthW, lc_heldIntSLa]
  with_reducible repeat' (first | apply And.intro | exact zR | (intro; skip))
  all_goals (try simp only [std, stdM, inj] at *)
  all_goals with_reducible repeat' apply And.intro
  all_goals (try (first | exact z | ((first | refine rowGet ?_ | refine getC ?_ rfl); (first | omega | (simp only [std, stdM]; omega) | grind)) | (refine set_row ?_; (simp only [List.length_map, List.length_set, mkTo_len]; omega)) | (refine mkToRow ?_; (first | omega | (simp only [std, stdM]; omega) | grind)) | (refine mkTo_row ?_ rfl; (first | omega | (simp only [std, stdM]; omega) | grind)) | (refine mkTo_step ?_ ?_; (first | omega | (simp only [std, stdM]; omega) | grind); (first | grind [snocI, snocS, rowSnoc])) | grind [snocI, snocS, rowSnoc])))
abbrev P_c_heldSyntaxS (x : Syntax) (n : Int) : Ct := ⟨55, [], [ll (x.items.map syntaxC), li n], [], .sv (li (n + sumBy cY x.items))⟩
def lc_heldSyntaxS_sLa (x : Syntax) (n : Int) : Lp Nat := .mk 59 0 (fun x_1 => [(0, ll (List.map syntaxC x.items)), (1, hs x_1 1), (5, hs x_1 0)]) (fun x => []) (fun k => [.s (li
 (↑k : Int)), .s (li (n + (↑(sumBy cY (List.take k x.items)) : Int)))]) (fun k => k ≤ x.items.length ∧ x.items.length ≤ 9223372036854775807) (fun k => x.items.length - k) [.mk True
 (.exit 0) (fun x => [(1, hs x 0)]) (fun x => []) [.s (li (n + (↑(sumBy cY x.items) : Int)))], .mk False .ret (fun x => [(4, hs x 0)]) (fun x => []) [.s (li (-1 : Int))]]
theorem Sc_heldSyntaxS_sLa (x : Syntax) (n : Int) (h0 : 0 ≤ n) (h : n + (↑(sumBy cY x.items) : Int) ≤ 2147483647) (hm : seqM mkY cY x.items n = x.items) (ih : ∀ (z : Syntax), z ∈
 x.items → ∀ (n : Int), 0 ≤ n → n + (↑(sumBy cY z.items) : Int) ≤ 2147483647 → seqM mkY cY z.items n = z.items → OK (P_c_heldSyntaxS z n)) : Lp.Sem Tryz.prog (loopAt Tryz.f55 0)
 (lc_heldSyntaxS_sLa x n) := lpOK (fun k => .z syntaxC x.items (.i ((↑k : Int) < (↑(List.map syntaxC x.items).length : Int)) (.x (↑k : Int) (List.map syntaxC x.items) (syntaxF
 (x.items.getD k default)) (.i ((x.items.getD k default).kind ≠ n + (↑(sumBy cY (List.take k x.items)) : Int)) (.o 1 [] [.s (li (-1 : Int))]) (.r (n + (↑(sumBy cY (List.take k
 x.items)) : Int) + 1) (.x (↑k : Int) (List.map syntaxC x.items) (syntaxF (x.items.getD k default)) (.i ((x.items.getD k default).number ≠ n + (↑(sumBy cY (List.take k x.items)) :
 Int) + 1) (.o 1 [] [.s (li (-1 : Int))]) (.r (n + (↑(sumBy cY (List.take k x.items)) : Int) + 1 + 1) (.w (.draw []) (.x (↑k : Int) (List.map syntaxC x.items) (syntaxF
 (x.items.getD k default)) (.d [.rd] (P_c_markText (n + (↑(sumBy cY (List.take k x.items)) : Int) + 1 + 1)) (.i ((x.items.getD k default).text.data.toList ≠ (mText (n + (↑(sumBy cY
 (List.take k x.items)) : Int) + 1 + 1)).data.toList) (.o 1 [] [.s (li (-1 : Int))]) (.r (n + (↑(sumBy cY (List.take k x.items)) : Int) + 1 + 1 + 1) (.x (↑k : Int) (List.map
 syntaxC x.items) (syntaxF (x.items.getD k default)) (.d [.rd, .rd] (P_c_heldIntS (x.items.getD k default).scopes (n + (↑(sumBy cY (List.take k x.items)) : Int) + 1 + 1 + 1)) (.i
 (n + (↑(sumBy cY (List.take k x.items)) : Int) + 1 + 1 + 1 + (↑(x.items.getD k default).scopes.length : Int) < 0) (.o 1 [] [.s (li (-1 : Int))]) (.x (↑k : Int) (List.map syntaxC
 x.items) (syntaxF (x.items.getD k default)) (.d [.rd, .rd] (P_c_heldSyntaxS (x.items.getD k default) (n + (↑(sumBy cY (List.take k x.items)) : Int) + 1 + 1 + 1 + (↑(x.items.getD k
 default).scopes.length : Int))) (.i (n + (↑(sumBy cY (List.take k x.items)) : Int) + 1 + 1 + 1 + (↑(x.items.getD k default).scopes.length : Int) + (↑(sumBy cY (x.items.getD k
 default).items) : Int) < 0) (.o 1 [] [.s (li (-1 : Int))]) (.r ((↑k : Int) + 1) (.g [] (k + 1) [.s (li ((↑k : Int) + 1)), .s (li (n + (↑(sumBy cY (List.take k x.items)) : Int) + 1
 + 1 + 1 + (↑(x.items.getD k default).scopes.length : Int) + (↑(sumBy cY (x.items.getD k default).items) : Int)))]))))))))))))))))))) (.o 0 [] [.s (li (n + (↑(sumBy cY (List.take k
 x.items)) : Int)))]))) (by
  intro k h; try dsimp only [teasy, nthW, lc_heldSyntaxS_sLa] at h ⊢
  have g0 := sumBy_takeLe cY x.items (k + 1)
  have g1 := fun hk : k < x.items.length => mkY_fix (seqM_get hm hk)
  with_reducible repeat' (first | apply And.intro | exact zR | exact ih | (intro; skip) | apply c_markText | apply c_heldIntS | apply ih)
  all_goals (try simp only [std, stdM, inj] at *)
  all_goals with_reducible repeat' apply And.intro
  all_goals (try (first | with_reducible apply c_markText | with_reducible apply c_heldIntS | with_reducible apply ih | (simp only [← List.map_append]; first | with_reducible apply c_markText | with_reducible apply c_heldIntS | with_reducible apply ih)))
  all_goals (try (first | exact z | ((first | refine rowGet ?_ | refine getC ?_ rfl); (first | omega | (simp only [std, stdM]; omega) | grind)) | (refine set_row ?_; (simp only [List.length_map, List.length_set, mkTo_len]; omega)) | (refine mkToRow ?_; (first | omega | (simp only [std, stdM]; omega) | grind)) | (refine mkTo_row ?_ rfl; (first | omega | (simp only [std, stdM]; omega) | grind)) | (refine mkTo_step ?_ ?_; (first | omega | (simp only [std, stdM]; omega) | grind); (first | grind [sumBy_step, getD_mem', cY_eq, snocI, snocS, rowSnoc])) | grind [sumBy_step, getD_mem', cY_eq, snocI, snocS, rowSnoc])))
theorem c_heldSyntaxS_s (x : Syntax) (n : Int) (h0 : 0 ≤ n) (h : n + sumBy cY x.items ≤ 2147483647) (hm : seqM mkY cY x.items n = x.items) (ih : ∀ z ∈ x.items, ∀ (n : Int) (h0 : 0
 ≤ n) (h : n + sumBy cY z.items ≤ 2147483647) (hm : seqM mkY cY z.items n = z.items), P_c_heldSyntaxS z n)  : P_c_heldSyntaxS x n := fnOK Tryz.call55 Tryz.func55 (.l
 (lc_heldSyntaxS_sLa x n) (Sc_heldSyntaxS_sLa x n h0 h hm ih) [] [.s (li 0), .s (li n)] 0 (.t (.s (li (n + (↑(sumBy cY x.items) : Int)))) (.t (.s (li (-1 : Int))) .q))) (by
  dsimp only [teasy, P_c_heldSyntaxS, nthW, lc_heldSyntaxS_sLa]
  have gl := cY_len x.items
  with_reducible repeat' (first | apply And.intro | exact zR | exact ih | (intro; skip) | apply c_markText | apply c_heldIntS)
  all_goals (try simp only [std, stdM, inj] at *)
  all_goals with_reducible repeat' apply And.intro
  all_goals (try (first | with_reducible apply c_markText | with_reducible apply c_heldIntS | with_reducible apply ih | (simp only [← List.map_append]; first | with_reducible apply c_markText | with_reducible apply c_heldIntS | with_reducible apply ih)))
  all_goals (try (first | exact z | ((first | refine rowGet ?_ | refine getC ?_ rfl); (first | omega | (simp only [std, stdM]; omega) | grind)) | (refine set_row ?_; (simp only [List.length_map, List.length_set, mkTo_len]; omega)) | (refine mkToRow ?_; (first | omega | (simp only [std, stdM]; omega) | grind)) | (refine mkTo_row ?_ rfl; (first | omega | (simp only [std, stdM]; omega) | grind)) | (refine mkTo_step ?_ ?_; (first | omega | (simp only [std, stdM]; omega) | grind); (first | grind [mkTo_all, snocI, snocS, rowSnoc])) | grind [mkTo_all, snocI, snocS, rowSnoc])))
theorem c_heldSyntaxS (x : Syntax) : ∀ (n : Int) (h0 : 0 ≤ n) (h : n + sumBy cY x.items ≤ 2147483647) (hm : seqM mkY cY x.items n = x.items), P_c_heldSyntaxS x n := Syntax.ind (P := fun x => ∀ (n : Int) (h0 : 0 ≤ n) (h : n + sumBy cY x.items ≤ 2147483647) (hm : seqM mkY cY x.items n = x.items), P_c_heldSyntaxS x n) (fun x ih n h0 h hm => c_heldSyntaxS_s x n h0 h hm ih) x
theorem c_heldSyntaxSL (L : List Syntax) (n : Int) (h0 : 0 ≤ n) (h : n + sumBy cY L ≤ 2147483647) (hm : seqM mkY cY L n = L) : P_c_heldSyntaxS { (default : Syntax) with items := L } n := c_heldSyntaxS { (default : Syntax) with items := L } n h0 h hm
abbrev P_c_heldBindingS (L : List Binding) (n : Int) : Ct := ⟨81, [], [ll (L.map bindingC), li n], [], .sv (li (n + sumBy cB L))⟩
def lc_heldBindingSLa (L : List Binding) (n : Int) : Lp Nat := .mk 50 0 (fun x => [(0, ll (List.map bindingC L)), (1, hs x 1), (5, hs x 0)]) (fun x => []) (fun k => [.s (li (↑k :
 Int)), .s (li (n + (↑(sumBy cB (List.take k L)) : Int)))]) (fun k => k ≤ L.length ∧ L.length ≤ 9223372036854775807) (fun k => L.length - k) [.mk True (.exit 0) (fun x => [(1, hs x
 0)]) (fun x => []) [.s (li (n + (↑(sumBy cB L) : Int)))], .mk False .ret (fun x => [(4, hs x 0)]) (fun x => []) [.s (li (-1 : Int))]]
theorem Sc_heldBindingSLa (L : List Binding) (n : Int) (h0 : 0 ≤ n) (h : n + (↑(sumBy cB L) : Int) ≤ 2147483647) (hm : seqM mkB cB L n = L) : Lp.Sem Tryz.prog (loopAt Tryz.f81 0)
 (lc_heldBindingSLa L n) := lpOK (fun k => .z bindingC L (.i ((↑k : Int) < (↑(List.map bindingC L).length : Int)) (.w (.draw []) (.x (↑k : Int) (List.map bindingC L) (bindingF
 (L.getD k default)) (.d [.rd] (P_c_markText (n + (↑(sumBy cB (List.take k L)) : Int))) (.i ((L.getD k default).text.data.toList ≠ (mText (n + (↑(sumBy cB (List.take k L)) :
 Int))).data.toList) (.o 1 [] [.s (li (-1 : Int))]) (.r (n + (↑(sumBy cB (List.take k L)) : Int) + 1) (.x (↑k : Int) (List.map bindingC L) (bindingF (L.getD k default)) (.d [.rd,
 .rd] (P_c_heldIntS (L.getD k default).scopes (n + (↑(sumBy cB (List.take k L)) : Int) + 1)) (.i (n + (↑(sumBy cB (List.take k L)) : Int) + 1 + (↑(L.getD k default).scopes.length :
 Int) < 0) (.o 1 [] [.s (li (-1 : Int))]) (.x (↑k : Int) (List.map bindingC L) (bindingF (L.getD k default)) (.i ((L.getD k default).kind ≠ n + (↑(sumBy cB (List.take k L)) : Int)
 + 1 + (↑(L.getD k default).scopes.length : Int)) (.o 1 [] [.s (li (-1 : Int))]) (.r (n + (↑(sumBy cB (List.take k L)) : Int) + 1 + (↑(L.getD k default).scopes.length : Int) + 1)
 (.x (↑k : Int) (List.map bindingC L) (bindingF (L.getD k default)) (.i ((L.getD k default).number ≠ n + (↑(sumBy cB (List.take k L)) : Int) + 1 + (↑(L.getD k
 default).scopes.length : Int) + 1) (.o 1 [] [.s (li (-1 : Int))]) (.r (n + (↑(sumBy cB (List.take k L)) : Int) + 1 + (↑(L.getD k default).scopes.length : Int) + 1 + 1) (.r ((↑k :
 Int) + 1) (.g [] (k + 1) [.s (li ((↑k : Int) + 1)), .s (li (n + (↑(sumBy cB (List.take k L)) : Int) + 1 + (↑(L.getD k default).scopes.length : Int) + 1 + 1))])))))))))))))))) (.o
 0 [] [.s (li (n + (↑(sumBy cB (List.take k L)) : Int)))]))) (by
  intro k h; try dsimp only [teasy, nthW, lc_heldBindingSLa] at h ⊢
  have g0 := sumBy_takeLe cB L (k + 1)
  have g1 := fun hk : k < L.length => mkB_fix (seqM_get hm hk)
  with_reducible repeat' (first | apply And.intro | exact zR | (intro; skip) | apply c_markText | apply c_heldIntS)
  all_goals (try simp only [std, stdM, inj] at *)
  all_goals with_reducible repeat' apply And.intro
  all_goals (try (first | with_reducible apply c_markText | with_reducible apply c_heldIntS | (simp only [← List.map_append]; first | with_reducible apply c_markText | with_reducible apply c_heldIntS)))
  all_goals (try (first | exact z | ((first | refine rowGet ?_ | refine getC ?_ rfl); (first | omega | (simp only [std, stdM]; omega) | grind)) | (refine set_row ?_; (simp only [List.length_map, List.length_set, mkTo_len]; omega)) | (refine mkToRow ?_; (first | omega | (simp only [std, stdM]; omega) | grind)) | (refine mkTo_row ?_ rfl; (first | omega | (simp only [std, stdM]; omega) | grind)) | (refine mkTo_step ?_ ?_; (first | omega | (simp only [std, stdM]; omega) | grind); (first | grind [sumBy_step, getD_mem', cB_eq, snocI, snocS, rowSnoc])) | grind [sumBy_step, getD_mem', cB_eq, snocI, snocS, rowSnoc])))
theorem c_heldBindingS (L : List Binding) (n : Int) (h0 : 0 ≤ n) (h : n + sumBy cB L ≤ 2147483647) (hm : seqM mkB cB L n = L)  : P_c_heldBindingS L n := fnOK Tryz.call81 Tryz.func81
 (.l (lc_heldBindingSLa L n) (Sc_heldBindingSLa L n h0 h hm) [] [.s (li 0), .s (li n)] 0 (.t (.s (li (n + (↑(sumBy cB L) : Int)))) (.t (.s (li (-1 : Int))) .q))) (by
  dsimp only [teasy, P_c_heldBindingS, nthW, lc_heldBindingSLa]
  have gl := cB_len L
  with_reducible repeat' (first | apply And.intro | exact zR | (intro; skip) | apply c_markText | apply c_heldIntS)
  all_goals (try simp only [std, stdM, inj] at *)
  all_goals with_reducible repeat' apply And.intro
  all_goals (try (first | with_reducible apply c_markText | with_reducible apply c_heldIntS | (simp only [← List.map_append]; first | with_reducible apply c_markText | with_reducible apply c_heldIntS)))
  all_goals (try (first | exact z | ((first | refine rowGet ?_ | refine getC ?_ rfl); (first | omega | (simp only [std, stdM]; omega) | grind)) | (refine set_row ?_; (simp only [List.length_map, List.length_set, mkTo_len]; omega)) | (refine mkToRow ?_; (first | omega | (simp only [std, stdM]; omega) | grind)) | (refine mkTo_row ?_ rfl; (first | omega | (simp only [std, stdM]; omega) | grind)) | (refine mkTo_step ?_ ?_; (first | omega | (simp only [std, stdM]; omega) | grind); (first | grind [mkTo_all, snocI, snocS, rowSnoc])) | grind [mkTo_all, snocI, snocS, rowSnoc])))
abbrev P_c_heldRulesS (L : List Rules) (n : Int) : Ct := ⟨82, [], [ll (L.map rulesC), li n], [], .sv (li (n + sumBy cR L))⟩
def lc_heldRulesSLa (L : List Rules) (n : Int) : Lp Nat := .mk 40 0 (fun x => [(0, ll (List.map rulesC L)), (1, hs x 1), (5, hs x 0)]) (fun x => []) (fun k => [.s (li (↑k : Int)),
 .s (li (n + (↑(sumBy cR (List.take k L)) : Int)))]) (fun k => k ≤ L.length ∧ L.length ≤ 9223372036854775807) (fun k => L.length - k) [.mk True (.exit 0) (fun x => [(1, hs x 0)])
 (fun x => []) [.s (li (n + (↑(sumBy cR L) : Int)))], .mk False .ret (fun x => [(4, hs x 0)]) (fun x => []) [.s (li (-1 : Int))]]
theorem Sc_heldRulesSLa (L : List Rules) (n : Int) (h0 : 0 ≤ n) (h : n + (↑(sumBy cR L) : Int) ≤ 2147483647) (h2 : L.length ≤ 2147483647) (hm : seqM mkR cR L n = L) : Lp.Sem
 Tryz.prog (loopAt Tryz.f82 0) (lc_heldRulesSLa L n) := lpOK (fun k => .z rulesC L (.i ((↑k : Int) < (↑(List.map rulesC L).length : Int)) (.x (↑k : Int) (List.map rulesC L) (rulesF
 (L.getD k default)) (.d [.rd, .rd] (P_c_heldSyntaxS (Syntax.mk 0 0 default [] (L.getD k default).literals) (n + (↑(sumBy cR (List.take k L)) : Int))) (.i (n + (↑(sumBy cR
 (List.take k L)) : Int) + (↑(sumBy cY (L.getD k default).literals) : Int) < 0) (.o 1 [] [.s (li (-1 : Int))]) (.x (↑k : Int) (List.map rulesC L) (rulesF (L.getD k default)) (.d
 [.rd, .rd] (P_c_heldSyntaxS (Syntax.mk 0 0 default [] (L.getD k default).patterns) (n + (↑(sumBy cR (List.take k L)) : Int) + (↑(sumBy cY (L.getD k default).literals) : Int))) (.i
 (n + (↑(sumBy cR (List.take k L)) : Int) + (↑(sumBy cY (L.getD k default).literals) : Int) + (↑(sumBy cY (L.getD k default).patterns) : Int) < 0) (.o 1 [] [.s (li (-1 : Int))])
 (.x (↑k : Int) (List.map rulesC L) (rulesF (L.getD k default)) (.d [.rd, .rd] (P_c_heldSyntaxS (Syntax.mk 0 0 default [] (L.getD k default).templates) (n + (↑(sumBy cR (List.take
 k L)) : Int) + (↑(sumBy cY (L.getD k default).literals) : Int) + (↑(sumBy cY (L.getD k default).patterns) : Int))) (.i (n + (↑(sumBy cR (List.take k L)) : Int) + (↑(sumBy cY
 (L.getD k default).literals) : Int) + (↑(sumBy cY (L.getD k default).patterns) : Int) + (↑(sumBy cY (L.getD k default).templates) : Int) < 0) (.o 1 [] [.s (li (-1 : Int))]) (.r
 ((↑k : Int) + 1) (.g [] (k + 1) [.s (li ((↑k : Int) + 1)), .s (li (n + (↑(sumBy cR (List.take k L)) : Int) + (↑(sumBy cY (L.getD k default).literals) : Int) + (↑(sumBy cY (L.getD
 k default).patterns) : Int) + (↑(sumBy cY (L.getD k default).templates) : Int)))]))))))))))) (.o 0 [] [.s (li (n + (↑(sumBy cR (List.take k L)) : Int)))]))) (by
  intro k h; try dsimp only [teasy, nthW, lc_heldRulesSLa] at h ⊢
  have g0 := sumBy_takeLe cR L (k + 1)
  have g1 := fun hk : k < L.length => mkR_fix (seqM_get hm hk)
  with_reducible repeat' (first | apply And.intro | exact zR | (intro; skip) | apply c_heldSyntaxS | apply c_heldSyntaxSL)
  all_goals (try simp only [std, stdM, inj] at *)
  all_goals with_reducible repeat' apply And.intro
  all_goals (try (first | with_reducible apply c_heldSyntaxS | with_reducible apply c_heldSyntaxSL | (simp only [← List.map_append]; first | with_reducible apply c_heldSyntaxS | with_reducible apply c_heldSyntaxSL)))
  all_goals (try (first | exact z | ((first | refine rowGet ?_ | refine getC ?_ rfl); (first | omega | (simp only [std, stdM]; omega) | grind)) | (refine set_row ?_; (simp only [List.length_map, List.length_set, mkTo_len]; omega)) | (refine mkToRow ?_; (first | omega | (simp only [std, stdM]; omega) | grind)) | (refine mkTo_row ?_ rfl; (first | omega | (simp only [std, stdM]; omega) | grind)) | (refine mkTo_step ?_ ?_; (first | omega | (simp only [std, stdM]; omega) | grind); (first | grind [sumBy_step, getD_mem', cR_eq, snocI, snocS, rowSnoc])) | grind [sumBy_step, getD_mem', cR_eq, snocI, snocS, rowSnoc])))
theorem c_heldRulesS (L : List Rules) (n : Int) (h0 : 0 ≤ n) (h : n + sumBy cR L ≤ 2147483647) (h2 : L.length ≤ 2147483647) (hm : seqM mkR cR L n = L)  : P_c_heldRulesS L n := fnOK
 Tryz.call82 Tryz.func82 (.l (lc_heldRulesSLa L n) (Sc_heldRulesSLa L n h0 h h2 hm) [] [.s (li 0), .s (li n)] 0 (.t (.s (li (n + (↑(sumBy cR L) : Int)))) (.t (.s (li (-1 : Int)))
 .q))) (by
  dsimp only [teasy, P_c_heldRulesS, nthW, lc_heldRulesSLa]
  with_reducible repeat' (first | apply And.intro | exact zR | (intro; skip) | apply c_heldSyntaxS | apply c_heldSyntaxSL)
  all_goals (try simp only [std, stdM, inj] at *)
  all_goals with_reducible repeat' apply And.intro
  all_goals (try (first | with_reducible apply c_heldSyntaxS | with_reducible apply c_heldSyntaxSL | (simp only [← List.map_append]; first | with_reducible apply c_heldSyntaxS | with_reducible apply c_heldSyntaxSL)))
  all_goals (try (first | exact z | ((first | refine rowGet ?_ | refine getC ?_ rfl); (first | omega | (simp only [std, stdM]; omega) | grind)) | (refine set_row ?_; (simp only [List.length_map, List.length_set, mkTo_len]; omega)) | (refine mkToRow ?_; (first | omega | (simp only [std, stdM]; omega) | grind)) | (refine mkTo_row ?_ rfl; (first | omega | (simp only [std, stdM]; omega) | grind)) | (refine mkTo_step ?_ ?_; (first | omega | (simp only [std, stdM]; omega) | grind); (first | grind [mkTo_all, snocI, snocS, rowSnoc])) | grind [mkTo_all, snocI, snocS, rowSnoc])))
abbrev P_c_heldExpander (x : Expander) (n : Int) : Ct := ⟨25, [], [.agg [vL (x.bindings.map bindingC), vL (x.macros.map rulesC), vI x.scope, vI x.vari, vI x.steps], li n], [], .sv (li (n + sumBy cB x.bindings + sumBy cR x.macros))⟩
theorem c_heldExpander (x : Expander) (n : Int) (h0 : 0 ≤ n) (h : n + (sumBy cB x.bindings + sumBy cR x.macros : Nat) ≤ 2147483647) (h21 : x.macros.length ≤ 2147483647) (hm0 : seqM
 mkB cB x.bindings (n) = x.bindings) (hm1 : seqM mkR cR x.macros (n + sumBy cB x.bindings) = x.macros)  : P_c_heldExpander x n := fnOK Tryz.call25 Tryz.func25 (.d [.rd, .rd]
 (P_c_heldBindingS x.bindings n) (.i (n + (↑(sumBy cB x.bindings) : Int) < 0) (.s (li (-1 : Int))) (.d [.rd, .rd] (P_c_heldRulesS x.macros (n + (↑(sumBy cB x.bindings) : Int))) (.i
 (n + (↑(sumBy cB x.bindings) : Int) + (↑(sumBy cR x.macros) : Int) < 0) (.s (li (-1 : Int))) (.s (li (n + (↑(sumBy cB x.bindings) : Int) + (↑(sumBy cR x.macros) : Int)))))))) (by
  dsimp only [teasy, P_c_heldExpander]
  with_reducible repeat' (first | apply And.intro | exact zR | (intro; skip) | apply c_heldBindingS | apply c_heldRulesS)
  all_goals (try simp only [std, stdM, inj] at *)
  all_goals with_reducible repeat' apply And.intro
  all_goals (try (first | with_reducible apply c_heldBindingS | with_reducible apply c_heldRulesS | (simp only [← List.map_append]; first | with_reducible apply c_heldBindingS | with_reducible apply c_heldRulesS)))
  all_goals (try (first | exact z | ((first | refine rowGet ?_ | refine getC ?_ rfl); (first | omega | (simp only [std, stdM]; omega) | grind)) | (refine set_row ?_; (simp only [List.length_map, List.length_set, mkTo_len]; omega)) | (refine mkToRow ?_; (first | omega | (simp only [std, stdM]; omega) | grind)) | (refine mkTo_row ?_ rfl; (first | omega | (simp only [std, stdM]; omega) | grind)) | (refine mkTo_step ?_ ?_; (first | omega | (simp only [std, stdM]; omega) | grind); (first | grind [snocI, snocS, rowSnoc])) | grind [snocI, snocS, rowSnoc])))
end Go.Proofs.YtpnaoendfpaodaaGreat
end
section
namespace Go.Proofs.YtpnaoendfpaodaaGreat
open Go Go.Proofs.YtpnaoendfpaodaaGreat.Ab
set_option linter.unusedVariables false
set_option linter.unusedSimpArgs false
set_option maxHeartbeats 4000000
abbrev P_c_szIntS (L : List Int) (left : Int) : Ct := ⟨61, [], [ll (L.map intC), li left], [], .sv (li (sz L.length left))⟩
theorem c_szIntS (L : List Int) (left : Int) (h0 : 0 ≤ left) (h : left ≤ 2147483647)  : P_c_szIntS L left := fnOK Tryz.call61 Tryz.func61 (.z intC L (.r (left - (↑(List.map intC
 L).length : Int)) (.i (left - (↑(List.map intC L).length : Int) < 0) (.s (li (-1 : Int))) (.s (li (left - (↑(List.map intC L).length : Int))))))) (by
  dsimp only [teasy, P_c_szIntS]
  with_reducible repeat' (first | apply And.intro | exact zR | (intro; skip))
  all_goals (try simp only [std, inj] at *)
  all_goals with_reducible repeat' apply And.intro
  all_goals (try (first | exact z | grind [sz, snocI, snocS, rowSnoc])))
abbrev P_c_szSyntaxS (L : List Syntax) (left : Int) : Ct := ⟨36, [], [ll (L.map syntaxC), li left], [], .sv (li (sz (L.length + sumBy wY L) left))⟩
abbrev P_c_szSyntax (x : Syntax) (left : Int) : Ct := ⟨12, [], [syntaxA x, li left], [], .sv (li (sz (wY x) left))⟩
def lc_szSyntaxSLa (L : List Syntax) (left : Int) : Lp (Nat × Int) := .mk 27 0 (fun x => [(0, ll (List.map syntaxC L)), (1, hs x 1), (5, hs x 0)]) (fun x => []) (fun k => [.s (li
 (↑k.fst : Int)), .s (li k.snd)]) (fun k => k.fst ≤ L.length ∧ L.length ≤ 9223372036854775807 ∧ 0 ≤ k.snd ∧ k.snd ≤ left ∧ sz (sumBy wY (List.drop k.fst L)) k.snd = sz (L.length +
 sumBy wY L) left) (fun k => L.length - k.fst) [.mk (0 ≤ sz (L.length + sumBy wY L) left) (.exit 0) (fun x => [(1, hs x 0)]) (fun x => []) [.s (li (sz (L.length + sumBy wY L)
 left))], .mk (sz (L.length + sumBy wY L) left = (-1 : Int)) .ret (fun x => [(4, hs x 0)]) (fun x => []) [.s (li (-1 : Int))]]
theorem Sc_szSyntaxSLa (L : List Syntax) (left : Int) (h0 : 0 ≤ left) (h : left ≤ 2147483647) (ih : ∀ (x : Syntax), x ∈ L → ∀ (left : Int), 0 ≤ left → left ≤ 2147483647 → OK
 (P_c_szSyntax x left)) : Lp.Sem Tryz.prog (loopAt Tryz.f36 0) (lc_szSyntaxSLa L left) := lpOK (fun k => .z syntaxC L (.i ((↑k.fst : Int) < (↑(List.map syntaxC L).length : Int))
 (.x (↑k.fst : Int) (List.map syntaxC L) (syntaxF (L.getD k.fst default)) (.d [.rd, .rd] (P_c_szSyntax (L.getD k.fst default) k.snd) (.i (sz (wY (L.getD k.fst default)) k.snd < 0)
 (.o 1 [] [.s (li (-1 : Int))]) (.r ((↑k.fst : Int) + 1) (.g [] (k.fst + 1, sz (wY (L.getD k.fst default)) k.snd) [.s (li ((↑k.fst : Int) + 1)), .s (li (sz (wY (L.getD k.fst
 default)) k.snd))]))))) (.o 0 [] [.s (li k.snd)]))) (by
  intro k h; try dsimp only [teasy, nthW, lc_szSyntaxSLa] at h ⊢
  obtain ⟨i, n⟩ := k
  simp only at *
  with_reducible repeat' (first | apply And.intro | exact zR | exact ih | (intro; skip) | apply ih)
  all_goals (try simp only [std, inj] at *)
  all_goals with_reducible repeat' apply And.intro
  all_goals (try (first | with_reducible apply ih | (simp only [← List.map_append]; first | with_reducible apply ih)))
  all_goals (try (first | exact z | grind [drop_get, sumBy, sz, getD_mem', snocI, snocS, rowSnoc])))
theorem c_szSyntaxS (L : List Syntax) (left : Int) (h0 : 0 ≤ left) (h : left ≤ 2147483647) (ih : ∀ x ∈ L, ∀ (left : Int) (h0 : 0 ≤ left) (h : left ≤ 2147483647), P_c_szSyntax x
 left)  : P_c_szSyntaxS L left := fnOK Tryz.call36 Tryz.func36 (.z syntaxC L (.r (left - (↑(List.map syntaxC L).length : Int)) (.i (left - (↑(List.map syntaxC L).length : Int) < 0)
 (.s (li (-1 : Int))) (.l (lc_szSyntaxSLa L left) (Sc_szSyntaxSLa L left h0 h ih) [] [.s (li 0), .s (li (left - (↑(List.map syntaxC L).length : Int)))] (0, left - (↑L.length :
 Int)) (.t (.s (li (sz (L.length + sumBy wY L) left))) (.t (.s (li (-1 : Int))) .q)))))) (by
  dsimp only [teasy, P_c_szSyntaxS, nthW, lc_szSyntaxSLa]
  with_reducible repeat' (first | apply And.intro | exact zR | exact ih | (intro; skip))
  all_goals (try simp only [std, inj] at *)
  all_goals with_reducible repeat' apply And.intro
  all_goals (try (first | with_reducible apply ih | (simp only [← List.map_append]; first | with_reducible apply ih)))
  all_goals (try (first | exact z | grind [sz, snocI, snocS, rowSnoc])))
theorem c_szSyntax_s (x : Syntax) (left : Int) (h0 : 0 ≤ left) (h : left ≤ 2147483647) (ih : ∀ z ∈ x.items, ∀ (left : Int) (h0 : 0 ≤ left) (h : left ≤ 2147483647), P_c_szSyntax z
 left)  : P_c_szSyntax x left := fnOK Tryz.call12 Tryz.func12 (.h (x.text.data.toList.length ≤ 9223372036854775807) (.r (left - (↑x.text.data.toList.length : Int)) (.i (left -
 (↑x.text.data.toList.length : Int) < 0) (.s (li (-1 : Int))) (.d [.rd, .rd] (P_c_szIntS x.scopes (left - (↑x.text.data.toList.length : Int))) (.i (sz x.scopes.length (left -
 (↑x.text.data.toList.length : Int)) < 0) (.s (li (-1 : Int))) (.d [.rd, .rd] (P_c_szSyntaxS x.items (sz x.scopes.length (left - (↑x.text.data.toList.length : Int)))) (.i (sz
 (x.items.length + sumBy wY x.items) (sz x.scopes.length (left - (↑x.text.data.toList.length : Int))) < 0) (.s (li (-1 : Int))) (.s (li (sz (x.items.length + sumBy wY x.items) (sz
 x.scopes.length (left - (↑x.text.data.toList.length : Int))))))))))))) (by
  dsimp only [teasy, P_c_szSyntax]
  with_reducible repeat' (first | apply And.intro | exact zR | exact ih | (intro; skip) | apply c_szIntS | apply c_szSyntaxS | apply ih)
  all_goals (try simp only [std, inj] at *)
  all_goals with_reducible repeat' apply And.intro
  all_goals (try (first | with_reducible apply c_szIntS | with_reducible apply c_szSyntaxS | with_reducible apply ih | (simp only [← List.map_append]; first | with_reducible apply c_szIntS | with_reducible apply c_szSyntaxS | with_reducible apply ih)))
  all_goals (try (first | exact z | grind [wY_eq, sz, wS, snocI, snocS, rowSnoc])))
theorem c_szSyntax (x : Syntax) : ∀ (left : Int) (h0 : 0 ≤ left) (h : left ≤ 2147483647), P_c_szSyntax x left := Syntax.ind (P := fun x => ∀ (left : Int) (h0 : 0 ≤ left) (h : left ≤ 2147483647), P_c_szSyntax x left) (fun x ih left h0 h => c_szSyntax_s x left h0 h ih) x
abbrev P_c_szBinding (x : Binding) (left : Int) : Ct := ⟨102, [], [bindingA x, li left], [], .sv (li (sz (wB x) left))⟩
theorem c_szBinding (x : Binding) (left : Int) (h0 : 0 ≤ left) (h : left ≤ 2147483647)  : P_c_szBinding x left := fnOK Tryz.call102 Tryz.func102 (.h (x.text.data.toList.length ≤
 9223372036854775807) (.r (left - (↑x.text.data.toList.length : Int)) (.i (left - (↑x.text.data.toList.length : Int) < 0) (.s (li (-1 : Int))) (.d [.rd, .rd] (P_c_szIntS x.scopes
 (left - (↑x.text.data.toList.length : Int))) (.i (sz x.scopes.length (left - (↑x.text.data.toList.length : Int)) < 0) (.s (li (-1 : Int))) (.s (li (sz x.scopes.length (left -
 (↑x.text.data.toList.length : Int)))))))))) (by
  dsimp only [teasy, P_c_szBinding]
  with_reducible repeat' (first | apply And.intro | exact zR | (intro; skip) | apply c_szIntS)
  all_goals (try simp only [std, inj] at *)
  all_goals with_reducible repeat' apply And.intro
  all_goals (try (first | with_reducible apply c_szIntS | (simp only [← List.map_append]; first | with_reducible apply c_szIntS)))
  all_goals (try (first | exact z | grind [wB_eq, sz, wS, snocI, snocS, rowSnoc])))
abbrev P_c_szBindingS (L : List Binding) (left : Int) : Ct := ⟨35, [], [ll (L.map bindingC), li left], [], .sv (li (sz (L.length + sumBy wB L) left))⟩
def lc_szBindingSLa (L : List Binding) (left : Int) : Lp (Nat × Int) := .mk 27 0 (fun x => [(0, ll (List.map bindingC L)), (1, hs x 1), (5, hs x 0)]) (fun x => []) (fun k => [.s
 (li (↑k.fst : Int)), .s (li k.snd)]) (fun k => k.fst ≤ L.length ∧ L.length ≤ 9223372036854775807 ∧ 0 ≤ k.snd ∧ k.snd ≤ left ∧ sz (sumBy wB (List.drop k.fst L)) k.snd = sz
 (L.length + sumBy wB L) left) (fun k => L.length - k.fst) [.mk (0 ≤ sz (L.length + sumBy wB L) left) (.exit 0) (fun x => [(1, hs x 0)]) (fun x => []) [.s (li (sz (L.length + sumBy
 wB L) left))], .mk (sz (L.length + sumBy wB L) left = (-1 : Int)) .ret (fun x => [(4, hs x 0)]) (fun x => []) [.s (li (-1 : Int))]]
theorem Sc_szBindingSLa (L : List Binding) (left : Int) (h0 : 0 ≤ left) (h : left ≤ 2147483647) : Lp.Sem Tryz.prog (loopAt Tryz.f35 0) (lc_szBindingSLa L left) := lpOK (fun k => .z
 bindingC L (.i ((↑k.fst : Int) < (↑(List.map bindingC L).length : Int)) (.x (↑k.fst : Int) (List.map bindingC L) (bindingF (L.getD k.fst default)) (.d [.rd, .rd] (P_c_szBinding
 (L.getD k.fst default) k.snd) (.i (sz (wB (L.getD k.fst default)) k.snd < 0) (.o 1 [] [.s (li (-1 : Int))]) (.r ((↑k.fst : Int) + 1) (.g [] (k.fst + 1, sz (wB (L.getD k.fst
 default)) k.snd) [.s (li ((↑k.fst : Int) + 1)), .s (li (sz (wB (L.getD k.fst default)) k.snd))]))))) (.o 0 [] [.s (li k.snd)]))) (by
  intro k h; try dsimp only [teasy, nthW, lc_szBindingSLa] at h ⊢
  obtain ⟨i, n⟩ := k
  simp only at *
  with_reducible repeat' (first | apply And.intro | exact zR | (intro; skip) | apply c_szBinding)
  all_goals (try simp only [std, inj] at *)
  all_goals with_reducible repeat' apply And.intro
  all_goals (try (first | with_reducible apply c_szBinding | (simp only [← List.map_append]; first | with_reducible apply c_szBinding)))
  all_goals (try (first | exact z | grind [drop_get, sumBy, sz, getD_mem', snocI, snocS, rowSnoc])))
theorem c_szBindingS (L : List Binding) (left : Int) (h0 : 0 ≤ left) (h : left ≤ 2147483647)  : P_c_szBindingS L left := fnOK Tryz.call35 Tryz.func35 (.z bindingC L (.r (left -
 (↑(List.map bindingC L).length : Int)) (.i (left - (↑(List.map bindingC L).length : Int) < 0) (.s (li (-1 : Int))) (.l (lc_szBindingSLa L left) (Sc_szBindingSLa L left h0 h) []
 [.s (li 0), .s (li (left - (↑(List.map bindingC L).length : Int)))] (0, left - (↑L.length : Int)) (.t (.s (li (sz (L.length + sumBy wB L) left))) (.t (.s (li (-1 : Int))) .q))))))
 (by
  dsimp only [teasy, P_c_szBindingS, nthW, lc_szBindingSLa]
  with_reducible repeat' (first | apply And.intro | exact zR | (intro; skip) | apply c_szBinding)
  all_goals (try simp only [std, inj] at *)
  all_goals with_reducible repeat' apply And.intro
  all_goals (try (first | with_reducible apply c_szBinding | (simp only [← List.map_append]; first | with_reducible apply c_szBinding)))
  all_goals (try (first | exact z | grind [sz, snocI, snocS, rowSnoc])))
abbrev P_c_szRules (x : Rules) (left : Int) : Ct := ⟨13, [], [rulesA x, li left], [], .sv (li (sz (wR x) left))⟩
theorem c_szRules (x : Rules) (left : Int) (h0 : 0 ≤ left) (h : left ≤ 2147483647)  : P_c_szRules x left := fnOK Tryz.call13 Tryz.func13 (.d [.rd, .rd] (P_c_szSyntaxS x.literals
 left) (.i (sz (x.literals.length + sumBy wY x.literals) left < 0) (.s (li (-1 : Int))) (.d [.rd, .rd] (P_c_szSyntaxS x.patterns (sz (x.literals.length + sumBy wY x.literals)
 left)) (.i (sz (x.patterns.length + sumBy wY x.patterns) (sz (x.literals.length + sumBy wY x.literals) left) < 0) (.s (li (-1 : Int))) (.d [.rd, .rd] (P_c_szSyntaxS x.templates
 (sz (x.patterns.length + sumBy wY x.patterns) (sz (x.literals.length + sumBy wY x.literals) left))) (.i (sz (x.templates.length + sumBy wY x.templates) (sz (x.patterns.length +
 sumBy wY x.patterns) (sz (x.literals.length + sumBy wY x.literals) left)) < 0) (.s (li (-1 : Int))) (.s (li (sz (x.templates.length + sumBy wY x.templates) (sz (x.patterns.length
 + sumBy wY x.patterns) (sz (x.literals.length + sumBy wY x.literals) left))))))))))) (by
  dsimp only [teasy, P_c_szRules]
  with_reducible repeat' (first | apply And.intro | exact zR | (intro; skip) | apply c_szSyntaxS | apply c_szSyntax)
  all_goals (try simp only [std, inj] at *)
  all_goals with_reducible repeat' apply And.intro
  all_goals (try (first | with_reducible apply c_szSyntaxS | with_reducible apply c_szSyntax | (simp only [← List.map_append]; first | with_reducible apply c_szSyntaxS | with_reducible apply c_szSyntax)))
  all_goals (try (first | exact z | grind [wR_eq, sz, wS, snocI, snocS, rowSnoc])))
abbrev P_c_szRulesS (L : List Rules) (left : Int) : Ct := ⟨60, [], [ll (L.map rulesC), li left], [], .sv (li (sz (L.length + sumBy wR L) left))⟩
def lc_szRulesSLa (L : List Rules) (left : Int) : Lp (Nat × Int) := .mk 27 0 (fun x => [(0, ll (List.map rulesC L)), (1, hs x 1), (5, hs x 0)]) (fun x => []) (fun k => [.s (li
 (↑k.fst : Int)), .s (li k.snd)]) (fun k => k.fst ≤ L.length ∧ L.length ≤ 9223372036854775807 ∧ 0 ≤ k.snd ∧ k.snd ≤ left ∧ sz (sumBy wR (List.drop k.fst L)) k.snd = sz (L.length +
 sumBy wR L) left) (fun k => L.length - k.fst) [.mk (0 ≤ sz (L.length + sumBy wR L) left) (.exit 0) (fun x => [(1, hs x 0)]) (fun x => []) [.s (li (sz (L.length + sumBy wR L)
 left))], .mk (sz (L.length + sumBy wR L) left = (-1 : Int)) .ret (fun x => [(4, hs x 0)]) (fun x => []) [.s (li (-1 : Int))]]
theorem Sc_szRulesSLa (L : List Rules) (left : Int) (h0 : 0 ≤ left) (h : left ≤ 2147483647) : Lp.Sem Tryz.prog (loopAt Tryz.f60 0) (lc_szRulesSLa L left) := lpOK (fun k => .z
 rulesC L (.i ((↑k.fst : Int) < (↑(List.map rulesC L).length : Int)) (.x (↑k.fst : Int) (List.map rulesC L) (rulesF (L.getD k.fst default)) (.d [.rd, .rd] (P_c_szRules (L.getD
 k.fst default) k.snd) (.i (sz (wR (L.getD k.fst default)) k.snd < 0) (.o 1 [] [.s (li (-1 : Int))]) (.r ((↑k.fst : Int) + 1) (.g [] (k.fst + 1, sz (wR (L.getD k.fst default))
 k.snd) [.s (li ((↑k.fst : Int) + 1)), .s (li (sz (wR (L.getD k.fst default)) k.snd))]))))) (.o 0 [] [.s (li k.snd)]))) (by
  intro k h; try dsimp only [teasy, nthW, lc_szRulesSLa] at h ⊢
  obtain ⟨i, n⟩ := k
  simp only at *
  with_reducible repeat' (first | apply And.intro | exact zR | (intro; skip) | apply c_szRules)
  all_goals (try simp only [std, inj] at *)
  all_goals with_reducible repeat' apply And.intro
  all_goals (try (first | with_reducible apply c_szRules | (simp only [← List.map_append]; first | with_reducible apply c_szRules)))
  all_goals (try (first | exact z | grind [drop_get, sumBy, sz, getD_mem', snocI, snocS, rowSnoc])))
theorem c_szRulesS (L : List Rules) (left : Int) (h0 : 0 ≤ left) (h : left ≤ 2147483647)  : P_c_szRulesS L left := fnOK Tryz.call60 Tryz.func60 (.z rulesC L (.r (left - (↑(List.map
 rulesC L).length : Int)) (.i (left - (↑(List.map rulesC L).length : Int) < 0) (.s (li (-1 : Int))) (.l (lc_szRulesSLa L left) (Sc_szRulesSLa L left h0 h) [] [.s (li 0), .s (li
 (left - (↑(List.map rulesC L).length : Int)))] (0, left - (↑L.length : Int)) (.t (.s (li (sz (L.length + sumBy wR L) left))) (.t (.s (li (-1 : Int))) .q)))))) (by
  dsimp only [teasy, P_c_szRulesS, nthW, lc_szRulesSLa]
  with_reducible repeat' (first | apply And.intro | exact zR | (intro; skip) | apply c_szRules)
  all_goals (try simp only [std, inj] at *)
  all_goals with_reducible repeat' apply And.intro
  all_goals (try (first | with_reducible apply c_szRules | (simp only [← List.map_append]; first | with_reducible apply c_szRules)))
  all_goals (try (first | exact z | grind [sz, snocI, snocS, rowSnoc])))
abbrev P_c_szExpander (x : Expander) (left : Int) : Ct := ⟨11, [], [expanderA x, li left], [], .sv (li (sz (wX x) left))⟩
theorem c_szExpander (x : Expander) (left : Int) (h0 : 0 ≤ left) (h : left ≤ 2147483647)  : P_c_szExpander x left := fnOK Tryz.call11 Tryz.func11 (.d [.rd, .rd] (P_c_szBindingS
 x.bindings left) (.i (sz (x.bindings.length + sumBy wB x.bindings) left < 0) (.s (li (-1 : Int))) (.d [.rd, .rd] (P_c_szRulesS x.macros (sz (x.bindings.length + sumBy wB
 x.bindings) left)) (.i (sz (x.macros.length + sumBy wR x.macros) (sz (x.bindings.length + sumBy wB x.bindings) left) < 0) (.s (li (-1 : Int))) (.s (li (sz (x.macros.length + sumBy
 wR x.macros) (sz (x.bindings.length + sumBy wB x.bindings) left)))))))) (by
  dsimp only [teasy, P_c_szExpander]
  with_reducible repeat' (first | apply And.intro | exact zR | (intro; skip) | apply c_szBindingS | apply c_szRulesS)
  all_goals (try simp only [std, inj] at *)
  all_goals with_reducible repeat' apply And.intro
  all_goals (try (first | with_reducible apply c_szBindingS | with_reducible apply c_szRulesS | (simp only [← List.map_append]; first | with_reducible apply c_szBindingS | with_reducible apply c_szRulesS)))
  all_goals (try (first | exact z | grind [wX_eq, sz, wS, snocI, snocS, rowSnoc])))
end Go.Proofs.YtpnaoendfpaodaaGreat
end
section
namespace Go.Proofs.YtpnaoendfpaodaaGreat
open Go Go.Proofs.YtpnaoendfpaodaaGreat.Ab
set_option linter.unusedVariables false
set_option linter.unusedSimpArgs false
set_option maxHeartbeats 4000000
abbrev P_c_toIntS (L : List Int) : Ct := ⟨69, [], [ll (L.map intC)], [.arr true 1 (L.map intC)], .sv (.one (.ref 0))⟩
def lc_toIntSLa (L : List Int) : Lp Nat := .mk 22 0 (fun x => [(0, ll (List.map intC L)), (3, SV.one (AC.ref 0)), (4, hs x 0)]) (fun x => [ho x 1]) (fun k => [.s (li (↑k : Int)),
 .o (Ob.arr true 1 (List.map intC (fillTo L k)))]) (fun k => k ≤ L.length ∧ L.length ≤ 9223372036854775807) (fun k => L.length - k) [.mk True (.exit 0) (fun x => [(3, SV.one
 (AC.ref 0))]) (fun x => [ho x 0]) [.o (Ob.arr true 1 (List.map intC L))]]
theorem Sc_toIntSLa (L : List Int) (h : L.length ≤ 1048576) : Lp.Sem Tryz.prog (loopAt Tryz.f69 0) (lc_toIntSLa L) := lpOK (fun k => .z intC L (.i ((↑k : Int) < (↑(List.map intC
 L).length : Int)) (.x (↑k : Int) (List.map intC L) [cI (L.getD k 0)] (.p (0 ≤ (↑k : Int) ∧ (↑k : Int).toNat < (List.map intC (fillTo L k)).length) (.w (.cells (intC ((fillTo L
 k).getD (↑k : Int).toNat default))) (.p ((List.map intC (fillTo L k))[(↑k : Int).toNat]? = some [cI ((fillTo L k).getD (↑k : Int).toNat 0)]) (.r ((↑k : Int) + 1) (.g [0] (k + 1)
 [.s (li ((↑k : Int) + 1)), .o (Ob.arr true 1 ((List.map intC (fillTo L k)).set (↑k : Int).toNat [cI (L.getD k 0)]))])))))) (.o 0 [0] [.o (Ob.arr true 1 (List.map intC (fillTo L
 k)))]))) (by
  intro k h; try dsimp only [teasy, nthW, lc_toIntSLa] at h ⊢
  with_reducible repeat' (first | apply And.intro | exact zR | (intro; skip))
  all_goals (try simp only [std, inj] at *)
  all_goals with_reducible repeat' apply And.intro
  all_goals (try (first | exact z | exact zF | grind [fillTo_all, snocI, snocS, rowSnoc])))
theorem c_toIntS (L : List Int) (h : L.length ≤ 1048576)  : P_c_toIntS L := fnOK Tryz.call69 Tryz.func69 (.z intC L (.p (0 ≤ (↑(List.map intC L).length : Int) ∧ 8 * (↑(List.map intC
 L).length : Int).toNat ≤ 281474976710656) (.l (lc_toIntSLa L) (Sc_toIntSLa L h) [0] [.s (li 0), .o (Ob.arr true 1 (List.replicate (↑(List.map intC L).length : Int).toNat [cI 0]))]
 0 (.t (.f [0] [Ob.arr true 1 (List.map intC L)] (AV.sv (SV.one (AC.ref 0)))) .q)))) (by
  dsimp only [teasy, P_c_toIntS, nthW, lc_toIntSLa]
  with_reducible repeat' (first | apply And.intro | exact zR | (intro; skip))
  all_goals (try simp only [std, inj] at *)
  all_goals with_reducible repeat' apply And.intro
  all_goals (try (first | exact z | exact zF | grind [snocI, snocS, rowSnoc])))
abbrev P_c_toSyntaxS (L : List Syntax) : Ct := ⟨39, [], [ll (L.map syntaxC)], [.arr true 5 (L.map syntaxC)], .sv (.one (.ref 0))⟩
abbrev P_c_toSyntax (x : Syntax) : Ct := ⟨16, [], [syntaxA x], syntaxO x, .sv (syntaxR x 0)⟩
def lc_toSyntaxSLa (L : List Syntax) : Lp Nat := .mk 23 0 (fun x => [(0, ll (List.map syntaxC L)), (3, SV.one (AC.ref 0)), (4, hs x 0)]) (fun x => [ho x 1]) (fun k => [.s (li (↑k :
 Int)), .o (Ob.arr true 5 (List.map syntaxC (fillTo L k)))]) (fun k => k ≤ L.length ∧ L.length ≤ 9223372036854775807) (fun k => L.length - k) [.mk True (.exit 0) (fun x => [(3,
 SV.one (AC.ref 0))]) (fun x => [ho x 0]) [.o (Ob.arr true 5 (List.map syntaxC L))]]
theorem Sc_toSyntaxSLa (L : List Syntax) (h : L.length + sumBy wY L ≤ 1048576) (ih : ∀ (x : Syntax), x ∈ L → wY x ≤ 1048576 → OK (P_c_toSyntax x)) : Lp.Sem Tryz.prog (loopAt
 Tryz.f39 0) (lc_toSyntaxSLa L) := lpOK (fun k => .z syntaxC L (.i ((↑k : Int) < (↑(List.map syntaxC L).length : Int)) (.x (↑k : Int) (List.map syntaxC L) (syntaxF (L.getD k
 default)) (.d [.rd] (P_c_toSyntax (L.getD k default)) (.p (0 ≤ (↑k : Int) ∧ (↑k : Int).toNat < (List.map syntaxC (fillTo L k)).length) (.w (.cells (syntaxF ((fillTo L k).getD (↑k
 : Int).toNat default))) (.p ((List.map syntaxC (fillTo L k))[(↑k : Int).toNat]? = some (syntaxF ((fillTo L k).getD (↑k : Int).toNat default))) (.r ((↑k : Int) + 1) (.g [0] (k + 1)
 [.s (li ((↑k : Int) + 1)), .o (Ob.arr true 5 ((List.map syntaxC (fillTo L k)).set (↑k : Int).toNat (syntaxF (L.getD k default))))]))))))) (.o 0 [0] [.o (Ob.arr true 5 (List.map
 syntaxC (fillTo L k)))]))) (by
  intro k h; try dsimp only [teasy, nthW, lc_toSyntaxSLa] at h ⊢
  with_reducible repeat' (first | apply And.intro | exact zR | exact ih | (intro; skip) | apply ih)
  all_goals (try simp only [std, inj] at *)
  all_goals with_reducible repeat' apply And.intro
  all_goals (try (first | with_reducible apply ih | (simp only [← List.map_append]; first | with_reducible apply ih)))
  all_goals (try (first | exact z | exact zF | grind [fillTo_all, getD_mem', sumBy_mem, snocI, snocS, rowSnoc])))
theorem c_toSyntaxS (L : List Syntax) (h : L.length + sumBy wY L ≤ 1048576) (ih : ∀ x ∈ L, ∀ (h : wY x ≤ 1048576), P_c_toSyntax x)  : P_c_toSyntaxS L := fnOK Tryz.call39 Tryz.func39
 (.z syntaxC L (.p (0 ≤ (↑(List.map syntaxC L).length : Int) ∧ 80 * (↑(List.map syntaxC L).length : Int).toNat ≤ 281474976710656) (.l (lc_toSyntaxSLa L) (Sc_toSyntaxSLa L h ih) [0]
 [.s (li 0), .o (Ob.arr true 5 (List.replicate (↑(List.map syntaxC L).length : Int).toNat [cI 0, cI 0, cS (ByteArray.mk #[]), Cell.list [], Cell.list []]))] 0 (.t (.f [0] [Ob.arr
 true 5 (List.map syntaxC L)] (AV.sv (SV.one (AC.ref 0)))) .q)))) (by
  dsimp only [teasy, P_c_toSyntaxS, nthW, lc_toSyntaxSLa]
  with_reducible repeat' (first | apply And.intro | exact zR | exact ih | (intro; skip))
  all_goals (try simp only [std, inj] at *)
  all_goals with_reducible repeat' apply And.intro
  all_goals (try (first | with_reducible apply ih | (simp only [← List.map_append]; first | with_reducible apply ih)))
  all_goals (try (first | exact z | exact zF | grind [snocI, snocS, rowSnoc])))
theorem c_toSyntax_s (x : Syntax) (h : wY x ≤ 1048576) (ih : ∀ z ∈ x.items, ∀ (h : wY z ≤ 1048576), P_c_toSyntax z)  : P_c_toSyntax x := fnOK Tryz.call16 Tryz.func16 (.d [.rd]
 (P_c_toIntS x.scopes) (.d [.rd] (P_c_toSyntaxS x.items) (.f [3, 4] [Ob.arr true 1 (List.map intC x.scopes), Ob.arr true 5 (List.map syntaxC x.items)] (AV.sv (SV.agg [vI x.kind, vI
 x.number, vS x.text, AC.ref 0, AC.ref 1]))))) (by
  dsimp only [teasy, P_c_toSyntax]
  with_reducible repeat' (first | apply And.intro | exact zR | exact ih | (intro; skip) | apply c_toIntS | apply c_toSyntaxS | apply ih)
  all_goals (try simp only [std, inj] at *)
  all_goals with_reducible repeat' apply And.intro
  all_goals (try (first | with_reducible apply c_toIntS | with_reducible apply c_toSyntaxS | with_reducible apply ih | (simp only [← List.map_append]; first | with_reducible apply c_toIntS | with_reducible apply c_toSyntaxS | with_reducible apply ih)))
  all_goals (try (first | exact z | exact zF | grind [wY_eq, wS, snocI, snocS, rowSnoc])))
theorem c_toSyntax (x : Syntax) : ∀ (h : wY x ≤ 1048576), P_c_toSyntax x := Syntax.ind (P := fun x => ∀ (h : wY x ≤ 1048576), P_c_toSyntax x) (fun x ih h => c_toSyntax_s x h ih) x
abbrev P_c_toBinding (x : Binding) : Ct := ⟨107, [], [bindingA x], bindingO x, .sv (bindingR x 0)⟩
theorem c_toBinding (x : Binding) (h : wB x ≤ 1048576)  : P_c_toBinding x := fnOK Tryz.call107 Tryz.func107 (.d [.rd] (P_c_toIntS x.scopes) (.f [3] [Ob.arr true 1 (List.map intC
 x.scopes)] (AV.sv (SV.agg [vS x.text, AC.ref 0, vI x.kind, vI x.number])))) (by
  dsimp only [teasy, P_c_toBinding]
  with_reducible repeat' (first | apply And.intro | exact zR | (intro; skip) | apply c_toIntS)
  all_goals (try simp only [std, inj] at *)
  all_goals with_reducible repeat' apply And.intro
  all_goals (try (first | with_reducible apply c_toIntS | (simp only [← List.map_append]; first | with_reducible apply c_toIntS)))
  all_goals (try (first | exact z | exact zF | grind [wB_eq, wS, snocI, snocS, rowSnoc])))
abbrev P_c_toBindingS (L : List Binding) : Ct := ⟨38, [], [ll (L.map bindingC)], [.arr true 4 (L.map bindingC)], .sv (.one (.ref 0))⟩
def lc_toBindingSLa (L : List Binding) : Lp Nat := .mk 23 0 (fun x => [(0, ll (List.map bindingC L)), (3, SV.one (AC.ref 0)), (4, hs x 0)]) (fun x => [ho x 1]) (fun k => [.s (li
 (↑k : Int)), .o (Ob.arr true 4 (List.map bindingC (fillTo L k)))]) (fun k => k ≤ L.length ∧ L.length ≤ 9223372036854775807) (fun k => L.length - k) [.mk True (.exit 0) (fun x =>
 [(3, SV.one (AC.ref 0))]) (fun x => [ho x 0]) [.o (Ob.arr true 4 (List.map bindingC L))]]
theorem Sc_toBindingSLa (L : List Binding) (h : L.length + sumBy wB L ≤ 1048576) : Lp.Sem Tryz.prog (loopAt Tryz.f38 0) (lc_toBindingSLa L) := lpOK (fun k => .z bindingC L (.i ((↑k
 : Int) < (↑(List.map bindingC L).length : Int)) (.x (↑k : Int) (List.map bindingC L) (bindingF (L.getD k default)) (.d [.rd] (P_c_toBinding (L.getD k default)) (.p (0 ≤ (↑k : Int)
 ∧ (↑k : Int).toNat < (List.map bindingC (fillTo L k)).length) (.w (.cells (bindingF ((fillTo L k).getD (↑k : Int).toNat default))) (.p ((List.map bindingC (fillTo L k))[(↑k :
 Int).toNat]? = some (bindingF ((fillTo L k).getD (↑k : Int).toNat default))) (.r ((↑k : Int) + 1) (.g [0] (k + 1) [.s (li ((↑k : Int) + 1)), .o (Ob.arr true 4 ((List.map bindingC
 (fillTo L k)).set (↑k : Int).toNat (bindingF (L.getD k default))))]))))))) (.o 0 [0] [.o (Ob.arr true 4 (List.map bindingC (fillTo L k)))]))) (by
  intro k h; try dsimp only [teasy, nthW, lc_toBindingSLa] at h ⊢
  with_reducible repeat' (first | apply And.intro | exact zR | (intro; skip) | apply c_toBinding)
  all_goals (try simp only [std, inj] at *)
  all_goals with_reducible repeat' apply And.intro
  all_goals (try (first | with_reducible apply c_toBinding | (simp only [← List.map_append]; first | with_reducible apply c_toBinding)))
  all_goals (try (first | exact z | exact zF | grind [fillTo_all, getD_mem', sumBy_mem, snocI, snocS, rowSnoc])))
theorem c_toBindingS (L : List Binding) (h : L.length + sumBy wB L ≤ 1048576)  : P_c_toBindingS L := fnOK Tryz.call38 Tryz.func38 (.z bindingC L (.p (0 ≤ (↑(List.map bindingC
 L).length : Int) ∧ 56 * (↑(List.map bindingC L).length : Int).toNat ≤ 281474976710656) (.l (lc_toBindingSLa L) (Sc_toBindingSLa L h) [0] [.s (li 0), .o (Ob.arr true 4
 (List.replicate (↑(List.map bindingC L).length : Int).toNat [cS (ByteArray.mk #[]), Cell.list [], cI 0, cI 0]))] 0 (.t (.f [0] [Ob.arr true 4 (List.map bindingC L)] (AV.sv (SV.one
 (AC.ref 0)))) .q)))) (by
  dsimp only [teasy, P_c_toBindingS, nthW, lc_toBindingSLa]
  with_reducible repeat' (first | apply And.intro | exact zR | (intro; skip) | apply c_toBinding)
  all_goals (try simp only [std, inj] at *)
  all_goals with_reducible repeat' apply And.intro
  all_goals (try (first | with_reducible apply c_toBinding | (simp only [← List.map_append]; first | with_reducible apply c_toBinding)))
  all_goals (try (first | exact z | exact zF | grind [snocI, snocS, rowSnoc])))
abbrev P_c_toRules (x : Rules) : Ct := ⟨17, [], [rulesA x], rulesO x, .sv (rulesR x 0)⟩
theorem c_toRules (x : Rules) (h : wR x ≤ 1048576)  : P_c_toRules x := fnOK Tryz.call17 Tryz.func17 (.d [.rd] (P_c_toSyntaxS x.literals) (.d [.rd] (P_c_toSyntaxS x.patterns) (.d
 [.rd] (P_c_toSyntaxS x.templates) (.f [3, 4, 5] [Ob.arr true 5 (List.map syntaxC x.literals), Ob.arr true 5 (List.map syntaxC x.patterns), Ob.arr true 5 (List.map syntaxC
 x.templates)] (AV.sv (SV.agg [AC.ref 0, AC.ref 1, AC.ref 2])))))) (by
  dsimp only [teasy, P_c_toRules]
  with_reducible repeat' (first | apply And.intro | exact zR | (intro; skip) | apply c_toSyntaxS | apply c_toSyntax)
  all_goals (try simp only [std, inj] at *)
  all_goals with_reducible repeat' apply And.intro
  all_goals (try (first | with_reducible apply c_toSyntaxS | with_reducible apply c_toSyntax | (simp only [← List.map_append]; first | with_reducible apply c_toSyntaxS | with_reducible apply c_toSyntax)))
  all_goals (try (first | exact z | exact zF | grind [wR_eq, wS, snocI, snocS, rowSnoc])))
abbrev P_c_toRulesS (L : List Rules) : Ct := ⟨68, [], [ll (L.map rulesC)], [.arr true 3 (L.map rulesC)], .sv (.one (.ref 0))⟩
def lc_toRulesSLa (L : List Rules) : Lp Nat := .mk 23 0 (fun x => [(0, ll (List.map rulesC L)), (3, SV.one (AC.ref 0)), (4, hs x 0)]) (fun x => [ho x 1]) (fun k => [.s (li (↑k :
 Int)), .o (Ob.arr true 3 (List.map rulesC (fillTo L k)))]) (fun k => k ≤ L.length ∧ L.length ≤ 9223372036854775807) (fun k => L.length - k) [.mk True (.exit 0) (fun x => [(3,
 SV.one (AC.ref 0))]) (fun x => [ho x 0]) [.o (Ob.arr true 3 (List.map rulesC L))]]
theorem Sc_toRulesSLa (L : List Rules) (h : L.length + sumBy wR L ≤ 1048576) : Lp.Sem Tryz.prog (loopAt Tryz.f68 0) (lc_toRulesSLa L) := lpOK (fun k => .z rulesC L (.i ((↑k : Int)
 < (↑(List.map rulesC L).length : Int)) (.x (↑k : Int) (List.map rulesC L) (rulesF (L.getD k default)) (.d [.rd] (P_c_toRules (L.getD k default)) (.p (0 ≤ (↑k : Int) ∧ (↑k :
 Int).toNat < (List.map rulesC (fillTo L k)).length) (.w (.cells (rulesF ((fillTo L k).getD (↑k : Int).toNat default))) (.p ((List.map rulesC (fillTo L k))[(↑k : Int).toNat]? =
 some (rulesF ((fillTo L k).getD (↑k : Int).toNat default))) (.r ((↑k : Int) + 1) (.g [0] (k + 1) [.s (li ((↑k : Int) + 1)), .o (Ob.arr true 3 ((List.map rulesC (fillTo L k)).set
 (↑k : Int).toNat (rulesF (L.getD k default))))]))))))) (.o 0 [0] [.o (Ob.arr true 3 (List.map rulesC (fillTo L k)))]))) (by
  intro k h; try dsimp only [teasy, nthW, lc_toRulesSLa] at h ⊢
  with_reducible repeat' (first | apply And.intro | exact zR | (intro; skip) | apply c_toRules)
  all_goals (try simp only [std, inj] at *)
  all_goals with_reducible repeat' apply And.intro
  all_goals (try (first | with_reducible apply c_toRules | (simp only [← List.map_append]; first | with_reducible apply c_toRules)))
  all_goals (try (first | exact z | exact zF | grind [fillTo_all, getD_mem', sumBy_mem, snocI, snocS, rowSnoc])))
theorem c_toRulesS (L : List Rules) (h : L.length + sumBy wR L ≤ 1048576)  : P_c_toRulesS L := fnOK Tryz.call68 Tryz.func68 (.z rulesC L (.p (0 ≤ (↑(List.map rulesC L).length : Int)
 ∧ 72 * (↑(List.map rulesC L).length : Int).toNat ≤ 281474976710656) (.l (lc_toRulesSLa L) (Sc_toRulesSLa L h) [0] [.s (li 0), .o (Ob.arr true 3 (List.replicate (↑(List.map rulesC
 L).length : Int).toNat [Cell.list [], Cell.list [], Cell.list []]))] 0 (.t (.f [0] [Ob.arr true 3 (List.map rulesC L)] (AV.sv (SV.one (AC.ref 0)))) .q)))) (by
  dsimp only [teasy, P_c_toRulesS, nthW, lc_toRulesSLa]
  with_reducible repeat' (first | apply And.intro | exact zR | (intro; skip) | apply c_toRules)
  all_goals (try simp only [std, inj] at *)
  all_goals with_reducible repeat' apply And.intro
  all_goals (try (first | with_reducible apply c_toRules | (simp only [← List.map_append]; first | with_reducible apply c_toRules)))
  all_goals (try (first | exact z | exact zF | grind [snocI, snocS, rowSnoc])))
abbrev P_c_toExpander (x : Expander) : Ct := ⟨15, [], [expanderA x], expanderO x, .sv (expanderR x 0)⟩
theorem c_toExpander (x : Expander) (h : wX x ≤ 1048576)  : P_c_toExpander x := fnOK Tryz.call15 Tryz.func15 (.d [.rd] (P_c_toBindingS x.bindings) (.d [.rd] (P_c_toRulesS x.macros)
 (.f [3, 4] [Ob.arr true 4 (List.map bindingC x.bindings), Ob.arr true 3 (List.map rulesC x.macros)] (AV.sv (SV.agg [AC.ref 0, AC.ref 1, vI x.scope, vI x.vari, vI x.steps]))))) (by
  dsimp only [teasy, P_c_toExpander]
  with_reducible repeat' (first | apply And.intro | exact zR | (intro; skip) | apply c_toBindingS | apply c_toRulesS)
  all_goals (try simp only [std, inj] at *)
  all_goals with_reducible repeat' apply And.intro
  all_goals (try (first | with_reducible apply c_toBindingS | with_reducible apply c_toRulesS | (simp only [← List.map_append]; first | with_reducible apply c_toBindingS | with_reducible apply c_toRulesS)))
  all_goals (try (first | exact z | exact zF | grind [wX_eq, wS, snocI, snocS, rowSnoc])))
end Go.Proofs.YtpnaoendfpaodaaGreat
end
section
namespace Go.Proofs.YtpnaoendfpaodaaGreat
open Go Go.Proofs.YtpnaoendfpaodaaGreat.Ab
set_option linter.unusedVariables false
set_option linter.unusedSimpArgs false
set_option maxHeartbeats 4000000
abbrev P_c_eqIntS (A : List Int) (B : List Int) : Ct := ⟨78, [], [ll (A.map intC), ll (B.map intC)], [], .sv (lb (decide (A = B)))⟩
def lc_eqIntSLa (A : List Int) (B : List Int) : Lp Nat := .mk 26 0 (fun x => [(0, ll (List.map intC A)), (1, ll (List.map intC B)), (5, hs x 0)]) (fun x => []) (fun k => [.s (li
 (↑k : Int))]) (fun k => k ≤ A.length ∧ A.length ≤ 9223372036854775807 ∧ A.length = B.length ∧ List.take k A = List.take k B) (fun k => A.length - k) [.mk (A = B) (.exit 0) (fun x
 => []) (fun x => []) [], .mk (A ≠ B) .ret (fun x => [(4, hs x 0)]) (fun x => []) [.s (lb false)]]
theorem Sc_eqIntSLa (A : List Int) (B : List Int) : Lp.Sem Tryz.prog (loopAt Tryz.f78 0) (lc_eqIntSLa A B) := lpOK (fun k => .z intC A (.i ((↑k : Int) < (↑(List.map intC A).length
 : Int)) (.w (.draw []) (.x (↑k : Int) (List.map intC A) [cI (A.getD k 0)] (.x (↑k : Int) (List.map intC B) [cI (B.getD k 0)] (.i (A.getD k (0 : Int) ≠ B.getD k 0) (.o 1 [] [.s (lb
 false)]) (.r ((↑k : Int) + 1) (.g [] (k + 1) [.s (li ((↑k : Int) + 1))])))))) (.o 0 [] []))) (by
  intro k h; try dsimp only [teasy, nthW, lc_eqIntSLa] at h ⊢
  with_reducible repeat' (first | apply And.intro | exact zR | (intro; skip))
  all_goals (try simp only [std, inj] at *)
  all_goals with_reducible repeat' apply And.intro
  all_goals (try (first | exact z | grind [take_eq, snocI, snocS, rowSnoc])))
theorem c_eqIntS (A B : List Int)  : P_c_eqIntS A B := fnOK Tryz.call78 Tryz.func78 (.z intC A (.z intC B (.i ((↑(List.map intC A).length : Int) ≠ (↑(List.map intC B).length : Int))
 (.s (lb false)) (.l (lc_eqIntSLa A B) (Sc_eqIntSLa A B) [] [.s (li 0)] 0 (.t (.s (lb true)) (.t (.s (lb false)) .q)))))) (by
  dsimp only [teasy, P_c_eqIntS, nthW, lc_eqIntSLa]
  with_reducible repeat' (first | apply And.intro | exact zR | (intro; skip))
  all_goals (try simp only [std, inj] at *)
  all_goals with_reducible repeat' apply And.intro
  all_goals (try (first | exact z | grind [snocI, snocS, rowSnoc])))
abbrev P_c_eqSyntaxS (A : List Syntax) (B : List Syntax) : Ct := ⟨43, [], [ll (A.map syntaxC), ll (B.map syntaxC)], [], .sv (lb (decide (A = B)))⟩
abbrev P_c_eqSyntax (x : Syntax) (y : Syntax) : Ct := ⟨20, [], [syntaxA x, syntaxA y], [], .sv (lb (decide (x = y)))⟩
def lc_eqSyntaxSLa (A : List Syntax) (B : List Syntax) : Lp Nat := .mk 27 0 (fun x => [(0, ll (List.map syntaxC A)), (1, ll (List.map syntaxC B)), (5, hs x 0)]) (fun x => []) (fun
 k => [.s (li (↑k : Int))]) (fun k => k ≤ A.length ∧ A.length ≤ 9223372036854775807 ∧ A.length = B.length ∧ List.take k A = List.take k B) (fun k => A.length - k) [.mk (A = B)
 (.exit 0) (fun x => []) (fun x => []) [], .mk (A ≠ B) .ret (fun x => [(4, hs x 0)]) (fun x => []) [.s (lb false)]]
theorem Sc_eqSyntaxSLa (A : List Syntax) (B : List Syntax) (ih : ∀ (x : Syntax), x ∈ A → ∀ (y : Syntax), OK (P_c_eqSyntax x y)) : Lp.Sem Tryz.prog (loopAt Tryz.f43 0)
 (lc_eqSyntaxSLa A B) := lpOK (fun k => .z syntaxC A (.i ((↑k : Int) < (↑(List.map syntaxC A).length : Int)) (.w (.draw []) (.x (↑k : Int) (List.map syntaxC A) (syntaxF (A.getD k
 default)) (.x (↑k : Int) (List.map syntaxC B) (syntaxF (B.getD k default)) (.d [.rd, .rd] (P_c_eqSyntax (A.getD k default) (B.getD k default)) (.b (!decide (A.getD k default =
 B.getD k default)) (.o 1 [] [.s (lb false)]) (.r ((↑k : Int) + 1) (.g [] (k + 1) [.s (li ((↑k : Int) + 1))]))))))) (.o 0 [] []))) (by
  intro k h; try dsimp only [teasy, nthW, lc_eqSyntaxSLa] at h ⊢
  with_reducible repeat' (first | apply And.intro | exact zR | exact ih | (intro; skip) | apply ih)
  all_goals (try simp only [std, inj] at *)
  all_goals with_reducible repeat' apply And.intro
  all_goals (try (first | with_reducible apply ih | (simp only [← List.map_append]; first | with_reducible apply ih)))
  all_goals (try (first | exact z | grind [take_eq, getD_mem', snocI, snocS, rowSnoc])))
theorem c_eqSyntaxS (A B : List Syntax) (ih : ∀ x ∈ A, ∀ (y : Syntax), P_c_eqSyntax x y)  : P_c_eqSyntaxS A B := fnOK Tryz.call43 Tryz.func43 (.z syntaxC A (.z syntaxC B (.i
 ((↑(List.map syntaxC A).length : Int) ≠ (↑(List.map syntaxC B).length : Int)) (.s (lb false)) (.l (lc_eqSyntaxSLa A B) (Sc_eqSyntaxSLa A B ih) [] [.s (li 0)] 0 (.t (.s (lb true))
 (.t (.s (lb false)) .q)))))) (by
  dsimp only [teasy, P_c_eqSyntaxS, nthW, lc_eqSyntaxSLa]
  with_reducible repeat' (first | apply And.intro | exact zR | exact ih | (intro; skip))
  all_goals (try simp only [std, inj] at *)
  all_goals with_reducible repeat' apply And.intro
  all_goals (try (first | with_reducible apply ih | (simp only [← List.map_append]; first | with_reducible apply ih)))
  all_goals (try (first | exact z | grind [snocI, snocS, rowSnoc])))
theorem c_eqSyntax_s (x y : Syntax) (ih : ∀ z ∈ x.items, ∀ (y : Syntax), P_c_eqSyntax z y)  : P_c_eqSyntax x y := fnOK Tryz.call20 Tryz.func20 (.i (x.kind ≠ y.kind) (.s (lb false))
 (.i (x.number ≠ y.number) (.s (lb false)) (.i (x.text.data.toList ≠ y.text.data.toList) (.s (lb false)) (.c [.rd, .rd] (c_eqIntS x.scopes y.scopes) (.b (!decide (x.scopes =
 y.scopes)) (.s (lb false)) (.d [.rd, .rd] (P_c_eqSyntaxS x.items y.items) (.b (!decide (x.items = y.items)) (.s (lb false)) (.s (lb true))))))))) (by
  dsimp only [teasy, P_c_eqSyntax]
  simp only [syntaxExt]
  with_reducible repeat' (first | apply And.intro | exact zR | exact ih | (intro; skip) | apply c_eqIntS | apply c_eqSyntaxS | apply ih)
  all_goals (try simp only [std, inj] at *)
  all_goals with_reducible repeat' apply And.intro
  all_goals (try (first | with_reducible apply c_eqIntS | with_reducible apply c_eqSyntaxS | with_reducible apply ih | (simp only [← List.map_append]; first | with_reducible apply c_eqIntS | with_reducible apply c_eqSyntaxS | with_reducible apply ih)))
  all_goals (try (first | exact z | grind [bytes_ext, snocI, snocS, rowSnoc])))
theorem c_eqSyntax (x : Syntax) : ∀ (y : Syntax), P_c_eqSyntax x y := Syntax.ind (P := fun x => ∀ (y : Syntax), P_c_eqSyntax x y) (fun x ih y => c_eqSyntax_s x y ih) x
abbrev P_c_eqBinding (x : Binding) (y : Binding) : Ct := ⟨113, [], [bindingA x, bindingA y], [], .sv (lb (decide (x = y)))⟩
theorem c_eqBinding (x y : Binding)  : P_c_eqBinding x y := fnOK Tryz.call113 Tryz.func113 (.i (x.text.data.toList ≠ y.text.data.toList) (.s (lb false)) (.c [.rd, .rd] (c_eqIntS
 x.scopes y.scopes) (.b (!decide (x.scopes = y.scopes)) (.s (lb false)) (.i (x.kind ≠ y.kind) (.s (lb false)) (.i (x.number ≠ y.number) (.s (lb false)) (.s (lb true))))))) (by
  dsimp only [teasy, P_c_eqBinding]
  simp only [bindingExt]
  with_reducible repeat' (first | apply And.intro | exact zR | (intro; skip))
  all_goals (try simp only [std, inj] at *)
  all_goals with_reducible repeat' apply And.intro
  all_goals (try (first | exact z | grind [bytes_ext, snocI, snocS, rowSnoc])))
abbrev P_c_eqBindingS (A : List Binding) (B : List Binding) : Ct := ⟨42, [], [ll (A.map bindingC), ll (B.map bindingC)], [], .sv (lb (decide (A = B)))⟩
def lc_eqBindingSLa (A : List Binding) (B : List Binding) : Lp Nat := .mk 27 0 (fun x => [(0, ll (List.map bindingC A)), (1, ll (List.map bindingC B)), (5, hs x 0)]) (fun x => [])
 (fun k => [.s (li (↑k : Int))]) (fun k => k ≤ A.length ∧ A.length ≤ 9223372036854775807 ∧ A.length = B.length ∧ List.take k A = List.take k B) (fun k => A.length - k) [.mk (A = B)
 (.exit 0) (fun x => []) (fun x => []) [], .mk (A ≠ B) .ret (fun x => [(4, hs x 0)]) (fun x => []) [.s (lb false)]]
theorem Sc_eqBindingSLa (A : List Binding) (B : List Binding) : Lp.Sem Tryz.prog (loopAt Tryz.f42 0) (lc_eqBindingSLa A B) := lpOK (fun k => .z bindingC A (.i ((↑k : Int) <
 (↑(List.map bindingC A).length : Int)) (.w (.draw []) (.x (↑k : Int) (List.map bindingC A) (bindingF (A.getD k default)) (.x (↑k : Int) (List.map bindingC B) (bindingF (B.getD k
 default)) (.c [.rd, .rd] (c_eqBinding (A.getD k default) (B.getD k default)) (.b (!decide (A.getD k default = B.getD k default)) (.o 1 [] [.s (lb false)]) (.r ((↑k : Int) + 1) (.g
 [] (k + 1) [.s (li ((↑k : Int) + 1))]))))))) (.o 0 [] []))) (by
  intro k h; try dsimp only [teasy, nthW, lc_eqBindingSLa] at h ⊢
  with_reducible repeat' (first | apply And.intro | exact zR | (intro; skip))
  all_goals (try simp only [std, inj] at *)
  all_goals with_reducible repeat' apply And.intro
  all_goals (try (first | exact z | grind [take_eq, getD_mem', snocI, snocS, rowSnoc])))
theorem c_eqBindingS (A B : List Binding)  : P_c_eqBindingS A B := fnOK Tryz.call42 Tryz.func42 (.z bindingC A (.z bindingC B (.i ((↑(List.map bindingC A).length : Int) ≠ (↑(List.map
 bindingC B).length : Int)) (.s (lb false)) (.l (lc_eqBindingSLa A B) (Sc_eqBindingSLa A B) [] [.s (li 0)] 0 (.t (.s (lb true)) (.t (.s (lb false)) .q)))))) (by
  dsimp only [teasy, P_c_eqBindingS, nthW, lc_eqBindingSLa]
  with_reducible repeat' (first | apply And.intro | exact zR | (intro; skip))
  all_goals (try simp only [std, inj] at *)
  all_goals with_reducible repeat' apply And.intro
  all_goals (try (first | exact z | grind [snocI, snocS, rowSnoc])))
abbrev P_c_eqRules (x : Rules) (y : Rules) : Ct := ⟨21, [], [rulesA x, rulesA y], [], .sv (lb (decide (x = y)))⟩
theorem c_eqRules (x y : Rules)  : P_c_eqRules x y := fnOK Tryz.call21 Tryz.func21 (.d [.rd, .rd] (P_c_eqSyntaxS x.literals y.literals) (.b (!decide (x.literals = y.literals)) (.s
 (lb false)) (.d [.rd, .rd] (P_c_eqSyntaxS x.patterns y.patterns) (.b (!decide (x.patterns = y.patterns)) (.s (lb false)) (.d [.rd, .rd] (P_c_eqSyntaxS x.templates y.templates) (.b
 (!decide (x.templates = y.templates)) (.s (lb false)) (.s (lb true)))))))) (by
  dsimp only [teasy, P_c_eqRules]
  simp only [rulesExt]
  with_reducible repeat' (first | apply And.intro | exact zR | (intro; skip) | apply c_eqSyntaxS | apply c_eqSyntax)
  all_goals (try simp only [std, inj] at *)
  all_goals with_reducible repeat' apply And.intro
  all_goals (try (first | with_reducible apply c_eqSyntaxS | with_reducible apply c_eqSyntax | (simp only [← List.map_append]; first | with_reducible apply c_eqSyntaxS | with_reducible apply c_eqSyntax)))
  all_goals (try (first | exact z | grind [bytes_ext, snocI, snocS, rowSnoc])))
abbrev P_c_eqRulesS (A : List Rules) (B : List Rules) : Ct := ⟨77, [], [ll (A.map rulesC), ll (B.map rulesC)], [], .sv (lb (decide (A = B)))⟩
def lc_eqRulesSLa (A : List Rules) (B : List Rules) : Lp Nat := .mk 27 0 (fun x => [(0, ll (List.map rulesC A)), (1, ll (List.map rulesC B)), (5, hs x 0)]) (fun x => []) (fun k =>
 [.s (li (↑k : Int))]) (fun k => k ≤ A.length ∧ A.length ≤ 9223372036854775807 ∧ A.length = B.length ∧ List.take k A = List.take k B) (fun k => A.length - k) [.mk (A = B) (.exit 0)
 (fun x => []) (fun x => []) [], .mk (A ≠ B) .ret (fun x => [(4, hs x 0)]) (fun x => []) [.s (lb false)]]
theorem Sc_eqRulesSLa (A : List Rules) (B : List Rules) : Lp.Sem Tryz.prog (loopAt Tryz.f77 0) (lc_eqRulesSLa A B) := lpOK (fun k => .z rulesC A (.i ((↑k : Int) < (↑(List.map
 rulesC A).length : Int)) (.w (.draw []) (.x (↑k : Int) (List.map rulesC A) (rulesF (A.getD k default)) (.x (↑k : Int) (List.map rulesC B) (rulesF (B.getD k default)) (.c [.rd,
 .rd] (c_eqRules (A.getD k default) (B.getD k default)) (.b (!decide (A.getD k default = B.getD k default)) (.o 1 [] [.s (lb false)]) (.r ((↑k : Int) + 1) (.g [] (k + 1) [.s (li
 ((↑k : Int) + 1))]))))))) (.o 0 [] []))) (by
  intro k h; try dsimp only [teasy, nthW, lc_eqRulesSLa] at h ⊢
  with_reducible repeat' (first | apply And.intro | exact zR | (intro; skip))
  all_goals (try simp only [std, inj] at *)
  all_goals with_reducible repeat' apply And.intro
  all_goals (try (first | exact z | grind [take_eq, getD_mem', snocI, snocS, rowSnoc])))
theorem c_eqRulesS (A B : List Rules)  : P_c_eqRulesS A B := fnOK Tryz.call77 Tryz.func77 (.z rulesC A (.z rulesC B (.i ((↑(List.map rulesC A).length : Int) ≠ (↑(List.map rulesC
 B).length : Int)) (.s (lb false)) (.l (lc_eqRulesSLa A B) (Sc_eqRulesSLa A B) [] [.s (li 0)] 0 (.t (.s (lb true)) (.t (.s (lb false)) .q)))))) (by
  dsimp only [teasy, P_c_eqRulesS, nthW, lc_eqRulesSLa]
  with_reducible repeat' (first | apply And.intro | exact zR | (intro; skip))
  all_goals (try simp only [std, inj] at *)
  all_goals with_reducible repeat' apply And.intro
  all_goals (try (first | exact z | grind [snocI, snocS, rowSnoc])))
abbrev P_c_eqExpander (x : Expander) (y : Expander) : Ct := ⟨19, [], [expanderA x, expanderA y], [], .sv (lb (decide (x = y)))⟩
theorem c_eqExpander (x y : Expander)  : P_c_eqExpander x y := fnOK Tryz.call19 Tryz.func19 (.c [.rd, .rd] (c_eqBindingS x.bindings y.bindings) (.b (!decide (x.bindings =
 y.bindings)) (.s (lb false)) (.c [.rd, .rd] (c_eqRulesS x.macros y.macros) (.b (!decide (x.macros = y.macros)) (.s (lb false)) (.i (x.scope ≠ y.scope) (.s (lb false)) (.i (x.vari
 ≠ y.vari) (.s (lb false)) (.i (x.steps ≠ y.steps) (.s (lb false)) (.s (lb true))))))))) (by
  dsimp only [teasy, P_c_eqExpander]
  simp only [expanderExt]
  with_reducible repeat' (first | apply And.intro | exact zR | (intro; skip))
  all_goals (try simp only [std, inj] at *)
  all_goals with_reducible repeat' apply And.intro
  all_goals (try (first | exact z | grind [bytes_ext, snocI, snocS, rowSnoc])))
end Go.Proofs.YtpnaoendfpaodaaGreat
end
section
namespace Go.Proofs.YtpnaoendfpaodaaGreat
open Go Go.Proofs.YtpnaoendfpaodaaGreat.Ab
set_option linter.unusedVariables false
set_option linter.unusedSimpArgs false
set_option maxHeartbeats 4000000
theorem bmBs_c (x : Expander) (id : Syntax) (r : Rules) : sumBy cB (bmBs x id r) ≤ 16 * wX x + 16 + 16 * wY id := by
  have h0 := wX_eq x
  have h1 := sumBy_le16 x.bindings fun y _ => cB_le y
  have h2 := cB_le ⟨id.text, id.scopes, 4, (x.macros.length : Int)⟩
  have h3 : wB ⟨id.text, id.scopes, 4, (x.macros.length : Int)⟩ = id.text.size + id.scopes.length := rfl
  have h4 := wY_eq id
  unfold bmBs; split
  · rw [sumBy_append]; simp only [sumBy]; omega
  · omega
theorem bmMs_c (x : Expander) (id : Syntax) (r : Rules) : sumBy cR (bmMs x id r) ≤ 16 * wX x + 16 + 16 * wR r ∧ (bmMs x id r).length ≤ x.macros.length + 1 := by
  have h0 := wX_eq x
  have h1 := sumBy_le16 x.macros fun y _ => cR_le y
  have h2 := cR_le r
  unfold bmMs; split
  · rw [sumBy_append, List.length_append]; simp only [sumBy, List.length_singleton]; omega
  · omega
abbrev P_c_LBiM (x : Expander) (id : Syntax) (r : Rules) : Ct := ⟨3, [], [expanderA x, syntaxA id, rulesA r], [], .sv (lb true)⟩
theorem c_LBiM (x : Expander) (id : Syntax) (r : Rules)  : P_c_LBiM x id r := fnOK Tryz.call3 Tryz.func3 (.d [.rd, .rd] (P_c_szExpander x 1048576) (.i (sz (wX x) (1048576 : Int) < 0)
 (.s (lb true)) (.d [.rd, .rd] (P_c_szSyntax id (sz (wX x) 1048576)) (.i (sz (wY id) (sz (wX x) 1048576) < 0) (.s (lb true)) (.d [.rd, .rd] (P_c_szRules r (sz (wY id) (sz (wX x)
 1048576))) (.i (sz (wR r) (sz (wY id) (sz (wX x) 1048576)) < 0) (.s (lb true)) (.w (.draw [(11, [35])]) (.d [.rd] (P_c_toExpander x) (.d [.rd] (P_c_toSyntax id) (.d [.rd]
 (P_c_toRules r) (.d [.rd, .rd, .rd] (P_c_sBMac x id r) (.d [.rd] (P_c_toExpander x) (.d [.rd] (P_c_toSyntax id) (.d [.rd] (P_c_toRules r) (.d [.rd, .rd, .rd] (P_c_iBindM x id r)
 (.c [.rd, .rd] (c_eqExpander (Expander.mk (bmBs x id r) (bmMs x id r) x.scope x.vari x.steps) (Expander.mk (bmBs x id r) (bmMs x id r) x.scope x.vari x.steps)) (.b (!decide
 (Expander.mk (bmBs x id r) (bmMs x id r) x.scope x.vari x.steps = Expander.mk (bmBs x id r) (bmMs x id r) x.scope x.vari x.steps)) (.y true (.s (lb false))) (.i (bmB x id r ≠ bmB
 x id r) (.s (lb false)) (.w (.draw []) (.d [.rd] (P_c_toExpander x) (.c [.rd, .rd] (c_eqExpander x x) (.b (!decide (x = x)) (.s (lb false)) (.w (.draw []) (.d [.rd] (P_c_toSyntax
 id) (.c [.rd, .rd] (c_eqSyntax id id) (.b (!decide (id = id)) (.s (lb false)) (.w (.draw []) (.d [.rd] (P_c_toRules r) (.c [.rd, .rd] (c_eqRules r r) (.b (!decide (r = r)) (.s (lb
 false)) (.d [.agg [some (true, 4), some (true, 3), none, none, none], .rd] (P_c_markExpander x 1) (.d [.agg [none, none, none, some (true, 1), some (true, 5)], .rd]
 (P_c_markSyntax id (1 + (↑(sumBy cB x.bindings) : Int) + (↑(sumBy cR x.macros) : Int))) (.d [.agg [some (true, 5), some (true, 5), some (true, 5)], .rd] (P_c_markRules r (1 +
 (↑(sumBy cB x.bindings) : Int) + (↑(sumBy cR x.macros) : Int) + (↑id.scopes.length : Int) + (↑(sumBy cY id.items) : Int))) (.y false (.c [.rd, .rd] (c_eqExpander (Expander.mk
 (bmBs x id r) (bmMs x id r) x.scope x.vari x.steps) (Expander.mk (bmBs x id r) (bmMs x id r) x.scope x.vari x.steps)) (.b (!decide (Expander.mk (bmBs x id r) (bmMs x id r) x.scope
 x.vari x.steps = Expander.mk (bmBs x id r) (bmMs x id r) x.scope x.vari x.steps)) (.y true (.s (lb false))) (.i (bmB x id r ≠ bmB x id r) (.s (lb false)) (.d [.agg [some (true,
 4), some (true, 3), none, none, none], .rd] (P_c_markExpander (Expander.mk (bmBs x id r) (bmMs x id r) x.scope x.vari x.steps) 1) (.d [.rd, .rd] (P_c_heldExpander (Expander.mk
 (seqM mkB cB (bmBs x id r) 1) (seqM mkR cR (bmMs x id r) (1 + (↑(sumBy cB (bmBs x id r)) : Int))) x.scope x.vari x.steps) 1) (.y false (.i (1 + (↑(sumBy cB (seqM mkB cB (bmBs x id
 r) 1)) : Int) + (↑(sumBy cR (seqM mkR cR (bmMs x id r) (1 + (↑(sumBy cB (bmBs x id r)) : Int)))) : Int) ≠ 1 + (↑(sumBy cB (bmBs x id r)) : Int) + (↑(sumBy cR (bmMs x id r)) :
 Int)) (.s (lb false)) (.w (.draw [(11, [88])]) (.d [.rd] (P_c_toExpander x) (.d [.rd] (P_c_toSyntax id) (.d [.rd] (P_c_toRules r) (.d [.rd, .rd, .rd] (P_c_iBindM x id r) (.c [.rd,
 .rd] (c_eqExpander (Expander.mk (bmBs x id r) (bmMs x id r) x.scope x.vari x.steps) (Expander.mk (bmBs x id r) (bmMs x id r) x.scope x.vari x.steps)) (.b (!decide (Expander.mk
 (bmBs x id r) (bmMs x id r) x.scope x.vari x.steps = Expander.mk (bmBs x id r) (bmMs x id r) x.scope x.vari x.steps)) (.y true (.s (lb false))) (.i (bmB x id r ≠ bmB x id r) (.s
 (lb false)) (.d [.rd, .rd] (P_c_heldExpander (Expander.mk (seqM mkB cB (bmBs x id r) 1) (seqM mkR cR (bmMs x id r) (1 + (↑(sumBy cB (bmBs x id r)) : Int))) x.scope x.vari x.steps)
 1) (.y false (.i (1 + (↑(sumBy cB (seqM mkB cB (bmBs x id r) 1)) : Int) + (↑(sumBy cR (seqM mkR cR (bmMs x id r) (1 + (↑(sumBy cB (bmBs x id r)) : Int)))) : Int) ≠ 1 + (↑(sumBy cB
 (bmBs x id r)) : Int) + (↑(sumBy cR (bmMs x id r)) : Int)) (.s (lb false)) (.s (lb true)))))))))))))))))))))))))))))))))))))))))))))))))))))) (by
  dsimp only [teasy, P_c_LBiM]
  have h0 := wX_eq x
  have h1 := sumBy_le16 x.bindings fun y _ => cB_le y
  have h2 := sumBy_le16 x.macros fun y _ => cR_le y
  have h3 := bmBs_c x id r
  have h4 := bmMs_c x id r
  have h5 := cY_le id
  have h6 := cY_eq id
  have h7 := cR_le r
  have h8 := cR_eq r
  with_reducible repeat' (first | apply And.intro | exact zR | (intro; skip) | apply c_szExpander | apply c_szSyntax | apply c_szRules | apply c_toExpander | apply c_toSyntax | apply c_toRules | apply c_sBMac | apply c_iBindM | apply c_markExpander | apply c_markSyntax | apply c_markRules | apply c_heldExpander)
  all_goals (try simp only [std, stdM, inj] at *)
  all_goals with_reducible repeat' apply And.intro
  all_goals (try (first | with_reducible apply c_szExpander | with_reducible apply c_szSyntax | with_reducible apply c_szRules | with_reducible apply c_toExpander | with_reducible apply c_toSyntax | with_reducible apply c_toRules | with_reducible apply c_sBMac | with_reducible apply c_iBindM | with_reducible apply c_markExpander | with_reducible apply c_markSyntax | with_reducible apply c_markRules | with_reducible apply c_heldExpander | (simp only [← List.map_append]; first | with_reducible apply c_szExpander | with_reducible apply c_szSyntax | with_reducible apply c_szRules | with_reducible apply c_toExpander | with_reducible apply c_toSyntax | with_reducible apply c_toRules | with_reducible apply c_sBMac | with_reducible apply c_iBindM | with_reducible apply c_markExpander | with_reducible apply c_markSyntax | with_reducible apply c_markRules | with_reducible apply c_heldExpander)))
  all_goals (try (first | exact z | ((first | refine rowGet ?_ | refine getC ?_ rfl); (first | omega | (simp only [std, stdM]; omega) | grind)) | (refine set_row ?_; (simp only [List.length_map, List.length_set, mkTo_len]; omega)) | (refine mkToRow ?_; (first | omega | (simp only [std, stdM]; omega) | grind)) | (refine mkTo_row ?_ rfl; (first | omega | (simp only [std, stdM]; omega) | grind)) | (refine mkTo_step ?_ ?_; (first | omega | (simp only [std, stdM]; omega) | grind); (first | grind [sz, seqM_idem, seqM_len, sum_seqM, snocI, snocS, rowSnoc])) | grind [sz, seqM_idem, seqM_len, sum_seqM, snocI, snocS, rowSnoc])))
end Go.Proofs.YtpnaoendfpaodaaGreat
end
section
namespace Go.Proofs.YtpnaoendfpaodaaGreat.fnExactBindMacro
open Go Go.ChangeShapes Go.WideShapes Go.ChangeAt Go.RowKit Go.Proofs.YtpnaoendfpaodaaGreat.Ab
set_option linter.unusedVariables false
theorem own : ownKnob Tryz.prog.godebug = none := by kernel_rfl
theorem laid : laidOutB Tryz.prog = true := by kernel_rfl
theorem rowed : mapsRowed Tryz.prog = true := by kernel_rfl
theorem sized : ((List.range Tryz.prog.types.size).all fun t => match Tryz.prog.underlying t with | some (.slice e) => decide (0 < Tryz.prog.cellsOf e) | _ => true) = true := by kernel_rfl
set_option maxRecDepth 100000 in
theorem lifted (os : Os) (started : os.Started) (H : Type) (enc : TypeId × Value → H) :
    ReturnsInHanded {} Tryz.checked os 3 .any (Rows.fnExactBindMacroSpec.pre6 enc Tryz.prog Tryz.f3 Rows.fnExactBindMacroRow.domain false) (Rows.fnExactBindMacroSpec.post enc Tryz.prog Tryz.f3 false true false false) := by
  refine returnsInHanded_of_change (C := Tryz.checked) own started (by kernel_rfl) Tryz.func3
    (ChangeSpec.witness6 (enc := enc) (C := Tryz.checked) false ⟨#[], #[.agg #[.slice none 0 0, .slice none 0 0, .int .i64 0, .int .i64 0, .int .i64 0], .agg #[.int .i64 0, .int .i64 0, .string ⟨#[]⟩, .slice none 0 0, .slice none 0 0], .agg #[.slice none 0 0, .slice none 0 0, .slice none 0 0]], []⟩ 12 (by kernel_rfl) (by kernel_rfl) (by kernel_rfl) (by kernel_rfl)) ?_
  intro W base args ds gs before hval0 hW hcnd _
  have hval : ∀ (j : Nat) t v, Tryz.f3.params[j]? = some t → args[j]? = some v → Value.okWide Tryz.prog W .any base t v := hval0
  have hW' := hW
  obtain ⟨p, q, hA0, hV, rfl, hfz, hnd⟩ := hW
  obtain ⟨rfl, rfl⟩ := trodVars_none hV
  have hA : DataW.TrodAll enc Tryz.prog W 0 (fun _ => true) true Tryz.f3.params.toList args.toList ds p := hA0
  rw [Tryz.params3] at hA hval
  have hA2 := hA
  clear hA0 hval0
  obtain ⟨v0, vs0, d0, ds0, p0, q0, hargs0, rfl, rfl, h0, r0⟩ := trodAll_cons hA
  obtain ⟨v1, vs1, d1, ds1, p1, q1, hargs1, rfl, rfl, h1, r1⟩ := trodAll_cons r0
  obtain ⟨v2, vs2, d2, ds2, p2, q2, hargs2, rfl, rfl, h2, r2⟩ := trodAll_cons r1
  obtain ⟨rfl, rfl, rfl⟩ := trodAll_nil r2
  obtain rfl : args = #[v0, v1, v2] := by cases args; simp_all
  obtain ⟨a0, c0⟩ := (let ⟨fuel, hf⟩ := h0; rd_expander fuel _ _ hf)
  have s0 : SVRel W (allI W) (obOf []) (expanderA a0) v0 := agg_rel (let ⟨cs, h, _⟩ := okWide_struct Tryz.underlying25 (hval 0 25 v0 rfl rfl); ⟨cs, h⟩) c0
  obtain ⟨a1, c1⟩ := (let ⟨fuel, hf⟩ := h1; rd_syntax fuel _ _ hf)
  have s1 : SVRel W (allI W) (obOf []) (syntaxA a1) v1 := agg_rel (let ⟨cs, h, _⟩ := okWide_struct Tryz.underlying29 (hval 1 29 v1 rfl rfl); ⟨cs, h⟩) c1
  obtain ⟨a2, c2⟩ := (let ⟨fuel, hf⟩ := h2; rd_rules fuel _ _ hf)
  have s2 : SVRel W (allI W) (obOf []) (rulesA a2) v2 := agg_rel (let ⟨cs, h, _⟩ := okWide_struct Tryz.underlying31 (hval 2 31 v2 rfl rfl); ⟨cs, h⟩) c2
  refine (CallOK.kept (w := W) (vals := #[v0, v1, v2]) (c_LBiM a0 a1 a2) ⟨s0, s1, s2, trivial⟩).mono fun e W' ⟨he, hg, _⟩ => ?_
  subst he
  exact ⟨_, rfl, post_of_kept (pv := []) hW' (fun _ _ _ => (trodAll_cons_mk (shut_bool Tryz.underlying4 _) trodAll_mk0))
    (fun sp hsp => trodAll_kept laid rowed sized hg (by decide +kernel) hA2 fun y hy => hsp y (by simpa using hy)) (fun _ _ => rfl) rfl
    hg (ok_one (by kernel_rfl) rfl (okWide_bool_mk Tryz.underlying4 _))⟩
set_option maxRecDepth 100000 in
set_option maxHeartbeats 0 in
theorem facts : joinedFacts Tryz.pinned.checked.prog 3 Tryz.f3 Rows.fnExactBindMacroSpec Rows.fnExactBindMacroRow = true := by
  delta joinedFacts
  with_reducible repeat' apply and_i
  all_goals (first | with_reducible exact enters | (rw [makes]; kernel_rfl) | (rw [lifts]; kernel_rfl) | decide +kernel)
theorem over : Rows.fnExactBindMacroRow.holds Tryz.pinned (OpenSpec.ofChange Rows.fnExactBindMacroSpec) :=
  OpenClaim.holds_of_wide 3 Tryz.f3 rfl rfl rfl rfl rfl rfl rfl ⟨rfl, rfl, rfl, rfl, rfl⟩ rfl rfl rfl rfl rfl (by kernel_rfl) Tryz.func3 facts
    (of_decide_eq_true (by kernel_rfl)) (by unfold Func.isWrapper; first | (rw [if_pos (by decide +kernel)]; kernel_rfl) | (rw [if_neg (by decide +kernel)]; exact ⟨rfl, rfl⟩))
    (fun os started H enc _ => lifted os started H enc)
theorem proved : Rows.FnExactBindMacroSaid :=
  over
end Go.Proofs.YtpnaoendfpaodaaGreat.fnExactBindMacro
end
