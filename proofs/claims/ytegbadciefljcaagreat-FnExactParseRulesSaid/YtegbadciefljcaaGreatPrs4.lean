/- Part 4 of the proof: The program's ParseRules returns what the reference's returns, for all arguments. No condition. -/
import Derived.Test.YtegbadciefljcaaGreatPrs3
section
namespace Go.Proofs.YtegbadciefljcaaGreat
open Go Go.Proofs.YtegbadciefljcaaGreat.Ab
set_option linter.unusedVariables false
set_option linter.unusedSimpArgs false
set_option maxHeartbeats 4000000
def bndM (k : Int) : Int := if k = 1 then 11 else if k = 2 then 13 else if k = 3 then 99999 else if k = 4 then 99999 else -1
def isBnd (b : Binding) : Bool := isSym b.text && okSc b.scopes && decide (0 ≤ b.number ∧ b.number ≤ bndM b.kind)
abbrev P_c_sIsBnd (b : Binding) : Prop := CallOK Tryz.prog 150 [] [bindingA b] [] (.sv (lb (isBnd b)))
abbrev a1_c_sIsBnd (b : Binding) := (isSym (Binding.text b) = false → false = false ∧ ObsEq [] [] ∧ AV.sv (lb false) = AV.sv (lb (isBnd b)))
abbrev a3_c_sIsBnd (b : Binding) := (okSc (Binding.scopes b) = false → ObsEq [] [] ∧ AV.sv (lb false) = AV.sv (lb (isBnd b)))
abbrev a2_c_sIsBnd (b : Binding) := (isSym (Binding.text b) = true → P_c_sScopes (Binding.scopes b) ∧ (okSc (Binding.scopes b) = true → P_c_l1In (Binding.number b) 0 99999 ∧ ObsEq
 [] [] ∧ AV.sv (lb (decide (0 ≤ Binding.number b ∧ Binding.number b ≤ 99999))) = AV.sv (lb (isBnd b))) ∧ (a3_c_sIsBnd b))
theorem run_c_sIsBnd (b : Binding) : aexec Tryz.prog (Option.getD (Func.body Tryz.f150) Code.skip) (entry [] [bindingA b] 33) [Orc.br [Orc.call [] [Ob.arr true 1 (List.map strC
 formNames)] (AV.sv (SV.one (AC.ref 0))), Orc.call [Mode.rd] [] (AV.sv (lb (isSym (Binding.text b)))), Orc.br [Orc.call [Mode.rd] [] (AV.sv (lb (okSc (Binding.scopes b)))), Orc.br
 [Orc.call [Mode.rd, Mode.rd, Mode.rd] [] (AV.sv (lb (decide (0 ≤ Binding.number b ∧ Binding.number b ≤ 11)))), Orc.fin []] [Orc.fin []]] [Orc.bool false, Orc.fin []]] [Orc.br
 [Orc.call [] [Ob.arr true 1 (List.map strC primNames)] (AV.sv (SV.one (AC.ref 0))), Orc.call [Mode.rd] [] (AV.sv (lb (isSym (Binding.text b)))), Orc.br [Orc.call [Mode.rd] []
 (AV.sv (lb (okSc (Binding.scopes b)))), Orc.br [Orc.call [Mode.rd, Mode.rd, Mode.rd] [] (AV.sv (lb (decide (0 ≤ Binding.number b ∧ Binding.number b ≤ 13)))), Orc.fin []] [Orc.fin
 []]] [Orc.bool false, Orc.fin []]] [Orc.br [Orc.bool true, Orc.call [Mode.rd] [] (AV.sv (lb (isSym (Binding.text b)))), Orc.br [Orc.call [Mode.rd] [] (AV.sv (lb (okSc
 (Binding.scopes b)))), Orc.br [Orc.call [Mode.rd, Mode.rd, Mode.rd] [] (AV.sv (lb (decide (0 ≤ Binding.number b ∧ Binding.number b ≤ 99999)))), Orc.fin []] [Orc.fin []]] [Orc.bool
 false, Orc.fin []]] [Orc.br [Orc.call [Mode.rd] [] (AV.sv (lb (isSym (Binding.text b)))), Orc.br [Orc.call [Mode.rd] [] (AV.sv (lb (okSc (Binding.scopes b)))), Orc.br [Orc.call
 [Mode.rd, Mode.rd, Mode.rd] [] (AV.sv (lb (decide (0 ≤ Binding.number b ∧ Binding.number b ≤ 99999)))), Orc.fin []] [Orc.fin []]] [Orc.bool false, Orc.fin []]] [Orc.call [Mode.rd]
 [] (AV.sv (lb (isSym (Binding.text b)))), Orc.br [Orc.call [Mode.rd] [] (AV.sv (lb (okSc (Binding.scopes b)))), Orc.br [Orc.call [Mode.rd, Mode.rd, Mode.rd] [] (AV.sv (lb (decide
 (0 ≤ Binding.number b ∧ Binding.number b ≤ (-1 : Int))))), Orc.fin []] [Orc.fin []]] [Orc.bool false, Orc.fin []]]]]]] (finK Tryz.prog [ResultVar.tmp 2] [] (AV.sv (lb (isBnd b))))
 = ((decide (Binding.kind b = 1) = true → P_c_sFormNames ∧ (12 ≤ 9223372036854775807 → rng IntKind.i64 11 ∧ P_c_sIsSymbol (Binding.text b) ∧ (isSym (Binding.text b) = true →
 P_c_sScopes (Binding.scopes b) ∧ (okSc (Binding.scopes b) = true → P_c_l1In (Binding.number b) 0 11 ∧ ObsEq [] [] ∧ AV.sv (lb (decide (0 ≤ Binding.number b ∧ Binding.number b ≤
 11))) = AV.sv (lb (isBnd b))) ∧ (a3_c_sIsBnd b)) ∧ (a1_c_sIsBnd b))) ∧ (decide (Binding.kind b = 1) = false → (decide (Binding.kind b = 2) = true → P_c_sPrimitiveNames ∧ (14 ≤
 9223372036854775807 → rng IntKind.i64 13 ∧ P_c_sIsSymbol (Binding.text b) ∧ (isSym (Binding.text b) = true → P_c_sScopes (Binding.scopes b) ∧ (okSc (Binding.scopes b) = true →
 P_c_l1In (Binding.number b) 0 13 ∧ ObsEq [] [] ∧ AV.sv (lb (decide (0 ≤ Binding.number b ∧ Binding.number b ≤ 13))) = AV.sv (lb (isBnd b))) ∧ (a3_c_sIsBnd b)) ∧ (a1_c_sIsBnd b)))
 ∧ (decide (Binding.kind b = 2) = false → (decide (Binding.kind b = 3) = true → true = true ∧ P_c_sIsSymbol (Binding.text b) ∧ (a2_c_sIsBnd b) ∧ (a1_c_sIsBnd b)) ∧ (decide
 (Binding.kind b = 3) = false → (decide (Binding.kind b = 4) = true → P_c_sIsSymbol (Binding.text b) ∧ (a2_c_sIsBnd b) ∧ (a1_c_sIsBnd b)) ∧ (decide (Binding.kind b = 4) = false →
 P_c_sIsSymbol (Binding.text b) ∧ (isSym (Binding.text b) = true → P_c_sScopes (Binding.scopes b) ∧ (okSc (Binding.scopes b) = true → P_c_l1In (Binding.number b) 0 (-1 : Int) ∧
 ObsEq [] [] ∧ AV.sv (lb (decide (0 ≤ Binding.number b ∧ Binding.number b ≤ (-1 : Int)))) = AV.sv (lb (isBnd b))) ∧ (a3_c_sIsBnd b)) ∧ (a1_c_sIsBnd b)))))) := by kernel_rfl
theorem c_sIsBnd (b : Binding)  : P_c_sIsBnd b := by
  refine CallOK.ofRun wide (run_c_sIsBnd b) Tryz.call150 Tryz.func150 rfl rfl rfl ?_
  try delta a1_c_sIsBnd a3_c_sIsBnd a2_c_sIsBnd
  have e1 : formNames.length = 12 := rfl
  have e2 : primNames.length = 14 := rfl
  with_reducible repeat' (first | apply And.intro | exact flatI | exact flatS | exact rowLens | (intro; skip) | apply obsN | apply obsC | apply obA | apply obM | apply obB | apply svA | apply tupA | apply lcA | apply lcS | apply svC | apply liC | apply lbC | apply lsC | apply vIc | apply vBc | apply vSc | apply vLc | apply mapC | apply mIc | apply mOc | apply mSc | apply mLc | apply c_sIsSymbol | apply c_sScopes | apply c_l1In | apply c_sFormNames | apply c_sPrimitiveNames)
  all_goals (try simp only [std] at *)
  all_goals (try (first | with_reducible apply c_sIsSymbol | with_reducible apply c_sScopes | with_reducible apply c_l1In | with_reducible apply c_sFormNames | with_reducible apply c_sPrimitiveNames | (simp only [← List.map_append]; first | with_reducible apply c_sIsSymbol | with_reducible apply c_sScopes | with_reducible apply c_l1In | with_reducible apply c_sFormNames | with_reducible apply c_sPrimitiveNames)))
  all_goals (try (first | with_reducible rfl | omega | assumption | (refine (decide_eq_true ?_).symm; assumption) | (refine (decide_eq_false ?_).symm; assumption) | (refine rowGet ?_; (first | omega | (simp only [std]; omega) | grind)) | (refine getC ?_ rfl; (first | omega | (simp only [std]; omega) | grind)) | exact look_mI | exact look_mO | exact look_mO1 | exact look_mS | exact look_mL | exact upd_mI | exact upd_mO | exact del_mO | exact upd_mS | exact take_mL | (refine upd_mL ?_; grind) | (show (_ : St) = _; rfl) | grind [isBnd, bndM, snocI, snocS, rowSnoc]))
abbrev P_c_iIsBnd (b : Binding) : Prop := CallOK Tryz.prog 159 [] [bindingA b] [] (.sv (lb (isBnd b)))
theorem run_c_iIsBnd (b : Binding) : aexec Tryz.prog (Option.getD (Func.body Tryz.f159) Code.skip) (entry [] [bindingA b] 40) [Orc.call [Mode.rd] [] (AV.sv (lb (isSym (Binding.text
 b)))), Orc.br [Orc.bool true, Orc.bool true, Orc.fin []] [Orc.call [Mode.rd] [] (AV.sv (lb (okSc (Binding.scopes b)))), Orc.br [Orc.bool true, Orc.fin []] [Orc.br [Orc.fin []]
 [Orc.br [Orc.draw [], Orc.call [] [Ob.arr true 1 (List.map strC formNames)] (AV.sv (SV.one (AC.ref 0))), Orc.fin []] [Orc.br [Orc.draw [], Orc.call [] [Ob.arr true 1 (List.map
 strC primNames)] (AV.sv (SV.one (AC.ref 0))), Orc.fin []] [Orc.br [Orc.bool true, Orc.fin []] [Orc.br [Orc.fin []] [Orc.fin []]]]]]]]] (finK Tryz.prog [ResultVar.tmp 2] [] (AV.sv
 (lb (isBnd b)))) = (P_c_iIsSymbol (Binding.text b) ∧ ((!isSym (Binding.text b)) = true → true = true ∧ true = true ∧ ObsEq [] [] ∧ AV.sv (lb false) = AV.sv (lb (isBnd b))) ∧
 ((!isSym (Binding.text b)) = false → P_c_iScopes (Binding.scopes b) ∧ ((!okSc (Binding.scopes b)) = true → true = true ∧ ObsEq [] [] ∧ AV.sv (lb false) = AV.sv (lb (isBnd b))) ∧
 ((!okSc (Binding.scopes b)) = false → (decide (Binding.number b < 0) = true → ObsEq [] [] ∧ AV.sv (lb false) = AV.sv (lb (isBnd b))) ∧ (decide (Binding.number b < 0) = false →
 (decide (Binding.kind b = 1) = true → P_c_iFormNames ∧ (12 ≤ 9223372036854775807 → ObsEq [] [] ∧ AV.sv (lb (decide (Binding.number b < 12))) = AV.sv (lb (isBnd b)))) ∧ (decide
 (Binding.kind b = 1) = false → (decide (Binding.kind b = 2) = true → P_c_iPrimitiveNames ∧ (14 ≤ 9223372036854775807 → ObsEq [] [] ∧ AV.sv (lb (decide (Binding.number b < 14))) =
 AV.sv (lb (isBnd b)))) ∧ (decide (Binding.kind b = 2) = false → (decide (Binding.kind b = 3) = true → true = true ∧ ObsEq [] [] ∧ AV.sv (lb (decide (Binding.number b ≤ 99999))) =
 AV.sv (lb (isBnd b))) ∧ (decide (Binding.kind b = 3) = false → (decide (Binding.kind b = 4) = true → ObsEq [] [] ∧ AV.sv (lb (decide (Binding.number b ≤ 99999))) = AV.sv (lb
 (isBnd b))) ∧ (decide (Binding.kind b = 4) = false → ObsEq [] [] ∧ AV.sv (lb false) = AV.sv (lb (isBnd b)))))))))) := by kernel_rfl
theorem c_iIsBnd (b : Binding)  : P_c_iIsBnd b := by
  refine CallOK.ofRun wide (run_c_iIsBnd b) Tryz.call159 Tryz.func159 rfl rfl rfl ?_
  have e1 : formNames.length = 12 := rfl
  have e2 : primNames.length = 14 := rfl
  with_reducible repeat' (first | apply And.intro | exact flatI | exact flatS | exact rowLens | (intro; skip) | apply obsN | apply obsC | apply obA | apply obM | apply obB | apply svA | apply tupA | apply lcA | apply lcS | apply svC | apply liC | apply lbC | apply lsC | apply vIc | apply vBc | apply vSc | apply vLc | apply mapC | apply mIc | apply mOc | apply mSc | apply mLc | apply c_iIsSymbol | apply c_iScopes | apply c_iFormNames | apply c_iPrimitiveNames)
  all_goals (try simp only [std] at *)
  all_goals (try (first | with_reducible apply c_iIsSymbol | with_reducible apply c_iScopes | with_reducible apply c_iFormNames | with_reducible apply c_iPrimitiveNames | (simp only [← List.map_append]; first | with_reducible apply c_iIsSymbol | with_reducible apply c_iScopes | with_reducible apply c_iFormNames | with_reducible apply c_iPrimitiveNames)))
  all_goals (try (first | with_reducible rfl | omega | assumption | (refine (decide_eq_true ?_).symm; assumption) | (refine (decide_eq_false ?_).symm; assumption) | (refine rowGet ?_; (first | omega | (simp only [std]; omega) | grind)) | (refine getC ?_ rfl; (first | omega | (simp only [std]; omega) | grind)) | exact look_mI | exact look_mO | exact look_mO1 | exact look_mS | exact look_mL | exact upd_mI | exact upd_mO | exact del_mO | exact upd_mS | exact take_mL | (refine upd_mL ?_; grind) | (show (_ : St) = _; rfl) | grind [isBnd, bndM, snocI, snocS, rowSnoc]))
def clB (t : ByteArray) (s : List Int) (x : Binding) : Bool := decide (x.text = t) && decide (x.scopes = s)
def clash (L : List Binding) (t : ByteArray) (s : List Int) : Bool := L.any (clB t s)
abbrev P_c_sClash (L : List Binding) (b : Binding) : Prop := CallOK Tryz.prog 151 [] [ll (L.map bindingC), bindingA b] [] (.sv (lb (clash L b.text b.scopes)))
def Tc_sClashLa (L : List Binding) (b : Binding) (x0 : SV) : St := St.mk (regsOf 26 [(3, AV.sv (SV.one (AC.ptr 0 0))), (7, AV.sv (ll (List.map bindingC L))), (8, AV.sv (li
 (↑(List.length (List.map bindingC L)) : Int))), (9, AV.sv x0)]) [Ob.box (vals (bindingF b))] 0 
def Lc_sClashLa (L : List Binding) (b : Binding) (k : Nat) : St := Tc_sClashLa L b (li (↑k : Int)) 
def Ic_sClashLa (L : List Binding) (b : Binding) : Nat → St → Prop := Head (Lc_sClashLa L b) (fun k => k ≤ List.length L ∧ List.length L ≤ 9223372036854775807 ∧ clash (List.take k
 L) (Binding.text b) (Binding.scopes b) = false) fun k => List.length L - k 
def W0c_sClashLa (L : List Binding) (b : Binding) : St := St.mk (regsOf 26 []) [] 0 
def W1c_sClashLa (L : List Binding) (b : Binding) (x0 : SV) : St := St.mk (regsOf 26 [(4, AV.sv x0)]) [] 0 
def Yc_sClashLa (L : List Binding) (b : Binding) : List (Prop × AEx × St) := [(clash L (Binding.text b) (Binding.scopes b) = false, AEx.exit 0, W0c_sClashLa L b), (clash L
 (Binding.text b) (Binding.scopes b) = true, AEx.ret, W1c_sClashLa L b (lb true))]
theorem Hc_sClashLa {L : List Binding} {b : Binding} {k : Nat} {m : Nat} (h : (fun k => k ≤ List.length L ∧ List.length L ≤ 9223372036854775807 ∧ clash (List.take k L)
 (Binding.text b) (Binding.scopes b) = false) k) (hm : (fun k => List.length L - k) k = m) : Ic_sClashLa L b m (Lc_sClashLa L b k) := hm ▸ Head.mk h
theorem Ec_sClashLa {L : List Binding} {b : Binding} {k : Nat} {x0 : SV} (h0 : x0 = (li (↑k : Int))) : Tc_sClashLa L b x0 = Lc_sClashLa L b k := by
  rw [h0]
  rfl
theorem EW1c_sClashLa {L : List Binding} {b : Binding} {x0 y0 : SV} (h0 : x0 = y0) : W1c_sClashLa L b x0 = W1c_sClashLa L b y0 := by rw [h0]
theorem run_c_sClashLa (L : List Binding) (b : Binding) (k : Nat) : aexec Tryz.prog (loopAt Tryz.f151 0) (Lc_sClashLa L b k) [Orc.br [Orc.cells (bindingF (List.getD L k default)),
 Orc.br [Orc.call [Mode.rd, Mode.rd] [] (AV.sv (lb (decide (Binding.scopes (List.getD L k default) = Binding.scopes b)))), Orc.br [Orc.ghost (Ghost.sel [] [4]), Orc.out 1]
 [Orc.ghost (Ghost.sel [0] [3, 7, 8, 9]), Orc.goto (List.length L - (k + 1)) (Lc_sClashLa L b (k + 1))]] [Orc.bool false, Orc.ghost (Ghost.sel [0] [3, 7, 8, 9]), Orc.goto
 (List.length L - (k + 1)) (Lc_sClashLa L b (k + 1))]] [Orc.ghost (Ghost.sel [] []), Orc.out 0]] (loopK (Ic_sClashLa L b) (Yc_sClashLa L b) (List.length L - k)) = ((decide ((↑k :
 Int) < (↑(List.length (List.map bindingC L)) : Int)) = true → (0 ≤ (↑k : Int) ∧ (List.map bindingC L)[Int.toNat (↑k : Int)]? = some (bindingF (List.getD L k default))) ∧ (decide
 (Array.toList (ByteArray.data (Binding.text (List.getD L k default))) = Array.toList (ByteArray.data (Binding.text b))) = true → P_c_sSameInts (Binding.scopes (List.getD L k
 default)) (Binding.scopes b) ∧ (decide (Binding.scopes (List.getD L k default) = Binding.scopes b) = true → clash L (Binding.text b) (Binding.scopes b) = true ∧ W1c_sClashLa L b
 (lb true) = W1c_sClashLa L b (lb true)) ∧ (decide (Binding.scopes (List.getD L k default) = Binding.scopes b) = false → rng IntKind.i64 ((↑k : Int) + 1) ∧ List.length L - (k + 1)
 < List.length L - k ∧ Tc_sClashLa L b (li ((↑k : Int) + 1)) = Lc_sClashLa L b (k + 1) ∧ Ic_sClashLa L b (List.length L - (k + 1)) (Lc_sClashLa L b (k + 1)))) ∧ (decide
 (Array.toList (ByteArray.data (Binding.text (List.getD L k default))) = Array.toList (ByteArray.data (Binding.text b))) = false → false = false ∧ rng IntKind.i64 ((↑k : Int) + 1)
 ∧ List.length L - (k + 1) < List.length L - k ∧ Tc_sClashLa L b (li ((↑k : Int) + 1)) = Lc_sClashLa L b (k + 1) ∧ Ic_sClashLa L b (List.length L - (k + 1)) (Lc_sClashLa L b (k +
 1)))) ∧ (decide ((↑k : Int) < (↑(List.length (List.map bindingC L)) : Int)) = false → clash L (Binding.text b) (Binding.scopes b) = false ∧ W0c_sClashLa L b = W0c_sClashLa L b))
 := by kernel_rfl
theorem Sc_sClashLa (L : List Binding) (b : Binding)  : LoopSem Tryz.prog (loopAt Tryz.f151 0) (Ic_sClashLa L b) (Yc_sClashLa L b) := by
  refine LoopSem.ofHead wide fun k h => ⟨_, _, run_c_sClashLa L b k, ?_⟩
  with_reducible repeat' (first | apply And.intro | exact flatI | exact flatS | exact rowLens | (intro; skip) | apply obsN | apply obsC | apply obA | apply obM | apply obB | apply svA | apply tupA | apply lcA | apply lcS | apply svC | apply liC | apply lbC | apply lsC | apply vIc | apply vBc | apply vSc | apply vLc | apply mapC | apply mIc | apply mOc | apply mSc | apply mLc | apply Hc_sClashLa | apply Ec_sClashLa | apply EW1c_sClashLa | apply c_sSameInts)
  all_goals (try simp only [std] at *)
  all_goals (try (first | with_reducible apply c_sSameInts | (simp only [← List.map_append]; first | with_reducible apply c_sSameInts)))
  all_goals (try (first | with_reducible rfl | omega | assumption | (refine (decide_eq_true ?_).symm; assumption) | (refine (decide_eq_false ?_).symm; assumption) | (refine rowGet ?_; (first | omega | (simp only [std]; omega) | grind)) | (refine getC ?_ rfl; (first | omega | (simp only [std]; omega) | grind)) | exact look_mI | exact look_mO | exact look_mO1 | exact look_mS | exact look_mL | exact upd_mI | exact upd_mO | exact del_mO | exact upd_mS | exact take_mL | (refine upd_mL ?_; grind) | (show (_ : St) = _; rfl) | grind [take_get, clash, clB, getD_mem', bytes_ext, snocI, snocS, rowSnoc]))
theorem run_c_sClash (L : List Binding) (b : Binding) : aexec Tryz.prog (Option.getD (Func.body Tryz.f151) Code.skip) (entry [] [ll (List.map bindingC L), bindingA b] 26)
 [Orc.ghost (Ghost.sel [0] [3, 7, 8, 9]), Orc.loop (List.length L - 0) (Lc_sClashLa L b 0) (Ic_sClashLa L b) [(clash L (Binding.text b) (Binding.scopes b) = false, AEx.exit 0,
 W0c_sClashLa L b, [Orc.fin []]), (clash L (Binding.text b) (Binding.scopes b) = true, AEx.ret, W1c_sClashLa L b (lb true), [Orc.fin []])]] (finK Tryz.prog [ResultVar.tmp 4] []
 (AV.sv (lb (clash L (Binding.text b) (Binding.scopes b))))) = (List.length (List.map bindingC L) ≤ 9223372036854775807 → Tc_sClashLa L b (li 0) = Lc_sClashLa L b 0 ∧ Ic_sClashLa L
 b (List.length L - 0) (Lc_sClashLa L b 0) ∧ LoopSem Tryz.prog (loopAt Tryz.f151 0) (Ic_sClashLa L b) (Yc_sClashLa L b) ∧ (clash L (Binding.text b) (Binding.scopes b) = false →
 ObsEq [] [] ∧ AV.sv (lb false) = AV.sv (lb (clash L (Binding.text b) (Binding.scopes b)))) ∧ (clash L (Binding.text b) (Binding.scopes b) = true → ObsEq [] [] ∧ AV.sv (lb true) =
 AV.sv (lb (clash L (Binding.text b) (Binding.scopes b)))) ∧ True) := by kernel_rfl
theorem c_sClash (L : List Binding) (b : Binding)  : P_c_sClash L b := by
  refine CallOK.ofRun wide (run_c_sClash L b) Tryz.call151 Tryz.func151 rfl rfl rfl ?_
  with_reducible repeat' (first | apply And.intro | exact flatI | exact flatS | exact rowLens | (intro; skip) | apply obsN | apply obsC | apply obA | apply obM | apply obB | apply svA | apply tupA | apply lcA | apply lcS | apply svC | apply liC | apply lbC | apply lsC | apply vIc | apply vBc | apply vSc | apply vLc | apply mapC | apply mIc | apply mOc | apply mSc | apply mLc | apply Hc_sClashLa | apply Ec_sClashLa | apply Sc_sClashLa | apply EW1c_sClashLa | apply c_sSameInts)
  all_goals (try simp only [std] at *)
  all_goals (try (first | with_reducible apply c_sSameInts | (simp only [← List.map_append]; first | with_reducible apply c_sSameInts)))
  all_goals (try (first | with_reducible rfl | omega | assumption | (refine (decide_eq_true ?_).symm; assumption) | (refine (decide_eq_false ?_).symm; assumption) | (refine rowGet ?_; (first | omega | (simp only [std]; omega) | grind)) | (refine getC ?_ rfl; (first | omega | (simp only [std]; omega) | grind)) | exact look_mI | exact look_mO | exact look_mO1 | exact look_mS | exact look_mL | exact upd_mI | exact upd_mO | exact del_mO | exact upd_mS | exact take_mL | (refine upd_mL ?_; grind) | (show (_ : St) = _; rfl) | grind [clash, snocI, snocS, rowSnoc]))
def areTo (L : List Binding) : Nat → Bool
  | 0 => true
  | k + 1 => areTo L k && (isBnd (L.getD k default) && !clash (L.take k) (L.getD k default).text (L.getD k default).scopes)
theorem areTo_le (L : List Binding) : ∀ (m k : Nat), k ≤ m → areTo L m = true → areTo L k = true
  | 0, k, h, _ => by
    obtain rfl : k = 0 := by omega
    rfl
  | m + 1, k, h, ht => by
    by_cases e : k = m + 1
    · rw [e]; exact ht
    · refine areTo_le L m k (by omega) ?_
      simp only [areTo, Bool.and_eq_true] at ht; exact ht.1
def areB (L : List Binding) : Bool := areTo L L.length && decide ((L.length : Int) ≤ 1000)
abbrev P_c_sAre (L : List Binding) : Prop := CallOK Tryz.prog 82 [] [ll (L.map bindingC)] [] (.sv (lb (areB L)))
def Tc_sAreLa (L : List Binding) (x0 : SV) : St := St.mk (regsOf 26 [(0, AV.sv (ll (List.map bindingC L))), (5, AV.sv (ll (List.map bindingC L))), (6, AV.sv (li (↑(List.length
 (List.map bindingC L)) : Int))), (7, AV.sv x0)]) [] 0 
def Lc_sAreLa (L : List Binding) (k : Nat) : St := Tc_sAreLa L (li (↑k : Int)) 
def Ic_sAreLa (L : List Binding) : Nat → St → Prop := Head (Lc_sAreLa L) (fun k => k ≤ List.length L ∧ List.length L ≤ 9223372036854775807 ∧ areTo L k = true) fun k => List.length
 L - k 
def W0c_sAreLa (L : List Binding) : St := St.mk (regsOf 26 [(0, AV.sv (ll (List.map bindingC L)))]) [] 0 
def W1c_sAreLa (L : List Binding) (x0 : SV) : St := St.mk (regsOf 26 [(2, AV.sv x0)]) [] 0 
def Yc_sAreLa (L : List Binding) : List (Prop × AEx × St) := [(areTo L (List.length L) = true, AEx.exit 0, W0c_sAreLa L), (areTo L (List.length L) = false, AEx.ret, W1c_sAreLa L
 (lb false))]
theorem Hc_sAreLa {L : List Binding} {k : Nat} {m : Nat} (h : (fun k => k ≤ List.length L ∧ List.length L ≤ 9223372036854775807 ∧ areTo L k = true) k) (hm : (fun k => List.length L
 - k) k = m) : Ic_sAreLa L m (Lc_sAreLa L k) := hm ▸ Head.mk h
theorem Ec_sAreLa {L : List Binding} {k : Nat} {x0 : SV} (h0 : x0 = (li (↑k : Int))) : Tc_sAreLa L x0 = Lc_sAreLa L k := by
  rw [h0]
  rfl
theorem EW1c_sAreLa {L : List Binding} {x0 y0 : SV} (h0 : x0 = y0) : W1c_sAreLa L x0 = W1c_sAreLa L y0 := by rw [h0]
theorem run_c_sAreLa (L : List Binding) (k : Nat) : aexec Tryz.prog (loopAt Tryz.f82 0) (Lc_sAreLa L k) [Orc.br [Orc.cells (bindingF (List.getD L k default)), Orc.draw [], Orc.call
 [Mode.rd] [] (AV.sv (lb (isBnd (List.getD L k default)))), Orc.br [Orc.bool true, Orc.ghost (Ghost.sel [] [2]), Orc.out 1] [Orc.call [Mode.rd, Mode.rd] [] (AV.sv (lb (clash
 (List.take (Int.toNat (↑k : Int) - 0) (List.drop 0 L)) (Binding.text (List.getD L k default)) (Binding.scopes (List.getD L k default))))), Orc.br [Orc.ghost (Ghost.sel [] [2]),
 Orc.out 1] [Orc.ghost (Ghost.sel [] [0, 5, 6, 7]), Orc.goto (List.length L - (k + 1)) (Lc_sAreLa L (k + 1))]]] [Orc.ghost (Ghost.sel [] [0]), Orc.out 0]] (loopK (Ic_sAreLa L)
 (Yc_sAreLa L) (List.length L - k)) = ((decide ((↑k : Int) < (↑(List.length (List.map bindingC L)) : Int)) = true → (0 ≤ (↑k : Int) ∧ (List.map bindingC L)[Int.toNat (↑k : Int)]? =
 some (bindingF (List.getD L k default))) ∧ P_c_sIsBnd (List.getD L k default) ∧ ((!isBnd (List.getD L k default)) = true → true = true ∧ areTo L (List.length L) = false ∧
 W1c_sAreLa L (lb false) = W1c_sAreLa L (lb false)) ∧ ((!isBnd (List.getD L k default)) = false → 0 ≤ (↑k : Int) ∧ (0 ≤ Int.toNat (↑k : Int) ∧ Int.toNat (↑k : Int) ≤ List.length
 (List.map bindingC L) ∧ ∀ (e : List Cell), e ∈ List.map bindingC L → List.length e = 4) ∧ CallOK Tryz.prog 151 [] [ll (List.take (Int.toNat (↑k : Int) - 0) (List.drop 0 (List.map
 bindingC L))), SV.agg (vals (bindingF (List.getD L k default)))] [] (AV.sv (lb (clash (List.take (Int.toNat (↑k : Int) - 0) (List.drop 0 L)) (Binding.text (List.getD L k default))
 (Binding.scopes (List.getD L k default))))) ∧ (clash (List.take (Int.toNat (↑k : Int) - 0) (List.drop 0 L)) (Binding.text (List.getD L k default)) (Binding.scopes (List.getD L k
 default)) = true → areTo L (List.length L) = false ∧ W1c_sAreLa L (lb false) = W1c_sAreLa L (lb false)) ∧ (clash (List.take (Int.toNat (↑k : Int) - 0) (List.drop 0 L))
 (Binding.text (List.getD L k default)) (Binding.scopes (List.getD L k default)) = false → rng IntKind.i64 ((↑k : Int) + 1) ∧ List.length L - (k + 1) < List.length L - k ∧
 Tc_sAreLa L (li ((↑k : Int) + 1)) = Lc_sAreLa L (k + 1) ∧ Ic_sAreLa L (List.length L - (k + 1)) (Lc_sAreLa L (k + 1))))) ∧ (decide ((↑k : Int) < (↑(List.length (List.map bindingC
 L)) : Int)) = false → areTo L (List.length L) = true ∧ W0c_sAreLa L = W0c_sAreLa L)) := by kernel_rfl
theorem Sc_sAreLa (L : List Binding)  : LoopSem Tryz.prog (loopAt Tryz.f82 0) (Ic_sAreLa L) (Yc_sAreLa L) := by
  refine LoopSem.ofHead wide fun k h => ⟨_, _, run_c_sAreLa L k, ?_⟩
  have g1 := areTo_le L L.length (k + 1)
  have g2 : areTo L (k + 1) = (areTo L k && (isBnd (L.getD k default) && !clash (L.take k) (L.getD k default).text (L.getD k default).scopes)) := rfl
  with_reducible repeat' (first | apply And.intro | exact flatI | exact flatS | exact rowLens | (intro; skip) | apply obsN | apply obsC | apply obA | apply obM | apply obB | apply svA | apply tupA | apply lcA | apply lcS | apply svC | apply liC | apply lbC | apply lsC | apply vIc | apply vBc | apply vSc | apply vLc | apply mapC | apply mIc | apply mOc | apply mSc | apply mLc | apply Hc_sAreLa | apply Ec_sAreLa | apply EW1c_sAreLa | apply c_sIsBnd | apply c_sClash)
  all_goals (try simp only [std] at *)
  all_goals (try (first | with_reducible apply c_sIsBnd | with_reducible apply c_sClash | (simp only [← List.map_append]; first | with_reducible apply c_sIsBnd | with_reducible apply c_sClash)))
  all_goals (try (first | with_reducible rfl | omega | assumption | (refine (decide_eq_true ?_).symm; assumption) | (refine (decide_eq_false ?_).symm; assumption) | (refine rowGet ?_; (first | omega | (simp only [std]; omega) | grind)) | (refine getC ?_ rfl; (first | omega | (simp only [std]; omega) | grind)) | exact look_mI | exact look_mO | exact look_mO1 | exact look_mS | exact look_mL | exact upd_mI | exact upd_mO | exact del_mO | exact upd_mS | exact take_mL | (refine upd_mL ?_; grind) | (show (_ : St) = _; rfl) | grind [getD_mem', snocI, snocS, rowSnoc]))
theorem run_c_sAre (L : List Binding) : aexec Tryz.prog (Option.getD (Func.body Tryz.f82) Code.skip) (entry [] [ll (List.map bindingC L)] 26) [Orc.ghost (Ghost.sel [] [0, 5, 6,
 7]), Orc.loop (List.length L - 0) (Lc_sAreLa L 0) (Ic_sAreLa L) [(areTo L (List.length L) = true, AEx.exit 0, W0c_sAreLa L, [Orc.fin []]), (areTo L (List.length L) = false,
 AEx.ret, W1c_sAreLa L (lb false), [Orc.fin []])]] (finK Tryz.prog [ResultVar.tmp 2] [] (AV.sv (lb (areB L)))) = (List.length (List.map bindingC L) ≤ 9223372036854775807 →
 Tc_sAreLa L (li 0) = Lc_sAreLa L 0 ∧ Ic_sAreLa L (List.length L - 0) (Lc_sAreLa L 0) ∧ LoopSem Tryz.prog (loopAt Tryz.f82 0) (Ic_sAreLa L) (Yc_sAreLa L) ∧ (areTo L (List.length L)
 = true → List.length (List.map bindingC L) ≤ 9223372036854775807 → ObsEq [] [] ∧ AV.sv (lb (decide ((↑(List.length (List.map bindingC L)) : Int) ≤ 1000))) = AV.sv (lb (areB L))) ∧
 (areTo L (List.length L) = false → ObsEq [] [] ∧ AV.sv (lb false) = AV.sv (lb (areB L))) ∧ True) := by kernel_rfl
theorem c_sAre (L : List Binding)  : P_c_sAre L := by
  refine CallOK.ofRun wide (run_c_sAre L) Tryz.call82 Tryz.func82 rfl rfl rfl ?_
  with_reducible repeat' (first | apply And.intro | exact flatI | exact flatS | exact rowLens | (intro; skip) | apply obsN | apply obsC | apply obA | apply obM | apply obB | apply svA | apply tupA | apply lcA | apply lcS | apply svC | apply liC | apply lbC | apply lsC | apply vIc | apply vBc | apply vSc | apply vLc | apply mapC | apply mIc | apply mOc | apply mSc | apply mLc | apply Hc_sAreLa | apply Ec_sAreLa | apply Sc_sAreLa | apply EW1c_sAreLa | apply c_sIsBnd | apply c_sClash)
  all_goals (try simp only [std] at *)
  all_goals (try (first | with_reducible apply c_sIsBnd | with_reducible apply c_sClash | (simp only [← List.map_append]; first | with_reducible apply c_sIsBnd | with_reducible apply c_sClash)))
  all_goals (try (first | with_reducible rfl | omega | assumption | (refine (decide_eq_true ?_).symm; assumption) | (refine (decide_eq_false ?_).symm; assumption) | (refine rowGet ?_; (first | omega | (simp only [std]; omega) | grind)) | (refine getC ?_ rfl; (first | omega | (simp only [std]; omega) | grind)) | exact look_mI | exact look_mO | exact look_mO1 | exact look_mS | exact look_mL | exact upd_mI | exact upd_mO | exact del_mO | exact upd_mS | exact take_mL | (refine upd_mL ?_; grind) | (show (_ : St) = _; rfl) | grind [areB, areTo, snocI, snocS, rowSnoc]))
def plc (L : List Binding) : Nat → ByteArray → List Int
  | 0, _ => []
  | k + 1, s => if s = (L.getD k default).text then plc L k s ++ [(k : Int)] else plc L k s
theorem plc_upd {L : List Binding} {k : Nat} : upd1 (plc L k) (L.getD k default).text (plc L k (L.getD k default).text ++ [(k : Int)]) = plc L (k + 1) := by
  funext s; simp only [upd1, plc]; split
  · rename_i h; rw [h]
  · rfl
theorem plc_zero {L : List Binding} : zL = plc L 0 := rfl
theorem plc_len (L : List Binding) (s : ByteArray) : ∀ k, (plc L k s).length ≤ k
  | 0 => Nat.le_refl _
  | k + 1 => by
    have := plc_len L s k
    simp only [plc]; split
    · simp; omega
    · omega
theorem plc_mem (L : List Binding) (s : ByteArray) : ∀ k (i : Int), i ∈ plc L k s ↔ (0 ≤ i ∧ i < k ∧ (L.getD i.toNat default).text = s)
  | 0, i => by simp [plc]; omega
  | k + 1, i => by
    have ih := plc_mem L s k i
    simp only [plc]; split
    · rename_i h
      rw [List.mem_append, ih, List.mem_singleton]
      constructor
      · rintro (⟨a, b, c⟩ | rfl)
        · exact ⟨a, by omega, c⟩
        · exact ⟨by omega, by omega, by rw [Int.toNat_natCast]; exact h.symm⟩
      · rintro ⟨a, b, c⟩
        by_cases e : i = k
        · exact .inr e
        · exact .inl ⟨a, by omega, c⟩
    · rename_i h
      rw [ih]
      constructor
      · rintro ⟨a, b, c⟩; exact ⟨a, by omega, c⟩
      · rintro ⟨a, b, c⟩
        refine ⟨a, ?_, c⟩
        by_cases e : i = k
        · subst e; rw [Int.toNat_natCast] at c; exact absurd c.symm h
        · omega
def plOK (L : List Binding) (s : List Int) (P : List Int) : Bool := P.all fun i => !decide ((L.getD i.toNat default).scopes = s)
theorem plOK_clash {L : List Binding} {k : Nat} {t : ByteArray} {s : List Int} (hk : k ≤ L.length) : plOK L s (plc L k t) = !clash (L.take k) t s := by
  rw [Bool.eq_iff_iff]
  simp only [plOK, clash, clB, List.all_eq_true, Bool.not_eq_true', decide_eq_false_iff_not, List.any_eq_false, Bool.and_eq_true, decide_eq_true_eq, not_and]
  constructor
  · intro h x hx e
    obtain ⟨j, hj, rfl⟩ := List.getElem_of_mem hx
    rw [List.length_take] at hj
    have e2 : (L.take k)[j]'(by rw [List.length_take]; exact hj) = L.getD j default := by simp [show j < L.length by omega]
    rw [e2] at e ⊢
    have := h (j : Int) ((plc_mem L t k j).2 ⟨by omega, by omega, by rw [Int.toNat_natCast]; exact e⟩)
    rwa [Int.toNat_natCast] at this
  · intro h i hi
    obtain ⟨a, b, c⟩ := (plc_mem L t k i).1 hi
    refine h _ ?_ c
    have e : L.getD i.toNat default = (L.take k)[i.toNat]'(by rw [List.length_take]; omega) := by simp [show i.toNat < L.length by omega]
    rw [e]; exact List.getElem_mem _
theorem plOK_at {L : List Binding} {s : List Int} {P : List Int} {j : Nat} (h : j < P.length) (e : (L.getD (P.getD j default).toNat default).scopes = s) : plOK L s P = false := by
  unfold plOK; rw [List.all_eq_false]; exact ⟨_, getD_mem' h, by rw [decide_eq_true e]; decide⟩
theorem plOK_step {L : List Binding} {s : List Int} {P : List Int} {j : Nat} (h : j < P.length) (h0 : plOK L s (P.take j) = true) (e : (L.getD (P.getD j default).toNat default).scopes ≠ s) : plOK L s (P.take (j + 1)) = true := by
  unfold plOK at *; rw [take_get h, List.all_append, h0]; simpa using e
abbrev P_c_iAre (L : List Binding) : Prop := CallOK Tryz.prog 87 [] [ll (L.map bindingC)] [] (.sv (lb (areB L)))
def Tc_iAreLb (L : List Binding) (k : Nat) (x0 : SV) : St := St.mk (regsOf 51 [(0, AV.sv (ll (List.map bindingC L))), (3, AV.sv (SV.one (AC.mref 0))), (4, AV.sv (li (↑k : Int))),
 (5, AV.sv (SV.one (AC.ptr 1 0))), (12, AV.sv (ll (List.map bindingC L))), (13, AV.sv (li (↑(List.length (List.map bindingC L)) : Int))), (14, AV.sv (li (↑k : Int))), (25, AV.sv
 (SV.one (AC.bor 0 (Cell.list (List.map intC (plc L k (Binding.text (List.getD L k default)))))))), (26, AV.sv (li (↑(List.length (List.map intC (plc L k (Binding.text (List.getD L
 k default))))) : Int))), (27, AV.sv x0)]) [Ob.map false kL (mL (plc L k)), Ob.box (vals (bindingF (List.getD L k default)))] 0 
def Lc_iAreLb (L : List Binding) (k : Nat) (k1 : Nat) : St := Tc_iAreLb L k (li (↑k1 : Int)) 
def Ic_iAreLb (L : List Binding) (k : Nat) : Nat → St → Prop := Head (Lc_iAreLb L k) (fun k1 => k1 ≤ List.length (plc L k (Binding.text (List.getD L k default))) ∧ List.length (plc
 L k (Binding.text (List.getD L k default))) ≤ 9223372036854775807 ∧ k < List.length L ∧ areTo L k = true ∧ isBnd (List.getD L k default) = true ∧ plOK L (Binding.scopes (List.getD
 L k default)) (List.take k1 (plc L k (Binding.text (List.getD L k default)))) = true) fun k1 => List.length (plc L k (Binding.text (List.getD L k default))) - k1 
def W0c_iAreLb (L : List Binding) (k : Nat) : St := St.mk (regsOf 51 [(0, AV.sv (ll (List.map bindingC L))), (3, AV.sv (SV.one (AC.mref 0))), (4, AV.sv (li (↑k : Int))), (5, AV.sv
 (SV.one (AC.ptr 1 0))), (12, AV.sv (ll (List.map bindingC L))), (13, AV.sv (li (↑(List.length (List.map bindingC L)) : Int))), (14, AV.sv (li (↑k : Int)))]) [Ob.map false kL (mL
 (plc L k)), Ob.box (vals (bindingF (List.getD L k default)))] 0 
def W1c_iAreLb (L : List Binding) (k : Nat) (x0 : SV) : St := St.mk (regsOf 51 [(2, AV.sv x0)]) [] 0 
def Yc_iAreLb (L : List Binding) (k : Nat) : List (Prop × AEx × St) := [(areTo L (k + 1) = true, AEx.exit 2, W0c_iAreLb L k), (areTo L (List.length L) = false, AEx.ret, W1c_iAreLb
 L k (lb false))]
def Tc_iAreLa (L : List Binding) (x0 : SV) (x1 : Ob) : St := St.mk (regsOf 51 [(0, AV.sv (ll (List.map bindingC L))), (3, AV.sv (SV.one (AC.mref 0))), (12, AV.sv (ll (List.map
 bindingC L))), (13, AV.sv (li (↑(List.length (List.map bindingC L)) : Int))), (14, AV.sv x0)]) [x1] 0 
def Lc_iAreLa (L : List Binding) (k : Nat) : St := Tc_iAreLa L (li (↑k : Int)) (Ob.map false kL (mL (plc L k))) 
def Ic_iAreLa (L : List Binding) : Nat → St → Prop := Head (Lc_iAreLa L) (fun k => k ≤ List.length L ∧ List.length L ≤ 9223372036854775807 ∧ List.length L ≤ 1000 ∧ areTo L k =
 true) fun k => List.length L - k 
def W0c_iAreLa (L : List Binding) : St := St.mk (regsOf 51 []) [] 0 
def W1c_iAreLa (L : List Binding) (x0 : SV) : St := St.mk (regsOf 51 [(2, AV.sv x0)]) [] 0 
def Yc_iAreLa (L : List Binding) : List (Prop × AEx × St) := [(areTo L (List.length L) = true, AEx.exit 0, W0c_iAreLa L), (areTo L (List.length L) = false, AEx.ret, W1c_iAreLa L
 (lb false))]
theorem Hc_iAreLb {L : List Binding} {k : Nat} {k1 : Nat} {m : Nat} (h : (fun k1 => k1 ≤ List.length (plc L k (Binding.text (List.getD L k default))) ∧ List.length (plc L k
 (Binding.text (List.getD L k default))) ≤ 9223372036854775807 ∧ k < List.length L ∧ areTo L k = true ∧ isBnd (List.getD L k default) = true ∧ plOK L (Binding.scopes (List.getD L k
 default)) (List.take k1 (plc L k (Binding.text (List.getD L k default)))) = true) k1) (hm : (fun k1 => List.length (plc L k (Binding.text (List.getD L k default))) - k1) k1 = m) :
 Ic_iAreLb L k m (Lc_iAreLb L k k1) := hm ▸ Head.mk h
theorem Ec_iAreLb {L : List Binding} {k : Nat} {k1 : Nat} {x0 : SV} (h0 : x0 = (li (↑k1 : Int))) : Tc_iAreLb L k x0 = Lc_iAreLb L k k1 := by
  rw [h0]
  rfl
theorem EW1c_iAreLb {L : List Binding} {k : Nat} {x0 y0 : SV} (h0 : x0 = y0) : W1c_iAreLb L k x0 = W1c_iAreLb L k y0 := by rw [h0]
theorem run_c_iAreLb (L : List Binding) (k : Nat) (k1 : Nat) : aexec Tryz.prog (loopAt Tryz.f87 1) (Lc_iAreLb L k k1) [Orc.br [Orc.cells (intC (List.getD (plc L k (Binding.text
 (List.getD L k default))) k1 default)), Orc.draw [], Orc.cells (bindingF (List.getD L (Int.toNat (List.getD (plc L k (Binding.text (List.getD L k default))) k1 0)) default)),
 Orc.call [Mode.rd, Mode.rd] [] (AV.sv (lb (decide (Binding.scopes (List.getD L (Int.toNat (List.getD (plc L k (Binding.text (List.getD L k default))) k1 0)) default) =
 Binding.scopes (List.getD L k default))))), Orc.br [Orc.ghost (Ghost.sel [] [2]), Orc.out 1] [Orc.ghost (Ghost.sel [0, 1] [0, 3, 4, 5, 12, 13, 14, 25, 26, 27]), Orc.goto
 (List.length (plc L k (Binding.text (List.getD L k default))) - (k1 + 1)) (Lc_iAreLb L k (k1 + 1))]] [Orc.ghost (Ghost.sel [0, 1] [0, 3, 4, 5, 12, 13, 14]), Orc.out 0]] (loopK
 (Ic_iAreLb L k) (Yc_iAreLb L k) (List.length (plc L k (Binding.text (List.getD L k default))) - k1)) = ((decide ((↑k1 : Int) < (↑(List.length (List.map intC (plc L k (Binding.text
 (List.getD L k default))))) : Int)) = true → (0 ≤ (↑k1 : Int) ∧ (List.map intC (plc L k (Binding.text (List.getD L k default))))[Int.toNat (↑k1 : Int)]? = some [cI (List.getD (plc
 L k (Binding.text (List.getD L k default))) k1 0)]) ∧ (0 ≤ List.getD (plc L k (Binding.text (List.getD L k default))) k1 0 ∧ (List.map bindingC L)[Int.toNat (List.getD (plc L k
 (Binding.text (List.getD L k default))) k1 0)]? = some (bindingF (List.getD L (Int.toNat (List.getD (plc L k (Binding.text (List.getD L k default))) k1 0)) default))) ∧
 P_c_iSameInts (Binding.scopes (List.getD L (Int.toNat (List.getD (plc L k (Binding.text (List.getD L k default))) k1 0)) default)) (Binding.scopes (List.getD L k default)) ∧
 (decide (Binding.scopes (List.getD L (Int.toNat (List.getD (plc L k (Binding.text (List.getD L k default))) k1 0)) default) = Binding.scopes (List.getD L k default)) = true →
 areTo L (List.length L) = false ∧ W1c_iAreLa L (lb false) = W1c_iAreLb L k (lb false)) ∧ (decide (Binding.scopes (List.getD L (Int.toNat (List.getD (plc L k (Binding.text
 (List.getD L k default))) k1 0)) default) = Binding.scopes (List.getD L k default)) = false → rng IntKind.i64 ((↑k1 : Int) + 1) ∧ List.length (plc L k (Binding.text (List.getD L k
 default))) - (k1 + 1) < List.length (plc L k (Binding.text (List.getD L k default))) - k1 ∧ Tc_iAreLb L k (li ((↑k1 : Int) + 1)) = Lc_iAreLb L k (k1 + 1) ∧ Ic_iAreLb L k
 (List.length (plc L k (Binding.text (List.getD L k default))) - (k1 + 1)) (Lc_iAreLb L k (k1 + 1)))) ∧ (decide ((↑k1 : Int) < (↑(List.length (List.map intC (plc L k (Binding.text
 (List.getD L k default))))) : Int)) = false → areTo L (k + 1) = true ∧ W0c_iAreLb L k = W0c_iAreLb L k)) := by kernel_rfl
theorem Hc_iAreLa {L : List Binding} {k : Nat} {m : Nat} (h : (fun k => k ≤ List.length L ∧ List.length L ≤ 9223372036854775807 ∧ List.length L ≤ 1000 ∧ areTo L k = true) k) (hm :
 (fun k => List.length L - k) k = m) : Ic_iAreLa L m (Lc_iAreLa L k) := hm ▸ Head.mk h
theorem Ec_iAreLa {L : List Binding} {k : Nat} {x0 : SV} {x1 : Ob} (h0 : x0 = (li (↑k : Int))) (h1 : x1 = (Ob.map false kL (mL (plc L k)))) : Tc_iAreLa L x0 x1 = Lc_iAreLa L k :=
 by
  rw [h0, h1]
  rfl
theorem EW1c_iAreLa {L : List Binding} {x0 y0 : SV} (h0 : x0 = y0) : W1c_iAreLa L x0 = W1c_iAreLa L y0 := by rw [h0]
abbrev a1__iAreLa (L : List Binding) (k : Nat) := (plc L k (Binding.text (List.getD L k default)))
abbrev a2__iAreLa (L : List Binding) (k : Nat) := (mL (upd1 (plc L k) (Binding.text (List.getD L k default)) (plc L k (Binding.text (List.getD L k default)) ++ [(↑k : Int)])))
theorem run_c_iAreLa (L : List Binding) (k : Nat) : aexec Tryz.prog (loopAt Tryz.f87 0) (Lc_iAreLa L k) [Orc.br [Orc.cells (bindingF (List.getD L k default)), Orc.call [Mode.rd] []
 (AV.sv (lb (isBnd (List.getD L k default)))), Orc.br [Orc.ghost (Ghost.sel [] [2]), Orc.out 1] [Orc.cells [Cell.list (List.map intC (a1__iAreLa L k))], Orc.ghost (Ghost.sel [0, 1]
 [0, 3, 4, 5, 12, 13, 14, 25, 26, 27]), Orc.loop (List.length (a1__iAreLa L k) - 0) (Lc_iAreLb L k 0) (Ic_iAreLb L k) [(areTo L (k + 1) = true, AEx.exit 2, W0c_iAreLb L k,
 [Orc.draw [(6, [0]), (9, [2, 3]), (10, [4, 0])], Orc.taken (List.map intC (a1__iAreLa L k)) 1 (mLt (plc L k) (Binding.text (List.getD L k default))), Orc.upd (a2__iAreLa L k),
 Orc.ghost (Ghost.sel [0] [0, 3, 12, 13, 14]), Orc.goto (List.length L - (k + 1)) (Lc_iAreLa L (k + 1))]), (areTo L (List.length L) = false, AEx.ret, W1c_iAreLb L k (lb false),
 [Orc.ghost (Ghost.sel [] [2]), Orc.out 1])]]] [Orc.ghost (Ghost.sel [] []), Orc.out 0]] (loopK (Ic_iAreLa L) (Yc_iAreLa L) (List.length L - k)) = ((decide ((↑k : Int) <
 (↑(List.length (List.map bindingC L)) : Int)) = true → (0 ≤ (↑k : Int) ∧ (List.map bindingC L)[Int.toNat (↑k : Int)]? = some (bindingF (List.getD L k default))) ∧ P_c_iIsBnd
 (List.getD L k default) ∧ ((!isBnd (List.getD L k default)) = true → areTo L (List.length L) = false ∧ W1c_iAreLa L (lb false) = W1c_iAreLa L (lb false)) ∧ ((!isBnd (List.getD L k
 default)) = false → LookAt (Value.slice none 0 0) (mL (plc L k)) (Value.string (Binding.text (List.getD L k default))) (Cell.list (List.map intC (a1__iAreLa L k))) ∧ (List.length
 (List.map intC (a1__iAreLa L k)) ≤ 9223372036854775807 → Tc_iAreLb L k (li 0) = Lc_iAreLb L k 0 ∧ Ic_iAreLb L k (List.length (a1__iAreLa L k) - 0) (Lc_iAreLb L k 0) ∧ LoopSem
 Tryz.prog (loopAt Tryz.f87 1) (Ic_iAreLb L k) (Yc_iAreLb L k) ∧ (areTo L (k + 1) = true → LookAt (Value.slice none 0 0) (mL (plc L k)) (Value.string (Binding.text (List.getD L k
 default))) (Cell.list (List.map intC (a1__iAreLa L k))) ∧ UpdF (MK.d kL) (mL (plc L k)) (mLt (plc L k) (Binding.text (List.getD L k default))) (Value.string (Binding.text
 (List.getD L k default))) (some Cell.any) ∧ some (Value.slice none 0 0) = some (Value.slice none 0 0) ∧ (∀ (x : List Cell), x ∈ List.map intC (a1__iAreLa L k) → List.length x = 1)
 ∧ (List.length (List.map intC (a1__iAreLa L k)) + 1) * 8 ≤ 140737488355328 ∧ false = false ∧ UpdF (MK.d kL) (mLt (plc L k) (Binding.text (List.getD L k default))) (a2__iAreLa L k)
 (Value.string (Binding.text (List.getD L k default))) (some (Cell.list (List.map intC (a1__iAreLa L k) ++ [[cI (↑k : Int)]]))) ∧ rng IntKind.i64 ((↑k : Int) + 1) ∧ List.length L -
 (k + 1) < List.length L - k ∧ Tc_iAreLa L (li ((↑k : Int) + 1)) (Ob.map false kL (a2__iAreLa L k)) = Lc_iAreLa L (k + 1) ∧ Ic_iAreLa L (List.length L - (k + 1)) (Lc_iAreLa L (k +
 1))) ∧ (areTo L (List.length L) = false → areTo L (List.length L) = false ∧ W1c_iAreLa L (lb false) = W1c_iAreLa L (lb false)) ∧ True))) ∧ (decide ((↑k : Int) < (↑(List.length
 (List.map bindingC L)) : Int)) = false → areTo L (List.length L) = true ∧ W0c_iAreLa L = W0c_iAreLa L)) := by kernel_rfl
theorem Sc_iAreLb (L : List Binding) (k : Nat)  : LoopSem Tryz.prog (loopAt Tryz.f87 1) (Ic_iAreLb L k) (Yc_iAreLb L k) := by
  refine LoopSem.ofHead wide fun k1 h => ⟨_, _, run_c_iAreLb L k k1, ?_⟩
  have g1 := areTo_le L L.length (k + 1)
  have g2 : areTo L (k + 1) = (areTo L k && (isBnd (L.getD k default) && !clash (L.take k) (L.getD k default).text (L.getD k default).scopes)) := rfl
  have g3 := @plOK_clash L k (L.getD k default).text (L.getD k default).scopes
  have g4 := @plOK_at L (L.getD k default).scopes (plc L k (L.getD k default).text) k1
  have g5 := @plOK_step L (L.getD k default).scopes (plc L k (L.getD k default).text) k1
  have g6 := plc_mem L (L.getD k default).text k ((plc L k (L.getD k default).text).getD k1 default)
  have g7 : ∀ j, (plc L k (L.getD k default).text).length ≤ j → (plc L k (L.getD k default).text).take j = plc L k (L.getD k default).text := fun j h => List.take_of_length_le h
  with_reducible repeat' (first | apply And.intro | exact flatI | exact flatS | exact rowLens | (intro; skip) | apply obsN | apply obsC | apply obA | apply obM | apply obB | apply svA | apply tupA | apply lcA | apply lcS | apply svC | apply liC | apply lbC | apply lsC | apply vIc | apply vBc | apply vSc | apply vLc | apply mapC | apply mIc | apply mOc | apply mSc | apply mLc | apply Hc_iAreLa | apply Ec_iAreLa | apply Hc_iAreLb | apply Ec_iAreLb | apply EW1c_iAreLb | apply EW1c_iAreLa | apply c_iIsBnd | apply c_iSameInts)
  all_goals (try simp only [std] at *)
  all_goals (try (first | with_reducible apply c_iIsBnd | with_reducible apply c_iSameInts | (simp only [← List.map_append]; first | with_reducible apply c_iIsBnd | with_reducible apply c_iSameInts)))
  all_goals (try (first | with_reducible rfl | omega | assumption | (refine (decide_eq_true ?_).symm; assumption) | (refine (decide_eq_false ?_).symm; assumption) | (refine rowGet ?_; (first | omega | (simp only [std]; omega) | grind)) | (refine getC ?_ rfl; (first | omega | (simp only [std]; omega) | grind)) | exact look_mI | exact look_mO | exact look_mO1 | exact look_mS | exact look_mL | exact upd_mI | exact upd_mO | exact del_mO | exact upd_mS | exact take_mL | (refine upd_mL ?_; grind) | (show (_ : St) = _; rfl) | grind [getD_mem', snocI, snocS, rowSnoc]))
theorem Sc_iAreLa (L : List Binding)  : LoopSem Tryz.prog (loopAt Tryz.f87 0) (Ic_iAreLa L) (Yc_iAreLa L) := by
  refine LoopSem.ofHead wide fun k h => ⟨_, _, run_c_iAreLa L k, ?_⟩
  try delta a1__iAreLa a2__iAreLa
  have g1 := areTo_le L L.length (k + 1)
  have g2 : areTo L (k + 1) = (areTo L k && (isBnd (L.getD k default) && !clash (L.take k) (L.getD k default).text (L.getD k default).scopes)) := rfl
  have g3 := plc_len L (L.getD k default).text k
  have g4 := @plc_upd L k
  have g5 : plOK L (L.getD k default).scopes ((plc L k (L.getD k default).text).take 0) = true := rfl
  with_reducible repeat' (first | apply And.intro | exact flatI | exact flatS | exact rowLens | (intro; skip) | apply obsN | apply obsC | apply obA | apply obM | apply obB | apply svA | apply tupA | apply lcA | apply lcS | apply svC | apply liC | apply lbC | apply lsC | apply vIc | apply vBc | apply vSc | apply vLc | apply mapC | apply mIc | apply mOc | apply mSc | apply mLc | apply Hc_iAreLa | apply Ec_iAreLa | apply Hc_iAreLb | apply Ec_iAreLb | apply Sc_iAreLb | apply EW1c_iAreLb | apply EW1c_iAreLa | apply c_iIsBnd | apply c_iSameInts)
  all_goals (try simp only [std] at *)
  all_goals (try (first | with_reducible apply c_iIsBnd | with_reducible apply c_iSameInts | (simp only [← List.map_append]; first | with_reducible apply c_iIsBnd | with_reducible apply c_iSameInts)))
  all_goals (try (first | with_reducible rfl | omega | assumption | (refine (decide_eq_true ?_).symm; assumption) | (refine (decide_eq_false ?_).symm; assumption) | (refine rowGet ?_; (first | omega | (simp only [std]; omega) | grind)) | (refine getC ?_ rfl; (first | omega | (simp only [std]; omega) | grind)) | exact look_mI | exact look_mO | exact look_mO1 | exact look_mS | exact look_mL | exact upd_mI | exact upd_mO | exact del_mO | exact upd_mS | exact take_mL | (refine upd_mL ?_; grind) | (show (_ : St) = _; rfl) | grind [getD_mem', snocI, snocS, rowSnoc]))
  all_goals (try (exact upd_mL (by simp [intC])))
theorem run_c_iAre (L : List Binding) : aexec Tryz.prog (Option.getD (Func.body Tryz.f87) Code.skip) (entry [] [ll (List.map bindingC L)] 51) [Orc.br [Orc.fin []] [Orc.mkmap kL,
 Orc.ghost (Ghost.sel [0] [0, 3, 12, 13, 14]), Orc.loop (List.length L - 0) (Lc_iAreLa L 0) (Ic_iAreLa L) [(areTo L (List.length L) = true, AEx.exit 0, W0c_iAreLa L, [Orc.fin []]),
 (areTo L (List.length L) = false, AEx.ret, W1c_iAreLa L (lb false), [Orc.fin []])]]] (finK Tryz.prog [ResultVar.tmp 2] [] (AV.sv (lb (areB L)))) = (List.length (List.map bindingC
 L) ≤ 9223372036854775807 → (decide (1000 < (↑(List.length (List.map bindingC L)) : Int)) = true → ObsEq [] [] ∧ AV.sv (lb false) = AV.sv (lb (areB L))) ∧ (decide (1000 <
 (↑(List.length (List.map bindingC L)) : Int)) = false → List.length (List.map bindingC L) ≤ 9223372036854775807 → Tc_iAreLa L (li 0) (Ob.map false kL (mL zL)) = Lc_iAreLa L 0 ∧
 Ic_iAreLa L (List.length L - 0) (Lc_iAreLa L 0) ∧ LoopSem Tryz.prog (loopAt Tryz.f87 0) (Ic_iAreLa L) (Yc_iAreLa L) ∧ (areTo L (List.length L) = true → ObsEq [] [] ∧ AV.sv (lb
 true) = AV.sv (lb (areB L))) ∧ (areTo L (List.length L) = false → ObsEq [] [] ∧ AV.sv (lb false) = AV.sv (lb (areB L))) ∧ True)) := by kernel_rfl
theorem c_iAre (L : List Binding)  : P_c_iAre L := by
  refine CallOK.ofRun wide (run_c_iAre L) Tryz.call87 Tryz.func87 rfl rfl rfl ?_
  with_reducible repeat' (first | apply And.intro | exact flatI | exact flatS | exact rowLens | (intro; skip) | apply obsN | apply obsC | apply obA | apply obM | apply obB | apply svA | apply tupA | apply lcA | apply lcS | apply svC | apply liC | apply lbC | apply lsC | apply vIc | apply vBc | apply vSc | apply vLc | apply mapC | apply mIc | apply mOc | apply mSc | apply mLc | apply Hc_iAreLa | apply Ec_iAreLa | apply Sc_iAreLa | apply Hc_iAreLb | apply Ec_iAreLb | apply Sc_iAreLb | apply EW1c_iAreLb | apply EW1c_iAreLa | apply c_iIsBnd | apply c_iSameInts)
  all_goals (try simp only [std] at *)
  all_goals (try (first | with_reducible apply c_iIsBnd | with_reducible apply c_iSameInts | (simp only [← List.map_append]; first | with_reducible apply c_iIsBnd | with_reducible apply c_iSameInts)))
  all_goals (try (first | with_reducible rfl | omega | assumption | (refine (decide_eq_true ?_).symm; assumption) | (refine (decide_eq_false ?_).symm; assumption) | (refine rowGet ?_; (first | omega | (simp only [std]; omega) | grind)) | (refine getC ?_ rfl; (first | omega | (simp only [std]; omega) | grind)) | exact look_mI | exact look_mO | exact look_mO1 | exact look_mS | exact look_mL | exact upd_mI | exact upd_mO | exact del_mO | exact upd_mS | exact take_mL | (refine upd_mL ?_; grind) | (show (_ : St) = _; rfl) | grind [areB, areTo, plc_zero, snocI, snocS, rowSnoc]))
def lsynC (l : List Syntax) : List Cell := [.list (l.map syntaxC)]
def lsynF (l : List Syntax) : List Cell := [.list (l.map syntaxC)]
instance : Row (List Syntax) lsynC lsynF 1 := ⟨fun _ => rfl, fun _ => rfl⟩
end Go.Proofs.YtegbadciefljcaaGreat
end
section
namespace Go.Proofs.YtegbadciefljcaaGreat
open Go Go.Proofs.YtegbadciefljcaaGreat.Ab
set_option linter.unusedVariables false
set_option linter.unusedSimpArgs false
set_option maxHeartbeats 4000000
abbrev P_c_sCopyB (L : List Binding) : Prop := CallOK Tryz.prog 185 [] [ll (L.map bindingC)] [.arr true 4 (L.map bindingC)] (.sv (.one (.ref 0)))
def Tc_sCopyBLa (L : List Binding) (x0 : SV) (x1 : Ob) : St := St.mk (regsOf 28 [(3, AV.sv (SV.one (AC.ref 0))), (7, AV.sv (ll (List.map bindingC L))), (8, AV.sv (li (↑(List.length
 (List.map bindingC L)) : Int))), (9, AV.sv x0)]) [x1] 0 
def Lc_sCopyBLa (L : List Binding) (k : Nat) : St := Tc_sCopyBLa L (li (↑k : Int)) (Ob.arr true 4 (List.map bindingC (List.take k L))) 
def Ic_sCopyBLa (L : List Binding) : Nat → St → Prop := Head (Lc_sCopyBLa L) (fun k => k ≤ List.length L ∧ List.length L ≤ 9223372036854775807) fun k => List.length L - k 
def W0c_sCopyBLa (L : List Binding) (x0 : Ob) : St := St.mk (regsOf 28 [(3, AV.sv (SV.one (AC.ref 0)))]) [x0] 0 
def Yc_sCopyBLa (L : List Binding) : List (Prop × AEx × St) := [(True, AEx.exit 0, W0c_sCopyBLa L (Ob.arr true 4 (List.map bindingC L)))]
theorem Hc_sCopyBLa {L : List Binding} {k : Nat} {m : Nat} (h : (fun k => k ≤ List.length L ∧ List.length L ≤ 9223372036854775807) k) (hm : (fun k => List.length L - k) k = m) :
 Ic_sCopyBLa L m (Lc_sCopyBLa L k) := hm ▸ Head.mk h
theorem Ec_sCopyBLa {L : List Binding} {k : Nat} {x0 : SV} {x1 : Ob} (h0 : x0 = (li (↑k : Int))) (h1 : x1 = (Ob.arr true 4 (List.map bindingC (List.take k L)))) : Tc_sCopyBLa L x0
 x1 = Lc_sCopyBLa L k := by
  rw [h0, h1]
  rfl
theorem EW0c_sCopyBLa {L : List Binding} {x0 y0 : Ob} (h0 : x0 = y0) : W0c_sCopyBLa L x0 = W0c_sCopyBLa L y0 := by rw [h0]
theorem run_c_sCopyBLa (L : List Binding) (k : Nat) : aexec Tryz.prog (loopAt Tryz.f185 0) (Lc_sCopyBLa L k) [Orc.br [Orc.cells (bindingF (List.getD L k default)), Orc.draw [(11,
 [2]), (12, [0, 10])], Orc.call [Mode.rd] [Ob.arr true 1 (List.map intC (Binding.scopes (List.getD L k default)))] (AV.sv (SV.one (AC.ref 0))), Orc.ghost (Ghost.sel [11] [3, 7, 8,
 9]), Orc.goto (List.length L - (k + 1)) (Lc_sCopyBLa L (k + 1))] [Orc.ghost (Ghost.sel [0] [3]), Orc.out 0]] (loopK (Ic_sCopyBLa L) (Yc_sCopyBLa L) (List.length L - k)) = ((decide
 ((↑k : Int) < (↑(List.length (List.map bindingC L)) : Int)) = true → (0 ≤ (↑k : Int) ∧ (List.map bindingC L)[Int.toNat (↑k : Int)]? = some (bindingF (List.getD L k default))) ∧
 P_c_yInts (Binding.scopes (List.getD L k default)) ∧ (List.length (List.map bindingC (List.take k L)) + 1) * 56 ≤ 140737488355328 ∧ rng IntKind.i64 ((↑k : Int) + 1) ∧ List.length
 L - (k + 1) < List.length L - k ∧ Tc_sCopyBLa L (li ((↑k : Int) + 1)) (Ob.arr true 4 (List.map bindingC (List.take k L) ++ [bindingF (List.getD L k default)])) = Lc_sCopyBLa L (k
 + 1) ∧ Ic_sCopyBLa L (List.length L - (k + 1)) (Lc_sCopyBLa L (k + 1))) ∧ (decide ((↑k : Int) < (↑(List.length (List.map bindingC L)) : Int)) = false → True ∧ W0c_sCopyBLa L
 (Ob.arr true 4 (List.map bindingC (List.take k L))) = W0c_sCopyBLa L (Ob.arr true 4 (List.map bindingC L)))) := by kernel_rfl
theorem Sc_sCopyBLa (L : List Binding) (h : List.length L ≤ 1048577 ∧ sumBy wB L ≤ 1048577)  : LoopSem Tryz.prog (loopAt Tryz.f185 0) (Ic_sCopyBLa L) (Yc_sCopyBLa L) := by
  refine LoopSem.ofHead wide fun k h => ⟨_, _, run_c_sCopyBLa L k, ?_⟩
  have g2 := @sumBy_mem _ wB L (L.getD k default)
  have g3 := wB_eq (L.getD k default)
  with_reducible repeat' (first | apply And.intro | exact flatI | exact flatS | exact rowLens | (intro; skip) | apply obsN | apply obsC | apply obA | apply obM | apply obB | apply svA | apply tupA | apply lcA | apply lcS | apply svC | apply liC | apply lbC | apply lsC | apply vIc | apply vBc | apply vSc | apply vLc | apply mapC | apply Hc_sCopyBLa | apply Ec_sCopyBLa | apply EW0c_sCopyBLa | apply c_yInts)
  all_goals (try simp only [std] at *)
  all_goals (try (first | with_reducible apply c_yInts | (simp only [← List.map_append]; first | with_reducible apply c_yInts)))
  all_goals (try (first | with_reducible rfl | omega | assumption | (refine (decide_eq_true ?_).symm; assumption) | (refine (decide_eq_false ?_).symm; assumption) | (refine rowGet ?_; (first | omega | (simp only [std]; omega) | grind)) | (refine getC ?_ rfl; (first | omega | (simp only [std]; omega) | grind)) | (show (_ : St) = _; rfl) | grind [take_get, snocI, snocS, rowSnoc, getD_mem']))
theorem run_c_sCopyB (L : List Binding) : aexec Tryz.prog (Option.getD (Func.body Tryz.f185) Code.skip) (entry [] [ll (List.map bindingC L)] 28) [Orc.bool false, Orc.ghost
 (Ghost.sel [0] [3, 7, 8, 9]), Orc.loop (List.length L - 0) (Lc_sCopyBLa L 0) (Ic_sCopyBLa L) [(True, AEx.exit 0, W0c_sCopyBLa L (Ob.arr true 4 (List.map bindingC L)), [Orc.fin
 [0]])]] (finK Tryz.prog [ResultVar.tmp 2] [Ob.arr true 4 (List.map bindingC L)] (AV.sv (SV.one (AC.ref 0)))) = (List.length (List.map bindingC L) ≤ 9223372036854775807 →
 Tc_sCopyBLa L (li 0) (Ob.arr true 4 []) = Lc_sCopyBLa L 0 ∧ Ic_sCopyBLa L (List.length L - 0) (Lc_sCopyBLa L 0) ∧ LoopSem Tryz.prog (loopAt Tryz.f185 0) (Ic_sCopyBLa L)
 (Yc_sCopyBLa L) ∧ (True → ObsEq [Ob.arr true 4 (List.map bindingC L)] [Ob.arr true 4 (List.map bindingC L)] ∧ AV.sv (SV.one (AC.ref 0)) = AV.sv (SV.one (AC.ref 0))) ∧ True) := by
 kernel_rfl
theorem c_sCopyB (L : List Binding) (h : L.length ≤ 1048577 ∧ sumBy wB L ≤ 1048577)  : P_c_sCopyB L := by
  refine CallOK.ofRun wide (run_c_sCopyB L) Tryz.call185 Tryz.func185 rfl rfl rfl ?_
  with_reducible repeat' (first | apply And.intro | exact flatI | exact flatS | exact rowLens | (intro; skip) | apply obsN | apply obsC | apply obA | apply obM | apply obB | apply svA | apply tupA | apply lcA | apply lcS | apply svC | apply liC | apply lbC | apply lsC | apply vIc | apply vBc | apply vSc | apply vLc | apply mapC | apply Hc_sCopyBLa | apply Ec_sCopyBLa | apply Sc_sCopyBLa | apply EW0c_sCopyBLa | apply c_yInts)
  all_goals (try simp only [std] at *)
  all_goals (try (first | with_reducible apply c_yInts | (simp only [← List.map_append]; first | with_reducible apply c_yInts)))
  all_goals (try (first | with_reducible rfl | omega | assumption | (refine (decide_eq_true ?_).symm; assumption) | (refine (decide_eq_false ?_).symm; assumption) | (refine rowGet ?_; (first | omega | (simp only [std]; omega) | grind)) | (refine getC ?_ rfl; (first | omega | (simp only [std]; omega) | grind)) | (show (_ : St) = _; rfl) | grind [snocI, snocS, rowSnoc]))
abbrev P_c_iCopyB1 (b : Binding) : Prop := CallOK Tryz.prog 231 [] [bindingA b] (bindingO b) (.sv (bindingR b 0))
theorem run_c_iCopyB1 (b : Binding) : aexec Tryz.prog (Option.getD (Func.body Tryz.f231) Code.skip) (entry [] [bindingA b] 8) [Orc.call [Mode.rd] [Ob.arr true 1 (List.map intC
 (Binding.scopes b))] (AV.sv (SV.one (AC.ref 0))), Orc.fin [2]] (finK Tryz.prog [ResultVar.cell 2 134] (bindingO b) (AV.sv (bindingR b 0))) = (P_c_yIInts (Binding.scopes b) ∧ ObsEq
 [Ob.arr true 1 (List.map intC (Binding.scopes b))] [Ob.arr true 1 (List.map intC (Binding.scopes b))] ∧ AV.sv (SV.agg [vS (Binding.text b), AC.ref 0, vI (Binding.kind b), vI
 (Binding.number b)]) = AV.sv (SV.agg [vS (Binding.text b), AC.ref 0, vI (Binding.kind b), vI (Binding.number b)])) := by kernel_rfl
theorem c_iCopyB1 (b : Binding) (h : wB b ≤ 1048577)  : P_c_iCopyB1 b := by
  refine CallOK.ofRun wide (run_c_iCopyB1 b) Tryz.call231 Tryz.func231 rfl rfl rfl ?_
  have g3 := wB_eq b
  with_reducible repeat' (first | apply And.intro | exact flatI | exact flatS | exact rowLens | (intro; skip) | apply obsN | apply obsC | apply obA | apply obM | apply obB | apply svA | apply tupA | apply lcA | apply lcS | apply svC | apply liC | apply lbC | apply lsC | apply vIc | apply vBc | apply vSc | apply vLc | apply mapC | apply c_yIInts)
  all_goals (try simp only [std] at *)
  all_goals (try (first | with_reducible apply c_yIInts | (simp only [← List.map_append]; first | with_reducible apply c_yIInts)))
  all_goals (try (first | with_reducible rfl | omega | assumption | (refine (decide_eq_true ?_).symm; assumption) | (refine (decide_eq_false ?_).symm; assumption) | (refine rowGet ?_; (first | omega | (simp only [std]; omega) | grind)) | (refine getC ?_ rfl; (first | omega | (simp only [std]; omega) | grind)) | (show (_ : St) = _; rfl) | grind [snocI, snocS, rowSnoc]))
abbrev P_c_iCopyYs (L : List Syntax) : Prop := CallOK Tryz.prog 184 [] [ll (L.map syntaxC)] [.arr true 5 (L.map syntaxC)] (.sv (.one (.ref 0)))
def Tc_iCopyYsLa (L : List Syntax) (x0 : SV) (x1 : Ob) : St := St.mk (regsOf 19 [(3, AV.sv (SV.one (AC.ref 0))), (6, AV.sv (ll (List.map syntaxC L))), (7, AV.sv (li (↑(List.length
 (List.map syntaxC L)) : Int))), (8, AV.sv x0)]) [x1] 0 
def Lc_iCopyYsLa (L : List Syntax) (k : Nat) : St := Tc_iCopyYsLa L (li (↑k : Int)) (Ob.arr true 5 (List.map syntaxC (List.take k L))) 
def Ic_iCopyYsLa (L : List Syntax) : Nat → St → Prop := Head (Lc_iCopyYsLa L) (fun k => k ≤ List.length L ∧ List.length L ≤ 9223372036854775807) fun k => List.length L - k 
def W0c_iCopyYsLa (L : List Syntax) (x0 : Ob) : St := St.mk (regsOf 19 [(3, AV.sv (SV.one (AC.ref 0)))]) [x0] 0 
def Yc_iCopyYsLa (L : List Syntax) : List (Prop × AEx × St) := [(True, AEx.exit 0, W0c_iCopyYsLa L (Ob.arr true 5 (List.map syntaxC L)))]
theorem Hc_iCopyYsLa {L : List Syntax} {k : Nat} {m : Nat} (h : (fun k => k ≤ List.length L ∧ List.length L ≤ 9223372036854775807) k) (hm : (fun k => List.length L - k) k = m) :
 Ic_iCopyYsLa L m (Lc_iCopyYsLa L k) := hm ▸ Head.mk h
theorem Ec_iCopyYsLa {L : List Syntax} {k : Nat} {x0 : SV} {x1 : Ob} (h0 : x0 = (li (↑k : Int))) (h1 : x1 = (Ob.arr true 5 (List.map syntaxC (List.take k L)))) : Tc_iCopyYsLa L x0
 x1 = Lc_iCopyYsLa L k := by
  rw [h0, h1]
  rfl
theorem EW0c_iCopyYsLa {L : List Syntax} {x0 y0 : Ob} (h0 : x0 = y0) : W0c_iCopyYsLa L x0 = W0c_iCopyYsLa L y0 := by rw [h0]
theorem run_c_iCopyYsLa (L : List Syntax) (k : Nat) : aexec Tryz.prog (loopAt Tryz.f184 0) (Lc_iCopyYsLa L k) [Orc.br [Orc.cells (syntaxF (List.getD L k default)), Orc.call
 [Mode.rd] (syntaxO (List.getD L k default)) (AV.sv (syntaxR (List.getD L k default) 0)), Orc.ghost (Ghost.sel [5] [3, 6, 7, 8]), Orc.goto (List.length L - (k + 1)) (Lc_iCopyYsLa L
 (k + 1))] [Orc.ghost (Ghost.sel [0] [3]), Orc.out 0]] (loopK (Ic_iCopyYsLa L) (Yc_iCopyYsLa L) (List.length L - k)) = ((decide ((↑k : Int) < (↑(List.length (List.map syntaxC L)) :
 Int)) = true → (0 ≤ (↑k : Int) ∧ (List.map syntaxC L)[Int.toNat (↑k : Int)]? = some (syntaxF (List.getD L k default))) ∧ P_c_iCopyY (List.getD L k default) ∧ (List.length
 (List.map syntaxC (List.take k L)) + 1) * 80 ≤ 140737488355328 ∧ rng IntKind.i64 ((↑k : Int) + 1) ∧ List.length L - (k + 1) < List.length L - k ∧ Tc_iCopyYsLa L (li ((↑k : Int) +
 1)) (Ob.arr true 5 (List.map syntaxC (List.take k L) ++ [syntaxF (List.getD L k default)])) = Lc_iCopyYsLa L (k + 1) ∧ Ic_iCopyYsLa L (List.length L - (k + 1)) (Lc_iCopyYsLa L (k
 + 1))) ∧ (decide ((↑k : Int) < (↑(List.length (List.map syntaxC L)) : Int)) = false → True ∧ W0c_iCopyYsLa L (Ob.arr true 5 (List.map syntaxC (List.take k L))) = W0c_iCopyYsLa L
 (Ob.arr true 5 (List.map syntaxC L)))) := by kernel_rfl
theorem Sc_iCopyYsLa (L : List Syntax) (h : List.length L ≤ 1048576 ∧ sumBy wY L ≤ 1048576)  : LoopSem Tryz.prog (loopAt Tryz.f184 0) (Ic_iCopyYsLa L) (Yc_iCopyYsLa L) := by
  refine LoopSem.ofHead wide fun k h => ⟨_, _, run_c_iCopyYsLa L k, ?_⟩
  have g2 := @sumBy_mem _ wY L (L.getD k default)
  with_reducible repeat' (first | apply And.intro | exact flatI | exact flatS | exact rowLens | (intro; skip) | apply obsN | apply obsC | apply obA | apply obM | apply obB | apply svA | apply tupA | apply lcA | apply lcS | apply svC | apply liC | apply lbC | apply lsC | apply vIc | apply vBc | apply vSc | apply vLc | apply mapC | apply Hc_iCopyYsLa | apply Ec_iCopyYsLa | apply EW0c_iCopyYsLa | apply c_iCopyY)
  all_goals (try simp only [std] at *)
  all_goals (try (first | with_reducible apply c_iCopyY | (simp only [← List.map_append]; first | with_reducible apply c_iCopyY)))
  all_goals (try (first | with_reducible rfl | omega | assumption | (refine (decide_eq_true ?_).symm; assumption) | (refine (decide_eq_false ?_).symm; assumption) | (refine rowGet ?_; (first | omega | (simp only [std]; omega) | grind)) | (refine getC ?_ rfl; (first | omega | (simp only [std]; omega) | grind)) | (show (_ : St) = _; rfl) | grind [take_get, snocI, snocS, rowSnoc, getD_mem']))
theorem run_c_iCopyYs (L : List Syntax) : aexec Tryz.prog (Option.getD (Func.body Tryz.f184) Code.skip) (entry [] [ll (List.map syntaxC L)] 19) [Orc.ghost (Ghost.nilreg 3 true 5),
 Orc.ghost (Ghost.sel [0] [3, 6, 7, 8]), Orc.loop (List.length L - 0) (Lc_iCopyYsLa L 0) (Ic_iCopyYsLa L) [(True, AEx.exit 0, W0c_iCopyYsLa L (Ob.arr true 5 (List.map syntaxC L)),
 [Orc.fin [0]])]] (finK Tryz.prog [ResultVar.tmp 2] [Ob.arr true 5 (List.map syntaxC L)] (AV.sv (SV.one (AC.ref 0)))) = (List.length (List.map syntaxC L) ≤ 9223372036854775807 →
 Tc_iCopyYsLa L (li 0) (Ob.arr true 5 []) = Lc_iCopyYsLa L 0 ∧ Ic_iCopyYsLa L (List.length L - 0) (Lc_iCopyYsLa L 0) ∧ LoopSem Tryz.prog (loopAt Tryz.f184 0) (Ic_iCopyYsLa L)
 (Yc_iCopyYsLa L) ∧ (True → ObsEq [Ob.arr true 5 (List.map syntaxC L)] [Ob.arr true 5 (List.map syntaxC L)] ∧ AV.sv (SV.one (AC.ref 0)) = AV.sv (SV.one (AC.ref 0))) ∧ True) := by
 kernel_rfl
theorem c_iCopyYs (L : List Syntax) (h : L.length ≤ 1048576 ∧ sumBy wY L ≤ 1048576)  : P_c_iCopyYs L := by
  refine CallOK.ofRun wide (run_c_iCopyYs L) Tryz.call184 Tryz.func184 rfl rfl rfl ?_
  with_reducible repeat' (first | apply And.intro | exact flatI | exact flatS | exact rowLens | (intro; skip) | apply obsN | apply obsC | apply obA | apply obM | apply obB | apply svA | apply tupA | apply lcA | apply lcS | apply svC | apply liC | apply lbC | apply lsC | apply vIc | apply vBc | apply vSc | apply vLc | apply mapC | apply Hc_iCopyYsLa | apply Ec_iCopyYsLa | apply Sc_iCopyYsLa | apply EW0c_iCopyYsLa | apply c_iCopyY)
  all_goals (try simp only [std] at *)
  all_goals (try (first | with_reducible apply c_iCopyY | (simp only [← List.map_append]; first | with_reducible apply c_iCopyY)))
  all_goals (try (first | with_reducible rfl | omega | assumption | (refine (decide_eq_true ?_).symm; assumption) | (refine (decide_eq_false ?_).symm; assumption) | (refine rowGet ?_; (first | omega | (simp only [std]; omega) | grind)) | (refine getC ?_ rfl; (first | omega | (simp only [std]; omega) | grind)) | (show (_ : St) = _; rfl) | grind [snocI, snocS, rowSnoc]))
end Go.Proofs.YtegbadciefljcaaGreat
end
section
namespace Go.Proofs.YtegbadciefljcaaGreat
open Go Go.Proofs.YtegbadciefljcaaGreat.Ab
set_option linter.unusedVariables false
set_option linter.unusedSimpArgs false
set_option maxHeartbeats 4000000
abbrev P_c_rHas (L : List Int) (n : Int) : Prop := CallOK Tryz.prog 129 [] [ll (L.map intC), li n] [] (.sv (lb (decide (n ∈ L))))
def Tc_rHasLa (L : List Int) (n : Int) (x0 : SV) : St := St.mk (regsOf 17 [(1, AV.sv (li n)), (7, AV.sv (ll (List.map intC L))), (8, AV.sv (li (↑(List.length (List.map intC L)) :
 Int))), (9, AV.sv x0)]) [] 0 
def Lc_rHasLa (L : List Int) (n : Int) (k : Nat) : St := Tc_rHasLa L n (li (↑k : Int)) 
def Ic_rHasLa (L : List Int) (n : Int) : Nat → St → Prop := Head (Lc_rHasLa L n) (fun k => k ≤ List.length L ∧ List.length L ≤ 9223372036854775807 ∧ decide (n ∈ List.take k L) =
 false) fun k => List.length L - k 
def W0c_rHasLa (L : List Int) (n : Int) : St := St.mk (regsOf 17 []) [] 0 
def W1c_rHasLa (L : List Int) (n : Int) (x0 : SV) : St := St.mk (regsOf 17 [(4, AV.sv x0)]) [] 0 
def Yc_rHasLa (L : List Int) (n : Int) : List (Prop × AEx × St) := [(decide (n ∈ L) = false, AEx.exit 0, W0c_rHasLa L n), (decide (n ∈ L) = true, AEx.ret, W1c_rHasLa L n (lb
 true))]
theorem Hc_rHasLa {L : List Int} {n : Int} {k : Nat} {m : Nat} (h : (fun k => k ≤ List.length L ∧ List.length L ≤ 9223372036854775807 ∧ decide (n ∈ List.take k L) = false) k) (hm :
 (fun k => List.length L - k) k = m) : Ic_rHasLa L n m (Lc_rHasLa L n k) := hm ▸ Head.mk h
theorem Ec_rHasLa {L : List Int} {n : Int} {k : Nat} {x0 : SV} (h0 : x0 = (li (↑k : Int))) : Tc_rHasLa L n x0 = Lc_rHasLa L n k := by
  rw [h0]
  rfl
theorem EW1c_rHasLa {L : List Int} {n : Int} {x0 y0 : SV} (h0 : x0 = y0) : W1c_rHasLa L n x0 = W1c_rHasLa L n y0 := by rw [h0]
theorem run_c_rHasLa (L : List Int) (n : Int) (k : Nat) : aexec Tryz.prog (loopAt Tryz.f129 0) (Lc_rHasLa L n k) [Orc.br [Orc.cells (intC (List.getD L k default)), Orc.br
 [Orc.ghost (Ghost.sel [] [4]), Orc.out 1] [Orc.ghost (Ghost.sel [] [1, 7, 8, 9]), Orc.goto (List.length L - (k + 1)) (Lc_rHasLa L n (k + 1))]] [Orc.ghost (Ghost.sel [] []),
 Orc.out 0]] (loopK (Ic_rHasLa L n) (Yc_rHasLa L n) (List.length L - k)) = ((decide ((↑k : Int) < (↑(List.length (List.map intC L)) : Int)) = true → (0 ≤ (↑k : Int) ∧ (List.map
 intC L)[Int.toNat (↑k : Int)]? = some [cI (List.getD L k 0)]) ∧ (decide (List.getD L k 0 = n) = true → decide (n ∈ L) = true ∧ W1c_rHasLa L n (lb true) = W1c_rHasLa L n (lb true))
 ∧ (decide (List.getD L k 0 = n) = false → rng IntKind.i64 ((↑k : Int) + 1) ∧ List.length L - (k + 1) < List.length L - k ∧ Tc_rHasLa L n (li ((↑k : Int) + 1)) = Lc_rHasLa L n (k +
 1) ∧ Ic_rHasLa L n (List.length L - (k + 1)) (Lc_rHasLa L n (k + 1)))) ∧ (decide ((↑k : Int) < (↑(List.length (List.map intC L)) : Int)) = false → decide (n ∈ L) = false ∧
 W0c_rHasLa L n = W0c_rHasLa L n)) := by kernel_rfl
theorem Sc_rHasLa (L : List Int) (n : Int)  : LoopSem Tryz.prog (loopAt Tryz.f129 0) (Ic_rHasLa L n) (Yc_rHasLa L n) := by
  refine LoopSem.ofHead wide fun k h => ⟨_, _, run_c_rHasLa L n k, ?_⟩
  with_reducible repeat' (first | apply And.intro | exact flatI | exact flatS | exact rowLens | (intro; skip) | apply obsN | apply obsC | apply obA | apply obM | apply obB | apply svA | apply tupA | apply lcA | apply lcS | apply svC | apply liC | apply lbC | apply lsC | apply vIc | apply vBc | apply vSc | apply vLc | apply mapC | apply Hc_rHasLa | apply Ec_rHasLa | apply EW1c_rHasLa)
  all_goals (try simp only [std] at *)
  all_goals (try (first | with_reducible rfl | omega | assumption | (refine (decide_eq_true ?_).symm; assumption) | (refine (decide_eq_false ?_).symm; assumption) | (refine rowGet ?_; (first | omega | (simp only [std]; omega) | grind)) | (refine getC ?_ rfl; (first | omega | (simp only [std]; omega) | grind)) | (show (_ : St) = _; rfl) | grind [take_get, getD_mem', snocI, snocS, rowSnoc]))
theorem run_c_rHas (L : List Int) (n : Int) : aexec Tryz.prog (Option.getD (Func.body Tryz.f129) Code.skip) (entry [] [ll (List.map intC L), li n] 17) [Orc.ghost (Ghost.sel [] [1,
 7, 8, 9]), Orc.loop (List.length L - 0) (Lc_rHasLa L n 0) (Ic_rHasLa L n) [(decide (n ∈ L) = false, AEx.exit 0, W0c_rHasLa L n, [Orc.fin []]), (decide (n ∈ L) = true, AEx.ret,
 W1c_rHasLa L n (lb true), [Orc.fin []])]] (finK Tryz.prog [ResultVar.tmp 4] [] (AV.sv (lb (decide (n ∈ L))))) = (List.length (List.map intC L) ≤ 9223372036854775807 → Tc_rHasLa L
 n (li 0) = Lc_rHasLa L n 0 ∧ Ic_rHasLa L n (List.length L - 0) (Lc_rHasLa L n 0) ∧ LoopSem Tryz.prog (loopAt Tryz.f129 0) (Ic_rHasLa L n) (Yc_rHasLa L n) ∧ (decide (n ∈ L) = false
 → ObsEq [] [] ∧ AV.sv (lb false) = AV.sv (lb (decide (n ∈ L)))) ∧ (decide (n ∈ L) = true → ObsEq [] [] ∧ AV.sv (lb true) = AV.sv (lb (decide (n ∈ L)))) ∧ True) := by kernel_rfl
theorem c_rHas (L : List Int) (n : Int)  : P_c_rHas L n := by
  refine CallOK.ofRun wide (run_c_rHas L n) Tryz.call129 Tryz.func129 rfl rfl rfl ?_
  with_reducible repeat' (first | apply And.intro | exact flatI | exact flatS | exact rowLens | (intro; skip) | apply obsN | apply obsC | apply obA | apply obM | apply obB | apply svA | apply tupA | apply lcA | apply lcS | apply svC | apply liC | apply lbC | apply lsC | apply vIc | apply vBc | apply vSc | apply vLc | apply mapC | apply Hc_rHasLa | apply Ec_rHasLa | apply Sc_rHasLa | apply EW1c_rHasLa)
  all_goals (try simp only [std] at *)
  all_goals (try (first | with_reducible rfl | omega | assumption | (refine (decide_eq_true ?_).symm; assumption) | (refine (decide_eq_false ?_).symm; assumption) | (refine rowGet ?_; (first | omega | (simp only [std]; omega) | grind)) | (refine getC ?_ rfl; (first | omega | (simp only [std]; omega) | grind)) | (show (_ : St) = _; rfl) | grind [snocI, snocS, rowSnoc]))
abbrev P_c_rIHas (L : List Int) (n : Int) : Prop := CallOK Tryz.prog 266 [] [ll (L.map intC), li n] [] (.sv (lb (decide (n ∈ L))))
def Tc_rIHasLa (L : List Int) (n : Int) (x0 : SV) : St := St.mk (regsOf 17 [(1, AV.sv (li n)), (7, AV.sv (ll (List.map intC L))), (8, AV.sv (li (↑(List.length (List.map intC L)) :
 Int))), (9, AV.sv x0)]) [] 0 
def Lc_rIHasLa (L : List Int) (n : Int) (k : Nat) : St := Tc_rIHasLa L n (li (↑k : Int)) 
def Ic_rIHasLa (L : List Int) (n : Int) : Nat → St → Prop := Head (Lc_rIHasLa L n) (fun k => k ≤ List.length L ∧ List.length L ≤ 9223372036854775807 ∧ decide (n ∈ List.take k L) =
 false) fun k => List.length L - k 
def W0c_rIHasLa (L : List Int) (n : Int) : St := St.mk (regsOf 17 []) [] 0 
def W1c_rIHasLa (L : List Int) (n : Int) (x0 : SV) : St := St.mk (regsOf 17 [(4, AV.sv x0)]) [] 0 
def Yc_rIHasLa (L : List Int) (n : Int) : List (Prop × AEx × St) := [(decide (n ∈ L) = false, AEx.exit 0, W0c_rIHasLa L n), (decide (n ∈ L) = true, AEx.ret, W1c_rIHasLa L n (lb
 true))]
theorem Hc_rIHasLa {L : List Int} {n : Int} {k : Nat} {m : Nat} (h : (fun k => k ≤ List.length L ∧ List.length L ≤ 9223372036854775807 ∧ decide (n ∈ List.take k L) = false) k) (hm
 : (fun k => List.length L - k) k = m) : Ic_rIHasLa L n m (Lc_rIHasLa L n k) := hm ▸ Head.mk h
theorem Ec_rIHasLa {L : List Int} {n : Int} {k : Nat} {x0 : SV} (h0 : x0 = (li (↑k : Int))) : Tc_rIHasLa L n x0 = Lc_rIHasLa L n k := by
  rw [h0]
  rfl
theorem EW1c_rIHasLa {L : List Int} {n : Int} {x0 y0 : SV} (h0 : x0 = y0) : W1c_rIHasLa L n x0 = W1c_rIHasLa L n y0 := by rw [h0]
theorem run_c_rIHasLa (L : List Int) (n : Int) (k : Nat) : aexec Tryz.prog (loopAt Tryz.f266 0) (Lc_rIHasLa L n k) [Orc.br [Orc.cells (intC (List.getD L k default)), Orc.br
 [Orc.ghost (Ghost.sel [] [4]), Orc.out 1] [Orc.ghost (Ghost.sel [] [1, 7, 8, 9]), Orc.goto (List.length L - (k + 1)) (Lc_rIHasLa L n (k + 1))]] [Orc.ghost (Ghost.sel [] []),
 Orc.out 0]] (loopK (Ic_rIHasLa L n) (Yc_rIHasLa L n) (List.length L - k)) = ((decide ((↑k : Int) < (↑(List.length (List.map intC L)) : Int)) = true → (0 ≤ (↑k : Int) ∧ (List.map
 intC L)[Int.toNat (↑k : Int)]? = some [cI (List.getD L k 0)]) ∧ (decide (List.getD L k 0 = n) = true → decide (n ∈ L) = true ∧ W1c_rIHasLa L n (lb true) = W1c_rIHasLa L n (lb
 true)) ∧ (decide (List.getD L k 0 = n) = false → rng IntKind.i64 ((↑k : Int) + 1) ∧ List.length L - (k + 1) < List.length L - k ∧ Tc_rIHasLa L n (li ((↑k : Int) + 1)) = Lc_rIHasLa
 L n (k + 1) ∧ Ic_rIHasLa L n (List.length L - (k + 1)) (Lc_rIHasLa L n (k + 1)))) ∧ (decide ((↑k : Int) < (↑(List.length (List.map intC L)) : Int)) = false → decide (n ∈ L) =
 false ∧ W0c_rIHasLa L n = W0c_rIHasLa L n)) := by kernel_rfl
theorem Sc_rIHasLa (L : List Int) (n : Int)  : LoopSem Tryz.prog (loopAt Tryz.f266 0) (Ic_rIHasLa L n) (Yc_rIHasLa L n) := by
  refine LoopSem.ofHead wide fun k h => ⟨_, _, run_c_rIHasLa L n k, ?_⟩
  with_reducible repeat' (first | apply And.intro | exact flatI | exact flatS | exact rowLens | (intro; skip) | apply obsN | apply obsC | apply obA | apply obM | apply obB | apply svA | apply tupA | apply lcA | apply lcS | apply svC | apply liC | apply lbC | apply lsC | apply vIc | apply vBc | apply vSc | apply vLc | apply mapC | apply Hc_rIHasLa | apply Ec_rIHasLa | apply EW1c_rIHasLa)
  all_goals (try simp only [std] at *)
  all_goals (try (first | with_reducible rfl | omega | assumption | (refine (decide_eq_true ?_).symm; assumption) | (refine (decide_eq_false ?_).symm; assumption) | (refine rowGet ?_; (first | omega | (simp only [std]; omega) | grind)) | (refine getC ?_ rfl; (first | omega | (simp only [std]; omega) | grind)) | (show (_ : St) = _; rfl) | grind [take_get, getD_mem', snocI, snocS, rowSnoc]))
theorem run_c_rIHas (L : List Int) (n : Int) : aexec Tryz.prog (Option.getD (Func.body Tryz.f266) Code.skip) (entry [] [ll (List.map intC L), li n] 17) [Orc.ghost (Ghost.sel [] [1,
 7, 8, 9]), Orc.loop (List.length L - 0) (Lc_rIHasLa L n 0) (Ic_rIHasLa L n) [(decide (n ∈ L) = false, AEx.exit 0, W0c_rIHasLa L n, [Orc.fin []]), (decide (n ∈ L) = true, AEx.ret,
 W1c_rIHasLa L n (lb true), [Orc.fin []])]] (finK Tryz.prog [ResultVar.tmp 4] [] (AV.sv (lb (decide (n ∈ L))))) = (List.length (List.map intC L) ≤ 9223372036854775807 → Tc_rIHasLa
 L n (li 0) = Lc_rIHasLa L n 0 ∧ Ic_rIHasLa L n (List.length L - 0) (Lc_rIHasLa L n 0) ∧ LoopSem Tryz.prog (loopAt Tryz.f266 0) (Ic_rIHasLa L n) (Yc_rIHasLa L n) ∧ (decide (n ∈ L)
 = false → ObsEq [] [] ∧ AV.sv (lb false) = AV.sv (lb (decide (n ∈ L)))) ∧ (decide (n ∈ L) = true → ObsEq [] [] ∧ AV.sv (lb true) = AV.sv (lb (decide (n ∈ L)))) ∧ True) := by
 kernel_rfl
theorem c_rIHas (L : List Int) (n : Int)  : P_c_rIHas L n := by
  refine CallOK.ofRun wide (run_c_rIHas L n) Tryz.call266 Tryz.func266 rfl rfl rfl ?_
  with_reducible repeat' (first | apply And.intro | exact flatI | exact flatS | exact rowLens | (intro; skip) | apply obsN | apply obsC | apply obA | apply obM | apply obB | apply svA | apply tupA | apply lcA | apply lcS | apply svC | apply liC | apply lbC | apply lsC | apply vIc | apply vBc | apply vSc | apply vLc | apply mapC | apply Hc_rIHasLa | apply Ec_rIHasLa | apply Sc_rIHasLa | apply EW1c_rIHasLa)
  all_goals (try simp only [std] at *)
  all_goals (try (first | with_reducible rfl | omega | assumption | (refine (decide_eq_true ?_).symm; assumption) | (refine (decide_eq_false ?_).symm; assumption) | (refine rowGet ?_; (first | omega | (simp only [std]; omega) | grind)) | (refine getC ?_ rfl; (first | omega | (simp only [std]; omega) | grind)) | (show (_ : St) = _; rfl) | grind [snocI, snocS, rowSnoc]))
def subI (A B : List Int) : Bool := A.all fun n => decide (n ∈ B)
abbrev P_c_sSub (A : List Int) (B : List Int) : Prop := CallOK Tryz.prog 252 [] [ll (A.map intC), ll (B.map intC)] [] (.sv (lb (subI A B)))
def Tc_sSubLa (A : List Int) (B : List Int) (x0 : SV) : St := St.mk (regsOf 18 [(1, AV.sv (ll (List.map intC B))), (7, AV.sv (ll (List.map intC A))), (8, AV.sv (li (↑(List.length
 (List.map intC A)) : Int))), (9, AV.sv x0)]) [] 0 
def Lc_sSubLa (A : List Int) (B : List Int) (k : Nat) : St := Tc_sSubLa A B (li (↑k : Int)) 
def Ic_sSubLa (A : List Int) (B : List Int) : Nat → St → Prop := Head (Lc_sSubLa A B) (fun k => k ≤ List.length A ∧ List.length A ≤ 9223372036854775807 ∧ subI (List.take k A) B =
 true) fun k => List.length A - k 
def W0c_sSubLa (A : List Int) (B : List Int) : St := St.mk (regsOf 18 []) [] 0 
def W1c_sSubLa (A : List Int) (B : List Int) (x0 : SV) : St := St.mk (regsOf 18 [(4, AV.sv x0)]) [] 0 
def Yc_sSubLa (A : List Int) (B : List Int) : List (Prop × AEx × St) := [(subI A B = true, AEx.exit 0, W0c_sSubLa A B), (subI A B = false, AEx.ret, W1c_sSubLa A B (lb false))]
theorem Hc_sSubLa {A : List Int} {B : List Int} {k : Nat} {m : Nat} (h : (fun k => k ≤ List.length A ∧ List.length A ≤ 9223372036854775807 ∧ subI (List.take k A) B = true) k) (hm :
 (fun k => List.length A - k) k = m) : Ic_sSubLa A B m (Lc_sSubLa A B k) := hm ▸ Head.mk h
theorem Ec_sSubLa {A : List Int} {B : List Int} {k : Nat} {x0 : SV} (h0 : x0 = (li (↑k : Int))) : Tc_sSubLa A B x0 = Lc_sSubLa A B k := by
  rw [h0]
  rfl
theorem EW1c_sSubLa {A : List Int} {B : List Int} {x0 y0 : SV} (h0 : x0 = y0) : W1c_sSubLa A B x0 = W1c_sSubLa A B y0 := by rw [h0]
theorem run_c_sSubLa (A : List Int) (B : List Int) (k : Nat) : aexec Tryz.prog (loopAt Tryz.f252 0) (Lc_sSubLa A B k) [Orc.br [Orc.cells (intC (List.getD A k default)), Orc.call
 [Mode.rd, Mode.rd] [] (AV.sv (lb (decide (List.getD A k 0 ∈ B)))), Orc.br [Orc.ghost (Ghost.sel [] [4]), Orc.out 1] [Orc.ghost (Ghost.sel [] [1, 7, 8, 9]), Orc.goto (List.length A
 - (k + 1)) (Lc_sSubLa A B (k + 1))]] [Orc.ghost (Ghost.sel [] []), Orc.out 0]] (loopK (Ic_sSubLa A B) (Yc_sSubLa A B) (List.length A - k)) = ((decide ((↑k : Int) < (↑(List.length
 (List.map intC A)) : Int)) = true → (0 ≤ (↑k : Int) ∧ (List.map intC A)[Int.toNat (↑k : Int)]? = some [cI (List.getD A k 0)]) ∧ P_c_rHas B (List.getD A k 0) ∧ ((!decide (List.getD
 A k 0 ∈ B)) = true → subI A B = false ∧ W1c_sSubLa A B (lb false) = W1c_sSubLa A B (lb false)) ∧ ((!decide (List.getD A k 0 ∈ B)) = false → rng IntKind.i64 ((↑k : Int) + 1) ∧
 List.length A - (k + 1) < List.length A - k ∧ Tc_sSubLa A B (li ((↑k : Int) + 1)) = Lc_sSubLa A B (k + 1) ∧ Ic_sSubLa A B (List.length A - (k + 1)) (Lc_sSubLa A B (k + 1)))) ∧
 (decide ((↑k : Int) < (↑(List.length (List.map intC A)) : Int)) = false → subI A B = true ∧ W0c_sSubLa A B = W0c_sSubLa A B)) := by kernel_rfl
theorem Sc_sSubLa (A : List Int) (B : List Int)  : LoopSem Tryz.prog (loopAt Tryz.f252 0) (Ic_sSubLa A B) (Yc_sSubLa A B) := by
  refine LoopSem.ofHead wide fun k h => ⟨_, _, run_c_sSubLa A B k, ?_⟩
  with_reducible repeat' (first | apply And.intro | exact flatI | exact flatS | exact rowLens | (intro; skip) | apply obsN | apply obsC | apply obA | apply obM | apply obB | apply svA | apply tupA | apply lcA | apply lcS | apply svC | apply liC | apply lbC | apply lsC | apply vIc | apply vBc | apply vSc | apply vLc | apply mapC | apply Hc_sSubLa | apply Ec_sSubLa | apply EW1c_sSubLa | apply c_rHas)
  all_goals (try simp only [std] at *)
  all_goals (try (first | with_reducible apply c_rHas | (simp only [← List.map_append]; first | with_reducible apply c_rHas)))
  all_goals (try (first | with_reducible rfl | omega | assumption | (refine (decide_eq_true ?_).symm; assumption) | (refine (decide_eq_false ?_).symm; assumption) | (refine rowGet ?_; (first | omega | (simp only [std]; omega) | grind)) | (refine getC ?_ rfl; (first | omega | (simp only [std]; omega) | grind)) | (show (_ : St) = _; rfl) | grind [take_get, getD_mem', subI, snocI, snocS, rowSnoc]))
theorem run_c_sSub (A : List Int) (B : List Int) : aexec Tryz.prog (Option.getD (Func.body Tryz.f252) Code.skip) (entry [] [ll (List.map intC A), ll (List.map intC B)] 18)
 [Orc.ghost (Ghost.sel [] [1, 7, 8, 9]), Orc.loop (List.length A - 0) (Lc_sSubLa A B 0) (Ic_sSubLa A B) [(subI A B = true, AEx.exit 0, W0c_sSubLa A B, [Orc.fin []]), (subI A B =
 false, AEx.ret, W1c_sSubLa A B (lb false), [Orc.fin []])]] (finK Tryz.prog [ResultVar.tmp 4] [] (AV.sv (lb (subI A B)))) = (List.length (List.map intC A) ≤ 9223372036854775807 →
 Tc_sSubLa A B (li 0) = Lc_sSubLa A B 0 ∧ Ic_sSubLa A B (List.length A - 0) (Lc_sSubLa A B 0) ∧ LoopSem Tryz.prog (loopAt Tryz.f252 0) (Ic_sSubLa A B) (Yc_sSubLa A B) ∧ (subI A B =
 true → ObsEq [] [] ∧ AV.sv (lb true) = AV.sv (lb (subI A B))) ∧ (subI A B = false → ObsEq [] [] ∧ AV.sv (lb false) = AV.sv (lb (subI A B))) ∧ True) := by kernel_rfl
theorem c_sSub (A B : List Int)  : P_c_sSub A B := by
  refine CallOK.ofRun wide (run_c_sSub A B) Tryz.call252 Tryz.func252 rfl rfl rfl ?_
  with_reducible repeat' (first | apply And.intro | exact flatI | exact flatS | exact rowLens | (intro; skip) | apply obsN | apply obsC | apply obA | apply obM | apply obB | apply svA | apply tupA | apply lcA | apply lcS | apply svC | apply liC | apply lbC | apply lsC | apply vIc | apply vBc | apply vSc | apply vLc | apply mapC | apply Hc_sSubLa | apply Ec_sSubLa | apply Sc_sSubLa | apply EW1c_sSubLa | apply c_rHas)
  all_goals (try simp only [std] at *)
  all_goals (try (first | with_reducible apply c_rHas | (simp only [← List.map_append]; first | with_reducible apply c_rHas)))
  all_goals (try (first | with_reducible rfl | omega | assumption | (refine (decide_eq_true ?_).symm; assumption) | (refine (decide_eq_false ?_).symm; assumption) | (refine rowGet ?_; (first | omega | (simp only [std]; omega) | grind)) | (refine getC ?_ rfl; (first | omega | (simp only [std]; omega) | grind)) | (show (_ : St) = _; rfl) | grind [subI, snocI, snocS, rowSnoc]))
abbrev P_c_iSub (A : List Int) (B : List Int) : Prop := CallOK Tryz.prog 257 [] [ll (A.map intC), ll (B.map intC)] [] (.sv (lb (subI A B)))
def Tc_iSubLa (A : List Int) (B : List Int) (x0 : SV) : St := St.mk (regsOf 18 [(1, AV.sv (ll (List.map intC B))), (7, AV.sv (ll (List.map intC A))), (8, AV.sv (li (↑(List.length
 (List.map intC A)) : Int))), (9, AV.sv x0)]) [] 0 
def Lc_iSubLa (A : List Int) (B : List Int) (k : Nat) : St := Tc_iSubLa A B (li (↑k : Int)) 
def Ic_iSubLa (A : List Int) (B : List Int) : Nat → St → Prop := Head (Lc_iSubLa A B) (fun k => k ≤ List.length A ∧ List.length A ≤ 9223372036854775807 ∧ subI (List.take k A) B =
 true) fun k => List.length A - k 
def W0c_iSubLa (A : List Int) (B : List Int) : St := St.mk (regsOf 18 []) [] 0 
def W1c_iSubLa (A : List Int) (B : List Int) (x0 : SV) : St := St.mk (regsOf 18 [(4, AV.sv x0)]) [] 0 
def Yc_iSubLa (A : List Int) (B : List Int) : List (Prop × AEx × St) := [(subI A B = true, AEx.exit 0, W0c_iSubLa A B), (subI A B = false, AEx.ret, W1c_iSubLa A B (lb false))]
theorem Hc_iSubLa {A : List Int} {B : List Int} {k : Nat} {m : Nat} (h : (fun k => k ≤ List.length A ∧ List.length A ≤ 9223372036854775807 ∧ subI (List.take k A) B = true) k) (hm :
 (fun k => List.length A - k) k = m) : Ic_iSubLa A B m (Lc_iSubLa A B k) := hm ▸ Head.mk h
theorem Ec_iSubLa {A : List Int} {B : List Int} {k : Nat} {x0 : SV} (h0 : x0 = (li (↑k : Int))) : Tc_iSubLa A B x0 = Lc_iSubLa A B k := by
  rw [h0]
  rfl
theorem EW1c_iSubLa {A : List Int} {B : List Int} {x0 y0 : SV} (h0 : x0 = y0) : W1c_iSubLa A B x0 = W1c_iSubLa A B y0 := by rw [h0]
theorem run_c_iSubLa (A : List Int) (B : List Int) (k : Nat) : aexec Tryz.prog (loopAt Tryz.f257 0) (Lc_iSubLa A B k) [Orc.br [Orc.cells (intC (List.getD A k default)), Orc.call
 [Mode.rd, Mode.rd] [] (AV.sv (lb (decide (List.getD A k 0 ∈ B)))), Orc.br [Orc.ghost (Ghost.sel [] [4]), Orc.out 1] [Orc.ghost (Ghost.sel [] [1, 7, 8, 9]), Orc.goto (List.length A
 - (k + 1)) (Lc_iSubLa A B (k + 1))]] [Orc.ghost (Ghost.sel [] []), Orc.out 0]] (loopK (Ic_iSubLa A B) (Yc_iSubLa A B) (List.length A - k)) = ((decide ((↑k : Int) < (↑(List.length
 (List.map intC A)) : Int)) = true → (0 ≤ (↑k : Int) ∧ (List.map intC A)[Int.toNat (↑k : Int)]? = some [cI (List.getD A k 0)]) ∧ P_c_rIHas B (List.getD A k 0) ∧ ((!decide
 (List.getD A k 0 ∈ B)) = true → subI A B = false ∧ W1c_iSubLa A B (lb false) = W1c_iSubLa A B (lb false)) ∧ ((!decide (List.getD A k 0 ∈ B)) = false → rng IntKind.i64 ((↑k : Int)
 + 1) ∧ List.length A - (k + 1) < List.length A - k ∧ Tc_iSubLa A B (li ((↑k : Int) + 1)) = Lc_iSubLa A B (k + 1) ∧ Ic_iSubLa A B (List.length A - (k + 1)) (Lc_iSubLa A B (k +
 1)))) ∧ (decide ((↑k : Int) < (↑(List.length (List.map intC A)) : Int)) = false → subI A B = true ∧ W0c_iSubLa A B = W0c_iSubLa A B)) := by kernel_rfl
theorem Sc_iSubLa (A : List Int) (B : List Int)  : LoopSem Tryz.prog (loopAt Tryz.f257 0) (Ic_iSubLa A B) (Yc_iSubLa A B) := by
  refine LoopSem.ofHead wide fun k h => ⟨_, _, run_c_iSubLa A B k, ?_⟩
  with_reducible repeat' (first | apply And.intro | exact flatI | exact flatS | exact rowLens | (intro; skip) | apply obsN | apply obsC | apply obA | apply obM | apply obB | apply svA | apply tupA | apply lcA | apply lcS | apply svC | apply liC | apply lbC | apply lsC | apply vIc | apply vBc | apply vSc | apply vLc | apply mapC | apply Hc_iSubLa | apply Ec_iSubLa | apply EW1c_iSubLa | apply c_rIHas)
  all_goals (try simp only [std] at *)
  all_goals (try (first | with_reducible apply c_rIHas | (simp only [← List.map_append]; first | with_reducible apply c_rIHas)))
  all_goals (try (first | with_reducible rfl | omega | assumption | (refine (decide_eq_true ?_).symm; assumption) | (refine (decide_eq_false ?_).symm; assumption) | (refine rowGet ?_; (first | omega | (simp only [std]; omega) | grind)) | (refine getC ?_ rfl; (first | omega | (simp only [std]; omega) | grind)) | (show (_ : St) = _; rfl) | grind [take_get, getD_mem', subI, snocI, snocS, rowSnoc]))
theorem run_c_iSub (A : List Int) (B : List Int) : aexec Tryz.prog (Option.getD (Func.body Tryz.f257) Code.skip) (entry [] [ll (List.map intC A), ll (List.map intC B)] 18)
 [Orc.ghost (Ghost.sel [] [1, 7, 8, 9]), Orc.loop (List.length A - 0) (Lc_iSubLa A B 0) (Ic_iSubLa A B) [(subI A B = true, AEx.exit 0, W0c_iSubLa A B, [Orc.fin []]), (subI A B =
 false, AEx.ret, W1c_iSubLa A B (lb false), [Orc.fin []])]] (finK Tryz.prog [ResultVar.tmp 4] [] (AV.sv (lb (subI A B)))) = (List.length (List.map intC A) ≤ 9223372036854775807 →
 Tc_iSubLa A B (li 0) = Lc_iSubLa A B 0 ∧ Ic_iSubLa A B (List.length A - 0) (Lc_iSubLa A B 0) ∧ LoopSem Tryz.prog (loopAt Tryz.f257 0) (Ic_iSubLa A B) (Yc_iSubLa A B) ∧ (subI A B =
 true → ObsEq [] [] ∧ AV.sv (lb true) = AV.sv (lb (subI A B))) ∧ (subI A B = false → ObsEq [] [] ∧ AV.sv (lb false) = AV.sv (lb (subI A B))) ∧ True) := by kernel_rfl
theorem c_iSub (A B : List Int)  : P_c_iSub A B := by
  refine CallOK.ofRun wide (run_c_iSub A B) Tryz.call257 Tryz.func257 rfl rfl rfl ?_
  with_reducible repeat' (first | apply And.intro | exact flatI | exact flatS | exact rowLens | (intro; skip) | apply obsN | apply obsC | apply obA | apply obM | apply obB | apply svA | apply tupA | apply lcA | apply lcS | apply svC | apply liC | apply lbC | apply lsC | apply vIc | apply vBc | apply vSc | apply vLc | apply mapC | apply Hc_iSubLa | apply Ec_iSubLa | apply Sc_iSubLa | apply EW1c_iSubLa | apply c_rIHas)
  all_goals (try simp only [std] at *)
  all_goals (try (first | with_reducible apply c_rIHas | (simp only [← List.map_append]; first | with_reducible apply c_rIHas)))
  all_goals (try (first | with_reducible rfl | omega | assumption | (refine (decide_eq_true ?_).symm; assumption) | (refine (decide_eq_false ?_).symm; assumption) | (refine rowGet ?_; (first | omega | (simp only [std]; omega) | grind)) | (refine getC ?_ rfl; (first | omega | (simp only [std]; omega) | grind)) | (show (_ : St) = _; rfl) | grind [subI, snocI, snocS, rowSnoc]))
def cndP (t : ByteArray) (s : List Int) (b : Binding) : Bool := decide (b.text = t) && subI b.scopes s
def cnd (L : List Binding) (t : ByteArray) (s : List Int) : List Binding := L.filter (cndP t s)
theorem cnd_step {L : List Binding} {t : ByteArray} {s : List Int} {k : Nat} (h : k < L.length) : cnd (L.take (k + 1)) t s = if cndP t s (L.getD k default) = true then cnd (L.take k) t s ++ [L.getD k default] else cnd (L.take k) t s := by
  unfold cnd; rw [take_get h, List.filter_append]
  by_cases e : cndP t s (L.getD k default) = true
  · rw [if_pos e, List.filter_cons_of_pos e]; rfl
  · rw [if_neg e, List.filter_cons_of_neg e]; simp
theorem cnd_len (L : List Binding) (t : ByteArray) (s : List Int) (k : Nat) : (cnd (L.take k) t s).length ≤ k := by
  have h1 := List.length_filter_le (cndP t s) (L.take k)
  have h2 : (L.take k).length ≤ k := by rw [List.length_take]; exact Nat.min_le_left _ _
  unfold cnd; omega
abbrev P_c_sCand (L : List Binding) (y : Syntax) : Prop := CallOK Tryz.prog 251 [] [ll (L.map bindingC), syntaxA y] [] (.sv (ll ((cnd L y.text y.scopes).map bindingC)))
def Tc_sCandLa (L : List Binding) (y : Syntax) (x0 : SV) (x1 : Ob) : St := St.mk (regsOf 33 [(3, AV.sv (SV.one (AC.ptr 0 0))), (5, AV.sv (SV.one (AC.ref 1))), (9, AV.sv (ll
 (List.map bindingC L))), (10, AV.sv (li (↑(List.length (List.map bindingC L)) : Int))), (11, AV.sv x0)]) [Ob.box (vals (syntaxF y)), x1] 0 
def Lc_sCandLa (L : List Binding) (y : Syntax) (k : Nat) : St := Tc_sCandLa L y (li (↑k : Int)) (Ob.arr false 4 (List.map bindingC (cnd (List.take k L) (Syntax.text y)
 (Syntax.scopes y)))) 
def Ic_sCandLa (L : List Binding) (y : Syntax) : Nat → St → Prop := Head (Lc_sCandLa L y) (fun k => k ≤ List.length L ∧ List.length L ≤ 9223372036854775807) fun k => List.length L
 - k 
def W0c_sCandLa (L : List Binding) (y : Syntax) (x0 : Ob) : St := St.mk (regsOf 33 [(5, AV.sv (SV.one (AC.ref 0)))]) [x0] 0 
def Yc_sCandLa (L : List Binding) (y : Syntax) : List (Prop × AEx × St) := [(True, AEx.exit 0, W0c_sCandLa L y (Ob.arr false 4 (List.map bindingC (cnd L (Syntax.text y)
 (Syntax.scopes y)))))]
theorem Hc_sCandLa {L : List Binding} {y : Syntax} {k : Nat} {m : Nat} (h : (fun k => k ≤ List.length L ∧ List.length L ≤ 9223372036854775807) k) (hm : (fun k => List.length L - k)
 k = m) : Ic_sCandLa L y m (Lc_sCandLa L y k) := hm ▸ Head.mk h
theorem Ec_sCandLa {L : List Binding} {y : Syntax} {k : Nat} {x0 : SV} {x1 : Ob} (h0 : x0 = (li (↑k : Int))) (h1 : x1 = (Ob.arr false 4 (List.map bindingC (cnd (List.take k L)
 (Syntax.text y) (Syntax.scopes y))))) : Tc_sCandLa L y x0 x1 = Lc_sCandLa L y k := by
  rw [h0, h1]
  rfl
theorem EW0c_sCandLa {L : List Binding} {y : Syntax} {x0 y0 : Ob} (h0 : x0 = y0) : W0c_sCandLa L y x0 = W0c_sCandLa L y y0 := by rw [h0]
theorem run_c_sCandLa (L : List Binding) (y : Syntax) (k : Nat) : aexec Tryz.prog (loopAt Tryz.f251 0) (Lc_sCandLa L y k) [Orc.br [Orc.cells (bindingF (List.getD L k default)),
 Orc.br [Orc.call [Mode.rd, Mode.rd] [] (AV.sv (lb (subI (Binding.scopes (List.getD L k default)) (Syntax.scopes y)))), Orc.br [Orc.ghost (Ghost.sel [0, 4] [3, 5, 9, 10, 11]),
 Orc.goto (List.length L - (k + 1)) (Lc_sCandLa L y (k + 1))] [Orc.ghost (Ghost.sel [0, 1] [3, 5, 9, 10, 11]), Orc.goto (List.length L - (k + 1)) (Lc_sCandLa L y (k + 1))]]
 [Orc.bool false, Orc.ghost (Ghost.sel [0, 1] [3, 5, 9, 10, 11]), Orc.goto (List.length L - (k + 1)) (Lc_sCandLa L y (k + 1))]] [Orc.ghost (Ghost.sel [1] [5]), Orc.out 0]] (loopK
 (Ic_sCandLa L y) (Yc_sCandLa L y) (List.length L - k)) = ((decide ((↑k : Int) < (↑(List.length (List.map bindingC L)) : Int)) = true → (0 ≤ (↑k : Int) ∧ (List.map bindingC
 L)[Int.toNat (↑k : Int)]? = some (bindingF (List.getD L k default))) ∧ (decide (Array.toList (ByteArray.data (Binding.text (List.getD L k default))) = Array.toList (ByteArray.data
 (Syntax.text y))) = true → P_c_sSub (Binding.scopes (List.getD L k default)) (Syntax.scopes y) ∧ (subI (Binding.scopes (List.getD L k default)) (Syntax.scopes y) = true →
 (List.length (List.map bindingC (cnd (List.take k L) (Syntax.text y) (Syntax.scopes y))) + 1) * 56 ≤ 140737488355328 ∧ rng IntKind.i64 ((↑k : Int) + 1) ∧ List.length L - (k + 1) <
 List.length L - k ∧ Tc_sCandLa L y (li ((↑k : Int) + 1)) (Ob.arr false 4 (List.map bindingC (cnd (List.take k L) (Syntax.text y) (Syntax.scopes y)) ++ [bindingF (List.getD L k
 default)])) = Lc_sCandLa L y (k + 1) ∧ Ic_sCandLa L y (List.length L - (k + 1)) (Lc_sCandLa L y (k + 1))) ∧ (subI (Binding.scopes (List.getD L k default)) (Syntax.scopes y) =
 false → rng IntKind.i64 ((↑k : Int) + 1) ∧ List.length L - (k + 1) < List.length L - k ∧ Tc_sCandLa L y (li ((↑k : Int) + 1)) (Ob.arr false 4 (List.map bindingC (cnd (List.take k
 L) (Syntax.text y) (Syntax.scopes y)))) = Lc_sCandLa L y (k + 1) ∧ Ic_sCandLa L y (List.length L - (k + 1)) (Lc_sCandLa L y (k + 1)))) ∧ (decide (Array.toList (ByteArray.data
 (Binding.text (List.getD L k default))) = Array.toList (ByteArray.data (Syntax.text y))) = false → false = false ∧ rng IntKind.i64 ((↑k : Int) + 1) ∧ List.length L - (k + 1) <
 List.length L - k ∧ Tc_sCandLa L y (li ((↑k : Int) + 1)) (Ob.arr false 4 (List.map bindingC (cnd (List.take k L) (Syntax.text y) (Syntax.scopes y)))) = Lc_sCandLa L y (k + 1) ∧
 Ic_sCandLa L y (List.length L - (k + 1)) (Lc_sCandLa L y (k + 1)))) ∧ (decide ((↑k : Int) < (↑(List.length (List.map bindingC L)) : Int)) = false → True ∧ W0c_sCandLa L y (Ob.arr
 false 4 (List.map bindingC (cnd (List.take k L) (Syntax.text y) (Syntax.scopes y)))) = W0c_sCandLa L y (Ob.arr false 4 (List.map bindingC (cnd L (Syntax.text y) (Syntax.scopes
 y)))))) := by kernel_rfl
theorem Sc_sCandLa (L : List Binding) (y : Syntax) (h : List.length L ≤ 1048577)  : LoopSem Tryz.prog (loopAt Tryz.f251 0) (Ic_sCandLa L y) (Yc_sCandLa L y) := by
  refine LoopSem.ofHead wide fun k h => ⟨_, _, run_c_sCandLa L y k, ?_⟩
  have g1 := @cnd_step L y.text y.scopes k
  have g2 := cnd_len L y.text y.scopes k
  have g3 : L.length ≤ k → L.take k = L := fun h => List.take_of_length_le h
  with_reducible repeat' (first | apply And.intro | exact flatI | exact flatS | exact rowLens | (intro; skip) | apply obsN | apply obsC | apply obA | apply obM | apply obB | apply svA | apply tupA | apply lcA | apply lcS | apply svC | apply liC | apply lbC | apply lsC | apply vIc | apply vBc | apply vSc | apply vLc | apply mapC | apply Hc_sCandLa | apply Ec_sCandLa | apply EW0c_sCandLa | apply c_sSub)
  all_goals (try simp only [std] at *)
  all_goals (try (first | with_reducible apply c_sSub | (simp only [← List.map_append]; first | with_reducible apply c_sSub)))
  all_goals (try (first | with_reducible rfl | omega | assumption | (refine (decide_eq_true ?_).symm; assumption) | (refine (decide_eq_false ?_).symm; assumption) | (refine rowGet ?_; (first | omega | (simp only [std]; omega) | grind)) | (refine getC ?_ rfl; (first | omega | (simp only [std]; omega) | grind)) | (show (_ : St) = _; rfl) | grind [cndP, bytes_ext, snocI, snocS, rowSnoc]))
theorem run_c_sCand (L : List Binding) (y : Syntax) : aexec Tryz.prog (Option.getD (Func.body Tryz.f251) Code.skip) (entry [] [ll (List.map bindingC L), syntaxA y] 33) [Orc.bool
 true, Orc.ghost (Ghost.sel [0, 1] [3, 5, 9, 10, 11]), Orc.loop (List.length L - 0) (Lc_sCandLa L y 0) (Ic_sCandLa L y) [(True, AEx.exit 0, W0c_sCandLa L y (Ob.arr false 4
 (List.map bindingC (cnd L (Syntax.text y) (Syntax.scopes y)))), [Orc.ghost (Ghost.lock 0), Orc.fin []])]] (finK Tryz.prog [ResultVar.tmp 4] [] (AV.sv (ll (List.map bindingC (cnd L
 (Syntax.text y) (Syntax.scopes y)))))) = (List.length (List.map bindingC L) ≤ 9223372036854775807 → Tc_sCandLa L y (li 0) (Ob.arr false 4 []) = Lc_sCandLa L y 0 ∧ Ic_sCandLa L y
 (List.length L - 0) (Lc_sCandLa L y 0) ∧ LoopSem Tryz.prog (loopAt Tryz.f251 0) (Ic_sCandLa L y) (Yc_sCandLa L y) ∧ (True → ObsEq [] [] ∧ AV.sv (ll (List.map bindingC (cnd L
 (Syntax.text y) (Syntax.scopes y)))) = AV.sv (ll (List.map bindingC (cnd L (Syntax.text y) (Syntax.scopes y))))) ∧ True) := by kernel_rfl
theorem c_sCand (L : List Binding) (y : Syntax) (h : L.length ≤ 1048577)  : P_c_sCand L y := by
  refine CallOK.ofRun wide (run_c_sCand L y) Tryz.call251 Tryz.func251 rfl rfl rfl ?_
  have g1 : cnd (L.take 0) y.text y.scopes = [] := rfl
  with_reducible repeat' (first | apply And.intro | exact flatI | exact flatS | exact rowLens | (intro; skip) | apply obsN | apply obsC | apply obA | apply obM | apply obB | apply svA | apply tupA | apply lcA | apply lcS | apply svC | apply liC | apply lbC | apply lsC | apply vIc | apply vBc | apply vSc | apply vLc | apply mapC | apply Hc_sCandLa | apply Ec_sCandLa | apply Sc_sCandLa | apply EW0c_sCandLa | apply c_sSub)
  all_goals (try simp only [std] at *)
  all_goals (try (first | with_reducible apply c_sSub | (simp only [← List.map_append]; first | with_reducible apply c_sSub)))
  all_goals (try (first | with_reducible rfl | omega | assumption | (refine (decide_eq_true ?_).symm; assumption) | (refine (decide_eq_false ?_).symm; assumption) | (refine rowGet ?_; (first | omega | (simp only [std]; omega) | grind)) | (refine getC ?_ rfl; (first | omega | (simp only [std]; omega) | grind)) | (show (_ : St) = _; rfl) | grind [snocI, snocS, rowSnoc]))
def bstG (a b : Binding) : Binding := if a.scopes.length < b.scopes.length then b else a
def bstC (C : List Binding) : Binding := C.foldl bstG (C.getD 0 default)
theorem bstC_one (x : Binding) : bstC [x] = x := by simp [bstC, bstG]
theorem bstC_snoc {C : List Binding} (x : Binding) (h : C ≠ []) : bstC (C ++ [x]) = bstG (bstC C) x := by
  cases C with
  | nil => exact absurd rfl h
  | cons a r => simp only [bstC, List.foldl_append]; rfl
def amb (C : List Binding) : Bool := C.all fun b => subI b.scopes (bstC C).scopes
def rsC (L : List Binding) (t : ByteArray) (s : List Int) : Int := if cnd L t s = [] then 0 else if amb (cnd L t s) = true then 1 else 2
def rsB (L : List Binding) (t : ByteArray) (s : List Int) : Binding := if rsC L t s = 1 then bstC (cnd L t s) else ⟨mkS [], [], 0, 0⟩
theorem bstG_mem {C : List Binding} : ∀ (a : Binding), C.foldl bstG a = a ∨ C.foldl bstG a ∈ C := by
  induction C with
  | nil => intro a; exact .inl rfl
  | cons x r ih =>
    intro a
    rw [List.foldl_cons]
    rcases ih (bstG a x) with h | h
    · rw [h]; unfold bstG; split
      · exact .inr List.mem_cons_self
      · exact .inl rfl
    · exact .inr (List.mem_cons_of_mem _ h)
theorem bstC_mem {C : List Binding} (h : C ≠ []) : bstC C ∈ C := by
  cases C with
  | nil => exact absurd rfl h
  | cons a r =>
    rcases bstG_mem (C := a :: r) ((a :: r).getD 0 default) with h | h
    · unfold bstC; rw [h]; exact List.mem_cons_self
    · exact h
theorem cnd_w (L : List Binding) (t : ByteArray) (s : List Int) : sumBy wB (cnd L t s) ≤ sumBy wB L := by
  induction L with
  | nil => exact Nat.le_refl _
  | cons x r ih =>
    unfold cnd at ih ⊢
    by_cases e : cndP t s x = true
    · rw [List.filter_cons_of_pos e]; simp only [sumBy]; omega
    · rw [List.filter_cons_of_neg e]; simp only [sumBy]; omega
theorem bstC_w {L : List Binding} {t : ByteArray} {s : List Int} (h : cnd L t s ≠ []) : wB (bstC (cnd L t s)) ≤ sumBy wB L := by
  have h1 := sumBy_mem wB (bstC_mem h)
  have h2 := cnd_w L t s
  omega
theorem amb_stop {C : List Binding} {k : Nat} (hk : k < C.length) (h : subI (C.getD k default).scopes (bstC C).scopes = false) : amb C = false := by
  unfold amb; rw [List.all_eq_false]; exact ⟨_, getD_mem' hk, by rw [h]; decide⟩
def ambN (C : List Binding) (k : Nat) : Bool := (C.take k).all fun b => subI b.scopes (bstC C).scopes
theorem ambN_step {C : List Binding} {k : Nat} (hk : k < C.length) (h0 : ambN C k = true) (h : subI (C.getD k default).scopes (bstC C).scopes = true) : ambN C (k + 1) = true := by
  unfold ambN at *; rw [take_get hk, List.all_append, h0]; simpa using h
theorem ambN_end {C : List Binding} {k : Nat} (hk : C.length ≤ k) (h0 : ambN C k = true) : amb C = true := by
  unfold ambN at h0; rwa [List.take_of_length_le hk] at h0
abbrev P_c_sRes (L : List Binding) (y : Syntax) : Prop := CallOK Tryz.prog 225 [] [ll (L.map bindingC), syntaxA y] [] (.tup [bindingA (rsB L y.text y.scopes), li (rsC L y.text y.scopes)])
def Tc_sResLb (L : List Binding) (y : Syntax) (x0 : SV) : St := St.mk (regsOf 56 [(4, AV.sv (SV.one (AC.ptr 0 0))), (7, AV.sv (SV.one (AC.ptr 1 0))), (37, AV.sv (ll (List.map
 bindingC (cnd L (Syntax.text y) (Syntax.scopes y))))), (38, AV.sv (li (↑(List.length (List.map bindingC (cnd L (Syntax.text y) (Syntax.scopes y)))) : Int))), (39, AV.sv x0)])
 [Ob.box [vS (ByteArray.mk #[]), AC.val (Cell.lit (Value.slice none 0 0)), vI 0, vI 0], Ob.box (vals (bindingF (bstC (cnd L (Syntax.text y) (Syntax.scopes y)))))] 0 
def Lc_sResLb (L : List Binding) (y : Syntax) (k : Nat) : St := Tc_sResLb L y (li (↑k : Int)) 
def Ic_sResLb (L : List Binding) (y : Syntax) : Nat → St → Prop := Head (Lc_sResLb L y) (fun k => k ≤ List.length (cnd L (Syntax.text y) (Syntax.scopes y)) ∧ List.length (cnd L
 (Syntax.text y) (Syntax.scopes y)) ≤ 9223372036854775807 ∧ 0 < List.length (cnd L (Syntax.text y) (Syntax.scopes y)) ∧ ambN (cnd L (Syntax.text y) (Syntax.scopes y)) k = true) fun
 k => List.length (cnd L (Syntax.text y) (Syntax.scopes y)) - k 
def W0c_sResLb (L : List Binding) (y : Syntax) : St := St.mk (regsOf 56 [(4, AV.sv (SV.one (AC.ptr 0 0))), (7, AV.sv (SV.one (AC.ptr 1 0)))]) [Ob.box [vS (ByteArray.mk #[]), AC.val
 (Cell.lit (Value.slice none 0 0)), vI 0, vI 0], Ob.box (vals (bindingF (bstC (cnd L (Syntax.text y) (Syntax.scopes y)))))] 0 
def W1c_sResLb (L : List Binding) (y : Syntax) (x0 : Ob) (x1 : SV) : St := St.mk (regsOf 56 [(4, AV.sv (SV.one (AC.ptr 0 0))), (5, AV.sv x1)]) [x0] 0 
def Yc_sResLb (L : List Binding) (y : Syntax) : List (Prop × AEx × St) := [(amb (cnd L (Syntax.text y) (Syntax.scopes y)) = true, AEx.exit 2, W0c_sResLb L y), (amb (cnd L
 (Syntax.text y) (Syntax.scopes y)) = false, AEx.ret, W1c_sResLb L y (Ob.box [vS (mkS []), AC.val (Cell.lit (Value.slice none 0 0)), vI 0, vI 0]) (li 2))]
def Tc_sResLa (L : List Binding) (y : Syntax) (x0 : SV) (x1 : Ob) : St := St.mk (regsOf 56 [(4, AV.sv (SV.one (AC.ptr 0 0))), (6, AV.sv (ll (List.map bindingC (cnd L (Syntax.text
 y) (Syntax.scopes y))))), (7, AV.sv (SV.one (AC.ptr 1 0))), (22, AV.sv (ll (List.map bindingC (cnd L (Syntax.text y) (Syntax.scopes y))))), (23, AV.sv (li (↑(List.length (List.map
 bindingC (cnd L (Syntax.text y) (Syntax.scopes y)))) : Int))), (24, AV.sv x0)]) [Ob.box [vS (ByteArray.mk #[]), AC.val (Cell.lit (Value.slice none 0 0)), vI 0, vI 0], x1] 0 
def Lc_sResLa (L : List Binding) (y : Syntax) (k : Nat) : St := Tc_sResLa L y (li (↑k : Int)) (Ob.box (vals (bindingF (List.foldl bstG (List.getD (cnd L (Syntax.text y)
 (Syntax.scopes y)) 0 default) (List.take k (cnd L (Syntax.text y) (Syntax.scopes y))))))) 
def Ic_sResLa (L : List Binding) (y : Syntax) : Nat → St → Prop := Head (Lc_sResLa L y) (fun k => k ≤ List.length (cnd L (Syntax.text y) (Syntax.scopes y)) ∧ List.length (cnd L
 (Syntax.text y) (Syntax.scopes y)) ≤ 9223372036854775807 ∧ 0 < List.length (cnd L (Syntax.text y) (Syntax.scopes y))) fun k => List.length (cnd L (Syntax.text y) (Syntax.scopes
 y)) - k 
def W0c_sResLa (L : List Binding) (y : Syntax) (x0 : Ob) : St := St.mk (regsOf 56 [(4, AV.sv (SV.one (AC.ptr 0 0))), (6, AV.sv (ll (List.map bindingC (cnd L (Syntax.text y)
 (Syntax.scopes y))))), (7, AV.sv (SV.one (AC.ptr 1 0)))]) [Ob.box [vS (ByteArray.mk #[]), AC.val (Cell.lit (Value.slice none 0 0)), vI 0, vI 0], x0] 0 
def Yc_sResLa (L : List Binding) (y : Syntax) : List (Prop × AEx × St) := [(True, AEx.exit 0, W0c_sResLa L y (Ob.box (vals (bindingF (bstC (cnd L (Syntax.text y) (Syntax.scopes
 y)))))))]
theorem Hc_sResLb {L : List Binding} {y : Syntax} {k : Nat} {m : Nat} (h : (fun k => k ≤ List.length (cnd L (Syntax.text y) (Syntax.scopes y)) ∧ List.length (cnd L (Syntax.text y)
 (Syntax.scopes y)) ≤ 9223372036854775807 ∧ 0 < List.length (cnd L (Syntax.text y) (Syntax.scopes y)) ∧ ambN (cnd L (Syntax.text y) (Syntax.scopes y)) k = true) k) (hm : (fun k =>
 List.length (cnd L (Syntax.text y) (Syntax.scopes y)) - k) k = m) : Ic_sResLb L y m (Lc_sResLb L y k) := hm ▸ Head.mk h
theorem Ec_sResLb {L : List Binding} {y : Syntax} {k : Nat} {x0 : SV} (h0 : x0 = (li (↑k : Int))) : Tc_sResLb L y x0 = Lc_sResLb L y k := by
  rw [h0]
  rfl
theorem EW1c_sResLb {L : List Binding} {y : Syntax} {x0 y0 : Ob} {x1 y1 : SV} (h0 : x0 = y0) (h1 : x1 = y1) : W1c_sResLb L y x0 x1 = W1c_sResLb L y y0 y1 := by rw [h0, h1]
theorem run_c_sResLb (L : List Binding) (y : Syntax) (k : Nat) : aexec Tryz.prog (loopAt Tryz.f225 1) (Lc_sResLb L y k) [Orc.br [Orc.cells (bindingF (List.getD (cnd L (Syntax.text
 y) (Syntax.scopes y)) k default)), Orc.call [Mode.rd, Mode.rd] [] (AV.sv (lb (subI (Binding.scopes (List.getD (cnd L (Syntax.text y) (Syntax.scopes y)) k default)) (Binding.scopes
 (bstC (cnd L (Syntax.text y) (Syntax.scopes y))))))), Orc.br [Orc.ghost (Ghost.sel [0] [4, 5]), Orc.out 1] [Orc.ghost (Ghost.sel [0, 1] [4, 7, 37, 38, 39]), Orc.goto (List.length
 (cnd L (Syntax.text y) (Syntax.scopes y)) - (k + 1)) (Lc_sResLb L y (k + 1))]] [Orc.ghost (Ghost.sel [0, 1] [4, 7]), Orc.out 0]] (loopK (Ic_sResLb L y) (Yc_sResLb L y)
 (List.length (cnd L (Syntax.text y) (Syntax.scopes y)) - k)) = ((decide ((↑k : Int) < (↑(List.length (List.map bindingC (cnd L (Syntax.text y) (Syntax.scopes y)))) : Int)) = true
 → (0 ≤ (↑k : Int) ∧ (List.map bindingC (cnd L (Syntax.text y) (Syntax.scopes y)))[Int.toNat (↑k : Int)]? = some (bindingF (List.getD (cnd L (Syntax.text y) (Syntax.scopes y)) k
 default))) ∧ P_c_sSub (Binding.scopes (List.getD (cnd L (Syntax.text y) (Syntax.scopes y)) k default)) (Binding.scopes (bstC (cnd L (Syntax.text y) (Syntax.scopes y)))) ∧ ((!subI
 (Binding.scopes (List.getD (cnd L (Syntax.text y) (Syntax.scopes y)) k default)) (Binding.scopes (bstC (cnd L (Syntax.text y) (Syntax.scopes y))))) = true → amb (cnd L
 (Syntax.text y) (Syntax.scopes y)) = false ∧ W1c_sResLb L y (Ob.box [vS (ByteArray.mk #[]), AC.val (Cell.lit (Value.slice none 0 0)), vI 0, vI 0]) (li 2) = W1c_sResLb L y (Ob.box
 [vS (mkS []), AC.val (Cell.lit (Value.slice none 0 0)), vI 0, vI 0]) (li 2)) ∧ ((!subI (Binding.scopes (List.getD (cnd L (Syntax.text y) (Syntax.scopes y)) k default))
 (Binding.scopes (bstC (cnd L (Syntax.text y) (Syntax.scopes y))))) = false → rng IntKind.i64 ((↑k : Int) + 1) ∧ List.length (cnd L (Syntax.text y) (Syntax.scopes y)) - (k + 1) <
 List.length (cnd L (Syntax.text y) (Syntax.scopes y)) - k ∧ Tc_sResLb L y (li ((↑k : Int) + 1)) = Lc_sResLb L y (k + 1) ∧ Ic_sResLb L y (List.length (cnd L (Syntax.text y)
 (Syntax.scopes y)) - (k + 1)) (Lc_sResLb L y (k + 1)))) ∧ (decide ((↑k : Int) < (↑(List.length (List.map bindingC (cnd L (Syntax.text y) (Syntax.scopes y)))) : Int)) = false → amb
 (cnd L (Syntax.text y) (Syntax.scopes y)) = true ∧ W0c_sResLb L y = W0c_sResLb L y)) := by kernel_rfl
theorem Hc_sResLa {L : List Binding} {y : Syntax} {k : Nat} {m : Nat} (h : (fun k => k ≤ List.length (cnd L (Syntax.text y) (Syntax.scopes y)) ∧ List.length (cnd L (Syntax.text y)
 (Syntax.scopes y)) ≤ 9223372036854775807 ∧ 0 < List.length (cnd L (Syntax.text y) (Syntax.scopes y))) k) (hm : (fun k => List.length (cnd L (Syntax.text y) (Syntax.scopes y)) - k)
 k = m) : Ic_sResLa L y m (Lc_sResLa L y k) := hm ▸ Head.mk h
theorem Ec_sResLa {L : List Binding} {y : Syntax} {k : Nat} {x0 : SV} {x1 : Ob} (h0 : x0 = (li (↑k : Int))) (h1 : x1 = (Ob.box (vals (bindingF (List.foldl bstG (List.getD (cnd L
 (Syntax.text y) (Syntax.scopes y)) 0 default) (List.take k (cnd L (Syntax.text y) (Syntax.scopes y)))))))) : Tc_sResLa L y x0 x1 = Lc_sResLa L y k := by
  rw [h0, h1]
  rfl
theorem EW0c_sResLa {L : List Binding} {y : Syntax} {x0 y0 : Ob} (h0 : x0 = y0) : W0c_sResLa L y x0 = W0c_sResLa L y y0 := by rw [h0]
theorem run_c_sResLa (L : List Binding) (y : Syntax) (k : Nat) : aexec Tryz.prog (loopAt Tryz.f225 0) (Lc_sResLa L y k) [Orc.br [Orc.cells (bindingF (List.getD (cnd L (Syntax.text
 y) (Syntax.scopes y)) k default)), Orc.br [Orc.ghost (Ghost.sel [0, 1] [4, 6, 7, 22, 23, 24]), Orc.goto (List.length (cnd L (Syntax.text y) (Syntax.scopes y)) - (k + 1))
 (Lc_sResLa L y (k + 1))] [Orc.ghost (Ghost.sel [0, 1] [4, 6, 7, 22, 23, 24]), Orc.goto (List.length (cnd L (Syntax.text y) (Syntax.scopes y)) - (k + 1)) (Lc_sResLa L y (k + 1))]]
 [Orc.ghost (Ghost.sel [0, 1] [4, 6, 7]), Orc.out 0]] (loopK (Ic_sResLa L y) (Yc_sResLa L y) (List.length (cnd L (Syntax.text y) (Syntax.scopes y)) - k)) = ((decide ((↑k : Int) <
 (↑(List.length (List.map bindingC (cnd L (Syntax.text y) (Syntax.scopes y)))) : Int)) = true → (0 ≤ (↑k : Int) ∧ (List.map bindingC (cnd L (Syntax.text y) (Syntax.scopes
 y)))[Int.toNat (↑k : Int)]? = some (bindingF (List.getD (cnd L (Syntax.text y) (Syntax.scopes y)) k default))) ∧ (List.length (List.map intC (Binding.scopes (List.getD (cnd L
 (Syntax.text y) (Syntax.scopes y)) k default))) ≤ 9223372036854775807 → List.length (List.map intC (Binding.scopes (List.foldl bstG (List.getD (cnd L (Syntax.text y)
 (Syntax.scopes y)) 0 default) (List.take k (cnd L (Syntax.text y) (Syntax.scopes y)))))) ≤ 9223372036854775807 → (decide ((↑(List.length (List.map intC (Binding.scopes (List.foldl
 bstG (List.getD (cnd L (Syntax.text y) (Syntax.scopes y)) 0 default) (List.take k (cnd L (Syntax.text y) (Syntax.scopes y))))))) : Int) < (↑(List.length (List.map intC
 (Binding.scopes (List.getD (cnd L (Syntax.text y) (Syntax.scopes y)) k default)))) : Int)) = true → rng IntKind.i64 ((↑k : Int) + 1) ∧ List.length (cnd L (Syntax.text y)
 (Syntax.scopes y)) - (k + 1) < List.length (cnd L (Syntax.text y) (Syntax.scopes y)) - k ∧ Tc_sResLa L y (li ((↑k : Int) + 1)) (Ob.box (vals (bindingF (List.getD (cnd L
 (Syntax.text y) (Syntax.scopes y)) k default)))) = Lc_sResLa L y (k + 1) ∧ Ic_sResLa L y (List.length (cnd L (Syntax.text y) (Syntax.scopes y)) - (k + 1)) (Lc_sResLa L y (k + 1)))
 ∧ (decide ((↑(List.length (List.map intC (Binding.scopes (List.foldl bstG (List.getD (cnd L (Syntax.text y) (Syntax.scopes y)) 0 default) (List.take k (cnd L (Syntax.text y)
 (Syntax.scopes y))))))) : Int) < (↑(List.length (List.map intC (Binding.scopes (List.getD (cnd L (Syntax.text y) (Syntax.scopes y)) k default)))) : Int)) = false → rng IntKind.i64
 ((↑k : Int) + 1) ∧ List.length (cnd L (Syntax.text y) (Syntax.scopes y)) - (k + 1) < List.length (cnd L (Syntax.text y) (Syntax.scopes y)) - k ∧ Tc_sResLa L y (li ((↑k : Int) +
 1)) (Ob.box (vals (bindingF (List.foldl bstG (List.getD (cnd L (Syntax.text y) (Syntax.scopes y)) 0 default) (List.take k (cnd L (Syntax.text y) (Syntax.scopes y))))))) =
 Lc_sResLa L y (k + 1) ∧ Ic_sResLa L y (List.length (cnd L (Syntax.text y) (Syntax.scopes y)) - (k + 1)) (Lc_sResLa L y (k + 1))))) ∧ (decide ((↑k : Int) < (↑(List.length (List.map
 bindingC (cnd L (Syntax.text y) (Syntax.scopes y)))) : Int)) = false → True ∧ W0c_sResLa L y (Ob.box (vals (bindingF (List.foldl bstG (List.getD (cnd L (Syntax.text y)
 (Syntax.scopes y)) 0 default) (List.take k (cnd L (Syntax.text y) (Syntax.scopes y))))))) = W0c_sResLa L y (Ob.box (vals (bindingF (bstC (cnd L (Syntax.text y) (Syntax.scopes
 y)))))))) := by kernel_rfl
theorem Sc_sResLb (L : List Binding) (y : Syntax) (h : List.length L ≤ 1048577 ∧ sumBy wB L ≤ 1048577)  : LoopSem Tryz.prog (loopAt Tryz.f225 1) (Ic_sResLb L y) (Yc_sResLb L y) :=
 by
  refine LoopSem.ofHead wide fun k h => ⟨_, _, run_c_sResLb L y k, ?_⟩
  have g1 := @amb_stop (cnd L y.text y.scopes) k
  have g2 := @ambN_step (cnd L y.text y.scopes) k
  have g3 := @ambN_end (cnd L y.text y.scopes) k
  with_reducible repeat' (first | apply And.intro | exact flatI | exact flatS | exact rowLens | (intro; skip) | apply obsN | apply obsC | apply obA | apply obM | apply obB | apply svA | apply tupA | apply lcA | apply lcS | apply svC | apply liC | apply lbC | apply lsC | apply vIc | apply vBc | apply vSc | apply vLc | apply mapC | apply Hc_sResLa | apply Ec_sResLa | apply Hc_sResLb | apply Ec_sResLb | apply EW1c_sResLb | apply EW0c_sResLa | apply c_sCand | apply c_sSub | apply c_sCopyB)
  all_goals (try simp only [std] at *)
  all_goals (try (first | with_reducible apply c_sCand | with_reducible apply c_sSub | with_reducible apply c_sCopyB | (simp only [← List.map_append]; first | with_reducible apply c_sCand | with_reducible apply c_sSub | with_reducible apply c_sCopyB)))
  all_goals (try (first | with_reducible rfl | omega | assumption | (refine (decide_eq_true ?_).symm; assumption) | (refine (decide_eq_false ?_).symm; assumption) | (refine rowGet ?_; (first | omega | (simp only [std]; omega) | grind)) | (refine getC ?_ rfl; (first | omega | (simp only [std]; omega) | grind)) | (show (_ : St) = _; rfl) | grind [snocI, snocS, rowSnoc]))
theorem Sc_sResLa (L : List Binding) (y : Syntax) (h : List.length L ≤ 1048577 ∧ sumBy wB L ≤ 1048577)  : LoopSem Tryz.prog (loopAt Tryz.f225 0) (Ic_sResLa L y) (Yc_sResLa L y) :=
 by
  refine LoopSem.ofHead wide fun k h => ⟨_, _, run_c_sResLa L y k, ?_⟩
  have g1 := @foldl_step _ _ _ bstG ((cnd L y.text y.scopes).getD 0 default) (cnd L y.text y.scopes) k
  have g2 : ∀ a b, bstG a b = if a.scopes.length < b.scopes.length then b else a := fun _ _ => rfl
  have g3 : (cnd L y.text y.scopes).length ≤ k → (cnd L y.text y.scopes).take k = cnd L y.text y.scopes := fun h => List.take_of_length_le h
  have g4 : bstC (cnd L y.text y.scopes) = (cnd L y.text y.scopes).foldl bstG ((cnd L y.text y.scopes).getD 0 default) := rfl
  with_reducible repeat' (first | apply And.intro | exact flatI | exact flatS | exact rowLens | (intro; skip) | apply obsN | apply obsC | apply obA | apply obM | apply obB | apply svA | apply tupA | apply lcA | apply lcS | apply svC | apply liC | apply lbC | apply lsC | apply vIc | apply vBc | apply vSc | apply vLc | apply mapC | apply Hc_sResLa | apply Ec_sResLa | apply Hc_sResLb | apply Ec_sResLb | apply Sc_sResLb | apply EW1c_sResLb | apply EW0c_sResLa | apply c_sCand | apply c_sSub | apply c_sCopyB)
  all_goals (try simp only [std] at *)
  all_goals (try (first | with_reducible apply c_sCand | with_reducible apply c_sSub | with_reducible apply c_sCopyB | (simp only [← List.map_append]; first | with_reducible apply c_sCand | with_reducible apply c_sSub | with_reducible apply c_sCopyB)))
  all_goals (try (first | with_reducible rfl | omega | assumption | (refine (decide_eq_true ?_).symm; assumption) | (refine (decide_eq_false ?_).symm; assumption) | (refine rowGet ?_; (first | omega | (simp only [std]; omega) | grind)) | (refine getC ?_ rfl; (first | omega | (simp only [std]; omega) | grind)) | (show (_ : St) = _; rfl) | grind [snocI, snocS, rowSnoc]))
abbrev a1_c_sRes (L : List Binding) (y : Syntax) := (cnd L (Syntax.text y) (Syntax.scopes y))
theorem run_c_sRes (L : List Binding) (y : Syntax) : aexec Tryz.prog (Option.getD (Func.body Tryz.f225) Code.skip) (entry [] [ll (List.map bindingC L), syntaxA y] 56) [Orc.call
 [Mode.rd, Mode.rd] [] (AV.sv (ll (List.map bindingC (a1_c_sRes L y)))), Orc.br [Orc.ghost (Ghost.nilbox 1 1 true 1), Orc.ghost (Ghost.lock 2), Orc.fin []] [Orc.cells (bindingF
 (List.getD (a1_c_sRes L y) 0 default)), Orc.ghost (Ghost.sel [1, 2] [4, 6, 7, 22, 23, 24]), Orc.loop (List.length (a1_c_sRes L y) - 0) (Lc_sResLa L y 0) (Ic_sResLa L y) [(True,
 AEx.exit 0, W0c_sResLa L y (Ob.box (vals (bindingF (bstC (a1_c_sRes L y))))), [Orc.ghost (Ghost.sel [0, 1] [4, 7, 37, 38, 39]), Orc.loop (List.length (a1_c_sRes L y) - 0)
 (Lc_sResLb L y 0) (Ic_sResLb L y) [(amb (a1_c_sRes L y) = true, AEx.exit 2, W0c_sResLb L y, [Orc.call [Mode.rd] [Ob.arr true 4 (List.map bindingC [bstC (a1_c_sRes L y)])] (AV.sv
 (SV.one (AC.ref 0))), Orc.cells (bindingF (bstC (a1_c_sRes L y))), Orc.ghost (Ghost.lock 3), Orc.fin []]), (amb (a1_c_sRes L y) = false, AEx.ret, W1c_sResLb L y (Ob.box [vS (mkS
 []), AC.val (Cell.lit (Value.slice none 0 0)), vI 0, vI 0]) (li 2), [Orc.ghost (Ghost.nilbox 0 1 true 1), Orc.ghost (Ghost.lock 1), Orc.fin []])]])]]] (finK Tryz.prog
 [ResultVar.cell 4 134, ResultVar.tmp 5] [] (AV.tup [bindingA (rsB L (Syntax.text y) (Syntax.scopes y)), li (rsC L (Syntax.text y) (Syntax.scopes y))])) = (P_c_sCand L y ∧
 (List.length (List.map bindingC (a1_c_sRes L y)) ≤ 9223372036854775807 → (decide ((↑(List.length (List.map bindingC (a1_c_sRes L y))) : Int) = 0) = true → ObsEq [] [] ∧ AV.tup
 [SV.agg [vS (ByteArray.mk #[]), vL [], vI 0, vI 0], li 0] = AV.tup [SV.agg (vals (bindingF (rsB L (Syntax.text y) (Syntax.scopes y)))), li (rsC L (Syntax.text y) (Syntax.scopes
 y))]) ∧ (decide ((↑(List.length (List.map bindingC (a1_c_sRes L y))) : Int) = 0) = false → ((0 : Int) ≤ 0 ∧ (List.map bindingC (a1_c_sRes L y))[0]? = some (bindingF (List.getD
 (a1_c_sRes L y) 0 default))) ∧ (List.length (List.map bindingC (a1_c_sRes L y)) ≤ 9223372036854775807 → Tc_sResLa L y (li 0) (Ob.box (vals (bindingF (List.getD (a1_c_sRes L y) 0
 default)))) = Lc_sResLa L y 0 ∧ Ic_sResLa L y (List.length (a1_c_sRes L y) - 0) (Lc_sResLa L y 0) ∧ LoopSem Tryz.prog (loopAt Tryz.f225 0) (Ic_sResLa L y) (Yc_sResLa L y) ∧ (True
 → List.length (List.map bindingC (a1_c_sRes L y)) ≤ 9223372036854775807 → Tc_sResLb L y (li 0) = Lc_sResLb L y 0 ∧ Ic_sResLb L y (List.length (a1_c_sRes L y) - 0) (Lc_sResLb L y
 0) ∧ LoopSem Tryz.prog (loopAt Tryz.f225 1) (Ic_sResLb L y) (Yc_sResLb L y) ∧ (amb (a1_c_sRes L y) = true → P_c_sCopyB [bstC (a1_c_sRes L y)] ∧ ((0 : Int) ≤ 0 ∧ 0 < 1) ∧ some
 (bindingF (bstC (a1_c_sRes L y))) = some (bindingF (bstC (a1_c_sRes L y))) ∧ ObsEq [] [] ∧ AV.tup [SV.agg (vals (bindingF (bstC (a1_c_sRes L y)))), li 1] = AV.tup [SV.agg (vals
 (bindingF (rsB L (Syntax.text y) (Syntax.scopes y)))), li (rsC L (Syntax.text y) (Syntax.scopes y))]) ∧ (amb (a1_c_sRes L y) = false → ObsEq [] [] ∧ AV.tup [SV.agg [vS (mkS []),
 vL [], vI 0, vI 0], li 2] = AV.tup [SV.agg (vals (bindingF (rsB L (Syntax.text y) (Syntax.scopes y)))), li (rsC L (Syntax.text y) (Syntax.scopes y))]) ∧ True) ∧ True)))) := by
 kernel_rfl
theorem c_sRes (L : List Binding) (y : Syntax) (h : L.length ≤ 1048577 ∧ sumBy wB L ≤ 1048577)  : P_c_sRes L y := by
  refine CallOK.ofRun wide (run_c_sRes L y) Tryz.call225 Tryz.func225 rfl rfl rfl ?_
  try delta a1_c_sRes
  have g1 : 0 < (cnd L y.text y.scopes).length → cnd L y.text y.scopes ≠ [] := fun h => List.length_pos_iff.1 h
  have g2 : (cnd L y.text y.scopes).length = 0 → cnd L y.text y.scopes = [] := fun h => List.length_eq_zero_iff.1 h
  have g3 := @bstC_w L y.text y.scopes
  have g4 : rsC L y.text y.scopes = if cnd L y.text y.scopes = [] then 0 else if amb (cnd L y.text y.scopes) = true then 1 else 2 := rfl
  have g5 : rsC L y.text y.scopes = 1 → rsB L y.text y.scopes = bstC (cnd L y.text y.scopes) := fun h => if_pos h
  have g6 : ¬ rsC L y.text y.scopes = 1 → rsB L y.text y.scopes = ⟨mkS [], [], 0, 0⟩ := fun h => if_neg h
  have g7 : ambN (cnd L y.text y.scopes) 0 = true := rfl
  have g8 : ∀ b : Binding, [b].getD 0 default = b := fun b => rfl
  have g9 : sumBy wB [bstC (cnd L y.text y.scopes)] = wB (bstC (cnd L y.text y.scopes)) := rfl
  have p1 : ¬ rsC L y.text y.scopes = 1 → SV.agg [vS (mkS []), vL [], vI 0, vI 0] = SV.agg (vals (bindingF (rsB L y.text y.scopes))) := fun h => by rw [g6 h]; rfl
  have p2 : rsC L y.text y.scopes = 1 → SV.agg [vS (bstC (cnd L y.text y.scopes)).text, vL ((bstC (cnd L y.text y.scopes)).scopes.map intC), vI (bstC (cnd L y.text y.scopes)).kind, vI (bstC (cnd L y.text y.scopes)).number] = SV.agg (vals (bindingF (rsB L y.text y.scopes))) := fun h => by rw [g5 h]; rfl
  with_reducible repeat' (first | apply And.intro | exact flatI | exact flatS | exact rowLens | (intro; skip) | apply obsN | apply obsC | apply obA | apply obM | apply obB | apply svA | apply tupA | apply lcA | apply lcS | apply svC | apply liC | apply lbC | apply lsC | apply vIc | apply vBc | apply vSc | apply vLc | apply mapC | apply Hc_sResLa | apply Ec_sResLa | apply Sc_sResLa | apply Hc_sResLb | apply Ec_sResLb | apply Sc_sResLb | apply EW1c_sResLb | apply EW0c_sResLa | apply c_sCand | apply c_sSub | apply c_sCopyB)
  all_goals (try simp only [std] at *)
  all_goals (try (first | with_reducible apply c_sCand | with_reducible apply c_sSub | with_reducible apply c_sCopyB | (simp only [← List.map_append]; first | with_reducible apply c_sCand | with_reducible apply c_sSub | with_reducible apply c_sCopyB)))
  all_goals (try (first | with_reducible rfl | omega | assumption | (refine (decide_eq_true ?_).symm; assumption) | (refine (decide_eq_false ?_).symm; assumption) | (refine rowGet ?_; (first | omega | (simp only [std]; omega) | grind)) | (refine getC ?_ rfl; (first | omega | (simp only [std]; omega) | grind)) | (show (_ : St) = _; rfl) | grind [snocI, snocS, rowSnoc]))
def bsI (L : List Binding) (t : ByteArray) (s : List Int) : Nat → Int
  | 0 => -1
  | k + 1 => if cndP t s (L.getD k default) = true ∧ (bsI L t s k < 0 ∨ (L.getD (bsI L t s k).toNat default).scopes.length < (L.getD k default).scopes.length) then (k : Int) else bsI L t s k
theorem bsI_of (L : List Binding) (t : ByteArray) (s : List Int) : ∀ k, k ≤ L.length → -1 ≤ bsI L t s k ∧ bsI L t s k < k ∧ (bsI L t s k < 0 ↔ cnd (L.take k) t s = []) ∧ (0 ≤ bsI L t s k → L.getD (bsI L t s k).toNat default = bstC (cnd (L.take k) t s))
  | 0, _ => by simp [bsI, cnd]
  | k + 1, hk => by
    obtain ⟨h1, h2, h3, h4⟩ := bsI_of L t s k (by omega)
    have e := @cnd_step L t s k (by omega)
    simp only [bsI]
    by_cases c : cndP t s (L.getD k default) = true
    · rw [if_pos c] at e
      by_cases c2 : bsI L t s k < 0
      · rw [if_pos ⟨c, .inl c2⟩, e, h3.1 c2]
        refine ⟨by omega, by omega, ⟨fun h => by omega, fun h => by simp at h⟩, fun _ => ?_⟩
        rw [Int.toNat_natCast, List.nil_append, bstC_one]
      · have hne : cnd (L.take k) t s ≠ [] := fun h => c2 (h3.2 h)
        have hb := h4 (by omega)
        by_cases c3 : (L.getD (bsI L t s k).toNat default).scopes.length < (L.getD k default).scopes.length
        · rw [if_pos ⟨c, .inr c3⟩, e]
          refine ⟨by omega, by omega, ⟨fun h => by omega, fun h => by simp at h⟩, fun _ => ?_⟩
          rw [Int.toNat_natCast, bstC_snoc _ hne, bstG, if_pos (by rw [← hb]; exact c3)]
        · rw [if_neg (by rintro ⟨_, h | h⟩ <;> contradiction), e]
          refine ⟨h1, by omega, ⟨fun h => absurd h c2, fun h => by simp at h⟩, fun _ => ?_⟩
          rw [bstC_snoc _ hne, bstG, if_neg (by rw [← hb]; exact c3)]; exact hb
    · rw [if_neg (fun h => c h.1), e, if_neg c]
      exact ⟨h1, by omega, h3, h4⟩
def ambL (L : List Binding) (t : ByteArray) (s : List Int) (k : Nat) : Bool := (L.take k).all fun b => !cndP t s b || subI b.scopes (bstC (cnd L t s)).scopes
theorem ambL_step {L : List Binding} {t : ByteArray} {s : List Int} {k : Nat} (hk : k < L.length) (h0 : ambL L t s k = true) (h : cndP t s (L.getD k default) = false ∨ subI (L.getD k default).scopes (bstC (cnd L t s)).scopes = true) : ambL L t s (k + 1) = true := by
  unfold ambL at *; rw [take_get hk, List.all_append, h0]; simpa using h
theorem ambL_end {L : List Binding} {t : ByteArray} {s : List Int} {k : Nat} (hk : L.length ≤ k) (h0 : ambL L t s k = true) : amb (cnd L t s) = true := by
  unfold ambL at h0; rw [List.take_of_length_le hk, List.all_eq_true] at h0
  unfold amb; rw [List.all_eq_true]
  intro x hx
  have h1 := List.mem_filter.1 hx
  have := h0 x h1.1
  rw [h1.2] at this; simpa using this
theorem ambL_stop {L : List Binding} {t : ByteArray} {s : List Int} {k : Nat} (hk : k < L.length) (h1 : cndP t s (L.getD k default) = true) (h : subI (L.getD k default).scopes (bstC (cnd L t s)).scopes = false) : amb (cnd L t s) = false := by
  unfold amb; rw [List.all_eq_false]; exact ⟨_, List.mem_filter.2 ⟨getD_mem' hk, h1⟩, by rw [h]; decide⟩
abbrev P_c_iRes (L : List Binding) (y : Syntax) : Prop := CallOK Tryz.prog 229 [] [ll (L.map bindingC), syntaxA y] (bindingO (rsB L y.text y.scopes)) (.tup [bindingR (rsB L y.text y.scopes) 0, li (rsC L y.text y.scopes)])
def Tc_iResLb (L : List Binding) (y : Syntax) (x0 : SV) : St := St.mk (regsOf 87 [(0, AV.sv (ll (List.map bindingC L))), (3, AV.sv (SV.one (AC.ptr 0 0))), (4, AV.sv (SV.one (AC.ptr
 1 0))), (6, AV.sv (li (bsI L (Syntax.text y) (Syntax.scopes y) (List.length L)))), (51, AV.sv (ll (List.map bindingC L))), (52, AV.sv (li (↑(List.length (List.map bindingC L)) :
 Int))), (53, AV.sv x0)]) [Ob.box (vals (syntaxF y)), Ob.box [vS (ByteArray.mk #[]), AC.val (Cell.lit (Value.slice none 0 0)), vI 0, vI 0]] 0 
def Lc_iResLb (L : List Binding) (y : Syntax) (k : Nat) : St := Tc_iResLb L y (li (↑k : Int)) 
def Ic_iResLb (L : List Binding) (y : Syntax) : Nat → St → Prop := Head (Lc_iResLb L y) (fun k => k ≤ List.length L ∧ List.length L ≤ 9223372036854775807 ∧ 0 ≤ bsI L (Syntax.text
 y) (Syntax.scopes y) (List.length L) ∧ ambL L (Syntax.text y) (Syntax.scopes y) k = true) fun k => List.length L - k 
def W0c_iResLb (L : List Binding) (y : Syntax) : St := St.mk (regsOf 87 [(0, AV.sv (ll (List.map bindingC L))), (4, AV.sv (SV.one (AC.ptr 0 0))), (6, AV.sv (li (bsI L (Syntax.text
 y) (Syntax.scopes y) (List.length L))))]) [Ob.box [vS (ByteArray.mk #[]), AC.val (Cell.lit (Value.slice none 0 0)), vI 0, vI 0]] 0 
def W1c_iResLb (L : List Binding) (y : Syntax) (x0 : Ob) (x1 : SV) : St := St.mk (regsOf 87 [(4, AV.sv (SV.one (AC.ptr 0 0))), (5, AV.sv x1)]) [x0] 0 
def Yc_iResLb (L : List Binding) (y : Syntax) : List (Prop × AEx × St) := [(amb (cnd L (Syntax.text y) (Syntax.scopes y)) = true, AEx.exit 2, W0c_iResLb L y), (amb (cnd L
 (Syntax.text y) (Syntax.scopes y)) = false, AEx.ret, W1c_iResLb L y (Ob.box [vS (mkS []), AC.val (Cell.lit (Value.slice none 0 0)), vI 0, vI 0]) (li 2))]
def Tc_iResLa (L : List Binding) (y : Syntax) (x0 : SV) (x1 : SV) : St := St.mk (regsOf 87 [(0, AV.sv (ll (List.map bindingC L))), (3, AV.sv (SV.one (AC.ptr 0 0))), (4, AV.sv
 (SV.one (AC.ptr 1 0))), (6, AV.sv x1), (11, AV.sv (ll (List.map bindingC L))), (12, AV.sv (li (↑(List.length (List.map bindingC L)) : Int))), (13, AV.sv x0)]) [Ob.box (vals
 (syntaxF y)), Ob.box [vS (ByteArray.mk #[]), AC.val (Cell.lit (Value.slice none 0 0)), vI 0, vI 0]] 0 
def Lc_iResLa (L : List Binding) (y : Syntax) (k : Nat) : St := Tc_iResLa L y (li (↑k : Int)) (li (bsI L (Syntax.text y) (Syntax.scopes y) k)) 
def Ic_iResLa (L : List Binding) (y : Syntax) : Nat → St → Prop := Head (Lc_iResLa L y) (fun k => k ≤ List.length L ∧ List.length L ≤ 9223372036854775807) fun k => List.length L -
 k 
def W0c_iResLa (L : List Binding) (y : Syntax) (x0 : SV) : St := St.mk (regsOf 87 [(0, AV.sv (ll (List.map bindingC L))), (3, AV.sv (SV.one (AC.ptr 0 0))), (4, AV.sv (SV.one
 (AC.ptr 1 0))), (6, AV.sv x0)]) [Ob.box (vals (syntaxF y)), Ob.box [vS (ByteArray.mk #[]), AC.val (Cell.lit (Value.slice none 0 0)), vI 0, vI 0]] 0 
def Yc_iResLa (L : List Binding) (y : Syntax) : List (Prop × AEx × St) := [(True, AEx.exit 0, W0c_iResLa L y (li (bsI L (Syntax.text y) (Syntax.scopes y) (List.length L))))]
theorem Hc_iResLb {L : List Binding} {y : Syntax} {k : Nat} {m : Nat} (h : (fun k => k ≤ List.length L ∧ List.length L ≤ 9223372036854775807 ∧ 0 ≤ bsI L (Syntax.text y)
 (Syntax.scopes y) (List.length L) ∧ ambL L (Syntax.text y) (Syntax.scopes y) k = true) k) (hm : (fun k => List.length L - k) k = m) : Ic_iResLb L y m (Lc_iResLb L y k) := hm ▸
 Head.mk h
theorem Ec_iResLb {L : List Binding} {y : Syntax} {k : Nat} {x0 : SV} (h0 : x0 = (li (↑k : Int))) : Tc_iResLb L y x0 = Lc_iResLb L y k := by
  rw [h0]
  rfl
theorem EW1c_iResLb {L : List Binding} {y : Syntax} {x0 y0 : Ob} {x1 y1 : SV} (h0 : x0 = y0) (h1 : x1 = y1) : W1c_iResLb L y x0 x1 = W1c_iResLb L y y0 y1 := by rw [h0, h1]
abbrev a1__iResLb (L : List Binding) (y : Syntax) := (List.getD L (Int.toNat (bsI L (Syntax.text y) (Syntax.scopes y) (List.length L))) default)
theorem run_c_iResLb (L : List Binding) (y : Syntax) (k : Nat) : aexec Tryz.prog (loopAt Tryz.f229 1) (Lc_iResLb L y k) [Orc.br [Orc.cells (bindingF (List.getD L k default)),
 Orc.draw [], Orc.br [Orc.call [Mode.rd, Mode.rd] [] (AV.sv (lb (subI (Binding.scopes (List.getD L k default)) (Syntax.scopes y)))), Orc.br [Orc.cells (bindingF (a1__iResLb L y)),
 Orc.call [Mode.rd, Mode.rd] [] (AV.sv (lb (subI (Binding.scopes (List.getD L k default)) (Binding.scopes (a1__iResLb L y))))), Orc.br [Orc.ghost (Ghost.sel [1] [4, 5]), Orc.out 1]
 [Orc.ghost (Ghost.sel [0, 1] [0, 3, 4, 6, 51, 52, 53]), Orc.goto (List.length L - (k + 1)) (Lc_iResLb L y (k + 1))]] [Orc.bool false, Orc.ghost (Ghost.sel [0, 1] [0, 3, 4, 6, 51,
 52, 53]), Orc.goto (List.length L - (k + 1)) (Lc_iResLb L y (k + 1))]] [Orc.bool false, Orc.bool false, Orc.ghost (Ghost.sel [0, 1] [0, 3, 4, 6, 51, 52, 53]), Orc.goto
 (List.length L - (k + 1)) (Lc_iResLb L y (k + 1))]] [Orc.ghost (Ghost.sel [1] [0, 4, 6]), Orc.out 0]] (loopK (Ic_iResLb L y) (Yc_iResLb L y) (List.length L - k)) = ((decide ((↑k :
 Int) < (↑(List.length (List.map bindingC L)) : Int)) = true → (0 ≤ (↑k : Int) ∧ (List.map bindingC L)[Int.toNat (↑k : Int)]? = some (bindingF (List.getD L k default))) ∧ (decide
 (Array.toList (ByteArray.data (Binding.text (List.getD L k default))) = Array.toList (ByteArray.data (Syntax.text y))) = true → P_c_iSub (Binding.scopes (List.getD L k default))
 (Syntax.scopes y) ∧ (subI (Binding.scopes (List.getD L k default)) (Syntax.scopes y) = true → (0 ≤ bsI L (Syntax.text y) (Syntax.scopes y) (List.length L) ∧ (List.map bindingC
 L)[Int.toNat (bsI L (Syntax.text y) (Syntax.scopes y) (List.length L))]? = some (bindingF (a1__iResLb L y))) ∧ P_c_iSub (Binding.scopes (List.getD L k default)) (Binding.scopes
 (a1__iResLb L y)) ∧ ((!subI (Binding.scopes (List.getD L k default)) (Binding.scopes (a1__iResLb L y))) = true → amb (cnd L (Syntax.text y) (Syntax.scopes y)) = false ∧ W1c_iResLb
 L y (Ob.box [vS (ByteArray.mk #[]), AC.val (Cell.lit (Value.slice none 0 0)), vI 0, vI 0]) (li 2) = W1c_iResLb L y (Ob.box [vS (mkS []), AC.val (Cell.lit (Value.slice none 0 0)),
 vI 0, vI 0]) (li 2)) ∧ ((!subI (Binding.scopes (List.getD L k default)) (Binding.scopes (a1__iResLb L y))) = false → rng IntKind.i64 ((↑k : Int) + 1) ∧ List.length L - (k + 1) <
 List.length L - k ∧ Tc_iResLb L y (li ((↑k : Int) + 1)) = Lc_iResLb L y (k + 1) ∧ Ic_iResLb L y (List.length L - (k + 1)) (Lc_iResLb L y (k + 1)))) ∧ (subI (Binding.scopes
 (List.getD L k default)) (Syntax.scopes y) = false → false = false ∧ rng IntKind.i64 ((↑k : Int) + 1) ∧ List.length L - (k + 1) < List.length L - k ∧ Tc_iResLb L y (li ((↑k : Int)
 + 1)) = Lc_iResLb L y (k + 1) ∧ Ic_iResLb L y (List.length L - (k + 1)) (Lc_iResLb L y (k + 1)))) ∧ (decide (Array.toList (ByteArray.data (Binding.text (List.getD L k default))) =
 Array.toList (ByteArray.data (Syntax.text y))) = false → false = false ∧ false = false ∧ rng IntKind.i64 ((↑k : Int) + 1) ∧ List.length L - (k + 1) < List.length L - k ∧ Tc_iResLb
 L y (li ((↑k : Int) + 1)) = Lc_iResLb L y (k + 1) ∧ Ic_iResLb L y (List.length L - (k + 1)) (Lc_iResLb L y (k + 1)))) ∧ (decide ((↑k : Int) < (↑(List.length (List.map bindingC L))
 : Int)) = false → amb (cnd L (Syntax.text y) (Syntax.scopes y)) = true ∧ W0c_iResLb L y = W0c_iResLb L y)) := by kernel_rfl
theorem Hc_iResLa {L : List Binding} {y : Syntax} {k : Nat} {m : Nat} (h : (fun k => k ≤ List.length L ∧ List.length L ≤ 9223372036854775807) k) (hm : (fun k => List.length L - k)
 k = m) : Ic_iResLa L y m (Lc_iResLa L y k) := hm ▸ Head.mk h
theorem Ec_iResLa {L : List Binding} {y : Syntax} {k : Nat} {x0 : SV} {x1 : SV} (h0 : x0 = (li (↑k : Int))) (h1 : x1 = (li (bsI L (Syntax.text y) (Syntax.scopes y) k))) : Tc_iResLa
 L y x0 x1 = Lc_iResLa L y k := by
  rw [h0, h1]
  rfl
theorem EW0c_iResLa {L : List Binding} {y : Syntax} {x0 y0 : SV} (h0 : x0 = y0) : W0c_iResLa L y x0 = W0c_iResLa L y y0 := by rw [h0]
abbrev a1__iResLa  := (Ghost.sel [0, 1] [0, 3, 4, 6, 11, 12, 13])
abbrev a2__iResLa (L : List Binding) (y : Syntax) (k : Nat) := (bsI L (Syntax.text y) (Syntax.scopes y) k)
theorem run_c_iResLa (L : List Binding) (y : Syntax) (k : Nat) : aexec Tryz.prog (loopAt Tryz.f229 0) (Lc_iResLa L y k) [Orc.br [Orc.cells (bindingF (List.getD L k default)),
 Orc.draw [], Orc.br [Orc.call [Mode.rd, Mode.rd] [] (AV.sv (lb (subI (Binding.scopes (List.getD L k default)) (Syntax.scopes y)))), Orc.br [Orc.br [Orc.bool true, Orc.ghost
 a1__iResLa, Orc.goto (List.length L - (k + 1)) (Lc_iResLa L y (k + 1))] [Orc.cells (bindingF (List.getD L (Int.toNat (a2__iResLa L y k)) default)), Orc.br [Orc.ghost a1__iResLa,
 Orc.goto (List.length L - (k + 1)) (Lc_iResLa L y (k + 1))] [Orc.ghost a1__iResLa, Orc.goto (List.length L - (k + 1)) (Lc_iResLa L y (k + 1))]]] [Orc.bool false, Orc.ghost
 a1__iResLa, Orc.goto (List.length L - (k + 1)) (Lc_iResLa L y (k + 1))]] [Orc.bool false, Orc.bool false, Orc.ghost a1__iResLa, Orc.goto (List.length L - (k + 1)) (Lc_iResLa L y
 (k + 1))]] [Orc.ghost (Ghost.sel [0, 1] [0, 3, 4, 6]), Orc.out 0]] (loopK (Ic_iResLa L y) (Yc_iResLa L y) (List.length L - k)) = ((decide ((↑k : Int) < (↑(List.length (List.map
 bindingC L)) : Int)) = true → (0 ≤ (↑k : Int) ∧ (List.map bindingC L)[Int.toNat (↑k : Int)]? = some (bindingF (List.getD L k default))) ∧ (decide (Array.toList (ByteArray.data
 (Binding.text (List.getD L k default))) = Array.toList (ByteArray.data (Syntax.text y))) = true → P_c_iSub (Binding.scopes (List.getD L k default)) (Syntax.scopes y) ∧ (subI
 (Binding.scopes (List.getD L k default)) (Syntax.scopes y) = true → (decide (bsI L (Syntax.text y) (Syntax.scopes y) k < 0) = true → true = true ∧ rng IntKind.i64 ((↑k : Int) + 1)
 ∧ List.length L - (k + 1) < List.length L - k ∧ Tc_iResLa L y (li ((↑k : Int) + 1)) (li (↑k : Int)) = Lc_iResLa L y (k + 1) ∧ Ic_iResLa L y (List.length L - (k + 1)) (Lc_iResLa L
 y (k + 1))) ∧ (decide (bsI L (Syntax.text y) (Syntax.scopes y) k < 0) = false → (0 ≤ bsI L (Syntax.text y) (Syntax.scopes y) k ∧ (List.map bindingC L)[Int.toNat (a2__iResLa L y
 k)]? = some (bindingF (List.getD L (Int.toNat (a2__iResLa L y k)) default))) ∧ (List.length (List.map intC (Binding.scopes (List.getD L k default))) ≤ 9223372036854775807 →
 List.length (List.map intC (Binding.scopes (List.getD L (Int.toNat (a2__iResLa L y k)) default))) ≤ 9223372036854775807 → (decide ((↑(List.length (List.map intC (Binding.scopes
 (List.getD L (Int.toNat (a2__iResLa L y k)) default)))) : Int) < (↑(List.length (List.map intC (Binding.scopes (List.getD L k default)))) : Int)) = true → rng IntKind.i64 ((↑k :
 Int) + 1) ∧ List.length L - (k + 1) < List.length L - k ∧ Tc_iResLa L y (li ((↑k : Int) + 1)) (li (↑k : Int)) = Lc_iResLa L y (k + 1) ∧ Ic_iResLa L y (List.length L - (k + 1))
 (Lc_iResLa L y (k + 1))) ∧ (decide ((↑(List.length (List.map intC (Binding.scopes (List.getD L (Int.toNat (a2__iResLa L y k)) default)))) : Int) < (↑(List.length (List.map intC
 (Binding.scopes (List.getD L k default)))) : Int)) = false → rng IntKind.i64 ((↑k : Int) + 1) ∧ List.length L - (k + 1) < List.length L - k ∧ Tc_iResLa L y (li ((↑k : Int) + 1))
 (li (a2__iResLa L y k)) = Lc_iResLa L y (k + 1) ∧ Ic_iResLa L y (List.length L - (k + 1)) (Lc_iResLa L y (k + 1)))))) ∧ (subI (Binding.scopes (List.getD L k default))
 (Syntax.scopes y) = false → false = false ∧ rng IntKind.i64 ((↑k : Int) + 1) ∧ List.length L - (k + 1) < List.length L - k ∧ Tc_iResLa L y (li ((↑k : Int) + 1)) (li (a2__iResLa L
 y k)) = Lc_iResLa L y (k + 1) ∧ Ic_iResLa L y (List.length L - (k + 1)) (Lc_iResLa L y (k + 1)))) ∧ (decide (Array.toList (ByteArray.data (Binding.text (List.getD L k default))) =
 Array.toList (ByteArray.data (Syntax.text y))) = false → false = false ∧ false = false ∧ rng IntKind.i64 ((↑k : Int) + 1) ∧ List.length L - (k + 1) < List.length L - k ∧ Tc_iResLa
 L y (li ((↑k : Int) + 1)) (li (a2__iResLa L y k)) = Lc_iResLa L y (k + 1) ∧ Ic_iResLa L y (List.length L - (k + 1)) (Lc_iResLa L y (k + 1)))) ∧ (decide ((↑k : Int) <
 (↑(List.length (List.map bindingC L)) : Int)) = false → True ∧ W0c_iResLa L y (li (a2__iResLa L y k)) = W0c_iResLa L y (li (bsI L (Syntax.text y) (Syntax.scopes y) (List.length
 L))))) := by kernel_rfl
theorem Sc_iResLb (L : List Binding) (y : Syntax) (h : List.length L ≤ 1048577 ∧ sumBy wB L ≤ 1048577)  : LoopSem Tryz.prog (loopAt Tryz.f229 1) (Ic_iResLb L y) (Yc_iResLb L y) :=
 by
  refine LoopSem.ofHead wide fun k h => ⟨_, _, run_c_iResLb L y k, ?_⟩
  try delta a1__iResLb
  have g1 := bsI_of L y.text y.scopes L.length
  have g2 : L.take L.length = L := List.take_length
  have g3 := @ambL_step L y.text y.scopes k
  have g4 := @ambL_end L y.text y.scopes k
  have g5 := @ambL_stop L y.text y.scopes k
  with_reducible repeat' (first | apply And.intro | exact flatI | exact flatS | exact rowLens | (intro; skip) | apply obsN | apply obsC | apply obA | apply obM | apply obB | apply svA | apply tupA | apply lcA | apply lcS | apply svC | apply liC | apply lbC | apply lsC | apply vIc | apply vBc | apply vSc | apply vLc | apply mapC | apply Hc_iResLa | apply Ec_iResLa | apply Hc_iResLb | apply Ec_iResLb | apply EW1c_iResLb | apply EW0c_iResLa | apply c_iSub | apply c_iCopyB1)
  all_goals (try simp only [std] at *)
  all_goals (try (first | with_reducible apply c_iSub | with_reducible apply c_iCopyB1 | (simp only [← List.map_append]; first | with_reducible apply c_iSub | with_reducible apply c_iCopyB1)))
  all_goals (try (first | with_reducible rfl | omega | assumption | (refine (decide_eq_true ?_).symm; assumption) | (refine (decide_eq_false ?_).symm; assumption) | (refine rowGet ?_; (first | omega | (simp only [std]; omega) | grind)) | (refine getC ?_ rfl; (first | omega | (simp only [std]; omega) | grind)) | (show (_ : St) = _; rfl) | grind [cndP, bytes_ext, snocI, snocS, rowSnoc]))
theorem Sc_iResLa (L : List Binding) (y : Syntax) (h : List.length L ≤ 1048577 ∧ sumBy wB L ≤ 1048577)  : LoopSem Tryz.prog (loopAt Tryz.f229 0) (Ic_iResLa L y) (Yc_iResLa L y) :=
 by
  refine LoopSem.ofHead wide fun k h => ⟨_, _, run_c_iResLa L y k, ?_⟩
  try delta a1__iResLa a2__iResLa
  have g1 := bsI_of L y.text y.scopes k
  have g2 : bsI L y.text y.scopes (k + 1) = if cndP y.text y.scopes (L.getD k default) = true ∧ (bsI L y.text y.scopes k < 0 ∨ (L.getD (bsI L y.text y.scopes k).toNat default).scopes.length < (L.getD k default).scopes.length) then (k : Int) else bsI L y.text y.scopes k := rfl
  with_reducible repeat' (first | apply And.intro | exact flatI | exact flatS | exact rowLens | (intro; skip) | apply obsN | apply obsC | apply obA | apply obM | apply obB | apply svA | apply tupA | apply lcA | apply lcS | apply svC | apply liC | apply lbC | apply lsC | apply vIc | apply vBc | apply vSc | apply vLc | apply mapC | apply Hc_iResLa | apply Ec_iResLa | apply Hc_iResLb | apply Ec_iResLb | apply Sc_iResLb | apply EW1c_iResLb | apply EW0c_iResLa | apply c_iSub | apply c_iCopyB1)
  all_goals (try simp only [std] at *)
  all_goals (try (first | with_reducible apply c_iSub | with_reducible apply c_iCopyB1 | (simp only [← List.map_append]; first | with_reducible apply c_iSub | with_reducible apply c_iCopyB1)))
  all_goals (try (first | with_reducible rfl | omega | assumption | (refine (decide_eq_true ?_).symm; assumption) | (refine (decide_eq_false ?_).symm; assumption) | (refine rowGet ?_; (first | omega | (simp only [std]; omega) | grind)) | (refine getC ?_ rfl; (first | omega | (simp only [std]; omega) | grind)) | (show (_ : St) = _; rfl) | grind [cndP, bytes_ext, snocI, snocS, rowSnoc]))
abbrev a1_c_iRes (L : List Binding) (y : Syntax) := (List.getD L (Int.toNat (bsI L (Syntax.text y) (Syntax.scopes y) (List.length L))) default)
abbrev a2_c_iRes (L : List Binding) (y : Syntax) := [SV.agg [vS (Binding.text (rsB L (Syntax.text y) (Syntax.scopes y))), AC.ref 0, vI (Binding.kind (rsB L (Syntax.text y)
 (Syntax.scopes y))), vI (Binding.number (rsB L (Syntax.text y) (Syntax.scopes y)))], li (rsC L (Syntax.text y) (Syntax.scopes y))]
theorem run_c_iRes (L : List Binding) (y : Syntax) : aexec Tryz.prog (Option.getD (Func.body Tryz.f229) Code.skip) (entry [] [ll (List.map bindingC L), syntaxA y] 87) [Orc.ghost
 (Ghost.sel [0, 1] [0, 3, 4, 6, 11, 12, 13]), Orc.loop (List.length L - 0) (Lc_iResLa L y 0) (Ic_iResLa L y) [(True, AEx.exit 0, W0c_iResLa L y (li (bsI L (Syntax.text y)
 (Syntax.scopes y) (List.length L))), [Orc.br [Orc.ghost (Ghost.nilbox 1 1 true 1), Orc.fin [2]] [Orc.ghost (Ghost.sel [0, 1] [0, 3, 4, 6, 51, 52, 53]), Orc.loop (List.length L -
 0) (Lc_iResLb L y 0) (Ic_iResLb L y) [(amb (cnd L (Syntax.text y) (Syntax.scopes y)) = true, AEx.exit 2, W0c_iResLb L y, [Orc.cells (bindingF (a1_c_iRes L y)), Orc.call [Mode.rd]
 (bindingO (a1_c_iRes L y)) (AV.sv (bindingR (a1_c_iRes L y) 0)), Orc.fin [1]]), (amb (cnd L (Syntax.text y) (Syntax.scopes y)) = false, AEx.ret, W1c_iResLb L y (Ob.box [vS (mkS
 []), AC.val (Cell.lit (Value.slice none 0 0)), vI 0, vI 0]) (li 2), [Orc.ghost (Ghost.nilbox 0 1 true 1), Orc.fin [1]])]]])]] (finK Tryz.prog [ResultVar.cell 4 134, ResultVar.tmp
 5] (bindingO (rsB L (Syntax.text y) (Syntax.scopes y))) (AV.tup [bindingR (rsB L (Syntax.text y) (Syntax.scopes y)) 0, li (rsC L (Syntax.text y) (Syntax.scopes y))])) =
 (List.length (List.map bindingC L) ≤ 9223372036854775807 → Tc_iResLa L y (li 0) (li (-1 : Int)) = Lc_iResLa L y 0 ∧ Ic_iResLa L y (List.length L - 0) (Lc_iResLa L y 0) ∧ LoopSem
 Tryz.prog (loopAt Tryz.f229 0) (Ic_iResLa L y) (Yc_iResLa L y) ∧ (True → (decide (bsI L (Syntax.text y) (Syntax.scopes y) (List.length L) < 0) = true → ObsEq [Ob.arr true 1 []]
 [Ob.arr true 1 (List.map intC (Binding.scopes (rsB L (Syntax.text y) (Syntax.scopes y))))] ∧ AV.tup [SV.agg [vS (ByteArray.mk #[]), AC.ref 0, vI 0, vI 0], li 0] = AV.tup
 (a2_c_iRes L y)) ∧ (decide (bsI L (Syntax.text y) (Syntax.scopes y) (List.length L) < 0) = false → List.length (List.map bindingC L) ≤ 9223372036854775807 → Tc_iResLb L y (li 0) =
 Lc_iResLb L y 0 ∧ Ic_iResLb L y (List.length L - 0) (Lc_iResLb L y 0) ∧ LoopSem Tryz.prog (loopAt Tryz.f229 1) (Ic_iResLb L y) (Yc_iResLb L y) ∧ (amb (cnd L (Syntax.text y)
 (Syntax.scopes y)) = true → (0 ≤ bsI L (Syntax.text y) (Syntax.scopes y) (List.length L) ∧ (List.map bindingC L)[Int.toNat (bsI L (Syntax.text y) (Syntax.scopes y) (List.length
 L))]? = some (bindingF (a1_c_iRes L y))) ∧ P_c_iCopyB1 (a1_c_iRes L y) ∧ ObsEq [Ob.arr true 1 (List.map intC (Binding.scopes (a1_c_iRes L y)))] [Ob.arr true 1 (List.map intC
 (Binding.scopes (rsB L (Syntax.text y) (Syntax.scopes y))))] ∧ AV.tup [SV.agg [vS (Binding.text (a1_c_iRes L y)), AC.ref 0, vI (Binding.kind (a1_c_iRes L y)), vI (Binding.number
 (a1_c_iRes L y))], li 1] = AV.tup (a2_c_iRes L y)) ∧ (amb (cnd L (Syntax.text y) (Syntax.scopes y)) = false → ObsEq [Ob.arr true 1 []] [Ob.arr true 1 (List.map intC
 (Binding.scopes (rsB L (Syntax.text y) (Syntax.scopes y))))] ∧ AV.tup [SV.agg [vS (mkS []), AC.ref 0, vI 0, vI 0], li 2] = AV.tup (a2_c_iRes L y)) ∧ True)) ∧ True) := by
 kernel_rfl
theorem c_iRes (L : List Binding) (y : Syntax) (h : L.length ≤ 1048577 ∧ sumBy wB L ≤ 1048577)  : P_c_iRes L y := by
  refine CallOK.ofRun wide (run_c_iRes L y) Tryz.call229 Tryz.func229 rfl rfl rfl ?_
  try delta a1_c_iRes a2_c_iRes
  have g1 := bsI_of L y.text y.scopes L.length
  have g2 : L.take L.length = L := List.take_length
  have g3 := @bstC_w L y.text y.scopes
  have g4 : rsC L y.text y.scopes = if cnd L y.text y.scopes = [] then 0 else if amb (cnd L y.text y.scopes) = true then 1 else 2 := rfl
  have g5 : rsC L y.text y.scopes = 1 → rsB L y.text y.scopes = bstC (cnd L y.text y.scopes) := fun h => if_pos h
  have g6 : ¬ rsC L y.text y.scopes = 1 → rsB L y.text y.scopes = ⟨mkS [], [], 0, 0⟩ := fun h => if_neg h
  have g7 : ambL L y.text y.scopes 0 = true := rfl
  have g8 : bsI L y.text y.scopes 0 = -1 := rfl
  with_reducible repeat' (first | apply And.intro | exact flatI | exact flatS | exact rowLens | (intro; skip) | apply obsN | apply obsC | apply obA | apply obM | apply obB | apply svA | apply tupA | apply lcA | apply lcS | apply svC | apply liC | apply lbC | apply lsC | apply vIc | apply vBc | apply vSc | apply vLc | apply mapC | apply Hc_iResLa | apply Ec_iResLa | apply Sc_iResLa | apply Hc_iResLb | apply Ec_iResLb | apply Sc_iResLb | apply EW1c_iResLb | apply EW0c_iResLa | apply c_iSub | apply c_iCopyB1)
  all_goals (try simp only [std] at *)
  all_goals (try (first | with_reducible apply c_iSub | with_reducible apply c_iCopyB1 | (simp only [← List.map_append]; first | with_reducible apply c_iSub | with_reducible apply c_iCopyB1)))
  all_goals (try (first | with_reducible rfl | omega | assumption | (refine (decide_eq_true ?_).symm; assumption) | (refine (decide_eq_false ?_).symm; assumption) | (refine rowGet ?_; (first | omega | (simp only [std]; omega) | grind)) | (refine getC ?_ rfl; (first | omega | (simp only [std]; omega) | grind)) | (show (_ : St) = _; rfl) | grind [snocI, snocS, rowSnoc]))
def frm (L : List Binding) (s : Syntax) : Int := if s.kind = 1 ∧ rsC L s.text s.scopes = 1 ∧ (rsB L s.text s.scopes).kind = 1 then (rsB L s.text s.scopes).number else -1
abbrev P_c_sHead (L : List Binding) (s : Syntax) (n : Int) : Prop := CallOK Tryz.prog 182 [] [ll (L.map bindingC), syntaxA s, li n] [] (.sv (lb (decide (frm L s = n))))
theorem run_c_sHead (L : List Binding) (s : Syntax) (n : Int) : aexec Tryz.prog (Option.getD (Func.body Tryz.f182) Code.skip) (entry [] [ll (List.map bindingC L), syntaxA s, li n]
 31) [Orc.br [Orc.fin []] [Orc.call [Mode.rd, Mode.rd] [] (AV.tup [bindingA (rsB L (Syntax.text s) (Syntax.scopes s)), li (rsC L (Syntax.text s) (Syntax.scopes s))]), Orc.br
 [Orc.br [Orc.fin []] [Orc.fin []]] [Orc.bool false, Orc.fin []]]] (finK Tryz.prog [ResultVar.tmp 6] [] (AV.sv (lb (decide (frm L s = n))))) = ((decide (Syntax.kind s ≠ 1) = true →
 ObsEq [] [] ∧ AV.sv (lb false) = AV.sv (lb (decide (frm L s = n)))) ∧ (decide (Syntax.kind s ≠ 1) = false → P_c_sRes L s ∧ (decide (rsC L (Syntax.text s) (Syntax.scopes s) = 1) =
 true → (decide (Binding.kind (rsB L (Syntax.text s) (Syntax.scopes s)) = 1) = true → ObsEq [] [] ∧ AV.sv (lb (decide (Binding.number (rsB L (Syntax.text s) (Syntax.scopes s)) =
 n))) = AV.sv (lb (decide (frm L s = n)))) ∧ (decide (Binding.kind (rsB L (Syntax.text s) (Syntax.scopes s)) = 1) = false → ObsEq [] [] ∧ AV.sv (lb false) = AV.sv (lb (decide (frm
 L s = n))))) ∧ (decide (rsC L (Syntax.text s) (Syntax.scopes s) = 1) = false → false = false ∧ ObsEq [] [] ∧ AV.sv (lb false) = AV.sv (lb (decide (frm L s = n)))))) := by
 kernel_rfl
theorem c_sHead (L : List Binding) (s : Syntax) (n : Int) (h : L.length ≤ 1048577 ∧ sumBy wB L ≤ 1048577 ∧ 0 ≤ n)  : P_c_sHead L s n := by
  refine CallOK.ofRun wide (run_c_sHead L s n) Tryz.call182 Tryz.func182 rfl rfl rfl ?_
  have g : frm L s = if s.kind = 1 ∧ rsC L s.text s.scopes = 1 ∧ (rsB L s.text s.scopes).kind = 1 then (rsB L s.text s.scopes).number else -1 := rfl
  with_reducible repeat' (first | apply And.intro | exact flatI | exact flatS | exact rowLens | (intro; skip) | apply obsN | apply obsC | apply obA | apply obM | apply obB | apply svA | apply tupA | apply lcA | apply lcS | apply svC | apply liC | apply lbC | apply lsC | apply vIc | apply vBc | apply vSc | apply vLc | apply mapC | apply c_sRes)
  all_goals (try simp only [std] at *)
  all_goals (try (first | with_reducible apply c_sRes | (simp only [← List.map_append]; first | with_reducible apply c_sRes)))
  all_goals (try (first | with_reducible rfl | omega | assumption | (refine (decide_eq_true ?_).symm; assumption) | (refine (decide_eq_false ?_).symm; assumption) | (refine rowGet ?_; (first | omega | (simp only [std]; omega) | grind)) | (refine getC ?_ rfl; (first | omega | (simp only [std]; omega) | grind)) | (show (_ : St) = _; rfl) | grind [snocI, snocS, rowSnoc]))
abbrev P_c_iForm (L : List Binding) (s : Syntax) : Prop := CallOK Tryz.prog 183 [] [ll (L.map bindingC), syntaxA s] [] (.sv (li (frm L s)))
theorem run_c_iForm (L : List Binding) (s : Syntax) : aexec Tryz.prog (Option.getD (Func.body Tryz.f183) Code.skip) (entry [] [ll (List.map bindingC L), syntaxA s] 25) [Orc.br
 [Orc.fin []] [Orc.call [Mode.rd, Mode.rd] (bindingO (rsB L (Syntax.text s) (Syntax.scopes s))) (AV.tup [bindingR (rsB L (Syntax.text s) (Syntax.scopes s)) 0, li (rsC L
 (Syntax.text s) (Syntax.scopes s))]), Orc.br [Orc.bool true, Orc.fin []] [Orc.br [Orc.fin []] [Orc.fin []]]]] (finK Tryz.prog [ResultVar.tmp 4] [] (AV.sv (li (frm L s)))) =
 ((decide (Syntax.kind s ≠ 1) = true → ObsEq [] [] ∧ AV.sv (li (-1 : Int)) = AV.sv (li (frm L s))) ∧ (decide (Syntax.kind s ≠ 1) = false → P_c_iRes L s ∧ (decide (rsC L
 (Syntax.text s) (Syntax.scopes s) ≠ 1) = true → true = true ∧ ObsEq [] [] ∧ AV.sv (li (-1 : Int)) = AV.sv (li (frm L s))) ∧ (decide (rsC L (Syntax.text s) (Syntax.scopes s) ≠ 1) =
 false → (decide (Binding.kind (rsB L (Syntax.text s) (Syntax.scopes s)) ≠ 1) = true → ObsEq [] [] ∧ AV.sv (li (-1 : Int)) = AV.sv (li (frm L s))) ∧ (decide (Binding.kind (rsB L
 (Syntax.text s) (Syntax.scopes s)) ≠ 1) = false → ObsEq [] [] ∧ AV.sv (li (Binding.number (rsB L (Syntax.text s) (Syntax.scopes s)))) = AV.sv (li (frm L s)))))) := by kernel_rfl
theorem c_iForm (L : List Binding) (s : Syntax) (h : L.length ≤ 1048577 ∧ sumBy wB L ≤ 1048577)  : P_c_iForm L s := by
  refine CallOK.ofRun wide (run_c_iForm L s) Tryz.call183 Tryz.func183 rfl rfl rfl ?_
  with_reducible repeat' (first | apply And.intro | exact flatI | exact flatS | exact rowLens | (intro; skip) | apply obsN | apply obsC | apply obA | apply obM | apply obB | apply svA | apply tupA | apply lcA | apply lcS | apply svC | apply liC | apply lbC | apply lsC | apply vIc | apply vBc | apply vSc | apply vLc | apply mapC | apply c_iRes)
  all_goals (try simp only [std] at *)
  all_goals (try (first | with_reducible apply c_iRes | (simp only [← List.map_append]; first | with_reducible apply c_iRes)))
  all_goals (try (first | with_reducible rfl | omega | assumption | (refine (decide_eq_true ?_).symm; assumption) | (refine (decide_eq_false ?_).symm; assumption) | (refine rowGet ?_; (first | omega | (simp only [std]; omega) | grind)) | (refine getC ?_ rfl; (first | omega | (simp only [std]; omega) | grind)) | (show (_ : St) = _; rfl) | grind [frm, snocI, snocS, rowSnoc]))
def clauP (x : Syntax) : Bool := decide (x.kind = 0) && decide ((x.items.length : Int) = 2)
def clauT (s : Syntax) (i k : Nat) : List Syntax := ((s.items.drop 2).take k).map fun x => x.items.getD i default
def clauI (s : Syntax) (i : Nat) : List Syntax := (s.items.drop 2).map fun x => x.items.getD i default
theorem clauT_step (s : Syntax) (i : Nat) {k : Nat} (h : k < (s.items.drop 2).length) : clauT s i (k + 1) = clauT s i k ++ [((s.items.drop 2).getD k default).items.getD i default] := by
  unfold clauT; rw [take_get h]; simp
theorem clauT_end (s : Syntax) (i : Nat) {k : Nat} (h : (s.items.drop 2).length ≤ k) : clauT s i k = clauI s i := by
  unfold clauT clauI; rw [List.take_of_length_le h]
theorem clauT_len (s : Syntax) (i k : Nat) : (clauT s i k).length ≤ k := by
  unfold clauT; rw [List.length_map, List.length_take]; exact Nat.min_le_left _ _
def prsR (s : Syntax) : Rules := ⟨(s.items.getD 1 default).items, clauI s 0, clauI s 1⟩
def prsB0 (L : List Binding) (s : Syntax) : Bool := decide (s.kind = 0) && decide (2 ≤ (s.items.length : Int)) && decide (frm L (s.items.getD 0 default) = 10) && decide ((s.items.getD 1 default).kind = 0) && (s.items.drop 2).all clauP && isRul (prsR s)
def prsO0 (L : List Binding) (s : Syntax) : Rules := if prsB0 L s = true then prsR s else ⟨[], [], []⟩
theorem clau_w : ∀ L : List Syntax, L.all clauP = true → 2 * L.length + sumBy wY (L.map fun x => x.items.getD 0 default) + sumBy wY (L.map fun x => x.items.getD 1 default) ≤ sumBy wY L
  | [], _ => Nat.le_refl _
  | x :: r, h => by
    simp only [List.all_cons, Bool.and_eq_true] at h
    have h1 := clau_w r h.2
    have h2 := wY_eq x
    have h3 := h.1
    simp only [clauP, Bool.and_eq_true, decide_eq_true_eq] at h3
    have e : sumBy wY x.items = wY (x.items.getD 0 default) + wY (x.items.getD 1 default) := by
      have a := @sumBy_drop _ _ wY x.items 0 (by omega)
      have b := @sumBy_drop _ _ wY x.items 1 (by omega)
      have c : sumBy wY (x.items.drop 2) = 0 := by rw [List.drop_eq_nil_of_le (by omega)]; rfl
      rw [List.drop_zero] at a
      simp only [Nat.zero_add, Nat.reduceAdd] at a b
      omega
    simp only [List.map_cons, sumBy, List.length_cons]; omega
theorem prsR_w {s : Syntax} (h2 : 2 ≤ s.items.length) (h : (s.items.drop 2).all clauP = true) : wR (prsR s) ≤ wY s := by
  have a0 := @sumBy_drop _ _ wY s.items 0 (by omega)
  have a1 := @sumBy_drop _ _ wY s.items 1 (by omega)
  rw [List.drop_zero] at a0
  simp only [Nat.zero_add, Nat.reduceAdd] at a0 a1
  have h3 := clau_w _ h
  have h4 := wY_eq s
  have h5 := wY_eq (s.items.getD 1 default)
  have h6 : (s.items.drop 2).length = s.items.length - 2 := List.length_drop
  rw [wR_eq]; simp only [prsR, clauI, List.length_map]; omega
theorem item_w (s : Syntax) (j : Nat) : wY (s.items.getD j default) ≤ wY s := by
  rcases Nat.lt_or_ge j s.items.length with h | h
  · have h1 := sumBy_mem wY (getD_mem' h)
    have h2 := wY_eq s
    omega
  · have e : s.items.getD j default = default := by simp [h]
    rw [e]; exact Nat.zero_le _
theorem all_stopY {L : List Syntax} {p : Syntax → Bool} {k : Nat} (h : k < L.length) (hp : p (L.getD k default) = false) : L.all p = false := by
  rw [List.all_eq_false]; exact ⟨_, getD_mem' h, by rw [hp]; decide⟩
abbrev P_c_iParse0 (L : List Binding) (s : Syntax) : Prop := CallOK Tryz.prog 105 [] [ll (L.map bindingC), syntaxA s] (rulesO (prsO0 L s)) (.tup [rulesR (prsO0 L s) 0, lb (prsB0 L s)])
def Tc_iParse0La (L : List Binding) (s : Syntax) (x0 : SV) (x1 : Ob) (x2 : Ob) : St := St.mk (regsOf 87 [(4, AV.sv (SV.one (AC.ptr 0 0))), (6, AV.sv (SV.one (AC.ptr 1 0))), (45,
 AV.sv (ll (List.take (List.length (List.map syntaxC (Syntax.items s)) - 2) (List.drop 2 (List.map syntaxC (Syntax.items s)))))), (46, AV.sv (li (↑(List.length (List.take
 (List.length (List.map syntaxC (Syntax.items s)) - 2) (List.drop 2 (List.map syntaxC (Syntax.items s))))) : Int))), (47, AV.sv x0)]) [Ob.box [AC.val (Cell.lit (Value.slice none 0
 0)), AC.val (Cell.lit (Value.slice none 0 0)), AC.val (Cell.lit (Value.slice none 0 0))], Ob.box [AC.ref 2, AC.ref 3, AC.ref 4], Ob.arr true 5 (List.map syntaxC (Syntax.items
 (List.getD (Syntax.items s) 1 default))), x1, x2] 0 
def Lc_iParse0La (L : List Binding) (s : Syntax) (k : Nat) : St := Tc_iParse0La L s (li (↑k : Int)) (Ob.arr true 5 (List.map syntaxC (clauT s 0 k))) (Ob.arr true 5 (List.map
 syntaxC (clauT s 1 k))) 
def Ic_iParse0La (L : List Binding) (s : Syntax) : Nat → St → Prop := Head (Lc_iParse0La L s) (fun k => k ≤ List.length (List.drop 2 (Syntax.items s)) ∧ 2 ≤ List.length
 (Syntax.items s) ∧ List.length (Syntax.items s) ≤ 1048576 ∧ List.all (List.take k (List.drop 2 (Syntax.items s))) clauP = true) fun k => List.length (List.drop 2 (Syntax.items s))
 - k 
def W0c_iParse0La (L : List Binding) (s : Syntax) (x0 : Ob) (x1 : Ob) : St := St.mk (regsOf 87 [(4, AV.sv (SV.one (AC.ptr 0 0))), (6, AV.sv (SV.one (AC.ptr 1 0)))]) [Ob.box [AC.val
 (Cell.lit (Value.slice none 0 0)), AC.val (Cell.lit (Value.slice none 0 0)), AC.val (Cell.lit (Value.slice none 0 0))], Ob.box [AC.ref 2, AC.ref 3, AC.ref 4], Ob.arr true 5
 (List.map syntaxC (Syntax.items (List.getD (Syntax.items s) 1 default))), x0, x1] 0 
def W1c_iParse0La (L : List Binding) (s : Syntax) (x0 : Ob) (x1 : SV) : St := St.mk (regsOf 87 [(4, AV.sv (SV.one (AC.ptr 0 0))), (5, AV.sv x1)]) [x0] 0 
def Yc_iParse0La (L : List Binding) (s : Syntax) : List (Prop × AEx × St) := [(List.all (List.drop 2 (Syntax.items s)) clauP = true, AEx.exit 0, W0c_iParse0La L s (Ob.arr true 5
 (List.map syntaxC (clauI s 0))) (Ob.arr true 5 (List.map syntaxC (clauI s 1)))), (List.all (List.drop 2 (Syntax.items s)) clauP = false, AEx.ret, W1c_iParse0La L s (Ob.box [AC.val
 (Cell.lit (Value.slice none 0 0)), AC.val (Cell.lit (Value.slice none 0 0)), AC.val (Cell.lit (Value.slice none 0 0))]) (lb false))]
theorem Hc_iParse0La {L : List Binding} {s : Syntax} {k : Nat} {m : Nat} (h : (fun k => k ≤ List.length (List.drop 2 (Syntax.items s)) ∧ 2 ≤ List.length (Syntax.items s) ∧
 List.length (Syntax.items s) ≤ 1048576 ∧ List.all (List.take k (List.drop 2 (Syntax.items s))) clauP = true) k) (hm : (fun k => List.length (List.drop 2 (Syntax.items s)) - k) k =
 m) : Ic_iParse0La L s m (Lc_iParse0La L s k) := hm ▸ Head.mk h
theorem Ec_iParse0La {L : List Binding} {s : Syntax} {k : Nat} {x0 : SV} {x1 : Ob} {x2 : Ob} (h0 : x0 = (li (↑k : Int))) (h1 : x1 = (Ob.arr true 5 (List.map syntaxC (clauT s 0
 k)))) (h2 : x2 = (Ob.arr true 5 (List.map syntaxC (clauT s 1 k)))) : Tc_iParse0La L s x0 x1 x2 = Lc_iParse0La L s k := by
  rw [h0, h1, h2]
  rfl
theorem EW0c_iParse0La {L : List Binding} {s : Syntax} {x0 y0 : Ob} {x1 y1 : Ob} (h0 : x0 = y0) (h1 : x1 = y1) : W0c_iParse0La L s x0 x1 = W0c_iParse0La L s y0 y1 := by rw [h0, h1]
theorem EW1c_iParse0La {L : List Binding} {s : Syntax} {x0 y0 : Ob} {x1 y1 : SV} (h0 : x0 = y0) (h1 : x1 = y1) : W1c_iParse0La L s x0 x1 = W1c_iParse0La L s y0 y1 := by rw [h0, h1]
abbrev a1__iParse0La (s : Syntax) (k : Nat) := (List.getD (List.take (List.length (List.map syntaxC (Syntax.items s)) - 2) (List.drop 2 (Syntax.items s))) k default)
abbrev a2__iParse0La (s : Syntax) (k : Nat) := (List.getD (Syntax.items (a1__iParse0La s k)) 0 default)
abbrev a3__iParse0La (s : Syntax) (k : Nat) := (List.getD (Syntax.items (a1__iParse0La s k)) 1 default)
abbrev a4__iParse0La (s : Syntax) := (List.take (List.length (List.map syntaxC (Syntax.items s)) - 2) (List.drop 2 (List.map syntaxC (Syntax.items s))))
theorem run_c_iParse0La (L : List Binding) (s : Syntax) (k : Nat) : aexec Tryz.prog (loopAt Tryz.f105 0) (Lc_iParse0La L s k) [Orc.br [Orc.cells (syntaxF (a1__iParse0La s k)),
 Orc.br [Orc.bool true, Orc.ghost (Ghost.sel [0] [4, 5]), Orc.out 1] [Orc.br [Orc.ghost (Ghost.sel [0] [4, 5]), Orc.out 1] [Orc.draw [(7, [6, 7]), (8, [3, 14]), (10, [1])],
 Orc.cells (syntaxF (a2__iParse0La s k)), Orc.call [Mode.rd] (syntaxO (a2__iParse0La s k)) (AV.sv (syntaxR (a2__iParse0La s k) 0)), Orc.draw [(7, [16, 17]), (8, [4, 24]), (10,
 [1])], Orc.cells (syntaxF (a3__iParse0La s k)), Orc.call [Mode.rd] (syntaxO (a3__iParse0La s k)) (AV.sv (syntaxR (a3__iParse0La s k) 0)), Orc.ghost (Ghost.sel [0, 1, 2, 15, 25]
 [4, 6, 45, 46, 47]), Orc.goto (List.length (List.drop 2 (Syntax.items s)) - (k + 1)) (Lc_iParse0La L s (k + 1))]]] [Orc.ghost (Ghost.sel [0, 1, 2, 3, 4] [4, 6]), Orc.out 0]]
 (loopK (Ic_iParse0La L s) (Yc_iParse0La L s) (List.length (List.drop 2 (Syntax.items s)) - k)) = ((decide ((↑k : Int) < (↑(List.length (a4__iParse0La s)) : Int)) = true → (0 ≤ (↑k
 : Int) ∧ (a4__iParse0La s)[Int.toNat (↑k : Int)]? = some (syntaxF (a1__iParse0La s k))) ∧ (decide (Syntax.kind (a1__iParse0La s k) ≠ 0) = true → true = true ∧ List.all (List.drop
 2 (Syntax.items s)) clauP = false ∧ W1c_iParse0La L s (Ob.box [AC.val (Cell.lit (Value.slice none 0 0)), AC.val (Cell.lit (Value.slice none 0 0)), AC.val (Cell.lit (Value.slice
 none 0 0))]) (lb false) = W1c_iParse0La L s (Ob.box [AC.val (Cell.lit (Value.slice none 0 0)), AC.val (Cell.lit (Value.slice none 0 0)), AC.val (Cell.lit (Value.slice none 0 0))])
 (lb false)) ∧ (decide (Syntax.kind (a1__iParse0La s k) ≠ 0) = false → List.length (List.map syntaxC (Syntax.items (a1__iParse0La s k))) ≤ 9223372036854775807 → (decide
 ((↑(List.length (List.map syntaxC (Syntax.items (a1__iParse0La s k)))) : Int) ≠ 2) = true → List.all (List.drop 2 (Syntax.items s)) clauP = false ∧ W1c_iParse0La L s (Ob.box
 [AC.val (Cell.lit (Value.slice none 0 0)), AC.val (Cell.lit (Value.slice none 0 0)), AC.val (Cell.lit (Value.slice none 0 0))]) (lb false) = W1c_iParse0La L s (Ob.box [AC.val
 (Cell.lit (Value.slice none 0 0)), AC.val (Cell.lit (Value.slice none 0 0)), AC.val (Cell.lit (Value.slice none 0 0))]) (lb false)) ∧ (decide ((↑(List.length (List.map syntaxC
 (Syntax.items (a1__iParse0La s k)))) : Int) ≠ 2) = false → ((0 : Int) ≤ 0 ∧ (List.map syntaxC (Syntax.items (a1__iParse0La s k)))[0]? = some (syntaxF (a2__iParse0La s k))) ∧
 P_c_iCopyY (a2__iParse0La s k) ∧ (List.length (List.map syntaxC (clauT s 0 k)) + 1) * 80 ≤ 140737488355328 ∧ ((0 : Int) ≤ 1 ∧ (List.map syntaxC (Syntax.items (a1__iParse0La s
 k)))[1]? = some (syntaxF (a3__iParse0La s k))) ∧ P_c_iCopyY (a3__iParse0La s k) ∧ (List.length (List.map syntaxC (clauT s 1 k)) + 1) * 80 ≤ 140737488355328 ∧ rng IntKind.i64 ((↑k
 : Int) + 1) ∧ List.length (List.drop 2 (Syntax.items s)) - (k + 1) < List.length (List.drop 2 (Syntax.items s)) - k ∧ Tc_iParse0La L s (li ((↑k : Int) + 1)) (Ob.arr true 5
 (List.map syntaxC (clauT s 0 k) ++ [syntaxF (a2__iParse0La s k)])) (Ob.arr true 5 (List.map syntaxC (clauT s 1 k) ++ [syntaxF (a3__iParse0La s k)])) = Lc_iParse0La L s (k + 1) ∧
 Ic_iParse0La L s (List.length (List.drop 2 (Syntax.items s)) - (k + 1)) (Lc_iParse0La L s (k + 1))))) ∧ (decide ((↑k : Int) < (↑(List.length (a4__iParse0La s)) : Int)) = false →
 List.all (List.drop 2 (Syntax.items s)) clauP = true ∧ W0c_iParse0La L s (Ob.arr true 5 (List.map syntaxC (clauT s 0 k))) (Ob.arr true 5 (List.map syntaxC (clauT s 1 k))) =
 W0c_iParse0La L s (Ob.arr true 5 (List.map syntaxC (clauI s 0))) (Ob.arr true 5 (List.map syntaxC (clauI s 1))))) := by kernel_rfl
theorem Sc_iParse0La (L : List Binding) (s : Syntax) (h : List.length L ≤ 1048577 ∧ sumBy wB L ≤ 1048577 ∧ wY s ≤ 1048576)  : LoopSem Tryz.prog (loopAt Tryz.f105 0) (Ic_iParse0La L
 s) (Yc_iParse0La L s) := by
  refine LoopSem.ofHead wide fun k h => ⟨_, _, run_c_iParse0La L s k, ?_⟩
  try delta a1__iParse0La a2__iParse0La a3__iParse0La a4__iParse0La
  have g1 := @clauT_step s 0 k
  have g2 := @clauT_step s 1 k
  have g3 := @clauT_end s 0 k
  have g4 := @clauT_end s 1 k
  have g5 := clauT_len s 0 k
  have g6 := clauT_len s 1 k
  have g7 := @all_stopY (s.items.drop 2) clauP k
  have g8 := @take_get _ _ (s.items.drop 2) k
  have e : (s.items.drop 2).take (s.items.length - 2) = s.items.drop 2 := List.take_of_length_le (by rw [List.length_drop]; omega)
  have e2 : (s.items.drop 2).length = s.items.length - 2 := List.length_drop
  have e3 : k < (s.items.drop 2).length → wY ((s.items.drop 2).getD k default) ≤ wY s := fun h => by have := @sumBy_mem _ wY s.items _ (List.mem_of_mem_drop (getD_mem' h)); have := wY_eq s; omega
  have e4 := wY_eq ((s.items.drop 2).getD k default)
  have e5 : ∀ j, j < ((s.items.drop 2).getD k default).items.length → wY (((s.items.drop 2).getD k default).items.getD j default) ≤ wY ((s.items.drop 2).getD k default) := fun j h => by have := @sumBy_mem _ wY _ _ (getD_mem' h); omega
  have e6 : clauP ((s.items.drop 2).getD k default) = (decide (((s.items.drop 2).getD k default).kind = 0) && decide ((((s.items.drop 2).getD k default).items.length : Int) = 2)) := rfl
  have e7 : (s.items.drop 2).length ≤ k → (s.items.drop 2).take k = s.items.drop 2 := fun h => List.take_of_length_le h
  with_reducible repeat' (first | apply And.intro | exact flatI | exact flatS | exact rowLens | (intro; skip) | apply obsN | apply obsC | apply obA | apply obM | apply obB | apply svA | apply tupA | apply lcA | apply lcS | apply svC | apply liC | apply lbC | apply lsC | apply vIc | apply vBc | apply vSc | apply vLc | apply mapC | apply Hc_iParse0La | apply Ec_iParse0La | apply EW0c_iParse0La | apply EW1c_iParse0La | apply c_iForm | apply c_iCopyYs | apply c_iCopyY | apply c_iIsRules)
  all_goals (try simp only [std] at *)
  all_goals (try (first | with_reducible apply c_iForm | with_reducible apply c_iCopyYs | with_reducible apply c_iCopyY | with_reducible apply c_iIsRules | (simp only [← List.map_append]; first | with_reducible apply c_iForm | with_reducible apply c_iCopyYs | with_reducible apply c_iCopyY | with_reducible apply c_iIsRules)))
  all_goals (try (first | with_reducible rfl | omega | assumption | (refine (decide_eq_true ?_).symm; assumption) | (refine (decide_eq_false ?_).symm; assumption) | (refine rowGet ?_; (first | omega | (simp only [std]; omega) | grind)) | (refine getC ?_ rfl; (first | omega | (simp only [std]; omega) | grind)) | (show (_ : St) = _; rfl) | grind [snocI, snocS, rowSnoc]))
abbrev a1_c_iParse0 (L : List Binding) (s : Syntax) := [Ob.arr true 5 (List.map syntaxC (Rules.literals (prsO0 L s))), Ob.arr true 5 (List.map syntaxC (Rules.patterns (prsO0 L
 s))), Ob.arr true 5 (List.map syntaxC (Rules.templates (prsO0 L s)))]
abbrev a2_c_iParse0  := [AC.ref 0, AC.ref 1, AC.ref 2]
abbrev a3_c_iParse0 (s : Syntax) := (List.getD (Syntax.items s) 1 default)
abbrev a4_c_iParse0  := [Ob.arr true 5 [], Ob.arr true 5 [], Ob.arr true 5 []]
theorem run_c_iParse0 (L : List Binding) (s : Syntax) : aexec Tryz.prog (Option.getD (Func.body Tryz.f105) Code.skip) (entry [] [ll (List.map bindingC L), syntaxA s] 87) [Orc.br
 [Orc.bool true, Orc.bool true, Orc.bool true, Orc.ghost (Ghost.nilbox 1 0 true 5), Orc.ghost (Ghost.nilbox 1 1 true 5), Orc.ghost (Ghost.nilbox 1 2 true 5), Orc.fin [2, 3, 4]]
 [Orc.br [Orc.bool true, Orc.bool true, Orc.ghost (Ghost.nilbox 1 0 true 5), Orc.ghost (Ghost.nilbox 1 1 true 5), Orc.ghost (Ghost.nilbox 1 2 true 5), Orc.fin [2, 3, 4]] [Orc.cells
 (syntaxF (List.getD (Syntax.items s) 0 default)), Orc.call [Mode.rd, Mode.rd] [] (AV.sv (li (frm L (List.getD (Syntax.items s) 0 default)))), Orc.br [Orc.bool true, Orc.ghost
 (Ghost.nilbox 1 0 true 5), Orc.ghost (Ghost.nilbox 1 1 true 5), Orc.ghost (Ghost.nilbox 1 2 true 5), Orc.fin [2, 3, 4]] [Orc.cells (syntaxF (a3_c_iParse0 s)), Orc.br [Orc.ghost
 (Ghost.nilbox 1 0 true 5), Orc.ghost (Ghost.nilbox 1 1 true 5), Orc.ghost (Ghost.nilbox 1 2 true 5), Orc.fin [2, 3, 4]] [Orc.cells (syntaxF (a3_c_iParse0 s)), Orc.call [Mode.rd]
 [Ob.arr true 5 (List.map syntaxC (Syntax.items (a3_c_iParse0 s)))] (AV.sv (SV.one (AC.ref 0))), Orc.ghost (Ghost.nilbox 3 1 true 5), Orc.ghost (Ghost.nilbox 3 2 true 5), Orc.ghost
 (Ghost.sel [1, 3, 2, 4, 5] [4, 6, 45, 46, 47]), Orc.loop (List.length (List.drop 2 (Syntax.items s)) - 0) (Lc_iParse0La L s 0) (Ic_iParse0La L s) [(List.all (List.drop 2
 (Syntax.items s)) clauP = true, AEx.exit 0, W0c_iParse0La L s (Ob.arr true 5 (List.map syntaxC (clauI s 0))) (Ob.arr true 5 (List.map syntaxC (clauI s 1))), [Orc.call [Mode.rd] []
 (AV.sv (lb (isRul (Rules.mk (Syntax.items (a3_c_iParse0 s)) (clauI s 0) (clauI s 1))))), Orc.br [Orc.ghost (Ghost.nilbox 0 0 true 5), Orc.ghost (Ghost.nilbox 0 1 true 5),
 Orc.ghost (Ghost.nilbox 0 2 true 5), Orc.fin [5, 6, 7]] [Orc.fin [2, 3, 4]]]), (List.all (List.drop 2 (Syntax.items s)) clauP = false, AEx.ret, W1c_iParse0La L s (Ob.box [AC.val
 (Cell.lit (Value.slice none 0 0)), AC.val (Cell.lit (Value.slice none 0 0)), AC.val (Cell.lit (Value.slice none 0 0))]) (lb false), [Orc.ghost (Ghost.nilbox 0 0 true 5), Orc.ghost
 (Ghost.nilbox 0 1 true 5), Orc.ghost (Ghost.nilbox 0 2 true 5), Orc.fin [1, 2, 3]])]]]]]] (finK Tryz.prog [ResultVar.cell 4 78, ResultVar.tmp 5] (rulesO (prsO0 L s)) (AV.tup
 [rulesR (prsO0 L s) 0, lb (prsB0 L s)])) = ((decide (Syntax.kind s ≠ 0) = true → true = true ∧ true = true ∧ true = true ∧ ObsEq a4_c_iParse0 (a1_c_iParse0 L s) ∧ AV.tup [SV.agg
 a2_c_iParse0, lb false] = AV.tup [SV.agg a2_c_iParse0, lb (prsB0 L s)]) ∧ (decide (Syntax.kind s ≠ 0) = false → List.length (List.map syntaxC (Syntax.items s)) ≤
 9223372036854775807 → (decide ((↑(List.length (List.map syntaxC (Syntax.items s))) : Int) < 2) = true → true = true ∧ true = true ∧ ObsEq a4_c_iParse0 (a1_c_iParse0 L s) ∧ AV.tup
 [SV.agg a2_c_iParse0, lb false] = AV.tup [SV.agg a2_c_iParse0, lb (prsB0 L s)]) ∧ (decide ((↑(List.length (List.map syntaxC (Syntax.items s))) : Int) < 2) = false → ((0 : Int) ≤ 0
 ∧ (List.map syntaxC (Syntax.items s))[0]? = some (syntaxF (List.getD (Syntax.items s) 0 default))) ∧ P_c_iForm L (List.getD (Syntax.items s) 0 default) ∧ (decide (frm L (List.getD
 (Syntax.items s) 0 default) ≠ 10) = true → true = true ∧ ObsEq a4_c_iParse0 (a1_c_iParse0 L s) ∧ AV.tup [SV.agg a2_c_iParse0, lb false] = AV.tup [SV.agg a2_c_iParse0, lb (prsB0 L
 s)]) ∧ (decide (frm L (List.getD (Syntax.items s) 0 default) ≠ 10) = false → ((0 : Int) ≤ 1 ∧ (List.map syntaxC (Syntax.items s))[1]? = some (syntaxF (a3_c_iParse0 s))) ∧ (decide
 (Syntax.kind (a3_c_iParse0 s) ≠ 0) = true → ObsEq a4_c_iParse0 (a1_c_iParse0 L s) ∧ AV.tup [SV.agg a2_c_iParse0, lb false] = AV.tup [SV.agg a2_c_iParse0, lb (prsB0 L s)]) ∧
 (decide (Syntax.kind (a3_c_iParse0 s) ≠ 0) = false → ((0 : Int) ≤ 1 ∧ (List.map syntaxC (Syntax.items s))[1]? = some (syntaxF (a3_c_iParse0 s))) ∧ P_c_iCopyYs (Syntax.items
 (a3_c_iParse0 s)) ∧ (0 : Int) ≤ 2 ∧ (2 ≤ List.length (List.map syntaxC (Syntax.items s)) ∧ List.length (List.map syntaxC (Syntax.items s)) ≤ List.length (List.map syntaxC
 (Syntax.items s)) ∧ ∀ (e : List Cell), e ∈ List.map syntaxC (Syntax.items s) → List.length e = 5) ∧ (List.length (List.take (List.length (List.map syntaxC (Syntax.items s)) - 2)
 (List.drop 2 (List.map syntaxC (Syntax.items s)))) ≤ 9223372036854775807 → Tc_iParse0La L s (li 0) (Ob.arr true 5 []) (Ob.arr true 5 []) = Lc_iParse0La L s 0 ∧ Ic_iParse0La L s
 (List.length (List.drop 2 (Syntax.items s)) - 0) (Lc_iParse0La L s 0) ∧ LoopSem Tryz.prog (loopAt Tryz.f105 0) (Ic_iParse0La L s) (Yc_iParse0La L s) ∧ (List.all (List.drop 2
 (Syntax.items s)) clauP = true → P_c_iIsRules (Rules.mk (Syntax.items (a3_c_iParse0 s)) (clauI s 0) (clauI s 1)) ∧ ((!isRul (Rules.mk (Syntax.items (a3_c_iParse0 s)) (clauI s 0)
 (clauI s 1))) = true → ObsEq a4_c_iParse0 (a1_c_iParse0 L s) ∧ AV.tup [SV.agg a2_c_iParse0, lb false] = AV.tup [SV.agg a2_c_iParse0, lb (prsB0 L s)]) ∧ ((!isRul (Rules.mk
 (Syntax.items (a3_c_iParse0 s)) (clauI s 0) (clauI s 1))) = false → ObsEq [Ob.arr true 5 (List.map syntaxC (Syntax.items (a3_c_iParse0 s))), Ob.arr true 5 (List.map syntaxC (clauI
 s 0)), Ob.arr true 5 (List.map syntaxC (clauI s 1))] (a1_c_iParse0 L s) ∧ AV.tup [SV.agg a2_c_iParse0, lb true] = AV.tup [SV.agg a2_c_iParse0, lb (prsB0 L s)])) ∧ (List.all
 (List.drop 2 (Syntax.items s)) clauP = false → ObsEq a4_c_iParse0 (a1_c_iParse0 L s) ∧ AV.tup [SV.agg a2_c_iParse0, lb false] = AV.tup [SV.agg a2_c_iParse0, lb (prsB0 L s)]) ∧
 True)))))) := by kernel_rfl
theorem c_iParse0 (L : List Binding) (s : Syntax) (h : L.length ≤ 1048577 ∧ sumBy wB L ≤ 1048577 ∧ wY s ≤ 1048576)  : P_c_iParse0 L s := by
  refine CallOK.ofRun wide (run_c_iParse0 L s) Tryz.call105 Tryz.func105 rfl rfl rfl ?_
  try delta a1_c_iParse0 a2_c_iParse0 a3_c_iParse0 a4_c_iParse0
  have g1 := wY_eq s
  have g2 := @prsR_w s
  have e : (s.items.drop 2).take (s.items.length - 2) = s.items.drop 2 := List.take_of_length_le (by rw [List.length_drop]; omega)
  have e2 : ∀ j, j < s.items.length → wY (s.items.getD j default) ≤ wY s := fun j hj => by have := @sumBy_mem _ wY s.items _ (getD_mem' hj); omega
  have e3 := wY_eq (s.items.getD 1 default)
  have g3 : prsB0 L s = true → prsO0 L s = prsR s := fun h => if_pos h
  have g4 : prsB0 L s = false → prsO0 L s = ⟨[], [], []⟩ := fun h => by unfold prsO0; rw [h]; rfl
  have g5 : prsB0 L s = (decide (s.kind = 0) && decide (2 ≤ (s.items.length : Int)) && decide (frm L (s.items.getD 0 default) = 10) && decide ((s.items.getD 1 default).kind = 0) && (s.items.drop 2).all clauP && isRul (prsR s)) := rfl
  have g6 : prsR s = ⟨(s.items.getD 1 default).items, clauI s 0, clauI s 1⟩ := rfl
  have g7 : clauT s 0 0 = [] ∧ clauT s 1 0 = [] := ⟨rfl, rfl⟩
  with_reducible repeat' (first | apply And.intro | exact flatI | exact flatS | exact rowLens | (intro; skip) | apply obsN | apply obsC | apply obA | apply obM | apply obB | apply svA | apply tupA | apply lcA | apply lcS | apply svC | apply liC | apply lbC | apply lsC | apply vIc | apply vBc | apply vSc | apply vLc | apply mapC | apply Hc_iParse0La | apply Ec_iParse0La | apply Sc_iParse0La | apply EW0c_iParse0La | apply EW1c_iParse0La | apply c_iForm | apply c_iCopyYs | apply c_iCopyY | apply c_iIsRules)
  all_goals (try simp only [std] at *)
  all_goals (try (first | with_reducible apply c_iForm | with_reducible apply c_iCopyYs | with_reducible apply c_iCopyY | with_reducible apply c_iIsRules | (simp only [← List.map_append]; first | with_reducible apply c_iForm | with_reducible apply c_iCopyYs | with_reducible apply c_iCopyY | with_reducible apply c_iIsRules)))
  all_goals (try (first | with_reducible rfl | omega | assumption | (refine (decide_eq_true ?_).symm; assumption) | (refine (decide_eq_false ?_).symm; assumption) | (refine rowGet ?_; (first | omega | (simp only [std]; omega) | grind)) | (refine getC ?_ rfl; (first | omega | (simp only [std]; omega) | grind)) | (show (_ : St) = _; rfl) | grind [snocI, snocS, rowSnoc]))
abbrev P_c_sParse0 (L : List Binding) (s : Syntax) : Prop := CallOK Tryz.prog 104 [] [ll (L.map bindingC), syntaxA s] (rulesO (prsO0 L s)) (.tup [rulesR (prsO0 L s) 0, lb (prsB0 L s)])
def Tc_sParse0Lb (L : List Binding) (s : Syntax) (x0 : SV) (x1 : Ob) (x2 : Ob) : St := St.mk (regsOf 101 [(4, AV.sv (SV.one (AC.ptr 0 0))), (6, AV.sv (SV.one (AC.ptr 1 0))), (59,
 AV.sv (ll (List.take (List.length (List.map syntaxC (Syntax.items s)) - 2) (List.drop 2 (List.map syntaxC (Syntax.items s)))))), (60, AV.sv (li (↑(List.length (List.take
 (List.length (List.map syntaxC (Syntax.items s)) - 2) (List.drop 2 (List.map syntaxC (Syntax.items s))))) : Int))), (61, AV.sv x0)]) [Ob.box [AC.val (Cell.lit (Value.slice none 0
 0)), AC.val (Cell.lit (Value.slice none 0 0)), AC.val (Cell.lit (Value.slice none 0 0))], Ob.box [AC.ref 2, AC.ref 3, AC.ref 4], Ob.arr true 5 (List.map syntaxC (Syntax.items
 (List.getD (Syntax.items s) 1 default))), x1, x2] 0 
def Lc_sParse0Lb (L : List Binding) (s : Syntax) (k : Nat) : St := Tc_sParse0Lb L s (li (↑k : Int)) (Ob.arr true 5 (List.map syntaxC (clauT s 0 k))) (Ob.arr true 5 (List.map
 syntaxC (clauT s 1 k))) 
def Ic_sParse0Lb (L : List Binding) (s : Syntax) : Nat → St → Prop := Head (Lc_sParse0Lb L s) (fun k => k ≤ List.length (List.drop 2 (Syntax.items s)) ∧ 2 ≤ List.length
 (Syntax.items s) ∧ List.length (Syntax.items s) ≤ 1048576 ∧ List.all (List.take k (List.drop 2 (Syntax.items s))) clauP = true) fun k => List.length (List.drop 2 (Syntax.items s))
 - k 
def W0c_sParse0Lb (L : List Binding) (s : Syntax) (x0 : Ob) (x1 : Ob) : St := St.mk (regsOf 101 [(4, AV.sv (SV.one (AC.ptr 0 0))), (6, AV.sv (SV.one (AC.ptr 1 0)))]) [Ob.box
 [AC.val (Cell.lit (Value.slice none 0 0)), AC.val (Cell.lit (Value.slice none 0 0)), AC.val (Cell.lit (Value.slice none 0 0))], Ob.box [AC.ref 2, AC.ref 3, AC.ref 4], Ob.arr true
 5 (List.map syntaxC (Syntax.items (List.getD (Syntax.items s) 1 default))), x0, x1] 0 
def W1c_sParse0Lb (L : List Binding) (s : Syntax) (x0 : Ob) (x1 : SV) : St := St.mk (regsOf 101 [(4, AV.sv (SV.one (AC.ptr 0 0))), (5, AV.sv x1)]) [x0] 0 
def Yc_sParse0Lb (L : List Binding) (s : Syntax) : List (Prop × AEx × St) := [(List.all (List.drop 2 (Syntax.items s)) clauP = true, AEx.exit 2, W0c_sParse0Lb L s (Ob.arr true 5
 (List.map syntaxC (clauI s 0))) (Ob.arr true 5 (List.map syntaxC (clauI s 1)))), (List.all (List.drop 2 (Syntax.items s)) clauP = false, AEx.ret, W1c_sParse0Lb L s (Ob.box [AC.val
 (Cell.lit (Value.slice none 0 0)), AC.val (Cell.lit (Value.slice none 0 0)), AC.val (Cell.lit (Value.slice none 0 0))]) (lb false))]
def Tc_sParse0La (L : List Binding) (s : Syntax) (x0 : SV) (x1 : Ob) : St := St.mk (regsOf 101 [(3, AV.sv (SV.one (AC.ptr 0 0))), (4, AV.sv (SV.one (AC.ptr 1 0))), (6, AV.sv
 (SV.one (AC.ptr 2 0))), (43, AV.sv (ll (List.map syntaxC (Syntax.items (List.getD (Syntax.items s) 1 default))))), (44, AV.sv (li (↑(List.length (List.map syntaxC (Syntax.items
 (List.getD (Syntax.items s) 1 default)))) : Int))), (45, AV.sv x0)]) [Ob.box (vals (syntaxF s)), Ob.box [AC.val (Cell.lit (Value.slice none 0 0)), AC.val (Cell.lit (Value.slice
 none 0 0)), AC.val (Cell.lit (Value.slice none 0 0))], Ob.box [AC.ref 3, AC.val (Cell.lit (Value.slice none 0 0)), AC.val (Cell.lit (Value.slice none 0 0))], x1] 0 
def Lc_sParse0La (L : List Binding) (s : Syntax) (k : Nat) : St := Tc_sParse0La L s (li (↑k : Int)) (Ob.arr true 5 (List.map syntaxC (List.take k (Syntax.items (List.getD
 (Syntax.items s) 1 default))))) 
def Ic_sParse0La (L : List Binding) (s : Syntax) : Nat → St → Prop := Head (Lc_sParse0La L s) (fun k => k ≤ List.length (Syntax.items (List.getD (Syntax.items s) 1 default)) ∧
 List.length (Syntax.items (List.getD (Syntax.items s) 1 default)) ≤ 9223372036854775807) fun k => List.length (Syntax.items (List.getD (Syntax.items s) 1 default)) - k 
def W0c_sParse0La (L : List Binding) (s : Syntax) (x0 : Ob) : St := St.mk (regsOf 101 [(3, AV.sv (SV.one (AC.ptr 0 0))), (4, AV.sv (SV.one (AC.ptr 1 0))), (6, AV.sv (SV.one (AC.ptr
 2 0)))]) [Ob.box (vals (syntaxF s)), Ob.box [AC.val (Cell.lit (Value.slice none 0 0)), AC.val (Cell.lit (Value.slice none 0 0)), AC.val (Cell.lit (Value.slice none 0 0))], Ob.box
 [AC.ref 3, AC.val (Cell.lit (Value.slice none 0 0)), AC.val (Cell.lit (Value.slice none 0 0))], x0] 0 
def Yc_sParse0La (L : List Binding) (s : Syntax) : List (Prop × AEx × St) := [(True, AEx.exit 0, W0c_sParse0La L s (Ob.arr true 5 (List.map syntaxC (Syntax.items (List.getD
 (Syntax.items s) 1 default)))))]
theorem Hc_sParse0Lb {L : List Binding} {s : Syntax} {k : Nat} {m : Nat} (h : (fun k => k ≤ List.length (List.drop 2 (Syntax.items s)) ∧ 2 ≤ List.length (Syntax.items s) ∧
 List.length (Syntax.items s) ≤ 1048576 ∧ List.all (List.take k (List.drop 2 (Syntax.items s))) clauP = true) k) (hm : (fun k => List.length (List.drop 2 (Syntax.items s)) - k) k =
 m) : Ic_sParse0Lb L s m (Lc_sParse0Lb L s k) := hm ▸ Head.mk h
theorem Ec_sParse0Lb {L : List Binding} {s : Syntax} {k : Nat} {x0 : SV} {x1 : Ob} {x2 : Ob} (h0 : x0 = (li (↑k : Int))) (h1 : x1 = (Ob.arr true 5 (List.map syntaxC (clauT s 0
 k)))) (h2 : x2 = (Ob.arr true 5 (List.map syntaxC (clauT s 1 k)))) : Tc_sParse0Lb L s x0 x1 x2 = Lc_sParse0Lb L s k := by
  rw [h0, h1, h2]
  rfl
theorem EW0c_sParse0Lb {L : List Binding} {s : Syntax} {x0 y0 : Ob} {x1 y1 : Ob} (h0 : x0 = y0) (h1 : x1 = y1) : W0c_sParse0Lb L s x0 x1 = W0c_sParse0Lb L s y0 y1 := by rw [h0, h1]
theorem EW1c_sParse0Lb {L : List Binding} {s : Syntax} {x0 y0 : Ob} {x1 y1 : SV} (h0 : x0 = y0) (h1 : x1 = y1) : W1c_sParse0Lb L s x0 x1 = W1c_sParse0Lb L s y0 y1 := by rw [h0, h1]
abbrev a1__sParse0Lb (s : Syntax) (k : Nat) := (List.getD (List.take (List.length (List.map syntaxC (Syntax.items s)) - 2) (List.drop 2 (Syntax.items s))) k default)
abbrev a2__sParse0Lb (s : Syntax) (k : Nat) := (List.getD (Syntax.items (a1__sParse0Lb s k)) 0 default)
abbrev a3__sParse0Lb (s : Syntax) (k : Nat) := (List.getD (Syntax.items (a1__sParse0Lb s k)) 1 default)
abbrev a4__sParse0Lb (s : Syntax) := (List.take (List.length (List.map syntaxC (Syntax.items s)) - 2) (List.drop 2 (List.map syntaxC (Syntax.items s))))
theorem run_c_sParse0Lb (L : List Binding) (s : Syntax) (k : Nat) : aexec Tryz.prog (loopAt Tryz.f104 1) (Lc_sParse0Lb L s k) [Orc.br [Orc.cells (syntaxF (a1__sParse0Lb s k)),
 Orc.br [Orc.bool true, Orc.ghost (Ghost.sel [0] [4, 5]), Orc.out 1] [Orc.br [Orc.ghost (Ghost.sel [0] [4, 5]), Orc.out 1] [Orc.draw [(7, [6, 7]), (8, [3, 14]), (10, [1])],
 Orc.cells (syntaxF (a2__sParse0Lb s k)), Orc.call [Mode.rd] (syntaxO (a2__sParse0Lb s k)) (AV.sv (syntaxR (a2__sParse0Lb s k) 0)), Orc.draw [(7, [16, 17]), (8, [4, 24]), (10,
 [1])], Orc.cells (syntaxF (a3__sParse0Lb s k)), Orc.call [Mode.rd] (syntaxO (a3__sParse0Lb s k)) (AV.sv (syntaxR (a3__sParse0Lb s k) 0)), Orc.ghost (Ghost.sel [0, 1, 2, 15, 25]
 [4, 6, 59, 60, 61]), Orc.goto (List.length (List.drop 2 (Syntax.items s)) - (k + 1)) (Lc_sParse0Lb L s (k + 1))]]] [Orc.ghost (Ghost.sel [0, 1, 2, 3, 4] [4, 6]), Orc.out 0]]
 (loopK (Ic_sParse0Lb L s) (Yc_sParse0Lb L s) (List.length (List.drop 2 (Syntax.items s)) - k)) = ((decide ((↑k : Int) < (↑(List.length (a4__sParse0Lb s)) : Int)) = true → (0 ≤ (↑k
 : Int) ∧ (a4__sParse0Lb s)[Int.toNat (↑k : Int)]? = some (syntaxF (a1__sParse0Lb s k))) ∧ (decide (Syntax.kind (a1__sParse0Lb s k) ≠ 0) = true → true = true ∧ List.all (List.drop
 2 (Syntax.items s)) clauP = false ∧ W1c_sParse0Lb L s (Ob.box [AC.val (Cell.lit (Value.slice none 0 0)), AC.val (Cell.lit (Value.slice none 0 0)), AC.val (Cell.lit (Value.slice
 none 0 0))]) (lb false) = W1c_sParse0Lb L s (Ob.box [AC.val (Cell.lit (Value.slice none 0 0)), AC.val (Cell.lit (Value.slice none 0 0)), AC.val (Cell.lit (Value.slice none 0 0))])
 (lb false)) ∧ (decide (Syntax.kind (a1__sParse0Lb s k) ≠ 0) = false → List.length (List.map syntaxC (Syntax.items (a1__sParse0Lb s k))) ≤ 9223372036854775807 → (decide
 ((↑(List.length (List.map syntaxC (Syntax.items (a1__sParse0Lb s k)))) : Int) ≠ 2) = true → List.all (List.drop 2 (Syntax.items s)) clauP = false ∧ W1c_sParse0Lb L s (Ob.box
 [AC.val (Cell.lit (Value.slice none 0 0)), AC.val (Cell.lit (Value.slice none 0 0)), AC.val (Cell.lit (Value.slice none 0 0))]) (lb false) = W1c_sParse0Lb L s (Ob.box [AC.val
 (Cell.lit (Value.slice none 0 0)), AC.val (Cell.lit (Value.slice none 0 0)), AC.val (Cell.lit (Value.slice none 0 0))]) (lb false)) ∧ (decide ((↑(List.length (List.map syntaxC
 (Syntax.items (a1__sParse0Lb s k)))) : Int) ≠ 2) = false → ((0 : Int) ≤ 0 ∧ (List.map syntaxC (Syntax.items (a1__sParse0Lb s k)))[0]? = some (syntaxF (a2__sParse0Lb s k))) ∧
 P_c_sCopyY (a2__sParse0Lb s k) ∧ (List.length (List.map syntaxC (clauT s 0 k)) + 1) * 80 ≤ 140737488355328 ∧ ((0 : Int) ≤ 1 ∧ (List.map syntaxC (Syntax.items (a1__sParse0Lb s
 k)))[1]? = some (syntaxF (a3__sParse0Lb s k))) ∧ P_c_sCopyY (a3__sParse0Lb s k) ∧ (List.length (List.map syntaxC (clauT s 1 k)) + 1) * 80 ≤ 140737488355328 ∧ rng IntKind.i64 ((↑k
 : Int) + 1) ∧ List.length (List.drop 2 (Syntax.items s)) - (k + 1) < List.length (List.drop 2 (Syntax.items s)) - k ∧ Tc_sParse0Lb L s (li ((↑k : Int) + 1)) (Ob.arr true 5
 (List.map syntaxC (clauT s 0 k) ++ [syntaxF (a2__sParse0Lb s k)])) (Ob.arr true 5 (List.map syntaxC (clauT s 1 k) ++ [syntaxF (a3__sParse0Lb s k)])) = Lc_sParse0Lb L s (k + 1) ∧
 Ic_sParse0Lb L s (List.length (List.drop 2 (Syntax.items s)) - (k + 1)) (Lc_sParse0Lb L s (k + 1))))) ∧ (decide ((↑k : Int) < (↑(List.length (a4__sParse0Lb s)) : Int)) = false →
 List.all (List.drop 2 (Syntax.items s)) clauP = true ∧ W0c_sParse0Lb L s (Ob.arr true 5 (List.map syntaxC (clauT s 0 k))) (Ob.arr true 5 (List.map syntaxC (clauT s 1 k))) =
 W0c_sParse0Lb L s (Ob.arr true 5 (List.map syntaxC (clauI s 0))) (Ob.arr true 5 (List.map syntaxC (clauI s 1))))) := by kernel_rfl
theorem Hc_sParse0La {L : List Binding} {s : Syntax} {k : Nat} {m : Nat} (h : (fun k => k ≤ List.length (Syntax.items (List.getD (Syntax.items s) 1 default)) ∧ List.length
 (Syntax.items (List.getD (Syntax.items s) 1 default)) ≤ 9223372036854775807) k) (hm : (fun k => List.length (Syntax.items (List.getD (Syntax.items s) 1 default)) - k) k = m) :
 Ic_sParse0La L s m (Lc_sParse0La L s k) := hm ▸ Head.mk h
theorem Ec_sParse0La {L : List Binding} {s : Syntax} {k : Nat} {x0 : SV} {x1 : Ob} (h0 : x0 = (li (↑k : Int))) (h1 : x1 = (Ob.arr true 5 (List.map syntaxC (List.take k
 (Syntax.items (List.getD (Syntax.items s) 1 default)))))) : Tc_sParse0La L s x0 x1 = Lc_sParse0La L s k := by
  rw [h0, h1]
  rfl
theorem EW0c_sParse0La {L : List Binding} {s : Syntax} {x0 y0 : Ob} (h0 : x0 = y0) : W0c_sParse0La L s x0 = W0c_sParse0La L s y0 := by rw [h0]
theorem run_c_sParse0La (L : List Binding) (s : Syntax) (k : Nat) : aexec Tryz.prog (loopAt Tryz.f104 0) (Lc_sParse0La L s k) [Orc.br [Orc.cells (syntaxF (List.getD (Syntax.items
 (List.getD (Syntax.items s) 1 default)) k default)), Orc.draw [(4, [5, 6]), (5, [3, 13]), (7, [2])], Orc.call [Mode.rd] (syntaxO (List.getD (Syntax.items (List.getD (Syntax.items
 s) 1 default)) k default)) (AV.sv (syntaxR (List.getD (Syntax.items (List.getD (Syntax.items s) 1 default)) k default) 0)), Orc.ghost (Ghost.sel [0, 1, 2, 14] [3, 4, 6, 43, 44,
 45]), Orc.goto (List.length (Syntax.items (List.getD (Syntax.items s) 1 default)) - (k + 1)) (Lc_sParse0La L s (k + 1))] [Orc.ghost (Ghost.sel [0, 1, 2, 3] [3, 4, 6]), Orc.out 0]]
 (loopK (Ic_sParse0La L s) (Yc_sParse0La L s) (List.length (Syntax.items (List.getD (Syntax.items s) 1 default)) - k)) = ((decide ((↑k : Int) < (↑(List.length (List.map syntaxC
 (Syntax.items (List.getD (Syntax.items s) 1 default)))) : Int)) = true → (0 ≤ (↑k : Int) ∧ (List.map syntaxC (Syntax.items (List.getD (Syntax.items s) 1 default)))[Int.toNat (↑k :
 Int)]? = some (syntaxF (List.getD (Syntax.items (List.getD (Syntax.items s) 1 default)) k default))) ∧ P_c_sCopyY (List.getD (Syntax.items (List.getD (Syntax.items s) 1 default))
 k default) ∧ (List.length (List.map syntaxC (List.take k (Syntax.items (List.getD (Syntax.items s) 1 default)))) + 1) * 80 ≤ 140737488355328 ∧ rng IntKind.i64 ((↑k : Int) + 1) ∧
 List.length (Syntax.items (List.getD (Syntax.items s) 1 default)) - (k + 1) < List.length (Syntax.items (List.getD (Syntax.items s) 1 default)) - k ∧ Tc_sParse0La L s (li ((↑k :
 Int) + 1)) (Ob.arr true 5 (List.map syntaxC (List.take k (Syntax.items (List.getD (Syntax.items s) 1 default))) ++ [syntaxF (List.getD (Syntax.items (List.getD (Syntax.items s) 1
 default)) k default)])) = Lc_sParse0La L s (k + 1) ∧ Ic_sParse0La L s (List.length (Syntax.items (List.getD (Syntax.items s) 1 default)) - (k + 1)) (Lc_sParse0La L s (k + 1))) ∧
 (decide ((↑k : Int) < (↑(List.length (List.map syntaxC (Syntax.items (List.getD (Syntax.items s) 1 default)))) : Int)) = false → True ∧ W0c_sParse0La L s (Ob.arr true 5 (List.map
 syntaxC (List.take k (Syntax.items (List.getD (Syntax.items s) 1 default))))) = W0c_sParse0La L s (Ob.arr true 5 (List.map syntaxC (Syntax.items (List.getD (Syntax.items s) 1
 default)))))) := by kernel_rfl
theorem Sc_sParse0Lb (L : List Binding) (s : Syntax) (h : List.length L ≤ 1048577 ∧ sumBy wB L ≤ 1048577 ∧ wY s ≤ 1048576)  : LoopSem Tryz.prog (loopAt Tryz.f104 1) (Ic_sParse0Lb L
 s) (Yc_sParse0Lb L s) := by
  refine LoopSem.ofHead wide fun k h => ⟨_, _, run_c_sParse0Lb L s k, ?_⟩
  try delta a1__sParse0Lb a2__sParse0Lb a3__sParse0Lb a4__sParse0Lb
  have g1 := @clauT_step s 0 k
  have g2 := @clauT_step s 1 k
  have g3 := @clauT_end s 0 k
  have g4 := @clauT_end s 1 k
  have g5 := clauT_len s 0 k
  have g6 := clauT_len s 1 k
  have g7 := @all_stopY (s.items.drop 2) clauP k
  have g8 := @take_get _ _ (s.items.drop 2) k
  have e : (s.items.drop 2).take (s.items.length - 2) = s.items.drop 2 := List.take_of_length_le (by rw [List.length_drop]; omega)
  have e2 : (s.items.drop 2).length = s.items.length - 2 := List.length_drop
  have e3 : k < (s.items.drop 2).length → wY ((s.items.drop 2).getD k default) ≤ wY s := fun h => by have := @sumBy_mem _ wY s.items _ (List.mem_of_mem_drop (getD_mem' h)); have := wY_eq s; omega
  have e4 := wY_eq ((s.items.drop 2).getD k default)
  have e5 : ∀ j, j < ((s.items.drop 2).getD k default).items.length → wY (((s.items.drop 2).getD k default).items.getD j default) ≤ wY ((s.items.drop 2).getD k default) := fun j h => by have := @sumBy_mem _ wY _ _ (getD_mem' h); omega
  have e6 : clauP ((s.items.drop 2).getD k default) = (decide (((s.items.drop 2).getD k default).kind = 0) && decide ((((s.items.drop 2).getD k default).items.length : Int) = 2)) := rfl
  have e7 : (s.items.drop 2).length ≤ k → (s.items.drop 2).take k = s.items.drop 2 := fun h => List.take_of_length_le h
  with_reducible repeat' (first | apply And.intro | exact flatI | exact flatS | exact rowLens | (intro; skip) | apply obsN | apply obsC | apply obA | apply obM | apply obB | apply svA | apply tupA | apply lcA | apply lcS | apply svC | apply liC | apply lbC | apply lsC | apply vIc | apply vBc | apply vSc | apply vLc | apply mapC | apply Hc_sParse0La | apply Ec_sParse0La | apply Hc_sParse0Lb | apply Ec_sParse0Lb | apply EW0c_sParse0Lb | apply EW1c_sParse0Lb | apply EW0c_sParse0La | apply c_sHead | apply c_sCopyY | apply c_sIsRules)
  all_goals (try simp only [std] at *)
  all_goals (try (first | with_reducible apply c_sHead | with_reducible apply c_sCopyY | with_reducible apply c_sIsRules | (simp only [← List.map_append]; first | with_reducible apply c_sHead | with_reducible apply c_sCopyY | with_reducible apply c_sIsRules)))
  all_goals (try (first | with_reducible rfl | omega | assumption | (refine (decide_eq_true ?_).symm; assumption) | (refine (decide_eq_false ?_).symm; assumption) | (refine rowGet ?_; (first | omega | (simp only [std]; omega) | grind)) | (refine getC ?_ rfl; (first | omega | (simp only [std]; omega) | grind)) | (show (_ : St) = _; rfl) | grind [snocI, snocS, rowSnoc]))
theorem Sc_sParse0La (L : List Binding) (s : Syntax) (h : List.length L ≤ 1048577 ∧ sumBy wB L ≤ 1048577 ∧ wY s ≤ 1048576)  : LoopSem Tryz.prog (loopAt Tryz.f104 0) (Ic_sParse0La L
 s) (Yc_sParse0La L s) := by
  refine LoopSem.ofHead wide fun k h => ⟨_, _, run_c_sParse0La L s k, ?_⟩
  have e1 := wY_eq (s.items.getD 1 default)
  have e2 := item_w s 1
  have g2 := @sumBy_mem _ wY (s.items.getD 1 default).items ((s.items.getD 1 default).items.getD k default)
  with_reducible repeat' (first | apply And.intro | exact flatI | exact flatS | exact rowLens | (intro; skip) | apply obsN | apply obsC | apply obA | apply obM | apply obB | apply svA | apply tupA | apply lcA | apply lcS | apply svC | apply liC | apply lbC | apply lsC | apply vIc | apply vBc | apply vSc | apply vLc | apply mapC | apply Hc_sParse0La | apply Ec_sParse0La | apply Hc_sParse0Lb | apply Ec_sParse0Lb | apply Sc_sParse0Lb | apply EW0c_sParse0Lb | apply EW1c_sParse0Lb | apply EW0c_sParse0La | apply c_sHead | apply c_sCopyY | apply c_sIsRules)
  all_goals (try simp only [std] at *)
  all_goals (try (first | with_reducible apply c_sHead | with_reducible apply c_sCopyY | with_reducible apply c_sIsRules | (simp only [← List.map_append]; first | with_reducible apply c_sHead | with_reducible apply c_sCopyY | with_reducible apply c_sIsRules)))
  all_goals (try (first | with_reducible rfl | omega | assumption | (refine (decide_eq_true ?_).symm; assumption) | (refine (decide_eq_false ?_).symm; assumption) | (refine rowGet ?_; (first | omega | (simp only [std]; omega) | grind)) | (refine getC ?_ rfl; (first | omega | (simp only [std]; omega) | grind)) | (show (_ : St) = _; rfl) | grind [take_get, snocI, snocS, rowSnoc, getD_mem']))
abbrev a1_c_sParse0 (L : List Binding) (s : Syntax) := [Ob.arr true 5 (List.map syntaxC (Rules.literals (prsO0 L s))), Ob.arr true 5 (List.map syntaxC (Rules.patterns (prsO0 L
 s))), Ob.arr true 5 (List.map syntaxC (Rules.templates (prsO0 L s)))]
abbrev a2_c_sParse0  := [AC.ref 0, AC.ref 1, AC.ref 2]
abbrev a3_c_sParse0  := [Ob.arr true 5 [], Ob.arr true 5 [], Ob.arr true 5 []]
abbrev a4_c_sParse0 (s : Syntax) := (Syntax.items (List.getD (Syntax.items s) 1 default))
theorem run_c_sParse0 (L : List Binding) (s : Syntax) : aexec Tryz.prog (Option.getD (Func.body Tryz.f104) Code.skip) (entry [] [ll (List.map bindingC L), syntaxA s] 101) [Orc.br
 [Orc.bool true, Orc.bool true, Orc.bool true, Orc.ghost (Ghost.nilbox 1 0 true 5), Orc.ghost (Ghost.nilbox 1 1 true 5), Orc.ghost (Ghost.nilbox 1 2 true 5), Orc.fin [2, 3, 4]]
 [Orc.br [Orc.bool true, Orc.bool true, Orc.ghost (Ghost.nilbox 1 0 true 5), Orc.ghost (Ghost.nilbox 1 1 true 5), Orc.ghost (Ghost.nilbox 1 2 true 5), Orc.fin [2, 3, 4]] [Orc.cells
 (syntaxF (List.getD (Syntax.items s) 0 default)), Orc.call [Mode.rd, Mode.rd, Mode.rd] [] (AV.sv (lb (decide (frm L (List.getD (Syntax.items s) 0 default) = 10)))), Orc.br
 [Orc.bool true, Orc.ghost (Ghost.nilbox 1 0 true 5), Orc.ghost (Ghost.nilbox 1 1 true 5), Orc.ghost (Ghost.nilbox 1 2 true 5), Orc.fin [2, 3, 4]] [Orc.cells (syntaxF (List.getD
 (Syntax.items s) 1 default)), Orc.br [Orc.ghost (Ghost.nilbox 1 0 true 5), Orc.ghost (Ghost.nilbox 1 1 true 5), Orc.ghost (Ghost.nilbox 1 2 true 5), Orc.fin [2, 3, 4]] [Orc.cells
 (syntaxF (List.getD (Syntax.items s) 1 default)), Orc.ghost (Ghost.nilbox 2 0 true 5), Orc.ghost (Ghost.sel [0, 1, 2, 3] [3, 4, 6, 43, 44, 45]), Orc.loop (List.length
 (a4_c_sParse0 s) - 0) (Lc_sParse0La L s 0) (Ic_sParse0La L s) [(True, AEx.exit 0, W0c_sParse0La L s (Ob.arr true 5 (List.map syntaxC (a4_c_sParse0 s))), [Orc.ghost (Ghost.nilbox 2
 1 true 5), Orc.ghost (Ghost.nilbox 2 2 true 5), Orc.ghost (Ghost.sel [1, 2, 3, 4, 5] [4, 6, 59, 60, 61]), Orc.loop (List.length (List.drop 2 (Syntax.items s)) - 0) (Lc_sParse0Lb L
 s 0) (Ic_sParse0Lb L s) [(List.all (List.drop 2 (Syntax.items s)) clauP = true, AEx.exit 2, W0c_sParse0Lb L s (Ob.arr true 5 (List.map syntaxC (clauI s 0))) (Ob.arr true 5
 (List.map syntaxC (clauI s 1))), [Orc.call [Mode.rd] [] (AV.sv (lb (isRul (Rules.mk (a4_c_sParse0 s) (clauI s 0) (clauI s 1))))), Orc.br [Orc.ghost (Ghost.nilbox 0 0 true 5),
 Orc.ghost (Ghost.nilbox 0 1 true 5), Orc.ghost (Ghost.nilbox 0 2 true 5), Orc.fin [5, 6, 7]] [Orc.fin [2, 3, 4]]]), (List.all (List.drop 2 (Syntax.items s)) clauP = false,
 AEx.ret, W1c_sParse0Lb L s (Ob.box [AC.val (Cell.lit (Value.slice none 0 0)), AC.val (Cell.lit (Value.slice none 0 0)), AC.val (Cell.lit (Value.slice none 0 0))]) (lb false),
 [Orc.ghost (Ghost.nilbox 0 0 true 5), Orc.ghost (Ghost.nilbox 0 1 true 5), Orc.ghost (Ghost.nilbox 0 2 true 5), Orc.fin [1, 2, 3]])]])]]]]]] (finK Tryz.prog [ResultVar.cell 4 78,
 ResultVar.tmp 5] (rulesO (prsO0 L s)) (AV.tup [rulesR (prsO0 L s) 0, lb (prsB0 L s)])) = ((decide (Syntax.kind s ≠ 0) = true → true = true ∧ true = true ∧ true = true ∧ ObsEq
 a3_c_sParse0 (a1_c_sParse0 L s) ∧ AV.tup [SV.agg a2_c_sParse0, lb false] = AV.tup [SV.agg a2_c_sParse0, lb (prsB0 L s)]) ∧ (decide (Syntax.kind s ≠ 0) = false → List.length
 (List.map syntaxC (Syntax.items s)) ≤ 9223372036854775807 → (decide ((↑(List.length (List.map syntaxC (Syntax.items s))) : Int) < 3) = true → true = true ∧ true = true ∧ ObsEq
 a3_c_sParse0 (a1_c_sParse0 L s) ∧ AV.tup [SV.agg a2_c_sParse0, lb false] = AV.tup [SV.agg a2_c_sParse0, lb (prsB0 L s)]) ∧ (decide ((↑(List.length (List.map syntaxC (Syntax.items
 s))) : Int) < 3) = false → ((0 : Int) ≤ 0 ∧ (List.map syntaxC (Syntax.items s))[0]? = some (syntaxF (List.getD (Syntax.items s) 0 default))) ∧ P_c_sHead L (List.getD (Syntax.items
 s) 0 default) 10 ∧ ((!decide (frm L (List.getD (Syntax.items s) 0 default) = 10)) = true → true = true ∧ ObsEq a3_c_sParse0 (a1_c_sParse0 L s) ∧ AV.tup [SV.agg a2_c_sParse0, lb
 false] = AV.tup [SV.agg a2_c_sParse0, lb (prsB0 L s)]) ∧ ((!decide (frm L (List.getD (Syntax.items s) 0 default) = 10)) = false → ((0 : Int) ≤ 1 ∧ (List.map syntaxC (Syntax.items
 s))[1]? = some (syntaxF (List.getD (Syntax.items s) 1 default))) ∧ (decide (Syntax.kind (List.getD (Syntax.items s) 1 default) ≠ 0) = true → ObsEq a3_c_sParse0 (a1_c_sParse0 L s)
 ∧ AV.tup [SV.agg a2_c_sParse0, lb false] = AV.tup [SV.agg a2_c_sParse0, lb (prsB0 L s)]) ∧ (decide (Syntax.kind (List.getD (Syntax.items s) 1 default) ≠ 0) = false → ((0 : Int) ≤
 1 ∧ (List.map syntaxC (Syntax.items s))[1]? = some (syntaxF (List.getD (Syntax.items s) 1 default))) ∧ (List.length (List.map syntaxC (Syntax.items (List.getD (Syntax.items s) 1
 default))) ≤ 9223372036854775807 → Tc_sParse0La L s (li 0) (Ob.arr true 5 []) = Lc_sParse0La L s 0 ∧ Ic_sParse0La L s (List.length (a4_c_sParse0 s) - 0) (Lc_sParse0La L s 0) ∧
 LoopSem Tryz.prog (loopAt Tryz.f104 0) (Ic_sParse0La L s) (Yc_sParse0La L s) ∧ (True → (0 : Int) ≤ 2 ∧ (2 ≤ List.length (List.map syntaxC (Syntax.items s)) ∧ List.length (List.map
 syntaxC (Syntax.items s)) ≤ List.length (List.map syntaxC (Syntax.items s)) ∧ ∀ (e : List Cell), e ∈ List.map syntaxC (Syntax.items s) → List.length e = 5) ∧ (List.length
 (List.take (List.length (List.map syntaxC (Syntax.items s)) - 2) (List.drop 2 (List.map syntaxC (Syntax.items s)))) ≤ 9223372036854775807 → Tc_sParse0Lb L s (li 0) (Ob.arr true 5
 []) (Ob.arr true 5 []) = Lc_sParse0Lb L s 0 ∧ Ic_sParse0Lb L s (List.length (List.drop 2 (Syntax.items s)) - 0) (Lc_sParse0Lb L s 0) ∧ LoopSem Tryz.prog (loopAt Tryz.f104 1)
 (Ic_sParse0Lb L s) (Yc_sParse0Lb L s) ∧ (List.all (List.drop 2 (Syntax.items s)) clauP = true → P_c_sIsRules (Rules.mk (a4_c_sParse0 s) (clauI s 0) (clauI s 1)) ∧ ((!isRul
 (Rules.mk (a4_c_sParse0 s) (clauI s 0) (clauI s 1))) = true → ObsEq a3_c_sParse0 (a1_c_sParse0 L s) ∧ AV.tup [SV.agg a2_c_sParse0, lb false] = AV.tup [SV.agg a2_c_sParse0, lb
 (prsB0 L s)]) ∧ ((!isRul (Rules.mk (a4_c_sParse0 s) (clauI s 0) (clauI s 1))) = false → ObsEq [Ob.arr true 5 (List.map syntaxC (a4_c_sParse0 s)), Ob.arr true 5 (List.map syntaxC
 (clauI s 0)), Ob.arr true 5 (List.map syntaxC (clauI s 1))] (a1_c_sParse0 L s) ∧ AV.tup [SV.agg a2_c_sParse0, lb true] = AV.tup [SV.agg a2_c_sParse0, lb (prsB0 L s)])) ∧ (List.all
 (List.drop 2 (Syntax.items s)) clauP = false → ObsEq a3_c_sParse0 (a1_c_sParse0 L s) ∧ AV.tup [SV.agg a2_c_sParse0, lb false] = AV.tup [SV.agg a2_c_sParse0, lb (prsB0 L s)]) ∧
 True)) ∧ True)))))) := by kernel_rfl
theorem c_sParse0 (L : List Binding) (s : Syntax) (h : L.length ≤ 1048577 ∧ sumBy wB L ≤ 1048577 ∧ wY s ≤ 1048576)  : P_c_sParse0 L s := by
  refine CallOK.ofRun wide (run_c_sParse0 L s) Tryz.call104 Tryz.func104 rfl rfl rfl ?_
  try delta a1_c_sParse0 a2_c_sParse0 a3_c_sParse0 a4_c_sParse0
  have g1 := wY_eq s
  have g2 := @prsR_w s
  have e : (s.items.drop 2).take (s.items.length - 2) = s.items.drop 2 := List.take_of_length_le (by rw [List.length_drop]; omega)
  have e2 : ∀ j, j < s.items.length → wY (s.items.getD j default) ≤ wY s := fun j hj => by have := @sumBy_mem _ wY s.items _ (getD_mem' hj); omega
  have e3 := wY_eq (s.items.getD 1 default)
  have g3 : prsB0 L s = true → prsO0 L s = prsR s := fun h => if_pos h
  have g4 : prsB0 L s = false → prsO0 L s = ⟨[], [], []⟩ := fun h => by unfold prsO0; rw [h]; rfl
  have g5 : prsB0 L s = (decide (s.kind = 0) && decide (2 ≤ (s.items.length : Int)) && decide (frm L (s.items.getD 0 default) = 10) && decide ((s.items.getD 1 default).kind = 0) && (s.items.drop 2).all clauP && isRul (prsR s)) := rfl
  have g6 : prsR s = ⟨(s.items.getD 1 default).items, clauI s 0, clauI s 1⟩ := rfl
  have g7 : clauT s 0 0 = [] ∧ clauT s 1 0 = [] := ⟨rfl, rfl⟩
  have g8 : s.items.length = 2 → isRul (prsR s) = false := fun h => by
    have e : s.items.drop 2 = [] := List.drop_eq_nil_of_le (by omega)
    simp [isRul, prsR, clauI, e]
  with_reducible repeat' (first | apply And.intro | exact flatI | exact flatS | exact rowLens | (intro; skip) | apply obsN | apply obsC | apply obA | apply obM | apply obB | apply svA | apply tupA | apply lcA | apply lcS | apply svC | apply liC | apply lbC | apply lsC | apply vIc | apply vBc | apply vSc | apply vLc | apply mapC | apply Hc_sParse0La | apply Ec_sParse0La | apply Sc_sParse0La | apply Hc_sParse0Lb | apply Ec_sParse0Lb | apply Sc_sParse0Lb | apply EW0c_sParse0Lb | apply EW1c_sParse0Lb | apply EW0c_sParse0La | apply c_sHead | apply c_sCopyY | apply c_sIsRules)
  all_goals (try simp only [std] at *)
  all_goals (try (first | with_reducible apply c_sHead | with_reducible apply c_sCopyY | with_reducible apply c_sIsRules | (simp only [← List.map_append]; first | with_reducible apply c_sHead | with_reducible apply c_sCopyY | with_reducible apply c_sIsRules)))
  all_goals (try (first | with_reducible rfl | omega | assumption | (refine (decide_eq_true ?_).symm; assumption) | (refine (decide_eq_false ?_).symm; assumption) | (refine rowGet ?_; (first | omega | (simp only [std]; omega) | grind)) | (refine getC ?_ rfl; (first | omega | (simp only [std]; omega) | grind)) | (show (_ : St) = _; rfl) | grind [snocI, snocS, rowSnoc]))
def prsB (L : List Binding) (s : Syntax) : Bool := areB L && isSyn s && prsB0 L s
def prsO (L : List Binding) (s : Syntax) : Rules := if prsB L s = true then prsR s else ⟨[], [], []⟩
abbrev P_c_iPrs (L : List Binding) (s : Syntax) : Prop := CallOK Tryz.prog 43 [] [ll (L.map bindingC), syntaxA s] (rulesO (prsO L s)) (.tup [rulesR (prsO L s) 0, lb (prsB L s)])
theorem run_c_iPrs (L : List Binding) (s : Syntax) : aexec Tryz.prog (Option.getD (Func.body Tryz.f43) Code.skip) (entry [] [ll (List.map bindingC L), syntaxA s] 20) [Orc.call
 [Mode.rd] [] (AV.sv (lb (areB L))), Orc.br [Orc.bool true, Orc.ghost (Ghost.nilbox 1 0 true 5), Orc.ghost (Ghost.nilbox 1 1 true 5), Orc.ghost (Ghost.nilbox 1 2 true 5), Orc.fin
 [2, 3, 4]] [Orc.call [Mode.rd] [] (AV.sv (lb (isSyn s))), Orc.br [Orc.ghost (Ghost.nilbox 1 0 true 5), Orc.ghost (Ghost.nilbox 1 1 true 5), Orc.ghost (Ghost.nilbox 1 2 true 5),
 Orc.fin [2, 3, 4]] [Orc.call [Mode.rd, Mode.rd] (rulesO (prsO0 L s)) (AV.tup [rulesR (prsO0 L s) 0, lb (prsB0 L s)]), Orc.fin [2, 3, 4]]]] (finK Tryz.prog [ResultVar.cell 4 78,
 ResultVar.tmp 5] (rulesO (prsO L s)) (AV.tup [rulesR (prsO L s) 0, lb (prsB L s)])) = (P_c_iAre L ∧ ((!areB L) = true → true = true ∧ ObsEq [Ob.arr true 5 [], Ob.arr true 5 [],
 Ob.arr true 5 []] [Ob.arr true 5 (List.map syntaxC (Rules.literals (prsO L s))), Ob.arr true 5 (List.map syntaxC (Rules.patterns (prsO L s))), Ob.arr true 5 (List.map syntaxC
 (Rules.templates (prsO L s)))] ∧ AV.tup [SV.agg [AC.ref 0, AC.ref 1, AC.ref 2], lb false] = AV.tup [SV.agg [AC.ref 0, AC.ref 1, AC.ref 2], lb (prsB L s)]) ∧ ((!areB L) = false →
 P_c_iIsSyntax s ∧ ((!isSyn s) = true → ObsEq [Ob.arr true 5 [], Ob.arr true 5 [], Ob.arr true 5 []] [Ob.arr true 5 (List.map syntaxC (Rules.literals (prsO L s))), Ob.arr true 5
 (List.map syntaxC (Rules.patterns (prsO L s))), Ob.arr true 5 (List.map syntaxC (Rules.templates (prsO L s)))] ∧ AV.tup [SV.agg [AC.ref 0, AC.ref 1, AC.ref 2], lb false] = AV.tup
 [SV.agg [AC.ref 0, AC.ref 1, AC.ref 2], lb (prsB L s)]) ∧ ((!isSyn s) = false → P_c_iParse0 L s ∧ ObsEq [Ob.arr true 5 (List.map syntaxC (Rules.literals (prsO0 L s))), Ob.arr true
 5 (List.map syntaxC (Rules.patterns (prsO0 L s))), Ob.arr true 5 (List.map syntaxC (Rules.templates (prsO0 L s)))] [Ob.arr true 5 (List.map syntaxC (Rules.literals (prsO L s))),
 Ob.arr true 5 (List.map syntaxC (Rules.patterns (prsO L s))), Ob.arr true 5 (List.map syntaxC (Rules.templates (prsO L s)))] ∧ AV.tup [SV.agg [AC.ref 0, AC.ref 1, AC.ref 2], lb
 (prsB0 L s)] = AV.tup [SV.agg [AC.ref 0, AC.ref 1, AC.ref 2], lb (prsB L s)]))) := by kernel_rfl
theorem c_iPrs (L : List Binding) (s : Syntax) (h : L.length ≤ 1048577 ∧ sumBy wB L ≤ 1048577 ∧ wY s ≤ 1048576)  : P_c_iPrs L s := by
  refine CallOK.ofRun wide (run_c_iPrs L s) Tryz.call43 Tryz.func43 rfl rfl rfl ?_
  have g1 : prsB L s = (areB L && isSyn s && prsB0 L s) := rfl
  have g2 : prsB L s = false → prsO L s = ⟨[], [], []⟩ := fun h => by unfold prsO; rw [h]; rfl
  have g3 : areB L = true → isSyn s = true → prsO L s = prsO0 L s := fun h1 h2 => by unfold prsO prsO0 prsB; rw [h1, h2]; rfl
  with_reducible repeat' (first | apply And.intro | exact flatI | exact flatS | exact rowLens | (intro; skip) | apply obsN | apply obsC | apply obA | apply obM | apply obB | apply svA | apply tupA | apply lcA | apply lcS | apply svC | apply liC | apply lbC | apply lsC | apply vIc | apply vBc | apply vSc | apply vLc | apply mapC | apply c_iAre | apply c_iIsSyntax | apply c_iParse0)
  all_goals (try simp only [std] at *)
  all_goals (try (first | with_reducible apply c_iAre | with_reducible apply c_iIsSyntax | with_reducible apply c_iParse0 | (simp only [← List.map_append]; first | with_reducible apply c_iAre | with_reducible apply c_iIsSyntax | with_reducible apply c_iParse0)))
  all_goals (try (first | with_reducible rfl | omega | assumption | (refine (decide_eq_true ?_).symm; assumption) | (refine (decide_eq_false ?_).symm; assumption) | (refine rowGet ?_; (first | omega | (simp only [std]; omega) | grind)) | (refine getC ?_ rfl; (first | omega | (simp only [std]; omega) | grind)) | (show (_ : St) = _; rfl) | grind [snocI, snocS, rowSnoc]))
abbrev P_c_sPrs (L : List Binding) (s : Syntax) : Prop := CallOK Tryz.prog 42 [] [ll (L.map bindingC), syntaxA s] (rulesO (prsO L s)) (.tup [rulesR (prsO L s) 0, lb (prsB L s)])
theorem run_c_sPrs (L : List Binding) (s : Syntax) : aexec Tryz.prog (Option.getD (Func.body Tryz.f42) Code.skip) (entry [] [ll (List.map bindingC L), syntaxA s] 20) [Orc.call
 [Mode.rd] [] (AV.sv (lb (areB L))), Orc.br [Orc.bool true, Orc.ghost (Ghost.nilbox 1 0 true 5), Orc.ghost (Ghost.nilbox 1 1 true 5), Orc.ghost (Ghost.nilbox 1 2 true 5), Orc.fin
 [2, 3, 4]] [Orc.call [Mode.rd] [] (AV.sv (lb (isSyn s))), Orc.br [Orc.ghost (Ghost.nilbox 1 0 true 5), Orc.ghost (Ghost.nilbox 1 1 true 5), Orc.ghost (Ghost.nilbox 1 2 true 5),
 Orc.fin [2, 3, 4]] [Orc.call [Mode.rd, Mode.rd] (rulesO (prsO0 L s)) (AV.tup [rulesR (prsO0 L s) 0, lb (prsB0 L s)]), Orc.fin [2, 3, 4]]]] (finK Tryz.prog [ResultVar.cell 4 78,
 ResultVar.tmp 5] (rulesO (prsO L s)) (AV.tup [rulesR (prsO L s) 0, lb (prsB L s)])) = (P_c_sAre L ∧ ((!areB L) = true → true = true ∧ ObsEq [Ob.arr true 5 [], Ob.arr true 5 [],
 Ob.arr true 5 []] [Ob.arr true 5 (List.map syntaxC (Rules.literals (prsO L s))), Ob.arr true 5 (List.map syntaxC (Rules.patterns (prsO L s))), Ob.arr true 5 (List.map syntaxC
 (Rules.templates (prsO L s)))] ∧ AV.tup [SV.agg [AC.ref 0, AC.ref 1, AC.ref 2], lb false] = AV.tup [SV.agg [AC.ref 0, AC.ref 1, AC.ref 2], lb (prsB L s)]) ∧ ((!areB L) = false →
 P_c_sIsSyntax s ∧ ((!isSyn s) = true → ObsEq [Ob.arr true 5 [], Ob.arr true 5 [], Ob.arr true 5 []] [Ob.arr true 5 (List.map syntaxC (Rules.literals (prsO L s))), Ob.arr true 5
 (List.map syntaxC (Rules.patterns (prsO L s))), Ob.arr true 5 (List.map syntaxC (Rules.templates (prsO L s)))] ∧ AV.tup [SV.agg [AC.ref 0, AC.ref 1, AC.ref 2], lb false] = AV.tup
 [SV.agg [AC.ref 0, AC.ref 1, AC.ref 2], lb (prsB L s)]) ∧ ((!isSyn s) = false → P_c_sParse0 L s ∧ ObsEq [Ob.arr true 5 (List.map syntaxC (Rules.literals (prsO0 L s))), Ob.arr true
 5 (List.map syntaxC (Rules.patterns (prsO0 L s))), Ob.arr true 5 (List.map syntaxC (Rules.templates (prsO0 L s)))] [Ob.arr true 5 (List.map syntaxC (Rules.literals (prsO L s))),
 Ob.arr true 5 (List.map syntaxC (Rules.patterns (prsO L s))), Ob.arr true 5 (List.map syntaxC (Rules.templates (prsO L s)))] ∧ AV.tup [SV.agg [AC.ref 0, AC.ref 1, AC.ref 2], lb
 (prsB0 L s)] = AV.tup [SV.agg [AC.ref 0, AC.ref 1, AC.ref 2], lb (prsB L s)]))) := by kernel_rfl
theorem c_sPrs (L : List Binding) (s : Syntax) (h : L.length ≤ 1048577 ∧ sumBy wB L ≤ 1048577 ∧ wY s ≤ 1048576)  : P_c_sPrs L s := by
  refine CallOK.ofRun wide (run_c_sPrs L s) Tryz.call42 Tryz.func42 rfl rfl rfl ?_
  have g1 : prsB L s = (areB L && isSyn s && prsB0 L s) := rfl
  have g2 : prsB L s = false → prsO L s = ⟨[], [], []⟩ := fun h => by unfold prsO; rw [h]; rfl
  have g3 : areB L = true → isSyn s = true → prsO L s = prsO0 L s := fun h1 h2 => by unfold prsO prsO0 prsB; rw [h1, h2]; rfl
  with_reducible repeat' (first | apply And.intro | exact flatI | exact flatS | exact rowLens | (intro; skip) | apply obsN | apply obsC | apply obA | apply obM | apply obB | apply svA | apply tupA | apply lcA | apply lcS | apply svC | apply liC | apply lbC | apply lsC | apply vIc | apply vBc | apply vSc | apply vLc | apply mapC | apply c_sAre | apply c_sIsSyntax | apply c_sParse0)
  all_goals (try simp only [std] at *)
  all_goals (try (first | with_reducible apply c_sAre | with_reducible apply c_sIsSyntax | with_reducible apply c_sParse0 | (simp only [← List.map_append]; first | with_reducible apply c_sAre | with_reducible apply c_sIsSyntax | with_reducible apply c_sParse0)))
  all_goals (try (first | with_reducible rfl | omega | assumption | (refine (decide_eq_true ?_).symm; assumption) | (refine (decide_eq_false ?_).symm; assumption) | (refine rowGet ?_; (first | omega | (simp only [std]; omega) | grind)) | (refine getC ?_ rfl; (first | omega | (simp only [std]; omega) | grind)) | (show (_ : St) = _; rfl) | grind [snocI, snocS, rowSnoc]))
end Go.Proofs.YtegbadciefljcaaGreat
end
