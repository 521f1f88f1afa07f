/- Part 4 of the proof: The program's IsExpander returns what the reference's returns, for all arguments. No condition. -/
import Derived.Test.YtegbadciefljcaaGreatIsE3
section
namespace Go.Proofs.YtegbadciefljcaaGreat
open Go Go.Proofs.YtegbadciefljcaaGreat.Ab
set_option linter.unusedVariables false
set_option linter.unusedSimpArgs false
set_option maxHeartbeats 4000000
def bndM (k : Int) : Int := if k = 1 then 11 else if k = 2 then 13 else if k = 3 then 99999 else if k = 4 then 99999 else -1
def isBnd (b : Binding) : Bool := isSym b.text && okSc b.scopes && decide (0 ≤ b.number ∧ b.number ≤ bndM b.kind)
abbrev P_c_sIsBnd (b : Binding) : Prop := CallOK Tryz.prog 150 [] [bindingA b] [] (.sv (lb (isBnd b)))
abbrev a1_c_sIsBnd (b : Binding) := (isSym (Binding.text b) = false → false = false ∧ ObsEq [] [] ∧ AV.sv (lb false) = AV.sv (lb (isBnd b)))
abbrev a3_c_sIsBnd (b : Binding) := (okSc (Binding.scopes b) = false → ObsEq [] [] ∧ AV.sv (lb false) = AV.sv (lb (isBnd b)))
abbrev a2_c_sIsBnd (b : Binding) := (isSym (Binding.text b) = true → P_c_sScopes (Binding.scopes b) ∧ (okSc (Binding.scopes b) = true → P_c_l1In (Binding.number b) 0 99999 ∧ ObsEq
 [] [] ∧ AV.sv (lb (decide (0 ≤ Binding.number b ∧ Binding.number b ≤ 99999))) = AV.sv (lb (isBnd b))) ∧ (a3_c_sIsBnd b))
theorem run_c_sIsBnd (b : Binding) : aexec Tryz.prog (Option.getD (Func.body Tryz.f150) Code.skip) (entry [] [bindingA b] 33) [Orc.br [Orc.call [] [Ob.arr true 1 (List.map strC
 formNames)] (AV.sv (SV.one (AC.ref 0))), Orc.call [Mode.rd] [] (AV.sv (lb (isSym (Binding.text b)))), Orc.br [Orc.call [Mode.rd] [] (AV.sv (lb (okSc (Binding.scopes b)))), Orc.br
 [Orc.call [Mode.rd, Mode.rd, Mode.rd] [] (AV.sv (lb (decide (0 ≤ Binding.number b ∧ Binding.number b ≤ 11)))), Orc.fin []] [Orc.fin []]] [Orc.bool false, Orc.fin []]] [Orc.br
 [Orc.call [] [Ob.arr true 1 (List.map strC primNames)] (AV.sv (SV.one (AC.ref 0))), Orc.call [Mode.rd] [] (AV.sv (lb (isSym (Binding.text b)))), Orc.br [Orc.call [Mode.rd] []
 (AV.sv (lb (okSc (Binding.scopes b)))), Orc.br [Orc.call [Mode.rd, Mode.rd, Mode.rd] [] (AV.sv (lb (decide (0 ≤ Binding.number b ∧ Binding.number b ≤ 13)))), Orc.fin []] [Orc.fin
 []]] [Orc.bool false, Orc.fin []]] [Orc.br [Orc.bool true, Orc.call [Mode.rd] [] (AV.sv (lb (isSym (Binding.text b)))), Orc.br [Orc.call [Mode.rd] [] (AV.sv (lb (okSc
 (Binding.scopes b)))), Orc.br [Orc.call [Mode.rd, Mode.rd, Mode.rd] [] (AV.sv (lb (decide (0 ≤ Binding.number b ∧ Binding.number b ≤ 99999)))), Orc.fin []] [Orc.fin []]] [Orc.bool
 false, Orc.fin []]] [Orc.br [Orc.call [Mode.rd] [] (AV.sv (lb (isSym (Binding.text b)))), Orc.br [Orc.call [Mode.rd] [] (AV.sv (lb (okSc (Binding.scopes b)))), Orc.br [Orc.call
 [Mode.rd, Mode.rd, Mode.rd] [] (AV.sv (lb (decide (0 ≤ Binding.number b ∧ Binding.number b ≤ 99999)))), Orc.fin []] [Orc.fin []]] [Orc.bool false, Orc.fin []]] [Orc.call [Mode.rd]
 [] (AV.sv (lb (isSym (Binding.text b)))), Orc.br [Orc.call [Mode.rd] [] (AV.sv (lb (okSc (Binding.scopes b)))), Orc.br [Orc.call [Mode.rd, Mode.rd, Mode.rd] [] (AV.sv (lb (decide
 (0 ≤ Binding.number b ∧ Binding.number b ≤ (-1 : Int))))), Orc.fin []] [Orc.fin []]] [Orc.bool false, Orc.fin []]]]]]] (finK Tryz.prog [ResultVar.tmp 2] [] (AV.sv (lb (isBnd b))))
 = ((decide (Binding.kind b = 1) = true → P_c_sFormNames ∧ (12 ≤ 9223372036854775807 → rng IntKind.i64 11 ∧ P_c_sIsSymbol (Binding.text b) ∧ (isSym (Binding.text b) = true →
 P_c_sScopes (Binding.scopes b) ∧ (okSc (Binding.scopes b) = true → P_c_l1In (Binding.number b) 0 11 ∧ ObsEq [] [] ∧ AV.sv (lb (decide (0 ≤ Binding.number b ∧ Binding.number b ≤
 11))) = AV.sv (lb (isBnd b))) ∧ (a3_c_sIsBnd b)) ∧ (a1_c_sIsBnd b))) ∧ (decide (Binding.kind b = 1) = false → (decide (Binding.kind b = 2) = true → P_c_sPrimitiveNames ∧ (14 ≤
 9223372036854775807 → rng IntKind.i64 13 ∧ P_c_sIsSymbol (Binding.text b) ∧ (isSym (Binding.text b) = true → P_c_sScopes (Binding.scopes b) ∧ (okSc (Binding.scopes b) = true →
 P_c_l1In (Binding.number b) 0 13 ∧ ObsEq [] [] ∧ AV.sv (lb (decide (0 ≤ Binding.number b ∧ Binding.number b ≤ 13))) = AV.sv (lb (isBnd b))) ∧ (a3_c_sIsBnd b)) ∧ (a1_c_sIsBnd b)))
 ∧ (decide (Binding.kind b = 2) = false → (decide (Binding.kind b = 3) = true → true = true ∧ P_c_sIsSymbol (Binding.text b) ∧ (a2_c_sIsBnd b) ∧ (a1_c_sIsBnd b)) ∧ (decide
 (Binding.kind b = 3) = false → (decide (Binding.kind b = 4) = true → P_c_sIsSymbol (Binding.text b) ∧ (a2_c_sIsBnd b) ∧ (a1_c_sIsBnd b)) ∧ (decide (Binding.kind b = 4) = false →
 P_c_sIsSymbol (Binding.text b) ∧ (isSym (Binding.text b) = true → P_c_sScopes (Binding.scopes b) ∧ (okSc (Binding.scopes b) = true → P_c_l1In (Binding.number b) 0 (-1 : Int) ∧
 ObsEq [] [] ∧ AV.sv (lb (decide (0 ≤ Binding.number b ∧ Binding.number b ≤ (-1 : Int)))) = AV.sv (lb (isBnd b))) ∧ (a3_c_sIsBnd b)) ∧ (a1_c_sIsBnd b)))))) := by kernel_rfl
theorem c_sIsBnd (b : Binding)  : P_c_sIsBnd b := by
  refine CallOK.ofRun wide (run_c_sIsBnd b) Tryz.call150 Tryz.func150 rfl rfl rfl ?_
  try delta a1_c_sIsBnd a3_c_sIsBnd a2_c_sIsBnd
  have e1 : formNames.length = 12 := rfl
  have e2 : primNames.length = 14 := rfl
  with_reducible repeat' (first | apply And.intro | exact flatI | exact flatS | exact rowLens | (intro; skip) | apply obsN | apply obsC | apply obA | apply obM | apply obB | apply svA | apply tupA | apply lcA | apply lcS | apply svC | apply liC | apply lbC | apply lsC | apply vIc | apply vBc | apply vSc | apply vLc | apply mapC | apply mIc | apply mOc | apply mSc | apply mLc | apply c_sIsSymbol | apply c_sScopes | apply c_l1In | apply c_sFormNames | apply c_sPrimitiveNames)
  all_goals (try simp only [std] at *)
  all_goals (try (first | with_reducible apply c_sIsSymbol | with_reducible apply c_sScopes | with_reducible apply c_l1In | with_reducible apply c_sFormNames | with_reducible apply c_sPrimitiveNames | (simp only [← List.map_append]; first | with_reducible apply c_sIsSymbol | with_reducible apply c_sScopes | with_reducible apply c_l1In | with_reducible apply c_sFormNames | with_reducible apply c_sPrimitiveNames)))
  all_goals (try (first | with_reducible rfl | omega | assumption | (refine (decide_eq_true ?_).symm; assumption) | (refine (decide_eq_false ?_).symm; assumption) | (refine rowGet ?_; (first | omega | (simp only [std]; omega) | grind)) | (refine getC ?_ rfl; (first | omega | (simp only [std]; omega) | grind)) | exact look_mI | exact look_mO | exact look_mO1 | exact look_mS | exact look_mL | exact upd_mI | exact upd_mO | exact del_mO | exact upd_mS | exact take_mL | (refine upd_mL ?_; grind) | (refine fill_step ?_ ?_; (first | omega | (simp only [std]; omega) | grind); (first | rfl | exact (Row.eq _).trans rfl)) | (refine fill_init ?_; (first | rfl | exact (Row.eq _).trans rfl)) | (show (_ : St) = _; rfl) | grind [isBnd, bndM, snocI, snocS, rowSnoc]))
abbrev P_c_iIsBnd (b : Binding) : Prop := CallOK Tryz.prog 159 [] [bindingA b] [] (.sv (lb (isBnd b)))
theorem run_c_iIsBnd (b : Binding) : aexec Tryz.prog (Option.getD (Func.body Tryz.f159) Code.skip) (entry [] [bindingA b] 40) [Orc.call [Mode.rd] [] (AV.sv (lb (isSym (Binding.text
 b)))), Orc.br [Orc.bool true, Orc.bool true, Orc.fin []] [Orc.call [Mode.rd] [] (AV.sv (lb (okSc (Binding.scopes b)))), Orc.br [Orc.bool true, Orc.fin []] [Orc.br [Orc.fin []]
 [Orc.br [Orc.draw [], Orc.call [] [Ob.arr true 1 (List.map strC formNames)] (AV.sv (SV.one (AC.ref 0))), Orc.fin []] [Orc.br [Orc.draw [], Orc.call [] [Ob.arr true 1 (List.map
 strC primNames)] (AV.sv (SV.one (AC.ref 0))), Orc.fin []] [Orc.br [Orc.bool true, Orc.fin []] [Orc.br [Orc.fin []] [Orc.fin []]]]]]]]] (finK Tryz.prog [ResultVar.tmp 2] [] (AV.sv
 (lb (isBnd b)))) = (P_c_iIsSymbol (Binding.text b) ∧ ((!isSym (Binding.text b)) = true → true = true ∧ true = true ∧ ObsEq [] [] ∧ AV.sv (lb false) = AV.sv (lb (isBnd b))) ∧
 ((!isSym (Binding.text b)) = false → P_c_iScopes (Binding.scopes b) ∧ ((!okSc (Binding.scopes b)) = true → true = true ∧ ObsEq [] [] ∧ AV.sv (lb false) = AV.sv (lb (isBnd b))) ∧
 ((!okSc (Binding.scopes b)) = false → (decide (Binding.number b < 0) = true → ObsEq [] [] ∧ AV.sv (lb false) = AV.sv (lb (isBnd b))) ∧ (decide (Binding.number b < 0) = false →
 (decide (Binding.kind b = 1) = true → P_c_iFormNames ∧ (12 ≤ 9223372036854775807 → ObsEq [] [] ∧ AV.sv (lb (decide (Binding.number b < 12))) = AV.sv (lb (isBnd b)))) ∧ (decide
 (Binding.kind b = 1) = false → (decide (Binding.kind b = 2) = true → P_c_iPrimitiveNames ∧ (14 ≤ 9223372036854775807 → ObsEq [] [] ∧ AV.sv (lb (decide (Binding.number b < 14))) =
 AV.sv (lb (isBnd b)))) ∧ (decide (Binding.kind b = 2) = false → (decide (Binding.kind b = 3) = true → true = true ∧ ObsEq [] [] ∧ AV.sv (lb (decide (Binding.number b ≤ 99999))) =
 AV.sv (lb (isBnd b))) ∧ (decide (Binding.kind b = 3) = false → (decide (Binding.kind b = 4) = true → ObsEq [] [] ∧ AV.sv (lb (decide (Binding.number b ≤ 99999))) = AV.sv (lb
 (isBnd b))) ∧ (decide (Binding.kind b = 4) = false → ObsEq [] [] ∧ AV.sv (lb false) = AV.sv (lb (isBnd b)))))))))) := by kernel_rfl
theorem c_iIsBnd (b : Binding)  : P_c_iIsBnd b := by
  refine CallOK.ofRun wide (run_c_iIsBnd b) Tryz.call159 Tryz.func159 rfl rfl rfl ?_
  have e1 : formNames.length = 12 := rfl
  have e2 : primNames.length = 14 := rfl
  with_reducible repeat' (first | apply And.intro | exact flatI | exact flatS | exact rowLens | (intro; skip) | apply obsN | apply obsC | apply obA | apply obM | apply obB | apply svA | apply tupA | apply lcA | apply lcS | apply svC | apply liC | apply lbC | apply lsC | apply vIc | apply vBc | apply vSc | apply vLc | apply mapC | apply mIc | apply mOc | apply mSc | apply mLc | apply c_iIsSymbol | apply c_iScopes | apply c_iFormNames | apply c_iPrimitiveNames)
  all_goals (try simp only [std] at *)
  all_goals (try (first | with_reducible apply c_iIsSymbol | with_reducible apply c_iScopes | with_reducible apply c_iFormNames | with_reducible apply c_iPrimitiveNames | (simp only [← List.map_append]; first | with_reducible apply c_iIsSymbol | with_reducible apply c_iScopes | with_reducible apply c_iFormNames | with_reducible apply c_iPrimitiveNames)))
  all_goals (try (first | with_reducible rfl | omega | assumption | (refine (decide_eq_true ?_).symm; assumption) | (refine (decide_eq_false ?_).symm; assumption) | (refine rowGet ?_; (first | omega | (simp only [std]; omega) | grind)) | (refine getC ?_ rfl; (first | omega | (simp only [std]; omega) | grind)) | exact look_mI | exact look_mO | exact look_mO1 | exact look_mS | exact look_mL | exact upd_mI | exact upd_mO | exact del_mO | exact upd_mS | exact take_mL | (refine upd_mL ?_; grind) | (refine fill_step ?_ ?_; (first | omega | (simp only [std]; omega) | grind); (first | rfl | exact (Row.eq _).trans rfl)) | (refine fill_init ?_; (first | rfl | exact (Row.eq _).trans rfl)) | (show (_ : St) = _; rfl) | grind [isBnd, bndM, snocI, snocS, rowSnoc]))
def clB (t : ByteArray) (s : List Int) (x : Binding) : Bool := decide (x.text = t) && decide (x.scopes = s)
def clash (L : List Binding) (t : ByteArray) (s : List Int) : Bool := L.any (clB t s)
abbrev P_c_sClash (L : List Binding) (b : Binding) : Prop := CallOK Tryz.prog 151 [] [ll (L.map bindingC), bindingA b] [] (.sv (lb (clash L b.text b.scopes)))
def Tc_sClashLa (L : List Binding) (b : Binding) (x0 : SV) : St := St.mk (regsOf 26 [(3, AV.sv (SV.one (AC.ptr 0 0))), (7, AV.sv (ll (List.map bindingC L))), (8, AV.sv (li
 (↑(List.length (List.map bindingC L)) : Int))), (9, AV.sv x0)]) [Ob.box (vals (bindingF b))] 0 
def Lc_sClashLa (L : List Binding) (b : Binding) (k : Nat) : St := Tc_sClashLa L b (li (↑k : Int)) 
def Ic_sClashLa (L : List Binding) (b : Binding) : Nat → St → Prop := Head (Lc_sClashLa L b) (fun k => k ≤ List.length L ∧ List.length L ≤ 9223372036854775807 ∧ clash (List.take k
 L) (Binding.text b) (Binding.scopes b) = false) fun k => List.length L - k 
def W0c_sClashLa (L : List Binding) (b : Binding) : St := St.mk (regsOf 26 []) [] 0 
def W1c_sClashLa (L : List Binding) (b : Binding) (x0 : SV) : St := St.mk (regsOf 26 [(4, AV.sv x0)]) [] 0 
def Yc_sClashLa (L : List Binding) (b : Binding) : List (Prop × AEx × St) := [(clash L (Binding.text b) (Binding.scopes b) = false, AEx.exit 0, W0c_sClashLa L b), (clash L
 (Binding.text b) (Binding.scopes b) = true, AEx.ret, W1c_sClashLa L b (lb true))]
theorem Hc_sClashLa {L : List Binding} {b : Binding} {k : Nat} {m : Nat} (h : (fun k => k ≤ List.length L ∧ List.length L ≤ 9223372036854775807 ∧ clash (List.take k L)
 (Binding.text b) (Binding.scopes b) = false) k) (hm : (fun k => List.length L - k) k = m) : Ic_sClashLa L b m (Lc_sClashLa L b k) := hm ▸ Head.mk h
theorem Ec_sClashLa {L : List Binding} {b : Binding} {k : Nat} {x0 : SV} (h0 : x0 = (li (↑k : Int))) : Tc_sClashLa L b x0 = Lc_sClashLa L b k := by
  rw [h0]
  rfl
theorem EW1c_sClashLa {L : List Binding} {b : Binding} {x0 y0 : SV} (h0 : x0 = y0) : W1c_sClashLa L b x0 = W1c_sClashLa L b y0 := by rw [h0]
theorem run_c_sClashLa (L : List Binding) (b : Binding) (k : Nat) : aexec Tryz.prog (loopAt Tryz.f151 0) (Lc_sClashLa L b k) [Orc.br [Orc.cells (bindingF (List.getD L k default)),
 Orc.br [Orc.call [Mode.rd, Mode.rd] [] (AV.sv (lb (decide (Binding.scopes (List.getD L k default) = Binding.scopes b)))), Orc.br [Orc.ghost (Ghost.sel [] [4]), Orc.out 1]
 [Orc.ghost (Ghost.sel [0] [3, 7, 8, 9]), Orc.goto (List.length L - (k + 1)) (Lc_sClashLa L b (k + 1))]] [Orc.bool false, Orc.ghost (Ghost.sel [0] [3, 7, 8, 9]), Orc.goto
 (List.length L - (k + 1)) (Lc_sClashLa L b (k + 1))]] [Orc.ghost (Ghost.sel [] []), Orc.out 0]] (loopK (Ic_sClashLa L b) (Yc_sClashLa L b) (List.length L - k)) = ((decide ((↑k :
 Int) < (↑(List.length (List.map bindingC L)) : Int)) = true → (0 ≤ (↑k : Int) ∧ (List.map bindingC L)[Int.toNat (↑k : Int)]? = some (bindingF (List.getD L k default))) ∧ (decide
 (Array.toList (ByteArray.data (Binding.text (List.getD L k default))) = Array.toList (ByteArray.data (Binding.text b))) = true → P_c_sSameInts (Binding.scopes (List.getD L k
 default)) (Binding.scopes b) ∧ (decide (Binding.scopes (List.getD L k default) = Binding.scopes b) = true → clash L (Binding.text b) (Binding.scopes b) = true ∧ W1c_sClashLa L b
 (lb true) = W1c_sClashLa L b (lb true)) ∧ (decide (Binding.scopes (List.getD L k default) = Binding.scopes b) = false → rng IntKind.i64 ((↑k : Int) + 1) ∧ List.length L - (k + 1)
 < List.length L - k ∧ Tc_sClashLa L b (li ((↑k : Int) + 1)) = Lc_sClashLa L b (k + 1) ∧ Ic_sClashLa L b (List.length L - (k + 1)) (Lc_sClashLa L b (k + 1)))) ∧ (decide
 (Array.toList (ByteArray.data (Binding.text (List.getD L k default))) = Array.toList (ByteArray.data (Binding.text b))) = false → false = false ∧ rng IntKind.i64 ((↑k : Int) + 1)
 ∧ List.length L - (k + 1) < List.length L - k ∧ Tc_sClashLa L b (li ((↑k : Int) + 1)) = Lc_sClashLa L b (k + 1) ∧ Ic_sClashLa L b (List.length L - (k + 1)) (Lc_sClashLa L b (k +
 1)))) ∧ (decide ((↑k : Int) < (↑(List.length (List.map bindingC L)) : Int)) = false → clash L (Binding.text b) (Binding.scopes b) = false ∧ W0c_sClashLa L b = W0c_sClashLa L b))
 := by kernel_rfl
theorem Sc_sClashLa (L : List Binding) (b : Binding)  : LoopSem Tryz.prog (loopAt Tryz.f151 0) (Ic_sClashLa L b) (Yc_sClashLa L b) := by
  refine LoopSem.ofHead wide fun k h => ⟨_, _, run_c_sClashLa L b k, ?_⟩
  with_reducible repeat' (first | apply And.intro | exact flatI | exact flatS | exact rowLens | (intro; skip) | apply obsN | apply obsC | apply obA | apply obM | apply obB | apply svA | apply tupA | apply lcA | apply lcS | apply svC | apply liC | apply lbC | apply lsC | apply vIc | apply vBc | apply vSc | apply vLc | apply mapC | apply mIc | apply mOc | apply mSc | apply mLc | apply Hc_sClashLa | apply Ec_sClashLa | apply EW1c_sClashLa | apply c_sSameInts)
  all_goals (try simp only [std] at *)
  all_goals (try (first | with_reducible apply c_sSameInts | (simp only [← List.map_append]; first | with_reducible apply c_sSameInts)))
  all_goals (try (first | with_reducible rfl | omega | assumption | (refine (decide_eq_true ?_).symm; assumption) | (refine (decide_eq_false ?_).symm; assumption) | (refine rowGet ?_; (first | omega | (simp only [std]; omega) | grind)) | (refine getC ?_ rfl; (first | omega | (simp only [std]; omega) | grind)) | exact look_mI | exact look_mO | exact look_mO1 | exact look_mS | exact look_mL | exact upd_mI | exact upd_mO | exact del_mO | exact upd_mS | exact take_mL | (refine upd_mL ?_; grind) | (refine fill_step ?_ ?_; (first | omega | (simp only [std]; omega) | grind); (first | rfl | exact (Row.eq _).trans rfl)) | (refine fill_init ?_; (first | rfl | exact (Row.eq _).trans rfl)) | (show (_ : St) = _; rfl) | grind [take_get, clash, clB, getD_mem', bytes_ext, snocI, snocS, rowSnoc]))
theorem run_c_sClash (L : List Binding) (b : Binding) : aexec Tryz.prog (Option.getD (Func.body Tryz.f151) Code.skip) (entry [] [ll (List.map bindingC L), bindingA b] 26)
 [Orc.ghost (Ghost.sel [0] [3, 7, 8, 9]), Orc.loop (List.length L - 0) (Lc_sClashLa L b 0) (Ic_sClashLa L b) [(clash L (Binding.text b) (Binding.scopes b) = false, AEx.exit 0,
 W0c_sClashLa L b, [Orc.fin []]), (clash L (Binding.text b) (Binding.scopes b) = true, AEx.ret, W1c_sClashLa L b (lb true), [Orc.fin []])]] (finK Tryz.prog [ResultVar.tmp 4] []
 (AV.sv (lb (clash L (Binding.text b) (Binding.scopes b))))) = (List.length (List.map bindingC L) ≤ 9223372036854775807 → Tc_sClashLa L b (li 0) = Lc_sClashLa L b 0 ∧ Ic_sClashLa L
 b (List.length L - 0) (Lc_sClashLa L b 0) ∧ LoopSem Tryz.prog (loopAt Tryz.f151 0) (Ic_sClashLa L b) (Yc_sClashLa L b) ∧ (clash L (Binding.text b) (Binding.scopes b) = false →
 ObsEq [] [] ∧ AV.sv (lb false) = AV.sv (lb (clash L (Binding.text b) (Binding.scopes b)))) ∧ (clash L (Binding.text b) (Binding.scopes b) = true → ObsEq [] [] ∧ AV.sv (lb true) =
 AV.sv (lb (clash L (Binding.text b) (Binding.scopes b)))) ∧ True) := by kernel_rfl
theorem c_sClash (L : List Binding) (b : Binding)  : P_c_sClash L b := by
  refine CallOK.ofRun wide (run_c_sClash L b) Tryz.call151 Tryz.func151 rfl rfl rfl ?_
  with_reducible repeat' (first | apply And.intro | exact flatI | exact flatS | exact rowLens | (intro; skip) | apply obsN | apply obsC | apply obA | apply obM | apply obB | apply svA | apply tupA | apply lcA | apply lcS | apply svC | apply liC | apply lbC | apply lsC | apply vIc | apply vBc | apply vSc | apply vLc | apply mapC | apply mIc | apply mOc | apply mSc | apply mLc | apply Hc_sClashLa | apply Ec_sClashLa | apply Sc_sClashLa | apply EW1c_sClashLa | apply c_sSameInts)
  all_goals (try simp only [std] at *)
  all_goals (try (first | with_reducible apply c_sSameInts | (simp only [← List.map_append]; first | with_reducible apply c_sSameInts)))
  all_goals (try (first | with_reducible rfl | omega | assumption | (refine (decide_eq_true ?_).symm; assumption) | (refine (decide_eq_false ?_).symm; assumption) | (refine rowGet ?_; (first | omega | (simp only [std]; omega) | grind)) | (refine getC ?_ rfl; (first | omega | (simp only [std]; omega) | grind)) | exact look_mI | exact look_mO | exact look_mO1 | exact look_mS | exact look_mL | exact upd_mI | exact upd_mO | exact del_mO | exact upd_mS | exact take_mL | (refine upd_mL ?_; grind) | (refine fill_step ?_ ?_; (first | omega | (simp only [std]; omega) | grind); (first | rfl | exact (Row.eq _).trans rfl)) | (refine fill_init ?_; (first | rfl | exact (Row.eq _).trans rfl)) | (show (_ : St) = _; rfl) | grind [clash, snocI, snocS, rowSnoc]))
def areTo (L : List Binding) : Nat → Bool
  | 0 => true
  | k + 1 => areTo L k && (isBnd (L.getD k default) && !clash (L.take k) (L.getD k default).text (L.getD k default).scopes)
theorem areTo_le (L : List Binding) : ∀ (m k : Nat), k ≤ m → areTo L m = true → areTo L k = true
  | 0, k, h, _ => by
    obtain rfl : k = 0 := by omega
    rfl
  | m + 1, k, h, ht => by
    by_cases e : k = m + 1
    · rw [e]; exact ht
    · refine areTo_le L m k (by omega) ?_
      simp only [areTo, Bool.and_eq_true] at ht; exact ht.1
def areB (L : List Binding) : Bool := areTo L L.length && decide ((L.length : Int) ≤ 1000)
abbrev P_c_sAre (L : List Binding) : Prop := CallOK Tryz.prog 82 [] [ll (L.map bindingC)] [] (.sv (lb (areB L)))
def Tc_sAreLa (L : List Binding) (x0 : SV) : St := St.mk (regsOf 26 [(0, AV.sv (ll (List.map bindingC L))), (5, AV.sv (ll (List.map bindingC L))), (6, AV.sv (li (↑(List.length
 (List.map bindingC L)) : Int))), (7, AV.sv x0)]) [] 0 
def Lc_sAreLa (L : List Binding) (k : Nat) : St := Tc_sAreLa L (li (↑k : Int)) 
def Ic_sAreLa (L : List Binding) : Nat → St → Prop := Head (Lc_sAreLa L) (fun k => k ≤ List.length L ∧ List.length L ≤ 9223372036854775807 ∧ areTo L k = true) fun k => List.length
 L - k 
def W0c_sAreLa (L : List Binding) : St := St.mk (regsOf 26 [(0, AV.sv (ll (List.map bindingC L)))]) [] 0 
def W1c_sAreLa (L : List Binding) (x0 : SV) : St := St.mk (regsOf 26 [(2, AV.sv x0)]) [] 0 
def Yc_sAreLa (L : List Binding) : List (Prop × AEx × St) := [(areTo L (List.length L) = true, AEx.exit 0, W0c_sAreLa L), (areTo L (List.length L) = false, AEx.ret, W1c_sAreLa L
 (lb false))]
theorem Hc_sAreLa {L : List Binding} {k : Nat} {m : Nat} (h : (fun k => k ≤ List.length L ∧ List.length L ≤ 9223372036854775807 ∧ areTo L k = true) k) (hm : (fun k => List.length L
 - k) k = m) : Ic_sAreLa L m (Lc_sAreLa L k) := hm ▸ Head.mk h
theorem Ec_sAreLa {L : List Binding} {k : Nat} {x0 : SV} (h0 : x0 = (li (↑k : Int))) : Tc_sAreLa L x0 = Lc_sAreLa L k := by
  rw [h0]
  rfl
theorem EW1c_sAreLa {L : List Binding} {x0 y0 : SV} (h0 : x0 = y0) : W1c_sAreLa L x0 = W1c_sAreLa L y0 := by rw [h0]
theorem run_c_sAreLa (L : List Binding) (k : Nat) : aexec Tryz.prog (loopAt Tryz.f82 0) (Lc_sAreLa L k) [Orc.br [Orc.cells (bindingF (List.getD L k default)), Orc.draw [], Orc.call
 [Mode.rd] [] (AV.sv (lb (isBnd (List.getD L k default)))), Orc.br [Orc.bool true, Orc.ghost (Ghost.sel [] [2]), Orc.out 1] [Orc.call [Mode.rd, Mode.rd] [] (AV.sv (lb (clash
 (List.take (Int.toNat (↑k : Int) - 0) (List.drop 0 L)) (Binding.text (List.getD L k default)) (Binding.scopes (List.getD L k default))))), Orc.br [Orc.ghost (Ghost.sel [] [2]),
 Orc.out 1] [Orc.ghost (Ghost.sel [] [0, 5, 6, 7]), Orc.goto (List.length L - (k + 1)) (Lc_sAreLa L (k + 1))]]] [Orc.ghost (Ghost.sel [] [0]), Orc.out 0]] (loopK (Ic_sAreLa L)
 (Yc_sAreLa L) (List.length L - k)) = ((decide ((↑k : Int) < (↑(List.length (List.map bindingC L)) : Int)) = true → (0 ≤ (↑k : Int) ∧ (List.map bindingC L)[Int.toNat (↑k : Int)]? =
 some (bindingF (List.getD L k default))) ∧ P_c_sIsBnd (List.getD L k default) ∧ ((!isBnd (List.getD L k default)) = true → true = true ∧ areTo L (List.length L) = false ∧
 W1c_sAreLa L (lb false) = W1c_sAreLa L (lb false)) ∧ ((!isBnd (List.getD L k default)) = false → 0 ≤ (↑k : Int) ∧ (0 ≤ Int.toNat (↑k : Int) ∧ Int.toNat (↑k : Int) ≤ List.length
 (List.map bindingC L) ∧ ∀ (e : List Cell), e ∈ List.map bindingC L → List.length e = 4) ∧ CallOK Tryz.prog 151 [] [ll (List.take (Int.toNat (↑k : Int) - 0) (List.drop 0 (List.map
 bindingC L))), SV.agg (vals (bindingF (List.getD L k default)))] [] (AV.sv (lb (clash (List.take (Int.toNat (↑k : Int) - 0) (List.drop 0 L)) (Binding.text (List.getD L k default))
 (Binding.scopes (List.getD L k default))))) ∧ (clash (List.take (Int.toNat (↑k : Int) - 0) (List.drop 0 L)) (Binding.text (List.getD L k default)) (Binding.scopes (List.getD L k
 default)) = true → areTo L (List.length L) = false ∧ W1c_sAreLa L (lb false) = W1c_sAreLa L (lb false)) ∧ (clash (List.take (Int.toNat (↑k : Int) - 0) (List.drop 0 L))
 (Binding.text (List.getD L k default)) (Binding.scopes (List.getD L k default)) = false → rng IntKind.i64 ((↑k : Int) + 1) ∧ List.length L - (k + 1) < List.length L - k ∧
 Tc_sAreLa L (li ((↑k : Int) + 1)) = Lc_sAreLa L (k + 1) ∧ Ic_sAreLa L (List.length L - (k + 1)) (Lc_sAreLa L (k + 1))))) ∧ (decide ((↑k : Int) < (↑(List.length (List.map bindingC
 L)) : Int)) = false → areTo L (List.length L) = true ∧ W0c_sAreLa L = W0c_sAreLa L)) := by kernel_rfl
theorem Sc_sAreLa (L : List Binding)  : LoopSem Tryz.prog (loopAt Tryz.f82 0) (Ic_sAreLa L) (Yc_sAreLa L) := by
  refine LoopSem.ofHead wide fun k h => ⟨_, _, run_c_sAreLa L k, ?_⟩
  have g1 := areTo_le L L.length (k + 1)
  have g2 : areTo L (k + 1) = (areTo L k && (isBnd (L.getD k default) && !clash (L.take k) (L.getD k default).text (L.getD k default).scopes)) := rfl
  with_reducible repeat' (first | apply And.intro | exact flatI | exact flatS | exact rowLens | (intro; skip) | apply obsN | apply obsC | apply obA | apply obM | apply obB | apply svA | apply tupA | apply lcA | apply lcS | apply svC | apply liC | apply lbC | apply lsC | apply vIc | apply vBc | apply vSc | apply vLc | apply mapC | apply mIc | apply mOc | apply mSc | apply mLc | apply Hc_sAreLa | apply Ec_sAreLa | apply EW1c_sAreLa | apply c_sIsBnd | apply c_sClash)
  all_goals (try simp only [std] at *)
  all_goals (try (first | with_reducible apply c_sIsBnd | with_reducible apply c_sClash | (simp only [← List.map_append]; first | with_reducible apply c_sIsBnd | with_reducible apply c_sClash)))
  all_goals (try (first | with_reducible rfl | omega | assumption | (refine (decide_eq_true ?_).symm; assumption) | (refine (decide_eq_false ?_).symm; assumption) | (refine rowGet ?_; (first | omega | (simp only [std]; omega) | grind)) | (refine getC ?_ rfl; (first | omega | (simp only [std]; omega) | grind)) | exact look_mI | exact look_mO | exact look_mO1 | exact look_mS | exact look_mL | exact upd_mI | exact upd_mO | exact del_mO | exact upd_mS | exact take_mL | (refine upd_mL ?_; grind) | (refine fill_step ?_ ?_; (first | omega | (simp only [std]; omega) | grind); (first | rfl | exact (Row.eq _).trans rfl)) | (refine fill_init ?_; (first | rfl | exact (Row.eq _).trans rfl)) | (show (_ : St) = _; rfl) | grind [getD_mem', snocI, snocS, rowSnoc]))
theorem run_c_sAre (L : List Binding) : aexec Tryz.prog (Option.getD (Func.body Tryz.f82) Code.skip) (entry [] [ll (List.map bindingC L)] 26) [Orc.ghost (Ghost.sel [] [0, 5, 6,
 7]), Orc.loop (List.length L - 0) (Lc_sAreLa L 0) (Ic_sAreLa L) [(areTo L (List.length L) = true, AEx.exit 0, W0c_sAreLa L, [Orc.fin []]), (areTo L (List.length L) = false,
 AEx.ret, W1c_sAreLa L (lb false), [Orc.fin []])]] (finK Tryz.prog [ResultVar.tmp 2] [] (AV.sv (lb (areB L)))) = (List.length (List.map bindingC L) ≤ 9223372036854775807 →
 Tc_sAreLa L (li 0) = Lc_sAreLa L 0 ∧ Ic_sAreLa L (List.length L - 0) (Lc_sAreLa L 0) ∧ LoopSem Tryz.prog (loopAt Tryz.f82 0) (Ic_sAreLa L) (Yc_sAreLa L) ∧ (areTo L (List.length L)
 = true → List.length (List.map bindingC L) ≤ 9223372036854775807 → ObsEq [] [] ∧ AV.sv (lb (decide ((↑(List.length (List.map bindingC L)) : Int) ≤ 1000))) = AV.sv (lb (areB L))) ∧
 (areTo L (List.length L) = false → ObsEq [] [] ∧ AV.sv (lb false) = AV.sv (lb (areB L))) ∧ True) := by kernel_rfl
theorem c_sAre (L : List Binding)  : P_c_sAre L := by
  refine CallOK.ofRun wide (run_c_sAre L) Tryz.call82 Tryz.func82 rfl rfl rfl ?_
  with_reducible repeat' (first | apply And.intro | exact flatI | exact flatS | exact rowLens | (intro; skip) | apply obsN | apply obsC | apply obA | apply obM | apply obB | apply svA | apply tupA | apply lcA | apply lcS | apply svC | apply liC | apply lbC | apply lsC | apply vIc | apply vBc | apply vSc | apply vLc | apply mapC | apply mIc | apply mOc | apply mSc | apply mLc | apply Hc_sAreLa | apply Ec_sAreLa | apply Sc_sAreLa | apply EW1c_sAreLa | apply c_sIsBnd | apply c_sClash)
  all_goals (try simp only [std] at *)
  all_goals (try (first | with_reducible apply c_sIsBnd | with_reducible apply c_sClash | (simp only [← List.map_append]; first | with_reducible apply c_sIsBnd | with_reducible apply c_sClash)))
  all_goals (try (first | with_reducible rfl | omega | assumption | (refine (decide_eq_true ?_).symm; assumption) | (refine (decide_eq_false ?_).symm; assumption) | (refine rowGet ?_; (first | omega | (simp only [std]; omega) | grind)) | (refine getC ?_ rfl; (first | omega | (simp only [std]; omega) | grind)) | exact look_mI | exact look_mO | exact look_mO1 | exact look_mS | exact look_mL | exact upd_mI | exact upd_mO | exact del_mO | exact upd_mS | exact take_mL | (refine upd_mL ?_; grind) | (refine fill_step ?_ ?_; (first | omega | (simp only [std]; omega) | grind); (first | rfl | exact (Row.eq _).trans rfl)) | (refine fill_init ?_; (first | rfl | exact (Row.eq _).trans rfl)) | (show (_ : St) = _; rfl) | grind [areB, areTo, snocI, snocS, rowSnoc]))
def plc (L : List Binding) : Nat → ByteArray → List Int
  | 0, _ => []
  | k + 1, s => if s = (L.getD k default).text then plc L k s ++ [(k : Int)] else plc L k s
theorem plc_upd {L : List Binding} {k : Nat} : upd1 (plc L k) (L.getD k default).text (plc L k (L.getD k default).text ++ [(k : Int)]) = plc L (k + 1) := by
  funext s; simp only [upd1, plc]; split
  · rename_i h; rw [h]
  · rfl
theorem plc_zero {L : List Binding} : zL = plc L 0 := rfl
theorem plc_len (L : List Binding) (s : ByteArray) : ∀ k, (plc L k s).length ≤ k
  | 0 => Nat.le_refl _
  | k + 1 => by
    have := plc_len L s k
    simp only [plc]; split
    · simp; omega
    · omega
theorem plc_mem (L : List Binding) (s : ByteArray) : ∀ k (i : Int), i ∈ plc L k s ↔ (0 ≤ i ∧ i < k ∧ (L.getD i.toNat default).text = s)
  | 0, i => by simp [plc]; omega
  | k + 1, i => by
    have ih := plc_mem L s k i
    simp only [plc]; split
    · rename_i h
      rw [List.mem_append, ih, List.mem_singleton]
      constructor
      · rintro (⟨a, b, c⟩ | rfl)
        · exact ⟨a, by omega, c⟩
        · exact ⟨by omega, by omega, by rw [Int.toNat_natCast]; exact h.symm⟩
      · rintro ⟨a, b, c⟩
        by_cases e : i = k
        · exact .inr e
        · exact .inl ⟨a, by omega, c⟩
    · rename_i h
      rw [ih]
      constructor
      · rintro ⟨a, b, c⟩; exact ⟨a, by omega, c⟩
      · rintro ⟨a, b, c⟩
        refine ⟨a, ?_, c⟩
        by_cases e : i = k
        · subst e; rw [Int.toNat_natCast] at c; exact absurd c.symm h
        · omega
def plOK (L : List Binding) (s : List Int) (P : List Int) : Bool := P.all fun i => !decide ((L.getD i.toNat default).scopes = s)
theorem plOK_clash {L : List Binding} {k : Nat} {t : ByteArray} {s : List Int} (hk : k ≤ L.length) : plOK L s (plc L k t) = !clash (L.take k) t s := by
  rw [Bool.eq_iff_iff]
  simp only [plOK, clash, clB, List.all_eq_true, Bool.not_eq_true', decide_eq_false_iff_not, List.any_eq_false, Bool.and_eq_true, decide_eq_true_eq, not_and]
  constructor
  · intro h x hx e
    obtain ⟨j, hj, rfl⟩ := List.getElem_of_mem hx
    rw [List.length_take] at hj
    have e2 : (L.take k)[j]'(by rw [List.length_take]; exact hj) = L.getD j default := by simp [show j < L.length by omega]
    rw [e2] at e ⊢
    have := h (j : Int) ((plc_mem L t k j).2 ⟨by omega, by omega, by rw [Int.toNat_natCast]; exact e⟩)
    rwa [Int.toNat_natCast] at this
  · intro h i hi
    obtain ⟨a, b, c⟩ := (plc_mem L t k i).1 hi
    refine h _ ?_ c
    have e : L.getD i.toNat default = (L.take k)[i.toNat]'(by rw [List.length_take]; omega) := by simp [show i.toNat < L.length by omega]
    rw [e]; exact List.getElem_mem _
theorem plOK_at {L : List Binding} {s : List Int} {P : List Int} {j : Nat} (h : j < P.length) (e : (L.getD (P.getD j default).toNat default).scopes = s) : plOK L s P = false := by
  unfold plOK; rw [List.all_eq_false]; exact ⟨_, getD_mem' h, by rw [decide_eq_true e]; decide⟩
theorem plOK_step {L : List Binding} {s : List Int} {P : List Int} {j : Nat} (h : j < P.length) (h0 : plOK L s (P.take j) = true) (e : (L.getD (P.getD j default).toNat default).scopes ≠ s) : plOK L s (P.take (j + 1)) = true := by
  unfold plOK at *; rw [take_get h, List.all_append, h0]; simpa using e
abbrev P_c_iAre (L : List Binding) : Prop := CallOK Tryz.prog 87 [] [ll (L.map bindingC)] [] (.sv (lb (areB L)))
def Tc_iAreLb (L : List Binding) (k : Nat) (x0 : SV) : St := St.mk (regsOf 51 [(0, AV.sv (ll (List.map bindingC L))), (3, AV.sv (SV.one (AC.mref 0))), (4, AV.sv (li (↑k : Int))),
 (5, AV.sv (SV.one (AC.ptr 1 0))), (12, AV.sv (ll (List.map bindingC L))), (13, AV.sv (li (↑(List.length (List.map bindingC L)) : Int))), (14, AV.sv (li (↑k : Int))), (25, AV.sv
 (SV.one (AC.bor 0 (Cell.list (List.map intC (plc L k (Binding.text (List.getD L k default)))))))), (26, AV.sv (li (↑(List.length (List.map intC (plc L k (Binding.text (List.getD L
 k default))))) : Int))), (27, AV.sv x0)]) [Ob.map false kL (mL (plc L k)), Ob.box (vals (bindingF (List.getD L k default)))] 0 
def Lc_iAreLb (L : List Binding) (k : Nat) (k1 : Nat) : St := Tc_iAreLb L k (li (↑k1 : Int)) 
def Ic_iAreLb (L : List Binding) (k : Nat) : Nat → St → Prop := Head (Lc_iAreLb L k) (fun k1 => k1 ≤ List.length (plc L k (Binding.text (List.getD L k default))) ∧ List.length (plc
 L k (Binding.text (List.getD L k default))) ≤ 9223372036854775807 ∧ k < List.length L ∧ areTo L k = true ∧ isBnd (List.getD L k default) = true ∧ plOK L (Binding.scopes (List.getD
 L k default)) (List.take k1 (plc L k (Binding.text (List.getD L k default)))) = true) fun k1 => List.length (plc L k (Binding.text (List.getD L k default))) - k1 
def W0c_iAreLb (L : List Binding) (k : Nat) : St := St.mk (regsOf 51 [(0, AV.sv (ll (List.map bindingC L))), (3, AV.sv (SV.one (AC.mref 0))), (4, AV.sv (li (↑k : Int))), (5, AV.sv
 (SV.one (AC.ptr 1 0))), (12, AV.sv (ll (List.map bindingC L))), (13, AV.sv (li (↑(List.length (List.map bindingC L)) : Int))), (14, AV.sv (li (↑k : Int)))]) [Ob.map false kL (mL
 (plc L k)), Ob.box (vals (bindingF (List.getD L k default)))] 0 
def W1c_iAreLb (L : List Binding) (k : Nat) (x0 : SV) : St := St.mk (regsOf 51 [(2, AV.sv x0)]) [] 0 
def Yc_iAreLb (L : List Binding) (k : Nat) : List (Prop × AEx × St) := [(areTo L (k + 1) = true, AEx.exit 2, W0c_iAreLb L k), (areTo L (List.length L) = false, AEx.ret, W1c_iAreLb
 L k (lb false))]
def Tc_iAreLa (L : List Binding) (x0 : SV) (x1 : Ob) : St := St.mk (regsOf 51 [(0, AV.sv (ll (List.map bindingC L))), (3, AV.sv (SV.one (AC.mref 0))), (12, AV.sv (ll (List.map
 bindingC L))), (13, AV.sv (li (↑(List.length (List.map bindingC L)) : Int))), (14, AV.sv x0)]) [x1] 0 
def Lc_iAreLa (L : List Binding) (k : Nat) : St := Tc_iAreLa L (li (↑k : Int)) (Ob.map false kL (mL (plc L k))) 
def Ic_iAreLa (L : List Binding) : Nat → St → Prop := Head (Lc_iAreLa L) (fun k => k ≤ List.length L ∧ List.length L ≤ 9223372036854775807 ∧ List.length L ≤ 1000 ∧ areTo L k =
 true) fun k => List.length L - k 
def W0c_iAreLa (L : List Binding) : St := St.mk (regsOf 51 []) [] 0 
def W1c_iAreLa (L : List Binding) (x0 : SV) : St := St.mk (regsOf 51 [(2, AV.sv x0)]) [] 0 
def Yc_iAreLa (L : List Binding) : List (Prop × AEx × St) := [(areTo L (List.length L) = true, AEx.exit 0, W0c_iAreLa L), (areTo L (List.length L) = false, AEx.ret, W1c_iAreLa L
 (lb false))]
theorem Hc_iAreLb {L : List Binding} {k : Nat} {k1 : Nat} {m : Nat} (h : (fun k1 => k1 ≤ List.length (plc L k (Binding.text (List.getD L k default))) ∧ List.length (plc L k
 (Binding.text (List.getD L k default))) ≤ 9223372036854775807 ∧ k < List.length L ∧ areTo L k = true ∧ isBnd (List.getD L k default) = true ∧ plOK L (Binding.scopes (List.getD L k
 default)) (List.take k1 (plc L k (Binding.text (List.getD L k default)))) = true) k1) (hm : (fun k1 => List.length (plc L k (Binding.text (List.getD L k default))) - k1) k1 = m) :
 Ic_iAreLb L k m (Lc_iAreLb L k k1) := hm ▸ Head.mk h
theorem Ec_iAreLb {L : List Binding} {k : Nat} {k1 : Nat} {x0 : SV} (h0 : x0 = (li (↑k1 : Int))) : Tc_iAreLb L k x0 = Lc_iAreLb L k k1 := by
  rw [h0]
  rfl
theorem EW1c_iAreLb {L : List Binding} {k : Nat} {x0 y0 : SV} (h0 : x0 = y0) : W1c_iAreLb L k x0 = W1c_iAreLb L k y0 := by rw [h0]
theorem run_c_iAreLb (L : List Binding) (k : Nat) (k1 : Nat) : aexec Tryz.prog (loopAt Tryz.f87 1) (Lc_iAreLb L k k1) [Orc.br [Orc.cells (intC (List.getD (plc L k (Binding.text
 (List.getD L k default))) k1 default)), Orc.draw [], Orc.cells (bindingF (List.getD L (Int.toNat (List.getD (plc L k (Binding.text (List.getD L k default))) k1 0)) default)),
 Orc.call [Mode.rd, Mode.rd] [] (AV.sv (lb (decide (Binding.scopes (List.getD L (Int.toNat (List.getD (plc L k (Binding.text (List.getD L k default))) k1 0)) default) =
 Binding.scopes (List.getD L k default))))), Orc.br [Orc.ghost (Ghost.sel [] [2]), Orc.out 1] [Orc.ghost (Ghost.sel [0, 1] [0, 3, 4, 5, 12, 13, 14, 25, 26, 27]), Orc.goto
 (List.length (plc L k (Binding.text (List.getD L k default))) - (k1 + 1)) (Lc_iAreLb L k (k1 + 1))]] [Orc.ghost (Ghost.sel [0, 1] [0, 3, 4, 5, 12, 13, 14]), Orc.out 0]] (loopK
 (Ic_iAreLb L k) (Yc_iAreLb L k) (List.length (plc L k (Binding.text (List.getD L k default))) - k1)) = ((decide ((↑k1 : Int) < (↑(List.length (List.map intC (plc L k (Binding.text
 (List.getD L k default))))) : Int)) = true → (0 ≤ (↑k1 : Int) ∧ (List.map intC (plc L k (Binding.text (List.getD L k default))))[Int.toNat (↑k1 : Int)]? = some [cI (List.getD (plc
 L k (Binding.text (List.getD L k default))) k1 0)]) ∧ (0 ≤ List.getD (plc L k (Binding.text (List.getD L k default))) k1 0 ∧ (List.map bindingC L)[Int.toNat (List.getD (plc L k
 (Binding.text (List.getD L k default))) k1 0)]? = some (bindingF (List.getD L (Int.toNat (List.getD (plc L k (Binding.text (List.getD L k default))) k1 0)) default))) ∧
 P_c_iSameInts (Binding.scopes (List.getD L (Int.toNat (List.getD (plc L k (Binding.text (List.getD L k default))) k1 0)) default)) (Binding.scopes (List.getD L k default)) ∧
 (decide (Binding.scopes (List.getD L (Int.toNat (List.getD (plc L k (Binding.text (List.getD L k default))) k1 0)) default) = Binding.scopes (List.getD L k default)) = true →
 areTo L (List.length L) = false ∧ W1c_iAreLa L (lb false) = W1c_iAreLb L k (lb false)) ∧ (decide (Binding.scopes (List.getD L (Int.toNat (List.getD (plc L k (Binding.text
 (List.getD L k default))) k1 0)) default) = Binding.scopes (List.getD L k default)) = false → rng IntKind.i64 ((↑k1 : Int) + 1) ∧ List.length (plc L k (Binding.text (List.getD L k
 default))) - (k1 + 1) < List.length (plc L k (Binding.text (List.getD L k default))) - k1 ∧ Tc_iAreLb L k (li ((↑k1 : Int) + 1)) = Lc_iAreLb L k (k1 + 1) ∧ Ic_iAreLb L k
 (List.length (plc L k (Binding.text (List.getD L k default))) - (k1 + 1)) (Lc_iAreLb L k (k1 + 1)))) ∧ (decide ((↑k1 : Int) < (↑(List.length (List.map intC (plc L k (Binding.text
 (List.getD L k default))))) : Int)) = false → areTo L (k + 1) = true ∧ W0c_iAreLb L k = W0c_iAreLb L k)) := by kernel_rfl
theorem Hc_iAreLa {L : List Binding} {k : Nat} {m : Nat} (h : (fun k => k ≤ List.length L ∧ List.length L ≤ 9223372036854775807 ∧ List.length L ≤ 1000 ∧ areTo L k = true) k) (hm :
 (fun k => List.length L - k) k = m) : Ic_iAreLa L m (Lc_iAreLa L k) := hm ▸ Head.mk h
theorem Ec_iAreLa {L : List Binding} {k : Nat} {x0 : SV} {x1 : Ob} (h0 : x0 = (li (↑k : Int))) (h1 : x1 = (Ob.map false kL (mL (plc L k)))) : Tc_iAreLa L x0 x1 = Lc_iAreLa L k :=
 by
  rw [h0, h1]
  rfl
theorem EW1c_iAreLa {L : List Binding} {x0 y0 : SV} (h0 : x0 = y0) : W1c_iAreLa L x0 = W1c_iAreLa L y0 := by rw [h0]
abbrev a1__iAreLa (L : List Binding) (k : Nat) := (plc L k (Binding.text (List.getD L k default)))
abbrev a2__iAreLa (L : List Binding) (k : Nat) := (mL (upd1 (plc L k) (Binding.text (List.getD L k default)) (plc L k (Binding.text (List.getD L k default)) ++ [(↑k : Int)])))
theorem run_c_iAreLa (L : List Binding) (k : Nat) : aexec Tryz.prog (loopAt Tryz.f87 0) (Lc_iAreLa L k) [Orc.br [Orc.cells (bindingF (List.getD L k default)), Orc.call [Mode.rd] []
 (AV.sv (lb (isBnd (List.getD L k default)))), Orc.br [Orc.ghost (Ghost.sel [] [2]), Orc.out 1] [Orc.cells [Cell.list (List.map intC (a1__iAreLa L k))], Orc.ghost (Ghost.sel [0, 1]
 [0, 3, 4, 5, 12, 13, 14, 25, 26, 27]), Orc.loop (List.length (a1__iAreLa L k) - 0) (Lc_iAreLb L k 0) (Ic_iAreLb L k) [(areTo L (k + 1) = true, AEx.exit 2, W0c_iAreLb L k,
 [Orc.draw [(6, [0]), (9, [2, 3]), (10, [4, 0])], Orc.taken (List.map intC (a1__iAreLa L k)) 1 (mLt (plc L k) (Binding.text (List.getD L k default))), Orc.upd (a2__iAreLa L k),
 Orc.ghost (Ghost.sel [0] [0, 3, 12, 13, 14]), Orc.goto (List.length L - (k + 1)) (Lc_iAreLa L (k + 1))]), (areTo L (List.length L) = false, AEx.ret, W1c_iAreLb L k (lb false),
 [Orc.ghost (Ghost.sel [] [2]), Orc.out 1])]]] [Orc.ghost (Ghost.sel [] []), Orc.out 0]] (loopK (Ic_iAreLa L) (Yc_iAreLa L) (List.length L - k)) = ((decide ((↑k : Int) <
 (↑(List.length (List.map bindingC L)) : Int)) = true → (0 ≤ (↑k : Int) ∧ (List.map bindingC L)[Int.toNat (↑k : Int)]? = some (bindingF (List.getD L k default))) ∧ P_c_iIsBnd
 (List.getD L k default) ∧ ((!isBnd (List.getD L k default)) = true → areTo L (List.length L) = false ∧ W1c_iAreLa L (lb false) = W1c_iAreLa L (lb false)) ∧ ((!isBnd (List.getD L k
 default)) = false → LookAt (Value.slice none 0 0) (mL (plc L k)) (Value.string (Binding.text (List.getD L k default))) (Cell.list (List.map intC (a1__iAreLa L k))) ∧ (List.length
 (List.map intC (a1__iAreLa L k)) ≤ 9223372036854775807 → Tc_iAreLb L k (li 0) = Lc_iAreLb L k 0 ∧ Ic_iAreLb L k (List.length (a1__iAreLa L k) - 0) (Lc_iAreLb L k 0) ∧ LoopSem
 Tryz.prog (loopAt Tryz.f87 1) (Ic_iAreLb L k) (Yc_iAreLb L k) ∧ (areTo L (k + 1) = true → LookAt (Value.slice none 0 0) (mL (plc L k)) (Value.string (Binding.text (List.getD L k
 default))) (Cell.list (List.map intC (a1__iAreLa L k))) ∧ UpdF (MK.d kL) (mL (plc L k)) (mLt (plc L k) (Binding.text (List.getD L k default))) (Value.string (Binding.text
 (List.getD L k default))) (some Cell.any) ∧ some (Value.slice none 0 0) = some (Value.slice none 0 0) ∧ (∀ (x : List Cell), x ∈ List.map intC (a1__iAreLa L k) → List.length x = 1)
 ∧ (List.length (List.map intC (a1__iAreLa L k)) + 1) * 8 ≤ 140737488355328 ∧ false = false ∧ UpdF (MK.d kL) (mLt (plc L k) (Binding.text (List.getD L k default))) (a2__iAreLa L k)
 (Value.string (Binding.text (List.getD L k default))) (some (Cell.list (List.map intC (a1__iAreLa L k) ++ [[cI (↑k : Int)]]))) ∧ rng IntKind.i64 ((↑k : Int) + 1) ∧ List.length L -
 (k + 1) < List.length L - k ∧ Tc_iAreLa L (li ((↑k : Int) + 1)) (Ob.map false kL (a2__iAreLa L k)) = Lc_iAreLa L (k + 1) ∧ Ic_iAreLa L (List.length L - (k + 1)) (Lc_iAreLa L (k +
 1))) ∧ (areTo L (List.length L) = false → areTo L (List.length L) = false ∧ W1c_iAreLa L (lb false) = W1c_iAreLa L (lb false)) ∧ True))) ∧ (decide ((↑k : Int) < (↑(List.length
 (List.map bindingC L)) : Int)) = false → areTo L (List.length L) = true ∧ W0c_iAreLa L = W0c_iAreLa L)) := by kernel_rfl
theorem Sc_iAreLb (L : List Binding) (k : Nat)  : LoopSem Tryz.prog (loopAt Tryz.f87 1) (Ic_iAreLb L k) (Yc_iAreLb L k) := by
  refine LoopSem.ofHead wide fun k1 h => ⟨_, _, run_c_iAreLb L k k1, ?_⟩
  have g1 := areTo_le L L.length (k + 1)
  have g2 : areTo L (k + 1) = (areTo L k && (isBnd (L.getD k default) && !clash (L.take k) (L.getD k default).text (L.getD k default).scopes)) := rfl
  have g3 := @plOK_clash L k (L.getD k default).text (L.getD k default).scopes
  have g4 := @plOK_at L (L.getD k default).scopes (plc L k (L.getD k default).text) k1
  have g5 := @plOK_step L (L.getD k default).scopes (plc L k (L.getD k default).text) k1
  have g6 := plc_mem L (L.getD k default).text k ((plc L k (L.getD k default).text).getD k1 default)
  have g7 : ∀ j, (plc L k (L.getD k default).text).length ≤ j → (plc L k (L.getD k default).text).take j = plc L k (L.getD k default).text := fun j h => List.take_of_length_le h
  with_reducible repeat' (first | apply And.intro | exact flatI | exact flatS | exact rowLens | (intro; skip) | apply obsN | apply obsC | apply obA | apply obM | apply obB | apply svA | apply tupA | apply lcA | apply lcS | apply svC | apply liC | apply lbC | apply lsC | apply vIc | apply vBc | apply vSc | apply vLc | apply mapC | apply mIc | apply mOc | apply mSc | apply mLc | apply Hc_iAreLa | apply Ec_iAreLa | apply Hc_iAreLb | apply Ec_iAreLb | apply EW1c_iAreLb | apply EW1c_iAreLa | apply c_iIsBnd | apply c_iSameInts)
  all_goals (try simp only [std] at *)
  all_goals (try (first | with_reducible apply c_iIsBnd | with_reducible apply c_iSameInts | (simp only [← List.map_append]; first | with_reducible apply c_iIsBnd | with_reducible apply c_iSameInts)))
  all_goals (try (first | with_reducible rfl | omega | assumption | (refine (decide_eq_true ?_).symm; assumption) | (refine (decide_eq_false ?_).symm; assumption) | (refine rowGet ?_; (first | omega | (simp only [std]; omega) | grind)) | (refine getC ?_ rfl; (first | omega | (simp only [std]; omega) | grind)) | exact look_mI | exact look_mO | exact look_mO1 | exact look_mS | exact look_mL | exact upd_mI | exact upd_mO | exact del_mO | exact upd_mS | exact take_mL | (refine upd_mL ?_; grind) | (refine fill_step ?_ ?_; (first | omega | (simp only [std]; omega) | grind); (first | rfl | exact (Row.eq _).trans rfl)) | (refine fill_init ?_; (first | rfl | exact (Row.eq _).trans rfl)) | (show (_ : St) = _; rfl) | grind [getD_mem', snocI, snocS, rowSnoc]))
theorem Sc_iAreLa (L : List Binding)  : LoopSem Tryz.prog (loopAt Tryz.f87 0) (Ic_iAreLa L) (Yc_iAreLa L) := by
  refine LoopSem.ofHead wide fun k h => ⟨_, _, run_c_iAreLa L k, ?_⟩
  try delta a1__iAreLa a2__iAreLa
  have g1 := areTo_le L L.length (k + 1)
  have g2 : areTo L (k + 1) = (areTo L k && (isBnd (L.getD k default) && !clash (L.take k) (L.getD k default).text (L.getD k default).scopes)) := rfl
  have g3 := plc_len L (L.getD k default).text k
  have g4 := @plc_upd L k
  have g5 : plOK L (L.getD k default).scopes ((plc L k (L.getD k default).text).take 0) = true := rfl
  with_reducible repeat' (first | apply And.intro | exact flatI | exact flatS | exact rowLens | (intro; skip) | apply obsN | apply obsC | apply obA | apply obM | apply obB | apply svA | apply tupA | apply lcA | apply lcS | apply svC | apply liC | apply lbC | apply lsC | apply vIc | apply vBc | apply vSc | apply vLc | apply mapC | apply mIc | apply mOc | apply mSc | apply mLc | apply Hc_iAreLa | apply Ec_iAreLa | apply Hc_iAreLb | apply Ec_iAreLb | apply Sc_iAreLb | apply EW1c_iAreLb | apply EW1c_iAreLa | apply c_iIsBnd | apply c_iSameInts)
  all_goals (try simp only [std] at *)
  all_goals (try (first | with_reducible apply c_iIsBnd | with_reducible apply c_iSameInts | (simp only [← List.map_append]; first | with_reducible apply c_iIsBnd | with_reducible apply c_iSameInts)))
  all_goals (try (first | with_reducible rfl | omega | assumption | (refine (decide_eq_true ?_).symm; assumption) | (refine (decide_eq_false ?_).symm; assumption) | (refine rowGet ?_; (first | omega | (simp only [std]; omega) | grind)) | (refine getC ?_ rfl; (first | omega | (simp only [std]; omega) | grind)) | exact look_mI | exact look_mO | exact look_mO1 | exact look_mS | exact look_mL | exact upd_mI | exact upd_mO | exact del_mO | exact upd_mS | exact take_mL | (refine upd_mL ?_; grind) | (refine fill_step ?_ ?_; (first | omega | (simp only [std]; omega) | grind); (first | rfl | exact (Row.eq _).trans rfl)) | (refine fill_init ?_; (first | rfl | exact (Row.eq _).trans rfl)) | (show (_ : St) = _; rfl) | grind [getD_mem', snocI, snocS, rowSnoc]))
  all_goals (try (exact upd_mL (by simp [intC])))
theorem run_c_iAre (L : List Binding) : aexec Tryz.prog (Option.getD (Func.body Tryz.f87) Code.skip) (entry [] [ll (List.map bindingC L)] 51) [Orc.br [Orc.fin []] [Orc.mkmap kL,
 Orc.ghost (Ghost.sel [0] [0, 3, 12, 13, 14]), Orc.loop (List.length L - 0) (Lc_iAreLa L 0) (Ic_iAreLa L) [(areTo L (List.length L) = true, AEx.exit 0, W0c_iAreLa L, [Orc.fin []]),
 (areTo L (List.length L) = false, AEx.ret, W1c_iAreLa L (lb false), [Orc.fin []])]]] (finK Tryz.prog [ResultVar.tmp 2] [] (AV.sv (lb (areB L)))) = (List.length (List.map bindingC
 L) ≤ 9223372036854775807 → (decide (1000 < (↑(List.length (List.map bindingC L)) : Int)) = true → ObsEq [] [] ∧ AV.sv (lb false) = AV.sv (lb (areB L))) ∧ (decide (1000 <
 (↑(List.length (List.map bindingC L)) : Int)) = false → List.length (List.map bindingC L) ≤ 9223372036854775807 → Tc_iAreLa L (li 0) (Ob.map false kL (mL zL)) = Lc_iAreLa L 0 ∧
 Ic_iAreLa L (List.length L - 0) (Lc_iAreLa L 0) ∧ LoopSem Tryz.prog (loopAt Tryz.f87 0) (Ic_iAreLa L) (Yc_iAreLa L) ∧ (areTo L (List.length L) = true → ObsEq [] [] ∧ AV.sv (lb
 true) = AV.sv (lb (areB L))) ∧ (areTo L (List.length L) = false → ObsEq [] [] ∧ AV.sv (lb false) = AV.sv (lb (areB L))) ∧ True)) := by kernel_rfl
theorem c_iAre (L : List Binding)  : P_c_iAre L := by
  refine CallOK.ofRun wide (run_c_iAre L) Tryz.call87 Tryz.func87 rfl rfl rfl ?_
  with_reducible repeat' (first | apply And.intro | exact flatI | exact flatS | exact rowLens | (intro; skip) | apply obsN | apply obsC | apply obA | apply obM | apply obB | apply svA | apply tupA | apply lcA | apply lcS | apply svC | apply liC | apply lbC | apply lsC | apply vIc | apply vBc | apply vSc | apply vLc | apply mapC | apply mIc | apply mOc | apply mSc | apply mLc | apply Hc_iAreLa | apply Ec_iAreLa | apply Sc_iAreLa | apply Hc_iAreLb | apply Ec_iAreLb | apply Sc_iAreLb | apply EW1c_iAreLb | apply EW1c_iAreLa | apply c_iIsBnd | apply c_iSameInts)
  all_goals (try simp only [std] at *)
  all_goals (try (first | with_reducible apply c_iIsBnd | with_reducible apply c_iSameInts | (simp only [← List.map_append]; first | with_reducible apply c_iIsBnd | with_reducible apply c_iSameInts)))
  all_goals (try (first | with_reducible rfl | omega | assumption | (refine (decide_eq_true ?_).symm; assumption) | (refine (decide_eq_false ?_).symm; assumption) | (refine rowGet ?_; (first | omega | (simp only [std]; omega) | grind)) | (refine getC ?_ rfl; (first | omega | (simp only [std]; omega) | grind)) | exact look_mI | exact look_mO | exact look_mO1 | exact look_mS | exact look_mL | exact upd_mI | exact upd_mO | exact del_mO | exact upd_mS | exact take_mL | (refine upd_mL ?_; grind) | (refine fill_step ?_ ?_; (first | omega | (simp only [std]; omega) | grind); (first | rfl | exact (Row.eq _).trans rfl)) | (refine fill_init ?_; (first | rfl | exact (Row.eq _).trans rfl)) | (show (_ : St) = _; rfl) | grind [areB, areTo, plc_zero, snocI, snocS, rowSnoc]))
mutual
/-- is no scope greater than a number? -/
def blw (n : Int) : Syntax → Bool
  | ⟨_, _, _, s, l⟩ => s.all (fun x => decide (x ≤ n)) && blws n l
def blws (n : Int) : List Syntax → Bool
  | [] => true
  | x :: r => blw n x && blws n r
end
theorem blws_eq (n : Int) : ∀ l, blws n l = l.all (blw n)
  | [] => by simp [blws]
  | x :: r => by rw [blws, blws_eq n r]; rfl
def scB (n : Int) (L : List Int) : Bool := L.all fun x => decide (x ≤ n)
theorem blw_eq (n : Int) (s : Syntax) : blw n s = (scB n s.scopes && s.items.all (blw n)) := by cases s; simp only [blw, blws_eq, scB]
theorem scB_stop {n : Int} {L : List Int} {k : Nat} (h : k < L.length) (e : n < L.getD k 0) : scB n L = false := by
  unfold scB; rw [List.all_eq_false]; exact ⟨L.getD k 0, getD_mem' h, by rw [decide_eq_false (by omega)]; decide⟩
abbrev P_c_sBelow (s : Syntax) (n : Int) : Prop := CallOK Tryz.prog 158 [] [syntaxA s, li n] [] (.sv (lb (blw n s)))
def Tc_sBelow_sLb (s : Syntax) (n : Int) (x0 : SV) : St := St.mk (regsOf 32 [(1, AV.sv (li n)), (21, AV.sv (ll (List.map syntaxC (Syntax.items s)))), (22, AV.sv (li (↑(List.length
 (List.map syntaxC (Syntax.items s))) : Int))), (23, AV.sv x0)]) [] 0 
def Lc_sBelow_sLb (s : Syntax) (n : Int) (k : Nat) : St := Tc_sBelow_sLb s n (li (↑k : Int)) 
def Ic_sBelow_sLb (s : Syntax) (n : Int) : Nat → St → Prop := Head (Lc_sBelow_sLb s n) (fun k => k ≤ List.length (Syntax.items s) ∧ List.length (Syntax.items s) ≤
 9223372036854775807 ∧ List.all (List.take k (Syntax.items s)) (blw n) = true) fun k => List.length (Syntax.items s) - k 
def W0c_sBelow_sLb (s : Syntax) (n : Int) : St := St.mk (regsOf 32 []) [] 0 
def W1c_sBelow_sLb (s : Syntax) (n : Int) (x0 : SV) : St := St.mk (regsOf 32 [(4, AV.sv x0)]) [] 0 
def Yc_sBelow_sLb (s : Syntax) (n : Int) : List (Prop × AEx × St) := [(List.all (Syntax.items s) (blw n) = true, AEx.exit 2, W0c_sBelow_sLb s n), (List.all (Syntax.items s) (blw n)
 = false, AEx.ret, W1c_sBelow_sLb s n (lb false))]
def Tc_sBelow_sLa (s : Syntax) (n : Int) (x0 : SV) : St := St.mk (regsOf 32 [(1, AV.sv (li n)), (2, AV.sv (SV.one (AC.ptr 0 0))), (10, AV.sv (ll (List.map intC (Syntax.scopes
 s)))), (11, AV.sv (li (↑(List.length (List.map intC (Syntax.scopes s))) : Int))), (12, AV.sv x0)]) [Ob.box (vals (syntaxF s))] 0 
def Lc_sBelow_sLa (s : Syntax) (n : Int) (k : Nat) : St := Tc_sBelow_sLa s n (li (↑k : Int)) 
def Ic_sBelow_sLa (s : Syntax) (n : Int) : Nat → St → Prop := Head (Lc_sBelow_sLa s n) (fun k => k ≤ List.length (Syntax.scopes s) ∧ List.length (Syntax.scopes s) ≤
 9223372036854775807 ∧ scB n (List.take k (Syntax.scopes s)) = true) fun k => List.length (Syntax.scopes s) - k 
def W0c_sBelow_sLa (s : Syntax) (n : Int) : St := St.mk (regsOf 32 [(1, AV.sv (li n)), (2, AV.sv (SV.one (AC.ptr 0 0)))]) [Ob.box (vals (syntaxF s))] 0 
def W1c_sBelow_sLa (s : Syntax) (n : Int) (x0 : SV) : St := St.mk (regsOf 32 [(4, AV.sv x0)]) [] 0 
def Yc_sBelow_sLa (s : Syntax) (n : Int) : List (Prop × AEx × St) := [(scB n (Syntax.scopes s) = true, AEx.exit 0, W0c_sBelow_sLa s n), (blw n s = false, AEx.ret, W1c_sBelow_sLa s
 n (lb false))]
theorem Hc_sBelow_sLb {s : Syntax} {n : Int} {k : Nat} {m : Nat} (h : (fun k => k ≤ List.length (Syntax.items s) ∧ List.length (Syntax.items s) ≤ 9223372036854775807 ∧ List.all
 (List.take k (Syntax.items s)) (blw n) = true) k) (hm : (fun k => List.length (Syntax.items s) - k) k = m) : Ic_sBelow_sLb s n m (Lc_sBelow_sLb s n k) := hm ▸ Head.mk h
theorem Ec_sBelow_sLb {s : Syntax} {n : Int} {k : Nat} {x0 : SV} (h0 : x0 = (li (↑k : Int))) : Tc_sBelow_sLb s n x0 = Lc_sBelow_sLb s n k := by
  rw [h0]
  rfl
theorem EW1c_sBelow_sLb {s : Syntax} {n : Int} {x0 y0 : SV} (h0 : x0 = y0) : W1c_sBelow_sLb s n x0 = W1c_sBelow_sLb s n y0 := by rw [h0]
theorem run_c_sBelow_sLb (s : Syntax) (n : Int) (k : Nat) : aexec Tryz.prog (loopAt Tryz.f158 1) (Lc_sBelow_sLb s n k) [Orc.br [Orc.cells (syntaxF (List.getD (Syntax.items s) k
 default)), Orc.call [Mode.rd, Mode.rd] [] (AV.sv (lb (blw n (List.getD (Syntax.items s) k default)))), Orc.br [Orc.ghost (Ghost.sel [] [4]), Orc.out 1] [Orc.ghost (Ghost.sel []
 [1, 21, 22, 23]), Orc.goto (List.length (Syntax.items s) - (k + 1)) (Lc_sBelow_sLb s n (k + 1))]] [Orc.ghost (Ghost.sel [] []), Orc.out 0]] (loopK (Ic_sBelow_sLb s n)
 (Yc_sBelow_sLb s n) (List.length (Syntax.items s) - k)) = ((decide ((↑k : Int) < (↑(List.length (List.map syntaxC (Syntax.items s))) : Int)) = true → (0 ≤ (↑k : Int) ∧ (List.map
 syntaxC (Syntax.items s))[Int.toNat (↑k : Int)]? = some (syntaxF (List.getD (Syntax.items s) k default))) ∧ P_c_sBelow (List.getD (Syntax.items s) k default) n ∧ ((!blw n
 (List.getD (Syntax.items s) k default)) = true → List.all (Syntax.items s) (blw n) = false ∧ W1c_sBelow_sLa s n (lb false) = W1c_sBelow_sLb s n (lb false)) ∧ ((!blw n (List.getD
 (Syntax.items s) k default)) = false → rng IntKind.i64 ((↑k : Int) + 1) ∧ List.length (Syntax.items s) - (k + 1) < List.length (Syntax.items s) - k ∧ Tc_sBelow_sLb s n (li ((↑k :
 Int) + 1)) = Lc_sBelow_sLb s n (k + 1) ∧ Ic_sBelow_sLb s n (List.length (Syntax.items s) - (k + 1)) (Lc_sBelow_sLb s n (k + 1)))) ∧ (decide ((↑k : Int) < (↑(List.length (List.map
 syntaxC (Syntax.items s))) : Int)) = false → List.all (Syntax.items s) (blw n) = true ∧ W0c_sBelow_sLb s n = W0c_sBelow_sLb s n)) := by kernel_rfl
theorem Hc_sBelow_sLa {s : Syntax} {n : Int} {k : Nat} {m : Nat} (h : (fun k => k ≤ List.length (Syntax.scopes s) ∧ List.length (Syntax.scopes s) ≤ 9223372036854775807 ∧ scB n
 (List.take k (Syntax.scopes s)) = true) k) (hm : (fun k => List.length (Syntax.scopes s) - k) k = m) : Ic_sBelow_sLa s n m (Lc_sBelow_sLa s n k) := hm ▸ Head.mk h
theorem Ec_sBelow_sLa {s : Syntax} {n : Int} {k : Nat} {x0 : SV} (h0 : x0 = (li (↑k : Int))) : Tc_sBelow_sLa s n x0 = Lc_sBelow_sLa s n k := by
  rw [h0]
  rfl
theorem EW1c_sBelow_sLa {s : Syntax} {n : Int} {x0 y0 : SV} (h0 : x0 = y0) : W1c_sBelow_sLa s n x0 = W1c_sBelow_sLa s n y0 := by rw [h0]
theorem run_c_sBelow_sLa (s : Syntax) (n : Int) (k : Nat) : aexec Tryz.prog (loopAt Tryz.f158 0) (Lc_sBelow_sLa s n k) [Orc.br [Orc.cells (intC (List.getD (Syntax.scopes s) k
 default)), Orc.br [Orc.ghost (Ghost.sel [] [4]), Orc.out 1] [Orc.ghost (Ghost.sel [0] [1, 2, 10, 11, 12]), Orc.goto (List.length (Syntax.scopes s) - (k + 1)) (Lc_sBelow_sLa s n (k
 + 1))]] [Orc.ghost (Ghost.sel [0] [1, 2]), Orc.out 0]] (loopK (Ic_sBelow_sLa s n) (Yc_sBelow_sLa s n) (List.length (Syntax.scopes s) - k)) = ((decide ((↑k : Int) < (↑(List.length
 (List.map intC (Syntax.scopes s))) : Int)) = true → (0 ≤ (↑k : Int) ∧ (List.map intC (Syntax.scopes s))[Int.toNat (↑k : Int)]? = some [cI (List.getD (Syntax.scopes s) k 0)]) ∧
 (decide (n < List.getD (Syntax.scopes s) k 0) = true → blw n s = false ∧ W1c_sBelow_sLa s n (lb false) = W1c_sBelow_sLa s n (lb false)) ∧ (decide (n < List.getD (Syntax.scopes s)
 k 0) = false → rng IntKind.i64 ((↑k : Int) + 1) ∧ List.length (Syntax.scopes s) - (k + 1) < List.length (Syntax.scopes s) - k ∧ Tc_sBelow_sLa s n (li ((↑k : Int) + 1)) =
 Lc_sBelow_sLa s n (k + 1) ∧ Ic_sBelow_sLa s n (List.length (Syntax.scopes s) - (k + 1)) (Lc_sBelow_sLa s n (k + 1)))) ∧ (decide ((↑k : Int) < (↑(List.length (List.map intC
 (Syntax.scopes s))) : Int)) = false → scB n (Syntax.scopes s) = true ∧ W0c_sBelow_sLa s n = W0c_sBelow_sLa s n)) := by kernel_rfl
theorem Sc_sBelow_sLb (s : Syntax) (n : Int) (ih : ∀ (z : Syntax), z ∈ Syntax.items s → ∀ (n : Int), P_c_sBelow z n)  : LoopSem Tryz.prog (loopAt Tryz.f158 1) (Ic_sBelow_sLb s n)
 (Yc_sBelow_sLb s n) := by
  refine LoopSem.ofHead wide fun k h => ⟨_, _, run_c_sBelow_sLb s n k, ?_⟩
  with_reducible repeat' (first | apply And.intro | exact flatI | exact flatS | exact rowLens | exact ih | (intro; skip) | apply obsN | apply obsC | apply obA | apply obM | apply obB | apply svA | apply tupA | apply lcA | apply lcS | apply svC | apply liC | apply lbC | apply lsC | apply vIc | apply vBc | apply vSc | apply vLc | apply mapC | apply mIc | apply mOc | apply mSc | apply mLc | apply Hc_sBelow_sLa | apply Ec_sBelow_sLa | apply Hc_sBelow_sLb | apply Ec_sBelow_sLb | apply EW1c_sBelow_sLb | apply EW1c_sBelow_sLa | apply ih)
  all_goals (try simp only [std] at *)
  all_goals (try (first | with_reducible apply ih | (simp only [← List.map_append]; first | with_reducible apply ih)))
  all_goals (try (first | with_reducible rfl | omega | assumption | (refine (decide_eq_true ?_).symm; assumption) | (refine (decide_eq_false ?_).symm; assumption) | (refine rowGet ?_; (first | omega | (simp only [std]; omega) | grind)) | (refine getC ?_ rfl; (first | omega | (simp only [std]; omega) | grind)) | exact look_mI | exact look_mO | exact look_mO1 | exact look_mS | exact look_mL | exact upd_mI | exact upd_mO | exact del_mO | exact upd_mS | exact take_mL | (refine upd_mL ?_; grind) | (refine fill_step ?_ ?_; (first | omega | (simp only [std]; omega) | grind); (first | rfl | exact (Row.eq _).trans rfl)) | (refine fill_init ?_; (first | rfl | exact (Row.eq _).trans rfl)) | (show (_ : St) = _; rfl) | grind [take_get, getD_mem', snocI, snocS, rowSnoc]))
theorem Sc_sBelow_sLa (s : Syntax) (n : Int) (ih : ∀ (z : Syntax), z ∈ Syntax.items s → ∀ (n : Int), P_c_sBelow z n)  : LoopSem Tryz.prog (loopAt Tryz.f158 0) (Ic_sBelow_sLa s n)
 (Yc_sBelow_sLa s n) := by
  refine LoopSem.ofHead wide fun k h => ⟨_, _, run_c_sBelow_sLa s n k, ?_⟩
  have g1 := blw_eq n s
  have g2 := @scB_stop n s.scopes k
  with_reducible repeat' (first | apply And.intro | exact flatI | exact flatS | exact rowLens | exact ih | (intro; skip) | apply obsN | apply obsC | apply obA | apply obM | apply obB | apply svA | apply tupA | apply lcA | apply lcS | apply svC | apply liC | apply lbC | apply lsC | apply vIc | apply vBc | apply vSc | apply vLc | apply mapC | apply mIc | apply mOc | apply mSc | apply mLc | apply Hc_sBelow_sLa | apply Ec_sBelow_sLa | apply Hc_sBelow_sLb | apply Ec_sBelow_sLb | apply Sc_sBelow_sLb | apply EW1c_sBelow_sLb | apply EW1c_sBelow_sLa | apply ih)
  all_goals (try simp only [std] at *)
  all_goals (try (first | with_reducible apply ih | (simp only [← List.map_append]; first | with_reducible apply ih)))
  all_goals (try (first | with_reducible rfl | omega | assumption | (refine (decide_eq_true ?_).symm; assumption) | (refine (decide_eq_false ?_).symm; assumption) | (refine rowGet ?_; (first | omega | (simp only [std]; omega) | grind)) | (refine getC ?_ rfl; (first | omega | (simp only [std]; omega) | grind)) | exact look_mI | exact look_mO | exact look_mO1 | exact look_mS | exact look_mL | exact upd_mI | exact upd_mO | exact del_mO | exact upd_mS | exact take_mL | (refine upd_mL ?_; grind) | (refine fill_step ?_ ?_; (first | omega | (simp only [std]; omega) | grind); (first | rfl | exact (Row.eq _).trans rfl)) | (refine fill_init ?_; (first | rfl | exact (Row.eq _).trans rfl)) | (show (_ : St) = _; rfl) | grind [take_get, getD_mem', scB, snocI, snocS, rowSnoc]))
theorem run_c_sBelow_s (s : Syntax) (n : Int) : aexec Tryz.prog (Option.getD (Func.body Tryz.f158) Code.skip) (entry [] [syntaxA s, li n] 32) [Orc.ghost (Ghost.sel [0] [1, 2, 10,
 11, 12]), Orc.loop (List.length (Syntax.scopes s) - 0) (Lc_sBelow_sLa s n 0) (Ic_sBelow_sLa s n) [(scB n (Syntax.scopes s) = true, AEx.exit 0, W0c_sBelow_sLa s n, [Orc.ghost
 (Ghost.sel [] [1, 21, 22, 23]), Orc.loop (List.length (Syntax.items s) - 0) (Lc_sBelow_sLb s n 0) (Ic_sBelow_sLb s n) [(List.all (Syntax.items s) (blw n) = true, AEx.exit 2,
 W0c_sBelow_sLb s n, [Orc.fin []]), (List.all (Syntax.items s) (blw n) = false, AEx.ret, W1c_sBelow_sLb s n (lb false), [Orc.fin []])]]), (blw n s = false, AEx.ret, W1c_sBelow_sLa
 s n (lb false), [Orc.fin []])]] (finK Tryz.prog [ResultVar.tmp 4] [] (AV.sv (lb (blw n s)))) = (List.length (List.map intC (Syntax.scopes s)) ≤ 9223372036854775807 → Tc_sBelow_sLa
 s n (li 0) = Lc_sBelow_sLa s n 0 ∧ Ic_sBelow_sLa s n (List.length (Syntax.scopes s) - 0) (Lc_sBelow_sLa s n 0) ∧ LoopSem Tryz.prog (loopAt Tryz.f158 0) (Ic_sBelow_sLa s n)
 (Yc_sBelow_sLa s n) ∧ (scB n (Syntax.scopes s) = true → List.length (List.map syntaxC (Syntax.items s)) ≤ 9223372036854775807 → Tc_sBelow_sLb s n (li 0) = Lc_sBelow_sLb s n 0 ∧
 Ic_sBelow_sLb s n (List.length (Syntax.items s) - 0) (Lc_sBelow_sLb s n 0) ∧ LoopSem Tryz.prog (loopAt Tryz.f158 1) (Ic_sBelow_sLb s n) (Yc_sBelow_sLb s n) ∧ (List.all
 (Syntax.items s) (blw n) = true → ObsEq [] [] ∧ AV.sv (lb true) = AV.sv (lb (blw n s))) ∧ (List.all (Syntax.items s) (blw n) = false → ObsEq [] [] ∧ AV.sv (lb false) = AV.sv (lb
 (blw n s))) ∧ True) ∧ (blw n s = false → ObsEq [] [] ∧ AV.sv (lb false) = AV.sv (lb (blw n s))) ∧ True) := by kernel_rfl
theorem c_sBelow_s (s : Syntax) (n : Int) (ih : ∀ z ∈ s.items, ∀ (n : Int), P_c_sBelow z n)  : P_c_sBelow s n := by
  refine CallOK.ofRun wide (run_c_sBelow_s s n) Tryz.call158 Tryz.func158 rfl rfl rfl ?_
  have g1 := blw_eq n s
  with_reducible repeat' (first | apply And.intro | exact flatI | exact flatS | exact rowLens | exact ih | (intro; skip) | apply obsN | apply obsC | apply obA | apply obM | apply obB | apply svA | apply tupA | apply lcA | apply lcS | apply svC | apply liC | apply lbC | apply lsC | apply vIc | apply vBc | apply vSc | apply vLc | apply mapC | apply mIc | apply mOc | apply mSc | apply mLc | apply Hc_sBelow_sLa | apply Ec_sBelow_sLa | apply Sc_sBelow_sLa | apply Hc_sBelow_sLb | apply Ec_sBelow_sLb | apply Sc_sBelow_sLb | apply EW1c_sBelow_sLb | apply EW1c_sBelow_sLa)
  all_goals (try simp only [std] at *)
  all_goals (try (first | with_reducible apply ih | (simp only [← List.map_append]; first | with_reducible apply ih)))
  all_goals (try (first | with_reducible rfl | omega | assumption | (refine (decide_eq_true ?_).symm; assumption) | (refine (decide_eq_false ?_).symm; assumption) | (refine rowGet ?_; (first | omega | (simp only [std]; omega) | grind)) | (refine getC ?_ rfl; (first | omega | (simp only [std]; omega) | grind)) | exact look_mI | exact look_mO | exact look_mO1 | exact look_mS | exact look_mL | exact upd_mI | exact upd_mO | exact del_mO | exact upd_mS | exact take_mL | (refine upd_mL ?_; grind) | (refine fill_step ?_ ?_; (first | omega | (simp only [std]; omega) | grind); (first | rfl | exact (Row.eq _).trans rfl)) | (refine fill_init ?_; (first | rfl | exact (Row.eq _).trans rfl)) | (show (_ : St) = _; rfl) | grind [scB, snocI, snocS, rowSnoc]))
theorem c_sBelow (s : Syntax) : ∀ (n : Int), P_c_sBelow s n := Syntax.ind (P := fun s => ∀ (n : Int), P_c_sBelow s n) (fun s ih n => c_sBelow_s s n ih) s
abbrev P_c_iBelow (s : Syntax) (n : Int) : Prop := CallOK Tryz.prog 116 [] [syntaxA s, li n] [] (.sv (lb (blw n s)))
def Tc_iBelow_sLb (s : Syntax) (n : Int) (x0 : SV) : St := St.mk (regsOf 32 [(1, AV.sv (li n)), (21, AV.sv (ll (List.map syntaxC (Syntax.items s)))), (22, AV.sv (li (↑(List.length
 (List.map syntaxC (Syntax.items s))) : Int))), (23, AV.sv x0)]) [] 0 
def Lc_iBelow_sLb (s : Syntax) (n : Int) (k : Nat) : St := Tc_iBelow_sLb s n (li (↑k : Int)) 
def Ic_iBelow_sLb (s : Syntax) (n : Int) : Nat → St → Prop := Head (Lc_iBelow_sLb s n) (fun k => k ≤ List.length (Syntax.items s) ∧ List.length (Syntax.items s) ≤
 9223372036854775807 ∧ List.all (List.take k (Syntax.items s)) (blw n) = true) fun k => List.length (Syntax.items s) - k 
def W0c_iBelow_sLb (s : Syntax) (n : Int) : St := St.mk (regsOf 32 []) [] 0 
def W1c_iBelow_sLb (s : Syntax) (n : Int) (x0 : SV) : St := St.mk (regsOf 32 [(4, AV.sv x0)]) [] 0 
def Yc_iBelow_sLb (s : Syntax) (n : Int) : List (Prop × AEx × St) := [(List.all (Syntax.items s) (blw n) = true, AEx.exit 2, W0c_iBelow_sLb s n), (List.all (Syntax.items s) (blw n)
 = false, AEx.ret, W1c_iBelow_sLb s n (lb false))]
def Tc_iBelow_sLa (s : Syntax) (n : Int) (x0 : SV) : St := St.mk (regsOf 32 [(1, AV.sv (li n)), (2, AV.sv (SV.one (AC.ptr 0 0))), (10, AV.sv (ll (List.map intC (Syntax.scopes
 s)))), (11, AV.sv (li (↑(List.length (List.map intC (Syntax.scopes s))) : Int))), (12, AV.sv x0)]) [Ob.box (vals (syntaxF s))] 0 
def Lc_iBelow_sLa (s : Syntax) (n : Int) (k : Nat) : St := Tc_iBelow_sLa s n (li (↑k : Int)) 
def Ic_iBelow_sLa (s : Syntax) (n : Int) : Nat → St → Prop := Head (Lc_iBelow_sLa s n) (fun k => k ≤ List.length (Syntax.scopes s) ∧ List.length (Syntax.scopes s) ≤
 9223372036854775807 ∧ scB n (List.take k (Syntax.scopes s)) = true) fun k => List.length (Syntax.scopes s) - k 
def W0c_iBelow_sLa (s : Syntax) (n : Int) : St := St.mk (regsOf 32 [(1, AV.sv (li n)), (2, AV.sv (SV.one (AC.ptr 0 0)))]) [Ob.box (vals (syntaxF s))] 0 
def W1c_iBelow_sLa (s : Syntax) (n : Int) (x0 : SV) : St := St.mk (regsOf 32 [(4, AV.sv x0)]) [] 0 
def Yc_iBelow_sLa (s : Syntax) (n : Int) : List (Prop × AEx × St) := [(scB n (Syntax.scopes s) = true, AEx.exit 0, W0c_iBelow_sLa s n), (blw n s = false, AEx.ret, W1c_iBelow_sLa s
 n (lb false))]
theorem Hc_iBelow_sLb {s : Syntax} {n : Int} {k : Nat} {m : Nat} (h : (fun k => k ≤ List.length (Syntax.items s) ∧ List.length (Syntax.items s) ≤ 9223372036854775807 ∧ List.all
 (List.take k (Syntax.items s)) (blw n) = true) k) (hm : (fun k => List.length (Syntax.items s) - k) k = m) : Ic_iBelow_sLb s n m (Lc_iBelow_sLb s n k) := hm ▸ Head.mk h
theorem Ec_iBelow_sLb {s : Syntax} {n : Int} {k : Nat} {x0 : SV} (h0 : x0 = (li (↑k : Int))) : Tc_iBelow_sLb s n x0 = Lc_iBelow_sLb s n k := by
  rw [h0]
  rfl
theorem EW1c_iBelow_sLb {s : Syntax} {n : Int} {x0 y0 : SV} (h0 : x0 = y0) : W1c_iBelow_sLb s n x0 = W1c_iBelow_sLb s n y0 := by rw [h0]
theorem run_c_iBelow_sLb (s : Syntax) (n : Int) (k : Nat) : aexec Tryz.prog (loopAt Tryz.f116 1) (Lc_iBelow_sLb s n k) [Orc.br [Orc.cells (syntaxF (List.getD (Syntax.items s) k
 default)), Orc.call [Mode.rd, Mode.rd] [] (AV.sv (lb (blw n (List.getD (Syntax.items s) k default)))), Orc.br [Orc.ghost (Ghost.sel [] [4]), Orc.out 1] [Orc.ghost (Ghost.sel []
 [1, 21, 22, 23]), Orc.goto (List.length (Syntax.items s) - (k + 1)) (Lc_iBelow_sLb s n (k + 1))]] [Orc.ghost (Ghost.sel [] []), Orc.out 0]] (loopK (Ic_iBelow_sLb s n)
 (Yc_iBelow_sLb s n) (List.length (Syntax.items s) - k)) = ((decide ((↑k : Int) < (↑(List.length (List.map syntaxC (Syntax.items s))) : Int)) = true → (0 ≤ (↑k : Int) ∧ (List.map
 syntaxC (Syntax.items s))[Int.toNat (↑k : Int)]? = some (syntaxF (List.getD (Syntax.items s) k default))) ∧ P_c_iBelow (List.getD (Syntax.items s) k default) n ∧ ((!blw n
 (List.getD (Syntax.items s) k default)) = true → List.all (Syntax.items s) (blw n) = false ∧ W1c_iBelow_sLa s n (lb false) = W1c_iBelow_sLb s n (lb false)) ∧ ((!blw n (List.getD
 (Syntax.items s) k default)) = false → rng IntKind.i64 ((↑k : Int) + 1) ∧ List.length (Syntax.items s) - (k + 1) < List.length (Syntax.items s) - k ∧ Tc_iBelow_sLb s n (li ((↑k :
 Int) + 1)) = Lc_iBelow_sLb s n (k + 1) ∧ Ic_iBelow_sLb s n (List.length (Syntax.items s) - (k + 1)) (Lc_iBelow_sLb s n (k + 1)))) ∧ (decide ((↑k : Int) < (↑(List.length (List.map
 syntaxC (Syntax.items s))) : Int)) = false → List.all (Syntax.items s) (blw n) = true ∧ W0c_iBelow_sLb s n = W0c_iBelow_sLb s n)) := by kernel_rfl
theorem Hc_iBelow_sLa {s : Syntax} {n : Int} {k : Nat} {m : Nat} (h : (fun k => k ≤ List.length (Syntax.scopes s) ∧ List.length (Syntax.scopes s) ≤ 9223372036854775807 ∧ scB n
 (List.take k (Syntax.scopes s)) = true) k) (hm : (fun k => List.length (Syntax.scopes s) - k) k = m) : Ic_iBelow_sLa s n m (Lc_iBelow_sLa s n k) := hm ▸ Head.mk h
theorem Ec_iBelow_sLa {s : Syntax} {n : Int} {k : Nat} {x0 : SV} (h0 : x0 = (li (↑k : Int))) : Tc_iBelow_sLa s n x0 = Lc_iBelow_sLa s n k := by
  rw [h0]
  rfl
theorem EW1c_iBelow_sLa {s : Syntax} {n : Int} {x0 y0 : SV} (h0 : x0 = y0) : W1c_iBelow_sLa s n x0 = W1c_iBelow_sLa s n y0 := by rw [h0]
theorem run_c_iBelow_sLa (s : Syntax) (n : Int) (k : Nat) : aexec Tryz.prog (loopAt Tryz.f116 0) (Lc_iBelow_sLa s n k) [Orc.br [Orc.cells (intC (List.getD (Syntax.scopes s) k
 default)), Orc.br [Orc.ghost (Ghost.sel [] [4]), Orc.out 1] [Orc.ghost (Ghost.sel [0] [1, 2, 10, 11, 12]), Orc.goto (List.length (Syntax.scopes s) - (k + 1)) (Lc_iBelow_sLa s n (k
 + 1))]] [Orc.ghost (Ghost.sel [0] [1, 2]), Orc.out 0]] (loopK (Ic_iBelow_sLa s n) (Yc_iBelow_sLa s n) (List.length (Syntax.scopes s) - k)) = ((decide ((↑k : Int) < (↑(List.length
 (List.map intC (Syntax.scopes s))) : Int)) = true → (0 ≤ (↑k : Int) ∧ (List.map intC (Syntax.scopes s))[Int.toNat (↑k : Int)]? = some [cI (List.getD (Syntax.scopes s) k 0)]) ∧
 (decide (n < List.getD (Syntax.scopes s) k 0) = true → blw n s = false ∧ W1c_iBelow_sLa s n (lb false) = W1c_iBelow_sLa s n (lb false)) ∧ (decide (n < List.getD (Syntax.scopes s)
 k 0) = false → rng IntKind.i64 ((↑k : Int) + 1) ∧ List.length (Syntax.scopes s) - (k + 1) < List.length (Syntax.scopes s) - k ∧ Tc_iBelow_sLa s n (li ((↑k : Int) + 1)) =
 Lc_iBelow_sLa s n (k + 1) ∧ Ic_iBelow_sLa s n (List.length (Syntax.scopes s) - (k + 1)) (Lc_iBelow_sLa s n (k + 1)))) ∧ (decide ((↑k : Int) < (↑(List.length (List.map intC
 (Syntax.scopes s))) : Int)) = false → scB n (Syntax.scopes s) = true ∧ W0c_iBelow_sLa s n = W0c_iBelow_sLa s n)) := by kernel_rfl
theorem Sc_iBelow_sLb (s : Syntax) (n : Int) (ih : ∀ (z : Syntax), z ∈ Syntax.items s → ∀ (n : Int), P_c_iBelow z n)  : LoopSem Tryz.prog (loopAt Tryz.f116 1) (Ic_iBelow_sLb s n)
 (Yc_iBelow_sLb s n) := by
  refine LoopSem.ofHead wide fun k h => ⟨_, _, run_c_iBelow_sLb s n k, ?_⟩
  with_reducible repeat' (first | apply And.intro | exact flatI | exact flatS | exact rowLens | exact ih | (intro; skip) | apply obsN | apply obsC | apply obA | apply obM | apply obB | apply svA | apply tupA | apply lcA | apply lcS | apply svC | apply liC | apply lbC | apply lsC | apply vIc | apply vBc | apply vSc | apply vLc | apply mapC | apply mIc | apply mOc | apply mSc | apply mLc | apply Hc_iBelow_sLa | apply Ec_iBelow_sLa | apply Hc_iBelow_sLb | apply Ec_iBelow_sLb | apply EW1c_iBelow_sLb | apply EW1c_iBelow_sLa | apply ih)
  all_goals (try simp only [std] at *)
  all_goals (try (first | with_reducible apply ih | (simp only [← List.map_append]; first | with_reducible apply ih)))
  all_goals (try (first | with_reducible rfl | omega | assumption | (refine (decide_eq_true ?_).symm; assumption) | (refine (decide_eq_false ?_).symm; assumption) | (refine rowGet ?_; (first | omega | (simp only [std]; omega) | grind)) | (refine getC ?_ rfl; (first | omega | (simp only [std]; omega) | grind)) | exact look_mI | exact look_mO | exact look_mO1 | exact look_mS | exact look_mL | exact upd_mI | exact upd_mO | exact del_mO | exact upd_mS | exact take_mL | (refine upd_mL ?_; grind) | (refine fill_step ?_ ?_; (first | omega | (simp only [std]; omega) | grind); (first | rfl | exact (Row.eq _).trans rfl)) | (refine fill_init ?_; (first | rfl | exact (Row.eq _).trans rfl)) | (show (_ : St) = _; rfl) | grind [take_get, getD_mem', snocI, snocS, rowSnoc]))
theorem Sc_iBelow_sLa (s : Syntax) (n : Int) (ih : ∀ (z : Syntax), z ∈ Syntax.items s → ∀ (n : Int), P_c_iBelow z n)  : LoopSem Tryz.prog (loopAt Tryz.f116 0) (Ic_iBelow_sLa s n)
 (Yc_iBelow_sLa s n) := by
  refine LoopSem.ofHead wide fun k h => ⟨_, _, run_c_iBelow_sLa s n k, ?_⟩
  have g1 := blw_eq n s
  have g2 := @scB_stop n s.scopes k
  with_reducible repeat' (first | apply And.intro | exact flatI | exact flatS | exact rowLens | exact ih | (intro; skip) | apply obsN | apply obsC | apply obA | apply obM | apply obB | apply svA | apply tupA | apply lcA | apply lcS | apply svC | apply liC | apply lbC | apply lsC | apply vIc | apply vBc | apply vSc | apply vLc | apply mapC | apply mIc | apply mOc | apply mSc | apply mLc | apply Hc_iBelow_sLa | apply Ec_iBelow_sLa | apply Hc_iBelow_sLb | apply Ec_iBelow_sLb | apply Sc_iBelow_sLb | apply EW1c_iBelow_sLb | apply EW1c_iBelow_sLa | apply ih)
  all_goals (try simp only [std] at *)
  all_goals (try (first | with_reducible apply ih | (simp only [← List.map_append]; first | with_reducible apply ih)))
  all_goals (try (first | with_reducible rfl | omega | assumption | (refine (decide_eq_true ?_).symm; assumption) | (refine (decide_eq_false ?_).symm; assumption) | (refine rowGet ?_; (first | omega | (simp only [std]; omega) | grind)) | (refine getC ?_ rfl; (first | omega | (simp only [std]; omega) | grind)) | exact look_mI | exact look_mO | exact look_mO1 | exact look_mS | exact look_mL | exact upd_mI | exact upd_mO | exact del_mO | exact upd_mS | exact take_mL | (refine upd_mL ?_; grind) | (refine fill_step ?_ ?_; (first | omega | (simp only [std]; omega) | grind); (first | rfl | exact (Row.eq _).trans rfl)) | (refine fill_init ?_; (first | rfl | exact (Row.eq _).trans rfl)) | (show (_ : St) = _; rfl) | grind [take_get, getD_mem', scB, snocI, snocS, rowSnoc]))
theorem run_c_iBelow_s (s : Syntax) (n : Int) : aexec Tryz.prog (Option.getD (Func.body Tryz.f116) Code.skip) (entry [] [syntaxA s, li n] 32) [Orc.ghost (Ghost.sel [0] [1, 2, 10,
 11, 12]), Orc.loop (List.length (Syntax.scopes s) - 0) (Lc_iBelow_sLa s n 0) (Ic_iBelow_sLa s n) [(scB n (Syntax.scopes s) = true, AEx.exit 0, W0c_iBelow_sLa s n, [Orc.ghost
 (Ghost.sel [] [1, 21, 22, 23]), Orc.loop (List.length (Syntax.items s) - 0) (Lc_iBelow_sLb s n 0) (Ic_iBelow_sLb s n) [(List.all (Syntax.items s) (blw n) = true, AEx.exit 2,
 W0c_iBelow_sLb s n, [Orc.fin []]), (List.all (Syntax.items s) (blw n) = false, AEx.ret, W1c_iBelow_sLb s n (lb false), [Orc.fin []])]]), (blw n s = false, AEx.ret, W1c_iBelow_sLa
 s n (lb false), [Orc.fin []])]] (finK Tryz.prog [ResultVar.tmp 4] [] (AV.sv (lb (blw n s)))) = (List.length (List.map intC (Syntax.scopes s)) ≤ 9223372036854775807 → Tc_iBelow_sLa
 s n (li 0) = Lc_iBelow_sLa s n 0 ∧ Ic_iBelow_sLa s n (List.length (Syntax.scopes s) - 0) (Lc_iBelow_sLa s n 0) ∧ LoopSem Tryz.prog (loopAt Tryz.f116 0) (Ic_iBelow_sLa s n)
 (Yc_iBelow_sLa s n) ∧ (scB n (Syntax.scopes s) = true → List.length (List.map syntaxC (Syntax.items s)) ≤ 9223372036854775807 → Tc_iBelow_sLb s n (li 0) = Lc_iBelow_sLb s n 0 ∧
 Ic_iBelow_sLb s n (List.length (Syntax.items s) - 0) (Lc_iBelow_sLb s n 0) ∧ LoopSem Tryz.prog (loopAt Tryz.f116 1) (Ic_iBelow_sLb s n) (Yc_iBelow_sLb s n) ∧ (List.all
 (Syntax.items s) (blw n) = true → ObsEq [] [] ∧ AV.sv (lb true) = AV.sv (lb (blw n s))) ∧ (List.all (Syntax.items s) (blw n) = false → ObsEq [] [] ∧ AV.sv (lb false) = AV.sv (lb
 (blw n s))) ∧ True) ∧ (blw n s = false → ObsEq [] [] ∧ AV.sv (lb false) = AV.sv (lb (blw n s))) ∧ True) := by kernel_rfl
theorem c_iBelow_s (s : Syntax) (n : Int) (ih : ∀ z ∈ s.items, ∀ (n : Int), P_c_iBelow z n)  : P_c_iBelow s n := by
  refine CallOK.ofRun wide (run_c_iBelow_s s n) Tryz.call116 Tryz.func116 rfl rfl rfl ?_
  have g1 := blw_eq n s
  with_reducible repeat' (first | apply And.intro | exact flatI | exact flatS | exact rowLens | exact ih | (intro; skip) | apply obsN | apply obsC | apply obA | apply obM | apply obB | apply svA | apply tupA | apply lcA | apply lcS | apply svC | apply liC | apply lbC | apply lsC | apply vIc | apply vBc | apply vSc | apply vLc | apply mapC | apply mIc | apply mOc | apply mSc | apply mLc | apply Hc_iBelow_sLa | apply Ec_iBelow_sLa | apply Sc_iBelow_sLa | apply Hc_iBelow_sLb | apply Ec_iBelow_sLb | apply Sc_iBelow_sLb | apply EW1c_iBelow_sLb | apply EW1c_iBelow_sLa)
  all_goals (try simp only [std] at *)
  all_goals (try (first | with_reducible apply ih | (simp only [← List.map_append]; first | with_reducible apply ih)))
  all_goals (try (first | with_reducible rfl | omega | assumption | (refine (decide_eq_true ?_).symm; assumption) | (refine (decide_eq_false ?_).symm; assumption) | (refine rowGet ?_; (first | omega | (simp only [std]; omega) | grind)) | (refine getC ?_ rfl; (first | omega | (simp only [std]; omega) | grind)) | exact look_mI | exact look_mO | exact look_mO1 | exact look_mS | exact look_mL | exact upd_mI | exact upd_mO | exact del_mO | exact upd_mS | exact take_mL | (refine upd_mL ?_; grind) | (refine fill_step ?_ ?_; (first | omega | (simp only [std]; omega) | grind); (first | rfl | exact (Row.eq _).trans rfl)) | (refine fill_init ?_; (first | rfl | exact (Row.eq _).trans rfl)) | (show (_ : St) = _; rfl) | grind [scB, snocI, snocS, rowSnoc]))
theorem c_iBelow (s : Syntax) : ∀ (n : Int), P_c_iBelow s n := Syntax.ind (P := fun s => ∀ (n : Int), P_c_iBelow s n) (fun s ih n => c_iBelow_s s n ih) s
def ruL (r : Rules) : List (List Syntax) := [r.literals, r.patterns, r.templates]
def allB (n : Int) (L : List Syntax) : Bool := L.all (blw n)
def rulB (n : Int) (r : Rules) : Bool := (ruL r).all (allB n)
theorem rulB_eq (n : Int) (r : Rules) : rulB n r = (allB n r.literals && allB n r.patterns && allB n r.templates) := by
  simp only [rulB, ruL, List.all_cons, List.all_nil, Bool.and_true, Bool.and_assoc]
def lsynC (l : List Syntax) : List Cell := [.list (l.map syntaxC)]
def lsynF (l : List Syntax) : List Cell := [.list (l.map syntaxC)]
instance : Row (List Syntax) lsynC lsynF 1 := ⟨fun _ => rfl, fun _ => rfl⟩
theorem ruL_cells (r : Rules) : [[Cell.list (r.literals.map syntaxC)], [Cell.list (r.patterns.map syntaxC)], [Cell.list (r.templates.map syntaxC)]] = (ruL r).map lsynC := rfl
abbrev P_c_iAllB (L : List Syntax) (n : Int) : Prop := CallOK Tryz.prog 166 [] [ll (L.map syntaxC), li n] [] (.sv (lb (allB n L)))
def Tc_iAllBLa (L : List Syntax) (n : Int) (x0 : SV) : St := St.mk (regsOf 18 [(1, AV.sv (li n)), (7, AV.sv (ll (List.map syntaxC L))), (8, AV.sv (li (↑(List.length (List.map
 syntaxC L)) : Int))), (9, AV.sv x0)]) [] 0 
def Lc_iAllBLa (L : List Syntax) (n : Int) (k : Nat) : St := Tc_iAllBLa L n (li (↑k : Int)) 
def Ic_iAllBLa (L : List Syntax) (n : Int) : Nat → St → Prop := Head (Lc_iAllBLa L n) (fun k => k ≤ List.length L ∧ List.length L ≤ 9223372036854775807 ∧ List.all (List.take k L)
 (blw n) = true) fun k => List.length L - k 
def W0c_iAllBLa (L : List Syntax) (n : Int) : St := St.mk (regsOf 18 []) [] 0 
def W1c_iAllBLa (L : List Syntax) (n : Int) (x0 : SV) : St := St.mk (regsOf 18 [(4, AV.sv x0)]) [] 0 
def Yc_iAllBLa (L : List Syntax) (n : Int) : List (Prop × AEx × St) := [(allB n L = true, AEx.exit 0, W0c_iAllBLa L n), (allB n L = false, AEx.ret, W1c_iAllBLa L n (lb false))]
theorem Hc_iAllBLa {L : List Syntax} {n : Int} {k : Nat} {m : Nat} (h : (fun k => k ≤ List.length L ∧ List.length L ≤ 9223372036854775807 ∧ List.all (List.take k L) (blw n) = true)
 k) (hm : (fun k => List.length L - k) k = m) : Ic_iAllBLa L n m (Lc_iAllBLa L n k) := hm ▸ Head.mk h
theorem Ec_iAllBLa {L : List Syntax} {n : Int} {k : Nat} {x0 : SV} (h0 : x0 = (li (↑k : Int))) : Tc_iAllBLa L n x0 = Lc_iAllBLa L n k := by
  rw [h0]
  rfl
theorem EW1c_iAllBLa {L : List Syntax} {n : Int} {x0 y0 : SV} (h0 : x0 = y0) : W1c_iAllBLa L n x0 = W1c_iAllBLa L n y0 := by rw [h0]
theorem run_c_iAllBLa (L : List Syntax) (n : Int) (k : Nat) : aexec Tryz.prog (loopAt Tryz.f166 0) (Lc_iAllBLa L n k) [Orc.br [Orc.cells (syntaxF (List.getD L k default)), Orc.call
 [Mode.rd, Mode.rd] [] (AV.sv (lb (blw n (List.getD L k default)))), Orc.br [Orc.ghost (Ghost.sel [] [4]), Orc.out 1] [Orc.ghost (Ghost.sel [] [1, 7, 8, 9]), Orc.goto (List.length
 L - (k + 1)) (Lc_iAllBLa L n (k + 1))]] [Orc.ghost (Ghost.sel [] []), Orc.out 0]] (loopK (Ic_iAllBLa L n) (Yc_iAllBLa L n) (List.length L - k)) = ((decide ((↑k : Int) <
 (↑(List.length (List.map syntaxC L)) : Int)) = true → (0 ≤ (↑k : Int) ∧ (List.map syntaxC L)[Int.toNat (↑k : Int)]? = some (syntaxF (List.getD L k default))) ∧ P_c_iBelow
 (List.getD L k default) n ∧ ((!blw n (List.getD L k default)) = true → allB n L = false ∧ W1c_iAllBLa L n (lb false) = W1c_iAllBLa L n (lb false)) ∧ ((!blw n (List.getD L k
 default)) = false → rng IntKind.i64 ((↑k : Int) + 1) ∧ List.length L - (k + 1) < List.length L - k ∧ Tc_iAllBLa L n (li ((↑k : Int) + 1)) = Lc_iAllBLa L n (k + 1) ∧ Ic_iAllBLa L n
 (List.length L - (k + 1)) (Lc_iAllBLa L n (k + 1)))) ∧ (decide ((↑k : Int) < (↑(List.length (List.map syntaxC L)) : Int)) = false → allB n L = true ∧ W0c_iAllBLa L n = W0c_iAllBLa
 L n)) := by kernel_rfl
theorem Sc_iAllBLa (L : List Syntax) (n : Int)  : LoopSem Tryz.prog (loopAt Tryz.f166 0) (Ic_iAllBLa L n) (Yc_iAllBLa L n) := by
  refine LoopSem.ofHead wide fun k h => ⟨_, _, run_c_iAllBLa L n k, ?_⟩
  with_reducible repeat' (first | apply And.intro | exact flatI | exact flatS | exact rowLens | (intro; skip) | apply obsN | apply obsC | apply obA | apply obM | apply obB | apply svA | apply tupA | apply lcA | apply lcS | apply svC | apply liC | apply lbC | apply lsC | apply vIc | apply vBc | apply vSc | apply vLc | apply mapC | apply mIc | apply mOc | apply mSc | apply mLc | apply Hc_iAllBLa | apply Ec_iAllBLa | apply EW1c_iAllBLa | apply c_iBelow)
  all_goals (try simp only [std] at *)
  all_goals (try (first | with_reducible apply c_iBelow | (simp only [← List.map_append]; first | with_reducible apply c_iBelow)))
  all_goals (try (first | with_reducible rfl | omega | assumption | (refine (decide_eq_true ?_).symm; assumption) | (refine (decide_eq_false ?_).symm; assumption) | (refine rowGet ?_; (first | omega | (simp only [std]; omega) | grind)) | (refine getC ?_ rfl; (first | omega | (simp only [std]; omega) | grind)) | exact look_mI | exact look_mO | exact look_mO1 | exact look_mS | exact look_mL | exact upd_mI | exact upd_mO | exact del_mO | exact upd_mS | exact take_mL | (refine upd_mL ?_; grind) | (refine fill_step ?_ ?_; (first | omega | (simp only [std]; omega) | grind); (first | rfl | exact (Row.eq _).trans rfl)) | (refine fill_init ?_; (first | rfl | exact (Row.eq _).trans rfl)) | (show (_ : St) = _; rfl) | grind [take_get, getD_mem', allB, snocI, snocS, rowSnoc]))
theorem run_c_iAllB (L : List Syntax) (n : Int) : aexec Tryz.prog (Option.getD (Func.body Tryz.f166) Code.skip) (entry [] [ll (List.map syntaxC L), li n] 18) [Orc.ghost (Ghost.sel
 [] [1, 7, 8, 9]), Orc.loop (List.length L - 0) (Lc_iAllBLa L n 0) (Ic_iAllBLa L n) [(allB n L = true, AEx.exit 0, W0c_iAllBLa L n, [Orc.fin []]), (allB n L = false, AEx.ret,
 W1c_iAllBLa L n (lb false), [Orc.fin []])]] (finK Tryz.prog [ResultVar.tmp 4] [] (AV.sv (lb (allB n L)))) = (List.length (List.map syntaxC L) ≤ 9223372036854775807 → Tc_iAllBLa L
 n (li 0) = Lc_iAllBLa L n 0 ∧ Ic_iAllBLa L n (List.length L - 0) (Lc_iAllBLa L n 0) ∧ LoopSem Tryz.prog (loopAt Tryz.f166 0) (Ic_iAllBLa L n) (Yc_iAllBLa L n) ∧ (allB n L = true →
 ObsEq [] [] ∧ AV.sv (lb true) = AV.sv (lb (allB n L))) ∧ (allB n L = false → ObsEq [] [] ∧ AV.sv (lb false) = AV.sv (lb (allB n L))) ∧ True) := by kernel_rfl
theorem c_iAllB (L : List Syntax) (n : Int)  : P_c_iAllB L n := by
  refine CallOK.ofRun wide (run_c_iAllB L n) Tryz.call166 Tryz.func166 rfl rfl rfl ?_
  with_reducible repeat' (first | apply And.intro | exact flatI | exact flatS | exact rowLens | (intro; skip) | apply obsN | apply obsC | apply obA | apply obM | apply obB | apply svA | apply tupA | apply lcA | apply lcS | apply svC | apply liC | apply lbC | apply lsC | apply vIc | apply vBc | apply vSc | apply vLc | apply mapC | apply mIc | apply mOc | apply mSc | apply mLc | apply Hc_iAllBLa | apply Ec_iAllBLa | apply Sc_iAllBLa | apply EW1c_iAllBLa | apply c_iBelow)
  all_goals (try simp only [std] at *)
  all_goals (try (first | with_reducible apply c_iBelow | (simp only [← List.map_append]; first | with_reducible apply c_iBelow)))
  all_goals (try (first | with_reducible rfl | omega | assumption | (refine (decide_eq_true ?_).symm; assumption) | (refine (decide_eq_false ?_).symm; assumption) | (refine rowGet ?_; (first | omega | (simp only [std]; omega) | grind)) | (refine getC ?_ rfl; (first | omega | (simp only [std]; omega) | grind)) | exact look_mI | exact look_mO | exact look_mO1 | exact look_mS | exact look_mL | exact upd_mI | exact upd_mO | exact del_mO | exact upd_mS | exact take_mL | (refine upd_mL ?_; grind) | (refine fill_step ?_ ?_; (first | omega | (simp only [std]; omega) | grind); (first | rfl | exact (Row.eq _).trans rfl)) | (refine fill_init ?_; (first | rfl | exact (Row.eq _).trans rfl)) | (show (_ : St) = _; rfl) | grind [allB, snocI, snocS, rowSnoc]))
abbrev P_c_iRulB (r : Rules) (n : Int) : Prop := CallOK Tryz.prog 89 [] [rulesA r, li n] [] (.sv (lb (rulB n r)))
theorem run_c_iRulB (r : Rules) (n : Int) : aexec Tryz.prog (Option.getD (Func.body Tryz.f89) Code.skip) (entry [] [rulesA r, li n] 21) [Orc.call [Mode.rd, Mode.rd] [] (AV.sv (lb
 (allB n (Rules.literals r)))), Orc.br [Orc.call [Mode.rd, Mode.rd] [] (AV.sv (lb (allB n (Rules.patterns r)))), Orc.br [Orc.call [Mode.rd, Mode.rd] [] (AV.sv (lb (allB n
 (Rules.templates r)))), Orc.fin []] [Orc.fin []]] [Orc.bool false, Orc.fin []]] (finK Tryz.prog [ResultVar.tmp 4] [] (AV.sv (lb (rulB n r)))) = (P_c_iAllB (Rules.literals r) n ∧
 (allB n (Rules.literals r) = true → P_c_iAllB (Rules.patterns r) n ∧ (allB n (Rules.patterns r) = true → P_c_iAllB (Rules.templates r) n ∧ ObsEq [] [] ∧ AV.sv (lb (allB n
 (Rules.templates r))) = AV.sv (lb (rulB n r))) ∧ (allB n (Rules.patterns r) = false → ObsEq [] [] ∧ AV.sv (lb false) = AV.sv (lb (rulB n r)))) ∧ (allB n (Rules.literals r) = false
 → false = false ∧ ObsEq [] [] ∧ AV.sv (lb false) = AV.sv (lb (rulB n r)))) := by kernel_rfl
theorem c_iRulB (r : Rules) (n : Int)  : P_c_iRulB r n := by
  refine CallOK.ofRun wide (run_c_iRulB r n) Tryz.call89 Tryz.func89 rfl rfl rfl ?_
  have g1 := rulB_eq n r
  with_reducible repeat' (first | apply And.intro | exact flatI | exact flatS | exact rowLens | (intro; skip) | apply obsN | apply obsC | apply obA | apply obM | apply obB | apply svA | apply tupA | apply lcA | apply lcS | apply svC | apply liC | apply lbC | apply lsC | apply vIc | apply vBc | apply vSc | apply vLc | apply mapC | apply mIc | apply mOc | apply mSc | apply mLc | apply c_iAllB)
  all_goals (try simp only [std] at *)
  all_goals (try (first | with_reducible apply c_iAllB | (simp only [← List.map_append]; first | with_reducible apply c_iAllB)))
  all_goals (try (first | with_reducible rfl | omega | assumption | (refine (decide_eq_true ?_).symm; assumption) | (refine (decide_eq_false ?_).symm; assumption) | (refine rowGet ?_; (first | omega | (simp only [std]; omega) | grind)) | (refine getC ?_ rfl; (first | omega | (simp only [std]; omega) | grind)) | exact look_mI | exact look_mO | exact look_mO1 | exact look_mS | exact look_mL | exact upd_mI | exact upd_mO | exact del_mO | exact upd_mS | exact take_mL | (refine upd_mL ?_; grind) | (refine fill_step ?_ ?_; (first | omega | (simp only [std]; omega) | grind); (first | rfl | exact (Row.eq _).trans rfl)) | (refine fill_init ?_; (first | rfl | exact (Row.eq _).trans rfl)) | (show (_ : St) = _; rfl) | grind [snocI, snocS, rowSnoc]))
abbrev P_c_sRulB (r : Rules) (n : Int) : Prop := CallOK Tryz.prog 85 [] [rulesA r, li n] [] (.sv (lb (rulB n r)))
def Tc_sRulBLb (r : Rules) (n : Int) (k : Nat) (x0 : SV) : St := St.mk (regsOf 33 [(1, AV.sv (li n)), (15, AV.sv (SV.one (AC.ref 0))), (16, AV.sv (li 3)), (17, AV.sv (li (↑k :
 Int))), (21, AV.sv (ll (List.map syntaxC (List.getD (ruL r) (Int.toNat (↑k : Int)) [])))), (22, AV.sv (li (↑(List.length (List.map syntaxC (List.getD (ruL r) (Int.toNat (↑k :
 Int)) []))) : Int))), (23, AV.sv x0)]) [Ob.arr false 1 (List.map lsynC (ruL r))] 0 
def Lc_sRulBLb (r : Rules) (n : Int) (k : Nat) (k1 : Nat) : St := Tc_sRulBLb r n k (li (↑k1 : Int)) 
def Ic_sRulBLb (r : Rules) (n : Int) (k : Nat) : Nat → St → Prop := Head (Lc_sRulBLb r n k) (fun k1 => k1 ≤ List.length (List.getD (ruL r) k []) ∧ List.length (List.getD (ruL r) k
 []) ≤ 9223372036854775807 ∧ k < 3 ∧ List.all (List.take k1 (List.getD (ruL r) k [])) (blw n) = true) fun k1 => List.length (List.getD (ruL r) k []) - k1 
def W0c_sRulBLb (r : Rules) (n : Int) (k : Nat) : St := St.mk (regsOf 33 [(1, AV.sv (li n)), (15, AV.sv (SV.one (AC.ref 0))), (16, AV.sv (li 3)), (17, AV.sv (li (↑k : Int)))])
 [Ob.arr false 1 (List.map lsynC (ruL r))] 0 
def W1c_sRulBLb (r : Rules) (n : Int) (k : Nat) (x0 : SV) : St := St.mk (regsOf 33 [(4, AV.sv x0)]) [] 0 
def Yc_sRulBLb (r : Rules) (n : Int) (k : Nat) : List (Prop × AEx × St) := [(allB n (List.getD (ruL r) k []) = true, AEx.exit 2, W0c_sRulBLb r n k), (rulB n r = false, AEx.ret,
 W1c_sRulBLb r n k (lb false))]
def Tc_sRulBLa (r : Rules) (n : Int) (x0 : SV) (x1 : Ob) : St := St.mk (regsOf 33 [(1, AV.sv (li n)), (15, AV.sv (SV.one (AC.ref 0))), (16, AV.sv (li 3)), (17, AV.sv x0)]) [x1] 0 
def Lc_sRulBLa (r : Rules) (n : Int) (k : Nat) : St := Tc_sRulBLa r n (li (↑k : Int)) (Ob.arr false 1 (List.map lsynC (ruL r))) 
def Ic_sRulBLa (r : Rules) (n : Int) : Nat → St → Prop := Head (Lc_sRulBLa r n) (fun k => k ≤ 3 ∧ List.all (List.take k (ruL r)) (allB n) = true) fun k => 3 - k 
def W0c_sRulBLa (r : Rules) (n : Int) : St := St.mk (regsOf 33 []) [] 0 
def W1c_sRulBLa (r : Rules) (n : Int) (x0 : SV) : St := St.mk (regsOf 33 [(4, AV.sv x0)]) [] 0 
def Yc_sRulBLa (r : Rules) (n : Int) : List (Prop × AEx × St) := [(rulB n r = true, AEx.exit 0, W0c_sRulBLa r n), (rulB n r = false, AEx.ret, W1c_sRulBLa r n (lb false))]
theorem Hc_sRulBLb {r : Rules} {n : Int} {k : Nat} {k1 : Nat} {m : Nat} (h : (fun k1 => k1 ≤ List.length (List.getD (ruL r) k []) ∧ List.length (List.getD (ruL r) k []) ≤
 9223372036854775807 ∧ k < 3 ∧ List.all (List.take k1 (List.getD (ruL r) k [])) (blw n) = true) k1) (hm : (fun k1 => List.length (List.getD (ruL r) k []) - k1) k1 = m) : Ic_sRulBLb
 r n k m (Lc_sRulBLb r n k k1) := hm ▸ Head.mk h
theorem Ec_sRulBLb {r : Rules} {n : Int} {k : Nat} {k1 : Nat} {x0 : SV} (h0 : x0 = (li (↑k1 : Int))) : Tc_sRulBLb r n k x0 = Lc_sRulBLb r n k k1 := by
  rw [h0]
  rfl
theorem EW1c_sRulBLb {r : Rules} {n : Int} {k : Nat} {x0 y0 : SV} (h0 : x0 = y0) : W1c_sRulBLb r n k x0 = W1c_sRulBLb r n k y0 := by rw [h0]
theorem run_c_sRulBLb (r : Rules) (n : Int) (k : Nat) (k1 : Nat) : aexec Tryz.prog (loopAt Tryz.f85 1) (Lc_sRulBLb r n k k1) [Orc.br [Orc.cells (syntaxF (List.getD (List.getD (ruL
 r) (Int.toNat (↑k : Int)) []) k1 default)), Orc.call [Mode.rd, Mode.rd] [] (AV.sv (lb (blw n (List.getD (List.getD (ruL r) (Int.toNat (↑k : Int)) []) k1 default)))), Orc.br
 [Orc.ghost (Ghost.sel [] [4]), Orc.out 1] [Orc.ghost (Ghost.sel [0] [1, 15, 16, 17, 21, 22, 23]), Orc.goto (List.length (List.getD (ruL r) k []) - (k1 + 1)) (Lc_sRulBLb r n k (k1
 + 1))]] [Orc.ghost (Ghost.sel [0] [1, 15, 16, 17]), Orc.out 0]] (loopK (Ic_sRulBLb r n k) (Yc_sRulBLb r n k) (List.length (List.getD (ruL r) k []) - k1)) = ((decide ((↑k1 : Int) <
 (↑(List.length (List.map syntaxC (List.getD (ruL r) (Int.toNat (↑k : Int)) []))) : Int)) = true → (0 ≤ (↑k1 : Int) ∧ (List.map syntaxC (List.getD (ruL r) (Int.toNat (↑k : Int))
 []))[Int.toNat (↑k1 : Int)]? = some (syntaxF (List.getD (List.getD (ruL r) (Int.toNat (↑k : Int)) []) k1 default))) ∧ P_c_sBelow (List.getD (List.getD (ruL r) (Int.toNat (↑k :
 Int)) []) k1 default) n ∧ ((!blw n (List.getD (List.getD (ruL r) (Int.toNat (↑k : Int)) []) k1 default)) = true → rulB n r = false ∧ W1c_sRulBLa r n (lb false) = W1c_sRulBLb r n k
 (lb false)) ∧ ((!blw n (List.getD (List.getD (ruL r) (Int.toNat (↑k : Int)) []) k1 default)) = false → rng IntKind.i64 ((↑k1 : Int) + 1) ∧ List.length (List.getD (ruL r) k []) -
 (k1 + 1) < List.length (List.getD (ruL r) k []) - k1 ∧ Tc_sRulBLb r n k (li ((↑k1 : Int) + 1)) = Lc_sRulBLb r n k (k1 + 1) ∧ Ic_sRulBLb r n k (List.length (List.getD (ruL r) k [])
 - (k1 + 1)) (Lc_sRulBLb r n k (k1 + 1)))) ∧ (decide ((↑k1 : Int) < (↑(List.length (List.map syntaxC (List.getD (ruL r) (Int.toNat (↑k : Int)) []))) : Int)) = false → allB n
 (List.getD (ruL r) k []) = true ∧ W0c_sRulBLb r n k = W0c_sRulBLb r n k)) := by kernel_rfl
theorem Hc_sRulBLa {r : Rules} {n : Int} {k : Nat} {m : Nat} (h : (fun k => k ≤ 3 ∧ List.all (List.take k (ruL r)) (allB n) = true) k) (hm : (fun k => 3 - k) k = m) : Ic_sRulBLa r
 n m (Lc_sRulBLa r n k) := hm ▸ Head.mk h
theorem Ec_sRulBLa {r : Rules} {n : Int} {k : Nat} {x0 : SV} {x1 : Ob} (h0 : x0 = (li (↑k : Int))) (h1 : x1 = (Ob.arr false 1 (List.map lsynC (ruL r)))) : Tc_sRulBLa r n x0 x1 =
 Lc_sRulBLa r n k := by
  rw [h0, h1]
  rfl
theorem EW1c_sRulBLa {r : Rules} {n : Int} {x0 y0 : SV} (h0 : x0 = y0) : W1c_sRulBLa r n x0 = W1c_sRulBLa r n y0 := by rw [h0]
theorem run_c_sRulBLa (r : Rules) (n : Int) (k : Nat) : aexec Tryz.prog (loopAt Tryz.f85 0) (Lc_sRulBLa r n k) [Orc.br [Orc.cells (lsynF (List.getD (ruL r) (Int.toNat (↑k : Int))
 default)), Orc.ghost (Ghost.sel [0] [1, 15, 16, 17, 21, 22, 23]), Orc.loop (List.length (List.getD (ruL r) k []) - 0) (Lc_sRulBLb r n k 0) (Ic_sRulBLb r n k) [(allB n (List.getD
 (ruL r) k []) = true, AEx.exit 2, W0c_sRulBLb r n k, [Orc.ghost (Ghost.sel [0] [1, 15, 16, 17]), Orc.goto (3 - (k + 1)) (Lc_sRulBLa r n (k + 1))]), (rulB n r = false, AEx.ret,
 W1c_sRulBLb r n k (lb false), [Orc.ghost (Ghost.sel [] [4]), Orc.out 1])]] [Orc.ghost (Ghost.sel [] []), Orc.out 0]] (loopK (Ic_sRulBLa r n) (Yc_sRulBLa r n) (3 - k)) = ((decide
 ((↑k : Int) < 3) = true → (0 ≤ (↑k : Int) ∧ Int.toNat (↑k : Int) < 3) ∧ (List.map lsynC (ruL r))[Int.toNat (↑k : Int)]? = some [Cell.list (List.map syntaxC (List.getD (ruL r)
 (Int.toNat (↑k : Int)) []))] ∧ (List.length (List.map syntaxC (List.getD (ruL r) (Int.toNat (↑k : Int)) [])) ≤ 9223372036854775807 → Tc_sRulBLb r n k (li 0) = Lc_sRulBLb r n k 0 ∧
 Ic_sRulBLb r n k (List.length (List.getD (ruL r) k []) - 0) (Lc_sRulBLb r n k 0) ∧ LoopSem Tryz.prog (loopAt Tryz.f85 1) (Ic_sRulBLb r n k) (Yc_sRulBLb r n k) ∧ (allB n (List.getD
 (ruL r) k []) = true → rng IntKind.i64 ((↑k : Int) + 1) ∧ 3 - (k + 1) < 3 - k ∧ Tc_sRulBLa r n (li ((↑k : Int) + 1)) (Ob.arr false 1 (List.map lsynC (ruL r))) = Lc_sRulBLa r n (k
 + 1) ∧ Ic_sRulBLa r n (3 - (k + 1)) (Lc_sRulBLa r n (k + 1))) ∧ (rulB n r = false → rulB n r = false ∧ W1c_sRulBLa r n (lb false) = W1c_sRulBLa r n (lb false)) ∧ True)) ∧ (decide
 ((↑k : Int) < 3) = false → rulB n r = true ∧ W0c_sRulBLa r n = W0c_sRulBLa r n)) := by kernel_rfl
theorem Sc_sRulBLb (r : Rules) (n : Int) (k : Nat)  : LoopSem Tryz.prog (loopAt Tryz.f85 1) (Ic_sRulBLb r n k) (Yc_sRulBLb r n k) := by
  refine LoopSem.ofHead wide fun k1 h => ⟨_, _, run_c_sRulBLb r n k k1, ?_⟩
  have e : (ruL r).length = 3 := rfl
  have g1 := @take_get _ _ ((ruL r).getD k []) k1
  have g2 : (ruL r).getD k default = (ruL r).getD k [] := rfl
  have g3 : k < (ruL r).length → (ruL r).getD k [] ∈ ruL r := fun h => getD_mem' h
  with_reducible repeat' (first | apply And.intro | exact flatI | exact flatS | exact rowLens | (intro; skip) | apply obsN | apply obsC | apply obA | apply obM | apply obB | apply svA | apply tupA | apply lcA | apply lcS | apply svC | apply liC | apply lbC | apply lsC | apply vIc | apply vBc | apply vSc | apply vLc | apply mapC | apply mIc | apply mOc | apply mSc | apply mLc | apply Hc_sRulBLa | apply Ec_sRulBLa | apply Hc_sRulBLb | apply Ec_sRulBLb | apply EW1c_sRulBLb | apply EW1c_sRulBLa | apply c_sBelow)
  all_goals (try simp only [std] at *)
  all_goals (try (first | with_reducible apply c_sBelow | (simp only [← List.map_append]; first | with_reducible apply c_sBelow)))
  all_goals (try (first | with_reducible rfl | omega | assumption | (refine (decide_eq_true ?_).symm; assumption) | (refine (decide_eq_false ?_).symm; assumption) | (refine rowGet ?_; (first | omega | (simp only [std]; omega) | grind)) | (refine getC ?_ rfl; (first | omega | (simp only [std]; omega) | grind)) | exact look_mI | exact look_mO | exact look_mO1 | exact look_mS | exact look_mL | exact upd_mI | exact upd_mO | exact del_mO | exact upd_mS | exact take_mL | (refine upd_mL ?_; grind) | (refine fill_step ?_ ?_; (first | omega | (simp only [std]; omega) | grind); (first | rfl | exact (Row.eq _).trans rfl)) | (refine fill_init ?_; (first | rfl | exact (Row.eq _).trans rfl)) | (show (_ : St) = _; rfl) | grind [ruL_cells, rulB, allB, getD_mem', snocI, snocS, rowSnoc]))
theorem Sc_sRulBLa (r : Rules) (n : Int)  : LoopSem Tryz.prog (loopAt Tryz.f85 0) (Ic_sRulBLa r n) (Yc_sRulBLa r n) := by
  refine LoopSem.ofHead wide fun k h => ⟨_, _, run_c_sRulBLa r n k, ?_⟩
  have e : (ruL r).length = 3 := rfl
  have g1 := @take_get _ _ (ruL r) k
  have g2 : (ruL r).getD k default = (ruL r).getD k [] := rfl
  with_reducible repeat' (first | apply And.intro | exact flatI | exact flatS | exact rowLens | (intro; skip) | apply obsN | apply obsC | apply obA | apply obM | apply obB | apply svA | apply tupA | apply lcA | apply lcS | apply svC | apply liC | apply lbC | apply lsC | apply vIc | apply vBc | apply vSc | apply vLc | apply mapC | apply mIc | apply mOc | apply mSc | apply mLc | apply Hc_sRulBLa | apply Ec_sRulBLa | apply Hc_sRulBLb | apply Ec_sRulBLb | apply Sc_sRulBLb | apply EW1c_sRulBLb | apply EW1c_sRulBLa | apply c_sBelow)
  all_goals (try simp only [std] at *)
  all_goals (try (first | with_reducible apply c_sBelow | (simp only [← List.map_append]; first | with_reducible apply c_sBelow)))
  all_goals (try (first | with_reducible rfl | omega | assumption | (refine (decide_eq_true ?_).symm; assumption) | (refine (decide_eq_false ?_).symm; assumption) | (refine rowGet ?_; (first | omega | (simp only [std]; omega) | grind)) | (refine getC ?_ rfl; (first | omega | (simp only [std]; omega) | grind)) | exact look_mI | exact look_mO | exact look_mO1 | exact look_mS | exact look_mL | exact upd_mI | exact upd_mO | exact del_mO | exact upd_mS | exact take_mL | (refine upd_mL ?_; grind) | (refine fill_step ?_ ?_; (first | omega | (simp only [std]; omega) | grind); (first | rfl | exact (Row.eq _).trans rfl)) | (refine fill_init ?_; (first | rfl | exact (Row.eq _).trans rfl)) | (show (_ : St) = _; rfl) | grind [ruL_cells, rulB, snocI, snocS, rowSnoc]))
theorem run_c_sRulB (r : Rules) (n : Int) : aexec Tryz.prog (Option.getD (Func.body Tryz.f85) Code.skip) (entry [] [rulesA r, li n] 33) [Orc.ghost (Ghost.sel [1] [1, 15, 16, 17]),
 Orc.loop 3 (Lc_sRulBLa r n 0) (Ic_sRulBLa r n) [(rulB n r = true, AEx.exit 0, W0c_sRulBLa r n, [Orc.fin []]), (rulB n r = false, AEx.ret, W1c_sRulBLa r n (lb false), [Orc.fin
 []])]] (finK Tryz.prog [ResultVar.tmp 4] [] (AV.sv (lb (rulB n r)))) = (3 ≤ 9223372036854775807 → Tc_sRulBLa r n (li 0) (Ob.arr false 1 [[Cell.list (List.map syntaxC
 (Rules.literals r))], [Cell.list (List.map syntaxC (Rules.patterns r))], [Cell.list (List.map syntaxC (Rules.templates r))]]) = Lc_sRulBLa r n 0 ∧ Ic_sRulBLa r n 3 (Lc_sRulBLa r n
 0) ∧ LoopSem Tryz.prog (loopAt Tryz.f85 0) (Ic_sRulBLa r n) (Yc_sRulBLa r n) ∧ (rulB n r = true → ObsEq [] [] ∧ AV.sv (lb true) = AV.sv (lb (rulB n r))) ∧ (rulB n r = false →
 ObsEq [] [] ∧ AV.sv (lb false) = AV.sv (lb (rulB n r))) ∧ True) := by kernel_rfl
theorem c_sRulB (r : Rules) (n : Int)  : P_c_sRulB r n := by
  refine CallOK.ofRun wide (run_c_sRulB r n) Tryz.call85 Tryz.func85 rfl rfl rfl ?_
  with_reducible repeat' (first | apply And.intro | exact flatI | exact flatS | exact rowLens | (intro; skip) | apply obsN | apply obsC | apply obA | apply obM | apply obB | apply svA | apply tupA | apply lcA | apply lcS | apply svC | apply liC | apply lbC | apply lsC | apply vIc | apply vBc | apply vSc | apply vLc | apply mapC | apply mIc | apply mOc | apply mSc | apply mLc | apply Hc_sRulBLa | apply Ec_sRulBLa | apply Sc_sRulBLa | apply Hc_sRulBLb | apply Ec_sRulBLb | apply Sc_sRulBLb | apply EW1c_sRulBLb | apply EW1c_sRulBLa | apply c_sBelow)
  all_goals (try simp only [std] at *)
  all_goals (try (first | with_reducible apply c_sBelow | (simp only [← List.map_append]; first | with_reducible apply c_sBelow)))
  all_goals (try (first | with_reducible rfl | omega | assumption | (refine (decide_eq_true ?_).symm; assumption) | (refine (decide_eq_false ?_).symm; assumption) | (refine rowGet ?_; (first | omega | (simp only [std]; omega) | grind)) | (refine getC ?_ rfl; (first | omega | (simp only [std]; omega) | grind)) | exact look_mI | exact look_mO | exact look_mO1 | exact look_mS | exact look_mL | exact upd_mI | exact upd_mO | exact del_mO | exact upd_mS | exact take_mL | (refine upd_mL ?_; grind) | (refine fill_step ?_ ?_; (first | omega | (simp only [std]; omega) | grind); (first | rfl | exact (Row.eq _).trans rfl)) | (refine fill_init ?_; (first | rfl | exact (Row.eq _).trans rfl)) | (show (_ : St) = _; rfl) | grind [rulB, snocI, snocS, rowSnoc]))
  all_goals rfl
def bndX (x : Expander) (b : Binding) : Bool := !(decide (0 < (b.scopes.length : Int)) && decide (x.scope < b.scopes.getD ((b.scopes.length : Int) - 1).toNat 0)) && !(decide (b.kind = 3) && decide (x.vari < b.number)) && !(decide (b.kind = 4) && decide ((x.macros.length : Int) ≤ b.number))
def ruX (x : Expander) (r : Rules) : Bool := isRul r && rulB x.scope r
def isExp (x : Expander) : Bool := areB x.bindings && decide ((x.macros.length : Int) ≤ 200) && decide (0 ≤ x.scope ∧ x.scope ≤ 99999) && decide (0 ≤ x.vari ∧ x.vari ≤ 99999) && decide (0 ≤ x.steps ∧ x.steps ≤ 200) && x.macros.all (ruX x) && x.bindings.all (bndX x)
theorem bndX_stop {x : Expander} {k : Nat} (hk : k < x.bindings.length) (h : bndX x (x.bindings.getD k default) = false) : x.bindings.all (bndX x) = false := by
  rw [List.all_eq_false]; exact ⟨_, getD_mem' hk, by rw [h]; decide⟩
theorem ruX_stop {x : Expander} {k : Nat} (hk : k < x.macros.length) (h : ruX x (x.macros.getD k default) = false) : x.macros.all (ruX x) = false := by
  rw [List.all_eq_false]; exact ⟨_, getD_mem' hk, by rw [h]; decide⟩
theorem bndX_go {x : Expander} {k : Nat} (hk : k < x.bindings.length) (h0 : (x.bindings.take k).all (bndX x) = true) (h : bndX x (x.bindings.getD k default) = true) : (x.bindings.take (k + 1)).all (bndX x) = true := by
  rw [take_get hk, List.all_append, h0]; simpa using h
theorem ruX_go {x : Expander} {k : Nat} (hk : k < x.macros.length) (h0 : (x.macros.take k).all (ruX x) = true) (h : ruX x (x.macros.getD k default) = true) : (x.macros.take (k + 1)).all (ruX x) = true := by
  rw [take_get hk, List.all_append, h0]; simpa using h
abbrev P_c_sIsExp (x : Expander) : Prop := CallOK Tryz.prog 21 [] [expanderA x] [] (.sv (lb (isExp x)))
def Tc_sIsExpLb (x : Expander) (x0 : SV) : St := St.mk (regsOf 103 [(1, AV.sv (SV.one (AC.ptr 0 0))), (55, AV.sv (ll (List.map bindingC (Expander.bindings x)))), (56, AV.sv (li
 (↑(List.length (List.map bindingC (Expander.bindings x))) : Int))), (57, AV.sv x0)]) [Ob.box (vals (expanderF x))] 0 
def Lc_sIsExpLb (x : Expander) (k : Nat) : St := Tc_sIsExpLb x (li (↑k : Int)) 
def Ic_sIsExpLb (x : Expander) : Nat → St → Prop := Head (Lc_sIsExpLb x) (fun k => k ≤ List.length (Expander.bindings x) ∧ List.length (Expander.bindings x) ≤ 9223372036854775807 ∧
 List.all (List.take k (Expander.bindings x)) (bndX x) = true) fun k => List.length (Expander.bindings x) - k 
def W0c_sIsExpLb (x : Expander) : St := St.mk (regsOf 103 []) [] 0 
def W1c_sIsExpLb (x : Expander) (x0 : SV) : St := St.mk (regsOf 103 [(2, AV.sv x0)]) [] 0 
def Yc_sIsExpLb (x : Expander) : List (Prop × AEx × St) := [(List.all (Expander.bindings x) (bndX x) = true, AEx.exit 2, W0c_sIsExpLb x), (List.all (Expander.bindings x) (bndX x) =
 false, AEx.ret, W1c_sIsExpLb x (lb false))]
def Tc_sIsExpLa (x : Expander) (x0 : SV) : St := St.mk (regsOf 103 [(1, AV.sv (SV.one (AC.ptr 0 0))), (37, AV.sv (ll (List.map rulesC (Expander.macros x)))), (38, AV.sv (li
 (↑(List.length (List.map rulesC (Expander.macros x))) : Int))), (39, AV.sv x0)]) [Ob.box (vals (expanderF x))] 0 
def Lc_sIsExpLa (x : Expander) (k : Nat) : St := Tc_sIsExpLa x (li (↑k : Int)) 
def Ic_sIsExpLa (x : Expander) : Nat → St → Prop := Head (Lc_sIsExpLa x) (fun k => k ≤ List.length (Expander.macros x) ∧ List.length (Expander.macros x) ≤ 9223372036854775807 ∧
 List.all (List.take k (Expander.macros x)) (ruX x) = true) fun k => List.length (Expander.macros x) - k 
def W0c_sIsExpLa (x : Expander) : St := St.mk (regsOf 103 [(1, AV.sv (SV.one (AC.ptr 0 0)))]) [Ob.box (vals (expanderF x))] 0 
def W1c_sIsExpLa (x : Expander) (x0 : SV) : St := St.mk (regsOf 103 [(2, AV.sv x0)]) [] 0 
def Yc_sIsExpLa (x : Expander) : List (Prop × AEx × St) := [(List.all (Expander.macros x) (ruX x) = true, AEx.exit 0, W0c_sIsExpLa x), (List.all (Expander.macros x) (ruX x) =
 false, AEx.ret, W1c_sIsExpLa x (lb false))]
theorem Hc_sIsExpLb {x : Expander} {k : Nat} {m : Nat} (h : (fun k => k ≤ List.length (Expander.bindings x) ∧ List.length (Expander.bindings x) ≤ 9223372036854775807 ∧ List.all
 (List.take k (Expander.bindings x)) (bndX x) = true) k) (hm : (fun k => List.length (Expander.bindings x) - k) k = m) : Ic_sIsExpLb x m (Lc_sIsExpLb x k) := hm ▸ Head.mk h
theorem Ec_sIsExpLb {x : Expander} {k : Nat} {x0 : SV} (h0 : x0 = (li (↑k : Int))) : Tc_sIsExpLb x x0 = Lc_sIsExpLb x k := by
  rw [h0]
  rfl
theorem EW1c_sIsExpLb {x : Expander} {x0 y0 : SV} (h0 : x0 = y0) : W1c_sIsExpLb x x0 = W1c_sIsExpLb x y0 := by rw [h0]
abbrev a3__sIsExpLb (x : Expander) (k : Nat) := (List.getD (Expander.bindings x) k default)
abbrev a1__sIsExpLb (x : Expander) (k : Nat) := (decide (Binding.kind (a3__sIsExpLb x k) = 4) = true → List.length (List.map rulesC (Expander.macros x)) ≤ 9223372036854775807 →
 (decide ((↑(List.length (List.map rulesC (Expander.macros x))) : Int) ≤ Binding.number (a3__sIsExpLb x k)) = true → List.all (Expander.bindings x) (bndX x) = false ∧ W1c_sIsExpLa
 x (lb false) = W1c_sIsExpLb x (lb false)) ∧ (decide ((↑(List.length (List.map rulesC (Expander.macros x))) : Int) ≤ Binding.number (a3__sIsExpLb x k)) = false → rng IntKind.i64
 ((↑k : Int) + 1) ∧ List.length (Expander.bindings x) - (k + 1) < List.length (Expander.bindings x) - k ∧ Tc_sIsExpLb x (li ((↑k : Int) + 1)) = Lc_sIsExpLb x (k + 1) ∧ Ic_sIsExpLb
 x (List.length (Expander.bindings x) - (k + 1)) (Lc_sIsExpLb x (k + 1))))
abbrev a2__sIsExpLb (x : Expander) (k : Nat) := (decide (Binding.kind (a3__sIsExpLb x k) = 4) = false → false = false ∧ rng IntKind.i64 ((↑k : Int) + 1) ∧ List.length
 (Expander.bindings x) - (k + 1) < List.length (Expander.bindings x) - k ∧ Tc_sIsExpLb x (li ((↑k : Int) + 1)) = Lc_sIsExpLb x (k + 1) ∧ Ic_sIsExpLb x (List.length
 (Expander.bindings x) - (k + 1)) (Lc_sIsExpLb x (k + 1)))
abbrev a4__sIsExpLb (x : Expander) (k : Nat) := [Orc.br [Orc.ghost (Ghost.sel [] [2]), Orc.out 1] [Orc.ghost (Ghost.sel [0] [1, 55, 56, 57]), Orc.goto (List.length
 (Expander.bindings x) - (k + 1)) (Lc_sIsExpLb x (k + 1))]]
abbrev a5__sIsExpLb (x : Expander) (k : Nat) := [Orc.bool false, Orc.ghost (Ghost.sel [0] [1, 55, 56, 57]), Orc.goto (List.length (Expander.bindings x) - (k + 1)) (Lc_sIsExpLb x (k
 + 1))]
abbrev a6__sIsExpLb (x : Expander) (k : Nat) := (↑(List.length (List.map intC (Binding.scopes (a3__sIsExpLb x k)))) : Int)
abbrev a7__sIsExpLb (x : Expander) (k : Nat) := (decide (Binding.kind (a3__sIsExpLb x k) = 3) = true → (decide (Expander.vari x < Binding.number (a3__sIsExpLb x k)) = true → true =
 true ∧ List.all (Expander.bindings x) (bndX x) = false ∧ W1c_sIsExpLa x (lb false) = W1c_sIsExpLb x (lb false)) ∧ (decide (Expander.vari x < Binding.number (a3__sIsExpLb x k)) =
 false → (a1__sIsExpLb x k) ∧ (a2__sIsExpLb x k)))
theorem run_c_sIsExpLb (x : Expander) (k : Nat) : aexec Tryz.prog (loopAt Tryz.f21 1) (Lc_sIsExpLb x k) [Orc.br [Orc.cells (bindingF (a3__sIsExpLb x k)), Orc.draw [], Orc.br
 [Orc.cells (intC (List.getD (Binding.scopes (a3__sIsExpLb x k)) (Int.toNat ((a6__sIsExpLb x k) - 1)) default)), Orc.br [Orc.bool true, Orc.bool true, Orc.ghost (Ghost.sel [] [2]),
 Orc.out 1] [Orc.br [Orc.br [Orc.bool true, Orc.ghost (Ghost.sel [] [2]), Orc.out 1] [Orc.br (a4__sIsExpLb x k) (a5__sIsExpLb x k)]] [Orc.bool false, Orc.br (a4__sIsExpLb x k)
 (a5__sIsExpLb x k)]]] [Orc.bool false, Orc.br [Orc.br [Orc.bool true, Orc.ghost (Ghost.sel [] [2]), Orc.out 1] [Orc.br (a4__sIsExpLb x k) (a5__sIsExpLb x k)]] [Orc.bool false,
 Orc.br (a4__sIsExpLb x k) (a5__sIsExpLb x k)]]] [Orc.ghost (Ghost.sel [] []), Orc.out 0]] (loopK (Ic_sIsExpLb x) (Yc_sIsExpLb x) (List.length (Expander.bindings x) - k)) =
 ((decide ((↑k : Int) < (↑(List.length (List.map bindingC (Expander.bindings x))) : Int)) = true → (0 ≤ (↑k : Int) ∧ (List.map bindingC (Expander.bindings x))[Int.toNat (↑k :
 Int)]? = some (bindingF (a3__sIsExpLb x k))) ∧ (List.length (List.map intC (Binding.scopes (a3__sIsExpLb x k))) ≤ 9223372036854775807 → (decide (0 < (a6__sIsExpLb x k)) = true →
 rng IntKind.i64 ((a6__sIsExpLb x k) - 1) ∧ (0 ≤ (a6__sIsExpLb x k) - 1 ∧ (List.map intC (Binding.scopes (a3__sIsExpLb x k)))[Int.toNat ((a6__sIsExpLb x k) - 1)]? = some [cI
 (List.getD (Binding.scopes (a3__sIsExpLb x k)) (Int.toNat ((a6__sIsExpLb x k) - 1)) 0)]) ∧ (decide (Expander.scope x < List.getD (Binding.scopes (a3__sIsExpLb x k)) (Int.toNat
 ((a6__sIsExpLb x k) - 1)) 0) = true → true = true ∧ true = true ∧ List.all (Expander.bindings x) (bndX x) = false ∧ W1c_sIsExpLa x (lb false) = W1c_sIsExpLb x (lb false)) ∧
 (decide (Expander.scope x < List.getD (Binding.scopes (a3__sIsExpLb x k)) (Int.toNat ((a6__sIsExpLb x k) - 1)) 0) = false → (a7__sIsExpLb x k) ∧ (decide (Binding.kind
 (a3__sIsExpLb x k) = 3) = false → false = false ∧ (a1__sIsExpLb x k) ∧ (a2__sIsExpLb x k)))) ∧ (decide (0 < (a6__sIsExpLb x k)) = false → false = false ∧ (a7__sIsExpLb x k) ∧
 (decide (Binding.kind (a3__sIsExpLb x k) = 3) = false → false = false ∧ (a1__sIsExpLb x k) ∧ (a2__sIsExpLb x k))))) ∧ (decide ((↑k : Int) < (↑(List.length (List.map bindingC
 (Expander.bindings x))) : Int)) = false → List.all (Expander.bindings x) (bndX x) = true ∧ W0c_sIsExpLb x = W0c_sIsExpLb x)) := by kernel_rfl
theorem Hc_sIsExpLa {x : Expander} {k : Nat} {m : Nat} (h : (fun k => k ≤ List.length (Expander.macros x) ∧ List.length (Expander.macros x) ≤ 9223372036854775807 ∧ List.all
 (List.take k (Expander.macros x)) (ruX x) = true) k) (hm : (fun k => List.length (Expander.macros x) - k) k = m) : Ic_sIsExpLa x m (Lc_sIsExpLa x k) := hm ▸ Head.mk h
theorem Ec_sIsExpLa {x : Expander} {k : Nat} {x0 : SV} (h0 : x0 = (li (↑k : Int))) : Tc_sIsExpLa x x0 = Lc_sIsExpLa x k := by
  rw [h0]
  rfl
theorem EW1c_sIsExpLa {x : Expander} {x0 y0 : SV} (h0 : x0 = y0) : W1c_sIsExpLa x x0 = W1c_sIsExpLa x y0 := by rw [h0]
theorem run_c_sIsExpLa (x : Expander) (k : Nat) : aexec Tryz.prog (loopAt Tryz.f21 0) (Lc_sIsExpLa x k) [Orc.br [Orc.cells (rulesF (List.getD (Expander.macros x) k default)),
 Orc.call [Mode.rd] [] (AV.sv (lb (isRul (List.getD (Expander.macros x) k default)))), Orc.br [Orc.bool true, Orc.ghost (Ghost.sel [] [2]), Orc.out 1] [Orc.call [Mode.rd, Mode.rd]
 [] (AV.sv (lb (rulB (Expander.scope x) (List.getD (Expander.macros x) k default)))), Orc.br [Orc.ghost (Ghost.sel [] [2]), Orc.out 1] [Orc.ghost (Ghost.sel [0] [1, 37, 38, 39]),
 Orc.goto (List.length (Expander.macros x) - (k + 1)) (Lc_sIsExpLa x (k + 1))]]] [Orc.ghost (Ghost.sel [0] [1]), Orc.out 0]] (loopK (Ic_sIsExpLa x) (Yc_sIsExpLa x) (List.length
 (Expander.macros x) - k)) = ((decide ((↑k : Int) < (↑(List.length (List.map rulesC (Expander.macros x))) : Int)) = true → (0 ≤ (↑k : Int) ∧ (List.map rulesC (Expander.macros
 x))[Int.toNat (↑k : Int)]? = some (rulesF (List.getD (Expander.macros x) k default))) ∧ P_c_sIsRules (List.getD (Expander.macros x) k default) ∧ ((!isRul (List.getD
 (Expander.macros x) k default)) = true → true = true ∧ List.all (Expander.macros x) (ruX x) = false ∧ W1c_sIsExpLa x (lb false) = W1c_sIsExpLa x (lb false)) ∧ ((!isRul (List.getD
 (Expander.macros x) k default)) = false → P_c_sRulB (List.getD (Expander.macros x) k default) (Expander.scope x) ∧ ((!rulB (Expander.scope x) (List.getD (Expander.macros x) k
 default)) = true → List.all (Expander.macros x) (ruX x) = false ∧ W1c_sIsExpLa x (lb false) = W1c_sIsExpLa x (lb false)) ∧ ((!rulB (Expander.scope x) (List.getD (Expander.macros
 x) k default)) = false → rng IntKind.i64 ((↑k : Int) + 1) ∧ List.length (Expander.macros x) - (k + 1) < List.length (Expander.macros x) - k ∧ Tc_sIsExpLa x (li ((↑k : Int) + 1)) =
 Lc_sIsExpLa x (k + 1) ∧ Ic_sIsExpLa x (List.length (Expander.macros x) - (k + 1)) (Lc_sIsExpLa x (k + 1))))) ∧ (decide ((↑k : Int) < (↑(List.length (List.map rulesC
 (Expander.macros x))) : Int)) = false → List.all (Expander.macros x) (ruX x) = true ∧ W0c_sIsExpLa x = W0c_sIsExpLa x)) := by kernel_rfl
theorem Sc_sIsExpLb (x : Expander) (h : wX x ≤ 1048576)  : LoopSem Tryz.prog (loopAt Tryz.f21 1) (Ic_sIsExpLb x) (Yc_sIsExpLb x) := by
  refine LoopSem.ofHead wide fun k h => ⟨_, _, run_c_sIsExpLb x k, ?_⟩
  try delta a3__sIsExpLb a1__sIsExpLb a2__sIsExpLb a4__sIsExpLb a5__sIsExpLb a6__sIsExpLb a7__sIsExpLb
  have g1 := wX_eq x
  have g2 := @sumBy_mem _ wB x.bindings (x.bindings.getD k default)
  have g3 := @bndX_stop x k
  have g4 := @bndX_go x k
  have g5 : bndX x (x.bindings.getD k default) = (!(decide (0 < ((x.bindings.getD k default).scopes.length : Int)) && decide (x.scope < (x.bindings.getD k default).scopes.getD (((x.bindings.getD k default).scopes.length : Int) - 1).toNat 0)) && !(decide ((x.bindings.getD k default).kind = 3) && decide (x.vari < (x.bindings.getD k default).number)) && !(decide ((x.bindings.getD k default).kind = 4) && decide ((x.macros.length : Int) ≤ (x.bindings.getD k default).number))) := rfl
  have g6 : x.bindings.length ≤ k → x.bindings.take k = x.bindings := fun h => List.take_of_length_le h
  have g7 := wB_eq (x.bindings.getD k default)
  with_reducible repeat' (first | apply And.intro | exact flatI | exact flatS | exact rowLens | (intro; skip) | apply obsN | apply obsC | apply obA | apply obM | apply obB | apply svA | apply tupA | apply lcA | apply lcS | apply svC | apply liC | apply lbC | apply lsC | apply vIc | apply vBc | apply vSc | apply vLc | apply mapC | apply mIc | apply mOc | apply mSc | apply mLc | apply Hc_sIsExpLa | apply Ec_sIsExpLa | apply Hc_sIsExpLb | apply Ec_sIsExpLb | apply EW1c_sIsExpLb | apply EW1c_sIsExpLa | apply c_sAre | apply c_l1In | apply c_sIsRules | apply c_sRulB)
  all_goals (try simp only [std] at *)
  all_goals (try (first | with_reducible apply c_sAre | with_reducible apply c_l1In | with_reducible apply c_sIsRules | with_reducible apply c_sRulB | (simp only [← List.map_append]; first | with_reducible apply c_sAre | with_reducible apply c_l1In | with_reducible apply c_sIsRules | with_reducible apply c_sRulB)))
  all_goals (try (first | with_reducible rfl | omega | assumption | (refine (decide_eq_true ?_).symm; assumption) | (refine (decide_eq_false ?_).symm; assumption) | (refine rowGet ?_; (first | omega | (simp only [std]; omega) | grind)) | (refine getC ?_ rfl; (first | omega | (simp only [std]; omega) | grind)) | exact look_mI | exact look_mO | exact look_mO1 | exact look_mS | exact look_mL | exact upd_mI | exact upd_mO | exact del_mO | exact upd_mS | exact take_mL | (refine upd_mL ?_; grind) | (refine fill_step ?_ ?_; (first | omega | (simp only [std]; omega) | grind); (first | rfl | exact (Row.eq _).trans rfl)) | (refine fill_init ?_; (first | rfl | exact (Row.eq _).trans rfl)) | (show (_ : St) = _; rfl) | grind [getD_mem', snocI, snocS, rowSnoc]))
theorem Sc_sIsExpLa (x : Expander) (h : wX x ≤ 1048576)  : LoopSem Tryz.prog (loopAt Tryz.f21 0) (Ic_sIsExpLa x) (Yc_sIsExpLa x) := by
  refine LoopSem.ofHead wide fun k h => ⟨_, _, run_c_sIsExpLa x k, ?_⟩
  have g1 := wX_eq x
  have g2 := @sumBy_mem _ wR x.macros (x.macros.getD k default)
  have g3 := @ruX_stop x k
  have g4 := @ruX_go x k
  have g5 : ruX x (x.macros.getD k default) = (isRul (x.macros.getD k default) && rulB x.scope (x.macros.getD k default)) := rfl
  have g6 : x.macros.length ≤ k → x.macros.take k = x.macros := fun h => List.take_of_length_le h
  with_reducible repeat' (first | apply And.intro | exact flatI | exact flatS | exact rowLens | (intro; skip) | apply obsN | apply obsC | apply obA | apply obM | apply obB | apply svA | apply tupA | apply lcA | apply lcS | apply svC | apply liC | apply lbC | apply lsC | apply vIc | apply vBc | apply vSc | apply vLc | apply mapC | apply mIc | apply mOc | apply mSc | apply mLc | apply Hc_sIsExpLa | apply Ec_sIsExpLa | apply Hc_sIsExpLb | apply Ec_sIsExpLb | apply Sc_sIsExpLb | apply EW1c_sIsExpLb | apply EW1c_sIsExpLa | apply c_sAre | apply c_l1In | apply c_sIsRules | apply c_sRulB)
  all_goals (try simp only [std] at *)
  all_goals (try (first | with_reducible apply c_sAre | with_reducible apply c_l1In | with_reducible apply c_sIsRules | with_reducible apply c_sRulB | (simp only [← List.map_append]; first | with_reducible apply c_sAre | with_reducible apply c_l1In | with_reducible apply c_sIsRules | with_reducible apply c_sRulB)))
  all_goals (try (first | with_reducible rfl | omega | assumption | (refine (decide_eq_true ?_).symm; assumption) | (refine (decide_eq_false ?_).symm; assumption) | (refine rowGet ?_; (first | omega | (simp only [std]; omega) | grind)) | (refine getC ?_ rfl; (first | omega | (simp only [std]; omega) | grind)) | exact look_mI | exact look_mO | exact look_mO1 | exact look_mS | exact look_mL | exact upd_mI | exact upd_mO | exact del_mO | exact upd_mS | exact take_mL | (refine upd_mL ?_; grind) | (refine fill_step ?_ ?_; (first | omega | (simp only [std]; omega) | grind); (first | rfl | exact (Row.eq _).trans rfl)) | (refine fill_init ?_; (first | rfl | exact (Row.eq _).trans rfl)) | (show (_ : St) = _; rfl) | grind [getD_mem', snocI, snocS, rowSnoc]))
theorem run_c_sIsExp (x : Expander) : aexec Tryz.prog (Option.getD (Func.body Tryz.f21) Code.skip) (entry [] [expanderA x] 103) [Orc.call [Mode.rd] [] (AV.sv (lb (areB
 (Expander.bindings x)))), Orc.br [Orc.bool true, Orc.bool true, Orc.bool true, Orc.bool true, Orc.fin []] [Orc.br [Orc.bool true, Orc.bool true, Orc.bool true, Orc.fin []]
 [Orc.call [Mode.rd, Mode.rd, Mode.rd] [] (AV.sv (lb (decide (0 ≤ Expander.scope x ∧ Expander.scope x ≤ 99999)))), Orc.br [Orc.bool true, Orc.bool true, Orc.fin []] [Orc.call
 [Mode.rd, Mode.rd, Mode.rd] [] (AV.sv (lb (decide (0 ≤ Expander.vari x ∧ Expander.vari x ≤ 99999)))), Orc.br [Orc.bool true, Orc.fin []] [Orc.call [Mode.rd, Mode.rd, Mode.rd] []
 (AV.sv (lb (decide (0 ≤ Expander.steps x ∧ Expander.steps x ≤ 200)))), Orc.br [Orc.fin []] [Orc.ghost (Ghost.sel [0] [1, 37, 38, 39]), Orc.loop (List.length (Expander.macros x) -
 0) (Lc_sIsExpLa x 0) (Ic_sIsExpLa x) [(List.all (Expander.macros x) (ruX x) = true, AEx.exit 0, W0c_sIsExpLa x, [Orc.ghost (Ghost.sel [0] [1, 55, 56, 57]), Orc.loop (List.length
 (Expander.bindings x) - 0) (Lc_sIsExpLb x 0) (Ic_sIsExpLb x) [(List.all (Expander.bindings x) (bndX x) = true, AEx.exit 2, W0c_sIsExpLb x, [Orc.fin []]), (List.all
 (Expander.bindings x) (bndX x) = false, AEx.ret, W1c_sIsExpLb x (lb false), [Orc.fin []])]]), (List.all (Expander.macros x) (ruX x) = false, AEx.ret, W1c_sIsExpLa x (lb false),
 [Orc.fin []])]]]]]]] (finK Tryz.prog [ResultVar.tmp 2] [] (AV.sv (lb (isExp x)))) = (P_c_sAre (Expander.bindings x) ∧ ((!areB (Expander.bindings x)) = true → true = true ∧ true =
 true ∧ true = true ∧ true = true ∧ ObsEq [] [] ∧ AV.sv (lb false) = AV.sv (lb (isExp x))) ∧ ((!areB (Expander.bindings x)) = false → List.length (List.map rulesC (Expander.macros
 x)) ≤ 9223372036854775807 → (decide (200 < (↑(List.length (List.map rulesC (Expander.macros x))) : Int)) = true → true = true ∧ true = true ∧ true = true ∧ ObsEq [] [] ∧ AV.sv (lb
 false) = AV.sv (lb (isExp x))) ∧ (decide (200 < (↑(List.length (List.map rulesC (Expander.macros x))) : Int)) = false → P_c_l1In (Expander.scope x) 0 99999 ∧ ((!decide (0 ≤
 Expander.scope x ∧ Expander.scope x ≤ 99999)) = true → true = true ∧ true = true ∧ ObsEq [] [] ∧ AV.sv (lb false) = AV.sv (lb (isExp x))) ∧ ((!decide (0 ≤ Expander.scope x ∧
 Expander.scope x ≤ 99999)) = false → P_c_l1In (Expander.vari x) 0 99999 ∧ ((!decide (0 ≤ Expander.vari x ∧ Expander.vari x ≤ 99999)) = true → true = true ∧ ObsEq [] [] ∧ AV.sv (lb
 false) = AV.sv (lb (isExp x))) ∧ ((!decide (0 ≤ Expander.vari x ∧ Expander.vari x ≤ 99999)) = false → P_c_l1In (Expander.steps x) 0 200 ∧ ((!decide (0 ≤ Expander.steps x ∧
 Expander.steps x ≤ 200)) = true → ObsEq [] [] ∧ AV.sv (lb false) = AV.sv (lb (isExp x))) ∧ ((!decide (0 ≤ Expander.steps x ∧ Expander.steps x ≤ 200)) = false → List.length
 (List.map rulesC (Expander.macros x)) ≤ 9223372036854775807 → Tc_sIsExpLa x (li 0) = Lc_sIsExpLa x 0 ∧ Ic_sIsExpLa x (List.length (Expander.macros x) - 0) (Lc_sIsExpLa x 0) ∧
 LoopSem Tryz.prog (loopAt Tryz.f21 0) (Ic_sIsExpLa x) (Yc_sIsExpLa x) ∧ (List.all (Expander.macros x) (ruX x) = true → List.length (List.map bindingC (Expander.bindings x)) ≤
 9223372036854775807 → Tc_sIsExpLb x (li 0) = Lc_sIsExpLb x 0 ∧ Ic_sIsExpLb x (List.length (Expander.bindings x) - 0) (Lc_sIsExpLb x 0) ∧ LoopSem Tryz.prog (loopAt Tryz.f21 1)
 (Ic_sIsExpLb x) (Yc_sIsExpLb x) ∧ (List.all (Expander.bindings x) (bndX x) = true → ObsEq [] [] ∧ AV.sv (lb true) = AV.sv (lb (isExp x))) ∧ (List.all (Expander.bindings x) (bndX
 x) = false → ObsEq [] [] ∧ AV.sv (lb false) = AV.sv (lb (isExp x))) ∧ True) ∧ (List.all (Expander.macros x) (ruX x) = false → ObsEq [] [] ∧ AV.sv (lb false) = AV.sv (lb (isExp
 x))) ∧ True)))))) := by kernel_rfl
theorem c_sIsExp (x : Expander) (h : wX x ≤ 1048576)  : P_c_sIsExp x := by
  refine CallOK.ofRun wide (run_c_sIsExp x) Tryz.call21 Tryz.func21 rfl rfl rfl ?_
  with_reducible repeat' (first | apply And.intro | exact flatI | exact flatS | exact rowLens | (intro; skip) | apply obsN | apply obsC | apply obA | apply obM | apply obB | apply svA | apply tupA | apply lcA | apply lcS | apply svC | apply liC | apply lbC | apply lsC | apply vIc | apply vBc | apply vSc | apply vLc | apply mapC | apply mIc | apply mOc | apply mSc | apply mLc | apply Hc_sIsExpLa | apply Ec_sIsExpLa | apply Sc_sIsExpLa | apply Hc_sIsExpLb | apply Ec_sIsExpLb | apply Sc_sIsExpLb | apply EW1c_sIsExpLb | apply EW1c_sIsExpLa | apply c_sAre | apply c_l1In | apply c_sIsRules | apply c_sRulB)
  all_goals (try simp only [std] at *)
  all_goals (try (first | with_reducible apply c_sAre | with_reducible apply c_l1In | with_reducible apply c_sIsRules | with_reducible apply c_sRulB | (simp only [← List.map_append]; first | with_reducible apply c_sAre | with_reducible apply c_l1In | with_reducible apply c_sIsRules | with_reducible apply c_sRulB)))
  all_goals (try (first | with_reducible rfl | omega | assumption | (refine (decide_eq_true ?_).symm; assumption) | (refine (decide_eq_false ?_).symm; assumption) | (refine rowGet ?_; (first | omega | (simp only [std]; omega) | grind)) | (refine getC ?_ rfl; (first | omega | (simp only [std]; omega) | grind)) | exact look_mI | exact look_mO | exact look_mO1 | exact look_mS | exact look_mL | exact upd_mI | exact upd_mO | exact del_mO | exact upd_mS | exact take_mL | (refine upd_mL ?_; grind) | (refine fill_step ?_ ?_; (first | omega | (simp only [std]; omega) | grind); (first | rfl | exact (Row.eq _).trans rfl)) | (refine fill_init ?_; (first | rfl | exact (Row.eq _).trans rfl)) | (show (_ : St) = _; rfl) | grind [isExp, snocI, snocS, rowSnoc]))
abbrev P_c_iIsExp (x : Expander) : Prop := CallOK Tryz.prog 23 [] [expanderA x] [] (.sv (lb (isExp x)))
def Tc_iIsExpLb (x : Expander) (x0 : SV) : St := St.mk (regsOf 115 [(1, AV.sv (SV.one (AC.ptr 0 0))), (66, AV.sv (ll (List.map bindingC (Expander.bindings x)))), (67, AV.sv (li
 (↑(List.length (List.map bindingC (Expander.bindings x))) : Int))), (68, AV.sv x0)]) [Ob.box (vals (expanderF x))] 0 
def Lc_iIsExpLb (x : Expander) (k : Nat) : St := Tc_iIsExpLb x (li (↑k : Int)) 
def Ic_iIsExpLb (x : Expander) : Nat → St → Prop := Head (Lc_iIsExpLb x) (fun k => k ≤ List.length (Expander.bindings x) ∧ List.length (Expander.bindings x) ≤ 9223372036854775807 ∧
 List.all (List.take k (Expander.bindings x)) (bndX x) = true) fun k => List.length (Expander.bindings x) - k 
def W0c_iIsExpLb (x : Expander) : St := St.mk (regsOf 115 []) [] 0 
def W1c_iIsExpLb (x : Expander) (x0 : SV) : St := St.mk (regsOf 115 [(2, AV.sv x0)]) [] 0 
def Yc_iIsExpLb (x : Expander) : List (Prop × AEx × St) := [(List.all (Expander.bindings x) (bndX x) = true, AEx.exit 2, W0c_iIsExpLb x), (List.all (Expander.bindings x) (bndX x) =
 false, AEx.ret, W1c_iIsExpLb x (lb false))]
def Tc_iIsExpLa (x : Expander) (x0 : SV) : St := St.mk (regsOf 115 [(1, AV.sv (SV.one (AC.ptr 0 0))), (48, AV.sv (ll (List.map rulesC (Expander.macros x)))), (49, AV.sv (li
 (↑(List.length (List.map rulesC (Expander.macros x))) : Int))), (50, AV.sv x0)]) [Ob.box (vals (expanderF x))] 0 
def Lc_iIsExpLa (x : Expander) (k : Nat) : St := Tc_iIsExpLa x (li (↑k : Int)) 
def Ic_iIsExpLa (x : Expander) : Nat → St → Prop := Head (Lc_iIsExpLa x) (fun k => k ≤ List.length (Expander.macros x) ∧ List.length (Expander.macros x) ≤ 9223372036854775807 ∧
 List.all (List.take k (Expander.macros x)) (ruX x) = true) fun k => List.length (Expander.macros x) - k 
def W0c_iIsExpLa (x : Expander) : St := St.mk (regsOf 115 [(1, AV.sv (SV.one (AC.ptr 0 0)))]) [Ob.box (vals (expanderF x))] 0 
def W1c_iIsExpLa (x : Expander) (x0 : SV) : St := St.mk (regsOf 115 [(2, AV.sv x0)]) [] 0 
def Yc_iIsExpLa (x : Expander) : List (Prop × AEx × St) := [(List.all (Expander.macros x) (ruX x) = true, AEx.exit 0, W0c_iIsExpLa x), (List.all (Expander.macros x) (ruX x) =
 false, AEx.ret, W1c_iIsExpLa x (lb false))]
theorem Hc_iIsExpLb {x : Expander} {k : Nat} {m : Nat} (h : (fun k => k ≤ List.length (Expander.bindings x) ∧ List.length (Expander.bindings x) ≤ 9223372036854775807 ∧ List.all
 (List.take k (Expander.bindings x)) (bndX x) = true) k) (hm : (fun k => List.length (Expander.bindings x) - k) k = m) : Ic_iIsExpLb x m (Lc_iIsExpLb x k) := hm ▸ Head.mk h
theorem Ec_iIsExpLb {x : Expander} {k : Nat} {x0 : SV} (h0 : x0 = (li (↑k : Int))) : Tc_iIsExpLb x x0 = Lc_iIsExpLb x k := by
  rw [h0]
  rfl
theorem EW1c_iIsExpLb {x : Expander} {x0 y0 : SV} (h0 : x0 = y0) : W1c_iIsExpLb x x0 = W1c_iIsExpLb x y0 := by rw [h0]
abbrev a1__iIsExpLb (x : Expander) (k : Nat) := (List.getD (Expander.bindings x) k default)
abbrev a2__iIsExpLb (x : Expander) (k : Nat) := (decide ((↑(List.length (List.map rulesC (Expander.macros x))) : Int) ≤ Binding.number (a1__iIsExpLb x k)) = false → rng IntKind.i64
 ((↑k : Int) + 1) ∧ List.length (Expander.bindings x) - (k + 1) < List.length (Expander.bindings x) - k ∧ Tc_iIsExpLb x (li ((↑k : Int) + 1)) = Lc_iIsExpLb x (k + 1) ∧ Ic_iIsExpLb
 x (List.length (Expander.bindings x) - (k + 1)) (Lc_iIsExpLb x (k + 1)))
abbrev a3__iIsExpLb (x : Expander) (k : Nat) := (List.map intC (Binding.scopes (a1__iIsExpLb x k)))
abbrev a4__iIsExpLb (x : Expander) (k : Nat) := [Orc.br [Orc.ghost (Ghost.sel [] [2]), Orc.out 1] [Orc.ghost (Ghost.sel [0] [1, 66, 67, 68]), Orc.goto (List.length
 (Expander.bindings x) - (k + 1)) (Lc_iIsExpLb x (k + 1))]]
abbrev a5__iIsExpLb (x : Expander) (k : Nat) := (decide ((↑(List.length (List.map rulesC (Expander.macros x))) : Int) ≤ Binding.number (a1__iIsExpLb x k)) = true → List.all
 (Expander.bindings x) (bndX x) = false ∧ W1c_iIsExpLa x (lb false) = W1c_iIsExpLb x (lb false))
abbrev a6__iIsExpLb (x : Expander) (k : Nat) := [Orc.bool false, Orc.ghost (Ghost.sel [0] [1, 66, 67, 68]), Orc.goto (List.length (Expander.bindings x) - (k + 1)) (Lc_iIsExpLb x (k
 + 1))]
abbrev a7__iIsExpLb (x : Expander) (k : Nat) := (decide (Binding.kind (a1__iIsExpLb x k) = 4) = false → List.length (a3__iIsExpLb x k) ≤ 9223372036854775807 → List.length
 (a3__iIsExpLb x k) ≤ 9223372036854775807 → false = false ∧ rng IntKind.i64 ((↑k : Int) + 1) ∧ List.length (Expander.bindings x) - (k + 1) < List.length (Expander.bindings x) - k ∧
 Tc_iIsExpLb x (li ((↑k : Int) + 1)) = Lc_iIsExpLb x (k + 1) ∧ Ic_iIsExpLb x (List.length (Expander.bindings x) - (k + 1)) (Lc_iIsExpLb x (k + 1)))
abbrev a8__iIsExpLb (x : Expander) (k : Nat) := (decide (Binding.kind (a1__iIsExpLb x k) = 4) = false → List.length (a3__iIsExpLb x k) ≤ 9223372036854775807 → false = false ∧ rng
 IntKind.i64 ((↑k : Int) + 1) ∧ List.length (Expander.bindings x) - (k + 1) < List.length (Expander.bindings x) - k ∧ Tc_iIsExpLb x (li ((↑k : Int) + 1)) = Lc_iIsExpLb x (k + 1) ∧
 Ic_iIsExpLb x (List.length (Expander.bindings x) - (k + 1)) (Lc_iIsExpLb x (k + 1)))
abbrev a9__iIsExpLb (x : Expander) (k : Nat) := (decide (Binding.kind (a1__iIsExpLb x k) = 4) = true → List.length (a3__iIsExpLb x k) ≤ 9223372036854775807 → List.length
 (a3__iIsExpLb x k) ≤ 9223372036854775807 → List.length (List.map rulesC (Expander.macros x)) ≤ 9223372036854775807 → (a5__iIsExpLb x k) ∧ (a2__iIsExpLb x k))
abbrev a10__iIsExpLb (x : Expander) (k : Nat) := (decide (Binding.kind (a1__iIsExpLb x k) = 4) = true → List.length (a3__iIsExpLb x k) ≤ 9223372036854775807 → List.length (List.map
 rulesC (Expander.macros x)) ≤ 9223372036854775807 → (a5__iIsExpLb x k) ∧ (a2__iIsExpLb x k))
theorem run_c_iIsExpLb (x : Expander) (k : Nat) : aexec Tryz.prog (loopAt Tryz.f23 1) (Lc_iIsExpLb x k) [Orc.br [Orc.cells (bindingF (a1__iIsExpLb x k)), Orc.draw [], Orc.br
 [Orc.cells (intC (List.getD (Binding.scopes (a1__iIsExpLb x k)) (Int.toNat ((↑(List.length (a3__iIsExpLb x k)) : Int) - 1)) default)), Orc.br [Orc.bool true, Orc.bool true,
 Orc.ghost (Ghost.sel [] [2]), Orc.out 1] [Orc.br [Orc.br [Orc.bool true, Orc.ghost (Ghost.sel [] [2]), Orc.out 1] [Orc.br (a4__iIsExpLb x k) (a6__iIsExpLb x k)]] [Orc.bool false,
 Orc.br (a4__iIsExpLb x k) (a6__iIsExpLb x k)]]] [Orc.bool false, Orc.br [Orc.br [Orc.bool true, Orc.ghost (Ghost.sel [] [2]), Orc.out 1] [Orc.br (a4__iIsExpLb x k) (a6__iIsExpLb x
 k)]] [Orc.bool false, Orc.br (a4__iIsExpLb x k) (a6__iIsExpLb x k)]]] [Orc.ghost (Ghost.sel [] []), Orc.out 0]] (loopK (Ic_iIsExpLb x) (Yc_iIsExpLb x) (List.length
 (Expander.bindings x) - k)) = ((decide ((↑k : Int) < (↑(List.length (List.map bindingC (Expander.bindings x))) : Int)) = true → (0 ≤ (↑k : Int) ∧ (List.map bindingC
 (Expander.bindings x))[Int.toNat (↑k : Int)]? = some (bindingF (a1__iIsExpLb x k))) ∧ (decide (0 < (↑(List.length (a3__iIsExpLb x k)) : Int)) = true → rng IntKind.i64
 ((↑(List.length (a3__iIsExpLb x k)) : Int) - 1) ∧ (0 ≤ (↑(List.length (a3__iIsExpLb x k)) : Int) - 1 ∧ (a3__iIsExpLb x k)[Int.toNat ((↑(List.length (a3__iIsExpLb x k)) : Int) -
 1)]? = some [cI (List.getD (Binding.scopes (a1__iIsExpLb x k)) (Int.toNat ((↑(List.length (a3__iIsExpLb x k)) : Int) - 1)) 0)]) ∧ (decide (Expander.scope x < List.getD
 (Binding.scopes (a1__iIsExpLb x k)) (Int.toNat ((↑(List.length (a3__iIsExpLb x k)) : Int) - 1)) 0) = true → true = true ∧ (List.length (a3__iIsExpLb x k) ≤ 9223372036854775807 →
 List.length (a3__iIsExpLb x k) ≤ 9223372036854775807 → true = true ∧ List.all (Expander.bindings x) (bndX x) = false ∧ W1c_iIsExpLa x (lb false) = W1c_iIsExpLb x (lb false))) ∧
 (decide (Expander.scope x < List.getD (Binding.scopes (a1__iIsExpLb x k)) (Int.toNat ((↑(List.length (a3__iIsExpLb x k)) : Int) - 1)) 0) = false → (decide (Binding.kind
 (a1__iIsExpLb x k) = 3) = true → (decide (Expander.vari x < Binding.number (a1__iIsExpLb x k)) = true → List.length (a3__iIsExpLb x k) ≤ 9223372036854775807 → List.length
 (a3__iIsExpLb x k) ≤ 9223372036854775807 → true = true ∧ List.all (Expander.bindings x) (bndX x) = false ∧ W1c_iIsExpLa x (lb false) = W1c_iIsExpLb x (lb false)) ∧ (decide
 (Expander.vari x < Binding.number (a1__iIsExpLb x k)) = false → (a9__iIsExpLb x k) ∧ (a7__iIsExpLb x k))) ∧ (decide (Binding.kind (a1__iIsExpLb x k) = 3) = false → false = false ∧
 (a9__iIsExpLb x k) ∧ (a7__iIsExpLb x k)))) ∧ (decide (0 < (↑(List.length (a3__iIsExpLb x k)) : Int)) = false → false = false ∧ (decide (Binding.kind (a1__iIsExpLb x k) = 3) = true
 → (decide (Expander.vari x < Binding.number (a1__iIsExpLb x k)) = true → List.length (a3__iIsExpLb x k) ≤ 9223372036854775807 → true = true ∧ List.all (Expander.bindings x) (bndX
 x) = false ∧ W1c_iIsExpLa x (lb false) = W1c_iIsExpLb x (lb false)) ∧ (decide (Expander.vari x < Binding.number (a1__iIsExpLb x k)) = false → (a10__iIsExpLb x k) ∧ (a8__iIsExpLb x
 k))) ∧ (decide (Binding.kind (a1__iIsExpLb x k) = 3) = false → false = false ∧ (a10__iIsExpLb x k) ∧ (a8__iIsExpLb x k)))) ∧ (decide ((↑k : Int) < (↑(List.length (List.map
 bindingC (Expander.bindings x))) : Int)) = false → List.all (Expander.bindings x) (bndX x) = true ∧ W0c_iIsExpLb x = W0c_iIsExpLb x)) := by kernel_rfl
theorem Hc_iIsExpLa {x : Expander} {k : Nat} {m : Nat} (h : (fun k => k ≤ List.length (Expander.macros x) ∧ List.length (Expander.macros x) ≤ 9223372036854775807 ∧ List.all
 (List.take k (Expander.macros x)) (ruX x) = true) k) (hm : (fun k => List.length (Expander.macros x) - k) k = m) : Ic_iIsExpLa x m (Lc_iIsExpLa x k) := hm ▸ Head.mk h
theorem Ec_iIsExpLa {x : Expander} {k : Nat} {x0 : SV} (h0 : x0 = (li (↑k : Int))) : Tc_iIsExpLa x x0 = Lc_iIsExpLa x k := by
  rw [h0]
  rfl
theorem EW1c_iIsExpLa {x : Expander} {x0 y0 : SV} (h0 : x0 = y0) : W1c_iIsExpLa x x0 = W1c_iIsExpLa x y0 := by rw [h0]
theorem run_c_iIsExpLa (x : Expander) (k : Nat) : aexec Tryz.prog (loopAt Tryz.f23 0) (Lc_iIsExpLa x k) [Orc.br [Orc.cells (rulesF (List.getD (Expander.macros x) k default)),
 Orc.call [Mode.rd] [] (AV.sv (lb (isRul (List.getD (Expander.macros x) k default)))), Orc.br [Orc.bool true, Orc.ghost (Ghost.sel [] [2]), Orc.out 1] [Orc.call [Mode.rd, Mode.rd]
 [] (AV.sv (lb (rulB (Expander.scope x) (List.getD (Expander.macros x) k default)))), Orc.br [Orc.ghost (Ghost.sel [] [2]), Orc.out 1] [Orc.ghost (Ghost.sel [0] [1, 48, 49, 50]),
 Orc.goto (List.length (Expander.macros x) - (k + 1)) (Lc_iIsExpLa x (k + 1))]]] [Orc.ghost (Ghost.sel [0] [1]), Orc.out 0]] (loopK (Ic_iIsExpLa x) (Yc_iIsExpLa x) (List.length
 (Expander.macros x) - k)) = ((decide ((↑k : Int) < (↑(List.length (List.map rulesC (Expander.macros x))) : Int)) = true → (0 ≤ (↑k : Int) ∧ (List.map rulesC (Expander.macros
 x))[Int.toNat (↑k : Int)]? = some (rulesF (List.getD (Expander.macros x) k default))) ∧ P_c_iIsRules (List.getD (Expander.macros x) k default) ∧ ((!isRul (List.getD
 (Expander.macros x) k default)) = true → true = true ∧ List.all (Expander.macros x) (ruX x) = false ∧ W1c_iIsExpLa x (lb false) = W1c_iIsExpLa x (lb false)) ∧ ((!isRul (List.getD
 (Expander.macros x) k default)) = false → P_c_iRulB (List.getD (Expander.macros x) k default) (Expander.scope x) ∧ ((!rulB (Expander.scope x) (List.getD (Expander.macros x) k
 default)) = true → List.all (Expander.macros x) (ruX x) = false ∧ W1c_iIsExpLa x (lb false) = W1c_iIsExpLa x (lb false)) ∧ ((!rulB (Expander.scope x) (List.getD (Expander.macros
 x) k default)) = false → rng IntKind.i64 ((↑k : Int) + 1) ∧ List.length (Expander.macros x) - (k + 1) < List.length (Expander.macros x) - k ∧ Tc_iIsExpLa x (li ((↑k : Int) + 1)) =
 Lc_iIsExpLa x (k + 1) ∧ Ic_iIsExpLa x (List.length (Expander.macros x) - (k + 1)) (Lc_iIsExpLa x (k + 1))))) ∧ (decide ((↑k : Int) < (↑(List.length (List.map rulesC
 (Expander.macros x))) : Int)) = false → List.all (Expander.macros x) (ruX x) = true ∧ W0c_iIsExpLa x = W0c_iIsExpLa x)) := by kernel_rfl
theorem Sc_iIsExpLb (x : Expander) (h : wX x ≤ 1048576)  : LoopSem Tryz.prog (loopAt Tryz.f23 1) (Ic_iIsExpLb x) (Yc_iIsExpLb x) := by
  refine LoopSem.ofHead wide fun k h => ⟨_, _, run_c_iIsExpLb x k, ?_⟩
  try delta a1__iIsExpLb a2__iIsExpLb a3__iIsExpLb a4__iIsExpLb a5__iIsExpLb a6__iIsExpLb a7__iIsExpLb a8__iIsExpLb a9__iIsExpLb a10__iIsExpLb
  have g1 := wX_eq x
  have g2 := @sumBy_mem _ wB x.bindings (x.bindings.getD k default)
  have g3 := @bndX_stop x k
  have g4 := @bndX_go x k
  have g5 : bndX x (x.bindings.getD k default) = (!(decide (0 < ((x.bindings.getD k default).scopes.length : Int)) && decide (x.scope < (x.bindings.getD k default).scopes.getD (((x.bindings.getD k default).scopes.length : Int) - 1).toNat 0)) && !(decide ((x.bindings.getD k default).kind = 3) && decide (x.vari < (x.bindings.getD k default).number)) && !(decide ((x.bindings.getD k default).kind = 4) && decide ((x.macros.length : Int) ≤ (x.bindings.getD k default).number))) := rfl
  have g6 : x.bindings.length ≤ k → x.bindings.take k = x.bindings := fun h => List.take_of_length_le h
  have g7 := wB_eq (x.bindings.getD k default)
  with_reducible repeat' (first | apply And.intro | exact flatI | exact flatS | exact rowLens | (intro; skip) | apply obsN | apply obsC | apply obA | apply obM | apply obB | apply svA | apply tupA | apply lcA | apply lcS | apply svC | apply liC | apply lbC | apply lsC | apply vIc | apply vBc | apply vSc | apply vLc | apply mapC | apply mIc | apply mOc | apply mSc | apply mLc | apply Hc_iIsExpLa | apply Ec_iIsExpLa | apply Hc_iIsExpLb | apply Ec_iIsExpLb | apply EW1c_iIsExpLb | apply EW1c_iIsExpLa | apply c_iAre | apply c_l1In | apply c_iIsRules | apply c_iRulB)
  all_goals (try simp only [std] at *)
  all_goals (try (first | with_reducible apply c_iAre | with_reducible apply c_l1In | with_reducible apply c_iIsRules | with_reducible apply c_iRulB | (simp only [← List.map_append]; first | with_reducible apply c_iAre | with_reducible apply c_l1In | with_reducible apply c_iIsRules | with_reducible apply c_iRulB)))
  all_goals (try (first | with_reducible rfl | omega | assumption | (refine (decide_eq_true ?_).symm; assumption) | (refine (decide_eq_false ?_).symm; assumption) | (refine rowGet ?_; (first | omega | (simp only [std]; omega) | grind)) | (refine getC ?_ rfl; (first | omega | (simp only [std]; omega) | grind)) | exact look_mI | exact look_mO | exact look_mO1 | exact look_mS | exact look_mL | exact upd_mI | exact upd_mO | exact del_mO | exact upd_mS | exact take_mL | (refine upd_mL ?_; grind) | (refine fill_step ?_ ?_; (first | omega | (simp only [std]; omega) | grind); (first | rfl | exact (Row.eq _).trans rfl)) | (refine fill_init ?_; (first | rfl | exact (Row.eq _).trans rfl)) | (show (_ : St) = _; rfl) | grind [getD_mem', snocI, snocS, rowSnoc]))
theorem Sc_iIsExpLa (x : Expander) (h : wX x ≤ 1048576)  : LoopSem Tryz.prog (loopAt Tryz.f23 0) (Ic_iIsExpLa x) (Yc_iIsExpLa x) := by
  refine LoopSem.ofHead wide fun k h => ⟨_, _, run_c_iIsExpLa x k, ?_⟩
  have g1 := wX_eq x
  have g2 := @sumBy_mem _ wR x.macros (x.macros.getD k default)
  have g3 := @ruX_stop x k
  have g4 := @ruX_go x k
  have g5 : ruX x (x.macros.getD k default) = (isRul (x.macros.getD k default) && rulB x.scope (x.macros.getD k default)) := rfl
  have g6 : x.macros.length ≤ k → x.macros.take k = x.macros := fun h => List.take_of_length_le h
  with_reducible repeat' (first | apply And.intro | exact flatI | exact flatS | exact rowLens | (intro; skip) | apply obsN | apply obsC | apply obA | apply obM | apply obB | apply svA | apply tupA | apply lcA | apply lcS | apply svC | apply liC | apply lbC | apply lsC | apply vIc | apply vBc | apply vSc | apply vLc | apply mapC | apply mIc | apply mOc | apply mSc | apply mLc | apply Hc_iIsExpLa | apply Ec_iIsExpLa | apply Hc_iIsExpLb | apply Ec_iIsExpLb | apply Sc_iIsExpLb | apply EW1c_iIsExpLb | apply EW1c_iIsExpLa | apply c_iAre | apply c_l1In | apply c_iIsRules | apply c_iRulB)
  all_goals (try simp only [std] at *)
  all_goals (try (first | with_reducible apply c_iAre | with_reducible apply c_l1In | with_reducible apply c_iIsRules | with_reducible apply c_iRulB | (simp only [← List.map_append]; first | with_reducible apply c_iAre | with_reducible apply c_l1In | with_reducible apply c_iIsRules | with_reducible apply c_iRulB)))
  all_goals (try (first | with_reducible rfl | omega | assumption | (refine (decide_eq_true ?_).symm; assumption) | (refine (decide_eq_false ?_).symm; assumption) | (refine rowGet ?_; (first | omega | (simp only [std]; omega) | grind)) | (refine getC ?_ rfl; (first | omega | (simp only [std]; omega) | grind)) | exact look_mI | exact look_mO | exact look_mO1 | exact look_mS | exact look_mL | exact upd_mI | exact upd_mO | exact del_mO | exact upd_mS | exact take_mL | (refine upd_mL ?_; grind) | (refine fill_step ?_ ?_; (first | omega | (simp only [std]; omega) | grind); (first | rfl | exact (Row.eq _).trans rfl)) | (refine fill_init ?_; (first | rfl | exact (Row.eq _).trans rfl)) | (show (_ : St) = _; rfl) | grind [getD_mem', snocI, snocS, rowSnoc]))
theorem run_c_iIsExp (x : Expander) : aexec Tryz.prog (Option.getD (Func.body Tryz.f23) Code.skip) (entry [] [expanderA x] 115) [Orc.call [Mode.rd] [] (AV.sv (lb (areB
 (Expander.bindings x)))), Orc.br [Orc.bool true, Orc.bool true, Orc.bool true, Orc.bool true, Orc.bool true, Orc.bool true, Orc.bool true, Orc.fin []] [Orc.br [Orc.bool true,
 Orc.bool true, Orc.bool true, Orc.bool true, Orc.bool true, Orc.bool true, Orc.fin []] [Orc.br [Orc.bool true, Orc.bool true, Orc.bool true, Orc.bool true, Orc.bool true, Orc.fin
 []] [Orc.br [Orc.bool true, Orc.bool true, Orc.bool true, Orc.bool true, Orc.fin []] [Orc.br [Orc.bool true, Orc.bool true, Orc.bool true, Orc.fin []] [Orc.br [Orc.bool true,
 Orc.bool true, Orc.fin []] [Orc.br [Orc.bool true, Orc.fin []] [Orc.br [Orc.fin []] [Orc.ghost (Ghost.sel [0] [1, 48, 49, 50]), Orc.loop (List.length (Expander.macros x) - 0)
 (Lc_iIsExpLa x 0) (Ic_iIsExpLa x) [(List.all (Expander.macros x) (ruX x) = true, AEx.exit 0, W0c_iIsExpLa x, [Orc.ghost (Ghost.sel [0] [1, 66, 67, 68]), Orc.loop (List.length
 (Expander.bindings x) - 0) (Lc_iIsExpLb x 0) (Ic_iIsExpLb x) [(List.all (Expander.bindings x) (bndX x) = true, AEx.exit 2, W0c_iIsExpLb x, [Orc.fin []]), (List.all
 (Expander.bindings x) (bndX x) = false, AEx.ret, W1c_iIsExpLb x (lb false), [Orc.fin []])]]), (List.all (Expander.macros x) (ruX x) = false, AEx.ret, W1c_iIsExpLa x (lb false),
 [Orc.fin []])]]]]]]]]]] (finK Tryz.prog [ResultVar.tmp 2] [] (AV.sv (lb (isExp x)))) = (P_c_iAre (Expander.bindings x) ∧ ((!areB (Expander.bindings x)) = true → true = true ∧ true
 = true ∧ true = true ∧ true = true ∧ true = true ∧ true = true ∧ true = true ∧ ObsEq [] [] ∧ AV.sv (lb false) = AV.sv (lb (isExp x))) ∧ ((!areB (Expander.bindings x)) = false →
 List.length (List.map rulesC (Expander.macros x)) ≤ 9223372036854775807 → (decide (200 < (↑(List.length (List.map rulesC (Expander.macros x))) : Int)) = true → true = true ∧ true
 = true ∧ true = true ∧ true = true ∧ true = true ∧ true = true ∧ ObsEq [] [] ∧ AV.sv (lb false) = AV.sv (lb (isExp x))) ∧ (decide (200 < (↑(List.length (List.map rulesC
 (Expander.macros x))) : Int)) = false → (decide (Expander.scope x < 0) = true → true = true ∧ true = true ∧ true = true ∧ true = true ∧ true = true ∧ ObsEq [] [] ∧ AV.sv (lb
 false) = AV.sv (lb (isExp x))) ∧ (decide (Expander.scope x < 0) = false → (decide (99999 < Expander.scope x) = true → true = true ∧ true = true ∧ true = true ∧ true = true ∧ ObsEq
 [] [] ∧ AV.sv (lb false) = AV.sv (lb (isExp x))) ∧ (decide (99999 < Expander.scope x) = false → (decide (Expander.vari x < 0) = true → true = true ∧ true = true ∧ true = true ∧
 ObsEq [] [] ∧ AV.sv (lb false) = AV.sv (lb (isExp x))) ∧ (decide (Expander.vari x < 0) = false → (decide (99999 < Expander.vari x) = true → true = true ∧ true = true ∧ ObsEq [] []
 ∧ AV.sv (lb false) = AV.sv (lb (isExp x))) ∧ (decide (99999 < Expander.vari x) = false → (decide (Expander.steps x < 0) = true → true = true ∧ ObsEq [] [] ∧ AV.sv (lb false) =
 AV.sv (lb (isExp x))) ∧ (decide (Expander.steps x < 0) = false → (decide (200 < Expander.steps x) = true → ObsEq [] [] ∧ AV.sv (lb false) = AV.sv (lb (isExp x))) ∧ (decide (200 <
 Expander.steps x) = false → List.length (List.map rulesC (Expander.macros x)) ≤ 9223372036854775807 → Tc_iIsExpLa x (li 0) = Lc_iIsExpLa x 0 ∧ Ic_iIsExpLa x (List.length
 (Expander.macros x) - 0) (Lc_iIsExpLa x 0) ∧ LoopSem Tryz.prog (loopAt Tryz.f23 0) (Ic_iIsExpLa x) (Yc_iIsExpLa x) ∧ (List.all (Expander.macros x) (ruX x) = true → List.length
 (List.map bindingC (Expander.bindings x)) ≤ 9223372036854775807 → Tc_iIsExpLb x (li 0) = Lc_iIsExpLb x 0 ∧ Ic_iIsExpLb x (List.length (Expander.bindings x) - 0) (Lc_iIsExpLb x 0)
 ∧ LoopSem Tryz.prog (loopAt Tryz.f23 1) (Ic_iIsExpLb x) (Yc_iIsExpLb x) ∧ (List.all (Expander.bindings x) (bndX x) = true → ObsEq [] [] ∧ AV.sv (lb true) = AV.sv (lb (isExp x))) ∧
 (List.all (Expander.bindings x) (bndX x) = false → ObsEq [] [] ∧ AV.sv (lb false) = AV.sv (lb (isExp x))) ∧ True) ∧ (List.all (Expander.macros x) (ruX x) = false → ObsEq [] [] ∧
 AV.sv (lb false) = AV.sv (lb (isExp x))) ∧ True))))))))) := by kernel_rfl
theorem c_iIsExp (x : Expander) (h : wX x ≤ 1048576)  : P_c_iIsExp x := by
  refine CallOK.ofRun wide (run_c_iIsExp x) Tryz.call23 Tryz.func23 rfl rfl rfl ?_
  with_reducible repeat' (first | apply And.intro | exact flatI | exact flatS | exact rowLens | (intro; skip) | apply obsN | apply obsC | apply obA | apply obM | apply obB | apply svA | apply tupA | apply lcA | apply lcS | apply svC | apply liC | apply lbC | apply lsC | apply vIc | apply vBc | apply vSc | apply vLc | apply mapC | apply mIc | apply mOc | apply mSc | apply mLc | apply Hc_iIsExpLa | apply Ec_iIsExpLa | apply Sc_iIsExpLa | apply Hc_iIsExpLb | apply Ec_iIsExpLb | apply Sc_iIsExpLb | apply EW1c_iIsExpLb | apply EW1c_iIsExpLa | apply c_iAre | apply c_l1In | apply c_iIsRules | apply c_iRulB)
  all_goals (try simp only [std] at *)
  all_goals (try (first | with_reducible apply c_iAre | with_reducible apply c_l1In | with_reducible apply c_iIsRules | with_reducible apply c_iRulB | (simp only [← List.map_append]; first | with_reducible apply c_iAre | with_reducible apply c_l1In | with_reducible apply c_iIsRules | with_reducible apply c_iRulB)))
  all_goals (try (first | with_reducible rfl | omega | assumption | (refine (decide_eq_true ?_).symm; assumption) | (refine (decide_eq_false ?_).symm; assumption) | (refine rowGet ?_; (first | omega | (simp only [std]; omega) | grind)) | (refine getC ?_ rfl; (first | omega | (simp only [std]; omega) | grind)) | exact look_mI | exact look_mO | exact look_mO1 | exact look_mS | exact look_mL | exact upd_mI | exact upd_mO | exact del_mO | exact upd_mS | exact take_mL | (refine upd_mL ?_; grind) | (refine fill_step ?_ ?_; (first | omega | (simp only [std]; omega) | grind); (first | rfl | exact (Row.eq _).trans rfl)) | (refine fill_init ?_; (first | rfl | exact (Row.eq _).trans rfl)) | (show (_ : St) = _; rfl) | grind [isExp, snocI, snocS, rowSnoc]))
end Go.Proofs.YtegbadciefljcaaGreat
end
section
namespace Go.Proofs.YtegbadciefljcaaGreat
open Go Go.Proofs.YtegbadciefljcaaGreat.Ab
set_option linter.unusedVariables false
set_option linter.unusedSimpArgs false
set_option maxHeartbeats 4000000
abbrev P_c_szIntS (L : List Int) (left : Int) : Prop := CallOK Tryz.prog 92 [] [ll (L.map intC), li left] [] (.sv (li (sz L.length left)))
theorem run_c_szIntS (L : List Int) (left : Int) : aexec Tryz.prog (Option.getD (Func.body Tryz.f92) Code.skip) (entry [] [ll (List.map intC L), li left] 12) [Orc.br [Orc.fin []]
 [Orc.fin []]] (finK Tryz.prog [ResultVar.tmp 4] [] (AV.sv (li (sz (List.length L) left)))) = (List.length (List.map intC L) ≤ 9223372036854775807 → rng IntKind.i64 (left -
 (↑(List.length (List.map intC L)) : Int)) ∧ (decide (left - (↑(List.length (List.map intC L)) : Int) < 0) = true → ObsEq [] [] ∧ AV.sv (li (-1 : Int)) = AV.sv (li (sz (List.length
 L) left))) ∧ (decide (left - (↑(List.length (List.map intC L)) : Int) < 0) = false → ObsEq [] [] ∧ AV.sv (li (left - (↑(List.length (List.map intC L)) : Int))) = AV.sv (li (sz
 (List.length L) left)))) := by kernel_rfl
theorem c_szIntS (L : List Int) (left : Int) (h0 : 0 ≤ left) (h : left ≤ 2147483647)  : P_c_szIntS L left := by
  refine CallOK.ofRun wide (run_c_szIntS L left) Tryz.call92 Tryz.func92 rfl rfl rfl ?_
  with_reducible repeat' (first | apply And.intro | exact flatI | exact flatS | exact rowLens | (intro; skip) | apply obsN | apply obsC | apply obA | apply obM | apply obB | apply svA | apply tupA | apply lcA | apply lcS | apply svC | apply liC | apply lbC | apply lsC | apply vIc | apply vBc | apply vSc | apply vLc | apply mapC)
  all_goals (try simp only [std] at *)
  all_goals (try (first | with_reducible rfl | omega | assumption | (refine (decide_eq_true ?_).symm; assumption) | (refine (decide_eq_false ?_).symm; assumption) | (refine rowGet ?_; (first | omega | (simp only [std]; omega) | grind)) | (refine getC ?_ rfl; (first | omega | (simp only [std]; omega) | grind)) | (refine fill_step ?_ ?_; (first | omega | (simp only [std]; omega) | grind); (first | rfl | exact (Row.eq _).trans rfl)) | (refine fill_init ?_; (first | rfl | exact (Row.eq _).trans rfl)) | (show (_ : St) = _; rfl) | grind [sz, snocI, snocS, rowSnoc]))
abbrev P_c_szSyntaxS (L : List Syntax) (left : Int) : Prop := CallOK Tryz.prog 26 [] [ll (L.map syntaxC), li left] [] (.sv (li (sz (L.length + sumBy wY L) left)))
abbrev P_c_szSyntax (x : Syntax) (left : Int) : Prop := CallOK Tryz.prog 27 [] [syntaxA x, li left] [] (.sv (li (sz (wY x) left)))
def Tc_szSyntaxSLa (L : List Syntax) (left : Int) (x0 : SV) (x1 : SV) : St := St.mk (regsOf 27 [(0, AV.sv (ll (List.map syntaxC L))), (1, AV.sv x1), (5, AV.sv x0)]) [] 0 
def Lc_szSyntaxSLa (L : List Syntax) (left : Int) (k : Nat × Int) : St := Tc_szSyntaxSLa L left (li (↑(Prod.fst k) : Int)) (li (Prod.snd k)) 
def Ic_szSyntaxSLa (L : List Syntax) (left : Int) : Nat → St → Prop := Head (Lc_szSyntaxSLa L left) (fun k => Prod.fst k ≤ List.length L ∧ List.length L ≤ 9223372036854775807 ∧ 0 ≤
 Prod.snd k ∧ Prod.snd k ≤ left ∧ sz (sumBy wY (List.drop (Prod.fst k) L)) (Prod.snd k) = sz (List.length L + sumBy wY L) left) fun k => List.length L - Prod.fst k 
def W0c_szSyntaxSLa (L : List Syntax) (left : Int) (x0 : SV) : St := St.mk (regsOf 27 [(1, AV.sv x0)]) [] 0 
def W1c_szSyntaxSLa (L : List Syntax) (left : Int) (x0 : SV) : St := St.mk (regsOf 27 [(4, AV.sv x0)]) [] 0 
def Yc_szSyntaxSLa (L : List Syntax) (left : Int) : List (Prop × AEx × St) := [(0 ≤ sz (List.length L + sumBy wY L) left, AEx.exit 0, W0c_szSyntaxSLa L left (li (sz (List.length L
 + sumBy wY L) left))), (sz (List.length L + sumBy wY L) left = (-1 : Int), AEx.ret, W1c_szSyntaxSLa L left (li (-1 : Int)))]
theorem Hc_szSyntaxSLa {L : List Syntax} {left : Int} {k : Nat × Int} {m : Nat} (h : (fun k => Prod.fst k ≤ List.length L ∧ List.length L ≤ 9223372036854775807 ∧ 0 ≤ Prod.snd k ∧
 Prod.snd k ≤ left ∧ sz (sumBy wY (List.drop (Prod.fst k) L)) (Prod.snd k) = sz (List.length L + sumBy wY L) left) k) (hm : (fun k => List.length L - Prod.fst k) k = m) :
 Ic_szSyntaxSLa L left m (Lc_szSyntaxSLa L left k) := hm ▸ Head.mk h
theorem Ec_szSyntaxSLa {L : List Syntax} {left : Int} {k : Nat × Int} {x0 : SV} {x1 : SV} (h0 : x0 = (li (↑(Prod.fst k) : Int))) (h1 : x1 = (li (Prod.snd k))) : Tc_szSyntaxSLa L
 left x0 x1 = Lc_szSyntaxSLa L left k := by
  rw [h0, h1]
  rfl
theorem EW0c_szSyntaxSLa {L : List Syntax} {left : Int} {x0 y0 : SV} (h0 : x0 = y0) : W0c_szSyntaxSLa L left x0 = W0c_szSyntaxSLa L left y0 := by rw [h0]
theorem EW1c_szSyntaxSLa {L : List Syntax} {left : Int} {x0 y0 : SV} (h0 : x0 = y0) : W1c_szSyntaxSLa L left x0 = W1c_szSyntaxSLa L left y0 := by rw [h0]
theorem run_c_szSyntaxSLa (L : List Syntax) (left : Int) (k : Nat × Int) : aexec Tryz.prog (loopAt Tryz.f26 0) (Lc_szSyntaxSLa L left k) [Orc.br [Orc.cells (syntaxF (List.getD L
 (Prod.fst k) default)), Orc.call [Mode.rd, Mode.rd] [] (AV.sv (li (sz (wY (List.getD L (Prod.fst k) default)) (Prod.snd k)))), Orc.br [Orc.ghost (Ghost.sel [] [4]), Orc.out 1]
 [Orc.ghost (Ghost.sel [] [0, 1, 5]), Orc.goto (List.length L - (Prod.fst k + 1)) (Lc_szSyntaxSLa L left (Prod.fst k + 1, sz (wY (List.getD L (Prod.fst k) default)) (Prod.snd
 k)))]] [Orc.ghost (Ghost.sel [] [1]), Orc.out 0]] (loopK (Ic_szSyntaxSLa L left) (Yc_szSyntaxSLa L left) (List.length L - Prod.fst k)) = (List.length (List.map syntaxC L) ≤
 9223372036854775807 → (decide ((↑(Prod.fst k) : Int) < (↑(List.length (List.map syntaxC L)) : Int)) = true → (0 ≤ (↑(Prod.fst k) : Int) ∧ (List.map syntaxC L)[Int.toNat
 (↑(Prod.fst k) : Int)]? = some (syntaxF (List.getD L (Prod.fst k) default))) ∧ P_c_szSyntax (List.getD L (Prod.fst k) default) (Prod.snd k) ∧ (decide (sz (wY (List.getD L
 (Prod.fst k) default)) (Prod.snd k) < 0) = true → sz (List.length L + sumBy wY L) left = (-1 : Int) ∧ W1c_szSyntaxSLa L left (li (-1 : Int)) = W1c_szSyntaxSLa L left (li (-1 :
 Int))) ∧ (decide (sz (wY (List.getD L (Prod.fst k) default)) (Prod.snd k) < 0) = false → rng IntKind.i64 ((↑(Prod.fst k) : Int) + 1) ∧ List.length L - (Prod.fst k + 1) <
 List.length L - Prod.fst k ∧ Tc_szSyntaxSLa L left (li ((↑(Prod.fst k) : Int) + 1)) (li (sz (wY (List.getD L (Prod.fst k) default)) (Prod.snd k))) = Lc_szSyntaxSLa L left
 (Prod.fst k + 1, sz (wY (List.getD L (Prod.fst k) default)) (Prod.snd k)) ∧ Ic_szSyntaxSLa L left (List.length L - (Prod.fst k + 1)) (Lc_szSyntaxSLa L left (Prod.fst k + 1, sz (wY
 (List.getD L (Prod.fst k) default)) (Prod.snd k))))) ∧ (decide ((↑(Prod.fst k) : Int) < (↑(List.length (List.map syntaxC L)) : Int)) = false → 0 ≤ sz (List.length L + sumBy wY L)
 left ∧ W0c_szSyntaxSLa L left (li (Prod.snd k)) = W0c_szSyntaxSLa L left (li (sz (List.length L + sumBy wY L) left)))) := by kernel_rfl
theorem Sc_szSyntaxSLa (L : List Syntax) (left : Int) (h0 : 0 ≤ left) (h : left ≤ 2147483647) (ih : ∀ (x : Syntax), x ∈ L → ∀ (left : Int), 0 ≤ left → left ≤ 2147483647 →
 P_c_szSyntax x left)  : LoopSem Tryz.prog (loopAt Tryz.f26 0) (Ic_szSyntaxSLa L left) (Yc_szSyntaxSLa L left) := by
  refine LoopSem.ofHead wide fun k h => ⟨_, _, run_c_szSyntaxSLa L left k, ?_⟩
  obtain ⟨i, n⟩ := k
  simp only at *
  with_reducible repeat' (first | apply And.intro | exact flatI | exact flatS | exact rowLens | exact ih | (intro; skip) | apply obsN | apply obsC | apply obA | apply obM | apply obB | apply svA | apply tupA | apply lcA | apply lcS | apply svC | apply liC | apply lbC | apply lsC | apply vIc | apply vBc | apply vSc | apply vLc | apply mapC | apply Hc_szSyntaxSLa | apply Ec_szSyntaxSLa | apply EW0c_szSyntaxSLa | apply EW1c_szSyntaxSLa | apply ih)
  all_goals (try simp only [std] at *)
  all_goals (try (first | with_reducible apply ih | (simp only [← List.map_append]; first | with_reducible apply ih)))
  all_goals (try (first | with_reducible rfl | omega | assumption | (refine (decide_eq_true ?_).symm; assumption) | (refine (decide_eq_false ?_).symm; assumption) | (refine rowGet ?_; (first | omega | (simp only [std]; omega) | grind)) | (refine getC ?_ rfl; (first | omega | (simp only [std]; omega) | grind)) | (refine fill_step ?_ ?_; (first | omega | (simp only [std]; omega) | grind); (first | rfl | exact (Row.eq _).trans rfl)) | (refine fill_init ?_; (first | rfl | exact (Row.eq _).trans rfl)) | (show (_ : St) = _; rfl) | grind [drop_get, sumBy, sz, getD_mem', snocI, snocS, rowSnoc]))
theorem run_c_szSyntaxS (L : List Syntax) (left : Int) : aexec Tryz.prog (Option.getD (Func.body Tryz.f26) Code.skip) (entry [] [ll (List.map syntaxC L), li left] 27) [Orc.br
 [Orc.fin []] [Orc.ghost (Ghost.sel [] [0, 1, 5]), Orc.loop (List.length L - 0) (Lc_szSyntaxSLa L left (0, left - (↑(List.length L) : Int))) (Ic_szSyntaxSLa L left) [(0 ≤ sz
 (List.length L + sumBy wY L) left, AEx.exit 0, W0c_szSyntaxSLa L left (li (sz (List.length L + sumBy wY L) left)), [Orc.fin []]), (sz (List.length L + sumBy wY L) left = (-1 :
 Int), AEx.ret, W1c_szSyntaxSLa L left (li (-1 : Int)), [Orc.fin []])]]] (finK Tryz.prog [ResultVar.tmp 4] [] (AV.sv (li (sz (List.length L + sumBy wY L) left)))) = (List.length
 (List.map syntaxC L) ≤ 9223372036854775807 → rng IntKind.i64 (left - (↑(List.length (List.map syntaxC L)) : Int)) ∧ (decide (left - (↑(List.length (List.map syntaxC L)) : Int) <
 0) = true → ObsEq [] [] ∧ AV.sv (li (-1 : Int)) = AV.sv (li (sz (List.length L + sumBy wY L) left))) ∧ (decide (left - (↑(List.length (List.map syntaxC L)) : Int) < 0) = false →
 Tc_szSyntaxSLa L left (li 0) (li (left - (↑(List.length (List.map syntaxC L)) : Int))) = Lc_szSyntaxSLa L left (0, left - (↑(List.length L) : Int)) ∧ Ic_szSyntaxSLa L left
 (List.length L - 0) (Lc_szSyntaxSLa L left (0, left - (↑(List.length L) : Int))) ∧ LoopSem Tryz.prog (loopAt Tryz.f26 0) (Ic_szSyntaxSLa L left) (Yc_szSyntaxSLa L left) ∧
 (Int.NonNeg (sz (List.length L + sumBy wY L) left - 0) → ObsEq [] [] ∧ AV.sv (li (sz (List.length L + sumBy wY L) left)) = AV.sv (li (sz (List.length L + sumBy wY L) left))) ∧ (sz
 (List.length L + sumBy wY L) left = (-1 : Int) → ObsEq [] [] ∧ AV.sv (li (-1 : Int)) = AV.sv (li (sz (List.length L + sumBy wY L) left))) ∧ True)) := by kernel_rfl
theorem c_szSyntaxS (L : List Syntax) (left : Int) (h0 : 0 ≤ left) (h : left ≤ 2147483647) (ih : ∀ x ∈ L, ∀ (left : Int) (h0 : 0 ≤ left) (h : left ≤ 2147483647), P_c_szSyntax x
 left)  : P_c_szSyntaxS L left := by
  refine CallOK.ofRun wide (run_c_szSyntaxS L left) Tryz.call26 Tryz.func26 rfl rfl rfl ?_
  with_reducible repeat' (first | apply And.intro | exact flatI | exact flatS | exact rowLens | exact ih | (intro; skip) | apply obsN | apply obsC | apply obA | apply obM | apply obB | apply svA | apply tupA | apply lcA | apply lcS | apply svC | apply liC | apply lbC | apply lsC | apply vIc | apply vBc | apply vSc | apply vLc | apply mapC | apply Hc_szSyntaxSLa | apply Ec_szSyntaxSLa | apply Sc_szSyntaxSLa | apply EW0c_szSyntaxSLa | apply EW1c_szSyntaxSLa)
  all_goals (try simp only [std] at *)
  all_goals (try (first | with_reducible apply ih | (simp only [← List.map_append]; first | with_reducible apply ih)))
  all_goals (try (first | with_reducible rfl | omega | assumption | (refine (decide_eq_true ?_).symm; assumption) | (refine (decide_eq_false ?_).symm; assumption) | (refine rowGet ?_; (first | omega | (simp only [std]; omega) | grind)) | (refine getC ?_ rfl; (first | omega | (simp only [std]; omega) | grind)) | (refine fill_step ?_ ?_; (first | omega | (simp only [std]; omega) | grind); (first | rfl | exact (Row.eq _).trans rfl)) | (refine fill_init ?_; (first | rfl | exact (Row.eq _).trans rfl)) | (show (_ : St) = _; rfl) | grind [sz, snocI, snocS, rowSnoc]))
theorem run_c_szSyntax_s (x : Syntax) (left : Int) : aexec Tryz.prog (Option.getD (Func.body Tryz.f27) Code.skip) (entry [] [syntaxA x, li left] 25) [Orc.br [Orc.fin []] [Orc.call
 [Mode.rd, Mode.rd] [] (AV.sv (li (sz (List.length (Syntax.scopes x)) (left - (↑(List.length (Array.toList (ByteArray.data (Syntax.text x)))) : Int))))), Orc.br [Orc.fin []]
 [Orc.call [Mode.rd, Mode.rd] [] (AV.sv (li (sz (List.length (Syntax.items x) + sumBy wY (Syntax.items x)) (sz (List.length (Syntax.scopes x)) (left - (↑(List.length (Array.toList
 (ByteArray.data (Syntax.text x)))) : Int)))))), Orc.br [Orc.fin []] [Orc.fin []]]]] (finK Tryz.prog [ResultVar.tmp 4] [] (AV.sv (li (sz (wY x) left)))) = (List.length
 (Array.toList (ByteArray.data (Syntax.text x))) ≤ 9223372036854775807 → rng IntKind.i64 (left - (↑(List.length (Array.toList (ByteArray.data (Syntax.text x)))) : Int)) ∧ (decide
 (left - (↑(List.length (Array.toList (ByteArray.data (Syntax.text x)))) : Int) < 0) = true → ObsEq [] [] ∧ AV.sv (li (-1 : Int)) = AV.sv (li (sz (wY x) left))) ∧ (decide (left -
 (↑(List.length (Array.toList (ByteArray.data (Syntax.text x)))) : Int) < 0) = false → P_c_szIntS (Syntax.scopes x) (left - (↑(List.length (Array.toList (ByteArray.data
 (Syntax.text x)))) : Int)) ∧ (decide (sz (List.length (Syntax.scopes x)) (left - (↑(List.length (Array.toList (ByteArray.data (Syntax.text x)))) : Int)) < 0) = true → ObsEq [] []
 ∧ AV.sv (li (-1 : Int)) = AV.sv (li (sz (wY x) left))) ∧ (decide (sz (List.length (Syntax.scopes x)) (left - (↑(List.length (Array.toList (ByteArray.data (Syntax.text x)))) :
 Int)) < 0) = false → P_c_szSyntaxS (Syntax.items x) (sz (List.length (Syntax.scopes x)) (left - (↑(List.length (Array.toList (ByteArray.data (Syntax.text x)))) : Int))) ∧ (decide
 (sz (List.length (Syntax.items x) + sumBy wY (Syntax.items x)) (sz (List.length (Syntax.scopes x)) (left - (↑(List.length (Array.toList (ByteArray.data (Syntax.text x)))) : Int)))
 < 0) = true → ObsEq [] [] ∧ AV.sv (li (-1 : Int)) = AV.sv (li (sz (wY x) left))) ∧ (decide (sz (List.length (Syntax.items x) + sumBy wY (Syntax.items x)) (sz (List.length
 (Syntax.scopes x)) (left - (↑(List.length (Array.toList (ByteArray.data (Syntax.text x)))) : Int))) < 0) = false → ObsEq [] [] ∧ AV.sv (li (sz (List.length (Syntax.items x) +
 sumBy wY (Syntax.items x)) (sz (List.length (Syntax.scopes x)) (left - (↑(List.length (Array.toList (ByteArray.data (Syntax.text x)))) : Int))))) = AV.sv (li (sz (wY x) left))))))
 := by kernel_rfl
theorem c_szSyntax_s (x : Syntax) (left : Int) (h0 : 0 ≤ left) (h : left ≤ 2147483647) (ih : ∀ z ∈ x.items, ∀ (left : Int) (h0 : 0 ≤ left) (h : left ≤ 2147483647), P_c_szSyntax z
 left)  : P_c_szSyntax x left := by
  refine CallOK.ofRun wide (run_c_szSyntax_s x left) Tryz.call27 Tryz.func27 rfl rfl rfl ?_
  with_reducible repeat' (first | apply And.intro | exact flatI | exact flatS | exact rowLens | exact ih | (intro; skip) | apply obsN | apply obsC | apply obA | apply obM | apply obB | apply svA | apply tupA | apply lcA | apply lcS | apply svC | apply liC | apply lbC | apply lsC | apply vIc | apply vBc | apply vSc | apply vLc | apply mapC | apply c_szIntS | apply c_szSyntaxS | apply ih)
  all_goals (try simp only [std] at *)
  all_goals (try (first | with_reducible apply c_szIntS | with_reducible apply c_szSyntaxS | with_reducible apply ih | (simp only [← List.map_append]; first | with_reducible apply c_szIntS | with_reducible apply c_szSyntaxS | with_reducible apply ih)))
  all_goals (try (first | with_reducible rfl | omega | assumption | (refine (decide_eq_true ?_).symm; assumption) | (refine (decide_eq_false ?_).symm; assumption) | (refine rowGet ?_; (first | omega | (simp only [std]; omega) | grind)) | (refine getC ?_ rfl; (first | omega | (simp only [std]; omega) | grind)) | (refine fill_step ?_ ?_; (first | omega | (simp only [std]; omega) | grind); (first | rfl | exact (Row.eq _).trans rfl)) | (refine fill_init ?_; (first | rfl | exact (Row.eq _).trans rfl)) | (show (_ : St) = _; rfl) | grind [wY_eq, sz, wS, snocI, snocS, rowSnoc]))
theorem c_szSyntax (x : Syntax) : ∀ (left : Int) (h0 : 0 ≤ left) (h : left ≤ 2147483647), P_c_szSyntax x left := Syntax.ind (P := fun x => ∀ (left : Int) (h0 : 0 ≤ left) (h : left ≤ 2147483647), P_c_szSyntax x left) (fun x ih left h0 h => c_szSyntax_s x left h0 h ih) x
abbrev P_c_szBinding (x : Binding) (left : Int) : Prop := CallOK Tryz.prog 91 [] [bindingA x, li left] [] (.sv (li (sz (wB x) left)))
theorem run_c_szBinding (x : Binding) (left : Int) : aexec Tryz.prog (Option.getD (Func.body Tryz.f91) Code.skip) (entry [] [bindingA x, li left] 19) [Orc.br [Orc.fin []] [Orc.call
 [Mode.rd, Mode.rd] [] (AV.sv (li (sz (List.length (Binding.scopes x)) (left - (↑(List.length (Array.toList (ByteArray.data (Binding.text x)))) : Int))))), Orc.br [Orc.fin []]
 [Orc.fin []]]] (finK Tryz.prog [ResultVar.tmp 4] [] (AV.sv (li (sz (wB x) left)))) = (List.length (Array.toList (ByteArray.data (Binding.text x))) ≤ 9223372036854775807 → rng
 IntKind.i64 (left - (↑(List.length (Array.toList (ByteArray.data (Binding.text x)))) : Int)) ∧ (decide (left - (↑(List.length (Array.toList (ByteArray.data (Binding.text x)))) :
 Int) < 0) = true → ObsEq [] [] ∧ AV.sv (li (-1 : Int)) = AV.sv (li (sz (wB x) left))) ∧ (decide (left - (↑(List.length (Array.toList (ByteArray.data (Binding.text x)))) : Int) <
 0) = false → P_c_szIntS (Binding.scopes x) (left - (↑(List.length (Array.toList (ByteArray.data (Binding.text x)))) : Int)) ∧ (decide (sz (List.length (Binding.scopes x)) (left -
 (↑(List.length (Array.toList (ByteArray.data (Binding.text x)))) : Int)) < 0) = true → ObsEq [] [] ∧ AV.sv (li (-1 : Int)) = AV.sv (li (sz (wB x) left))) ∧ (decide (sz
 (List.length (Binding.scopes x)) (left - (↑(List.length (Array.toList (ByteArray.data (Binding.text x)))) : Int)) < 0) = false → ObsEq [] [] ∧ AV.sv (li (sz (List.length
 (Binding.scopes x)) (left - (↑(List.length (Array.toList (ByteArray.data (Binding.text x)))) : Int)))) = AV.sv (li (sz (wB x) left))))) := by kernel_rfl
theorem c_szBinding (x : Binding) (left : Int) (h0 : 0 ≤ left) (h : left ≤ 2147483647)  : P_c_szBinding x left := by
  refine CallOK.ofRun wide (run_c_szBinding x left) Tryz.call91 Tryz.func91 rfl rfl rfl ?_
  with_reducible repeat' (first | apply And.intro | exact flatI | exact flatS | exact rowLens | (intro; skip) | apply obsN | apply obsC | apply obA | apply obM | apply obB | apply svA | apply tupA | apply lcA | apply lcS | apply svC | apply liC | apply lbC | apply lsC | apply vIc | apply vBc | apply vSc | apply vLc | apply mapC | apply c_szIntS)
  all_goals (try simp only [std] at *)
  all_goals (try (first | with_reducible apply c_szIntS | (simp only [← List.map_append]; first | with_reducible apply c_szIntS)))
  all_goals (try (first | with_reducible rfl | omega | assumption | (refine (decide_eq_true ?_).symm; assumption) | (refine (decide_eq_false ?_).symm; assumption) | (refine rowGet ?_; (first | omega | (simp only [std]; omega) | grind)) | (refine getC ?_ rfl; (first | omega | (simp only [std]; omega) | grind)) | (refine fill_step ?_ ?_; (first | omega | (simp only [std]; omega) | grind); (first | rfl | exact (Row.eq _).trans rfl)) | (refine fill_init ?_; (first | rfl | exact (Row.eq _).trans rfl)) | (show (_ : St) = _; rfl) | grind [wB_eq, sz, wS, snocI, snocS, rowSnoc]))
abbrev P_c_szBindingS (L : List Binding) (left : Int) : Prop := CallOK Tryz.prog 25 [] [ll (L.map bindingC), li left] [] (.sv (li (sz (L.length + sumBy wB L) left)))
def Tc_szBindingSLa (L : List Binding) (left : Int) (x0 : SV) (x1 : SV) : St := St.mk (regsOf 27 [(0, AV.sv (ll (List.map bindingC L))), (1, AV.sv x1), (5, AV.sv x0)]) [] 0 
def Lc_szBindingSLa (L : List Binding) (left : Int) (k : Nat × Int) : St := Tc_szBindingSLa L left (li (↑(Prod.fst k) : Int)) (li (Prod.snd k)) 
def Ic_szBindingSLa (L : List Binding) (left : Int) : Nat → St → Prop := Head (Lc_szBindingSLa L left) (fun k => Prod.fst k ≤ List.length L ∧ List.length L ≤ 9223372036854775807 ∧
 0 ≤ Prod.snd k ∧ Prod.snd k ≤ left ∧ sz (sumBy wB (List.drop (Prod.fst k) L)) (Prod.snd k) = sz (List.length L + sumBy wB L) left) fun k => List.length L - Prod.fst k 
def W0c_szBindingSLa (L : List Binding) (left : Int) (x0 : SV) : St := St.mk (regsOf 27 [(1, AV.sv x0)]) [] 0 
def W1c_szBindingSLa (L : List Binding) (left : Int) (x0 : SV) : St := St.mk (regsOf 27 [(4, AV.sv x0)]) [] 0 
def Yc_szBindingSLa (L : List Binding) (left : Int) : List (Prop × AEx × St) := [(0 ≤ sz (List.length L + sumBy wB L) left, AEx.exit 0, W0c_szBindingSLa L left (li (sz (List.length
 L + sumBy wB L) left))), (sz (List.length L + sumBy wB L) left = (-1 : Int), AEx.ret, W1c_szBindingSLa L left (li (-1 : Int)))]
theorem Hc_szBindingSLa {L : List Binding} {left : Int} {k : Nat × Int} {m : Nat} (h : (fun k => Prod.fst k ≤ List.length L ∧ List.length L ≤ 9223372036854775807 ∧ 0 ≤ Prod.snd k ∧
 Prod.snd k ≤ left ∧ sz (sumBy wB (List.drop (Prod.fst k) L)) (Prod.snd k) = sz (List.length L + sumBy wB L) left) k) (hm : (fun k => List.length L - Prod.fst k) k = m) :
 Ic_szBindingSLa L left m (Lc_szBindingSLa L left k) := hm ▸ Head.mk h
theorem Ec_szBindingSLa {L : List Binding} {left : Int} {k : Nat × Int} {x0 : SV} {x1 : SV} (h0 : x0 = (li (↑(Prod.fst k) : Int))) (h1 : x1 = (li (Prod.snd k))) : Tc_szBindingSLa L
 left x0 x1 = Lc_szBindingSLa L left k := by
  rw [h0, h1]
  rfl
theorem EW0c_szBindingSLa {L : List Binding} {left : Int} {x0 y0 : SV} (h0 : x0 = y0) : W0c_szBindingSLa L left x0 = W0c_szBindingSLa L left y0 := by rw [h0]
theorem EW1c_szBindingSLa {L : List Binding} {left : Int} {x0 y0 : SV} (h0 : x0 = y0) : W1c_szBindingSLa L left x0 = W1c_szBindingSLa L left y0 := by rw [h0]
theorem run_c_szBindingSLa (L : List Binding) (left : Int) (k : Nat × Int) : aexec Tryz.prog (loopAt Tryz.f25 0) (Lc_szBindingSLa L left k) [Orc.br [Orc.cells (bindingF (List.getD
 L (Prod.fst k) default)), Orc.call [Mode.rd, Mode.rd] [] (AV.sv (li (sz (wB (List.getD L (Prod.fst k) default)) (Prod.snd k)))), Orc.br [Orc.ghost (Ghost.sel [] [4]), Orc.out 1]
 [Orc.ghost (Ghost.sel [] [0, 1, 5]), Orc.goto (List.length L - (Prod.fst k + 1)) (Lc_szBindingSLa L left (Prod.fst k + 1, sz (wB (List.getD L (Prod.fst k) default)) (Prod.snd
 k)))]] [Orc.ghost (Ghost.sel [] [1]), Orc.out 0]] (loopK (Ic_szBindingSLa L left) (Yc_szBindingSLa L left) (List.length L - Prod.fst k)) = (List.length (List.map bindingC L) ≤
 9223372036854775807 → (decide ((↑(Prod.fst k) : Int) < (↑(List.length (List.map bindingC L)) : Int)) = true → (0 ≤ (↑(Prod.fst k) : Int) ∧ (List.map bindingC L)[Int.toNat
 (↑(Prod.fst k) : Int)]? = some (bindingF (List.getD L (Prod.fst k) default))) ∧ P_c_szBinding (List.getD L (Prod.fst k) default) (Prod.snd k) ∧ (decide (sz (wB (List.getD L
 (Prod.fst k) default)) (Prod.snd k) < 0) = true → sz (List.length L + sumBy wB L) left = (-1 : Int) ∧ W1c_szBindingSLa L left (li (-1 : Int)) = W1c_szBindingSLa L left (li (-1 :
 Int))) ∧ (decide (sz (wB (List.getD L (Prod.fst k) default)) (Prod.snd k) < 0) = false → rng IntKind.i64 ((↑(Prod.fst k) : Int) + 1) ∧ List.length L - (Prod.fst k + 1) <
 List.length L - Prod.fst k ∧ Tc_szBindingSLa L left (li ((↑(Prod.fst k) : Int) + 1)) (li (sz (wB (List.getD L (Prod.fst k) default)) (Prod.snd k))) = Lc_szBindingSLa L left
 (Prod.fst k + 1, sz (wB (List.getD L (Prod.fst k) default)) (Prod.snd k)) ∧ Ic_szBindingSLa L left (List.length L - (Prod.fst k + 1)) (Lc_szBindingSLa L left (Prod.fst k + 1, sz
 (wB (List.getD L (Prod.fst k) default)) (Prod.snd k))))) ∧ (decide ((↑(Prod.fst k) : Int) < (↑(List.length (List.map bindingC L)) : Int)) = false → 0 ≤ sz (List.length L + sumBy
 wB L) left ∧ W0c_szBindingSLa L left (li (Prod.snd k)) = W0c_szBindingSLa L left (li (sz (List.length L + sumBy wB L) left)))) := by kernel_rfl
theorem Sc_szBindingSLa (L : List Binding) (left : Int) (h0 : 0 ≤ left) (h : left ≤ 2147483647)  : LoopSem Tryz.prog (loopAt Tryz.f25 0) (Ic_szBindingSLa L left) (Yc_szBindingSLa L
 left) := by
  refine LoopSem.ofHead wide fun k h => ⟨_, _, run_c_szBindingSLa L left k, ?_⟩
  obtain ⟨i, n⟩ := k
  simp only at *
  with_reducible repeat' (first | apply And.intro | exact flatI | exact flatS | exact rowLens | (intro; skip) | apply obsN | apply obsC | apply obA | apply obM | apply obB | apply svA | apply tupA | apply lcA | apply lcS | apply svC | apply liC | apply lbC | apply lsC | apply vIc | apply vBc | apply vSc | apply vLc | apply mapC | apply Hc_szBindingSLa | apply Ec_szBindingSLa | apply EW0c_szBindingSLa | apply EW1c_szBindingSLa | apply c_szBinding)
  all_goals (try simp only [std] at *)
  all_goals (try (first | with_reducible apply c_szBinding | (simp only [← List.map_append]; first | with_reducible apply c_szBinding)))
  all_goals (try (first | with_reducible rfl | omega | assumption | (refine (decide_eq_true ?_).symm; assumption) | (refine (decide_eq_false ?_).symm; assumption) | (refine rowGet ?_; (first | omega | (simp only [std]; omega) | grind)) | (refine getC ?_ rfl; (first | omega | (simp only [std]; omega) | grind)) | (refine fill_step ?_ ?_; (first | omega | (simp only [std]; omega) | grind); (first | rfl | exact (Row.eq _).trans rfl)) | (refine fill_init ?_; (first | rfl | exact (Row.eq _).trans rfl)) | (show (_ : St) = _; rfl) | grind [drop_get, sumBy, sz, getD_mem', snocI, snocS, rowSnoc]))
theorem run_c_szBindingS (L : List Binding) (left : Int) : aexec Tryz.prog (Option.getD (Func.body Tryz.f25) Code.skip) (entry [] [ll (List.map bindingC L), li left] 27) [Orc.br
 [Orc.fin []] [Orc.ghost (Ghost.sel [] [0, 1, 5]), Orc.loop (List.length L - 0) (Lc_szBindingSLa L left (0, left - (↑(List.length L) : Int))) (Ic_szBindingSLa L left) [(0 ≤ sz
 (List.length L + sumBy wB L) left, AEx.exit 0, W0c_szBindingSLa L left (li (sz (List.length L + sumBy wB L) left)), [Orc.fin []]), (sz (List.length L + sumBy wB L) left = (-1 :
 Int), AEx.ret, W1c_szBindingSLa L left (li (-1 : Int)), [Orc.fin []])]]] (finK Tryz.prog [ResultVar.tmp 4] [] (AV.sv (li (sz (List.length L + sumBy wB L) left)))) = (List.length
 (List.map bindingC L) ≤ 9223372036854775807 → rng IntKind.i64 (left - (↑(List.length (List.map bindingC L)) : Int)) ∧ (decide (left - (↑(List.length (List.map bindingC L)) : Int)
 < 0) = true → ObsEq [] [] ∧ AV.sv (li (-1 : Int)) = AV.sv (li (sz (List.length L + sumBy wB L) left))) ∧ (decide (left - (↑(List.length (List.map bindingC L)) : Int) < 0) = false
 → Tc_szBindingSLa L left (li 0) (li (left - (↑(List.length (List.map bindingC L)) : Int))) = Lc_szBindingSLa L left (0, left - (↑(List.length L) : Int)) ∧ Ic_szBindingSLa L left
 (List.length L - 0) (Lc_szBindingSLa L left (0, left - (↑(List.length L) : Int))) ∧ LoopSem Tryz.prog (loopAt Tryz.f25 0) (Ic_szBindingSLa L left) (Yc_szBindingSLa L left) ∧
 (Int.NonNeg (sz (List.length L + sumBy wB L) left - 0) → ObsEq [] [] ∧ AV.sv (li (sz (List.length L + sumBy wB L) left)) = AV.sv (li (sz (List.length L + sumBy wB L) left))) ∧ (sz
 (List.length L + sumBy wB L) left = (-1 : Int) → ObsEq [] [] ∧ AV.sv (li (-1 : Int)) = AV.sv (li (sz (List.length L + sumBy wB L) left))) ∧ True)) := by kernel_rfl
theorem c_szBindingS (L : List Binding) (left : Int) (h0 : 0 ≤ left) (h : left ≤ 2147483647)  : P_c_szBindingS L left := by
  refine CallOK.ofRun wide (run_c_szBindingS L left) Tryz.call25 Tryz.func25 rfl rfl rfl ?_
  with_reducible repeat' (first | apply And.intro | exact flatI | exact flatS | exact rowLens | (intro; skip) | apply obsN | apply obsC | apply obA | apply obM | apply obB | apply svA | apply tupA | apply lcA | apply lcS | apply svC | apply liC | apply lbC | apply lsC | apply vIc | apply vBc | apply vSc | apply vLc | apply mapC | apply Hc_szBindingSLa | apply Ec_szBindingSLa | apply Sc_szBindingSLa | apply EW0c_szBindingSLa | apply EW1c_szBindingSLa | apply c_szBinding)
  all_goals (try simp only [std] at *)
  all_goals (try (first | with_reducible apply c_szBinding | (simp only [← List.map_append]; first | with_reducible apply c_szBinding)))
  all_goals (try (first | with_reducible rfl | omega | assumption | (refine (decide_eq_true ?_).symm; assumption) | (refine (decide_eq_false ?_).symm; assumption) | (refine rowGet ?_; (first | omega | (simp only [std]; omega) | grind)) | (refine getC ?_ rfl; (first | omega | (simp only [std]; omega) | grind)) | (refine fill_step ?_ ?_; (first | omega | (simp only [std]; omega) | grind); (first | rfl | exact (Row.eq _).trans rfl)) | (refine fill_init ?_; (first | rfl | exact (Row.eq _).trans rfl)) | (show (_ : St) = _; rfl) | grind [sz, snocI, snocS, rowSnoc]))
abbrev P_c_szRules (x : Rules) (left : Int) : Prop := CallOK Tryz.prog 53 [] [rulesA x, li left] [] (.sv (li (sz (wR x) left)))
theorem run_c_szRules (x : Rules) (left : Int) : aexec Tryz.prog (Option.getD (Func.body Tryz.f53) Code.skip) (entry [] [rulesA x, li left] 24) [Orc.call [Mode.rd, Mode.rd] []
 (AV.sv (li (sz (List.length (Rules.literals x) + sumBy wY (Rules.literals x)) left))), Orc.br [Orc.fin []] [Orc.call [Mode.rd, Mode.rd] [] (AV.sv (li (sz (List.length
 (Rules.patterns x) + sumBy wY (Rules.patterns x)) (sz (List.length (Rules.literals x) + sumBy wY (Rules.literals x)) left)))), Orc.br [Orc.fin []] [Orc.call [Mode.rd, Mode.rd] []
 (AV.sv (li (sz (List.length (Rules.templates x) + sumBy wY (Rules.templates x)) (sz (List.length (Rules.patterns x) + sumBy wY (Rules.patterns x)) (sz (List.length (Rules.literals
 x) + sumBy wY (Rules.literals x)) left))))), Orc.br [Orc.fin []] [Orc.fin []]]]] (finK Tryz.prog [ResultVar.tmp 4] [] (AV.sv (li (sz (wR x) left)))) = (P_c_szSyntaxS
 (Rules.literals x) left ∧ (decide (sz (List.length (Rules.literals x) + sumBy wY (Rules.literals x)) left < 0) = true → ObsEq [] [] ∧ AV.sv (li (-1 : Int)) = AV.sv (li (sz (wR x)
 left))) ∧ (decide (sz (List.length (Rules.literals x) + sumBy wY (Rules.literals x)) left < 0) = false → P_c_szSyntaxS (Rules.patterns x) (sz (List.length (Rules.literals x) +
 sumBy wY (Rules.literals x)) left) ∧ (decide (sz (List.length (Rules.patterns x) + sumBy wY (Rules.patterns x)) (sz (List.length (Rules.literals x) + sumBy wY (Rules.literals x))
 left) < 0) = true → ObsEq [] [] ∧ AV.sv (li (-1 : Int)) = AV.sv (li (sz (wR x) left))) ∧ (decide (sz (List.length (Rules.patterns x) + sumBy wY (Rules.patterns x)) (sz
 (List.length (Rules.literals x) + sumBy wY (Rules.literals x)) left) < 0) = false → P_c_szSyntaxS (Rules.templates x) (sz (List.length (Rules.patterns x) + sumBy wY
 (Rules.patterns x)) (sz (List.length (Rules.literals x) + sumBy wY (Rules.literals x)) left)) ∧ (decide (sz (List.length (Rules.templates x) + sumBy wY (Rules.templates x)) (sz
 (List.length (Rules.patterns x) + sumBy wY (Rules.patterns x)) (sz (List.length (Rules.literals x) + sumBy wY (Rules.literals x)) left)) < 0) = true → ObsEq [] [] ∧ AV.sv (li (-1
 : Int)) = AV.sv (li (sz (wR x) left))) ∧ (decide (sz (List.length (Rules.templates x) + sumBy wY (Rules.templates x)) (sz (List.length (Rules.patterns x) + sumBy wY
 (Rules.patterns x)) (sz (List.length (Rules.literals x) + sumBy wY (Rules.literals x)) left)) < 0) = false → ObsEq [] [] ∧ AV.sv (li (sz (List.length (Rules.templates x) + sumBy
 wY (Rules.templates x)) (sz (List.length (Rules.patterns x) + sumBy wY (Rules.patterns x)) (sz (List.length (Rules.literals x) + sumBy wY (Rules.literals x)) left)))) = AV.sv (li
 (sz (wR x) left)))))) := by kernel_rfl
theorem c_szRules (x : Rules) (left : Int) (h0 : 0 ≤ left) (h : left ≤ 2147483647)  : P_c_szRules x left := by
  refine CallOK.ofRun wide (run_c_szRules x left) Tryz.call53 Tryz.func53 rfl rfl rfl ?_
  with_reducible repeat' (first | apply And.intro | exact flatI | exact flatS | exact rowLens | (intro; skip) | apply obsN | apply obsC | apply obA | apply obM | apply obB | apply svA | apply tupA | apply lcA | apply lcS | apply svC | apply liC | apply lbC | apply lsC | apply vIc | apply vBc | apply vSc | apply vLc | apply mapC | apply c_szSyntaxS | apply c_szSyntax)
  all_goals (try simp only [std] at *)
  all_goals (try (first | with_reducible apply c_szSyntaxS | with_reducible apply c_szSyntax | (simp only [← List.map_append]; first | with_reducible apply c_szSyntaxS | with_reducible apply c_szSyntax)))
  all_goals (try (first | with_reducible rfl | omega | assumption | (refine (decide_eq_true ?_).symm; assumption) | (refine (decide_eq_false ?_).symm; assumption) | (refine rowGet ?_; (first | omega | (simp only [std]; omega) | grind)) | (refine getC ?_ rfl; (first | omega | (simp only [std]; omega) | grind)) | (refine fill_step ?_ ?_; (first | omega | (simp only [std]; omega) | grind); (first | rfl | exact (Row.eq _).trans rfl)) | (refine fill_init ?_; (first | rfl | exact (Row.eq _).trans rfl)) | (show (_ : St) = _; rfl) | grind [wR_eq, sz, wS, snocI, snocS, rowSnoc]))
abbrev P_c_szRulesS (L : List Rules) (left : Int) : Prop := CallOK Tryz.prog 81 [] [ll (L.map rulesC), li left] [] (.sv (li (sz (L.length + sumBy wR L) left)))
def Tc_szRulesSLa (L : List Rules) (left : Int) (x0 : SV) (x1 : SV) : St := St.mk (regsOf 27 [(0, AV.sv (ll (List.map rulesC L))), (1, AV.sv x1), (5, AV.sv x0)]) [] 0 
def Lc_szRulesSLa (L : List Rules) (left : Int) (k : Nat × Int) : St := Tc_szRulesSLa L left (li (↑(Prod.fst k) : Int)) (li (Prod.snd k)) 
def Ic_szRulesSLa (L : List Rules) (left : Int) : Nat → St → Prop := Head (Lc_szRulesSLa L left) (fun k => Prod.fst k ≤ List.length L ∧ List.length L ≤ 9223372036854775807 ∧ 0 ≤
 Prod.snd k ∧ Prod.snd k ≤ left ∧ sz (sumBy wR (List.drop (Prod.fst k) L)) (Prod.snd k) = sz (List.length L + sumBy wR L) left) fun k => List.length L - Prod.fst k 
def W0c_szRulesSLa (L : List Rules) (left : Int) (x0 : SV) : St := St.mk (regsOf 27 [(1, AV.sv x0)]) [] 0 
def W1c_szRulesSLa (L : List Rules) (left : Int) (x0 : SV) : St := St.mk (regsOf 27 [(4, AV.sv x0)]) [] 0 
def Yc_szRulesSLa (L : List Rules) (left : Int) : List (Prop × AEx × St) := [(0 ≤ sz (List.length L + sumBy wR L) left, AEx.exit 0, W0c_szRulesSLa L left (li (sz (List.length L +
 sumBy wR L) left))), (sz (List.length L + sumBy wR L) left = (-1 : Int), AEx.ret, W1c_szRulesSLa L left (li (-1 : Int)))]
theorem Hc_szRulesSLa {L : List Rules} {left : Int} {k : Nat × Int} {m : Nat} (h : (fun k => Prod.fst k ≤ List.length L ∧ List.length L ≤ 9223372036854775807 ∧ 0 ≤ Prod.snd k ∧
 Prod.snd k ≤ left ∧ sz (sumBy wR (List.drop (Prod.fst k) L)) (Prod.snd k) = sz (List.length L + sumBy wR L) left) k) (hm : (fun k => List.length L - Prod.fst k) k = m) :
 Ic_szRulesSLa L left m (Lc_szRulesSLa L left k) := hm ▸ Head.mk h
theorem Ec_szRulesSLa {L : List Rules} {left : Int} {k : Nat × Int} {x0 : SV} {x1 : SV} (h0 : x0 = (li (↑(Prod.fst k) : Int))) (h1 : x1 = (li (Prod.snd k))) : Tc_szRulesSLa L left
 x0 x1 = Lc_szRulesSLa L left k := by
  rw [h0, h1]
  rfl
theorem EW0c_szRulesSLa {L : List Rules} {left : Int} {x0 y0 : SV} (h0 : x0 = y0) : W0c_szRulesSLa L left x0 = W0c_szRulesSLa L left y0 := by rw [h0]
theorem EW1c_szRulesSLa {L : List Rules} {left : Int} {x0 y0 : SV} (h0 : x0 = y0) : W1c_szRulesSLa L left x0 = W1c_szRulesSLa L left y0 := by rw [h0]
theorem run_c_szRulesSLa (L : List Rules) (left : Int) (k : Nat × Int) : aexec Tryz.prog (loopAt Tryz.f81 0) (Lc_szRulesSLa L left k) [Orc.br [Orc.cells (rulesF (List.getD L
 (Prod.fst k) default)), Orc.call [Mode.rd, Mode.rd] [] (AV.sv (li (sz (wR (List.getD L (Prod.fst k) default)) (Prod.snd k)))), Orc.br [Orc.ghost (Ghost.sel [] [4]), Orc.out 1]
 [Orc.ghost (Ghost.sel [] [0, 1, 5]), Orc.goto (List.length L - (Prod.fst k + 1)) (Lc_szRulesSLa L left (Prod.fst k + 1, sz (wR (List.getD L (Prod.fst k) default)) (Prod.snd k)))]]
 [Orc.ghost (Ghost.sel [] [1]), Orc.out 0]] (loopK (Ic_szRulesSLa L left) (Yc_szRulesSLa L left) (List.length L - Prod.fst k)) = (List.length (List.map rulesC L) ≤
 9223372036854775807 → (decide ((↑(Prod.fst k) : Int) < (↑(List.length (List.map rulesC L)) : Int)) = true → (0 ≤ (↑(Prod.fst k) : Int) ∧ (List.map rulesC L)[Int.toNat (↑(Prod.fst
 k) : Int)]? = some (rulesF (List.getD L (Prod.fst k) default))) ∧ P_c_szRules (List.getD L (Prod.fst k) default) (Prod.snd k) ∧ (decide (sz (wR (List.getD L (Prod.fst k) default))
 (Prod.snd k) < 0) = true → sz (List.length L + sumBy wR L) left = (-1 : Int) ∧ W1c_szRulesSLa L left (li (-1 : Int)) = W1c_szRulesSLa L left (li (-1 : Int))) ∧ (decide (sz (wR
 (List.getD L (Prod.fst k) default)) (Prod.snd k) < 0) = false → rng IntKind.i64 ((↑(Prod.fst k) : Int) + 1) ∧ List.length L - (Prod.fst k + 1) < List.length L - Prod.fst k ∧
 Tc_szRulesSLa L left (li ((↑(Prod.fst k) : Int) + 1)) (li (sz (wR (List.getD L (Prod.fst k) default)) (Prod.snd k))) = Lc_szRulesSLa L left (Prod.fst k + 1, sz (wR (List.getD L
 (Prod.fst k) default)) (Prod.snd k)) ∧ Ic_szRulesSLa L left (List.length L - (Prod.fst k + 1)) (Lc_szRulesSLa L left (Prod.fst k + 1, sz (wR (List.getD L (Prod.fst k) default))
 (Prod.snd k))))) ∧ (decide ((↑(Prod.fst k) : Int) < (↑(List.length (List.map rulesC L)) : Int)) = false → 0 ≤ sz (List.length L + sumBy wR L) left ∧ W0c_szRulesSLa L left (li
 (Prod.snd k)) = W0c_szRulesSLa L left (li (sz (List.length L + sumBy wR L) left)))) := by kernel_rfl
theorem Sc_szRulesSLa (L : List Rules) (left : Int) (h0 : 0 ≤ left) (h : left ≤ 2147483647)  : LoopSem Tryz.prog (loopAt Tryz.f81 0) (Ic_szRulesSLa L left) (Yc_szRulesSLa L left)
 := by
  refine LoopSem.ofHead wide fun k h => ⟨_, _, run_c_szRulesSLa L left k, ?_⟩
  obtain ⟨i, n⟩ := k
  simp only at *
  with_reducible repeat' (first | apply And.intro | exact flatI | exact flatS | exact rowLens | (intro; skip) | apply obsN | apply obsC | apply obA | apply obM | apply obB | apply svA | apply tupA | apply lcA | apply lcS | apply svC | apply liC | apply lbC | apply lsC | apply vIc | apply vBc | apply vSc | apply vLc | apply mapC | apply Hc_szRulesSLa | apply Ec_szRulesSLa | apply EW0c_szRulesSLa | apply EW1c_szRulesSLa | apply c_szRules)
  all_goals (try simp only [std] at *)
  all_goals (try (first | with_reducible apply c_szRules | (simp only [← List.map_append]; first | with_reducible apply c_szRules)))
  all_goals (try (first | with_reducible rfl | omega | assumption | (refine (decide_eq_true ?_).symm; assumption) | (refine (decide_eq_false ?_).symm; assumption) | (refine rowGet ?_; (first | omega | (simp only [std]; omega) | grind)) | (refine getC ?_ rfl; (first | omega | (simp only [std]; omega) | grind)) | (refine fill_step ?_ ?_; (first | omega | (simp only [std]; omega) | grind); (first | rfl | exact (Row.eq _).trans rfl)) | (refine fill_init ?_; (first | rfl | exact (Row.eq _).trans rfl)) | (show (_ : St) = _; rfl) | grind [drop_get, sumBy, sz, getD_mem', snocI, snocS, rowSnoc]))
theorem run_c_szRulesS (L : List Rules) (left : Int) : aexec Tryz.prog (Option.getD (Func.body Tryz.f81) Code.skip) (entry [] [ll (List.map rulesC L), li left] 27) [Orc.br [Orc.fin
 []] [Orc.ghost (Ghost.sel [] [0, 1, 5]), Orc.loop (List.length L - 0) (Lc_szRulesSLa L left (0, left - (↑(List.length L) : Int))) (Ic_szRulesSLa L left) [(0 ≤ sz (List.length L +
 sumBy wR L) left, AEx.exit 0, W0c_szRulesSLa L left (li (sz (List.length L + sumBy wR L) left)), [Orc.fin []]), (sz (List.length L + sumBy wR L) left = (-1 : Int), AEx.ret,
 W1c_szRulesSLa L left (li (-1 : Int)), [Orc.fin []])]]] (finK Tryz.prog [ResultVar.tmp 4] [] (AV.sv (li (sz (List.length L + sumBy wR L) left)))) = (List.length (List.map rulesC
 L) ≤ 9223372036854775807 → rng IntKind.i64 (left - (↑(List.length (List.map rulesC L)) : Int)) ∧ (decide (left - (↑(List.length (List.map rulesC L)) : Int) < 0) = true → ObsEq []
 [] ∧ AV.sv (li (-1 : Int)) = AV.sv (li (sz (List.length L + sumBy wR L) left))) ∧ (decide (left - (↑(List.length (List.map rulesC L)) : Int) < 0) = false → Tc_szRulesSLa L left
 (li 0) (li (left - (↑(List.length (List.map rulesC L)) : Int))) = Lc_szRulesSLa L left (0, left - (↑(List.length L) : Int)) ∧ Ic_szRulesSLa L left (List.length L - 0)
 (Lc_szRulesSLa L left (0, left - (↑(List.length L) : Int))) ∧ LoopSem Tryz.prog (loopAt Tryz.f81 0) (Ic_szRulesSLa L left) (Yc_szRulesSLa L left) ∧ (Int.NonNeg (sz (List.length L
 + sumBy wR L) left - 0) → ObsEq [] [] ∧ AV.sv (li (sz (List.length L + sumBy wR L) left)) = AV.sv (li (sz (List.length L + sumBy wR L) left))) ∧ (sz (List.length L + sumBy wR L)
 left = (-1 : Int) → ObsEq [] [] ∧ AV.sv (li (-1 : Int)) = AV.sv (li (sz (List.length L + sumBy wR L) left))) ∧ True)) := by kernel_rfl
theorem c_szRulesS (L : List Rules) (left : Int) (h0 : 0 ≤ left) (h : left ≤ 2147483647)  : P_c_szRulesS L left := by
  refine CallOK.ofRun wide (run_c_szRulesS L left) Tryz.call81 Tryz.func81 rfl rfl rfl ?_
  with_reducible repeat' (first | apply And.intro | exact flatI | exact flatS | exact rowLens | (intro; skip) | apply obsN | apply obsC | apply obA | apply obM | apply obB | apply svA | apply tupA | apply lcA | apply lcS | apply svC | apply liC | apply lbC | apply lsC | apply vIc | apply vBc | apply vSc | apply vLc | apply mapC | apply Hc_szRulesSLa | apply Ec_szRulesSLa | apply Sc_szRulesSLa | apply EW0c_szRulesSLa | apply EW1c_szRulesSLa | apply c_szRules)
  all_goals (try simp only [std] at *)
  all_goals (try (first | with_reducible apply c_szRules | (simp only [← List.map_append]; first | with_reducible apply c_szRules)))
  all_goals (try (first | with_reducible rfl | omega | assumption | (refine (decide_eq_true ?_).symm; assumption) | (refine (decide_eq_false ?_).symm; assumption) | (refine rowGet ?_; (first | omega | (simp only [std]; omega) | grind)) | (refine getC ?_ rfl; (first | omega | (simp only [std]; omega) | grind)) | (refine fill_step ?_ ?_; (first | omega | (simp only [std]; omega) | grind); (first | rfl | exact (Row.eq _).trans rfl)) | (refine fill_init ?_; (first | rfl | exact (Row.eq _).trans rfl)) | (show (_ : St) = _; rfl) | grind [sz, snocI, snocS, rowSnoc]))
abbrev P_c_szExpander (x : Expander) (left : Int) : Prop := CallOK Tryz.prog 20 [] [expanderA x, li left] [] (.sv (li (sz (wX x) left)))
theorem run_c_szExpander (x : Expander) (left : Int) : aexec Tryz.prog (Option.getD (Func.body Tryz.f20) Code.skip) (entry [] [expanderA x, li left] 18) [Orc.call [Mode.rd,
 Mode.rd] [] (AV.sv (li (sz (List.length (Expander.bindings x) + sumBy wB (Expander.bindings x)) left))), Orc.br [Orc.fin []] [Orc.call [Mode.rd, Mode.rd] [] (AV.sv (li (sz
 (List.length (Expander.macros x) + sumBy wR (Expander.macros x)) (sz (List.length (Expander.bindings x) + sumBy wB (Expander.bindings x)) left)))), Orc.br [Orc.fin []] [Orc.fin
 []]]] (finK Tryz.prog [ResultVar.tmp 4] [] (AV.sv (li (sz (wX x) left)))) = (P_c_szBindingS (Expander.bindings x) left ∧ (decide (sz (List.length (Expander.bindings x) + sumBy wB
 (Expander.bindings x)) left < 0) = true → ObsEq [] [] ∧ AV.sv (li (-1 : Int)) = AV.sv (li (sz (wX x) left))) ∧ (decide (sz (List.length (Expander.bindings x) + sumBy wB
 (Expander.bindings x)) left < 0) = false → P_c_szRulesS (Expander.macros x) (sz (List.length (Expander.bindings x) + sumBy wB (Expander.bindings x)) left) ∧ (decide (sz
 (List.length (Expander.macros x) + sumBy wR (Expander.macros x)) (sz (List.length (Expander.bindings x) + sumBy wB (Expander.bindings x)) left) < 0) = true → ObsEq [] [] ∧ AV.sv
 (li (-1 : Int)) = AV.sv (li (sz (wX x) left))) ∧ (decide (sz (List.length (Expander.macros x) + sumBy wR (Expander.macros x)) (sz (List.length (Expander.bindings x) + sumBy wB
 (Expander.bindings x)) left) < 0) = false → ObsEq [] [] ∧ AV.sv (li (sz (List.length (Expander.macros x) + sumBy wR (Expander.macros x)) (sz (List.length (Expander.bindings x) +
 sumBy wB (Expander.bindings x)) left))) = AV.sv (li (sz (wX x) left))))) := by kernel_rfl
theorem c_szExpander (x : Expander) (left : Int) (h0 : 0 ≤ left) (h : left ≤ 2147483647)  : P_c_szExpander x left := by
  refine CallOK.ofRun wide (run_c_szExpander x left) Tryz.call20 Tryz.func20 rfl rfl rfl ?_
  with_reducible repeat' (first | apply And.intro | exact flatI | exact flatS | exact rowLens | (intro; skip) | apply obsN | apply obsC | apply obA | apply obM | apply obB | apply svA | apply tupA | apply lcA | apply lcS | apply svC | apply liC | apply lbC | apply lsC | apply vIc | apply vBc | apply vSc | apply vLc | apply mapC | apply c_szBindingS | apply c_szRulesS)
  all_goals (try simp only [std] at *)
  all_goals (try (first | with_reducible apply c_szBindingS | with_reducible apply c_szRulesS | (simp only [← List.map_append]; first | with_reducible apply c_szBindingS | with_reducible apply c_szRulesS)))
  all_goals (try (first | with_reducible rfl | omega | assumption | (refine (decide_eq_true ?_).symm; assumption) | (refine (decide_eq_false ?_).symm; assumption) | (refine rowGet ?_; (first | omega | (simp only [std]; omega) | grind)) | (refine getC ?_ rfl; (first | omega | (simp only [std]; omega) | grind)) | (refine fill_step ?_ ?_; (first | omega | (simp only [std]; omega) | grind); (first | rfl | exact (Row.eq _).trans rfl)) | (refine fill_init ?_; (first | rfl | exact (Row.eq _).trans rfl)) | (show (_ : St) = _; rfl) | grind [wX_eq, sz, wS, snocI, snocS, rowSnoc]))
end Go.Proofs.YtegbadciefljcaaGreat
end
