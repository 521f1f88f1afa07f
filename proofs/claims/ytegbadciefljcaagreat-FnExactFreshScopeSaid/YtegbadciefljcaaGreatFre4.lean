/- Part 4 of the proof: The program's FreshScope returns what the reference's returns, for all arguments. No condition. -/
import Derived.Test.YtegbadciefljcaaGreatFre3
section
namespace Go.Proofs.YtegbadciefljcaaGreat
open Go Go.Proofs.YtegbadciefljcaaGreat.Ab
set_option linter.unusedVariables false
set_option linter.unusedSimpArgs false
set_option maxHeartbeats 4000000
def bndM (k : Int) : Int := if k = 1 then 11 else if k = 2 then 13 else if k = 3 then 99999 else if k = 4 then 99999 else -1
def isBnd (b : Binding) : Bool := isSym b.text && okSc b.scopes && decide (0 <= b.number /\ b.number <= bndM b.kind)
abbrev P_c_sIsBnd (b : Binding) : Prop := CallOK Tryz.prog 150 [] [bindingA b] [] (.sv (lb (isBnd b)))
abbrev a1_c_sIsBnd (b : Binding) := (isSym (Binding.text b) = false -> false = false /\ ObsEq [] [] /\ AV.sv (lb false) = AV.sv (lb (isBnd b)))
abbrev a3_c_sIsBnd (b : Binding) := (okSc (Binding.scopes b) = false -> ObsEq [] [] /\ AV.sv (lb false) = AV.sv (lb (isBnd b)))
abbrev a2_c_sIsBnd (b : Binding) := (isSym (Binding.text b) = true -> P_c_sScopes (Binding.scopes b) /\ (okSc (Binding.scopes b) = true -> P_c_l1In (Binding.number b) 0 99999 /\ ObsEq
 [] [] /\ AV.sv (lb (decide (0 <= Binding.number b /\ Binding.number b <= 99999))) = AV.sv (lb (isBnd b))) /\ (a3_c_sIsBnd b))
theorem run_c_sIsBnd (b : Binding) : aexec Tryz.prog (Tryz.f150.body.getD .skip) (entry [] [bindingA b] 33) [.br [.call [] [Ob.arr true 1 (List.map strC
 formNames)] (AV.sv (SV.one (AC.ref 0))), .call [Mode.rd] [] (AV.sv (lb (isSym (Binding.text b)))), .br [.call [Mode.rd] [] (AV.sv (lb (okSc (Binding.scopes b)))), .br
 [.call [Mode.rd, Mode.rd, Mode.rd] [] (AV.sv (lb (decide (0 <= Binding.number b /\ Binding.number b <= 11)))), .fin []] [.fin []]] [.bool false, .fin []]] [.br
 [.call [] [Ob.arr true 1 (List.map strC primNames)] (AV.sv (SV.one (AC.ref 0))), .call [Mode.rd] [] (AV.sv (lb (isSym (Binding.text b)))), .br [.call [Mode.rd] []
 (AV.sv (lb (okSc (Binding.scopes b)))), .br [.call [Mode.rd, Mode.rd, Mode.rd] [] (AV.sv (lb (decide (0 <= Binding.number b /\ Binding.number b <= 13)))), .fin []] [.fin
 []]] [.bool false, .fin []]] [.br [.bool true, .call [Mode.rd] [] (AV.sv (lb (isSym (Binding.text b)))), .br [.call [Mode.rd] [] (AV.sv (lb (okSc
 (Binding.scopes b)))), .br [.call [Mode.rd, Mode.rd, Mode.rd] [] (AV.sv (lb (decide (0 <= Binding.number b /\ Binding.number b <= 99999)))), .fin []] [.fin []]] [.bool
 false, .fin []]] [.br [.call [Mode.rd] [] (AV.sv (lb (isSym (Binding.text b)))), .br [.call [Mode.rd] [] (AV.sv (lb (okSc (Binding.scopes b)))), .br [.call
 [Mode.rd, Mode.rd, Mode.rd] [] (AV.sv (lb (decide (0 <= Binding.number b /\ Binding.number b <= 99999)))), .fin []] [.fin []]] [.bool false, .fin []]] [.call [Mode.rd]
 [] (AV.sv (lb (isSym (Binding.text b)))), .br [.call [Mode.rd] [] (AV.sv (lb (okSc (Binding.scopes b)))), .br [.call [Mode.rd, Mode.rd, Mode.rd] [] (AV.sv (lb (decide
 (0 <= Binding.number b /\ Binding.number b <= (-1 : Int))))), .fin []] [.fin []]] [.bool false, .fin []]]]]]] (finK Tryz.prog [ResultVar.tmp 2] [] (AV.sv (lb (isBnd b))))
 = ((decide (Binding.kind b = 1) = true -> P_c_sFormNames /\ (12 <= 9223372036854775807 -> rng .i64 11 /\ P_c_sIsSymbol (Binding.text b) /\ (isSym (Binding.text b) = true ->
 P_c_sScopes (Binding.scopes b) /\ (okSc (Binding.scopes b) = true -> P_c_l1In (Binding.number b) 0 11 /\ ObsEq [] [] /\ AV.sv (lb (decide (0 <= Binding.number b /\ Binding.number b <=
 11))) = AV.sv (lb (isBnd b))) /\ (a3_c_sIsBnd b)) /\ (a1_c_sIsBnd b))) /\ (decide (Binding.kind b = 1) = false -> (decide (Binding.kind b = 2) = true -> P_c_sPrimitiveNames /\ (14 <=
 9223372036854775807 -> rng .i64 13 /\ P_c_sIsSymbol (Binding.text b) /\ (isSym (Binding.text b) = true -> P_c_sScopes (Binding.scopes b) /\ (okSc (Binding.scopes b) = true ->
 P_c_l1In (Binding.number b) 0 13 /\ ObsEq [] [] /\ AV.sv (lb (decide (0 <= Binding.number b /\ Binding.number b <= 13))) = AV.sv (lb (isBnd b))) /\ (a3_c_sIsBnd b)) /\ (a1_c_sIsBnd b)))
 /\ (decide (Binding.kind b = 2) = false -> (decide (Binding.kind b = 3) = true -> true = true /\ P_c_sIsSymbol (Binding.text b) /\ (a2_c_sIsBnd b) /\ (a1_c_sIsBnd b)) /\ (decide
 (Binding.kind b = 3) = false -> (decide (Binding.kind b = 4) = true -> P_c_sIsSymbol (Binding.text b) /\ (a2_c_sIsBnd b) /\ (a1_c_sIsBnd b)) /\ (decide (Binding.kind b = 4) = false ->
 P_c_sIsSymbol (Binding.text b) /\ (isSym (Binding.text b) = true -> P_c_sScopes (Binding.scopes b) /\ (okSc (Binding.scopes b) = true -> P_c_l1In (Binding.number b) 0 (-1 : Int) /\
 ObsEq [] [] /\ AV.sv (lb (decide (0 <= Binding.number b /\ Binding.number b <= (-1 : Int)))) = AV.sv (lb (isBnd b))) /\ (a3_c_sIsBnd b)) /\ (a1_c_sIsBnd b)))))) := by kernel_rfl
theorem c_sIsBnd (b : Binding)  : P_c_sIsBnd b := by
  refine CallOK.ofRun wide (run_c_sIsBnd b) Tryz.call150 Tryz.func150 rfl rfl rfl ?_
  try delta a1_c_sIsBnd a3_c_sIsBnd a2_c_sIsBnd
  have e1 : formNames.length = 12 := rfl
  have e2 : primNames.length = 14 := rfl
  with_reducible repeat' (first | apply And.intro | exact flatI | exact flatS | exact rowLens | (intro; skip) | apply obsN | apply obsC | apply obA | apply obM | apply obB | apply svA | apply tupA | apply lcA | apply lcS | apply svC | apply liC | apply lbC | apply lsC | apply vIc | apply vBc | apply vSc | apply vLc | apply mapC | apply mIc | apply mOc | apply mSc | apply mLc | apply c_sIsSymbol | apply c_sScopes | apply c_l1In | apply c_sFormNames | apply c_sPrimitiveNames)
  all_goals (try simp only [std] at *)
  all_goals (try (first | with_reducible apply c_sIsSymbol | with_reducible apply c_sScopes | with_reducible apply c_l1In | with_reducible apply c_sFormNames | with_reducible apply c_sPrimitiveNames | (simp only [<- List.map_append]; first | with_reducible apply c_sIsSymbol | with_reducible apply c_sScopes | with_reducible apply c_l1In | with_reducible apply c_sFormNames | with_reducible apply c_sPrimitiveNames)))
  all_goals (try (first | with_reducible rfl | omega | assumption | exact dT ‹_› | exact dF ‹_› | ((first | refine rowGet ?_ | refine getC ?_ rfl); (first | omega | (simp only [std]; omega) | grind)) | exact look_mI | exact look_mO | exact look_mO1 | exact look_mS | exact look_mL | exact upd_mI | exact upd_mO | exact del_mO | exact upd_mS | exact take_mL | (refine upd_mL ?_; grind) | (show (_ : St) = _; rfl) | grind [isBnd, bndM, snocI, snocS, rowSnoc]))
abbrev P_c_iIsBnd (b : Binding) : Prop := CallOK Tryz.prog 159 [] [bindingA b] [] (.sv (lb (isBnd b)))
theorem run_c_iIsBnd (b : Binding) : aexec Tryz.prog (Tryz.f159.body.getD .skip) (entry [] [bindingA b] 40) [.call [Mode.rd] [] (AV.sv (lb (isSym (Binding.text
 b)))), .br [.bool true, .bool true, .fin []] [.call [Mode.rd] [] (AV.sv (lb (okSc (Binding.scopes b)))), .br [.bool true, .fin []] [.br [.fin []]
 [.br [.draw [], .call [] [Ob.arr true 1 (List.map strC formNames)] (AV.sv (SV.one (AC.ref 0))), .fin []] [.br [.draw [], .call [] [Ob.arr true 1 (List.map
 strC primNames)] (AV.sv (SV.one (AC.ref 0))), .fin []] [.br [.bool true, .fin []] [.br [.fin []] [.fin []]]]]]]]] (finK Tryz.prog [ResultVar.tmp 2] [] (AV.sv
 (lb (isBnd b)))) = (P_c_iIsSymbol (Binding.text b) /\ ((!isSym (Binding.text b)) = true -> true = true /\ true = true /\ ObsEq [] [] /\ AV.sv (lb false) = AV.sv (lb (isBnd b))) /\
 ((!isSym (Binding.text b)) = false -> P_c_iScopes (Binding.scopes b) /\ ((!okSc (Binding.scopes b)) = true -> true = true /\ ObsEq [] [] /\ AV.sv (lb false) = AV.sv (lb (isBnd b))) /\
 ((!okSc (Binding.scopes b)) = false -> (decide (Binding.number b < 0) = true -> ObsEq [] [] /\ AV.sv (lb false) = AV.sv (lb (isBnd b))) /\ (decide (Binding.number b < 0) = false ->
 (decide (Binding.kind b = 1) = true -> P_c_iFormNames /\ (12 <= 9223372036854775807 -> ObsEq [] [] /\ AV.sv (lb (decide (Binding.number b < 12))) = AV.sv (lb (isBnd b)))) /\ (decide
 (Binding.kind b = 1) = false -> (decide (Binding.kind b = 2) = true -> P_c_iPrimitiveNames /\ (14 <= 9223372036854775807 -> ObsEq [] [] /\ AV.sv (lb (decide (Binding.number b < 14))) =
 AV.sv (lb (isBnd b)))) /\ (decide (Binding.kind b = 2) = false -> (decide (Binding.kind b = 3) = true -> true = true /\ ObsEq [] [] /\ AV.sv (lb (decide (Binding.number b <= 99999))) =
 AV.sv (lb (isBnd b))) /\ (decide (Binding.kind b = 3) = false -> (decide (Binding.kind b = 4) = true -> ObsEq [] [] /\ AV.sv (lb (decide (Binding.number b <= 99999))) = AV.sv (lb
 (isBnd b))) /\ (decide (Binding.kind b = 4) = false -> ObsEq [] [] /\ AV.sv (lb false) = AV.sv (lb (isBnd b)))))))))) := by kernel_rfl
theorem c_iIsBnd (b : Binding)  : P_c_iIsBnd b := by
  refine CallOK.ofRun wide (run_c_iIsBnd b) Tryz.call159 Tryz.func159 rfl rfl rfl ?_
  have e1 : formNames.length = 12 := rfl
  have e2 : primNames.length = 14 := rfl
  with_reducible repeat' (first | apply And.intro | exact flatI | exact flatS | exact rowLens | (intro; skip) | apply obsN | apply obsC | apply obA | apply obM | apply obB | apply svA | apply tupA | apply lcA | apply lcS | apply svC | apply liC | apply lbC | apply lsC | apply vIc | apply vBc | apply vSc | apply vLc | apply mapC | apply mIc | apply mOc | apply mSc | apply mLc | apply c_iIsSymbol | apply c_iScopes | apply c_iFormNames | apply c_iPrimitiveNames)
  all_goals (try simp only [std] at *)
  all_goals (try (first | with_reducible apply c_iIsSymbol | with_reducible apply c_iScopes | with_reducible apply c_iFormNames | with_reducible apply c_iPrimitiveNames | (simp only [<- List.map_append]; first | with_reducible apply c_iIsSymbol | with_reducible apply c_iScopes | with_reducible apply c_iFormNames | with_reducible apply c_iPrimitiveNames)))
  all_goals (try (first | with_reducible rfl | omega | assumption | exact dT ‹_› | exact dF ‹_› | ((first | refine rowGet ?_ | refine getC ?_ rfl); (first | omega | (simp only [std]; omega) | grind)) | exact look_mI | exact look_mO | exact look_mO1 | exact look_mS | exact look_mL | exact upd_mI | exact upd_mO | exact del_mO | exact upd_mS | exact take_mL | (refine upd_mL ?_; grind) | (show (_ : St) = _; rfl) | grind [isBnd, bndM, snocI, snocS, rowSnoc]))
def clB (t : ByteArray) (s : List Int) (x : Binding) : Bool := decide (x.text = t) && decide (x.scopes = s)
def clash (L : List Binding) (t : ByteArray) (s : List Int) : Bool := L.any (clB t s)
abbrev P_c_sClash (L : List Binding) (b : Binding) : Prop := CallOK Tryz.prog 151 [] [ll (L.map bindingC), bindingA b] [] (.sv (lb (clash L b.text b.scopes)))
def Tc_sClashLa (L : List Binding) (b : Binding) (x0 : SV) : St := St.mk (regsOf 26 [(3, AV.sv (SV.one (AC.ptr 0 0))), (7, AV.sv (ll (List.map bindingC L))), (8, AV.sv (li
 (↑(List.length (List.map bindingC L)) : Int))), (9, AV.sv x0)]) [Ob.box (vals (bindingF b))] 0 
def Lc_sClashLa (L : List Binding) (b : Binding) (k : Nat) : St := Tc_sClashLa L b (li (k : Int)) 
abbrev Ic_sClashLa (L : List Binding) (b : Binding) : Nat -> St -> Prop := Head (Lc_sClashLa L b) (fun k => k <= List.length L /\ List.length L <= 9223372036854775807 /\ clash (List.take k
 L) (Binding.text b) (Binding.scopes b) = false) fun k => List.length L - k 
def W0c_sClashLa (L : List Binding) (b : Binding) : St := St.mk (regsOf 26 []) [] 0 
def W1c_sClashLa (L : List Binding) (b : Binding) (x0 : SV) : St := St.mk (regsOf 26 [(4, AV.sv x0)]) [] 0 
def Yc_sClashLa (L : List Binding) (b : Binding) : List (Prop × AEx × St) := [(clash L (Binding.text b) (Binding.scopes b) = false, AEx.exit 0, W0c_sClashLa L b), (clash L
 (Binding.text b) (Binding.scopes b) = true, AEx.ret, W1c_sClashLa L b (lb true))]

theorem Ec_sClashLa {L : List Binding} {b : Binding} {k : Nat} {x0 : SV} (h0 : x0 = (li (k : Int))) : Tc_sClashLa L b x0 = Lc_sClashLa L b k := by
  rw [h0]
  rfl
theorem EW1c_sClashLa {L : List Binding} {b : Binding} {x0 y0 : SV} (h0 : x0 = y0) : W1c_sClashLa L b x0 = W1c_sClashLa L b y0 := by rw [h0]
theorem run_c_sClashLa (L : List Binding) (b : Binding) (k : Nat) : aexec Tryz.prog (loopAt Tryz.f151 0) (Lc_sClashLa L b k) [.br [.cells (bindingF (List.getD L k default)),
 .br [.call [Mode.rd, Mode.rd] [] (AV.sv (lb (decide (Binding.scopes (List.getD L k default) = Binding.scopes b)))), .br [.ghost (.sel [] [4]), .out 1]
 [.ghost (.sel [0] [3, 7, 8, 9]), .goto (List.length L - (k + 1)) (Lc_sClashLa L b (k + 1))]] [.bool false, .ghost (.sel [0] [3, 7, 8, 9]), .goto
 (List.length L - (k + 1)) (Lc_sClashLa L b (k + 1))]] [.ghost (.sel [] []), .out 0]] (loopK (Ic_sClashLa L b) (Yc_sClashLa L b) (List.length L - k)) = ((decide ((↑k :
 Int) < (↑(List.length (List.map bindingC L)) : Int)) = true -> (0 <= (k : Int) /\ (List.map bindingC L)[Int.toNat (k : Int)]? = some (bindingF (List.getD L k default))) /\ (decide
 (Array.toList (ByteArray.data (Binding.text (List.getD L k default))) = Array.toList (ByteArray.data (Binding.text b))) = true -> P_c_sSameInts (Binding.scopes (List.getD L k
 default)) (Binding.scopes b) /\ (decide (Binding.scopes (List.getD L k default) = Binding.scopes b) = true -> clash L (Binding.text b) (Binding.scopes b) = true /\ W1c_sClashLa L b
 (lb true) = W1c_sClashLa L b (lb true)) /\ (decide (Binding.scopes (List.getD L k default) = Binding.scopes b) = false -> rng .i64 ((k : Int) + 1) /\ List.length L - (k + 1)
 < List.length L - k /\ Tc_sClashLa L b (li ((k : Int) + 1)) = Lc_sClashLa L b (k + 1) /\ Ic_sClashLa L b (List.length L - (k + 1)) (Lc_sClashLa L b (k + 1)))) /\ (decide
 (Array.toList (ByteArray.data (Binding.text (List.getD L k default))) = Array.toList (ByteArray.data (Binding.text b))) = false -> false = false /\ rng .i64 ((k : Int) + 1)
 /\ List.length L - (k + 1) < List.length L - k /\ Tc_sClashLa L b (li ((k : Int) + 1)) = Lc_sClashLa L b (k + 1) /\ Ic_sClashLa L b (List.length L - (k + 1)) (Lc_sClashLa L b (k +
 1)))) /\ (decide ((k : Int) < (↑(List.length (List.map bindingC L)) : Int)) = false -> clash L (Binding.text b) (Binding.scopes b) = false /\ W0c_sClashLa L b = W0c_sClashLa L b))
 := by kernel_rfl
theorem Sc_sClashLa (L : List Binding) (b : Binding)  : LoopSem Tryz.prog (loopAt Tryz.f151 0) (Ic_sClashLa L b) (Yc_sClashLa L b) := by
  refine LoopSem.ofHead wide fun k h => ⟨_, _, run_c_sClashLa L b k, ?_⟩
  with_reducible repeat' (first | apply And.intro | exact flatI | exact flatS | exact rowLens | (intro; skip) | apply obsN | apply obsC | apply obA | apply obM | apply obB | apply svA | apply tupA | apply lcA | apply lcS | apply svC | apply liC | apply lbC | apply lsC | apply vIc | apply vBc | apply vSc | apply vLc | apply mapC | apply hdI | apply mIc | apply mOc | apply mSc | apply mLc | apply Ec_sClashLa | apply EW1c_sClashLa | apply c_sSameInts)
  all_goals (try simp only [std] at *)
  all_goals (try (first | with_reducible apply c_sSameInts | (simp only [<- List.map_append]; first | with_reducible apply c_sSameInts)))
  all_goals (try (first | with_reducible rfl | omega | assumption | exact dT ‹_› | exact dF ‹_› | ((first | refine rowGet ?_ | refine getC ?_ rfl); (first | omega | (simp only [std]; omega) | grind)) | exact look_mI | exact look_mO | exact look_mO1 | exact look_mS | exact look_mL | exact upd_mI | exact upd_mO | exact del_mO | exact upd_mS | exact take_mL | (refine upd_mL ?_; grind) | (show (_ : St) = _; rfl) | grind [take_get, clash, clB, getD_mem', bytes_ext, snocI, snocS, rowSnoc]))
theorem run_c_sClash (L : List Binding) (b : Binding) : aexec Tryz.prog (Tryz.f151.body.getD .skip) (entry [] [ll (List.map bindingC L), bindingA b] 26)
 [.ghost (.sel [0] [3, 7, 8, 9]), .loop (List.length L - 0) (Lc_sClashLa L b 0) (Ic_sClashLa L b) [(clash L (Binding.text b) (Binding.scopes b) = false, AEx.exit 0,
 W0c_sClashLa L b, [.fin []]), (clash L (Binding.text b) (Binding.scopes b) = true, AEx.ret, W1c_sClashLa L b (lb true), [.fin []])]] (finK Tryz.prog [ResultVar.tmp 4] []
 (AV.sv (lb (clash L (Binding.text b) (Binding.scopes b))))) = (List.length (List.map bindingC L) <= 9223372036854775807 -> Tc_sClashLa L b (li 0) = Lc_sClashLa L b 0 /\ Ic_sClashLa L
 b (List.length L - 0) (Lc_sClashLa L b 0) /\ LoopSem Tryz.prog (loopAt Tryz.f151 0) (Ic_sClashLa L b) (Yc_sClashLa L b) /\ (clash L (Binding.text b) (Binding.scopes b) = false ->
 ObsEq [] [] /\ AV.sv (lb false) = AV.sv (lb (clash L (Binding.text b) (Binding.scopes b)))) /\ (clash L (Binding.text b) (Binding.scopes b) = true -> ObsEq [] [] /\ AV.sv (lb true) =
 AV.sv (lb (clash L (Binding.text b) (Binding.scopes b)))) /\ True) := by kernel_rfl
theorem c_sClash (L : List Binding) (b : Binding)  : P_c_sClash L b := by
  refine CallOK.ofRun wide (run_c_sClash L b) Tryz.call151 Tryz.func151 rfl rfl rfl ?_
  with_reducible repeat' (first | apply And.intro | exact flatI | exact flatS | exact rowLens | (intro; skip) | apply obsN | apply obsC | apply obA | apply obM | apply obB | apply svA | apply tupA | apply lcA | apply lcS | apply svC | apply liC | apply lbC | apply lsC | apply vIc | apply vBc | apply vSc | apply vLc | apply mapC | apply hdI | apply mIc | apply mOc | apply mSc | apply mLc | apply Ec_sClashLa | apply Sc_sClashLa | apply EW1c_sClashLa | apply c_sSameInts)
  all_goals (try simp only [std] at *)
  all_goals (try (first | with_reducible apply c_sSameInts | (simp only [<- List.map_append]; first | with_reducible apply c_sSameInts)))
  all_goals (try (first | with_reducible rfl | omega | assumption | exact dT ‹_› | exact dF ‹_› | ((first | refine rowGet ?_ | refine getC ?_ rfl); (first | omega | (simp only [std]; omega) | grind)) | exact look_mI | exact look_mO | exact look_mO1 | exact look_mS | exact look_mL | exact upd_mI | exact upd_mO | exact del_mO | exact upd_mS | exact take_mL | (refine upd_mL ?_; grind) | (show (_ : St) = _; rfl) | grind [clash, snocI, snocS, rowSnoc]))
def areTo (L : List Binding) : Nat -> Bool
  | 0 => true
  | k + 1 => areTo L k && (isBnd (L.getD k default) && !clash (L.take k) (L.getD k default).text (L.getD k default).scopes)
theorem areTo_le (L : List Binding) : ∀ (m k : Nat), k <= m -> areTo L m = true -> areTo L k = true
  | 0, k, h, _ => by
    obtain rfl : k = 0 := by omega
    rfl
  | m + 1, k, h, ht => by
    by_cases e : k = m + 1
    . rw [e]; exact ht
    . refine areTo_le L m k (by omega) ?_
      simp only [areTo, Bool.and_eq_true] at ht; exact ht.1
def areB (L : List Binding) : Bool := areTo L L.length && decide ((L.length : Int) <= 1000)
abbrev P_c_sAre (L : List Binding) : Prop := CallOK Tryz.prog 82 [] [ll (L.map bindingC)] [] (.sv (lb (areB L)))
def Tc_sAreLa (L : List Binding) (x0 : SV) : St := St.mk (regsOf 26 [(0, AV.sv (ll (List.map bindingC L))), (5, AV.sv (ll (List.map bindingC L))), (6, AV.sv (li (↑(List.length
 (List.map bindingC L)) : Int))), (7, AV.sv x0)]) [] 0 
def Lc_sAreLa (L : List Binding) (k : Nat) : St := Tc_sAreLa L (li (k : Int)) 
abbrev Ic_sAreLa (L : List Binding) : Nat -> St -> Prop := Head (Lc_sAreLa L) (fun k => k <= List.length L /\ List.length L <= 9223372036854775807 /\ areTo L k = true) fun k => List.length
 L - k 
def W0c_sAreLa (L : List Binding) : St := St.mk (regsOf 26 [(0, AV.sv (ll (List.map bindingC L)))]) [] 0 
def W1c_sAreLa (L : List Binding) (x0 : SV) : St := St.mk (regsOf 26 [(2, AV.sv x0)]) [] 0 
def Yc_sAreLa (L : List Binding) : List (Prop × AEx × St) := [(areTo L (List.length L) = true, AEx.exit 0, W0c_sAreLa L), (areTo L (List.length L) = false, AEx.ret, W1c_sAreLa L
 (lb false))]

theorem Ec_sAreLa {L : List Binding} {k : Nat} {x0 : SV} (h0 : x0 = (li (k : Int))) : Tc_sAreLa L x0 = Lc_sAreLa L k := by
  rw [h0]
  rfl
theorem EW1c_sAreLa {L : List Binding} {x0 y0 : SV} (h0 : x0 = y0) : W1c_sAreLa L x0 = W1c_sAreLa L y0 := by rw [h0]
abbrev a1_c_sAreLa (L : List Binding) (k : Nat) := (AV.sv (lb (clash (List.take (Int.toNat (↑k : Int) - 0) (List.drop 0 L)) (Binding.text (List.getD L k default)) (Binding.scopes
 (List.getD L k default)))))
theorem run_c_sAreLa (L : List Binding) (k : Nat) : aexec Tryz.prog (loopAt Tryz.f82 0) (Lc_sAreLa L k) [.br [.cells (bindingF (List.getD L k default)), .draw [], .call
 [Mode.rd] [] (AV.sv (lb (isBnd (List.getD L k default)))), .br [.bool true, .ghost (.sel [] [2]), .out 1] [.call [Mode.rd, Mode.rd] [] (a1_c_sAreLa L k),
 .br [.ghost (.sel [] [2]), .out 1] [.ghost (.sel [] [0, 5, 6, 7]), .goto (List.length L - (k + 1)) (Lc_sAreLa L (k + 1))]]] [.ghost (.sel [] [0]),
 .out 0]] (loopK (Ic_sAreLa L) (Yc_sAreLa L) (List.length L - k)) = ((decide ((k : Int) < (↑(List.length (List.map bindingC L)) : Int)) = true -> (0 <= (k : Int) /\ (List.map
 bindingC L)[Int.toNat (k : Int)]? = some (bindingF (List.getD L k default))) /\ P_c_sIsBnd (List.getD L k default) /\ ((!isBnd (List.getD L k default)) = true -> true = true /\ areTo
 L (List.length L) = false /\ W1c_sAreLa L (lb false) = W1c_sAreLa L (lb false)) /\ ((!isBnd (List.getD L k default)) = false -> 0 <= (k : Int) /\ (0 <= Int.toNat (k : Int) /\ Int.toNat
 (k : Int) <= List.length (List.map bindingC L) /\ ∀ (e : List Cell), e ∈ List.map bindingC L -> List.length e = 4) /\ CallOK Tryz.prog 151 [] [ll (List.take (Int.toNat (k : Int) -
 0) (List.drop 0 (List.map bindingC L))), SV.agg (vals (bindingF (List.getD L k default)))] [] (a1_c_sAreLa L k) /\ (clash (List.take (Int.toNat (k : Int) - 0) (List.drop 0 L))
 (Binding.text (List.getD L k default)) (Binding.scopes (List.getD L k default)) = true -> areTo L (List.length L) = false /\ W1c_sAreLa L (lb false) = W1c_sAreLa L (lb false)) /\
 (clash (List.take (Int.toNat (k : Int) - 0) (List.drop 0 L)) (Binding.text (List.getD L k default)) (Binding.scopes (List.getD L k default)) = false -> rng .i64 ((k : Int)
 + 1) /\ List.length L - (k + 1) < List.length L - k /\ Tc_sAreLa L (li ((k : Int) + 1)) = Lc_sAreLa L (k + 1) /\ Ic_sAreLa L (List.length L - (k + 1)) (Lc_sAreLa L (k + 1))))) /\
 (decide ((k : Int) < (↑(List.length (List.map bindingC L)) : Int)) = false -> areTo L (List.length L) = true /\ W0c_sAreLa L = W0c_sAreLa L)) := by kernel_rfl
theorem Sc_sAreLa (L : List Binding)  : LoopSem Tryz.prog (loopAt Tryz.f82 0) (Ic_sAreLa L) (Yc_sAreLa L) := by
  refine LoopSem.ofHead wide fun k h => ⟨_, _, run_c_sAreLa L k, ?_⟩
  try delta a1_c_sAreLa
  have g1 := areTo_le L L.length (k + 1)
  have g2 : areTo L (k + 1) = (areTo L k && (isBnd (L.getD k default) && !clash (L.take k) (L.getD k default).text (L.getD k default).scopes)) := rfl
  with_reducible repeat' (first | apply And.intro | exact flatI | exact flatS | exact rowLens | (intro; skip) | apply obsN | apply obsC | apply obA | apply obM | apply obB | apply svA | apply tupA | apply lcA | apply lcS | apply svC | apply liC | apply lbC | apply lsC | apply vIc | apply vBc | apply vSc | apply vLc | apply mapC | apply hdI | apply mIc | apply mOc | apply mSc | apply mLc | apply Ec_sAreLa | apply EW1c_sAreLa | apply c_sIsBnd | apply c_sClash)
  all_goals (try simp only [std] at *)
  all_goals (try (first | with_reducible apply c_sIsBnd | with_reducible apply c_sClash | (simp only [<- List.map_append]; first | with_reducible apply c_sIsBnd | with_reducible apply c_sClash)))
  all_goals (try (first | with_reducible rfl | omega | assumption | exact dT ‹_› | exact dF ‹_› | ((first | refine rowGet ?_ | refine getC ?_ rfl); (first | omega | (simp only [std]; omega) | grind)) | exact look_mI | exact look_mO | exact look_mO1 | exact look_mS | exact look_mL | exact upd_mI | exact upd_mO | exact del_mO | exact upd_mS | exact take_mL | (refine upd_mL ?_; grind) | (show (_ : St) = _; rfl) | grind [getD_mem', snocI, snocS, rowSnoc]))
theorem run_c_sAre (L : List Binding) : aexec Tryz.prog (Tryz.f82.body.getD .skip) (entry [] [ll (List.map bindingC L)] 26) [.ghost (.sel [] [0, 5, 6,
 7]), .loop (List.length L - 0) (Lc_sAreLa L 0) (Ic_sAreLa L) [(areTo L (List.length L) = true, AEx.exit 0, W0c_sAreLa L, [.fin []]), (areTo L (List.length L) = false,
 AEx.ret, W1c_sAreLa L (lb false), [.fin []])]] (finK Tryz.prog [ResultVar.tmp 2] [] (AV.sv (lb (areB L)))) = (List.length (List.map bindingC L) <= 9223372036854775807 ->
 Tc_sAreLa L (li 0) = Lc_sAreLa L 0 /\ Ic_sAreLa L (List.length L - 0) (Lc_sAreLa L 0) /\ LoopSem Tryz.prog (loopAt Tryz.f82 0) (Ic_sAreLa L) (Yc_sAreLa L) /\ (areTo L (List.length L)
 = true -> List.length (List.map bindingC L) <= 9223372036854775807 -> ObsEq [] [] /\ AV.sv (lb (decide ((↑(List.length (List.map bindingC L)) : Int) <= 1000))) = AV.sv (lb (areB L))) /\
 (areTo L (List.length L) = false -> ObsEq [] [] /\ AV.sv (lb false) = AV.sv (lb (areB L))) /\ True) := by kernel_rfl
theorem c_sAre (L : List Binding)  : P_c_sAre L := by
  refine CallOK.ofRun wide (run_c_sAre L) Tryz.call82 Tryz.func82 rfl rfl rfl ?_
  with_reducible repeat' (first | apply And.intro | exact flatI | exact flatS | exact rowLens | (intro; skip) | apply obsN | apply obsC | apply obA | apply obM | apply obB | apply svA | apply tupA | apply lcA | apply lcS | apply svC | apply liC | apply lbC | apply lsC | apply vIc | apply vBc | apply vSc | apply vLc | apply mapC | apply hdI | apply mIc | apply mOc | apply mSc | apply mLc | apply Ec_sAreLa | apply Sc_sAreLa | apply EW1c_sAreLa | apply c_sIsBnd | apply c_sClash)
  all_goals (try simp only [std] at *)
  all_goals (try (first | with_reducible apply c_sIsBnd | with_reducible apply c_sClash | (simp only [<- List.map_append]; first | with_reducible apply c_sIsBnd | with_reducible apply c_sClash)))
  all_goals (try (first | with_reducible rfl | omega | assumption | exact dT ‹_› | exact dF ‹_› | ((first | refine rowGet ?_ | refine getC ?_ rfl); (first | omega | (simp only [std]; omega) | grind)) | exact look_mI | exact look_mO | exact look_mO1 | exact look_mS | exact look_mL | exact upd_mI | exact upd_mO | exact del_mO | exact upd_mS | exact take_mL | (refine upd_mL ?_; grind) | (show (_ : St) = _; rfl) | grind [areB, areTo, snocI, snocS, rowSnoc]))
def plc (L : List Binding) : Nat -> ByteArray -> List Int
  | 0, _ => []
  | k + 1, s => if s = (L.getD k default).text then plc L k s ++ [(k : Int)] else plc L k s
theorem plc_upd {L : List Binding} {k : Nat} : upd1 (plc L k) (L.getD k default).text (plc L k (L.getD k default).text ++ [(k : Int)]) = plc L (k + 1) := by
  funext s; simp only [upd1, plc]; split
  . rename_i h; rw [h]
  . rfl
theorem plc_zero {L : List Binding} : zL = plc L 0 := rfl
theorem plc_len (L : List Binding) (s : ByteArray) : ∀ k, (plc L k s).length <= k
  | 0 => Nat.le_refl _
  | k + 1 => by
    have := plc_len L s k
    simp only [plc]; split
    . simp; omega
    . omega
theorem plc_mem (L : List Binding) (s : ByteArray) : ∀ k (i : Int), i ∈ plc L k s ↔ (0 <= i /\ i < k /\ (L.getD i.toNat default).text = s)
  | 0, i => by simp [plc]; omega
  | k + 1, i => by
    have ih := plc_mem L s k i
    simp only [plc]; split
    . rename_i h
      rw [List.mem_append, ih, List.mem_singleton]
      constructor
      . rintro (⟨a, b, c⟩ | rfl)
        . exact ⟨a, by omega, c⟩
        . exact ⟨by omega, by omega, by rw [Int.toNat_natCast]; exact h.symm⟩
      . rintro ⟨a, b, c⟩
        by_cases e : i = k
        . exact .inr e
        . exact .inl ⟨a, by omega, c⟩
    . rename_i h
      rw [ih]
      constructor
      . rintro ⟨a, b, c⟩; exact ⟨a, by omega, c⟩
      . rintro ⟨a, b, c⟩
        refine ⟨a, ?_, c⟩
        by_cases e : i = k
        . subst e; rw [Int.toNat_natCast] at c; exact absurd c.symm h
        . omega
def plOK (L : List Binding) (s : List Int) (P : List Int) : Bool := P.all fun i => !decide ((L.getD i.toNat default).scopes = s)
theorem plOK_clash {L : List Binding} {k : Nat} {t : ByteArray} {s : List Int} (hk : k <= L.length) : plOK L s (plc L k t) = !clash (L.take k) t s := by
  rw [Bool.eq_iff_iff]
  simp only [plOK, clash, clB, List.all_eq_true, Bool.not_eq_true', decide_eq_false_iff_not, List.any_eq_false, Bool.and_eq_true, decide_eq_true_eq, not_and]
  constructor
  . intro h x hx e
    obtain ⟨j, hj, rfl⟩ := List.getElem_of_mem hx
    rw [List.length_take] at hj
    have e2 : (L.take k)[j]'(by rw [List.length_take]; exact hj) = L.getD j default := by simp [show j < L.length by omega]
    rw [e2] at e ⊢
    have := h (j : Int) ((plc_mem L t k j).2 ⟨by omega, by omega, by rw [Int.toNat_natCast]; exact e⟩)
    rwa [Int.toNat_natCast] at this
  . intro h i hi
    obtain ⟨a, b, c⟩ := (plc_mem L t k i).1 hi
    refine h _ ?_ c
    have e : L.getD i.toNat default = (L.take k)[i.toNat]'(by rw [List.length_take]; omega) := by simp [show i.toNat < L.length by omega]
    rw [e]; exact List.getElem_mem _
theorem plOK_at {L : List Binding} {s : List Int} {P : List Int} {j : Nat} (h : j < P.length) (e : (L.getD (P.getD j default).toNat default).scopes = s) : plOK L s P = false := by
  unfold plOK; rw [List.all_eq_false]; exact ⟨_, getD_mem' h, by rw [decide_eq_true e]; decide⟩
theorem plOK_step {L : List Binding} {s : List Int} {P : List Int} {j : Nat} (h : j < P.length) (h0 : plOK L s (P.take j) = true) (e : (L.getD (P.getD j default).toNat default).scopes ≠ s) : plOK L s (P.take (j + 1)) = true := by
  unfold plOK at *; rw [take_get h, List.all_append, h0]; simpa using e
abbrev P_c_iAre (L : List Binding) : Prop := CallOK Tryz.prog 87 [] [ll (L.map bindingC)] [] (.sv (lb (areB L)))
def Tc_iAreLb (L : List Binding) (k : Nat) (x0 : SV) : St := St.mk (regsOf 51 [(0, AV.sv (ll (List.map bindingC L))), (3, AV.sv (SV.one (AC.mref 0))), (4, AV.sv (li (k : Int))),
 (5, AV.sv (SV.one (AC.ptr 1 0))), (12, AV.sv (ll (List.map bindingC L))), (13, AV.sv (li (↑(List.length (List.map bindingC L)) : Int))), (14, AV.sv (li (k : Int))), (25, AV.sv
 (SV.one (AC.bor 0 (Cell.list (List.map intC (plc L k (Binding.text (List.getD L k default)))))))), (26, AV.sv (li (↑(List.length (List.map intC (plc L k (Binding.text (List.getD L
 k default))))) : Int))), (27, AV.sv x0)]) [Ob.map false kL (mL (plc L k)), Ob.box (vals (bindingF (List.getD L k default)))] 0 
def Lc_iAreLb (L : List Binding) (k : Nat) (k1 : Nat) : St := Tc_iAreLb L k (li (k1 : Int)) 
abbrev Ic_iAreLb (L : List Binding) (k : Nat) : Nat -> St -> Prop := Head (Lc_iAreLb L k) (fun k1 => k1 <= List.length (plc L k (Binding.text (List.getD L k default))) /\ List.length (plc
 L k (Binding.text (List.getD L k default))) <= 9223372036854775807 /\ k < List.length L /\ areTo L k = true /\ isBnd (List.getD L k default) = true /\ plOK L (Binding.scopes (List.getD
 L k default)) (List.take k1 (plc L k (Binding.text (List.getD L k default)))) = true) fun k1 => List.length (plc L k (Binding.text (List.getD L k default))) - k1 
def W0c_iAreLb (L : List Binding) (k : Nat) : St := St.mk (regsOf 51 [(0, AV.sv (ll (List.map bindingC L))), (3, AV.sv (SV.one (AC.mref 0))), (4, AV.sv (li (k : Int))), (5, AV.sv
 (SV.one (AC.ptr 1 0))), (12, AV.sv (ll (List.map bindingC L))), (13, AV.sv (li (↑(List.length (List.map bindingC L)) : Int))), (14, AV.sv (li (k : Int)))]) [Ob.map false kL (mL
 (plc L k)), Ob.box (vals (bindingF (List.getD L k default)))] 0 
def W1c_iAreLb (L : List Binding) (k : Nat) (x0 : SV) : St := St.mk (regsOf 51 [(2, AV.sv x0)]) [] 0 
def Yc_iAreLb (L : List Binding) (k : Nat) : List (Prop × AEx × St) := [(areTo L (k + 1) = true, AEx.exit 2, W0c_iAreLb L k), (areTo L (List.length L) = false, AEx.ret, W1c_iAreLb
 L k (lb false))]
def Tc_iAreLa (L : List Binding) (x0 : SV) (x1 : Ob) : St := St.mk (regsOf 51 [(0, AV.sv (ll (List.map bindingC L))), (3, AV.sv (SV.one (AC.mref 0))), (12, AV.sv (ll (List.map
 bindingC L))), (13, AV.sv (li (↑(List.length (List.map bindingC L)) : Int))), (14, AV.sv x0)]) [x1] 0 
def Lc_iAreLa (L : List Binding) (k : Nat) : St := Tc_iAreLa L (li (k : Int)) (Ob.map false kL (mL (plc L k))) 
abbrev Ic_iAreLa (L : List Binding) : Nat -> St -> Prop := Head (Lc_iAreLa L) (fun k => k <= List.length L /\ List.length L <= 9223372036854775807 /\ List.length L <= 1000 /\ areTo L k =
 true) fun k => List.length L - k 
def W0c_iAreLa (L : List Binding) : St := St.mk (regsOf 51 []) [] 0 
def W1c_iAreLa (L : List Binding) (x0 : SV) : St := St.mk (regsOf 51 [(2, AV.sv x0)]) [] 0 
def Yc_iAreLa (L : List Binding) : List (Prop × AEx × St) := [(areTo L (List.length L) = true, AEx.exit 0, W0c_iAreLa L), (areTo L (List.length L) = false, AEx.ret, W1c_iAreLa L
 (lb false))]

theorem Ec_iAreLb {L : List Binding} {k : Nat} {k1 : Nat} {x0 : SV} (h0 : x0 = (li (k1 : Int))) : Tc_iAreLb L k x0 = Lc_iAreLb L k k1 := by
  rw [h0]
  rfl
theorem EW1c_iAreLb {L : List Binding} {k : Nat} {x0 y0 : SV} (h0 : x0 = y0) : W1c_iAreLb L k x0 = W1c_iAreLb L k y0 := by rw [h0]
abbrev a1_c_iAreLb (L : List Binding) (k : Nat) := (plc L k (Binding.text (List.getD L k default)))
abbrev a2_c_iAreLb (L : List Binding) (k : Nat) (k1 : Nat) := (List.getD L (Int.toNat (List.getD (a1_c_iAreLb L k) k1 0)) default)
abbrev a3_c_iAreLb (L : List Binding) (k : Nat) (k1 : Nat) := (Binding.scopes (a2_c_iAreLb L k k1) = Binding.scopes (List.getD L k default))
theorem run_c_iAreLb (L : List Binding) (k : Nat) (k1 : Nat) : aexec Tryz.prog (loopAt Tryz.f87 1) (Lc_iAreLb L k k1) [.br [.cells (intC (List.getD (a1_c_iAreLb L k) k1
 default)), .draw [], .cells (bindingF (a2_c_iAreLb L k k1)), .call [Mode.rd, Mode.rd] [] (AV.sv (lb (decide (a3_c_iAreLb L k k1)))), .br [.ghost (.sel [] [2]),
 .out 1] [.ghost (.sel [0, 1] [0, 3, 4, 5, 12, 13, 14, 25, 26, 27]), .goto (List.length (a1_c_iAreLb L k) - (k1 + 1)) (Lc_iAreLb L k (k1 + 1))]] [.ghost (.sel
 [0, 1] [0, 3, 4, 5, 12, 13, 14]), .out 0]] (loopK (Ic_iAreLb L k) (Yc_iAreLb L k) (List.length (a1_c_iAreLb L k) - k1)) = ((decide ((k1 : Int) < (↑(List.length (List.map intC
 (a1_c_iAreLb L k))) : Int)) = true -> (0 <= (k1 : Int) /\ (List.map intC (a1_c_iAreLb L k))[Int.toNat (k1 : Int)]? = some [cI (List.getD (a1_c_iAreLb L k) k1 0)]) /\ (0 <= List.getD
 (a1_c_iAreLb L k) k1 0 /\ (List.map bindingC L)[Int.toNat (List.getD (a1_c_iAreLb L k) k1 0)]? = some (bindingF (a2_c_iAreLb L k k1))) /\ P_c_iSameInts (Binding.scopes (a2_c_iAreLb
 L k k1)) (Binding.scopes (List.getD L k default)) /\ (decide (a3_c_iAreLb L k k1) = true -> areTo L (List.length L) = false /\ W1c_iAreLa L (lb false) = W1c_iAreLb L k (lb false)) /\
 (decide (a3_c_iAreLb L k k1) = false -> rng .i64 ((k1 : Int) + 1) /\ List.length (a1_c_iAreLb L k) - (k1 + 1) < List.length (a1_c_iAreLb L k) - k1 /\ Tc_iAreLb L k (li ((↑k1
 : Int) + 1)) = Lc_iAreLb L k (k1 + 1) /\ Ic_iAreLb L k (List.length (a1_c_iAreLb L k) - (k1 + 1)) (Lc_iAreLb L k (k1 + 1)))) /\ (decide ((k1 : Int) < (↑(List.length (List.map intC
 (a1_c_iAreLb L k))) : Int)) = false -> areTo L (k + 1) = true /\ W0c_iAreLb L k = W0c_iAreLb L k)) := by kernel_rfl

theorem Ec_iAreLa {L : List Binding} {k : Nat} {x0 : SV} {x1 : Ob} (h0 : x0 = (li (k : Int))) (h1 : x1 = (Ob.map false kL (mL (plc L k)))) : Tc_iAreLa L x0 x1 = Lc_iAreLa L k :=
 by
  rw [h0, h1]
  rfl
theorem EW1c_iAreLa {L : List Binding} {x0 y0 : SV} (h0 : x0 = y0) : W1c_iAreLa L x0 = W1c_iAreLa L y0 := by rw [h0]
abbrev a1__iAreLa (L : List Binding) (k : Nat) := (plc L k (Binding.text (List.getD L k default)))
abbrev a2__iAreLa (L : List Binding) (k : Nat) := (mL (upd1 (plc L k) (Binding.text (List.getD L k default)) (plc L k (Binding.text (List.getD L k default)) ++ [(k : Int)])))
theorem run_c_iAreLa (L : List Binding) (k : Nat) : aexec Tryz.prog (loopAt Tryz.f87 0) (Lc_iAreLa L k) [.br [.cells (bindingF (List.getD L k default)), .call [Mode.rd] []
 (AV.sv (lb (isBnd (List.getD L k default)))), .br [.ghost (.sel [] [2]), .out 1] [.cells [Cell.list (List.map intC (a1__iAreLa L k))], .ghost (.sel [0, 1]
 [0, 3, 4, 5, 12, 13, 14, 25, 26, 27]), .loop (List.length (a1__iAreLa L k) - 0) (Lc_iAreLb L k 0) (Ic_iAreLb L k) [(areTo L (k + 1) = true, AEx.exit 2, W0c_iAreLb L k,
 [.draw [(6, [0]), (9, [2, 3]), (10, [4, 0])], .taken (List.map intC (a1__iAreLa L k)) 1 (mLt (plc L k) (Binding.text (List.getD L k default))), .upd (a2__iAreLa L k),
 .ghost (.sel [0] [0, 3, 12, 13, 14]), .goto (List.length L - (k + 1)) (Lc_iAreLa L (k + 1))]), (areTo L (List.length L) = false, AEx.ret, W1c_iAreLb L k (lb false),
 [.ghost (.sel [] [2]), .out 1])]]] [.ghost (.sel [] []), .out 0]] (loopK (Ic_iAreLa L) (Yc_iAreLa L) (List.length L - k)) = ((decide ((k : Int) <
 (↑(List.length (List.map bindingC L)) : Int)) = true -> (0 <= (k : Int) /\ (List.map bindingC L)[Int.toNat (k : Int)]? = some (bindingF (List.getD L k default))) /\ P_c_iIsBnd
 (List.getD L k default) /\ ((!isBnd (List.getD L k default)) = true -> areTo L (List.length L) = false /\ W1c_iAreLa L (lb false) = W1c_iAreLa L (lb false)) /\ ((!isBnd (List.getD L k
 default)) = false -> LookAt (Value.slice none 0 0) (mL (plc L k)) (Value.string (Binding.text (List.getD L k default))) (Cell.list (List.map intC (a1__iAreLa L k))) /\ (List.length
 (List.map intC (a1__iAreLa L k)) <= 9223372036854775807 -> Tc_iAreLb L k (li 0) = Lc_iAreLb L k 0 /\ Ic_iAreLb L k (List.length (a1__iAreLa L k) - 0) (Lc_iAreLb L k 0) /\ LoopSem
 Tryz.prog (loopAt Tryz.f87 1) (Ic_iAreLb L k) (Yc_iAreLb L k) /\ (areTo L (k + 1) = true -> LookAt (Value.slice none 0 0) (mL (plc L k)) (Value.string (Binding.text (List.getD L k
 default))) (Cell.list (List.map intC (a1__iAreLa L k))) /\ UpdF (MK.d kL) (mL (plc L k)) (mLt (plc L k) (Binding.text (List.getD L k default))) (Value.string (Binding.text
 (List.getD L k default))) (some Cell.any) /\ some (Value.slice none 0 0) = some (Value.slice none 0 0) /\ (∀ (x : List Cell), x ∈ List.map intC (a1__iAreLa L k) -> List.length x = 1)
 /\ (List.length (List.map intC (a1__iAreLa L k)) + 1) * 8 <= 140737488355328 /\ false = false /\ UpdF (MK.d kL) (mLt (plc L k) (Binding.text (List.getD L k default))) (a2__iAreLa L k)
 (Value.string (Binding.text (List.getD L k default))) (some (Cell.list (List.map intC (a1__iAreLa L k) ++ [[cI (k : Int)]]))) /\ rng .i64 ((k : Int) + 1) /\ List.length L -
 (k + 1) < List.length L - k /\ Tc_iAreLa L (li ((k : Int) + 1)) (Ob.map false kL (a2__iAreLa L k)) = Lc_iAreLa L (k + 1) /\ Ic_iAreLa L (List.length L - (k + 1)) (Lc_iAreLa L (k +
 1))) /\ (areTo L (List.length L) = false -> areTo L (List.length L) = false /\ W1c_iAreLa L (lb false) = W1c_iAreLa L (lb false)) /\ True))) /\ (decide ((k : Int) < (↑(List.length
 (List.map bindingC L)) : Int)) = false -> areTo L (List.length L) = true /\ W0c_iAreLa L = W0c_iAreLa L)) := by kernel_rfl
theorem Sc_iAreLb (L : List Binding) (k : Nat)  : LoopSem Tryz.prog (loopAt Tryz.f87 1) (Ic_iAreLb L k) (Yc_iAreLb L k) := by
  refine LoopSem.ofHead wide fun k1 h => ⟨_, _, run_c_iAreLb L k k1, ?_⟩
  try delta a1_c_iAreLb a2_c_iAreLb a3_c_iAreLb
  have g1 := areTo_le L L.length (k + 1)
  have g2 : areTo L (k + 1) = (areTo L k && (isBnd (L.getD k default) && !clash (L.take k) (L.getD k default).text (L.getD k default).scopes)) := rfl
  have g3 := @plOK_clash L k (L.getD k default).text (L.getD k default).scopes
  have g4 := @plOK_at L (L.getD k default).scopes (plc L k (L.getD k default).text) k1
  have g5 := @plOK_step L (L.getD k default).scopes (plc L k (L.getD k default).text) k1
  have g6 := plc_mem L (L.getD k default).text k ((plc L k (L.getD k default).text).getD k1 default)
  have g7 : ∀ j, (plc L k (L.getD k default).text).length <= j -> (plc L k (L.getD k default).text).take j = plc L k (L.getD k default).text := fun j h => List.take_of_length_le h
  with_reducible repeat' (first | apply And.intro | exact flatI | exact flatS | exact rowLens | (intro; skip) | apply obsN | apply obsC | apply obA | apply obM | apply obB | apply svA | apply tupA | apply lcA | apply lcS | apply svC | apply liC | apply lbC | apply lsC | apply vIc | apply vBc | apply vSc | apply vLc | apply mapC | apply hdI | apply mIc | apply mOc | apply mSc | apply mLc | apply Ec_iAreLa | apply Ec_iAreLb | apply EW1c_iAreLb | apply EW1c_iAreLa | apply c_iIsBnd | apply c_iSameInts)
  all_goals (try simp only [std] at *)
  all_goals (try (first | with_reducible apply c_iIsBnd | with_reducible apply c_iSameInts | (simp only [<- List.map_append]; first | with_reducible apply c_iIsBnd | with_reducible apply c_iSameInts)))
  all_goals (try (first | with_reducible rfl | omega | assumption | exact dT ‹_› | exact dF ‹_› | ((first | refine rowGet ?_ | refine getC ?_ rfl); (first | omega | (simp only [std]; omega) | grind)) | exact look_mI | exact look_mO | exact look_mO1 | exact look_mS | exact look_mL | exact upd_mI | exact upd_mO | exact del_mO | exact upd_mS | exact take_mL | (refine upd_mL ?_; grind) | (show (_ : St) = _; rfl) | grind [getD_mem', snocI, snocS, rowSnoc]))
theorem Sc_iAreLa (L : List Binding)  : LoopSem Tryz.prog (loopAt Tryz.f87 0) (Ic_iAreLa L) (Yc_iAreLa L) := by
  refine LoopSem.ofHead wide fun k h => ⟨_, _, run_c_iAreLa L k, ?_⟩
  try delta a1__iAreLa a2__iAreLa
  have g1 := areTo_le L L.length (k + 1)
  have g2 : areTo L (k + 1) = (areTo L k && (isBnd (L.getD k default) && !clash (L.take k) (L.getD k default).text (L.getD k default).scopes)) := rfl
  have g3 := plc_len L (L.getD k default).text k
  have g4 := @plc_upd L k
  have g5 : plOK L (L.getD k default).scopes ((plc L k (L.getD k default).text).take 0) = true := rfl
  with_reducible repeat' (first | apply And.intro | exact flatI | exact flatS | exact rowLens | (intro; skip) | apply obsN | apply obsC | apply obA | apply obM | apply obB | apply svA | apply tupA | apply lcA | apply lcS | apply svC | apply liC | apply lbC | apply lsC | apply vIc | apply vBc | apply vSc | apply vLc | apply mapC | apply hdI | apply mIc | apply mOc | apply mSc | apply mLc | apply Ec_iAreLa | apply Ec_iAreLb | apply Sc_iAreLb | apply EW1c_iAreLb | apply EW1c_iAreLa | apply c_iIsBnd | apply c_iSameInts)
  all_goals (try simp only [std] at *)
  all_goals (try (first | with_reducible apply c_iIsBnd | with_reducible apply c_iSameInts | (simp only [<- List.map_append]; first | with_reducible apply c_iIsBnd | with_reducible apply c_iSameInts)))
  all_goals (try (first | with_reducible rfl | omega | assumption | exact dT ‹_› | exact dF ‹_› | ((first | refine rowGet ?_ | refine getC ?_ rfl); (first | omega | (simp only [std]; omega) | grind)) | exact look_mI | exact look_mO | exact look_mO1 | exact look_mS | exact look_mL | exact upd_mI | exact upd_mO | exact del_mO | exact upd_mS | exact take_mL | (refine upd_mL ?_; grind) | (show (_ : St) = _; rfl) | grind [getD_mem', snocI, snocS, rowSnoc]))
  all_goals (try (exact upd_mL (by simp [intC])))
theorem run_c_iAre (L : List Binding) : aexec Tryz.prog (Tryz.f87.body.getD .skip) (entry [] [ll (List.map bindingC L)] 51) [.br [.fin []] [.mkmap kL,
 .ghost (.sel [0] [0, 3, 12, 13, 14]), .loop (List.length L - 0) (Lc_iAreLa L 0) (Ic_iAreLa L) [(areTo L (List.length L) = true, AEx.exit 0, W0c_iAreLa L, [.fin []]),
 (areTo L (List.length L) = false, AEx.ret, W1c_iAreLa L (lb false), [.fin []])]]] (finK Tryz.prog [ResultVar.tmp 2] [] (AV.sv (lb (areB L)))) = (List.length (List.map bindingC
 L) <= 9223372036854775807 -> (decide (1000 < (↑(List.length (List.map bindingC L)) : Int)) = true -> ObsEq [] [] /\ AV.sv (lb false) = AV.sv (lb (areB L))) /\ (decide (1000 <
 (↑(List.length (List.map bindingC L)) : Int)) = false -> List.length (List.map bindingC L) <= 9223372036854775807 -> Tc_iAreLa L (li 0) (Ob.map false kL (mL zL)) = Lc_iAreLa L 0 /\
 Ic_iAreLa L (List.length L - 0) (Lc_iAreLa L 0) /\ LoopSem Tryz.prog (loopAt Tryz.f87 0) (Ic_iAreLa L) (Yc_iAreLa L) /\ (areTo L (List.length L) = true -> ObsEq [] [] /\ AV.sv (lb
 true) = AV.sv (lb (areB L))) /\ (areTo L (List.length L) = false -> ObsEq [] [] /\ AV.sv (lb false) = AV.sv (lb (areB L))) /\ True)) := by kernel_rfl
theorem c_iAre (L : List Binding)  : P_c_iAre L := by
  refine CallOK.ofRun wide (run_c_iAre L) Tryz.call87 Tryz.func87 rfl rfl rfl ?_
  with_reducible repeat' (first | apply And.intro | exact flatI | exact flatS | exact rowLens | (intro; skip) | apply obsN | apply obsC | apply obA | apply obM | apply obB | apply svA | apply tupA | apply lcA | apply lcS | apply svC | apply liC | apply lbC | apply lsC | apply vIc | apply vBc | apply vSc | apply vLc | apply mapC | apply hdI | apply mIc | apply mOc | apply mSc | apply mLc | apply Ec_iAreLa | apply Sc_iAreLa | apply Ec_iAreLb | apply Sc_iAreLb | apply EW1c_iAreLb | apply EW1c_iAreLa | apply c_iIsBnd | apply c_iSameInts)
  all_goals (try simp only [std] at *)
  all_goals (try (first | with_reducible apply c_iIsBnd | with_reducible apply c_iSameInts | (simp only [<- List.map_append]; first | with_reducible apply c_iIsBnd | with_reducible apply c_iSameInts)))
  all_goals (try (first | with_reducible rfl | omega | assumption | exact dT ‹_› | exact dF ‹_› | ((first | refine rowGet ?_ | refine getC ?_ rfl); (first | omega | (simp only [std]; omega) | grind)) | exact look_mI | exact look_mO | exact look_mO1 | exact look_mS | exact look_mL | exact upd_mI | exact upd_mO | exact del_mO | exact upd_mS | exact take_mL | (refine upd_mL ?_; grind) | (show (_ : St) = _; rfl) | grind [areB, areTo, plc_zero, snocI, snocS, rowSnoc]))
mutual
/-- is no scope greater than a number? -/
def blw (n : Int) : Syntax -> Bool
  | ⟨_, _, _, s, l⟩ => s.all (fun x => decide (x <= n)) && blws n l
def blws (n : Int) : List Syntax -> Bool
  | [] => true
  | x :: r => blw n x && blws n r
end
theorem blws_eq (n : Int) : ∀ l, blws n l = l.all (blw n)
  | [] => by simp [blws]
  | x :: r => by rw [blws, blws_eq n r]; rfl
def scB (n : Int) (L : List Int) : Bool := L.all fun x => decide (x <= n)
theorem blw_eq (n : Int) (s : Syntax) : blw n s = (scB n s.scopes && s.items.all (blw n)) := by cases s; simp only [blw, blws_eq, scB]
theorem scB_stop {n : Int} {L : List Int} {k : Nat} (h : k < L.length) (e : n < L.getD k 0) : scB n L = false := by
  unfold scB; rw [List.all_eq_false]; exact ⟨L.getD k 0, getD_mem' h, by rw [decide_eq_false (by omega)]; decide⟩
abbrev P_c_sBelow (s : Syntax) (n : Int) : Prop := CallOK Tryz.prog 158 [] [syntaxA s, li n] [] (.sv (lb (blw n s)))
def Tc_sBelow_sLb (s : Syntax) (n : Int) (x0 : SV) : St := St.mk (regsOf 32 [(1, AV.sv (li n)), (21, AV.sv (ll (List.map syntaxC (Syntax.items s)))), (22, AV.sv (li (↑(List.length
 (List.map syntaxC (Syntax.items s))) : Int))), (23, AV.sv x0)]) [] 0 
def Lc_sBelow_sLb (s : Syntax) (n : Int) (k : Nat) : St := Tc_sBelow_sLb s n (li (k : Int)) 
abbrev Ic_sBelow_sLb (s : Syntax) (n : Int) : Nat -> St -> Prop := Head (Lc_sBelow_sLb s n) (fun k => k <= List.length (Syntax.items s) /\ List.length (Syntax.items s) <=
 9223372036854775807 /\ List.all (List.take k (Syntax.items s)) (blw n) = true) fun k => List.length (Syntax.items s) - k 
def W0c_sBelow_sLb (s : Syntax) (n : Int) : St := St.mk (regsOf 32 []) [] 0 
def W1c_sBelow_sLb (s : Syntax) (n : Int) (x0 : SV) : St := St.mk (regsOf 32 [(4, AV.sv x0)]) [] 0 
def Yc_sBelow_sLb (s : Syntax) (n : Int) : List (Prop × AEx × St) := [(List.all (Syntax.items s) (blw n) = true, AEx.exit 2, W0c_sBelow_sLb s n), (List.all (Syntax.items s) (blw n)
 = false, AEx.ret, W1c_sBelow_sLb s n (lb false))]
def Tc_sBelow_sLa (s : Syntax) (n : Int) (x0 : SV) : St := St.mk (regsOf 32 [(1, AV.sv (li n)), (2, AV.sv (SV.one (AC.ptr 0 0))), (10, AV.sv (ll (List.map intC (Syntax.scopes
 s)))), (11, AV.sv (li (↑(List.length (List.map intC (Syntax.scopes s))) : Int))), (12, AV.sv x0)]) [Ob.box (vals (syntaxF s))] 0 
def Lc_sBelow_sLa (s : Syntax) (n : Int) (k : Nat) : St := Tc_sBelow_sLa s n (li (k : Int)) 
abbrev Ic_sBelow_sLa (s : Syntax) (n : Int) : Nat -> St -> Prop := Head (Lc_sBelow_sLa s n) (fun k => k <= List.length (Syntax.scopes s) /\ List.length (Syntax.scopes s) <=
 9223372036854775807 /\ scB n (List.take k (Syntax.scopes s)) = true) fun k => List.length (Syntax.scopes s) - k 
def W0c_sBelow_sLa (s : Syntax) (n : Int) : St := St.mk (regsOf 32 [(1, AV.sv (li n)), (2, AV.sv (SV.one (AC.ptr 0 0)))]) [Ob.box (vals (syntaxF s))] 0 
def W1c_sBelow_sLa (s : Syntax) (n : Int) (x0 : SV) : St := St.mk (regsOf 32 [(4, AV.sv x0)]) [] 0 
def Yc_sBelow_sLa (s : Syntax) (n : Int) : List (Prop × AEx × St) := [(scB n (Syntax.scopes s) = true, AEx.exit 0, W0c_sBelow_sLa s n), (blw n s = false, AEx.ret, W1c_sBelow_sLa s
 n (lb false))]

theorem Ec_sBelow_sLb {s : Syntax} {n : Int} {k : Nat} {x0 : SV} (h0 : x0 = (li (k : Int))) : Tc_sBelow_sLb s n x0 = Lc_sBelow_sLb s n k := by
  rw [h0]
  rfl
theorem EW1c_sBelow_sLb {s : Syntax} {n : Int} {x0 y0 : SV} (h0 : x0 = y0) : W1c_sBelow_sLb s n x0 = W1c_sBelow_sLb s n y0 := by rw [h0]
theorem run_c_sBelow_sLb (s : Syntax) (n : Int) (k : Nat) : aexec Tryz.prog (loopAt Tryz.f158 1) (Lc_sBelow_sLb s n k) [.br [.cells (syntaxF (List.getD (Syntax.items s) k
 default)), .call [Mode.rd, Mode.rd] [] (AV.sv (lb (blw n (List.getD (Syntax.items s) k default)))), .br [.ghost (.sel [] [4]), .out 1] [.ghost (.sel []
 [1, 21, 22, 23]), .goto (List.length (Syntax.items s) - (k + 1)) (Lc_sBelow_sLb s n (k + 1))]] [.ghost (.sel [] []), .out 0]] (loopK (Ic_sBelow_sLb s n)
 (Yc_sBelow_sLb s n) (List.length (Syntax.items s) - k)) = ((decide ((k : Int) < (↑(List.length (List.map syntaxC (Syntax.items s))) : Int)) = true -> (0 <= (k : Int) /\ (List.map
 syntaxC (Syntax.items s))[Int.toNat (k : Int)]? = some (syntaxF (List.getD (Syntax.items s) k default))) /\ P_c_sBelow (List.getD (Syntax.items s) k default) n /\ ((!blw n
 (List.getD (Syntax.items s) k default)) = true -> List.all (Syntax.items s) (blw n) = false /\ W1c_sBelow_sLa s n (lb false) = W1c_sBelow_sLb s n (lb false)) /\ ((!blw n (List.getD
 (Syntax.items s) k default)) = false -> rng .i64 ((k : Int) + 1) /\ List.length (Syntax.items s) - (k + 1) < List.length (Syntax.items s) - k /\ Tc_sBelow_sLb s n (li ((↑k :
 Int) + 1)) = Lc_sBelow_sLb s n (k + 1) /\ Ic_sBelow_sLb s n (List.length (Syntax.items s) - (k + 1)) (Lc_sBelow_sLb s n (k + 1)))) /\ (decide ((k : Int) < (↑(List.length (List.map
 syntaxC (Syntax.items s))) : Int)) = false -> List.all (Syntax.items s) (blw n) = true /\ W0c_sBelow_sLb s n = W0c_sBelow_sLb s n)) := by kernel_rfl

theorem Ec_sBelow_sLa {s : Syntax} {n : Int} {k : Nat} {x0 : SV} (h0 : x0 = (li (k : Int))) : Tc_sBelow_sLa s n x0 = Lc_sBelow_sLa s n k := by
  rw [h0]
  rfl
theorem EW1c_sBelow_sLa {s : Syntax} {n : Int} {x0 y0 : SV} (h0 : x0 = y0) : W1c_sBelow_sLa s n x0 = W1c_sBelow_sLa s n y0 := by rw [h0]
theorem run_c_sBelow_sLa (s : Syntax) (n : Int) (k : Nat) : aexec Tryz.prog (loopAt Tryz.f158 0) (Lc_sBelow_sLa s n k) [.br [.cells (intC (List.getD (Syntax.scopes s) k
 default)), .br [.ghost (.sel [] [4]), .out 1] [.ghost (.sel [0] [1, 2, 10, 11, 12]), .goto (List.length (Syntax.scopes s) - (k + 1)) (Lc_sBelow_sLa s n (k
 + 1))]] [.ghost (.sel [0] [1, 2]), .out 0]] (loopK (Ic_sBelow_sLa s n) (Yc_sBelow_sLa s n) (List.length (Syntax.scopes s) - k)) = ((decide ((k : Int) < (↑(List.length
 (List.map intC (Syntax.scopes s))) : Int)) = true -> (0 <= (k : Int) /\ (List.map intC (Syntax.scopes s))[Int.toNat (k : Int)]? = some [cI (List.getD (Syntax.scopes s) k 0)]) /\
 (decide (n < List.getD (Syntax.scopes s) k 0) = true -> blw n s = false /\ W1c_sBelow_sLa s n (lb false) = W1c_sBelow_sLa s n (lb false)) /\ (decide (n < List.getD (Syntax.scopes s)
 k 0) = false -> rng .i64 ((k : Int) + 1) /\ List.length (Syntax.scopes s) - (k + 1) < List.length (Syntax.scopes s) - k /\ Tc_sBelow_sLa s n (li ((k : Int) + 1)) =
 Lc_sBelow_sLa s n (k + 1) /\ Ic_sBelow_sLa s n (List.length (Syntax.scopes s) - (k + 1)) (Lc_sBelow_sLa s n (k + 1)))) /\ (decide ((k : Int) < (↑(List.length (List.map intC
 (Syntax.scopes s))) : Int)) = false -> scB n (Syntax.scopes s) = true /\ W0c_sBelow_sLa s n = W0c_sBelow_sLa s n)) := by kernel_rfl
theorem Sc_sBelow_sLb (s : Syntax) (n : Int) (ih : ∀ (z : Syntax), z ∈ Syntax.items s -> ∀ (n : Int), P_c_sBelow z n)  : LoopSem Tryz.prog (loopAt Tryz.f158 1) (Ic_sBelow_sLb s n)
 (Yc_sBelow_sLb s n) := by
  refine LoopSem.ofHead wide fun k h => ⟨_, _, run_c_sBelow_sLb s n k, ?_⟩
  with_reducible repeat' (first | apply And.intro | exact flatI | exact flatS | exact rowLens | exact ih | (intro; skip) | apply obsN | apply obsC | apply obA | apply obM | apply obB | apply svA | apply tupA | apply lcA | apply lcS | apply svC | apply liC | apply lbC | apply lsC | apply vIc | apply vBc | apply vSc | apply vLc | apply mapC | apply hdI | apply mIc | apply mOc | apply mSc | apply mLc | apply Ec_sBelow_sLa | apply Ec_sBelow_sLb | apply EW1c_sBelow_sLb | apply EW1c_sBelow_sLa | apply ih)
  all_goals (try simp only [std] at *)
  all_goals (try (first | with_reducible apply ih | (simp only [<- List.map_append]; first | with_reducible apply ih)))
  all_goals (try (first | with_reducible rfl | omega | assumption | exact dT ‹_› | exact dF ‹_› | ((first | refine rowGet ?_ | refine getC ?_ rfl); (first | omega | (simp only [std]; omega) | grind)) | exact look_mI | exact look_mO | exact look_mO1 | exact look_mS | exact look_mL | exact upd_mI | exact upd_mO | exact del_mO | exact upd_mS | exact take_mL | (refine upd_mL ?_; grind) | (show (_ : St) = _; rfl) | grind [take_get, getD_mem', snocI, snocS, rowSnoc]))
theorem Sc_sBelow_sLa (s : Syntax) (n : Int) (ih : ∀ (z : Syntax), z ∈ Syntax.items s -> ∀ (n : Int), P_c_sBelow z n)  : LoopSem Tryz.prog (loopAt Tryz.f158 0) (Ic_sBelow_sLa s n)
 (Yc_sBelow_sLa s n) := by
  refine LoopSem.ofHead wide fun k h => ⟨_, _, run_c_sBelow_sLa s n k, ?_⟩
  have g1 := blw_eq n s
  have g2 := @scB_stop n s.scopes k
  with_reducible repeat' (first | apply And.intro | exact flatI | exact flatS | exact rowLens | exact ih | (intro; skip) | apply obsN | apply obsC | apply obA | apply obM | apply obB | apply svA | apply tupA | apply lcA | apply lcS | apply svC | apply liC | apply lbC | apply lsC | apply vIc | apply vBc | apply vSc | apply vLc | apply mapC | apply hdI | apply mIc | apply mOc | apply mSc | apply mLc | apply Ec_sBelow_sLa | apply Ec_sBelow_sLb | apply Sc_sBelow_sLb | apply EW1c_sBelow_sLb | apply EW1c_sBelow_sLa | apply ih)
  all_goals (try simp only [std] at *)
  all_goals (try (first | with_reducible apply ih | (simp only [<- List.map_append]; first | with_reducible apply ih)))
  all_goals (try (first | with_reducible rfl | omega | assumption | exact dT ‹_› | exact dF ‹_› | ((first | refine rowGet ?_ | refine getC ?_ rfl); (first | omega | (simp only [std]; omega) | grind)) | exact look_mI | exact look_mO | exact look_mO1 | exact look_mS | exact look_mL | exact upd_mI | exact upd_mO | exact del_mO | exact upd_mS | exact take_mL | (refine upd_mL ?_; grind) | (show (_ : St) = _; rfl) | grind [take_get, getD_mem', scB, snocI, snocS, rowSnoc]))
theorem run_c_sBelow_s (s : Syntax) (n : Int) : aexec Tryz.prog (Tryz.f158.body.getD .skip) (entry [] [syntaxA s, li n] 32) [.ghost (.sel [0] [1, 2, 10,
 11, 12]), .loop (List.length (Syntax.scopes s) - 0) (Lc_sBelow_sLa s n 0) (Ic_sBelow_sLa s n) [(scB n (Syntax.scopes s) = true, AEx.exit 0, W0c_sBelow_sLa s n, [.ghost
 (.sel [] [1, 21, 22, 23]), .loop (List.length (Syntax.items s) - 0) (Lc_sBelow_sLb s n 0) (Ic_sBelow_sLb s n) [(List.all (Syntax.items s) (blw n) = true, AEx.exit 2,
 W0c_sBelow_sLb s n, [.fin []]), (List.all (Syntax.items s) (blw n) = false, AEx.ret, W1c_sBelow_sLb s n (lb false), [.fin []])]]), (blw n s = false, AEx.ret, W1c_sBelow_sLa
 s n (lb false), [.fin []])]] (finK Tryz.prog [ResultVar.tmp 4] [] (AV.sv (lb (blw n s)))) = (List.length (List.map intC (Syntax.scopes s)) <= 9223372036854775807 -> Tc_sBelow_sLa
 s n (li 0) = Lc_sBelow_sLa s n 0 /\ Ic_sBelow_sLa s n (List.length (Syntax.scopes s) - 0) (Lc_sBelow_sLa s n 0) /\ LoopSem Tryz.prog (loopAt Tryz.f158 0) (Ic_sBelow_sLa s n)
 (Yc_sBelow_sLa s n) /\ (scB n (Syntax.scopes s) = true -> List.length (List.map syntaxC (Syntax.items s)) <= 9223372036854775807 -> Tc_sBelow_sLb s n (li 0) = Lc_sBelow_sLb s n 0 /\
 Ic_sBelow_sLb s n (List.length (Syntax.items s) - 0) (Lc_sBelow_sLb s n 0) /\ LoopSem Tryz.prog (loopAt Tryz.f158 1) (Ic_sBelow_sLb s n) (Yc_sBelow_sLb s n) /\ (List.all
 (Syntax.items s) (blw n) = true -> ObsEq [] [] /\ AV.sv (lb true) = AV.sv (lb (blw n s))) /\ (List.all (Syntax.items s) (blw n) = false -> ObsEq [] [] /\ AV.sv (lb false) = AV.sv (lb
 (blw n s))) /\ True) /\ (blw n s = false -> ObsEq [] [] /\ AV.sv (lb false) = AV.sv (lb (blw n s))) /\ True) := by kernel_rfl
theorem c_sBelow_s (s : Syntax) (n : Int) (ih : ∀ z ∈ s.items, ∀ (n : Int), P_c_sBelow z n)  : P_c_sBelow s n := by
  refine CallOK.ofRun wide (run_c_sBelow_s s n) Tryz.call158 Tryz.func158 rfl rfl rfl ?_
  have g1 := blw_eq n s
  with_reducible repeat' (first | apply And.intro | exact flatI | exact flatS | exact rowLens | exact ih | (intro; skip) | apply obsN | apply obsC | apply obA | apply obM | apply obB | apply svA | apply tupA | apply lcA | apply lcS | apply svC | apply liC | apply lbC | apply lsC | apply vIc | apply vBc | apply vSc | apply vLc | apply mapC | apply hdI | apply mIc | apply mOc | apply mSc | apply mLc | apply Ec_sBelow_sLa | apply Sc_sBelow_sLa | apply Ec_sBelow_sLb | apply Sc_sBelow_sLb | apply EW1c_sBelow_sLb | apply EW1c_sBelow_sLa)
  all_goals (try simp only [std] at *)
  all_goals (try (first | with_reducible apply ih | (simp only [<- List.map_append]; first | with_reducible apply ih)))
  all_goals (try (first | with_reducible rfl | omega | assumption | exact dT ‹_› | exact dF ‹_› | ((first | refine rowGet ?_ | refine getC ?_ rfl); (first | omega | (simp only [std]; omega) | grind)) | exact look_mI | exact look_mO | exact look_mO1 | exact look_mS | exact look_mL | exact upd_mI | exact upd_mO | exact del_mO | exact upd_mS | exact take_mL | (refine upd_mL ?_; grind) | (show (_ : St) = _; rfl) | grind [scB, snocI, snocS, rowSnoc]))
theorem c_sBelow (s : Syntax) : ∀ (n : Int), P_c_sBelow s n := Syntax.ind (P := fun s => ∀ (n : Int), P_c_sBelow s n) (fun s ih n => c_sBelow_s s n ih) s
abbrev P_c_iBelow (s : Syntax) (n : Int) : Prop := CallOK Tryz.prog 116 [] [syntaxA s, li n] [] (.sv (lb (blw n s)))
def Tc_iBelow_sLb (s : Syntax) (n : Int) (x0 : SV) : St := St.mk (regsOf 32 [(1, AV.sv (li n)), (21, AV.sv (ll (List.map syntaxC (Syntax.items s)))), (22, AV.sv (li (↑(List.length
 (List.map syntaxC (Syntax.items s))) : Int))), (23, AV.sv x0)]) [] 0 
def Lc_iBelow_sLb (s : Syntax) (n : Int) (k : Nat) : St := Tc_iBelow_sLb s n (li (k : Int)) 
abbrev Ic_iBelow_sLb (s : Syntax) (n : Int) : Nat -> St -> Prop := Head (Lc_iBelow_sLb s n) (fun k => k <= List.length (Syntax.items s) /\ List.length (Syntax.items s) <=
 9223372036854775807 /\ List.all (List.take k (Syntax.items s)) (blw n) = true) fun k => List.length (Syntax.items s) - k 
def W0c_iBelow_sLb (s : Syntax) (n : Int) : St := St.mk (regsOf 32 []) [] 0 
def W1c_iBelow_sLb (s : Syntax) (n : Int) (x0 : SV) : St := St.mk (regsOf 32 [(4, AV.sv x0)]) [] 0 
def Yc_iBelow_sLb (s : Syntax) (n : Int) : List (Prop × AEx × St) := [(List.all (Syntax.items s) (blw n) = true, AEx.exit 2, W0c_iBelow_sLb s n), (List.all (Syntax.items s) (blw n)
 = false, AEx.ret, W1c_iBelow_sLb s n (lb false))]
def Tc_iBelow_sLa (s : Syntax) (n : Int) (x0 : SV) : St := St.mk (regsOf 32 [(1, AV.sv (li n)), (2, AV.sv (SV.one (AC.ptr 0 0))), (10, AV.sv (ll (List.map intC (Syntax.scopes
 s)))), (11, AV.sv (li (↑(List.length (List.map intC (Syntax.scopes s))) : Int))), (12, AV.sv x0)]) [Ob.box (vals (syntaxF s))] 0 
def Lc_iBelow_sLa (s : Syntax) (n : Int) (k : Nat) : St := Tc_iBelow_sLa s n (li (k : Int)) 
abbrev Ic_iBelow_sLa (s : Syntax) (n : Int) : Nat -> St -> Prop := Head (Lc_iBelow_sLa s n) (fun k => k <= List.length (Syntax.scopes s) /\ List.length (Syntax.scopes s) <=
 9223372036854775807 /\ scB n (List.take k (Syntax.scopes s)) = true) fun k => List.length (Syntax.scopes s) - k 
def W0c_iBelow_sLa (s : Syntax) (n : Int) : St := St.mk (regsOf 32 [(1, AV.sv (li n)), (2, AV.sv (SV.one (AC.ptr 0 0)))]) [Ob.box (vals (syntaxF s))] 0 
def W1c_iBelow_sLa (s : Syntax) (n : Int) (x0 : SV) : St := St.mk (regsOf 32 [(4, AV.sv x0)]) [] 0 
def Yc_iBelow_sLa (s : Syntax) (n : Int) : List (Prop × AEx × St) := [(scB n (Syntax.scopes s) = true, AEx.exit 0, W0c_iBelow_sLa s n), (blw n s = false, AEx.ret, W1c_iBelow_sLa s
 n (lb false))]

theorem Ec_iBelow_sLb {s : Syntax} {n : Int} {k : Nat} {x0 : SV} (h0 : x0 = (li (k : Int))) : Tc_iBelow_sLb s n x0 = Lc_iBelow_sLb s n k := by
  rw [h0]
  rfl
theorem EW1c_iBelow_sLb {s : Syntax} {n : Int} {x0 y0 : SV} (h0 : x0 = y0) : W1c_iBelow_sLb s n x0 = W1c_iBelow_sLb s n y0 := by rw [h0]
theorem run_c_iBelow_sLb (s : Syntax) (n : Int) (k : Nat) : aexec Tryz.prog (loopAt Tryz.f116 1) (Lc_iBelow_sLb s n k) [.br [.cells (syntaxF (List.getD (Syntax.items s) k
 default)), .call [Mode.rd, Mode.rd] [] (AV.sv (lb (blw n (List.getD (Syntax.items s) k default)))), .br [.ghost (.sel [] [4]), .out 1] [.ghost (.sel []
 [1, 21, 22, 23]), .goto (List.length (Syntax.items s) - (k + 1)) (Lc_iBelow_sLb s n (k + 1))]] [.ghost (.sel [] []), .out 0]] (loopK (Ic_iBelow_sLb s n)
 (Yc_iBelow_sLb s n) (List.length (Syntax.items s) - k)) = ((decide ((k : Int) < (↑(List.length (List.map syntaxC (Syntax.items s))) : Int)) = true -> (0 <= (k : Int) /\ (List.map
 syntaxC (Syntax.items s))[Int.toNat (k : Int)]? = some (syntaxF (List.getD (Syntax.items s) k default))) /\ P_c_iBelow (List.getD (Syntax.items s) k default) n /\ ((!blw n
 (List.getD (Syntax.items s) k default)) = true -> List.all (Syntax.items s) (blw n) = false /\ W1c_iBelow_sLa s n (lb false) = W1c_iBelow_sLb s n (lb false)) /\ ((!blw n (List.getD
 (Syntax.items s) k default)) = false -> rng .i64 ((k : Int) + 1) /\ List.length (Syntax.items s) - (k + 1) < List.length (Syntax.items s) - k /\ Tc_iBelow_sLb s n (li ((↑k :
 Int) + 1)) = Lc_iBelow_sLb s n (k + 1) /\ Ic_iBelow_sLb s n (List.length (Syntax.items s) - (k + 1)) (Lc_iBelow_sLb s n (k + 1)))) /\ (decide ((k : Int) < (↑(List.length (List.map
 syntaxC (Syntax.items s))) : Int)) = false -> List.all (Syntax.items s) (blw n) = true /\ W0c_iBelow_sLb s n = W0c_iBelow_sLb s n)) := by kernel_rfl

theorem Ec_iBelow_sLa {s : Syntax} {n : Int} {k : Nat} {x0 : SV} (h0 : x0 = (li (k : Int))) : Tc_iBelow_sLa s n x0 = Lc_iBelow_sLa s n k := by
  rw [h0]
  rfl
theorem EW1c_iBelow_sLa {s : Syntax} {n : Int} {x0 y0 : SV} (h0 : x0 = y0) : W1c_iBelow_sLa s n x0 = W1c_iBelow_sLa s n y0 := by rw [h0]
theorem run_c_iBelow_sLa (s : Syntax) (n : Int) (k : Nat) : aexec Tryz.prog (loopAt Tryz.f116 0) (Lc_iBelow_sLa s n k) [.br [.cells (intC (List.getD (Syntax.scopes s) k
 default)), .br [.ghost (.sel [] [4]), .out 1] [.ghost (.sel [0] [1, 2, 10, 11, 12]), .goto (List.length (Syntax.scopes s) - (k + 1)) (Lc_iBelow_sLa s n (k
 + 1))]] [.ghost (.sel [0] [1, 2]), .out 0]] (loopK (Ic_iBelow_sLa s n) (Yc_iBelow_sLa s n) (List.length (Syntax.scopes s) - k)) = ((decide ((k : Int) < (↑(List.length
 (List.map intC (Syntax.scopes s))) : Int)) = true -> (0 <= (k : Int) /\ (List.map intC (Syntax.scopes s))[Int.toNat (k : Int)]? = some [cI (List.getD (Syntax.scopes s) k 0)]) /\
 (decide (n < List.getD (Syntax.scopes s) k 0) = true -> blw n s = false /\ W1c_iBelow_sLa s n (lb false) = W1c_iBelow_sLa s n (lb false)) /\ (decide (n < List.getD (Syntax.scopes s)
 k 0) = false -> rng .i64 ((k : Int) + 1) /\ List.length (Syntax.scopes s) - (k + 1) < List.length (Syntax.scopes s) - k /\ Tc_iBelow_sLa s n (li ((k : Int) + 1)) =
 Lc_iBelow_sLa s n (k + 1) /\ Ic_iBelow_sLa s n (List.length (Syntax.scopes s) - (k + 1)) (Lc_iBelow_sLa s n (k + 1)))) /\ (decide ((k : Int) < (↑(List.length (List.map intC
 (Syntax.scopes s))) : Int)) = false -> scB n (Syntax.scopes s) = true /\ W0c_iBelow_sLa s n = W0c_iBelow_sLa s n)) := by kernel_rfl
theorem Sc_iBelow_sLb (s : Syntax) (n : Int) (ih : ∀ (z : Syntax), z ∈ Syntax.items s -> ∀ (n : Int), P_c_iBelow z n)  : LoopSem Tryz.prog (loopAt Tryz.f116 1) (Ic_iBelow_sLb s n)
 (Yc_iBelow_sLb s n) := by
  refine LoopSem.ofHead wide fun k h => ⟨_, _, run_c_iBelow_sLb s n k, ?_⟩
  with_reducible repeat' (first | apply And.intro | exact flatI | exact flatS | exact rowLens | exact ih | (intro; skip) | apply obsN | apply obsC | apply obA | apply obM | apply obB | apply svA | apply tupA | apply lcA | apply lcS | apply svC | apply liC | apply lbC | apply lsC | apply vIc | apply vBc | apply vSc | apply vLc | apply mapC | apply hdI | apply mIc | apply mOc | apply mSc | apply mLc | apply Ec_iBelow_sLa | apply Ec_iBelow_sLb | apply EW1c_iBelow_sLb | apply EW1c_iBelow_sLa | apply ih)
  all_goals (try simp only [std] at *)
  all_goals (try (first | with_reducible apply ih | (simp only [<- List.map_append]; first | with_reducible apply ih)))
  all_goals (try (first | with_reducible rfl | omega | assumption | exact dT ‹_› | exact dF ‹_› | ((first | refine rowGet ?_ | refine getC ?_ rfl); (first | omega | (simp only [std]; omega) | grind)) | exact look_mI | exact look_mO | exact look_mO1 | exact look_mS | exact look_mL | exact upd_mI | exact upd_mO | exact del_mO | exact upd_mS | exact take_mL | (refine upd_mL ?_; grind) | (show (_ : St) = _; rfl) | grind [take_get, getD_mem', snocI, snocS, rowSnoc]))
theorem Sc_iBelow_sLa (s : Syntax) (n : Int) (ih : ∀ (z : Syntax), z ∈ Syntax.items s -> ∀ (n : Int), P_c_iBelow z n)  : LoopSem Tryz.prog (loopAt Tryz.f116 0) (Ic_iBelow_sLa s n)
 (Yc_iBelow_sLa s n) := by
  refine LoopSem.ofHead wide fun k h => ⟨_, _, run_c_iBelow_sLa s n k, ?_⟩
  have g1 := blw_eq n s
  have g2 := @scB_stop n s.scopes k
  with_reducible repeat' (first | apply And.intro | exact flatI | exact flatS | exact rowLens | exact ih | (intro; skip) | apply obsN | apply obsC | apply obA | apply obM | apply obB | apply svA | apply tupA | apply lcA | apply lcS | apply svC | apply liC | apply lbC | apply lsC | apply vIc | apply vBc | apply vSc | apply vLc | apply mapC | apply hdI | apply mIc | apply mOc | apply mSc | apply mLc | apply Ec_iBelow_sLa | apply Ec_iBelow_sLb | apply Sc_iBelow_sLb | apply EW1c_iBelow_sLb | apply EW1c_iBelow_sLa | apply ih)
  all_goals (try simp only [std] at *)
  all_goals (try (first | with_reducible apply ih | (simp only [<- List.map_append]; first | with_reducible apply ih)))
  all_goals (try (first | with_reducible rfl | omega | assumption | exact dT ‹_› | exact dF ‹_› | ((first | refine rowGet ?_ | refine getC ?_ rfl); (first | omega | (simp only [std]; omega) | grind)) | exact look_mI | exact look_mO | exact look_mO1 | exact look_mS | exact look_mL | exact upd_mI | exact upd_mO | exact del_mO | exact upd_mS | exact take_mL | (refine upd_mL ?_; grind) | (show (_ : St) = _; rfl) | grind [take_get, getD_mem', scB, snocI, snocS, rowSnoc]))
theorem run_c_iBelow_s (s : Syntax) (n : Int) : aexec Tryz.prog (Tryz.f116.body.getD .skip) (entry [] [syntaxA s, li n] 32) [.ghost (.sel [0] [1, 2, 10,
 11, 12]), .loop (List.length (Syntax.scopes s) - 0) (Lc_iBelow_sLa s n 0) (Ic_iBelow_sLa s n) [(scB n (Syntax.scopes s) = true, AEx.exit 0, W0c_iBelow_sLa s n, [.ghost
 (.sel [] [1, 21, 22, 23]), .loop (List.length (Syntax.items s) - 0) (Lc_iBelow_sLb s n 0) (Ic_iBelow_sLb s n) [(List.all (Syntax.items s) (blw n) = true, AEx.exit 2,
 W0c_iBelow_sLb s n, [.fin []]), (List.all (Syntax.items s) (blw n) = false, AEx.ret, W1c_iBelow_sLb s n (lb false), [.fin []])]]), (blw n s = false, AEx.ret, W1c_iBelow_sLa
 s n (lb false), [.fin []])]] (finK Tryz.prog [ResultVar.tmp 4] [] (AV.sv (lb (blw n s)))) = (List.length (List.map intC (Syntax.scopes s)) <= 9223372036854775807 -> Tc_iBelow_sLa
 s n (li 0) = Lc_iBelow_sLa s n 0 /\ Ic_iBelow_sLa s n (List.length (Syntax.scopes s) - 0) (Lc_iBelow_sLa s n 0) /\ LoopSem Tryz.prog (loopAt Tryz.f116 0) (Ic_iBelow_sLa s n)
 (Yc_iBelow_sLa s n) /\ (scB n (Syntax.scopes s) = true -> List.length (List.map syntaxC (Syntax.items s)) <= 9223372036854775807 -> Tc_iBelow_sLb s n (li 0) = Lc_iBelow_sLb s n 0 /\
 Ic_iBelow_sLb s n (List.length (Syntax.items s) - 0) (Lc_iBelow_sLb s n 0) /\ LoopSem Tryz.prog (loopAt Tryz.f116 1) (Ic_iBelow_sLb s n) (Yc_iBelow_sLb s n) /\ (List.all
 (Syntax.items s) (blw n) = true -> ObsEq [] [] /\ AV.sv (lb true) = AV.sv (lb (blw n s))) /\ (List.all (Syntax.items s) (blw n) = false -> ObsEq [] [] /\ AV.sv (lb false) = AV.sv (lb
 (blw n s))) /\ True) /\ (blw n s = false -> ObsEq [] [] /\ AV.sv (lb false) = AV.sv (lb (blw n s))) /\ True) := by kernel_rfl
theorem c_iBelow_s (s : Syntax) (n : Int) (ih : ∀ z ∈ s.items, ∀ (n : Int), P_c_iBelow z n)  : P_c_iBelow s n := by
  refine CallOK.ofRun wide (run_c_iBelow_s s n) Tryz.call116 Tryz.func116 rfl rfl rfl ?_
  have g1 := blw_eq n s
  with_reducible repeat' (first | apply And.intro | exact flatI | exact flatS | exact rowLens | exact ih | (intro; skip) | apply obsN | apply obsC | apply obA | apply obM | apply obB | apply svA | apply tupA | apply lcA | apply lcS | apply svC | apply liC | apply lbC | apply lsC | apply vIc | apply vBc | apply vSc | apply vLc | apply mapC | apply hdI | apply mIc | apply mOc | apply mSc | apply mLc | apply Ec_iBelow_sLa | apply Sc_iBelow_sLa | apply Ec_iBelow_sLb | apply Sc_iBelow_sLb | apply EW1c_iBelow_sLb | apply EW1c_iBelow_sLa)
  all_goals (try simp only [std] at *)
  all_goals (try (first | with_reducible apply ih | (simp only [<- List.map_append]; first | with_reducible apply ih)))
  all_goals (try (first | with_reducible rfl | omega | assumption | exact dT ‹_› | exact dF ‹_› | ((first | refine rowGet ?_ | refine getC ?_ rfl); (first | omega | (simp only [std]; omega) | grind)) | exact look_mI | exact look_mO | exact look_mO1 | exact look_mS | exact look_mL | exact upd_mI | exact upd_mO | exact del_mO | exact upd_mS | exact take_mL | (refine upd_mL ?_; grind) | (show (_ : St) = _; rfl) | grind [scB, snocI, snocS, rowSnoc]))
theorem c_iBelow (s : Syntax) : ∀ (n : Int), P_c_iBelow s n := Syntax.ind (P := fun s => ∀ (n : Int), P_c_iBelow s n) (fun s ih n => c_iBelow_s s n ih) s
def ruL (r : Rules) : List (List Syntax) := [r.literals, r.patterns, r.templates]
def allB (n : Int) (L : List Syntax) : Bool := L.all (blw n)
def rulB (n : Int) (r : Rules) : Bool := (ruL r).all (allB n)
theorem rulB_eq (n : Int) (r : Rules) : rulB n r = (allB n r.literals && allB n r.patterns && allB n r.templates) := by
  simp only [rulB, ruL, List.all_cons, List.all_nil, Bool.and_true, Bool.and_assoc]
def lsynC (l : List Syntax) : List Cell := [.list (l.map syntaxC)]
def lsynF (l : List Syntax) : List Cell := [.list (l.map syntaxC)]
instance : Row (List Syntax) lsynC lsynF 1 := ⟨fun _ => rfl, fun _ => rfl⟩
theorem ruL_cells (r : Rules) : [[Cell.list (r.literals.map syntaxC)], [Cell.list (r.patterns.map syntaxC)], [Cell.list (r.templates.map syntaxC)]] = (ruL r).map lsynC := rfl
abbrev P_c_iAllB (L : List Syntax) (n : Int) : Prop := CallOK Tryz.prog 166 [] [ll (L.map syntaxC), li n] [] (.sv (lb (allB n L)))
def Tc_iAllBLa (L : List Syntax) (n : Int) (x0 : SV) : St := St.mk (regsOf 18 [(1, AV.sv (li n)), (7, AV.sv (ll (List.map syntaxC L))), (8, AV.sv (li (↑(List.length (List.map
 syntaxC L)) : Int))), (9, AV.sv x0)]) [] 0 
def Lc_iAllBLa (L : List Syntax) (n : Int) (k : Nat) : St := Tc_iAllBLa L n (li (k : Int)) 
abbrev Ic_iAllBLa (L : List Syntax) (n : Int) : Nat -> St -> Prop := Head (Lc_iAllBLa L n) (fun k => k <= List.length L /\ List.length L <= 9223372036854775807 /\ List.all (List.take k L)
 (blw n) = true) fun k => List.length L - k 
def W0c_iAllBLa (L : List Syntax) (n : Int) : St := St.mk (regsOf 18 []) [] 0 
def W1c_iAllBLa (L : List Syntax) (n : Int) (x0 : SV) : St := St.mk (regsOf 18 [(4, AV.sv x0)]) [] 0 
def Yc_iAllBLa (L : List Syntax) (n : Int) : List (Prop × AEx × St) := [(allB n L = true, AEx.exit 0, W0c_iAllBLa L n), (allB n L = false, AEx.ret, W1c_iAllBLa L n (lb false))]

theorem Ec_iAllBLa {L : List Syntax} {n : Int} {k : Nat} {x0 : SV} (h0 : x0 = (li (k : Int))) : Tc_iAllBLa L n x0 = Lc_iAllBLa L n k := by
  rw [h0]
  rfl
theorem EW1c_iAllBLa {L : List Syntax} {n : Int} {x0 y0 : SV} (h0 : x0 = y0) : W1c_iAllBLa L n x0 = W1c_iAllBLa L n y0 := by rw [h0]
theorem run_c_iAllBLa (L : List Syntax) (n : Int) (k : Nat) : aexec Tryz.prog (loopAt Tryz.f166 0) (Lc_iAllBLa L n k) [.br [.cells (syntaxF (List.getD L k default)), .call
 [Mode.rd, Mode.rd] [] (AV.sv (lb (blw n (List.getD L k default)))), .br [.ghost (.sel [] [4]), .out 1] [.ghost (.sel [] [1, 7, 8, 9]), .goto (List.length
 L - (k + 1)) (Lc_iAllBLa L n (k + 1))]] [.ghost (.sel [] []), .out 0]] (loopK (Ic_iAllBLa L n) (Yc_iAllBLa L n) (List.length L - k)) = ((decide ((k : Int) <
 (↑(List.length (List.map syntaxC L)) : Int)) = true -> (0 <= (k : Int) /\ (List.map syntaxC L)[Int.toNat (k : Int)]? = some (syntaxF (List.getD L k default))) /\ P_c_iBelow
 (List.getD L k default) n /\ ((!blw n (List.getD L k default)) = true -> allB n L = false /\ W1c_iAllBLa L n (lb false) = W1c_iAllBLa L n (lb false)) /\ ((!blw n (List.getD L k
 default)) = false -> rng .i64 ((k : Int) + 1) /\ List.length L - (k + 1) < List.length L - k /\ Tc_iAllBLa L n (li ((k : Int) + 1)) = Lc_iAllBLa L n (k + 1) /\ Ic_iAllBLa L n
 (List.length L - (k + 1)) (Lc_iAllBLa L n (k + 1)))) /\ (decide ((k : Int) < (↑(List.length (List.map syntaxC L)) : Int)) = false -> allB n L = true /\ W0c_iAllBLa L n = W0c_iAllBLa
 L n)) := by kernel_rfl
theorem Sc_iAllBLa (L : List Syntax) (n : Int)  : LoopSem Tryz.prog (loopAt Tryz.f166 0) (Ic_iAllBLa L n) (Yc_iAllBLa L n) := by
  refine LoopSem.ofHead wide fun k h => ⟨_, _, run_c_iAllBLa L n k, ?_⟩
  with_reducible repeat' (first | apply And.intro | exact flatI | exact flatS | exact rowLens | (intro; skip) | apply obsN | apply obsC | apply obA | apply obM | apply obB | apply svA | apply tupA | apply lcA | apply lcS | apply svC | apply liC | apply lbC | apply lsC | apply vIc | apply vBc | apply vSc | apply vLc | apply mapC | apply hdI | apply mIc | apply mOc | apply mSc | apply mLc | apply Ec_iAllBLa | apply EW1c_iAllBLa | apply c_iBelow)
  all_goals (try simp only [std] at *)
  all_goals (try (first | with_reducible apply c_iBelow | (simp only [<- List.map_append]; first | with_reducible apply c_iBelow)))
  all_goals (try (first | with_reducible rfl | omega | assumption | exact dT ‹_› | exact dF ‹_› | ((first | refine rowGet ?_ | refine getC ?_ rfl); (first | omega | (simp only [std]; omega) | grind)) | exact look_mI | exact look_mO | exact look_mO1 | exact look_mS | exact look_mL | exact upd_mI | exact upd_mO | exact del_mO | exact upd_mS | exact take_mL | (refine upd_mL ?_; grind) | (show (_ : St) = _; rfl) | grind [take_get, getD_mem', allB, snocI, snocS, rowSnoc]))
theorem run_c_iAllB (L : List Syntax) (n : Int) : aexec Tryz.prog (Tryz.f166.body.getD .skip) (entry [] [ll (List.map syntaxC L), li n] 18) [.ghost (.sel
 [] [1, 7, 8, 9]), .loop (List.length L - 0) (Lc_iAllBLa L n 0) (Ic_iAllBLa L n) [(allB n L = true, AEx.exit 0, W0c_iAllBLa L n, [.fin []]), (allB n L = false, AEx.ret,
 W1c_iAllBLa L n (lb false), [.fin []])]] (finK Tryz.prog [ResultVar.tmp 4] [] (AV.sv (lb (allB n L)))) = (List.length (List.map syntaxC L) <= 9223372036854775807 -> Tc_iAllBLa L
 n (li 0) = Lc_iAllBLa L n 0 /\ Ic_iAllBLa L n (List.length L - 0) (Lc_iAllBLa L n 0) /\ LoopSem Tryz.prog (loopAt Tryz.f166 0) (Ic_iAllBLa L n) (Yc_iAllBLa L n) /\ (allB n L = true ->
 ObsEq [] [] /\ AV.sv (lb true) = AV.sv (lb (allB n L))) /\ (allB n L = false -> ObsEq [] [] /\ AV.sv (lb false) = AV.sv (lb (allB n L))) /\ True) := by kernel_rfl
theorem c_iAllB (L : List Syntax) (n : Int)  : P_c_iAllB L n := by
  refine CallOK.ofRun wide (run_c_iAllB L n) Tryz.call166 Tryz.func166 rfl rfl rfl ?_
  with_reducible repeat' (first | apply And.intro | exact flatI | exact flatS | exact rowLens | (intro; skip) | apply obsN | apply obsC | apply obA | apply obM | apply obB | apply svA | apply tupA | apply lcA | apply lcS | apply svC | apply liC | apply lbC | apply lsC | apply vIc | apply vBc | apply vSc | apply vLc | apply mapC | apply hdI | apply mIc | apply mOc | apply mSc | apply mLc | apply Ec_iAllBLa | apply Sc_iAllBLa | apply EW1c_iAllBLa | apply c_iBelow)
  all_goals (try simp only [std] at *)
  all_goals (try (first | with_reducible apply c_iBelow | (simp only [<- List.map_append]; first | with_reducible apply c_iBelow)))
  all_goals (try (first | with_reducible rfl | omega | assumption | exact dT ‹_› | exact dF ‹_› | ((first | refine rowGet ?_ | refine getC ?_ rfl); (first | omega | (simp only [std]; omega) | grind)) | exact look_mI | exact look_mO | exact look_mO1 | exact look_mS | exact look_mL | exact upd_mI | exact upd_mO | exact del_mO | exact upd_mS | exact take_mL | (refine upd_mL ?_; grind) | (show (_ : St) = _; rfl) | grind [allB, snocI, snocS, rowSnoc]))
abbrev P_c_iRulB (r : Rules) (n : Int) : Prop := CallOK Tryz.prog 89 [] [rulesA r, li n] [] (.sv (lb (rulB n r)))
theorem run_c_iRulB (r : Rules) (n : Int) : aexec Tryz.prog (Tryz.f89.body.getD .skip) (entry [] [rulesA r, li n] 21) [.call [Mode.rd, Mode.rd] [] (AV.sv (lb
 (allB n (Rules.literals r)))), .br [.call [Mode.rd, Mode.rd] [] (AV.sv (lb (allB n (Rules.patterns r)))), .br [.call [Mode.rd, Mode.rd] [] (AV.sv (lb (allB n
 (Rules.templates r)))), .fin []] [.fin []]] [.bool false, .fin []]] (finK Tryz.prog [ResultVar.tmp 4] [] (AV.sv (lb (rulB n r)))) = (P_c_iAllB (Rules.literals r) n /\
 (allB n (Rules.literals r) = true -> P_c_iAllB (Rules.patterns r) n /\ (allB n (Rules.patterns r) = true -> P_c_iAllB (Rules.templates r) n /\ ObsEq [] [] /\ AV.sv (lb (allB n
 (Rules.templates r))) = AV.sv (lb (rulB n r))) /\ (allB n (Rules.patterns r) = false -> ObsEq [] [] /\ AV.sv (lb false) = AV.sv (lb (rulB n r)))) /\ (allB n (Rules.literals r) = false
 -> false = false /\ ObsEq [] [] /\ AV.sv (lb false) = AV.sv (lb (rulB n r)))) := by kernel_rfl
theorem c_iRulB (r : Rules) (n : Int)  : P_c_iRulB r n := by
  refine CallOK.ofRun wide (run_c_iRulB r n) Tryz.call89 Tryz.func89 rfl rfl rfl ?_
  have g1 := rulB_eq n r
  with_reducible repeat' (first | apply And.intro | exact flatI | exact flatS | exact rowLens | (intro; skip) | apply obsN | apply obsC | apply obA | apply obM | apply obB | apply svA | apply tupA | apply lcA | apply lcS | apply svC | apply liC | apply lbC | apply lsC | apply vIc | apply vBc | apply vSc | apply vLc | apply mapC | apply mIc | apply mOc | apply mSc | apply mLc | apply c_iAllB)
  all_goals (try simp only [std] at *)
  all_goals (try (first | with_reducible apply c_iAllB | (simp only [<- List.map_append]; first | with_reducible apply c_iAllB)))
  all_goals (try (first | with_reducible rfl | omega | assumption | exact dT ‹_› | exact dF ‹_› | ((first | refine rowGet ?_ | refine getC ?_ rfl); (first | omega | (simp only [std]; omega) | grind)) | exact look_mI | exact look_mO | exact look_mO1 | exact look_mS | exact look_mL | exact upd_mI | exact upd_mO | exact del_mO | exact upd_mS | exact take_mL | (refine upd_mL ?_; grind) | (show (_ : St) = _; rfl) | grind [snocI, snocS, rowSnoc]))
abbrev P_c_sRulB (r : Rules) (n : Int) : Prop := CallOK Tryz.prog 85 [] [rulesA r, li n] [] (.sv (lb (rulB n r)))
def Tc_sRulBLb (r : Rules) (n : Int) (k : Nat) (x0 : SV) : St := St.mk (regsOf 33 [(1, AV.sv (li n)), (15, AV.sv (SV.one (AC.ref 0))), (16, AV.sv (li 3)), (17, AV.sv (li (↑k :
 Int))), (21, AV.sv (ll (List.map syntaxC (List.getD (ruL r) (Int.toNat (k : Int)) [])))), (22, AV.sv (li (↑(List.length (List.map syntaxC (List.getD (ruL r) (Int.toNat (↑k :
 Int)) []))) : Int))), (23, AV.sv x0)]) [Ob.arr false 1 (List.map lsynC (ruL r))] 0 
def Lc_sRulBLb (r : Rules) (n : Int) (k : Nat) (k1 : Nat) : St := Tc_sRulBLb r n k (li (k1 : Int)) 
abbrev Ic_sRulBLb (r : Rules) (n : Int) (k : Nat) : Nat -> St -> Prop := Head (Lc_sRulBLb r n k) (fun k1 => k1 <= List.length (List.getD (ruL r) k []) /\ List.length (List.getD (ruL r) k
 []) <= 9223372036854775807 /\ k < 3 /\ List.all (List.take k1 (List.getD (ruL r) k [])) (blw n) = true) fun k1 => List.length (List.getD (ruL r) k []) - k1 
def W0c_sRulBLb (r : Rules) (n : Int) (k : Nat) : St := St.mk (regsOf 33 [(1, AV.sv (li n)), (15, AV.sv (SV.one (AC.ref 0))), (16, AV.sv (li 3)), (17, AV.sv (li (k : Int)))])
 [Ob.arr false 1 (List.map lsynC (ruL r))] 0 
def W1c_sRulBLb (r : Rules) (n : Int) (k : Nat) (x0 : SV) : St := St.mk (regsOf 33 [(4, AV.sv x0)]) [] 0 
def Yc_sRulBLb (r : Rules) (n : Int) (k : Nat) : List (Prop × AEx × St) := [(allB n (List.getD (ruL r) k []) = true, AEx.exit 2, W0c_sRulBLb r n k), (rulB n r = false, AEx.ret,
 W1c_sRulBLb r n k (lb false))]
def Tc_sRulBLa (r : Rules) (n : Int) (x0 : SV) (x1 : Ob) : St := St.mk (regsOf 33 [(1, AV.sv (li n)), (15, AV.sv (SV.one (AC.ref 0))), (16, AV.sv (li 3)), (17, AV.sv x0)]) [x1] 0 
def Lc_sRulBLa (r : Rules) (n : Int) (k : Nat) : St := Tc_sRulBLa r n (li (k : Int)) (Ob.arr false 1 (List.map lsynC (ruL r))) 
abbrev Ic_sRulBLa (r : Rules) (n : Int) : Nat -> St -> Prop := Head (Lc_sRulBLa r n) (fun k => k <= 3 /\ List.all (List.take k (ruL r)) (allB n) = true) fun k => 3 - k 
def W0c_sRulBLa (r : Rules) (n : Int) : St := St.mk (regsOf 33 []) [] 0 
def W1c_sRulBLa (r : Rules) (n : Int) (x0 : SV) : St := St.mk (regsOf 33 [(4, AV.sv x0)]) [] 0 
def Yc_sRulBLa (r : Rules) (n : Int) : List (Prop × AEx × St) := [(rulB n r = true, AEx.exit 0, W0c_sRulBLa r n), (rulB n r = false, AEx.ret, W1c_sRulBLa r n (lb false))]

theorem Ec_sRulBLb {r : Rules} {n : Int} {k : Nat} {k1 : Nat} {x0 : SV} (h0 : x0 = (li (k1 : Int))) : Tc_sRulBLb r n k x0 = Lc_sRulBLb r n k k1 := by
  rw [h0]
  rfl
theorem EW1c_sRulBLb {r : Rules} {n : Int} {k : Nat} {x0 y0 : SV} (h0 : x0 = y0) : W1c_sRulBLb r n k x0 = W1c_sRulBLb r n k y0 := by rw [h0]
abbrev a1_c_sRulBLb (r : Rules) (k : Nat) (k1 : Nat) := (List.getD (List.getD (ruL r) (Int.toNat (↑k : Int)) []) k1 default)
theorem run_c_sRulBLb (r : Rules) (n : Int) (k : Nat) (k1 : Nat) : aexec Tryz.prog (loopAt Tryz.f85 1) (Lc_sRulBLb r n k k1) [.br [.cells (syntaxF (a1_c_sRulBLb r k k1)),
 .call [Mode.rd, Mode.rd] [] (AV.sv (lb (blw n (a1_c_sRulBLb r k k1)))), .br [.ghost (.sel [] [4]), .out 1] [.ghost (.sel [0] [1, 15, 16, 17, 21, 22, 23]),
 .goto (List.length (List.getD (ruL r) k []) - (k1 + 1)) (Lc_sRulBLb r n k (k1 + 1))]] [.ghost (.sel [0] [1, 15, 16, 17]), .out 0]] (loopK (Ic_sRulBLb r n k)
 (Yc_sRulBLb r n k) (List.length (List.getD (ruL r) k []) - k1)) = ((decide ((k1 : Int) < (↑(List.length (List.map syntaxC (List.getD (ruL r) (Int.toNat (k : Int)) []))) : Int))
 = true -> (0 <= (k1 : Int) /\ (List.map syntaxC (List.getD (ruL r) (Int.toNat (k : Int)) []))[Int.toNat (k1 : Int)]? = some (syntaxF (a1_c_sRulBLb r k k1))) /\ P_c_sBelow
 (a1_c_sRulBLb r k k1) n /\ ((!blw n (a1_c_sRulBLb r k k1)) = true -> rulB n r = false /\ W1c_sRulBLa r n (lb false) = W1c_sRulBLb r n k (lb false)) /\ ((!blw n (a1_c_sRulBLb r k k1))
 = false -> rng .i64 ((k1 : Int) + 1) /\ List.length (List.getD (ruL r) k []) - (k1 + 1) < List.length (List.getD (ruL r) k []) - k1 /\ Tc_sRulBLb r n k (li ((k1 : Int) + 1))
 = Lc_sRulBLb r n k (k1 + 1) /\ Ic_sRulBLb r n k (List.length (List.getD (ruL r) k []) - (k1 + 1)) (Lc_sRulBLb r n k (k1 + 1)))) /\ (decide ((k1 : Int) < (↑(List.length (List.map
 syntaxC (List.getD (ruL r) (Int.toNat (k : Int)) []))) : Int)) = false -> allB n (List.getD (ruL r) k []) = true /\ W0c_sRulBLb r n k = W0c_sRulBLb r n k)) := by kernel_rfl

theorem Ec_sRulBLa {r : Rules} {n : Int} {k : Nat} {x0 : SV} {x1 : Ob} (h0 : x0 = (li (k : Int))) (h1 : x1 = (Ob.arr false 1 (List.map lsynC (ruL r)))) : Tc_sRulBLa r n x0 x1 =
 Lc_sRulBLa r n k := by
  rw [h0, h1]
  rfl
theorem EW1c_sRulBLa {r : Rules} {n : Int} {x0 y0 : SV} (h0 : x0 = y0) : W1c_sRulBLa r n x0 = W1c_sRulBLa r n y0 := by rw [h0]
theorem run_c_sRulBLa (r : Rules) (n : Int) (k : Nat) : aexec Tryz.prog (loopAt Tryz.f85 0) (Lc_sRulBLa r n k) [.br [.cells (lsynF (List.getD (ruL r) (Int.toNat (k : Int))
 default)), .ghost (.sel [0] [1, 15, 16, 17, 21, 22, 23]), .loop (List.length (List.getD (ruL r) k []) - 0) (Lc_sRulBLb r n k 0) (Ic_sRulBLb r n k) [(allB n (List.getD
 (ruL r) k []) = true, AEx.exit 2, W0c_sRulBLb r n k, [.ghost (.sel [0] [1, 15, 16, 17]), .goto (3 - (k + 1)) (Lc_sRulBLa r n (k + 1))]), (rulB n r = false, AEx.ret,
 W1c_sRulBLb r n k (lb false), [.ghost (.sel [] [4]), .out 1])]] [.ghost (.sel [] []), .out 0]] (loopK (Ic_sRulBLa r n) (Yc_sRulBLa r n) (3 - k)) = ((decide
 ((k : Int) < 3) = true -> (0 <= (k : Int) /\ Int.toNat (k : Int) < 3) /\ (List.map lsynC (ruL r))[Int.toNat (k : Int)]? = some [Cell.list (List.map syntaxC (List.getD (ruL r)
 (Int.toNat (k : Int)) []))] /\ (List.length (List.map syntaxC (List.getD (ruL r) (Int.toNat (k : Int)) [])) <= 9223372036854775807 -> Tc_sRulBLb r n k (li 0) = Lc_sRulBLb r n k 0 /\
 Ic_sRulBLb r n k (List.length (List.getD (ruL r) k []) - 0) (Lc_sRulBLb r n k 0) /\ LoopSem Tryz.prog (loopAt Tryz.f85 1) (Ic_sRulBLb r n k) (Yc_sRulBLb r n k) /\ (allB n (List.getD
 (ruL r) k []) = true -> rng .i64 ((k : Int) + 1) /\ 3 - (k + 1) < 3 - k /\ Tc_sRulBLa r n (li ((k : Int) + 1)) (Ob.arr false 1 (List.map lsynC (ruL r))) = Lc_sRulBLa r n (k
 + 1) /\ Ic_sRulBLa r n (3 - (k + 1)) (Lc_sRulBLa r n (k + 1))) /\ (rulB n r = false -> rulB n r = false /\ W1c_sRulBLa r n (lb false) = W1c_sRulBLa r n (lb false)) /\ True)) /\ (decide
 ((k : Int) < 3) = false -> rulB n r = true /\ W0c_sRulBLa r n = W0c_sRulBLa r n)) := by kernel_rfl
theorem Sc_sRulBLb (r : Rules) (n : Int) (k : Nat)  : LoopSem Tryz.prog (loopAt Tryz.f85 1) (Ic_sRulBLb r n k) (Yc_sRulBLb r n k) := by
  refine LoopSem.ofHead wide fun k1 h => ⟨_, _, run_c_sRulBLb r n k k1, ?_⟩
  try delta a1_c_sRulBLb
  have e : (ruL r).length = 3 := rfl
  have g1 := @take_get _ _ ((ruL r).getD k []) k1
  have g2 : (ruL r).getD k default = (ruL r).getD k [] := rfl
  have g3 : k < (ruL r).length -> (ruL r).getD k [] ∈ ruL r := fun h => getD_mem' h
  with_reducible repeat' (first | apply And.intro | exact flatI | exact flatS | exact rowLens | (intro; skip) | apply obsN | apply obsC | apply obA | apply obM | apply obB | apply svA | apply tupA | apply lcA | apply lcS | apply svC | apply liC | apply lbC | apply lsC | apply vIc | apply vBc | apply vSc | apply vLc | apply mapC | apply hdI | apply mIc | apply mOc | apply mSc | apply mLc | apply Ec_sRulBLa | apply Ec_sRulBLb | apply EW1c_sRulBLb | apply EW1c_sRulBLa | apply c_sBelow)
  all_goals (try simp only [std] at *)
  all_goals (try (first | with_reducible apply c_sBelow | (simp only [<- List.map_append]; first | with_reducible apply c_sBelow)))
  all_goals (try (first | with_reducible rfl | omega | assumption | exact dT ‹_› | exact dF ‹_› | ((first | refine rowGet ?_ | refine getC ?_ rfl); (first | omega | (simp only [std]; omega) | grind)) | exact look_mI | exact look_mO | exact look_mO1 | exact look_mS | exact look_mL | exact upd_mI | exact upd_mO | exact del_mO | exact upd_mS | exact take_mL | (refine upd_mL ?_; grind) | (show (_ : St) = _; rfl) | grind [ruL_cells, rulB, allB, getD_mem', snocI, snocS, rowSnoc]))
theorem Sc_sRulBLa (r : Rules) (n : Int)  : LoopSem Tryz.prog (loopAt Tryz.f85 0) (Ic_sRulBLa r n) (Yc_sRulBLa r n) := by
  refine LoopSem.ofHead wide fun k h => ⟨_, _, run_c_sRulBLa r n k, ?_⟩
  have e : (ruL r).length = 3 := rfl
  have g1 := @take_get _ _ (ruL r) k
  have g2 : (ruL r).getD k default = (ruL r).getD k [] := rfl
  with_reducible repeat' (first | apply And.intro | exact flatI | exact flatS | exact rowLens | (intro; skip) | apply obsN | apply obsC | apply obA | apply obM | apply obB | apply svA | apply tupA | apply lcA | apply lcS | apply svC | apply liC | apply lbC | apply lsC | apply vIc | apply vBc | apply vSc | apply vLc | apply mapC | apply hdI | apply mIc | apply mOc | apply mSc | apply mLc | apply Ec_sRulBLa | apply Ec_sRulBLb | apply Sc_sRulBLb | apply EW1c_sRulBLb | apply EW1c_sRulBLa | apply c_sBelow)
  all_goals (try simp only [std] at *)
  all_goals (try (first | with_reducible apply c_sBelow | (simp only [<- List.map_append]; first | with_reducible apply c_sBelow)))
  all_goals (try (first | with_reducible rfl | omega | assumption | exact dT ‹_› | exact dF ‹_› | ((first | refine rowGet ?_ | refine getC ?_ rfl); (first | omega | (simp only [std]; omega) | grind)) | exact look_mI | exact look_mO | exact look_mO1 | exact look_mS | exact look_mL | exact upd_mI | exact upd_mO | exact del_mO | exact upd_mS | exact take_mL | (refine upd_mL ?_; grind) | (show (_ : St) = _; rfl) | grind [ruL_cells, rulB, snocI, snocS, rowSnoc]))
theorem run_c_sRulB (r : Rules) (n : Int) : aexec Tryz.prog (Tryz.f85.body.getD .skip) (entry [] [rulesA r, li n] 33) [.ghost (.sel [1] [1, 15, 16, 17]),
 .loop 3 (Lc_sRulBLa r n 0) (Ic_sRulBLa r n) [(rulB n r = true, AEx.exit 0, W0c_sRulBLa r n, [.fin []]), (rulB n r = false, AEx.ret, W1c_sRulBLa r n (lb false), [.fin
 []])]] (finK Tryz.prog [ResultVar.tmp 4] [] (AV.sv (lb (rulB n r)))) = (3 <= 9223372036854775807 -> Tc_sRulBLa r n (li 0) (Ob.arr false 1 [[Cell.list (List.map syntaxC
 (Rules.literals r))], [Cell.list (List.map syntaxC (Rules.patterns r))], [Cell.list (List.map syntaxC (Rules.templates r))]]) = Lc_sRulBLa r n 0 /\ Ic_sRulBLa r n 3 (Lc_sRulBLa r n
 0) /\ LoopSem Tryz.prog (loopAt Tryz.f85 0) (Ic_sRulBLa r n) (Yc_sRulBLa r n) /\ (rulB n r = true -> ObsEq [] [] /\ AV.sv (lb true) = AV.sv (lb (rulB n r))) /\ (rulB n r = false ->
 ObsEq [] [] /\ AV.sv (lb false) = AV.sv (lb (rulB n r))) /\ True) := by kernel_rfl
theorem c_sRulB (r : Rules) (n : Int)  : P_c_sRulB r n := by
  refine CallOK.ofRun wide (run_c_sRulB r n) Tryz.call85 Tryz.func85 rfl rfl rfl ?_
  with_reducible repeat' (first | apply And.intro | exact flatI | exact flatS | exact rowLens | (intro; skip) | apply obsN | apply obsC | apply obA | apply obM | apply obB | apply svA | apply tupA | apply lcA | apply lcS | apply svC | apply liC | apply lbC | apply lsC | apply vIc | apply vBc | apply vSc | apply vLc | apply mapC | apply hdI | apply mIc | apply mOc | apply mSc | apply mLc | apply Ec_sRulBLa | apply Sc_sRulBLa | apply Ec_sRulBLb | apply Sc_sRulBLb | apply EW1c_sRulBLb | apply EW1c_sRulBLa | apply c_sBelow)
  all_goals (try simp only [std] at *)
  all_goals (try (first | with_reducible apply c_sBelow | (simp only [<- List.map_append]; first | with_reducible apply c_sBelow)))
  all_goals (try (first | with_reducible rfl | omega | assumption | exact dT ‹_› | exact dF ‹_› | ((first | refine rowGet ?_ | refine getC ?_ rfl); (first | omega | (simp only [std]; omega) | grind)) | exact look_mI | exact look_mO | exact look_mO1 | exact look_mS | exact look_mL | exact upd_mI | exact upd_mO | exact del_mO | exact upd_mS | exact take_mL | (refine upd_mL ?_; grind) | (show (_ : St) = _; rfl) | grind [rulB, snocI, snocS, rowSnoc]))
  all_goals rfl
def bndX (x : Expander) (b : Binding) : Bool := !(decide (0 < (b.scopes.length : Int)) && decide (x.scope < b.scopes.getD ((b.scopes.length : Int) - 1).toNat 0)) && !(decide (b.kind = 3) && decide (x.vari < b.number)) && !(decide (b.kind = 4) && decide ((x.macros.length : Int) <= b.number))
def ruX (x : Expander) (r : Rules) : Bool := isRul r && rulB x.scope r
def isExp (x : Expander) : Bool := areB x.bindings && decide ((x.macros.length : Int) <= 200) && decide (0 <= x.scope /\ x.scope <= 99999) && decide (0 <= x.vari /\ x.vari <= 99999) && decide (0 <= x.steps /\ x.steps <= 200) && x.macros.all (ruX x) && x.bindings.all (bndX x)
theorem bndX_stop {x : Expander} {k : Nat} (hk : k < x.bindings.length) (h : bndX x (x.bindings.getD k default) = false) : x.bindings.all (bndX x) = false := by
  rw [List.all_eq_false]; exact ⟨_, getD_mem' hk, by rw [h]; decide⟩
theorem ruX_stop {x : Expander} {k : Nat} (hk : k < x.macros.length) (h : ruX x (x.macros.getD k default) = false) : x.macros.all (ruX x) = false := by
  rw [List.all_eq_false]; exact ⟨_, getD_mem' hk, by rw [h]; decide⟩
theorem bndX_go {x : Expander} {k : Nat} (hk : k < x.bindings.length) (h0 : (x.bindings.take k).all (bndX x) = true) (h : bndX x (x.bindings.getD k default) = true) : (x.bindings.take (k + 1)).all (bndX x) = true := by
  rw [take_get hk, List.all_append, h0]; simpa using h
theorem ruX_go {x : Expander} {k : Nat} (hk : k < x.macros.length) (h0 : (x.macros.take k).all (ruX x) = true) (h : ruX x (x.macros.getD k default) = true) : (x.macros.take (k + 1)).all (ruX x) = true := by
  rw [take_get hk, List.all_append, h0]; simpa using h
abbrev P_c_sIsExp (x : Expander) : Prop := CallOK Tryz.prog 21 [] [expanderA x] [] (.sv (lb (isExp x)))
def Tc_sIsExpLb (x : Expander) (x0 : SV) : St := St.mk (regsOf 103 [(1, AV.sv (SV.one (AC.ptr 0 0))), (55, AV.sv (ll (List.map bindingC (Expander.bindings x)))), (56, AV.sv (li
 (↑(List.length (List.map bindingC (Expander.bindings x))) : Int))), (57, AV.sv x0)]) [Ob.box (vals (expanderF x))] 0 
def Lc_sIsExpLb (x : Expander) (k : Nat) : St := Tc_sIsExpLb x (li (k : Int)) 
abbrev Ic_sIsExpLb (x : Expander) : Nat -> St -> Prop := Head (Lc_sIsExpLb x) (fun k => k <= List.length (Expander.bindings x) /\ List.length (Expander.bindings x) <= 9223372036854775807 /\
 List.all (List.take k (Expander.bindings x)) (bndX x) = true) fun k => List.length (Expander.bindings x) - k 
def W0c_sIsExpLb (x : Expander) : St := St.mk (regsOf 103 []) [] 0 
def W1c_sIsExpLb (x : Expander) (x0 : SV) : St := St.mk (regsOf 103 [(2, AV.sv x0)]) [] 0 
def Yc_sIsExpLb (x : Expander) : List (Prop × AEx × St) := [(List.all (Expander.bindings x) (bndX x) = true, AEx.exit 2, W0c_sIsExpLb x), (List.all (Expander.bindings x) (bndX x) =
 false, AEx.ret, W1c_sIsExpLb x (lb false))]
def Tc_sIsExpLa (x : Expander) (x0 : SV) : St := St.mk (regsOf 103 [(1, AV.sv (SV.one (AC.ptr 0 0))), (37, AV.sv (ll (List.map rulesC (Expander.macros x)))), (38, AV.sv (li
 (↑(List.length (List.map rulesC (Expander.macros x))) : Int))), (39, AV.sv x0)]) [Ob.box (vals (expanderF x))] 0 
def Lc_sIsExpLa (x : Expander) (k : Nat) : St := Tc_sIsExpLa x (li (k : Int)) 
abbrev Ic_sIsExpLa (x : Expander) : Nat -> St -> Prop := Head (Lc_sIsExpLa x) (fun k => k <= List.length (Expander.macros x) /\ List.length (Expander.macros x) <= 9223372036854775807 /\
 List.all (List.take k (Expander.macros x)) (ruX x) = true) fun k => List.length (Expander.macros x) - k 
def W0c_sIsExpLa (x : Expander) : St := St.mk (regsOf 103 [(1, AV.sv (SV.one (AC.ptr 0 0)))]) [Ob.box (vals (expanderF x))] 0 
def W1c_sIsExpLa (x : Expander) (x0 : SV) : St := St.mk (regsOf 103 [(2, AV.sv x0)]) [] 0 
def Yc_sIsExpLa (x : Expander) : List (Prop × AEx × St) := [(List.all (Expander.macros x) (ruX x) = true, AEx.exit 0, W0c_sIsExpLa x), (List.all (Expander.macros x) (ruX x) =
 false, AEx.ret, W1c_sIsExpLa x (lb false))]

theorem Ec_sIsExpLb {x : Expander} {k : Nat} {x0 : SV} (h0 : x0 = (li (k : Int))) : Tc_sIsExpLb x x0 = Lc_sIsExpLb x k := by
  rw [h0]
  rfl
theorem EW1c_sIsExpLb {x : Expander} {x0 y0 : SV} (h0 : x0 = y0) : W1c_sIsExpLb x x0 = W1c_sIsExpLb x y0 := by rw [h0]
abbrev a3__sIsExpLb (x : Expander) (k : Nat) := (List.getD (Expander.bindings x) k default)
abbrev a1__sIsExpLb (x : Expander) (k : Nat) := (decide (Binding.kind (a3__sIsExpLb x k) = 4) = true -> List.length (List.map rulesC (Expander.macros x)) <= 9223372036854775807 ->
 (decide ((↑(List.length (List.map rulesC (Expander.macros x))) : Int) <= Binding.number (a3__sIsExpLb x k)) = true -> List.all (Expander.bindings x) (bndX x) = false /\ W1c_sIsExpLa
 x (lb false) = W1c_sIsExpLb x (lb false)) /\ (decide ((↑(List.length (List.map rulesC (Expander.macros x))) : Int) <= Binding.number (a3__sIsExpLb x k)) = false -> rng IntKind.i64
 ((k : Int) + 1) /\ List.length (Expander.bindings x) - (k + 1) < List.length (Expander.bindings x) - k /\ Tc_sIsExpLb x (li ((k : Int) + 1)) = Lc_sIsExpLb x (k + 1) /\ Ic_sIsExpLb
 x (List.length (Expander.bindings x) - (k + 1)) (Lc_sIsExpLb x (k + 1))))
abbrev a2__sIsExpLb (x : Expander) (k : Nat) := (decide (Binding.kind (a3__sIsExpLb x k) = 4) = false -> false = false /\ rng IntKind.i64 ((k : Int) + 1) /\ List.length
 (Expander.bindings x) - (k + 1) < List.length (Expander.bindings x) - k /\ Tc_sIsExpLb x (li ((k : Int) + 1)) = Lc_sIsExpLb x (k + 1) /\ Ic_sIsExpLb x (List.length
 (Expander.bindings x) - (k + 1)) (Lc_sIsExpLb x (k + 1)))
abbrev a4__sIsExpLb (x : Expander) (k : Nat) := [Orc.br [Orc.ghost (Ghost.sel [] [2]), Orc.out 1] [Orc.ghost (Ghost.sel [0] [1, 55, 56, 57]), Orc.goto (List.length
 (Expander.bindings x) - (k + 1)) (Lc_sIsExpLb x (k + 1))]]
abbrev a5__sIsExpLb (x : Expander) (k : Nat) := [Orc.bool false, Orc.ghost (Ghost.sel [0] [1, 55, 56, 57]), Orc.goto (List.length (Expander.bindings x) - (k + 1)) (Lc_sIsExpLb x (k
 + 1))]
abbrev a6__sIsExpLb (x : Expander) (k : Nat) := (↑(List.length (List.map intC (Binding.scopes (a3__sIsExpLb x k)))) : Int)
abbrev a7__sIsExpLb (x : Expander) (k : Nat) := (decide (Binding.kind (a3__sIsExpLb x k) = 3) = true -> (decide (Expander.vari x < Binding.number (a3__sIsExpLb x k)) = true -> true =
 true /\ List.all (Expander.bindings x) (bndX x) = false /\ W1c_sIsExpLa x (lb false) = W1c_sIsExpLb x (lb false)) /\ (decide (Expander.vari x < Binding.number (a3__sIsExpLb x k)) =
 false -> (a1__sIsExpLb x k) /\ (a2__sIsExpLb x k)))
theorem run_c_sIsExpLb (x : Expander) (k : Nat) : aexec Tryz.prog (loopAt Tryz.f21 1) (Lc_sIsExpLb x k) [.br [.cells (bindingF (a3__sIsExpLb x k)), .draw [], .br
 [.cells (intC (List.getD (Binding.scopes (a3__sIsExpLb x k)) (Int.toNat ((a6__sIsExpLb x k) - 1)) default)), .br [.bool true, .bool true, .ghost (.sel [] [2]),
 .out 1] [.br [.br [.bool true, .ghost (.sel [] [2]), .out 1] [.br (a4__sIsExpLb x k) (a5__sIsExpLb x k)]] [.bool false, .br (a4__sIsExpLb x k)
 (a5__sIsExpLb x k)]]] [.bool false, .br [.br [.bool true, .ghost (.sel [] [2]), .out 1] [.br (a4__sIsExpLb x k) (a5__sIsExpLb x k)]] [.bool false,
 .br (a4__sIsExpLb x k) (a5__sIsExpLb x k)]]] [.ghost (.sel [] []), .out 0]] (loopK (Ic_sIsExpLb x) (Yc_sIsExpLb x) (List.length (Expander.bindings x) - k)) =
 ((decide ((k : Int) < (↑(List.length (List.map bindingC (Expander.bindings x))) : Int)) = true -> (0 <= (k : Int) /\ (List.map bindingC (Expander.bindings x))[Int.toNat (↑k :
 Int)]? = some (bindingF (a3__sIsExpLb x k))) /\ (List.length (List.map intC (Binding.scopes (a3__sIsExpLb x k))) <= 9223372036854775807 -> (decide (0 < (a6__sIsExpLb x k)) = true ->
 rng .i64 ((a6__sIsExpLb x k) - 1) /\ (0 <= (a6__sIsExpLb x k) - 1 /\ (List.map intC (Binding.scopes (a3__sIsExpLb x k)))[Int.toNat ((a6__sIsExpLb x k) - 1)]? = some [cI
 (List.getD (Binding.scopes (a3__sIsExpLb x k)) (Int.toNat ((a6__sIsExpLb x k) - 1)) 0)]) /\ (decide (Expander.scope x < List.getD (Binding.scopes (a3__sIsExpLb x k)) (Int.toNat
 ((a6__sIsExpLb x k) - 1)) 0) = true -> true = true /\ true = true /\ List.all (Expander.bindings x) (bndX x) = false /\ W1c_sIsExpLa x (lb false) = W1c_sIsExpLb x (lb false)) /\
 (decide (Expander.scope x < List.getD (Binding.scopes (a3__sIsExpLb x k)) (Int.toNat ((a6__sIsExpLb x k) - 1)) 0) = false -> (a7__sIsExpLb x k) /\ (decide (Binding.kind
 (a3__sIsExpLb x k) = 3) = false -> false = false /\ (a1__sIsExpLb x k) /\ (a2__sIsExpLb x k)))) /\ (decide (0 < (a6__sIsExpLb x k)) = false -> false = false /\ (a7__sIsExpLb x k) /\
 (decide (Binding.kind (a3__sIsExpLb x k) = 3) = false -> false = false /\ (a1__sIsExpLb x k) /\ (a2__sIsExpLb x k))))) /\ (decide ((k : Int) < (↑(List.length (List.map bindingC
 (Expander.bindings x))) : Int)) = false -> List.all (Expander.bindings x) (bndX x) = true /\ W0c_sIsExpLb x = W0c_sIsExpLb x)) := by kernel_rfl

theorem Ec_sIsExpLa {x : Expander} {k : Nat} {x0 : SV} (h0 : x0 = (li (k : Int))) : Tc_sIsExpLa x x0 = Lc_sIsExpLa x k := by
  rw [h0]
  rfl
theorem EW1c_sIsExpLa {x : Expander} {x0 y0 : SV} (h0 : x0 = y0) : W1c_sIsExpLa x x0 = W1c_sIsExpLa x y0 := by rw [h0]
abbrev a1_c_sIsExpLa (x : Expander) (k : Nat) := (List.getD (Expander.macros x) k default)
theorem run_c_sIsExpLa (x : Expander) (k : Nat) : aexec Tryz.prog (loopAt Tryz.f21 0) (Lc_sIsExpLa x k) [.br [.cells (rulesF (a1_c_sIsExpLa x k)), .call [Mode.rd] []
 (AV.sv (lb (isRul (a1_c_sIsExpLa x k)))), .br [.bool true, .ghost (.sel [] [2]), .out 1] [.call [Mode.rd, Mode.rd] [] (AV.sv (lb (rulB (Expander.scope x)
 (a1_c_sIsExpLa x k)))), .br [.ghost (.sel [] [2]), .out 1] [.ghost (.sel [0] [1, 37, 38, 39]), .goto (List.length (Expander.macros x) - (k + 1))
 (Lc_sIsExpLa x (k + 1))]]] [.ghost (.sel [0] [1]), .out 0]] (loopK (Ic_sIsExpLa x) (Yc_sIsExpLa x) (List.length (Expander.macros x) - k)) = ((decide ((k : Int) <
 (↑(List.length (List.map rulesC (Expander.macros x))) : Int)) = true -> (0 <= (k : Int) /\ (List.map rulesC (Expander.macros x))[Int.toNat (k : Int)]? = some (rulesF (a1_c_sIsExpLa
 x k))) /\ P_c_sIsRules (a1_c_sIsExpLa x k) /\ ((!isRul (a1_c_sIsExpLa x k)) = true -> true = true /\ List.all (Expander.macros x) (ruX x) = false /\ W1c_sIsExpLa x (lb false) =
 W1c_sIsExpLa x (lb false)) /\ ((!isRul (a1_c_sIsExpLa x k)) = false -> P_c_sRulB (a1_c_sIsExpLa x k) (Expander.scope x) /\ ((!rulB (Expander.scope x) (a1_c_sIsExpLa x k)) = true ->
 List.all (Expander.macros x) (ruX x) = false /\ W1c_sIsExpLa x (lb false) = W1c_sIsExpLa x (lb false)) /\ ((!rulB (Expander.scope x) (a1_c_sIsExpLa x k)) = false -> rng .i64
 ((k : Int) + 1) /\ List.length (Expander.macros x) - (k + 1) < List.length (Expander.macros x) - k /\ Tc_sIsExpLa x (li ((k : Int) + 1)) = Lc_sIsExpLa x (k + 1) /\ Ic_sIsExpLa x
 (List.length (Expander.macros x) - (k + 1)) (Lc_sIsExpLa x (k + 1))))) /\ (decide ((k : Int) < (↑(List.length (List.map rulesC (Expander.macros x))) : Int)) = false -> List.all
 (Expander.macros x) (ruX x) = true /\ W0c_sIsExpLa x = W0c_sIsExpLa x)) := by kernel_rfl
theorem Sc_sIsExpLb (x : Expander) (h : wX x <= 1048576)  : LoopSem Tryz.prog (loopAt Tryz.f21 1) (Ic_sIsExpLb x) (Yc_sIsExpLb x) := by
  refine LoopSem.ofHead wide fun k h => ⟨_, _, run_c_sIsExpLb x k, ?_⟩
  try delta a3__sIsExpLb a1__sIsExpLb a2__sIsExpLb a4__sIsExpLb a5__sIsExpLb a6__sIsExpLb a7__sIsExpLb
  have g1 := wX_eq x
  have g2 := @sumBy_mem _ wB x.bindings (x.bindings.getD k default)
  have g3 := @bndX_stop x k
  have g4 := @bndX_go x k
  have g5 : bndX x (x.bindings.getD k default) = (!(decide (0 < ((x.bindings.getD k default).scopes.length : Int)) && decide (x.scope < (x.bindings.getD k default).scopes.getD (((x.bindings.getD k default).scopes.length : Int) - 1).toNat 0)) && !(decide ((x.bindings.getD k default).kind = 3) && decide (x.vari < (x.bindings.getD k default).number)) && !(decide ((x.bindings.getD k default).kind = 4) && decide ((x.macros.length : Int) <= (x.bindings.getD k default).number))) := rfl
  have g6 : x.bindings.length <= k -> x.bindings.take k = x.bindings := fun h => List.take_of_length_le h
  have g7 := wB_eq (x.bindings.getD k default)
  with_reducible repeat' (first | apply And.intro | exact flatI | exact flatS | exact rowLens | (intro; skip) | apply obsN | apply obsC | apply obA | apply obM | apply obB | apply svA | apply tupA | apply lcA | apply lcS | apply svC | apply liC | apply lbC | apply lsC | apply vIc | apply vBc | apply vSc | apply vLc | apply mapC | apply hdI | apply mIc | apply mOc | apply mSc | apply mLc | apply Ec_sIsExpLa | apply Ec_sIsExpLb | apply EW1c_sIsExpLb | apply EW1c_sIsExpLa | apply c_sAre | apply c_l1In | apply c_sIsRules | apply c_sRulB)
  all_goals (try simp only [std] at *)
  all_goals (try (first | with_reducible apply c_sAre | with_reducible apply c_l1In | with_reducible apply c_sIsRules | with_reducible apply c_sRulB | (simp only [<- List.map_append]; first | with_reducible apply c_sAre | with_reducible apply c_l1In | with_reducible apply c_sIsRules | with_reducible apply c_sRulB)))
  all_goals (try (first | with_reducible rfl | omega | assumption | exact dT ‹_› | exact dF ‹_› | ((first | refine rowGet ?_ | refine getC ?_ rfl); (first | omega | (simp only [std]; omega) | grind)) | exact look_mI | exact look_mO | exact look_mO1 | exact look_mS | exact look_mL | exact upd_mI | exact upd_mO | exact del_mO | exact upd_mS | exact take_mL | (refine upd_mL ?_; grind) | (show (_ : St) = _; rfl) | grind [getD_mem', snocI, snocS, rowSnoc]))
theorem Sc_sIsExpLa (x : Expander) (h : wX x <= 1048576)  : LoopSem Tryz.prog (loopAt Tryz.f21 0) (Ic_sIsExpLa x) (Yc_sIsExpLa x) := by
  refine LoopSem.ofHead wide fun k h => ⟨_, _, run_c_sIsExpLa x k, ?_⟩
  try delta a1_c_sIsExpLa
  have g1 := wX_eq x
  have g2 := @sumBy_mem _ wR x.macros (x.macros.getD k default)
  have g3 := @ruX_stop x k
  have g4 := @ruX_go x k
  have g5 : ruX x (x.macros.getD k default) = (isRul (x.macros.getD k default) && rulB x.scope (x.macros.getD k default)) := rfl
  have g6 : x.macros.length <= k -> x.macros.take k = x.macros := fun h => List.take_of_length_le h
  with_reducible repeat' (first | apply And.intro | exact flatI | exact flatS | exact rowLens | (intro; skip) | apply obsN | apply obsC | apply obA | apply obM | apply obB | apply svA | apply tupA | apply lcA | apply lcS | apply svC | apply liC | apply lbC | apply lsC | apply vIc | apply vBc | apply vSc | apply vLc | apply mapC | apply hdI | apply mIc | apply mOc | apply mSc | apply mLc | apply Ec_sIsExpLa | apply Ec_sIsExpLb | apply Sc_sIsExpLb | apply EW1c_sIsExpLb | apply EW1c_sIsExpLa | apply c_sAre | apply c_l1In | apply c_sIsRules | apply c_sRulB)
  all_goals (try simp only [std] at *)
  all_goals (try (first | with_reducible apply c_sAre | with_reducible apply c_l1In | with_reducible apply c_sIsRules | with_reducible apply c_sRulB | (simp only [<- List.map_append]; first | with_reducible apply c_sAre | with_reducible apply c_l1In | with_reducible apply c_sIsRules | with_reducible apply c_sRulB)))
  all_goals (try (first | with_reducible rfl | omega | assumption | exact dT ‹_› | exact dF ‹_› | ((first | refine rowGet ?_ | refine getC ?_ rfl); (first | omega | (simp only [std]; omega) | grind)) | exact look_mI | exact look_mO | exact look_mO1 | exact look_mS | exact look_mL | exact upd_mI | exact upd_mO | exact del_mO | exact upd_mS | exact take_mL | (refine upd_mL ?_; grind) | (show (_ : St) = _; rfl) | grind [getD_mem', snocI, snocS, rowSnoc]))
theorem run_c_sIsExp (x : Expander) : aexec Tryz.prog (Tryz.f21.body.getD .skip) (entry [] [expanderA x] 103) [.call [Mode.rd] [] (AV.sv (lb (areB
 (Expander.bindings x)))), .br [.bool true, .bool true, .bool true, .bool true, .fin []] [.br [.bool true, .bool true, .bool true, .fin []]
 [.call [Mode.rd, Mode.rd, Mode.rd] [] (AV.sv (lb (decide (0 <= Expander.scope x /\ Expander.scope x <= 99999)))), .br [.bool true, .bool true, .fin []] [.call
 [Mode.rd, Mode.rd, Mode.rd] [] (AV.sv (lb (decide (0 <= Expander.vari x /\ Expander.vari x <= 99999)))), .br [.bool true, .fin []] [.call [Mode.rd, Mode.rd, Mode.rd] []
 (AV.sv (lb (decide (0 <= Expander.steps x /\ Expander.steps x <= 200)))), .br [.fin []] [.ghost (.sel [0] [1, 37, 38, 39]), .loop (List.length (Expander.macros x) -
 0) (Lc_sIsExpLa x 0) (Ic_sIsExpLa x) [(List.all (Expander.macros x) (ruX x) = true, AEx.exit 0, W0c_sIsExpLa x, [.ghost (.sel [0] [1, 55, 56, 57]), .loop (List.length
 (Expander.bindings x) - 0) (Lc_sIsExpLb x 0) (Ic_sIsExpLb x) [(List.all (Expander.bindings x) (bndX x) = true, AEx.exit 2, W0c_sIsExpLb x, [.fin []]), (List.all
 (Expander.bindings x) (bndX x) = false, AEx.ret, W1c_sIsExpLb x (lb false), [.fin []])]]), (List.all (Expander.macros x) (ruX x) = false, AEx.ret, W1c_sIsExpLa x (lb false),
 [.fin []])]]]]]]] (finK Tryz.prog [ResultVar.tmp 2] [] (AV.sv (lb (isExp x)))) = (P_c_sAre (Expander.bindings x) /\ ((!areB (Expander.bindings x)) = true -> true = true /\ true =
 true /\ true = true /\ true = true /\ ObsEq [] [] /\ AV.sv (lb false) = AV.sv (lb (isExp x))) /\ ((!areB (Expander.bindings x)) = false -> List.length (List.map rulesC (Expander.macros
 x)) <= 9223372036854775807 -> (decide (200 < (↑(List.length (List.map rulesC (Expander.macros x))) : Int)) = true -> true = true /\ true = true /\ true = true /\ ObsEq [] [] /\ AV.sv (lb
 false) = AV.sv (lb (isExp x))) /\ (decide (200 < (↑(List.length (List.map rulesC (Expander.macros x))) : Int)) = false -> P_c_l1In (Expander.scope x) 0 99999 /\ ((!decide (0 <=
 Expander.scope x /\ Expander.scope x <= 99999)) = true -> true = true /\ true = true /\ ObsEq [] [] /\ AV.sv (lb false) = AV.sv (lb (isExp x))) /\ ((!decide (0 <= Expander.scope x /\
 Expander.scope x <= 99999)) = false -> P_c_l1In (Expander.vari x) 0 99999 /\ ((!decide (0 <= Expander.vari x /\ Expander.vari x <= 99999)) = true -> true = true /\ ObsEq [] [] /\ AV.sv (lb
 false) = AV.sv (lb (isExp x))) /\ ((!decide (0 <= Expander.vari x /\ Expander.vari x <= 99999)) = false -> P_c_l1In (Expander.steps x) 0 200 /\ ((!decide (0 <= Expander.steps x /\
 Expander.steps x <= 200)) = true -> ObsEq [] [] /\ AV.sv (lb false) = AV.sv (lb (isExp x))) /\ ((!decide (0 <= Expander.steps x /\ Expander.steps x <= 200)) = false -> List.length
 (List.map rulesC (Expander.macros x)) <= 9223372036854775807 -> Tc_sIsExpLa x (li 0) = Lc_sIsExpLa x 0 /\ Ic_sIsExpLa x (List.length (Expander.macros x) - 0) (Lc_sIsExpLa x 0) /\
 LoopSem Tryz.prog (loopAt Tryz.f21 0) (Ic_sIsExpLa x) (Yc_sIsExpLa x) /\ (List.all (Expander.macros x) (ruX x) = true -> List.length (List.map bindingC (Expander.bindings x)) <=
 9223372036854775807 -> Tc_sIsExpLb x (li 0) = Lc_sIsExpLb x 0 /\ Ic_sIsExpLb x (List.length (Expander.bindings x) - 0) (Lc_sIsExpLb x 0) /\ LoopSem Tryz.prog (loopAt Tryz.f21 1)
 (Ic_sIsExpLb x) (Yc_sIsExpLb x) /\ (List.all (Expander.bindings x) (bndX x) = true -> ObsEq [] [] /\ AV.sv (lb true) = AV.sv (lb (isExp x))) /\ (List.all (Expander.bindings x) (bndX
 x) = false -> ObsEq [] [] /\ AV.sv (lb false) = AV.sv (lb (isExp x))) /\ True) /\ (List.all (Expander.macros x) (ruX x) = false -> ObsEq [] [] /\ AV.sv (lb false) = AV.sv (lb (isExp
 x))) /\ True)))))) := by kernel_rfl
theorem c_sIsExp (x : Expander) (h : wX x <= 1048576)  : P_c_sIsExp x := by
  refine CallOK.ofRun wide (run_c_sIsExp x) Tryz.call21 Tryz.func21 rfl rfl rfl ?_
  with_reducible repeat' (first | apply And.intro | exact flatI | exact flatS | exact rowLens | (intro; skip) | apply obsN | apply obsC | apply obA | apply obM | apply obB | apply svA | apply tupA | apply lcA | apply lcS | apply svC | apply liC | apply lbC | apply lsC | apply vIc | apply vBc | apply vSc | apply vLc | apply mapC | apply hdI | apply mIc | apply mOc | apply mSc | apply mLc | apply Ec_sIsExpLa | apply Sc_sIsExpLa | apply Ec_sIsExpLb | apply Sc_sIsExpLb | apply EW1c_sIsExpLb | apply EW1c_sIsExpLa | apply c_sAre | apply c_l1In | apply c_sIsRules | apply c_sRulB)
  all_goals (try simp only [std] at *)
  all_goals (try (first | with_reducible apply c_sAre | with_reducible apply c_l1In | with_reducible apply c_sIsRules | with_reducible apply c_sRulB | (simp only [<- List.map_append]; first | with_reducible apply c_sAre | with_reducible apply c_l1In | with_reducible apply c_sIsRules | with_reducible apply c_sRulB)))
  all_goals (try (first | with_reducible rfl | omega | assumption | exact dT ‹_› | exact dF ‹_› | ((first | refine rowGet ?_ | refine getC ?_ rfl); (first | omega | (simp only [std]; omega) | grind)) | exact look_mI | exact look_mO | exact look_mO1 | exact look_mS | exact look_mL | exact upd_mI | exact upd_mO | exact del_mO | exact upd_mS | exact take_mL | (refine upd_mL ?_; grind) | (show (_ : St) = _; rfl) | grind [isExp, snocI, snocS, rowSnoc]))
abbrev P_c_iIsExp (x : Expander) : Prop := CallOK Tryz.prog 23 [] [expanderA x] [] (.sv (lb (isExp x)))
def Tc_iIsExpLb (x : Expander) (x0 : SV) : St := St.mk (regsOf 115 [(1, AV.sv (SV.one (AC.ptr 0 0))), (66, AV.sv (ll (List.map bindingC (Expander.bindings x)))), (67, AV.sv (li
 (↑(List.length (List.map bindingC (Expander.bindings x))) : Int))), (68, AV.sv x0)]) [Ob.box (vals (expanderF x))] 0 
def Lc_iIsExpLb (x : Expander) (k : Nat) : St := Tc_iIsExpLb x (li (k : Int)) 
abbrev Ic_iIsExpLb (x : Expander) : Nat -> St -> Prop := Head (Lc_iIsExpLb x) (fun k => k <= List.length (Expander.bindings x) /\ List.length (Expander.bindings x) <= 9223372036854775807 /\
 List.all (List.take k (Expander.bindings x)) (bndX x) = true) fun k => List.length (Expander.bindings x) - k 
def W0c_iIsExpLb (x : Expander) : St := St.mk (regsOf 115 []) [] 0 
def W1c_iIsExpLb (x : Expander) (x0 : SV) : St := St.mk (regsOf 115 [(2, AV.sv x0)]) [] 0 
def Yc_iIsExpLb (x : Expander) : List (Prop × AEx × St) := [(List.all (Expander.bindings x) (bndX x) = true, AEx.exit 2, W0c_iIsExpLb x), (List.all (Expander.bindings x) (bndX x) =
 false, AEx.ret, W1c_iIsExpLb x (lb false))]
def Tc_iIsExpLa (x : Expander) (x0 : SV) : St := St.mk (regsOf 115 [(1, AV.sv (SV.one (AC.ptr 0 0))), (48, AV.sv (ll (List.map rulesC (Expander.macros x)))), (49, AV.sv (li
 (↑(List.length (List.map rulesC (Expander.macros x))) : Int))), (50, AV.sv x0)]) [Ob.box (vals (expanderF x))] 0 
def Lc_iIsExpLa (x : Expander) (k : Nat) : St := Tc_iIsExpLa x (li (k : Int)) 
abbrev Ic_iIsExpLa (x : Expander) : Nat -> St -> Prop := Head (Lc_iIsExpLa x) (fun k => k <= List.length (Expander.macros x) /\ List.length (Expander.macros x) <= 9223372036854775807 /\
 List.all (List.take k (Expander.macros x)) (ruX x) = true) fun k => List.length (Expander.macros x) - k 
def W0c_iIsExpLa (x : Expander) : St := St.mk (regsOf 115 [(1, AV.sv (SV.one (AC.ptr 0 0)))]) [Ob.box (vals (expanderF x))] 0 
def W1c_iIsExpLa (x : Expander) (x0 : SV) : St := St.mk (regsOf 115 [(2, AV.sv x0)]) [] 0 
def Yc_iIsExpLa (x : Expander) : List (Prop × AEx × St) := [(List.all (Expander.macros x) (ruX x) = true, AEx.exit 0, W0c_iIsExpLa x), (List.all (Expander.macros x) (ruX x) =
 false, AEx.ret, W1c_iIsExpLa x (lb false))]

theorem Ec_iIsExpLb {x : Expander} {k : Nat} {x0 : SV} (h0 : x0 = (li (k : Int))) : Tc_iIsExpLb x x0 = Lc_iIsExpLb x k := by
  rw [h0]
  rfl
theorem EW1c_iIsExpLb {x : Expander} {x0 y0 : SV} (h0 : x0 = y0) : W1c_iIsExpLb x x0 = W1c_iIsExpLb x y0 := by rw [h0]
abbrev a1__iIsExpLb (x : Expander) (k : Nat) := (List.getD (Expander.bindings x) k default)
abbrev a2__iIsExpLb (x : Expander) (k : Nat) := (decide ((↑(List.length (List.map rulesC (Expander.macros x))) : Int) <= Binding.number (a1__iIsExpLb x k)) = false -> rng IntKind.i64
 ((k : Int) + 1) /\ List.length (Expander.bindings x) - (k + 1) < List.length (Expander.bindings x) - k /\ Tc_iIsExpLb x (li ((k : Int) + 1)) = Lc_iIsExpLb x (k + 1) /\ Ic_iIsExpLb
 x (List.length (Expander.bindings x) - (k + 1)) (Lc_iIsExpLb x (k + 1)))
abbrev a3__iIsExpLb (x : Expander) (k : Nat) := (List.map intC (Binding.scopes (a1__iIsExpLb x k)))
abbrev a4__iIsExpLb (x : Expander) (k : Nat) := [Orc.br [Orc.ghost (Ghost.sel [] [2]), Orc.out 1] [Orc.ghost (Ghost.sel [0] [1, 66, 67, 68]), Orc.goto (List.length
 (Expander.bindings x) - (k + 1)) (Lc_iIsExpLb x (k + 1))]]
abbrev a5__iIsExpLb (x : Expander) (k : Nat) := (decide ((↑(List.length (List.map rulesC (Expander.macros x))) : Int) <= Binding.number (a1__iIsExpLb x k)) = true -> List.all
 (Expander.bindings x) (bndX x) = false /\ W1c_iIsExpLa x (lb false) = W1c_iIsExpLb x (lb false))
abbrev a6__iIsExpLb (x : Expander) (k : Nat) := [Orc.bool false, Orc.ghost (Ghost.sel [0] [1, 66, 67, 68]), Orc.goto (List.length (Expander.bindings x) - (k + 1)) (Lc_iIsExpLb x (k
 + 1))]
abbrev a7__iIsExpLb (x : Expander) (k : Nat) := (decide (Binding.kind (a1__iIsExpLb x k) = 4) = false -> List.length (a3__iIsExpLb x k) <= 9223372036854775807 -> List.length
 (a3__iIsExpLb x k) <= 9223372036854775807 -> false = false /\ rng IntKind.i64 ((k : Int) + 1) /\ List.length (Expander.bindings x) - (k + 1) < List.length (Expander.bindings x) - k /\
 Tc_iIsExpLb x (li ((k : Int) + 1)) = Lc_iIsExpLb x (k + 1) /\ Ic_iIsExpLb x (List.length (Expander.bindings x) - (k + 1)) (Lc_iIsExpLb x (k + 1)))
abbrev a8__iIsExpLb (x : Expander) (k : Nat) := (decide (Binding.kind (a1__iIsExpLb x k) = 4) = false -> List.length (a3__iIsExpLb x k) <= 9223372036854775807 -> false = false /\ rng
 IntKind.i64 ((k : Int) + 1) /\ List.length (Expander.bindings x) - (k + 1) < List.length (Expander.bindings x) - k /\ Tc_iIsExpLb x (li ((k : Int) + 1)) = Lc_iIsExpLb x (k + 1) /\
 Ic_iIsExpLb x (List.length (Expander.bindings x) - (k + 1)) (Lc_iIsExpLb x (k + 1)))
abbrev a9__iIsExpLb (x : Expander) (k : Nat) := (decide (Binding.kind (a1__iIsExpLb x k) = 4) = true -> List.length (a3__iIsExpLb x k) <= 9223372036854775807 -> List.length
 (a3__iIsExpLb x k) <= 9223372036854775807 -> List.length (List.map rulesC (Expander.macros x)) <= 9223372036854775807 -> (a5__iIsExpLb x k) /\ (a2__iIsExpLb x k))
abbrev a10__iIsExpLb (x : Expander) (k : Nat) := (decide (Binding.kind (a1__iIsExpLb x k) = 4) = true -> List.length (a3__iIsExpLb x k) <= 9223372036854775807 -> List.length (List.map
 rulesC (Expander.macros x)) <= 9223372036854775807 -> (a5__iIsExpLb x k) /\ (a2__iIsExpLb x k))
theorem run_c_iIsExpLb (x : Expander) (k : Nat) : aexec Tryz.prog (loopAt Tryz.f23 1) (Lc_iIsExpLb x k) [.br [.cells (bindingF (a1__iIsExpLb x k)), .draw [], .br
 [.cells (intC (List.getD (Binding.scopes (a1__iIsExpLb x k)) (Int.toNat ((↑(List.length (a3__iIsExpLb x k)) : Int) - 1)) default)), .br [.bool true, .bool true,
 .ghost (.sel [] [2]), .out 1] [.br [.br [.bool true, .ghost (.sel [] [2]), .out 1] [.br (a4__iIsExpLb x k) (a6__iIsExpLb x k)]] [.bool false,
 .br (a4__iIsExpLb x k) (a6__iIsExpLb x k)]]] [.bool false, .br [.br [.bool true, .ghost (.sel [] [2]), .out 1] [.br (a4__iIsExpLb x k) (a6__iIsExpLb x
 k)]] [.bool false, .br (a4__iIsExpLb x k) (a6__iIsExpLb x k)]]] [.ghost (.sel [] []), .out 0]] (loopK (Ic_iIsExpLb x) (Yc_iIsExpLb x) (List.length
 (Expander.bindings x) - k)) = ((decide ((k : Int) < (↑(List.length (List.map bindingC (Expander.bindings x))) : Int)) = true -> (0 <= (k : Int) /\ (List.map bindingC
 (Expander.bindings x))[Int.toNat (k : Int)]? = some (bindingF (a1__iIsExpLb x k))) /\ (decide (0 < (↑(List.length (a3__iIsExpLb x k)) : Int)) = true -> rng .i64
 ((↑(List.length (a3__iIsExpLb x k)) : Int) - 1) /\ (0 <= (↑(List.length (a3__iIsExpLb x k)) : Int) - 1 /\ (a3__iIsExpLb x k)[Int.toNat ((↑(List.length (a3__iIsExpLb x k)) : Int) -
 1)]? = some [cI (List.getD (Binding.scopes (a1__iIsExpLb x k)) (Int.toNat ((↑(List.length (a3__iIsExpLb x k)) : Int) - 1)) 0)]) /\ (decide (Expander.scope x < List.getD
 (Binding.scopes (a1__iIsExpLb x k)) (Int.toNat ((↑(List.length (a3__iIsExpLb x k)) : Int) - 1)) 0) = true -> true = true /\ (List.length (a3__iIsExpLb x k) <= 9223372036854775807 ->
 List.length (a3__iIsExpLb x k) <= 9223372036854775807 -> true = true /\ List.all (Expander.bindings x) (bndX x) = false /\ W1c_iIsExpLa x (lb false) = W1c_iIsExpLb x (lb false))) /\
 (decide (Expander.scope x < List.getD (Binding.scopes (a1__iIsExpLb x k)) (Int.toNat ((↑(List.length (a3__iIsExpLb x k)) : Int) - 1)) 0) = false -> (decide (Binding.kind
 (a1__iIsExpLb x k) = 3) = true -> (decide (Expander.vari x < Binding.number (a1__iIsExpLb x k)) = true -> List.length (a3__iIsExpLb x k) <= 9223372036854775807 -> List.length
 (a3__iIsExpLb x k) <= 9223372036854775807 -> true = true /\ List.all (Expander.bindings x) (bndX x) = false /\ W1c_iIsExpLa x (lb false) = W1c_iIsExpLb x (lb false)) /\ (decide
 (Expander.vari x < Binding.number (a1__iIsExpLb x k)) = false -> (a9__iIsExpLb x k) /\ (a7__iIsExpLb x k))) /\ (decide (Binding.kind (a1__iIsExpLb x k) = 3) = false -> false = false /\
 (a9__iIsExpLb x k) /\ (a7__iIsExpLb x k)))) /\ (decide (0 < (↑(List.length (a3__iIsExpLb x k)) : Int)) = false -> false = false /\ (decide (Binding.kind (a1__iIsExpLb x k) = 3) = true
 -> (decide (Expander.vari x < Binding.number (a1__iIsExpLb x k)) = true -> List.length (a3__iIsExpLb x k) <= 9223372036854775807 -> true = true /\ List.all (Expander.bindings x) (bndX
 x) = false /\ W1c_iIsExpLa x (lb false) = W1c_iIsExpLb x (lb false)) /\ (decide (Expander.vari x < Binding.number (a1__iIsExpLb x k)) = false -> (a10__iIsExpLb x k) /\ (a8__iIsExpLb x
 k))) /\ (decide (Binding.kind (a1__iIsExpLb x k) = 3) = false -> false = false /\ (a10__iIsExpLb x k) /\ (a8__iIsExpLb x k)))) /\ (decide ((k : Int) < (↑(List.length (List.map
 bindingC (Expander.bindings x))) : Int)) = false -> List.all (Expander.bindings x) (bndX x) = true /\ W0c_iIsExpLb x = W0c_iIsExpLb x)) := by kernel_rfl

theorem Ec_iIsExpLa {x : Expander} {k : Nat} {x0 : SV} (h0 : x0 = (li (k : Int))) : Tc_iIsExpLa x x0 = Lc_iIsExpLa x k := by
  rw [h0]
  rfl
theorem EW1c_iIsExpLa {x : Expander} {x0 y0 : SV} (h0 : x0 = y0) : W1c_iIsExpLa x x0 = W1c_iIsExpLa x y0 := by rw [h0]
abbrev a1_c_iIsExpLa (x : Expander) (k : Nat) := (List.getD (Expander.macros x) k default)
theorem run_c_iIsExpLa (x : Expander) (k : Nat) : aexec Tryz.prog (loopAt Tryz.f23 0) (Lc_iIsExpLa x k) [.br [.cells (rulesF (a1_c_iIsExpLa x k)), .call [Mode.rd] []
 (AV.sv (lb (isRul (a1_c_iIsExpLa x k)))), .br [.bool true, .ghost (.sel [] [2]), .out 1] [.call [Mode.rd, Mode.rd] [] (AV.sv (lb (rulB (Expander.scope x)
 (a1_c_iIsExpLa x k)))), .br [.ghost (.sel [] [2]), .out 1] [.ghost (.sel [0] [1, 48, 49, 50]), .goto (List.length (Expander.macros x) - (k + 1))
 (Lc_iIsExpLa x (k + 1))]]] [.ghost (.sel [0] [1]), .out 0]] (loopK (Ic_iIsExpLa x) (Yc_iIsExpLa x) (List.length (Expander.macros x) - k)) = ((decide ((k : Int) <
 (↑(List.length (List.map rulesC (Expander.macros x))) : Int)) = true -> (0 <= (k : Int) /\ (List.map rulesC (Expander.macros x))[Int.toNat (k : Int)]? = some (rulesF (a1_c_iIsExpLa
 x k))) /\ P_c_iIsRules (a1_c_iIsExpLa x k) /\ ((!isRul (a1_c_iIsExpLa x k)) = true -> true = true /\ List.all (Expander.macros x) (ruX x) = false /\ W1c_iIsExpLa x (lb false) =
 W1c_iIsExpLa x (lb false)) /\ ((!isRul (a1_c_iIsExpLa x k)) = false -> P_c_iRulB (a1_c_iIsExpLa x k) (Expander.scope x) /\ ((!rulB (Expander.scope x) (a1_c_iIsExpLa x k)) = true ->
 List.all (Expander.macros x) (ruX x) = false /\ W1c_iIsExpLa x (lb false) = W1c_iIsExpLa x (lb false)) /\ ((!rulB (Expander.scope x) (a1_c_iIsExpLa x k)) = false -> rng .i64
 ((k : Int) + 1) /\ List.length (Expander.macros x) - (k + 1) < List.length (Expander.macros x) - k /\ Tc_iIsExpLa x (li ((k : Int) + 1)) = Lc_iIsExpLa x (k + 1) /\ Ic_iIsExpLa x
 (List.length (Expander.macros x) - (k + 1)) (Lc_iIsExpLa x (k + 1))))) /\ (decide ((k : Int) < (↑(List.length (List.map rulesC (Expander.macros x))) : Int)) = false -> List.all
 (Expander.macros x) (ruX x) = true /\ W0c_iIsExpLa x = W0c_iIsExpLa x)) := by kernel_rfl
theorem Sc_iIsExpLb (x : Expander) (h : wX x <= 1048576)  : LoopSem Tryz.prog (loopAt Tryz.f23 1) (Ic_iIsExpLb x) (Yc_iIsExpLb x) := by
  refine LoopSem.ofHead wide fun k h => ⟨_, _, run_c_iIsExpLb x k, ?_⟩
  try delta a1__iIsExpLb a2__iIsExpLb a3__iIsExpLb a4__iIsExpLb a5__iIsExpLb a6__iIsExpLb a7__iIsExpLb a8__iIsExpLb a9__iIsExpLb a10__iIsExpLb
  have g1 := wX_eq x
  have g2 := @sumBy_mem _ wB x.bindings (x.bindings.getD k default)
  have g3 := @bndX_stop x k
  have g4 := @bndX_go x k
  have g5 : bndX x (x.bindings.getD k default) = (!(decide (0 < ((x.bindings.getD k default).scopes.length : Int)) && decide (x.scope < (x.bindings.getD k default).scopes.getD (((x.bindings.getD k default).scopes.length : Int) - 1).toNat 0)) && !(decide ((x.bindings.getD k default).kind = 3) && decide (x.vari < (x.bindings.getD k default).number)) && !(decide ((x.bindings.getD k default).kind = 4) && decide ((x.macros.length : Int) <= (x.bindings.getD k default).number))) := rfl
  have g6 : x.bindings.length <= k -> x.bindings.take k = x.bindings := fun h => List.take_of_length_le h
  have g7 := wB_eq (x.bindings.getD k default)
  with_reducible repeat' (first | apply And.intro | exact flatI | exact flatS | exact rowLens | (intro; skip) | apply obsN | apply obsC | apply obA | apply obM | apply obB | apply svA | apply tupA | apply lcA | apply lcS | apply svC | apply liC | apply lbC | apply lsC | apply vIc | apply vBc | apply vSc | apply vLc | apply mapC | apply hdI | apply mIc | apply mOc | apply mSc | apply mLc | apply Ec_iIsExpLa | apply Ec_iIsExpLb | apply EW1c_iIsExpLb | apply EW1c_iIsExpLa | apply c_iAre | apply c_l1In | apply c_iIsRules | apply c_iRulB)
  all_goals (try simp only [std] at *)
  all_goals (try (first | with_reducible apply c_iAre | with_reducible apply c_l1In | with_reducible apply c_iIsRules | with_reducible apply c_iRulB | (simp only [<- List.map_append]; first | with_reducible apply c_iAre | with_reducible apply c_l1In | with_reducible apply c_iIsRules | with_reducible apply c_iRulB)))
  all_goals (try (first | with_reducible rfl | omega | assumption | exact dT ‹_› | exact dF ‹_› | ((first | refine rowGet ?_ | refine getC ?_ rfl); (first | omega | (simp only [std]; omega) | grind)) | exact look_mI | exact look_mO | exact look_mO1 | exact look_mS | exact look_mL | exact upd_mI | exact upd_mO | exact del_mO | exact upd_mS | exact take_mL | (refine upd_mL ?_; grind) | (show (_ : St) = _; rfl) | grind [getD_mem', snocI, snocS, rowSnoc]))
theorem Sc_iIsExpLa (x : Expander) (h : wX x <= 1048576)  : LoopSem Tryz.prog (loopAt Tryz.f23 0) (Ic_iIsExpLa x) (Yc_iIsExpLa x) := by
  refine LoopSem.ofHead wide fun k h => ⟨_, _, run_c_iIsExpLa x k, ?_⟩
  try delta a1_c_iIsExpLa
  have g1 := wX_eq x
  have g2 := @sumBy_mem _ wR x.macros (x.macros.getD k default)
  have g3 := @ruX_stop x k
  have g4 := @ruX_go x k
  have g5 : ruX x (x.macros.getD k default) = (isRul (x.macros.getD k default) && rulB x.scope (x.macros.getD k default)) := rfl
  have g6 : x.macros.length <= k -> x.macros.take k = x.macros := fun h => List.take_of_length_le h
  with_reducible repeat' (first | apply And.intro | exact flatI | exact flatS | exact rowLens | (intro; skip) | apply obsN | apply obsC | apply obA | apply obM | apply obB | apply svA | apply tupA | apply lcA | apply lcS | apply svC | apply liC | apply lbC | apply lsC | apply vIc | apply vBc | apply vSc | apply vLc | apply mapC | apply hdI | apply mIc | apply mOc | apply mSc | apply mLc | apply Ec_iIsExpLa | apply Ec_iIsExpLb | apply Sc_iIsExpLb | apply EW1c_iIsExpLb | apply EW1c_iIsExpLa | apply c_iAre | apply c_l1In | apply c_iIsRules | apply c_iRulB)
  all_goals (try simp only [std] at *)
  all_goals (try (first | with_reducible apply c_iAre | with_reducible apply c_l1In | with_reducible apply c_iIsRules | with_reducible apply c_iRulB | (simp only [<- List.map_append]; first | with_reducible apply c_iAre | with_reducible apply c_l1In | with_reducible apply c_iIsRules | with_reducible apply c_iRulB)))
  all_goals (try (first | with_reducible rfl | omega | assumption | exact dT ‹_› | exact dF ‹_› | ((first | refine rowGet ?_ | refine getC ?_ rfl); (first | omega | (simp only [std]; omega) | grind)) | exact look_mI | exact look_mO | exact look_mO1 | exact look_mS | exact look_mL | exact upd_mI | exact upd_mO | exact del_mO | exact upd_mS | exact take_mL | (refine upd_mL ?_; grind) | (show (_ : St) = _; rfl) | grind [getD_mem', snocI, snocS, rowSnoc]))
theorem run_c_iIsExp (x : Expander) : aexec Tryz.prog (Tryz.f23.body.getD .skip) (entry [] [expanderA x] 115) [.call [Mode.rd] [] (AV.sv (lb (areB
 (Expander.bindings x)))), .br [.bool true, .bool true, .bool true, .bool true, .bool true, .bool true, .bool true, .fin []] [.br [.bool true,
 .bool true, .bool true, .bool true, .bool true, .bool true, .fin []] [.br [.bool true, .bool true, .bool true, .bool true, .bool true, .fin
 []] [.br [.bool true, .bool true, .bool true, .bool true, .fin []] [.br [.bool true, .bool true, .bool true, .fin []] [.br [.bool true,
 .bool true, .fin []] [.br [.bool true, .fin []] [.br [.fin []] [.ghost (.sel [0] [1, 48, 49, 50]), .loop (List.length (Expander.macros x) - 0)
 (Lc_iIsExpLa x 0) (Ic_iIsExpLa x) [(List.all (Expander.macros x) (ruX x) = true, AEx.exit 0, W0c_iIsExpLa x, [.ghost (.sel [0] [1, 66, 67, 68]), .loop (List.length
 (Expander.bindings x) - 0) (Lc_iIsExpLb x 0) (Ic_iIsExpLb x) [(List.all (Expander.bindings x) (bndX x) = true, AEx.exit 2, W0c_iIsExpLb x, [.fin []]), (List.all
 (Expander.bindings x) (bndX x) = false, AEx.ret, W1c_iIsExpLb x (lb false), [.fin []])]]), (List.all (Expander.macros x) (ruX x) = false, AEx.ret, W1c_iIsExpLa x (lb false),
 [.fin []])]]]]]]]]]] (finK Tryz.prog [ResultVar.tmp 2] [] (AV.sv (lb (isExp x)))) = (P_c_iAre (Expander.bindings x) /\ ((!areB (Expander.bindings x)) = true -> true = true /\ true
 = true /\ true = true /\ true = true /\ true = true /\ true = true /\ true = true /\ ObsEq [] [] /\ AV.sv (lb false) = AV.sv (lb (isExp x))) /\ ((!areB (Expander.bindings x)) = false ->
 List.length (List.map rulesC (Expander.macros x)) <= 9223372036854775807 -> (decide (200 < (↑(List.length (List.map rulesC (Expander.macros x))) : Int)) = true -> true = true /\ true
 = true /\ true = true /\ true = true /\ true = true /\ true = true /\ ObsEq [] [] /\ AV.sv (lb false) = AV.sv (lb (isExp x))) /\ (decide (200 < (↑(List.length (List.map rulesC
 (Expander.macros x))) : Int)) = false -> (decide (Expander.scope x < 0) = true -> true = true /\ true = true /\ true = true /\ true = true /\ true = true /\ ObsEq [] [] /\ AV.sv (lb
 false) = AV.sv (lb (isExp x))) /\ (decide (Expander.scope x < 0) = false -> (decide (99999 < Expander.scope x) = true -> true = true /\ true = true /\ true = true /\ true = true /\ ObsEq
 [] [] /\ AV.sv (lb false) = AV.sv (lb (isExp x))) /\ (decide (99999 < Expander.scope x) = false -> (decide (Expander.vari x < 0) = true -> true = true /\ true = true /\ true = true /\
 ObsEq [] [] /\ AV.sv (lb false) = AV.sv (lb (isExp x))) /\ (decide (Expander.vari x < 0) = false -> (decide (99999 < Expander.vari x) = true -> true = true /\ true = true /\ ObsEq [] []
 /\ AV.sv (lb false) = AV.sv (lb (isExp x))) /\ (decide (99999 < Expander.vari x) = false -> (decide (Expander.steps x < 0) = true -> true = true /\ ObsEq [] [] /\ AV.sv (lb false) =
 AV.sv (lb (isExp x))) /\ (decide (Expander.steps x < 0) = false -> (decide (200 < Expander.steps x) = true -> ObsEq [] [] /\ AV.sv (lb false) = AV.sv (lb (isExp x))) /\ (decide (200 <
 Expander.steps x) = false -> List.length (List.map rulesC (Expander.macros x)) <= 9223372036854775807 -> Tc_iIsExpLa x (li 0) = Lc_iIsExpLa x 0 /\ Ic_iIsExpLa x (List.length
 (Expander.macros x) - 0) (Lc_iIsExpLa x 0) /\ LoopSem Tryz.prog (loopAt Tryz.f23 0) (Ic_iIsExpLa x) (Yc_iIsExpLa x) /\ (List.all (Expander.macros x) (ruX x) = true -> List.length
 (List.map bindingC (Expander.bindings x)) <= 9223372036854775807 -> Tc_iIsExpLb x (li 0) = Lc_iIsExpLb x 0 /\ Ic_iIsExpLb x (List.length (Expander.bindings x) - 0) (Lc_iIsExpLb x 0)
 /\ LoopSem Tryz.prog (loopAt Tryz.f23 1) (Ic_iIsExpLb x) (Yc_iIsExpLb x) /\ (List.all (Expander.bindings x) (bndX x) = true -> ObsEq [] [] /\ AV.sv (lb true) = AV.sv (lb (isExp x))) /\
 (List.all (Expander.bindings x) (bndX x) = false -> ObsEq [] [] /\ AV.sv (lb false) = AV.sv (lb (isExp x))) /\ True) /\ (List.all (Expander.macros x) (ruX x) = false -> ObsEq [] [] /\
 AV.sv (lb false) = AV.sv (lb (isExp x))) /\ True))))))))) := by kernel_rfl
theorem c_iIsExp (x : Expander) (h : wX x <= 1048576)  : P_c_iIsExp x := by
  refine CallOK.ofRun wide (run_c_iIsExp x) Tryz.call23 Tryz.func23 rfl rfl rfl ?_
  with_reducible repeat' (first | apply And.intro | exact flatI | exact flatS | exact rowLens | (intro; skip) | apply obsN | apply obsC | apply obA | apply obM | apply obB | apply svA | apply tupA | apply lcA | apply lcS | apply svC | apply liC | apply lbC | apply lsC | apply vIc | apply vBc | apply vSc | apply vLc | apply mapC | apply hdI | apply mIc | apply mOc | apply mSc | apply mLc | apply Ec_iIsExpLa | apply Sc_iIsExpLa | apply Ec_iIsExpLb | apply Sc_iIsExpLb | apply EW1c_iIsExpLb | apply EW1c_iIsExpLa | apply c_iAre | apply c_l1In | apply c_iIsRules | apply c_iRulB)
  all_goals (try simp only [std] at *)
  all_goals (try (first | with_reducible apply c_iAre | with_reducible apply c_l1In | with_reducible apply c_iIsRules | with_reducible apply c_iRulB | (simp only [<- List.map_append]; first | with_reducible apply c_iAre | with_reducible apply c_l1In | with_reducible apply c_iIsRules | with_reducible apply c_iRulB)))
  all_goals (try (first | with_reducible rfl | omega | assumption | exact dT ‹_› | exact dF ‹_› | ((first | refine rowGet ?_ | refine getC ?_ rfl); (first | omega | (simp only [std]; omega) | grind)) | exact look_mI | exact look_mO | exact look_mO1 | exact look_mS | exact look_mL | exact upd_mI | exact upd_mO | exact del_mO | exact upd_mS | exact take_mL | (refine upd_mL ?_; grind) | (show (_ : St) = _; rfl) | grind [isExp, snocI, snocS, rowSnoc]))
end Go.Proofs.YtegbadciefljcaaGreat
end
section
namespace Go.Proofs.YtegbadciefljcaaGreat
open Go Go.Proofs.YtegbadciefljcaaGreat.Ab
set_option linter.unusedVariables false
set_option linter.unusedSimpArgs false
set_option maxHeartbeats 4000000
abbrev P_c_sCopyB (L : List Binding) : Prop := CallOK Tryz.prog 185 [] [ll (L.map bindingC)] [.arr true 4 (L.map bindingC)] (.sv (.one (.ref 0)))
def Tc_sCopyBLa (L : List Binding) (x0 : SV) (x1 : Ob) : St := St.mk (regsOf 28 [(3, AV.sv (SV.one (AC.ref 0))), (7, AV.sv (ll (List.map bindingC L))), (8, AV.sv (li (↑(List.length
 (List.map bindingC L)) : Int))), (9, AV.sv x0)]) [x1] 0 
def Lc_sCopyBLa (L : List Binding) (k : Nat) : St := Tc_sCopyBLa L (li (k : Int)) (Ob.arr true 4 (List.map bindingC (List.take k L))) 
abbrev Ic_sCopyBLa (L : List Binding) : Nat -> St -> Prop := Head (Lc_sCopyBLa L) (fun k => k <= List.length L /\ List.length L <= 9223372036854775807) fun k => List.length L - k 
def W0c_sCopyBLa (L : List Binding) (x0 : Ob) : St := St.mk (regsOf 28 [(3, AV.sv (SV.one (AC.ref 0)))]) [x0] 0 
def Yc_sCopyBLa (L : List Binding) : List (Prop × AEx × St) := [(True, AEx.exit 0, W0c_sCopyBLa L (Ob.arr true 4 (List.map bindingC L)))]

theorem Ec_sCopyBLa {L : List Binding} {k : Nat} {x0 : SV} {x1 : Ob} (h0 : x0 = (li (k : Int))) (h1 : x1 = (Ob.arr true 4 (List.map bindingC (List.take k L)))) : Tc_sCopyBLa L x0
 x1 = Lc_sCopyBLa L k := by
  rw [h0, h1]
  rfl
theorem EW0c_sCopyBLa {L : List Binding} {x0 y0 : Ob} (h0 : x0 = y0) : W0c_sCopyBLa L x0 = W0c_sCopyBLa L y0 := by rw [h0]
theorem run_c_sCopyBLa (L : List Binding) (k : Nat) : aexec Tryz.prog (loopAt Tryz.f185 0) (Lc_sCopyBLa L k) [.br [.cells (bindingF (List.getD L k default)), .draw [(11,
 [2]), (12, [0, 10])], .call [Mode.rd] [Ob.arr true 1 (List.map intC (Binding.scopes (List.getD L k default)))] (AV.sv (SV.one (AC.ref 0))), .ghost (.sel [11] [3, 7, 8,
 9]), .goto (List.length L - (k + 1)) (Lc_sCopyBLa L (k + 1))] [.ghost (.sel [0] [3]), .out 0]] (loopK (Ic_sCopyBLa L) (Yc_sCopyBLa L) (List.length L - k)) = ((decide
 ((k : Int) < (↑(List.length (List.map bindingC L)) : Int)) = true -> (0 <= (k : Int) /\ (List.map bindingC L)[Int.toNat (k : Int)]? = some (bindingF (List.getD L k default))) /\
 P_c_yInts (Binding.scopes (List.getD L k default)) /\ (List.length (List.map bindingC (List.take k L)) + 1) * 56 <= 140737488355328 /\ rng .i64 ((k : Int) + 1) /\ List.length
 L - (k + 1) < List.length L - k /\ Tc_sCopyBLa L (li ((k : Int) + 1)) (Ob.arr true 4 (List.map bindingC (List.take k L) ++ [bindingF (List.getD L k default)])) = Lc_sCopyBLa L (k
 + 1) /\ Ic_sCopyBLa L (List.length L - (k + 1)) (Lc_sCopyBLa L (k + 1))) /\ (decide ((k : Int) < (↑(List.length (List.map bindingC L)) : Int)) = false -> True /\ W0c_sCopyBLa L
 (Ob.arr true 4 (List.map bindingC (List.take k L))) = W0c_sCopyBLa L (Ob.arr true 4 (List.map bindingC L)))) := by kernel_rfl
theorem Sc_sCopyBLa (L : List Binding) (h : List.length L <= 1048577 /\ sumBy wB L <= 1048577)  : LoopSem Tryz.prog (loopAt Tryz.f185 0) (Ic_sCopyBLa L) (Yc_sCopyBLa L) := by
  refine LoopSem.ofHead wide fun k h => ⟨_, _, run_c_sCopyBLa L k, ?_⟩
  have g2 := @sumBy_mem _ wB L (L.getD k default)
  have g3 := wB_eq (L.getD k default)
  with_reducible repeat' (first | apply And.intro | exact flatI | exact flatS | exact rowLens | (intro; skip) | apply obsN | apply obsC | apply obA | apply obM | apply obB | apply svA | apply tupA | apply lcA | apply lcS | apply svC | apply liC | apply lbC | apply lsC | apply vIc | apply vBc | apply vSc | apply vLc | apply mapC | apply hdI | apply Ec_sCopyBLa | apply EW0c_sCopyBLa | apply c_yInts)
  all_goals (try simp only [std] at *)
  all_goals (try (first | with_reducible apply c_yInts | (simp only [<- List.map_append]; first | with_reducible apply c_yInts)))
  all_goals (try (first | with_reducible rfl | omega | assumption | exact dT ‹_› | exact dF ‹_› | ((first | refine rowGet ?_ | refine getC ?_ rfl); (first | omega | (simp only [std]; omega) | grind)) | (show (_ : St) = _; rfl) | grind [take_get, snocI, snocS, rowSnoc, getD_mem']))
theorem run_c_sCopyB (L : List Binding) : aexec Tryz.prog (Tryz.f185.body.getD .skip) (entry [] [ll (List.map bindingC L)] 28) [.bool false, .ghost
 (.sel [0] [3, 7, 8, 9]), .loop (List.length L - 0) (Lc_sCopyBLa L 0) (Ic_sCopyBLa L) [(True, AEx.exit 0, W0c_sCopyBLa L (Ob.arr true 4 (List.map bindingC L)), [.fin
 [0]])]] (finK Tryz.prog [ResultVar.tmp 2] [Ob.arr true 4 (List.map bindingC L)] (AV.sv (SV.one (AC.ref 0)))) = (List.length (List.map bindingC L) <= 9223372036854775807 ->
 Tc_sCopyBLa L (li 0) (Ob.arr true 4 []) = Lc_sCopyBLa L 0 /\ Ic_sCopyBLa L (List.length L - 0) (Lc_sCopyBLa L 0) /\ LoopSem Tryz.prog (loopAt Tryz.f185 0) (Ic_sCopyBLa L)
 (Yc_sCopyBLa L) /\ (True -> ObsEq [Ob.arr true 4 (List.map bindingC L)] [Ob.arr true 4 (List.map bindingC L)] /\ AV.sv (SV.one (AC.ref 0)) = AV.sv (SV.one (AC.ref 0))) /\ True) := by
 kernel_rfl
theorem c_sCopyB (L : List Binding) (h : L.length <= 1048577 /\ sumBy wB L <= 1048577)  : P_c_sCopyB L := by
  refine CallOK.ofRun wide (run_c_sCopyB L) Tryz.call185 Tryz.func185 rfl rfl rfl ?_
  with_reducible repeat' (first | apply And.intro | exact flatI | exact flatS | exact rowLens | (intro; skip) | apply obsN | apply obsC | apply obA | apply obM | apply obB | apply svA | apply tupA | apply lcA | apply lcS | apply svC | apply liC | apply lbC | apply lsC | apply vIc | apply vBc | apply vSc | apply vLc | apply mapC | apply hdI | apply Ec_sCopyBLa | apply Sc_sCopyBLa | apply EW0c_sCopyBLa | apply c_yInts)
  all_goals (try simp only [std] at *)
  all_goals (try (first | with_reducible apply c_yInts | (simp only [<- List.map_append]; first | with_reducible apply c_yInts)))
  all_goals (try (first | with_reducible rfl | omega | assumption | exact dT ‹_› | exact dF ‹_› | ((first | refine rowGet ?_ | refine getC ?_ rfl); (first | omega | (simp only [std]; omega) | grind)) | (show (_ : St) = _; rfl) | grind [snocI, snocS, rowSnoc]))
abbrev P_c_iCopyB1 (b : Binding) : Prop := CallOK Tryz.prog 231 [] [bindingA b] (bindingO b) (.sv (bindingR b 0))
theorem run_c_iCopyB1 (b : Binding) : aexec Tryz.prog (Tryz.f231.body.getD .skip) (entry [] [bindingA b] 8) [.call [Mode.rd] [Ob.arr true 1 (List.map intC
 (Binding.scopes b))] (AV.sv (SV.one (AC.ref 0))), .fin [2]] (finK Tryz.prog [ResultVar.cell 2 134] (bindingO b) (AV.sv (bindingR b 0))) = (P_c_yIInts (Binding.scopes b) /\ ObsEq
 [Ob.arr true 1 (List.map intC (Binding.scopes b))] [Ob.arr true 1 (List.map intC (Binding.scopes b))] /\ AV.sv (SV.agg [vS (Binding.text b), AC.ref 0, vI (Binding.kind b), vI
 (Binding.number b)]) = AV.sv (SV.agg [vS (Binding.text b), AC.ref 0, vI (Binding.kind b), vI (Binding.number b)])) := by kernel_rfl
theorem c_iCopyB1 (b : Binding) (h : wB b <= 1048577)  : P_c_iCopyB1 b := by
  refine CallOK.ofRun wide (run_c_iCopyB1 b) Tryz.call231 Tryz.func231 rfl rfl rfl ?_
  have g3 := wB_eq b
  with_reducible repeat' (first | apply And.intro | exact flatI | exact flatS | exact rowLens | (intro; skip) | apply obsN | apply obsC | apply obA | apply obM | apply obB | apply svA | apply tupA | apply lcA | apply lcS | apply svC | apply liC | apply lbC | apply lsC | apply vIc | apply vBc | apply vSc | apply vLc | apply mapC | apply c_yIInts)
  all_goals (try simp only [std] at *)
  all_goals (try (first | with_reducible apply c_yIInts | (simp only [<- List.map_append]; first | with_reducible apply c_yIInts)))
  all_goals (try (first | with_reducible rfl | omega | assumption | exact dT ‹_› | exact dF ‹_› | ((first | refine rowGet ?_ | refine getC ?_ rfl); (first | omega | (simp only [std]; omega) | grind)) | (show (_ : St) = _; rfl) | grind [snocI, snocS, rowSnoc]))
abbrev P_c_iCopyB (L : List Binding) : Prop := CallOK Tryz.prog 188 [] [ll (L.map bindingC)] [.arr true 4 (L.map bindingC)] (.sv (.one (.ref 0)))
def Tc_iCopyBLa (L : List Binding) (x0 : SV) (x1 : Ob) : St := St.mk (regsOf 19 [(3, AV.sv (SV.one (AC.ref 0))), (6, AV.sv (ll (List.map bindingC L))), (7, AV.sv (li (↑(List.length
 (List.map bindingC L)) : Int))), (8, AV.sv x0)]) [x1] 0 
def Lc_iCopyBLa (L : List Binding) (k : Nat) : St := Tc_iCopyBLa L (li (k : Int)) (Ob.arr true 4 (List.map bindingC (List.take k L))) 
abbrev Ic_iCopyBLa (L : List Binding) : Nat -> St -> Prop := Head (Lc_iCopyBLa L) (fun k => k <= List.length L /\ List.length L <= 9223372036854775807) fun k => List.length L - k 
def W0c_iCopyBLa (L : List Binding) (x0 : Ob) : St := St.mk (regsOf 19 [(3, AV.sv (SV.one (AC.ref 0)))]) [x0] 0 
def Yc_iCopyBLa (L : List Binding) : List (Prop × AEx × St) := [(True, AEx.exit 0, W0c_iCopyBLa L (Ob.arr true 4 (List.map bindingC L)))]

theorem Ec_iCopyBLa {L : List Binding} {k : Nat} {x0 : SV} {x1 : Ob} (h0 : x0 = (li (k : Int))) (h1 : x1 = (Ob.arr true 4 (List.map bindingC (List.take k L)))) : Tc_iCopyBLa L x0
 x1 = Lc_iCopyBLa L k := by
  rw [h0, h1]
  rfl
theorem EW0c_iCopyBLa {L : List Binding} {x0 y0 : Ob} (h0 : x0 = y0) : W0c_iCopyBLa L x0 = W0c_iCopyBLa L y0 := by rw [h0]
theorem run_c_iCopyBLa (L : List Binding) (k : Nat) : aexec Tryz.prog (loopAt Tryz.f188 0) (Lc_iCopyBLa L k) [.br [.cells (bindingF (List.getD L k default)), .call
 [Mode.rd] (bindingO (List.getD L k default)) (AV.sv (bindingR (List.getD L k default) 0)), .ghost (.sel [4] [3, 6, 7, 8]), .goto (List.length L - (k + 1)) (Lc_iCopyBLa
 L (k + 1))] [.ghost (.sel [0] [3]), .out 0]] (loopK (Ic_iCopyBLa L) (Yc_iCopyBLa L) (List.length L - k)) = ((decide ((k : Int) < (↑(List.length (List.map bindingC L))
 : Int)) = true -> (0 <= (k : Int) /\ (List.map bindingC L)[Int.toNat (k : Int)]? = some (bindingF (List.getD L k default))) /\ P_c_iCopyB1 (List.getD L k default) /\ (List.length
 (List.map bindingC (List.take k L)) + 1) * 56 <= 140737488355328 /\ rng .i64 ((k : Int) + 1) /\ List.length L - (k + 1) < List.length L - k /\ Tc_iCopyBLa L (li ((k : Int) +
 1)) (Ob.arr true 4 (List.map bindingC (List.take k L) ++ [bindingF (List.getD L k default)])) = Lc_iCopyBLa L (k + 1) /\ Ic_iCopyBLa L (List.length L - (k + 1)) (Lc_iCopyBLa L (k +
 1))) /\ (decide ((k : Int) < (↑(List.length (List.map bindingC L)) : Int)) = false -> True /\ W0c_iCopyBLa L (Ob.arr true 4 (List.map bindingC (List.take k L))) = W0c_iCopyBLa L
 (Ob.arr true 4 (List.map bindingC L)))) := by kernel_rfl
theorem Sc_iCopyBLa (L : List Binding) (h : List.length L <= 1048577 /\ sumBy wB L <= 1048577)  : LoopSem Tryz.prog (loopAt Tryz.f188 0) (Ic_iCopyBLa L) (Yc_iCopyBLa L) := by
  refine LoopSem.ofHead wide fun k h => ⟨_, _, run_c_iCopyBLa L k, ?_⟩
  have g2 := @sumBy_mem _ wB L (L.getD k default)
  with_reducible repeat' (first | apply And.intro | exact flatI | exact flatS | exact rowLens | (intro; skip) | apply obsN | apply obsC | apply obA | apply obM | apply obB | apply svA | apply tupA | apply lcA | apply lcS | apply svC | apply liC | apply lbC | apply lsC | apply vIc | apply vBc | apply vSc | apply vLc | apply mapC | apply hdI | apply Ec_iCopyBLa | apply EW0c_iCopyBLa | apply c_iCopyB1)
  all_goals (try simp only [std] at *)
  all_goals (try (first | with_reducible apply c_iCopyB1 | (simp only [<- List.map_append]; first | with_reducible apply c_iCopyB1)))
  all_goals (try (first | with_reducible rfl | omega | assumption | exact dT ‹_› | exact dF ‹_› | ((first | refine rowGet ?_ | refine getC ?_ rfl); (first | omega | (simp only [std]; omega) | grind)) | (show (_ : St) = _; rfl) | grind [take_get, snocI, snocS, rowSnoc, getD_mem']))
theorem run_c_iCopyB (L : List Binding) : aexec Tryz.prog (Tryz.f188.body.getD .skip) (entry [] [ll (List.map bindingC L)] 19) [.ghost (.nilreg 3 true 4),
 .ghost (.sel [0] [3, 6, 7, 8]), .loop (List.length L - 0) (Lc_iCopyBLa L 0) (Ic_iCopyBLa L) [(True, AEx.exit 0, W0c_iCopyBLa L (Ob.arr true 4 (List.map bindingC L)),
 [.fin [0]])]] (finK Tryz.prog [ResultVar.tmp 2] [Ob.arr true 4 (List.map bindingC L)] (AV.sv (SV.one (AC.ref 0)))) = (List.length (List.map bindingC L) <= 9223372036854775807 ->
 Tc_iCopyBLa L (li 0) (Ob.arr true 4 []) = Lc_iCopyBLa L 0 /\ Ic_iCopyBLa L (List.length L - 0) (Lc_iCopyBLa L 0) /\ LoopSem Tryz.prog (loopAt Tryz.f188 0) (Ic_iCopyBLa L)
 (Yc_iCopyBLa L) /\ (True -> ObsEq [Ob.arr true 4 (List.map bindingC L)] [Ob.arr true 4 (List.map bindingC L)] /\ AV.sv (SV.one (AC.ref 0)) = AV.sv (SV.one (AC.ref 0))) /\ True) := by
 kernel_rfl
theorem c_iCopyB (L : List Binding) (h : L.length <= 1048577 /\ sumBy wB L <= 1048577)  : P_c_iCopyB L := by
  refine CallOK.ofRun wide (run_c_iCopyB L) Tryz.call188 Tryz.func188 rfl rfl rfl ?_
  with_reducible repeat' (first | apply And.intro | exact flatI | exact flatS | exact rowLens | (intro; skip) | apply obsN | apply obsC | apply obA | apply obM | apply obB | apply svA | apply tupA | apply lcA | apply lcS | apply svC | apply liC | apply lbC | apply lsC | apply vIc | apply vBc | apply vSc | apply vLc | apply mapC | apply hdI | apply Ec_iCopyBLa | apply Sc_iCopyBLa | apply EW0c_iCopyBLa | apply c_iCopyB1)
  all_goals (try simp only [std] at *)
  all_goals (try (first | with_reducible apply c_iCopyB1 | (simp only [<- List.map_append]; first | with_reducible apply c_iCopyB1)))
  all_goals (try (first | with_reducible rfl | omega | assumption | exact dT ‹_› | exact dF ‹_› | ((first | refine rowGet ?_ | refine getC ?_ rfl); (first | omega | (simp only [std]; omega) | grind)) | (show (_ : St) = _; rfl) | grind [snocI, snocS, rowSnoc]))
abbrev P_c_iCopyYs (L : List Syntax) : Prop := CallOK Tryz.prog 184 [] [ll (L.map syntaxC)] [.arr true 5 (L.map syntaxC)] (.sv (.one (.ref 0)))
def Tc_iCopyYsLa (L : List Syntax) (x0 : SV) (x1 : Ob) : St := St.mk (regsOf 19 [(3, AV.sv (SV.one (AC.ref 0))), (6, AV.sv (ll (List.map syntaxC L))), (7, AV.sv (li (↑(List.length
 (List.map syntaxC L)) : Int))), (8, AV.sv x0)]) [x1] 0 
def Lc_iCopyYsLa (L : List Syntax) (k : Nat) : St := Tc_iCopyYsLa L (li (k : Int)) (Ob.arr true 5 (List.map syntaxC (List.take k L))) 
abbrev Ic_iCopyYsLa (L : List Syntax) : Nat -> St -> Prop := Head (Lc_iCopyYsLa L) (fun k => k <= List.length L /\ List.length L <= 9223372036854775807) fun k => List.length L - k 
def W0c_iCopyYsLa (L : List Syntax) (x0 : Ob) : St := St.mk (regsOf 19 [(3, AV.sv (SV.one (AC.ref 0)))]) [x0] 0 
def Yc_iCopyYsLa (L : List Syntax) : List (Prop × AEx × St) := [(True, AEx.exit 0, W0c_iCopyYsLa L (Ob.arr true 5 (List.map syntaxC L)))]

theorem Ec_iCopyYsLa {L : List Syntax} {k : Nat} {x0 : SV} {x1 : Ob} (h0 : x0 = (li (k : Int))) (h1 : x1 = (Ob.arr true 5 (List.map syntaxC (List.take k L)))) : Tc_iCopyYsLa L x0
 x1 = Lc_iCopyYsLa L k := by
  rw [h0, h1]
  rfl
theorem EW0c_iCopyYsLa {L : List Syntax} {x0 y0 : Ob} (h0 : x0 = y0) : W0c_iCopyYsLa L x0 = W0c_iCopyYsLa L y0 := by rw [h0]
theorem run_c_iCopyYsLa (L : List Syntax) (k : Nat) : aexec Tryz.prog (loopAt Tryz.f184 0) (Lc_iCopyYsLa L k) [.br [.cells (syntaxF (List.getD L k default)), .call
 [Mode.rd] (syntaxO (List.getD L k default)) (AV.sv (syntaxR (List.getD L k default) 0)), .ghost (.sel [5] [3, 6, 7, 8]), .goto (List.length L - (k + 1)) (Lc_iCopyYsLa L
 (k + 1))] [.ghost (.sel [0] [3]), .out 0]] (loopK (Ic_iCopyYsLa L) (Yc_iCopyYsLa L) (List.length L - k)) = ((decide ((k : Int) < (↑(List.length (List.map syntaxC L)) :
 Int)) = true -> (0 <= (k : Int) /\ (List.map syntaxC L)[Int.toNat (k : Int)]? = some (syntaxF (List.getD L k default))) /\ P_c_iCopyY (List.getD L k default) /\ (List.length
 (List.map syntaxC (List.take k L)) + 1) * 80 <= 140737488355328 /\ rng .i64 ((k : Int) + 1) /\ List.length L - (k + 1) < List.length L - k /\ Tc_iCopyYsLa L (li ((k : Int) +
 1)) (Ob.arr true 5 (List.map syntaxC (List.take k L) ++ [syntaxF (List.getD L k default)])) = Lc_iCopyYsLa L (k + 1) /\ Ic_iCopyYsLa L (List.length L - (k + 1)) (Lc_iCopyYsLa L (k
 + 1))) /\ (decide ((k : Int) < (↑(List.length (List.map syntaxC L)) : Int)) = false -> True /\ W0c_iCopyYsLa L (Ob.arr true 5 (List.map syntaxC (List.take k L))) = W0c_iCopyYsLa L
 (Ob.arr true 5 (List.map syntaxC L)))) := by kernel_rfl
theorem Sc_iCopyYsLa (L : List Syntax) (h : List.length L <= 1048576 /\ sumBy wY L <= 1048576)  : LoopSem Tryz.prog (loopAt Tryz.f184 0) (Ic_iCopyYsLa L) (Yc_iCopyYsLa L) := by
  refine LoopSem.ofHead wide fun k h => ⟨_, _, run_c_iCopyYsLa L k, ?_⟩
  have g2 := @sumBy_mem _ wY L (L.getD k default)
  with_reducible repeat' (first | apply And.intro | exact flatI | exact flatS | exact rowLens | (intro; skip) | apply obsN | apply obsC | apply obA | apply obM | apply obB | apply svA | apply tupA | apply lcA | apply lcS | apply svC | apply liC | apply lbC | apply lsC | apply vIc | apply vBc | apply vSc | apply vLc | apply mapC | apply hdI | apply Ec_iCopyYsLa | apply EW0c_iCopyYsLa | apply c_iCopyY)
  all_goals (try simp only [std] at *)
  all_goals (try (first | with_reducible apply c_iCopyY | (simp only [<- List.map_append]; first | with_reducible apply c_iCopyY)))
  all_goals (try (first | with_reducible rfl | omega | assumption | exact dT ‹_› | exact dF ‹_› | ((first | refine rowGet ?_ | refine getC ?_ rfl); (first | omega | (simp only [std]; omega) | grind)) | (show (_ : St) = _; rfl) | grind [take_get, snocI, snocS, rowSnoc, getD_mem']))
theorem run_c_iCopyYs (L : List Syntax) : aexec Tryz.prog (Tryz.f184.body.getD .skip) (entry [] [ll (List.map syntaxC L)] 19) [.ghost (.nilreg 3 true 5),
 .ghost (.sel [0] [3, 6, 7, 8]), .loop (List.length L - 0) (Lc_iCopyYsLa L 0) (Ic_iCopyYsLa L) [(True, AEx.exit 0, W0c_iCopyYsLa L (Ob.arr true 5 (List.map syntaxC L)),
 [.fin [0]])]] (finK Tryz.prog [ResultVar.tmp 2] [Ob.arr true 5 (List.map syntaxC L)] (AV.sv (SV.one (AC.ref 0)))) = (List.length (List.map syntaxC L) <= 9223372036854775807 ->
 Tc_iCopyYsLa L (li 0) (Ob.arr true 5 []) = Lc_iCopyYsLa L 0 /\ Ic_iCopyYsLa L (List.length L - 0) (Lc_iCopyYsLa L 0) /\ LoopSem Tryz.prog (loopAt Tryz.f184 0) (Ic_iCopyYsLa L)
 (Yc_iCopyYsLa L) /\ (True -> ObsEq [Ob.arr true 5 (List.map syntaxC L)] [Ob.arr true 5 (List.map syntaxC L)] /\ AV.sv (SV.one (AC.ref 0)) = AV.sv (SV.one (AC.ref 0))) /\ True) := by
 kernel_rfl
theorem c_iCopyYs (L : List Syntax) (h : L.length <= 1048576 /\ sumBy wY L <= 1048576)  : P_c_iCopyYs L := by
  refine CallOK.ofRun wide (run_c_iCopyYs L) Tryz.call184 Tryz.func184 rfl rfl rfl ?_
  with_reducible repeat' (first | apply And.intro | exact flatI | exact flatS | exact rowLens | (intro; skip) | apply obsN | apply obsC | apply obA | apply obM | apply obB | apply svA | apply tupA | apply lcA | apply lcS | apply svC | apply liC | apply lbC | apply lsC | apply vIc | apply vBc | apply vSc | apply vLc | apply mapC | apply hdI | apply Ec_iCopyYsLa | apply Sc_iCopyYsLa | apply EW0c_iCopyYsLa | apply c_iCopyY)
  all_goals (try simp only [std] at *)
  all_goals (try (first | with_reducible apply c_iCopyY | (simp only [<- List.map_append]; first | with_reducible apply c_iCopyY)))
  all_goals (try (first | with_reducible rfl | omega | assumption | exact dT ‹_› | exact dF ‹_› | ((first | refine rowGet ?_ | refine getC ?_ rfl); (first | omega | (simp only [std]; omega) | grind)) | (show (_ : St) = _; rfl) | grind [snocI, snocS, rowSnoc]))
abbrev P_c_iCopyR (r : Rules) : Prop := CallOK Tryz.prog 189 [] [rulesA r] (rulesO r) (.sv (rulesR r 0))
theorem run_c_iCopyR (r : Rules) : aexec Tryz.prog (Tryz.f189.body.getD .skip) (entry [] [rulesA r] 13) [.draw [(10, [1])], .call [Mode.rd] [Ob.arr true 5
 (List.map syntaxC (Rules.literals r))] (AV.sv (SV.one (AC.ref 0))), .call [Mode.rd] [Ob.arr true 5 (List.map syntaxC (Rules.patterns r))] (AV.sv (SV.one (AC.ref 0))), .call
 [Mode.rd] [Ob.arr true 5 (List.map syntaxC (Rules.templates r))] (AV.sv (SV.one (AC.ref 0))), .fin [2, 10, 18]] (finK Tryz.prog [ResultVar.cell 2 78] (rulesO r) (AV.sv (rulesR
 r 0))) = (P_c_iCopyYs (Rules.literals r) /\ P_c_iCopyYs (Rules.patterns r) /\ P_c_iCopyYs (Rules.templates r) /\ ObsEq [Ob.arr true 5 (List.map syntaxC (Rules.literals r)), Ob.arr
 true 5 (List.map syntaxC (Rules.patterns r)), Ob.arr true 5 (List.map syntaxC (Rules.templates r))] [Ob.arr true 5 (List.map syntaxC (Rules.literals r)), Ob.arr true 5 (List.map
 syntaxC (Rules.patterns r)), Ob.arr true 5 (List.map syntaxC (Rules.templates r))] /\ AV.sv (SV.agg [AC.ref 0, AC.ref 1, AC.ref 2]) = AV.sv (SV.agg [AC.ref 0, AC.ref 1, AC.ref 2]))
 := by kernel_rfl
theorem c_iCopyR (r : Rules) (h : wR r <= 1048576)  : P_c_iCopyR r := by
  refine CallOK.ofRun wide (run_c_iCopyR r) Tryz.call189 Tryz.func189 rfl rfl rfl ?_
  have g := wR_eq r
  with_reducible repeat' (first | apply And.intro | exact flatI | exact flatS | exact rowLens | (intro; skip) | apply obsN | apply obsC | apply obA | apply obM | apply obB | apply svA | apply tupA | apply lcA | apply lcS | apply svC | apply liC | apply lbC | apply lsC | apply vIc | apply vBc | apply vSc | apply vLc | apply mapC | apply c_iCopyYs)
  all_goals (try simp only [std] at *)
  all_goals (try (first | with_reducible apply c_iCopyYs | (simp only [<- List.map_append]; first | with_reducible apply c_iCopyYs)))
  all_goals (try (first | with_reducible rfl | omega | assumption | exact dT ‹_› | exact dF ‹_› | ((first | refine rowGet ?_ | refine getC ?_ rfl); (first | omega | (simp only [std]; omega) | grind)) | (show (_ : St) = _; rfl) | grind [snocI, snocS, rowSnoc]))
abbrev P_c_sCopyR (r : Rules) : Prop := CallOK Tryz.prog 119 [] [rulesA r] (rulesO r) (.sv (rulesR r 0))
def Tc_sCopyRLc (r : Rules) (x0 : SV) (x1 : Ob) : St := St.mk (regsOf 57 [(2, AV.sv (SV.one (AC.ptr 0 0))), (3, AV.sv (SV.one (AC.ptr 1 0))), (42, AV.sv (ll (List.map syntaxC
 (Rules.templates r)))), (43, AV.sv (li (↑(List.length (List.map syntaxC (Rules.templates r))) : Int))), (44, AV.sv x0)]) [Ob.box [AC.val (Cell.lit (Value.slice none 0 0)), AC.val
 (Cell.lit (Value.slice none 0 0)), AC.val (Cell.lit (Value.slice none 0 0))], Ob.box [AC.ref 2, AC.ref 3, AC.ref 4], Ob.arr true 5 (List.map syntaxC (Rules.literals r)), Ob.arr
 true 5 (List.map syntaxC (Rules.patterns r)), x1] 0 
def Lc_sCopyRLc (r : Rules) (k : Nat) : St := Tc_sCopyRLc r (li (k : Int)) (Ob.arr true 5 (List.map syntaxC (List.take k (Rules.templates r)))) 
abbrev Ic_sCopyRLc (r : Rules) : Nat -> St -> Prop := Head (Lc_sCopyRLc r) (fun k => k <= List.length (Rules.templates r) /\ List.length (Rules.templates r) <= 9223372036854775807) fun k
 => List.length (Rules.templates r) - k 
def W0c_sCopyRLc (r : Rules) (x0 : Ob) : St := St.mk (regsOf 57 [(2, AV.sv (SV.one (AC.ptr 0 0))), (3, AV.sv (SV.one (AC.ptr 1 0)))]) [Ob.box [AC.val (Cell.lit (Value.slice none 0
 0)), AC.val (Cell.lit (Value.slice none 0 0)), AC.val (Cell.lit (Value.slice none 0 0))], Ob.box [AC.ref 2, AC.ref 3, AC.ref 4], Ob.arr true 5 (List.map syntaxC (Rules.literals
 r)), Ob.arr true 5 (List.map syntaxC (Rules.patterns r)), x0] 0 
def Yc_sCopyRLc (r : Rules) : List (Prop × AEx × St) := [(True, AEx.exit 4, W0c_sCopyRLc r (Ob.arr true 5 (List.map syntaxC (Rules.templates r))))]
def Tc_sCopyRLb (r : Rules) (x0 : SV) (x1 : Ob) : St := St.mk (regsOf 57 [(1, AV.sv (SV.one (AC.ptr 0 0))), (2, AV.sv (SV.one (AC.ptr 1 0))), (3, AV.sv (SV.one (AC.ptr 2 0))), (27,
 AV.sv (ll (List.map syntaxC (Rules.patterns r)))), (28, AV.sv (li (↑(List.length (List.map syntaxC (Rules.patterns r))) : Int))), (29, AV.sv x0)]) [Ob.box (vals (rulesF r)),
 Ob.box [AC.val (Cell.lit (Value.slice none 0 0)), AC.val (Cell.lit (Value.slice none 0 0)), AC.val (Cell.lit (Value.slice none 0 0))], Ob.box [AC.ref 3, AC.ref 4, AC.val (Cell.lit
 (Value.slice none 0 0))], Ob.arr true 5 (List.map syntaxC (Rules.literals r)), x1] 0 
def Lc_sCopyRLb (r : Rules) (k : Nat) : St := Tc_sCopyRLb r (li (k : Int)) (Ob.arr true 5 (List.map syntaxC (List.take k (Rules.patterns r)))) 
abbrev Ic_sCopyRLb (r : Rules) : Nat -> St -> Prop := Head (Lc_sCopyRLb r) (fun k => k <= List.length (Rules.patterns r) /\ List.length (Rules.patterns r) <= 9223372036854775807) fun k =>
 List.length (Rules.patterns r) - k 
def W0c_sCopyRLb (r : Rules) (x0 : Ob) : St := St.mk (regsOf 57 [(1, AV.sv (SV.one (AC.ptr 0 0))), (2, AV.sv (SV.one (AC.ptr 1 0))), (3, AV.sv (SV.one (AC.ptr 2 0)))]) [Ob.box
 (vals (rulesF r)), Ob.box [AC.val (Cell.lit (Value.slice none 0 0)), AC.val (Cell.lit (Value.slice none 0 0)), AC.val (Cell.lit (Value.slice none 0 0))], Ob.box [AC.ref 3, AC.ref
 4, AC.val (Cell.lit (Value.slice none 0 0))], Ob.arr true 5 (List.map syntaxC (Rules.literals r)), x0] 0 
def Yc_sCopyRLb (r : Rules) : List (Prop × AEx × St) := [(True, AEx.exit 2, W0c_sCopyRLb r (Ob.arr true 5 (List.map syntaxC (Rules.patterns r))))]
def Tc_sCopyRLa (r : Rules) (x0 : SV) (x1 : Ob) : St := St.mk (regsOf 57 [(1, AV.sv (SV.one (AC.ptr 0 0))), (2, AV.sv (SV.one (AC.ptr 1 0))), (3, AV.sv (SV.one (AC.ptr 2 0))), (12,
 AV.sv (ll (List.map syntaxC (Rules.literals r)))), (13, AV.sv (li (↑(List.length (List.map syntaxC (Rules.literals r))) : Int))), (14, AV.sv x0)]) [Ob.box (vals (rulesF r)),
 Ob.box [AC.val (Cell.lit (Value.slice none 0 0)), AC.val (Cell.lit (Value.slice none 0 0)), AC.val (Cell.lit (Value.slice none 0 0))], Ob.box [AC.ref 3, AC.val (Cell.lit
 (Value.slice none 0 0)), AC.val (Cell.lit (Value.slice none 0 0))], x1] 0 
def Lc_sCopyRLa (r : Rules) (k : Nat) : St := Tc_sCopyRLa r (li (k : Int)) (Ob.arr true 5 (List.map syntaxC (List.take k (Rules.literals r)))) 
abbrev Ic_sCopyRLa (r : Rules) : Nat -> St -> Prop := Head (Lc_sCopyRLa r) (fun k => k <= List.length (Rules.literals r) /\ List.length (Rules.literals r) <= 9223372036854775807) fun k =>
 List.length (Rules.literals r) - k 
def W0c_sCopyRLa (r : Rules) (x0 : Ob) : St := St.mk (regsOf 57 [(1, AV.sv (SV.one (AC.ptr 0 0))), (2, AV.sv (SV.one (AC.ptr 1 0))), (3, AV.sv (SV.one (AC.ptr 2 0)))]) [Ob.box
 (vals (rulesF r)), Ob.box [AC.val (Cell.lit (Value.slice none 0 0)), AC.val (Cell.lit (Value.slice none 0 0)), AC.val (Cell.lit (Value.slice none 0 0))], Ob.box [AC.ref 3, AC.val
 (Cell.lit (Value.slice none 0 0)), AC.val (Cell.lit (Value.slice none 0 0))], x0] 0 
def Yc_sCopyRLa (r : Rules) : List (Prop × AEx × St) := [(True, AEx.exit 0, W0c_sCopyRLa r (Ob.arr true 5 (List.map syntaxC (Rules.literals r))))]

theorem Ec_sCopyRLc {r : Rules} {k : Nat} {x0 : SV} {x1 : Ob} (h0 : x0 = (li (k : Int))) (h1 : x1 = (Ob.arr true 5 (List.map syntaxC (List.take k (Rules.templates r))))) :
 Tc_sCopyRLc r x0 x1 = Lc_sCopyRLc r k := by
  rw [h0, h1]
  rfl
theorem EW0c_sCopyRLc {r : Rules} {x0 y0 : Ob} (h0 : x0 = y0) : W0c_sCopyRLc r x0 = W0c_sCopyRLc r y0 := by rw [h0]
abbrev a1_c_sCopyRLc (r : Rules) (k : Nat) := (List.getD (Rules.templates r) k default)
theorem run_c_sCopyRLc (r : Rules) (k : Nat) : aexec Tryz.prog (loopAt Tryz.f119 2) (Lc_sCopyRLc r k) [.br [.cells (syntaxF (a1_c_sCopyRLc r k)), .draw [(4, [6, 7]), (5,
 [4, 14]), (7, [1])], .call [Mode.rd] (syntaxO (a1_c_sCopyRLc r k)) (AV.sv (syntaxR (a1_c_sCopyRLc r k) 0)), .ghost (.sel [0, 1, 2, 3, 15] [2, 3, 42, 43, 44]), .goto
 (List.length (Rules.templates r) - (k + 1)) (Lc_sCopyRLc r (k + 1))] [.ghost (.sel [0, 1, 2, 3, 4] [2, 3]), .out 0]] (loopK (Ic_sCopyRLc r) (Yc_sCopyRLc r) (List.length
 (Rules.templates r) - k)) = ((decide ((k : Int) < (↑(List.length (List.map syntaxC (Rules.templates r))) : Int)) = true -> (0 <= (k : Int) /\ (List.map syntaxC (Rules.templates
 r))[Int.toNat (k : Int)]? = some (syntaxF (a1_c_sCopyRLc r k))) /\ P_c_sCopyY (a1_c_sCopyRLc r k) /\ (List.length (List.map syntaxC (List.take k (Rules.templates r))) + 1) * 80 <=
 140737488355328 /\ rng .i64 ((k : Int) + 1) /\ List.length (Rules.templates r) - (k + 1) < List.length (Rules.templates r) - k /\ Tc_sCopyRLc r (li ((k : Int) + 1)) (Ob.arr
 true 5 (List.map syntaxC (List.take k (Rules.templates r)) ++ [syntaxF (a1_c_sCopyRLc r k)])) = Lc_sCopyRLc r (k + 1) /\ Ic_sCopyRLc r (List.length (Rules.templates r) - (k + 1))
 (Lc_sCopyRLc r (k + 1))) /\ (decide ((k : Int) < (↑(List.length (List.map syntaxC (Rules.templates r))) : Int)) = false -> True /\ W0c_sCopyRLc r (Ob.arr true 5 (List.map syntaxC
 (List.take k (Rules.templates r)))) = W0c_sCopyRLc r (Ob.arr true 5 (List.map syntaxC (Rules.templates r))))) := by kernel_rfl

theorem Ec_sCopyRLb {r : Rules} {k : Nat} {x0 : SV} {x1 : Ob} (h0 : x0 = (li (k : Int))) (h1 : x1 = (Ob.arr true 5 (List.map syntaxC (List.take k (Rules.patterns r))))) :
 Tc_sCopyRLb r x0 x1 = Lc_sCopyRLb r k := by
  rw [h0, h1]
  rfl
theorem EW0c_sCopyRLb {r : Rules} {x0 y0 : Ob} (h0 : x0 = y0) : W0c_sCopyRLb r x0 = W0c_sCopyRLb r y0 := by rw [h0]
abbrev a1_c_sCopyRLb (r : Rules) (k : Nat) := (List.getD (Rules.patterns r) k default)
theorem run_c_sCopyRLb (r : Rules) (k : Nat) : aexec Tryz.prog (loopAt Tryz.f119 1) (Lc_sCopyRLb r k) [.br [.cells (syntaxF (a1_c_sCopyRLb r k)), .draw [(4, [6, 7]), (5,
 [4, 14]), (7, [2])], .call [Mode.rd] (syntaxO (a1_c_sCopyRLb r k)) (AV.sv (syntaxR (a1_c_sCopyRLb r k) 0)), .ghost (.sel [0, 1, 2, 3, 15] [1, 2, 3, 27, 28, 29]),
 .goto (List.length (Rules.patterns r) - (k + 1)) (Lc_sCopyRLb r (k + 1))] [.ghost (.sel [0, 1, 2, 3, 4] [1, 2, 3]), .out 0]] (loopK (Ic_sCopyRLb r) (Yc_sCopyRLb r)
 (List.length (Rules.patterns r) - k)) = ((decide ((k : Int) < (↑(List.length (List.map syntaxC (Rules.patterns r))) : Int)) = true -> (0 <= (k : Int) /\ (List.map syntaxC
 (Rules.patterns r))[Int.toNat (k : Int)]? = some (syntaxF (a1_c_sCopyRLb r k))) /\ P_c_sCopyY (a1_c_sCopyRLb r k) /\ (List.length (List.map syntaxC (List.take k (Rules.patterns
 r))) + 1) * 80 <= 140737488355328 /\ rng .i64 ((k : Int) + 1) /\ List.length (Rules.patterns r) - (k + 1) < List.length (Rules.patterns r) - k /\ Tc_sCopyRLb r (li ((k : Int)
 + 1)) (Ob.arr true 5 (List.map syntaxC (List.take k (Rules.patterns r)) ++ [syntaxF (a1_c_sCopyRLb r k)])) = Lc_sCopyRLb r (k + 1) /\ Ic_sCopyRLb r (List.length (Rules.patterns r)
 - (k + 1)) (Lc_sCopyRLb r (k + 1))) /\ (decide ((k : Int) < (↑(List.length (List.map syntaxC (Rules.patterns r))) : Int)) = false -> True /\ W0c_sCopyRLb r (Ob.arr true 5 (List.map
 syntaxC (List.take k (Rules.patterns r)))) = W0c_sCopyRLb r (Ob.arr true 5 (List.map syntaxC (Rules.patterns r))))) := by kernel_rfl

theorem Ec_sCopyRLa {r : Rules} {k : Nat} {x0 : SV} {x1 : Ob} (h0 : x0 = (li (k : Int))) (h1 : x1 = (Ob.arr true 5 (List.map syntaxC (List.take k (Rules.literals r))))) :
 Tc_sCopyRLa r x0 x1 = Lc_sCopyRLa r k := by
  rw [h0, h1]
  rfl
theorem EW0c_sCopyRLa {r : Rules} {x0 y0 : Ob} (h0 : x0 = y0) : W0c_sCopyRLa r x0 = W0c_sCopyRLa r y0 := by rw [h0]
abbrev a1_c_sCopyRLa (r : Rules) (k : Nat) := (List.getD (Rules.literals r) k default)
theorem run_c_sCopyRLa (r : Rules) (k : Nat) : aexec Tryz.prog (loopAt Tryz.f119 0) (Lc_sCopyRLa r k) [.br [.cells (syntaxF (a1_c_sCopyRLa r k)), .draw [(4, [5, 6]), (5,
 [3, 13]), (7, [2])], .call [Mode.rd] (syntaxO (a1_c_sCopyRLa r k)) (AV.sv (syntaxR (a1_c_sCopyRLa r k) 0)), .ghost (.sel [0, 1, 2, 14] [1, 2, 3, 12, 13, 14]), .goto
 (List.length (Rules.literals r) - (k + 1)) (Lc_sCopyRLa r (k + 1))] [.ghost (.sel [0, 1, 2, 3] [1, 2, 3]), .out 0]] (loopK (Ic_sCopyRLa r) (Yc_sCopyRLa r) (List.length
 (Rules.literals r) - k)) = ((decide ((k : Int) < (↑(List.length (List.map syntaxC (Rules.literals r))) : Int)) = true -> (0 <= (k : Int) /\ (List.map syntaxC (Rules.literals
 r))[Int.toNat (k : Int)]? = some (syntaxF (a1_c_sCopyRLa r k))) /\ P_c_sCopyY (a1_c_sCopyRLa r k) /\ (List.length (List.map syntaxC (List.take k (Rules.literals r))) + 1) * 80 <=
 140737488355328 /\ rng .i64 ((k : Int) + 1) /\ List.length (Rules.literals r) - (k + 1) < List.length (Rules.literals r) - k /\ Tc_sCopyRLa r (li ((k : Int) + 1)) (Ob.arr
 true 5 (List.map syntaxC (List.take k (Rules.literals r)) ++ [syntaxF (a1_c_sCopyRLa r k)])) = Lc_sCopyRLa r (k + 1) /\ Ic_sCopyRLa r (List.length (Rules.literals r) - (k + 1))
 (Lc_sCopyRLa r (k + 1))) /\ (decide ((k : Int) < (↑(List.length (List.map syntaxC (Rules.literals r))) : Int)) = false -> True /\ W0c_sCopyRLa r (Ob.arr true 5 (List.map syntaxC
 (List.take k (Rules.literals r)))) = W0c_sCopyRLa r (Ob.arr true 5 (List.map syntaxC (Rules.literals r))))) := by kernel_rfl
theorem Sc_sCopyRLc (r : Rules) (h : wR r <= 1048576)  : LoopSem Tryz.prog (loopAt Tryz.f119 2) (Ic_sCopyRLc r) (Yc_sCopyRLc r) := by
  refine LoopSem.ofHead wide fun k h => ⟨_, _, run_c_sCopyRLc r k, ?_⟩
  try delta a1_c_sCopyRLc
  have g := wR_eq r
  have g2 := @sumBy_mem _ wY r.templates (r.templates.getD k default)
  with_reducible repeat' (first | apply And.intro | exact flatI | exact flatS | exact rowLens | (intro; skip) | apply obsN | apply obsC | apply obA | apply obM | apply obB | apply svA | apply tupA | apply lcA | apply lcS | apply svC | apply liC | apply lbC | apply lsC | apply vIc | apply vBc | apply vSc | apply vLc | apply mapC | apply hdI | apply Ec_sCopyRLa | apply Ec_sCopyRLb | apply Ec_sCopyRLc | apply EW0c_sCopyRLc | apply EW0c_sCopyRLb | apply EW0c_sCopyRLa | apply c_sCopyY)
  all_goals (try simp only [std] at *)
  all_goals (try (first | with_reducible apply c_sCopyY | (simp only [<- List.map_append]; first | with_reducible apply c_sCopyY)))
  all_goals (try (first | with_reducible rfl | omega | assumption | exact dT ‹_› | exact dF ‹_› | ((first | refine rowGet ?_ | refine getC ?_ rfl); (first | omega | (simp only [std]; omega) | grind)) | (show (_ : St) = _; rfl) | grind [take_get, snocI, snocS, rowSnoc, getD_mem']))
theorem Sc_sCopyRLb (r : Rules) (h : wR r <= 1048576)  : LoopSem Tryz.prog (loopAt Tryz.f119 1) (Ic_sCopyRLb r) (Yc_sCopyRLb r) := by
  refine LoopSem.ofHead wide fun k h => ⟨_, _, run_c_sCopyRLb r k, ?_⟩
  try delta a1_c_sCopyRLb
  have g := wR_eq r
  have g2 := @sumBy_mem _ wY r.patterns (r.patterns.getD k default)
  with_reducible repeat' (first | apply And.intro | exact flatI | exact flatS | exact rowLens | (intro; skip) | apply obsN | apply obsC | apply obA | apply obM | apply obB | apply svA | apply tupA | apply lcA | apply lcS | apply svC | apply liC | apply lbC | apply lsC | apply vIc | apply vBc | apply vSc | apply vLc | apply mapC | apply hdI | apply Ec_sCopyRLa | apply Ec_sCopyRLb | apply Ec_sCopyRLc | apply Sc_sCopyRLc | apply EW0c_sCopyRLc | apply EW0c_sCopyRLb | apply EW0c_sCopyRLa | apply c_sCopyY)
  all_goals (try simp only [std] at *)
  all_goals (try (first | with_reducible apply c_sCopyY | (simp only [<- List.map_append]; first | with_reducible apply c_sCopyY)))
  all_goals (try (first | with_reducible rfl | omega | assumption | exact dT ‹_› | exact dF ‹_› | ((first | refine rowGet ?_ | refine getC ?_ rfl); (first | omega | (simp only [std]; omega) | grind)) | (show (_ : St) = _; rfl) | grind [take_get, snocI, snocS, rowSnoc, getD_mem']))
theorem Sc_sCopyRLa (r : Rules) (h : wR r <= 1048576)  : LoopSem Tryz.prog (loopAt Tryz.f119 0) (Ic_sCopyRLa r) (Yc_sCopyRLa r) := by
  refine LoopSem.ofHead wide fun k h => ⟨_, _, run_c_sCopyRLa r k, ?_⟩
  try delta a1_c_sCopyRLa
  have g := wR_eq r
  have g2 := @sumBy_mem _ wY r.literals (r.literals.getD k default)
  with_reducible repeat' (first | apply And.intro | exact flatI | exact flatS | exact rowLens | (intro; skip) | apply obsN | apply obsC | apply obA | apply obM | apply obB | apply svA | apply tupA | apply lcA | apply lcS | apply svC | apply liC | apply lbC | apply lsC | apply vIc | apply vBc | apply vSc | apply vLc | apply mapC | apply hdI | apply Ec_sCopyRLa | apply Ec_sCopyRLb | apply Ec_sCopyRLc | apply Sc_sCopyRLb | apply Sc_sCopyRLc | apply EW0c_sCopyRLc | apply EW0c_sCopyRLb | apply EW0c_sCopyRLa | apply c_sCopyY)
  all_goals (try simp only [std] at *)
  all_goals (try (first | with_reducible apply c_sCopyY | (simp only [<- List.map_append]; first | with_reducible apply c_sCopyY)))
  all_goals (try (first | with_reducible rfl | omega | assumption | exact dT ‹_› | exact dF ‹_› | ((first | refine rowGet ?_ | refine getC ?_ rfl); (first | omega | (simp only [std]; omega) | grind)) | (show (_ : St) = _; rfl) | grind [take_get, snocI, snocS, rowSnoc, getD_mem']))
abbrev a1_c_sCopyR (r : Rules) := [Ob.arr true 5 (List.map syntaxC (Rules.literals r)), Ob.arr true 5 (List.map syntaxC (Rules.patterns r)), Ob.arr true 5 (List.map syntaxC
 (Rules.templates r))]
theorem run_c_sCopyR (r : Rules) : aexec Tryz.prog (Tryz.f119.body.getD .skip) (entry [] [rulesA r] 57) [.ghost (.nilbox 2 0 true 5), .ghost (.sel
 [0, 1, 2, 3] [1, 2, 3, 12, 13, 14]), .loop (List.length (Rules.literals r) - 0) (Lc_sCopyRLa r 0) (Ic_sCopyRLa r) [(True, AEx.exit 0, W0c_sCopyRLa r (Ob.arr true 5 (List.map
 syntaxC (Rules.literals r))), [.ghost (.nilbox 2 1 true 5), .ghost (.sel [0, 1, 2, 3, 4] [1, 2, 3, 27, 28, 29]), .loop (List.length (Rules.patterns r) - 0)
 (Lc_sCopyRLb r 0) (Ic_sCopyRLb r) [(True, AEx.exit 2, W0c_sCopyRLb r (Ob.arr true 5 (List.map syntaxC (Rules.patterns r))), [.ghost (.nilbox 2 2 true 5), .ghost
 (.sel [1, 2, 3, 4, 5] [2, 3, 42, 43, 44]), .loop (List.length (Rules.templates r) - 0) (Lc_sCopyRLc r 0) (Ic_sCopyRLc r) [(True, AEx.exit 4, W0c_sCopyRLc r (Ob.arr true 5
 (List.map syntaxC (Rules.templates r))), [.fin [2, 3, 4]])]])]])]] (finK Tryz.prog [ResultVar.cell 2 78] (rulesO r) (AV.sv (rulesR r 0))) = (List.length (List.map syntaxC
 (Rules.literals r)) <= 9223372036854775807 -> Tc_sCopyRLa r (li 0) (Ob.arr true 5 []) = Lc_sCopyRLa r 0 /\ Ic_sCopyRLa r (List.length (Rules.literals r) - 0) (Lc_sCopyRLa r 0) /\
 LoopSem Tryz.prog (loopAt Tryz.f119 0) (Ic_sCopyRLa r) (Yc_sCopyRLa r) /\ (True -> List.length (List.map syntaxC (Rules.patterns r)) <= 9223372036854775807 -> Tc_sCopyRLb r (li 0)
 (Ob.arr true 5 []) = Lc_sCopyRLb r 0 /\ Ic_sCopyRLb r (List.length (Rules.patterns r) - 0) (Lc_sCopyRLb r 0) /\ LoopSem Tryz.prog (loopAt Tryz.f119 1) (Ic_sCopyRLb r) (Yc_sCopyRLb
 r) /\ (True -> List.length (List.map syntaxC (Rules.templates r)) <= 9223372036854775807 -> Tc_sCopyRLc r (li 0) (Ob.arr true 5 []) = Lc_sCopyRLc r 0 /\ Ic_sCopyRLc r (List.length
 (Rules.templates r) - 0) (Lc_sCopyRLc r 0) /\ LoopSem Tryz.prog (loopAt Tryz.f119 2) (Ic_sCopyRLc r) (Yc_sCopyRLc r) /\ (True -> ObsEq (a1_c_sCopyR r) (a1_c_sCopyR r) /\ AV.sv (SV.agg
 [AC.ref 0, AC.ref 1, AC.ref 2]) = AV.sv (SV.agg [AC.ref 0, AC.ref 1, AC.ref 2])) /\ True) /\ True) /\ True) := by kernel_rfl
theorem c_sCopyR (r : Rules) (h : wR r <= 1048576)  : P_c_sCopyR r := by
  refine CallOK.ofRun wide (run_c_sCopyR r) Tryz.call119 Tryz.func119 rfl rfl rfl ?_
  try delta a1_c_sCopyR
  have g := wR_eq r
  with_reducible repeat' (first | apply And.intro | exact flatI | exact flatS | exact rowLens | (intro; skip) | apply obsN | apply obsC | apply obA | apply obM | apply obB | apply svA | apply tupA | apply lcA | apply lcS | apply svC | apply liC | apply lbC | apply lsC | apply vIc | apply vBc | apply vSc | apply vLc | apply mapC | apply hdI | apply Ec_sCopyRLa | apply Sc_sCopyRLa | apply Ec_sCopyRLb | apply Sc_sCopyRLb | apply Ec_sCopyRLc | apply Sc_sCopyRLc | apply EW0c_sCopyRLc | apply EW0c_sCopyRLb | apply EW0c_sCopyRLa | apply c_sCopyY)
  all_goals (try simp only [std] at *)
  all_goals (try (first | with_reducible apply c_sCopyY | (simp only [<- List.map_append]; first | with_reducible apply c_sCopyY)))
  all_goals (try (first | with_reducible rfl | omega | assumption | exact dT ‹_› | exact dF ‹_› | ((first | refine rowGet ?_ | refine getC ?_ rfl); (first | omega | (simp only [std]; omega) | grind)) | (show (_ : St) = _; rfl) | grind [snocI, snocS, rowSnoc]))
abbrev P_c_sCopyX (x : Expander) : Prop := CallOK Tryz.prog 106 [] [expanderA x] (expanderO x) (.sv (expanderR x 0))
def Tc_sCopyXLa (x : Expander) (x0 : SV) (x1 : Ob) : St := St.mk (regsOf 32 [(2, AV.sv (SV.one (AC.ptr 0 0))), (3, AV.sv (SV.one (AC.ptr 1 0))), (17, AV.sv (ll (List.map rulesC
 (Expander.macros x)))), (18, AV.sv (li (↑(List.length (List.map rulesC (Expander.macros x))) : Int))), (19, AV.sv x0)]) [Ob.box [AC.val (Cell.lit (Value.slice none 0 0)), AC.val
 (Cell.lit (Value.slice none 0 0)), vI 0, vI 0, vI 0], Ob.box [AC.ref 2, AC.ref 3, vI (Expander.scope x), vI (Expander.vari x), vI (Expander.steps x)], Ob.arr true 4 (List.map
 bindingC (Expander.bindings x)), x1] 0 
def Lc_sCopyXLa (x : Expander) (k : Nat) : St := Tc_sCopyXLa x (li (k : Int)) (Ob.arr true 3 (List.map rulesC (List.take k (Expander.macros x)))) 
abbrev Ic_sCopyXLa (x : Expander) : Nat -> St -> Prop := Head (Lc_sCopyXLa x) (fun k => k <= List.length (Expander.macros x) /\ List.length (Expander.macros x) <= 9223372036854775807) fun
 k => List.length (Expander.macros x) - k 
def W0c_sCopyXLa (x : Expander) (x0 : Ob) : St := St.mk (regsOf 32 [(2, AV.sv (SV.one (AC.ptr 0 0))), (3, AV.sv (SV.one (AC.ptr 1 0)))]) [Ob.box [AC.val (Cell.lit (Value.slice none
 0 0)), AC.val (Cell.lit (Value.slice none 0 0)), vI 0, vI 0, vI 0], Ob.box [AC.ref 2, AC.ref 3, vI (Expander.scope x), vI (Expander.vari x), vI (Expander.steps x)], Ob.arr true 4
 (List.map bindingC (Expander.bindings x)), x0] 0 
def Yc_sCopyXLa (x : Expander) : List (Prop × AEx × St) := [(True, AEx.exit 0, W0c_sCopyXLa x (Ob.arr true 3 (List.map rulesC (Expander.macros x))))]

theorem Ec_sCopyXLa {x : Expander} {k : Nat} {x0 : SV} {x1 : Ob} (h0 : x0 = (li (k : Int))) (h1 : x1 = (Ob.arr true 3 (List.map rulesC (List.take k (Expander.macros x))))) :
 Tc_sCopyXLa x x0 x1 = Lc_sCopyXLa x k := by
  rw [h0, h1]
  rfl
theorem EW0c_sCopyXLa {x : Expander} {x0 y0 : Ob} (h0 : x0 = y0) : W0c_sCopyXLa x x0 = W0c_sCopyXLa x y0 := by rw [h0]
abbrev a1_c_sCopyXLa (x : Expander) (k : Nat) := (List.getD (Expander.macros x) k default)
theorem run_c_sCopyXLa (x : Expander) (k : Nat) : aexec Tryz.prog (loopAt Tryz.f106 0) (Lc_sCopyXLa x k) [.br [.cells (rulesF (a1_c_sCopyXLa x k)), .draw [(4, [5, 6, 7]),
 (5, [3, 13]), (7, [1])], .call [Mode.rd] (rulesO (a1_c_sCopyXLa x k)) (AV.sv (rulesR (a1_c_sCopyXLa x k) 0)), .ghost (.sel [0, 1, 2, 14] [2, 3, 17, 18, 19]), .goto
 (List.length (Expander.macros x) - (k + 1)) (Lc_sCopyXLa x (k + 1))] [.ghost (.sel [0, 1, 2, 3] [2, 3]), .out 0]] (loopK (Ic_sCopyXLa x) (Yc_sCopyXLa x) (List.length
 (Expander.macros x) - k)) = ((decide ((k : Int) < (↑(List.length (List.map rulesC (Expander.macros x))) : Int)) = true -> (0 <= (k : Int) /\ (List.map rulesC (Expander.macros
 x))[Int.toNat (k : Int)]? = some (rulesF (a1_c_sCopyXLa x k))) /\ P_c_sCopyR (a1_c_sCopyXLa x k) /\ (List.length (List.map rulesC (List.take k (Expander.macros x))) + 1) * 72 <=
 140737488355328 /\ rng .i64 ((k : Int) + 1) /\ List.length (Expander.macros x) - (k + 1) < List.length (Expander.macros x) - k /\ Tc_sCopyXLa x (li ((k : Int) + 1)) (Ob.arr
 true 3 (List.map rulesC (List.take k (Expander.macros x)) ++ [rulesF (a1_c_sCopyXLa x k)])) = Lc_sCopyXLa x (k + 1) /\ Ic_sCopyXLa x (List.length (Expander.macros x) - (k + 1))
 (Lc_sCopyXLa x (k + 1))) /\ (decide ((k : Int) < (↑(List.length (List.map rulesC (Expander.macros x))) : Int)) = false -> True /\ W0c_sCopyXLa x (Ob.arr true 3 (List.map rulesC
 (List.take k (Expander.macros x)))) = W0c_sCopyXLa x (Ob.arr true 3 (List.map rulesC (Expander.macros x))))) := by kernel_rfl
theorem Sc_sCopyXLa (x : Expander) (h : wX x <= 1048576)  : LoopSem Tryz.prog (loopAt Tryz.f106 0) (Ic_sCopyXLa x) (Yc_sCopyXLa x) := by
  refine LoopSem.ofHead wide fun k h => ⟨_, _, run_c_sCopyXLa x k, ?_⟩
  try delta a1_c_sCopyXLa
  have g := wX_eq x
  have g2 := @sumBy_mem _ wR x.macros (x.macros.getD k default)
  with_reducible repeat' (first | apply And.intro | exact flatI | exact flatS | exact rowLens | (intro; skip) | apply obsN | apply obsC | apply obA | apply obM | apply obB | apply svA | apply tupA | apply lcA | apply lcS | apply svC | apply liC | apply lbC | apply lsC | apply vIc | apply vBc | apply vSc | apply vLc | apply mapC | apply hdI | apply Ec_sCopyXLa | apply EW0c_sCopyXLa | apply c_sCopyB | apply c_sCopyR)
  all_goals (try simp only [std] at *)
  all_goals (try (first | with_reducible apply c_sCopyB | with_reducible apply c_sCopyR | (simp only [<- List.map_append]; first | with_reducible apply c_sCopyB | with_reducible apply c_sCopyR)))
  all_goals (try (first | with_reducible rfl | omega | assumption | exact dT ‹_› | exact dF ‹_› | ((first | refine rowGet ?_ | refine getC ?_ rfl); (first | omega | (simp only [std]; omega) | grind)) | (show (_ : St) = _; rfl) | grind [take_get, snocI, snocS, rowSnoc, getD_mem']))
theorem run_c_sCopyX (x : Expander) : aexec Tryz.prog (Tryz.f106.body.getD .skip) (entry [] [expanderA x] 32) [.draw [(11, [10])], .call [Mode.rd] [Ob.arr
 true 4 (List.map bindingC (Expander.bindings x))] (AV.sv (SV.one (AC.ref 0))), .ghost (.nilbox 10 1 true 3), .ghost (.sel [1, 10, 2, 11] [2, 3, 17, 18, 19]),
 .loop (List.length (Expander.macros x) - 0) (Lc_sCopyXLa x 0) (Ic_sCopyXLa x) [(True, AEx.exit 0, W0c_sCopyXLa x (Ob.arr true 3 (List.map rulesC (Expander.macros x))), [.fin
 [2, 3]])]] (finK Tryz.prog [ResultVar.cell 2 49] (expanderO x) (AV.sv (expanderR x 0))) = (P_c_sCopyB (Expander.bindings x) /\ (List.length (List.map rulesC (Expander.macros x)) <=
 9223372036854775807 -> Tc_sCopyXLa x (li 0) (Ob.arr true 3 []) = Lc_sCopyXLa x 0 /\ Ic_sCopyXLa x (List.length (Expander.macros x) - 0) (Lc_sCopyXLa x 0) /\ LoopSem Tryz.prog (loopAt
 Tryz.f106 0) (Ic_sCopyXLa x) (Yc_sCopyXLa x) /\ (True -> ObsEq [Ob.arr true 4 (List.map bindingC (Expander.bindings x)), Ob.arr true 3 (List.map rulesC (Expander.macros x))] [Ob.arr
 true 4 (List.map bindingC (Expander.bindings x)), Ob.arr true 3 (List.map rulesC (Expander.macros x))] /\ AV.sv (SV.agg [AC.ref 0, AC.ref 1, vI (Expander.scope x), vI
 (Expander.vari x), vI (Expander.steps x)]) = AV.sv (SV.agg [AC.ref 0, AC.ref 1, vI (Expander.scope x), vI (Expander.vari x), vI (Expander.steps x)])) /\ True)) := by kernel_rfl
theorem c_sCopyX (x : Expander) (h : wX x <= 1048576)  : P_c_sCopyX x := by
  refine CallOK.ofRun wide (run_c_sCopyX x) Tryz.call106 Tryz.func106 rfl rfl rfl ?_
  have g := wX_eq x
  with_reducible repeat' (first | apply And.intro | exact flatI | exact flatS | exact rowLens | (intro; skip) | apply obsN | apply obsC | apply obA | apply obM | apply obB | apply svA | apply tupA | apply lcA | apply lcS | apply svC | apply liC | apply lbC | apply lsC | apply vIc | apply vBc | apply vSc | apply vLc | apply mapC | apply hdI | apply Ec_sCopyXLa | apply Sc_sCopyXLa | apply EW0c_sCopyXLa | apply c_sCopyB | apply c_sCopyR)
  all_goals (try simp only [std] at *)
  all_goals (try (first | with_reducible apply c_sCopyB | with_reducible apply c_sCopyR | (simp only [<- List.map_append]; first | with_reducible apply c_sCopyB | with_reducible apply c_sCopyR)))
  all_goals (try (first | with_reducible rfl | omega | assumption | exact dT ‹_› | exact dF ‹_› | ((first | refine rowGet ?_ | refine getC ?_ rfl); (first | omega | (simp only [std]; omega) | grind)) | (show (_ : St) = _; rfl) | grind [snocI, snocS, rowSnoc]))
abbrev P_c_iCopyX (x : Expander) : Prop := CallOK Tryz.prog 108 [] [expanderA x] (expanderO x) (.sv (expanderR x 0))
def Tc_iCopyXLa (x : Expander) (x0 : SV) (x1 : Ob) : St := St.mk (regsOf 32 [(2, AV.sv (SV.one (AC.ptr 0 0))), (3, AV.sv (SV.one (AC.ptr 1 0))), (17, AV.sv (ll (List.map rulesC
 (Expander.macros x)))), (18, AV.sv (li (↑(List.length (List.map rulesC (Expander.macros x))) : Int))), (19, AV.sv x0)]) [Ob.box [AC.val (Cell.lit (Value.slice none 0 0)), AC.val
 (Cell.lit (Value.slice none 0 0)), vI 0, vI 0, vI 0], Ob.box [AC.ref 2, AC.ref 3, vI (Expander.scope x), vI (Expander.vari x), vI (Expander.steps x)], Ob.arr true 4 (List.map
 bindingC (Expander.bindings x)), x1] 0 
def Lc_iCopyXLa (x : Expander) (k : Nat) : St := Tc_iCopyXLa x (li (k : Int)) (Ob.arr true 3 (List.map rulesC (List.take k (Expander.macros x)))) 
abbrev Ic_iCopyXLa (x : Expander) : Nat -> St -> Prop := Head (Lc_iCopyXLa x) (fun k => k <= List.length (Expander.macros x) /\ List.length (Expander.macros x) <= 9223372036854775807) fun
 k => List.length (Expander.macros x) - k 
def W0c_iCopyXLa (x : Expander) (x0 : Ob) : St := St.mk (regsOf 32 [(2, AV.sv (SV.one (AC.ptr 0 0))), (3, AV.sv (SV.one (AC.ptr 1 0)))]) [Ob.box [AC.val (Cell.lit (Value.slice none
 0 0)), AC.val (Cell.lit (Value.slice none 0 0)), vI 0, vI 0, vI 0], Ob.box [AC.ref 2, AC.ref 3, vI (Expander.scope x), vI (Expander.vari x), vI (Expander.steps x)], Ob.arr true 4
 (List.map bindingC (Expander.bindings x)), x0] 0 
def Yc_iCopyXLa (x : Expander) : List (Prop × AEx × St) := [(True, AEx.exit 0, W0c_iCopyXLa x (Ob.arr true 3 (List.map rulesC (Expander.macros x))))]

theorem Ec_iCopyXLa {x : Expander} {k : Nat} {x0 : SV} {x1 : Ob} (h0 : x0 = (li (k : Int))) (h1 : x1 = (Ob.arr true 3 (List.map rulesC (List.take k (Expander.macros x))))) :
 Tc_iCopyXLa x x0 x1 = Lc_iCopyXLa x k := by
  rw [h0, h1]
  rfl
theorem EW0c_iCopyXLa {x : Expander} {x0 y0 : Ob} (h0 : x0 = y0) : W0c_iCopyXLa x x0 = W0c_iCopyXLa x y0 := by rw [h0]
abbrev a1_c_iCopyXLa (x : Expander) (k : Nat) := (List.getD (Expander.macros x) k default)
theorem run_c_iCopyXLa (x : Expander) (k : Nat) : aexec Tryz.prog (loopAt Tryz.f108 0) (Lc_iCopyXLa x k) [.br [.cells (rulesF (a1_c_iCopyXLa x k)), .draw [(4, [5, 6, 7]),
 (5, [3, 13]), (7, [1])], .call [Mode.rd] (rulesO (a1_c_iCopyXLa x k)) (AV.sv (rulesR (a1_c_iCopyXLa x k) 0)), .ghost (.sel [0, 1, 2, 14] [2, 3, 17, 18, 19]), .goto
 (List.length (Expander.macros x) - (k + 1)) (Lc_iCopyXLa x (k + 1))] [.ghost (.sel [0, 1, 2, 3] [2, 3]), .out 0]] (loopK (Ic_iCopyXLa x) (Yc_iCopyXLa x) (List.length
 (Expander.macros x) - k)) = ((decide ((k : Int) < (↑(List.length (List.map rulesC (Expander.macros x))) : Int)) = true -> (0 <= (k : Int) /\ (List.map rulesC (Expander.macros
 x))[Int.toNat (k : Int)]? = some (rulesF (a1_c_iCopyXLa x k))) /\ P_c_iCopyR (a1_c_iCopyXLa x k) /\ (List.length (List.map rulesC (List.take k (Expander.macros x))) + 1) * 72 <=
 140737488355328 /\ rng .i64 ((k : Int) + 1) /\ List.length (Expander.macros x) - (k + 1) < List.length (Expander.macros x) - k /\ Tc_iCopyXLa x (li ((k : Int) + 1)) (Ob.arr
 true 3 (List.map rulesC (List.take k (Expander.macros x)) ++ [rulesF (a1_c_iCopyXLa x k)])) = Lc_iCopyXLa x (k + 1) /\ Ic_iCopyXLa x (List.length (Expander.macros x) - (k + 1))
 (Lc_iCopyXLa x (k + 1))) /\ (decide ((k : Int) < (↑(List.length (List.map rulesC (Expander.macros x))) : Int)) = false -> True /\ W0c_iCopyXLa x (Ob.arr true 3 (List.map rulesC
 (List.take k (Expander.macros x)))) = W0c_iCopyXLa x (Ob.arr true 3 (List.map rulesC (Expander.macros x))))) := by kernel_rfl
theorem Sc_iCopyXLa (x : Expander) (h : wX x <= 1048576)  : LoopSem Tryz.prog (loopAt Tryz.f108 0) (Ic_iCopyXLa x) (Yc_iCopyXLa x) := by
  refine LoopSem.ofHead wide fun k h => ⟨_, _, run_c_iCopyXLa x k, ?_⟩
  try delta a1_c_iCopyXLa
  have g := wX_eq x
  have g2 := @sumBy_mem _ wR x.macros (x.macros.getD k default)
  with_reducible repeat' (first | apply And.intro | exact flatI | exact flatS | exact rowLens | (intro; skip) | apply obsN | apply obsC | apply obA | apply obM | apply obB | apply svA | apply tupA | apply lcA | apply lcS | apply svC | apply liC | apply lbC | apply lsC | apply vIc | apply vBc | apply vSc | apply vLc | apply mapC | apply hdI | apply Ec_iCopyXLa | apply EW0c_iCopyXLa | apply c_iCopyB | apply c_iCopyR)
  all_goals (try simp only [std] at *)
  all_goals (try (first | with_reducible apply c_iCopyB | with_reducible apply c_iCopyR | (simp only [<- List.map_append]; first | with_reducible apply c_iCopyB | with_reducible apply c_iCopyR)))
  all_goals (try (first | with_reducible rfl | omega | assumption | exact dT ‹_› | exact dF ‹_› | ((first | refine rowGet ?_ | refine getC ?_ rfl); (first | omega | (simp only [std]; omega) | grind)) | (show (_ : St) = _; rfl) | grind [take_get, snocI, snocS, rowSnoc, getD_mem']))
theorem run_c_iCopyX (x : Expander) : aexec Tryz.prog (Tryz.f108.body.getD .skip) (entry [] [expanderA x] 32) [.draw [(11, [10])], .call [Mode.rd] [Ob.arr
 true 4 (List.map bindingC (Expander.bindings x))] (AV.sv (SV.one (AC.ref 0))), .ghost (.nilbox 10 1 true 3), .ghost (.sel [1, 10, 2, 11] [2, 3, 17, 18, 19]),
 .loop (List.length (Expander.macros x) - 0) (Lc_iCopyXLa x 0) (Ic_iCopyXLa x) [(True, AEx.exit 0, W0c_iCopyXLa x (Ob.arr true 3 (List.map rulesC (Expander.macros x))), [.fin
 [2, 3]])]] (finK Tryz.prog [ResultVar.cell 2 49] (expanderO x) (AV.sv (expanderR x 0))) = (P_c_iCopyB (Expander.bindings x) /\ (List.length (List.map rulesC (Expander.macros x)) <=
 9223372036854775807 -> Tc_iCopyXLa x (li 0) (Ob.arr true 3 []) = Lc_iCopyXLa x 0 /\ Ic_iCopyXLa x (List.length (Expander.macros x) - 0) (Lc_iCopyXLa x 0) /\ LoopSem Tryz.prog (loopAt
 Tryz.f108 0) (Ic_iCopyXLa x) (Yc_iCopyXLa x) /\ (True -> ObsEq [Ob.arr true 4 (List.map bindingC (Expander.bindings x)), Ob.arr true 3 (List.map rulesC (Expander.macros x))] [Ob.arr
 true 4 (List.map bindingC (Expander.bindings x)), Ob.arr true 3 (List.map rulesC (Expander.macros x))] /\ AV.sv (SV.agg [AC.ref 0, AC.ref 1, vI (Expander.scope x), vI
 (Expander.vari x), vI (Expander.steps x)]) = AV.sv (SV.agg [AC.ref 0, AC.ref 1, vI (Expander.scope x), vI (Expander.vari x), vI (Expander.steps x)])) /\ True)) := by kernel_rfl
theorem c_iCopyX (x : Expander) (h : wX x <= 1048576)  : P_c_iCopyX x := by
  refine CallOK.ofRun wide (run_c_iCopyX x) Tryz.call108 Tryz.func108 rfl rfl rfl ?_
  have g := wX_eq x
  with_reducible repeat' (first | apply And.intro | exact flatI | exact flatS | exact rowLens | (intro; skip) | apply obsN | apply obsC | apply obA | apply obM | apply obB | apply svA | apply tupA | apply lcA | apply lcS | apply svC | apply liC | apply lbC | apply lsC | apply vIc | apply vBc | apply vSc | apply vLc | apply mapC | apply hdI | apply Ec_iCopyXLa | apply Sc_iCopyXLa | apply EW0c_iCopyXLa | apply c_iCopyB | apply c_iCopyR)
  all_goals (try simp only [std] at *)
  all_goals (try (first | with_reducible apply c_iCopyB | with_reducible apply c_iCopyR | (simp only [<- List.map_append]; first | with_reducible apply c_iCopyB | with_reducible apply c_iCopyR)))
  all_goals (try (first | with_reducible rfl | omega | assumption | exact dT ‹_› | exact dF ‹_› | ((first | refine rowGet ?_ | refine getC ?_ rfl); (first | omega | (simp only [std]; omega) | grind)) | (show (_ : St) = _; rfl) | grind [snocI, snocS, rowSnoc]))
def nxR (s kind : Int) : Int := s + 1 + (kind - s - 1) % 3
def nxt (s kind : Int) : Int := if nxR s kind <= 99999 then nxR s kind else 0
theorem nxR_kind {s kind n : Int} (h0 : 0 <= s) (hk : 1 <= kind /\ kind <= 3) (hn : s < n /\ n <= nxR s kind /\ n <= 99999) : (kindS n = kind ↔ n = nxR s kind) := by
  unfold kindS nxR at *
  split
  . split <;> omega
  . omega
theorem nxR_le {s kind : Int} : s < nxR s kind /\ nxR s kind <= s + 3 := by unfold nxR; omega
def nxB (s kind : Int) : Bool := decide (nxR s kind <= 99999)
def nxS (s kind : Int) : Int := if nxR s kind <= 99999 then nxR s kind else s
def cdF (c e : Int) : Int := if c = 0 then e else c
abbrev stO (x : Expander) (z c : Int) : List Ob := [.box [.ref 1, .ref 2, vI x.scope, vI x.vari, vI x.steps, vI z, vI c], .arr true 4 (x.bindings.map bindingC), .arr true 3 (x.macros.map rulesC)]
abbrev P_c_sFail (x : Expander) (z : Int) (c : Int) (e : Int) : Prop := CallOK Tryz.prog 187 (stO x z c) [.one (.ptr 0 0), li e] (stO x z (cdF c e)) (.sv (.agg [vI 0, vI 0, .val (.lit (.slice none 0 0)), vI 0, vI 0, vS (mkS []), .val (.lit (.slice none 0 0)), .val (.lit (.slice none 0 0))]))
abbrev a1_c_sFail  := (SV.agg [vI 0, vI 0, AC.val (Cell.lit (Value.slice none 0 0)), vI 0, vI 0, vS (mkS []), AC.val (Cell.lit (Value.slice none 0 0)), AC.val (Cell.lit
 (Value.slice none 0 0))])
abbrev a2_c_sFail (x : Expander) (z : Int) (c : Int) (e : Int) := [Ob.box [AC.ref 1, AC.ref 2, vI (Expander.scope x), vI (Expander.vari x), vI (Expander.steps x), vI z, vI (cdF c
 e)], Ob.arr true 4 (List.map bindingC (Expander.bindings x)), Ob.arr true 3 (List.map rulesC (Expander.macros x))]
abbrev a3_c_sFail  := (SV.agg [vI 0, vI 0, AC.val (Cell.lit (Value.slice none 0 0)), vI 0, vI 0, vS (ByteArray.mk #[]), AC.val (Cell.lit (Value.slice none 0 0)), AC.val (Cell.lit
 (Value.slice none 0 0))])
theorem run_c_sFail (x : Expander) (z : Int) (c : Int) (e : Int) : aexec Tryz.prog (Tryz.f187.body.getD .skip) (entry (stO x z c) [SV.one (AC.ptr 0 0), li e] 15)
 [.br [.fin []] [.fin []]] (finK Tryz.prog [ResultVar.cell 4 30] (stO x z (cdF c e)) (AV.sv a1_c_sFail)) = ((decide (c = 0) = true -> ObsEq [Ob.box [AC.ref 1, AC.ref 2, vI
 (Expander.scope x), vI (Expander.vari x), vI (Expander.steps x), vI z, vI e], Ob.arr true 4 (List.map bindingC (Expander.bindings x)), Ob.arr true 3 (List.map rulesC
 (Expander.macros x))] (a2_c_sFail x z c e) /\ AV.sv a3_c_sFail = AV.sv a1_c_sFail) /\ (decide (c = 0) = false -> ObsEq [Ob.box [AC.ref 1, AC.ref 2, vI (Expander.scope x), vI
 (Expander.vari x), vI (Expander.steps x), vI z, vI c], Ob.arr true 4 (List.map bindingC (Expander.bindings x)), Ob.arr true 3 (List.map rulesC (Expander.macros x))] (a2_c_sFail x
 z c e) /\ AV.sv a3_c_sFail = AV.sv a1_c_sFail)) := by kernel_rfl
theorem c_sFail (x : Expander) (z c e : Int)  : P_c_sFail x z c e := by
  refine CallOK.ofRun wide (run_c_sFail x z c e) Tryz.call187 Tryz.func187 rfl rfl rfl ?_
  try delta a1_c_sFail a2_c_sFail a3_c_sFail
  with_reducible repeat' (first | apply And.intro | exact flatI | exact flatS | exact rowLens | (intro; skip) | apply obsN | apply obsC | apply obA | apply obM | apply obB | apply svA | apply tupA | apply lcA | apply lcS | apply svC | apply liC | apply lbC | apply lsC | apply vIc | apply vBc | apply vSc | apply vLc | apply mapC)
  all_goals (try simp only [std] at *)
  all_goals (try (first | with_reducible rfl | omega | assumption | exact dT ‹_› | exact dF ‹_› | ((first | refine rowGet ?_ | refine getC ?_ rfl); (first | omega | (simp only [std]; omega) | grind)) | (show (_ : St) = _; rfl) | grind [cdF, snocI, snocS, rowSnoc]))
abbrev P_c_sScope (x : Expander) (z : Int) (c : Int) (kind : Int) : Prop := CallOK Tryz.prog 107 (stO x z c) [.one (.ptr 0 0), li kind] [.box [.ref 1, .ref 2, vI (nxS x.scope kind), vI x.vari, vI x.steps, vI z, vI (if nxR x.scope kind <= 99999 then c else cdF c 8)], .arr true 4 (x.bindings.map bindingC), .arr true 3 (x.macros.map rulesC)] (.sv (li (nxt x.scope kind)))
def Tc_sScopeLa (x : Expander) (z : Int) (c : Int) (kind : Int) (x0 : SV) : St := St.mk (regsOf 32 [(0, AV.sv (SV.one (AC.ptr 0 0))), (1, AV.sv (li kind)), (5, AV.sv x0)]) [Ob.box
 [AC.ref 1, AC.ref 2, vI (Expander.scope x), vI (Expander.vari x), vI (Expander.steps x), vI z, vI c], Ob.arr true 4 (List.map bindingC (Expander.bindings x)), Ob.arr true 3
 (List.map rulesC (Expander.macros x))] 3 
def Lc_sScopeLa (x : Expander) (z : Int) (c : Int) (kind : Int) (k : Int) : St := Tc_sScopeLa x z c kind (li k) 
abbrev Ic_sScopeLa (x : Expander) (z : Int) (c : Int) (kind : Int) : Nat -> St -> Prop := Head (Lc_sScopeLa x z c kind) (fun k => Expander.scope x + 1 <= k /\ k <= nxR (Expander.scope x)
 kind /\ k <= 100000) fun k => Int.toNat (nxR (Expander.scope x) kind - k) 
def W0c_sScopeLa (x : Expander) (z : Int) (c : Int) (kind : Int) (x0 : SV) : St := St.mk (regsOf 32 [(0, AV.sv (SV.one (AC.ptr 0 0))), (5, AV.sv x0)]) [Ob.box [AC.ref 1, AC.ref 2,
 vI (Expander.scope x), vI (Expander.vari x), vI (Expander.steps x), vI z, vI c], Ob.arr true 4 (List.map bindingC (Expander.bindings x)), Ob.arr true 3 (List.map rulesC
 (Expander.macros x))] 3 
def Yc_sScopeLa (x : Expander) (z : Int) (c : Int) (kind : Int) : List (Prop × AEx × St) := [(True, AEx.exit 0, W0c_sScopeLa x z c kind (li (if nxR (Expander.scope x) kind <= 99999
 then nxR (Expander.scope x) kind else 100000)))]

theorem Ec_sScopeLa {x : Expander} {z : Int} {c : Int} {kind : Int} {k : Int} {x0 : SV} (h0 : x0 = (li k)) : Tc_sScopeLa x z c kind x0 = Lc_sScopeLa x z c kind k := by
  rw [h0]
  rfl
theorem EW0c_sScopeLa {x : Expander} {z : Int} {c : Int} {kind : Int} {x0 y0 : SV} (h0 : x0 = y0) : W0c_sScopeLa x z c kind x0 = W0c_sScopeLa x z c kind y0 := by rw [h0]
theorem run_c_sScopeLa (x : Expander) (z : Int) (c : Int) (kind : Int) (k : Int) : aexec Tryz.prog (loopAt Tryz.f107 0) (Lc_sScopeLa x z c kind k) [.br [.call [Mode.rd] []
 (AV.sv (li (kindS k))), .br [.ghost (.sel [0, 1, 2] [0, 1, 5]), .goto (Int.toNat (nxR (Expander.scope x) kind - (k + 1))) (Lc_sScopeLa x z c kind (k + 1))]
 [.ghost (.sel [0, 1, 2] [0, 5]), .out 0]] [.bool false, .ghost (.sel [0, 1, 2] [0, 5]), .out 0]] (loopK (Ic_sScopeLa x z c kind) (Yc_sScopeLa x z c kind)
 (Int.toNat (nxR (Expander.scope x) kind - k))) = ((decide (k <= 99999) = true -> P_c_sKind k /\ (decide (kindS k ≠ kind) = true -> rng .i64 (k + 1) /\ Int.toNat (nxR
 (Expander.scope x) kind - (k + 1)) < Int.toNat (nxR (Expander.scope x) kind - k) /\ Tc_sScopeLa x z c kind (li (k + 1)) = Lc_sScopeLa x z c kind (k + 1) /\ Ic_sScopeLa x z c kind
 (Int.toNat (nxR (Expander.scope x) kind - (k + 1))) (Lc_sScopeLa x z c kind (k + 1))) /\ (decide (kindS k ≠ kind) = false -> True /\ W0c_sScopeLa x z c kind (li k) = W0c_sScopeLa x z
 c kind (li (if nxR (Expander.scope x) kind <= 99999 then nxR (Expander.scope x) kind else 100000)))) /\ (decide (k <= 99999) = false -> false = false /\ True /\ W0c_sScopeLa x z c kind
 (li k) = W0c_sScopeLa x z c kind (li (if nxR (Expander.scope x) kind <= 99999 then nxR (Expander.scope x) kind else 100000)))) := by kernel_rfl
theorem Sc_sScopeLa (x : Expander) (z : Int) (c : Int) (kind : Int) (h : 0 <= Expander.scope x /\ Expander.scope x <= 99999 /\ 1 <= kind /\ kind <= 3)  : LoopSem Tryz.prog (loopAt
 Tryz.f107 0) (Ic_sScopeLa x z c kind) (Yc_sScopeLa x z c kind) := by
  refine LoopSem.ofHead wide fun k h => ⟨_, _, run_c_sScopeLa x z c kind k, ?_⟩
  have g1 := @nxR_kind x.scope kind k
  have g2 := @nxR_le x.scope kind
  with_reducible repeat' (first | apply And.intro | exact flatI | exact flatS | exact rowLens | (intro; skip) | apply obsN | apply obsC | apply obA | apply obM | apply obB | apply svA | apply tupA | apply lcA | apply lcS | apply svC | apply liC | apply lbC | apply lsC | apply vIc | apply vBc | apply vSc | apply vLc | apply mapC | apply hdI | apply Ec_sScopeLa | apply EW0c_sScopeLa | apply c_sKind | apply c_sFail)
  all_goals (try simp only [std] at *)
  all_goals (try (first | with_reducible apply c_sKind | with_reducible apply c_sFail | (simp only [<- List.map_append]; first | with_reducible apply c_sKind | with_reducible apply c_sFail)))
  all_goals (try (first | with_reducible rfl | omega | assumption | exact dT ‹_› | exact dF ‹_› | ((first | refine rowGet ?_ | refine getC ?_ rfl); (first | omega | (simp only [std]; omega) | grind)) | (show (_ : St) = _; rfl) | grind [snocI, snocS, rowSnoc]))
abbrev a1_c_sScope (x : Expander) (z : Int) (c : Int) (kind : Int) := [Ob.box [AC.ref 1, AC.ref 2, vI (nxS (Expander.scope x) kind), vI (Expander.vari x), vI (Expander.steps x), vI
 z, vI (if nxR (Expander.scope x) kind ≤ 99999 then c else cdF c 8)], Ob.arr true 4 (List.map bindingC (Expander.bindings x)), Ob.arr true 3 (List.map rulesC (Expander.macros x))]
abbrev a2_c_sScope (x : Expander) (kind : Int) := (if nxR (Expander.scope x) kind ≤ 99999 then nxR (Expander.scope x) kind else 100000)
theorem run_c_sScope (x : Expander) (z : Int) (c : Int) (kind : Int) : aexec Tryz.prog (Tryz.f107.body.getD .skip) (entry (stO x z c) [SV.one (AC.ptr 0 0), li
 kind] 32) [.ghost (.sel [0, 1, 2] [0, 1, 5]), .loop (Int.toNat (nxR (Expander.scope x) kind - (Expander.scope x + 1))) (Lc_sScopeLa x z c kind (Expander.scope x + 1))
 (Ic_sScopeLa x z c kind) [(True, AEx.exit 0, W0c_sScopeLa x z c kind (li (a2_c_sScope x kind)), [.br [.call [Mode.ptr, Mode.rd] (stO x z (cdF c 8)) (AV.sv (SV.agg [vI 0, vI
 0, AC.val (Cell.lit (Value.slice none 0 0)), vI 0, vI 0, vS (mkS []), AC.val (Cell.lit (Value.slice none 0 0)), AC.val (Cell.lit (Value.slice none 0 0))])), .fin []] [.fin
 []]])]] (finK Tryz.prog [ResultVar.tmp 4] (a1_c_sScope x z c kind) (AV.sv (li (nxt (Expander.scope x) kind)))) = (rng .i64 (Expander.scope x + 1) /\ Tc_sScopeLa x z c kind
 (li (Expander.scope x + 1)) = Lc_sScopeLa x z c kind (Expander.scope x + 1) /\ Ic_sScopeLa x z c kind (Int.toNat (nxR (Expander.scope x) kind - (Expander.scope x + 1)))
 (Lc_sScopeLa x z c kind (Expander.scope x + 1)) /\ LoopSem Tryz.prog (loopAt Tryz.f107 0) (Ic_sScopeLa x z c kind) (Yc_sScopeLa x z c kind) /\ (True -> (decide (99999 < if nxR
 (Expander.scope x) kind <= 99999 then nxR (Expander.scope x) kind else 100000) = true -> P_c_sFail x z c 8 /\ ObsEq [Ob.box [AC.ref 1, AC.ref 2, vI (Expander.scope x), vI
 (Expander.vari x), vI (Expander.steps x), vI z, vI (cdF c 8)], Ob.arr true 4 (List.map bindingC (Expander.bindings x)), Ob.arr true 3 (List.map rulesC (Expander.macros x))]
 (a1_c_sScope x z c kind) /\ AV.sv (li 0) = AV.sv (li (nxt (Expander.scope x) kind))) /\ (decide (99999 < if nxR (Expander.scope x) kind <= 99999 then nxR (Expander.scope x) kind else
 100000) = false -> ObsEq [Ob.box [AC.ref 1, AC.ref 2, vI (a2_c_sScope x kind), vI (Expander.vari x), vI (Expander.steps x), vI z, vI c], Ob.arr true 4 (List.map bindingC
 (Expander.bindings x)), Ob.arr true 3 (List.map rulesC (Expander.macros x))] (a1_c_sScope x z c kind) /\ AV.sv (li (a2_c_sScope x kind)) = AV.sv (li (nxt (Expander.scope x)
 kind)))) /\ True) := by kernel_rfl
theorem c_sScope (x : Expander) (z c kind : Int) (h : 0 <= x.scope /\ x.scope <= 99999 /\ 1 <= kind /\ kind <= 3)  : P_c_sScope x z c kind := by
  refine CallOK.ofRun wide (run_c_sScope x z c kind) Tryz.call107 Tryz.func107 rfl rfl rfl ?_
  try delta a1_c_sScope a2_c_sScope
  have g2 := @nxR_le x.scope kind
  with_reducible repeat' (first | apply And.intro | exact flatI | exact flatS | exact rowLens | (intro; skip) | apply obsN | apply obsC | apply obA | apply obM | apply obB | apply svA | apply tupA | apply lcA | apply lcS | apply svC | apply liC | apply lbC | apply lsC | apply vIc | apply vBc | apply vSc | apply vLc | apply mapC | apply hdI | apply Ec_sScopeLa | apply Sc_sScopeLa | apply EW0c_sScopeLa | apply c_sKind | apply c_sFail)
  all_goals (try simp only [std] at *)
  all_goals (try (first | with_reducible apply c_sKind | with_reducible apply c_sFail | (simp only [<- List.map_append]; first | with_reducible apply c_sKind | with_reducible apply c_sFail)))
  all_goals (try (first | with_reducible rfl | omega | assumption | exact dT ‹_› | exact dF ‹_› | ((first | refine rowGet ?_ | refine getC ?_ rfl); (first | omega | (simp only [std]; omega) | grind)) | (show (_ : St) = _; rfl) | grind [nxt, nxS, snocI, snocS, rowSnoc]))
abbrev P_c_iNext (s : Int) (kind : Int) : Prop := CallOK Tryz.prog 109 [] [li s, li kind] [] (.sv (li (nxt s kind)))
def Tc_iNextLa (s : Int) (kind : Int) (x0 : SV) : St := St.mk (regsOf 23 [(0, AV.sv (li s)), (1, AV.sv (li kind)), (5, AV.sv x0)]) [] 0 
def Lc_iNextLa (s : Int) (kind : Int) (k : Int) : St := Tc_iNextLa s kind (li k) 
abbrev Ic_iNextLa (s : Int) (kind : Int) : Nat -> St -> Prop := Head (Lc_iNextLa s kind) (fun k => s + 1 <= k /\ k <= nxR s kind /\ k <= 100000) fun k => Int.toNat (nxR s kind - k) 
def W0c_iNextLa (s : Int) (kind : Int) : St := St.mk (regsOf 23 []) [] 0 
def W1c_iNextLa (s : Int) (kind : Int) (x0 : SV) : St := St.mk (regsOf 23 [(4, AV.sv x0)]) [] 0 
def Yc_iNextLa (s : Int) (kind : Int) : List (Prop × AEx × St) := [(nxB s kind = false, AEx.exit 0, W0c_iNextLa s kind), (nxB s kind = true, AEx.ret, W1c_iNextLa s kind (li (nxR s
 kind)))]

theorem Ec_iNextLa {s : Int} {kind : Int} {k : Int} {x0 : SV} (h0 : x0 = (li k)) : Tc_iNextLa s kind x0 = Lc_iNextLa s kind k := by
  rw [h0]
  rfl
theorem EW1c_iNextLa {s : Int} {kind : Int} {x0 y0 : SV} (h0 : x0 = y0) : W1c_iNextLa s kind x0 = W1c_iNextLa s kind y0 := by rw [h0]
theorem run_c_iNextLa (s : Int) (kind : Int) (k : Int) : aexec Tryz.prog (loopAt Tryz.f109 0) (Lc_iNextLa s kind k) [.br [.br [.call [Mode.rd] [] (AV.sv (li (kindS k))),
 .br [.ghost (.sel [] [4]), .out 1] [.ghost (.sel [] [0, 1, 5]), .goto (Int.toNat (nxR s kind - (k + 1))) (Lc_iNextLa s kind (k + 1))]] [.ghost
 (.sel [] []), .out 0]] [.bool false, .ghost (.sel [] []), .out 0]] (loopK (Ic_iNextLa s kind) (Yc_iNextLa s kind) (Int.toNat (nxR s kind - k))) = ((decide (k
 <= 99999) = true -> rng .i64 (s + 3) /\ (decide (k <= s + 3) = true -> P_c_iKind k /\ (decide (kindS k = kind) = true -> nxB s kind = true /\ W1c_iNextLa s kind (li k) =
 W1c_iNextLa s kind (li (nxR s kind))) /\ (decide (kindS k = kind) = false -> rng .i64 (k + 1) /\ Int.toNat (nxR s kind - (k + 1)) < Int.toNat (nxR s kind - k) /\ Tc_iNextLa s
 kind (li (k + 1)) = Lc_iNextLa s kind (k + 1) /\ Ic_iNextLa s kind (Int.toNat (nxR s kind - (k + 1))) (Lc_iNextLa s kind (k + 1)))) /\ (decide (k <= s + 3) = false -> nxB s kind =
 false /\ W0c_iNextLa s kind = W0c_iNextLa s kind)) /\ (decide (k <= 99999) = false -> false = false /\ nxB s kind = false /\ W0c_iNextLa s kind = W0c_iNextLa s kind)) := by kernel_rfl
theorem Sc_iNextLa (s : Int) (kind : Int) (h : 0 <= s /\ s <= 99999 /\ 1 <= kind /\ kind <= 3)  : LoopSem Tryz.prog (loopAt Tryz.f109 0) (Ic_iNextLa s kind) (Yc_iNextLa s kind) := by
  refine LoopSem.ofHead wide fun k h => ⟨_, _, run_c_iNextLa s kind k, ?_⟩
  have g1 := @nxR_kind s kind k
  have g2 := @nxR_le s kind
  have g3 : nxR s kind <= 99999 -> nxB s kind = true := fun h => decide_eq_true h
  have g4 : ¬ nxR s kind <= 99999 -> nxB s kind = false := fun h => decide_eq_false h
  with_reducible repeat' (first | apply And.intro | exact flatI | exact flatS | exact rowLens | (intro; skip) | apply obsN | apply obsC | apply obA | apply obM | apply obB | apply svA | apply tupA | apply lcA | apply lcS | apply svC | apply liC | apply lbC | apply lsC | apply vIc | apply vBc | apply vSc | apply vLc | apply mapC | apply hdI | apply Ec_iNextLa | apply EW1c_iNextLa | apply c_iKind)
  all_goals (try simp only [std] at *)
  all_goals (try (first | with_reducible apply c_iKind | (simp only [<- List.map_append]; first | with_reducible apply c_iKind)))
  all_goals (try (first | with_reducible rfl | omega | assumption | exact dT ‹_› | exact dF ‹_› | ((first | refine rowGet ?_ | refine getC ?_ rfl); (first | omega | (simp only [std]; omega) | grind)) | (show (_ : St) = _; rfl)))
  all_goals (try first | exact g3 (by omega) | exact g4 (by omega))
  all_goals grind
theorem run_c_iNext (s : Int) (kind : Int) : aexec Tryz.prog (Tryz.f109.body.getD .skip) (entry [] [li s, li kind] 23) [.ghost (.sel [] [0, 1, 5]),
 .loop (Int.toNat (nxR s kind - (s + 1))) (Lc_iNextLa s kind (s + 1)) (Ic_iNextLa s kind) [(nxB s kind = false, AEx.exit 0, W0c_iNextLa s kind, [.fin []]), (nxB s kind =
 true, AEx.ret, W1c_iNextLa s kind (li (nxR s kind)), [.fin []])]] (finK Tryz.prog [ResultVar.tmp 4] [] (AV.sv (li (nxt s kind)))) = (rng .i64 (s + 1) /\ Tc_iNextLa s kind
 (li (s + 1)) = Lc_iNextLa s kind (s + 1) /\ Ic_iNextLa s kind (Int.toNat (nxR s kind - (s + 1))) (Lc_iNextLa s kind (s + 1)) /\ LoopSem Tryz.prog (loopAt Tryz.f109 0) (Ic_iNextLa s
 kind) (Yc_iNextLa s kind) /\ (nxB s kind = false -> ObsEq [] [] /\ AV.sv (li 0) = AV.sv (li (nxt s kind))) /\ (nxB s kind = true -> ObsEq [] [] /\ AV.sv (li (nxR s kind)) = AV.sv (li
 (nxt s kind))) /\ True) := by kernel_rfl
theorem c_iNext (s kind : Int) (h : 0 <= s /\ s <= 99999 /\ 1 <= kind /\ kind <= 3)  : P_c_iNext s kind := by
  refine CallOK.ofRun wide (run_c_iNext s kind) Tryz.call109 Tryz.func109 rfl rfl rfl ?_
  have g2 := @nxR_le s kind
  have g3 : nxB s kind = true -> nxt s kind = nxR s kind := fun h => if_pos (of_decide_eq_true h)
  have g4 : nxB s kind = false -> nxt s kind = 0 := fun h => if_neg (of_decide_eq_false h)
  with_reducible repeat' (first | apply And.intro | exact flatI | exact flatS | exact rowLens | (intro; skip) | apply obsN | apply obsC | apply obA | apply obM | apply obB | apply svA | apply tupA | apply lcA | apply lcS | apply svC | apply liC | apply lbC | apply lsC | apply vIc | apply vBc | apply vSc | apply vLc | apply mapC | apply hdI | apply Ec_iNextLa | apply Sc_iNextLa | apply EW1c_iNextLa | apply c_iKind)
  all_goals (try simp only [std] at *)
  all_goals (try (first | with_reducible apply c_iKind | (simp only [<- List.map_append]; first | with_reducible apply c_iKind)))
  all_goals (try (first | with_reducible rfl | omega | assumption | exact dT ‹_› | exact dF ‹_› | ((first | refine rowGet ?_ | refine getC ?_ rfl); (first | omega | (simp only [std]; omega) | grind)) | (show (_ : St) = _; rfl)))
  all_goals (try first | exact (g3 (by assumption)).symm | exact (g4 (by assumption)).symm)
def frB (x : Expander) (kind : Int) : Bool := isExp x && decide (1 <= kind /\ kind <= 3)
def frS (x : Expander) (kind : Int) : Int := if frB x kind = true then nxS x.scope kind else x.scope
def frN (x : Expander) (kind : Int) : Int := if frB x kind = true then nxt x.scope kind else 0
theorem isExp_scope {x : Expander} (h : isExp x = true) : 0 <= x.scope /\ x.scope <= 99999 /\ 0 <= x.vari /\ x.vari <= 99999 /\ 0 <= x.steps /\ x.steps <= 200 /\ (x.macros.length : Int) <= 200 /\ (x.bindings.length : Int) <= 1000 := by
  simp only [isExp, areB, Bool.and_eq_true, decide_eq_true_eq] at h
  omega
abbrev P_c_sFresh (x : Expander) (kind : Int) : Prop := CallOK Tryz.prog 47 [] [expanderA x, li kind] (expanderO x) (.tup [.agg [.ref 0, .ref 1, vI (frS x kind), vI x.vari, vI x.steps], li (frN x kind)])
abbrev a1_c_sFresh (x : Expander) := [Ob.arr true 4 (List.map bindingC (Expander.bindings x)), Ob.arr true 3 (List.map rulesC (Expander.macros x))]
abbrev a2_c_sFresh (x : Expander) (kind : Int) := [SV.agg [AC.ref 0, AC.ref 1, vI (frS x kind), vI (Expander.vari x), vI (Expander.steps x)], li (frN x kind)]
theorem run_c_sFresh (x : Expander) (kind : Int) : aexec Tryz.prog (Tryz.f47.body.getD .skip) (entry [] [expanderA x, li kind] 30) [.call [Mode.rd] [] (AV.sv
 (lb (isExp x))), .br [.bool true, .call [Mode.rd] (expanderO x) (AV.sv (expanderR x 0)), .fin [2, 3]] [.call [Mode.rd, Mode.rd, Mode.rd] [] (AV.sv (lb (decide (1 <=
 kind /\ kind <= 3)))), .br [.call [Mode.rd] (expanderO x) (AV.sv (expanderR x 0)), .fin [2, 3]] [.call [Mode.rd] (expanderO x) (AV.sv (expanderR x 0)), .call
 [Mode.ptr, Mode.rd] [Ob.box [AC.ref 1, AC.ref 2, vI (nxS (Expander.scope x) kind), vI (Expander.vari x), vI (Expander.steps x), vI 0, vI (if nxR (Expander.scope x) kind <= 99999
 then 0 else cdF 0 8)], Ob.arr true 4 (List.map bindingC (Expander.bindings x)), Ob.arr true 3 (List.map rulesC (Expander.macros x))] (AV.sv (li (nxt (Expander.scope x) kind))),
 .fin [2, 3]]]] (finK Tryz.prog [ResultVar.cell 4 49, ResultVar.tmp 5] (expanderO x) (AV.tup (a2_c_sFresh x kind))) = (P_c_sIsExp x /\ ((!isExp x) = true -> true = true /\
 P_c_sCopyX x /\ ObsEq (a1_c_sFresh x) (a1_c_sFresh x) /\ AV.tup [SV.agg [AC.ref 0, AC.ref 1, vI (Expander.scope x), vI (Expander.vari x), vI (Expander.steps x)], li 0] = AV.tup
 (a2_c_sFresh x kind)) /\ ((!isExp x) = false -> P_c_l1In kind 1 3 /\ ((!decide (1 <= kind /\ kind <= 3)) = true -> P_c_sCopyX x /\ ObsEq (a1_c_sFresh x) (a1_c_sFresh x) /\ AV.tup [SV.agg
 [AC.ref 0, AC.ref 1, vI (Expander.scope x), vI (Expander.vari x), vI (Expander.steps x)], li 0] = AV.tup (a2_c_sFresh x kind)) /\ ((!decide (1 <= kind /\ kind <= 3)) = false ->
 P_c_sCopyX x /\ P_c_sScope x 0 0 kind /\ ObsEq (a1_c_sFresh x) (a1_c_sFresh x) /\ AV.tup [SV.agg [AC.ref 0, AC.ref 1, vI (nxS (Expander.scope x) kind), vI (Expander.vari x), vI
 (Expander.steps x)], li (nxt (Expander.scope x) kind)] = AV.tup (a2_c_sFresh x kind)))) := by kernel_rfl
theorem c_sFresh (x : Expander) (kind : Int) (h : wX x <= 1048576)  : P_c_sFresh x kind := by
  refine CallOK.ofRun wide (run_c_sFresh x kind) Tryz.call47 Tryz.func47 rfl rfl rfl ?_
  try delta a1_c_sFresh a2_c_sFresh
  have g1 := @isExp_scope x
  with_reducible repeat' (first | apply And.intro | exact flatI | exact flatS | exact rowLens | (intro; skip) | apply obsN | apply obsC | apply obA | apply obM | apply obB | apply svA | apply tupA | apply lcA | apply lcS | apply svC | apply liC | apply lbC | apply lsC | apply vIc | apply vBc | apply vSc | apply vLc | apply mapC | apply c_sIsExp | apply c_l1In | apply c_sCopyX | apply c_sScope)
  all_goals (try simp only [std] at *)
  all_goals (try (first | with_reducible apply c_sIsExp | with_reducible apply c_l1In | with_reducible apply c_sCopyX | with_reducible apply c_sScope | (simp only [<- List.map_append]; first | with_reducible apply c_sIsExp | with_reducible apply c_l1In | with_reducible apply c_sCopyX | with_reducible apply c_sScope)))
  all_goals (try (first | with_reducible rfl | omega | assumption | exact dT ‹_› | exact dF ‹_› | ((first | refine rowGet ?_ | refine getC ?_ rfl); (first | omega | (simp only [std]; omega) | grind)) | (show (_ : St) = _; rfl) | grind [frS, frN, frB, snocI, snocS, rowSnoc]))
abbrev P_c_iFresh (x : Expander) (kind : Int) : Prop := CallOK Tryz.prog 48 [] [expanderA x, li kind] (expanderO x) (.tup [.agg [.ref 0, .ref 1, vI (frS x kind), vI x.vari, vI x.steps], li (frN x kind)])
abbrev a1_c_iFresh (x : Expander) := [Ob.arr true 4 (List.map bindingC (Expander.bindings x)), Ob.arr true 3 (List.map rulesC (Expander.macros x))]
abbrev a2_c_iFresh (x : Expander) (kind : Int) := [SV.agg [AC.ref 0, AC.ref 1, vI (frS x kind), vI (Expander.vari x), vI (Expander.steps x)], li (frN x kind)]
abbrev a3_c_iFresh (x : Expander) := [AC.ref 0, AC.ref 1, vI (Expander.scope x), vI (Expander.vari x), vI (Expander.steps x)]
theorem run_c_iFresh (x : Expander) (kind : Int) : aexec Tryz.prog (Tryz.f48.body.getD .skip) (entry [] [expanderA x, li kind] 32) [.call [Mode.rd] (expanderO
 x) (AV.sv (expanderR x 0)), .call [Mode.rd] [] (AV.sv (lb (isExp x))), .br [.bool true, .bool true, .fin [2, 3]] [.br [.bool true, .fin [2, 3]] [.br
 [.fin [2, 3]] [.call [Mode.rd, Mode.rd] [] (AV.sv (li (nxt (Expander.scope x) kind))), .br [.fin [2, 3]] [.fin [2, 3]]]]]] (finK Tryz.prog [ResultVar.cell 4 49,
 ResultVar.tmp 5] (expanderO x) (AV.tup (a2_c_iFresh x kind))) = (P_c_iCopyX x /\ P_c_iIsExp x /\ ((!isExp x) = true -> true = true /\ true = true /\ ObsEq (a1_c_iFresh x) (a1_c_iFresh
 x) /\ AV.tup [SV.agg (a3_c_iFresh x), li 0] = AV.tup (a2_c_iFresh x kind)) /\ ((!isExp x) = false -> (decide (kind < 1) = true -> true = true /\ ObsEq (a1_c_iFresh x) (a1_c_iFresh x) /\
 AV.tup [SV.agg (a3_c_iFresh x), li 0] = AV.tup (a2_c_iFresh x kind)) /\ (decide (kind < 1) = false -> (decide (3 < kind) = true -> ObsEq (a1_c_iFresh x) (a1_c_iFresh x) /\ AV.tup
 [SV.agg (a3_c_iFresh x), li 0] = AV.tup (a2_c_iFresh x kind)) /\ (decide (3 < kind) = false -> P_c_iNext (Expander.scope x) kind /\ (decide (0 < nxt (Expander.scope x) kind) = true ->
 ObsEq (a1_c_iFresh x) (a1_c_iFresh x) /\ AV.tup [SV.agg [AC.ref 0, AC.ref 1, vI (nxt (Expander.scope x) kind), vI (Expander.vari x), vI (Expander.steps x)], li (nxt (Expander.scope
 x) kind)] = AV.tup (a2_c_iFresh x kind)) /\ (decide (0 < nxt (Expander.scope x) kind) = false -> ObsEq (a1_c_iFresh x) (a1_c_iFresh x) /\ AV.tup [SV.agg (a3_c_iFresh x), li (nxt
 (Expander.scope x) kind)] = AV.tup (a2_c_iFresh x kind)))))) := by kernel_rfl
theorem c_iFresh (x : Expander) (kind : Int) (h : wX x <= 1048576)  : P_c_iFresh x kind := by
  refine CallOK.ofRun wide (run_c_iFresh x kind) Tryz.call48 Tryz.func48 rfl rfl rfl ?_
  try delta a1_c_iFresh a2_c_iFresh a3_c_iFresh
  have g1 := @isExp_scope x
  have g2 := @nxR_le x.scope kind
  with_reducible repeat' (first | apply And.intro | exact flatI | exact flatS | exact rowLens | (intro; skip) | apply obsN | apply obsC | apply obA | apply obM | apply obB | apply svA | apply tupA | apply lcA | apply lcS | apply svC | apply liC | apply lbC | apply lsC | apply vIc | apply vBc | apply vSc | apply vLc | apply mapC | apply c_iIsExp | apply c_iCopyX | apply c_iNext)
  all_goals (try simp only [std] at *)
  all_goals (try (first | with_reducible apply c_iIsExp | with_reducible apply c_iCopyX | with_reducible apply c_iNext | (simp only [<- List.map_append]; first | with_reducible apply c_iIsExp | with_reducible apply c_iCopyX | with_reducible apply c_iNext)))
  all_goals (try (first | with_reducible rfl | omega | assumption | exact dT ‹_› | exact dF ‹_› | ((first | refine rowGet ?_ | refine getC ?_ rfl); (first | omega | (simp only [std]; omega) | grind)) | (show (_ : St) = _; rfl) | grind [frS, frN, frB, nxt, nxS, snocI, snocS, rowSnoc]))
end Go.Proofs.YtegbadciefljcaaGreat
end
