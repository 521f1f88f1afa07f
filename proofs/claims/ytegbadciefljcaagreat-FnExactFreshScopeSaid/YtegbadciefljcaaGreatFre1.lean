/- Part 1 of the proof: The program's FreshScope returns what the reference's returns, for all arguments. No condition. -/
import Derived.Test.YtegbadciefljcaaGreatQ4
section
namespace Go.Proofs.YtegbadciefljcaaGreat
open Go Go.Proofs.YtegbadciefljcaaGreat.Ab
theorem dT {p : Prop} [Decidable p] (h : p) : true = decide p := (decide_eq_true h).symm
theorem dF {p : Prop} [Decidable p] (h : ¬ p) : false = decide p := (decide_eq_false h).symm
theorem hdI {σ : Type} {L : σ → St} {inv : σ → Prop} {meas : σ → Nat} {k : σ} {m : Nat} (h : inv k) (hm : meas k = m) : Head L inv meas m (L k) := hm ▸ Head.mk h
end Go.Proofs.YtegbadciefljcaaGreat
end
section
namespace Go.Proofs.YtegbadciefljcaaGreat
open Go Go.Proofs.YtegbadciefljcaaGreat.Ab
set_option linter.unusedVariables false
set_option linter.unusedSimpArgs false
set_option maxHeartbeats 4000000
theorem all_stop {L : List UInt8} {p : UInt8 -> Bool} {k : Nat} (h : k < L.length) (hp : p (L.getD k 0) = false) : L.all p = false := by
  rw [List.all_eq_false]
  have e : L.getD k 0 = L[k] := by simp [h]
  exact ⟨L[k], List.getElem_mem h, by rw [<- e, hp]; decide⟩
theorem all_go {L : List UInt8} {p : UInt8 -> Bool} {k : Nat} (h : k < L.length) (hp : p (L.getD k 0) = true) (ht : (L.take k).all p = true) : (L.take (k + 1)).all p = true := by
  rw [take0 h, List.all_append, ht, List.all_cons, hp]; rfl
theorem all_all {L : List UInt8} {p : UInt8 -> Bool} {k : Nat} (h : L.length <= k) (ht : (L.take k).all p = true) : L.all p = true := by
  rwa [List.take_of_length_le h] at ht
def lu (n : Int) : SV := .one (.val (.lit (.int .u8 n)))
def isDig (n : Int) : Bool := decide (48 <= n /\ n <= 57)
def markI : List Int := [33, 63, 42, 60, 62, 61, 47, 43, 45, 46, 95]
def isMk (n : Int) : Bool := decide (97 <= n /\ n <= 122) || isDig n || decide (n ∈ markI)
theorem mark_at {k : Nat} (h : k < 11) : ((([33, 63, 42, 60, 62, 61, 47, 43, 45, 46, 95] : List UInt8).getD k 0).toNat : Int) = markI.getD k default := by
  have : ∀ k, k < 11 -> ((([33, 63, 42, 60, 62, 61, 47, 43, 45, 46, 95] : List UInt8).getD k 0).toNat : Int) = markI.getD k default := by decide
  exact this k h
def isStB (n : Int) : Bool := decide (32 <= n /\ n <= 126 /\ n ≠ 34)
def isSym (s : ByteArray) : Bool := decide (1 <= (s.size : Int) /\ (s.size : Int) <= 16) && !isDig (s.data.toList.getD 0 0).toNat && !(decide (((s.data.toList.getD 0 0).toNat : Int) = 45) && decide (1 < (s.size : Int)) && isDig (s.data.toList.getD 1 0).toNat) && s.data.toList.all fun b => isMk b.toNat
def isStr (s : ByteArray) : Bool := decide ((s.size : Int) <= 20) && s.data.toList.all fun b => isStB b.toNat
abbrev P_c_sDigit (n : Int) : Prop := CallOK Tryz.prog 243 [] [lu n] [] (.sv (lb (isDig n)))
theorem run_c_sDigit (n : Int) : aexec Tryz.prog (Tryz.f243.body.getD .skip) (entry [] [lu n] 9) [.br [.fin []] [.fin []]] (finK Tryz.prog [ResultVar.tmp
 2] [] (AV.sv (lb (isDig n)))) = ((decide (48 <= n) = true -> ObsEq [] [] /\ AV.sv (lb (decide (n <= 57))) = AV.sv (lb (isDig n))) /\ (decide (48 <= n) = false -> ObsEq [] [] /\ AV.sv (lb
 false) = AV.sv (lb (isDig n)))) := by kernel_rfl
theorem c_sDigit (n : Int)  : P_c_sDigit n := by
  refine CallOK.ofRun wide (run_c_sDigit n) Tryz.call243 Tryz.func243 rfl rfl rfl ?_
  with_reducible repeat' (first | apply And.intro | exact flatI | exact flatS | exact rowLens | (intro; skip) | apply obsN | apply obsC | apply obA | apply obM | apply obB | apply svA | apply tupA | apply lcA | apply lcS | apply svC | apply liC | apply lbC | apply lsC | apply vIc | apply vBc | apply vSc | apply vLc | apply mapC)
  all_goals (try simp only [std] at *)
  all_goals (try (first | with_reducible rfl | omega | assumption | exact dT ‹_› | exact dF ‹_› | ((first | refine rowGet ?_ | refine getC ?_ rfl); (first | omega | (simp only [std]; omega) | grind)) | (show (_ : St) = _; rfl) | grind [isDig, snocI, snocS, rowSnoc]))
abbrev P_c_iDigit (n : Int) : Prop := CallOK Tryz.prog 246 [] [lu n] [] (.sv (lb (isDig n)))
theorem run_c_iDigit (n : Int) : aexec Tryz.prog (Tryz.f246.body.getD .skip) (entry [] [lu n] 9) [.br [.fin []] [.fin []]] (finK Tryz.prog [ResultVar.tmp
 2] [] (AV.sv (lb (isDig n)))) = ((decide (48 <= n) = true -> ObsEq [] [] /\ AV.sv (lb (decide (n <= 57))) = AV.sv (lb (isDig n))) /\ (decide (48 <= n) = false -> ObsEq [] [] /\ AV.sv (lb
 false) = AV.sv (lb (isDig n)))) := by kernel_rfl
theorem c_iDigit (n : Int)  : P_c_iDigit n := by
  refine CallOK.ofRun wide (run_c_iDigit n) Tryz.call246 Tryz.func246 rfl rfl rfl ?_
  with_reducible repeat' (first | apply And.intro | exact flatI | exact flatS | exact rowLens | (intro; skip) | apply obsN | apply obsC | apply obA | apply obM | apply obB | apply svA | apply tupA | apply lcA | apply lcS | apply svC | apply liC | apply lbC | apply lsC | apply vIc | apply vBc | apply vSc | apply vLc | apply mapC)
  all_goals (try simp only [std] at *)
  all_goals (try (first | with_reducible rfl | omega | assumption | exact dT ‹_› | exact dF ‹_› | ((first | refine rowGet ?_ | refine getC ?_ rfl); (first | omega | (simp only [std]; omega) | grind)) | (show (_ : St) = _; rfl) | grind [isDig, snocI, snocS, rowSnoc]))
abbrev P_c_sMark (n : Int) : Prop := CallOK Tryz.prog 244 [] [lu n] [] (.sv (lb (isMk n)))
def Tc_sMarkLa (n : Int) (x0 : SV) : St := St.mk (regsOf 26 [(0, AV.sv (SV.one (AC.val (Cell.lit (Value.int IntKind.u8 n))))), (3, AV.sv (ls (ByteArray.mk #[(33 : UInt8), (63 :
 UInt8), (42 : UInt8), (60 : UInt8), (62 : UInt8), (61 : UInt8), (47 : UInt8), (43 : UInt8), (45 : UInt8), (46 : UInt8), (95 : UInt8)]))), (4, AV.sv x0)]) [] 0 
def Lc_sMarkLa (n : Int) (k : Nat) : St := Tc_sMarkLa n (li (k : Int)) 
abbrev Ic_sMarkLa (n : Int) : Nat -> St -> Prop := Head (Lc_sMarkLa n) (fun k => k <= 11 /\ ¬n ∈ List.take k markI) fun k => 11 - k 
def W0c_sMarkLa (n : Int) : St := St.mk (regsOf 26 []) [] 0 
def W1c_sMarkLa (n : Int) (x0 : SV) : St := St.mk (regsOf 26 [(2, AV.sv x0)]) [] 0 
def Yc_sMarkLa (n : Int) : List (Prop × AEx × St) := [(decide (n ∈ markI) = false, AEx.exit 0, W0c_sMarkLa n), (decide (n ∈ markI) = true, AEx.ret, W1c_sMarkLa n (lb true))]

theorem Ec_sMarkLa {n : Int} {k : Nat} {x0 : SV} (h0 : x0 = (li (k : Int))) : Tc_sMarkLa n x0 = Lc_sMarkLa n k := by
  rw [h0]
  rfl
theorem EW1c_sMarkLa {n : Int} {x0 y0 : SV} (h0 : x0 = y0) : W1c_sMarkLa n x0 = W1c_sMarkLa n y0 := by rw [h0]
abbrev a1_c_sMarkLa (n : Int) (k : Nat) := ((↑(UInt8.toNat (List.getD [(33 : UInt8), (63 : UInt8), (42 : UInt8), (60 : UInt8), (62 : UInt8), (61 : UInt8), (47 : UInt8), (43 :
 UInt8), (45 : UInt8), (46 : UInt8), (95 : UInt8)] (Int.toNat (↑k : Int)) (0 : UInt8))) : Int) = n)
theorem run_c_sMarkLa (n : Int) (k : Nat) : aexec Tryz.prog (loopAt Tryz.f244 0) (Lc_sMarkLa n k) [.br [.br [.ghost (.sel [] [2]), .out 1] [.ghost (.sel []
 [0, 3, 4]), .goto (11 - (k + 1)) (Lc_sMarkLa n (k + 1))]] [.ghost (.sel [] []), .out 0]] (loopK (Ic_sMarkLa n) (Yc_sMarkLa n) (11 - k)) = (11 <= 9223372036854775807 ->
 (decide ((k : Int) < 11) = true -> (0 <= (k : Int) /\ Int.toNat (k : Int) < 11) /\ (decide (a1_c_sMarkLa n k) = true -> decide (n ∈ markI) = true /\ W1c_sMarkLa n (lb true) =
 W1c_sMarkLa n (lb true)) /\ (decide (a1_c_sMarkLa n k) = false -> rng .i64 ((k : Int) + 1) /\ 11 - (k + 1) < 11 - k /\ Tc_sMarkLa n (li ((k : Int) + 1)) = Lc_sMarkLa n (k +
 1) /\ Ic_sMarkLa n (11 - (k + 1)) (Lc_sMarkLa n (k + 1)))) /\ (decide ((k : Int) < 11) = false -> decide (n ∈ markI) = false /\ W0c_sMarkLa n = W0c_sMarkLa n)) := by kernel_rfl
theorem Sc_sMarkLa (n : Int)  : LoopSem Tryz.prog (loopAt Tryz.f244 0) (Ic_sMarkLa n) (Yc_sMarkLa n) := by
  refine LoopSem.ofHead wide fun k h => ⟨_, _, run_c_sMarkLa n k, ?_⟩
  try delta a1_c_sMarkLa
  have g := @mark_at k
  have e : markI.length = 11 := rfl
  have e2 : markI.take 11 = markI := rfl
  with_reducible repeat' (first | apply And.intro | exact flatI | exact flatS | exact rowLens | (intro; skip) | apply obsN | apply obsC | apply obA | apply obM | apply obB | apply svA | apply tupA | apply lcA | apply lcS | apply svC | apply liC | apply lbC | apply lsC | apply vIc | apply vBc | apply vSc | apply vLc | apply mapC | apply hdI | apply Ec_sMarkLa | apply EW1c_sMarkLa | apply c_sDigit)
  all_goals (try simp only [std] at *)
  all_goals (try (first | with_reducible apply c_sDigit | (simp only [<- List.map_append]; first | with_reducible apply c_sDigit)))
  all_goals (try (first | with_reducible rfl | omega | assumption | exact dT ‹_› | exact dF ‹_› | ((first | refine rowGet ?_ | refine getC ?_ rfl); (first | omega | (simp only [std]; omega) | grind)) | (show (_ : St) = _; rfl) | grind [take_get, getD_mem', snocI, snocS, rowSnoc]))
abbrev a1_c_sMark (n : Int) := (isDig n = false → Tc_sMarkLa n (li 0) = Lc_sMarkLa n 0 ∧ Ic_sMarkLa n 11 (Lc_sMarkLa n 0) ∧ LoopSem Tryz.prog (loopAt Tryz.f244 0) (Ic_sMarkLa n)
 (Yc_sMarkLa n) ∧ (decide (n ∈ markI) = false → ObsEq [] [] ∧ AV.sv (lb false) = AV.sv (lb (isMk n))) ∧ (decide (n ∈ markI) = true → ObsEq [] [] ∧ AV.sv (lb true) = AV.sv (lb (isMk
 n))) ∧ True)
abbrev a2_c_sMark (n : Int) := [Orc.ghost (Ghost.sel [] [0, 3, 4]), Orc.loop 11 (Lc_sMarkLa n 0) (Ic_sMarkLa n) [(decide (n ∈ markI) = false, AEx.exit 0, W0c_sMarkLa n, [Orc.fin
 []]), (decide (n ∈ markI) = true, AEx.ret, W1c_sMarkLa n (lb true), [Orc.fin []])]]
theorem run_c_sMark (n : Int) : aexec Tryz.prog (Tryz.f244.body.getD .skip) (entry [] [lu n] 26) [.br [.br [.bool true, .fin []] [.call [Mode.rd]
 [] (AV.sv (lb (isDig n))), .br [.fin []] (a2_c_sMark n)]] [.bool false, .call [Mode.rd] [] (AV.sv (lb (isDig n))), .br [.fin []] (a2_c_sMark n)]] (finK Tryz.prog
 [ResultVar.tmp 2] [] (AV.sv (lb (isMk n)))) = ((decide (97 <= n) = true -> (decide (n <= 122) = true -> true = true /\ ObsEq [] [] /\ AV.sv (lb true) = AV.sv (lb (isMk n))) /\ (decide (n
 <= 122) = false -> P_c_sDigit n /\ (isDig n = true -> ObsEq [] [] /\ AV.sv (lb true) = AV.sv (lb (isMk n))) /\ (a1_c_sMark n))) /\ (decide (97 <= n) = false -> false = false /\ P_c_sDigit n
 /\ (isDig n = true -> ObsEq [] [] /\ AV.sv (lb true) = AV.sv (lb (isMk n))) /\ (a1_c_sMark n))) := by kernel_rfl
theorem c_sMark (n : Int)  : P_c_sMark n := by
  refine CallOK.ofRun wide (run_c_sMark n) Tryz.call244 Tryz.func244 rfl rfl rfl ?_
  try delta a1_c_sMark a2_c_sMark
  with_reducible repeat' (first | apply And.intro | exact flatI | exact flatS | exact rowLens | (intro; skip) | apply obsN | apply obsC | apply obA | apply obM | apply obB | apply svA | apply tupA | apply lcA | apply lcS | apply svC | apply liC | apply lbC | apply lsC | apply vIc | apply vBc | apply vSc | apply vLc | apply mapC | apply hdI | apply Ec_sMarkLa | apply Sc_sMarkLa | apply EW1c_sMarkLa | apply c_sDigit)
  all_goals (try simp only [std] at *)
  all_goals (try (first | with_reducible apply c_sDigit | (simp only [<- List.map_append]; first | with_reducible apply c_sDigit)))
  all_goals (try (first | with_reducible rfl | omega | assumption | exact dT ‹_› | exact dF ‹_› | ((first | refine rowGet ?_ | refine getC ?_ rfl); (first | omega | (simp only [std]; omega) | grind)) | (show (_ : St) = _; rfl) | grind [isMk, snocI, snocS, rowSnoc]))
abbrev P_c_iMark (n : Int) : Prop := CallOK Tryz.prog 247 [] [lu n] [] (.sv (lb (isMk n)))
abbrev a1_c_iMark (n : Int) := (decide (n = 33) = false -> (decide (n = 63) = true -> true = true /\ ObsEq [] [] /\ AV.sv (lb true) = AV.sv (lb (isMk n))) /\ (decide (n = 63) = false ->
 (decide (n = 42) = true -> true = true /\ ObsEq [] [] /\ AV.sv (lb true) = AV.sv (lb (isMk n))) /\ (decide (n = 42) = false -> (decide (n = 60) = true -> true = true /\ ObsEq [] [] /\
 AV.sv (lb true) = AV.sv (lb (isMk n))) /\ (decide (n = 60) = false -> (decide (n = 62) = true -> true = true /\ ObsEq [] [] /\ AV.sv (lb true) = AV.sv (lb (isMk n))) /\ (decide (n = 62)
 = false -> (decide (n = 61) = true -> true = true /\ ObsEq [] [] /\ AV.sv (lb true) = AV.sv (lb (isMk n))) /\ (decide (n = 61) = false -> (decide (n = 47) = true -> true = true /\ ObsEq
 [] [] /\ AV.sv (lb true) = AV.sv (lb (isMk n))) /\ (decide (n = 47) = false -> (decide (n = 43) = true -> true = true /\ ObsEq [] [] /\ AV.sv (lb true) = AV.sv (lb (isMk n))) /\ (decide
 (n = 43) = false -> (decide (n = 45) = true -> true = true /\ ObsEq [] [] /\ AV.sv (lb true) = AV.sv (lb (isMk n))) /\ (decide (n = 45) = false -> (decide (n = 46) = true -> true = true
 /\ ObsEq [] [] /\ AV.sv (lb true) = AV.sv (lb (isMk n))) /\ (decide (n = 46) = false -> (decide (n = 95) = true -> ObsEq [] [] /\ AV.sv (lb true) = AV.sv (lb (isMk n))) /\ (decide (n =
 95) = false -> ObsEq [] [] /\ AV.sv (lb false) = AV.sv (lb (isMk n)))))))))))))
abbrev a2_c_iMark  := [Orc.br [Orc.bool true, Orc.fin []] [Orc.br [Orc.bool true, Orc.fin []] [Orc.br [Orc.bool true, Orc.fin []] [Orc.br [Orc.bool true, Orc.fin []] [Orc.br
 [Orc.bool true, Orc.fin []] [Orc.br [Orc.bool true, Orc.fin []] [Orc.br [Orc.bool true, Orc.fin []] [Orc.br [Orc.bool true, Orc.fin []] [Orc.br [Orc.bool true, Orc.fin []] [Orc.br
 [Orc.fin []] [Orc.fin []]]]]]]]]]]]
abbrev a3_c_iMark (n : Int) := (decide (48 <= n) = true -> (decide (n <= 57) = true -> ObsEq [] [] /\ AV.sv (lb true) = AV.sv (lb (isMk n))) /\ (decide (n <= 57) = false -> (decide (n =
 33) = true -> true = true /\ ObsEq [] [] /\ AV.sv (lb true) = AV.sv (lb (isMk n))) /\ (a1_c_iMark n)))
theorem run_c_iMark (n : Int) : aexec Tryz.prog (Tryz.f247.body.getD .skip) (entry [] [lu n] 30) [.br [.br [.bool true, .fin []] [.br [.br
 [.fin []] [.br [.bool true, .fin []] a2_c_iMark]] [.bool false, .br [.bool true, .fin []] a2_c_iMark]]] [.bool false, .br [.br [.fin []]
 [.br [.bool true, .fin []] a2_c_iMark]] [.bool false, .br [.bool true, .fin []] a2_c_iMark]]] (finK Tryz.prog [ResultVar.tmp 2] [] (AV.sv (lb (isMk n)))) =
 ((decide (97 <= n) = true -> (decide (n <= 122) = true -> true = true /\ ObsEq [] [] /\ AV.sv (lb true) = AV.sv (lb (isMk n))) /\ (decide (n <= 122) = false -> (a3_c_iMark n) /\ (decide (48
 <= n) = false -> false = false /\ (decide (n = 33) = true -> true = true /\ ObsEq [] [] /\ AV.sv (lb true) = AV.sv (lb (isMk n))) /\ (a1_c_iMark n)))) /\ (decide (97 <= n) = false -> false
 = false /\ (a3_c_iMark n) /\ (decide (48 <= n) = false -> false = false /\ (decide (n = 33) = true -> true = true /\ ObsEq [] [] /\ AV.sv (lb true) = AV.sv (lb (isMk n))) /\ (a1_c_iMark
 n)))) := by kernel_rfl
theorem c_iMark (n : Int)  : P_c_iMark n := by
  refine CallOK.ofRun wide (run_c_iMark n) Tryz.call247 Tryz.func247 rfl rfl rfl ?_
  try delta a1_c_iMark a2_c_iMark a3_c_iMark
  with_reducible repeat' (first | apply And.intro | exact flatI | exact flatS | exact rowLens | (intro; skip) | apply obsN | apply obsC | apply obA | apply obM | apply obB | apply svA | apply tupA | apply lcA | apply lcS | apply svC | apply liC | apply lbC | apply lsC | apply vIc | apply vBc | apply vSc | apply vLc | apply mapC)
  all_goals (try simp only [std] at *)
  all_goals (try (first | with_reducible rfl | omega | assumption | exact dT ‹_› | exact dF ‹_› | ((first | refine rowGet ?_ | refine getC ?_ rfl); (first | omega | (simp only [std]; omega) | grind)) | (show (_ : St) = _; rfl) | grind [snocI, snocS, rowSnoc]))
  all_goals (symm; simp only [isMk, isDig, markI, List.mem_cons, List.not_mem_nil, Bool.or_eq_true, Bool.or_eq_false_iff, decide_eq_true_eq, decide_eq_false_iff_not, or_false]; omega)
abbrev P_c_l1In (x : Int) (a : Int) (b : Int) : Prop := CallOK Tryz.prog 83 [] [li x, li a, li b] [] (.sv (lb (decide (a <= x /\ x <= b))))
theorem run_c_l1In (x : Int) (a : Int) (b : Int) : aexec Tryz.prog (Tryz.f83.body.getD .skip) (entry [] [li x, li a, li b] 15) [.br [.fin []] [.fin []]]
 (finK Tryz.prog [ResultVar.tmp 6] [] (AV.sv (lb (decide (a <= x /\ x <= b))))) = ((decide (a <= x) = true -> ObsEq [] [] /\ AV.sv (lb (decide (x <= b))) = AV.sv (lb (decide (a <= x /\ x <=
 b)))) /\ (decide (a <= x) = false -> ObsEq [] [] /\ AV.sv (lb false) = AV.sv (lb (decide (a <= x /\ x <= b))))) := by kernel_rfl
theorem c_l1In (x a b : Int)  : P_c_l1In x a b := by
  refine CallOK.ofRun wide (run_c_l1In x a b) Tryz.call83 Tryz.func83 rfl rfl rfl ?_
  with_reducible repeat' (first | apply And.intro | exact flatI | exact flatS | exact rowLens | (intro; skip) | apply obsN | apply obsC | apply obA | apply obM | apply obB | apply svA | apply tupA | apply lcA | apply lcS | apply svC | apply liC | apply lbC | apply lsC | apply vIc | apply vBc | apply vSc | apply vLc | apply mapC)
  all_goals (try simp only [std] at *)
  all_goals (try (first | with_reducible rfl | omega | assumption | exact dT ‹_› | exact dF ‹_› | ((first | refine rowGet ?_ | refine getC ?_ rfl); (first | omega | (simp only [std]; omega) | grind)) | (show (_ : St) = _; rfl) | grind [snocI, snocS, rowSnoc]))
abbrev P_c_sIsSymbol (s : ByteArray) : Prop := CallOK Tryz.prog 211 [] [ls s] [] (.sv (lb (isSym s)))
def Tc_sIsSymbolLa (s : ByteArray) (x0 : SV) : St := St.mk (regsOf 39 [(0, AV.sv (ls s)), (3, AV.sv x0)]) [] 0 
def Lc_sIsSymbolLa (s : ByteArray) (k : Nat) : St := Tc_sIsSymbolLa s (li (k : Int)) 
abbrev Ic_sIsSymbolLa (s : ByteArray) : Nat -> St -> Prop := Head (Lc_sIsSymbolLa s) (fun k => k <= ByteArray.size s /\ ByteArray.size s <= 16 /\ (List.all (List.take k (Array.toList
 (ByteArray.data s))) fun b => isMk (↑(UInt8.toNat b) : Int)) = true) fun k => ByteArray.size s - k 
def W0c_sIsSymbolLa (s : ByteArray) : St := St.mk (regsOf 39 []) [] 0 
def W1c_sIsSymbolLa (s : ByteArray) (x0 : SV) : St := St.mk (regsOf 39 [(2, AV.sv x0)]) [] 0 
def Yc_sIsSymbolLa (s : ByteArray) : List (Prop × AEx × St) := [((List.all (Array.toList (ByteArray.data s)) fun b => isMk (↑(UInt8.toNat b) : Int)) = true, AEx.exit 0,
 W0c_sIsSymbolLa s), ((List.all (Array.toList (ByteArray.data s)) fun b => isMk (↑(UInt8.toNat b) : Int)) = false, AEx.ret, W1c_sIsSymbolLa s (lb false))]

theorem Ec_sIsSymbolLa {s : ByteArray} {k : Nat} {x0 : SV} (h0 : x0 = (li (k : Int))) : Tc_sIsSymbolLa s x0 = Lc_sIsSymbolLa s k := by
  rw [h0]
  rfl
theorem EW1c_sIsSymbolLa {s : ByteArray} {x0 y0 : SV} (h0 : x0 = y0) : W1c_sIsSymbolLa s x0 = W1c_sIsSymbolLa s y0 := by rw [h0]
abbrev a1_c_sIsSymbolLa (s : ByteArray) (k : Nat) := (↑(UInt8.toNat (List.getD (Array.toList (ByteArray.data s)) (Int.toNat (↑k : Int)) (0 : UInt8))) : Int)
theorem run_c_sIsSymbolLa (s : ByteArray) (k : Nat) : aexec Tryz.prog (loopAt Tryz.f211 0) (Lc_sIsSymbolLa s k) [.br [.call [Mode.rd] [] (AV.sv (lb (isMk (a1_c_sIsSymbolLa s
 k)))), .br [.ghost (.sel [] [2]), .out 1] [.ghost (.sel [] [0, 3]), .goto (ByteArray.size s - (k + 1)) (Lc_sIsSymbolLa s (k + 1))]] [.ghost (.sel
 [] []), .out 0]] (loopK (Ic_sIsSymbolLa s) (Yc_sIsSymbolLa s) (ByteArray.size s - k)) = (List.length (Array.toList (ByteArray.data s)) <= 9223372036854775807 -> (decide ((↑k :
 Int) < (↑(List.length (Array.toList (ByteArray.data s))) : Int)) = true -> (0 <= (k : Int) /\ Int.toNat (k : Int) < List.length (Array.toList (ByteArray.data s))) /\ P_c_sMark
 (a1_c_sIsSymbolLa s k) /\ ((!isMk (a1_c_sIsSymbolLa s k)) = true -> (List.all (Array.toList (ByteArray.data s)) fun b => isMk (↑(UInt8.toNat b) : Int)) = false /\ W1c_sIsSymbolLa s
 (lb false) = W1c_sIsSymbolLa s (lb false)) /\ ((!isMk (a1_c_sIsSymbolLa s k)) = false -> rng .i64 ((k : Int) + 1) /\ ByteArray.size s - (k + 1) < ByteArray.size s - k /\
 Tc_sIsSymbolLa s (li ((k : Int) + 1)) = Lc_sIsSymbolLa s (k + 1) /\ Ic_sIsSymbolLa s (ByteArray.size s - (k + 1)) (Lc_sIsSymbolLa s (k + 1)))) /\ (decide ((k : Int) <
 (↑(List.length (Array.toList (ByteArray.data s))) : Int)) = false -> (List.all (Array.toList (ByteArray.data s)) fun b => isMk (↑(UInt8.toNat b) : Int)) = true /\ W0c_sIsSymbolLa s
 = W0c_sIsSymbolLa s)) := by kernel_rfl
theorem Sc_sIsSymbolLa (s : ByteArray)  : LoopSem Tryz.prog (loopAt Tryz.f211 0) (Ic_sIsSymbolLa s) (Yc_sIsSymbolLa s) := by
  refine LoopSem.ofHead wide fun k h => ⟨_, _, run_c_sIsSymbolLa s k, ?_⟩
  try delta a1_c_sIsSymbolLa
  have g1 := @all_stop s.data.toList (fun b => isMk b.toNat) k
  have g2 := @all_go s.data.toList (fun b => isMk b.toNat) k
  have g3 := @all_all s.data.toList (fun b => isMk b.toNat) k
  with_reducible repeat' (first | apply And.intro | exact flatI | exact flatS | exact rowLens | (intro; skip) | apply obsN | apply obsC | apply obA | apply obM | apply obB | apply svA | apply tupA | apply lcA | apply lcS | apply svC | apply liC | apply lbC | apply lsC | apply vIc | apply vBc | apply vSc | apply vLc | apply mapC | apply hdI | apply Ec_sIsSymbolLa | apply EW1c_sIsSymbolLa | apply c_l1In | apply c_sDigit | apply c_sMark)
  all_goals (try simp only [std] at *)
  all_goals (try (first | with_reducible apply c_l1In | with_reducible apply c_sDigit | with_reducible apply c_sMark | (simp only [<- List.map_append]; first | with_reducible apply c_l1In | with_reducible apply c_sDigit | with_reducible apply c_sMark)))
  all_goals (try (first | with_reducible rfl | omega | assumption | exact dT ‹_› | exact dF ‹_› | ((first | refine rowGet ?_ | refine getC ?_ rfl); (first | omega | (simp only [std]; omega) | grind)) | (show (_ : St) = _; rfl) | grind [snocI, snocS, rowSnoc]))
abbrev a1_c_sIsSymbol (s : ByteArray) := (↑(UInt8.toNat (List.getD (Array.toList (ByteArray.data s)) 0 (0 : UInt8))) : Int)
abbrev a2_c_sIsSymbol (s : ByteArray) := (↑(List.length (Array.toList (ByteArray.data s))) : Int)
abbrev a3_c_sIsSymbol (s : ByteArray) := (↑(UInt8.toNat (List.getD (Array.toList (ByteArray.data s)) 1 (0 : UInt8))) : Int)
theorem run_c_sIsSymbol (s : ByteArray) : aexec Tryz.prog (Tryz.f211.body.getD .skip) (entry [] [ls s] 39) [.call [Mode.rd, Mode.rd, Mode.rd] [] (AV.sv (lb
 (decide (1 <= (a2_c_sIsSymbol s) /\ (a2_c_sIsSymbol s) <= 16)))), .br [.bool true, .bool true, .fin []] [.call [Mode.rd] [] (AV.sv (lb (isDig (a1_c_sIsSymbol s)))),
 .br [.bool true, .fin []] [.br [.br [.call [Mode.rd] [] (AV.sv (lb (isDig (a3_c_sIsSymbol s)))), .br [.fin []] [.ghost (.sel [] [0, 3]), .loop
 (ByteArray.size s - 0) (Lc_sIsSymbolLa s 0) (Ic_sIsSymbolLa s) [((List.all (Array.toList (ByteArray.data s)) fun b => isMk (↑(UInt8.toNat b) : Int)) = true, AEx.exit 0,
 W0c_sIsSymbolLa s, [.fin []]), ((List.all (Array.toList (ByteArray.data s)) fun b => isMk (↑(UInt8.toNat b) : Int)) = false, AEx.ret, W1c_sIsSymbolLa s (lb false), [.fin
 []])]]] [.bool false, .ghost (.sel [] [0, 3]), .loop (ByteArray.size s - 0) (Lc_sIsSymbolLa s 0) (Ic_sIsSymbolLa s) [((List.all (Array.toList (ByteArray.data s)) fun
 b => isMk (↑(UInt8.toNat b) : Int)) = true, AEx.exit 0, W0c_sIsSymbolLa s, [.fin []]), ((List.all (Array.toList (ByteArray.data s)) fun b => isMk (↑(UInt8.toNat b) : Int)) =
 false, AEx.ret, W1c_sIsSymbolLa s (lb false), [.fin []])]]] [.bool false, .bool false, .ghost (.sel [] [0, 3]), .loop (ByteArray.size s - 0) (Lc_sIsSymbolLa s
 0) (Ic_sIsSymbolLa s) [((List.all (Array.toList (ByteArray.data s)) fun b => isMk (↑(UInt8.toNat b) : Int)) = true, AEx.exit 0, W0c_sIsSymbolLa s, [.fin []]), ((List.all
 (Array.toList (ByteArray.data s)) fun b => isMk (↑(UInt8.toNat b) : Int)) = false, AEx.ret, W1c_sIsSymbolLa s (lb false), [.fin []])]]]]] (finK Tryz.prog [ResultVar.tmp 2] []
 (AV.sv (lb (isSym s)))) = (List.length (Array.toList (ByteArray.data s)) <= 9223372036854775807 -> P_c_l1In (a2_c_sIsSymbol s) 1 16 /\ ((!decide (1 <= (a2_c_sIsSymbol s) /\
 (a2_c_sIsSymbol s) <= 16)) = true -> true = true /\ true = true /\ ObsEq [] [] /\ AV.sv (lb false) = AV.sv (lb (isSym s))) /\ ((!decide (1 <= (a2_c_sIsSymbol s) /\ (a2_c_sIsSymbol s) <=
 16)) = false -> ((0 : Int) <= 0 /\ 0 < List.length (Array.toList (ByteArray.data s))) /\ P_c_sDigit (a1_c_sIsSymbol s) /\ (isDig (a1_c_sIsSymbol s) = true -> true = true /\ ObsEq [] [] /\
 AV.sv (lb false) = AV.sv (lb (isSym s))) /\ (isDig (a1_c_sIsSymbol s) = false -> ((0 : Int) <= 0 /\ 0 < List.length (Array.toList (ByteArray.data s))) /\ (decide ((a1_c_sIsSymbol s) =
 45) = true -> List.length (Array.toList (ByteArray.data s)) <= 9223372036854775807 -> (decide (1 < (a2_c_sIsSymbol s)) = true -> ((0 : Int) <= 1 /\ 1 < List.length (Array.toList
 (ByteArray.data s))) /\ P_c_sDigit (a3_c_sIsSymbol s) /\ (isDig (a3_c_sIsSymbol s) = true -> ObsEq [] [] /\ AV.sv (lb false) = AV.sv (lb (isSym s))) /\ (isDig (a3_c_sIsSymbol s) =
 false -> Tc_sIsSymbolLa s (li 0) = Lc_sIsSymbolLa s 0 /\ Ic_sIsSymbolLa s (ByteArray.size s - 0) (Lc_sIsSymbolLa s 0) /\ LoopSem Tryz.prog (loopAt Tryz.f211 0) (Ic_sIsSymbolLa s)
 (Yc_sIsSymbolLa s) /\ ((List.all (Array.toList (ByteArray.data s)) fun b => isMk (↑(UInt8.toNat b) : Int)) = true -> ObsEq [] [] /\ AV.sv (lb true) = AV.sv (lb (isSym s))) /\
 ((List.all (Array.toList (ByteArray.data s)) fun b => isMk (↑(UInt8.toNat b) : Int)) = false -> ObsEq [] [] /\ AV.sv (lb false) = AV.sv (lb (isSym s))) /\ True)) /\ (decide (1 <
 (a2_c_sIsSymbol s)) = false -> false = false /\ Tc_sIsSymbolLa s (li 0) = Lc_sIsSymbolLa s 0 /\ Ic_sIsSymbolLa s (ByteArray.size s - 0) (Lc_sIsSymbolLa s 0) /\ LoopSem Tryz.prog
 (loopAt Tryz.f211 0) (Ic_sIsSymbolLa s) (Yc_sIsSymbolLa s) /\ ((List.all (Array.toList (ByteArray.data s)) fun b => isMk (↑(UInt8.toNat b) : Int)) = true -> ObsEq [] [] /\ AV.sv (lb
 true) = AV.sv (lb (isSym s))) /\ ((List.all (Array.toList (ByteArray.data s)) fun b => isMk (↑(UInt8.toNat b) : Int)) = false -> ObsEq [] [] /\ AV.sv (lb false) = AV.sv (lb (isSym
 s))) /\ True)) /\ (decide ((a1_c_sIsSymbol s) = 45) = false -> false = false /\ false = false /\ Tc_sIsSymbolLa s (li 0) = Lc_sIsSymbolLa s 0 /\ Ic_sIsSymbolLa s (ByteArray.size s - 0)
 (Lc_sIsSymbolLa s 0) /\ LoopSem Tryz.prog (loopAt Tryz.f211 0) (Ic_sIsSymbolLa s) (Yc_sIsSymbolLa s) /\ ((List.all (Array.toList (ByteArray.data s)) fun b => isMk (↑(UInt8.toNat b)
 : Int)) = true -> ObsEq [] [] /\ AV.sv (lb true) = AV.sv (lb (isSym s))) /\ ((List.all (Array.toList (ByteArray.data s)) fun b => isMk (↑(UInt8.toNat b) : Int)) = false -> ObsEq [] []
 /\ AV.sv (lb false) = AV.sv (lb (isSym s))) /\ True)))) := by kernel_rfl
theorem c_sIsSymbol (s : ByteArray)  : P_c_sIsSymbol s := by
  refine CallOK.ofRun wide (run_c_sIsSymbol s) Tryz.call211 Tryz.func211 rfl rfl rfl ?_
  try delta a1_c_sIsSymbol a2_c_sIsSymbol a3_c_sIsSymbol
  with_reducible repeat' (first | apply And.intro | exact flatI | exact flatS | exact rowLens | (intro; skip) | apply obsN | apply obsC | apply obA | apply obM | apply obB | apply svA | apply tupA | apply lcA | apply lcS | apply svC | apply liC | apply lbC | apply lsC | apply vIc | apply vBc | apply vSc | apply vLc | apply mapC | apply hdI | apply Ec_sIsSymbolLa | apply Sc_sIsSymbolLa | apply EW1c_sIsSymbolLa | apply c_l1In | apply c_sDigit | apply c_sMark)
  all_goals (try simp only [std] at *)
  all_goals (try (first | with_reducible apply c_l1In | with_reducible apply c_sDigit | with_reducible apply c_sMark | (simp only [<- List.map_append]; first | with_reducible apply c_l1In | with_reducible apply c_sDigit | with_reducible apply c_sMark)))
  all_goals (try (first | with_reducible rfl | omega | assumption | exact dT ‹_› | exact dF ‹_› | ((first | refine rowGet ?_ | refine getC ?_ rfl); (first | omega | (simp only [std]; omega) | grind)) | (show (_ : St) = _; rfl) | grind [isSym, snocI, snocS, rowSnoc]))
abbrev P_c_iIsSymbol (s : ByteArray) : Prop := CallOK Tryz.prog 217 [] [ls s] [] (.sv (lb (isSym s)))
def Tc_iIsSymbolLa (s : ByteArray) (x0 : SV) : St := St.mk (regsOf 43 [(0, AV.sv (ls s)), (3, AV.sv x0)]) [] 0 
def Lc_iIsSymbolLa (s : ByteArray) (k : Nat) : St := Tc_iIsSymbolLa s (li (k : Int)) 
abbrev Ic_iIsSymbolLa (s : ByteArray) : Nat -> St -> Prop := Head (Lc_iIsSymbolLa s) (fun k => k <= ByteArray.size s /\ ByteArray.size s <= 16 /\ (List.all (List.take k (Array.toList
 (ByteArray.data s))) fun b => isMk (↑(UInt8.toNat b) : Int)) = true) fun k => ByteArray.size s - k 
def W0c_iIsSymbolLa (s : ByteArray) : St := St.mk (regsOf 43 []) [] 0 
def W1c_iIsSymbolLa (s : ByteArray) (x0 : SV) : St := St.mk (regsOf 43 [(2, AV.sv x0)]) [] 0 
def Yc_iIsSymbolLa (s : ByteArray) : List (Prop × AEx × St) := [((List.all (Array.toList (ByteArray.data s)) fun b => isMk (↑(UInt8.toNat b) : Int)) = true, AEx.exit 0,
 W0c_iIsSymbolLa s), ((List.all (Array.toList (ByteArray.data s)) fun b => isMk (↑(UInt8.toNat b) : Int)) = false, AEx.ret, W1c_iIsSymbolLa s (lb false))]

theorem Ec_iIsSymbolLa {s : ByteArray} {k : Nat} {x0 : SV} (h0 : x0 = (li (k : Int))) : Tc_iIsSymbolLa s x0 = Lc_iIsSymbolLa s k := by
  rw [h0]
  rfl
theorem EW1c_iIsSymbolLa {s : ByteArray} {x0 y0 : SV} (h0 : x0 = y0) : W1c_iIsSymbolLa s x0 = W1c_iIsSymbolLa s y0 := by rw [h0]
abbrev a1_c_iIsSymbolLa (s : ByteArray) (k : Nat) := (↑(UInt8.toNat (List.getD (Array.toList (ByteArray.data s)) (Int.toNat (↑k : Int)) (0 : UInt8))) : Int)
theorem run_c_iIsSymbolLa (s : ByteArray) (k : Nat) : aexec Tryz.prog (loopAt Tryz.f217 0) (Lc_iIsSymbolLa s k) [.br [.call [Mode.rd] [] (AV.sv (lb (isMk (a1_c_iIsSymbolLa s
 k)))), .br [.ghost (.sel [] [2]), .out 1] [.ghost (.sel [] [0, 3]), .goto (ByteArray.size s - (k + 1)) (Lc_iIsSymbolLa s (k + 1))]] [.ghost (.sel
 [] []), .out 0]] (loopK (Ic_iIsSymbolLa s) (Yc_iIsSymbolLa s) (ByteArray.size s - k)) = (List.length (Array.toList (ByteArray.data s)) <= 9223372036854775807 -> (decide ((↑k :
 Int) < (↑(List.length (Array.toList (ByteArray.data s))) : Int)) = true -> (0 <= (k : Int) /\ Int.toNat (k : Int) < List.length (Array.toList (ByteArray.data s))) /\ P_c_iMark
 (a1_c_iIsSymbolLa s k) /\ ((!isMk (a1_c_iIsSymbolLa s k)) = true -> (List.all (Array.toList (ByteArray.data s)) fun b => isMk (↑(UInt8.toNat b) : Int)) = false /\ W1c_iIsSymbolLa s
 (lb false) = W1c_iIsSymbolLa s (lb false)) /\ ((!isMk (a1_c_iIsSymbolLa s k)) = false -> rng .i64 ((k : Int) + 1) /\ ByteArray.size s - (k + 1) < ByteArray.size s - k /\
 Tc_iIsSymbolLa s (li ((k : Int) + 1)) = Lc_iIsSymbolLa s (k + 1) /\ Ic_iIsSymbolLa s (ByteArray.size s - (k + 1)) (Lc_iIsSymbolLa s (k + 1)))) /\ (decide ((k : Int) <
 (↑(List.length (Array.toList (ByteArray.data s))) : Int)) = false -> (List.all (Array.toList (ByteArray.data s)) fun b => isMk (↑(UInt8.toNat b) : Int)) = true /\ W0c_iIsSymbolLa s
 = W0c_iIsSymbolLa s)) := by kernel_rfl
theorem Sc_iIsSymbolLa (s : ByteArray)  : LoopSem Tryz.prog (loopAt Tryz.f217 0) (Ic_iIsSymbolLa s) (Yc_iIsSymbolLa s) := by
  refine LoopSem.ofHead wide fun k h => ⟨_, _, run_c_iIsSymbolLa s k, ?_⟩
  try delta a1_c_iIsSymbolLa
  have g1 := @all_stop s.data.toList (fun b => isMk b.toNat) k
  have g2 := @all_go s.data.toList (fun b => isMk b.toNat) k
  have g3 := @all_all s.data.toList (fun b => isMk b.toNat) k
  with_reducible repeat' (first | apply And.intro | exact flatI | exact flatS | exact rowLens | (intro; skip) | apply obsN | apply obsC | apply obA | apply obM | apply obB | apply svA | apply tupA | apply lcA | apply lcS | apply svC | apply liC | apply lbC | apply lsC | apply vIc | apply vBc | apply vSc | apply vLc | apply mapC | apply hdI | apply Ec_iIsSymbolLa | apply EW1c_iIsSymbolLa | apply c_l1In | apply c_iDigit | apply c_iMark)
  all_goals (try simp only [std] at *)
  all_goals (try (first | with_reducible apply c_l1In | with_reducible apply c_iDigit | with_reducible apply c_iMark | (simp only [<- List.map_append]; first | with_reducible apply c_l1In | with_reducible apply c_iDigit | with_reducible apply c_iMark)))
  all_goals (try (first | with_reducible rfl | omega | assumption | exact dT ‹_› | exact dF ‹_› | ((first | refine rowGet ?_ | refine getC ?_ rfl); (first | omega | (simp only [std]; omega) | grind)) | (show (_ : St) = _; rfl) | grind [snocI, snocS, rowSnoc]))
abbrev a1_c_iIsSymbol (s : ByteArray) := (↑(UInt8.toNat (List.getD (Array.toList (ByteArray.data s)) 0 (0 : UInt8))) : Int)
abbrev a2_c_iIsSymbol (s : ByteArray) := (↑(UInt8.toNat (List.getD (Array.toList (ByteArray.data s)) 1 (0 : UInt8))) : Int)
theorem run_c_iIsSymbol (s : ByteArray) : aexec Tryz.prog (Tryz.f217.body.getD .skip) (entry [] [ls s] 43) [.br [.bool true, .bool true, .bool true,
 .fin []] [.br [.bool true, .bool true, .fin []] [.call [Mode.rd] [] (AV.sv (lb (isDig (a1_c_iIsSymbol s)))), .br [.bool true, .fin []] [.br [.br
 [.call [Mode.rd] [] (AV.sv (lb (isDig (a2_c_iIsSymbol s)))), .br [.fin []] [.ghost (.sel [] [0, 3]), .loop (ByteArray.size s - 0) (Lc_iIsSymbolLa s 0)
 (Ic_iIsSymbolLa s) [((List.all (Array.toList (ByteArray.data s)) fun b => isMk (↑(UInt8.toNat b) : Int)) = true, AEx.exit 0, W0c_iIsSymbolLa s, [.fin []]), ((List.all
 (Array.toList (ByteArray.data s)) fun b => isMk (↑(UInt8.toNat b) : Int)) = false, AEx.ret, W1c_iIsSymbolLa s (lb false), [.fin []])]]] [.bool false, .ghost (.sel []
 [0, 3]), .loop (ByteArray.size s - 0) (Lc_iIsSymbolLa s 0) (Ic_iIsSymbolLa s) [((List.all (Array.toList (ByteArray.data s)) fun b => isMk (↑(UInt8.toNat b) : Int)) = true,
 AEx.exit 0, W0c_iIsSymbolLa s, [.fin []]), ((List.all (Array.toList (ByteArray.data s)) fun b => isMk (↑(UInt8.toNat b) : Int)) = false, AEx.ret, W1c_iIsSymbolLa s (lb false),
 [.fin []])]]] [.bool false, .bool false, .ghost (.sel [] [0, 3]), .loop (ByteArray.size s - 0) (Lc_iIsSymbolLa s 0) (Ic_iIsSymbolLa s) [((List.all
 (Array.toList (ByteArray.data s)) fun b => isMk (↑(UInt8.toNat b) : Int)) = true, AEx.exit 0, W0c_iIsSymbolLa s, [.fin []]), ((List.all (Array.toList (ByteArray.data s)) fun b
 => isMk (↑(UInt8.toNat b) : Int)) = false, AEx.ret, W1c_iIsSymbolLa s (lb false), [.fin []])]]]]]] (finK Tryz.prog [ResultVar.tmp 2] [] (AV.sv (lb (isSym s)))) = (List.length
 (Array.toList (ByteArray.data s)) <= 9223372036854775807 -> (decide ((↑(List.length (Array.toList (ByteArray.data s))) : Int) < 1) = true -> true = true /\ true = true /\ true = true /\
 ObsEq [] [] /\ AV.sv (lb false) = AV.sv (lb (isSym s))) /\ (decide ((↑(List.length (Array.toList (ByteArray.data s))) : Int) < 1) = false -> List.length (Array.toList (ByteArray.data
 s)) <= 9223372036854775807 -> (decide (16 < (↑(List.length (Array.toList (ByteArray.data s))) : Int)) = true -> true = true /\ true = true /\ ObsEq [] [] /\ AV.sv (lb false) = AV.sv (lb
 (isSym s))) /\ (decide (16 < (↑(List.length (Array.toList (ByteArray.data s))) : Int)) = false -> ((0 : Int) <= 0 /\ 0 < List.length (Array.toList (ByteArray.data s))) /\ P_c_iDigit
 (a1_c_iIsSymbol s) /\ (isDig (a1_c_iIsSymbol s) = true -> true = true /\ ObsEq [] [] /\ AV.sv (lb false) = AV.sv (lb (isSym s))) /\ (isDig (a1_c_iIsSymbol s) = false -> ((0 : Int) <= 0 /\
 0 < List.length (Array.toList (ByteArray.data s))) /\ (decide ((a1_c_iIsSymbol s) = 45) = true -> List.length (Array.toList (ByteArray.data s)) <= 9223372036854775807 -> (decide (1 <
 (↑(List.length (Array.toList (ByteArray.data s))) : Int)) = true -> ((0 : Int) <= 1 /\ 1 < List.length (Array.toList (ByteArray.data s))) /\ P_c_iDigit (a2_c_iIsSymbol s) /\ (isDig
 (a2_c_iIsSymbol s) = true -> ObsEq [] [] /\ AV.sv (lb false) = AV.sv (lb (isSym s))) /\ (isDig (a2_c_iIsSymbol s) = false -> Tc_iIsSymbolLa s (li 0) = Lc_iIsSymbolLa s 0 /\
 Ic_iIsSymbolLa s (ByteArray.size s - 0) (Lc_iIsSymbolLa s 0) /\ LoopSem Tryz.prog (loopAt Tryz.f217 0) (Ic_iIsSymbolLa s) (Yc_iIsSymbolLa s) /\ ((List.all (Array.toList
 (ByteArray.data s)) fun b => isMk (↑(UInt8.toNat b) : Int)) = true -> ObsEq [] [] /\ AV.sv (lb true) = AV.sv (lb (isSym s))) /\ ((List.all (Array.toList (ByteArray.data s)) fun b =>
 isMk (↑(UInt8.toNat b) : Int)) = false -> ObsEq [] [] /\ AV.sv (lb false) = AV.sv (lb (isSym s))) /\ True)) /\ (decide (1 < (↑(List.length (Array.toList (ByteArray.data s))) : Int)) =
 false -> false = false /\ Tc_iIsSymbolLa s (li 0) = Lc_iIsSymbolLa s 0 /\ Ic_iIsSymbolLa s (ByteArray.size s - 0) (Lc_iIsSymbolLa s 0) /\ LoopSem Tryz.prog (loopAt Tryz.f217 0)
 (Ic_iIsSymbolLa s) (Yc_iIsSymbolLa s) /\ ((List.all (Array.toList (ByteArray.data s)) fun b => isMk (↑(UInt8.toNat b) : Int)) = true -> ObsEq [] [] /\ AV.sv (lb true) = AV.sv (lb
 (isSym s))) /\ ((List.all (Array.toList (ByteArray.data s)) fun b => isMk (↑(UInt8.toNat b) : Int)) = false -> ObsEq [] [] /\ AV.sv (lb false) = AV.sv (lb (isSym s))) /\ True)) /\
 (decide ((a1_c_iIsSymbol s) = 45) = false -> false = false /\ false = false /\ Tc_iIsSymbolLa s (li 0) = Lc_iIsSymbolLa s 0 /\ Ic_iIsSymbolLa s (ByteArray.size s - 0) (Lc_iIsSymbolLa
 s 0) /\ LoopSem Tryz.prog (loopAt Tryz.f217 0) (Ic_iIsSymbolLa s) (Yc_iIsSymbolLa s) /\ ((List.all (Array.toList (ByteArray.data s)) fun b => isMk (↑(UInt8.toNat b) : Int)) = true ->
 ObsEq [] [] /\ AV.sv (lb true) = AV.sv (lb (isSym s))) /\ ((List.all (Array.toList (ByteArray.data s)) fun b => isMk (↑(UInt8.toNat b) : Int)) = false -> ObsEq [] [] /\ AV.sv (lb
 false) = AV.sv (lb (isSym s))) /\ True))))) := by kernel_rfl
theorem c_iIsSymbol (s : ByteArray)  : P_c_iIsSymbol s := by
  refine CallOK.ofRun wide (run_c_iIsSymbol s) Tryz.call217 Tryz.func217 rfl rfl rfl ?_
  try delta a1_c_iIsSymbol a2_c_iIsSymbol
  with_reducible repeat' (first | apply And.intro | exact flatI | exact flatS | exact rowLens | (intro; skip) | apply obsN | apply obsC | apply obA | apply obM | apply obB | apply svA | apply tupA | apply lcA | apply lcS | apply svC | apply liC | apply lbC | apply lsC | apply vIc | apply vBc | apply vSc | apply vLc | apply mapC | apply hdI | apply Ec_iIsSymbolLa | apply Sc_iIsSymbolLa | apply EW1c_iIsSymbolLa | apply c_l1In | apply c_iDigit | apply c_iMark)
  all_goals (try simp only [std] at *)
  all_goals (try (first | with_reducible apply c_l1In | with_reducible apply c_iDigit | with_reducible apply c_iMark | (simp only [<- List.map_append]; first | with_reducible apply c_l1In | with_reducible apply c_iDigit | with_reducible apply c_iMark)))
  all_goals (try (first | with_reducible rfl | omega | assumption | exact dT ‹_› | exact dF ‹_› | ((first | refine rowGet ?_ | refine getC ?_ rfl); (first | omega | (simp only [std]; omega) | grind)) | (show (_ : St) = _; rfl) | grind [isSym, snocI, snocS, rowSnoc]))
abbrev P_c_sString (s : ByteArray) : Prop := CallOK Tryz.prog 250 [] [ls s] [] (.sv (lb (isStr s)))
def Tc_sStringLa (s : ByteArray) (x0 : SV) : St := St.mk (regsOf 29 [(0, AV.sv (ls s)), (3, AV.sv x0)]) [] 0 
def Lc_sStringLa (s : ByteArray) (k : Nat) : St := Tc_sStringLa s (li (k : Int)) 
abbrev Ic_sStringLa (s : ByteArray) : Nat -> St -> Prop := Head (Lc_sStringLa s) (fun k => k <= ByteArray.size s /\ (List.all (List.take k (Array.toList (ByteArray.data s))) fun b =>
 isStB (↑(UInt8.toNat b) : Int)) = true) fun k => ByteArray.size s - k 
def W0c_sStringLa (s : ByteArray) : St := St.mk (regsOf 29 [(0, AV.sv (ls s))]) [] 0 
def W1c_sStringLa (s : ByteArray) (x0 : SV) : St := St.mk (regsOf 29 [(2, AV.sv x0)]) [] 0 
def Yc_sStringLa (s : ByteArray) : List (Prop × AEx × St) := [((List.all (Array.toList (ByteArray.data s)) fun b => isStB (↑(UInt8.toNat b) : Int)) = true, AEx.exit 0,
 W0c_sStringLa s), ((List.all (Array.toList (ByteArray.data s)) fun b => isStB (↑(UInt8.toNat b) : Int)) = false, AEx.ret, W1c_sStringLa s (lb false))]

theorem Ec_sStringLa {s : ByteArray} {k : Nat} {x0 : SV} (h0 : x0 = (li (k : Int))) : Tc_sStringLa s x0 = Lc_sStringLa s k := by
  rw [h0]
  rfl
theorem EW1c_sStringLa {s : ByteArray} {x0 y0 : SV} (h0 : x0 = y0) : W1c_sStringLa s x0 = W1c_sStringLa s y0 := by rw [h0]
abbrev a2_c_sStringLa (s : ByteArray) := (Array.toList (ByteArray.data s))
abbrev a1_c_sStringLa (s : ByteArray) (k : Nat) := (↑(UInt8.toNat (List.getD (a2_c_sStringLa s) (Int.toNat (↑k : Int)) (0 : UInt8))) : Int)
theorem run_c_sStringLa (s : ByteArray) (k : Nat) : aexec Tryz.prog (loopAt Tryz.f250 0) (Lc_sStringLa s k) [.br [.br [.bool true, .bool true, .ghost (.sel []
 [2]), .out 1] [.br [.bool true, .ghost (.sel [] [2]), .out 1] [.br [.ghost (.sel [] [2]), .out 1] [.ghost (.sel [] [0, 3]), .goto
 (ByteArray.size s - (k + 1)) (Lc_sStringLa s (k + 1))]]]] [.ghost (.sel [] [0]), .out 0]] (loopK (Ic_sStringLa s) (Yc_sStringLa s) (ByteArray.size s - k)) =
 (List.length (a2_c_sStringLa s) <= 9223372036854775807 -> (decide ((k : Int) < (↑(List.length (a2_c_sStringLa s)) : Int)) = true -> (0 <= (k : Int) /\ Int.toNat (k : Int) <
 List.length (a2_c_sStringLa s)) /\ (decide ((a1_c_sStringLa s k) < 32) = true -> true = true /\ true = true /\ (List.all (a2_c_sStringLa s) fun b => isStB (↑(UInt8.toNat b) : Int)) =
 false /\ W1c_sStringLa s (lb false) = W1c_sStringLa s (lb false)) /\ (decide ((a1_c_sStringLa s k) < 32) = false -> (0 <= (k : Int) /\ Int.toNat (k : Int) < List.length
 (a2_c_sStringLa s)) /\ (decide (126 < (a1_c_sStringLa s k)) = true -> true = true /\ (List.all (a2_c_sStringLa s) fun b => isStB (↑(UInt8.toNat b) : Int)) = false /\ W1c_sStringLa s
 (lb false) = W1c_sStringLa s (lb false)) /\ (decide (126 < (a1_c_sStringLa s k)) = false -> (0 <= (k : Int) /\ Int.toNat (k : Int) < List.length (a2_c_sStringLa s)) /\ (decide
 ((a1_c_sStringLa s k) = 34) = true -> (List.all (a2_c_sStringLa s) fun b => isStB (↑(UInt8.toNat b) : Int)) = false /\ W1c_sStringLa s (lb false) = W1c_sStringLa s (lb false)) /\
 (decide ((a1_c_sStringLa s k) = 34) = false -> rng .i64 ((k : Int) + 1) /\ ByteArray.size s - (k + 1) < ByteArray.size s - k /\ Tc_sStringLa s (li ((k : Int) + 1)) =
 Lc_sStringLa s (k + 1) /\ Ic_sStringLa s (ByteArray.size s - (k + 1)) (Lc_sStringLa s (k + 1)))))) /\ (decide ((k : Int) < (↑(List.length (a2_c_sStringLa s)) : Int)) = false ->
 (List.all (a2_c_sStringLa s) fun b => isStB (↑(UInt8.toNat b) : Int)) = true /\ W0c_sStringLa s = W0c_sStringLa s)) := by kernel_rfl
theorem Sc_sStringLa (s : ByteArray)  : LoopSem Tryz.prog (loopAt Tryz.f250 0) (Ic_sStringLa s) (Yc_sStringLa s) := by
  refine LoopSem.ofHead wide fun k h => ⟨_, _, run_c_sStringLa s k, ?_⟩
  try delta a2_c_sStringLa a1_c_sStringLa
  have g1 := @all_stop s.data.toList (fun b => isStB b.toNat) k
  have g2 := @all_go s.data.toList (fun b => isStB b.toNat) k
  have g3 := @all_all s.data.toList (fun b => isStB b.toNat) k
  with_reducible repeat' (first | apply And.intro | exact flatI | exact flatS | exact rowLens | (intro; skip) | apply obsN | apply obsC | apply obA | apply obM | apply obB | apply svA | apply tupA | apply lcA | apply lcS | apply svC | apply liC | apply lbC | apply lsC | apply vIc | apply vBc | apply vSc | apply vLc | apply mapC | apply hdI | apply Ec_sStringLa | apply EW1c_sStringLa)
  all_goals (try simp only [std] at *)
  all_goals (try (first | with_reducible rfl | omega | assumption | exact dT ‹_› | exact dF ‹_› | ((first | refine rowGet ?_ | refine getC ?_ rfl); (first | omega | (simp only [std]; omega) | grind)) | (show (_ : St) = _; rfl) | grind [isStB, snocI, snocS, rowSnoc]))
theorem run_c_sString (s : ByteArray) : aexec Tryz.prog (Tryz.f250.body.getD .skip) (entry [] [ls s] 29) [.ghost (.sel [] [0, 3]), .loop
 (ByteArray.size s - 0) (Lc_sStringLa s 0) (Ic_sStringLa s) [((List.all (Array.toList (ByteArray.data s)) fun b => isStB (↑(UInt8.toNat b) : Int)) = true, AEx.exit 0, W0c_sStringLa
 s, [.fin []]), ((List.all (Array.toList (ByteArray.data s)) fun b => isStB (↑(UInt8.toNat b) : Int)) = false, AEx.ret, W1c_sStringLa s (lb false), [.fin []])]] (finK
 Tryz.prog [ResultVar.tmp 2] [] (AV.sv (lb (isStr s)))) = (Tc_sStringLa s (li 0) = Lc_sStringLa s 0 /\ Ic_sStringLa s (ByteArray.size s - 0) (Lc_sStringLa s 0) /\ LoopSem Tryz.prog
 (loopAt Tryz.f250 0) (Ic_sStringLa s) (Yc_sStringLa s) /\ ((List.all (Array.toList (ByteArray.data s)) fun b => isStB (↑(UInt8.toNat b) : Int)) = true -> List.length (Array.toList
 (ByteArray.data s)) <= 9223372036854775807 -> ObsEq [] [] /\ AV.sv (lb (decide ((↑(List.length (Array.toList (ByteArray.data s))) : Int) <= 20))) = AV.sv (lb (isStr s))) /\ ((List.all
 (Array.toList (ByteArray.data s)) fun b => isStB (↑(UInt8.toNat b) : Int)) = false -> ObsEq [] [] /\ AV.sv (lb false) = AV.sv (lb (isStr s))) /\ True) := by kernel_rfl
theorem c_sString (s : ByteArray)  : P_c_sString s := by
  refine CallOK.ofRun wide (run_c_sString s) Tryz.call250 Tryz.func250 rfl rfl rfl ?_
  with_reducible repeat' (first | apply And.intro | exact flatI | exact flatS | exact rowLens | (intro; skip) | apply obsN | apply obsC | apply obA | apply obM | apply obB | apply svA | apply tupA | apply lcA | apply lcS | apply svC | apply liC | apply lbC | apply lsC | apply vIc | apply vBc | apply vSc | apply vLc | apply mapC | apply hdI | apply Ec_sStringLa | apply Sc_sStringLa | apply EW1c_sStringLa)
  all_goals (try simp only [std] at *)
  all_goals (try (first | with_reducible rfl | omega | assumption | exact dT ‹_› | exact dF ‹_› | ((first | refine rowGet ?_ | refine getC ?_ rfl); (first | omega | (simp only [std]; omega) | grind)) | (show (_ : St) = _; rfl) | grind [isStr, snocI, snocS, rowSnoc]))
abbrev P_c_iString (s : ByteArray) : Prop := CallOK Tryz.prog 256 [] [ls s] [] (.sv (lb (isStr s)))
def Tc_iStringLa (s : ByteArray) (x0 : SV) : St := St.mk (regsOf 29 [(0, AV.sv (ls s)), (3, AV.sv x0)]) [] 0 
def Lc_iStringLa (s : ByteArray) (k : Nat) : St := Tc_iStringLa s (li (k : Int)) 
abbrev Ic_iStringLa (s : ByteArray) : Nat -> St -> Prop := Head (Lc_iStringLa s) (fun k => k <= ByteArray.size s /\ (List.all (List.take k (Array.toList (ByteArray.data s))) fun b =>
 isStB (↑(UInt8.toNat b) : Int)) = true) fun k => ByteArray.size s - k 
def W0c_iStringLa (s : ByteArray) : St := St.mk (regsOf 29 []) [] 0 
def W1c_iStringLa (s : ByteArray) (x0 : SV) : St := St.mk (regsOf 29 [(2, AV.sv x0)]) [] 0 
def Yc_iStringLa (s : ByteArray) : List (Prop × AEx × St) := [((List.all (Array.toList (ByteArray.data s)) fun b => isStB (↑(UInt8.toNat b) : Int)) = true, AEx.exit 0,
 W0c_iStringLa s), ((List.all (Array.toList (ByteArray.data s)) fun b => isStB (↑(UInt8.toNat b) : Int)) = false, AEx.ret, W1c_iStringLa s (lb false))]

theorem Ec_iStringLa {s : ByteArray} {k : Nat} {x0 : SV} (h0 : x0 = (li (k : Int))) : Tc_iStringLa s x0 = Lc_iStringLa s k := by
  rw [h0]
  rfl
theorem EW1c_iStringLa {s : ByteArray} {x0 y0 : SV} (h0 : x0 = y0) : W1c_iStringLa s x0 = W1c_iStringLa s y0 := by rw [h0]
abbrev a2_c_iStringLa (s : ByteArray) := (Array.toList (ByteArray.data s))
abbrev a1_c_iStringLa (s : ByteArray) (k : Nat) := (↑(UInt8.toNat (List.getD (a2_c_iStringLa s) (Int.toNat (↑k : Int)) (0 : UInt8))) : Int)
theorem run_c_iStringLa (s : ByteArray) (k : Nat) : aexec Tryz.prog (loopAt Tryz.f256 0) (Lc_iStringLa s k) [.br [.br [.bool true, .bool true, .ghost (.sel []
 [2]), .out 1] [.br [.bool true, .ghost (.sel [] [2]), .out 1] [.br [.ghost (.sel [] [2]), .out 1] [.ghost (.sel [] [0, 3]), .goto
 (ByteArray.size s - (k + 1)) (Lc_iStringLa s (k + 1))]]]] [.ghost (.sel [] []), .out 0]] (loopK (Ic_iStringLa s) (Yc_iStringLa s) (ByteArray.size s - k)) = (List.length
 (a2_c_iStringLa s) <= 9223372036854775807 -> (decide ((k : Int) < (↑(List.length (a2_c_iStringLa s)) : Int)) = true -> (0 <= (k : Int) /\ Int.toNat (k : Int) < List.length
 (a2_c_iStringLa s)) /\ (decide ((a1_c_iStringLa s k) < 32) = true -> true = true /\ true = true /\ (List.all (a2_c_iStringLa s) fun b => isStB (↑(UInt8.toNat b) : Int)) = false /\
 W1c_iStringLa s (lb false) = W1c_iStringLa s (lb false)) /\ (decide ((a1_c_iStringLa s k) < 32) = false -> (0 <= (k : Int) /\ Int.toNat (k : Int) < List.length (a2_c_iStringLa s)) /\
 (decide (126 < (a1_c_iStringLa s k)) = true -> true = true /\ (List.all (a2_c_iStringLa s) fun b => isStB (↑(UInt8.toNat b) : Int)) = false /\ W1c_iStringLa s (lb false) =
 W1c_iStringLa s (lb false)) /\ (decide (126 < (a1_c_iStringLa s k)) = false -> (0 <= (k : Int) /\ Int.toNat (k : Int) < List.length (a2_c_iStringLa s)) /\ (decide ((a1_c_iStringLa s
 k) = 34) = true -> (List.all (a2_c_iStringLa s) fun b => isStB (↑(UInt8.toNat b) : Int)) = false /\ W1c_iStringLa s (lb false) = W1c_iStringLa s (lb false)) /\ (decide
 ((a1_c_iStringLa s k) = 34) = false -> rng .i64 ((k : Int) + 1) /\ ByteArray.size s - (k + 1) < ByteArray.size s - k /\ Tc_iStringLa s (li ((k : Int) + 1)) = Lc_iStringLa s
 (k + 1) /\ Ic_iStringLa s (ByteArray.size s - (k + 1)) (Lc_iStringLa s (k + 1)))))) /\ (decide ((k : Int) < (↑(List.length (a2_c_iStringLa s)) : Int)) = false -> (List.all
 (a2_c_iStringLa s) fun b => isStB (↑(UInt8.toNat b) : Int)) = true /\ W0c_iStringLa s = W0c_iStringLa s)) := by kernel_rfl
theorem Sc_iStringLa (s : ByteArray)  : LoopSem Tryz.prog (loopAt Tryz.f256 0) (Ic_iStringLa s) (Yc_iStringLa s) := by
  refine LoopSem.ofHead wide fun k h => ⟨_, _, run_c_iStringLa s k, ?_⟩
  try delta a2_c_iStringLa a1_c_iStringLa
  have g1 := @all_stop s.data.toList (fun b => isStB b.toNat) k
  have g2 := @all_go s.data.toList (fun b => isStB b.toNat) k
  have g3 := @all_all s.data.toList (fun b => isStB b.toNat) k
  with_reducible repeat' (first | apply And.intro | exact flatI | exact flatS | exact rowLens | (intro; skip) | apply obsN | apply obsC | apply obA | apply obM | apply obB | apply svA | apply tupA | apply lcA | apply lcS | apply svC | apply liC | apply lbC | apply lsC | apply vIc | apply vBc | apply vSc | apply vLc | apply mapC | apply hdI | apply Ec_iStringLa | apply EW1c_iStringLa)
  all_goals (try simp only [std] at *)
  all_goals (try (first | with_reducible rfl | omega | assumption | exact dT ‹_› | exact dF ‹_› | ((first | refine rowGet ?_ | refine getC ?_ rfl); (first | omega | (simp only [std]; omega) | grind)) | (show (_ : St) = _; rfl) | grind [isStB, snocI, snocS, rowSnoc]))
theorem run_c_iString (s : ByteArray) : aexec Tryz.prog (Tryz.f256.body.getD .skip) (entry [] [ls s] 29) [.br [.fin []] [.ghost (.sel [] [0, 3]),
 .loop (ByteArray.size s - 0) (Lc_iStringLa s 0) (Ic_iStringLa s) [((List.all (Array.toList (ByteArray.data s)) fun b => isStB (↑(UInt8.toNat b) : Int)) = true, AEx.exit 0,
 W0c_iStringLa s, [.fin []]), ((List.all (Array.toList (ByteArray.data s)) fun b => isStB (↑(UInt8.toNat b) : Int)) = false, AEx.ret, W1c_iStringLa s (lb false), [.fin
 []])]]] (finK Tryz.prog [ResultVar.tmp 2] [] (AV.sv (lb (isStr s)))) = (List.length (Array.toList (ByteArray.data s)) <= 9223372036854775807 -> (decide (20 < (↑(List.length
 (Array.toList (ByteArray.data s))) : Int)) = true -> ObsEq [] [] /\ AV.sv (lb false) = AV.sv (lb (isStr s))) /\ (decide (20 < (↑(List.length (Array.toList (ByteArray.data s))) :
 Int)) = false -> Tc_iStringLa s (li 0) = Lc_iStringLa s 0 /\ Ic_iStringLa s (ByteArray.size s - 0) (Lc_iStringLa s 0) /\ LoopSem Tryz.prog (loopAt Tryz.f256 0) (Ic_iStringLa s)
 (Yc_iStringLa s) /\ ((List.all (Array.toList (ByteArray.data s)) fun b => isStB (↑(UInt8.toNat b) : Int)) = true -> ObsEq [] [] /\ AV.sv (lb true) = AV.sv (lb (isStr s))) /\
 ((List.all (Array.toList (ByteArray.data s)) fun b => isStB (↑(UInt8.toNat b) : Int)) = false -> ObsEq [] [] /\ AV.sv (lb false) = AV.sv (lb (isStr s))) /\ True)) := by kernel_rfl
theorem c_iString (s : ByteArray)  : P_c_iString s := by
  refine CallOK.ofRun wide (run_c_iString s) Tryz.call256 Tryz.func256 rfl rfl rfl ?_
  with_reducible repeat' (first | apply And.intro | exact flatI | exact flatS | exact rowLens | (intro; skip) | apply obsN | apply obsC | apply obA | apply obM | apply obB | apply svA | apply tupA | apply lcA | apply lcS | apply svC | apply liC | apply lbC | apply lsC | apply vIc | apply vBc | apply vSc | apply vLc | apply mapC | apply hdI | apply Ec_iStringLa | apply Sc_iStringLa | apply EW1c_iStringLa)
  all_goals (try simp only [std] at *)
  all_goals (try (first | with_reducible rfl | omega | assumption | exact dT ‹_› | exact dF ‹_› | ((first | refine rowGet ?_ | refine getC ?_ rfl); (first | omega | (simp only [std]; omega) | grind)) | (show (_ : St) = _; rfl) | grind [isStr, snocI, snocS, rowSnoc]))
def nodD (k n : Int) (t : ByteArray) (i : Int) : Bool := decide (k = 0 /\ n = 0 /\ t.data.toList = []) || decide (k = 1 /\ n = 0 /\ isSym t = true /\ i = 0) || decide (k = 2 /\ -999999999 <= n /\ n <= 999999999 /\ t.data.toList = [] /\ i = 0) || decide (k = 3 /\ 0 <= n /\ n <= 1 /\ t.data.toList = [] /\ i = 0) || decide (k = 4 /\ n = 0 /\ isStr t = true /\ i = 0)
abbrev P_c_sNode (k : Int) (n : Int) (t : ByteArray) (i : Int) : Prop := CallOK Tryz.prog 223 [] [li k, li n, ls t, li i] [] (.sv (lb (nodD k n t i)))
theorem run_c_sNode (k : Int) (n : Int) (t : ByteArray) (i : Int) : aexec Tryz.prog (Tryz.f223.body.getD .skip) (entry [] [li k, li n, ls t, li i] 66) [.br
 [.br [.fin []] [.fin []]] [.br [.br [.call [Mode.rd] [] (AV.sv (lb (isSym t))), .br [.fin []] [.fin []]] [.bool false, .fin []]] [.br [.call
 [Mode.rd, Mode.rd, Mode.rd] [] (AV.sv (lb (decide ((-999999999 : Int) <= n /\ n <= 999999999)))), .br [.br [.fin []] [.fin []]] [.bool false, .fin []]] [.br
 [.call [Mode.rd, Mode.rd, Mode.rd] [] (AV.sv (lb (decide (0 <= n /\ n <= 1)))), .br [.br [.fin []] [.fin []]] [.bool false, .fin []]] [.br [.br [.call
 [Mode.rd] [] (AV.sv (lb (isStr t))), .br [.fin []] [.fin []]] [.bool false, .fin []]] [.fin []]]]]]] (finK Tryz.prog [ResultVar.tmp 8] [] (AV.sv (lb (nodD k n t
 i)))) = ((decide (k = 0) = true -> (decide (n = 0) = true -> ObsEq [] [] /\ AV.sv (lb (decide (Array.toList (ByteArray.data t) = []))) = AV.sv (lb (nodD k n t i))) /\ (decide (n = 0)
 = false -> ObsEq [] [] /\ AV.sv (lb false) = AV.sv (lb (nodD k n t i)))) /\ (decide (k = 0) = false -> (decide (k = 1) = true -> (decide (n = 0) = true -> P_c_sIsSymbol t /\ (isSym t =
 true -> ObsEq [] [] /\ AV.sv (lb (decide (i = 0))) = AV.sv (lb (nodD k n t i))) /\ (isSym t = false -> ObsEq [] [] /\ AV.sv (lb false) = AV.sv (lb (nodD k n t i)))) /\ (decide (n = 0) =
 false -> false = false /\ ObsEq [] [] /\ AV.sv (lb false) = AV.sv (lb (nodD k n t i)))) /\ (decide (k = 1) = false -> (decide (k = 2) = true -> P_c_l1In n (-999999999 : Int) 999999999 /\
 (decide ((-999999999 : Int) <= n /\ n <= 999999999) = true -> (decide (Array.toList (ByteArray.data t) = []) = true -> ObsEq [] [] /\ AV.sv (lb (decide (i = 0))) = AV.sv (lb (nodD k n t
 i))) /\ (decide (Array.toList (ByteArray.data t) = []) = false -> ObsEq [] [] /\ AV.sv (lb false) = AV.sv (lb (nodD k n t i)))) /\ (decide ((-999999999 : Int) <= n /\ n <= 999999999) =
 false -> false = false /\ ObsEq [] [] /\ AV.sv (lb false) = AV.sv (lb (nodD k n t i)))) /\ (decide (k = 2) = false -> (decide (k = 3) = true -> P_c_l1In n 0 1 /\ (decide (0 <= n /\ n <= 1)
 = true -> (decide (Array.toList (ByteArray.data t) = []) = true -> ObsEq [] [] /\ AV.sv (lb (decide (i = 0))) = AV.sv (lb (nodD k n t i))) /\ (decide (Array.toList (ByteArray.data t)
 = []) = false -> ObsEq [] [] /\ AV.sv (lb false) = AV.sv (lb (nodD k n t i)))) /\ (decide (0 <= n /\ n <= 1) = false -> false = false /\ ObsEq [] [] /\ AV.sv (lb false) = AV.sv (lb (nodD k
 n t i)))) /\ (decide (k = 3) = false -> (decide (k = 4) = true -> (decide (n = 0) = true -> P_c_sString t /\ (isStr t = true -> ObsEq [] [] /\ AV.sv (lb (decide (i = 0))) = AV.sv (lb
 (nodD k n t i))) /\ (isStr t = false -> ObsEq [] [] /\ AV.sv (lb false) = AV.sv (lb (nodD k n t i)))) /\ (decide (n = 0) = false -> false = false /\ ObsEq [] [] /\ AV.sv (lb false) =
 AV.sv (lb (nodD k n t i)))) /\ (decide (k = 4) = false -> ObsEq [] [] /\ AV.sv (lb false) = AV.sv (lb (nodD k n t i)))))))) := by kernel_rfl
theorem c_sNode (k n : Int) (t : ByteArray) (i : Int)  : P_c_sNode k n t i := by
  refine CallOK.ofRun wide (run_c_sNode k n t i) Tryz.call223 Tryz.func223 rfl rfl rfl ?_
  with_reducible repeat' (first | apply And.intro | exact flatI | exact flatS | exact rowLens | (intro; skip) | apply obsN | apply obsC | apply obA | apply obM | apply obB | apply svA | apply tupA | apply lcA | apply lcS | apply svC | apply liC | apply lbC | apply lsC | apply vIc | apply vBc | apply vSc | apply vLc | apply mapC | apply c_l1In | apply c_sIsSymbol | apply c_sString)
  all_goals (try simp only [std] at *)
  all_goals (try (first | with_reducible apply c_l1In | with_reducible apply c_sIsSymbol | with_reducible apply c_sString | (simp only [<- List.map_append]; first | with_reducible apply c_l1In | with_reducible apply c_sIsSymbol | with_reducible apply c_sString)))
  all_goals (try (first | with_reducible rfl | omega | assumption | exact dT ‹_› | exact dF ‹_› | ((first | refine rowGet ?_ | refine getC ?_ rfl); (first | omega | (simp only [std]; omega) | grind)) | (show (_ : St) = _; rfl) | grind [nodD, snocI, snocS, rowSnoc]))
abbrev P_c_iNode (k : Int) (n : Int) (t : ByteArray) (i : Int) : Prop := CallOK Tryz.prog 227 [] [li k, li n, ls t, li i] [] (.sv (lb (nodD k n t i)))
abbrev a1_c_iNode (k : Int) (n : Int) (t : ByteArray) (i : Int) := (decide (Array.toList (ByteArray.data t) = []) = true → ObsEq [] [] ∧ AV.sv (lb (decide (i = 0))) = AV.sv (lb
 (nodD k n t i)))
abbrev a2_c_iNode (k : Int) (n : Int) (t : ByteArray) (i : Int) := (decide (Array.toList (ByteArray.data t) = []) = false → ObsEq [] [] ∧ AV.sv (lb false) = AV.sv (lb (nodD k n t
 i)))
theorem run_c_iNode (k : Int) (n : Int) (t : ByteArray) (i : Int) : aexec Tryz.prog (Tryz.f227.body.getD .skip) (entry [] [li k, li n, ls t, li i] 74) [.br
 [.br [.fin []] [.fin []]] [.br [.br [.br [.call [Mode.rd] [] (AV.sv (lb (isSym t))), .fin []] [.fin []]] [.bool false, .fin []]] [.br [.br
 [.br [.br [.fin []] [.fin []]] [.bool false, .fin []]] [.bool false, .bool false, .fin []]] [.br [.br [.bool true, .br [.fin []] [.fin
 []]] [.br [.br [.fin []] [.fin []]] [.bool false, .fin []]]] [.br [.br [.br [.call [Mode.rd] [] (AV.sv (lb (isStr t))), .fin []] [.fin []]]
 [.bool false, .fin []]] [.fin []]]]]]] (finK Tryz.prog [ResultVar.tmp 8] [] (AV.sv (lb (nodD k n t i)))) = ((decide (k = 0) = true -> (decide (n = 0) = true -> ObsEq [] []
 /\ AV.sv (lb (decide (Array.toList (ByteArray.data t) = []))) = AV.sv (lb (nodD k n t i))) /\ (decide (n = 0) = false -> ObsEq [] [] /\ AV.sv (lb false) = AV.sv (lb (nodD k n t i))))
 /\ (decide (k = 0) = false -> (decide (k = 1) = true -> (decide (n = 0) = true -> (decide (i = 0) = true -> P_c_iIsSymbol t /\ ObsEq [] [] /\ AV.sv (lb (isSym t)) = AV.sv (lb (nodD k n t
 i))) /\ (decide (i = 0) = false -> ObsEq [] [] /\ AV.sv (lb false) = AV.sv (lb (nodD k n t i)))) /\ (decide (n = 0) = false -> false = false /\ ObsEq [] [] /\ AV.sv (lb false) = AV.sv
 (lb (nodD k n t i)))) /\ (decide (k = 1) = false -> (decide (k = 2) = true -> (decide ((-999999999 : Int) <= n) = true -> (decide (n <= 999999999) = true -> (a1_c_iNode k n t i) /\
 (a2_c_iNode k n t i)) /\ (decide (n <= 999999999) = false -> false = false /\ ObsEq [] [] /\ AV.sv (lb false) = AV.sv (lb (nodD k n t i)))) /\ (decide ((-999999999 : Int) <= n) = false ->
 false = false /\ false = false /\ ObsEq [] [] /\ AV.sv (lb false) = AV.sv (lb (nodD k n t i)))) /\ (decide (k = 2) = false -> (decide (k = 3) = true -> (decide (n = 0) = true -> true =
 true /\ (a1_c_iNode k n t i) /\ (a2_c_iNode k n t i)) /\ (decide (n = 0) = false -> (decide (n = 1) = true -> (a1_c_iNode k n t i) /\ (a2_c_iNode k n t i)) /\ (decide (n = 1) = false ->
 false = false /\ ObsEq [] [] /\ AV.sv (lb false) = AV.sv (lb (nodD k n t i))))) /\ (decide (k = 3) = false -> (decide (k = 4) = true -> (decide (n = 0) = true -> (decide (i = 0) = true
 -> P_c_iString t /\ ObsEq [] [] /\ AV.sv (lb (isStr t)) = AV.sv (lb (nodD k n t i))) /\ (decide (i = 0) = false -> ObsEq [] [] /\ AV.sv (lb false) = AV.sv (lb (nodD k n t i)))) /\
 (decide (n = 0) = false -> false = false /\ ObsEq [] [] /\ AV.sv (lb false) = AV.sv (lb (nodD k n t i)))) /\ (decide (k = 4) = false -> ObsEq [] [] /\ AV.sv (lb false) = AV.sv (lb (nodD
 k n t i)))))))) := by kernel_rfl
theorem c_iNode (k n : Int) (t : ByteArray) (i : Int)  : P_c_iNode k n t i := by
  refine CallOK.ofRun wide (run_c_iNode k n t i) Tryz.call227 Tryz.func227 rfl rfl rfl ?_
  try delta a1_c_iNode a2_c_iNode
  with_reducible repeat' (first | apply And.intro | exact flatI | exact flatS | exact rowLens | (intro; skip) | apply obsN | apply obsC | apply obA | apply obM | apply obB | apply svA | apply tupA | apply lcA | apply lcS | apply svC | apply liC | apply lbC | apply lsC | apply vIc | apply vBc | apply vSc | apply vLc | apply mapC | apply c_iIsSymbol | apply c_iString)
  all_goals (try simp only [std] at *)
  all_goals (try (first | with_reducible apply c_iIsSymbol | with_reducible apply c_iString | (simp only [<- List.map_append]; first | with_reducible apply c_iIsSymbol | with_reducible apply c_iString)))
  all_goals (try (first | with_reducible rfl | omega | assumption | exact dT ‹_› | exact dF ‹_› | ((first | refine rowGet ?_ | refine getC ?_ rfl); (first | omega | (simp only [std]; omega) | grind)) | (show (_ : St) = _; rfl) | grind [nodD, snocI, snocS, rowSnoc]))
end Go.Proofs.YtegbadciefljcaaGreat
end
section
namespace Go.Proofs.YtegbadciefljcaaGreat
open Go Go.Proofs.YtegbadciefljcaaGreat.Ab
set_option linter.unusedVariables false
set_option linter.unusedSimpArgs false
set_option maxHeartbeats 4000000
def kindS (n : Int) : Int := if 1 <= n /\ n <= 99999 then (if n % 3 = 0 then 3 else n % 3) else 0
theorem kindS_zero {n : Int} : kindS n = 0 ↔ ¬ (1 <= n /\ n <= 99999) := by unfold kindS; split <;> (try split) <;> omega
def okScN (L : List Int) : Nat -> Bool
  | 0 => true
  | k + 1 => okScN L k && decide (1 <= L.getD k default /\ L.getD k default <= 99999) && (decide (k = 0) || decide (L.getD (k - 1) default < L.getD k default))
def okSc (L : List Int) : Bool := okScN L L.length
theorem okScN_le (L : List Int) : ∀ (m k : Nat), k <= m -> okScN L m = true -> okScN L k = true
  | 0, k, h, _ => by
    obtain rfl : k = 0 := by omega
    rfl
  | m + 1, k, h, ht => by
    by_cases e : k = m + 1
    . rw [e]; exact ht
    . refine okScN_le L m k (by omega) ?_
      simp only [okScN, Bool.and_eq_true] at ht; exact ht.1.1
abbrev P_c_sKind (n : Int) : Prop := CallOK Tryz.prog 186 [] [li n] [] (.sv (li (kindS n)))
theorem run_c_sKind (n : Int) : aexec Tryz.prog (Tryz.f186.body.getD .skip) (entry [] [li n] 11) [.call [Mode.rd, Mode.rd, Mode.rd] [] (AV.sv (lb (decide (1 <=
 n /\ n <= 99999)))), .br [.fin []] [.cells (intC (List.getD [3, 1, 2] (Int.toNat (Int.tmod n 3)) 0)), .fin []]] (finK Tryz.prog [ResultVar.tmp 2] [] (AV.sv (li (kindS
 n)))) = (P_c_l1In n 1 99999 /\ ((!decide (1 <= n /\ n <= 99999)) = true -> ObsEq [] [] /\ AV.sv (li 0) = AV.sv (li (kindS n))) /\ ((!decide (1 <= n /\ n <= 99999)) = false -> (3 : Int) ≠ 0 /\
 (0 <= Int.tmod n 3 /\ Int.toNat (Int.tmod n 3) < 3) /\ [[cI 3], [cI 1], [cI 2]][Int.toNat (Int.tmod n 3)]? = some [cI (List.getD [3, 1, 2] (Int.toNat (Int.tmod n 3)) 0)] /\ ObsEq []
 [] /\ AV.sv (li (List.getD [3, 1, 2] (Int.toNat (Int.tmod n 3)) 0)) = AV.sv (li (kindS n)))) := by kernel_rfl
theorem c_sKind (n : Int)  : P_c_sKind n := by
  refine CallOK.ofRun wide (run_c_sKind n) Tryz.call186 Tryz.func186 rfl rfl rfl ?_
  with_reducible repeat' (first | apply And.intro | exact flatI | exact flatS | exact rowLens | (intro; skip) | apply obsN | apply obsC | apply obA | apply obM | apply obB | apply svA | apply tupA | apply lcA | apply lcS | apply svC | apply liC | apply lbC | apply lsC | apply vIc | apply vBc | apply vSc | apply vLc | apply mapC | apply c_l1In)
  all_goals (try simp only [std] at *)
  all_goals (try (first | with_reducible apply c_l1In | (simp only [<- List.map_append]; first | with_reducible apply c_l1In)))
  all_goals (try (first | with_reducible rfl | omega | assumption | exact dT ‹_› | exact dF ‹_› | ((first | refine rowGet ?_ | refine getC ?_ rfl); (first | omega | (simp only [std]; omega) | grind)) | (show (_ : St) = _; rfl) | grind [kindS, snocI, snocS, rowSnoc]))
abbrev P_c_iKind (n : Int) : Prop := CallOK Tryz.prog 190 [] [li n] [] (.sv (li (kindS n)))
theorem run_c_iKind (n : Int) : aexec Tryz.prog (Tryz.f190.body.getD .skip) (entry [] [li n] 15) [.br [.bool true, .fin []] [.br [.fin []] [.br
 [.fin []] [.br [.fin []] [.fin []]]]]] (finK Tryz.prog [ResultVar.tmp 2] [] (AV.sv (li (kindS n)))) = ((decide (n < 1) = true -> true = true /\ ObsEq [] [] /\ AV.sv (li
 0) = AV.sv (li (kindS n))) /\ (decide (n < 1) = false -> (decide (99999 < n) = true -> ObsEq [] [] /\ AV.sv (li 0) = AV.sv (li (kindS n))) /\ (decide (99999 < n) = false -> (3 : Int) ≠
 0 /\ (decide (Int.tmod n (3 : Int) = 1) = true -> ObsEq [] [] /\ AV.sv (li 1) = AV.sv (li (kindS n))) /\ (decide (Int.tmod n (3 : Int) = 1) = false -> (decide (Int.tmod n (3 : Int) =
 2) = true -> ObsEq [] [] /\ AV.sv (li 2) = AV.sv (li (kindS n))) /\ (decide (Int.tmod n (3 : Int) = 2) = false -> ObsEq [] [] /\ AV.sv (li 3) = AV.sv (li (kindS n))))))) := by
 kernel_rfl
theorem c_iKind (n : Int)  : P_c_iKind n := by
  refine CallOK.ofRun wide (run_c_iKind n) Tryz.call190 Tryz.func190 rfl rfl rfl ?_
  with_reducible repeat' (first | apply And.intro | exact flatI | exact flatS | exact rowLens | (intro; skip) | apply obsN | apply obsC | apply obA | apply obM | apply obB | apply svA | apply tupA | apply lcA | apply lcS | apply svC | apply liC | apply lbC | apply lsC | apply vIc | apply vBc | apply vSc | apply vLc | apply mapC)
  all_goals (try simp only [std] at *)
  all_goals (try (first | with_reducible rfl | omega | assumption | exact dT ‹_› | exact dF ‹_› | ((first | refine rowGet ?_ | refine getC ?_ rfl); (first | omega | (simp only [std]; omega) | grind)) | (show (_ : St) = _; rfl) | grind [kindS, snocI, snocS, rowSnoc]))
abbrev P_c_sScopes (L : List Int) : Prop := CallOK Tryz.prog 212 [] [ll (L.map intC)] [] (.sv (lb (okSc L)))
def Tc_sScopesLa (L : List Int) (x0 : SV) : St := St.mk (regsOf 29 [(0, AV.sv (ll (List.map intC L))), (5, AV.sv (ll (List.map intC L))), (6, AV.sv (li (↑(List.length (List.map
 intC L)) : Int))), (7, AV.sv x0)]) [] 0 
def Lc_sScopesLa (L : List Int) (k : Nat) : St := Tc_sScopesLa L (li (k : Int)) 
abbrev Ic_sScopesLa (L : List Int) : Nat -> St -> Prop := Head (Lc_sScopesLa L) (fun k => k <= List.length L /\ List.length L <= 9223372036854775807 /\ okScN L k = true) fun k =>
 List.length L - k 
def W0c_sScopesLa (L : List Int) : St := St.mk (regsOf 29 []) [] 0 
def W1c_sScopesLa (L : List Int) (x0 : SV) : St := St.mk (regsOf 29 [(2, AV.sv x0)]) [] 0 
def Yc_sScopesLa (L : List Int) : List (Prop × AEx × St) := [(okSc L = true, AEx.exit 0, W0c_sScopesLa L), (okSc L = false, AEx.ret, W1c_sScopesLa L (lb false))]

theorem Ec_sScopesLa {L : List Int} {k : Nat} {x0 : SV} (h0 : x0 = (li (k : Int))) : Tc_sScopesLa L x0 = Lc_sScopesLa L k := by
  rw [h0]
  rfl
theorem EW1c_sScopesLa {L : List Int} {x0 y0 : SV} (h0 : x0 = y0) : W1c_sScopesLa L x0 = W1c_sScopesLa L y0 := by rw [h0]
theorem run_c_sScopesLa (L : List Int) (k : Nat) : aexec Tryz.prog (loopAt Tryz.f212 0) (Lc_sScopesLa L k) [.br [.cells (intC (List.getD L k default)), .call [Mode.rd] []
 (AV.sv (li (kindS (List.getD L k 0)))), .br [.bool true, .ghost (.sel [] [2]), .out 1] [.br [.cells (intC (List.getD L (Int.toNat ((k : Int) - 1))
 default)), .br [.ghost (.sel [] [2]), .out 1] [.ghost (.sel [] [0, 5, 6, 7]), .goto (List.length L - (k + 1)) (Lc_sScopesLa L (k + 1))]] [.bool false,
 .ghost (.sel [] [0, 5, 6, 7]), .goto (List.length L - (k + 1)) (Lc_sScopesLa L (k + 1))]]] [.ghost (.sel [] []), .out 0]] (loopK (Ic_sScopesLa L)
 (Yc_sScopesLa L) (List.length L - k)) = ((decide ((k : Int) < (↑(List.length (List.map intC L)) : Int)) = true -> (0 <= (k : Int) /\ (List.map intC L)[Int.toNat (k : Int)]? = some
 [cI (List.getD L k 0)]) /\ P_c_sKind (List.getD L k 0) /\ (decide (kindS (List.getD L k 0) = 0) = true -> true = true /\ okSc L = false /\ W1c_sScopesLa L (lb false) = W1c_sScopesLa L
 (lb false)) /\ (decide (kindS (List.getD L k 0) = 0) = false -> (decide (0 < (k : Int)) = true -> rng .i64 ((k : Int) - 1) /\ (0 <= (k : Int) - 1 /\ (List.map intC
 L)[Int.toNat ((k : Int) - 1)]? = some [cI (List.getD L (Int.toNat ((k : Int) - 1)) 0)]) /\ (decide (List.getD L k 0 <= List.getD L (Int.toNat ((k : Int) - 1)) 0) = true -> okSc L
 = false /\ W1c_sScopesLa L (lb false) = W1c_sScopesLa L (lb false)) /\ (decide (List.getD L k 0 <= List.getD L (Int.toNat ((k : Int) - 1)) 0) = false -> rng .i64 ((k : Int) +
 1) /\ List.length L - (k + 1) < List.length L - k /\ Tc_sScopesLa L (li ((k : Int) + 1)) = Lc_sScopesLa L (k + 1) /\ Ic_sScopesLa L (List.length L - (k + 1)) (Lc_sScopesLa L (k +
 1)))) /\ (decide (0 < (k : Int)) = false -> false = false /\ rng .i64 ((k : Int) + 1) /\ List.length L - (k + 1) < List.length L - k /\ Tc_sScopesLa L (li ((k : Int) + 1)) =
 Lc_sScopesLa L (k + 1) /\ Ic_sScopesLa L (List.length L - (k + 1)) (Lc_sScopesLa L (k + 1))))) /\ (decide ((k : Int) < (↑(List.length (List.map intC L)) : Int)) = false -> okSc L =
 true /\ W0c_sScopesLa L = W0c_sScopesLa L)) := by kernel_rfl
theorem Sc_sScopesLa (L : List Int)  : LoopSem Tryz.prog (loopAt Tryz.f212 0) (Ic_sScopesLa L) (Yc_sScopesLa L) := by
  refine LoopSem.ofHead wide fun k h => ⟨_, _, run_c_sScopesLa L k, ?_⟩
  have g1 := okScN_le L L.length (k + 1)
  have g2 := @kindS_zero (L.getD k 0)
  have e : ((k : Int) - 1).toNat = k - 1 := by omega
  have g3 : okScN L (k + 1) = (okScN L k && decide (1 <= L.getD k 0 /\ L.getD k 0 <= 99999) && (decide (k = 0) || decide (L.getD (k - 1) 0 < L.getD k 0))) := rfl
  with_reducible repeat' (first | apply And.intro | exact flatI | exact flatS | exact rowLens | (intro; skip) | apply obsN | apply obsC | apply obA | apply obM | apply obB | apply svA | apply tupA | apply lcA | apply lcS | apply svC | apply liC | apply lbC | apply lsC | apply vIc | apply vBc | apply vSc | apply vLc | apply mapC | apply hdI | apply Ec_sScopesLa | apply EW1c_sScopesLa | apply c_sKind)
  all_goals (try simp only [std] at *)
  all_goals (try (first | with_reducible apply c_sKind | (simp only [<- List.map_append]; first | with_reducible apply c_sKind)))
  all_goals (try (first | with_reducible rfl | omega | assumption | exact dT ‹_› | exact dF ‹_› | ((first | refine rowGet ?_ | refine getC ?_ rfl); (first | omega | (simp only [std]; omega) | grind)) | (show (_ : St) = _; rfl) | grind [okSc, snocI, snocS, rowSnoc]))
theorem run_c_sScopes (L : List Int) : aexec Tryz.prog (Tryz.f212.body.getD .skip) (entry [] [ll (List.map intC L)] 29) [.ghost (.sel [] [0, 5, 6, 7]),
 .loop (List.length L - 0) (Lc_sScopesLa L 0) (Ic_sScopesLa L) [(okSc L = true, AEx.exit 0, W0c_sScopesLa L, [.fin []]), (okSc L = false, AEx.ret, W1c_sScopesLa L (lb false),
 [.fin []])]] (finK Tryz.prog [ResultVar.tmp 2] [] (AV.sv (lb (okSc L)))) = (List.length (List.map intC L) <= 9223372036854775807 -> Tc_sScopesLa L (li 0) = Lc_sScopesLa L 0 /\
 Ic_sScopesLa L (List.length L - 0) (Lc_sScopesLa L 0) /\ LoopSem Tryz.prog (loopAt Tryz.f212 0) (Ic_sScopesLa L) (Yc_sScopesLa L) /\ (okSc L = true -> ObsEq [] [] /\ AV.sv (lb true) =
 AV.sv (lb (okSc L))) /\ (okSc L = false -> ObsEq [] [] /\ AV.sv (lb false) = AV.sv (lb (okSc L))) /\ True) := by kernel_rfl
theorem c_sScopes (L : List Int)  : P_c_sScopes L := by
  refine CallOK.ofRun wide (run_c_sScopes L) Tryz.call212 Tryz.func212 rfl rfl rfl ?_
  with_reducible repeat' (first | apply And.intro | exact flatI | exact flatS | exact rowLens | (intro; skip) | apply obsN | apply obsC | apply obA | apply obM | apply obB | apply svA | apply tupA | apply lcA | apply lcS | apply svC | apply liC | apply lbC | apply lsC | apply vIc | apply vBc | apply vSc | apply vLc | apply mapC | apply hdI | apply Ec_sScopesLa | apply Sc_sScopesLa | apply EW1c_sScopesLa | apply c_sKind)
  all_goals (try simp only [std] at *)
  all_goals (try (first | with_reducible apply c_sKind | (simp only [<- List.map_append]; first | with_reducible apply c_sKind)))
  all_goals (try (first | with_reducible rfl | omega | assumption | exact dT ‹_› | exact dF ‹_› | ((first | refine rowGet ?_ | refine getC ?_ rfl); (first | omega | (simp only [std]; omega) | grind)) | (show (_ : St) = _; rfl) | grind [okScN, snocI, snocS, rowSnoc]))
abbrev P_c_iScopes (L : List Int) : Prop := CallOK Tryz.prog 218 [] [ll (L.map intC)] [] (.sv (lb (okSc L)))
def Tc_iScopesLa (L : List Int) (x0 : SV) : St := St.mk (regsOf 29 [(0, AV.sv (ll (List.map intC L))), (5, AV.sv (ll (List.map intC L))), (6, AV.sv (li (↑(List.length (List.map
 intC L)) : Int))), (7, AV.sv x0)]) [] 0 
def Lc_iScopesLa (L : List Int) (k : Nat) : St := Tc_iScopesLa L (li (k : Int)) 
abbrev Ic_iScopesLa (L : List Int) : Nat -> St -> Prop := Head (Lc_iScopesLa L) (fun k => k <= List.length L /\ List.length L <= 9223372036854775807 /\ okScN L k = true) fun k =>
 List.length L - k 
def W0c_iScopesLa (L : List Int) : St := St.mk (regsOf 29 []) [] 0 
def W1c_iScopesLa (L : List Int) (x0 : SV) : St := St.mk (regsOf 29 [(2, AV.sv x0)]) [] 0 
def Yc_iScopesLa (L : List Int) : List (Prop × AEx × St) := [(okSc L = true, AEx.exit 0, W0c_iScopesLa L), (okSc L = false, AEx.ret, W1c_iScopesLa L (lb false))]

theorem Ec_iScopesLa {L : List Int} {k : Nat} {x0 : SV} (h0 : x0 = (li (k : Int))) : Tc_iScopesLa L x0 = Lc_iScopesLa L k := by
  rw [h0]
  rfl
theorem EW1c_iScopesLa {L : List Int} {x0 y0 : SV} (h0 : x0 = y0) : W1c_iScopesLa L x0 = W1c_iScopesLa L y0 := by rw [h0]
theorem run_c_iScopesLa (L : List Int) (k : Nat) : aexec Tryz.prog (loopAt Tryz.f218 0) (Lc_iScopesLa L k) [.br [.cells (intC (List.getD L k default)), .call [Mode.rd] []
 (AV.sv (li (kindS (List.getD L k 0)))), .br [.bool true, .ghost (.sel [] [2]), .out 1] [.br [.cells (intC (List.getD L (Int.toNat ((k : Int) - 1))
 default)), .br [.ghost (.sel [] [2]), .out 1] [.ghost (.sel [] [0, 5, 6, 7]), .goto (List.length L - (k + 1)) (Lc_iScopesLa L (k + 1))]] [.bool false,
 .ghost (.sel [] [0, 5, 6, 7]), .goto (List.length L - (k + 1)) (Lc_iScopesLa L (k + 1))]]] [.ghost (.sel [] []), .out 0]] (loopK (Ic_iScopesLa L)
 (Yc_iScopesLa L) (List.length L - k)) = ((decide ((k : Int) < (↑(List.length (List.map intC L)) : Int)) = true -> (0 <= (k : Int) /\ (List.map intC L)[Int.toNat (k : Int)]? = some
 [cI (List.getD L k 0)]) /\ P_c_iKind (List.getD L k 0) /\ (decide (kindS (List.getD L k 0) = 0) = true -> true = true /\ okSc L = false /\ W1c_iScopesLa L (lb false) = W1c_iScopesLa L
 (lb false)) /\ (decide (kindS (List.getD L k 0) = 0) = false -> (decide (0 < (k : Int)) = true -> rng .i64 ((k : Int) - 1) /\ (0 <= (k : Int) - 1 /\ (List.map intC
 L)[Int.toNat ((k : Int) - 1)]? = some [cI (List.getD L (Int.toNat ((k : Int) - 1)) 0)]) /\ (decide (List.getD L k 0 <= List.getD L (Int.toNat ((k : Int) - 1)) 0) = true -> okSc L
 = false /\ W1c_iScopesLa L (lb false) = W1c_iScopesLa L (lb false)) /\ (decide (List.getD L k 0 <= List.getD L (Int.toNat ((k : Int) - 1)) 0) = false -> rng .i64 ((k : Int) +
 1) /\ List.length L - (k + 1) < List.length L - k /\ Tc_iScopesLa L (li ((k : Int) + 1)) = Lc_iScopesLa L (k + 1) /\ Ic_iScopesLa L (List.length L - (k + 1)) (Lc_iScopesLa L (k +
 1)))) /\ (decide (0 < (k : Int)) = false -> false = false /\ rng .i64 ((k : Int) + 1) /\ List.length L - (k + 1) < List.length L - k /\ Tc_iScopesLa L (li ((k : Int) + 1)) =
 Lc_iScopesLa L (k + 1) /\ Ic_iScopesLa L (List.length L - (k + 1)) (Lc_iScopesLa L (k + 1))))) /\ (decide ((k : Int) < (↑(List.length (List.map intC L)) : Int)) = false -> okSc L =
 true /\ W0c_iScopesLa L = W0c_iScopesLa L)) := by kernel_rfl
theorem Sc_iScopesLa (L : List Int)  : LoopSem Tryz.prog (loopAt Tryz.f218 0) (Ic_iScopesLa L) (Yc_iScopesLa L) := by
  refine LoopSem.ofHead wide fun k h => ⟨_, _, run_c_iScopesLa L k, ?_⟩
  have g1 := okScN_le L L.length (k + 1)
  have g2 := @kindS_zero (L.getD k 0)
  have e : ((k : Int) - 1).toNat = k - 1 := by omega
  have g3 : okScN L (k + 1) = (okScN L k && decide (1 <= L.getD k 0 /\ L.getD k 0 <= 99999) && (decide (k = 0) || decide (L.getD (k - 1) 0 < L.getD k 0))) := rfl
  with_reducible repeat' (first | apply And.intro | exact flatI | exact flatS | exact rowLens | (intro; skip) | apply obsN | apply obsC | apply obA | apply obM | apply obB | apply svA | apply tupA | apply lcA | apply lcS | apply svC | apply liC | apply lbC | apply lsC | apply vIc | apply vBc | apply vSc | apply vLc | apply mapC | apply hdI | apply Ec_iScopesLa | apply EW1c_iScopesLa | apply c_iKind)
  all_goals (try simp only [std] at *)
  all_goals (try (first | with_reducible apply c_iKind | (simp only [<- List.map_append]; first | with_reducible apply c_iKind)))
  all_goals (try (first | with_reducible rfl | omega | assumption | exact dT ‹_› | exact dF ‹_› | ((first | refine rowGet ?_ | refine getC ?_ rfl); (first | omega | (simp only [std]; omega) | grind)) | (show (_ : St) = _; rfl) | grind [okSc, snocI, snocS, rowSnoc]))
theorem run_c_iScopes (L : List Int) : aexec Tryz.prog (Tryz.f218.body.getD .skip) (entry [] [ll (List.map intC L)] 29) [.ghost (.sel [] [0, 5, 6, 7]),
 .loop (List.length L - 0) (Lc_iScopesLa L 0) (Ic_iScopesLa L) [(okSc L = true, AEx.exit 0, W0c_iScopesLa L, [.fin []]), (okSc L = false, AEx.ret, W1c_iScopesLa L (lb false),
 [.fin []])]] (finK Tryz.prog [ResultVar.tmp 2] [] (AV.sv (lb (okSc L)))) = (List.length (List.map intC L) <= 9223372036854775807 -> Tc_iScopesLa L (li 0) = Lc_iScopesLa L 0 /\
 Ic_iScopesLa L (List.length L - 0) (Lc_iScopesLa L 0) /\ LoopSem Tryz.prog (loopAt Tryz.f218 0) (Ic_iScopesLa L) (Yc_iScopesLa L) /\ (okSc L = true -> ObsEq [] [] /\ AV.sv (lb true) =
 AV.sv (lb (okSc L))) /\ (okSc L = false -> ObsEq [] [] /\ AV.sv (lb false) = AV.sv (lb (okSc L))) /\ True) := by kernel_rfl
theorem c_iScopes (L : List Int)  : P_c_iScopes L := by
  refine CallOK.ofRun wide (run_c_iScopes L) Tryz.call218 Tryz.func218 rfl rfl rfl ?_
  with_reducible repeat' (first | apply And.intro | exact flatI | exact flatS | exact rowLens | (intro; skip) | apply obsN | apply obsC | apply obA | apply obM | apply obB | apply svA | apply tupA | apply lcA | apply lcS | apply svC | apply liC | apply lbC | apply lsC | apply vIc | apply vBc | apply vSc | apply vLc | apply mapC | apply hdI | apply Ec_iScopesLa | apply Sc_iScopesLa | apply EW1c_iScopesLa | apply c_iKind)
  all_goals (try simp only [std] at *)
  all_goals (try (first | with_reducible apply c_iKind | (simp only [<- List.map_append]; first | with_reducible apply c_iKind)))
  all_goals (try (first | with_reducible rfl | omega | assumption | exact dT ‹_› | exact dF ‹_› | ((first | refine rowGet ?_ | refine getC ?_ rfl); (first | omega | (simp only [std]; omega) | grind)) | (show (_ : St) = _; rfl) | grind [okScN, snocI, snocS, rowSnoc]))
def nodY0 (k n : Int) (t : ByteArray) (s : List Int) (i : Int) : Bool := nodD k n t i && okSc s && (decide ((s.length : Int) = 0) || decide (k = 1))
mutual
def sizeY : Syntax -> Nat
  | ⟨_, _, _, _, l⟩ => sizeYs l + 1
def sizeYs : List Syntax -> Nat
  | [] => 0
  | c :: r => sizeY c + sizeYs r
end
theorem sizeYs_eq : ∀ l, sizeYs l = sumBy sizeY l
  | [] => by simp [sizeYs, sumBy]
  | c :: r => by rw [sizeYs, sumBy, sizeYs_eq r]
theorem sizeY_eq (c : Syntax) : sizeY c = sumBy sizeY c.items + 1 := by cases c; simp only [sizeY, sizeYs_eq]
mutual
def depY : Syntax -> Nat
  | ⟨_, _, _, _, l⟩ => depYs l + 1
def depYs : List Syntax -> Nat
  | [] => 0
  | c :: r => max (depY c) (depYs r)
end
theorem depYs_eq : ∀ l, depYs l = maxBy depY l
  | [] => by simp [depYs, maxBy]
  | c :: r => by rw [depYs, maxBy, depYs_eq r]
theorem depY_eq (c : Syntax) : depY c = maxBy depY c.items + 1 := by cases c; simp only [depY, depYs_eq]
theorem depY_le : ∀ c : Syntax, depY c <= sizeY c := by
  refine Syntax.ind fun c ih => ?_
  have := maxBy_sum ih
  rw [sizeY_eq, depY_eq]; omega
mutual
def okY : Syntax -> Bool
  | ⟨k, n, t, s, l⟩ => okYs l && nodY0 k n t s l.length
def okYs : List Syntax -> Bool
  | [] => true
  | c :: r => okY c && okYs r
end
theorem okYs_eq : ∀ l, okYs l = l.all okY
  | [] => by simp [okYs]
  | c :: r => by rw [okYs, okYs_eq r]; rfl
theorem okY_eq (c : Syntax) : okY c = (c.items.all okY && nodY0 c.kind c.number c.text c.scopes c.items.length) := by cases c; simp only [okY, okYs_eq]
def isSyn (d : Syntax) : Bool := decide (sizeY d <= 2000) && decide (depY d <= 40) && okY d
mutual
def meaY : Syntax -> Int -> Int -> Bool × Int
  | ⟨k, n, t, s, l⟩, deep, m => if deep <= 40 /\ m + 1 <= 2000 /\ nodY0 k n t s l.length = true then meaYs l (deep + 1) (m + 1) else (false, m + 1)
def meaYs : List Syntax -> Int -> Int -> Bool × Int
  | [], _, m => (true, m)
  | x :: r, deep, m => if (meaY x deep m).1 then meaYs r deep (meaY x deep m).2 else (false, (meaY x deep m).2)
end
theorem meaYs_eq : ∀ l deep m, meaYs l deep m = scan (fun x m => meaY x deep m) l m
  | [], _, _ => by simp [meaYs, scan]
  | x :: r, deep, m => by simp only [meaYs, scan, meaYs_eq r]
theorem meaY_eq (c : Syntax) (deep m : Int) : meaY c deep m = if deep <= 40 /\ m + 1 <= 2000 /\ nodY0 c.kind c.number c.text c.scopes c.items.length = true then scan (fun x m => meaY x (deep + 1) m) c.items (m + 1) else (false, m + 1) := by cases c; simp only [meaY, meaYs_eq]
theorem meaY_of : ∀ (c : Syntax) (deep m : Int), m <= 2000 -> ((meaY c deep m).1 = true ↔ (m + sizeY c <= 2000 /\ (deep + depY c <= 41 /\ okY c = true))) /\ ((meaY c deep m).1 = true -> (meaY c deep m).2 = m + sizeY c) := by
  refine Syntax.ind fun c ih deep m hm => ?_
  rw [meaY_eq, sizeY_eq, depY_eq, okY_eq, Bool.and_eq_true, List.all_eq_true]
  by_cases h : deep <= 40 /\ m + 1 <= 2000 /\ nodY0 c.kind c.number c.text c.scopes c.items.length = true
  . rw [if_pos h]
    have h1 := scan_of (fun x m => meaY x (deep + 1) m) sizeY (fun x => deep + 1 + depY x <= 41 /\ okY x = true) 2000 c.items (fun x hx m hm => ih x hx (deep + 1) m hm) (m + 1) h.2.1
    have h2 := maxBy_le depY (m := (40 - deep).toNat) (L := c.items)
    constructor
    . rw [h1.1]
      constructor
      . rintro ⟨a, b⟩
        have := h2.2 fun x hx => by have := (b x hx).1; omega
        exact ⟨by omega, by omega, fun x hx => (b x hx).2, h.2.2⟩
      . rintro ⟨a, b, d, e⟩
        have := h2.1 (by omega)
        exact ⟨by omega, fun x hx => ⟨by have := this x hx; omega, d x hx⟩⟩
    . intro ht; rw [h1.2 ht]; omega
  . rw [if_neg h]
    refine ⟨⟨fun e => Bool.noConfusion e, ?_⟩, fun e => Bool.noConfusion e⟩
    rintro ⟨a, b, d, e⟩
    exact absurd ⟨by omega, by omega, e⟩ h
theorem meaY_isSyn (d : Syntax) : (meaY d 1 0).1 = isSyn d := by
  have h := (meaY_of d 1 0 (by decide)).1
  rw [Bool.eq_iff_iff, h]
  simp only [isSyn, Bool.and_eq_true, decide_eq_true_eq, and_assoc]
  constructor
  . rintro ⟨a, b, e⟩; exact ⟨by omega, by omega, e⟩
  . rintro ⟨a, b, e⟩; exact ⟨by omega, by omega, e⟩
abbrev P_c_sFewY (d : Syntax) (l : Int) : Prop := CallOK Tryz.prog 167 [.box [vI l]] [syntaxA d, .one (.ptr 0 0)] [.box [vI (max (l - sizeY d) (-1))]] (.sv (lb (decide (sizeY d <= l))))
def Tc_sFewY_sLa (d : Syntax) (l : Int) (x0 : SV) (x1 : AC) : St := St.mk (regsOf 36 [(1, AV.sv (SV.one (AC.ptr 0 0))), (2, AV.sv (SV.one (AC.ptr 1 0))), (5, AV.sv x0)]) [Ob.box
 [x1], Ob.box (vals (syntaxF d))] 1 
def Lc_sFewY_sLa (d : Syntax) (l : Int) (k : Nat) : St := Tc_sFewY_sLa d l (li (k : Int)) (vI (max (l - 1 - (↑(sumBy sizeY (List.take k (Syntax.items d))) : Int)) (-1 : Int))) 
abbrev Ic_sFewY_sLa (d : Syntax) (l : Int) : Nat -> St -> Prop := Head (Lc_sFewY_sLa d l) (fun k => List.length (Syntax.items d) >= k) fun k => List.length (Syntax.items d) - k 
def W0c_sFewY_sLa (d : Syntax) (l : Int) (x0 : AC) : St := St.mk (regsOf 36 [(1, AV.sv (SV.one (AC.ptr 0 0)))]) [Ob.box [x0]] 1 
def Yc_sFewY_sLa (d : Syntax) (l : Int) : List (Prop × AEx × St) := [(True, AEx.exit 0, W0c_sFewY_sLa d l (vI (max (l - (↑(sizeY d) : Int)) (-1 : Int))))]

theorem Ec_sFewY_sLa {d : Syntax} {l : Int} {k : Nat} {x0 : SV} {x1 : AC} (h0 : x0 = (li (k : Int))) (h1 : x1 = (vI (max (l - 1 - (↑(sumBy sizeY (List.take k (Syntax.items d))) :
 Int)) (-1 : Int)))) : Tc_sFewY_sLa d l x0 x1 = Lc_sFewY_sLa d l k := by
  rw [h0, h1]
  rfl
theorem EW0c_sFewY_sLa {d : Syntax} {l : Int} {x0 y0 : AC} (h0 : x0 = y0) : W0c_sFewY_sLa d l x0 = W0c_sFewY_sLa d l y0 := by rw [h0]
abbrev a1_c_sFewY_sLa (d : Syntax) (l : Int) (k : Nat) := (l - 1 - (↑(sumBy sizeY (List.take k (Syntax.items d))) : Int))
theorem run_c_sFewY_sLa (d : Syntax) (l : Int) (k : Nat) : aexec Tryz.prog (loopAt Tryz.f167 0) (Lc_sFewY_sLa d l k) [.br [.br [.cells (syntaxF (List.getD (Syntax.items d)
 k default)), .call [Mode.rd, Mode.ptr] [Ob.box [vI (max (max (a1_c_sFewY_sLa d l k) (-1 : Int) - (↑(sizeY (List.getD (Syntax.items d) k default)) : Int)) (-1 : Int))]] (AV.sv
 (lb (decide ((↑(sizeY (List.getD (Syntax.items d) k default)) : Int) <= max (a1_c_sFewY_sLa d l k) (-1 : Int))))), .ghost (.sel [0, 1] [1, 2, 5]), .goto (List.length
 (Syntax.items d) - (k + 1)) (Lc_sFewY_sLa d l (k + 1))] [.ghost (.sel [0] [1]), .out 0]] [.bool false, .ghost (.sel [0] [1]), .out 0]] (loopK
 (Ic_sFewY_sLa d l) (Yc_sFewY_sLa d l) (List.length (Syntax.items d) - k)) = (List.length (List.map syntaxC (Syntax.items d)) <= 9223372036854775807 -> (decide ((k : Int) <
 (↑(List.length (List.map syntaxC (Syntax.items d))) : Int)) = true -> (decide (0 <= max (a1_c_sFewY_sLa d l k) (-1 : Int)) = true -> (0 <= (k : Int) /\ (List.map syntaxC (Syntax.items
 d))[Int.toNat (k : Int)]? = some (syntaxF (List.getD (Syntax.items d) k default))) /\ P_c_sFewY (List.getD (Syntax.items d) k default) (max (a1_c_sFewY_sLa d l k) (-1 : Int)) /\
 rng .i64 ((k : Int) + 1) /\ List.length (Syntax.items d) - (k + 1) < List.length (Syntax.items d) - k /\ Tc_sFewY_sLa d l (li ((k : Int) + 1)) (vI (max (max (a1_c_sFewY_sLa
 d l k) (-1 : Int) - (↑(sizeY (List.getD (Syntax.items d) k default)) : Int)) (-1 : Int))) = Lc_sFewY_sLa d l (k + 1) /\ Ic_sFewY_sLa d l (List.length (Syntax.items d) - (k + 1))
 (Lc_sFewY_sLa d l (k + 1))) /\ (decide (0 <= max (a1_c_sFewY_sLa d l k) (-1 : Int)) = false -> True /\ W0c_sFewY_sLa d l (vI (max (a1_c_sFewY_sLa d l k) (-1 : Int))) = W0c_sFewY_sLa d
 l (vI (max (l - (↑(sizeY d) : Int)) (-1 : Int))))) /\ (decide ((k : Int) < (↑(List.length (List.map syntaxC (Syntax.items d))) : Int)) = false -> false = false /\ True /\
 W0c_sFewY_sLa d l (vI (max (a1_c_sFewY_sLa d l k) (-1 : Int))) = W0c_sFewY_sLa d l (vI (max (l - (↑(sizeY d) : Int)) (-1 : Int))))) := by kernel_rfl
theorem Sc_sFewY_sLa (d : Syntax) (l : Int) (h : 0 <= l /\ l <= 1000000) (ih : ∀ (z : Syntax), z ∈ Syntax.items d -> ∀ (l : Int), 0 <= l /\ l <= 1000000 -> P_c_sFewY z l)  : LoopSem
 Tryz.prog (loopAt Tryz.f167 0) (Ic_sFewY_sLa d l) (Yc_sFewY_sLa d l) := by
  refine LoopSem.ofHead wide fun k h => ⟨_, _, run_c_sFewY_sLa d l k, ?_⟩
  try delta a1_c_sFewY_sLa
  have g1 := sizeY_eq d
  have g2 := sumBy_takeLe sizeY d.items k
  have g3 := @sumBy_step _ _ sizeY d.items k
  with_reducible repeat' (first | apply And.intro | exact flatI | exact flatS | exact rowLens | exact ih | (intro; skip) | apply obsN | apply obsC | apply obA | apply obM | apply obB | apply svA | apply tupA | apply lcA | apply lcS | apply svC | apply liC | apply lbC | apply lsC | apply vIc | apply vBc | apply vSc | apply vLc | apply mapC | apply hdI | apply Ec_sFewY_sLa | apply EW0c_sFewY_sLa | apply ih)
  all_goals (try simp only [std] at *)
  all_goals (try (first | with_reducible apply ih | (simp only [<- List.map_append]; first | with_reducible apply ih)))
  all_goals (try (first | with_reducible rfl | omega | assumption | exact dT ‹_› | exact dF ‹_› | ((first | refine rowGet ?_ | refine getC ?_ rfl); (first | omega | (simp only [std]; omega) | grind)) | (show (_ : St) = _; rfl) | grind [getD_mem', snocI, snocS, rowSnoc]))
theorem run_c_sFewY_s (d : Syntax) (l : Int) : aexec Tryz.prog (Tryz.f167.body.getD .skip) (entry [Ob.box [vI l]] [syntaxA d, SV.one (AC.ptr 0 0)] 36) [.ghost
 (.sel [0, 1] [1, 2, 5]), .loop (List.length (Syntax.items d) - 0) (Lc_sFewY_sLa d l 0) (Ic_sFewY_sLa d l) [(True, AEx.exit 0, W0c_sFewY_sLa d l (vI (max (l - (↑(sizeY d) :
 Int)) (-1 : Int))), [.fin []])]] (finK Tryz.prog [ResultVar.tmp 4] [Ob.box [vI (max (l - (↑(sizeY d) : Int)) (-1 : Int))]] (AV.sv (lb (decide ((↑(sizeY d) : Int) <= l))))) =
 (rng .i64 (l - 1) /\ Tc_sFewY_sLa d l (li 0) (vI (l - 1)) = Lc_sFewY_sLa d l 0 /\ Ic_sFewY_sLa d l (List.length (Syntax.items d) - 0) (Lc_sFewY_sLa d l 0) /\ LoopSem Tryz.prog
 (loopAt Tryz.f167 0) (Ic_sFewY_sLa d l) (Yc_sFewY_sLa d l) /\ (True -> ObsEq [Ob.box [vI (max (l - (↑(sizeY d) : Int)) (-1 : Int))]] [Ob.box [vI (max (l - (↑(sizeY d) : Int)) (-1 :
 Int))]] /\ AV.sv (lb (decide (0 <= max (l - (↑(sizeY d) : Int)) (-1 : Int)))) = AV.sv (lb (decide ((↑(sizeY d) : Int) <= l)))) /\ True) := by kernel_rfl
theorem c_sFewY_s (d : Syntax) (l : Int) (h : 0 <= l /\ l <= 1000000) (ih : ∀ z ∈ d.items, ∀ (l : Int) (h : 0 <= l /\ l <= 1000000), P_c_sFewY z l)  : P_c_sFewY d l := by
  refine CallOK.ofRun wide (run_c_sFewY_s d l) Tryz.call167 Tryz.func167 rfl rfl rfl ?_
  have g1 := sizeY_eq d
  have g2 : sumBy sizeY (d.items.take 0) = 0 := rfl
  with_reducible repeat' (first | apply And.intro | exact flatI | exact flatS | exact rowLens | exact ih | (intro; skip) | apply obsN | apply obsC | apply obA | apply obM | apply obB | apply svA | apply tupA | apply lcA | apply lcS | apply svC | apply liC | apply lbC | apply lsC | apply vIc | apply vBc | apply vSc | apply vLc | apply mapC | apply hdI | apply Ec_sFewY_sLa | apply Sc_sFewY_sLa | apply EW0c_sFewY_sLa)
  all_goals (try simp only [std] at *)
  all_goals (try (first | with_reducible apply ih | (simp only [<- List.map_append]; first | with_reducible apply ih)))
  all_goals (try (first | with_reducible rfl | omega | assumption | exact dT ‹_› | exact dF ‹_› | ((first | refine rowGet ?_ | refine getC ?_ rfl); (first | omega | (simp only [std]; omega) | grind)) | (show (_ : St) = _; rfl) | grind [snocI, snocS, rowSnoc]))
theorem c_sFewY (d : Syntax) : ∀ (l : Int) (h : 0 <= l /\ l <= 1000000), P_c_sFewY d l := Syntax.ind (P := fun d => ∀ (l : Int) (h : 0 <= l /\ l <= 1000000), P_c_sFewY d l) (fun d ih l h => c_sFewY_s d l h ih) d
abbrev P_c_sDepY (d : Syntax) : Prop := CallOK Tryz.prog 168 [] [syntaxA d] [] (.sv (li (depY d)))
def Tc_sDepY_sLa (d : Syntax) (x0 : SV) (x1 : SV) : St := St.mk (regsOf 20 [(3, AV.sv x1), (7, AV.sv (ll (List.map syntaxC (Syntax.items d)))), (8, AV.sv (li (↑(List.length
 (List.map syntaxC (Syntax.items d))) : Int))), (9, AV.sv x0)]) [] 0 
def Lc_sDepY_sLa (d : Syntax) (k : Nat) : St := Tc_sDepY_sLa d (li (k : Int)) (li (↑(maxBy depY (List.take k (Syntax.items d))) : Int)) 
abbrev Ic_sDepY_sLa (d : Syntax) : Nat -> St -> Prop := Head (Lc_sDepY_sLa d) (fun k => k <= List.length (Syntax.items d) /\ List.length (Syntax.items d) <= 9223372036854775807) fun k =>
 List.length (Syntax.items d) - k 
def W0c_sDepY_sLa (d : Syntax) (x0 : SV) : St := St.mk (regsOf 20 [(3, AV.sv x0)]) [] 0 
def Yc_sDepY_sLa (d : Syntax) : List (Prop × AEx × St) := [(True, AEx.exit 0, W0c_sDepY_sLa d (li (↑(maxBy depY (Syntax.items d)) : Int)))]

theorem Ec_sDepY_sLa {d : Syntax} {k : Nat} {x0 : SV} {x1 : SV} (h0 : x0 = (li (k : Int))) (h1 : x1 = (li (↑(maxBy depY (List.take k (Syntax.items d))) : Int))) : Tc_sDepY_sLa d
 x0 x1 = Lc_sDepY_sLa d k := by
  rw [h0, h1]
  rfl
theorem EW0c_sDepY_sLa {d : Syntax} {x0 y0 : SV} (h0 : x0 = y0) : W0c_sDepY_sLa d x0 = W0c_sDepY_sLa d y0 := by rw [h0]
theorem run_c_sDepY_sLa (d : Syntax) (k : Nat) : aexec Tryz.prog (loopAt Tryz.f168 0) (Lc_sDepY_sLa d k) [.br [.cells (syntaxF (List.getD (Syntax.items d) k default)),
 .call [Mode.rd] [] (AV.sv (li (↑(depY (List.getD (Syntax.items d) k default)) : Int))), .ghost (.sel [] [3, 7, 8, 9]), .goto (List.length (Syntax.items d) - (k + 1))
 (Lc_sDepY_sLa d (k + 1))] [.ghost (.sel [] [3]), .out 0]] (loopK (Ic_sDepY_sLa d) (Yc_sDepY_sLa d) (List.length (Syntax.items d) - k)) = ((decide ((k : Int) <
 (↑(List.length (List.map syntaxC (Syntax.items d))) : Int)) = true -> (0 <= (k : Int) /\ (List.map syntaxC (Syntax.items d))[Int.toNat (k : Int)]? = some (syntaxF (List.getD
 (Syntax.items d) k default))) /\ P_c_sDepY (List.getD (Syntax.items d) k default) /\ rng .i64 ((k : Int) + 1) /\ List.length (Syntax.items d) - (k + 1) < List.length
 (Syntax.items d) - k /\ Tc_sDepY_sLa d (li ((k : Int) + 1)) (li (max (↑(maxBy depY (List.take k (Syntax.items d))) : Int) (↑(depY (List.getD (Syntax.items d) k default)) : Int)))
 = Lc_sDepY_sLa d (k + 1) /\ Ic_sDepY_sLa d (List.length (Syntax.items d) - (k + 1)) (Lc_sDepY_sLa d (k + 1))) /\ (decide ((k : Int) < (↑(List.length (List.map syntaxC (Syntax.items
 d))) : Int)) = false -> True /\ W0c_sDepY_sLa d (li (↑(maxBy depY (List.take k (Syntax.items d))) : Int)) = W0c_sDepY_sLa d (li (↑(maxBy depY (Syntax.items d)) : Int)))) := by
 kernel_rfl
theorem Sc_sDepY_sLa (d : Syntax) (h : sizeY d <= 2147483647) (ih : ∀ (z : Syntax), z ∈ Syntax.items d -> sizeY z <= 2147483647 -> P_c_sDepY z)  : LoopSem Tryz.prog (loopAt Tryz.f168
 0) (Ic_sDepY_sLa d) (Yc_sDepY_sLa d) := by
  refine LoopSem.ofHead wide fun k h => ⟨_, _, run_c_sDepY_sLa d k, ?_⟩
  have g1 := sizeY_eq d
  have g2 := @sumBy_mem _ sizeY d.items (d.items.getD k default)
  with_reducible repeat' (first | apply And.intro | exact flatI | exact flatS | exact rowLens | exact ih | (intro; skip) | apply obsN | apply obsC | apply obA | apply obM | apply obB | apply svA | apply tupA | apply lcA | apply lcS | apply svC | apply liC | apply lbC | apply lsC | apply vIc | apply vBc | apply vSc | apply vLc | apply mapC | apply hdI | apply Ec_sDepY_sLa | apply EW0c_sDepY_sLa | apply ih)
  all_goals (try simp only [std] at *)
  all_goals (try (first | with_reducible apply ih | (simp only [<- List.map_append]; first | with_reducible apply ih)))
  all_goals (try (first | with_reducible rfl | omega | assumption | exact dT ‹_› | exact dF ‹_› | ((first | refine rowGet ?_ | refine getC ?_ rfl); (first | omega | (simp only [std]; omega) | grind)) | (show (_ : St) = _; rfl) | grind [maxBy_step, getD_mem', snocI, snocS, rowSnoc]))
theorem run_c_sDepY_s (d : Syntax) : aexec Tryz.prog (Tryz.f168.body.getD .skip) (entry [] [syntaxA d] 20) [.ghost (.sel [] [3, 7, 8, 9]), .loop
 (List.length (Syntax.items d) - 0) (Lc_sDepY_sLa d 0) (Ic_sDepY_sLa d) [(True, AEx.exit 0, W0c_sDepY_sLa d (li (↑(maxBy depY (Syntax.items d)) : Int)), [.fin []])]] (finK
 Tryz.prog [ResultVar.tmp 2] [] (AV.sv (li (↑(depY d) : Int)))) = (List.length (List.map syntaxC (Syntax.items d)) <= 9223372036854775807 -> Tc_sDepY_sLa d (li 0) (li 0) =
 Lc_sDepY_sLa d 0 /\ Ic_sDepY_sLa d (List.length (Syntax.items d) - 0) (Lc_sDepY_sLa d 0) /\ LoopSem Tryz.prog (loopAt Tryz.f168 0) (Ic_sDepY_sLa d) (Yc_sDepY_sLa d) /\ (True -> rng
 IntKind.i64 ((↑(maxBy depY (Syntax.items d)) : Int) + 1) /\ ObsEq [] [] /\ AV.sv (li ((↑(maxBy depY (Syntax.items d)) : Int) + 1)) = AV.sv (li (↑(depY d) : Int))) /\ True) := by
 kernel_rfl
theorem c_sDepY_s (d : Syntax) (h : sizeY d <= 2147483647) (ih : ∀ z ∈ d.items, ∀ (h : sizeY z <= 2147483647), P_c_sDepY z)  : P_c_sDepY d := by
  refine CallOK.ofRun wide (run_c_sDepY_s d) Tryz.call168 Tryz.func168 rfl rfl rfl ?_
  have h1 := depY_le d
  have g2 : maxBy depY (d.items.take 0) = 0 := rfl
  with_reducible repeat' (first | apply And.intro | exact flatI | exact flatS | exact rowLens | exact ih | (intro; skip) | apply obsN | apply obsC | apply obA | apply obM | apply obB | apply svA | apply tupA | apply lcA | apply lcS | apply svC | apply liC | apply lbC | apply lsC | apply vIc | apply vBc | apply vSc | apply vLc | apply mapC | apply hdI | apply Ec_sDepY_sLa | apply Sc_sDepY_sLa | apply EW0c_sDepY_sLa)
  all_goals (try simp only [std] at *)
  all_goals (try (first | with_reducible apply ih | (simp only [<- List.map_append]; first | with_reducible apply ih)))
  all_goals (try (first | with_reducible rfl | omega | assumption | exact dT ‹_› | exact dF ‹_› | ((first | refine rowGet ?_ | refine getC ?_ rfl); (first | omega | (simp only [std]; omega) | grind)) | (show (_ : St) = _; rfl) | grind [depY_eq, snocI, snocS, rowSnoc]))
theorem c_sDepY (d : Syntax) : ∀ (h : sizeY d <= 2147483647), P_c_sDepY d := Syntax.ind (P := fun d => ∀ (h : sizeY d <= 2147483647), P_c_sDepY d) (fun d ih h => c_sDepY_s d h ih) d
abbrev P_c_sOkY (d : Syntax) : Prop := CallOK Tryz.prog 169 [] [syntaxA d] [] (.sv (lb (okY d)))
def Tc_sOkY_sLa (d : Syntax) (x0 : SV) : St := St.mk (regsOf 42 [(1, AV.sv (SV.one (AC.ptr 0 0))), (6, AV.sv (ll (List.map syntaxC (Syntax.items d)))), (7, AV.sv (li (↑(List.length
 (List.map syntaxC (Syntax.items d))) : Int))), (8, AV.sv x0)]) [Ob.box (vals (syntaxF d))] 0 
def Lc_sOkY_sLa (d : Syntax) (k : Nat) : St := Tc_sOkY_sLa d (li (k : Int)) 
abbrev Ic_sOkY_sLa (d : Syntax) : Nat -> St -> Prop := Head (Lc_sOkY_sLa d) (fun k => k <= List.length (Syntax.items d) /\ List.length (Syntax.items d) <= 9223372036854775807 /\ List.all
 (List.take k (Syntax.items d)) okY = true) fun k => List.length (Syntax.items d) - k 
def W0c_sOkY_sLa (d : Syntax) : St := St.mk (regsOf 42 [(1, AV.sv (SV.one (AC.ptr 0 0)))]) [Ob.box (vals (syntaxF d))] 0 
def W1c_sOkY_sLa (d : Syntax) (x0 : SV) : St := St.mk (regsOf 42 [(2, AV.sv x0)]) [] 0 
def Yc_sOkY_sLa (d : Syntax) : List (Prop × AEx × St) := [(List.all (Syntax.items d) okY = true, AEx.exit 0, W0c_sOkY_sLa d), (List.all (Syntax.items d) okY = false, AEx.ret,
 W1c_sOkY_sLa d (lb false))]

theorem Ec_sOkY_sLa {d : Syntax} {k : Nat} {x0 : SV} (h0 : x0 = (li (k : Int))) : Tc_sOkY_sLa d x0 = Lc_sOkY_sLa d k := by
  rw [h0]
  rfl
theorem EW1c_sOkY_sLa {d : Syntax} {x0 y0 : SV} (h0 : x0 = y0) : W1c_sOkY_sLa d x0 = W1c_sOkY_sLa d y0 := by rw [h0]
theorem run_c_sOkY_sLa (d : Syntax) (k : Nat) : aexec Tryz.prog (loopAt Tryz.f169 0) (Lc_sOkY_sLa d k) [.br [.cells (syntaxF (List.getD (Syntax.items d) k default)), .call
 [Mode.rd] [] (AV.sv (lb (okY (List.getD (Syntax.items d) k default)))), .br [.ghost (.sel [] [2]), .out 1] [.ghost (.sel [0] [1, 6, 7, 8]), .goto
 (List.length (Syntax.items d) - (k + 1)) (Lc_sOkY_sLa d (k + 1))]] [.ghost (.sel [0] [1]), .out 0]] (loopK (Ic_sOkY_sLa d) (Yc_sOkY_sLa d) (List.length (Syntax.items d)
 - k)) = ((decide ((k : Int) < (↑(List.length (List.map syntaxC (Syntax.items d))) : Int)) = true -> (0 <= (k : Int) /\ (List.map syntaxC (Syntax.items d))[Int.toNat (k : Int)]? =
 some (syntaxF (List.getD (Syntax.items d) k default))) /\ P_c_sOkY (List.getD (Syntax.items d) k default) /\ ((!okY (List.getD (Syntax.items d) k default)) = true -> List.all
 (Syntax.items d) okY = false /\ W1c_sOkY_sLa d (lb false) = W1c_sOkY_sLa d (lb false)) /\ ((!okY (List.getD (Syntax.items d) k default)) = false -> rng .i64 ((k : Int) + 1) /\
 List.length (Syntax.items d) - (k + 1) < List.length (Syntax.items d) - k /\ Tc_sOkY_sLa d (li ((k : Int) + 1)) = Lc_sOkY_sLa d (k + 1) /\ Ic_sOkY_sLa d (List.length (Syntax.items
 d) - (k + 1)) (Lc_sOkY_sLa d (k + 1)))) /\ (decide ((k : Int) < (↑(List.length (List.map syntaxC (Syntax.items d))) : Int)) = false -> List.all (Syntax.items d) okY = true /\
 W0c_sOkY_sLa d = W0c_sOkY_sLa d)) := by kernel_rfl
theorem Sc_sOkY_sLa (d : Syntax) (ih : ∀ (z : Syntax), z ∈ Syntax.items d -> P_c_sOkY z)  : LoopSem Tryz.prog (loopAt Tryz.f169 0) (Ic_sOkY_sLa d) (Yc_sOkY_sLa d) := by
  refine LoopSem.ofHead wide fun k h => ⟨_, _, run_c_sOkY_sLa d k, ?_⟩
  with_reducible repeat' (first | apply And.intro | exact flatI | exact flatS | exact rowLens | exact ih | (intro; skip) | apply obsN | apply obsC | apply obA | apply obM | apply obB | apply svA | apply tupA | apply lcA | apply lcS | apply svC | apply liC | apply lbC | apply lsC | apply vIc | apply vBc | apply vSc | apply vLc | apply mapC | apply hdI | apply Ec_sOkY_sLa | apply EW1c_sOkY_sLa | apply c_sNode | apply c_sScopes | apply ih)
  all_goals (try simp only [std] at *)
  all_goals (try (first | with_reducible apply c_sNode | with_reducible apply c_sScopes | with_reducible apply ih | (simp only [<- List.map_append]; first | with_reducible apply c_sNode | with_reducible apply c_sScopes | with_reducible apply ih)))
  all_goals (try (first | with_reducible rfl | omega | assumption | exact dT ‹_› | exact dF ‹_› | ((first | refine rowGet ?_ | refine getC ?_ rfl); (first | omega | (simp only [std]; omega) | grind)) | (show (_ : St) = _; rfl) | grind [take_get, getD_mem', snocI, snocS, rowSnoc]))
abbrev a1_c_sOkY_s (d : Syntax) := (↑(List.length (List.map syntaxC (Syntax.items d))) : Int)
theorem run_c_sOkY_s (d : Syntax) : aexec Tryz.prog (Tryz.f169.body.getD .skip) (entry [] [syntaxA d] 42) [.ghost (.sel [0] [1, 6, 7, 8]), .loop
 (List.length (Syntax.items d) - 0) (Lc_sOkY_sLa d 0) (Ic_sOkY_sLa d) [(List.all (Syntax.items d) okY = true, AEx.exit 0, W0c_sOkY_sLa d, [.call [Mode.rd, Mode.rd, Mode.rd,
 Mode.rd] [] (AV.sv (lb (nodD (Syntax.kind d) (Syntax.number d) (Syntax.text d) (a1_c_sOkY_s d)))), .br [.call [Mode.rd] [] (AV.sv (lb (okSc (Syntax.scopes d)))), .br
 [.br [.fin []] [.fin []]] [.fin []]] [.bool false, .fin []]]), (List.all (Syntax.items d) okY = false, AEx.ret, W1c_sOkY_sLa d (lb false), [.fin []])]] (finK
 Tryz.prog [ResultVar.tmp 2] [] (AV.sv (lb (okY d)))) = (List.length (List.map syntaxC (Syntax.items d)) <= 9223372036854775807 -> Tc_sOkY_sLa d (li 0) = Lc_sOkY_sLa d 0 /\
 Ic_sOkY_sLa d (List.length (Syntax.items d) - 0) (Lc_sOkY_sLa d 0) /\ LoopSem Tryz.prog (loopAt Tryz.f169 0) (Ic_sOkY_sLa d) (Yc_sOkY_sLa d) /\ (List.all (Syntax.items d) okY = true
 -> List.length (List.map syntaxC (Syntax.items d)) <= 9223372036854775807 -> P_c_sNode (Syntax.kind d) (Syntax.number d) (Syntax.text d) (a1_c_sOkY_s d) /\ (nodD (Syntax.kind d)
 (Syntax.number d) (Syntax.text d) (a1_c_sOkY_s d) = true -> P_c_sScopes (Syntax.scopes d) /\ (okSc (Syntax.scopes d) = true -> List.length (List.map intC (Syntax.scopes d)) <=
 9223372036854775807 -> (decide ((↑(List.length (List.map intC (Syntax.scopes d))) : Int) = 0) = true -> ObsEq [] [] /\ AV.sv (lb true) = AV.sv (lb (okY d))) /\ (decide ((↑(List.length
 (List.map intC (Syntax.scopes d))) : Int) = 0) = false -> ObsEq [] [] /\ AV.sv (lb (decide (Syntax.kind d = 1))) = AV.sv (lb (okY d)))) /\ (okSc (Syntax.scopes d) = false -> ObsEq []
 [] /\ AV.sv (lb false) = AV.sv (lb (okY d)))) /\ (nodD (Syntax.kind d) (Syntax.number d) (Syntax.text d) (a1_c_sOkY_s d) = false -> false = false /\ ObsEq [] [] /\ AV.sv (lb false) =
 AV.sv (lb (okY d)))) /\ (List.all (Syntax.items d) okY = false -> ObsEq [] [] /\ AV.sv (lb false) = AV.sv (lb (okY d))) /\ True) := by kernel_rfl
theorem c_sOkY_s (d : Syntax) (ih : ∀ z ∈ d.items, P_c_sOkY z)  : P_c_sOkY d := by
  refine CallOK.ofRun wide (run_c_sOkY_s d) Tryz.call169 Tryz.func169 rfl rfl rfl ?_
  try delta a1_c_sOkY_s
  with_reducible repeat' (first | apply And.intro | exact flatI | exact flatS | exact rowLens | exact ih | (intro; skip) | apply obsN | apply obsC | apply obA | apply obM | apply obB | apply svA | apply tupA | apply lcA | apply lcS | apply svC | apply liC | apply lbC | apply lsC | apply vIc | apply vBc | apply vSc | apply vLc | apply mapC | apply hdI | apply Ec_sOkY_sLa | apply Sc_sOkY_sLa | apply EW1c_sOkY_sLa | apply c_sNode | apply c_sScopes)
  all_goals (try simp only [std] at *)
  all_goals (try (first | with_reducible apply c_sNode | with_reducible apply c_sScopes | with_reducible apply ih | (simp only [<- List.map_append]; first | with_reducible apply c_sNode | with_reducible apply c_sScopes | with_reducible apply ih)))
  all_goals (try (first | with_reducible rfl | omega | assumption | exact dT ‹_› | exact dF ‹_› | ((first | refine rowGet ?_ | refine getC ?_ rfl); (first | omega | (simp only [std]; omega) | grind)) | (show (_ : St) = _; rfl) | grind [okY_eq, nodY0, snocI, snocS, rowSnoc]))
theorem c_sOkY (d : Syntax) : P_c_sOkY d := Syntax.ind (P := fun d => P_c_sOkY d) (fun d ih => c_sOkY_s d ih) d
abbrev P_c_sIsSyntax (d : Syntax) : Prop := CallOK Tryz.prog 94 [] [syntaxA d] [] (.sv (lb (isSyn d)))
theorem run_c_sIsSyntax (d : Syntax) : aexec Tryz.prog (Tryz.f94.body.getD .skip) (entry [] [syntaxA d] 15) [.call [Mode.rd, Mode.ptr] [Ob.box [vI (max (2000 -
 (↑(sizeY d) : Int)) (-1 : Int))]] (AV.sv (lb (decide ((↑(sizeY d) : Int) <= 2000)))), .br [.call [Mode.rd] [] (AV.sv (li (↑(depY d) : Int))), .br [.call [Mode.rd] []
 (AV.sv (lb (okY d))), .fin []] [.fin []]] [.bool false, .fin []]] (finK Tryz.prog [ResultVar.tmp 2] [] (AV.sv (lb (isSyn d)))) = (P_c_sFewY d 2000 /\ (decide ((↑(sizeY
 d) : Int) <= 2000) = true -> P_c_sDepY d /\ (decide ((↑(depY d) : Int) <= 40) = true -> P_c_sOkY d /\ ObsEq [] [] /\ AV.sv (lb (okY d)) = AV.sv (lb (isSyn d))) /\ (decide ((↑(depY d) :
 Int) <= 40) = false -> ObsEq [] [] /\ AV.sv (lb false) = AV.sv (lb (isSyn d)))) /\ (decide ((↑(sizeY d) : Int) <= 2000) = false -> false = false /\ ObsEq [] [] /\ AV.sv (lb false) = AV.sv
 (lb (isSyn d)))) := by kernel_rfl
theorem c_sIsSyntax (d : Syntax)  : P_c_sIsSyntax d := by
  refine CallOK.ofRun wide (run_c_sIsSyntax d) Tryz.call94 Tryz.func94 rfl rfl rfl ?_
  with_reducible repeat' (first | apply And.intro | exact flatI | exact flatS | exact rowLens | (intro; skip) | apply obsN | apply obsC | apply obA | apply obM | apply obB | apply svA | apply tupA | apply lcA | apply lcS | apply svC | apply liC | apply lbC | apply lsC | apply vIc | apply vBc | apply vSc | apply vLc | apply mapC | apply c_sFewY | apply c_sDepY | apply c_sOkY)
  all_goals (try simp only [std] at *)
  all_goals (try (first | with_reducible apply c_sFewY | with_reducible apply c_sDepY | with_reducible apply c_sOkY | (simp only [<- List.map_append]; first | with_reducible apply c_sFewY | with_reducible apply c_sDepY | with_reducible apply c_sOkY)))
  all_goals (try (first | with_reducible rfl | omega | assumption | exact dT ‹_› | exact dF ‹_› | ((first | refine rowGet ?_ | refine getC ?_ rfl); (first | omega | (simp only [std]; omega) | grind)) | (show (_ : St) = _; rfl) | grind [isSyn, snocI, snocS, rowSnoc]))
abbrev P_c_iMeaY (d : Syntax) (deep : Int) (q : Int) : Prop := CallOK Tryz.prog 174 [.box [vI q]] [syntaxA d, li deep, .one (.ptr 0 0)] [.box [vI (meaY d deep q).2]] (.sv (lb (meaY d deep q).1))
def Tc_iMeaY_sLa (d : Syntax) (deep : Int) (q : Int) (x0 : SV) (x1 : AC) : St := St.mk (regsOf 64 [(1, AV.sv (li deep)), (2, AV.sv (SV.one (AC.ptr 0 0))), (51, AV.sv (ll (List.map
 syntaxC (Syntax.items d)))), (52, AV.sv (li (↑(List.length (List.map syntaxC (Syntax.items d))) : Int))), (53, AV.sv x0)]) [Ob.box [x1]] 1 
def Lc_iMeaY_sLa (d : Syntax) (deep : Int) (q : Int) (k : Nat) : St := Tc_iMeaY_sLa d deep q (li (k : Int)) (vI (Prod.snd (scan (fun x m => meaY x (deep + 1) m) (List.take k
 (Syntax.items d)) (q + 1)))) 
abbrev Ic_iMeaY_sLa (d : Syntax) (deep : Int) (q : Int) : Nat -> St -> Prop := Head (Lc_iMeaY_sLa d deep q) (fun k => k <= List.length (Syntax.items d) /\ List.length (Syntax.items d) <=
 9223372036854775807 /\ deep <= 40 /\ Prod.fst (scan (fun x m => meaY x (deep + 1) m) (List.take k (Syntax.items d)) (q + 1)) = true /\ q <= Prod.snd (scan (fun x m => meaY x (deep + 1)
 m) (List.take k (Syntax.items d)) (q + 1)) /\ Prod.snd (scan (fun x m => meaY x (deep + 1) m) (List.take k (Syntax.items d)) (q + 1)) <= 2000) fun k => List.length (Syntax.items d)
 - k 
def W0c_iMeaY_sLa (d : Syntax) (deep : Int) (q : Int) (x0 : AC) : St := St.mk (regsOf 64 []) [Ob.box [x0]] 1 
def W1c_iMeaY_sLa (d : Syntax) (deep : Int) (q : Int) (x0 : SV) (x1 : AC) : St := St.mk (regsOf 64 [(6, AV.sv x0)]) [Ob.box [x1]] 1 
def Yc_iMeaY_sLa (d : Syntax) (deep : Int) (q : Int) : List (Prop × AEx × St) := [(Prod.fst (scan (fun x m => meaY x (deep + 1) m) (Syntax.items d) (q + 1)) = true, AEx.exit 0,
 W0c_iMeaY_sLa d deep q (vI (Prod.snd (scan (fun x m => meaY x (deep + 1) m) (Syntax.items d) (q + 1))))), (Prod.fst (scan (fun x m => meaY x (deep + 1) m) (Syntax.items d) (q +
 1)) = false, AEx.ret, W1c_iMeaY_sLa d deep q (lb false) (vI (Prod.snd (scan (fun x m => meaY x (deep + 1) m) (Syntax.items d) (q + 1)))))]

theorem Ec_iMeaY_sLa {d : Syntax} {deep : Int} {q : Int} {k : Nat} {x0 : SV} {x1 : AC} (h0 : x0 = (li (k : Int))) (h1 : x1 = (vI (Prod.snd (scan (fun x m => meaY x (deep + 1) m)
 (List.take k (Syntax.items d)) (q + 1))))) : Tc_iMeaY_sLa d deep q x0 x1 = Lc_iMeaY_sLa d deep q k := by
  rw [h0, h1]
  rfl
theorem EW0c_iMeaY_sLa {d : Syntax} {deep : Int} {q : Int} {x0 y0 : AC} (h0 : x0 = y0) : W0c_iMeaY_sLa d deep q x0 = W0c_iMeaY_sLa d deep q y0 := by rw [h0]
theorem EW1c_iMeaY_sLa {d : Syntax} {deep : Int} {q : Int} {x0 y0 : SV} {x1 y1 : AC} (h0 : x0 = y0) (h1 : x1 = y1) : W1c_iMeaY_sLa d deep q x0 x1 = W1c_iMeaY_sLa d deep q y0 y1 :=
 by rw [h0, h1]
abbrev a1_c_iMeaY_sLa (d : Syntax) (k : Nat) := (List.getD (Syntax.items d) k default)
theorem run_c_iMeaY_sLa (d : Syntax) (deep : Int) (q : Int) (k : Nat) : aexec Tryz.prog (loopAt Tryz.f174 0) (Lc_iMeaY_sLa d deep q k) [.br [.cells (syntaxF (a1_c_iMeaY_sLa d
 k)), .call [Mode.rd, Mode.rd, Mode.ptr] [Ob.box [vI (Prod.snd (meaY (a1_c_iMeaY_sLa d k) (deep + 1) (Prod.snd (scan (fun x m => meaY x (deep + 1) m) (List.take k (Syntax.items
 d)) (q + 1)))))]] (AV.sv (lb (Prod.fst (meaY (a1_c_iMeaY_sLa d k) (deep + 1) (Prod.snd (scan (fun x m => meaY x (deep + 1) m) (List.take k (Syntax.items d)) (q + 1))))))), .br
 [.ghost (.sel [0] [6]), .out 1] [.ghost (.sel [0] [1, 2, 51, 52, 53]), .goto (List.length (Syntax.items d) - (k + 1)) (Lc_iMeaY_sLa d deep q (k + 1))]]
 [.ghost (.sel [0] []), .out 0]] (loopK (Ic_iMeaY_sLa d deep q) (Yc_iMeaY_sLa d deep q) (List.length (Syntax.items d) - k)) = ((decide ((k : Int) < (↑(List.length
 (List.map syntaxC (Syntax.items d))) : Int)) = true -> (0 <= (k : Int) /\ (List.map syntaxC (Syntax.items d))[Int.toNat (k : Int)]? = some (syntaxF (a1_c_iMeaY_sLa d k))) /\ rng
 IntKind.i64 (deep + 1) /\ P_c_iMeaY (a1_c_iMeaY_sLa d k) (deep + 1) (Prod.snd (scan (fun x m => meaY x (deep + 1) m) (List.take k (Syntax.items d)) (q + 1))) /\ ((!Prod.fst (meaY
 (a1_c_iMeaY_sLa d k) (deep + 1) (Prod.snd (scan (fun x m => meaY x (deep + 1) m) (List.take k (Syntax.items d)) (q + 1))))) = true -> Prod.fst (scan (fun x m => meaY x (deep + 1)
 m) (Syntax.items d) (q + 1)) = false /\ W1c_iMeaY_sLa d deep q (lb false) (vI (Prod.snd (meaY (a1_c_iMeaY_sLa d k) (deep + 1) (Prod.snd (scan (fun x m => meaY x (deep + 1) m)
 (List.take k (Syntax.items d)) (q + 1)))))) = W1c_iMeaY_sLa d deep q (lb false) (vI (Prod.snd (scan (fun x m => meaY x (deep + 1) m) (Syntax.items d) (q + 1))))) /\ ((!Prod.fst
 (meaY (a1_c_iMeaY_sLa d k) (deep + 1) (Prod.snd (scan (fun x m => meaY x (deep + 1) m) (List.take k (Syntax.items d)) (q + 1))))) = false -> rng .i64 ((k : Int) + 1) /\
 List.length (Syntax.items d) - (k + 1) < List.length (Syntax.items d) - k /\ Tc_iMeaY_sLa d deep q (li ((k : Int) + 1)) (vI (Prod.snd (meaY (a1_c_iMeaY_sLa d k) (deep + 1)
 (Prod.snd (scan (fun x m => meaY x (deep + 1) m) (List.take k (Syntax.items d)) (q + 1)))))) = Lc_iMeaY_sLa d deep q (k + 1) /\ Ic_iMeaY_sLa d deep q (List.length (Syntax.items d)
 - (k + 1)) (Lc_iMeaY_sLa d deep q (k + 1)))) /\ (decide ((k : Int) < (↑(List.length (List.map syntaxC (Syntax.items d))) : Int)) = false -> Prod.fst (scan (fun x m => meaY x (deep
 + 1) m) (Syntax.items d) (q + 1)) = true /\ W0c_iMeaY_sLa d deep q (vI (Prod.snd (scan (fun x m => meaY x (deep + 1) m) (List.take k (Syntax.items d)) (q + 1)))) = W0c_iMeaY_sLa d
 deep q (vI (Prod.snd (scan (fun x m => meaY x (deep + 1) m) (Syntax.items d) (q + 1)))))) := by kernel_rfl
theorem Sc_iMeaY_sLa (d : Syntax) (deep : Int) (q : Int) (h : 0 <= deep /\ deep <= 41 /\ 0 <= q /\ q <= 2000) (ih : ∀ (z : Syntax), z ∈ Syntax.items d -> ∀ (deep q : Int), 0 <= deep /\ deep
 <= 41 /\ 0 <= q /\ q <= 2000 -> P_c_iMeaY z deep q)  : LoopSem Tryz.prog (loopAt Tryz.f174 0) (Ic_iMeaY_sLa d deep q) (Yc_iMeaY_sLa d deep q) := by
  refine LoopSem.ofHead wide fun k h => ⟨_, _, run_c_iMeaY_sLa d deep q k, ?_⟩
  try delta a1_c_iMeaY_sLa
  have g1 := fun x m => meaY_of x (deep + 1) m
  with_reducible repeat' (first | apply And.intro | exact flatI | exact flatS | exact rowLens | exact ih | (intro; skip) | apply obsN | apply obsC | apply obA | apply obM | apply obB | apply svA | apply tupA | apply lcA | apply lcS | apply svC | apply liC | apply lbC | apply lsC | apply vIc | apply vBc | apply vSc | apply vLc | apply mapC | apply hdI | apply Ec_iMeaY_sLa | apply EW0c_iMeaY_sLa | apply EW1c_iMeaY_sLa | apply c_iNode | apply c_iScopes | apply ih)
  all_goals (try simp only [std] at *)
  all_goals (try (first | with_reducible apply c_iNode | with_reducible apply c_iScopes | with_reducible apply ih | (simp only [<- List.map_append]; first | with_reducible apply c_iNode | with_reducible apply c_iScopes | with_reducible apply ih)))
  all_goals (try (first | with_reducible rfl | omega | assumption | exact dT ‹_› | exact dF ‹_› | ((first | refine rowGet ?_ | refine getC ?_ rfl); (first | omega | (simp only [std]; omega) | grind)) | (show (_ : St) = _; rfl) | grind [scan_step, scan_stop, getD_mem', snocI, snocS, rowSnoc]))
abbrev a1_c_iMeaY_s (d : Syntax) (deep : Int) (q : Int) := [Ob.box [vI (Prod.snd (meaY d deep q))]]
theorem run_c_iMeaY_s (d : Syntax) (deep : Int) (q : Int) : aexec Tryz.prog (Tryz.f174.body.getD .skip) (entry [Ob.box [vI q]] [syntaxA d, li deep, SV.one (AC.ptr
 0 0)] 64) [.br [.bool true, .bool true, .fin []] [.br [.bool true, .fin []] [.call [Mode.rd, Mode.rd, Mode.rd, Mode.rd] [] (AV.sv (lb (nodD (Syntax.kind d)
 (Syntax.number d) (Syntax.text d) (↑(List.length (List.map syntaxC (Syntax.items d))) : Int)))), .br [.fin []] [.br [.br [.bool true, .fin []] [.call
 [Mode.rd] [] (AV.sv (lb (okSc (Syntax.scopes d)))), .br [.fin []] [.ghost (.sel [0] [1, 2, 51, 52, 53]), .loop (List.length (Syntax.items d) - 0) (Lc_iMeaY_sLa d
 deep q 0) (Ic_iMeaY_sLa d deep q) [(Prod.fst (scan (fun x m => meaY x (deep + 1) m) (Syntax.items d) (q + 1)) = true, AEx.exit 0, W0c_iMeaY_sLa d deep q (vI (Prod.snd (scan (fun x
 m => meaY x (deep + 1) m) (Syntax.items d) (q + 1)))), [.fin []]), (Prod.fst (scan (fun x m => meaY x (deep + 1) m) (Syntax.items d) (q + 1)) = false, AEx.ret, W1c_iMeaY_sLa d
 deep q (lb false) (vI (Prod.snd (scan (fun x m => meaY x (deep + 1) m) (Syntax.items d) (q + 1)))), [.fin []])]]]] [.bool false, .call [Mode.rd] [] (AV.sv (lb (okSc
 (Syntax.scopes d)))), .br [.fin []] [.ghost (.sel [0] [1, 2, 51, 52, 53]), .loop (List.length (Syntax.items d) - 0) (Lc_iMeaY_sLa d deep q 0) (Ic_iMeaY_sLa d deep
 q) [(Prod.fst (scan (fun x m => meaY x (deep + 1) m) (Syntax.items d) (q + 1)) = true, AEx.exit 0, W0c_iMeaY_sLa d deep q (vI (Prod.snd (scan (fun x m => meaY x (deep + 1) m)
 (Syntax.items d) (q + 1)))), [.fin []]), (Prod.fst (scan (fun x m => meaY x (deep + 1) m) (Syntax.items d) (q + 1)) = false, AEx.ret, W1c_iMeaY_sLa d deep q (lb false) (vI
 (Prod.snd (scan (fun x m => meaY x (deep + 1) m) (Syntax.items d) (q + 1)))), [.fin []])]]]]]]] (finK Tryz.prog [ResultVar.tmp 6] (a1_c_iMeaY_s d deep q) (AV.sv (lb (Prod.fst
 (meaY d deep q))))) = (rng .i64 (q + 1) /\ (decide (40 < deep) = true -> true = true /\ true = true /\ ObsEq [Ob.box [vI (q + 1)]] (a1_c_iMeaY_s d deep q) /\ AV.sv (lb false) =
 AV.sv (lb (Prod.fst (meaY d deep q)))) /\ (decide (40 < deep) = false -> (decide (2000 < q + 1) = true -> true = true /\ ObsEq [Ob.box [vI (q + 1)]] (a1_c_iMeaY_s d deep q) /\ AV.sv
 (lb false) = AV.sv (lb (Prod.fst (meaY d deep q)))) /\ (decide (2000 < q + 1) = false -> List.length (List.map syntaxC (Syntax.items d)) <= 9223372036854775807 -> P_c_iNode
 (Syntax.kind d) (Syntax.number d) (Syntax.text d) (↑(List.length (List.map syntaxC (Syntax.items d))) : Int) /\ ((!nodD (Syntax.kind d) (Syntax.number d) (Syntax.text d)
 (↑(List.length (List.map syntaxC (Syntax.items d))) : Int)) = true -> ObsEq [Ob.box [vI (q + 1)]] (a1_c_iMeaY_s d deep q) /\ AV.sv (lb false) = AV.sv (lb (Prod.fst (meaY d deep
 q)))) /\ ((!nodD (Syntax.kind d) (Syntax.number d) (Syntax.text d) (↑(List.length (List.map syntaxC (Syntax.items d))) : Int)) = false -> (decide (Syntax.kind d ≠ 1) = true ->
 List.length (List.map intC (Syntax.scopes d)) <= 9223372036854775807 -> (decide (0 < (↑(List.length (List.map intC (Syntax.scopes d))) : Int)) = true -> true = true /\ ObsEq [Ob.box
 [vI (q + 1)]] (a1_c_iMeaY_s d deep q) /\ AV.sv (lb false) = AV.sv (lb (Prod.fst (meaY d deep q)))) /\ (decide (0 < (↑(List.length (List.map intC (Syntax.scopes d))) : Int)) = false
 -> P_c_iScopes (Syntax.scopes d) /\ ((!okSc (Syntax.scopes d)) = true -> ObsEq [Ob.box [vI (q + 1)]] (a1_c_iMeaY_s d deep q) /\ AV.sv (lb false) = AV.sv (lb (Prod.fst (meaY d deep
 q)))) /\ ((!okSc (Syntax.scopes d)) = false -> List.length (List.map syntaxC (Syntax.items d)) <= 9223372036854775807 -> Tc_iMeaY_sLa d deep q (li 0) (vI (q + 1)) = Lc_iMeaY_sLa d
 deep q 0 /\ Ic_iMeaY_sLa d deep q (List.length (Syntax.items d) - 0) (Lc_iMeaY_sLa d deep q 0) /\ LoopSem Tryz.prog (loopAt Tryz.f174 0) (Ic_iMeaY_sLa d deep q) (Yc_iMeaY_sLa d deep
 q) /\ (Prod.fst (scan (fun x m => meaY x (deep + 1) m) (Syntax.items d) (q + 1)) = true -> ObsEq [Ob.box [vI (Prod.snd (scan (fun x m => meaY x (deep + 1) m) (Syntax.items d) (q +
 1)))]] (a1_c_iMeaY_s d deep q) /\ AV.sv (lb true) = AV.sv (lb (Prod.fst (meaY d deep q)))) /\ (Prod.fst (scan (fun x m => meaY x (deep + 1) m) (Syntax.items d) (q + 1)) = false ->
 ObsEq [Ob.box [vI (Prod.snd (scan (fun x m => meaY x (deep + 1) m) (Syntax.items d) (q + 1)))]] (a1_c_iMeaY_s d deep q) /\ AV.sv (lb false) = AV.sv (lb (Prod.fst (meaY d deep q))))
 /\ True))) /\ (decide (Syntax.kind d ≠ 1) = false -> false = false /\ P_c_iScopes (Syntax.scopes d) /\ ((!okSc (Syntax.scopes d)) = true -> ObsEq [Ob.box [vI (q + 1)]] (a1_c_iMeaY_s d
 deep q) /\ AV.sv (lb false) = AV.sv (lb (Prod.fst (meaY d deep q)))) /\ ((!okSc (Syntax.scopes d)) = false -> List.length (List.map syntaxC (Syntax.items d)) <= 9223372036854775807 ->
 Tc_iMeaY_sLa d deep q (li 0) (vI (q + 1)) = Lc_iMeaY_sLa d deep q 0 /\ Ic_iMeaY_sLa d deep q (List.length (Syntax.items d) - 0) (Lc_iMeaY_sLa d deep q 0) /\ LoopSem Tryz.prog
 (loopAt Tryz.f174 0) (Ic_iMeaY_sLa d deep q) (Yc_iMeaY_sLa d deep q) /\ (Prod.fst (scan (fun x m => meaY x (deep + 1) m) (Syntax.items d) (q + 1)) = true -> ObsEq [Ob.box [vI
 (Prod.snd (scan (fun x m => meaY x (deep + 1) m) (Syntax.items d) (q + 1)))]] (a1_c_iMeaY_s d deep q) /\ AV.sv (lb true) = AV.sv (lb (Prod.fst (meaY d deep q)))) /\ (Prod.fst (scan
 (fun x m => meaY x (deep + 1) m) (Syntax.items d) (q + 1)) = false -> ObsEq [Ob.box [vI (Prod.snd (scan (fun x m => meaY x (deep + 1) m) (Syntax.items d) (q + 1)))]] (a1_c_iMeaY_s
 d deep q) /\ AV.sv (lb false) = AV.sv (lb (Prod.fst (meaY d deep q)))) /\ True)))))) := by kernel_rfl
theorem c_iMeaY_s (d : Syntax) (deep q : Int) (h : 0 <= deep /\ deep <= 41 /\ 0 <= q /\ q <= 2000) (ih : ∀ z ∈ d.items, ∀ (deep : Int) (q : Int) (h : 0 <= deep /\ deep <= 41 /\ 0 <= q /\ q <=
 2000), P_c_iMeaY z deep q)  : P_c_iMeaY d deep q := by
  refine CallOK.ofRun wide (run_c_iMeaY_s d deep q) Tryz.call174 Tryz.func174 rfl rfl rfl ?_
  try delta a1_c_iMeaY_s
  with_reducible repeat' (first | apply And.intro | exact flatI | exact flatS | exact rowLens | exact ih | (intro; skip) | apply obsN | apply obsC | apply obA | apply obM | apply obB | apply svA | apply tupA | apply lcA | apply lcS | apply svC | apply liC | apply lbC | apply lsC | apply vIc | apply vBc | apply vSc | apply vLc | apply mapC | apply hdI | apply Ec_iMeaY_sLa | apply Sc_iMeaY_sLa | apply EW0c_iMeaY_sLa | apply EW1c_iMeaY_sLa | apply c_iNode | apply c_iScopes)
  all_goals (try simp only [std] at *)
  all_goals (try (first | with_reducible apply c_iNode | with_reducible apply c_iScopes | with_reducible apply ih | (simp only [<- List.map_append]; first | with_reducible apply c_iNode | with_reducible apply c_iScopes | with_reducible apply ih)))
  all_goals (try (first | with_reducible rfl | omega | assumption | exact dT ‹_› | exact dF ‹_› | ((first | refine rowGet ?_ | refine getC ?_ rfl); (first | omega | (simp only [std]; omega) | grind)) | (show (_ : St) = _; rfl) | grind [meaY_eq, scan, nodY0, snocI, snocS, rowSnoc]))
theorem c_iMeaY (d : Syntax) : ∀ (deep : Int) (q : Int) (h : 0 <= deep /\ deep <= 41 /\ 0 <= q /\ q <= 2000), P_c_iMeaY d deep q := Syntax.ind (P := fun d => ∀ (deep : Int) (q : Int) (h : 0 <= deep /\ deep <= 41 /\ 0 <= q /\ q <= 2000), P_c_iMeaY d deep q) (fun d ih deep q h => c_iMeaY_s d deep q h ih) d
abbrev P_c_iIsSyntax (d : Syntax) : Prop := CallOK Tryz.prog 98 [] [syntaxA d] [] (.sv (lb (isSyn d)))
theorem run_c_iIsSyntax (d : Syntax) : aexec Tryz.prog (Tryz.f98.body.getD .skip) (entry [] [syntaxA d] 6) [.call [Mode.rd, Mode.rd, Mode.ptr] [Ob.box [vI
 (Prod.snd (meaY d 1 0))]] (AV.sv (lb (Prod.fst (meaY d 1 0)))), .fin []] (finK Tryz.prog [ResultVar.tmp 2] [] (AV.sv (lb (isSyn d)))) = (P_c_iMeaY d 1 0 /\ ObsEq [] [] /\ AV.sv
 (lb (Prod.fst (meaY d 1 0))) = AV.sv (lb (isSyn d))) := by kernel_rfl
theorem c_iIsSyntax (d : Syntax)  : P_c_iIsSyntax d := by
  refine CallOK.ofRun wide (run_c_iIsSyntax d) Tryz.call98 Tryz.func98 rfl rfl rfl ?_
  with_reducible repeat' (first | apply And.intro | exact flatI | exact flatS | exact rowLens | (intro; skip) | apply obsN | apply obsC | apply obA | apply obM | apply obB | apply svA | apply tupA | apply lcA | apply lcS | apply svC | apply liC | apply lbC | apply lsC | apply vIc | apply vBc | apply vSc | apply vLc | apply mapC | apply c_iMeaY)
  all_goals (try simp only [std] at *)
  all_goals (try (first | with_reducible apply c_iMeaY | (simp only [<- List.map_append]; first | with_reducible apply c_iMeaY)))
  all_goals (try (first | with_reducible rfl | omega | assumption | exact dT ‹_› | exact dF ‹_› | ((first | refine rowGet ?_ | refine getC ?_ rfl); (first | omega | (simp only [std]; omega) | grind)) | (show (_ : St) = _; rfl) | grind [meaY_isSyn, snocI, snocS, rowSnoc]))
abbrev P_c_sIsId (s : Syntax) : Prop := CallOK Tryz.prog 191 [] [syntaxA s] [] (.sv (lb (decide (s.kind = 1) && isSyn s)))
theorem run_c_sIsId (s : Syntax) : aexec Tryz.prog (Tryz.f191.body.getD .skip) (entry [] [syntaxA s] 10) [.br [.call [Mode.rd] [] (AV.sv (lb (isSyn s))),
 .fin []] [.fin []]] (finK Tryz.prog [ResultVar.tmp 2] [] (AV.sv (lb (decide (Syntax.kind s = 1) && isSyn s)))) = ((decide (Syntax.kind s = 1) = true -> P_c_sIsSyntax s /\
 ObsEq [] [] /\ AV.sv (lb (isSyn s)) = AV.sv (lb (decide (Syntax.kind s = 1) && isSyn s))) /\ (decide (Syntax.kind s = 1) = false -> ObsEq [] [] /\ AV.sv (lb false) = AV.sv (lb (decide
 (Syntax.kind s = 1) && isSyn s)))) := by kernel_rfl
theorem c_sIsId (s : Syntax)  : P_c_sIsId s := by
  refine CallOK.ofRun wide (run_c_sIsId s) Tryz.call191 Tryz.func191 rfl rfl rfl ?_
  with_reducible repeat' (first | apply And.intro | exact flatI | exact flatS | exact rowLens | (intro; skip) | apply obsN | apply obsC | apply obA | apply obM | apply obB | apply svA | apply tupA | apply lcA | apply lcS | apply svC | apply liC | apply lbC | apply lsC | apply vIc | apply vBc | apply vSc | apply vLc | apply mapC | apply c_sIsSyntax)
  all_goals (try simp only [std] at *)
  all_goals (try (first | with_reducible apply c_sIsSyntax | (simp only [<- List.map_append]; first | with_reducible apply c_sIsSyntax)))
  all_goals (try (first | with_reducible rfl | omega | assumption | exact dT ‹_› | exact dF ‹_› | ((first | refine rowGet ?_ | refine getC ?_ rfl); (first | omega | (simp only [std]; omega) | grind)) | (show (_ : St) = _; rfl) | grind [snocI, snocS, rowSnoc]))
abbrev P_c_iIsId (s : Syntax) : Prop := CallOK Tryz.prog 115 [] [syntaxA s] [] (.sv (lb (decide (s.kind = 1) && isSyn s)))
theorem run_c_iIsId (s : Syntax) : aexec Tryz.prog (Tryz.f115.body.getD .skip) (entry [] [syntaxA s] 10) [.br [.call [Mode.rd] [] (AV.sv (lb (isSyn s))),
 .fin []] [.fin []]] (finK Tryz.prog [ResultVar.tmp 2] [] (AV.sv (lb (decide (Syntax.kind s = 1) && isSyn s)))) = ((decide (Syntax.kind s = 1) = true -> P_c_iIsSyntax s /\
 ObsEq [] [] /\ AV.sv (lb (isSyn s)) = AV.sv (lb (decide (Syntax.kind s = 1) && isSyn s))) /\ (decide (Syntax.kind s = 1) = false -> ObsEq [] [] /\ AV.sv (lb false) = AV.sv (lb (decide
 (Syntax.kind s = 1) && isSyn s)))) := by kernel_rfl
theorem c_iIsId (s : Syntax)  : P_c_iIsId s := by
  refine CallOK.ofRun wide (run_c_iIsId s) Tryz.call115 Tryz.func115 rfl rfl rfl ?_
  with_reducible repeat' (first | apply And.intro | exact flatI | exact flatS | exact rowLens | (intro; skip) | apply obsN | apply obsC | apply obA | apply obM | apply obB | apply svA | apply tupA | apply lcA | apply lcS | apply svC | apply liC | apply lbC | apply lsC | apply vIc | apply vBc | apply vSc | apply vLc | apply mapC | apply c_iIsSyntax)
  all_goals (try simp only [std] at *)
  all_goals (try (first | with_reducible apply c_iIsSyntax | (simp only [<- List.map_append]; first | with_reducible apply c_iIsSyntax)))
  all_goals (try (first | with_reducible rfl | omega | assumption | exact dT ‹_› | exact dF ‹_› | ((first | refine rowGet ?_ | refine getC ?_ rfl); (first | omega | (simp only [std]; omega) | grind)) | (show (_ : St) = _; rfl) | grind [snocI, snocS, rowSnoc]))
end Go.Proofs.YtegbadciefljcaaGreat
end
section
namespace Go.Proofs.YtegbadciefljcaaGreat
open Go Go.Proofs.YtegbadciefljcaaGreat.Ab
set_option linter.unusedVariables false
set_option linter.unusedSimpArgs false
set_option maxHeartbeats 4000000
abbrev P_c_sSameInts (A : List Int) (B : List Int) : Prop := CallOK Tryz.prog 213 [] [ll (A.map intC), ll (B.map intC)] [] (.sv (lb (decide (A = B))))
def Tc_sSameIntsLa (A : List Int) (B : List Int) (x0 : SV) : St := St.mk (regsOf 26 [(0, AV.sv (ll (List.map intC A))), (1, AV.sv (ll (List.map intC B))), (12, AV.sv (li
 (↑(List.length (List.map intC A)) : Int))), (13, AV.sv x0)]) [] 0 
def Lc_sSameIntsLa (A : List Int) (B : List Int) (k : Nat) : St := Tc_sSameIntsLa A B (li (k : Int)) 
abbrev Ic_sSameIntsLa (A : List Int) (B : List Int) : Nat -> St -> Prop := Head (Lc_sSameIntsLa A B) (fun k => k <= List.length A /\ List.length A <= 9223372036854775807 /\ List.length A =
 List.length B /\ List.take k A = List.take k B) fun k => List.length A - k 
def W0c_sSameIntsLa (A : List Int) (B : List Int) : St := St.mk (regsOf 26 []) [] 0 
def W1c_sSameIntsLa (A : List Int) (B : List Int) (x0 : SV) : St := St.mk (regsOf 26 [(4, AV.sv x0)]) [] 0 
def Yc_sSameIntsLa (A : List Int) (B : List Int) : List (Prop × AEx × St) := [(A = B, AEx.exit 0, W0c_sSameIntsLa A B), (A ≠ B, AEx.ret, W1c_sSameIntsLa A B (lb false))]

theorem Ec_sSameIntsLa {A : List Int} {B : List Int} {k : Nat} {x0 : SV} (h0 : x0 = (li (k : Int))) : Tc_sSameIntsLa A B x0 = Lc_sSameIntsLa A B k := by
  rw [h0]
  rfl
theorem EW1c_sSameIntsLa {A : List Int} {B : List Int} {x0 y0 : SV} (h0 : x0 = y0) : W1c_sSameIntsLa A B x0 = W1c_sSameIntsLa A B y0 := by rw [h0]
theorem run_c_sSameIntsLa (A : List Int) (B : List Int) (k : Nat) : aexec Tryz.prog (loopAt Tryz.f213 0) (Lc_sSameIntsLa A B k) [.br [.draw [], .cells (intC (List.getD A k
 default)), .cells (intC (List.getD B k default)), .br [.ghost (.sel [] [4]), .out 1] [.ghost (.sel [] [0, 1, 12, 13]), .goto (List.length A - (k + 1))
 (Lc_sSameIntsLa A B (k + 1))]] [.ghost (.sel [] []), .out 0]] (loopK (Ic_sSameIntsLa A B) (Yc_sSameIntsLa A B) (List.length A - k)) = ((decide ((k : Int) <
 (↑(List.length (List.map intC A)) : Int)) = true -> (0 <= (k : Int) /\ (List.map intC A)[Int.toNat (k : Int)]? = some [cI (List.getD A k 0)]) /\ (0 <= (k : Int) /\ (List.map intC
 B)[Int.toNat (k : Int)]? = some [cI (List.getD B k 0)]) /\ (decide (List.getD A k (0 : Int) ≠ List.getD B k 0) = true -> A ≠ B /\ W1c_sSameIntsLa A B (lb false) = W1c_sSameIntsLa A
 B (lb false)) /\ (decide (List.getD A k (0 : Int) ≠ List.getD B k 0) = false -> rng .i64 ((k : Int) + 1) /\ List.length A - (k + 1) < List.length A - k /\ Tc_sSameIntsLa A B
 (li ((k : Int) + 1)) = Lc_sSameIntsLa A B (k + 1) /\ Ic_sSameIntsLa A B (List.length A - (k + 1)) (Lc_sSameIntsLa A B (k + 1)))) /\ (decide ((k : Int) < (↑(List.length (List.map
 intC A)) : Int)) = false -> A = B /\ W0c_sSameIntsLa A B = W0c_sSameIntsLa A B)) := by kernel_rfl
theorem Sc_sSameIntsLa (A : List Int) (B : List Int)  : LoopSem Tryz.prog (loopAt Tryz.f213 0) (Ic_sSameIntsLa A B) (Yc_sSameIntsLa A B) := by
  refine LoopSem.ofHead wide fun k h => ⟨_, _, run_c_sSameIntsLa A B k, ?_⟩
  with_reducible repeat' (first | apply And.intro | exact flatI | exact flatS | exact rowLens | (intro; skip) | apply obsN | apply obsC | apply obA | apply obM | apply obB | apply svA | apply tupA | apply lcA | apply lcS | apply svC | apply liC | apply lbC | apply lsC | apply vIc | apply vBc | apply vSc | apply vLc | apply mapC | apply hdI | apply Ec_sSameIntsLa | apply EW1c_sSameIntsLa)
  all_goals (try simp only [std] at *)
  all_goals (try (first | with_reducible rfl | omega | assumption | exact dT ‹_› | exact dF ‹_› | ((first | refine rowGet ?_ | refine getC ?_ rfl); (first | omega | (simp only [std]; omega) | grind)) | (show (_ : St) = _; rfl) | grind [take_eq, snocI, snocS, rowSnoc]))
theorem run_c_sSameInts (A : List Int) (B : List Int) : aexec Tryz.prog (Tryz.f213.body.getD .skip) (entry [] [ll (List.map intC A), ll (List.map intC B)] 26)
 [.br [.fin []] [.ghost (.sel [] [0, 1, 12, 13]), .loop (List.length A - 0) (Lc_sSameIntsLa A B 0) (Ic_sSameIntsLa A B) [(A = B, AEx.exit 0, W0c_sSameIntsLa A B,
 [.fin []]), (A ≠ B, AEx.ret, W1c_sSameIntsLa A B (lb false), [.fin []])]]] (finK Tryz.prog [ResultVar.tmp 4] [] (AV.sv (lb (decide (A = B))))) = (List.length (List.map intC
 A) <= 9223372036854775807 -> List.length (List.map intC B) <= 9223372036854775807 -> (decide ((↑(List.length (List.map intC A)) : Int) ≠ (↑(List.length (List.map intC B)) : Int)) =
 true -> ObsEq [] [] /\ AV.sv (lb false) = AV.sv (lb (decide (A = B)))) /\ (decide ((↑(List.length (List.map intC A)) : Int) ≠ (↑(List.length (List.map intC B)) : Int)) = false ->
 List.length (List.map intC A) <= 9223372036854775807 -> Tc_sSameIntsLa A B (li 0) = Lc_sSameIntsLa A B 0 /\ Ic_sSameIntsLa A B (List.length A - 0) (Lc_sSameIntsLa A B 0) /\ LoopSem
 Tryz.prog (loopAt Tryz.f213 0) (Ic_sSameIntsLa A B) (Yc_sSameIntsLa A B) /\ (A = B -> ObsEq [] [] /\ AV.sv (lb true) = AV.sv (lb (decide (A = B)))) /\ ((A = B -> False) -> ObsEq [] [] /\
 AV.sv (lb false) = AV.sv (lb (decide (A = B)))) /\ True)) := by kernel_rfl
theorem c_sSameInts (A B : List Int)  : P_c_sSameInts A B := by
  refine CallOK.ofRun wide (run_c_sSameInts A B) Tryz.call213 Tryz.func213 rfl rfl rfl ?_
  with_reducible repeat' (first | apply And.intro | exact flatI | exact flatS | exact rowLens | (intro; skip) | apply obsN | apply obsC | apply obA | apply obM | apply obB | apply svA | apply tupA | apply lcA | apply lcS | apply svC | apply liC | apply lbC | apply lsC | apply vIc | apply vBc | apply vSc | apply vLc | apply mapC | apply hdI | apply Ec_sSameIntsLa | apply Sc_sSameIntsLa | apply EW1c_sSameIntsLa)
  all_goals (try simp only [std] at *)
  all_goals (try (first | with_reducible rfl | omega | assumption | exact dT ‹_› | exact dF ‹_› | ((first | refine rowGet ?_ | refine getC ?_ rfl); (first | omega | (simp only [std]; omega) | grind)) | (show (_ : St) = _; rfl) | grind [snocI, snocS, rowSnoc]))
abbrev P_c_iSameInts (A : List Int) (B : List Int) : Prop := CallOK Tryz.prog 160 [] [ll (A.map intC), ll (B.map intC)] [] (.sv (lb (decide (A = B))))
def Tc_iSameIntsLa (A : List Int) (B : List Int) (x0 : SV) : St := St.mk (regsOf 26 [(0, AV.sv (ll (List.map intC A))), (1, AV.sv (ll (List.map intC B))), (12, AV.sv (li
 (↑(List.length (List.map intC A)) : Int))), (13, AV.sv x0)]) [] 0 
def Lc_iSameIntsLa (A : List Int) (B : List Int) (k : Nat) : St := Tc_iSameIntsLa A B (li (k : Int)) 
abbrev Ic_iSameIntsLa (A : List Int) (B : List Int) : Nat -> St -> Prop := Head (Lc_iSameIntsLa A B) (fun k => k <= List.length A /\ List.length A <= 9223372036854775807 /\ List.length A =
 List.length B /\ List.take k A = List.take k B) fun k => List.length A - k 
def W0c_iSameIntsLa (A : List Int) (B : List Int) : St := St.mk (regsOf 26 []) [] 0 
def W1c_iSameIntsLa (A : List Int) (B : List Int) (x0 : SV) : St := St.mk (regsOf 26 [(4, AV.sv x0)]) [] 0 
def Yc_iSameIntsLa (A : List Int) (B : List Int) : List (Prop × AEx × St) := [(A = B, AEx.exit 0, W0c_iSameIntsLa A B), (A ≠ B, AEx.ret, W1c_iSameIntsLa A B (lb false))]

theorem Ec_iSameIntsLa {A : List Int} {B : List Int} {k : Nat} {x0 : SV} (h0 : x0 = (li (k : Int))) : Tc_iSameIntsLa A B x0 = Lc_iSameIntsLa A B k := by
  rw [h0]
  rfl
theorem EW1c_iSameIntsLa {A : List Int} {B : List Int} {x0 y0 : SV} (h0 : x0 = y0) : W1c_iSameIntsLa A B x0 = W1c_iSameIntsLa A B y0 := by rw [h0]
theorem run_c_iSameIntsLa (A : List Int) (B : List Int) (k : Nat) : aexec Tryz.prog (loopAt Tryz.f160 0) (Lc_iSameIntsLa A B k) [.br [.draw [], .cells (intC (List.getD A k
 default)), .cells (intC (List.getD B k default)), .br [.ghost (.sel [] [4]), .out 1] [.ghost (.sel [] [0, 1, 12, 13]), .goto (List.length A - (k + 1))
 (Lc_iSameIntsLa A B (k + 1))]] [.ghost (.sel [] []), .out 0]] (loopK (Ic_iSameIntsLa A B) (Yc_iSameIntsLa A B) (List.length A - k)) = ((decide ((k : Int) <
 (↑(List.length (List.map intC A)) : Int)) = true -> (0 <= (k : Int) /\ (List.map intC A)[Int.toNat (k : Int)]? = some [cI (List.getD A k 0)]) /\ (0 <= (k : Int) /\ (List.map intC
 B)[Int.toNat (k : Int)]? = some [cI (List.getD B k 0)]) /\ (decide (List.getD A k (0 : Int) ≠ List.getD B k 0) = true -> A ≠ B /\ W1c_iSameIntsLa A B (lb false) = W1c_iSameIntsLa A
 B (lb false)) /\ (decide (List.getD A k (0 : Int) ≠ List.getD B k 0) = false -> rng .i64 ((k : Int) + 1) /\ List.length A - (k + 1) < List.length A - k /\ Tc_iSameIntsLa A B
 (li ((k : Int) + 1)) = Lc_iSameIntsLa A B (k + 1) /\ Ic_iSameIntsLa A B (List.length A - (k + 1)) (Lc_iSameIntsLa A B (k + 1)))) /\ (decide ((k : Int) < (↑(List.length (List.map
 intC A)) : Int)) = false -> A = B /\ W0c_iSameIntsLa A B = W0c_iSameIntsLa A B)) := by kernel_rfl
theorem Sc_iSameIntsLa (A : List Int) (B : List Int)  : LoopSem Tryz.prog (loopAt Tryz.f160 0) (Ic_iSameIntsLa A B) (Yc_iSameIntsLa A B) := by
  refine LoopSem.ofHead wide fun k h => ⟨_, _, run_c_iSameIntsLa A B k, ?_⟩
  with_reducible repeat' (first | apply And.intro | exact flatI | exact flatS | exact rowLens | (intro; skip) | apply obsN | apply obsC | apply obA | apply obM | apply obB | apply svA | apply tupA | apply lcA | apply lcS | apply svC | apply liC | apply lbC | apply lsC | apply vIc | apply vBc | apply vSc | apply vLc | apply mapC | apply hdI | apply Ec_iSameIntsLa | apply EW1c_iSameIntsLa)
  all_goals (try simp only [std] at *)
  all_goals (try (first | with_reducible rfl | omega | assumption | exact dT ‹_› | exact dF ‹_› | ((first | refine rowGet ?_ | refine getC ?_ rfl); (first | omega | (simp only [std]; omega) | grind)) | (show (_ : St) = _; rfl) | grind [take_eq, snocI, snocS, rowSnoc]))
theorem run_c_iSameInts (A : List Int) (B : List Int) : aexec Tryz.prog (Tryz.f160.body.getD .skip) (entry [] [ll (List.map intC A), ll (List.map intC B)] 26)
 [.br [.fin []] [.ghost (.sel [] [0, 1, 12, 13]), .loop (List.length A - 0) (Lc_iSameIntsLa A B 0) (Ic_iSameIntsLa A B) [(A = B, AEx.exit 0, W0c_iSameIntsLa A B,
 [.fin []]), (A ≠ B, AEx.ret, W1c_iSameIntsLa A B (lb false), [.fin []])]]] (finK Tryz.prog [ResultVar.tmp 4] [] (AV.sv (lb (decide (A = B))))) = (List.length (List.map intC
 A) <= 9223372036854775807 -> List.length (List.map intC B) <= 9223372036854775807 -> (decide ((↑(List.length (List.map intC A)) : Int) ≠ (↑(List.length (List.map intC B)) : Int)) =
 true -> ObsEq [] [] /\ AV.sv (lb false) = AV.sv (lb (decide (A = B)))) /\ (decide ((↑(List.length (List.map intC A)) : Int) ≠ (↑(List.length (List.map intC B)) : Int)) = false ->
 List.length (List.map intC A) <= 9223372036854775807 -> Tc_iSameIntsLa A B (li 0) = Lc_iSameIntsLa A B 0 /\ Ic_iSameIntsLa A B (List.length A - 0) (Lc_iSameIntsLa A B 0) /\ LoopSem
 Tryz.prog (loopAt Tryz.f160 0) (Ic_iSameIntsLa A B) (Yc_iSameIntsLa A B) /\ (A = B -> ObsEq [] [] /\ AV.sv (lb true) = AV.sv (lb (decide (A = B)))) /\ ((A = B -> False) -> ObsEq [] [] /\
 AV.sv (lb false) = AV.sv (lb (decide (A = B)))) /\ True)) := by kernel_rfl
theorem c_iSameInts (A B : List Int)  : P_c_iSameInts A B := by
  refine CallOK.ofRun wide (run_c_iSameInts A B) Tryz.call160 Tryz.func160 rfl rfl rfl ?_
  with_reducible repeat' (first | apply And.intro | exact flatI | exact flatS | exact rowLens | (intro; skip) | apply obsN | apply obsC | apply obA | apply obM | apply obB | apply svA | apply tupA | apply lcA | apply lcS | apply svC | apply liC | apply lbC | apply lsC | apply vIc | apply vBc | apply vSc | apply vLc | apply mapC | apply hdI | apply Ec_iSameIntsLa | apply Sc_iSameIntsLa | apply EW1c_iSameIntsLa)
  all_goals (try simp only [std] at *)
  all_goals (try (first | with_reducible rfl | omega | assumption | exact dT ‹_› | exact dF ‹_› | ((first | refine rowGet ?_ | refine getC ?_ rfl); (first | omega | (simp only [std]; omega) | grind)) | (show (_ : St) = _; rfl) | grind [snocI, snocS, rowSnoc]))
end Go.Proofs.YtegbadciefljcaaGreat
end
